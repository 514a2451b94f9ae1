/-
  Layer 5: the laws ScanAgain and ScanBetween, by the abstract layer. Conditions: each theorem's own.
-/
import Derived.Test.YtpnbdnmmfaomlaaScanPure
namespace Go.Proofs.Ytpnbdnmmfaomlaa.Al
open Go Go.RowKit
set_option linter.unusedSimpArgs false
set_option linter.unusedVariables false
attribute [-simp] List.getD_eq_getElem?_getD Int.not_lt Int.not_le List.drop_one List.map_take

theorem joined_snoc (l : List Tok) (t : Tok) : joined (l ++ [t]) = joined l ++ (tokText t ++ [32]) := by simp [joined]
theorem chain_drop {s0 : Str} : ∀ {l : List Tok} {k : Nat}, chain s0 k l → ∀ i (hi : i < l.length), ∃ k', chain s0 k' (l.drop i) ∧ (i = 0 → k' = k)
  | t :: l, k, c, 0, _ => ⟨k, c, fun _ => rfl⟩
  | t :: l, k, ⟨_, _, _, _, c⟩, i + 1, hi => by
    simp at hi
    obtain ⟨k', c', _⟩ := chain_drop c i (by simpa using hi)
    exact ⟨k', c', fun h => by omega⟩
theorem scanR_none {s : Str} (h : (scanR s).2.2 ≠ 0) : (scanR s).1 = [] := by
  unfold scanR at h ⊢
  split
  · rfl
  · rename_i hb
    rw [if_neg hb] at h
    split
    · rfl
    · rename_i hn; rw [hn] at h; exact absurd rfl h
theorem scanL_at : ∀ (n : Nat) (s : Str) (k p : Nat), (scanL n s k).2 = some p → p ≤ k + s.length
  | 0, s, k, p, h => by simp [scanL] at h
  | n + 1, s, k, p, h => by
    by_cases hne : s = []
    · subst hne; simp [scanL_nil] at h
    rw [scanL_step k hne] at h
    split at h
    · simp at h; omega
    · have := scanL_at n _ _ p h
      have hle := sfirst_le hne
      simp at this; omega
theorem scanR_at (s : Str) : (scanR s).2.1 ≤ s.length := by
  unfold scanR
  split
  · simp
  · split
    · rename_i p h; have := scanL_at _ _ _ _ h; simp; omega
    · simp
theorem scanR_small {s : Str} (hs : s.length ≤ 4000) : scanR s = match (scanL s.length s 0).2 with
    | some p => ([], p, 2)
    | none => ((scanL s.length s 0).1, 0, 0) := by
  unfold scanR; rw [if_neg (by omega)]
  cases (scanL s.length s 0).2 <;> rfl
theorem scanR_joined {s : Str} (hs : s.length ≤ 1000) : ∃ m, scanR (joined (scanR s).1) = (m, 0, 0) ∧ m.map (fun t => (t.kind, t.text)) = (scanR s).1.map (fun t => (t.kind, t.text)) ∧ (joined (scanR s).1).length ≤ 2000 := by
  have c := scanR_chain s
  have hl := joined_len (by omega) c
  obtain ⟨h1, h2⟩ := scan_joined (scanR s).1 _ 0 (chain_good c) (Nat.le_refl _)
  refine ⟨_, ?_, h2, by omega⟩
  rw [scanR_small (by omega), h1]
theorem chain_at {s0 : Str} : ∀ {l : List Tok} {k : Nat}, chain s0 k l → ∀ t ∈ l, t.at' ≤ s0.length
  | [], k, _, t, ht => by simp at ht
  | u :: l, k, ⟨g, _, a, _, c⟩, t, ht => by
    rcases List.mem_cons.1 ht with rfl | ht
    · omega
    · exact chain_at c t ht
def shT (d : Nat) (t : Tok) : Tok := ⟨t.kind, t.text, t.at' + d⟩
theorem scanR_between {a b r : Str} (ha : a.length ≤ 1000) (hb : b.length ≤ 1000) (hr : r.length ≤ 1000) (hn : ∀ c ∈ r, notLf c = true) :
    scanR (a ++ (10 :: 35 :: (r ++ [10])) ++ b) = if (scanR a).2.2 ≠ 0 then ([], (scanR a).2.1, (scanR a).2.2) else if (scanR b).2.2 ≠ 0 then ([], a.length + (r.length + 3) + (scanR b).2.1, (scanR b).2.2) else
      ((scanR a).1 ++ (scanR b).1.map (shT (a.length + (r.length + 3))), 0, 0) := by
  rw [scanR_small (s := a) (by omega), scanR_small (s := b) (by omega), scanR_small (by simp; omega)]
  have e : a ++ (10 :: 35 :: (r ++ [10])) ++ b = a ++ 10 :: (35 :: (r ++ 10 :: b)) := by simp
  rw [e]
  obtain ⟨i1, i2⟩ := scanL_lf a.length a (35 :: (r ++ 10 :: b)) 0 (Nat.le_refl _)
  have el : (a ++ 10 :: (35 :: (r ++ 10 :: b))).length = a.length + ((35 :: (r ++ 10 :: b)).length + 1) := by simp
  rw [el]
  rw [scanL_gap r b (0 + a.length) hn, Nat.zero_add, show scanL b.length b (a.length + (r.length + 3)) = scanL b.length b (0 + (a.length + (r.length + 3))) by rw [Nat.zero_add], scanL_shift] at i2
  cases hA : (scanL a.length a 0).2 with
  | some p => rw [i1 p hA]; simp
  | none =>
    rw [i2 hA]
    cases hB : (scanL b.length b 0).2 with
    | some p => simp; omega
    | none => simp; exact fun _ _ => rfl

section
variable {X : Cx} {h : AH} {Q : V → AH → Prop}
theorem text5_spec (H : Has (Ecx X) K.probatelaw05_text A.probatelaw05_text) (t : Tok) (hl : t.text.length ≤ 2 ^ 40) (hQ : Q (.str (tokText t)) h) : Ecx X K.probatelaw05_text [tokV t] h Q := by
  refine fn_walk H (by simp [A.probatelaw05_text]) fun wf => ?_
  unfold tokText at hQ
  by_cases h2 : t.kind = 2
  · rw [if_pos h2] at hQ
    simp [A.probatelaw05_text, tokV, tokC, V.cells, V.good, h2]
    refine ⟨by omega, by omega, fin_wk ((Gr.refl h).new _) (.same _) (by simp) hQ⟩
  · have h2' : ¬ (t.kind : Int) = 2 := by omega
    rw [if_neg h2] at hQ
    simp [A.probatelaw05_text, tokV, tokC, V.cells, V.good, h2']
    exact fin_wk ((Gr.refl h).new _) (.same _) (by simp) hQ
theorem again_spec (L : L05 X) (s : Str) (hQ : Q (.bool true) h) : Ecx X K.probatelaw05_ScanAgain [.str s] h Q := by
  refine fn_walk L.again (by simp [A.probatelaw05_ScanAgain]) fun wf => ?_
  simp [A.probatelaw05_ScanAgain]
  refine ecall (awake5_spec L ?_)
  simp
  by_cases c1 : (1000 : Int) < s.length
  · simp [c1]; exact fin (by simp) hQ
  simp [c1]
  refine ecall (scan_spec L.s _ (by omega) ?_)
  simp [scanV]
  have hlen := scanR_len s
  have hch := scanR_chain s
  have hnone := scanR_none (s := s)
  obtain ⟨M, hM, hMl, hMj⟩ := scanR_joined (s := s) (by omega)
  generalize scanR s = R at *
  by_cases he : R.2.2 = 0
  case neg =>
    have := hnone he
    simp [he, this]
    exact fin (by simp) hQ
  simp [he]
  refine loopI (n := R.1.length) (fun m env h' => ∃ k last, k ≤ R.1.length ∧ m = R.1.length - k ∧ env = [(0, .str s), (3, .sl 3 0 (R.1.map tokV)), (6, .str (joined (R.1.take k))), (7, .int .i64 (last : Nat)), (31, .sl 3 0 (R.1.map tokV)), (32, .int .i64 R.1.length), (33, .int .i64 k)] ∧ Gr h h' ∧
    chain s last (R.1.drop k) ∧ (joined (R.1.take k)).length ≤ 2 * 2000 ∧ last ≤ s.length) ?_ ⟨0, 0, by omega, by omega, rfl, Gr.refl h, hch, by simp [joined], by omega⟩
  rintro m env h' ⟨k, last, hk, rfl, rfl, g, hc, hj, hls⟩
  unfold A.probatelaw05_ScanAgain.L0
  by_cases hlt : k < R.1.length
  · have hlt' : (k : Int) < R.1.length := by omega
    have hga := toks_getD hlt
    rw [List.drop_eq_getElem_cons hlt] at hc
    have hj2 : joined (R.1.take (k + 1)) = joined (R.1.take k) ++ (tokText R.1[k] ++ [32]) := by
      rw [List.take_succ_eq_append_getElem hlt, joined_snoc]
    have hpre : (joined (R.1.take (k + 1))).length ≤ (joined R.1).length := by
      have : joined R.1 = joined (R.1.take (k + 1)) ++ joined (R.1.drop (k + 1)) := by simp only [joined, ← List.flatMap_append, List.take_append_drop]
      rw [this]; simp
    generalize R.1[k] = t at *
    obtain ⟨gt, q1, q2, q3, q4⟩ := hc
    have hp := tokText_pos gt
    have htl : t.text.length ≤ (tokText t).length := by unfold tokText; split <;> simp
    have hne : ¬ tokText t = [] := by intro e; rw [e] at hp; simp at hp
    have hw1 : IntKind.i64.wrap ((s.length : Int) - (tokText t).length) = (s.length : Int) - (tokText t).length := wrap_i64 (by omega) (by omega)
    have hw2 : IntKind.i64.wrap ((t.at' : Int) + (tokText t).length) = ((t.at' + (tokText t).length : Nat) : Int) := by rw [wrap_i64 (by omega) (by omega)]; rfl
    have b1 : ¬ (t.at' : Int) < last := by omega
    have b2 : ¬ (s.length : Int) - (tokText t).length < t.at' := by omega
    have b3 : (t.at' : Int) ≤ ((t.at' + (tokText t).length : Nat) : Int) := by omega
    have b4 : ((t.at' + (tokText t).length : Nat) : Int) ≤ s.length := by omega
    have hsl : (s.take (t.at' + (tokText t).length)).drop t.at' = tokText t := by
      rw [List.drop_take, show t.at' + (tokText t).length - t.at' = (tokText t).length by omega]; exact q3
    have hb5 : (tokText t).length + 1 ≤ 2 ^ 60 := by omega
    rw [hj2] at hpre
    simp at hpre
    have hb6 : (joined (R.1.take k)).length + ((tokText t).length + 1) ≤ 2 ^ 60 := by omega
    simp [hlt', hga, V.cells, V.good, setAt, tokC]
    refine ecall (text5_spec L.text t (by omega) ?_)
    simp [hne, b1, b2, b3, b4, hw1, hw2, hsl, hb5, hb6, -Int.natCast_add]
    refine ⟨R.1.length - (k + 1), by omega, iv ⟨k + 1, t.at' + (tokText t).length, by omega, rfl, ?_, g.new _, q4, ?_, by omega⟩⟩
    · rw [wrap_i64 (by omega) (by omega), hj2]; rfl
    · rw [hj2]; simp; omega
  · have hlt' : ¬ (k : Int) < R.1.length := by omega
    have hk : k = R.1.length := by omega
    subst hk
    simp [hlt']
    have hv := hM
    refine ecall (scan_spec L.s _ (by omega) ?_)
    have hml : M.length = R.1.length := by have := congrArg List.length hMl; simpa using this
    have hml' : (M.length : Int) = R.1.length := by omega
    have b1 : ¬ (4000 : Int) < (joined R.1).length := by omega
    simp [scanV, hM, b1, hml']
    refine loopI (n := R.1.length) (fun m env h'' => ∃ k, k ≤ R.1.length ∧ m = R.1.length - k ∧ env = [(3, .sl 3 0 (R.1.map tokV)), (11, .sl 3 0 (M.map tokV)), (104, .int .i64 R.1.length), (105, .int .i64 k)] ∧ Gr h h'') ?_ ⟨0, by omega, by omega, rfl, g⟩
    rintro m env h'' ⟨k, hk, rfl, rfl, g2⟩
    unfold A.probatelaw05_ScanAgain.L1
    by_cases hlt : k < R.1.length
    · have hlt' : (k : Int) < R.1.length := by omega
      have hltm : k < M.length := by omega
      have hltm' : (k : Int) < M.length := by omega
      have hga := toks_getD hlt
      have hgb := toks_getD hltm
      have hk2 : (M[k].kind, M[k].text) = (R.1[k].kind, R.1[k].text) := by
        have h1 : (M.map (fun t => (t.kind, t.text)))[k]'(by simpa using hltm) = (R.1.map (fun t => (t.kind, t.text)))[k]'(by simpa using hlt) := by simp only [hMl]
        simpa using h1
      simp at hk2
      simp [hlt', hltm', hga, hgb, V.cells, tokC, hk2, hml']
      exact ⟨R.1.length - (k + 1), by omega, iv ⟨k + 1, by omega, rfl, by rw [wrap_i64 (by omega) (by omega)]; rfl, g2⟩⟩
    · have hlt' : ¬ (k : Int) < R.1.length := by omega
      simp [hlt']
      exact fin_wk g2 (.same _) (by simp) hQ
def gapOf (r : Str) : Str := 10 :: 35 :: (r.filter notLf)
theorem between_spec (L : L05 X) (a b r : Str) (hQ : Q (.bool true) h) : Ecx X K.probatelaw05_ScanBetween [.str a, .str b, .str r] h Q := by
  refine fn_walk L.between (by simp [A.probatelaw05_ScanBetween]) fun wf => ?_
  simp [A.probatelaw05_ScanBetween]
  refine ecall (awake5_spec L ?_)
  simp
  by_cases c1 : (1000 : Int) < a.length
  · simp [c1]; exact fin (by simp) hQ
  by_cases c2 : (1000 : Int) < b.length
  · simp [c1, c2]; exact fin (by simp) hQ
  by_cases c3 : (1000 : Int) < r.length
  · simp [c1, c2, c3]; exact fin (by simp) hQ
  simp [c1, c2, c3]
  refine loopI (n := r.length) (fun m env h' => ∃ k, k ≤ r.length ∧ m = r.length - k ∧ h' = h ∧ env = [(0, .str a), (1, .str b), (2, .str r), (7, .str (gapOf (r.take k))), (37, .int .i64 r.length), (38, .int .i64 k)]) ?_ ⟨0, by omega, by omega, rfl, rfl⟩
  rintro m env h' ⟨k, hk, rfl, rfl, rfl⟩
  unfold A.probatelaw05_ScanBetween.L0
  have hfl : ∀ k, (gapOf (r.take k)).length ≤ 1002 := fun k => by
    have := List.length_filter_le notLf (r.take k)
    simp [gapOf] at this ⊢; omega
  by_cases hlt : k < r.length
  · have hlt' : (k : Int) < r.length := by omega
    have hc1 : ((r.getD k 0).toNat : Int) = bt (r.getD k 0) := rfl
    have hge : r.getD k 0 = r[k] := by simp [List.getD, List.getElem?_eq_getElem hlt]
    have hc2 : ((r[k].toNat : Nat) : Int) = bt r[k] := rfl
    have hts : r.take (k + 1) = r.take k ++ [r[k]] := List.take_succ_eq_append_getElem hlt
    have hw : IntKind.i64.wrap ((k : Int) + 1) = ((k + 1 : Nat) : Int) := by rw [wrap_i64 (by omega) (by omega)]; rfl
    by_cases hc : bt r[k] = 10
    · have : notLf r[k] = false := by simp [notLf, hc]
      simp [hlt', hc2, hge, hc, hw, -Int.natCast_add]
      have hgp : gapOf (r.take (k + 1)) = gapOf (r.take k) := by simp only [gapOf, hts, List.filter_append, List.filter_cons, this]; simp
      refine ⟨r.length - (k + 1), by omega, iv ⟨k + 1, by omega, rfl, rfl, ?_⟩⟩
      rw [hgp]
    · have : notLf r[k] = true := by simp [notLf, hc]
      have b1 : (k : Int) ≤ ((k + 1 : Nat) : Int) := by omega
      have b2 : ((k + 1 : Nat) : Int) ≤ r.length := by omega
      have hs1 : (r.take (k + 1)).drop k = [r[k]] := by rw [hts, List.drop_append_of_le_length (by simp; omega), List.drop_eq_nil_of_le (by simp; omega)]; rfl
      have hf := hfl k
      have b3 : (gapOf (r.take k)).length + 1 ≤ 2 ^ 60 := by omega
      simp [hlt', hc2, hge, hc, hw, b1, b2, hs1, -Int.natCast_add]
      have hgp : gapOf (r.take (k + 1)) = gapOf (r.take k) ++ [r[k]] := by simp only [gapOf, hts, List.filter_append, List.filter_cons, this]; simp
      refine ⟨by omega, r.length - (k + 1), by omega, iv ⟨k + 1, by omega, rfl, rfl, ?_⟩⟩
      rw [hgp]
  have hlt' : ¬ (k : Int) < r.length := by omega
  have hk : k = r.length := by omega
  subst hk
  have hf := hfl r.length
  have hfl2 := List.length_filter_le notLf r
  have hb := scanR_between (a := a) (b := b) (r := r.filter notLf) (by omega) (by omega) (by simp [gapOf] at hf; omega) (fun c hc => by simpa using (List.mem_filter.1 hc).2)
  simp [hlt']
  simp only [List.take_length] at *
  have hgap : gapOf r ++ [10] = 10 :: 35 :: (r.filter notLf ++ [10]) := rfl
  have hgl : (gapOf r ++ [10]).length = (r.filter notLf).length + 3 := by simp [gapOf]
  rw [← hgap, ← hgl] at hb
  refine ⟨by omega, ?_⟩
  generalize gapOf r ++ [10] = G at *
  refine ecall (scan_spec L.s _ (by omega) ?_)
  simp [scanV]
  refine ecall (scan_spec L.s _ (by omega) ?_)
  simp [scanV]
  refine ⟨by omega, by omega, ecall (scan_spec L.s _ (by simp; omega) ?_)⟩
  unfold scanV
  rw [← List.append_assoc, hb]
  have la := scanR_len a
  have lb := scanR_len b
  have na := scanR_none (s := a)
  have pa := scanR_at a
  have pb := scanR_at b
  have cb := chain_at (scanR_chain b)
  generalize scanR a = RA at *
  generalize scanR b = RB at *
  by_cases e1 : RA.2.2 = 0
  case neg =>
    simp [e1]
    exact fin (by simp) hQ
  by_cases e2 : RB.2.2 = 0
  case neg =>
    simp [e1, e2]
    have hw : IntKind.i64.wrap (IntKind.i64.wrap ((a.length : Int) + G.length) + RB.2.1) = (a.length : Int) + G.length + RB.2.1 := by
      rw [wrap_i64 (x := (a.length : Int) + G.length) (by omega) (by omega), wrap_i64 (by omega) (by omega)]
    rw [hw]
    simp
    exact fin (by simp) hQ
  have hw : IntKind.i64.wrap ((RA.1.length : Int) + RB.1.length) = (RA.1.length : Int) + RB.1.length := wrap_i64 (by omega) (by omega)
  simp [e1, e2, hw]
  have hN : RA.1.map tokV ++ RB.1.map (tokV ∘ shT (a.length + G.length)) = (RA.1 ++ RB.1.map (shT (a.length + G.length))).map tokV := by simp
  rw [hN]
  have hNl : (RA.1 ++ RB.1.map (shT (a.length + G.length))).length = RA.1.length + RB.1.length := by simp
  have hw3 : IntKind.i64.wrap ((a.length : Int) + G.length) = (a.length : Int) + G.length := wrap_i64 (by omega) (by omega)
  have hGl : G.length ≤ 1003 := by omega
  refine loopI (n := RA.1.length + RB.1.length) (fun m env h3 => ∃ k, k ≤ RA.1.length + RB.1.length ∧ m = RA.1.length + RB.1.length - k ∧ env = [(0, .str a), (7, .str G), (9, .sl 3 0 (RA.1.map tokV)), (12, .sl 3 0 (RB.1.map tokV)), (125, .sl 3 0 ((RA.1 ++ RB.1.map (shT (a.length + G.length))).map tokV)),
      (126, .int .i64 ((RA.1.length : Int) + RB.1.length)), (127, .int .i64 k)] ∧ Gr h' h3) ?_ ⟨0, by omega, by omega, rfl, Gr.refl _⟩
  rintro m env h2 ⟨k, hk, rfl, rfl, g⟩
  unfold A.probatelaw05_ScanBetween.L1
  by_cases hlt : k < RA.1.length + RB.1.length
  · have hlt' : (k : Int) < (RA.1.length : Int) + RB.1.length := by omega
    have hga := toks_getD (l := RA.1 ++ RB.1.map (shT (a.length + G.length))) (i := k) (by omega)
    have hw1 : IntKind.i64.wrap ((k : Int) + 1) = ((k + 1 : Nat) : Int) := by rw [wrap_i64 (by omega) (by omega)]; rfl
    by_cases hka : k < RA.1.length
    · have hka' : (k : Int) < RA.1.length := by omega
      have hgb := toks_getD hka
      rw [List.getElem_append_left hka] at hga
      generalize RA.1[k] = t at *
      have hlN : ((RA.1 ++ RB.1.map (shT (a.length + G.length))).map tokV).length = RA.1.length + RB.1.length := by simp
      generalize (RA.1 ++ RB.1.map (shT (a.length + G.length))).map tokV = NL at *
      have hltN : (k : Int) < NL.length := by omega
      simp [hlt', hltN, hga, V.cells, V.good, setAt, tokC, fillV, hka', hgb]
      exact ⟨RA.1.length + RB.1.length - (k + 1), by omega, iv ⟨k + 1, by omega, rfl, by rw [hw1], (g.new _).new _⟩⟩
    · have hka' : ¬ (k : Int) < RA.1.length := by omega
      have hkb : k - RA.1.length < RB.1.length := by omega
      have hgb := toks_getD hkb
      have hw4 : IntKind.i64.wrap ((k : Int) - RA.1.length) = ((k - RA.1.length : Nat) : Int) := by rw [wrap_i64 (by omega) (by omega)]; omega
      have b0 : (0 : Int) ≤ ((k - RA.1.length : Nat) : Int) := by omega
      have b1 : ((k - RA.1.length : Nat) : Int) < RB.1.length := by omega
      rw [List.getElem_append_right (by omega)] at hga
      simp only [List.getElem_map] at hga
      have htat : RB.1[k - RA.1.length].at' ≤ 1000 := by
        have := cb _ (List.getElem_mem hkb); omega
      generalize RB.1[k - RA.1.length] = t at *
      have hlN : ((RA.1 ++ RB.1.map (shT (a.length + G.length))).map tokV).length = RA.1.length + RB.1.length := by simp
      generalize (RA.1 ++ RB.1.map (shT (a.length + G.length))).map tokV = NL at *
      have hltN : (k : Int) < NL.length := by omega
      have hw5 : IntKind.i64.wrap ((t.at' : Int) + ((a.length : Int) + G.length)) = ((t.at' + (a.length + G.length) : Nat) : Int) := by rw [wrap_i64 (by omega) (by omega)]; omega
      simp [hlt', hltN, hga, V.cells, V.good, setAt, tokC, fillV, hka', hgb, hw3, hw4, b0, b1, hw5, shT]
      exact ⟨RA.1.length + RB.1.length - (k + 1), by omega, iv ⟨k + 1, by omega, rfl, by rw [hw1], (g.new _).new _⟩⟩
  · have hlt' : ¬ (k : Int) < (RA.1.length : Int) + RB.1.length := by omega
    simp [hlt']
    exact fin_wk g (.same _) (by simp) hQ
end
end Go.Proofs.Ytpnbdnmmfaomlaa.Al
