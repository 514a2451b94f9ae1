/-
  Layer 5, scan: the reference's Scan, and the laws' helpers, by the abstract layer. Conditions: each theorem's own.
-/
import Derived.Test.YtpnbdnmmfaomlaaScan3
namespace Go.Proofs.Ytpnbdnmmfaomlaa.Al
open Go Go.RowKit
set_option linter.unusedSimpArgs false
set_option linter.unusedVariables false
attribute [-simp] List.getD_eq_getElem?_getD Int.not_lt Int.not_le List.drop_one

theorem getD_drop (s : Str) (k j : Nat) : (s.drop k).getD j 0 = s.getD (k + j) 0 := by simp [List.getD]
section
variable {X : Cx} {h : AH} {Q : V → AH → Prop}
structure LSR (X : Cx) : Prop where
  letter : Has (Ecx X) K.probateref05_letter A.probateref05_letter
  part : Has (Ecx X) K.probateref05_part A.probateref05_part
  scan : Has (Ecx X) K.probateref05_Scan A.probateref05_Scan
  same : Has (Ecx X) K.probateref05_Same A.probateref05_Same
theorem rletter_spec (H : Has (Ecx X) K.probateref05_letter A.probateref05_letter) (c : Int) (hQ : Q (.bool (letterI c)) h) : Ecx X K.probateref05_letter [.int .u8 c] h Q := by
  refine fn_walk H (by simp [A.probateref05_letter]) fun wf => ?_
  by_cases h1 : 97 ≤ c <;> by_cases h2 : c ≤ 122 <;> by_cases h3 : 65 ≤ c <;> by_cases h4 : c ≤ 90 <;> first | omega | (simp [A.probateref05_letter, h1, h2, h3, h4]; exact fin (by simp) (by simpa [letterI, h1, h2, h3, h4] using hQ))
theorem rpart_spec (L : LSR X) (c : Int) (hQ : Q (.bool (partI c)) h) : Ecx X K.probateref05_part [.int .u8 c] h Q := by
  refine fn_walk L.part (by simp [A.probateref05_part]) fun wf => ?_
  simp [A.probateref05_part]
  refine ecall (rletter_spec L.letter c ?_)
  unfold partI at hQ
  generalize letterI c = b at *
  cases b <;> by_cases h1 : 48 ≤ c <;> by_cases h2 : c ≤ 57 <;> by_cases h3 : c = 95 <;> first | omega | (simp [h1, h2, h3]; exact fin (by simp) (by simpa [h1, h2, h3] using hQ))
section
variable {Q : Ex → Env → AH → Prop} {zQ : Lz Q}
theorem rloop1 {s : Str} {k : Nat} {v : V} (hk : k ≤ s.length) (hl : s.length ≤ 2 ^ 40) {z : Lz (AC.loop A.probateref05_Scan.L1)}
    (hQ : Q (.exit 3) [(0, .str s), (5, v), (6, .int .i64 (k + runN notLf (s.drop k) : Nat)), (51, .bool false)] h) :
    acZ (Ecx X) [(0, .str s), (5, v), (6, .int .i64 k)] h z zQ := by
  have hle := runN_le notLf (s.drop k)
  simp at hle
  refine loopI (n := s.length - k) (fun m env h' => ∃ j, j ≤ runN notLf (s.drop k) ∧ m = s.length - (k + j) ∧ h' = h ∧ env = [(0, .str s), (5, v), (6, .int .i64 (k + j : Nat))]) ?_ ⟨0, by omega, by omega, rfl, rfl⟩
  rintro m env h' ⟨j, hj, rfl, rfl, rfl⟩
  unfold A.probateref05_Scan.L1
  by_cases hlt : k + j < s.length
  · have hlt' : ((k + j : Nat) : Int) < s.length := by omega
    have hc1 : ((s.getD (k + j) 0).toNat : Int) = bt (s.getD (k + j) 0) := rfl
    have hg := getD_drop s k j
    by_cases hjr : j < runN notLf (s.drop k)
    · have := runN_true hjr
      rw [hg] at this
      simp [notLf] at this
      simp [hlt', hc1, this, -Int.natCast_add]
      exact ⟨s.length - (k + (j + 1)), by omega, iv ⟨j + 1, by omega, rfl, rfl, by rw [wrap_i64 (by omega) (by omega)]; rfl⟩⟩
    · have hj3 : j = runN notLf (s.drop k) := by omega
      have := runN_false (p := notLf) (s := s.drop k) (by simp; omega)
      rw [← hj3, hg] at this
      rw [← hj3] at hQ
      simp [notLf] at this
      simp [hlt', hc1, this, -Int.natCast_add]
      exact hQ
  · have hlt' : ¬ ((k + j : Nat) : Int) < s.length := by omega
    have hj3 : j = runN notLf (s.drop k) := by omega
    rw [← hj3] at hQ
    simp [hlt', -Int.natCast_add]
    exact hQ
theorem rloop2 (L : LSR X) {s : Str} {k : Nat} {v v8 : V} (hk : k ≤ s.length) (hl : s.length ≤ 2 ^ 40) {z : Lz (AC.loop A.probateref05_Scan.L2)}
    (hQ : Q (.exit 5) [(0, .str s), (5, v), (6, .int .i64 (k + runN partB (s.drop k) : Nat)), (8, v8), (66, .bool false)] h) :
    acZ (Ecx X) [(0, .str s), (5, v), (6, .int .i64 k), (8, v8)] h z zQ := by
  have hle := runN_le partB (s.drop k)
  simp at hle
  refine loopI (n := s.length - k) (fun m env h' => ∃ j, j ≤ runN partB (s.drop k) ∧ m = s.length - (k + j) ∧ h' = h ∧ env = [(0, .str s), (5, v), (6, .int .i64 (k + j : Nat)), (8, v8)]) ?_ ⟨0, by omega, by omega, rfl, rfl⟩
  rintro m env h' ⟨j, hj, rfl, rfl, rfl⟩
  unfold A.probateref05_Scan.L2
  by_cases hlt : k + j < s.length
  · have hlt' : ((k + j : Nat) : Int) < s.length := by omega
    have hc1 : ((s.getD (k + j) 0).toNat : Int) = bt (s.getD (k + j) 0) := rfl
    have hg := getD_drop s k j
    simp [hlt', hc1, -Int.natCast_add]
    refine ecall (rpart_spec L _ ?_)
    by_cases hjr : j < runN partB (s.drop k)
    · have := runN_true hjr
      rw [hg] at this
      simp [partB] at this
      simp [this, -Int.natCast_add]
      exact ⟨s.length - (k + (j + 1)), by omega, iv ⟨j + 1, by omega, rfl, rfl, by rw [wrap_i64 (by omega) (by omega)]; rfl⟩⟩
    · have hj3 : j = runN partB (s.drop k) := by omega
      have := runN_false (p := partB) (s := s.drop k) (by simp; omega)
      rw [← hj3, hg] at this
      rw [← hj3] at hQ
      simp [partB] at this
      simp [this, -Int.natCast_add]
      exact hQ
  · have hlt' : ¬ ((k + j : Nat) : Int) < s.length := by omega
    have hj3 : j = runN partB (s.drop k) := by omega
    rw [← hj3] at hQ
    simp [hlt', -Int.natCast_add]
    exact hQ
theorem rloop3 {s : Str} {k : Nat} {v v8 : V} (hk : k ≤ s.length) (hl : s.length ≤ 2 ^ 40) {z : Lz (AC.loop A.probateref05_Scan.L3)}
    (hQ : Q (.exit 7) [(0, .str s), (5, v), (6, .int .i64 (k + runN quotedB (s.drop k) : Nat)), (8, v8), (104, .bool false)] h) :
    acZ (Ecx X) [(0, .str s), (5, v), (6, .int .i64 k), (8, v8)] h z zQ := by
  have hle := runN_le quotedB (s.drop k)
  simp at hle
  refine loopI (n := s.length - k) (fun m env h' => ∃ j, j ≤ runN quotedB (s.drop k) ∧ m = s.length - (k + j) ∧ h' = h ∧ env = [(0, .str s), (5, v), (6, .int .i64 (k + j : Nat)), (8, v8)]) ?_ ⟨0, by omega, by omega, rfl, rfl⟩
  rintro m env h' ⟨j, hj, rfl, rfl, rfl⟩
  unfold A.probateref05_Scan.L3
  by_cases hlt : k + j < s.length
  · have hlt' : ((k + j : Nat) : Int) < s.length := by omega
    have hc1 : ((s.getD (k + j) 0).toNat : Int) = bt (s.getD (k + j) 0) := rfl
    have hg := getD_drop s k j
    by_cases hjr : j < runN quotedB (s.drop k)
    · have := runN_true hjr
      rw [hg] at this
      simp [quotedB, quotedI] at this
      simp [hlt', hc1, this, -Int.natCast_add]
      exact ⟨s.length - (k + (j + 1)), by omega, iv ⟨j + 1, by omega, rfl, rfl, by rw [wrap_i64 (by omega) (by omega)]; rfl⟩⟩
    · have hj3 : j = runN quotedB (s.drop k) := by omega
      have := runN_false (p := quotedB) (s := s.drop k) (by simp; omega)
      rw [← hj3, hg] at this
      rw [← hj3] at hQ
      simp only [quotedB, quotedI] at this
      generalize bt (s.getD (k + j) 0) = c at *
      by_cases h1 : 32 ≤ c <;> by_cases h2 : c ≤ 126 <;> by_cases h3 : c = 39 <;> first | omega | (simp [h1, h2, h3] at this; done) | (simp [hlt', hc1, h1, h2, h3, -Int.natCast_add]; exact hQ)
  · have hlt' : ¬ ((k + j : Nat) : Int) < s.length := by omega
    have hj3 : j = runN quotedB (s.drop k) := by omega
    rw [← hj3] at hQ
    simp [hlt', -Int.natCast_add]
    exact hQ
end
theorem marks_mem (b : UInt8) : b ∈ marksL ↔ bt b = 58 ∨ bt b = 59 ∨ bt b = 124 ∨ bt b = 40 ∨ bt b = 41 ∨ bt b = 42 ∨ bt b = 43 ∨ bt b = 63 := by
  have e : ∀ c : UInt8, b = c ↔ bt b = bt c := fun c => bt_inj.symm
  simp only [marksL, List.mem_cons, List.not_mem_nil, or_false, e]
  rfl
theorem letterI_ne {c : Int} (h : letterI c = true) : c ≠ 35 ∧ c ≠ 13 ∧ c ≠ 32 ∧ c ≠ 9 ∧ c ≠ 10 := by
  simp [letterI] at h; omega
theorem rscan_spec (L : LSR X) (s : Str) (hl : s.length ≤ 2 ^ 40) (hQ : Q (scanV s) h) : Ecx X K.probateref05_Scan [.str s] h Q := by
  refine fn_walk L.scan (by simp [A.probateref05_Scan]) fun wf => ?_
  unfold scanV scanR at hQ
  by_cases hbig : 4000 < s.length
  · have hbig' : (4000 : Int) < s.length := by omega
    rw [if_pos hbig] at hQ
    simp [A.probateref05_Scan, hbig']
    exact fin_wk (Gr.refl h) (Wk.t3 (.nil _ 3 _) _ _) (by simp) hQ
  have hbig' : ¬ (4000 : Int) < s.length := by omega
  rw [if_neg hbig] at hQ
  simp [A.probateref05_Scan, hbig', fillL]
  have hlen := scanL_len s.length s 0
  generalize hT : scanL s.length s 0 = T at *
  refine loopI (n := s.length) (fun m env h' => ∃ k acc e1 st, k ≤ s.length ∧ s.length ≤ m + k ∧ env = [(0, .str s), (5, .sl e1 st (acc.map tokV)), (6, .int .i64 (k : Nat))] ∧ Own h h' 3 e1 st (acc.map tokV) ∧
    acc ++ (scanL m (s.drop k) k).1 = T.1 ∧ (scanL m (s.drop k) k).2 = T.2) ?_ ⟨0, [], 3, 2, by omega, by simp, rfl, Own.full (Gr.refl h) 3 [], by rw [← hT]; simp, by rw [← hT]; simp⟩
  rintro m env h' ⟨k, acc, e1, st, hk, hm, rfl, ow, hac, hfl⟩
  unfold A.probateref05_Scan.L0
  by_cases hlt : k < s.length
  · have hlt' : (k : Int) < s.length := by omega
    have hle' : (k : Int) ≤ s.length := by omega
    have hne : s.drop k ≠ [] := by intro e; have := congrArg List.length e; simp at this; omega
    obtain ⟨m, rfl⟩ : ∃ m', m = m' + 1 := ⟨m - 1, by omega⟩
    have hsl := sfirst_le hne
    rw [scanL_step k hne] at hac hfl
    simp at hsl
    have hc1 : ((s.getD k 0).toNat : Int) = bt (s.getD k 0) := rfl
    have hg := getD_drop s k 0
    have hF : sfirst (s.drop k) = sfirst (s.drop k) := rfl
    conv at hF => rhs; unfold sfirst
    simp only [hg, Nat.add_zero] at hF
    have hfail : (sfirst (s.drop k)).2.2 = 0 → Fin h (.tup [.sl 0 1 [], .int .i64 k, .int .i64 2]) h' (Lz.mk (a := Q)) := fun h0 => by
      rw [if_pos h0] at hac hfl
      simp at hfl
      rw [← hfl] at hQ
      exact fin_wk ow.gr (Wk.t3 (.nil _ 3 _) _ _) (by simp) hQ
    have hskip : ∀ n, sfirst (s.drop k) = (0, [], n + 1) → ∃ m', m' < m + 1 ∧ Iv (Lz.mk (a := ∃ k2 acc2 e1' st', k2 ≤ s.length ∧ s.length ≤ m' + k2 ∧ [(0, V.str s), (5, .sl e1 st (acc.map tokV)), (6, .int .i64 ((k + (n + 1) : Nat) : Int))] = [(0, .str s), (5, .sl e1' st' (acc2.map tokV)), (6, .int .i64 (k2 : Nat))] ∧ Own h h' 3 e1' st' (acc2.map tokV) ∧
        acc2 ++ (scanL m' (s.drop k2) k2).1 = T.1 ∧ (scanL m' (s.drop k2) k2).2 = T.2)) := fun n e => by
      rw [e] at hac hfl hsl
      simp only [List.drop_drop] at hac hfl hsl
      exact ⟨m, by omega, iv ⟨k + (n + 1), acc, e1, st, by omega, by omega, rfl, ow, by simpa using hac, by simpa using hfl⟩⟩
    have htok : ∀ (kd : Nat) (t : Str) (n : Nat) (K : V → AH → Prop) (zK : Lz K), kd ≠ 0 → sfirst (s.drop k) = (kd, t, n + 1) → (∀ h2 v, (∃ m', m' < m + 1 ∧ Iv (Lz.mk (a := ∃ k2 acc2 e1' st', k2 ≤ s.length ∧ s.length ≤ m' + k2 ∧ [(0, V.str s), (5, v), (6, .int .i64 ((k + (n + 1) : Nat) : Int))] = [(0, .str s), (5, .sl e1' st' (acc2.map tokV)), (6, .int .i64 (k2 : Nat))] ∧ Own h h2 3 e1' st' (acc2.map tokV) ∧
        acc2 ++ (scanL m' (s.drop k2) k2).1 = T.1 ∧ (scanL m' (s.drop k2) k2).2 = T.2))) → K v h2) → App h' 3 32 e1 st (acc.map tokV) 3 [.agg [.int .i64 kd, .str t, .int .i64 k]] zK := fun kd t n K zK hkd e hK => by
      rw [e] at hac hfl hsl
      simp only [List.drop_drop] at hac hfl hsl
      rw [if_neg (by simp)] at hac hfl
      simp only [if_neg hkd] at hac
      have hacl : acc.length ≤ s.length := by have := congrArg List.length hac; simp at this; omega
      refine ow.appZ (fun _ => rfl) (by simp; omega) fun e2 st2 h2 o2 _ _ => hK _ _ ?_
      have em : acc.map tokV ++ [V.agg [.int .i64 kd, .str t, .int .i64 k]] = (acc ++ [(⟨kd, t, k⟩ : Tok)]).map tokV := by simp [tokV, tokC]
      rw [em] at o2 ⊢
      exact ⟨m, by omega, iv ⟨k + (n + 1), acc ++ [(⟨kd, t, k⟩ : Tok)], e2, st2, by omega, by omega, rfl, o2, by rw [← hac]; simp, by simpa using hfl⟩⟩
    have hw1 : IntKind.i64.wrap ((k : Int) + 1) = ((k + (0 + 1) : Nat) : Int) := by rw [wrap_i64 (by omega) (by omega)]; rfl
    have hmk := marks_mem (s.getD k 0)
    have hd1 : ((s.drop k).drop 1) = s.drop (k + 1) := by simp
    simp [hlt', hc1]
    generalize hcc : bt (s.getD k 0) = c at *
    by_cases w1 : c = 32
    · have e := hskip 0 (by rw [hF]; simp [w1])
      simp [w1, hw1]; simpa using e
    by_cases w2 : c = 9
    · have e := hskip 0 (by rw [hF]; simp [w2])
      simp [w2, hw1]; simpa using e
    by_cases w3 : c = 10
    · have e := hskip 0 (by rw [hF]; simp [w3])
      simp [w3, hw1]; simpa using e
    by_cases w4 : c = 13
    · have e := hskip 0 (by rw [hF]; simp [w4])
      simp [w4, hw1]; simpa using e
    by_cases w5 : c = 35
    · have hr : runN notLf (s.drop k) = (runN notLf (s.drop k) - 1) + 1 := by
        have : s.drop k = s.getD k 0 :: s.drop (k + 1) := by rw [List.drop_eq_getElem_cons hlt]; simp [List.getD, List.getElem?_eq_getElem hlt]
        rw [this, runN_cons, if_pos (by simp [notLf, hcc, w5])]; omega
      have e := hskip (runN notLf (s.drop k) - 1) (by rw [hF, if_pos w5, ← hr])
      rw [← hr] at e
      simp [w5]
      refine rloop1 hk hl ?_
      simp
      simpa using e
    simp [w1, w2, w3, w4, w5]
    refine ecall (rletter_spec L.letter c ?_)
    by_cases w6 : letterI c = true
    · have hr : runN partB (s.drop k) = (runN partB (s.drop k) - 1) + 1 := by
        have : s.drop k = s.getD k 0 :: s.drop (k + 1) := by rw [List.drop_eq_getElem_cons hlt]; simp [List.getD, List.getElem?_eq_getElem hlt]
        rw [this, runN_cons, if_pos (by simp [partB, partI, hcc, w6])]; omega
      have hrl := runN_le partB (s.drop k)
      simp at hrl
      have hx : sfirst (s.drop k) = (1, (s.drop k).take (runN partB (s.drop k)), (runN partB (s.drop k) - 1) + 1) := by
        rw [hF, if_neg w5, if_neg (by omega), if_pos w6, ← hr]
      have hb1 : (k : Int) ≤ ((k + runN partB (s.drop k) : Nat) : Int) := by omega
      have hb2 : ((k + runN partB (s.drop k) : Nat) : Int) ≤ s.length := by omega
      have htk : (s.take (k + runN partB (s.drop k))).drop k = (s.drop k).take (runN partB (s.drop k)) := by rw [List.drop_take]; congr 1; omega
      simp [w6]
      refine rloop2 L hk hl ?_
      simp [hb1, hb2, fillV, fillL, V.cells, V.good, V.isAgg, setAt, -Int.natCast_add, htk]
      refine htok 1 _ _ _ _ (by omega) hx fun h2 v e => ?_
      rw [← hr] at e
      simp
      simpa using e
    simp [w6]
    by_cases w7 : c = 39
    · simp only [if_neg w5, if_neg (show ¬ (c = 13 ∨ c = 32 ∨ c = 9 ∨ c = 10) by omega), if_neg w6, if_pos w7, hd1] at hF
      have hrl := runN_le quotedB (s.drop (k + 1))
      simp at hrl
      simp [w7]
      rw [show IntKind.i64.wrap ((k : Int) + 1) = ((k + 1 : Nat) : Int) from hw1]
      refine rloop3 (by omega) hl ?_
      have hg2 := getD_drop s k (runN quotedB (s.drop (k + 1)) + 1)
      rw [hg2] at hF
      have htk : ∀ n, (s.take (k + 1 + n)).drop (k + 1) = ((s.drop k).take (n + 1)).drop 1 := fun n => by
        rw [show k + 1 + n = k + (n + 1) by omega, ← List.drop_drop, List.drop_take]; congr 2; omega
      generalize runN quotedB (s.drop (k + 1)) = n at *
      by_cases k1 : n = 0
      · rw [if_pos (.inl k1)] at hF
        subst k1
        simp [hw1]
        exact hfail (by rw [hF])
      have k1' : ¬ ((k + 1 + n : Nat) : Int) = IntKind.i64.wrap ((k : Int) + 1) := by rw [hw1]; omega
      by_cases k2 : k + 1 + n = s.length
      · rw [if_pos (.inr (.inl (by simp; omega)))] at hF
        have k2' : ((k + 1 + n : Nat) : Int) = s.length := by omega
        simp [k1', -Int.natCast_add]
        rw [k2'] at k1' ⊢
        simp [k1']
        exact hfail (by rw [hF])
      have k2' : ¬ ((k + 1 + n : Nat) : Int) = s.length := by omega
      have k3 : ((k + 1 + n : Nat) : Int) < s.length := by omega
      have hc2 : ((s.getD (k + 1 + n) 0).toNat : Int) = bt (s.getD (k + 1 + n) 0) := rfl
      rw [show k + (n + 1) = k + 1 + n by omega] at hF
      by_cases k4 : bt (s.getD (k + 1 + n) 0) = 39
      · rw [if_neg (by simp; omega)] at hF
        have hw3 : IntKind.i64.wrap (((k + 1 + n : Nat) : Int) + 1) = ((k + (n + 1 + 1) : Nat) : Int) := by rw [wrap_i64 (by omega) (by omega)]; omega
        have hw4 : IntKind.i64.wrap (((k + (n + 1 + 1) : Nat) : Int) - 1) = ((k + 1 + n : Nat) : Int) := by rw [wrap_i64 (by omega) (by omega)]; omega
        have hb0 : (0 : Int) ≤ ((k + 1 : Nat) : Int) := by omega
        have hb1 : ((k + 1 : Nat) : Int) ≤ ((k + 1 + n : Nat) : Int) := by omega
        have hb2 : ((k + 1 + n : Nat) : Int) ≤ s.length := by omega
        have hw1' : IntKind.i64.wrap ((k : Int) + 1) = ((k + 1 : Nat) : Int) := hw1
        rw [hw1'] at k1'
        simp [k1', k2', k3, hc2, k4, hw3, hw4, hw1', hb0, hb1, hb2, fillV, fillL, V.cells, V.good, V.isAgg, setAt, -Int.natCast_add, -nat_one_one, htk]
        refine htok 2 _ _ _ _ (by omega) hF fun h2 v e => ?_
        simp [-Int.natCast_add, -nat_one_one]
        simpa [-Int.natCast_add, -nat_one_one] using e
      · rw [if_pos (.inr (.inr k4))] at hF
        simp [k1', k2', k3, hc2, k4, -Int.natCast_add]
        exact hfail (by rw [hF])
    simp [w7]
    by_cases w8 : s.getD k 0 ∈ marksL
    · have hx : sfirst (s.drop k) = (3, (s.drop k).take 1, 0 + 1) := by
        rw [hF, if_neg w5, if_neg (by omega), if_neg w6, if_neg w7, if_pos w8]
      have hor := hmk.1 w8
      have hb1 : (k : Int) ≤ ((k + (0 + 1) : Nat) : Int) := by omega
      have hb2 : ((k + (0 + 1) : Nat) : Int) ≤ s.length := by omega
      have htk : (s.take (k + (0 + 1))).drop k = (s.drop k).take 1 := by rw [List.drop_take]; congr 1; omega
      have hw1' : IntKind.i64.wrap ((k : Int) + 1) = ((k + (0 + 1) : Nat) : Int) := hw1
      rcases hor with u | u | u | u | u | u | u | u <;> (simp [u, hw1', hb1, hb2, fillV, fillL, V.cells, V.good, V.isAgg, setAt, -Int.natCast_add, htk]; refine htok 3 _ _ _ _ (by omega) hx fun h2 v e => ?_; simp [-Int.natCast_add]; simpa [-Int.natCast_add] using e)
    · have hx : sfirst (s.drop k) = (0, [], 0) := by
        rw [hF, if_neg w5, if_neg (by omega), if_neg w6, if_neg w7, if_neg w8]
      have hor := fun e => w8 (hmk.2 e)
      have u1 : ¬ c = 58 := fun e => hor (by omega)
      have u2 : ¬ c = 59 := fun e => hor (by omega)
      have u3 : ¬ c = 124 := fun e => hor (by omega)
      have u4 : ¬ c = 40 := fun e => hor (by omega)
      have u5 : ¬ c = 41 := fun e => hor (by omega)
      have u6 : ¬ c = 42 := fun e => hor (by omega)
      have u7 : ¬ c = 43 := fun e => hor (by omega)
      have u8 : ¬ c = 63 := fun e => hor (by omega)
      simp [u1, u2, u3, u4, u5, u6, u7, u8]
      exact hfail (by rw [hx])
  · have hlt' : ¬ (k : Int) < s.length := by omega
    have e : s.drop k = [] := List.drop_eq_nil_of_le (by omega)
    rw [e, scanL_nil] at hac hfl
    simp at hac hfl
    rw [← hfl] at hQ
    simp [hlt']
    rw [hac] at ow ⊢
    exact fin_wk ow.gr (Wk.t3 ow.wk _ _) (by simpa using toks_cells _ _ _) hQ
end
end Go.Proofs.Ytpnbdnmmfaomlaa.Al
