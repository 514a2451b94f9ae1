/-
  Layer 4, word: bytes and words, by the abstract layer, and what comes back. Conditions: each theorem's own.
-/
import Derived.Test.YtbbmglginkabfaaWord4
namespace Go.Proofs.Ytbbmglginkabfaa.Al
open Go Go.RowKit
set_option linter.unusedSimpArgs false
set_option linter.unusedVariables false
attribute [-simp] List.getD_eq_getElem?_getD Int.not_lt Int.not_le List.map_take

theorem rightW_mem {w : List Int} (h : rightW w = true) : ∀ t ∈ w, 0 ≤ t ∧ t < 16 := by
  simp only [rightW, Bool.and_eq_true, belowB, List.all_eq_true, decide_eq_true_eq] at h
  exact h.2
theorem rightW_mk {w : List Int} (h1 : w.length ≤ 24) (h2 : ∀ t ∈ w, 0 ≤ t ∧ t < 16) : rightW w = true := by
  simp only [rightW, Bool.and_eq_true, belowB, List.all_eq_true, decide_eq_true_eq]
  exact ⟨h1, h2⟩
theorem rightW_ints {w : List Int} (h : rightW w = true) : ints w = i64s (nats w) := by rw [i64s_ints, natI_nats fun t ht => (rightW_mem h t ht).1]
def wbyt (w : List Int) : List Nat := vput w.length ++ vputs (nats w)
def bytesR (w : List Int) : List Nat × Int := if rightW w = false then ([], 1) else (wbyt w, 0)
def wbytV (w : List Int) : V := .tup [.sl 1 0 (u8s (bytesR w).1), .int .i64 (bytesR w).2]
def readR (b : List Nat) : List Int × Int :=
  if rend (rnums b 0 24 15).2.1 (rnums b 0 24 15).2.2 ≠ 0 then ([], rend (rnums b 0 24 15).2.1 (rnums b 0 24 15).2.2) else (natI (rnums b 0 24 15).1, 0)
def readV (b : List Nat) : V := .tup [.sl 1 0 (ints (readR b).1), .int .i64 (readR b).2]
theorem wbyt_len {w : List Int} (h : rightW w = true) : (wbyt w).length ≤ 250 := by
  have h1 := rightW_len h
  have h2 := vput_len64 (n := w.length) (by omega)
  have h3 := vputs_len (nats w) fun n hn => by
    simp only [nats, List.mem_map] at hn
    obtain ⟨t, ht, rfl⟩ := hn
    have := rightW_mem h t ht; omega
  have h4 : (nats w).length = w.length := by simp [nats]
  simp only [wbyt, List.length_append]; omega

/-! ### What comes back -/
theorem rnum_canon {l : List Nat} {most n : Nat} {l' : List Nat} (hb : ∀ x ∈ l, x < 256) (h : rnum l 0 most = (n, l', 0)) : l = vput n ++ l' ∧ n ≤ most := by
  unfold rnum at h
  rw [if_neg (by simp)] at h
  split at h
  · rename_i h1
    simp at h; exact absurd h.2.2 (by simpa using h1)
  · rename_i h1
    split at h
    · simp at h
    · simp at h
      obtain ⟨e1, e2⟩ := h
      rcases vtake_one l hb with ⟨a, b, c, d, e⟩ | ⟨a, _⟩
      · exact ⟨by rw [← e1, ← e2, d, List.take_append_drop], by omega⟩
      · exact absurd (by simpa using h1) (by simpa using a)
theorem rlist_canon {most : Nat} : ∀ (n : Nat) {l u l' : List Nat} (hb : ∀ x ∈ l, x < 256) (h : rlist (fun l e => rnum l e most) n l 0 = (u, l', 0)), l = vputs u ++ l' ∧ u.length = n ∧ ∀ x ∈ u, x ≤ most
  | 0, l, u, l', hb, h => by simp [rlist] at h; obtain ⟨rfl, rfl⟩ := h; simp [vputs]
  | n + 1, l, u, l', hb, h => by
    rw [rlist_succ0] at h
    have hu := congrArg Prod.fst h
    have h2 := congrArg Prod.snd h
    simp only at hu h2
    have he : (rnum l 0 most).2.2 = 0 := by
      by_cases he : (rnum l 0 most).2.2 = 0
      · exact he
      · exfalso
        have : (rlist (fun l e => rnum l e most) n (rnum l 0 most).2.1 (rnum l 0 most).2.2).2 = ((rnum l 0 most).2.1, (rnum l 0 most).2.2) := by
          cases n with
          | zero => rfl
          | succ n => simp [rlist, he]
        rw [this] at h2
        exact he (congrArg Prod.snd h2)
    obtain ⟨c1, c2⟩ := rnum_canon (l := l) (most := most) (l' := (rnum l 0 most).2.1) (n := (rnum l 0 most).1) hb (Prod.ext rfl (Prod.ext rfl he))
    rw [he] at h2 hu
    have hb' : ∀ x ∈ (rnum l 0 most).2.1, x < 256 := fun x hx => hb x (by rw [c1]; exact List.mem_append_right _ hx)
    obtain ⟨d1, d2, d3⟩ := rlist_canon n (u := (rlist (fun l e => rnum l e most) n (rnum l 0 most).2.1 0).1) (l' := l') hb' (Prod.ext rfl h2)
    subst hu
    refine ⟨?_, by simp [d2], fun x hx => ?_⟩
    · conv => lhs; rw [c1, d1]
      simp [vputs]
    · rcases List.mem_cons.1 hx with rfl | hx
      · exact c2
      · exact d3 x hx
theorem rnums_canon {b u l' : List Nat} {many top : Nat} (hb : ∀ x ∈ b, x < 256) (h : rnums b 0 many top = (u, l', 0)) : b = vput u.length ++ vputs u ++ l' ∧ u.length ≤ many ∧ ∀ x ∈ u, x ≤ top := by
  unfold rnums rread at h
  simp only at h
  have h3 : (rlist (fun l e => rnum l e top) (rnum b 0 many).1 (rnum b 0 many).2.1 (rnum b 0 many).2.2).2.2 = 0 := by
    have := congrArg (fun p => p.2.2) h; simpa using this
  rw [if_neg (by simp [h3])] at h
  have he : (rnum b 0 many).2.2 = 0 := by
    by_cases he : (rnum b 0 many).2.2 = 0
    · exact he
    · exfalso
      have : (rlist (fun l e => rnum l e top) (rnum b 0 many).1 (rnum b 0 many).2.1 (rnum b 0 many).2.2).2 = ((rnum b 0 many).2.1, (rnum b 0 many).2.2) := by
        cases (rnum b 0 many).1 with
        | zero => rfl
        | succ n => simp [rlist, he]
      rw [this] at h3
      exact he h3
  obtain ⟨c1, c2⟩ := rnum_canon (l := b) (most := many) (l' := (rnum b 0 many).2.1) (n := (rnum b 0 many).1) hb (Prod.ext rfl (Prod.ext rfl he))
  rw [he] at h
  have hb' : ∀ x ∈ (rnum b 0 many).2.1, x < 256 := fun x hx => hb x (by rw [c1]; exact List.mem_append_right _ hx)
  obtain ⟨d1, d2, d3⟩ := rlist_canon _ hb' h
  exact ⟨by rw [d2, List.append_assoc, ← d1]; exact c1, by omega, d3⟩
theorem rnums_read {many top : Nat} (ns r : List Nat) (h0 : ns.length ≤ many) (hm : many < 2 ^ 63) (h1 : ∀ n ∈ ns, n < 2 ^ 63) (h2 : ∀ n ∈ ns, n ≤ top) : rnums (vput ns.length ++ vputs ns ++ r) 0 many top = (ns, r, 0) := by
  have h3 := rnum_cut (n := ns.length) (most := many) (c := (vput ns.length ++ (vputs ns ++ r)).length) (by omega) h0 (vputs ns ++ r)
  rw [List.take_length, if_neg (by simp), List.take_of_length_le (by simp)] at h3
  have h4 := rlist_cut ns (vputs ns ++ r).length r h1 h2
  rw [if_neg (by simp), List.take_length, List.take_of_length_le (by simp)] at h4
  unfold rnums rread
  simp only [List.append_assoc, h3, h4]
  simp
theorem readR_wbyt {w : List Int} (h : rightW w = true) : readR (wbyt w) = (w, 0) := by
  have hm := rightW_mem h
  have e := rnums_read (many := 24) (top := 15) (nats w) [] (by simp [nats]; exact rightW_len h) (by omega)
    (fun n hn => by simp only [nats, List.mem_map] at hn; obtain ⟨t, ht, rfl⟩ := hn; have := hm t ht; omega)
    (fun n hn => by simp only [nats, List.mem_map] at hn; obtain ⟨t, ht, rfl⟩ := hn; have := hm t ht; omega)
  rw [List.append_nil, show (nats w).length = w.length by simp [nats]] at e
  unfold readR wbyt
  rw [e]
  simp [rend, natI_nats fun t ht => (hm t ht).1]
theorem readR_canon {b : List Nat} (hb : ∀ x ∈ b, x < 256) (h : (readR b).2 = 0) : rightW (readR b).1 = true ∧ wbyt (readR b).1 = b := by
  unfold readR at h ⊢
  by_cases he : rend (rnums b 0 24 15).2.1 (rnums b 0 24 15).2.2 ≠ 0
  · rw [if_pos he] at h; exact absurd h he
  · rw [if_neg he]
    have he' : rend (rnums b 0 24 15).2.1 (rnums b 0 24 15).2.2 = 0 := by simpa using he
    have e2 : (rnums b 0 24 15).2.2 = 0 := by
      unfold rend at he'
      split at he'
      · simp at he'
      · exact he'
    have e1 : (rnums b 0 24 15).2.1 = [] := by
      unfold rend at he'
      split at he'
      · simp at he'
      · rename_i hh
        cases hl : (rnums b 0 24 15).2.1 with
        | nil => rfl
        | cons a l => exfalso; apply hh; rw [hl]; simp [e2]
    obtain ⟨c1, c2, c3⟩ := rnums_canon (u := (rnums b 0 24 15).1) (l' := []) hb (Prod.ext rfl (Prod.ext e1 e2))
    refine ⟨rightW_mk (by simpa [natI] using c2) fun t ht => ?_, ?_⟩
    · simp only [natI, List.mem_map] at ht
      obtain ⟨n, hn, rfl⟩ := ht
      have := c3 n hn; omega
    · simp only [wbyt, nats_natI]
      rw [show (natI (rnums b 0 24 15).1).length = (rnums b 0 24 15).1.length by simp [natI]]
      simpa using c1.symm
theorem wbyt_inj {w v : List Int} (hw : rightW w = true) (hv : rightW v = true) (h : wbyt w = wbyt v) : w = v := by
  have h1 := readR_wbyt hw
  have h2 := readR_wbyt hv
  rw [h, h2] at h1
  simpa using h1.symm

section
variable {X : Cx} {h : AH} {Q : V → AH → Prop}
theorem bytes4_spec (L : LWo X) (w : List Int) (s : Nat) (hl : w.length < 2 ^ 64) (hQ : Q (wbytV w) h) : Ecx X K.word_Bytes [.sl 1 s (ints w)] h Q := by
  refine fn_walk L.bytes (by simp [A.word_Bytes]) fun wf => ?_
  unfold wbytV bytesR at hQ
  simp [A.word_Bytes]
  refine ecall (right_spec L w s hl ?_)
  cases hr : rightW w with
  | false =>
    rw [hr] at hQ
    simp at hQ ⊢
    exact fin_wk (Gr.refl h) (Wk.t2 (.nil _ 1 _) _) (by simp) hQ
  | true =>
    have h24 := rightW_len hr
    have hwl := wbyt_len hr
    rw [hr, if_neg (by simp)] at hQ
    simp [fillV, V.cells, V.good]
    rw [rightW_ints hr]
    have hnl : (nats w).length = w.length := by simp [nats]
    refine ecall (wwnums L.w (nats w) (fun n hn => by simp only [nats, List.mem_map] at hn; obtain ⟨t, ht, rfl⟩ := hn; have := rightW_mem hr t ht; omega) (WO.new h) (by simp; omega) fun h1 st1 we wo => ?_)
    rw [hnl, List.nil_append, show vput w.length ++ vputs (nats w) = wbyt w from rfl] at wo
    have g := (((Gr.refl h).new [.sl 0 1 []]).we we (by omega) (by omega)).1
    simp
    refine ecall (wbytes L.w wo (by omega) ?_)
    simp
    exact fin_wk g (.same _) (by simp [cellsOf_u8s]; exact Bdd_u8s _ _ _) hQ
theorem bytesR_spec (L : LWR X) (w : List Int) (s : Nat) (hl : w.length < 2 ^ 64) (hQ : Q (wbytV w) h) : Ecx X K.probateref04_Bytes [.sl 1 s (ints w)] h Q := by
  refine fn_walk L.bytes (by simp [A.probateref04_Bytes]) fun wf => ?_
  unfold wbytV bytesR at hQ
  simp [A.probateref04_Bytes]
  refine ecall (rightR_spec L.right w s hl ?_)
  cases hr : rightW w with
  | false =>
    rw [hr] at hQ
    simp at hQ ⊢
    exact fin_wk (Gr.refl h) (Wk.t2 (.nil _ 1 _) _) (by simp) hQ
  | true =>
    have h24 := rightW_len hr
    rw [hr, if_neg (by simp)] at hQ
    simp
    rw [rightW_ints hr]
    have hnl : (nats w).length = w.length := by simp [nats]
    refine ecall (rnums_spec L.nums L.rput (nats w) s (fun n hn => by simp only [nats, List.mem_map] at hn; obtain ⟨t, ht, rfl⟩ := hn; have := rightW_mem hr t ht; omega) (by omega) ?_)
    rw [hnl, show vput w.length ++ vputs (nats w) = wbyt w from rfl]
    simp
    exact fin_wk (Gr.refl h) (.same _) (by simp [cellsOf_u8s]; exact Bdd_u8s _ _ _) hQ
theorem read4_spec (L : LWo X) (b : List Nat) (e st : Nat) (he : u8s b ≠ [] → e = 1) (hst : st = 1 → b = []) (hl : b.length ≤ 2 ^ 40) (hb : ∀ x ∈ b, x < 256) (hQ : Q (readV b) h) : Ecx X K.word_Read [.sl e st (u8s b)] h Q := by
  refine fn_walk L.read (by simp [A.word_Read]) fun wf => ?_
  unfold readV readR at hQ
  simp [A.word_Read]
  refine ecall (wnew L.r (fun hne => he (by intro e0; apply hne; simpa [u8s] using e0)) hst (by omega) ?_)
  simp
  refine ecall (wnums L.r (o := h.nobj) (l := b) (e := 0) 24 15 ⟨by unfold maxLen; omega, hb, fun e => absurd rfl e⟩ (by omega) (by omega) (by simp) ?_)
  simp
  generalize rnums b 0 24 15 = R at *
  refine ecall (wend L.r (o := h.nobj) (l := R.2.1) (e := R.2.2) (by simp) ?_)
  have g := (Gr.refl h).new (robj R.2.1 R.2.2)
  by_cases hr : rend R.2.1 R.2.2 = 0
  · rw [if_neg (by simp [hr])] at hQ
    rw [i64s_ints]
    simp [hr]
    exact fin_wk g (.same _) (by simpa using Bdd_ints _ _ _) hQ
  · rw [if_pos hr] at hQ
    simp [hr]
    exact fin_wk g (Wk.t2 (.nil _ 1 _) _) (by simp) hQ
theorem readR4_spec (L : LWR X) (b : List Nat) (st : Nat) (hl : b.length ≤ 2 ^ 40) (hb : ∀ x ∈ b, x < 256) (hQ : Q (readV b) h) : Ecx X K.probateref04_Read [.sl 1 0 (u8s b)] h Q := by
  refine fn_walk L.read (by simp [A.probateref04_Read]) fun wf => ?_
  unfold readV readR at hQ
  simp [A.probateref04_Read, fillV, V.cells, V.good, setAt]
  have hs := rnumsR_sim b 0 24 15
  have ha : absR (b, 0) = (b, 0) := by simp [absR]
  rw [ha] at hs
  refine ecall (qnums L.q (o := h.nobj) (b := b) (e := 0) 24 15 ⟨by unfold maxLen; omega, hb⟩ (by omega) (by omega) (by simp [robj]) ?_)
  simp
  obtain ⟨s1, s2⟩ := hs
  have g := (Gr.refl h).new (robj (rnumsR b 0 24 15).2.1 (rnumsR b 0 24 15).2.2)
  refine ecall (qend L.q (o := h.nobj) (b := (rnumsR b 0 24 15).2.1) (e := (rnumsR b 0 24 15).2.2) (by simp) ?_)
  rw [s2, s1]
  generalize rnums b 0 24 15 = R at *
  by_cases hr : rend R.2.1 R.2.2 = 0
  · rw [if_neg (by simp [hr])] at hQ
    rw [i64s_ints]
    simp [hr]
    exact fin_wk g (.same _) (by simpa using Bdd_ints _ _ _) hQ
  · rw [if_pos hr] at hQ
    simp [hr]
    refine ecall (qend L.q (o := h.nobj) (b := (rnumsR b 0 24 15).2.1) (e := (rnumsR b 0 24 15).2.2) (by simp) ?_)
    rw [s2]
    simp
    exact fin_wk g (Wk.t2 (.nil _ 1 _) _) (by simp) hQ
end
end Go.Proofs.Ytbbmglginkabfaa.Al
