/-
  Layer 4, word: Apply, by the abstract layer. Conditions: each theorem's own.
-/
import Derived.Test.YtbbmglginkabfaaWord2
namespace Go.Proofs.Ytbbmglginkabfaa.Al
open Go Go.RowKit
set_option linter.unusedSimpArgs false
set_option linter.unusedVariables false
attribute [-simp] List.getD_eq_getElem?_getD Int.not_lt Int.not_le List.map_take

/-- Objects of Apply: how many tokens were put (m), and the first 24 of them (o). -/
structure PO (h0 h : AH) (m o : Nat) (L : List Int) : Prop where
  own : ∃ e st, Own h0 h 1 e st (ints (L.take 24)) ∧ h.objs o = [.sl e st (ints (L.take 24))]
  many : h.objs m = [.int .i64 L.length]
  hm : h0.nobj ≤ m
  ho : h0.nobj ≤ o
  ne : ¬ m = o
  lm : m < h.nobj
  lo : o < h.nobj
theorem PO.new {h0 h : AH} {m o : Nat} {L : List Int} (p : PO h0 h m o L) (z : List V) : PO h0 (h.new z) m o L := by
  obtain ⟨e, st, ow, ob⟩ := p.own
  have := p.lm
  have := p.lo
  exact ⟨⟨e, st, ⟨ow.gr.new z, ow.el, ow.st⟩, by rw [new_objs_ne _ _ (by omega)]; exact ob⟩, by rw [new_objs_ne _ _ (by omega)]; exact p.many, p.hm, p.ho, p.ne, by simp; omega, by simp; omega⟩
theorem PO.set {h0 h : AH} {m o : Nat} {L : List Int} (p : PO h0 h m o L) {q : Nat} (hq : h0.nobj ≤ q) (h1 : ¬ m = q) (h2 : ¬ o = q) (z : List V) : PO h0 (h.set q z) m o L := by
  obtain ⟨e, st, ow, ob⟩ := p.own
  exact ⟨⟨e, st, ⟨ow.gr.set hq z, ow.el, ow.st⟩, by rw [set_objs_ne _ _ _ h2]; exact ob⟩, by rw [set_objs_ne _ _ _ h1]; exact p.many, p.hm, p.ho, p.ne, p.lm, p.lo⟩
theorem PO.gr {h0 h : AH} {m o : Nat} {L : List Int} (p : PO h0 h m o L) : Gr h0 h := by obtain ⟨e, st, ow, _⟩ := p.own; exact ow.gr
section
variable {X : Cx} {h : AH} {Q : V → AH → Prop}
theorem put4_spec (L0 : LWo X) {h0 : AH} {m o : Nat} {L : List Int} (t : Int) (p : PO h0 h m o L) (hl : L.length < 2 ^ 40)
    (hQ : ∀ h', PO h0 h' m o (L ++ [t]) → (∀ q, ¬ q = m → ¬ q = o → h'.objs q = h.objs q) → h'.nobj = h.nobj → Q (.tup []) h') : Ecx X K.word_Apply_1 [.int .i64 t, .ptr m 0, .ptr o 0] h Q := by
  refine fn_any L0.put (by simp [A.word_Apply_1]) fun wf => ?_
  obtain ⟨e, st, ow, ob⟩ := p.own
  have hm := p.many
  have hne := p.ne
  have hne' : ¬ o = m := fun e => hne e.symm
  have hw1 : IntKind.i64.wrap ((L.length : Int) + 1) = (L.length : Int) + 1 := wrap_i64 (by omega) (by omega)
  by_cases c : L.length + 1 ≤ 24
  · have c' : (L.length : Int) + 1 ≤ 24 := by omega
    have ow2 : Own h0 (h.set m [.int .i64 ((L.length : Int) + 1)]) 1 e st (ints (L.take 24)) := ⟨ow.gr.set p.hm _, ow.el, ow.st⟩
    simp [A.word_Apply_1, hm, ob, hw1, c', V.cells, V.good, setAt, hne, hne', fillL, V.isAgg]
    refine ow2.appZ (fun _ => rfl) (by simp; omega) fun e2 st2 h2 o2 ob2 no2 => ?_
    have em : ints (L.take 24) ++ [.int .i64 t] = ints ((L ++ [t]).take 24) := by
      rw [List.take_of_length_le (by omega), List.take_of_length_le (by simp; omega)]; simp [ints]
    rw [em] at o2 ⊢
    simp [ob2, ob, hne', setAt, V.cells, V.good]
    refine hQ _ ⟨⟨e2, st2, ⟨o2.gr.set p.ho _, o2.el, o2.st⟩, by simp⟩, by simp [hne, ob2], p.hm, p.ho, p.ne, by simp [no2]; exact p.lm, by simp [no2]; exact p.lo⟩ (fun q q1 q2 => by simp [q1, q2, ob2]) (by simp [no2])
  · have c' : ¬ (L.length : Int) + 1 ≤ 24 := by omega
    simp [A.word_Apply_1, hm, ob, hw1, c', V.cells, V.good, setAt, hne, hne', fillL, V.isAgg]
    have em : (L ++ [t]).take 24 = L.take 24 := by rw [List.take_append_of_le_length (by omega)]
    refine hQ _ ⟨⟨e, st, ⟨?_, ?_, ?_⟩, ?_⟩, by simp, p.hm, p.ho, p.ne, by simp; exact p.lm, by simp; exact p.lo⟩ (fun q q1 q2 => by simp [q1]) (by simp)
    · exact ow.gr.set p.hm _
    · rw [em]; exact ow.el
    · exact ow.st
    · rw [em]; simp [hne', ob]
theorem applyL1 (L0 : LWo X) {h0 : AH} {m o p : Nat} {w : List Int} {s i a : Nat} {vl : V} {n k : Int} {at' : Int} {L : List Int} {b t : V} (hia : i ≤ a) (haw : a ≤ w.length) (ha : at' = a) (hw : w.length ≤ 24) (hL : L.length ≤ 2 ^ 30) (po : PO h0 h m o L) (hp : h.objs p = [.int .i64 at', b, t]) (pm : ¬ p = m) (pp : ¬ p = o)
    {Q : Ex → Env → AH → Prop} {zQ : Lz Q} {z : Lz (AC.loop A.word_Apply.L1)}
    (hQ : ∀ h', PO h0 h' m o (L ++ (w.take a).drop i) → h'.objs p = h.objs p → h'.nobj = h.nobj → Q (.exit 3) [(0, .sl 1 s (ints w)), (6, .ptr o 0), (7, .ptr m 0), (8, .fn K.word_Apply_1 [] [.ptr m 0, .ptr o 0]), (9, .int .i64 a), (11, .ptr p 0), (23, vl), (24, .int .i64 n), (25, .int .i64 k), (32, .bool false)] h') :
    acZ (Ecx X) [(0, .sl 1 s (ints w)), (6, .ptr o 0), (7, .ptr m 0), (8, .fn K.word_Apply_1 [] [.ptr m 0, .ptr o 0]), (9, .int .i64 i), (11, .ptr p 0), (23, vl), (24, .int .i64 n), (25, .int .i64 k)] h z zQ := by
  refine loopI (n := a - i) (fun r env h' => ∃ j, i ≤ j ∧ j ≤ a ∧ r = a - j ∧ env = [(0, .sl 1 s (ints w)), (6, .ptr o 0), (7, .ptr m 0), (8, .fn K.word_Apply_1 [] [.ptr m 0, .ptr o 0]), (9, .int .i64 (j : Nat)), (11, .ptr p 0), (23, vl), (24, .int .i64 n), (25, .int .i64 k)] ∧ PO h0 h' m o (L ++ (w.take j).drop i) ∧ h'.objs p = h.objs p ∧ h'.nobj = h.nobj) ?_
    ⟨i, by omega, by omega, rfl, rfl, by rw [List.drop_eq_nil_of_le (by simp; omega), List.append_nil]; exact po, rfl, rfl⟩
  rintro r env h' ⟨j, hij, hja, rfl, rfl, po', hp', hn'⟩
  unfold A.word_Apply.L1
  by_cases hlt : j < a
  · have hlt' : (j : Int) < at' := by omega
    have hjw : (j : Int) < w.length := by omega
    have hg := ints_get (show j < w.length by omega)
    have hw1 : IntKind.i64.wrap ((j : Int) + 1) = ((j + 1 : Nat) : Int) := by rw [wrap_i64 (by omega) (by omega)]; rfl
    simp [hp', hp, hlt', hjw, hg, V.cells]
    have hlen : (L ++ (w.take j).drop i).length < 2 ^ 40 := by simp; omega
    refine ecall (put4_spec L0 _ po' hlen fun h2 po2 hq hn2 => ?_)
    simp [hw1]
    refine ⟨a - (j + 1), by omega, iv ⟨j + 1, by omega, by omega, rfl, rfl, ?_, by rw [hq p pm pp]; exact hp', by rw [hn2]; exact hn'⟩⟩
    rw [List.append_assoc] at po2
    have : (w.take (j + 1)).drop i = (w.take j).drop i ++ [w[j]] := by rw [List.take_succ_eq_append_getElem (by omega), List.drop_append_of_le_length (by simp; omega)]
    rw [this]; exact po2
  · have hlt' : ¬ (j : Int) < at' := by omega
    obtain rfl : j = a := by omega
    simp [hp', hp, hlt']
    exact hQ _ po' hp' hn'
theorem applyL2 (L0 : LWo X) {h0 : AH} {m o : Nat} {w : List Int} {s i : Nat} {L : List Int} (hia : i ≤ w.length) (hw : w.length ≤ 24) (hL : L.length ≤ 2 ^ 30) (po : PO h0 h m o L)
    {Q : Ex → Env → AH → Prop} {zQ : Lz Q} {z : Lz (AC.loop A.word_Apply.L2)}
    (hQ : ∀ h' x, PO h0 h' m o (L ++ w.drop i) → Q (.exit 5) [(0, .sl 1 s (ints w)), (6, .ptr o 0), (7, .ptr m 0), (8, .fn K.word_Apply_1 [] [.ptr m 0, .ptr o 0]), (9, .int .i64 x), (53, .bool false)] h') :
    acZ (Ecx X) [(0, .sl 1 s (ints w)), (6, .ptr o 0), (7, .ptr m 0), (8, .fn K.word_Apply_1 [] [.ptr m 0, .ptr o 0]), (9, .int .i64 i)] h z zQ := by
  refine loopI (n := w.length - i) (fun r env h' => ∃ j, i ≤ j ∧ j ≤ w.length ∧ r = w.length - j ∧ env = [(0, .sl 1 s (ints w)), (6, .ptr o 0), (7, .ptr m 0), (8, .fn K.word_Apply_1 [] [.ptr m 0, .ptr o 0]), (9, .int .i64 (j : Nat))] ∧ PO h0 h' m o (L ++ (w.take j).drop i)) ?_
    ⟨i, by omega, by omega, rfl, rfl, by rw [List.drop_eq_nil_of_le (by simp; omega), List.append_nil]; exact po⟩
  rintro r env h' ⟨j, hij, hja, rfl, rfl, po'⟩
  unfold A.word_Apply.L2
  by_cases hlt : j < w.length
  · have hlt' : (j : Int) < w.length := by omega
    have hg := ints_get hlt
    have hw1 : IntKind.i64.wrap ((j : Int) + 1) = ((j + 1 : Nat) : Int) := by rw [wrap_i64 (by omega) (by omega)]; rfl
    simp [hlt', hg, V.cells]
    have hlen : (L ++ (w.take j).drop i).length < 2 ^ 40 := by simp; omega
    refine ecall (put4_spec L0 _ po' hlen fun h2 po2 hq hn2 => ?_)
    simp [hw1]
    refine ⟨w.length - (j + 1), by omega, iv ⟨j + 1, by omega, by omega, rfl, rfl, ?_⟩⟩
    rw [List.append_assoc] at po2
    have : (w.take (j + 1)).drop i = (w.take j).drop i ++ [w[j]] := by rw [List.take_succ_eq_append_getElem (by omega), List.drop_append_of_le_length (by simp; omega)]
    rw [this]; exact po2
  · have hlt' : ¬ (j : Int) < w.length := by omega
    obtain rfl : j = w.length := by omega
    rw [List.take_length] at po'
    simp [hlt']
    exact hQ _ _ po'
def applyV (w : List Int) (l : List Ed) : V := .tup [.sl 1 0 (ints (applyR w l).1), .int .i64 (applyR w l).2]
theorem rightW_len {w : List Int} (h : rightW w = true) : w.length ≤ 24 := by simp only [rightW, Bool.and_eq_true, decide_eq_true_eq] at h; exact h.1
theorem appF_len (w : List Int) : ∀ (l : List Ed) (i : Nat), (appF w l i).length ≤ w.length * (l.length + 1) + l.length
  | [], i => by simp [appF]
  | x :: l, i => by
    unfold appF
    have h1 := appF_len w l (x.at'.toNat + 1)
    have h2 := appF_len w l x.at'.toNat
    have e : w.length * ((x :: l).length + 1) = w.length * (l.length + 1) + w.length := by rw [Nat.mul_add]; simp
    split
    · simp only [List.length_append, List.length_drop, List.length_take]; simp only [List.length_cons] at e ⊢; omega
    · simp only [List.length_append, List.length_drop, List.length_take]; simp only [List.length_cons] at e ⊢; omega
theorem apply_spec (L0 : LWo X) (w : List Int) (l : List Ed) (s t : Nat) (hw : w.length < 2 ^ 64) (hl : l.length ≤ 2 ^ 20) (hQ : Q (applyV w l) h) : Ecx X K.word_Apply [.sl 1 s (ints w), .sl 3 t (l.map edV)] h Q := by
  refine fn_walk L0.apply (by simp [A.word_Apply]) fun wf => ?_
  unfold applyV applyR at hQ
  simp [A.word_Apply]
  refine ecall (right_spec L0 w s hw ?_)
  cases hr : rightW w with
  | false =>
    rw [hr] at hQ
    simp at hQ ⊢
    exact fin_wk (Gr.refl h) (Wk.t2 (.nil _ 1 _) _) (by simp) hQ
  | true =>
  have h24 := rightW_len hr
  rw [hr, if_neg (by simp)] at hQ
  simp
  refine ecall (may_spec L0 l w.length t (by omega) ?_)
  cases hm : mayB l w.length with
  | false =>
    rw [hm] at hQ
    simp at hQ ⊢
    exact fin_wk (Gr.refl h) (Wk.t2 (.nil _ 1 _) _) (by simp) hQ
  | true =>
  rw [hm, if_neg (by simp)] at hQ
  have hal := appF_len w l 0
  have hal2 : w.length * (l.length + 1) + l.length ≤ 2 ^ 28 := by
    have : w.length * (l.length + 1) ≤ 24 * (l.length + 1) := Nat.mul_le_mul_right _ h24
    omega
  simp [V.cells, V.good, setAt]
  have po0 : PO h ((h.new [.sl 0 1 []]).new [.int .i64 0]) (h.nobj + 1) h.nobj [] :=
    ⟨⟨0, 1, ⟨((Gr.refl h).new _).new _, .inl rfl, .inl rfl⟩, by simp [ints]⟩, by simp, by omega, by omega, by omega, by simp, by simp⟩
  generalize (h.new [.sl 0 1 []]).new [.int .i64 0] = h3 at *
  refine loopI (n := l.length) (fun n env h' => ∃ k a d L i, k ≤ l.length ∧ n = l.length - k ∧ env = [(0, .sl 1 s (ints w)), (6, .ptr h.nobj 0), (7, .ptr (h.nobj + 1) 0), (8, .fn K.word_Apply_1 [] [.ptr (h.nobj + 1) 0, .ptr h.nobj 0]), (9, .int .i64 (i : Nat)), (23, .sl 3 t (l.map edV)), (24, .int .i64 l.length), (25, .int .i64 (k : Nat))] ∧
      PO h h' (h.nobj + 1) h.nobj L ∧ L ++ appF w (l.drop k) i = appF w l 0 ∧ i ≤ w.length ∧ mayF (l.drop k) a d w.length = true ∧ (i : Int) = a + (if d = true then 1 else 0)) ?_
    ⟨0, 0, false, [], 0, by omega, by omega, rfl, po0, rfl, by omega, hm, by simp⟩
  rintro n env h' ⟨k, a, d, L, i, hk, rfl, rfl, po, hap, hiw, hmay, hia⟩
  unfold A.word_Apply.L0
  have hLl : L.length ≤ 2 ^ 28 := by have := congrArg List.length hap; simp at this; omega
  by_cases hlt : k < l.length
  · have hlt' : (k : Int) < l.length := by omega
    have hg := eds_getD hlt
    have hw1 : IntKind.i64.wrap ((k : Int) + 1) = ((k + 1 : Nat) : Int) := by rw [wrap_i64 (by omega) (by omega)]; rfl
    rw [List.drop_eq_getElem_cons hlt] at hmay hap
    generalize l[k] = x at *
    rw [show ∀ r, mayF (x :: r) a d w.length = (fineB x a d w.length && mayF r x.at' x.drop w.length) from fun _ => rfl, Bool.and_eq_true] at hmay
    obtain ⟨hf, hmay⟩ := hmay
    obtain ⟨f1, f2, f3, f4, f5, f6, f7⟩ := fineB_at hf
    have hix : i ≤ x.at'.toNat := by
      cases d
      · simp at hia; omega
      · have := f4 rfl; simp at hia; omega
    have n1 : ¬ h'.nobj = h.nobj + 1 := by have := po.lm; omega
    have n2 : ¬ h'.nobj = h.nobj := by have := po.lo; omega
    have n3 : ¬ h.nobj + 1 = h'.nobj := by omega
    have n4 : ¬ h.nobj = h'.nobj := by omega
    simp [hlt', hg, V.cells, V.good, setAt, edC]
    rw [show appF w (x :: l.drop (k + 1)) i = (w.take x.at'.toNat).drop i ++ (if x.drop = true then appF w (l.drop (k + 1)) (x.at'.toNat + 1) else x.tok :: appF w (l.drop (k + 1)) x.at'.toNat) from rfl] at hap
    refine applyL1 L0 (a := x.at'.toNat) hix (by omega) (by omega) h24 (by omega) (po.new [.int .i64 x.at', .bool x.drop, .int .i64 x.tok]) (new_objs_same _ _) n1 n2 fun h2 po2 hp2 hn2 => ?_
    have hp3 : h2.objs h'.nobj = [.int .i64 x.at', .bool x.drop, .int .i64 x.tok] := by rw [hp2, new_objs_same]
    cases hd : x.drop
    · rw [hd] at hap hp3
      simp at hap
      simp [hp3, hd]
      have hl3 : (L ++ (w.take x.at'.toNat).drop i).length < 2 ^ 40 := by simp; omega
      refine ecall (put4_spec L0 _ po2 hl3 fun h4 po4 _ _ => ?_)
      simp [hw1]
      exact ⟨l.length - (k + 1), by omega, iv ⟨k + 1, x.at', x.drop, _, x.at'.toNat, by omega, rfl, by simp, po4, by rw [← hap]; simp, by omega, hmay, by rw [hd]; simp; omega⟩⟩
    · rw [hd] at hap hp3
      simp at hap
      have hw2 : IntKind.i64.wrap (((x.at'.toNat : Nat) : Int) + 1) = ((x.at'.toNat + 1 : Nat) : Int) := by rw [wrap_i64 (by omega) (by omega)]; rfl
      simp only [Int.toNat_of_nonneg f1] at hw2
      have f8 := (f5 hd).1
      have hmx : max x.at' 0 = x.at' := by omega
      simp [hp3, hd, hw1, hmx, hw2]
      exact ⟨l.length - (k + 1), by omega, iv ⟨k + 1, x.at', x.drop, _, x.at'.toNat + 1, by omega, rfl, by simp [hmx], po2, by rw [← hap]; simp, by omega, hmay, by rw [hd]; simp; omega⟩⟩
  · have hlt' : ¬ (k : Int) < l.length := by omega
    obtain rfl : k = l.length := by omega
    rw [List.drop_length] at hap
    simp
    refine applyL2 L0 hiw h24 (by omega) po fun h2 x po2 => ?_
    rw [show L ++ w.drop i = appF w l 0 from hap] at po2
    obtain ⟨e, st, ow, ob⟩ := po2.own
    have hmn := po2.many
    by_cases c : 24 < (appF w l 0).length
    · have c' : (24 : Int) < (appF w l 0).length := by omega
      rw [if_pos c] at hQ
      simp [hmn, c']
      exact fin_wk ow.gr (Wk.t2 (.nil _ 1 _) _) (by simp) hQ
    · have c' : ¬ (24 : Int) < (appF w l 0).length := by omega
      rw [if_neg c] at hQ
      rw [List.take_of_length_le (by omega)] at ow ob
      simp [hmn, c', ob]
      exact fin_wk ow.gr (Wk.t2 ow.wk _) (by simpa using Bdd_ints _ _ _) hQ
end
end Go.Proofs.Ytbbmglginkabfaa.Al
