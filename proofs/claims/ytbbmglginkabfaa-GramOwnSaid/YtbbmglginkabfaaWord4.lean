/-
  Layer 4, word: the reference's Apply, bytes and words, by the abstract layer. Conditions: each theorem's own.
-/
import Derived.Test.YtbbmglginkabfaaWord3
namespace Go.Proofs.Ytbbmglginkabfaa.Al
open Go Go.RowKit
set_option linter.unusedSimpArgs false
set_option linter.unusedVariables false
attribute [-simp] List.getD_eq_getElem?_getD Int.not_lt Int.not_le List.map_take

/-! ### What becomes of a word, place by place -/
def atI (l : List Ed) (i : Nat) : List Int := (l.filter fun (x : Ed) => decide (x.at' = (i : Int)) && !x.drop).map Ed.tok
def goneI (l : List Ed) (i : Nat) : Bool := l.any fun (x : Ed) => decide (x.at' = (i : Int)) && x.drop
def posI (w : List Int) (l : List Ed) (i : Nat) : List Int := atI l i ++ (if i < w.length ∧ goneI l i = false then [w.getD i 0] else [])
def refF (w : List Int) (l : List Ed) : Nat → Nat → List Int
  | 0, _ => []
  | r + 1, i => posI w l i ++ refF w l r (i + 1)
theorem mayF_ge : ∀ {l : List Ed} {a : Int} {d : Bool} {size : Int}, mayF l a d size = true → ∀ y ∈ l, a ≤ y.at' ∧ (d = true → a < y.at')
  | [], _, _, _, _, y, hy => by simp at hy
  | x :: l, a, d, size, h, y, hy => by
    rw [show mayF (x :: l) a d size = (fineB x a d size && mayF l x.at' x.drop size) from rfl, Bool.and_eq_true] at h
    obtain ⟨f1, f2, f3, f4, f5, f6, f7⟩ := fineB_at h.1
    rcases List.mem_cons.1 hy with rfl | hy
    · exact ⟨f3, f4⟩
    · obtain ⟨h1, h2⟩ := mayF_ge h.2 y hy
      exact ⟨by omega, fun e => by have := f4 e; omega⟩
theorem mayF_up : ∀ {l : List Ed} {a : Int} {d : Bool} {size a' : Int}, mayF l a d size = true → (∀ y ∈ l, a' ≤ y.at') → mayF l a' false size = true
  | [], _, _, _, _, _, _ => rfl
  | x :: l, a, d, size, a', h, hy => by
    rw [show mayF (x :: l) a d size = (fineB x a d size && mayF l x.at' x.drop size) from rfl, Bool.and_eq_true] at h
    rw [show mayF (x :: l) a' false size = (fineB x a' false size && mayF l x.at' x.drop size) from rfl, Bool.and_eq_true]
    obtain ⟨f1, f2, f3, f4, f5, f6, f7⟩ := fineB_at h.1
    exact ⟨fineB_iff.2 ⟨f1, f2, hy x (by simp), by simp, f5, f6, f7⟩, h.2⟩
theorem atI_lt {l : List Ed} {i : Nat} (h : ∀ y ∈ l, (i : Int) < y.at') : atI l i = [] := by
  simp only [atI, List.map_eq_nil_iff, List.filter_eq_nil_iff]
  intro y hy; have := h y hy; simp; omega
theorem goneI_lt {l : List Ed} {i : Nat} (h : ∀ y ∈ l, (i : Int) < y.at') : goneI l i = false := by
  simp only [goneI, List.any_eq_false]
  intro y hy; have := h y hy; simp; omega
theorem refF_skip {w : List Int} {x : Ed} {l : List Ed} : ∀ (r i : Nat), x.at' < i → refF w (x :: l) r i = refF w l r i
  | 0, i, h => rfl
  | r + 1, i, h => by
    have h1 : ¬ x.at' = i := by omega
    simp only [refF, posI, atI, goneI, List.filter_cons, List.any_cons, h1, decide_false, Bool.false_and, Bool.false_or, if_false]
    have := refF_skip (w := w) (x := x) (l := l) r (i + 1) (by omega)
    rw [this]; rfl
theorem appF_ref (w : List Int) : ∀ (r : Nat) (l : List Ed) (i : Nat), i + r = w.length + 1 → mayF l i false w.length = true → appF w l i = refF w l r i
  | 0, l, i, hr, hm => by
    cases l with
    | nil => simp [appF, refF]; omega
    | cons x l =>
      rw [show mayF (x :: l) i false w.length = (fineB x i false w.length && mayF l x.at' x.drop w.length) from rfl, Bool.and_eq_true] at hm
      have := fineB_at hm.1
      omega
  | r + 1, [], i, hr, hm => by
    have ih := appF_ref w r [] (i + 1) (by omega) rfl
    rw [show appF w [] (i + 1) = w.drop (i + 1) from rfl] at ih
    show w.drop i = posI w [] i ++ refF w [] r (i + 1)
    rw [← ih]
    by_cases hi : i < w.length
    · rw [List.drop_eq_getElem_cons hi]; simp [posI, atI, goneI, hi, List.getD]
    · rw [List.drop_eq_nil_of_le (by omega), List.drop_eq_nil_of_le (by omega)]; simp [posI, atI, goneI, hi]
  | r + 1, x :: l, i, hr, hm => by
    have hge := mayF_ge hm
    have hm0 := hm
    rw [show mayF (x :: l) i false w.length = (fineB x i false w.length && mayF l x.at' x.drop w.length) from rfl, Bool.and_eq_true] at hm
    obtain ⟨hf, hm⟩ := hm
    obtain ⟨f1, f2, f3, f4, f5, f6, f7⟩ := fineB_at hf
    by_cases hx : x.at' = i
    · have hxn : x.at'.toNat = i := by omega
      have e0 : (w.take i).drop i = [] := List.drop_eq_nil_of_le (by simp; omega)
      cases hd : x.drop
      · rw [hd, hx] at hm
        have ih := appF_ref w (r + 1) l i hr hm
        rw [show appF w (x :: l) i = (w.take x.at'.toNat).drop i ++ (if x.drop = true then appF w l (x.at'.toNat + 1) else x.tok :: appF w l x.at'.toNat) from rfl, hxn, e0, hd]
        simp only [Bool.false_eq_true, if_false, List.nil_append]
        rw [ih]
        simp only [refF, refF_skip (l := l) (x := x) r (i + 1) (by omega)]
        simp [posI, atI, goneI, hx, hd]
      · have hgt := mayF_ge hm
        rw [hd] at hgt
        have hgt2 : ∀ y ∈ l, (i : Int) < y.at' := fun y hy => by have := (hgt y hy).2 rfl; omega
        have ih := appF_ref w r l (i + 1) (by omega) (mayF_up hm fun y hy => by have := hgt2 y hy; omega)
        rw [show appF w (x :: l) i = (w.take x.at'.toNat).drop i ++ (if x.drop = true then appF w l (x.at'.toNat + 1) else x.tok :: appF w l x.at'.toNat) from rfl, hxn, e0, hd]
        simp only [if_true, List.nil_append]
        rw [ih]
        simp only [refF, refF_skip (l := l) (x := x) r (i + 1) (by omega)]
        have a1 : atI (x :: l) i = [] := by
          have := atI_lt hgt2
          simp only [atI, List.filter_cons, hd] at this ⊢
          simpa using this
        simp [posI, a1, goneI, hx, hd]
    · have hgt2 : ∀ y ∈ x :: l, (i : Int) < y.at' := fun y hy => by
        rcases List.mem_cons.1 hy with rfl | hy
        · omega
        · have := (mayF_ge hm y hy).1; omega
      have hil : i < w.length := by omega
      have ih := appF_ref w r (x :: l) (i + 1) (by omega) (mayF_up hm0 fun y hy => by have := hgt2 y hy; omega)
      have e1 : appF w (x :: l) i = w[i] :: appF w (x :: l) (i + 1) := by
        show (w.take x.at'.toNat).drop i ++ _ = w[i] :: ((w.take x.at'.toNat).drop (i + 1) ++ _)
        rw [List.drop_eq_getElem_cons (by simp; omega)]
        simp
      rw [e1, ih]
      simp only [refF, posI, atI_lt hgt2, goneI_lt hgt2]
      simp [hil, List.getD]
theorem posI_len (w : List Int) (l : List Ed) (i : Nat) : (posI w l i).length ≤ l.length + 1 := by
  have := List.length_filter_le (fun x : Ed => decide (x.at' = (i : Int)) && !x.drop) l
  unfold posI atI
  simp only [List.length_append, List.length_map]
  split
  · simp; omega
  · simp; omega
theorem refF_len (w : List Int) (l : List Ed) : ∀ r i, (refF w l r i).length ≤ r * (l.length + 1)
  | 0, i => by simp [refF]
  | r + 1, i => by
    have h1 := posI_len w l i
    have h2 := refF_len w l r (i + 1)
    have : (r + 1) * (l.length + 1) = r * (l.length + 1) + (l.length + 1) := by rw [Nat.add_mul]; simp
    simp only [refF, List.length_append]; omega
section
variable {X : Cx} {h : AH} {Q : V → AH → Prop}
/-- What layer 4's reference calls. -/
structure LWR (X : Cx) : Prop where
  right : Has (Ecx X) K.probateref04_Right A.probateref04_Right
  fits : Has (Ecx X) K.probateref04_Fits A.probateref04_Fits
  bytes : Has (Ecx X) K.probateref04_Bytes A.probateref04_Bytes
  read : Has (Ecx X) K.probateref04_Read A.probateref04_Read
  may : Has (Ecx X) K.probateref04_May A.probateref04_May
  apply : Has (Ecx X) K.probateref04_Apply A.probateref04_Apply
  nums : Has (Ecx X) K.probateref02_Nums A.probateref02_Nums
  rput : Has (Ecx X) K.probateref01_Put A.probateref01_Put
  q : LQ X
theorem applyR_spec (L0 : LWR X) (w : List Int) (l : List Ed) (s t : Nat) (hw : w.length < 2 ^ 64) (hl : l.length ≤ 2 ^ 20) (hQ : Q (applyV w l) h) : Ecx X K.probateref04_Apply [.sl 1 s (ints w), .sl 3 t (l.map edV)] h Q := by
  refine fn_walk L0.apply (by simp [A.probateref04_Apply]) fun wf => ?_
  unfold applyV applyR at hQ
  simp [A.probateref04_Apply]
  refine ecall (rightR_spec L0.right w s hw ?_)
  cases hr : rightW w with
  | false =>
    rw [hr] at hQ
    simp at hQ ⊢
    exact fin_wk (Gr.refl h) (Wk.t2 (.nil _ 1 _) _) (by simp) hQ
  | true =>
  have h24 := rightW_len hr
  rw [hr, if_neg (by simp)] at hQ
  simp
  refine ecall (mayR_spec L0.may l w.length t (by omega) ?_)
  cases hm : mayB l w.length with
  | false =>
    rw [hm] at hQ
    simp at hQ ⊢
    exact fin_wk (Gr.refl h) (Wk.t2 (.nil _ 1 _) _) (by simp) hQ
  | true =>
  rw [hm, if_neg (by simp), appF_ref w (w.length + 1) l 0 (by omega) hm] at hQ
  have hrl := refF_len w l (w.length + 1) 0
  have hrl2 : (w.length + 1) * (l.length + 1) ≤ 2 ^ 28 := by
    have : (w.length + 1) * (l.length + 1) ≤ 25 * (l.length + 1) := Nat.mul_le_mul_right _ (by omega)
    omega
  generalize hR : refF w l (w.length + 1) 0 = R at *
  simp [fillL]
  refine loopI (n := w.length + 1) (fun n env h' => ∃ i out e1 st, i + n = w.length + 1 ∧ env = [(0, .sl 1 s (ints w)), (1, .sl 3 t (l.map edV)), (6, .sl e1 st (ints out)), (7, .int .i64 (i : Nat))] ∧ Own h h' 1 e1 st (ints out) ∧ out ++ refF w l n i = R) ?_
    ⟨0, [], 1, 2, by omega, rfl, Own.full (Gr.refl h) 1 [], hR⟩
  rintro n env h' ⟨i, out, e1, st, hi, rfl, ow, ho⟩
  unfold A.probateref04_Apply.L0
  cases n with
  | zero =>
    have hlt' : ¬ (i : Int) ≤ w.length := by omega
    simp only [refF, List.append_nil] at ho
    rw [ho] at ow ⊢
    simp [hlt']
    by_cases c : 24 < R.length
    · have c' : (24 : Int) < R.length := by omega
      rw [if_pos c] at hQ
      simp [c']
      exact fin_wk ow.gr (Wk.t2 (.nil _ 1 _) _) (by simp) hQ
    · have c' : ¬ (24 : Int) < R.length := by omega
      rw [if_neg c] at hQ
      simp [c']
      exact fin_wk ow.gr (Wk.t2 ow.wk _) (by simpa using Bdd_ints _ _ _) hQ
  | succ n =>
    have hlt' : (i : Int) ≤ w.length := by omega
    have hw1 : IntKind.i64.wrap ((i : Int) + 1) = ((i + 1 : Nat) : Int) := by rw [wrap_i64 (by omega) (by omega)]; rfl
    have hRl := congrArg List.length ho
    simp only [List.length_append] at hRl
    simp only [refF] at ho
    have hdi : decide ((i : Int) = w.length) = decide (i = w.length) := by by_cases c : i = w.length <;> simp [c]; omega
    simp [hlt', hdi]
    refine loopI (n := l.length) (fun m env h2 => ∃ k e2 st2, k ≤ l.length ∧ m = l.length - k ∧ env = [(0, .sl 1 s (ints w)), (1, .sl 3 t (l.map edV)), (6, .sl e2 st2 (ints (out ++ atI (l.take k) i))), (7, .int .i64 (i : Nat)), (8, .bool (decide (i = w.length) || goneI (l.take k) i)), (9, .int .i64 (k : Nat))] ∧ Own h h2 1 e2 st2 (ints (out ++ atI (l.take k) i))) ?_
      ⟨0, e1, st, by omega, by omega, by simp [atI, goneI], by simpa [atI] using ow⟩
    rintro m env h2 ⟨k, e2, st2, hk, rfl, rfl, ow2⟩
    unfold A.probateref04_Apply.L1
    by_cases hlt : k < l.length
    · have hlt2 : (k : Int) < l.length := by omega
      have hg := eds_getD hlt
      have hw2 : IntKind.i64.wrap ((k : Int) + 1) = ((k + 1 : Nat) : Int) := by rw [wrap_i64 (by omega) (by omega)]; rfl
      have a1 : atI (l.take (k + 1)) i = atI (l.take k) i ++ (if l[k].at' = i ∧ l[k].drop = false then [l[k].tok] else []) := by
        rw [List.take_succ_eq_append_getElem hlt]
        simp only [atI, List.filter_append, List.map_append, List.filter_cons, List.filter_nil]
        by_cases c1 : l[k].at' = i <;> cases c2 : l[k].drop <;> simp [c1, c2]
      have a2 : goneI (l.take (k + 1)) i = (goneI (l.take k) i || (decide (l[k].at' = i) && l[k].drop)) := by
        rw [List.take_succ_eq_append_getElem hlt]; simp only [goneI, List.any_append, List.any_cons, List.any_nil, Bool.or_false]
      have a3 := List.length_filter_le (fun x : Ed => decide (x.at' = (i : Int)) && !x.drop) (l.take k)
      have a4 : (atI (l.take k) i).length ≤ k := by simp [atI] at a3 ⊢; omega
      generalize l[k] = x at *
      by_cases c1 : x.at' = i
      · cases c2 : x.drop
        · rw [c2] at a1 a2
          simp [c1] at a1 a2
          simp [hlt2, hg, V.cells, edC, c1, c2, hw2, fillL, V.good, V.isAgg]
          refine ow2.appZ (fun _ => rfl) (by simp; omega) fun e3 st3 h3 o3 _ _ => ?_
          have em : ints (out ++ atI (l.take k) i) ++ [V.int .i64 x.tok] = ints (out ++ atI (l.take (k + 1)) i) := by rw [a1]; simp [ints]
          rw [em] at o3 ⊢
          simp
          exact ⟨l.length - (k + 1), by omega, iv ⟨k + 1, e3, st3, by omega, rfl, by rw [a2]; simp [hw2], o3⟩⟩
        · rw [c2] at a1 a2
          simp [c1] at a1 a2
          simp [hlt2, hg, V.cells, edC, c1, c2, hw2]
          exact ⟨l.length - (k + 1), by omega, iv ⟨k + 1, e2, st2, by omega, rfl, by rw [a1, a2]; simp, by rw [a1]; exact ow2⟩⟩
      · simp [c1] at a1 a2
        simp [hlt2, hg, V.cells, edC, c1, hw2]
        exact ⟨l.length - (k + 1), by omega, iv ⟨k + 1, e2, st2, by omega, rfl, by rw [a1, a2]; rfl, by rw [a1]; exact ow2⟩⟩
    · have hlt2 : ¬ (k : Int) < l.length := by omega
      obtain rfl : k = l.length := by omega
      rw [List.take_length] at *
      have hpl := posI_len w l i
      by_cases c : i < w.length ∧ goneI l i = false
      · have hg := ints_get c.1
        have hi3 : (i : Int) < w.length := by omega
        have hne : ¬ i = w.length := by omega
        have hp : posI w l i = atI l i ++ [w[i]] := by simp [posI, c, List.getD, List.getElem?_eq_getElem c.1]
        rw [hp] at ho hpl
        simp at hpl
        simp [hne, c.2, hi3, hg, V.cells, fillL, V.good, V.isAgg, hw1]
        refine ow2.appZ (fun _ => rfl) (by simp; omega) fun e3 st3 h3 o3 _ _ => ?_
        have em : ints (out ++ atI l i) ++ [V.int .i64 w[i]] = ints (out ++ (atI l i ++ [w[i]])) := by simp [ints]
        rw [em] at o3 ⊢
        simp
        exact ⟨n, by omega, iv ⟨i + 1, out ++ (atI l i ++ [w[i]]), e3, st3, by omega, by simp [hw1], o3, by rw [← ho]; simp⟩⟩
      · have hb : (decide (i = w.length) || goneI l i) = true := by
          by_cases c1 : i = w.length
          · simp [c1]
          · cases c2 : goneI l i
            · exact absurd ⟨by omega, c2⟩ c
            · simp
        have hp : posI w l i = atI l i := by simp only [posI, if_neg c, List.append_nil]
        rw [hp] at ho
        simp [hb, hw1]
        exact ⟨n, by omega, iv ⟨i + 1, out ++ atI l i, e2, st2, by omega, by simp [hw1], ow2, by rw [← ho]; simp⟩⟩
end
end Go.Proofs.Ytbbmglginkabfaa.Al
