/-
  Layer 3: the reference's Same, awake, and what comes back, by the abstract layer. Conditions: each theorem's own.
-/
import Derived.Test.YtbbmglginkabfaaGram3
import Derived.Test.YtbbmglginkabfaaSim
import Derived.Test.YtbbmglginkabfaaVaryLaw
namespace Go.Proofs.Ytbbmglginkabfaa.Al
open Go Go.RowKit
set_option linter.unusedSimpArgs false
set_option linter.unusedVariables false
attribute [-simp] List.getD_eq_getElem?_getD Int.not_lt Int.not_le List.map_take

section
variable {X : Cx} {h : AH} {Q : V → AH → Prop}
theorem same3R_spec (H : Has (Ecx X) K.probateref03_Same A.probateref03_Same) (a b : Gm) (ha : a.prods.length ≤ 2 ^ 40) (hr : ∀ p ∈ a.prods, p.right.length ≤ 2 ^ 40) (hQ : Q (.bool (decide (a = b))) h) : Ecx X K.probateref03_Same [gmV a, gmV b] h Q := by
  refine fn_walk H (by simp [A.probateref03_Same]) fun wf => ?_
  have gr := ((Gr.refl h).new (gmC a)).new (gmC b)
  have hgc : ∀ g, gmC g = [.int .i64 g.terms, .int .i64 g.nons, .int .i64 g.start, .sl 2 0 (g.prods.map prV)] := fun _ => rfl
  have oa : ((h.new (gmC a)).new (gmC b)).objs h.nobj = gmC a := by simp
  have ob : ((h.new (gmC a)).new (gmC b)).objs (h.nobj + 1) = gmC b := by simp
  have hd : decide (a = b) = (decide (a.terms = b.terms) && decide (a.nons = b.nons) && decide (a.start = b.start) && decide (a.prods = b.prods)) := by
    obtain ⟨t1, n1, s1, p1⟩ := a; obtain ⟨t2, n2, s2, p2⟩ := b
    by_cases e1 : t1 = t2 <;> by_cases e2 : n1 = n2 <;> by_cases e3 : s1 = s2 <;> by_cases e4 : p1 = p2 <;> simp [e1, e2, e3, e4]
  rw [hd] at hQ
  simp [A.probateref03_Same, gmV, V.cells, V.good]
  generalize (h.new (gmC a)).new (gmC b) = h2 at *
  simp [oa, ob, hgc]
  by_cases e1 : a.terms = b.terms
  case neg => simp [e1] at hQ ⊢; exact fin_wk gr (.same _) (by simp) hQ
  by_cases e2 : a.nons = b.nons
  case neg => simp [e1, e2, oa, ob, hgc] at hQ ⊢; exact fin_wk gr (.same _) (by simp) hQ
  by_cases e3 : a.start = b.start
  case neg => simp [e1, e2, e3, oa, ob, hgc] at hQ ⊢; exact fin_wk gr (.same _) (by simp) hQ
  by_cases e4 : a.prods.length = b.prods.length
  case neg =>
    have e4' : ¬ (a.prods.length : Int) = b.prods.length := by omega
    have : ¬ a.prods = b.prods := fun e => e4 (by rw [e])
    simp [e1, e2, e3, e4', oa, ob, hgc, this] at hQ ⊢
    exact fin_wk gr (.same _) (by simp) hQ
  have e4' : (a.prods.length : Int) = b.prods.length := by omega
  simp [e1, e2, e3] at hQ
  simp [e1, e2, e3, e4', oa, ob, hgc]
  refine loopI (n := a.prods.length) (fun m env h' => ∃ k, k ≤ a.prods.length ∧ m = a.prods.length - k ∧ h' = h2 ∧ env = [(2, .ptr h.nobj 0), (3, .ptr (h.nobj + 1) 0), (5, .int .i64 k)] ∧ a.prods.take k = b.prods.take k) ?_ ⟨0, by omega, by omega, rfl, rfl, rfl⟩
  rintro m env h' ⟨k, hk, rfl, rfl, rfl, he⟩
  unfold A.probateref03_Same.L0
  by_cases hlt : k < a.prods.length
  · have hlt' : (k : Int) < b.prods.length := by omega
    have hlb : k < b.prods.length := by omega
    have hga : (a.prods.map prV).getD k .undef = prV a.prods[k] := Enc.getD hlt
    have hgb : (b.prods.map prV).getD k .undef = prV b.prods[k] := Enc.getD hlb
    have hw1 : IntKind.i64.wrap ((k : Int) + 1) = ((k + 1 : Nat) : Int) := by rw [wrap_i64 (by omega) (by omega)]; rfl
    have hrk := hr _ (List.getElem_mem hlt)
    have hnx : a.prods[k] = b.prods[k] → a.prods.take (k + 1) = b.prods.take (k + 1) := fun e => take_ext2 hlt hlb he e
    have hno : ¬ a.prods[k] = b.prods[k] → Fin h (.bool false) h' (Lz.mk (a := Q)) := fun e => by
      have : ¬ a.prods = b.prods := fun e2 => e (by simp only [e2])
      simp [this] at hQ
      exact fin_wk gr (.same _) (by simp) hQ
    generalize a.prods[k] = p at *
    generalize b.prods[k] = q at *
    by_cases f1 : p.left = q.left
    case neg =>
      simp [e4', hlt', hlt, hlb, oa, ob, hgc, hga, hgb, prV, prC, V.cells, f1]
      exact hno (fun e => f1 (by rw [e]))
    by_cases f2 : p.right.length = q.right.length
    case neg =>
      have f2' : ¬ (p.right.length : Int) = q.right.length := by omega
      simp [e4', hlt', hlt, hlb, oa, ob, hgc, hga, hgb, prV, prC, V.cells, f1, f2']
      exact hno (fun e => f2 (by rw [e]))
    have f2' : (p.right.length : Int) = q.right.length := by omega
    simp [e4', hlt', hlt, hlb, oa, ob, hgc, hga, hgb, prV, prC, V.cells, f1, f2']
    refine loopI (n := p.right.length) (fun m env h3 => ∃ j, j ≤ p.right.length ∧ m = p.right.length - j ∧ h3 = h' ∧ env = [(2, .ptr h.nobj 0), (3, .ptr (h.nobj + 1) 0), (5, .int .i64 k), (6, .int .i64 j)] ∧ p.right.take j = q.right.take j) ?_ ⟨0, by omega, by omega, rfl, rfl, rfl⟩
    rintro m env h3 ⟨j, hj, rfl, rfl, rfl, hje⟩
    unfold A.probateref03_Same.L1
    by_cases hjt : j < p.right.length
    · have hjt' : (j : Int) < q.right.length := by omega
      have hjb : j < q.right.length := by omega
      have gja : (p.right.map symV).getD j .undef = symV p.right[j] := Enc.getD hjt
      have gjb : (q.right.map symV).getD j .undef = symV q.right[j] := Enc.getD hjb
      have hw2 : IntKind.i64.wrap ((j : Int) + 1) = ((j + 1 : Nat) : Int) := by rw [wrap_i64 (by omega) (by omega)]; rfl
      by_cases e : p.right[j] = q.right[j]
      · simp [e4', hlt', hlt, hlb, oa, ob, hgc, hga, hgb, prV, prC, V.cells, f1, f2', hjt', hjt, hjb, gja, gjb, symV, symC, e, hw2]
        exact ⟨p.right.length - (j + 1), by omega, iv ⟨j + 1, by omega, rfl, rfl, rfl, take_ext2 hjt hjb hje e⟩⟩
      · have hne : p.right[j].non = q.right[j].non → ¬ p.right[j].n = q.right[j].n := by
          intro g1 g2; apply e; cases ha : p.right[j]; cases hb : q.right[j]; simp_all
        have hpq : ¬ p = q := fun e2 => e (by simp only [e2])
        by_cases g1 : p.right[j].non = q.right[j].non <;> by_cases g2 : p.right[j].n = q.right[j].n <;> first | exact absurd g2 (hne g1) | (simp [e4', hlt', hlt, hlb, oa, ob, hgc, hga, hgb, prV, prC, V.cells, f1, f2', hjt', hjt, hjb, gja, gjb, symV, symC, g1, g2]; exact hno hpq)
    · have hjt' : ¬ (j : Int) < q.right.length := by omega
      obtain rfl : j = p.right.length := by omega
      rw [List.take_length, f2, List.take_length] at hje
      have hpq : p = q := by obtain ⟨l1, r1⟩ := p; obtain ⟨l2, r2⟩ := q; simp only at f1 hje; rw [f1, hje]
      simp [e4', hlt', hlt, hlb, oa, ob, hgc, hga, hgb, prV, prC, V.cells, f1, f2', hjt', hw1]
      exact ⟨a.prods.length - (k + 1), by omega, iv ⟨k + 1, by omega, rfl, rfl, rfl, hnx hpq⟩⟩
  · have hlt' : ¬ (k : Int) < b.prods.length := by omega
    simp [e4', hlt', oa, hgc]
    have hk : k = a.prods.length := by omega
    rw [hk, List.take_length, e4, List.take_length] at he
    simp [he] at hQ
    exact fin_wk gr (.same _) (by simp) hQ
/-- What the laws of layer 3 call. -/
structure L03 (X : Cx) : Prop where
  p : LG X
  rsame : Has (Ecx X) K.probateref03_Same A.probateref03_Same
  same1 : Has (Ecx X) K.probateref01_Same A.probateref01_Same
  same2 : Has (Ecx X) K.probateref02_Same A.probateref02_Same
  small : Has (Ecx X) K.probatelaw03_small A.probatelaw03_small
  awake : Has (Ecx X) K.probatelaw03_awake A.probatelaw03_awake
  large : Has (Ecx X) K.probatelaw03_large A.probatelaw03_large
def smallG : Gm := ⟨1, 1, 0, [⟨0, []⟩, ⟨0, [⟨false, 0⟩, ⟨true, 0⟩]⟩]⟩
theorem small_spec (L : L03 X) (hQ : Q (gmV smallG) h) : Ecx X K.probatelaw03_small [] h Q := by
  refine fn_walk L.small (by simp [A.probatelaw03_small]) fun wf => ?_
  simp [A.probatelaw03_small, fillV, fillL, V.cells, V.good, V.isAgg, setAt]
  exact fin_wk ((Gr.refl h).new _) (Wk.a4 (WkE.sl (.cons (.cons (.same _) (.cons (.nil _ 2 _) .nil)) (.cons (.cons (.same _) (.cons (.sl _ _ _) .nil)) .nil)) (by simp [V.cells])) _ _ _) (by simp [cellsOf]) hQ
def largeG (g : Gm) : Bool := decide (100 < g.prods.length) || g.prods.any fun p => decide (20 < p.right.length)
theorem large3_spec (L : L03 X) (g : Gm) (ok : GmOk g) (hQ : Q (.bool (largeG g)) h) : Ecx X K.probatelaw03_large [gmV g] h Q := by
  refine fn_walk L.large (by simp [A.probatelaw03_large]) fun wf => ?_
  have gr := (Gr.refl h).new (gmC g)
  have hgc : gmC g = [.int .i64 g.terms, .int .i64 g.nons, .int .i64 g.start, .sl 2 0 (g.prods.map prV)] := rfl
  rw [hgc] at gr
  simp [A.probatelaw03_large, gmV, V.cells, V.good, hgc]
  by_cases c : (100 : Int) < g.prods.length
  · have : largeG g = true := by simp [largeG]; exact .inl (by omega)
    rw [this] at hQ
    simp [c]
    exact fin_wk gr (.same _) (by simp) hQ
  simp [c]
  refine loopI (n := g.prods.length) (fun m env h' => ∃ k, k ≤ g.prods.length ∧ m = g.prods.length - k ∧ Gr h h' ∧ env = [(10, .sl 2 0 (g.prods.map prV)), (11, .int .i64 g.prods.length), (12, .int .i64 k)] ∧ (g.prods.take k).any (fun p => decide (20 < p.right.length)) = false) ?_ ⟨0, by omega, by omega, gr, rfl, by simp⟩
  rintro m env h' ⟨k, hk, rfl, gr', rfl, ha⟩
  unfold A.probatelaw03_large.L0
  by_cases hlt : k < g.prods.length
  · have hlt' : (k : Int) < g.prods.length := by omega
    have hg : (g.prods.map prV).getD k .undef = prV g.prods[k] := Enc.getD hlt
    have hw1 : IntKind.i64.wrap ((k : Int) + 1) = ((k + 1 : Nat) : Int) := by rw [wrap_i64 (by omega) (by omega)]; rfl
    by_cases c2 : (20 : Int) < g.prods[k].right.length
    · have : largeG g = true := by
        simp only [largeG, Bool.or_eq_true]; exact .inr (List.any_eq_true.2 ⟨_, List.getElem_mem hlt, by simp; omega⟩)
      rw [this] at hQ
      simp [hlt', hg, prV, prC, V.cells, V.good, setAt, c2]
      exact fin_wk (gr'.new _) (.same _) (by simp) hQ
    · simp [hlt', hg, prV, prC, V.cells, V.good, setAt, c2, hw1]
      exact ⟨g.prods.length - (k + 1), by omega, iv ⟨k + 1, by omega, rfl, gr'.new _, rfl, by
        rw [List.take_succ_eq_append_getElem hlt, List.any_append, ha]; simp; omega⟩⟩
  · have hlt' : ¬ (k : Int) < g.prods.length := by omega
    obtain rfl : k = g.prods.length := by omega
    rw [List.take_length] at ha
    have : largeG g = false := by simp only [largeG, ha, Bool.or_false]; simp; omega
    rw [this] at hQ
    simp [hlt']
    exact fin_wk gr' (.same _) (by simp) hQ
theorem smallG_ok : GmOk smallG := ⟨by simp [smallG, maxLen], by simp [smallG, maxLen]⟩
theorem awake3_spec (L : L03 X) (hQ : Q (.bool true) h) : Ecx X K.probatelaw03_awake [] h Q := by
  refine fn_walk L.awake (by simp [A.probatelaw03_awake]) fun wf => ?_
  have r1 : rightG smallG = true := by decide
  have t1 : gmB smallG = [1, 1, 0, 2, 0, 0, 0, 2, 0, 1] := by simp [gmB, prB, symB, symN, smallG, vput_small]
  have t2 : readG [1, 1, 0, 2, 0, 0, 0, 2, 0, 1] = (smallG, 0) := by decide +kernel
  have t3 : readG [0, 0, 0, 0] = (zeroG, 2) := by decide +kernel
  have r0 : rightG zeroG = false := by decide
  simp [A.probatelaw03_awake]
  refine ecall (small_spec L ?_)
  simp
  refine ecall (bytes3_spec L.p smallG smallG_ok ?_)
  simp [gbytV, gbytR, r1, t1]
  refine ecall (read3_spec L.p [1, 1, 0, 2, 0, 0, 0, 2, 0, 1] (by simp) (by simp) ?_)
  have hgc : ∀ g, gmC g = [.int .i64 g.terms, .int .i64 g.nons, .int .i64 g.start, .sl 2 0 (g.prods.map prV)] := fun _ => rfl
  simp [greadV, t2, fillL, V.cells, V.good, V.isAgg, setAt, gmV, hgc]
  refine ecall (Ecx.wkL (.cons (.sl _ _ _) .nil) (read3_spec L.p [0, 0, 0, 0] (by simp) (by simp) ?_))
  simp [greadV, t3, fillL, V.cells, V.good, V.isAgg, setAt, gmV, hgc]
  refine dcall (.bool true) (same1_spec L.same1 [1, 1, 0, 2, 0, 0, 0, 2, 0, 1] [1, 1, 0, 2, 0, 0, 0, 2, 0, 1] _ _ (by simp [maxLen]) ⟨by simp, rfl⟩) ?_
  simp
  refine dcall (gmV smallG) (small_spec L ⟨rfl, rfl⟩) ?_
  simp
  refine dcall (.bool true) (same3R_spec L.rsame smallG smallG (by simp [smallG]) (by simp [smallG]) ⟨by simp, rfl⟩) ?_
  simp
  refine dcall (gmV smallG) (small_spec L ⟨rfl, rfl⟩) ?_
  simp
  refine dcall (.bool true) (right3_spec L.p smallG smallG_ok ⟨by rw [r1], rfl⟩) ?_
  simp [fillV]
  refine dcall (.bool false) (Ecx.wkL (.cons (Wk.a4 (.nil _ 2 _) _ _ _) .nil) (right3_spec L.p zeroG ⟨by simp [zeroG, maxLen], by simp [zeroG]⟩ ⟨by rw [r0], rfl⟩)) ?_
  simp
  refine dcall (gmV smallG) (small_spec L ⟨rfl, rfl⟩) ?_
  simp
  refine dcall (gmV smallG) (small_spec L ⟨rfl, rfl⟩) ?_
  simp
  refine dcall (.bool true) (same3_spec L.p smallG smallG smallG_ok (by simp [smallG]) (by simp [smallG]) ⟨by simp, rfl⟩) ?_
  simp
  refine dcall (gmV smallG) (small_spec L ⟨rfl, rfl⟩) ?_
  simp
  refine dcall (.bool false) (Ecx.wkL (.cons (.same _) (.cons (Wk.a4 (.nil _ 2 _) _ _ _) .nil)) (same3_spec L.p smallG zeroG smallG_ok (by simp [smallG]) (by simp [smallG]) ⟨by rw [show decide (smallG = zeroG) = false from by decide], rfl⟩)) ?_
  simp
  refine dcall (gmV smallG) (small_spec L ⟨rfl, rfl⟩) ?_
  simp
  refine dcall (.sl 1 0 (ints [0, 1])) (of_spec L.p smallG 0 (by simp [smallG]) ⟨by rfl, rfl⟩) ?_
  simp [fillL, V.cells, V.good, V.isAgg]
  refine dcall (.bool true) (sameI_spec L.same2 [0, 1] [0, 1] _ _ (by simp) ⟨by simp, rfl⟩) ?_
  simp
  refine dcall (gmV smallG) (small_spec L ⟨rfl, rfl⟩) ?_
  simp
  refine dcall (gmV smallG) (clone3_spec L.p smallG (by simp [smallG]) (by simp [smallG]) ⟨rfl, rfl⟩) ?_
  simp
  refine dcall (gmV smallG) (small_spec L ⟨rfl, rfl⟩) ?_
  simp
  refine dcall (.bool true) (same3R_spec L.rsame smallG smallG (by simp [smallG]) (by simp [smallG]) ⟨by simp, rfl⟩) ?_
  simp
  exact fin_wk (((Gr.refl h).new _).new _) (.same _) (by simp) hQ
/-! ### What comes back -/
theorem largeG_ok {g : Gm} (h : largeG g = false) : g.prods.length ≤ 100 ∧ ∀ p ∈ g.prods, p.right.length ≤ 20 := by
  simp only [largeG, Bool.or_eq_false_iff, decide_eq_false_iff_not, List.any_eq_false, decide_eq_true_eq] at h
  exact ⟨by omega, fun p hp => by have := h.2 p hp; omega⟩
theorem readG_canon {b : List Nat} (hb : ∀ x ∈ b, x < 256) (h : (readG b).2 = 0) : rightG (readG b).1 = true ∧ gmB (readG b).1 = b := by
  unfold readG at h ⊢
  by_cases he : rend (stepG b 0).2.1 (stepG b 0).2.2 = 0
  · rw [if_neg (by simp [he])] at h ⊢
    cases hr : rightG (stepG b 0).1 with
    | false => rw [hr] at h; simp at h
    | true =>
      obtain ⟨e1, e2⟩ := rend_zero he
      obtain ⟨c1, c2⟩ := canonG.back b (stepG b 0).1 [] hb (Prod.ext rfl (Prod.ext e1 e2))
      simp [hr]
      simpa using c1.symm
  · rw [if_pos he] at h
    exact absurd h he
theorem readG_gmB {g : Gm} (h : rightG g = true) : readG (gmB g) = (g, 0) := by
  have := canonG.read g [] (rightG_iff.1 h).ok
  rw [List.append_nil] at this
  simp [readG, this, rend, h]
theorem gmB_inj {a b : Gm} (ha : rightG a = true) (hb : rightG b = true) (h : gmB a = gmB b) : a = b :=
  canonG.inj (rightG_iff.1 ha).ok (rightG_iff.1 hb).ok h
theorem gmB_byte (g : Gm) : ∀ x ∈ gmB g, x < 256 := by
  have hv : ∀ (n : Nat), ∀ x ∈ vput n, x < 256 := vput_byte
  have h1 : ∀ (l : List Sy), ∀ x ∈ l.flatMap symB, x < 256 := fun l x hx => by
    obtain ⟨s, _, hs⟩ := List.mem_flatMap.1 hx; exact hv _ x hs
  have h2 : ∀ p : Pr, ∀ x ∈ prB p, x < 256 := fun p x hx => by
    simp only [prB, List.mem_append] at hx
    rcases hx with hx | hx | hx
    · exact hv _ x hx
    · exact hv _ x hx
    · exact h1 _ x hx
  intro x hx
  simp only [gmB, List.mem_append] at hx
  rcases hx with hx | hx | hx | hx | hx
  · exact hv _ x hx
  · exact hv _ x hx
  · exact hv _ x hx
  · exact hv _ x hx
  · obtain ⟨p, _, hp⟩ := List.mem_flatMap.1 hx; exact h2 p x hp
end
end Go.Proofs.Ytbbmglginkabfaa.Al
