/-
  Layer 3: the reference's grammars, which may be, a nonterminal's productions and bytes, by the abstract layer. Conditions: each theorem's own.
-/
import Derived.Test.YtpnbdnmmfaomlaaGramLaw
namespace Go.Proofs.Ytpnbdnmmfaomlaa.Al
open Go Go.RowKit
set_option linter.unusedSimpArgs false
set_option linter.unusedVariables false
attribute [-simp] List.getD_eq_getElem?_getD Int.not_lt Int.not_le List.map_take

theorem all_false {α : Type} {f : α → Bool} {l : List α} {a : α} (h : a ∈ l) (hf : f a = false) : l.all f = false := by
  cases hh : l.all f with
  | false => rfl
  | true => rw [List.all_eq_true] at hh; rw [hh a h] at hf; exact absurd hf (by simp)
theorem all_snoc {α : Type} {f : α → Bool} {l : List α} {k : Nat} (hk : k < l.length) (h : (l.take k).all f = true) (hf : f l[k] = true) : (l.take (k + 1)).all f = true := by
  rw [List.take_succ_eq_append_getElem hk, List.all_append, h]; simp [hf]
theorem gm_cells (g : Gm) : gmC g = [.int .i64 g.terms, .int .i64 g.nons, .int .i64 g.start, .sl 2 0 (g.prods.map prV)] := rfl
section
variable {X : Cx} {h : AH} {Q : V → AH → Prop}
theorem rright3_L1 {h0 h : AH} {o o4 k : Nat} {g : Gm} {p : Pr} (hl : p.right.length ≤ 8) (gr : Gr h0 h) (ob : h.objs o = gmC g) (ob4 : h.objs o4 = prC p) (lo : o < h.nobj) (lo4 : o4 < h.nobj) {Q : Ex → Env → AH → Prop} {zQ : Lz Q} {z : Lz (AC.loop A.probateref03_Right.L1)}
    (hR : p.right.all (thereG g) = false → ∀ h' env, Gr h0 h' → get ((2, .bool false) :: env) 2 = .bool false → Q .ret ((2, .bool false) :: env) h')
    (hQ : p.right.all (thereG g) = true → ∀ h' v, Gr h0 h' → h'.objs o = gmC g → o < h'.nobj → Q (.exit 2) [(1, .ptr o 0), (3, .int .i64 k), (4, .ptr o4 0), (5, .int .i64 p.right.length), (75, v)] h') :
    acZ (Ecx X) [(1, .ptr o 0), (3, .int .i64 k), (4, .ptr o4 0), (5, .int .i64 0)] h z zQ := by
  refine loopI (n := p.right.length) (fun r env h' => ∃ j, j ≤ p.right.length ∧ r = p.right.length - j ∧ env = [(1, .ptr o 0), (3, .int .i64 k), (4, .ptr o4 0), (5, .int .i64 (j : Nat))] ∧ Gr h0 h' ∧ h'.objs o = gmC g ∧ h'.objs o4 = prC p ∧ o < h'.nobj ∧ o4 < h'.nobj ∧ (p.right.take j).all (thereG g) = true) ?_
    ⟨0, by omega, by omega, rfl, gr, ob, ob4, lo, lo4, by simp⟩
  rintro r env h' ⟨j, hj, rfl, rfl, gr', b1, b4, l1, l4, ha⟩
  unfold A.probateref03_Right.L1
  have hpc : prC p = [.int .i64 p.left, .sl 2 0 (p.right.map symV)] := rfl
  by_cases hlt : j < p.right.length
  · have hlt' : (j : Int) < p.right.length := by omega
    have hg : (p.right.map symV).getD j .undef = symV p.right[j] := Enc.getD hlt
    have hw1 : IntKind.i64.wrap ((j : Int) + 1) = ((j + 1 : Nat) : Int) := by rw [wrap_i64 (by omega) (by omega)]; rfl
    have hmem := List.getElem_mem hlt
    have hnx := fun hf => all_snoc (f := thereG g) hlt ha hf
    have hno := fun hf => hR (all_false (f := thereG g) hmem hf)
    generalize p.right[j] = s at *
    obtain ⟨non, n⟩ := s
    have n1 : ¬ o = h'.nobj := by omega
    have n4 : ¬ o4 = h'.nobj := by omega
    have gr2 : ∀ z, Gr h0 (h'.new z) := fun z => gr'.new z
    have hth : thereG g ⟨non, n⟩ = (decide (0 ≤ n) && decide (n < if non = true then g.nons else g.terms)) := rfl
    by_cases c1 : n < 0
    · have c1' : ¬ 0 ≤ n := by omega
      simp [c1'] at hth
      simp [hlt', hlt, b1, b4, hpc, gm_cells, hg, symV, symC, V.cells, V.good, setAt, c1, n1, n4]
      exact hno hth _ _ (gr2 _) (by simp)
    have c1' : 0 ≤ n := by omega
    cases non
    · by_cases c2 : g.terms ≤ n
      · have c2' : ¬ n < g.terms := by omega
        simp [c2'] at hth
        simp [hlt', hlt, b1, b4, hpc, gm_cells, hg, symV, symC, V.cells, V.good, setAt, c1, c2, n1, n4]
        exact hno hth _ _ (gr2 _) (by simp)
      · have c2' : n < g.terms := by omega
        simp [c1', c2'] at hth
        simp [hlt', hlt, b1, b4, hpc, gm_cells, hg, symV, symC, V.cells, V.good, setAt, c1, c2, n1, n4, hw1]
        exact ⟨p.right.length - (j + 1), by omega, iv ⟨j + 1, by omega, rfl, rfl, gr2 _, by rw [new_objs_ne _ _ n1, b1, gm_cells], by rw [new_objs_ne _ _ n4, b4, hpc], by simp; omega, by simp; omega, hnx hth⟩⟩
    · by_cases c2 : g.nons ≤ n
      · have c2' : ¬ n < g.nons := by omega
        simp [c2'] at hth
        simp [hlt', hlt, b1, b4, hpc, gm_cells, hg, symV, symC, V.cells, V.good, setAt, c1, c2, n1, n4]
        exact hno hth _ _ (gr2 _) (by simp)
      · have c2' : n < g.nons := by omega
        simp [c1', c2'] at hth
        simp [hlt', hlt, b1, b4, hpc, gm_cells, hg, symV, symC, V.cells, V.good, setAt, c1, c2, n1, n4, hw1]
        exact ⟨p.right.length - (j + 1), by omega, iv ⟨j + 1, by omega, rfl, rfl, gr2 _, by rw [new_objs_ne _ _ n1, b1, gm_cells], by rw [new_objs_ne _ _ n4, b4, hpc], by simp; omega, by simp; omega, hnx hth⟩⟩
  · have hlt' : ¬ (j : Int) < p.right.length := by omega
    obtain rfl : j = p.right.length := by omega
    rw [List.take_length] at ha
    simp [b4, hpc]
    exact hQ ha _ _ gr' b1 l1
/-- The reference of layer 3, below its reading. -/
structure LGR (X : Cx) : Prop where
  put : Has (Ecx X) K.probateref01_Put A.probateref01_Put
  q : LQ X
  right : Has (Ecx X) K.probateref03_Right A.probateref03_Right
  of : Has (Ecx X) K.probateref03_Of A.probateref03_Of
  bytes : Has (Ecx X) K.probateref03_Bytes A.probateref03_Bytes
  read : Has (Ecx X) K.probateref03_Read A.probateref03_Read
theorem rright3_spec (H : Has (Ecx X) K.probateref03_Right A.probateref03_Right) (g : Gm) (hQ : Q (.bool (rightG g)) h) : Ecx X K.probateref03_Right [gmV g] h Q := by
  refine fn_walk H (by simp [A.probateref03_Right]) fun wf => ?_
  have gr := (Gr.refl h).new (gmC g)
  unfold rightG headG at hQ
  simp [A.probateref03_Right, gmV, V.cells, V.good, gm_cells] at gr ⊢
  by_cases c1 : g.terms < 0
  · simp [c1, show ¬ 0 ≤ g.terms by omega] at hQ ⊢; exact fin_wk gr (.same _) (by simp) hQ
  by_cases c2 : 16 < g.terms
  · simp [c1, c2, show ¬ g.terms ≤ 16 by omega] at hQ ⊢; exact fin_wk gr (.same _) (by simp) hQ
  by_cases c3 : g.nons < 1
  · simp [c1, c2, c3, show ¬ 1 ≤ g.nons by omega] at hQ ⊢; exact fin_wk gr (.same _) (by simp) hQ
  by_cases c4 : 24 < g.nons
  · simp [c1, c2, c3, c4, show ¬ g.nons ≤ 24 by omega] at hQ ⊢; exact fin_wk gr (.same _) (by simp) hQ
  by_cases c5 : g.start < 0
  · simp [c1, c2, c3, c4, c5, show ¬ 0 ≤ g.start by omega] at hQ ⊢; exact fin_wk gr (.same _) (by simp) hQ
  by_cases c6 : g.nons ≤ g.start
  · simp [c1, c2, c3, c4, c5, c6, show ¬ g.start < g.nons by omega] at hQ ⊢; exact fin_wk gr (.same _) (by simp) hQ
  by_cases c7 : (60 : Int) < g.prods.length
  · simp [c1, c2, c3, c4, c5, c6, c7, show ¬ g.prods.length ≤ 60 by omega] at hQ ⊢; exact fin_wk gr (.same _) (by simp) hQ
  simp [show 0 ≤ g.terms by omega, show g.terms ≤ 16 by omega, show 1 ≤ g.nons by omega, show g.nons ≤ 24 by omega, show 0 ≤ g.start by omega, show g.start < g.nons by omega, show g.prods.length ≤ 60 by omega] at hQ
  simp [c1, c2, c3, c4, c5, c6, c7]
  have ob : (h.new [.int .i64 g.terms, .int .i64 g.nons, .int .i64 g.start, .sl 2 0 (g.prods.map prV)]).objs h.nobj = gmC g := new_objs_same _ _
  have nb : h.nobj < (h.new [.int .i64 g.terms, .int .i64 g.nons, .int .i64 g.start, .sl 2 0 (g.prods.map prV)]).nobj := by simp
  generalize h.new [.int .i64 g.terms, .int .i64 g.nons, .int .i64 g.start, .sl 2 0 (g.prods.map prV)] = h2 at *
  refine loopI (n := g.prods.length) (fun r env h' => ∃ k, k ≤ g.prods.length ∧ r = g.prods.length - k ∧ env = [(1, .ptr h.nobj 0), (3, .int .i64 (k : Nat))] ∧ Gr h h' ∧ h'.objs h.nobj = gmC g ∧ h.nobj < h'.nobj ∧ (g.prods.take k).all (fitsG g) = true) ?_
    ⟨0, by omega, by omega, rfl, gr, ob, nb, by simp⟩
  rintro r env h' ⟨k, hk, rfl, rfl, gr', b1, l1, ha⟩
  unfold A.probateref03_Right.L0
  by_cases hlt : k < g.prods.length
  · have hlt' : (k : Int) < g.prods.length := by omega
    have hg : (g.prods.map prV).getD k .undef = prV g.prods[k] := Enc.getD hlt
    have hw1 : IntKind.i64.wrap ((k : Int) + 1) = ((k + 1 : Nat) : Int) := by rw [wrap_i64 (by omega) (by omega)]; rfl
    have hmem := List.getElem_mem hlt
    have hnx := fun hf => all_snoc (f := fitsG g) hlt ha hf
    have hno : fitsG g g.prods[k] = false → Q (.bool false) h := fun hf => by rw [all_false (f := fitsG g) hmem hf] at hQ; exact hQ
    generalize g.prods[k] = p at *
    have hfit : fitsG g p = (decide (0 ≤ p.left) && decide (p.left < g.nons) && decide (p.right.length ≤ 8) && p.right.all (thereG g)) := by simp [fitsG, thereG]
    have hpc : prC p = [.int .i64 p.left, .sl 2 0 (p.right.map symV)] := rfl
    have n1 : ¬ h.nobj = h'.nobj := by omega
    have gr2 := gr'.new (prC p)
    have o1 : (h'.new (prC p)).objs h.nobj = gmC g := by rw [new_objs_ne _ _ n1]; exact b1
    have o2 : (h'.new (prC p)).objs h'.nobj = prC p := new_objs_same _ _
    have q1 : h.nobj < (h'.new (prC p)).nobj := by simp; omega
    have q2 : h'.nobj < (h'.new (prC p)).nobj := by simp
    rw [hpc] at gr2 o1 o2 q1 q2
    simp [hlt', hlt, b1, gm_cells, hg, prV, hpc, V.cells, V.good, setAt]
    generalize h'.new [.int .i64 p.left, .sl 2 0 (p.right.map symV)] = h3 at *
    by_cases c1 : p.left < 0
    · simp [c1, show ¬ 0 ≤ p.left by omega, o1, o2, hpc, gm_cells] at hfit ⊢; exact fin_wk gr2 (.same _) (by simp) (hno hfit)
    by_cases c2 : g.nons ≤ p.left
    · simp [c1, c2, show ¬ p.left < g.nons by omega] at hfit
      simp [o1, o2, hpc, gm_cells, c1, c2]
      exact fin_wk gr2 (.same _) (by simp) (hno hfit)
    by_cases c3 : (8 : Int) < p.right.length
    · simp [c1, c2, c3, show ¬ p.right.length ≤ 8 by omega] at hfit
      simp [o1, o2, hpc, gm_cells, c1, c2, c3]
      exact fin_wk gr2 (.same _) (by simp) (hno hfit)
    simp [show 0 ≤ p.left by omega, show p.left < g.nons by omega, show p.right.length ≤ 8 by omega] at hfit
    simp [o1, o2, hpc, gm_cells, c1, c2, c3]
    refine rright3_L1 (h0 := h) (by omega) gr2 o1 o2 q1 q2 (fun hf h4 env gr4 _ => ?_) (fun hf h4 v gr4 b4 l4 => ?_)
    · simp
      exact fin_wk gr4 (.same _) (by simp) (hno (by rw [hfit]; exact hf))
    · simp [hw1]
      exact ⟨g.prods.length - (k + 1), by omega, iv ⟨k + 1, by omega, rfl, rfl, gr4, b4, l4, hnx (by rw [hfit]; exact hf)⟩⟩
  · have hlt' : ¬ (k : Int) < g.prods.length := by omega
    obtain rfl : k = g.prods.length := by omega
    rw [List.take_length] at ha
    rw [ha] at hQ
    simp [b1, gm_cells]
    exact fin_wk gr' (.same _) (by simp) hQ
theorem rof_spec (H : Has (Ecx X) K.probateref03_Of A.probateref03_Of) (g : Gm) (non : Int) (hl : g.prods.length ≤ 2 ^ 40) (hQ : Q (.sl 1 0 (ints (ofG g non))) h) : Ecx X K.probateref03_Of [gmV g, .int .i64 non] h Q := by
  refine fn_walk H (by simp [A.probateref03_Of]) fun wf => ?_
  have gr := (Gr.refl h).new (gmC g)
  have ob : (h.new (gmC g)).objs h.nobj = gmC g := new_objs_same _ _
  simp [A.probateref03_Of, gmV, V.cells, V.good]
  generalize h.new (gmC g) = h2 at *
  have htl := ofF_len non g.prods 0
  refine loopI (n := g.prods.length) (fun n env h' => ∃ k out e1 st, k ≤ g.prods.length ∧ n = g.prods.length - k ∧ env = [(1, .int .i64 non), (2, .ptr h.nobj 0), (5, .sl e1 st (ints out)), (6, .int .i64 k)] ∧ Own h h' 1 e1 st (ints out) ∧ h'.objs h.nobj = gmC g ∧ out ++ ofF non (g.prods.drop k) k = ofG g non) ?_
    ⟨0, [], 1, 2, by omega, by omega, rfl, Own.full gr 1 [], ob, rfl⟩
  rintro n env h' ⟨k, out, e1, st, hk, rfl, rfl, ow, b1, ho⟩
  unfold A.probateref03_Of.L0
  have hol : out.length ≤ g.prods.length := by have := congrArg List.length ho; simp [ofG] at this; unfold ofG at *; omega
  by_cases hlt : k < g.prods.length
  · have hlt' : (k : Int) < g.prods.length := by omega
    have hg : (g.prods.map prV).getD k .undef = prV g.prods[k] := Enc.getD hlt
    have hw1 : IntKind.i64.wrap ((k : Int) + 1) = ((k + 1 : Nat) : Int) := by rw [wrap_i64 (by omega) (by omega)]; rfl
    rw [List.drop_eq_getElem_cons hlt, ofF] at ho
    generalize g.prods[k] = p at *
    by_cases c : p.left = non
    · rw [if_pos c] at ho
      simp [hlt', hlt, b1, gm_cells, hg, prV, V.cells, V.good, prC, setAt, c, fillL, V.isAgg, hw1]
      refine ow.appZ (fun _ => rfl) (by simp; omega) fun e2 st2 h2 o2 ob2 _ => ?_
      have em : ints out ++ [V.int .i64 k] = ints (out ++ [(k : Int)]) := by simp [ints]
      rw [em] at o2 ⊢
      simp
      exact ⟨g.prods.length - (k + 1), by omega, iv ⟨k + 1, out ++ [(k : Int)], e2, st2, by omega, rfl, by rw [hw1], o2, by rw [ob2]; exact b1, by rw [← ho]; simp⟩⟩
    · rw [if_neg c, List.nil_append] at ho
      simp [hlt', hlt, b1, gm_cells, hg, prV, V.cells, V.good, prC, setAt, c, hw1]
      exact ⟨g.prods.length - (k + 1), by omega, iv ⟨k + 1, out, e1, st, by omega, rfl, by first | rfl | rw [hw1], ow, b1, ho⟩⟩
  · have hlt' : ¬ (k : Int) < g.prods.length := by omega
    obtain rfl : k = g.prods.length := by omega
    rw [List.drop_length, ofF, List.append_nil] at ho
    rw [ho] at ow ⊢
    simp [b1, gm_cells]
    exact fin_own ow (Bdd_ints _ _ _) hQ
/-! ### Bytes -/
def prN (p : Pr) : List Nat := p.left.toNat :: p.right.length :: p.right.map symN
def gmN (g : Gm) : List Nat := g.terms.toNat :: g.nons.toNat :: g.start.toNat :: g.prods.length :: g.prods.flatMap prN
theorem vputs_app (a b : List Nat) : vputs (a ++ b) = vputs a ++ vputs b := by simp [vputs]
theorem vputs_pr (p : Pr) : vputs (prN p) = prB p := by
  have : ∀ l : List Sy, vputs (l.map symN) = l.flatMap symB := fun l => by
    induction l with
    | nil => rfl
    | cons a l ih => simp only [vputs, List.map_cons, List.flatMap_cons, List.flatten_cons] at ih ⊢; rw [ih]; rfl
  simp only [prN, prB, ← this]; simp [vputs]
theorem vputs_gm (g : Gm) : vputs (gmN g) = gmB g := by
  have : ∀ l : List Pr, vputs (l.flatMap prN) = l.flatMap prB := fun l => by
    induction l with
    | nil => rfl
    | cons a l ih => rw [List.flatMap_cons, vputs_app, ih, vputs_pr, List.flatMap_cons]
  simp only [gmN, gmB, ← this]; simp [vputs]
theorem rbytes3_L1 {h0 h : AH} {o o6 k e st : Nat} {M : List Nat} {p : Pr} (hl : p.right.length ≤ 8) (hr : ∀ s ∈ p.right, 0 ≤ s.n ∧ s.n ≤ 23) (hM : M.length ≤ 2 ^ 40) (ow : Own h0 h 1 e st (i64s M)) (g : Gm) (ob : h.objs o = gmC g) (ob6 : h.objs o6 = prC p) {Q : Ex → Env → AH → Prop} {zQ : Lz Q} {z : Lz (AC.loop A.probateref03_Bytes.L1)}
    (hQ : ∀ h' e st v, Own h0 h' 1 e st (i64s (M ++ p.right.map symN)) → h'.objs o = gmC g → h.nobj ≤ h'.nobj → Q (.exit 2) [(1, .ptr o 0), (4, .sl e st (i64s (M ++ p.right.map symN))), (5, .int .i64 k), (6, .ptr o6 0), (7, .int .i64 p.right.length), (48, v)] h') :
    acZ (Ecx X) [(1, .ptr o 0), (4, .sl e st (i64s M)), (5, .int .i64 k), (6, .ptr o6 0), (7, .int .i64 0)] h z zQ := by
  refine loopI (n := p.right.length) (fun r env h' => ∃ j e st, j ≤ p.right.length ∧ r = p.right.length - j ∧ env = [(1, .ptr o 0), (4, .sl e st (i64s (M ++ (p.right.take j).map symN))), (5, .int .i64 k), (6, .ptr o6 0), (7, .int .i64 (j : Nat))] ∧ Own h0 h' 1 e st (i64s (M ++ (p.right.take j).map symN)) ∧ h'.objs o = gmC g ∧ h'.objs o6 = prC p ∧ h.nobj ≤ h'.nobj) ?_
    ⟨0, e, st, by omega, by omega, by simp, by simpa using ow, ob, ob6, Nat.le_refl _⟩
  rintro r env h' ⟨j, e, st, hj, rfl, rfl, ow', b1, b6, l1⟩
  unfold A.probateref03_Bytes.L1
  have hpc : prC p = [.int .i64 p.left, .sl 2 0 (p.right.map symV)] := rfl
  by_cases hlt : j < p.right.length
  · have hlt' : (j : Int) < p.right.length := by omega
    have hg : (p.right.map symV).getD j .undef = symV p.right[j] := Enc.getD hlt
    have hw1 : IntKind.i64.wrap ((j : Int) + 1) = ((j + 1 : Nat) : Int) := by rw [wrap_i64 (by omega) (by omega)]; rfl
    have hs := hr _ (List.getElem_mem hlt)
    have htl : (p.right.take j).length = j := by simp; omega
    have hsn : M ++ (p.right.take (j + 1)).map symN = (M ++ (p.right.take j).map symN) ++ [symN p.right[j]] := by
      rw [List.take_succ_eq_append_getElem hlt, List.map_append, List.append_assoc]; rfl
    have hln : (M ++ (p.right.take j).map symN).length ≤ 2 ^ 40 + 8 := by simp; omega
    generalize M ++ (p.right.take j).map symN = M' at *
    generalize p.right[j] = s at *
    obtain ⟨non, n0⟩ := s
    simp only at hs
    obtain ⟨n, rfl⟩ : ∃ m : Nat, n0 = m := ⟨n0.toNat, by omega⟩
    have hm : IntKind.i64.wrap (2 * (n : Int)) = ((2 * n : Nat) : Int) := by rw [wrap_i64 (by omega) (by omega)]; omega
    have hm2 : IntKind.i64.wrap (((2 * n : Nat) : Int) + 1) = ((2 * n + 1 : Nat) : Int) := by rw [wrap_i64 (by omega) (by omega)]; omega
    cases non
    · have en : symN ⟨false, n⟩ = 2 * n := by simp [symN]
      rw [en] at hsn
      simp [hlt', hlt, b6, hpc, hg, symV, symC, V.cells, V.good, setAt, hm, fillL, V.isAgg, -Int.natCast_mul]
      refine ow'.appZ (fun _ => rfl) (by simp; omega) fun e2 st2 h2 o2 ob2 nb2 => ?_
      have em : i64s M' ++ [V.int .i64 (2 * n : Nat)] = i64s (M' ++ [2 * n]) := by rw [i64s_append]; rfl
      rw [em, ← hsn] at o2 ⊢
      simp [hw1]
      exact ⟨p.right.length - (j + 1), by omega, iv ⟨j + 1, e2, st2, by omega, rfl, rfl, o2, by rw [ob2]; exact b1, by rw [ob2, b6, hpc], by omega⟩⟩
    · have en : symN ⟨true, n⟩ = 2 * n + 1 := by simp [symN]
      rw [en] at hsn
      simp [hlt', hlt, b6, hpc, hg, symV, symC, V.cells, V.good, setAt, hm, hm2, fillL, V.isAgg, -Int.natCast_mul, -Int.natCast_add]
      refine ow'.appZ (fun _ => rfl) (by simp; omega) fun e2 st2 h2 o2 ob2 nb2 => ?_
      have em : i64s M' ++ [V.int .i64 (2 * n + 1 : Nat)] = i64s (M' ++ [2 * n + 1]) := by rw [i64s_append]; rfl
      rw [em, ← hsn] at o2 ⊢
      simp [hw1]
      exact ⟨p.right.length - (j + 1), by omega, iv ⟨j + 1, e2, st2, by omega, rfl, rfl, o2, by rw [ob2]; exact b1, by rw [ob2, b6, hpc], by omega⟩⟩
  · have hlt' : ¬ (j : Int) < p.right.length := by omega
    obtain rfl : j = p.right.length := by omega
    rw [List.take_length] at ow' ⊢
    simp [b6, hpc]
    exact hQ _ _ _ _ ow' b1 l1
theorem prN_len (p : Pr) : (prN p).length = p.right.length + 2 := by simp [prN]
theorem gmN_byte {g : Gm} (r : RightG g) : ∀ n ∈ gmN g, n < 2 ^ 63 := by
  have hd := r.head
  intro n hn
  simp only [gmN, List.mem_cons, List.mem_flatMap] at hn
  rcases hn with rfl | rfl | rfl | rfl | ⟨p, hp, hn⟩
  · omega
  · omega
  · omega
  · omega
  · have hpr := r.prods p hp
    simp only [prN, List.mem_cons, List.mem_map] at hn
    rcases hn with rfl | rfl | ⟨s, hs, rfl⟩
    · omega
    · omega
    · have := r.sym hp hs
      unfold symN; split <;> omega
theorem gmN_len {g : Gm} (r : RightG g) : (gmN g).length ≤ 604 := by
  have := flat_len (f := prN) (m := 10) g.prods fun p hp => by have := (r.prods p hp).2.2.1; rw [prN_len]; omega
  have := r.head
  simp only [gmN, List.length_cons]; omega
theorem rbytes3_L2 (Hp : Has (Ecx X) K.probateref01_Put A.probateref01_Put) {h0 h : AH} {e st : Nat} {ns : List Nat} (hn : ∀ n ∈ ns, n < 2 ^ 63) (hl : ns.length ≤ 2 ^ 40) (gr : Gr h0 h) {Q : Ex → Env → AH → Prop} {zQ : Lz Q} {z : Lz (AC.loop A.probateref03_Bytes.L2)}
    (hQ : ∀ h' e2 st2 v, Own h0 h' 1 e2 st2 (u8s (vputs ns)) → Q (.exit 4) [(4, .sl e st (i64s ns)), (9, .sl e2 st2 (u8s (vputs ns))), (10, .int .i64 ns.length), (74, v)] h') (he : e = 1) :
    acZ (Ecx X) [(4, .sl e st (i64s ns)), (9, .sl 1 2 []), (10, .int .i64 0)] h z zQ := by
  subst he
  refine loopI (n := ns.length) (fun m env h' => ∃ k e' st', k ≤ ns.length ∧ m = ns.length - k ∧ env = [(4, .sl 1 st (i64s ns)), (9, .sl e' st' (u8s (vputs (ns.take k)))), (10, .int .i64 (k : Nat))] ∧ Own h0 h' 1 e' st' (u8s (vputs (ns.take k)))) ?_
    ⟨0, 1, 2, by omega, by omega, rfl, Own.full gr 1 []⟩
  rintro m env h' ⟨k, e', st', hk, rfl, rfl, ow⟩
  unfold A.probateref03_Bytes.L2
  by_cases hlt : k < ns.length
  · have hlt' : (k : Int) < ns.length := by omega
    have hg := i64s_getD hlt
    have hgk : ns.getD k 0 = ns[k] := by simp [List.getD, List.getElem?_eq_getElem hlt]
    have hm : ns[k] ∈ ns := List.getElem_mem hlt
    have hw2 : IntKind.u64.wrap (ns[k] : Int) = ns[k] := wrap_u64_nat (by have := hn _ hm; omega)
    have hl2 := vputs_len (ns.take k) fun n h => hn n (List.mem_of_mem_take h)
    have hl3 : (ns.take k).length = k := by simp; omega
    have hl4 := vput_len64 (n := ns[k]) (by have := hn _ hm; omega)
    have hw1 : IntKind.i64.wrap ((k : Int) + 1) = ((k + 1 : Nat) : Int) := by rw [wrap_i64 (by omega) (by omega)]; rfl
    rw [hgk] at hg
    simp [hlt', hg, V.cells, hw2]
    refine ecall (rput_spec Hp ns[k] (by have := hn _ hm; omega) ?_)
    simp
    refine ow.appZ (fun _ => rfl) (by simp only [u8s_length]; omega) fun e2 st2 h2 o2 _ _ => ?_
    rw [← u8s_append, ← vputs_snoc, ← List.take_succ_eq_append_getElem hlt] at o2 ⊢
    simp [hw1]
    exact ⟨ns.length - (k + 1), by omega, iv ⟨k + 1, e2, st2, by omega, rfl, rfl, o2⟩⟩
  · have hlt' : ¬ (k : Int) < ns.length := by omega
    obtain rfl : k = ns.length := by omega
    rw [List.take_length] at ow ⊢
    simp
    exact hQ _ _ _ _ ow
theorem rbytes3_spec (L : LGR X) (g : Gm) (hQ : Q (gbytV g) h) : Ecx X K.probateref03_Bytes [gmV g] h Q := by
  refine fn_walk L.bytes (by simp [A.probateref03_Bytes]) fun wf => ?_
  have gr := (Gr.refl h).new (gmC g)
  have ob : (h.new (gmC g)).objs h.nobj = gmC g := new_objs_same _ _
  unfold gbytV gbytR at hQ
  simp [A.probateref03_Bytes, gmV, V.cells, V.good, gm4]
  have nb : h.nobj < (h.new (gmC g)).nobj := by simp
  generalize h.new (gmC g) = h2 at *
  refine ecall (rright3_spec L.right g ?_)
  cases hr : rightG g with
  | false =>
    rw [hr] at hQ
    simp at hQ ⊢
    exact fin_wk gr (Wk.t2 (.nil _ 1 _) _) (by simp) hQ
  | true =>
  have rg := rightG_iff.1 hr
  have hd := rg.head
  have hbl := gmB_len rg
  rw [hr, if_neg (by simp)] at hQ
  have hnb := gmN_byte rg
  have hnl := gmN_len rg
  have hvp := vputs_gm g
  obtain ⟨tt, ht⟩ : ∃ n : Nat, g.terms = n := ⟨g.terms.toNat, by omega⟩
  obtain ⟨nn, hn⟩ : ∃ n : Nat, g.nons = n := ⟨g.nons.toNat, by omega⟩
  obtain ⟨ss, hs⟩ : ∃ n : Nat, g.start = n := ⟨g.start.toNat, by omega⟩
  have hg4 : [V.int .i64 g.terms, V.int .i64 g.nons, V.int .i64 g.start, V.int .i64 g.prods.length] = i64s [g.terms.toNat, g.nons.toNat, g.start.toNat, g.prods.length] := by
    rw [ht, hn, hs]; rfl
  simp [ob, gm_cells, fillL, V.isAgg, V.cells, V.good]
  rw [hg4]
  refine loopI (n := g.prods.length) (fun r env h' => ∃ k e st, k ≤ g.prods.length ∧ r = g.prods.length - k ∧ env = [(1, .ptr h.nobj 0), (4, .sl e st (i64s ([g.terms.toNat, g.nons.toNat, g.start.toNat, g.prods.length] ++ (g.prods.take k).flatMap prN))), (5, .int .i64 (k : Nat))] ∧ Own h h' 1 e st (i64s ([g.terms.toNat, g.nons.toNat, g.start.toNat, g.prods.length] ++ (g.prods.take k).flatMap prN)) ∧ h'.objs h.nobj = gmC g ∧ h.nobj < h'.nobj) ?_
    ⟨0, 1, 2, by omega, by omega, rfl, Own.full gr 1 _, ob, nb⟩
  rintro r env h' ⟨k, e, st, hk, rfl, rfl, ow, b1, l1⟩
  unfold A.probateref03_Bytes.L0
  by_cases hlt : k < g.prods.length
  · have hlt' : (k : Int) < g.prods.length := by omega
    have hg : (g.prods.map prV).getD k .undef = prV g.prods[k] := Enc.getD hlt
    have hw1 : IntKind.i64.wrap ((k : Int) + 1) = ((k + 1 : Nat) : Int) := by rw [wrap_i64 (by omega) (by omega)]; rfl
    have hp := List.getElem_mem hlt
    have hpr := rg.prods _ hp
    have hsy := fun s hs => rg.sym hp (s := s) hs
    have hsn : (g.prods.take (k + 1)).flatMap prN = (g.prods.take k).flatMap prN ++ prN g.prods[k] := by
      rw [List.take_succ_eq_append_getElem hlt, List.flatMap_append]; simp
    have hfl := flat_len (f := prN) (m := 10) (g.prods.take k) fun p hp => by have := (rg.prods p (List.mem_of_mem_take hp)).2.2.1; rw [prN_len]; omega
    have htl : (g.prods.take k).length = k := by simp; omega
    have hML : ([g.terms.toNat, g.nons.toNat, g.start.toNat, g.prods.length] ++ (g.prods.take k).flatMap prN).length ≤ 2 ^ 20 := by simp only [List.length_append, List.length_cons, List.length_nil]; omega
    have hsn2 : [g.terms.toNat, g.nons.toNat, g.start.toNat, g.prods.length] ++ (g.prods.take (k + 1)).flatMap prN = ([g.terms.toNat, g.nons.toNat, g.start.toNat, g.prods.length] ++ (g.prods.take k).flatMap prN) ++ prN g.prods[k] := by rw [hsn, List.append_assoc]
    generalize [g.terms.toNat, g.nons.toNat, g.start.toNat, g.prods.length] ++ (g.prods.take k).flatMap prN = M at *
    generalize g.prods[k] = p at *
    have hpc : prC p = [.int .i64 p.left, .sl 2 0 (p.right.map symV)] := rfl
    have n1 : ¬ h.nobj = h'.nobj := by omega
    obtain ⟨left, right⟩ := p
    simp only at hpr hsy
    obtain ⟨ll, rfl⟩ : ∃ n : Nat, left = n := ⟨left.toNat, by omega⟩
    have ow2 : Own h (h'.new (prC ⟨ll, right⟩)) 1 e st (i64s M) := ⟨ow.gr.new _, ow.el, ow.st⟩
    have o1 : (h'.new (prC ⟨ll, right⟩)).objs h.nobj = gmC g := by rw [new_objs_ne _ _ n1]; exact b1
    have o2 : (h'.new (prC ⟨ll, right⟩)).objs h'.nobj = prC ⟨ll, right⟩ := new_objs_same _ _
    have q2 : h'.nobj < (h'.new (prC ⟨ll, right⟩)).nobj := by simp
    rw [hpc] at ow2 o1 o2 q2
    simp [hlt', hlt, b1, gm_cells, hg, prV, hpc, V.cells, V.good, setAt, fillL, V.isAgg]
    generalize h'.new [.int .i64 ll, .sl 2 0 (right.map symV)] = h3 at *
    refine ow2.appZ (fun _ => rfl) (by simp; omega) fun e2 st2 h4 o4 ob4 nb4 => ?_
    have em : i64s M ++ [V.int .i64 ll, V.int .i64 right.length] = i64s (M ++ [ll, right.length]) := by rw [i64s_append]; rfl
    rw [em] at o4 ⊢
    simp
    refine rbytes3_L1 hpr.2.2.1 hsy (by simp; omega) o4 g (by rw [ob4]; exact o1) (by rw [ob4]; exact o2) fun h5 e5 st5 v5 o5 b5 l5 => ?_
    simp [hw1]
    refine ⟨g.prods.length - (k + 1), by omega, iv ⟨k + 1, e5, st5, by omega, rfl, ?_, ?_, b5, by omega⟩⟩
    · have h3 : g.terms.toNat :: g.nons.toNat :: g.start.toNat :: g.prods.length :: List.flatMap prN (List.take (k + 1) g.prods) = M ++ prN ⟨ll, right⟩ := hsn2
      rw [h3]; simp [prN]
    · have h3 : g.terms.toNat :: g.nons.toNat :: g.start.toNat :: g.prods.length :: List.flatMap prN (List.take (k + 1) g.prods) = M ++ prN ⟨ll, right⟩ := hsn2
      rw [h3]; simpa [prN] using o5
  · have hlt' : ¬ (k : Int) < g.prods.length := by omega
    obtain rfl : k = g.prods.length := by omega
    rw [List.take_length] at ow ⊢
    rw [show [g.terms.toNat, g.nons.toNat, g.start.toNat, g.prods.length] ++ g.prods.flatMap prN = gmN g from rfl] at ow ⊢
    simp [b1, gm_cells, fillL]
    obtain rfl : e = 1 := by rcases ow.el with h1 | h1; · simp [gmN, i64s] at h1
                             · exact h1
    refine rbytes3_L2 L.put hnb (by omega) ow.gr (fun h6 e6 st6 v6 o6 => ?_) rfl
    rw [hvp] at o6 ⊢
    simp
    exact fin_wk o6.gr (Wk.t2 o6.wk _) (by simp [cellsOf_u8s]; exact Bdd_u8s _ _ _) hQ
end
end Go.Proofs.Ytpnbdnmmfaomlaa.Al
