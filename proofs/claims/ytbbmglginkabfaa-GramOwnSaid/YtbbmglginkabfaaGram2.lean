/-
  Layer 3, gram: bytes and grammars, by the abstract layer. Conditions: each theorem's own.
-/
import Derived.Test.YtbbmglginkabfaaGram
import Derived.Test.YtbbmglginkabfaaWC
namespace Go.Proofs.Ytbbmglginkabfaa.Al
open Go Go.RowKit
set_option linter.unusedSimpArgs false
set_option linter.unusedVariables false
attribute [-simp] List.getD_eq_getElem?_getD Int.not_lt Int.not_le List.map_take

def symN (s : Sy) : Nat := 2 * s.n.toNat + (if s.non = true then 1 else 0)
def symB (s : Sy) : List Nat := vput (symN s)
def prB (p : Pr) : List Nat := vput p.left.toNat ++ (vput p.right.length ++ p.right.flatMap symB)
def gmB (g : Gm) : List Nat := vput g.terms.toNat ++ (vput g.nons.toNat ++ (vput g.start.toNat ++ (vput g.prods.length ++ g.prods.flatMap prB)))
def gbytR (g : Gm) : List Nat × Int := if rightG g = false then ([], 1) else (gmB g, 0)
def gbytV (g : Gm) : V := .tup [.sl 1 0 (u8s (gbytR g).1), .int .i64 (gbytR g).2]
theorem headG_iff {g : Gm} : headG g = true ↔ 0 ≤ g.terms ∧ g.terms ≤ 16 ∧ 1 ≤ g.nons ∧ g.nons ≤ 24 ∧ 0 ≤ g.start ∧ g.start < g.nons ∧ g.prods.length ≤ 60 := by
  simp [headG, and_assoc]
structure RightG (g : Gm) : Prop where
  head : 0 ≤ g.terms ∧ g.terms ≤ 16 ∧ 1 ≤ g.nons ∧ g.nons ≤ 24 ∧ 0 ≤ g.start ∧ g.start < g.nons ∧ g.prods.length ≤ 60
  prods : ∀ p ∈ g.prods, 0 ≤ p.left ∧ p.left < g.nons ∧ p.right.length ≤ 8 ∧ ∀ s ∈ p.right, 0 ≤ s.n ∧ s.n < (if s.non = true then g.nons else g.terms)
theorem rightG_iff {g : Gm} : rightG g = true ↔ RightG g := by
  constructor
  · intro h
    simp only [rightG, Bool.and_eq_true, headG_iff, List.all_eq_true] at h
    refine ⟨h.1, fun p hp => ?_⟩
    have := h.2 p hp
    simp only [fitsG, thereG, Bool.and_eq_true, decide_eq_true_eq, if_true, List.all_eq_true] at this
    exact ⟨this.1.1.1, this.1.1.2, this.1.2, this.2⟩
  · intro ⟨h1, h2⟩
    simp only [rightG, Bool.and_eq_true, headG_iff, List.all_eq_true]
    refine ⟨h1, fun p hp => ?_⟩
    obtain ⟨a, b, c, d⟩ := h2 p hp
    simp only [fitsG, thereG, Bool.and_eq_true, decide_eq_true_eq, if_true, List.all_eq_true]
    exact ⟨⟨⟨a, b⟩, c⟩, d⟩
theorem RightG.sym {g : Gm} (r : RightG g) {p : Pr} (hp : p ∈ g.prods) {s : Sy} (hs : s ∈ p.right) : 0 ≤ s.n ∧ s.n ≤ 23 := by
  have h1 := (r.prods p hp).2.2.2 s hs
  have h2 := r.head
  split at h1 <;> omega
theorem symB_len {s : Sy} (h : s.n ≤ 23) : (symB s).length ≤ 10 := vput_len64 (by unfold symN; split <;> omega)
theorem prB_len {g : Gm} (r : RightG g) {p : Pr} (hp : p ∈ g.prods) : (prB p).length ≤ 100 := by
  have h1 := r.prods p hp
  have h2 := r.head
  have h3 := vput_len64 (n := p.left.toNat) (by omega)
  have h4 := vput_len64 (n := p.right.length) (by omega)
  have h5 := flat_len (f := symB) (m := 10) p.right fun s hs => symB_len (r.sym hp hs).2
  simp only [prB, List.length_append]; omega
theorem gmB_len {g : Gm} (r : RightG g) : (gmB g).length ≤ 6040 := by
  have h2 := r.head
  have a := vput_len64 (n := g.terms.toNat) (by omega)
  have b := vput_len64 (n := g.nons.toNat) (by omega)
  have c := vput_len64 (n := g.start.toNat) (by omega)
  have d := vput_len64 (n := g.prods.length) (by omega)
  have e := flat_len (f := prB) (m := 100) g.prods fun p hp => prB_len r hp
  simp only [gmB, List.length_append]; omega
theorem shl1 (n : Int) (h0 : 0 ≤ n) (h1 : n ≤ 23) : IntKind.i64.wrap (n * 2) = 2 * n := by rw [wrap_i64 (by omega) (by omega)]; omega
theorem or1 : ∀ n : Nat, n ≤ 23 → bitOr .i64 (2 * (n : Int)) 1 = ((2 * n + 1 : Nat) : Int) := by decide +kernel
section
variable {X : Cx} {h : AH} {Q : V → AH → Prop}
theorem bytes3L1 (L : LG X) {h0 : AH} {o k : Nat} {ps : List Pr} {rs : List Sy} {M : List Nat} (hr : ∀ s ∈ rs, 0 ≤ s.n ∧ s.n ≤ 23) (hl : rs.length ≤ 8) (hM : M.length ≤ 2 ^ 40) (w : WC h0 h o M) {n : Int} {Q : Ex → Env → AH → Prop} {zQ : Lz Q} {z : Lz (AC.loop A.gram_Bytes.L1)}
    (hQ : ∀ h', WC h0 h' o (M ++ rs.flatMap symB) → Q (.exit 2) [(4, .ptr o 0), (33, .sl 2 0 (ps.map prV)), (34, .int .i64 n), (35, .int .i64 k), (49, .sl 2 0 (rs.map symV)), (50, .int .i64 rs.length), (51, .int .i64 rs.length), (52, .bool false)] h') :
    acZ (Ecx X) [(4, .ptr o 0), (33, .sl 2 0 (ps.map prV)), (34, .int .i64 n), (35, .int .i64 k), (49, .sl 2 0 (rs.map symV)), (50, .int .i64 rs.length), (51, .int .i64 0)] h z zQ := by
  refine loopI (n := rs.length) (fun r env h' => ∃ j, j ≤ rs.length ∧ r = rs.length - j ∧ env = [(4, .ptr o 0), (33, .sl 2 0 (ps.map prV)), (34, .int .i64 n), (35, .int .i64 k), (49, .sl 2 0 (rs.map symV)), (50, .int .i64 rs.length), (51, .int .i64 (j : Nat))] ∧ WC h0 h' o (M ++ (rs.take j).flatMap symB)) ?_
    ⟨0, by omega, by omega, rfl, by simpa using w⟩
  rintro r env h' ⟨j, hj, rfl, rfl, w'⟩
  unfold A.gram_Bytes.L1
  by_cases hlt : j < rs.length
  · have hlt' : (j : Int) < rs.length := by omega
    have hg : (rs.map symV).getD j .undef = symV rs[j] := Enc.getD hlt
    have hw1 : IntKind.i64.wrap ((j : Int) + 1) = ((j + 1 : Nat) : Int) := by rw [wrap_i64 (by omega) (by omega)]; rfl
    have hs := hr _ (List.getElem_mem hlt)
    have hsn : M ++ (rs.take (j + 1)).flatMap symB = (M ++ (rs.take j).flatMap symB) ++ symB rs[j] := by
      rw [List.take_succ_eq_append_getElem hlt, List.flatMap_append, List.append_assoc]; simp
    have hfl := flat_len (f := symB) (m := 10) (rs.take j) fun s hs => symB_len (hr s (List.mem_of_mem_take hs)).2
    have htl : (rs.take j).length = j := by simp; omega
    generalize rs[j] = s at *
    have n1 : ¬ o = h'.nobj := by have := w'.lo; omega
    have w2 := w'.new (symC s)
    have hsh := shl1 s.n hs.1 hs.2
    obtain ⟨non, n0⟩ := s
    simp only at hs hsh
    obtain ⟨n, rfl⟩ : ∃ m : Nat, n0 = m := ⟨n0.toNat, by omega⟩
    have hor := or1 n (by omega)
    cases non
    · have en : symB ⟨false, n⟩ = vput (2 * n) := by simp [symB, symN]
      rw [en] at hsn
      simp [hlt', hg, symV, symC, V.cells, V.good, setAt, hsh] at w2 ⊢
      rw [show (2 * (n : Int)) = ((2 * n : Nat) : Int) by omega]
      refine ecall (cnum L.w _ (by omega) w2 (by simp only [List.length_append]; omega) fun h1 w3 _ _ => ?_)
      simp [hw1]
      exact ⟨rs.length - (j + 1), by omega, iv ⟨j + 1, by omega, rfl, rfl, by rw [hsn]; exact w3⟩⟩
    · have en : symB ⟨true, n⟩ = vput (2 * n + 1) := by simp [symB, symN]
      rw [en] at hsn
      simp [hlt', hg, symV, symC, V.cells, V.good, setAt, hsh, hor] at w2 ⊢
      rw [show (2 * (n : Int) + 1) = ((2 * n + 1 : Nat) : Int) by omega]
      refine ecall (cnum L.w _ (by omega) w2 (by simp only [List.length_append]; omega) fun h1 w3 _ _ => ?_)
      simp [hw1]
      exact ⟨rs.length - (j + 1), by omega, iv ⟨j + 1, by omega, rfl, rfl, by rw [hsn]; exact w3⟩⟩
  · have hlt' : ¬ (j : Int) < rs.length := by omega
    obtain rfl : j = rs.length := by omega
    rw [List.take_length] at w'
    simp [hlt']
    exact hQ _ w'
theorem bytes3_spec (L : LG X) (g : Gm) (ok : GmOk g) (hQ : Q (gbytV g) h) : Ecx X K.gram_Bytes [gmV g] h Q := by
  refine fn_walk L.bytes (by simp [A.gram_Bytes]) fun wf => ?_
  have hgc : gmC g = [.int .i64 g.terms, .int .i64 g.nons, .int .i64 g.start, .sl 2 0 (g.prods.map prV)] := rfl
  have gr := (Gr.refl h).new (gmC g)
  unfold gbytV gbytR at hQ
  simp [A.gram_Bytes, gmV, V.cells, V.good, gm4]
  refine ecall (right3_spec L g ok ?_)
  cases hr : rightG g with
  | false =>
    rw [hr] at hQ
    simp at hQ ⊢
    exact fin_wk gr (Wk.t2 (.nil _ 1 _) _) (by simp) hQ
  | true =>
  have rg := rightG_iff.1 hr
  have hd := rg.head
  have hbl := gmB_len rg
  rw [hr, if_neg (by simp)] at hQ
  have w0 := WC.mk0 h gr
  have o0 : ((h.new (gmC g)).new [.sl 0 1 []]).objs h.nobj = gmC g := by simp
  have nb0 : h.nobj + 1 < ((h.new (gmC g)).new [.sl 0 1 []]).nobj := by simp
  have ne1 : ¬ h.nobj = h.nobj + 1 := by omega
  simp [fillV, V.cells, V.good]
  simp only [new_nobj] at w0
  generalize (h.new (gmC g)).new [.sl 0 1 []] = h1 at *
  simp [hgc]
  refine ecall (cint L.w _ (by omega) (by omega) w0 (by simp) fun h2 w2 q2 b2 => ?_)
  have o2 : h2.objs h.nobj = gmC g := by rw [q2 _ ne1 (by omega)]; exact o0
  simp [o2, hgc]
  refine ecall (cint L.w _ (by omega) (by omega) w2 (by have := vput_len64 (n := g.terms.toNat) (by omega); simp; omega) fun h3 w3 q3 b3 => ?_)
  have o3 : h3.objs h.nobj = gmC g := by rw [q3 _ ne1 (by omega)]; exact o2
  have a1 := vput_len64 (n := g.terms.toNat) (by omega)
  have a2 := vput_len64 (n := g.nons.toNat) (by omega)
  have a3 := vput_len64 (n := g.start.toNat) (by omega)
  have a4 := vput_len64 (n := g.prods.length) (by omega)
  simp [o3, hgc]
  refine ecall (cint L.w _ (by omega) (by omega) w3 (by simp; omega) fun h4 w4 q4 b4 => ?_)
  have o4 : h4.objs h.nobj = gmC g := by rw [q4 _ ne1 (by omega)]; exact o3
  simp [o4, hgc]
  refine ecall (cnum L.w _ (by omega) w4 (by simp; omega) fun h5 w5 q5 b5 => ?_)
  have o5 : h5.objs h.nobj = gmC g := by rw [q5 _ ne1 (by omega)]; exact o4
  simp [o5, hgc]
  simp only [List.nil_append, List.append_assoc] at w5
  generalize hpre : vput g.terms.toNat ++ (vput g.nons.toNat ++ (vput g.start.toNat ++ vput g.prods.length)) = pre at *
  have hprel : pre.length ≤ 40 := by rw [← hpre]; simp; omega
  have hgb : gmB g = pre ++ g.prods.flatMap prB := by rw [← hpre]; simp [gmB]
  refine loopI (n := g.prods.length) (fun r env h' => ∃ j, j ≤ g.prods.length ∧ r = g.prods.length - j ∧ env = [(4, .ptr (h.nobj + 1) 0), (33, .sl 2 0 (g.prods.map prV)), (34, .int .i64 g.prods.length), (35, .int .i64 (j : Nat))] ∧ WC h h' (h.nobj + 1) (pre ++ (g.prods.take j).flatMap prB)) ?_
    ⟨0, by omega, by omega, rfl, by simpa using w5⟩
  rintro r env h' ⟨j, hj, rfl, rfl, w'⟩
  unfold A.gram_Bytes.L0
  by_cases hlt : j < g.prods.length
  · have hlt' : (j : Int) < g.prods.length := by omega
    have hg : (g.prods.map prV).getD j .undef = prV g.prods[j] := Enc.getD hlt
    have hw1 : IntKind.i64.wrap ((j : Int) + 1) = ((j + 1 : Nat) : Int) := by rw [wrap_i64 (by omega) (by omega)]; rfl
    have hp := List.getElem_mem hlt
    have hsn : pre ++ (g.prods.take (j + 1)).flatMap prB = (pre ++ (g.prods.take j).flatMap prB) ++ prB g.prods[j] := by
      rw [List.take_succ_eq_append_getElem hlt, List.flatMap_append, List.append_assoc]; simp
    have hfl := flat_len (f := prB) (m := 100) (g.prods.take j) fun p hp => prB_len rg (List.mem_of_mem_take hp)
    have htl : (g.prods.take j).length = j := by simp; omega
    have hpr := rg.prods _ hp
    have hsy := fun s hs => rg.sym hp (s := s) hs
    generalize g.prods[j] = p at *
    have n1 : ¬ h'.nobj = h.nobj + 1 := by have := w'.lo; omega
    have n2 : ¬ h.nobj + 1 = h'.nobj := by omega
    have w2 := w'.new (prC p)
    have ob2 : (h'.new (prC p)).objs h'.nobj = prC p := new_objs_same _ _
    have nb2 : h'.nobj < (h'.new (prC p)).nobj := by simp
    have hpc : prC p = [.int .i64 p.left, .sl 2 0 (p.right.map symV)] := rfl
    have b1 := vput_len64 (n := p.left.toNat) (by omega)
    have b2 := vput_len64 (n := p.right.length) (by omega)
    rw [hpc] at w2 ob2 nb2
    simp [hlt', hg, prV, V.cells, V.good, setAt, hpc]
    generalize h'.new [.int .i64 p.left, .sl 2 0 (p.right.map symV)] = h6 at *
    refine ecall (cint L.w _ (by omega) (by omega) w2 (by simp only [List.length_append]; omega) fun h7 w7 q7 c7 => ?_)
    have ob7 : h7.objs h'.nobj = [.int .i64 p.left, .sl 2 0 (p.right.map symV)] := by rw [q7 _ n1 (by omega)]; exact ob2
    simp [ob7]
    refine ecall (cnum L.w _ (by omega) w7 (by simp only [List.length_append]; omega) fun h8 w8 q8 c8 => ?_)
    have ob8 : h8.objs h'.nobj = [.int .i64 p.left, .sl 2 0 (p.right.map symV)] := by rw [q8 _ n1 (by omega)]; exact ob7
    simp [ob8]
    refine bytes3L1 L hsy hpr.2.2.1 (by simp only [List.length_append]; omega) w8 fun h9 w9 => ?_
    simp [hw1]
    refine ⟨g.prods.length - (j + 1), by omega, iv ⟨j + 1, by omega, rfl, rfl, ?_⟩⟩
    rw [hsn]
    have : pre ++ (g.prods.take j).flatMap prB ++ prB p = pre ++ (g.prods.take j).flatMap prB ++ vput p.left.toNat ++ vput p.right.length ++ p.right.flatMap symB := by simp [prB]
    rw [this]; exact w9
  · have hlt' : ¬ (j : Int) < g.prods.length := by omega
    obtain rfl : j = g.prods.length := by omega
    rw [List.take_length, ← hgb] at w'
    simp [hlt']
    refine ecall (cbytes L.w w' (by omega) ?_)
    simp
    exact fin_wk w'.gr (.same _) (by simp [cellsOf_u8s]; exact Bdd_u8s _ _ _) hQ
end
end Go.Proofs.Ytbbmglginkabfaa.Al
