/-
  Layer 3: the law GramOwn, by the abstract layer: a copy lies in objects of its own. Conditions: each theorem's own.
-/
import Derived.Test.YtbbmglginkabfaaGramLaw
import Derived.Test.YtbbmglginkabfaaAlOown
namespace Go.Proofs.Ytbbmglginkabfaa.Al
open Go Go.RowKit
set_option linter.unusedSimpArgs false
set_option linter.unusedVariables false
attribute [-simp] List.getD_eq_getElem?_getD Int.not_lt Int.not_le List.map_take

section
variable {h : AH} {K : V → AH → Prop} {zK : Lz K} {z : List V} {e sz : Nat}
/-- Appended to nothing: an object of its own. -/
theorem appO_new {e1 st : Nat} {m : List V} (hm : m ≠ []) (hb : m.length * sz ≤ 2 ^ 46) (hk : K (.osl e h.nobj 0 m.length 0) (h.new (cellsOf m))) : AppO h e sz z (.sl e1 2 []) (.sl e st m) zK :=
  ⟨.inr rfl, rfl, fun h0 => absurd (List.eq_nil_of_length_eq_zero h0) hm, fun _ => ⟨rfl, hb, hk⟩⟩
/-- Appended where there is room. -/
theorem appO_in {o off len cap st : Nat} {m : List V} (hm : m ≠ []) (hf : off + cap * e ≤ (h.objs o).length) (hb : (len + m.length) * sz ≤ 2 ^ 46) (hc : len + m.length ≤ cap)
    (hk : K (.osl e o off (len + m.length) cap) (h.set o (setAt (h.objs o) (off + len * e) (cellsOf m)))) : AppO h e sz z (.osl e o off len cap) (.sl e st m) zK :=
  ⟨fun h0 => absurd (List.eq_nil_of_length_eq_zero h0) hm, fun _ => ⟨rfl, rfl, hf, hb, hc, hk⟩⟩
end

/-- Symbols in an object: their numbers are ints. -/
def SymO (l : List V) (n : Nat) : Prop := l.length = n * 2 ∧ ∀ k, k < n → ∃ a, l.getD (k * 2 + 1) .undef = .int .i64 a
theorem symO_set {l : List V} {n : Nat} (s : SymO l n) (i : Nat) (a : Int) : SymO (l.set i (.int .i64 a)) n := by
  refine ⟨by simpa using s.1, fun k hk => ?_⟩
  obtain ⟨b, hb⟩ := s.2 k hk
  simp only [List.getD_eq_getElem?_getD, List.getElem?_set] at hb ⊢
  by_cases c : i = k * 2 + 1
  · rw [if_pos c]
    have := s.1
    rw [if_pos (by omega)]; exact ⟨a, rfl⟩
  · rw [if_neg c]; exact ⟨b, hb⟩
theorem symO_of (r : List Sy) : SymO (cellsOf (r.map symV)) r.length := by
  have hrep : ∀ v ∈ r.map symV, v.cells.length = 2 := fun v hv => by
    obtain ⟨s, _, rfl⟩ := List.mem_map.1 hv; rfl
  refine ⟨by rw [cellsOf_length hrep]; simp, fun k hk => ⟨(r[k]).n, ?_⟩⟩
  have := cellsOf_getElem hrep k (by simpa using hk) 1 (by omega)
  simp only [List.getD_eq_getElem?_getD, this]
  simp [symV, symC, V.cells]
/-- The symbols of a copied production. -/
def ROk (lo hi : Nat) (h : AH) (v : V) (n : Nat) : Prop := (n = 0 ∧ v = .sl 2 0 []) ∨ (0 < n ∧ ∃ o, lo < o ∧ o < hi ∧ v = .osl 2 o 0 n 0 ∧ SymO (h.objs o) n)
theorem ROk.to {lo hi hi' : Nat} {h h' : AH} {v : V} {n : Nat} (r : ROk lo hi h v n) (hh : hi ≤ hi') (ho : ∀ o, lo < o → o < hi → h'.objs o = h.objs o) : ROk lo hi' h' v n := by
  rcases r with r | ⟨a, o, b, c, d, e⟩
  · exact .inl r
  · exact .inr ⟨a, o, b, by omega, d, by rw [ho o b c]; exact e⟩
theorem ROk.set {lo hi : Nat} {h : AH} {v : V} {n : Nat} (r : ROk lo hi h v n) (o i : Nat) (a : Int) : ROk lo hi (h.set o ((h.objs o).set i (.int .i64 a))) v n := by
  rcases r with r | ⟨p, o', b, c, d, e⟩
  · exact .inl r
  · refine .inr ⟨p, o', b, c, d, ?_⟩
    by_cases q : o' = o
    · subst q; rw [set_objs_same]; exact symO_set e i a
    · rw [set_objs_ne _ _ _ q]; exact e
/-- The productions of a copy, of which the first k are as told. -/
def POk (lo hi : Nat) (h : AH) (f : Nat → Int) (c : List V) (ps : List Pr) (k : Nat) : Prop :=
  c.length = ps.length * 2 ∧ ∀ j (hj : j < ps.length), j < k → c.getD (j * 2) .undef = .int .i64 (f j) ∧ ROk lo hi h (c.getD (j * 2 + 1) .undef) (ps[j]).right.length
theorem POk.to {lo hi hi' : Nat} {h h' : AH} {f : Nat → Int} {c : List V} {ps : List Pr} {k : Nat} (r : POk lo hi h f c ps k) (hh : hi ≤ hi') (ho : ∀ o, lo < o → o < hi → h'.objs o = h.objs o) : POk lo hi' h' f c ps k :=
  ⟨r.1, fun j hj hk => ⟨(r.2 j hj hk).1, (r.2 j hj hk).2.to hh ho⟩⟩
theorem POk.set {lo hi : Nat} {h : AH} {f : Nat → Int} {c : List V} {ps : List Pr} {k : Nat} (r : POk lo hi h f c ps k) (o i : Nat) (a : Int) : POk lo hi (h.set o ((h.objs o).set i (.int .i64 a))) f c ps k :=
  ⟨r.1, fun j hj hk => ⟨(r.2 j hj hk).1, (r.2 j hj hk).2.set o i a⟩⟩
section
variable {X : Cx} {h : AH} {Q : V → AH → Prop}
theorem cloneS_o (H : Has (Ecx X) K.slices_Clone_Sym A.slices_Clone_Sym_o) (r : List Sy) (hb : r.length ≤ 2 ^ 30) (h0 : r = [] → Q (.sl 2 0 []) h) (h1 : r ≠ [] → Q (.osl 2 h.nobj 0 r.length 0) (h.new (cellsOf (r.map symV)))) :
    Ecx X K.slices_Clone_Sym [.sl 2 0 (r.map symV)] h Q := by
  by_cases hr : r = []
  · have q := h0 hr
    subst hr
    refine fn_walk H (by simp [A.slices_Clone_Sym_o]) fun wf => ?_
    simp [A.slices_Clone_Sym_o, fillL]
    refine ⟨fin_wk (Gr.refl h) (.nil _ _ _) (by simp) q, ?_⟩
    exact ⟨.inr rfl, rfl, fun _ => by simp; exact fin_wk (Gr.refl h) (.sl _ _ _) (by simp [cellsOf]) q, fun e => absurd rfl e⟩
  · refine fn_any H (by simp [A.slices_Clone_Sym_o]) fun wf => ?_
    have hr' : ¬ r.map symV = [] := by simpa using hr
    simp [A.slices_Clone_Sym_o, fillL, hr]
    refine appO_new hr' (by simp; omega) ?_
    simpa using h1 hr

theorem clone_o (L : LG X) (H : Has (Ecx X) K.gram_Clone A.gram_Clone_o) (HS : Has (Ecx X) K.slices_Clone_Sym A.slices_Clone_Sym_o) (g : Gm) (hl : g.prods.length ≤ 2 ^ 30) (hr : ∀ p ∈ g.prods, p.right.length ≤ 2 ^ 30)
    (hQ : ∀ h' c, h.nobj + 3 ≤ h'.nobj → Gr h h' → h'.objs (h.nobj + 2) = c → POk (h.nobj + 2) h'.nobj h' (fun j => (g.prods.getD j ⟨0, []⟩).left) c g.prods g.prods.length →
      Q (.agg [.int .i64 g.terms, .int .i64 g.nons, .int .i64 g.start, .osl 2 (h.nobj + 2) 0 g.prods.length g.prods.length]) h') : Ecx X K.gram_Clone [gmV g] h Q := by
  refine fn_any H (by simp [A.gram_Clone_o]) fun wf => ?_
  have hgc : gmC g = [.int .i64 g.terms, .int .i64 g.nons, .int .i64 g.start, .sl 2 0 (g.prods.map prV)] := rfl
  simp [A.gram_Clone_o, gmV, V.cells, V.good, hgc]
  refine ⟨by omega, ?_⟩
  have hrl : (repl [.int .i64 0, .sl 0 1 []] g.prods.length).length = g.prods.length * 2 := repl_length (by rfl) _
  have hb0 : (((h.new (gmC g)).new [.int .i64 0, .int .i64 0, .int .i64 0, .sl 0 1 []]).new (repl [.int .i64 0, .sl 0 1 []] g.prods.length)).objs h.nobj = gmC g := by simp
  have hb1 : (((h.new (gmC g)).new [.int .i64 0, .int .i64 0, .int .i64 0, .sl 0 1 []]).new (repl [.int .i64 0, .sl 0 1 []] g.prods.length)).objs (h.nobj + 1) = [.int .i64 0, .int .i64 0, .int .i64 0, .sl 0 1 []] := by simp
  have hb2 : (((h.new (gmC g)).new [.int .i64 0, .int .i64 0, .int .i64 0, .sl 0 1 []]).new (repl [.int .i64 0, .sl 0 1 []] g.prods.length)).objs (h.nobj + 2) = repl [.int .i64 0, .sl 0 1 []] g.prods.length := by simp
  have hb3 : (((h.new (gmC g)).new [.int .i64 0, .int .i64 0, .int .i64 0, .sl 0 1 []]).new (repl [.int .i64 0, .sl 0 1 []] g.prods.length)).nobj = h.nobj + 3 := by simp
  have hb4 : Gr h (((h.new (gmC g)).new [.int .i64 0, .int .i64 0, .int .i64 0, .sl 0 1 []]).new (repl [.int .i64 0, .sl 0 1 []] g.prods.length)) := (((Gr.refl h).new _).new _).new _
  rw [← hgc]
  generalize (((h.new (gmC g)).new [.int .i64 0, .int .i64 0, .int .i64 0, .sl 0 1 []]).new (repl [.int .i64 0, .sl 0 1 []] g.prods.length)) = h3 at *
  refine loopI (n := g.prods.length) (fun n env h' => ∃ k c, k ≤ g.prods.length ∧ n = g.prods.length - k ∧ env = [(1, .ptr h.nobj 0), (2, .ptr (h.nobj + 1) 0), (3, .osl 2 (h.nobj + 2) 0 k g.prods.length), (11, .sl 2 0 (g.prods.map prV)), (12, .int .i64 g.prods.length), (13, .int .i64 k)] ∧
      h'.objs h.nobj = gmC g ∧ h'.objs (h.nobj + 1) = [.int .i64 0, .int .i64 0, .int .i64 0, .sl 0 1 []] ∧ h'.objs (h.nobj + 2) = c ∧ h.nobj + 3 ≤ h'.nobj ∧ Gr h h' ∧ POk (h.nobj + 2) h'.nobj h' (fun j => (g.prods.getD j ⟨0, []⟩).left) c g.prods k) ?_
    ⟨0, _, by omega, by omega, rfl, hb0, hb1, rfl, by omega, hb4, by rw [hb2]; exact ⟨hrl, fun j _ hj => absurd hj (by omega)⟩⟩
  rintro n env h' ⟨k, c, hk, rfl, rfl, ob0, ob1, ob2, ob3, ob4, pok⟩
  unfold A.gram_Clone_o.L0
  by_cases hlt : k < g.prods.length
  · have hlt' : (k : Int) < g.prods.length := by omega
    have hg : (g.prods.map prV).getD k .undef = prV g.prods[k] := Enc.getD hlt
    have hw1 : IntKind.i64.wrap ((k : Int) + 1) = ((k + 1 : Nat) : Int) := by rw [wrap_i64 (by omega) (by omega)]; rfl
    have hrl2 := hr _ (List.getElem_mem hlt)
    have hgd : (g.prods.getD k ⟨0, []⟩) = g.prods[k] := by simp [List.getD_eq_getElem?_getD, hlt]
    have hcl := pok.1
    generalize hp : g.prods[k] = p at *
    simp [hlt', hg, prV, V.cells, V.good, prC, setAt, fillV]
    have step : ∀ (v : V) (h1 : AH), h'.nobj + 1 ≤ h1.nobj → (∀ o, o < h'.nobj → h1.objs o = h'.objs o) → ROk (h.nobj + 2) h1.nobj h1 v p.right.length →
        POk (h.nobj + 2) h1.nobj (h1.set (h.nobj + 2) (setAt c (k * 2) [.int .i64 p.left, v])) (fun j => (g.prods.getD j ⟨0, []⟩).left) (setAt c (k * 2) [.int .i64 p.left, v]) g.prods (k + 1) := by
      intro v h1 n1 n2 rok
      have hget : ∀ j, (setAt c (k * 2) [.int .i64 p.left, v])[j]? = if k * 2 ≤ j ∧ j < k * 2 + 2 then ([.int .i64 p.left, v] : List V)[j - k * 2]? else c[j]? := fun j => setAt_getElem? _ _ _ _ (by simp; omega)
      refine ⟨by rw [setAt_length]; exact hcl, fun j hj hjk => ?_⟩
      simp only [List.getD_eq_getElem?_getD, hget]
      by_cases e : j = k
      · subst e
        rw [if_pos (by omega), if_pos (by omega), show j * 2 - j * 2 = 0 by omega, show j * 2 + 1 - j * 2 = 1 by omega]
        simp only [List.getElem?_cons_zero, List.getElem?_cons_succ, Option.getD_some, hp]
        refine ⟨?_, rok.to (Nat.le_refl _) fun o ho _ => set_objs_ne _ _ _ (by omega)⟩
        rw [List.getElem?_eq_getElem hlt, Option.getD_some, hp]
      · rw [if_neg (by omega), if_neg (by omega)]
        have := pok.2 j hj (by omega)
        simp only [List.getD_eq_getElem?_getD] at this
        exact ⟨this.1, this.2.to (by omega) fun o h2 h3 => by rw [set_objs_ne _ _ _ (by omega)]; exact n2 o h3⟩
    by_cases hr0 : p.right = []
    · refine dcallE (.sl 2 0 []) (h'.new [.int .i64 p.left, .sl 2 0 (p.right.map symV)]) (cloneS_o HS p.right hrl2 (fun _ => ⟨rfl, rfl⟩) fun hn => absurd hr0 hn) ?_
      have n1 : ¬ h.nobj + 2 = h'.nobj := by omega
      have n2 : ¬ h.nobj = h'.nobj := by omega
      have n3 : ¬ h.nobj + 1 = h'.nobj := by omega
      have n4 : ¬ h.nobj = h.nobj + 2 := by omega
      have n5 : ¬ h.nobj + 1 = h.nobj + 2 := by omega
      have n10 : ¬ h'.nobj = h.nobj + 2 := by omega
      have q0 : (h'.new [.int .i64 p.left, .sl 2 0 (p.right.map symV)]).objs h'.nobj = [.int .i64 p.left, .sl 2 0 (p.right.map symV)] := by simp
      have q1 : (h'.new [.int .i64 p.left, .sl 2 0 (p.right.map symV)]).objs h.nobj = gmC g := by simp [n2, ob0]
      have q2 : (h'.new [.int .i64 p.left, .sl 2 0 (p.right.map symV)]).objs (h.nobj + 1) = [.int .i64 0, .int .i64 0, .int .i64 0, .sl 0 1 []] := by simp [n3, ob1]
      have q3 : (h'.new [.int .i64 p.left, .sl 2 0 (p.right.map symV)]).objs (h.nobj + 2) = c := by simp [n1, ob2]
      have q7 := ob4.new [.int .i64 p.left, .sl 2 0 (p.right.map symV)]
      have q5 : (h'.new [.int .i64 p.left, .sl 2 0 (p.right.map symV)]).nobj = h'.nobj + 1 := by simp
      have q6 : ∀ o, o < h'.nobj → (h'.new [.int .i64 p.left, .sl 2 0 (p.right.map symV)]).objs o = h'.objs o := fun o ho => by rw [new_objs_ne _ _ (by omega)]
      generalize (h'.new [.int .i64 p.left, .sl 2 0 (p.right.map symV)]) = h4 at *
      have st := step (.sl 2 0 []) h4 (by omega) q6 (.inl ⟨by simp [hr0], rfl⟩)
      simp [q0, fillV, setAt, V.cells, V.good, fillL, V.isAgg]
      refine appO_in (by simp) (by simp [q3]; omega) (by simp; omega) (by simp; omega) ?_
      simp [cellsOf, V.cells, q3, q0, n10, hw1]
      exact ⟨g.prods.length - (k + 1), by omega, iv ⟨k + 1, _, by omega, rfl, rfl, by simp [n4, q1], by simp [n5, q2], by simp, by show h.nobj + 3 ≤ h4.nobj; omega, q7.set (by omega) _, st⟩⟩
    · refine dcallE (.osl 2 (h'.nobj + 1) 0 p.right.length 0) ((h'.new [.int .i64 p.left, .sl 2 0 (p.right.map symV)]).new (cellsOf (p.right.map symV))) (cloneS_o HS p.right hrl2 (fun hn => absurd hn hr0) fun _ => ⟨rfl, rfl⟩) ?_
      have n1 : ¬ h.nobj + 2 = h'.nobj := by omega
      have n2 : ¬ h.nobj = h'.nobj := by omega
      have n3 : ¬ h.nobj + 1 = h'.nobj := by omega
      have n4 : ¬ h.nobj = h.nobj + 2 := by omega
      have n5 : ¬ h.nobj + 1 = h.nobj + 2 := by omega
      have n6 : ¬ h.nobj + 2 = h'.nobj + 1 := by omega
      have n7 : ¬ h.nobj = h'.nobj + 1 := by omega
      have n8 : ¬ h.nobj + 1 = h'.nobj + 1 := by omega
      have n9 : ¬ h'.nobj = h'.nobj + 1 := by omega
      have n10 : ¬ h'.nobj = h.nobj + 2 := by omega
      have q0 : ((h'.new [.int .i64 p.left, .sl 2 0 (p.right.map symV)]).new (cellsOf (p.right.map symV))).objs h'.nobj = [.int .i64 p.left, .sl 2 0 (p.right.map symV)] := by simp [n9]
      have q1 : ((h'.new [.int .i64 p.left, .sl 2 0 (p.right.map symV)]).new (cellsOf (p.right.map symV))).objs h.nobj = gmC g := by simp [n2, n7, ob0]
      have q2 : ((h'.new [.int .i64 p.left, .sl 2 0 (p.right.map symV)]).new (cellsOf (p.right.map symV))).objs (h.nobj + 1) = [.int .i64 0, .int .i64 0, .int .i64 0, .sl 0 1 []] := by rw [new_objs_ne _ _ n8, new_objs_ne _ _ n3]; exact ob1
      have q3 : ((h'.new [.int .i64 p.left, .sl 2 0 (p.right.map symV)]).new (cellsOf (p.right.map symV))).objs (h.nobj + 2) = c := by simp [n1, n6, ob2]
      have q4 : ((h'.new [.int .i64 p.left, .sl 2 0 (p.right.map symV)]).new (cellsOf (p.right.map symV))).objs (h'.nobj + 1) = cellsOf (p.right.map symV) := by simp
      have q7 := (ob4.new [.int .i64 p.left, .sl 2 0 (p.right.map symV)]).new (cellsOf (p.right.map symV))
      have q5 : ((h'.new [.int .i64 p.left, .sl 2 0 (p.right.map symV)]).new (cellsOf (p.right.map symV))).nobj = h'.nobj + 2 := by simp
      have q6 : ∀ o, o < h'.nobj → ((h'.new [.int .i64 p.left, .sl 2 0 (p.right.map symV)]).new (cellsOf (p.right.map symV))).objs o = h'.objs o := fun o ho => by simp [show ¬ o = h'.nobj by omega, show ¬ o = h'.nobj + 1 by omega]
      generalize ((h'.new [.int .i64 p.left, .sl 2 0 (p.right.map symV)]).new (cellsOf (p.right.map symV))) = h4 at *
      have st := step (.osl 2 (h'.nobj + 1) 0 p.right.length 0) h4 (by omega) q6 (.inr ⟨List.length_pos_iff.2 hr0, _, by omega, by omega, rfl, by rw [q4]; exact symO_of _⟩)
      simp [q0, fillV, setAt, V.cells, V.good, fillL, V.isAgg]
      refine appO_in (by simp) (by simp [q3]; omega) (by simp; omega) (by simp; omega) ?_
      simp [cellsOf, V.cells, q3, q0, n10, hw1]
      exact ⟨g.prods.length - (k + 1), by omega, iv ⟨k + 1, _, by omega, rfl, rfl, by simp [n4, q1], by simp [n5, q2], by simp, by show h.nobj + 3 ≤ h4.nobj; omega, q7.set (by omega) _, st⟩⟩
  · have hlt' : ¬ (k : Int) < g.prods.length := by omega
    obtain rfl : k = g.prods.length := by omega
    simp [hlt', ob0, hgc, setAt, V.cells, V.good, ob1]
    have m1 : ¬ h.nobj + 2 = h.nobj := by omega
    have m2 : ¬ h.nobj + 2 = h.nobj + 1 := by omega
    refine hQ _ c (by simpa using ob3) ((ob4.set (by omega) _).set (by omega) _) (by rw [set_objs_ne _ _ _ m2, set_objs_ne _ _ _ m1]; exact ob2) (pok.to (by simp) fun o h1 h2 => ?_)
    · rw [set_objs_ne _ _ _ (by omega), set_objs_ne _ _ _ (by omega)]
theorem alike_o (L : LG X) (a : Int) (c1 : V) (p : Pr) (ha : a ≠ p.left) (hb : Bdd h.next h.nobj c1) (hQ : Q (.bool false) h) : Ecx X K.gram_alike [.agg [.int .i64 a, c1], prV p] h Q := by
  refine fn_walk L.alike (by simp [A.gram_alike]) fun wf => ?_
  have gr := ((Gr.refl h).new [.int .i64 a, c1]).new (prC p)
  simp [A.gram_alike, prV, V.cells, V.good, prC, ha] at gr ⊢
  exact fin_wk gr (.same _) (by simp) hQ
theorem eqf_o (L : LG X) {o : Nat} {c : List V} (ps : List Pr) (hl : ps.length ≤ 2 ^ 30) (ho : o < h.nobj) (hc : h.objs o = c) (hlen : c.length = ps.length * 2) (hf : ∀ p r, ps = p :: r → ∃ a, a ≠ p.left ∧ c.getD 0 .undef = .int .i64 a)
    (hQ : Q (.bool (decide (ps = []))) h) : Ecx X K.slices_EqualFunc_Prod [.osl 2 o 0 ps.length ps.length, .sl 2 0 (ps.map prV), .fn K.gram_alike [] []] h Q := by
  refine fn_walk L.eqP (by simp [A.slices_EqualFunc_Prod]) fun wf => ?_
  simp [A.slices_EqualFunc_Prod]
  refine loopI (n := 0) (fun m env h' => Gr h h' ∧ env = [(1, .sl 2 0 (ps.map prV)), (2, .fn K.gram_alike [] []), (15, .osl 2 o 0 ps.length ps.length), (16, .int .i64 ps.length), (17, .int .i64 0)]) ?_ ⟨Gr.refl h, rfl⟩
  rintro m env h' ⟨gr, rfl⟩
  unfold A.slices_EqualFunc_Prod.L0
  have hc' := (gr.objs o ho).trans hc
  have ho' : o < h'.nobj := Nat.lt_of_lt_of_le ho gr.nobj
  match ps, c, hlen, hf, hQ, hc' with
  | [], c, hlen, hf, hQ, hc' =>
    simp
    exact fin_wk gr (.same _) (by simp) hQ
  | p :: r, c0 :: c1 :: rest, hlen, hf, hQ, hc' =>
    obtain ⟨a, ha, hca⟩ := hf p r rfl
    simp at hca
    subst hca
    have n1 : ¬ h'.nobj + 1 = h'.nobj := by omega
    have n2 : ¬ o = h'.nobj := by omega
    have n3 : ¬ h'.nobj = h'.nobj + 1 := by omega
    simp [hc', V.cells, V.good, setAt, prV, prC, n1, n2, n3]
    refine ecall (alike_o L a c1 p ha ?_ ?_)
    · have := wf.objs o ho c1 (by rw [hc]; simp)
      exact this.mono (by have := gr.next; simpa using this) (by have := gr.nobj; simp; omega)
    · simp
      exact fin_wk ((gr.new _).new _) (.same _) (by simp) hQ
  | p :: r, [], hlen, _, _, _ => simp at hlen
  | p :: r, [_], hlen, _, _, _ => simp at hlen; omega
theorem same_o (L : LG X) {o : Nat} {c : List V} (g : Gm) (hl : g.prods.length ≤ 2 ^ 30) (ho : o < h.nobj) (hc : h.objs o = c) (hlen : c.length = g.prods.length * 2) (hf : ∀ p r, g.prods = p :: r → ∃ a, a ≠ p.left ∧ c.getD 0 .undef = .int .i64 a)
    (hQ : Q (.bool (decide (g.prods = []))) h) : Ecx X K.gram_Same [.agg [.int .i64 g.terms, .int .i64 g.nons, .int .i64 g.start, .osl 2 o 0 g.prods.length g.prods.length], gmV g] h Q := by
  refine fn_walk L.same (by simp [A.gram_Same]) fun wf => ?_
  have gr := ((Gr.refl h).new [.int .i64 g.terms, .int .i64 g.nons, .int .i64 g.start, .osl 2 o 0 g.prods.length g.prods.length]).new (gmC g)
  simp [A.gram_Same, gmV, V.cells, V.good, show ∀ g, gmC g = [.int .i64 g.terms, .int .i64 g.nons, .int .i64 g.start, .sl 2 0 (g.prods.map prV)] from fun _ => rfl] at gr ⊢
  refine ecall (eqf_o L g.prods hl (by simp; omega) ?_ hlen hf ?_)
  · rw [gr.objs o ho]; exact hc
  · simp
    exact fin_wk gr (.same _) (by simp) hQ
theorem own_spec (L : L03 X) (H : Has (Ecx X) K.probatelaw03_GramOwn A.probatelaw03_GramOwn) (HC : Has (Ecx X) K.gram_Clone A.gram_Clone_o) (HS : Has (Ecx X) K.slices_Clone_Sym A.slices_Clone_Sym_o) (g : Gm) (og : GmOk g) (hQ : Q (.bool true) h) :
    Ecx X K.probatelaw03_GramOwn [gmV g] h Q := by
  refine fn_walk H (by simp [A.probatelaw03_GramOwn]) fun wf => ?_
  have hgc : gmC g = [.int .i64 g.terms, .int .i64 g.nons, .int .i64 g.start, .sl 2 0 (g.prods.map prV)] := rfl
  simp [A.probatelaw03_GramOwn, gmV, V.cells, V.good]
  refine ecall (awake3_spec L ?_)
  simp [hgc]
  refine ecall (large3_spec L g og ?_)
  have gr := (Gr.refl h).new (gmC g)
  cases hlg : largeG g with
  | true => simp; exact fin_wk gr (.same _) (by simp) hQ
  | false =>
  simp
  refine ecall (right3_spec L.p g og ?_)
  cases hrg : rightG g with
  | false => simp; exact fin_wk gr (.same _) (by simp) hQ
  | true =>
  simp
  refine ecall (bytes3_spec L.p g og ?_)
  simp [gbytV]
  have hlg' : g.prods.length ≤ 100 ∧ ∀ p ∈ g.prods, p.right.length ≤ 20 := by
    simp only [largeG, Bool.or_eq_false_iff, List.any_eq_false] at hlg
    exact ⟨by simpa using hlg.1, fun p hp => by have := hlg.2 p hp; simpa using this⟩
  obtain ⟨hl, hr⟩ := hlg'
  have hleft : ∀ p ∈ g.prods, 0 ≤ p.left ∧ p.left < 2 ^ 40 := fun p hp => by
    simp only [rightG, Bool.and_eq_true, List.all_eq_true] at hrg
    have h1 := hrg.2 p hp
    have h2 := hrg.1
    simp [fitsG, thereG, headG] at h1 h2
    omega
  refine ecall (clone_o L.p HC HS g (by omega) (fun p hp => by have := hr p hp; omega) fun h2 c n1 n2 n3 pok => ?_)
  simp at n1 n2 n3 pok
  have b0 : h2.objs h.nobj = gmC g := by rw [n2.objs _ (by simp)]; simp [hgc]
  have gr2 : Gr h h2 := ((Gr.refl h).new _).trans n2
  have lo : h.nobj + 1 + 2 = h.nobj + 3 := by omega
  rw [lo] at n3 pok
  simp [V.cells, V.good, setAt, lo]
  have ne1 : ¬ h.nobj = h2.nobj := by omega
  have ne2 : ¬ h.nobj + 3 = h2.nobj := by omega
  have e1 : (h2.new [.int .i64 g.terms, .int .i64 g.nons, .int .i64 g.start, .osl 2 (h.nobj + 3) 0 g.prods.length g.prods.length]).objs h2.nobj = [.int .i64 g.terms, .int .i64 g.nons, .int .i64 g.start, .osl 2 (h.nobj + 3) 0 g.prods.length g.prods.length] := by simp
  have e2 : (h2.new [.int .i64 g.terms, .int .i64 g.nons, .int .i64 g.start, .osl 2 (h.nobj + 3) 0 g.prods.length g.prods.length]).objs h.nobj = gmC g := by simp [ne1, b0]
  have e3 : (h2.new [.int .i64 g.terms, .int .i64 g.nons, .int .i64 g.start, .osl 2 (h.nobj + 3) 0 g.prods.length g.prods.length]).objs (h.nobj + 3) = c := by simp [ne2, n3]
  have e4 : (h2.new [.int .i64 g.terms, .int .i64 g.nons, .int .i64 g.start, .osl 2 (h.nobj + 3) 0 g.prods.length g.prods.length]).nobj = h2.nobj + 1 := by simp
  have e5 := gr2.new [.int .i64 g.terms, .int .i64 g.nons, .int .i64 g.start, .osl 2 (h.nobj + 3) 0 g.prods.length g.prods.length]
  have e6 : POk (h.nobj + 3) h2.nobj (h2.new [.int .i64 g.terms, .int .i64 g.nons, .int .i64 g.start, .osl 2 (h.nobj + 3) 0 g.prods.length g.prods.length]) (fun j => (g.prods.getD j ⟨0, []⟩).left) c g.prods g.prods.length :=
    pok.to (Nat.le_refl _) fun o h1 h3 => new_objs_ne _ _ (by omega)
  generalize (h2.new [.int .i64 g.terms, .int .i64 g.nons, .int .i64 g.start, .osl 2 (h.nobj + 3) 0 g.prods.length g.prods.length]) = h3 at *
  refine loopI (n := g.prods.length) (fun m env h' => ∃ k c, k ≤ g.prods.length ∧ m = g.prods.length - k ∧ env = [(1, .ptr h.nobj 0), (3, .sl 1 0 (u8s (gbytR g).1)), (5, .ptr h2.nobj 0), (28, .int .i64 g.prods.length), (29, .int .i64 k)] ∧
      h'.objs h.nobj = gmC g ∧ h'.objs h2.nobj = [.int .i64 g.terms, .int .i64 g.nons, .int .i64 g.start, .osl 2 (h.nobj + 3) 0 g.prods.length g.prods.length] ∧
      h'.objs (h.nobj + 3) = c ∧ h2.nobj < h'.nobj ∧ Gr h h' ∧ POk (h.nobj + 3) h2.nobj h' (fun j => if j < k then (g.prods.getD j ⟨0, []⟩).left + 1 else (g.prods.getD j ⟨0, []⟩).left) c g.prods g.prods.length) ?_
    ⟨0, _, by omega, by omega, rfl, e2, e1, e3, by omega, e5, by simpa using e6⟩
  rintro m env h' ⟨k, c', hk, rfl, rfl, o1, o2, o3, o4, gr', pk⟩
  unfold A.probatelaw03_GramOwn.L0
  by_cases hlt : k < g.prods.length
  · have hlt' : (k : Int) < g.prods.length := by omega
    have hw1 : IntKind.i64.wrap ((k : Int) + 1) = ((k + 1 : Nat) : Int) := by rw [wrap_i64 (by omega) (by omega)]; rfl
    have hcl := pk.1
    have hcell : k * 2 < c'.length := by omega
    obtain ⟨g1, g2⟩ := pk.2 k hlt hlt
    have hgd : (g.prods.getD k ⟨0, []⟩) = g.prods[k] := by simp [List.getD_eq_getElem?_getD, hlt]
    simp only [Nat.lt_irrefl, if_false, hgd] at g1
    have hlb := hleft _ (List.getElem_mem hlt)
    have hw2 : IntKind.i64.wrap (g.prods[k].left + 1) = g.prods[k].left + 1 := wrap_i64 (by omega) (by omega)
    simp [hlt', o2, o3, g1, hcell, hw2]
    have ne3 : ¬ h2.nobj = h.nobj + 3 := by omega
    have ne4 : ¬ h.nobj = h.nobj + 3 := by omega
    have f1 : (h'.set (h.nobj + 3) (c'.set (k * 2) (.int .i64 (g.prods[k].left + 1)))).objs h2.nobj = [.int .i64 g.terms, .int .i64 g.nons, .int .i64 g.start, .osl 2 (h.nobj + 3) 0 g.prods.length g.prods.length] := by simp [ne3, o2]
    have f2 : (h'.set (h.nobj + 3) (c'.set (k * 2) (.int .i64 (g.prods[k].left + 1)))).objs h.nobj = gmC g := by simp [ne4, o1]
    have f3 : (h'.set (h.nobj + 3) (c'.set (k * 2) (.int .i64 (g.prods[k].left + 1)))).objs (h.nobj + 3) = c'.set (k * 2) (.int .i64 (g.prods[k].left + 1)) := by simp
    have f4 : (h'.set (h.nobj + 3) (c'.set (k * 2) (.int .i64 (g.prods[k].left + 1)))).nobj = h'.nobj := rfl
    have f5 : Gr h (h'.set (h.nobj + 3) (c'.set (k * 2) (.int .i64 (g.prods[k].left + 1)))) := gr'.set (by omega) _
    have f6 : POk (h.nobj + 3) h2.nobj (h'.set (h.nobj + 3) (c'.set (k * 2) (.int .i64 (g.prods[k].left + 1)))) (fun j => if j < k + 1 then (g.prods.getD j ⟨0, []⟩).left + 1 else (g.prods.getD j ⟨0, []⟩).left) (c'.set (k * 2) (.int .i64 (g.prods[k].left + 1))) g.prods g.prods.length := by
      refine ⟨by simpa using hcl, fun j hj hjk => ?_⟩
      obtain ⟨p1, p2⟩ := pk.2 j hj hjk
      simp only [List.getD_eq_getElem?_getD, List.getElem?_set] at p1 p2 ⊢
      rw [if_neg (by omega : ¬ k * 2 = j * 2 + 1)]
      refine ⟨?_, p2.to (Nat.le_refl _) fun o h1 h3 => set_objs_ne _ _ _ (by omega)⟩
      by_cases e : j = k
      · subst e
        rw [if_pos rfl, if_pos hcell, if_pos (by omega)]
        simp [hlt]
      · rw [if_neg (by omega)]
        by_cases e2 : j < k
        · rw [if_pos e2] at p1; rw [if_pos (by omega)]; exact p1
        · rw [if_neg e2] at p1; rw [if_neg (by omega)]; exact p1
    have f7 : (c'.set (k * 2) (.int .i64 (g.prods[k].left + 1))).getD (k * 2 + 1) .undef = c'.getD (k * 2 + 1) .undef := by
      simp only [List.getD_eq_getElem?_getD, List.getElem?_set]; rw [if_neg (by omega)]
    have hk1 : k * 2 + 1 < (c'.set (k * 2) (.int .i64 (g.prods[k].left + 1))).length := by simp; omega
    generalize (c'.set (k * 2) (.int .i64 (g.prods[k].left + 1))) = c2 at *
    generalize h'.set (h.nobj + 3) c2 = h4 at *
    simp [f1, f3, hlt', hk1, f7]
    have hv : c2.getD (k * 2 + 1) .undef = c'.getD (k * 2 + 1) .undef := f7
    generalize c'.getD (k * 2 + 1) .undef = v at *
    have hrl := hr _ (List.getElem_mem hlt)
    have hlz : ∀ (env : Env) (h : AH) (K : V → AH → Prop) (zK : Lz K), lenZ (Ecx X) env h false v zK = K (.int .i64 g.prods[k].right.length) h := fun env h K zK => by
      rcases g2 with ⟨a, b⟩ | ⟨_, o, _, _, b, _⟩
      · rw [b, a]; simp
      · rw [b]; simp
    refine ⟨by omega, ?_⟩
    simp [hlz]
    have hR : (g.prods.getD k ⟨0, []⟩) = g.prods[k] := by simp [List.getD_eq_getElem?_getD, hlt]
    refine loopI (n := g.prods[k].right.length) (fun m env h' => ∃ j, j ≤ g.prods[k].right.length ∧ m = g.prods[k].right.length - j ∧ env = [(1, .ptr h.nobj 0), (3, .sl 1 0 (u8s (gbytR g).1)), (5, .ptr h2.nobj 0), (6, .int .i64 k), (28, .int .i64 g.prods.length), (29, .int .i64 k), (47, .int .i64 g.prods[k].right.length), (48, .int .i64 j)] ∧
        h'.objs h.nobj = gmC g ∧ h'.objs h2.nobj = [.int .i64 g.terms, .int .i64 g.nons, .int .i64 g.start, .osl 2 (h.nobj + 3) 0 g.prods.length g.prods.length] ∧
        h'.objs (h.nobj + 3) = c2 ∧ h2.nobj < h'.nobj ∧ Gr h h' ∧ POk (h.nobj + 3) h2.nobj h' (fun j => if j < k + 1 then (g.prods.getD j ⟨0, []⟩).left + 1 else (g.prods.getD j ⟨0, []⟩).left) c2 g.prods g.prods.length) ?_
      ⟨0, by omega, by omega, rfl, f2, f1, f3, by omega, f5, f6⟩
    rintro m env h5 ⟨j, hj, rfl, rfl, r1, r2, r3, r4, gr5, pk5⟩
    unfold A.probatelaw03_GramOwn.L1
    by_cases hjt : j < g.prods[k].right.length
    · have hjt' : (j : Int) < g.prods[k].right.length := by omega
      have hw3 : IntKind.i64.wrap ((j : Int) + 1) = ((j + 1 : Nat) : Int) := by rw [wrap_i64 (by omega) (by omega)]; rfl
      obtain ⟨_, rok⟩ := pk5.2 k hlt hlt
      rw [hv] at rok
      rcases rok with ⟨a, _⟩ | ⟨_, o, oa, ob, rfl, s1, s2⟩
      · omega
      obtain ⟨b, hb⟩ := s2 j hjt
      have hjl : j * 2 + 1 < (h5.objs o).length := by omega
      simp [hjt', hlt', r2, r3, hk1, hv, hb, hjl]
      rw [hw3]
      exact ⟨by omega, g.prods[k].right.length - (j + 1), by omega, iv ⟨j + 1, by omega, rfl, rfl, by rw [set_objs_ne _ _ _ (by omega)]; exact r1, by rw [set_objs_ne _ _ _ (by omega)]; exact r2, by rw [set_objs_ne _ _ _ (by omega)]; exact r3, r4, gr5.set (by omega) _, pk5.set o (j * 2 + 1) _⟩⟩
    · have hjt' : ¬ (j : Int) < g.prods[k].right.length := by omega
      simp [hjt', hw1]
      exact ⟨g.prods.length - (k + 1), by omega, iv ⟨k + 1, _, by omega, rfl, rfl, r1, r2, r3, r4, gr5, pk5⟩⟩
  · have hlt' : ¬ (k : Int) < g.prods.length := by omega
    obtain rfl : k = g.prods.length := by omega
    have hn : (if g.prods = [] then true else false) = decide (g.prods.length = 0) := by cases g.prods <;> simp
    simp [hlt', o1, hgc]
    refine ecall (bytes3_spec L.p g og ?_)
    have hwl := gmB_len (rightG_iff.1 hrg)
    have hgb : gbytR g = (gmB g, 0) := by simp [gbytR, hrg]
    simp [gbytV, hgb]
    refine dcall (.bool true) (same1_spec L.same1 _ _ _ _ (by unfold maxLen; omega) ⟨by simp, rfl⟩) ?_
    simp [o1, o2, hgc]
    refine dcall (.bool (decide (g.prods = []))) (same_o L.p g (by omega) (by omega) o3 pk.1 (fun p r hp => ?_) ⟨rfl, rfl⟩) ?_
    · have hlt : 0 < g.prods.length := by rw [hp]; simp
      have := (pk.2 0 hlt hlt).1
      refine ⟨p.left + 1, by omega, ?_⟩
      simpa [hlt, hp] using this
    · have : decide (((g.prods.length : Nat) : Int) = 0) = decide (g.prods = []) := by cases g.prods <;> simp; omega
      simp [this]
      exact fin_wk gr' (.same _) (by simp) hQ
end
end Go.Proofs.Ytbbmglginkabfaa.Al
