/-
  What the law LowerMeans needs of this claim's texts (part 3). Conditions: each theorem's own.
-/
import Derived.Test.YtmobijebjkjnoaaChecked
import Derived.KernelRfl
import Derived.Test.YtmobijebjkjnoaaAlKeys
import Derived.Test.YtmobijebjkjnoaaAlArg
import Derived.Test.YtmobijebjkjnoaaAlA
import Derived.Test.YtmobijebjkjnoaaAlB
import Derived.Test.YtmobijebjkjnoaaAlC
import Derived.Test.YtmobijebjkjnoaaSh1LowerMeans
import Derived.Test.YtmobijebjkjnoaaSh2LowerMeans
namespace Go.Proofs.Ytmobijebjkjnoaa.Al
open Go Go.RowKit
set_option linter.unusedSimpArgs false
set_option linter.unusedVariables false
attribute [-simp] List.getD_eq_getElem?_getD Int.not_lt Int.not_le List.map_take List.map_map
def tstep (out : List Str) (n : Nd) : List Str := if n.kind = 7 ∧ plc n.name out 0 < 0 then out ++ [n.name] else out
theorem termsF_snoc : ∀ (l : List Nd) (n : Nd) (out : List Str), termsF (l ++ [n]) out = tstep (termsF l out) n
  | [], n, out => rfl
  | a :: l, n, out => by simp only [List.cons_append, termsF]; exact termsF_snoc l n _
theorem plc_neg (s : Str) (l : List Str) : plc s l 0 < 0 ↔ fndS s l = none := by
  rw [plc_fnd]
  cases fndS s l <;> simp <;> omega
theorem termsF_mem {s : Str} : ∀ (l : List Nd) (out : List Str), s ∈ out → s ∈ termsF l out
  | [], out, h => h
  | n :: l, out, h => by
    unfold termsF
    refine termsF_mem l _ ?_
    split
    · simp [h]
    · exact h
theorem termsF_has : ∀ (l : List Nd) (out : List Str) (n : Nd), n ∈ l → n.kind = 7 → n.name ∈ termsF l out
  | a :: l, out, n, h, h7 => by
    unfold termsF
    rcases List.mem_cons.1 h with rfl | h
    · refine termsF_mem l _ ?_
      by_cases c : plc n.name out 0 < 0
      · rw [if_pos ⟨h7, c⟩]; simp
      · rw [if_neg (fun e => c e.2)]
        rw [plc_neg, fndS_none] at c
        exact Classical.not_not.1 c
    · exact termsF_has l _ n h h7
/-- The entries of nodes that have nonterminals of their own. -/
def ownE (t : Te) (k : Nat) : List (Int × Int) := ((List.range k).filter (hasN t)).map fun i : Nat => ((i : Int), ownN t i)
theorem ownE_succ (t : Te) (k : Nat) : ownE t (k + 1) = if hasN t k then ownE t k ++ [((k : Int), ownN t k)] else ownE t k := by
  unfold ownE
  rw [List.range_succ, List.filter_append, List.map_append]
  cases hh : hasN t k <;> simp [List.filter, hh]
theorem ownE_fresh (t : Te) (k : Nat) : fndI (k : Int) (ownE t k) = none := by
  refine fndI_none fun p hp => ?_
  unfold ownE at hp
  obtain ⟨i, hi, rfl⟩ := List.mem_map.1 hp
  have := List.mem_range.1 (List.mem_filter.1 hi).1
  show (i : Int) ≠ k
  omega
theorem fndI_app {k : Int} : ∀ {l m : List (Int × Int)}, fndI k l = none → fndI k (l ++ m) = (fndI k m).map fun p => (p.1 + l.length, p.2)
  | [], m, _ => by cases h : fndI k m <;> simp [h]
  | a :: l, m, h => by
    unfold fndI at h
    split at h
    · simp at h
    · rename_i c
      have h' : fndI k l = none := by cases hq : fndI k l <;> simp [hq] at h ⊢
      simp only [List.cons_append, fndI, if_neg c, fndI_app h']
      cases fndI k m <;> simp; omega
theorem fndI_app_some {k : Int} {p : Nat × Int} : ∀ {l m : List (Int × Int)}, fndI k l = some p → fndI k (l ++ m) = some p
  | [], m, h => by simp [fndI] at h
  | a :: l, m, h => by
    unfold fndI at h
    simp only [List.cons_append, fndI]
    split at h
    · rename_i c; rw [if_pos c]; exact h
    · rename_i c
      rw [if_neg c]
      cases hq : fndI k l with
      | none => rw [hq] at h; simp at h
      | some q => rw [hq] at h; rw [fndI_app_some hq]; exact h
theorem ownE_find (t : Te) {n : Nat} (hh : hasN t n = true) : ∀ k, n < k → ∃ i, fndI (n : Int) (ownE t k) = some (i, ownN t n)
  | 0, h => by omega
  | k + 1, h => by
    rw [ownE_succ]
    by_cases e : n = k
    · subst e
      rw [hh, if_pos rfl, fndI_app (ownE_fresh t n)]
      exact ⟨_, by simp [fndI]; rfl⟩
    · obtain ⟨i, hi⟩ := ownE_find t hh k (by omega)
      split
      · exact ⟨i, fndI_app_some hi⟩
      · exact ⟨i, hi⟩
theorem ownE_len (t : Te) (k : Nat) : (ownE t k).length = cntN t k := by
  unfold ownE cntN; rw [List.length_map, List.countP_eq_length_filter]
theorem entI_app (l : List (Int × Int)) (p : Int × Int) : entI (l ++ [p]) = entI l ++ [.tup [.int .i64 p.1, .int .i64 p.2]] := by simp [entI]
/-- A kid that is asked for its symbol has one. -/
theorem kid_has {t : Te} (rt : RTe t) {n k : Nat} (hn : n < t.nodes.length) (hk : (k : Int) ∈ t.nodes[n].kids) (hkn : k < t.nodes.length) (h5 : t.nodes[k].kind ≤ 5) (hc : ¬ (t.nodes[n].kind = 2 ∧ t.nodes[k].kind = 1)) : hasN t k = true := by
  unfold hasN
  rw [List.getElem?_eq_getElem hkn]
  simp only [Bool.and_eq_true, decide_eq_true_eq, List.all_eq_true, Bool.not_eq_true', List.any_eq_false]
  refine ⟨⟨h5, fun r hr => rt.nobody hn hk hr⟩, fun y hy hq => ?_⟩
  unfold kidT at hq
  rw [List.any_eq_true] at hq
  obtain ⟨m, hm, he⟩ := hq
  simp at he
  obtain ⟨j, hj, rfl⟩ := List.getElem_of_mem hy
  obtain rfl := rt.one hn hj hk (by rw [← he.1.2]; exact hm)
  exact hc ⟨he.1.1, he.2⟩
/-- What the lowerer knows when all is numbered. -/
structure LoF (h : AH) (o m1 m2 m3 : Nat) (t : Te) : Prop where
  ob : ∃ e sn pv, h.objs o = loC t e sn (termsT t) m1 m2 m3 pv
  o1 : h.objs m1 = entS (termsT t) 0
  o2 : h.objs m2 = entS (rnames t) 0
  o3 : h.objs m3 = entI (ownE t t.nodes.length)
  lt : o < h.nobj ∧ m1 < h.nobj ∧ m2 < h.nobj ∧ m3 < h.nobj
  ne : ¬ o = m1 ∧ ¬ o = m2 ∧ ¬ o = m3
theorem LoF.gr {h h' : AH} {o m1 m2 m3 : Nat} {t : Te} (f : LoF h o m1 m2 m3 t) (g : Gr h h') : LoF h' o m1 m2 m3 t :=
  ⟨by rw [g.objs _ f.lt.1]; exact f.ob, by rw [g.objs _ f.lt.2.1]; exact f.o1, by rw [g.objs _ f.lt.2.2.1]; exact f.o2, by rw [g.objs _ f.lt.2.2.2]; exact f.o3, by have := g.nobj; have := f.lt; omega, f.ne⟩
theorem kindR {t : Te} (rt : RTe t) {n : Nat} (hn : n < t.nodes.length) : 1 ≤ t.nodes[n].kind ∧ t.nodes[n].kind ≤ 7 := by
  have := fineT_kind (rt.fine _ (List.getElem_mem hn)); omega
section
variable {X : Cx} {h : AH} {Q : V → AH → Prop}
theorem symbol_spec (L : LLo X) (t : Te) (rt : RTe t) {o m1 m2 m3 : Nat} (f : LoF h o m1 m2 m3 t) (n : Nat) (hn : n < t.nodes.length) (hh : t.nodes[n].kind ≤ 5 → hasN t n = true) (hQ : Q (symV (symT t n)) h) :
    Ecx X K.lower_lowerer_symbol [.ptr o 0, .int .i64 n] h Q := by
  refine fn_walk L.symbol (by simp [A.lower_lowerer_symbol]) fun wf => ?_
  obtain ⟨e, sn, pv, ob⟩ := f.ob
  obtain ⟨l0, l1, l2, l3⟩ := f.lt
  have hii : (n : Int) < t.nodes.length := by omega
  have hg : (t.nodes.map ndV).getD n .undef = ndV t.nodes[n] := Enc.getD hn
  have hsy : symT t n = if t.nodes[n].kind = 7 then ⟨false, plc t.nodes[n].name (termsT t) 0⟩ else if t.nodes[n].kind = 6 then ⟨true, plc t.nodes[n].name (rnames t) 0⟩ else ⟨true, ownN t n⟩ := by
    unfold symT; rw [List.getElem?_eq_getElem hn]
  rw [hsy] at hQ
  have h7 : t.nodes[n].kind = 7 → t.nodes[n].name ∈ termsT t := fun e => termsF_has _ _ _ (List.getElem_mem hn) e
  have h6 : t.nodes[n].kind = 6 → t.nodes[n].name ∈ rnames t := fun e => by
    have := fineT_kind (rt.fine _ (List.getElem_mem hn)); rcases this with a | a | a | a | a <;> first | exact a.2.2 | omega
  have hkk := kindR rt hn
  generalize t.nodes[n] = nd at *
  have gr := ((Gr.refl h).new [.bool false, .int .i64 0]).new (ndC nd)
  have n1 : ¬ o = h.nobj := by omega
  have n2 : ¬ o = h.nobj + 1 := by omega
  have n3 : ¬ h.nobj = h.nobj + 1 := by omega
  have b0 : ((h.new [.bool false, .int .i64 0]).new (ndC nd)).objs o = loC t e sn (termsT t) m1 m2 m3 pv := by simp [n1, n2, ob]
  have b1 : ((h.new [.bool false, .int .i64 0]).new (ndC nd)).objs h.nobj = [.bool false, .int .i64 0] := by simp
  have b2 : ((h.new [.bool false, .int .i64 0]).new (ndC nd)).objs (h.nobj + 1) = ndC nd := by simp
  have b3 : ((h.new [.bool false, .int .i64 0]).new (ndC nd)).objs m1 = entS (termsT t) 0 := by simp [show ¬ m1 = h.nobj by omega, show ¬ m1 = h.nobj + 1 by omega, f.o1]
  have b4 : ((h.new [.bool false, .int .i64 0]).new (ndC nd)).objs m2 = entS (rnames t) 0 := by simp [show ¬ m2 = h.nobj by omega, show ¬ m2 = h.nobj + 1 by omega, f.o2]
  have b5 : ((h.new [.bool false, .int .i64 0]).new (ndC nd)).objs m3 = entI (ownE t t.nodes.length) := by simp [show ¬ m3 = h.nobj by omega, show ¬ m3 = h.nobj + 1 by omega, f.o3]
  have hnc : ndC nd = [.int .i64 nd.kind, .str nd.name, .sl 1 0 (ints nd.kids)] := rfl
  simp [A.lower_lowerer_symbol, ob, loC, hii, hg, ndV, hnc, V.cells, V.good, setAt, n1, n3]
  rw [← hnc]
  generalize (h.new [.bool false, .int .i64 0]).new (ndC nd) = h2 at *
  by_cases c7 : nd.kind = 7
  · rw [if_pos c7] at hQ
    have hf := findE_entS nd.name (termsT t) 0 0
    have hp := plc_fnd nd.name (termsT t) 0
    have hm := h7 c7
    cases hx : fndS nd.name (termsT t) with
    | none => exact absurd hm (fndS_none.1 hx)
    | some j =>
      rw [hx] at hf hp
      simp only [Option.map_some] at hf hp
      simp [b2, hnc, c7, b0, loC, b3, hf, fillV, setAt, V.cells, V.good, b1]
      rw [hp] at hQ
      exact fin_wk (gr.set (by omega) _) (.same _) (by simp) (by simpa [symV, symC] using hQ)
  rw [if_neg c7] at hQ
  by_cases c6 : nd.kind = 6
  · rw [if_pos c6] at hQ
    have hf := findE_entS nd.name (rnames t) 0 0
    have hp := plc_fnd nd.name (rnames t) 0
    have hm := h6 c6
    cases hx : fndS nd.name (rnames t) with
    | none => exact absurd hm (fndS_none.1 hx)
    | some j =>
      rw [hx] at hf hp
      simp only [Option.map_some] at hf hp
      simp [b2, hnc, c7, c6, b0, loC, b4, hf, fillV, setAt, V.cells, V.good, b1]
      rw [hp] at hQ
      exact fin_wk (gr.set (by omega) _) (.same _) (by simp) (by simpa [symV, symC] using hQ)
  rw [if_neg c6] at hQ
  obtain ⟨i, hi⟩ := ownE_find t (hh (by omega)) t.nodes.length hn
  have hf := findE_entI n (ownE t t.nodes.length) 0
  rw [hi] at hf
  simp only [Option.map_some] at hf
  simp [b2, hnc, c7, c6, b0, loC, b5, hf, fillV, setAt, V.cells, V.good, b1]
  exact fin_wk (gr.set (by omega) _) (.same _) (by simp) (by simpa [symV, symC] using hQ)
theorem number_spec (L : LLo X) (t : Te) (rt : RTe t) {o m1 m2 m3 : Nat} (ho : h.objs o = loC t 0 1 [] m1 m2 m3 (.sl 0 1 [])) (hm1 : h.objs m1 = []) (hm2 : h.objs m2 = []) (hm3 : h.objs m3 = [])
    (lt : o < h.nobj ∧ m1 < h.nobj ∧ m2 < h.nobj ∧ m3 < h.nobj) (ne : ¬ o = m1 ∧ ¬ o = m2 ∧ ¬ o = m3) (nm : ¬ m1 = m2 ∧ ¬ m1 = m3 ∧ ¬ m2 = m3)
    (hQ : ∀ h' e sn, FR h h' [o, m1, m2, m3] 1 → h'.objs o = loC t e sn (termsT t) m1 m2 m3 (.sl 0 1 []) → (strs (termsT t) = [] ∨ e = 1) → LoF h' o m1 m2 m3 t → Q (.tup []) h') : Ecx X K.lower_lowerer_number [.ptr o 0] h Q := by
  refine fn_any L.number (by simp [A.lower_lowerer_number]) fun wf => ?_
  have hn := rt.n1
  have hr := rt.r1
  obtain ⟨l0, l1, l2, l3⟩ := lt
  obtain ⟨e1, e2, e3⟩ := ne
  obtain ⟨f1, f2, f3⟩ := nm
  simp [A.lower_lowerer_number, ho, loC]
  refine loopI (n := t.rules.length) (fun mm env h' => ∃ k, k ≤ t.rules.length ∧ mm = t.rules.length - k ∧ FR h h' [o, m1, m2, m3] 1 ∧ h'.objs o = loC t 0 1 [] m1 m2 m3 (.sl 0 1 []) ∧ h'.objs m1 = [] ∧ h'.objs m3 = [] ∧ h'.objs m2 = entS ((rnames t).take k) 0 ∧
      env = [(0, .ptr o 0), (12, .sl 2 0 (t.rules.map rlV)), (13, .int .i64 t.rules.length), (14, .int .i64 k)]) ?_
    ⟨0, by omega, by omega, FR.refl _ _ _, ho, hm1, hm3, by simpa [entS] using hm2, rfl⟩
  rintro mm env h' ⟨k, hk, rfl, fr, bo, bm1, bm3, bm2, rfl⟩
  unfold A.lower_lowerer_number.L0
  have nb := fr.nobj
  by_cases hlt : k < t.rules.length
  · have hlt' : (k : Int) < t.rules.length := by omega
    have hg : (t.rules.map rlV).getD k .undef = rlV t.rules[k] := Enc.getD hlt
    have hw1 : IntKind.i64.wrap ((k : Int) + 1) = ((k + 1 : Nat) : Int) := by rw [wrap_i64 (by omega) (by omega)]; rfl
    have hrl : (rnames t).length = t.rules.length := by simp [rnames]
    have htk : (rnames t).take (k + 1) = (rnames t).take k ++ [t.rules[k].name] := by
      rw [List.take_succ_eq_append_getElem (by omega)]; simp [rnames]
    have hnin : t.rules[k].name ∉ (rnames t).take k := by
      have hnd := rt.names
      rw [← List.take_append_drop (k + 1) (rnames t), htk] at hnd
      have := (List.nodup_append.1 (List.nodup_append.1 hnd).1).2.2
      intro he
      exact this _ he _ (by simp) rfl
    have hf := findE_entS t.rules[k].name ((rnames t).take k) 0 0
    rw [fndS_none.2 hnin] at hf
    simp only [Option.map_none] at hf
    have hea := entS_app ((rnames t).take k) t.rules[k].name 0
    rw [← htk] at hea
    have htl : ((rnames t).take k).length = k := by simp [hrl]; omega
    rw [htl, Nat.zero_add] at hea
    generalize t.rules[k] = r at *
    have hrc : rlC r = [.str r.name, .int .i64 r.body] := rfl
    have p1 : ¬ o = h'.nobj := by omega
    have p2 : ¬ m1 = h'.nobj := by omega
    have p3 : ¬ m2 = h'.nobj := by omega
    have p4 : ¬ m3 = h'.nobj := by omega
    have q0 : (h'.new (rlC r)).objs h'.nobj = rlC r := by simp
    have q1 : (h'.new (rlC r)).objs o = loC t 0 1 [] m1 m2 m3 (.sl 0 1 []) := by simp [p1, bo]
    have q2 : (h'.new (rlC r)).objs m1 = [] := by simp [p2, bm1]
    have q3 : (h'.new (rlC r)).objs m2 = entS ((rnames t).take k) 0 := by simp [p3, bm2]
    have q4 : (h'.new (rlC r)).objs m3 = [] := by simp [p4, bm3]
    have q5 := fr.new (rlC r)
    simp [hlt', hg, rlV, V.cells, V.good, hrc, setAt]
    rw [← hrc]
    generalize h'.new (rlC r) = h2 at *
    have g1 : ¬ o = m2 := e2
    have g2 : ¬ m3 = m2 := fun e => f3 e.symm
    simp [q1, loC, q0, hrc, q3, hf, mupF, hw1]
    exact ⟨t.rules.length - (k + 1), by omega, iv ⟨k + 1, by omega, rfl, q5.set (.inl (by simp)) _, by rw [set_objs_ne _ _ _ g1]; exact q1, by rw [set_objs_ne _ _ _ f1]; exact q2, by rw [set_objs_ne _ _ _ g2]; exact q4, by rw [set_objs_same, hea], rfl⟩⟩
  · have hlt' : ¬ (k : Int) < t.rules.length := by omega
    obtain rfl : k = t.rules.length := by omega
    rw [List.take_of_length_le (by simp [rnames])] at bm2
    simp [hlt']
    refine ecall (alone_spec L t rt (o := o) (by omega) (by rw [bo]; rfl) fun h3 g3 n3 a3 => ?_)
    have bo3 : h3.objs o = loC t 0 1 [] m1 m2 m3 (.sl 0 1 []) := (g3.objs _ (by omega)).trans bo
    have fr3 : FR h h3 [o, m1, m2, m3] 1 := ⟨Nat.le_trans fr.next g3.next, Nat.le_trans fr.nobj g3.nobj, fun x hx hn => (g3.objs _ (by omega)).trans (fr.objs x hx hn), fun s hs hn => (g3.tips s (by have := fr.next; omega)).trans (fr.tips s hs hn)⟩
    have g1' : h3.objs m1 = [] := (g3.objs _ (by omega)).trans bm1
    have g2' : h3.objs m2 = entS (rnames t) 0 := (g3.objs _ (by omega)).trans bm2
    have g3' : h3.objs m3 = [] := (g3.objs _ (by omega)).trans bm3
    simp [bo3, loC]
    refine loopI (n := t.nodes.length) (fun mm env h4 => ∃ k e sn, k ≤ t.nodes.length ∧ mm = t.nodes.length - k ∧ FR h h4 [o, m1, m2, m3] 1 ∧ h4.objs o = loC t e sn (termsF (t.nodes.take k) []) m1 m2 m3 (.sl 0 1 []) ∧ h4.objs m1 = entS (termsF (t.nodes.take k) []) 0 ∧ h4.objs m2 = entS (rnames t) 0 ∧ h4.objs m3 = entI (ownE t k) ∧
        May 1 h4 e sn (strs (termsF (t.nodes.take k) [])) ∧ (sn ≤ 2 ∨ h.next ≤ sn) ∧ h4.objs h'.nobj = entK (aloneK t) ∧ h'.nobj < h4.nobj ∧
        env = [(0, .ptr o 0), (4, .mapr h'.nobj), (5, .int .i64 ((t.rules.length + cntN t k : Nat) : Int)), (39, .sl 3 0 (t.nodes.map ndV)), (40, .int .i64 t.nodes.length), (41, .int .i64 k)]) ?_
      ⟨0, 0, 1, by omega, by omega, fr3, bo3, by simpa [termsF, entS] using g1', g2', by simpa [ownE, entI] using g3', ⟨.inl rfl, .inl rfl⟩, by omega, a3, n3, by simp [cntN]⟩
    clear fr bo bm1 bm2 bm3 fr3 g1' g2' g3' bo3 a3
    rintro mm env h4 ⟨k, e, sn, hk, rfl, fr, bo, bm1, bm2, bm3, my, hsn, ba, na, rfl⟩
    unfold A.lower_lowerer_number.L1
    by_cases hlt : k < t.nodes.length
    · have hlt' : (k : Int) < t.nodes.length := by omega
      have hg : (t.nodes.map ndV).getD k .undef = ndV t.nodes[k] := Enc.getD hlt
      have hw1 : IntKind.i64.wrap ((k : Int) + 1) = ((k + 1 : Nat) : Int) := by rw [wrap_i64 (by omega) (by omega)]; rfl
      have hts : termsF (t.nodes.take (k + 1)) [] = tstep (termsF (t.nodes.take k) []) t.nodes[k] := by
        rw [List.take_succ_eq_append_getElem hlt, termsF_snoc]
      have hah := alone_has hlt (kindR rt hlt).2
      have hoe := ownE_succ t k
      have hce := cntN_succ t k
      have hcl := cntN_le t k
      have hkk := kindR rt hlt
      have htl := (termsF_len (t.nodes.take k) []).1
      have htl2 : (termsF (t.nodes.take k) []).length ≤ 200 := by simp at htl; omega
      generalize hT : termsF (t.nodes.take k) [] = T at *
      generalize t.nodes[k] = x at *
      have hxc : ndC x = [.int .i64 x.kind, .str x.name, .sl 1 0 (ints x.kids)] := rfl
      have p1 : ¬ o = h4.nobj := by omega
      have p2 : ¬ m1 = h4.nobj := by omega
      have p3 : ¬ m2 = h4.nobj := by omega
      have p4 : ¬ m3 = h4.nobj := by omega
      have p5 : ¬ h'.nobj = h4.nobj := by omega
      have q0 : (h4.new (ndC x)).objs h4.nobj = ndC x := by simp
      have q1 : (h4.new (ndC x)).objs o = loC t e sn T m1 m2 m3 (.sl 0 1 []) := by simp [p1, bo]
      have q2 : (h4.new (ndC x)).objs m1 = entS T 0 := by simp [p2, bm1]
      have q3 : (h4.new (ndC x)).objs m2 = entS (rnames t) 0 := by simp [p3, bm2]
      have q4 : (h4.new (ndC x)).objs m3 = entI (ownE t k) := by simp [p4, bm3]
      have q5 : (h4.new (ndC x)).objs h'.nobj = entK (aloneK t) := by simp [p5, ba]
      have q6 := fr.new (ndC x)
      have q7 : (h4.new (ndC x)).nobj = h4.nobj + 1 := by simp
      have q8 : May 1 (h4.new (ndC x)) e sn (strs T) := ⟨my.el, my.st⟩
      have p6 : ¬ h'.nobj = o := by omega
      have p7 : ¬ h'.nobj = m1 := by omega
      have p8 : ¬ h'.nobj = m3 := by omega
      simp [hlt', hg, ndV, V.cells, V.good, hxc, setAt]
      rw [← hxc]
      generalize h4.new (ndC x) = h5 at *
      by_cases c7 : x.kind = 7
      · have hh : hasN t k = false := by rw [hah]; simp [c7]
        rw [hh, if_neg (by simp)] at hoe hce
        simp [q0, hxc, c7]
        refine ecall (term_spec L t (o := o) x.name q1 q2 e1 (by omega) q8 (fun hs => ?_) (fun hs => ?_))
        · have hte : tstep T x = T := by unfold tstep; rw [if_neg (fun e => hs ((plc_neg _ _).1 e.2))]
          rw [hte] at hts
          simp [hw1]
          exact ⟨t.nodes.length - (k + 1), by omega, iv ⟨k + 1, e, sn, by omega, rfl, q6, by rw [hts]; exact q1, by rw [hts]; exact q2, q3, by rw [hoe]; exact q4, by rw [hts]; exact q8, hsn, q5, by omega, by rw [hce]; simp⟩⟩
        · have hte : tstep T x = T ++ [x.name] := by unfold tstep; rw [if_pos ⟨c7, (plc_neg _ _).2 hs⟩]
          rw [hte] at hts
          have d1 : ¬ m1 = o := fun e => e1 e.symm
          have d2 : ¬ m2 = o := fun e => e2 e.symm
          have d3 : ¬ m3 = o := fun e => e3 e.symm
          have d4 : ¬ m2 = m1 := fun e => f1 e.symm
          have d5 : ¬ m3 = m1 := fun e => f2 e.symm
          simp [hw1]
          exact ⟨t.nodes.length - (k + 1), by omega, iv ⟨k + 1, 1, h5.next, by omega, rfl,
            ((q6.set (o := m1) (.inl (by simp)) _).push (s1 := sn) (by omega) 1).set (.inl (by simp)) _, by rw [set_objs_same, hts],
            by rw [set_objs_ne _ _ _ d1, push_objs, set_objs_same, hts], by rw [set_objs_ne _ _ _ d2, push_objs, set_objs_ne _ _ _ d4]; exact q3,
            by rw [set_objs_ne _ _ _ d3, push_objs, set_objs_ne _ _ _ d5, hoe]; exact q4, ⟨.inr rfl, .inr (.inr (by rw [set_tips]; exact push_new _ _ _))⟩, .inr q6.next,
            by rw [set_objs_ne _ _ _ p6, push_objs, set_objs_ne _ _ _ p7]; exact q5, by rw [set_nobj, push_nobj, set_nobj]; omega, by rw [hce]; simp⟩⟩
      · have hte : tstep T x = T := by unfold tstep; rw [if_neg (fun e => c7 e.1)]
        rw [hte] at hts
        by_cases c6 : x.kind = 6
        · have hh : hasN t k = false := by rw [hah]; simp [c6]
          rw [hh, if_neg (by simp)] at hoe hce
          simp [q0, hxc, c7, c6, hw1]
          exact ⟨t.nodes.length - (k + 1), by omega, iv ⟨k + 1, e, sn, by omega, rfl, q6, by rw [hts]; exact q1, by rw [hts]; exact q2, q3, by rw [hoe]; exact q4, by rw [hts]; exact q8, hsn, q5, by omega, by rw [hce]; simp⟩⟩
        · rcases findE_entK (k : Int) (aloneK t) 0 with ⟨a1, a2⟩ | ⟨a1, i, a2, a3, a4⟩
          · have hh : hasN t k = true := by rw [hah]; simp [c6, c7, a1]
            rw [hh, if_pos rfl] at hoe hce
            have hfi := findE_entI (k : Int) (ownE t k) 0
            rw [ownE_fresh] at hfi
            simp only [Option.map_none] at hfi
            have hw2 : IntKind.i64.wrap ((t.rules.length : Int) + (cntN t k : Int) + 1) = (t.rules.length : Int) + (cntN t k : Int) + 1 := wrap_i64 (by omega) (by omega)
            have how : ownN t k = ((t.rules.length + cntN t k : Nat) : Int) := by unfold ownN; rw [hh]; rfl
            have hen := entI_app (ownE t k) ((k : Int), ownN t k)
            rw [← hoe, how] at hen
            have d1 : ¬ m1 = m3 := f2
            have d2 : ¬ m2 = m3 := f3
            simp [q0, hxc, c7, c6, q5, a2, q1, loC, q4, hfi, mupF, hw1, hw2]
            exact ⟨t.nodes.length - (k + 1), by omega, iv ⟨k + 1, e, sn, by omega, rfl, q6.set (.inl (by simp)) _, by rw [set_objs_ne _ _ _ e3, hts]; exact q1, by rw [set_objs_ne _ _ _ d1, hts]; exact q2, by rw [set_objs_ne _ _ _ d2]; exact q3,
              by rw [set_objs_same, hen]; simp, by rw [hts]; exact ⟨q8.el, q8.st⟩, hsn, by rw [set_objs_ne _ _ _ p8]; exact q5, by rw [set_nobj]; omega, by rw [hce]; simp; omega⟩⟩
          · have hh : hasN t k = false := by rw [hah]; simp [a1]
            rw [hh, if_neg (by simp)] at hoe hce
            simp [q0, hxc, c7, c6, q5, a4, hw1]
            exact ⟨t.nodes.length - (k + 1), by omega, iv ⟨k + 1, e, sn, by omega, rfl, q6, by rw [hts]; exact q1, by rw [hts]; exact q2, q3, by rw [hoe]; exact q4, by rw [hts]; exact q8, hsn, q5, by omega, by rw [hce]; simp⟩⟩
    · have hlt' : ¬ (k : Int) < t.nodes.length := by omega
      obtain rfl : k = t.nodes.length := by omega
      rw [List.take_length] at *
      have nb4 := fr.nobj
      simp [hlt']
      exact hQ h4 e sn fr bo my.el ⟨⟨e, sn, _, bo⟩, bm1, bm2, bm3, by omega, ⟨e1, e2, e3⟩⟩
end
end Go.Proofs.Ytmobijebjkjnoaa.Al
namespace Go.Proofs.Ytmobijebjkjnoaa.Al
open Go Go.RowKit
set_option linter.unusedSimpArgs false
set_option linter.unusedVariables false
attribute [-simp] List.getD_eq_getElem?_getD Int.not_lt Int.not_le List.map_take List.map_map
/-- A lowerer that lays productions: its object, from h0 on. -/
structure NS (t : Te) (h0 h : AH) (o m1 m2 m3 e sn sp0 : Nat) (ps : List Pr) : Prop where
  ob : ∃ e1 sp, h.objs o = loC t e sn (termsT t) m1 m2 m3 (.sl e1 sp (ps.map prV)) ∧ May 2 h e1 sp (ps.map prV) ∧ (sp = sp0 ∨ h0.next ≤ sp)
  fr : FR h0 h [o] sp0
  lf : LoF h o m1 m2 m3 t
theorem prodsT_right {t : Te} (rt : RTe t) (n : Nat) (left : Int) : ∀ p ∈ prodsT t n left, p.right.length ≤ 200 := by
  unfold prodsT
  split
  · rename_i x hx
    obtain ⟨hn, rfl⟩ := List.getElem?_eq_some_iff.1 hx
    have := rt.kids_len hn
    repeat' split
    · simp
    · simp [symsT]; omega
    · intro p hp
      obtain ⟨k, hk, rfl⟩ := List.mem_map.1 hp
      unfold altP
      split
      · rename_i y hy
        obtain ⟨hm, rfl⟩ := List.getElem?_eq_some_iff.1 hy
        have := rt.kids_len hm
        split
        · simp [symsT]; omega
        · simp
      · simp
    all_goals simp
  · simp
theorem lowP_right {t : Te} (rt : RTe t) : ∀ p ∈ lowP t, p.right.length ≤ 200 := by
  intro p hp
  unfold lowP lowA lowB at hp
  simp only [List.mem_append, List.mem_flatMap] at hp
  rcases hp with ⟨i, _, hp⟩ | ⟨i, _, hp⟩
  · exact prodsT_right rt _ _ p hp
  · split at hp
    · exact prodsT_right rt _ _ p hp
    · simp at hp
theorem lowG_ok {t : Te} (rt : RTe t) : GmOk (lowG t) := by
  have h1 := lowA_len rt t.rules.length rt.r1
  have h2 := lowB_len rt t.nodes.length rt.n1
  refine ⟨?_, fun p hp => ?_⟩
  · simp only [lowG, lowP, List.length_append, maxLen]; omega
  · have := lowP_right rt p hp
    unfold maxLen; omega
section
variable {X : Cx} {h : AH} {Q : V → AH → Prop}
theorem NS.new {t : Te} {h0 h : AH} {o m1 m2 m3 e sn sp0 : Nat} {ps : List Pr} (n : NS t h0 h o m1 m2 m3 e sn sp0 ps) (z : List V) : NS t h0 (h.new z) o m1 m2 m3 e sn sp0 ps := by
  obtain ⟨e1, sp, b1, b2, b3⟩ := n.ob
  have := n.lf.lt.1
  exact ⟨⟨e1, sp, by rw [new_objs_ne _ _ (by omega)]; exact b1, ⟨b2.el, b2.st⟩, b3⟩, n.fr.new z, n.lf.gr ((Gr.refl h).new z)⟩
/-- One production more. -/
theorem NS.lay (L : LLo X) {t : Te} {h0 h : AH} {o m1 m2 m3 e sn sp0 : Nat} {ps : List Pr} (n : NS t h0 h o m1 m2 m3 e sn sp0 ps) (hl : ps.length ≤ 2 ^ 30) (p : Pr) {e2 st : Nat} {v : V} (hv : Wk v (.sl 2 0 (p.right.map symV))) :
    ∃ h', NS t h0 h' o m1 m2 m3 e sn sp0 (ps ++ [p]) ∧ h'.nobj = h.nobj ∧ (∀ x, x ≠ o → h'.objs x = h.objs x) ∧ ∀ {Q : V → AH → Prop}, Q (.tup []) h' → Ecx X K.lower_lowerer_lay [.ptr o 0, .int .i64 p.left, v] h Q := by
  obtain ⟨e1, sp, b1, b2, b3⟩ := n.ob
  have lt := n.lf.lt
  have ne := n.lf.ne
  refine ⟨_, ⟨⟨2, h.next, by rw [set_objs_same]; rfl, ⟨.inr rfl, .inr (.inr (by rw [set_tips]; exact push_new _ _ _))⟩, .inr n.fr.next⟩, ?_, ?_⟩, by rw [set_nobj, push_nobj], fun x hx => by rw [set_objs_ne _ _ _ hx, push_objs], fun {Q} hQ => Ecx.wkL (.cons (.same _) (.cons (.same _) (.cons hv .nil))) (lay_spec L p (by rw [b1]; rfl) b2 hl hQ)⟩
  · refine (n.fr.push (s1 := sp) ?_ 2).set (.inl (by simp)) _
    rcases b3 with b3 | b3
    · exact .inl b3
    · exact .inr (.inr b3)
  · exact ⟨⟨e, sn, _, by rw [set_objs_same]; rfl⟩, by rw [set_objs_ne _ _ _ (fun q => ne.1 q.symm), push_objs]; exact n.lf.o1, by rw [set_objs_ne _ _ _ (fun q => ne.2.1 q.symm), push_objs]; exact n.lf.o2, by rw [set_objs_ne _ _ _ (fun q => ne.2.2 q.symm), push_objs]; exact n.lf.o3, by rw [set_nobj, push_nobj]; exact lt, ne⟩
theorem nodeL0 (L : LLo X) (t : Te) (rt : RTe t) {h0 : AH} {o m1 m2 m3 e sn sp0 : Nat} {ps : List Pr} (ns : NS t h0 h o m1 m2 m3 e sn sp0 ps) (hps : ps.length ≤ 2 ^ 29) (left : Int) (ks : List Int) (hkl : ks.length ≤ 200) (hin : ∀ k ∈ ks, 0 ≤ k ∧ k < t.nodes.length)
    (hch : ∀ k : Nat, (k : Int) ∈ ks → (hkn : k < t.nodes.length) → t.nodes[k].kind ≠ 1 → t.nodes[k].kind ≤ 5 → hasN t k = true) {Q : Ex → Env → AH → Prop} {zQ : Lz Q} {z : Lz (AC.loop A.lower_lowerer_node.L0)}
    (hQ : ∀ h', NS t h0 h' o m1 m2 m3 e sn sp0 (ps ++ ks.map (altP t left)) → h.nobj ≤ h'.nobj → (∀ x, x < h.nobj → x ≠ o → h'.objs x = h.objs x) → Q (.exit 1) [(0, .ptr o 0), (1, .int .i64 left), (6, .fn K.lower_lowerer_symbol [.ptr o 0] []), (44, .sl 1 0 (ints ks)), (45, .int .i64 ks.length), (46, .int .i64 ks.length), (47, .bool false)] h') :
    acZ (Ecx X) [(0, .ptr o 0), (1, .int .i64 left), (6, .fn K.lower_lowerer_symbol [.ptr o 0] []), (44, .sl 1 0 (ints ks)), (45, .int .i64 ks.length), (46, .int .i64 0)] h z zQ := by
  have hil : (ints ks).length = ks.length := by simp [ints]
  refine loopI (n := ks.length) (fun mm env h' => ∃ k, k ≤ ks.length ∧ mm = ks.length - k ∧ NS t h0 h' o m1 m2 m3 e sn sp0 (ps ++ (ks.take k).map (altP t left)) ∧ h.nobj ≤ h'.nobj ∧ (∀ x, x < h.nobj → x ≠ o → h'.objs x = h.objs x) ∧
    env = [(0, .ptr o 0), (1, .int .i64 left), (6, .fn K.lower_lowerer_symbol [.ptr o 0] []), (44, .sl 1 0 (ints ks)), (45, .int .i64 ks.length), (46, .int .i64 k)]) ?_
    ⟨0, by omega, by omega, by simpa using ns, Nat.le_refl _, fun _ _ _ => rfl, rfl⟩
  rintro mm env h' ⟨k, hk, rfl, ns1, nb, ho, rfl⟩
  unfold A.lower_lowerer_node.L0
  by_cases hlt : k < ks.length
  · have hlt' : (k : Int) < ks.length := by omega
    have hgk := ints_get hlt
    have hw1 : IntKind.i64.wrap ((k : Int) + 1) = ((k + 1 : Nat) : Int) := by rw [wrap_i64 (by omega) (by omega)]; rfl
    have hts : (ks.take (k + 1)).map (altP t left) = (ks.take k).map (altP t left) ++ [altP t left ks[k]] := by
      rw [List.take_succ_eq_append_getElem hlt, List.map_append]; rfl
    have hink := hin _ (List.getElem_mem hlt)
    have hmem := List.getElem_mem hlt
    obtain ⟨c, hc⟩ : ∃ c : Nat, ks[k] = (c : Int) := ⟨ks[k].toNat, by omega⟩
    rw [hc] at hgk hts hink hmem
    have hcn : c < t.nodes.length := by omega
    have hcn' : (c : Int) < t.nodes.length := by omega
    have hgc : (t.nodes.map ndV).getD c .undef = ndV t.nodes[c] := Enc.getD hcn
    have hap : altP t left c = if t.nodes[c].kind = 1 then ⟨left, symsT t t.nodes[c].kids⟩ else ⟨left, [symT t c]⟩ := by
      unfold altP; rw [Int.toNat_natCast, List.getElem?_eq_getElem hcn]
    have hinc := rt.in hcn
    have hlc := rt.kids_len hcn
    have hcc := hch c hmem hcn
    have hgr : t.nodes[c].kind = 1 → ∀ m : Nat, (m : Int) ∈ t.nodes[c].kids → (hmn : m < t.nodes.length) → t.nodes[m].kind ≤ 5 → hasN t m = true := fun k1 m hm hmn h5 => kid_has rt hcn hm hmn h5 (fun e => by omega)
    obtain ⟨e1, sp, ob, my, hsp⟩ := ns1.ob
    have hpl : (ps ++ (ks.take k).map (altP t left)).length ≤ 2 ^ 30 := by simp; omega
    generalize hy : t.nodes[c] = y at *
    have hyc : ndC y = [.int .i64 y.kind, .str y.name, .sl 1 0 (ints y.kids)] := rfl
    by_cases c1 : y.kind = 1
    · rw [if_pos c1] at hap
      simp [hlt', hgk, hil, V.cells, ob, loC, hcn', hgc, ndV, hyc, c1]
      refine ecall (all_spec L y.kids (fun m => symT t m.toNat) (by omega) (fun k hk {h''} {Q'} g hq => ?_) ?_)
      · obtain ⟨m, rfl⟩ : ∃ m : Nat, k = (m : Int) := ⟨k.toNat, by have := hinc k hk; omega⟩
        have hmn : m < t.nodes.length := by have := hinc _ hk; omega
        exact symbol_spec L t rt (ns1.lf.gr g) m hmn (hgr c1 m hk hmn) (by simpa using hq)
      obtain ⟨h3, ns3, r1, r2, r3⟩ := NS.lay L ns1 hpl ⟨left, symsT t y.kids⟩ (e2 := 0) (st := 0) (v := .sl 2 0 ((y.kids.map fun m => symT t m.toNat).map symV)) (.same _)
      simp
      refine ecall (r3 ?_)
      simp [hw1]
      exact ⟨ks.length - (k + 1), by omega, iv ⟨k + 1, by omega, rfl, by rw [hts, hap, ← List.append_assoc]; exact ns3, by omega, fun x hx hxo => by rw [r2 _ hxo]; exact ho x hx hxo, rfl⟩⟩
    · rw [if_neg c1] at hap
      have hsc : ∀ y : Sy, symC y = [.bool y.non, .int .i64 y.n] := fun _ => rfl
      simp [hlt', hgk, hil, V.cells, ob, loC, hcn', hgc, ndV, hyc, c1]
      refine ecall (symbol_spec L t rt ns1.lf c hcn (by rw [hy]; exact hcc c1) ?_)
      obtain ⟨h3, ns3, r1, r2, r3⟩ := NS.lay L ns1 hpl ⟨left, [symT t c]⟩ (e2 := 0) (st := 0) (v := .sl 2 2 [symV (symT t c)]) (.sl _ _ _)
      simp [fillL, V.isAgg, symV, hsc]
      refine ecall (r3 ?_)
      simp [hw1]
      exact ⟨ks.length - (k + 1), by omega, iv ⟨k + 1, by omega, rfl, by rw [hts, hap, ← List.append_assoc]; exact ns3, by omega, fun x hx hxo => by rw [r2 _ hxo]; exact ho x hx hxo, rfl⟩⟩
  · have hlt' : ¬ (k : Int) < ks.length := by omega
    obtain rfl : k = ks.length := by omega
    rw [List.take_length] at ns1
    simp [hlt']
    exact hQ h' ns1 nb ho
theorem node_spec (L : LLo X) (t : Te) (rt : RTe t) {h0 : AH} {o m1 m2 m3 e sn sp0 : Nat} {ps : List Pr} (ns : NS t h0 h o m1 m2 m3 e sn sp0 ps) (hps : ps.length ≤ 2 ^ 29) (n : Nat) (hn : n < t.nodes.length) (left : Int)
    (hQ : ∀ h', NS t h0 h' o m1 m2 m3 e sn sp0 (ps ++ prodsT t n left) → h.nobj ≤ h'.nobj → (∀ x, x < h.nobj → x ≠ o → h'.objs x = h.objs x) → Q (.tup []) h') : Ecx X K.lower_lowerer_node [.ptr o 0, .int .i64 left, .int .i64 n] h Q := by
  refine fn_any L.node (by simp [A.lower_lowerer_node]) fun wf => ?_
  obtain ⟨e1, sp, ob, my, hsp⟩ := ns.ob
  have hii : (n : Int) < t.nodes.length := by omega
  have hg : (t.nodes.map ndV).getD n .undef = ndV t.nodes[n] := Enc.getD hn
  have hp : prodsT t n left = (if 6 ≤ t.nodes[n].kind then [⟨left, [symT t n]⟩] else if t.nodes[n].kind = 1 then [⟨left, symsT t t.nodes[n].kids⟩] else if t.nodes[n].kind = 2 then t.nodes[n].kids.map (altP t left)
    else if t.nodes[n].kind = 3 then [⟨left, [symT t (t.nodes[n].kids.headD 0).toNat, ⟨true, left⟩]⟩, ⟨left, []⟩]
    else if t.nodes[n].kind = 4 then [⟨left, [symT t (t.nodes[n].kids.headD 0).toNat, ⟨true, left⟩]⟩, ⟨left, [symT t (t.nodes[n].kids.headD 0).toNat]⟩]
    else [⟨left, [symT t (t.nodes[n].kids.headD 0).toNat]⟩, ⟨left, []⟩]) := by
    unfold prodsT; rw [List.getElem?_eq_getElem hn]
  have hfk := fineT_kind (rt.fine _ (List.getElem_mem hn))
  have hin := rt.in hn
  have hkl := rt.kids_len hn
  have hch : ∀ k : Nat, (k : Int) ∈ t.nodes[n].kids → (hkn : k < t.nodes.length) → ¬ (t.nodes[n].kind = 2 ∧ t.nodes[k].kind = 1) → t.nodes[k].kind ≤ 5 → hasN t k = true := fun k hk hkn hc h5 => kid_has rt hn hk hkn h5 hc
  have hself : t.nodes[n].kind = 6 ∨ t.nodes[n].kind = 7 → t.nodes[n].kind ≤ 5 → hasN t n = true := fun a b => by omega
  rw [hp] at hQ
  generalize hx : t.nodes[n] = x at *
  have hxc : ndC x = [.int .i64 x.kind, .str x.name, .sl 1 0 (ints x.kids)] := rfl
  have lt := ns.lf.lt
  have ns2 := (ns.new (ndC x)).new [.bool true, .int .i64 left]
  have b1 : ((h.new (ndC x)).new [.bool true, .int .i64 left]).objs h.nobj = ndC x := by simp
  have b2 : ((h.new (ndC x)).new [.bool true, .int .i64 left]).objs (h.nobj + 1) = [.bool true, .int .i64 left] := by simp
  have b3 : ((h.new (ndC x)).new [.bool true, .int .i64 left]).nobj = h.nobj + 2 := by simp
  have b4 : ∀ y, y < h.nobj → ((h.new (ndC x)).new [.bool true, .int .i64 left]).objs y = h.objs y := fun y hy => by simp [show ¬ y = h.nobj by omega, show ¬ y = h.nobj + 1 by omega]
  have n0 : ¬ h.nobj = h.nobj + 1 := by omega
  simp [A.lower_lowerer_node, ob, loC, hii, hg, ndV, hxc, V.cells, V.good, setAt, fillV]
  rw [← hxc]
  generalize ((h.new (ndC x)).new [.bool true, .int .i64 left]) = h2 at *
  have ne1 : ¬ h.nobj = o := by omega
  have ne2 : ¬ h.nobj + 1 = o := by omega
  by_cases k1 : x.kind = 1
  · rw [if_neg (by omega), if_pos k1] at hQ
    simp [b1, hxc, k1]
    refine ecall (all_spec L x.kids (fun m => symT t m.toNat) (by omega) (fun k hk {h'} {Q'} g hq => ?_) ?_)
    · obtain ⟨c, rfl⟩ : ∃ c : Nat, k = (c : Int) := ⟨k.toNat, by have := hin k hk; omega⟩
      have hcn : c < t.nodes.length := by have := hin _ hk; omega
      exact symbol_spec L t rt (ns2.lf.gr g) c hcn (hch c hk hcn (by omega)) (by simpa using hq)
    obtain ⟨h3, ns3, r1, r2, r3⟩ := NS.lay L ns2 (by omega) ⟨left, symsT t x.kids⟩ (e2 := 0) (st := 0) (v := .sl 2 0 ((x.kids.map fun m => symT t m.toNat).map symV)) (.same _)
    simp
    refine ecall (r3 ?_)
    simp
    exact hQ _ ns3 (by omega) (fun y hy hyo => by rw [r2 _ hyo]; exact b4 y hy)
  by_cases k2 : x.kind = 2
  · rw [if_neg (by omega), if_neg k1, if_pos k2] at hQ
    have hil : (ints x.kids).length = x.kids.length := by simp [ints]
    simp [b1, hxc, k1, k2, hil]
    refine nodeL0 L t rt ns2 (by omega) left x.kids (by omega) hin (fun k hk hkn hc h5 => hch k hk hkn (fun e => hc e.2) h5) (fun h3 ns3 r1 r2 => ?_)
    simp
    exact hQ _ ns3 (by omega) (fun y hy hyo => by rw [r2 _ (by omega) hyo]; exact b4 y hy)
  by_cases k67 : x.kind = 6 ∨ x.kind = 7
  · rw [if_pos (by omega)] at hQ
    have k3 : ¬ x.kind = 3 := by omega
    have k4 : ¬ x.kind = 4 := by omega
    have k5 : ¬ x.kind = 5 := by omega
    simp [b1, hxc, k1, k2, k3, k4, k5]
    refine ecall (symbol_spec L t rt ns2.lf n hn (by rw [hx]; exact hself k67) ?_)
    obtain ⟨h3, ns3, r1, r2, r3⟩ := NS.lay L ns2 (by omega) ⟨left, [symT t n]⟩ (e2 := 0) (st := 0) (v := .sl 2 2 [symV (symT t n)]) (.sl _ _ _)
    have hsc : ∀ y : Sy, symC y = [.bool y.non, .int .i64 y.n] := fun _ => rfl
    simp [fillL, V.isAgg, symV, hsc]
    refine ecall (r3 ?_)
    simp
    exact hQ _ ns3 (by omega) (fun y hy hyo => by rw [r2 _ hyo]; exact b4 y hy)
  rw [if_neg (by omega), if_neg k1, if_neg k2] at hQ
  have hk1 : x.kids.length = 1 := by omega
  obtain ⟨c, hc⟩ : ∃ c, x.kids = [c] := by
    match hx : x.kids, hk1 with
    | [c], _ => exact ⟨c, rfl⟩
  obtain ⟨c, rfl⟩ : ∃ c' : Nat, c = (c' : Int) := ⟨c.toNat, by have := hin c (by rw [hc]; simp); omega⟩
  have hcn : c < t.nodes.length := by have := hin c (by rw [hc]; simp); omega
  simp only [hc, List.headD_cons, Int.toNat_natCast] at hQ
  have hxc' : ndC x = [.int .i64 x.kind, .str x.name, .sl 1 0 [.int .i64 (c : Int)]] := by rw [hxc, hc]; rfl
  have hsc : ∀ y : Sy, symC y = [.bool y.non, .int .i64 y.n] := fun _ => rfl
  have hcs := hch c (by rw [hc]; simp) hcn (by omega)
  by_cases k3 : x.kind = 3
  · rw [if_pos k3] at hQ
    simp [b1, hxc', k1, k2, k3, V.cells]
    refine dcall (symV (symT t c)) (symbol_spec L t rt ns2.lf c hcn hcs ⟨rfl, rfl⟩) ?_
    obtain ⟨h3, ns3, r1, r2, r3⟩ := NS.lay L ns2 (by omega) ⟨left, [symT t c, ⟨true, left⟩]⟩ (e2 := 0) (st := 0) (v := .sl 2 2 [symV (symT t c), symV ⟨true, left⟩]) (.sl _ _ _)
    simp [fillL, V.isAgg, symV, hsc, b2]
    refine dcallE _ _ (r3 ⟨rfl, rfl⟩) ?_
    simp
    obtain ⟨h4, ns4, s1, s2, s3⟩ := NS.lay L ns3 (by simp; omega) ⟨left, []⟩ (e2 := 0) (st := 0) (v := .sl 0 1 []) (.nil _ _ _)
    refine ecall (s3 ?_)
    simp
    exact hQ _ (by simpa using ns4) (by omega) (fun y hy hyo => by rw [s2 _ hyo, r2 _ hyo]; exact b4 y hy)
  rw [if_neg k3] at hQ
  by_cases k4 : x.kind = 4
  · rw [if_pos k4] at hQ
    simp [b1, hxc', k1, k2, k4, V.cells]
    refine dcall (symV (symT t c)) (symbol_spec L t rt ns2.lf c hcn hcs ⟨rfl, rfl⟩) ?_
    obtain ⟨h3, ns3, r1, r2, r3⟩ := NS.lay L ns2 (by omega) ⟨left, [symT t c, ⟨true, left⟩]⟩ (e2 := 0) (st := 0) (v := .sl 2 2 [symV (symT t c), symV ⟨true, left⟩]) (.sl _ _ _)
    simp [fillL, V.isAgg, symV, hsc, b2]
    refine dcallE _ _ (r3 ⟨rfl, rfl⟩) ?_
    have b1' : h3.objs h.nobj = ndC x := by rw [r2 _ ne1]; exact b1
    simp [b1', hxc', V.cells]
    refine ecall (symbol_spec L t rt ns3.lf c hcn hcs ?_)
    obtain ⟨h4, ns4, s1, s2, s3⟩ := NS.lay L ns3 (by simp; omega) ⟨left, [symT t c]⟩ (e2 := 0) (st := 0) (v := .sl 2 2 [symV (symT t c)]) (.sl _ _ _)
    simp [fillL, V.isAgg, symV, hsc]
    refine ecall (s3 ?_)
    simp
    exact hQ _ (by simpa using ns4) (by omega) (fun y hy hyo => by rw [s2 _ hyo, r2 _ hyo]; exact b4 y hy)
  · rw [if_neg k4] at hQ
    have k5 : x.kind = 5 := by omega
    simp [b1, hxc', k1, k2, k3, k4, k5, V.cells]
    refine ecall (symbol_spec L t rt ns2.lf c hcn hcs ?_)
    obtain ⟨h3, ns3, r1, r2, r3⟩ := NS.lay L ns2 (by omega) ⟨left, [symT t c]⟩ (e2 := 0) (st := 0) (v := .sl 2 2 [symV (symT t c)]) (.sl _ _ _)
    simp [fillL, V.isAgg, symV, hsc]
    refine ecall (r3 ?_)
    simp
    obtain ⟨h4, ns4, s1, s2, s3⟩ := NS.lay L ns3 (by simp; omega) ⟨left, []⟩ (e2 := 0) (st := 0) (v := .sl 0 1 []) (.nil _ _ _)
    refine ecall (s3 ?_)
    simp
    exact hQ _ (by simpa using ns4) (by omega) (fun y hy hyo => by rw [s2 _ hyo, r2 _ hyo]; exact b4 y hy)
theorem lower_spec (L : LLo X) (t : Te) (hr : t.rules.length < 2 ^ 30) (hn : t.nodes.length < 2 ^ 30) (hrn : ∀ r ∈ t.rules, r.name.length ≤ 2 ^ 30) (hnn : ∀ n ∈ t.nodes, n.name.length ≤ 2 ^ 30) (hks : ∀ n ∈ t.nodes, n.kids.length ≤ 2 ^ 30)
    (hQ : Q (lowV (lowRes t)) h) : Ecx X K.lower_Lower [teV t] h Q := by
  refine fn_walk L.lower (by simp [A.lower_Lower]) fun wf => ?_
  have htc : teC t = [.sl 2 0 (t.rules.map rlV), .sl 3 0 (t.nodes.map ndV)] := rfl
  have z4 : (AH.new (h.new (teC t)) [V.int .i64 0, .int .i64 0, .int .i64 0, .sl 0 1 []]).nobj = h.nobj + 2 := by simp
  have gr := ((Gr.refl h).new (teC t)).new [V.int .i64 0, .int .i64 0, .int .i64 0, .sl 0 1 []]
  have b0 : (AH.new (h.new (teC t)) [V.int .i64 0, .int .i64 0, .int .i64 0, .sl 0 1 []]).objs h.nobj = teC t := by simp
  have b1 : (AH.new (h.new (teC t)) [V.int .i64 0, .int .i64 0, .int .i64 0, .sl 0 1 []]).objs (h.nobj + 1) = [V.int .i64 0, .int .i64 0, .int .i64 0, .sl 0 1 []] := by simp
  have hbd := Bdd_lowV h.next h.nobj (lowRes t)
  simp [A.lower_Lower, teV, V.cells, V.good]
  generalize AH.new (h.new (teC t)) [V.int .i64 0, .int .i64 0, .int .i64 0, .sl 0 1 []] = h1 at *
  simp [b0, htc]
  rw [← htc]
  refine ecall (ruRight_spec L.ru L.right t hr hn hrn hnn hks ?_)
  have m1 : ¬ h.nobj = h.nobj + 1 := by omega
  have hRe := right_eq t
  cases hR : rightP t with
  | false =>
    have hl : lowRes t = (⟨0, 0, 0, []⟩, [], 1) := by unfold lowRes; rw [← hRe, hR]; rfl
    rw [hl] at hQ hbd
    simp [fillV, setAt, V.cells, V.good, b1]
    refine fin_wk (gr.set (by omega) _) ?_ hbd hQ
    exact Wk.l3 (Wk.a4 (.nil _ 2 _) _ _ _) (.nil _ 1 _) (.same _)
  | true =>
  have rt : RTe t := rte_of hR
  have hN := rt.n1
  have hRu := rt.r1
  have htl : (termsT t).length ≤ 200 := by have := (termsF_len t.nodes []).1; unfold termsT; simp at this; omega
  simp [b0, htc, fillV, setAt, V.cells, V.good]
  obtain ⟨h5, hh5⟩ : ∃ h5, h5 = ((((h1.new []).new []).new []).new [.sl 2 0 (t.rules.map rlV), .sl 3 0 (t.nodes.map ndV), .sl 0 1 [], .mapr h1.nobj, .mapr (h1.nobj + 1), .mapr (h1.nobj + 2), .sl 0 1 []]) := ⟨_, rfl⟩
  rw [← hh5]
  have gr5 : Gr h h5 := by rw [hh5]; exact (((gr.new []).new []).new []).new _
  have w0 : h5.nobj = h1.nobj + 4 := by rw [hh5]; simp
  have w1 : h5.objs (h1.nobj + 3) = loC t 0 1 [] h1.nobj (h1.nobj + 1) (h1.nobj + 2) (.sl 0 1 []) := by rw [hh5]; simp [loC, strs]
  have w2 : h5.objs h1.nobj = [] := by rw [hh5]; simp [show ¬ h1.nobj = h1.nobj + 1 by omega, show ¬ h1.nobj = h1.nobj + 2 by omega, show ¬ h1.nobj = h1.nobj + 3 by omega]
  have w3 : h5.objs (h1.nobj + 1) = [] := by rw [hh5]; simp [show ¬ h1.nobj + 1 = h1.nobj + 2 by omega, show ¬ h1.nobj + 1 = h1.nobj + 3 by omega]
  have w4 : h5.objs (h1.nobj + 2) = [] := by rw [hh5]; simp [show ¬ h1.nobj + 2 = h1.nobj + 3 by omega]
  have w5 : h5.objs h.nobj = teC t := by rw [hh5]; simp [show ¬ h.nobj = h1.nobj by omega, show ¬ h.nobj = h1.nobj + 1 by omega, show ¬ h.nobj = h1.nobj + 2 by omega, show ¬ h.nobj = h1.nobj + 3 by omega, b0]
  have w6 : h5.objs (h.nobj + 1) = [V.int .i64 0, .int .i64 0, .int .i64 0, .sl 0 1 []] := by
    rw [hh5, new_objs_ne _ _ (by simp only [new_nobj]; omega), new_objs_ne _ _ (by simp only [new_nobj]; omega), new_objs_ne _ _ (by simp only [new_nobj]; omega), new_objs_ne _ _ (by omega)]; exact b1
  clear hh5
  rw [show h1.nobj + 1 + 2 = h1.nobj + 3 by omega]
  obtain ⟨o, ho⟩ : ∃ o, o = h1.nobj + 3 := ⟨_, rfl⟩
  obtain ⟨a1, ha1⟩ : ∃ a1, a1 = h1.nobj := ⟨_, rfl⟩
  obtain ⟨a2, ha2⟩ : ∃ a2, a2 = h1.nobj + 1 := ⟨_, rfl⟩
  obtain ⟨a3, ha3⟩ : ∃ a3, a3 = h1.nobj + 2 := ⟨_, rfl⟩
  rw [← ho, ← ha2, ← ha3] at w1
  rw [← ha1] at w1 w2
  rw [← ha2] at w3
  rw [← ha3] at w4
  rw [← ho]
  refine ecall (number_spec L t rt w1 w2 w3 w4 (by omega) (by omega) (by omega) fun h6 e sn fr6 ob6 el6 lf6 => ?_)
  have gr6 : Gr h h6 := gr5.fr fr6 (fun x hx => by simp at hx; omega) (by omega)
  have v5 : h6.objs h.nobj = teC t := by rw [fr6.objs _ (by omega) (by simp; omega)]; exact w5
  have v6 : h6.objs (h.nobj + 1) = [V.int .i64 0, .int .i64 0, .int .i64 0, .sl 0 1 []] := by rw [fr6.objs _ (by omega) (by simp; omega)]; exact w6
  have v0 := fr6.nobj
  have ns6 : NS t h6 h6 o a1 a2 a3 e sn 1 (lowA t 0) := ⟨⟨0, 1, by simpa [lowA] using ob6, ⟨.inl rfl, .inl rfl⟩, .inl rfl⟩, FR.refl _ _ _, lf6⟩
  have hbody : ∀ k (hk : k < t.rules.length), (t.rules.getD k ⟨[], 0⟩) = t.rules[k] := fun k hk => by simp [List.getD_eq_getElem?_getD, hk]
  have hon : h.nobj + 1 < o := by omega
  have ho6 : o < h6.nobj := by omega
  clear w0 w1 w2 w3 w4 w5 w6 gr5 fr6 ob6 b0 b1 gr lf6
  simp [v5, htc]
  refine loopI (n := t.rules.length) (fun mm env h' => ∃ k, k ≤ t.rules.length ∧ mm = t.rules.length - k ∧ NS t h6 h' o a1 a2 a3 e sn 1 (lowA t k) ∧ h'.objs h.nobj = teC t ∧ h'.objs (h.nobj + 1) = [V.int .i64 0, .int .i64 0, .int .i64 0, .sl 0 1 []] ∧ h6.nobj ≤ h'.nobj ∧
      env = [(1, .ptr h.nobj 0), (2, .ptr (h.nobj + 1) 0), (5, .ptr o 0), (25, .sl 2 0 (t.rules.map rlV)), (26, .int .i64 t.rules.length), (27, .int .i64 k)]) ?_
    ⟨0, by omega, by omega, ns6, v5, v6, Nat.le_refl _, rfl⟩
  rintro mm env h' ⟨k, hk, rfl, ns, u5, u6, nb, rfl⟩
  unfold A.lower_Lower.L0
  have hl1 := lowA_len rt k (by omega)
  by_cases hlt : k < t.rules.length
  · have hlt' : (k : Int) < t.rules.length := by omega
    have hg : (t.rules.map rlV).getD k .undef = rlV t.rules[k] := Enc.getD hlt
    have hw1 : IntKind.i64.wrap ((k : Int) + 1) = ((k + 1 : Nat) : Int) := by rw [wrap_i64 (by omega) (by omega)]; rfl
    have hbd1 := rt.body (List.getElem_mem hlt)
    have hsu := lowA_succ t k
    rw [hbody k hlt] at hsu
    obtain ⟨B, hB⟩ : ∃ B : Nat, t.rules[k].body = (B : Int) := ⟨t.rules[k].body.toNat, by omega⟩
    rw [hB, Int.toNat_natCast] at hsu
    have hrc : rlC t.rules[k] = [.str t.rules[k].name, .int .i64 (B : Int)] := by rw [← hB]; rfl
    generalize t.rules[k] = r at *
    have n0 : ¬ h.nobj = h'.nobj := by omega
    have n1 : ¬ h.nobj + 1 = h'.nobj := by omega
    have q0 : (h'.new (rlC r)).objs h'.nobj = rlC r := by simp
    have q1 : (h'.new (rlC r)).objs h.nobj = teC t := by simp [n0, u5]
    have q2 : (h'.new (rlC r)).objs (h.nobj + 1) = [V.int .i64 0, .int .i64 0, .int .i64 0, .sl 0 1 []] := by simp [n1, u6]
    have q3 : (h'.new (rlC r)).nobj = h'.nobj + 1 := by simp
    have ns2 := ns.new (rlC r)
    simp [hlt', hg, rlV, V.cells, V.good, hrc, setAt]
    rw [← hrc]
    generalize h'.new (rlC r) = h2 at *
    refine ecall (node_spec L t rt ns2 (by omega) B (by omega) k fun h3 ns3 r1 r2 => ?_)
    rw [← hsu] at ns3
    simp [hw1]
    exact ⟨t.rules.length - (k + 1), by omega, iv ⟨k + 1, by omega, rfl, ns3, by rw [r2 _ (by omega) (by omega)]; exact q1, by rw [r2 _ (by omega) (by omega)]; exact q2, by omega, rfl⟩⟩
  · have hlt' : ¬ (k : Int) < t.rules.length := by omega
    obtain rfl : k = t.rules.length := by omega
    simp [hlt', u5, htc]
    refine loopI (n := t.nodes.length) (fun mm env h2 => ∃ k, k ≤ t.nodes.length ∧ mm = t.nodes.length - k ∧ NS t h6 h2 o a1 a2 a3 e sn 1 (lowA t t.rules.length ++ lowB t k) ∧ h2.objs h.nobj = teC t ∧ h2.objs (h.nobj + 1) = [V.int .i64 0, .int .i64 0, .int .i64 0, .sl 0 1 []] ∧ h6.nobj ≤ h2.nobj ∧
        env = [(1, .ptr h.nobj 0), (2, .ptr (h.nobj + 1) 0), (5, .ptr o 0), (40, .int .i64 t.nodes.length), (41, .int .i64 k)]) ?_
      ⟨0, by omega, by omega, by simpa [lowB] using ns, u5, u6, nb, rfl⟩
    clear ns u5 u6 nb h'
    rintro mm env h' ⟨k, hk, rfl, ns, u5, u6, nb, rfl⟩
    unfold A.lower_Lower.L1
    have hl2 := lowB_len rt k (by omega)
    obtain ⟨e1, sp, ob, my, hsp⟩ := ns.ob
    have o3 := ns.lf.o3
    by_cases hlt : k < t.nodes.length
    · have hlt' : (k : Int) < t.nodes.length := by omega
      have hw1 : IntKind.i64.wrap ((k : Int) + 1) = ((k + 1 : Nat) : Int) := by rw [wrap_i64 (by omega) (by omega)]; rfl
      have hsu := lowB_succ t k
      have hf := findE_entI (k : Int) (ownE t t.nodes.length) 0
      cases hh : hasN t k with
      | false =>
        rw [hh, if_neg (by simp), List.append_nil] at hsu
        have hno : fndI (k : Int) (ownE t t.nodes.length) = none := fndI_none fun p hp => by
          unfold ownE at hp
          obtain ⟨i, hi, rfl⟩ := List.mem_map.1 hp
          have := (List.mem_filter.1 hi).2
          show (i : Int) ≠ k
          intro q
          rw [show i = k by omega, hh] at this
          cases this
        rw [hno] at hf
        simp only [Option.map_none] at hf
        simp [hlt', ob, loC, o3, hf, lkpV, hw1]
        exact ⟨t.nodes.length - (k + 1), by omega, iv ⟨k + 1, by omega, rfl, by rw [hsu]; exact ns, u5, u6, nb, rfl⟩⟩
      | true =>
        rw [hh, if_pos rfl] at hsu
        obtain ⟨i, hi⟩ := ownE_find t hh t.nodes.length hlt
        rw [hi] at hf
        simp only [Option.map_some] at hf
        simp [hlt', ob, loC, o3, hf, lkpV]
        refine ecall (node_spec L t rt ns (by simp; omega) k hlt (ownN t k) fun h3 ns3 r1 r2 => ?_)
        rw [List.append_assoc, ← hsu] at ns3
        simp [hw1]
        exact ⟨t.nodes.length - (k + 1), by omega, iv ⟨k + 1, by omega, rfl, ns3, by rw [r2 _ (by omega) (by omega)]; exact u5, by rw [r2 _ (by omega) (by omega)]; exact u6, by omega, rfl⟩⟩
    · have hlt' : ¬ (k : Int) < t.nodes.length := by omega
      obtain rfl : k = t.nodes.length := by omega
      have hgr : Gr h h' := gr6.fr ns.fr (fun x hx => by simp at hx; omega) (by omega)
      have hcl := cntN_le t t.nodes.length
      have hel : (entI (ownE t t.nodes.length)).length = cntN t t.nodes.length := by unfold entI; rw [List.length_map, ownE_len]
      have hw2 : IntKind.i64.wrap ((t.rules.length : Int) + (cntN t t.nodes.length : Int)) = (t.rules.length : Int) + (cntN t t.nodes.length : Int) := wrap_i64 (by omega) (by omega)
      have hgm : gmV (lowG t) = .agg [.int .i64 ((termsT t).length : Int), .int .i64 ((t.rules.length + cntN t t.nodes.length : Nat) : Int), .int .i64 0, .sl 2 0 ((lowA t t.rules.length ++ lowB t t.nodes.length).map prV)] := rfl
      have hsl : (strs (termsT t)).length = (termsT t).length := by simp [strs]
      rw [← show lowP t = lowA t t.rules.length ++ lowB t t.nodes.length from rfl] at *
      have n0 : ¬ h.nobj = h'.nobj := by omega
      have n1 : ¬ h.nobj + 1 = h'.nobj := by omega
      have n2 : ¬ o = h'.nobj := by omega
      have n3 : ¬ a3 = h'.nobj := by have := ns.lf.lt; omega
      simp [hlt', ob, loC, o3, hel, hw2, u5, htc, fillV, setAt, V.cells, V.good, hsl, n0, n2, n3]
      have gz : GmOk (lowG t) := lowG_ok rt
      have gr2 := hgr.new [.int .i64 ((termsT t).length : Int), .int .i64 ((t.rules.length : Int) + (cntN t t.nodes.length : Int)), .int .i64 0, .sl e1 sp ((lowP t).map prV)]
      refine ⟨by simp [flZ, AOp.wp, ev, mlenK, n3, o3, hel], ?_⟩
      refine ecall (Ecx.wkL (.cons (by rw [hgm]; simpa using Wk.a4 (Wk.sln my.el) _ _ _) .nil) (right3R L.gr (lowG t) gz ?_))
      have q1 : (h'.new [.int .i64 ((termsT t).length : Int), .int .i64 ((t.rules.length : Int) + (cntN t t.nodes.length : Int)), .int .i64 0, .sl e1 sp ((lowP t).map prV)]).objs (h.nobj + 1) = [V.int .i64 0, .int .i64 0, .int .i64 0, .sl 0 1 []] := by rw [new_objs_ne _ _ n1]; exact u6
      have q2 : (h'.new [.int .i64 ((termsT t).length : Int), .int .i64 ((t.rules.length : Int) + (cntN t t.nodes.length : Int)), .int .i64 0, .sl e1 sp ((lowP t).map prV)]).objs o = loC t e sn (termsT t) a1 a2 a3 (.sl e1 sp ((lowP t).map prV)) := by rw [new_objs_ne _ _ n2]; exact ob
      have q3 : (h'.new [.int .i64 ((termsT t).length : Int), .int .i64 ((t.rules.length : Int) + (cntN t t.nodes.length : Int)), .int .i64 0, .sl e1 sp ((lowP t).map prV)]).objs h'.nobj = [.int .i64 ((termsT t).length : Int), .int .i64 ((t.rules.length : Int) + (cntN t t.nodes.length : Int)), .int .i64 0, .sl e1 sp ((lowP t).map prV)] := by rw [new_objs_same]
      have q4 : ¬ o = h.nobj + 1 := by omega
      generalize (h'.new [.int .i64 ((termsT t).length : Int), .int .i64 ((t.rules.length : Int) + (cntN t t.nodes.length : Int)), .int .i64 0, .sl e1 sp ((lowP t).map prV)]) = h7 at *
      cases hrg : rightG (lowG t) with
      | false =>
        have hl : lowRes t = (⟨0, 0, 0, []⟩, [], 5) := by unfold lowRes; rw [← hRe, hR, hrg]; rfl
        rw [hl] at hQ hbd
        simp [fillV, setAt, V.cells, V.good, q1]
        refine fin_wk (gr2.set (by omega) _) ?_ hbd hQ
        exact Wk.l3 (Wk.a4 (.nil _ 2 _) _ _ _) (.nil _ 1 _) (.same _)
      | true =>
        have hl : lowRes t = (lowG t, termsT t, 0) := by unfold lowRes; rw [← hRe, hR, hrg]; rfl
        rw [hl] at hQ hbd
        simp [q1, q2, q3, loC, setAt, V.cells, V.good, q4]
        refine fin_wk (gr2.set (by omega) _) ?_ hbd hQ
        exact Wk.l3 (by rw [hgm]; simpa using Wk.a4 (Wk.sln my.el) _ _ _) (Wk.sln el6) (.same _)
end
end Go.Proofs.Ytmobijebjkjnoaa.Al
namespace Go.Proofs.Ytmobijebjkjnoaa.Al
open Go Go.RowKit
set_option linter.unusedSimpArgs false
set_option linter.unusedVariables false
attribute [-simp] List.getD_eq_getElem?_getD Int.not_lt Int.not_le List.map_take List.map_map
theorem Wk.sldL {e st : Nat} {l m : List V} (h : WkL (cellsOf l) (cellsOf m)) (hl : l.length = m.length) (hm : ∀ v ∈ m, v.cells.length = e) : Wk (.sl e st l) (.sl e 0 m) :=
  .sld _ _ _ _ hl hm h.get.1 h.get.2
structure L08 (X : Cx) : Prop where
  lo : LLo X
  rl : LRL X
  large : Has (Ecx X) K.probatelaw06_Large A.probatelaw06_Large
  own : Has (Ecx X) K.probatelaw06_Own A.probatelaw06_Own
  same : Has (Ecx X) K.probateref03_Same A.probateref03_Same
  names : Has (Ecx X) K.probatelaw08_names A.probatelaw08_names
  awake : Has (Ecx X) K.probatelaw08_awake A.probatelaw08_awake
section
variable {X : Cx} {h : AH} {Q : V → AH → Prop}
theorem names_spec (H : Has (Ecx X) K.probatelaw08_names A.probatelaw08_names) (a b : List Str) (s t : Nat) (ha : a.length < 2 ^ 62) (hQ : Q (.bool (decide (a = b))) h) : Ecx X K.probatelaw08_names [.sl 1 s (strs a), .sl 1 t (strs b)] h Q := by
  refine fn_walk H (by simp [A.probatelaw08_names]) fun wf => ?_
  have hal : (strs a).length = a.length := by simp [strs]
  have hbl : (strs b).length = b.length := by simp [strs]
  by_cases hl : a.length = b.length
  · have hl' : (a.length : Int) = b.length := by omega
    simp [A.probatelaw08_names, hl', hal, hbl]
    refine loopI (n := a.length) (fun m env h' => ∃ k, k ≤ a.length ∧ m = a.length - k ∧ h' = h ∧ env = [(0, .sl 1 s (strs a)), (1, .sl 1 t (strs b)), (12, .int .i64 b.length), (13, .int .i64 k)] ∧ a.take k = b.take k) ?_ ⟨0, by omega, by omega, rfl, by rfl, rfl⟩
    rintro m env h' ⟨k, hk, rfl, rfl, rfl, he⟩
    unfold A.probatelaw08_names.L0
    by_cases hlt : k < a.length
    · have hlt' : (k : Int) < b.length := by omega
      have hlb : k < b.length := by omega
      have hga : (strs a).getD k .undef = .str a[k] := by simp [strs, List.getD_eq_getElem?_getD, hlt]
      have hgb : (strs b).getD k .undef = .str b[k] := by simp [strs, List.getD_eq_getElem?_getD, hlb]
      have hw1 : IntKind.i64.wrap ((k : Int) + 1) = ((k + 1 : Nat) : Int) := by rw [wrap_i64 (by omega) (by omega)]; rfl
      by_cases e : a[k] = b[k]
      · simp [hl', hlt', hga, hgb, hal, hbl, V.cells, V.good, e, hw1]
        exact ⟨a.length - (k + 1), by omega, iv ⟨k + 1, by omega, rfl, rfl, rfl, take_ext2 hlt hlb he e⟩⟩
      · have hf : decide (a = b) = false := by
          simp only [decide_eq_false_iff_not]; rintro rfl; exact e rfl
        rw [hf] at hQ
        simp [hl', hlt', hga, hgb, hal, hbl, V.cells, e]
        exact fin (by simp) hQ
    · have hlt' : ¬ (k : Int) < b.length := by omega
      simp [hl', hlt']
      refine fin (by simp) ?_
      have hk : k = a.length := by omega
      rw [hk, List.take_length, hl, List.take_length] at he
      simpa [he] using hQ
  · have hl' : ¬ (a.length : Int) = b.length := by omega
    simp [A.probatelaw08_names, hl', hal, hbl, hl]
    refine fin (by simp) ?_
    have : decide (a = b) = false := by simp; intro h; exact hl (by rw [h])
    rw [this] at hQ; exact hQ
def awT : Te := ⟨[⟨[115], 3⟩], [⟨7, [97], []⟩, ⟨3, [], [0]⟩, ⟨7, [98], []⟩, ⟨1, [], [1, 2]⟩]⟩
def awG : Gm := ⟨2, 2, 0, [⟨0, [⟨true, 1⟩, ⟨false, 1⟩]⟩, ⟨1, [⟨false, 0⟩, ⟨true, 1⟩]⟩, ⟨1, []⟩]⟩
theorem awT_low : lowRes awT = (awG, [[97], [98]], 0) := by decide +kernel
theorem nilT_low : lowRes ⟨[], []⟩ = (⟨0, 0, 0, []⟩, [], 1) := by decide +kernel
theorem awake8_spec (L : L08 X) (hQ : Q (.bool true) h) : Ecx X K.probatelaw08_awake [] h Q := by
  refine fn_walk L.awake (by simp [A.probatelaw08_awake]) fun wf => ?_
  simp [A.probatelaw08_awake, fillL, fillV, setAt, V.cells, V.good, V.isAgg]
  have hT : WkL [V.agg [V.sl 2 2 [V.agg [V.str [115], V.int IntKind.i64 3]], V.sl 3 2 [V.agg [V.int IntKind.i64 7, V.str [97], V.sl 0 1 []], V.agg [V.int IntKind.i64 3, V.str [], V.sl 1 2 [V.int IntKind.i64 0]], V.agg [V.int IntKind.i64 7, V.str [98], V.sl 0 1 []], V.agg [V.int IntKind.i64 1, V.str [], V.sl 1 2 [V.int IntKind.i64 1, V.int IntKind.i64 2]]]]] [teV awT] := by
    refine .cons (Wk.l2 (.sl _ _ _) (Wk.sldL ?_ rfl ?_)) .nil
    · exact .cons (.same _) (.cons (.same _) (.cons (.nil _ _ _) (.cons (.same _) (.cons (.same _) (.cons (.sl _ _ _) (.cons (.same _) (.cons (.same _) (.cons (.nil _ _ _) (.cons (.same _) (.cons (.same _) (.cons (.sl _ _ _) .nil)))))))))))
    · intro v hv
      obtain ⟨x, _, rfl⟩ := List.mem_map.1 hv
      rfl
  refine ecall (Ecx.wkL hT (lower_spec L.lo awT (by decide) (by decide) (by decide) (by decide) (by decide) ?_))
  rw [awT_low]
  have hgA : gmV awG = .agg [.int .i64 2, .int .i64 2, .int .i64 0, .sl 2 0 (awG.prods.map prV)] := rfl
  simp [lowV, hgA, V.cells, V.good, setAt]
  have hN : WkL [V.agg [V.sl 0 1 [], V.sl 0 1 []]] [teV ⟨[], []⟩] := .cons (Wk.l2 (.nil _ _ _) (.nil _ _ _)) .nil
  refine ecall (Ecx.wkL hN (lower_spec L.lo ⟨[], []⟩ (by decide) (by decide) (by decide) (by decide) (by decide) ?_))
  rw [nilT_low]
  have hgZ : gmV ⟨0, 0, 0, []⟩ = .agg [.int .i64 0, .int .i64 0, .int .i64 0, .sl 2 0 []] := rfl
  simp [lowV, hgZ, V.cells, V.good, setAt]
  have hW : Wk (V.agg [V.int IntKind.i64 2, V.int IntKind.i64 2, V.int IntKind.i64 0, V.sl 2 2 [V.agg [V.int IntKind.i64 0, V.sl 2 2 [V.agg [V.bool true, V.int IntKind.i64 1], V.agg [V.bool false, V.int IntKind.i64 1]]],
      V.agg [V.int IntKind.i64 1, V.sl 2 2 [V.agg [V.bool false, V.int IntKind.i64 0], V.agg [V.bool true, V.int IntKind.i64 1]]], V.agg [V.int IntKind.i64 1, V.sl 0 1 []]]]) (gmV awG) :=
    Wk.a4 (PrWL.wk (show PrWL [V.agg [V.int IntKind.i64 0, V.sl 2 2 [V.agg [V.bool true, V.int IntKind.i64 1], V.agg [V.bool false, V.int IntKind.i64 1]]],
      V.agg [V.int IntKind.i64 1, V.sl 2 2 [V.agg [V.bool false, V.int IntKind.i64 0], V.agg [V.bool true, V.int IntKind.i64 1]]], V.agg [V.int IntKind.i64 1, V.sl 0 1 []]]
      [⟨0, [⟨true, 1⟩, ⟨false, 1⟩]⟩, ⟨1, [⟨false, 0⟩, ⟨true, 1⟩]⟩, ⟨1, []⟩] from ⟨⟨2, 2, rfl, .inr rfl⟩, ⟨2, 2, rfl, .inr rfl⟩, ⟨0, 1, rfl, .inl rfl⟩, trivial⟩) (.inr rfl)) _ _ _
  refine ecall (Ecx.wkL (.cons (.same _) (.cons hW .nil)) (same3R_spec L.same awG awG (by decide) (by decide) ?_))
  simp
  refine ecall (names_spec L.names [[97], [98]] [[97], [98]] 0 2 (by decide) ?_)
  simp
  exact fin_wk (((((Gr.refl h).new _).new _).new _).new _ |>.new _) (.same _) (by simp) hQ
structure TeSm (t : Te) : Prop where
  r : t.rules.length ≤ 30
  n : t.nodes.length ≤ 210
  rn : ∀ r ∈ t.rules, r.name.length ≤ 2 ^ 30
  nn : ∀ n ∈ t.nodes, n.name.length ≤ 2 ^ 30
  ks : ∀ n ∈ t.nodes, n.kids.length ≤ 2 ^ 30
theorem sm_of {t : Te} (h : largeT t = false) : TeSm t := by
  unfold largeT at h
  simp only [Bool.or_eq_false_iff, decide_eq_false_iff_not, List.any_eq_false] at h
  obtain ⟨⟨⟨h1, h2⟩, h3⟩, h4⟩ := h
  refine ⟨by omega, by omega, fun r hr => ?_, fun n hn => ?_, fun n hn => ?_⟩
  · have := h3 r hr; simp at this; omega
  · have := h4 n hn; simp at this; omega
  · have := h4 n hn; simp at this; omega
end
end Go.Proofs.Ytmobijebjkjnoaa.Al
namespace Go.Proofs.Ytmobijebjkjnoaa.Al
open Go
def yK : Keys := ⟨fun k => ([0, 0, 1, 2, 0, 0, 0, 0, 0, 0, 0, 0, 0, 0, 0, 0, 0, 0, 0, 0, 0, 0, 0, 0, 0, 0, 0, 0, 0, 0, 0, 0, 0, 0, 0, 0, 0, 0, 0, 0, 0, 0, 0, 0, 0, 0, 0, 0, 0, 52, 41, 0, 0, 0, 0, 0, 0, 0, 0, 0, 0, 0, 0, 0, 0, 0, 0, 0, 0, 0, 0, 0, 0, 16, 24, 0, 11, 0, 17, 0, 0, 0, 0, 0, 0, 0, 0, 64, 60, 61, 0, 0, 0, 0, 0, 0, 33, 34, 35, 0, 0, 0, 67, 68, 69, 70, 71, 72, 0, 0, 56, 57, 58, 59, 0, 73, 74, 66, 75, 76, 77, 78, 79, 80, 81, 82, 83, 84, 85, 86, 87, 88, 89, 90, 91, 92, 93, 94, 95, 96, 97, 0, 0, 0, 0, 0, 3, 4, 5, 0, 0, 0, 0, 0, 0, 0, 0, 0, 0, 0, 0, 0, 0, 0, 0, 0, 0, 0, 0, 0, 0, 0, 0, 0, 0, 0, 0, 0, 0, 0, 0, 0, 0, 13, 6, 7, 8, 9, 10, 12, 14, 15, 0, 0, 0, 0, 20, 0, 0, 0, 0, 0, 0, 0, 0, 0, 0, 0, 0, 0, 32, 0, 0, 0, 0, 0, 0, 0, 0, 0, 0, 0, 0, 0, 0, 0, 0, 0, 0, 0, 0, 0, 0, 0, 0, 0, 0, 0, 0, 0, 0, 0, 25, 18, 19, 21, 22, 23, 26, 27, 28, 29, 30, 31, 0, 0, 0, 0, 0, 42, 43, 0, 0, 0, 0, 0, 0, 0, 0, 0, 0, 0, 0, 0, 0, 0, 0, 0, 0, 0, 0, 0, 0, 0, 0, 0, 0, 0, 0, 47, 48, 36, 37, 38, 39, 40, 44, 45, 46, 49, 50, 51, 53, 54, 55, 0, 0, 0, 0, 0, 62, 63, 0, 0, 0, 0, 0, 0, 0, 0, 0, 0, 0, 0, 0, 0, 0, 0, 0, 0, 65, 0, 0, 0, 0, 0, 0, 0, 0, 0, 0, 0, 0, 0, 0, 0, 0, 0, 0, 0, 0] : List Nat).getD k 0, fun k => ([1, 2, 3, 146, 147, 148, 184, 185, 186, 187, 188, 76, 189, 183, 190, 191, 73, 78, 243, 244, 196, 245, 246, 247, 74, 242, 248, 249, 250, 251, 252, 253, 210, 96, 97, 98, 291, 292, 293, 294, 295, 50, 259, 260, 296, 297, 298, 289, 290, 299, 300, 301, 49, 302, 303, 304, 110, 111, 112, 113, 88, 89, 310, 311, 87, 330, 117, 102, 103, 104, 105, 106, 107, 115, 116, 118, 119, 120, 121, 122, 123, 124, 125, 126, 127, 128, 129, 130, 131, 132, 133, 134, 135, 136, 137, 138, 139, 140] : List Nat).getD k 0, fun k => ([33, 34, 35, 37, 38, 39, 40, 45, 81, 82, 83, 85, 94, 95, 108, 109, 242, 243, 244, 248, 249, 259, 289, 290, 292, 294, 300, 301] : List Nat).contains k, fun _ => false⟩
noncomputable abbrev cxOf (W0 : World) : Cx := ⟨Try.prog, yK.tbl, W0⟩
end Go.Proofs.Ytmobijebjkjnoaa.Al
namespace Go.Proofs.Ytmobijebjkjnoaa.Al
open Go
theorem tie_probateref03_Same : compFn Try.prog yK Try.f11 = some A.probateref03_Same.strip := by kernel_rfl
theorem has_probateref03_Same (W0 : World) : Has (Ecx (cxOf W0)) K.probateref03_Same A.probateref03_Same := fn_sound Try.checked.mixed rfl (by exact Try.func11) (by kernel_rfl) tie_probateref03_Same
theorem tie_probateref03_Right : compFn Try.prog yK Try.f24 = some A.probateref03_Right.strip := by kernel_rfl
theorem has_probateref03_Right (W0 : World) : Has (Ecx (cxOf W0)) K.probateref03_Right A.probateref03_Right := fn_sound Try.checked.mixed rfl (by exact Try.func24) (by kernel_rfl) tie_probateref03_Right
end Go.Proofs.Ytmobijebjkjnoaa.Al
namespace Go.Proofs.Ytmobijebjkjnoaa.Al
open Go
theorem tie_gram_Right : compFn Try.prog yK Try.f16 = some A.gram_Right.strip := by kernel_rfl
theorem has_gram_Right (W0 : World) : Has (Ecx (cxOf W0)) K.gram_Right A.gram_Right := fn_sound Try.checked.mixed rfl (by exact Try.func16) (by kernel_rfl) tie_gram_Right
theorem tie_gram_Right_1 : compFn Try.prog yK Try.f34 = some A.gram_Right_1.strip := by kernel_rfl
theorem has_gram_Right_1 (W0 : World) : Has (Ecx (cxOf W0)) K.gram_Right_1 A.gram_Right_1 := fn_sound Try.checked.mixed rfl (by exact Try.func34) (by kernel_rfl) tie_gram_Right_1
theorem tie_gram_fits : compFn Try.prog yK Try.f35 = some A.gram_fits.strip := by kernel_rfl
theorem has_gram_fits (W0 : World) : Has (Ecx (cxOf W0)) K.gram_fits A.gram_fits := fn_sound Try.checked.mixed rfl (by exact Try.func35) (by kernel_rfl) tie_gram_fits
theorem tie_gram_there : compFn Try.prog yK Try.f57 = some A.gram_there.strip := by kernel_rfl
theorem has_gram_there (W0 : World) : Has (Ecx (cxOf W0)) K.gram_there A.gram_there := fn_sound Try.checked.mixed rfl (by exact Try.func57) (by kernel_rfl) tie_gram_there
theorem tie_gram_fits_1 : compFn Try.prog yK Try.f59 = some A.gram_fits_1.strip := by kernel_rfl
theorem has_gram_fits_1 (W0 : World) : Has (Ecx (cxOf W0)) K.gram_fits_1 A.gram_fits_1 := fn_sound Try.checked.mixed rfl (by exact Try.func59) (by kernel_rfl) tie_gram_fits_1
end Go.Proofs.Ytmobijebjkjnoaa.Al
namespace Go.Proofs.Ytmobijebjkjnoaa.Al
open Go
theorem tie_probateref05_Scan : compFn Try.prog yK Try.f41 = some A.probateref05_Scan.strip := by kernel_rfl
theorem has_probateref05_Scan (W0 : World) : Has (Ecx (cxOf W0)) K.probateref05_Scan A.probateref05_Scan := fn_sound Try.checked.mixed rfl (by exact Try.func41) (by kernel_rfl) tie_probateref05_Scan
theorem tie_probateref05_letter : compFn Try.prog yK Try.f60 = some A.probateref05_letter.strip := by kernel_rfl
theorem has_probateref05_letter (W0 : World) : Has (Ecx (cxOf W0)) K.probateref05_letter A.probateref05_letter := fn_sound Try.checked.mixed rfl (by exact Try.func60) (by kernel_rfl) tie_probateref05_letter
theorem tie_probateref05_part : compFn Try.prog yK Try.f61 = some A.probateref05_part.strip := by kernel_rfl
theorem has_probateref05_part (W0 : World) : Has (Ecx (cxOf W0)) K.probateref05_part A.probateref05_part := fn_sound Try.checked.mixed rfl (by exact Try.func61) (by kernel_rfl) tie_probateref05_part
end Go.Proofs.Ytmobijebjkjnoaa.Al
namespace Go.Proofs.Ytmobijebjkjnoaa.Al
open Go
theorem tie_probatelaw06_Large : compFn Try.prog yK Try.f7 = some A.probatelaw06_Large.strip := by kernel_rfl
theorem has_probatelaw06_Large (W0 : World) : Has (Ecx (cxOf W0)) K.probatelaw06_Large A.probatelaw06_Large := fn_sound Try.checked.mixed rfl (by exact Try.func7) (by kernel_rfl) tie_probatelaw06_Large
theorem tie_probatelaw06_Own : compFn Try.prog yK Try.f10 = some A.probatelaw06_Own.strip := by kernel_rfl
theorem has_probatelaw06_Own (W0 : World) : Has (Ecx (cxOf W0)) K.probatelaw06_Own A.probatelaw06_Own := fn_sound Try.checked.mixed rfl (by exact Try.func10) (by kernel_rfl) tie_probatelaw06_Own
theorem tie_probateref06_Right : compFn Try.prog yK Try.f20 = some A.probateref06_Right.strip := by kernel_rfl
theorem has_probateref06_Right (W0 : World) : Has (Ecx (cxOf W0)) K.probateref06_Right A.probateref06_Right := fn_sound Try.checked.mixed rfl (by exact Try.func20) (by kernel_rfl) tie_probateref06_Right
theorem tie_probateref06_under : compFn Try.prog yK Try.f42 = some A.probateref06_under.strip := by kernel_rfl
theorem has_probateref06_under (W0 : World) : Has (Ecx (cxOf W0)) K.probateref06_under A.probateref06_under := fn_sound Try.checked.mixed rfl (by exact Try.func42) (by kernel_rfl) tie_probateref06_under
theorem tie_probateref06_Tree_fine : compFn Try.prog yK Try.f43 = some A.probateref06_Tree_fine.strip := by kernel_rfl
theorem has_probateref06_Tree_fine (W0 : World) : Has (Ecx (cxOf W0)) K.probateref06_Tree_fine A.probateref06_Tree_fine := fn_sound Try.checked.mixed rfl (by exact Try.func43) (by kernel_rfl) tie_probateref06_Tree_fine
theorem tie_probateref06_Tree_rule : compFn Try.prog yK Try.f62 = some A.probateref06_Tree_rule.strip := by kernel_rfl
theorem has_probateref06_Tree_rule (W0 : World) : Has (Ecx (cxOf W0)) K.probateref06_Tree_rule A.probateref06_Tree_rule := fn_sound Try.checked.mixed rfl (by exact Try.func62) (by kernel_rfl) tie_probateref06_Tree_rule
theorem tie_probateref06_quote : compFn Try.prog yK Try.f63 = some A.probateref06_quote.strip := by kernel_rfl
theorem has_probateref06_quote (W0 : World) : Has (Ecx (cxOf W0)) K.probateref06_quote A.probateref06_quote := fn_sound Try.checked.mixed rfl (by exact Try.func63) (by kernel_rfl) tie_probateref06_quote
end Go.Proofs.Ytmobijebjkjnoaa.Al
namespace Go.Proofs.Ytmobijebjkjnoaa.Al
open Go
theorem tie_probatelaw08_LowerMeans : compFn Try.prog yK Try.f4 = some A.probatelaw08_LowerMeans.strip := by kernel_rfl
theorem has_probatelaw08_LowerMeans (W0 : World) : Has (Ecx (cxOf W0)) K.probatelaw08_LowerMeans A.probatelaw08_LowerMeans := fn_sound Try.checked.mixed rfl (by exact Try.func4) (by kernel_rfl) tie_probatelaw08_LowerMeans
theorem tie_probatelaw08_awake : compFn Try.prog yK Try.f6 = some A.probatelaw08_awake.strip := by kernel_rfl
theorem has_probatelaw08_awake (W0 : World) : Has (Ecx (cxOf W0)) K.probatelaw08_awake A.probatelaw08_awake := fn_sound Try.checked.mixed rfl (by exact Try.func6) (by kernel_rfl) tie_probatelaw08_awake
theorem tie_probateref08_Lower : compFn Try.prog yK Try.f9 = some A.probateref08_Lower.strip := by kernel_rfl
theorem has_probateref08_Lower (W0 : World) : Has (Ecx (cxOf W0)) K.probateref08_Lower A.probateref08_Lower := fn_sound Try.checked.mixed rfl (by exact Try.func9) (by kernel_rfl) tie_probateref08_Lower
theorem tie_probatelaw08_names : compFn Try.prog yK Try.f12 = some A.probatelaw08_names.strip := by kernel_rfl
theorem has_probatelaw08_names (W0 : World) : Has (Ecx (cxOf W0)) K.probatelaw08_names A.probatelaw08_names := fn_sound Try.checked.mixed rfl (by exact Try.func12) (by kernel_rfl) tie_probatelaw08_names
theorem tie_probateref08_In : compFn Try.prog yK Try.f13 = some A.probateref08_In.strip := by kernel_rfl
theorem has_probateref08_In (W0 : World) : Has (Ecx (cxOf W0)) K.probateref08_In A.probateref08_In := fn_sound Try.checked.mixed rfl (by exact Try.func13) (by kernel_rfl) tie_probateref08_In
theorem tie_probateref08_Means : compFn Try.prog yK Try.f14 = some A.probateref08_Means.strip := by kernel_rfl
theorem has_probateref08_Means (W0 : World) : Has (Ecx (cxOf W0)) K.probateref08_Means A.probateref08_Means := fn_sound Try.checked.mixed rfl (by exact Try.func14) (by kernel_rfl) tie_probateref08_Means
theorem tie_probateref08_Terms : compFn Try.prog yK Try.f21 = some A.probateref08_Terms.strip := by kernel_rfl
theorem has_probateref08_Terms (W0 : World) : Has (Ecx (cxOf W0)) K.probateref08_Terms A.probateref08_Terms := fn_sound Try.checked.mixed rfl (by exact Try.func21) (by kernel_rfl) tie_probateref08_Terms
theorem tie_probateref08_prods : compFn Try.prog yK Try.f22 = some A.probateref08_prods.strip := by kernel_rfl
theorem has_probateref08_prods (W0 : World) : Has (Ecx (cxOf W0)) K.probateref08_prods A.probateref08_prods := fn_sound Try.checked.mixed rfl (by exact Try.func22) (by kernel_rfl) tie_probateref08_prods
theorem tie_probateref08_own : compFn Try.prog yK Try.f23 = some A.probateref08_own.strip := by kernel_rfl
theorem has_probateref08_own (W0 : World) : Has (Ecx (cxOf W0)) K.probateref08_own A.probateref08_own := fn_sound Try.checked.mixed rfl (by exact Try.func23) (by kernel_rfl) tie_probateref08_own
theorem tie_probateref08_Spans : compFn Try.prog yK Try.f25 = some A.probateref08_Spans.strip := by kernel_rfl
theorem has_probateref08_Spans (W0 : World) : Has (Ecx (cxOf W0)) K.probateref08_Spans A.probateref08_Spans := fn_sound Try.checked.mixed rfl (by exact Try.func25) (by kernel_rfl) tie_probateref08_Spans
theorem tie_probateref08_place : compFn Try.prog yK Try.f44 = some A.probateref08_place.strip := by kernel_rfl
theorem has_probateref08_place (W0 : World) : Has (Ecx (cxOf W0)) K.probateref08_place A.probateref08_place := fn_sound Try.checked.mixed rfl (by exact Try.func44) (by kernel_rfl) tie_probateref08_place
theorem tie_probateref08_symbol : compFn Try.prog yK Try.f45 = some A.probateref08_symbol.strip := by kernel_rfl
theorem has_probateref08_symbol (W0 : World) : Has (Ecx (cxOf W0)) K.probateref08_symbol A.probateref08_symbol := fn_sound Try.checked.mixed rfl (by exact Try.func45) (by kernel_rfl) tie_probateref08_symbol
theorem tie_probateref08_symbols : compFn Try.prog yK Try.f46 = some A.probateref08_symbols.strip := by kernel_rfl
theorem has_probateref08_symbols (W0 : World) : Has (Ecx (cxOf W0)) K.probateref08_symbols A.probateref08_symbols := fn_sound Try.checked.mixed rfl (by exact Try.func46) (by kernel_rfl) tie_probateref08_symbols
theorem tie_probateref08_token : compFn Try.prog yK Try.f47 = some A.probateref08_token.strip := by kernel_rfl
theorem has_probateref08_token (W0 : World) : Has (Ecx (cxOf W0)) K.probateref08_token A.probateref08_token := fn_sound Try.checked.mixed rfl (by exact Try.func47) (by kernel_rfl) tie_probateref08_token
theorem tie_probateref08_rule : compFn Try.prog yK Try.f49 = some A.probateref08_rule.strip := by kernel_rfl
theorem has_probateref08_rule (W0 : World) : Has (Ecx (cxOf W0)) K.probateref08_rule A.probateref08_rule := fn_sound Try.checked.mixed rfl (by exact Try.func49) (by kernel_rfl) tie_probateref08_rule
theorem tie_probateref08_stars : compFn Try.prog yK Try.f51 = some A.probateref08_stars.strip := by kernel_rfl
theorem has_probateref08_stars (W0 : World) : Has (Ecx (cxOf W0)) K.probateref08_stars A.probateref08_stars := fn_sound Try.checked.mixed rfl (by exact Try.func51) (by kernel_rfl) tie_probateref08_stars
end Go.Proofs.Ytmobijebjkjnoaa.Al
namespace Go.Proofs.Ytmobijebjkjnoaa.Al
open Go
theorem tie_slices_ContainsFunc_Rule : compFn Try.prog yK Try.f29 = some A.slices_ContainsFunc_Rule.strip := by kernel_rfl
theorem has_slices_ContainsFunc_Rule (W0 : World) : Has (Ecx (cxOf W0)) K.slices_ContainsFunc_Rule A.slices_ContainsFunc_Rule := fn_sound Try.checked.mixed rfl (by exact Try.func29) (by kernel_rfl) tie_slices_ContainsFunc_Rule
theorem tie_slices_Equal_int : compFn Try.prog yK Try.f32 = some A.slices_Equal_int.strip := by kernel_rfl
theorem has_slices_Equal_int (W0 : World) : Has (Ecx (cxOf W0)) K.slices_Equal_int A.slices_Equal_int := fn_sound Try.checked.mixed rfl (by exact Try.func32) (by kernel_rfl) tie_slices_Equal_int
theorem tie_slices_ContainsFunc_Prod : compFn Try.prog yK Try.f33 = some A.slices_ContainsFunc_Prod.strip := by kernel_rfl
theorem has_slices_ContainsFunc_Prod (W0 : World) : Has (Ecx (cxOf W0)) K.slices_ContainsFunc_Prod A.slices_ContainsFunc_Prod := fn_sound Try.checked.mixed rfl (by exact Try.func33) (by kernel_rfl) tie_slices_ContainsFunc_Prod
theorem tie_slices_IndexFunc_Rule : compFn Try.prog yK Try.f53 = some A.slices_IndexFunc_Rule.strip := by kernel_rfl
theorem has_slices_IndexFunc_Rule (W0 : World) : Has (Ecx (cxOf W0)) K.slices_IndexFunc_Rule A.slices_IndexFunc_Rule := fn_sound Try.checked.mixed rfl (by exact Try.func53) (by kernel_rfl) tie_slices_IndexFunc_Rule
theorem tie_slices_Contains_byte : compFn Try.prog yK Try.f55 = some A.slices_Contains_byte.strip := by kernel_rfl
theorem has_slices_Contains_byte (W0 : World) : Has (Ecx (cxOf W0)) K.slices_Contains_byte A.slices_Contains_byte := fn_sound Try.checked.mixed rfl (by exact Try.func55) (by kernel_rfl) tie_slices_Contains_byte
theorem tie_slices_IndexFunc_Prod : compFn Try.prog yK Try.f56 = some A.slices_IndexFunc_Prod.strip := by kernel_rfl
theorem has_slices_IndexFunc_Prod (W0 : World) : Has (Ecx (cxOf W0)) K.slices_IndexFunc_Prod A.slices_IndexFunc_Prod := fn_sound Try.checked.mixed rfl (by exact Try.func56) (by kernel_rfl) tie_slices_IndexFunc_Prod
theorem tie_slices_ContainsFunc_Sym : compFn Try.prog yK Try.f58 = some A.slices_ContainsFunc_Sym.strip := by kernel_rfl
theorem has_slices_ContainsFunc_Sym (W0 : World) : Has (Ecx (cxOf W0)) K.slices_ContainsFunc_Sym A.slices_ContainsFunc_Sym := fn_sound Try.checked.mixed rfl (by exact Try.func58) (by kernel_rfl) tie_slices_ContainsFunc_Sym
theorem tie_slices_Index_byte : compFn Try.prog yK Try.f65 = some A.slices_Index_byte.strip := by kernel_rfl
theorem has_slices_Index_byte (W0 : World) : Has (Ecx (cxOf W0)) K.slices_Index_byte A.slices_Index_byte := fn_sound Try.checked.mixed rfl (by exact Try.func65) (by kernel_rfl) tie_slices_Index_byte
theorem tie_slices_IndexFunc_Sym : compFn Try.prog yK Try.f66 = some A.slices_IndexFunc_Sym.strip := by kernel_rfl
theorem has_slices_IndexFunc_Sym (W0 : World) : Has (Ecx (cxOf W0)) K.slices_IndexFunc_Sym A.slices_IndexFunc_Sym := fn_sound Try.checked.mixed rfl (by exact Try.func66) (by kernel_rfl) tie_slices_IndexFunc_Sym
theorem tie_strings_Cut : compFn Try.prog yK Try.f67 = some A.strings_Cut.strip := by kernel_rfl
theorem has_strings_Cut (W0 : World) : Has (Ecx (cxOf W0)) K.strings_Cut A.strings_Cut := fn_sound Try.checked.mixed rfl (by exact Try.func67) (by kernel_rfl) tie_strings_Cut
theorem tie_strings_IndexByte : compFn Try.prog yK Try.f72 = some A.strings_IndexByte.strip := by kernel_rfl
theorem has_strings_IndexByte (W0 : World) : Has (Ecx (cxOf W0)) K.strings_IndexByte A.strings_IndexByte := fn_sound Try.checked.mixed rfl (by exact Try.func72) (by kernel_rfl) tie_strings_IndexByte
theorem tie_stringslite_Cut : compFn Try.prog yK Try.f73 = some A.stringslite_Cut.strip := by kernel_rfl
theorem has_stringslite_Cut (W0 : World) : Has (Ecx (cxOf W0)) K.stringslite_Cut A.stringslite_Cut := fn_sound Try.checked.mixed rfl (by exact Try.func73) (by kernel_rfl) tie_stringslite_Cut
theorem tie_stringslite_IndexByte : compFn Try.prog yK Try.f74 = some A.stringslite_IndexByte.strip := by kernel_rfl
theorem has_stringslite_IndexByte (W0 : World) : Has (Ecx (cxOf W0)) K.stringslite_IndexByte A.stringslite_IndexByte := fn_sound Try.checked.mixed rfl (by exact Try.func74) (by kernel_rfl) tie_stringslite_IndexByte
theorem tie_stringslite_Index : compFn Try.prog yK Try.f75 = some A.stringslite_Index.strip := by kernel_rfl
theorem has_stringslite_Index (W0 : World) : Has (Ecx (cxOf W0)) K.stringslite_Index A.stringslite_Index := fn_sound Try.checked.mixed rfl (by exact Try.func75) (by kernel_rfl) tie_stringslite_Index
end Go.Proofs.Ytmobijebjkjnoaa.Al
namespace Go.Proofs.Ytmobijebjkjnoaa.Al
open Go
theorem tie_lower_Lower : compFn Try.prog yK Try.f8 = some A.lower_Lower.strip := by kernel_rfl
theorem has_lower_Lower (W0 : World) : Has (Ecx (cxOf W0)) K.lower_Lower A.lower_Lower := fn_sound Try.checked.mixed rfl (by exact Try.func8) (by kernel_rfl) tie_lower_Lower
theorem tie_lower_lowerer_number : compFn Try.prog yK Try.f18 = some A.lower_lowerer_number.strip := by kernel_rfl
theorem has_lower_lowerer_number (W0 : World) : Has (Ecx (cxOf W0)) K.lower_lowerer_number A.lower_lowerer_number := fn_sound Try.checked.mixed rfl (by exact Try.func18) (by kernel_rfl) tie_lower_lowerer_number
theorem tie_lower_lowerer_node : compFn Try.prog yK Try.f19 = some A.lower_lowerer_node.strip := by kernel_rfl
theorem has_lower_lowerer_node (W0 : World) : Has (Ecx (cxOf W0)) K.lower_lowerer_node A.lower_lowerer_node := fn_sound Try.checked.mixed rfl (by exact Try.func19) (by kernel_rfl) tie_lower_lowerer_node
theorem tie_lower_lowerer_alone : compFn Try.prog yK Try.f36 = some A.lower_lowerer_alone.strip := by kernel_rfl
theorem has_lower_lowerer_alone (W0 : World) : Has (Ecx (cxOf W0)) K.lower_lowerer_alone A.lower_lowerer_alone := fn_sound Try.checked.mixed rfl (by exact Try.func36) (by kernel_rfl) tie_lower_lowerer_alone
theorem tie_lower_lowerer_term : compFn Try.prog yK Try.f37 = some A.lower_lowerer_term.strip := by kernel_rfl
theorem has_lower_lowerer_term (W0 : World) : Has (Ecx (cxOf W0)) K.lower_lowerer_term A.lower_lowerer_term := fn_sound Try.checked.mixed rfl (by exact Try.func37) (by kernel_rfl) tie_lower_lowerer_term
theorem tie_lower_lowerer_symbol : compFn Try.prog yK Try.f38 = some A.lower_lowerer_symbol.strip := by kernel_rfl
theorem has_lower_lowerer_symbol (W0 : World) : Has (Ecx (cxOf W0)) K.lower_lowerer_symbol A.lower_lowerer_symbol := fn_sound Try.checked.mixed rfl (by exact Try.func38) (by kernel_rfl) tie_lower_lowerer_symbol
theorem tie_lower_lowerer_lay : compFn Try.prog yK Try.f39 = some A.lower_lowerer_lay.strip := by kernel_rfl
theorem has_lower_lowerer_lay (W0 : World) : Has (Ecx (cxOf W0)) K.lower_lowerer_lay A.lower_lowerer_lay := fn_sound Try.checked.mixed rfl (by exact Try.func39) (by kernel_rfl) tie_lower_lowerer_lay
theorem tie_lower_all : compFn Try.prog yK Try.f40 = some A.lower_all.strip := by kernel_rfl
theorem has_lower_all (W0 : World) : Has (Ecx (cxOf W0)) K.lower_all A.lower_all := fn_sound Try.checked.mixed rfl (by exact Try.func40) (by kernel_rfl) tie_lower_all
end Go.Proofs.Ytmobijebjkjnoaa.Al
namespace Go.Proofs.Ytmobijebjkjnoaa.Al
open Go
theorem tie_rules_Right : compFn Try.prog yK Try.f15 = some A.rules_Right.strip := by kernel_rfl
theorem has_rules_Right (W0 : World) : Has (Ecx (cxOf W0)) K.rules_Right A.rules_Right := fn_sound Try.checked.mixed rfl (by exact Try.func15) (by kernel_rfl) tie_rules_Right
theorem tie_rules_token : compFn Try.prog yK Try.f28 = some A.rules_token.strip := by kernel_rfl
theorem has_rules_token (W0 : World) : Has (Ecx (cxOf W0)) K.rules_token A.rules_token := fn_sound Try.checked.mixed rfl (by exact Try.func28) (by kernel_rfl) tie_rules_token
theorem tie_rules_Right_1 : compFn Try.prog yK Try.f30 = some A.rules_Right_1.strip := by kernel_rfl
theorem has_rules_Right_1 (W0 : World) : Has (Ecx (cxOf W0)) K.rules_Right_1 A.rules_Right_1 := fn_sound Try.checked.mixed rfl (by exact Try.func30) (by kernel_rfl) tie_rules_Right_1
theorem tie_rules_Tree_fine : compFn Try.prog yK Try.f31 = some A.rules_Tree_fine.strip := by kernel_rfl
theorem has_rules_Tree_fine (W0 : World) : Has (Ecx (cxOf W0)) K.rules_Tree_fine A.rules_Tree_fine := fn_sound Try.checked.mixed rfl (by exact Try.func31) (by kernel_rfl) tie_rules_Tree_fine
theorem tie_rules_Tree_fine_1 : compFn Try.prog yK Try.f54 = some A.rules_Tree_fine_1.strip := by kernel_rfl
theorem has_rules_Tree_fine_1 (W0 : World) : Has (Ecx (cxOf W0)) K.rules_Tree_fine_1 A.rules_Tree_fine_1 := fn_sound Try.checked.mixed rfl (by exact Try.func54) (by kernel_rfl) tie_rules_Tree_fine_1
end Go.Proofs.Ytmobijebjkjnoaa.Al
namespace Go.Proofs.Ytmobijebjkjnoaa.Al
open Go
theorem tie_scan_Scan : compFn Try.prog yK Try.f52 = some A.scan_Scan.strip := by kernel_rfl
theorem has_scan_Scan (W0 : World) : Has (Ecx (cxOf W0)) K.scan_Scan A.scan_Scan := fn_sound Try.checked.mixed rfl (by exact Try.func52) (by kernel_rfl) tie_scan_Scan
theorem tie_scan_first : compFn Try.prog yK Try.f64 = some A.scan_first.strip := by kernel_rfl
theorem has_scan_first (W0 : World) : Has (Ecx (cxOf W0)) K.scan_first A.scan_first := fn_sound Try.checked.mixed rfl (by exact Try.func64) (by kernel_rfl) tie_scan_first
theorem tie_scan_letter : compFn Try.prog yK Try.f68 = some A.scan_letter.strip := by kernel_rfl
theorem has_scan_letter (W0 : World) : Has (Ecx (cxOf W0)) K.scan_letter A.scan_letter := fn_sound Try.checked.mixed rfl (by exact Try.func68) (by kernel_rfl) tie_scan_letter
theorem tie_scan_run : compFn Try.prog yK Try.f69 = some A.scan_run.strip := by kernel_rfl
theorem has_scan_run (W0 : World) : Has (Ecx (cxOf W0)) K.scan_run A.scan_run := fn_sound Try.checked.mixed rfl (by exact Try.func69) (by kernel_rfl) tie_scan_run
theorem tie_scan_part : compFn Try.prog yK Try.f70 = some A.scan_part.strip := by kernel_rfl
theorem has_scan_part (W0 : World) : Has (Ecx (cxOf W0)) K.scan_part A.scan_part := fn_sound Try.checked.mixed rfl (by exact Try.func70) (by kernel_rfl) tie_scan_part
theorem tie_scan_quoted : compFn Try.prog yK Try.f71 = some A.scan_quoted.strip := by kernel_rfl
theorem has_scan_quoted (W0 : World) : Has (Ecx (cxOf W0)) K.scan_quoted A.scan_quoted := fn_sound Try.checked.mixed rfl (by exact Try.func71) (by kernel_rfl) tie_scan_quoted
end Go.Proofs.Ytmobijebjkjnoaa.Al
namespace Go.Proofs.Ytmobijebjkjnoaa.Al
open Go
theorem tie_o_rules_Right : compFn Try.prog ({ yK with om := fun n => ([1000098] : List Nat).contains n }) Try.f15 = some A.rules_Right_o.strip := by kernel_rfl
theorem has_o_rules_Right (W0 : World) : Has (Ecx (cxOf W0)) K.rules_Right A.rules_Right_o := fn_sound (Y := ({ yK with om := fun n => ([1000098] : List Nat).contains n })) Try.checked.mixed rfl (by exact Try.func15) (by kernel_rfl) tie_o_rules_Right
end Go.Proofs.Ytmobijebjkjnoaa.Al
namespace Go.Proofs.Ytmobijebjkjnoaa.Al
open Go Go.RowKit
theorem ext_indexByte (W : World) (s : Str) (c : Int) (h : AH) (Q : V → AH → Prop) (hQ : Q (.int .i64 (idxB s c)) h) : Ecx (cxOf W) K.bytealg_IndexByteString [.str s, .int .u8 c] h Q :=
  indexByte_ext (X := cxOf W) (fn := Try.f76) (by exact Try.func76) (by kernel_rfl) (by kernel_rfl) (by kernel_rfl) (by kernel_rfl) s c hQ
theorem ls (W : World) : LS (cxOf W) := ⟨has_scan_letter W, has_scan_part W, has_scan_quoted W, has_scan_run W, has_scan_first W, has_scan_Scan W, has_strings_Cut W, has_strings_IndexByte W, has_stringslite_Cut W, has_stringslite_IndexByte W, has_stringslite_Index W, ext_indexByte W⟩
theorem lru (W : World) : LRu (cxOf W) := ⟨ls W, has_rules_token W, has_rules_Tree_fine W, has_rules_Tree_fine_1 W, has_rules_Right W, has_rules_Right_1 W, has_slices_ContainsFunc_Rule W, has_slices_IndexFunc_Rule W, has_slices_Contains_byte W, has_slices_Index_byte W, has_slices_Equal_int W⟩
theorem lgr8 (W : World) : LGr (cxOf W) := ⟨has_gram_there W, has_gram_fits W, has_gram_fits_1 W, has_gram_Right W, has_gram_Right_1 W, has_slices_ContainsFunc_Prod W, has_slices_ContainsFunc_Sym W, has_slices_IndexFunc_Prod W, has_slices_IndexFunc_Sym W⟩
theorem llo (W : World) : LLo (cxOf W) := ⟨lru W, has_o_rules_Right W, has_lower_lowerer_term W, has_lower_lowerer_alone W, has_lower_lowerer_number W, has_lower_lowerer_symbol W, has_lower_all W, has_lower_lowerer_lay W, has_lower_lowerer_node W, has_lower_Lower W, lgr8 W⟩
theorem arg_node {u : V} (a : Arg Try.prog 58 u) : ∃ x : Nd, u = ndV x ∧ (x.name.length ≤ maxLen ∧ x.kids.length ≤ maxLen) := by
  obtain ⟨l, rfl, t⟩ := arg_struct Try.underlying58 a
  obtain ⟨a0, r, rfl, y0, t⟩ := tys_cons t
  obtain ⟨a1, r, rfl, y1, t⟩ := tys_cons t
  obtain ⟨a2, r, rfl, y2, t⟩ := tys_cons t
  obtain rfl := tys_nil t
  obtain ⟨n, rfl, _, _⟩ := ty_i64 (by kernel_rfl) y0
  obtain ⟨s, rfl, hs⟩ := ty_str (by kernel_rfl) y1
  obtain ⟨m, rfl, hm, hl⟩ := ty_sl (e := 3) (by kernel_rfl) y2
  obtain ⟨l, rfl, _⟩ := list_form (f := .int .i64) (p := fun _ => True) (fun v hv => by obtain ⟨n, e, _, h2⟩ := arg_i64 Try.underlying3 hv; exact ⟨n, e, trivial⟩) m hl
  rw [show Try.prog.cellsOf 3 = 1 by kernel_rfl]
  exact ⟨⟨n, s, l⟩, rfl, hs, by simpa using hm⟩
theorem arg_rule {u : V} (a : Arg Try.prog 56 u) : ∃ x : Rl, u = rlV x ∧ x.name.length ≤ maxLen := by
  obtain ⟨l, rfl, t⟩ := arg_struct Try.underlying56 a
  obtain ⟨a0, r, rfl, y0, t⟩ := tys_cons t
  obtain ⟨a1, r, rfl, y1, t⟩ := tys_cons t
  obtain rfl := tys_nil t
  obtain ⟨s, rfl, hs⟩ := ty_str (by kernel_rfl) y0
  obtain ⟨n, rfl, _, _⟩ := ty_i64 (by kernel_rfl) y1
  exact ⟨⟨s, n⟩, rfl, hs⟩
theorem arg_tree {u : V} (a : Arg Try.prog 25 u) : ∃ t : Te, u = teV t ∧ TeOk t := by
  obtain ⟨l, rfl, t⟩ := arg_struct Try.underlying25 a
  obtain ⟨a0, r, rfl, y0, t⟩ := tys_cons t
  obtain ⟨a1, r, rfl, y1, t⟩ := tys_cons t
  obtain rfl := tys_nil t
  obtain ⟨m, rfl, hm, hl⟩ := ty_sl (e := 56) (by kernel_rfl) y0
  obtain ⟨rs, rfl, hr⟩ := list_form (f := rlV) (fun v hv => arg_rule hv) m hl
  obtain ⟨m2, rfl, hm2, hl2⟩ := ty_sl (e := 58) (by kernel_rfl) y1
  obtain ⟨ns, rfl, hn⟩ := list_form (f := ndV) (fun v hv => arg_node hv) m2 hl2
  rw [show Try.prog.cellsOf 56 = 2 by kernel_rfl, show Try.prog.cellsOf 58 = 3 by kernel_rfl]
  exact ⟨⟨rs, ns⟩, rfl, ⟨by simpa using hm, by simpa using hm2, hr, fun n h => (hn n h).1, fun n h => (hn n h).2⟩⟩
end Go.Proofs.Ytmobijebjkjnoaa.Al
namespace Go.Proofs.Ytmobijebjkjnoaa.Al
open Go Go.RowKit
theorem lsr (W : World) : LSR (cxOf W) := ⟨has_probateref05_letter W, has_probateref05_part W, has_probateref05_Scan W⟩
theorem lr6 (W : World) : LR6 (cxOf W) := ⟨lsr W, has_probateref06_under W, has_probateref06_Right W, has_probateref06_Tree_fine W, has_probateref06_Tree_rule W, has_probateref06_quote W⟩
theorem lr8 (W : World) : LR8 (cxOf W) := ⟨has_probateref08_Terms W, has_probateref08_place W, has_probateref08_rule W, has_probateref08_own W, has_probateref08_symbol W, has_probateref08_symbols W⟩
theorem lrl (W : World) : LRL (cxOf W) := ⟨lr8 W, lr6 W, has_probateref08_prods W, has_probateref08_Lower W, has_probateref03_Right W⟩
theorem l08 (W : World) : L08 (cxOf W) := ⟨llo W, lrl W, has_probatelaw06_Large W, has_probatelaw06_Own W, has_probateref03_Same W, has_probatelaw08_names W, has_probatelaw08_awake W⟩
end Go.Proofs.Ytmobijebjkjnoaa.Al
namespace Go.Proofs.Ytmobijebjkjnoaa.Al
open Go Go.RowKit
set_option linter.unusedSimpArgs false
set_option linter.unusedVariables false
/-- Symbols come to a part of a word. -/
inductive Dv (g : Gm) (w : List Int) : List Sy → Nat → Nat → Prop
  | nil (a : Nat) (h : a ≤ w.length) : Dv g w [] a a
  | tok (s : Sy) (r : List Sy) (a b : Nat) (hn : s.non = false) (ha : a < w.length) (he : w[a] = s.n) (h : Dv g w r (a + 1) b) : Dv g w (s :: r) a b
  | non (s : Sy) (r : List Sy) (p : Pr) (a m b : Nat) (hn : s.non = true) (hp : p ∈ g.prods) (hl : p.left = s.n) (h1 : Dv g w p.right a m) (h2 : Dv g w r m b) : Dv g w (s :: r) a b
theorem Dv.le {g : Gm} {w : List Int} {ss : List Sy} {a b : Nat} (d : Dv g w ss a b) : a ≤ b ∧ b ≤ w.length := by
  induction d with
  | nil a h => exact ⟨Nat.le_refl _, h⟩
  | tok s r a b hn ha he h ih => exact ⟨by omega, ih.2⟩
  | non s r p a m b hn hp hl h1 h2 ih1 ih2 => exact ⟨by omega, ih2.2⟩
theorem Dv.app {g : Gm} {w : List Int} {ss rs : List Sy} {a b c : Nat} (d : Dv g w ss a b) (e : Dv g w rs b c) : Dv g w (ss ++ rs) a c := by
  induction d with
  | nil a h => exact e
  | tok s r a b hn ha he h ih => exact .tok _ _ _ _ hn ha he (ih e)
  | non s r p a m b hn hp hl h1 h2 ih1 ih2 => exact .non _ _ p _ _ _ hn hp hl h1 (ih2 e)
theorem Dv.split {g : Gm} {w : List Int} {rs : List Sy} {c : Nat} : ∀ {ss : List Sy} {a : Nat}, Dv g w (ss ++ rs) a c → ∃ b, Dv g w ss a b ∧ Dv g w rs b c
  | [], a, d => ⟨a, .nil a (by have := d.le; omega), d⟩
  | s :: ss, a, d => by
    cases d with
    | tok _ _ _ _ hn ha he h =>
      obtain ⟨b, x, y⟩ := Dv.split h
      exact ⟨b, .tok _ _ _ _ hn ha he x, y⟩
    | non _ _ p _ m _ hn hp hl h1 h2 =>
      obtain ⟨b, x, y⟩ := Dv.split h2
      exact ⟨b, .non _ _ p _ _ _ hn hp hl h1 x, y⟩
/-- One nonterminal. -/
def DvN (g : Gm) (w : List Int) (n : Int) (a b : Nat) : Prop := Dv g w [⟨true, n⟩] a b
theorem DvN.iff {g : Gm} {w : List Int} {n : Int} {a b : Nat} : DvN g w n a b ↔ ∃ p ∈ g.prods, p.left = n ∧ Dv g w p.right a b := by
  constructor
  · intro d
    cases d with
    | tok _ _ _ _ hn => cases hn
    | non _ _ p _ m _ hn hp hl h1 h2 => cases h2; exact ⟨p, hp, hl, h1⟩
  · rintro ⟨p, hp, hl, h⟩
    exact .non _ _ p _ b _ rfl hp hl h (.nil _ h.le.2)
theorem Dv.cons_non {g : Gm} {w : List Int} {s : Sy} {r : List Sy} {a b : Nat} (hn : s.non = true) : Dv g w (s :: r) a b ↔ ∃ m, DvN g w s.n a m ∧ Dv g w r m b := by
  obtain ⟨non, n⟩ := s
  cases hn
  constructor
  · intro d
    cases d with
    | tok _ _ _ _ hn => cases hn
    | non _ _ p _ m _ hn hp hl h1 h2 => exact ⟨m, DvN.iff.2 ⟨p, hp, hl, h1⟩, h2⟩
  · rintro ⟨m, h1, h2⟩
    obtain ⟨p, hp, hl, h⟩ := DvN.iff.1 h1
    exact .non _ _ p _ m _ rfl hp hl h h2
theorem Dv.cons_tok {g : Gm} {w : List Int} {s : Sy} {r : List Sy} {a b : Nat} (hn : s.non = false) : Dv g w (s :: r) a b ↔ ∃ h : a < w.length, w[a] = s.n ∧ Dv g w r (a + 1) b := by
  constructor
  · intro d
    cases d with
    | tok _ _ _ _ _ ha he h => exact ⟨ha, he, h⟩
    | non _ _ p _ m _ hn' => rw [hn] at hn'; cases hn'
  · rintro ⟨ha, he, h⟩; exact .tok _ _ _ _ hn ha he h
/-! ### Rows -/
/-- Things mean parts, one behind the other (L: the last place). -/
def RowR (L : Nat) : List (Nat → Nat → Bool) → Nat → Nat → Prop
  | [], a, b => a = b
  | c :: cs, a, b => ∃ m, a ≤ m ∧ m ≤ L ∧ c a m = true ∧ RowR L cs m b
theorem RowR.le {L : Nat} : ∀ {cs : List (Nat → Nat → Bool)} {a b : Nat}, a ≤ L → RowR L cs a b → a ≤ b ∧ b ≤ L
  | [], a, b, h, e => by cases e; exact ⟨Nat.le_refl _, h⟩
  | c :: cs, a, b, h, ⟨m, h1, h2, _, h4⟩ => by have := RowR.le h2 h4; omega
def stepR (at' : Nat → Bool) (c : Nat → Nat → Bool) : Nat → Bool := fun b => (List.range (b + 1)).any fun a => at' a && c a b
def foldR (cs : List (Nat → Nat → Bool)) (at' : Nat → Bool) : Nat → Bool := cs.foldl stepR at'
theorem foldR_iff {L : Nat} : ∀ (cs : List (Nat → Nat → Bool)) (at' : Nat → Bool) (b : Nat), b ≤ L → (foldR cs at' b = true ↔ ∃ a, a ≤ L ∧ at' a = true ∧ RowR L cs a b)
  | [], at', b, hb => by
    simp only [foldR, List.foldl_nil, RowR]
    exact ⟨fun h => ⟨b, hb, h, rfl⟩, fun ⟨a, _, h, e⟩ => e ▸ h⟩
  | c :: cs, at', b, hb => by
    have ih := foldR_iff (L := L) cs (stepR at' c) b hb
    unfold foldR at ih ⊢
    rw [List.foldl_cons, ih]
    simp only [stepR, List.any_eq_true, Bool.and_eq_true, List.mem_range]
    constructor
    · rintro ⟨m, hm, ⟨a, ha, h1, h2⟩, h3⟩
      exact ⟨a, by omega, h1, m, by omega, hm, h2, h3⟩
    · rintro ⟨a, ha, h1, m, h2, h3, h4, h5⟩
      exact ⟨m, h3, ⟨a, by omega, h1, h4⟩, h5⟩
/-- A token's part. -/
def tokM (w : List Int) (t : Int) (a b : Nat) : Bool := decide (b = a + 1) && decide (w[a]? = some t)
/-- What a symbol means by a table. -/
def symC2 (w : List Int) (M : Nat → Nat → Nat → Bool) (s : Sy) : Nat → Nat → Bool := if s.non then M s.n.toNat else tokM w s.n
theorem row_sound {g : Gm} {w : List Int} {M : Nat → Nat → Nat → Bool} (hM : ∀ n a b, M n a b = true → DvN g w n a b) : ∀ (ss : List Sy) (a b : Nat), (∀ s ∈ ss, 0 ≤ s.n) → a ≤ w.length → RowR w.length (ss.map (symC2 w M)) a b → Dv g w ss a b
  | [], a, b, _, ha, h => by cases h; exact .nil _ ha
  | s :: ss, a, b, h0, ha, ⟨m, h1, h2, h3, h4⟩ => by
    have ih := row_sound hM ss m b (fun s hs => h0 s (by simp [hs])) h2 h4
    have hs0 := h0 s (by simp)
    unfold symC2 at h3
    by_cases hn : s.non = true
    · rw [if_pos hn] at h3
      have := hM _ _ _ h3
      rw [show ((s.n.toNat : Nat) : Int) = s.n by omega] at this
      exact (Dv.cons_non hn).2 ⟨m, this, ih⟩
    · rw [if_neg hn] at h3
      unfold tokM at h3
      simp only [Bool.and_eq_true, decide_eq_true_eq] at h3
      obtain ⟨rfl, e⟩ := h3
      obtain ⟨hlt, e⟩ := List.getElem?_eq_some_iff.1 e
      exact (Dv.cons_tok (by simpa using hn)).2 ⟨hlt, e, ih⟩
/-- A table that holds has all. -/
theorem row_complete {g : Gm} {w : List Int} {N : Nat} {M : Nat → Nat → Nat → Bool} (hp : ∀ p ∈ g.prods, 0 ≤ p.left ∧ p.left < N) (hc : ∀ p ∈ g.prods, ∀ a b, a ≤ w.length → RowR w.length (p.right.map (symC2 w M)) a b → M p.left.toNat a b = true) {ss : List Sy} {a b : Nat} (d : Dv g w ss a b) :
    RowR w.length (ss.map (symC2 w M)) a b := by
  induction d with
  | nil a h => rfl
  | tok s r a b hn ha he h ih =>
    refine ⟨a + 1, by omega, by omega, ?_, ih⟩
    unfold symC2 tokM
    rw [hn]
    simp [ha, he]
  | non s r p a m b hn hpm hl h1 h2 ih1 ih2 =>
    have l1 := h1.le
    have l2 := h2.le
    refine ⟨m, l1.1, l1.2, ?_, ih2⟩
    unfold symC2
    rw [if_pos hn, ← hl]
    exact hc p hpm a m (by omega) ih1
/-! ### How many are not there -/
def trips (N L : Nat) : List (Nat × Nat × Nat) := (List.range N).flatMap fun n => (List.range (L + 1)).flatMap fun a => (List.range (L + 1)).map fun b => (n, a, b)
theorem mem_trips {N L n a b : Nat} : (n, a, b) ∈ trips N L ↔ n < N ∧ a ≤ L ∧ b ≤ L := by
  simp only [trips, List.mem_flatMap, List.mem_range, List.mem_map, Prod.mk.injEq]
  constructor
  · rintro ⟨n', h1, a', h2, b', h3, rfl, rfl, rfl⟩; omega
  · rintro ⟨h1, h2, h3⟩; exact ⟨n, h1, a, by omega, b, by omega, rfl, rfl, rfl⟩
def falses (N L : Nat) (M : Nat → Nat → Nat → Bool) : Nat := (trips N L).countP fun t => !M t.1 t.2.1 t.2.2
def setM (M : Nat → Nat → Nat → Bool) (n a b : Nat) : Nat → Nat → Nat → Bool := fun n' a' b' => if n' = n ∧ a' = a ∧ b' = b then true else M n' a' b'
theorem countP_lt {α : Type} {p q : α → Bool} {x : α} : ∀ {l : List α}, (∀ y, q y = true → p y = true) → x ∈ l → p x = true → q x = false → l.countP q < l.countP p
  | [], _, hx, _, _ => by simp at hx
  | y :: l, h, hx, h1, h2 => by
    have hle : ∀ l : List α, l.countP q ≤ l.countP p := fun l => List.countP_mono_left (fun y _ => h y)
    rcases List.mem_cons.1 hx with rfl | hx
    · have := hle l
      simp [List.countP_cons, h1, h2]; omega
    · have ih := countP_lt h hx h1 h2
      simp only [List.countP_cons]
      have := h y
      cases hq : q y <;> cases hp : p y <;> simp_all
      omega
theorem falses_set {N L : Nat} {M : Nat → Nat → Nat → Bool} {n a b : Nat} (hn : n < N) (ha : a ≤ L) (hb : b ≤ L) (h : M n a b = false) : falses N L (setM M n a b) < falses N L M := by
  unfold falses
  refine countP_lt (x := (n, a, b)) (fun y hy => ?_) (mem_trips.2 ⟨hn, ha, hb⟩) (by simp [h]) (by simp [setM])
  simp only [setM] at hy
  split at hy
  · simp at hy
  · exact hy
end Go.Proofs.Ytmobijebjkjnoaa.Al
namespace Go.Proofs.Ytmobijebjkjnoaa.Al
def A.probateref08_none_o.L1 : AC := .post (.seq (.seq (.reg [⟨(some 16), none, .mv (.t 8)⟩, ⟨(some 17), none, .mv (.t 1)⟩, ⟨(some 18), none, .bin .leq (.t 16) (.t 17)⟩])
  (.keep [0, 1, 5, 6, 7, 8, 18] (.cond (.t 18) .skip (.exit 2))))
  (.keep [0, 1, 5, 6, 7, 8] (.seq (.block 3 (.reg [⟨(some 21), none, .mv (.t 7)⟩, ⟨(some 22), none, .mv (.t 1)⟩, ⟨(some 23), none, .bin .add (.t 22) (.c (.int .i64 (1)))⟩, ⟨(some 24), none, .mkso 1 1 [(.bool false)] (.t 23) (.t 23)⟩, ⟨(some 25), none, .bsl 1 false [(.sl 0 1 [])] 1 [(0, (.t 24))]⟩, ⟨(some 26), none, .app 1 24 (.t 21) (.t 25)⟩, ⟨(some 7), none, .mv (.t 26)⟩]))
  (.keep [0, 1, 5, 6, 7, 8] (.reg [⟨(some 19), none, .mv (.t 8)⟩, ⟨(some 20), none, .bin .add (.t 19) (.c (.int .i64 (1)))⟩, ⟨(some 8), none, .mv (.t 20)⟩]))))) [0, 1, 5, 6, 7, 8]
def A.probateref08_none_o.L0 : AC := .post (.seq (.seq (.reg [⟨(some 10), none, .mv (.t 6)⟩, ⟨(some 11), none, .mv (.t 0)⟩, ⟨(some 12), none, .bin .lss (.t 10) (.t 11)⟩])
  (.keep [0, 1, 5, 6, 12] (.cond (.t 12) .skip (.exit 0))))
  (.keep [0, 1, 5, 6] (.seq (.block 1 (.seq (.reg [⟨(some 15), none, .bsl 1 false [(.sl 0 1 [])] 0 []⟩, ⟨(some 7), none, .mv (.t 15)⟩])
  (.keep [0, 1, 5, 6, 7] (.seq (.seq (.reg [⟨(some 8), none, .mv (.c (.int .i64 (0)))⟩])
  (.keep [0, 1, 5, 6, 7, 8] (.block 2 (.loop A.probateref08_none_o.L1))))
  (.keep [0, 1, 5, 6, 7] (.reg [⟨(some 27), none, .mv (.t 5)⟩, ⟨(some 28), none, .mv (.t 7)⟩, ⟨(some 29), none, .bsl 1 false [(.sl 0 1 [])] 1 [(0, (.t 28))]⟩, ⟨(some 30), none, .app 1 24 (.t 27) (.t 29)⟩, ⟨(some 5), none, .mv (.t 30)⟩]))))))
  (.keep [0, 1, 5, 6] (.reg [⟨(some 13), none, .mv (.t 6)⟩, ⟨(some 14), none, .bin .add (.t 13) (.c (.int .i64 (1)))⟩, ⟨(some 6), none, .mv (.t 14)⟩]))))) [0, 1, 5, 6]
def A.probateref08_none_o : AFn := ⟨32, [(4, none)], (.seq (.reg [⟨(some 4), none, .mv (.c (.sl 0 1 []))⟩])
  (.keep [0, 1] (.seq (.reg [⟨(some 9), none, .bsl 1 false [(.sl 0 1 [])] 0 []⟩, ⟨(some 5), none, .mv (.t 9)⟩])
  (.keep [0, 1, 5] (.seq (.seq (.reg [⟨(some 6), none, .mv (.c (.int .i64 (0)))⟩])
  (.keep [0, 1, 5, 6] (.block 0 (.loop A.probateref08_none_o.L0))))
  (.keep [5] (.seq (.reg [⟨(some 31), none, .mv (.t 5)⟩, ⟨(some 4), none, .mv (.t 31)⟩]) .ret)))))))⟩
def A.probateref08_means_o.L0 : AC := .post (.seq (.seq (.reg [⟨(some 26), none, .mv (.t 15)⟩, ⟨(some 27), none, .fa 2 (.t 13)⟩, ⟨(some 28), none, .load false 1 (.t 27)⟩, ⟨(some 29), none, .len false (.t 28)⟩, ⟨(some 30), none, .bin .lss (.t 26) (.t 29)⟩])
  (.keep [2, 3, 4, 5, 6, 13, 14, 15, 30] (.cond (.t 30) .skip (.exit 0))))
  (.keep [2, 3, 4, 5, 6, 13, 14, 15] (.seq (.block 1 (.reg [⟨(some 33), none, .mv (.t 14)⟩, ⟨(some 34), none, .mv (.t 4)⟩, ⟨(some 35), none, .fa 2 (.t 13)⟩, ⟨(some 36), none, .load false 1 (.t 35)⟩, ⟨(some 37), none, .mv (.t 15)⟩, ⟨(some 38), none, .ia 1 (.t 36) (.t 37)⟩, ⟨(some 39), none, .load false 1 (.t 38)⟩, ⟨(some 40), none, .ia 1 (.t 34) (.t 39)⟩, ⟨(some 41), none, .load false 1 (.t 40)⟩, ⟨(some 42), none, .bsl 1 false [(.sl 0 1 [])] 1 [(0, (.t 41))]⟩, ⟨(some 43), none, .app 1 24 (.t 33) (.t 42)⟩, ⟨(some 14), none, .mv (.t 43)⟩]))
  (.keep [2, 3, 4, 5, 6, 13, 14, 15] (.reg [⟨(some 31), none, .mv (.t 15)⟩, ⟨(some 32), none, .bin .add (.t 31) (.c (.int .i64 (1)))⟩, ⟨(some 15), none, .mv (.t 32)⟩]))))) [2, 3, 4, 5, 6, 13, 14, 15]
def A.probateref08_means_o.L2 : AC := .post (.seq (.seq (.reg [⟨(some 105), none, .mv (.t 19)⟩, ⟨(some 106), none, .mv (.t 16)⟩, ⟨(some 107), none, .bin .leq (.t 105) (.t 106)⟩])
  (.keep [5, 13, 14, 16, 17, 18, 19, 107] (.cond (.t 107) .skip (.exit 5))))
  (.keep [5, 13, 14, 16, 17, 18, 19] (.seq (.block 6 (.reg [⟨(some 110), none, .mv (.t 17)⟩, ⟨(some 111), none, .mv (.t 19)⟩, ⟨(some 112), none, .mv (.t 17)⟩, ⟨(some 113), none, .mv (.t 19)⟩, ⟨(some 114), none, .ia 1 (.t 112) (.t 113)⟩, ⟨(some 115), none, .load false 1 (.t 114)⟩, ⟨(some 116), none, .mv (.t 115)⟩, ⟨(some 117), (some (116, false)), .mv (.t 14)⟩, ⟨(some 118), (some (116, false)), .mv (.t 18)⟩, ⟨(some 119), (some (116, false)), .ia 1 (.t 117) (.t 118)⟩, ⟨(some 120), (some (116, false)), .load false 1 (.t 119)⟩, ⟨(some 121), (some (116, false)), .mv (.t 5)⟩, ⟨(some 122), (some (116, false)), .ia 1 (.t 120) (.t 121)⟩, ⟨(some 123), (some (116, false)), .load false 1 (.t 122)⟩, ⟨(some 124), (some (116, false)), .mv (.t 19)⟩, ⟨(some 125), (some (116, false)), .ia 1 (.t 123) (.t 124)⟩, ⟨(some 126), (some (116, false)), .load false 1 (.t 125)⟩, ⟨(some 127), none, .pick (.t 116) (.c (.bool true)) (.t 126)⟩, ⟨(some 128), none, .ia 1 (.t 110) (.t 111)⟩, ⟨none, none, .store 1 (.t 128) (.t 127)⟩]))
  (.keep [5, 13, 14, 16, 17, 18, 19] (.reg [⟨(some 108), none, .mv (.t 19)⟩, ⟨(some 109), none, .bin .add (.t 108) (.c (.int .i64 (1)))⟩, ⟨(some 19), none, .mv (.t 109)⟩]))))) [5, 13, 14, 16, 17, 18, 19]
def A.probateref08_means_o.L1 : AC := .post (.seq (.seq (.reg [⟨(some 99), none, .mv (.t 18)⟩, ⟨(some 100), none, .mv (.t 14)⟩, ⟨(some 101), none, .len false (.t 100)⟩, ⟨(some 102), none, .bin .lss (.t 99) (.t 101)⟩])
  (.keep [5, 13, 14, 16, 17, 18, 102] (.cond (.t 102) .skip (.exit 3))))
  (.keep [5, 13, 14, 16, 17, 18] (.seq (.block 4 (.seq (.reg [⟨(some 19), none, .mv (.c (.int .i64 (0)))⟩])
  (.keep [5, 13, 14, 16, 17, 18, 19] (.block 5 (.loop A.probateref08_means_o.L2)))))
  (.keep [5, 13, 14, 16, 17, 18] (.reg [⟨(some 103), none, .mv (.t 18)⟩, ⟨(some 104), none, .bin .add (.t 103) (.c (.int .i64 (1)))⟩, ⟨(some 18), none, .mv (.t 104)⟩]))))) [5, 13, 14, 16, 17, 18]
def A.probateref08_means_o : AFn := ⟨145, [(12, none)], (.seq (.reg [⟨(some 6), none, .box (.t 0)⟩, ⟨(some 12), none, .mv (.c (.sl 0 1 []))⟩])
  (.keep [1, 2, 3, 4, 5, 6] (.seq (.reg [⟨(some 20), none, .fa 1 (.t 6)⟩, ⟨(some 21), none, .load false 1 (.t 20)⟩, ⟨(some 22), none, .mv (.t 1)⟩, ⟨(some 23), none, .ia 3 (.t 21) (.t 22)⟩, ⟨(some 24), none, .load true 3 (.t 23)⟩, ⟨(some 13), none, .alloc [(.int .i64 (0)), (.str []), (.sl 0 1 [])]⟩, ⟨none, none, .store 3 (.t 13) (.t 24)⟩])
  (.keep [2, 3, 4, 5, 6, 13] (.seq (.reg [⟨(some 25), none, .bsl 1 false [(.sl 0 1 [])] 0 []⟩, ⟨(some 14), none, .mv (.t 25)⟩])
  (.keep [2, 3, 4, 5, 6, 13, 14] (.seq (.seq (.reg [⟨(some 15), none, .mv (.c (.int .i64 (0)))⟩])
  (.keep [2, 3, 4, 5, 6, 13, 14, 15] (.block 0 (.loop A.probateref08_means_o.L0))))
  (.keep [2, 3, 4, 5, 6, 13, 14] (.seq (.reg [⟨(some 44), none, .mv (.t 2)⟩, ⟨(some 45), none, .len false (.t 44)⟩, ⟨(some 16), none, .mv (.t 45)⟩])
  (.keep [2, 3, 4, 5, 6, 13, 14, 16] (.seq (.seq (.reg [⟨(some 46), none, .fa 0 (.t 13)⟩, ⟨(some 47), none, .load false 1 (.t 46)⟩])
  (.keep [2, 3, 4, 5, 6, 13, 14, 16, 47] (.block 2 (.seq (.reg [⟨(some 49), none, .bin .eql (.t 47) (.c (.int .i64 (7)))⟩, ⟨(some 48), none, .mv (.t 49)⟩])
  (.keep [2, 3, 4, 5, 6, 13, 14, 16, 47, 48] (.cond (.t 48) (.seq (.reg [⟨(some 50), none, .mv (.t 2)⟩, ⟨(some 51), none, .mv (.t 3)⟩, ⟨(some 52), none, .fa 1 (.t 13)⟩, ⟨(some 53), none, .load false 1 (.t 52)⟩, ⟨(some 54), none, .call (.c (.fn K.probateref08_place [] [])) [(.t 51), (.t 53)]⟩, ⟨(some 55), none, .call (.c (.fn K.probateref08_token [] [])) [(.t 50), (.t 54)]⟩, ⟨(some 56), none, .mv (.t 5)⟩, ⟨(some 57), none, .ia 1 (.t 55) (.t 56)⟩, ⟨(some 58), none, .load false 1 (.t 57)⟩, ⟨(some 12), none, .mv (.t 58)⟩]) .ret) (.seq (.reg [⟨(some 60), none, .bin .eql (.t 47) (.c (.int .i64 (6)))⟩, ⟨(some 59), none, .mv (.t 60)⟩])
  (.keep [4, 5, 6, 13, 14, 16, 47, 59] (.cond (.t 59) (.seq (.draw [(.pl, ⟨(some 61), none, .mv (.t 4)⟩), (.pl, ⟨(some 62), none, .fa 0 (.t 6)⟩), (.pl, ⟨(some 63), none, .load false 1 (.t 62)⟩), (.pl, ⟨(some 64), none, .load true 2 (.t 6)⟩), (.pl, ⟨(some 65), none, .fa 1 (.t 13)⟩), (.pl, ⟨(some 66), none, .load false 1 (.t 65)⟩), (.pl, ⟨(some 67), none, .call (.c (.fn K.probateref08_rule [] [])) [(.t 64), (.t 66)]⟩), (.pl, ⟨(some 68), none, .ia 2 (.t 63) (.t 67)⟩), (.pl, ⟨(some 69), none, .fa 1 (.t 68)⟩), (.pl, ⟨(some 70), none, .load false 1 (.t 69)⟩), (.pl, ⟨(some 71), none, .ia 1 (.t 61) (.t 70)⟩), (.pl, ⟨(some 72), none, .load false 1 (.t 71)⟩), (.pl, ⟨(some 73), none, .mv (.t 5)⟩), (.pl, ⟨(some 74), none, .ia 1 (.t 72) (.t 73)⟩), (.pl, ⟨(some 75), none, .load false 1 (.t 74)⟩), (.pl, ⟨(some 12), none, .mv (.t 75)⟩)]) .ret) (.seq (.reg [⟨(some 77), none, .bin .eql (.t 47) (.c (.int .i64 (1)))⟩, ⟨(some 76), none, .mv (.t 77)⟩])
  (.keep [5, 13, 14, 16, 47, 76] (.cond (.t 76) (.seq (.reg [⟨(some 78), none, .mv (.t 14)⟩, ⟨(some 79), none, .mv (.t 5)⟩, ⟨(some 80), none, .mv (.t 16)⟩, ⟨(some 81), none, .call (.c (.fn K.probateref08_row [] [])) [(.t 78), (.t 79), (.t 80)]⟩, ⟨(some 12), none, .mv (.t 81)⟩]) .ret) (.seq (.reg [⟨(some 83), none, .bin .eql (.t 47) (.c (.int .i64 (3)))⟩, ⟨(some 82), none, .mv (.t 83)⟩])
  (.keep [5, 13, 14, 16, 82] (.cond (.t 82) (.seq (.reg [⟨(some 84), none, .mv (.t 14)⟩, ⟨(some 85), none, .ia 1 (.t 84) (.c (.int .i64 (0)))⟩, ⟨(some 86), none, .load false 1 (.t 85)⟩, ⟨(some 87), none, .mv (.t 5)⟩, ⟨(some 88), none, .mv (.t 16)⟩, ⟨(some 89), none, .call (.c (.fn K.probateref08_star [] [])) [(.t 86), (.t 87), (.t 88)]⟩, ⟨(some 12), none, .mv (.t 89)⟩]) .ret) .skip)))))))))))))))
  (.keep [5, 13, 14, 16] (.seq (.reg [⟨(some 90), none, .mv (.t 16)⟩, ⟨(some 91), none, .bin .add (.t 90) (.c (.int .i64 (1)))⟩, ⟨(some 92), none, .mkso 1 1 [(.bool false)] (.t 91) (.t 91)⟩, ⟨(some 17), none, .mv (.t 92)⟩])
  (.keep [5, 13, 14, 16, 17] (.seq (.reg [⟨(some 93), none, .mv (.t 17)⟩, ⟨(some 94), none, .mv (.t 5)⟩, ⟨(some 95), none, .fa 0 (.t 13)⟩, ⟨(some 96), none, .load false 1 (.t 95)⟩, ⟨(some 97), none, .bin .eql (.t 96) (.c (.int .i64 (5)))⟩, ⟨(some 98), none, .ia 1 (.t 93) (.t 94)⟩, ⟨none, none, .store 1 (.t 98) (.t 97)⟩])
  (.keep [5, 13, 14, 16, 17] (.seq (.seq (.reg [⟨(some 18), none, .mv (.c (.int .i64 (0)))⟩])
  (.keep [5, 13, 14, 16, 17, 18] (.block 3 (.loop A.probateref08_means_o.L1))))
  (.keep [5, 13, 14, 16, 17] (.seq (.seq (.reg [⟨(some 129), none, .fa 0 (.t 13)⟩, ⟨(some 130), none, .load false 1 (.t 129)⟩, ⟨(some 131), none, .bin .eql (.t 130) (.c (.int .i64 (4)))⟩])
  (.keep [5, 14, 16, 17, 131] (.cond (.t 131) (.seq (.draw [(.pl, ⟨(some 132), none, .mv (.t 14)⟩), (.pl, ⟨(some 133), none, .ia 1 (.t 132) (.c (.int .i64 (0)))⟩), (.fl, ⟨(some 134), none, .load false 1 (.t 133)⟩), (.pl, ⟨(some 135), none, .mv (.t 14)⟩), (.pl, ⟨(some 136), none, .ia 1 (.t 135) (.c (.int .i64 (0)))⟩), (.pl, ⟨(some 137), none, .load false 1 (.t 136)⟩), (.pl, ⟨(some 138), none, .mv (.t 16)⟩), (.eff, ⟨(some 139), none, .call (.c (.fn K.probateref08_stars [] [])) [(.t 137), (.t 138)]⟩), (.pl, ⟨(some 140), none, .bsl 1 false [(.sl 0 1 [])] 2 [(0, (.t 134)), (1, (.t 139))]⟩), (.pl, ⟨(some 141), none, .mv (.t 5)⟩), (.pl, ⟨(some 142), none, .mv (.t 16)⟩), (.eff, ⟨(some 143), none, .call (.c (.fn K.probateref08_row [] [])) [(.t 140), (.t 141), (.t 142)]⟩), (.pl, ⟨(some 12), none, .mv (.t 143)⟩)]) .ret) .skip)))
  (.keep [17] (.seq (.reg [⟨(some 144), none, .mv (.t 17)⟩, ⟨(some 12), none, .mv (.t 144)⟩]) .ret)))))))))))))))))))))⟩
def A.probateref08_row_o.L2 : AC := .post (.seq (.seq (.reg [⟨(some 33), none, .mv (.t 11)⟩, ⟨(some 34), none, .mv (.t 2)⟩, ⟨(some 35), none, .bin .leq (.t 33) (.t 34)⟩, ⟨(some 36), none, .mv (.t 35)⟩, ⟨(some 37), (some (36, true)), .mv (.t 7)⟩, ⟨(some 38), (some (36, true)), .mv (.t 10)⟩, ⟨(some 39), (some (36, true)), .ia 1 (.t 37) (.t 38)⟩, ⟨(some 40), (some (36, true)), .load false 1 (.t 39)⟩, ⟨(some 41), none, .pick (.t 36) (.t 40) (.c (.bool false))⟩])
  (.keep [0, 2, 7, 8, 9, 10, 11, 41] (.cond (.t 41) .skip (.exit 4))))
  (.keep [0, 2, 7, 8, 9, 10, 11] (.seq (.block 5 (.seq (.reg [⟨(some 44), none, .mv (.t 0)⟩, ⟨(some 45), none, .mv (.t 8)⟩, ⟨(some 46), none, .ia 1 (.t 44) (.t 45)⟩, ⟨(some 47), none, .load false 1 (.t 46)⟩, ⟨(some 48), none, .mv (.t 10)⟩, ⟨(some 49), none, .ia 1 (.t 47) (.t 48)⟩, ⟨(some 50), none, .load false 1 (.t 49)⟩, ⟨(some 51), none, .mv (.t 11)⟩, ⟨(some 52), none, .ia 1 (.t 50) (.t 51)⟩, ⟨(some 53), none, .load false 1 (.t 52)⟩])
  (.keep [0, 2, 7, 8, 9, 10, 11, 53] (.cond (.t 53) (.reg [⟨(some 54), none, .mv (.t 9)⟩, ⟨(some 55), none, .mv (.t 11)⟩, ⟨(some 56), none, .ia 1 (.t 54) (.t 55)⟩, ⟨none, none, .store 1 (.t 56) (.c (.bool true))⟩]) .skip))))
  (.keep [0, 2, 7, 8, 9, 10, 11] (.reg [⟨(some 42), none, .mv (.t 11)⟩, ⟨(some 43), none, .bin .add (.t 42) (.c (.int .i64 (1)))⟩, ⟨(some 11), none, .mv (.t 43)⟩]))))) [0, 2, 7, 8, 9, 10, 11]
def A.probateref08_row_o.L1 : AC := .post (.seq (.seq (.reg [⟨(some 27), none, .mv (.t 10)⟩, ⟨(some 28), none, .mv (.t 2)⟩, ⟨(some 29), none, .bin .leq (.t 27) (.t 28)⟩])
  (.keep [0, 2, 7, 8, 9, 10, 29] (.cond (.t 29) .skip (.exit 2))))
  (.keep [0, 2, 7, 8, 9, 10] (.seq (.block 3 (.seq (.reg [⟨(some 32), none, .mv (.t 10)⟩, ⟨(some 11), none, .mv (.t 32)⟩])
  (.keep [0, 2, 7, 8, 9, 10, 11] (.block 4 (.loop A.probateref08_row_o.L2)))))
  (.keep [0, 2, 7, 8, 9, 10] (.reg [⟨(some 30), none, .mv (.t 10)⟩, ⟨(some 31), none, .bin .add (.t 30) (.c (.int .i64 (1)))⟩, ⟨(some 10), none, .mv (.t 31)⟩]))))) [0, 2, 7, 8, 9, 10]
def A.probateref08_row_o.L0 : AC := .post (.seq (.seq (.reg [⟨(some 18), none, .mv (.t 8)⟩, ⟨(some 19), none, .mv (.t 0)⟩, ⟨(some 20), none, .len false (.t 19)⟩, ⟨(some 21), none, .bin .lss (.t 18) (.t 20)⟩])
  (.keep [0, 2, 7, 8, 21] (.cond (.t 21) .skip (.exit 0))))
  (.keep [0, 2, 7, 8] (.seq (.block 1 (.seq (.reg [⟨(some 24), none, .mv (.t 2)⟩, ⟨(some 25), none, .bin .add (.t 24) (.c (.int .i64 (1)))⟩, ⟨(some 26), none, .mkso 1 1 [(.bool false)] (.t 25) (.t 25)⟩, ⟨(some 9), none, .mv (.t 26)⟩])
  (.keep [0, 2, 7, 8, 9] (.seq (.seq (.reg [⟨(some 10), none, .mv (.c (.int .i64 (0)))⟩])
  (.keep [0, 2, 7, 8, 9, 10] (.block 2 (.loop A.probateref08_row_o.L1))))
  (.keep [0, 2, 8, 9] (.reg [⟨(some 57), none, .mv (.t 9)⟩, ⟨(some 7), none, .mv (.t 57)⟩]))))))
  (.keep [0, 2, 7, 8] (.reg [⟨(some 22), none, .mv (.t 8)⟩, ⟨(some 23), none, .bin .add (.t 22) (.c (.int .i64 (1)))⟩, ⟨(some 8), none, .mv (.t 23)⟩]))))) [0, 2, 7, 8]
def A.probateref08_row_o : AFn := ⟨59, [(6, none)], (.seq (.reg [⟨(some 6), none, .mv (.c (.sl 0 1 []))⟩])
  (.keep [0, 1, 2] (.seq (.reg [⟨(some 12), none, .mv (.t 2)⟩, ⟨(some 13), none, .bin .add (.t 12) (.c (.int .i64 (1)))⟩, ⟨(some 14), none, .mkso 1 1 [(.bool false)] (.t 13) (.t 13)⟩, ⟨(some 7), none, .mv (.t 14)⟩])
  (.keep [0, 1, 2, 7] (.seq (.reg [⟨(some 15), none, .mv (.t 7)⟩, ⟨(some 16), none, .mv (.t 1)⟩, ⟨(some 17), none, .ia 1 (.t 15) (.t 16)⟩, ⟨none, none, .store 1 (.t 17) (.c (.bool true))⟩])
  (.keep [0, 2, 7] (.seq (.seq (.reg [⟨(some 8), none, .mv (.c (.int .i64 (0)))⟩])
  (.keep [0, 2, 7, 8] (.block 0 (.loop A.probateref08_row_o.L0))))
  (.keep [7] (.seq (.reg [⟨(some 58), none, .mv (.t 7)⟩, ⟨(some 6), none, .mv (.t 58)⟩]) .ret)))))))))⟩
def A.probateref08_star_o.L2 : AC := .post (.seq (.seq (.reg [⟨(some 24), none, .mv (.t 10)⟩, ⟨(some 25), none, .mv (.t 2)⟩, ⟨(some 26), none, .bin .leq (.t 24) (.t 25)⟩])
  (.keep [0, 2, 7, 8, 9, 10, 26] (.cond (.t 26) .skip (.exit 4))))
  (.keep [0, 2, 7, 8, 9, 10] (.seq (.block 5 (.seq (.reg [⟨(some 29), none, .mv (.t 7)⟩, ⟨(some 30), none, .mv (.t 9)⟩, ⟨(some 31), none, .ia 1 (.t 29) (.t 30)⟩, ⟨(some 32), none, .load false 1 (.t 31)⟩, ⟨(some 33), none, .mv (.t 32)⟩, ⟨(some 34), (some (33, true)), .mv (.t 0)⟩, ⟨(some 35), (some (33, true)), .mv (.t 9)⟩, ⟨(some 36), (some (33, true)), .ia 1 (.t 34) (.t 35)⟩, ⟨(some 37), (some (33, true)), .load false 1 (.t 36)⟩, ⟨(some 38), (some (33, true)), .mv (.t 10)⟩, ⟨(some 39), (some (33, true)), .ia 1 (.t 37) (.t 38)⟩, ⟨(some 40), (some (33, true)), .load false 1 (.t 39)⟩, ⟨(some 41), none, .pick (.t 33) (.t 40) (.c (.bool false))⟩, ⟨(some 42), none, .mv (.t 41)⟩, ⟨(some 43), (some (42, true)), .mv (.t 7)⟩, ⟨(some 44), (some (42, true)), .mv (.t 10)⟩, ⟨(some 45), (some (42, true)), .ia 1 (.t 43) (.t 44)⟩, ⟨(some 46), (some (42, true)), .load false 1 (.t 45)⟩, ⟨(some 47), (some (42, true)), .un .not (.t 46)⟩, ⟨(some 48), none, .pick (.t 42) (.t 47) (.c (.bool false))⟩])
  (.keep [0, 2, 7, 8, 9, 10, 48] (.cond (.t 48) (.seq (.reg [⟨(some 49), none, .mv (.t 7)⟩, ⟨(some 50), none, .mv (.t 10)⟩, ⟨(some 51), none, .ia 1 (.t 49) (.t 50)⟩, ⟨none, none, .store 1 (.t 51) (.c (.bool true))⟩])
  (.keep [0, 2, 7, 9, 10] (.reg [⟨(some 8), none, .mv (.c (.bool true))⟩]))) .skip))))
  (.keep [0, 2, 7, 8, 9, 10] (.reg [⟨(some 27), none, .mv (.t 10)⟩, ⟨(some 28), none, .bin .add (.t 27) (.c (.int .i64 (1)))⟩, ⟨(some 10), none, .mv (.t 28)⟩]))))) [0, 2, 7, 8, 9, 10]
def A.probateref08_star_o.L1 : AC := .post (.seq (.seq (.reg [⟨(some 18), none, .mv (.t 9)⟩, ⟨(some 19), none, .mv (.t 2)⟩, ⟨(some 20), none, .bin .leq (.t 18) (.t 19)⟩])
  (.keep [0, 2, 7, 8, 9, 20] (.cond (.t 20) .skip (.exit 2))))
  (.keep [0, 2, 7, 8, 9] (.seq (.block 3 (.seq (.reg [⟨(some 23), none, .mv (.t 9)⟩, ⟨(some 10), none, .mv (.t 23)⟩])
  (.keep [0, 2, 7, 8, 9, 10] (.block 4 (.loop A.probateref08_star_o.L2)))))
  (.keep [0, 2, 7, 8, 9] (.reg [⟨(some 21), none, .mv (.t 9)⟩, ⟨(some 22), none, .bin .add (.t 21) (.c (.int .i64 (1)))⟩, ⟨(some 9), none, .mv (.t 22)⟩]))))) [0, 2, 7, 8, 9]
def A.probateref08_star_o.L0 : AC := .post (.seq (.seq (.reg [⟨(some 17), none, .mv (.t 8)⟩])
  (.keep [0, 2, 7, 17] (.cond (.t 17) .skip (.exit 0))))
  (.keep [0, 2, 7] (.block 1 (.seq (.reg [⟨(some 8), none, .mv (.c (.bool false))⟩])
  (.keep [0, 2, 7, 8] (.seq (.reg [⟨(some 9), none, .mv (.c (.int .i64 (0)))⟩])
  (.keep [0, 2, 7, 8, 9] (.block 2 (.loop A.probateref08_star_o.L1))))))))) [0, 2, 7, 8]
def A.probateref08_star_o : AFn := ⟨53, [(6, none)], (.seq (.reg [⟨(some 6), none, .mv (.c (.sl 0 1 []))⟩])
  (.keep [0, 1, 2] (.seq (.reg [⟨(some 11), none, .mv (.t 2)⟩, ⟨(some 12), none, .bin .add (.t 11) (.c (.int .i64 (1)))⟩, ⟨(some 13), none, .mkso 1 1 [(.bool false)] (.t 12) (.t 12)⟩, ⟨(some 7), none, .mv (.t 13)⟩])
  (.keep [0, 1, 2, 7] (.seq (.reg [⟨(some 14), none, .mv (.t 7)⟩, ⟨(some 15), none, .mv (.t 1)⟩, ⟨(some 16), none, .ia 1 (.t 14) (.t 15)⟩, ⟨none, none, .store 1 (.t 16) (.c (.bool true))⟩])
  (.keep [0, 2, 7] (.seq (.seq (.reg [⟨(some 8), none, .mv (.c (.bool true))⟩])
  (.keep [0, 2, 7, 8] (.block 0 (.loop A.probateref08_star_o.L0))))
  (.keep [7] (.seq (.reg [⟨(some 52), none, .mv (.t 7)⟩, ⟨(some 6), none, .mv (.t 52)⟩]) .ret)))))))))⟩
end Go.Proofs.Ytmobijebjkjnoaa.Al
namespace Go.Proofs.Ytmobijebjkjnoaa.Al
open Go Go.RowKit
set_option linter.unusedSimpArgs false
set_option linter.unusedVariables false
attribute [-simp] List.getD_eq_getElem?_getD Int.not_lt Int.not_le List.map_take List.map_map
/-- Bools, as they lie. -/
def boolsV (f : Nat → Bool) (n : Nat) : List V := (List.range n).map fun b => .bool (f b)
@[simp] theorem boolsV_len (f : Nat → Bool) (n : Nat) : (boolsV f n).length = n := by simp [boolsV]
theorem boolsV_get {f : Nat → Bool} {n b : Nat} (h : b < n) : (boolsV f n).getD b .undef = .bool (f b) := by simp [boolsV, List.getD_eq_getElem?_getD, h]
theorem boolsV_congr {f g : Nat → Bool} {n : Nat} (h : ∀ b, b < n → f b = g b) : boolsV f n = boolsV g n := by
  unfold boolsV; exact List.map_congr_left fun b hb => by rw [h b (by simpa using hb)]
theorem boolsV_set (f : Nat → Bool) {n b : Nat} (h : b < n) (x : Bool) : (boolsV f n).set b (.bool x) = boolsV (fun b' => if b' = b then x else f b') n := by
  apply List.ext_getElem?
  intro i
  rw [List.getElem?_set]
  unfold boolsV
  by_cases e : b = i
  · subst e; simp [h]
  · rw [if_neg e]
    by_cases hi : i < n
    · simp [hi, show ¬ i = b from fun q => e q.symm]
    · simp [hi]
theorem repl_false (n : Nat) : repl [.bool false] n = boolsV (fun _ => false) n := by
  unfold repl boolsV
  induction n with
  | zero => rfl
  | succ n ih => 
    rw [List.replicate_succ, cellsOf_cons, ih, List.range_succ_eq_map]
    simp only [List.map_cons, List.map_map, V.cells]
    rfl
theorem Bdd_bools (n m : Nat) (f : Nat → Bool) (k : Nat) : ∀ v ∈ boolsV f k, Bdd n m v := by
  intro v hv
  obtain ⟨b, _, rfl⟩ := List.mem_map.1 hv
  simp
/-- Some objects more. -/
def rowsH (h : AH) (z : Nat → List V) : Nat → AH
  | 0 => h
  | k + 1 => (rowsH h z k).new (z k)
section
variable (h : AH) (z : Nat → List V)
@[simp] theorem rowsH_nobj : ∀ k, (rowsH h z k).nobj = h.nobj + k
  | 0 => rfl
  | k + 1 => by simp [rowsH, rowsH_nobj k]; omega
@[simp] theorem rowsH_next : ∀ k, (rowsH h z k).next = h.next
  | 0 => rfl
  | k + 1 => by simp [rowsH, rowsH_next k]
@[simp] theorem rowsH_tips : ∀ k, (rowsH h z k).tips = h.tips
  | 0 => rfl
  | k + 1 => by simp [rowsH, rowsH_tips k]
theorem rowsH_old {o : Nat} (ho : o < h.nobj) : ∀ k, (rowsH h z k).objs o = h.objs o
  | 0 => rfl
  | k + 1 => by rw [rowsH, new_objs_ne _ _ (by simp; omega), rowsH_old ho k]
theorem rowsH_at {i : Nat} : ∀ {k : Nat}, i < k → (rowsH h z k).objs (h.nobj + i) = z i
  | k + 1, hi => by
    by_cases e : i = k
    · subst e; rw [rowsH, new_objs_at _ _ _ (by simp)]
    · rw [rowsH, new_objs_ne _ _ (by simp; omega)]; exact rowsH_at (by omega)
theorem rowsH_gr (k : Nat) : Gr h (rowsH h z k) := ⟨by simp, by simp, fun o ho => rowsH_old h z ho k, fun s _ => by simp⟩
theorem rowsH_ext (hz : ∀ i, ∀ v ∈ z i, Bdd h.next h.nobj v) (k : Nat) : Ext h (rowsH h z k) := by
  refine ⟨by simp, by simp, by simp, fun o ho => ?_⟩
  simp at ho
  by_cases hlt : o < h.nobj
  · exact .inl ⟨hlt, rowsH_old h z hlt k⟩
  · obtain ⟨i, rfl⟩ : ∃ i, o = h.nobj + i := ⟨o - h.nobj, by omega⟩
    rw [rowsH_at h z (by omega)]
    exact .inr fun v hv => (hz i v hv).mono (by simp) (by simp)
theorem rowsH_grW {h1 : AH} {k : Nat} (g : Gr h h1) (hn : h.nobj + k ≤ h1.nobj) (ho : ∀ i, i < k → h1.objs (h.nobj + i) = z i) : GrW (rowsH h z k) h1 := by
  refine ⟨by simp; exact g.next, by simp; exact hn, fun o hl => ?_, fun s hs => by simp at hs ⊢; exact g.tips s hs⟩
  simp at hl
  by_cases hlt : o < h.nobj
  · rw [rowsH_old h z hlt, g.objs o hlt]; exact WkL.refl _
  · obtain ⟨i, rfl⟩ : ∃ i, o = h.nobj + i := ⟨o - h.nobj, by omega⟩
    rw [rowsH_at h z (by omega), ho i (by omega)]; exact WkL.refl _
end
/-- A table from which place to which: its rows lie in objects, one behind the other. -/
def refV (L b : Nat) : V := .sl 1 0 ((List.range (L + 1)).map fun a => .osl 1 (b + a) 0 (L + 1) (L + 1))
def matV (L N b : Nat) : V := .sl 1 0 ((List.range N).map fun n => refV L (b + n * (L + 1)))
/-- It is there. -/
def RefAt (h : AH) (L b : Nat) (c : Nat → Nat → Bool) : Prop := ∀ a, a ≤ L → h.objs (b + a) = boolsV (c a) (L + 1)
theorem refV_get {L b a : Nat} (ha : a ≤ L) : ((List.range (L + 1)).map fun a => V.osl 1 (b + a) 0 (L + 1) (L + 1)).getD a .undef = .osl 1 (b + a) 0 (L + 1) (L + 1) := by simp [List.getD_eq_getElem?_getD, show a < L + 1 by omega]
theorem matV_get {L N b n : Nat} (hn : n < N) : ((List.range N).map fun n => refV L (b + n * (L + 1))).getD n .undef = refV L (b + n * (L + 1)) := by simp [List.getD_eq_getElem?_getD, hn]
theorem cells_refs {α : Type} (l : List α) (f : α → V) (hf : ∀ a, (f a).cells = [f a]) : cellsOf (l.map f) = l.map f := by
  induction l with
  | nil => rfl
  | cons a l ih => simp only [List.map_cons, cellsOf_cons, hf, ih, List.singleton_append]
theorem Bdd_refV {n m L b : Nat} (h : b + (L + 1) ≤ m) : Bdd n m (refV L b) := by
  unfold refV
  rw [Bdd_sl0, cells_refs _ _ (fun _ => rfl)]
  refine ⟨by omega, fun v hv => ?_⟩
  obtain ⟨a, ha, rfl⟩ := List.mem_map.1 hv
  simp at ha
  exact .osl _ _ _ _ _ (by omega)
theorem Bdd_matV {n m L N b : Nat} (h : b + N * (L + 1) ≤ m) : Bdd n m (matV L N b) := by
  unfold matV
  rw [Bdd_sl0, cells_refs _ _ (fun _ => rfl)]
  refine ⟨by omega, fun v hv => ?_⟩
  obtain ⟨k, hk, rfl⟩ := List.mem_map.1 hv
  simp at hk
  have := Nat.mul_le_mul_right (L + 1) (show k + 1 ≤ N by omega)
  rw [Nat.add_mul] at this
  exact Bdd_refV (by omega)
/-- Tables of which less is known. -/
def RefWL (L : Nat) : List Nat → List V → Prop
  | [], [] => True
  | b :: bs, v :: vs => (∃ st, v = .sl 1 st ((List.range (L + 1)).map fun a => .osl 1 (b + a) 0 (L + 1) (L + 1))) ∧ RefWL L bs vs
  | _, _ => False
theorem RefWL.app {L : Nat} : ∀ {bs : List Nat} {vs : List V} {cs : List Nat} {us : List V}, RefWL L bs vs → RefWL L cs us → RefWL L (bs ++ cs) (vs ++ us)
  | [], [], _, _, _, h => h
  | b :: bs, v :: vs, _, _, ⟨a, c⟩, h => ⟨a, RefWL.app c h⟩
theorem RefWL.len {L : Nat} : ∀ {bs : List Nat} {vs : List V}, RefWL L bs vs → vs.length = bs.length
  | [], [], _ => rfl
  | b :: bs, v :: vs, ⟨_, c⟩ => by simp [RefWL.len c]
theorem RefWL.wkl {L : Nat} : ∀ {bs : List Nat} {vs : List V}, RefWL L bs vs → WkL (cellsOf vs) (cellsOf (bs.map (refV L)))
  | [], [], _ => .nil
  | b :: bs, v :: vs, ⟨⟨st, hv⟩, c⟩ => by
    subst hv
    simp only [List.map_cons, cellsOf_cons]
    exact .cons (.sl _ _ _) (RefWL.wkl c)
theorem RefWL.wk {L : Nat} {bs : List Nat} {vs : List V} (h : RefWL L bs vs) {e st : Nat} (he : vs = [] ∨ e = 1) : Wk (.sl e st vs) (.sl 1 0 (bs.map (refV L))) := by
  obtain ⟨a, b⟩ := h.wkl.get
  rcases he with rfl | rfl
  · match bs, h with
    | [], _ => exact .nil _ _ _
  · exact .sld _ _ _ _ (by simp [h.len]) (fun v hv => by
      obtain ⟨p, _, rfl⟩ := List.mem_map.1 hv
      rfl) a b
theorem matV_eq (L N b : Nat) : matV L N b = .sl 1 0 (((List.range N).map fun n => b + n * (L + 1)).map (refV L)) := by unfold matV; rw [List.map_map]; rfl
section
variable {X : Cx} {h : AH} {Q : V → AH → Prop}
theorem none_spec (H : Has (Ecx X) K.probateref08_none A.probateref08_none_o) (N L : Nat) (hN : N ≤ 2 ^ 20) (hL : L ≤ 2 ^ 20) (hQ : Q (matV L N h.nobj) (rowsH h (fun _ => boolsV (fun _ => false) (L + 1)) (N * (L + 1)))) :
    Ecx X K.probateref08_none [.int .i64 N, .int .i64 L] h Q := by
  refine fn_set H (rowsH h (fun _ => boolsV (fun _ => false) (L + 1)) (N * (L + 1))) (fun wf hb => rowsH_ext h _ (fun _ => Bdd_bools _ _ _ _) _) (by simp [A.probateref08_none_o]) fun wf hb => ?_
  have hwL : IntKind.i64.wrap ((L : Int) + 1) = ((L + 1 : Nat) : Int) := by rw [wrap_i64 (by omega) (by omega)]; rfl
  simp [A.probateref08_none_o, fillL]
  refine loopI (n := N) (fun mm env h' => ∃ n e st vs, n ≤ N ∧ mm = N - n ∧ Own h h' 1 e st vs ∧ (st ≤ 2 ∨ st < h'.next) ∧ RefWL L ((List.range n).map fun i => h.nobj + i * (L + 1)) vs ∧ h'.nobj = h.nobj + n * (L + 1) ∧ (∀ i, i < n * (L + 1) → h'.objs (h.nobj + i) = boolsV (fun _ => false) (L + 1)) ∧
      env = [(0, .int .i64 N), (1, .int .i64 L), (5, .sl e st vs), (6, .int .i64 n)]) ?_
    ⟨0, 1, 2, [], by omega, by omega, Own.full (Gr.refl h) 1 [], by omega, trivial, by simp, fun i hi => by omega, rfl⟩
  rintro mm env h' ⟨n, e, st, vs, hn, rfl, ow, hba, fa, nb, ob, rfl⟩
  unfold A.probateref08_none_o.L0
  have hvl : vs.length = n := by rw [fa.len]; simp
  by_cases hlt : n < N
  · have hlt' : (n : Int) < N := by omega
    have hw1 : IntKind.i64.wrap ((n : Int) + 1) = ((n + 1 : Nat) : Int) := by rw [wrap_i64 (by omega) (by omega)]; rfl
    have hmul : (n + 1) * (L + 1) = n * (L + 1) + (L + 1) := by rw [Nat.add_mul]; omega
    have n3 := wf.next
    have g3 := ow.gr.next
    simp [hlt', fillL]
    refine loopI (n := L + 1) (fun mm env h2 => ∃ a st1, a ≤ L + 1 ∧ mm = L + 1 - a ∧ Own h h2 1 e st vs ∧ Own h h2 1 1 st1 ((List.range a).map fun i => .osl 1 (h.nobj + n * (L + 1) + i) 0 (L + 1) (L + 1)) ∧ (st ≤ 2 ∨ st < h2.next) ∧ (st ≤ 2 ∨ ¬ st = st1) ∧ h2.nobj = h.nobj + n * (L + 1) + a ∧ (∀ i, i < n * (L + 1) + a → h2.objs (h.nobj + i) = boolsV (fun _ => false) (L + 1)) ∧
        env = [(0, .int .i64 N), (1, .int .i64 L), (5, .sl e st vs), (6, .int .i64 n), (7, .sl 1 st1 ((List.range a).map fun i => .osl 1 (h.nobj + n * (L + 1) + i) 0 (L + 1) (L + 1))), (8, .int .i64 a)]) ?_
      ⟨0, 2, by omega, by omega, ow, Own.full ow.gr 1 [], hba, by omega, by omega, fun i hi => ob i (by omega), rfl⟩
    clear ow ob nb hba g3 h'
    rintro mm env h2 ⟨a, st1, ha, rfl, ow, ow1, hba, hne, nb, ob, rfl⟩
    unfold A.probateref08_none_o.L1
    have g3 := ow.gr.next
    by_cases hal : a ≤ L
    · have hal' : (a : Int) ≤ L := by omega
      have hw2 : IntKind.i64.wrap ((a : Int) + 1) = ((a + 1 : Nat) : Int) := by rw [wrap_i64 (by omega) (by omega)]; rfl
      have hoff : h2.nobj = h.nobj + n * (L + 1) + a := nb
      simp [hal', hwL]
      refine ⟨by omega, by omega, ?_⟩
      rw [repl_false]
      have ow2 := ow.new (boolsV (fun _ => false) (L + 1))
      have ow3 := ow1.new (boolsV (fun _ => false) (L + 1))
      refine ow3.appF (by simp) rfl (by simp; omega) fun o4 => ?_
      have gp := o4.gr
      have hts : ((List.range a).map fun i => V.osl 1 (h.nobj + n * (L + 1) + i) 0 (L + 1) (L + 1)) ++ [.osl 1 h2.nobj 0 (L + 1) (L + 1)] = (List.range (a + 1)).map fun i => V.osl 1 (h.nobj + n * (L + 1) + i) 0 (L + 1) (L + 1) := by
        rw [List.range_succ, List.map_append, hoff]; rfl
      rw [hts] at o4 ⊢
      simp [hw2]
      exact ⟨L + 1 - (a + 1), by omega, iv ⟨a + 1, _, by omega, rfl, ow2.keep gp hba hne, o4, by rw [push_next, new_next]; omega, by rw [new_next]; omega, by rw [push_nobj, new_nobj]; omega, fun i hi => by
        rw [push_objs]
        by_cases e : h.nobj + i = h2.nobj
        · rw [new_objs_at _ _ _ e]
        · rw [new_objs_ne _ _ e]; exact ob i (by omega), rfl⟩⟩
    · have hal' : ¬ (a : Int) ≤ L := by omega
      obtain rfl : a = L + 1 := by omega
      have hx : ¬ ((L : Int) + 1 ≤ L) := by omega
      simp [hx, fillL, V.isAgg]
      refine ow.appF (by simp) rfl (by simp [hvl]; omega) fun o4 => ?_
      simp [hw1]
      exact ⟨N - (n + 1), by omega, iv ⟨n + 1, 1, _, _, by omega, rfl, o4, by rw [push_next]; omega, by
        rw [List.range_succ, List.map_append]; exact fa.app ⟨⟨st1, rfl⟩, trivial⟩, by rw [push_nobj]; omega, fun i hi => by rw [push_objs]; exact ob i (by omega), rfl⟩⟩
  · have hlt' : ¬ (n : Int) < N := by omega
    obtain rfl : n = N := by omega
    simp [hlt']
    refine finS_wk (rowsH_grW h _ ow.gr (by omega) ob) (by rw [matV_eq]; exact fa.wk ow.el) (Bdd_matV (by simp)) hQ
theorem ltS (b' b : Nat) : decide (b' < b + 1) = (decide (b' < b) || decide (b' = b)) := by apply Bool.eq_iff_iff.2; simp; omega
/-- A row of which it is told from where to where. -/
theorem rowL2 {o7 o9 L a k : Nat} {v0 : V} {f g : Nat → Bool} {c : Nat → Nat → Bool} {bs : List Nat} (hk : k < bs.length) (hL : L ≤ 2 ^ 20) (ha : a ≤ L) (hb : RefAt h L bs[k] c) (h7 : h.objs o7 = boolsV f (L + 1)) (h9 : h.objs o9 = boolsV g (L + 1)) (e0 st0 : Nat) (he0 : e0 = 1)
    (n79 : ¬ o7 = o9) (nb : ∀ a, a ≤ L → ¬ bs[k] + a = o9) {Q : Ex → Env → AH → Prop} {zQ : Lz Q} {z : Lz (AC.loop A.probateref08_row_o.L2)}
    (hQ : ∀ v, Q (.exit 4) ((0, .sl e0 st0 (bs.map (refV L))) :: (2, .int .i64 L) :: (7, .osl 1 o7 0 (L + 1) (L + 1)) :: (8, .int .i64 k) :: (9, .osl 1 o9 0 (L + 1) (L + 1)) :: (10, .int .i64 a) :: v) (h.set o9 (boolsV (fun b => g b || (decide (a ≤ b) && f a && c a b)) (L + 1)))) :
    acZ (Ecx X) [(0, .sl e0 st0 (bs.map (refV L))), (2, .int .i64 L), (7, .osl 1 o7 0 (L + 1) (L + 1)), (8, .int .i64 k), (9, .osl 1 o9 0 (L + 1) (L + 1)), (10, .int .i64 a), (11, .int .i64 a)] h z zQ := by
  subst he0
  refine loopI (n := L + 1 - a) (fun mm env h' => ∃ b, a ≤ b ∧ b ≤ L + 1 ∧ mm = L + 1 - b ∧ h' = h.set o9 (boolsV (fun b' => g b' || (decide (b' < b) && (decide (a ≤ b') && f a && c a b'))) (L + 1)) ∧
      env = [(0, .sl 1 st0 (bs.map (refV L))), (2, .int .i64 L), (7, .osl 1 o7 0 (L + 1) (L + 1)), (8, .int .i64 k), (9, .osl 1 o9 0 (L + 1) (L + 1)), (10, .int .i64 a), (11, .int .i64 b)]) ?_
    ⟨a, Nat.le_refl _, by omega, rfl, by
      have : boolsV (fun b' => g b' || (decide (b' < a) && (decide (a ≤ b') && f a && c a b'))) (L + 1) = boolsV g (L + 1) := boolsV_congr fun b' _ => by
        by_cases q : b' < a
        · simp [q, show ¬ a ≤ b' by omega]
        · simp [q]
      rw [this, ← h9, set_self rfl], rfl⟩
  rintro mm env h' ⟨b, hab, hbl, rfl, rfl, rfl⟩
  unfold A.probateref08_row_o.L2
  have q7 : (h.set o9 (boolsV (fun b' => g b' || (decide (b' < b) && (decide (a ≤ b') && f a && c a b'))) (L + 1))).objs o7 = boolsV f (L + 1) := by rw [set_objs_ne _ _ _ n79]; exact h7
  have q9 : (h.set o9 (boolsV (fun b' => g b' || (decide (b' < b) && (decide (a ≤ b') && f a && c a b'))) (L + 1))).objs o9 = boolsV (fun b' => g b' || (decide (b' < b) && (decide (a ≤ b') && f a && c a b'))) (L + 1) := by simp
  have qb : (h.set o9 (boolsV (fun b' => g b' || (decide (b' < b) && (decide (a ≤ b') && f a && c a b'))) (L + 1))).objs (bs[k] + a) = boolsV (c a) (L + 1) := by rw [set_objs_ne _ _ _ (nb a ha)]; exact hb a ha
  have hss : ∀ y, (h.set o9 (boolsV (fun b' => g b' || (decide (b' < b) && (decide (a ≤ b') && f a && c a b'))) (L + 1))).set o9 y = h.set o9 y := fun y => by simp
  have hga : (boolsV f (L + 1)).getD a .undef = .bool (f a) := boolsV_get (by omega)
  have hfa0 : f a = false → boolsV (fun b' => g b' || (decide (b' < b) && (decide (a ≤ b') && f a && c a b'))) (L + 1) = boolsV (fun b => g b || (decide (a ≤ b) && f a && c a b)) (L + 1) := fun e => by rw [e]; simp
  have hfin : b = L + 1 → boolsV (fun b' => g b' || (decide (b' < b) && (decide (a ≤ b') && f a && c a b'))) (L + 1) = boolsV (fun b => g b || (decide (a ≤ b) && f a && c a b)) (L + 1) := fun e => boolsV_congr fun b' hb' => by simp [show b' < b by omega]
  generalize hh : h.set o9 (boolsV (fun b' => g b' || (decide (b' < b) && (decide (a ≤ b') && f a && c a b'))) (L + 1)) = h2 at *
  have hal : a < L + 1 := by omega
  have hal' : (a : Int) < ((L : Int) + 1) := by omega
  by_cases hle : b ≤ L
  · have hle' : (b : Int) ≤ L := by omega
    have hbl' : b < L + 1 := by omega
    have hbl2 : (b : Int) < (L : Int) + 1 := by omega
    have hw1 : IntKind.i64.wrap ((b : Int) + 1) = ((b + 1 : Nat) : Int) := by rw [wrap_i64 (by omega) (by omega)]; rfl
    have hgk : (bs.map (refV L)).getD k .undef = refV L bs[k] := by simp [List.getD_eq_getElem?_getD, hk]
    have hkl : (k : Int) < bs.length := by omega
    have hgr : ((List.range (L + 1)).map fun a => V.osl 1 (bs[k] + a) 0 (L + 1) (L + 1)).getD a .undef = .osl 1 (bs[k] + a) 0 (L + 1) (L + 1) := refV_get ha
    have hgb : (boolsV (c a) (L + 1)).getD b .undef = .bool (c a b) := boolsV_get (by omega)
    have hset := boolsV_set (fun b' => g b' || (decide (b' < b) && (decide (a ≤ b') && f a && c a b'))) (n := L + 1) hbl' true
    cases hfa : f a with
    | false =>
      rw [hfa] at hga
      simp [hle', hal, hal', q7, hga]
      rw [← hh, hfa0 hfa]
      exact hQ _
    | true =>
      rw [hfa] at hga
      cases hc : c a b with
      | false =>
        rw [hc] at hgb
        simp [hle', hal, hal', q7, hga, hkl, hgk, refV, hgr, V.cells, qb, hgb, hbl', hbl2, hw1]
        exact ⟨L + 1 - (b + 1), by omega, iv ⟨b + 1, by omega, by omega, rfl, by
          rw [← hh]; congr 1; exact boolsV_congr fun b' _ => by rw [ltS, hfa]; by_cases e : b' = b <;> simp [e, hc], rfl⟩⟩
      | true =>
        rw [hc] at hgb
        simp [hle', hal, hal', q7, hga, hkl, hgk, refV, hgr, V.cells, V.good, setAt, qb, hgb, hbl', hbl2, q9, hset, hw1, hss]
        refine ⟨by omega, ?_⟩
        exact ⟨L + 1 - (b + 1), by omega, iv ⟨b + 1, by omega, by omega, rfl, by
          congr 1; exact boolsV_congr fun b' _ => by rw [ltS, hfa]; by_cases e : b' = b <;> simp [e, hc, hab], rfl⟩⟩
  · have hle' : ¬ (b : Int) ≤ L := by omega
    simp [hle']
    rw [← hh, hfin (by omega)]
    exact hQ _
def partR (f : Nat → Bool) (c : Nat → Nat → Bool) (n : Nat) : Nat → Bool := fun b => (List.range n).any fun a => decide (a ≤ b) && f a && c a b
theorem partR_succ (f : Nat → Bool) (c : Nat → Nat → Bool) (n b : Nat) : partR f c (n + 1) b = (partR f c n b || (decide (n ≤ b) && f n && c n b)) := by
  unfold partR; rw [List.range_succ, List.any_append]; simp
theorem partR_all {f : Nat → Bool} {c : Nat → Nat → Bool} {L b : Nat} (hb : b ≤ L) : partR f c (L + 1) b = stepR f c b := by
  unfold partR stepR
  apply Bool.eq_iff_iff.2
  simp only [List.any_eq_true, List.mem_range, Bool.and_eq_true, decide_eq_true_eq]
  constructor
  · rintro ⟨a, h1, ⟨h2, h3⟩, h4⟩; exact ⟨a, by omega, h3, h4⟩
  · rintro ⟨a, h1, h3, h4⟩; exact ⟨a, by omega, ⟨by omega, h3⟩, h4⟩
theorem row_spec (H : Has (Ecx X) K.probateref08_row A.probateref08_row_o) {L from' : Nat} (hL : L ≤ 2 ^ 20) (hf : from' ≤ L) (bs : List Nat) (cs : List (Nat → Nat → Bool)) (hlen : cs.length = bs.length) (hbl : bs.length ≤ 2 ^ 20)
    (hat : ∀ k (h1 : k < bs.length), RefAt h L bs[k] (cs[k]'(by omega)) ∧ bs[k] + (L + 1) ≤ h.nobj) (e0 st0 : Nat) (he : bs = [] ∨ e0 = 1)
    (hQ : ∀ h' o, Gr h h' → h.nobj ≤ o → o < h'.nobj → h'.objs o = boolsV (foldR cs fun b => decide (b = from')) (L + 1) → Q (.osl 1 o 0 (L + 1) (L + 1)) h') :
    Ecx X K.probateref08_row [.sl e0 st0 (bs.map (refV L)), .int .i64 from', .int .i64 L] h Q := by
  refine fn_any H (by simp [A.probateref08_row_o]) fun wf => ?_
  have hwL : IntKind.i64.wrap ((L : Int) + 1) = ((L + 1 : Nat) : Int) := by rw [wrap_i64 (by omega) (by omega)]; rfl
  have hfl : from' < L + 1 := by omega
  have hfl2 : (from' : Int) < (L : Int) + 1 := by omega
  have hset := boolsV_set (fun _ => false) hfl true
  simp [A.probateref08_row_o, hwL]
  refine ⟨by omega, by omega, ?_⟩
  rw [repl_false]
  simp [hfl, hfl2, V.cells, V.good, setAt, hset]
  refine ⟨by omega, ?_⟩
  have gr1 := (Gr.refl h).new (boolsV (fun b' => decide (b' = from')) (L + 1))
  have o1 : (h.new (boolsV (fun b' => decide (b' = from')) (L + 1))).objs h.nobj = boolsV (foldR (cs.take 0) fun b => decide (b = from')) (L + 1) := by
    rw [new_objs_same]; rfl
  have o2 : (h.new (boolsV (fun b' => decide (b' = from')) (L + 1))).nobj = h.nobj + 1 := by simp
  generalize h.new (boolsV (fun b' => decide (b' = from')) (L + 1)) = h1 at *
  refine loopI (n := bs.length) (fun mm env h' => ∃ k o, k ≤ bs.length ∧ mm = bs.length - k ∧ Gr h h' ∧ h.nobj ≤ o ∧ o < h'.nobj ∧ h'.objs o = boolsV (foldR (cs.take k) fun b => decide (b = from')) (L + 1) ∧
      env = [(0, .sl e0 st0 (bs.map (refV L))), (2, .int .i64 L), (7, .osl 1 o 0 (L + 1) (L + 1)), (8, .int .i64 k)]) ?_
    ⟨0, h.nobj, by omega, by omega, gr1, by omega, by omega, o1, rfl⟩
  clear gr1 o1 o2 h1
  rintro mm env h' ⟨k, o, hk, rfl, gr, lo, lt, ob, rfl⟩
  unfold A.probateref08_row_o.L0
  by_cases hlt : k < bs.length
  · have he0 : e0 = 1 := he.resolve_left (fun e => by rw [e] at hlt; simp at hlt)
    have hlt' : (k : Int) < bs.length := by omega
    have hw1 : IntKind.i64.wrap ((k : Int) + 1) = ((k + 1 : Nat) : Int) := by rw [wrap_i64 (by omega) (by omega)]; rfl
    obtain ⟨ra, rb⟩ := hat k hlt
    have hsu : foldR (cs.take (k + 1)) (fun b => decide (b = from')) = stepR (foldR (cs.take k) fun b => decide (b = from')) (cs[k]'(by omega)) := by
      unfold foldR; rw [List.take_succ_eq_append_getElem (by omega), List.foldl_append]; rfl
    generalize foldR (cs.take k) (fun b => decide (b = from')) = f at *
    generalize cs[k]'(by omega) = c at *
    simp [hlt', hwL]
    refine ⟨by omega, by omega, ?_⟩
    rw [repl_false]
    have gr2 := gr.new (boolsV (fun _ => false) (L + 1))
    have p0 : (h'.new (boolsV (fun _ => false) (L + 1))).objs h'.nobj = boolsV (partR f c 0) (L + 1) := by rw [new_objs_same]; rfl
    have p1 : (h'.new (boolsV (fun _ => false) (L + 1))).objs o = boolsV f (L + 1) := by rw [new_objs_ne _ _ (by omega)]; exact ob
    have p2 : (h'.new (boolsV (fun _ => false) (L + 1))).nobj = h'.nobj + 1 := by simp
    generalize h'.new (boolsV (fun _ => false) (L + 1)) = h2 at *
    have hon : h.nobj ≤ h'.nobj := gr.nobj
    refine loopI (n := L + 1) (fun mm env h3 => ∃ a, a ≤ L + 1 ∧ mm = L + 1 - a ∧ Gr h h3 ∧ h3.objs h'.nobj = boolsV (partR f c a) (L + 1) ∧ h3.objs o = boolsV f (L + 1) ∧ h'.nobj < h3.nobj ∧
        env = [(0, .sl e0 st0 (bs.map (refV L))), (2, .int .i64 L), (7, .osl 1 o 0 (L + 1) (L + 1)), (8, .int .i64 k), (9, .osl 1 h'.nobj 0 (L + 1) (L + 1)), (10, .int .i64 a)]) ?_
      ⟨0, by omega, by omega, gr2, p0, p1, by omega, rfl⟩
    clear gr2 p0 p1 p2 h2
    rintro mm env h3 ⟨a, ha, rfl, gr3, q0, q1, q2, rfl⟩
    unfold A.probateref08_row_o.L1
    by_cases hal : a ≤ L
    · have hal' : (a : Int) ≤ L := by omega
      have hw2 : IntKind.i64.wrap ((a : Int) + 1) = ((a + 1 : Nat) : Int) := by rw [wrap_i64 (by omega) (by omega)]; rfl
      simp [hal']
      refine rowL2 (h := h3) (o7 := o) (o9 := h'.nobj) (v0 := .undef) hlt hL hal (c := c) (fun a ha => (gr3.objs _ (by omega)).trans (ra a ha)) q1 q0 e0 st0 he0 (by omega) (fun a ha => by omega) (fun v => ?_)
      simp [hw2]
      exact ⟨L + 1 - (a + 1), by omega, iv ⟨a + 1, by omega, rfl, gr3.set (by omega) _, by rw [set_objs_same]; exact boolsV_congr fun b _ => by rw [partR_succ], by rw [set_objs_ne _ _ _ (by omega)]; exact q1, by rw [set_nobj]; exact q2, rfl⟩⟩
    · have hx : ¬ ((L : Int) + 1 ≤ L) := by omega
      obtain rfl : a = L + 1 := by omega
      simp [hx, hw1]
      exact ⟨bs.length - (k + 1), by omega, iv ⟨k + 1, h'.nobj, by omega, rfl, gr3, hon, q2, by rw [q0, hsu]; exact boolsV_congr fun b hb => partR_all (by omega), rfl⟩⟩
  · have hlt' : ¬ (k : Int) < bs.length := by omega
    obtain rfl : k = bs.length := by omega
    rw [← hlen, List.take_length] at ob
    simp [hlt']
    exact hQ h' o gr lo lt ob
/-- A token's table. -/
theorem token8_spec (HN : Has (Ecx X) K.probateref08_none A.probateref08_none_o) (H : Has (Ecx X) K.probateref08_token A.probateref08_token) (w : List Int) (t : Int) (e st : Nat) (he : w = [] ∨ e = 1) (hL : w.length ≤ 2 ^ 20)
    (hQ : ∀ h', Gr h h' → h.nobj + (w.length + 1) ≤ h'.nobj → RefAt h' w.length h.nobj (tokM w t) → Q (refV w.length h.nobj) h') : Ecx X K.probateref08_token [.sl e st (ints w), .int .i64 t] h Q := by
  refine fn_any H (by simp [A.probateref08_token]) fun wf => ?_
  have hil : (ints w).length = w.length := by simp [ints]
  simp [A.probateref08_token, hil]
  refine ecall (none_spec HN 1 w.length (by omega) hL ?_)
  have gr1 := rowsH_gr h (fun _ => boolsV (fun _ => false) (w.length + 1)) (1 * (w.length + 1))
  have o1 : ∀ a, a ≤ w.length → (rowsH h (fun _ => boolsV (fun _ => false) (w.length + 1)) (1 * (w.length + 1))).objs (h.nobj + a) = boolsV (fun _ => false) (w.length + 1) := fun a ha => rowsH_at h _ (by omega)
  have o2 : (rowsH h (fun _ => boolsV (fun _ => false) (w.length + 1)) (1 * (w.length + 1))).nobj = h.nobj + (w.length + 1) := by simp
  generalize rowsH h (fun _ => boolsV (fun _ => false) (w.length + 1)) (1 * (w.length + 1)) = h1 at *
  have hmv : matV w.length 1 h.nobj = .sl 1 0 [refV w.length h.nobj] := by simp [matV]
  rw [hmv]
  have hrc : (refV w.length h.nobj).cells = [refV w.length h.nobj] := rfl
  simp [hrc]
  have hrv : refV w.length h.nobj = .sl 1 0 ((List.range (w.length + 1)).map fun a => .osl 1 (h.nobj + a) 0 (w.length + 1) (w.length + 1)) := rfl
  rw [hrv]
  simp only [List.length_singleton, List.getD_cons_zero]
  refine ⟨by omega, ?_⟩
  refine loopI (n := w.length) (fun mm env h' => ∃ i, i ≤ w.length ∧ mm = w.length - i ∧ Gr h h' ∧ h.nobj + (w.length + 1) ≤ h'.nobj ∧ RefAt h' w.length h.nobj (fun a b => decide (a < i) && tokM w t a b) ∧
      env = [(0, .sl e st (ints w)), (1, .int .i64 t), (5, .sl 1 0 ((List.range (w.length + 1)).map fun a => .osl 1 (h.nobj + a) 0 (w.length + 1) (w.length + 1))), (6, .int .i64 i)]) ?_
    ⟨0, by omega, by omega, gr1, by omega, fun a ha => by rw [o1 a ha]; exact boolsV_congr fun b _ => by simp, rfl⟩
  clear gr1 o1 o2 h1
  rintro mm env h' ⟨i, hi, rfl, gr, nb, ra, rfl⟩
  unfold A.probateref08_token.L0
  by_cases hlt : i < w.length
  · obtain rfl : e = 1 := he.resolve_left (fun e => by rw [e] at hlt; simp at hlt)
    have hlt' : (i : Int) < w.length := by omega
    have hw1 : IntKind.i64.wrap ((i : Int) + 1) = ((i + 1 : Nat) : Int) := by rw [wrap_i64 (by omega) (by omega)]; rfl
    have hgw := ints_get hlt
    have hgr := refV_get (L := w.length) (b := h.nobj) (a := i) (by omega)
    have ob := ra i (by omega)
    have hi1 : i + 1 < w.length + 1 := by omega
    have hi2 : (i : Int) + 1 < (w.length : Int) + 1 := by omega
    have hi3 : (i : Int) < (w.length : Int) + 1 := by omega
    have hset := boolsV_set (fun _ => false) hi1 (decide (w[i] = t))
    simp [hlt', hil, hgw, hw1, hgr, V.cells, V.good, setAt, ob, hi1, hi2, hi3]
    refine ⟨by omega, by omega, ?_⟩
    exact ⟨w.length - (i + 1), by omega, iv ⟨i + 1, by omega, rfl, gr.set (by omega) _, by rw [set_nobj]; exact nb, fun a ha => by
      by_cases e : a = i
      · subst e
        rw [set_objs_same, hset]
        refine boolsV_congr fun b _ => ?_
        simp only [tokM, List.getElem?_eq_getElem hlt, Option.some.injEq]
        by_cases q : b = a + 1 <;> simp [q]
      · rw [set_objs_ne _ _ _ (by omega), ra a ha]
        refine boolsV_congr fun b _ => ?_
        have : decide (a < i + 1) = decide (a < i) := by apply Bool.eq_iff_iff.2; simp; omega
        simp only [this], rfl⟩⟩
  · have hlt' : ¬ (i : Int) < w.length := by omega
    obtain rfl : i = w.length := by omega
    simp [hlt', hil]
    refine hQ h' gr nb (fun a ha => ?_)
    rw [ra a ha]
    refine boolsV_congr fun b hb => ?_
    by_cases e : a < w.length
    · simp [e]
    · obtain rfl : a = w.length := by omega
      simp [tokM]
end
end Go.Proofs.Ytmobijebjkjnoaa.Al
namespace Go.Proofs.Ytmobijebjkjnoaa.Al
open Go Go.RowKit
set_option linter.unusedSimpArgs false
set_option linter.unusedVariables false
attribute [-simp] List.getD_eq_getElem?_getD Int.not_lt Int.not_le List.map_take List.map_map
/-- A grammar whose numbers are places. -/
structure GW (g : Gm) (N : Nat) : Prop where
  nons : g.nons = (N : Int)
  big : N ≤ 2 ^ 10
  prods : g.prods.length ≤ 2 ^ 20
  left : ∀ p ∈ g.prods, 0 ≤ p.left ∧ p.left < N
  len : ∀ p ∈ g.prods, p.right.length ≤ 2 ^ 20
  sym : ∀ p ∈ g.prods, ∀ s ∈ p.right, 0 ≤ s.n ∧ (s.non = true → s.n < N)
/-- The table of all nonterminals, as it lies. -/
structure MS (h h' : AH) (g : Gm) (L N : Nat) (M : Nat → Nat → Nat → Bool) : Prop where
  gr : Gr h h'
  ob : h'.objs h.nobj = gmC g
  nb : h.nobj + 1 + N * (L + 1) ≤ h'.nobj
  at' : ∀ n, n < N → RefAt h' L (h.nobj + 1 + n * (L + 1)) (M n)
theorem idx_inj {L n a n' a' : Nat} (ha : a ≤ L) (ha' : a' ≤ L) (h : n * (L + 1) + a = n' * (L + 1) + a') : n = n' ∧ a = a' := by
  have h1 : n = n' := by
    have e1 : (n * (L + 1) + a) / (L + 1) = n := by rw [Nat.mul_comm, Nat.mul_add_div (by omega), Nat.div_eq_of_lt (by omega)]; rfl
    have e2 : (n' * (L + 1) + a') / (L + 1) = n' := by rw [Nat.mul_comm, Nat.mul_add_div (by omega), Nat.div_eq_of_lt (by omega)]; rfl
    rw [← e1, h, e2]
  subst h1
  exact ⟨rfl, by omega⟩
theorem idx_lt {L N n a : Nat} (hn : n < N) (ha : a ≤ L) : n * (L + 1) + a < N * (L + 1) := by
  have := Nat.mul_le_mul_right (L + 1) (show n + 1 ≤ N by omega)
  rw [Nat.add_mul] at this
  omega
theorem MS.set {h h' : AH} {g : Gm} {L N : Nat} {M : Nat → Nat → Nat → Bool} (s : MS h h' g L N M) {n a b : Nat} (hn : n < N) (ha : a ≤ L) (hb : b ≤ L) :
    MS h (h'.set (h.nobj + 1 + n * (L + 1) + a) (boolsV (fun b' => decide (b' = b) || M n a b') (L + 1))) g L N (setM M n a b) := by
  refine ⟨s.gr.set (by omega) _, by rw [set_objs_ne _ _ _ (by omega)]; exact s.ob, by rw [set_nobj]; exact s.nb, fun n' hn' a' ha' => ?_⟩
  by_cases e : n' = n ∧ a' = a
  · obtain ⟨rfl, rfl⟩ := e
    rw [set_objs_same]
    refine boolsV_congr fun b' _ => ?_
    by_cases q : b' = b <;> simp [setM, q]
  · rw [set_objs_ne _ _ _ (fun q => e (by
      have := idx_inj (n := n') (n' := n) ha' ha (by omega)
      exact this)), s.at' n' hn' a' ha']
    refine boolsV_congr fun b' _ => ?_
    simp only [setM]
    rw [if_neg (fun q => e ⟨q.1, q.2.1⟩)]
theorem MS.to {h h' h2 : AH} {g : Gm} {L N : Nat} {M : Nat → Nat → Nat → Bool} (s : MS h h' g L N M) (G : Gr h h2) (hn : h'.nobj ≤ h2.nobj) (ho : ∀ o, o < h'.nobj → h2.objs o = h'.objs o) : MS h h2 g L N M := by
  have := s.nb
  have := s.gr.nobj
  refine ⟨G, by rw [ho _ (by omega)]; exact s.ob, by omega, fun n hn a ha => ?_⟩
  have := idx_lt (L := L) hn ha
  rw [ho _ (by omega)]; exact s.at' n hn a ha
theorem MS.gr' {h h' h2 : AH} {g : Gm} {L N : Nat} {M : Nat → Nat → Nat → Bool} (s : MS h h' g L N M) (G : Gr h' h2) : MS h h2 g L N M := s.to (s.gr.trans G) G.nobj G.objs
/-- The tables of a production's symbols. -/
structure LstAt (h h' : AH) (w : List Int) (N : Nat) (ss : List Sy) (bs : List Nat) : Prop where
  len : bs.length = ss.length
  non : ∀ (k : Nat) (s : Sy) (b : Nat), ss[k]? = some s → bs[k]? = some b → s.non = true → b = h.nobj + 1 + s.n.toNat * (w.length + 1)
  tok : ∀ (k : Nat) (s : Sy) (b : Nat), ss[k]? = some s → bs[k]? = some b → s.non = false → RefAt h' w.length b (tokM w s.n) ∧ h.nobj + 1 + N * (w.length + 1) ≤ b ∧ b + (w.length + 1) ≤ h'.nobj
theorem LstAt.to {h h' h2 : AH} {w : List Int} {N : Nat} {ss : List Sy} {bs : List Nat} (l : LstAt h h' w N ss bs) (hn : h'.nobj ≤ h2.nobj) (ho : ∀ o, o < h'.nobj → h2.objs o = h'.objs o) : LstAt h h2 w N ss bs :=
  ⟨l.len, l.non, fun k s b h1 h2' hn' => by
    obtain ⟨a, c, d⟩ := l.tok k s b h1 h2' hn'
    exact ⟨fun x hx => by rw [ho _ (by omega)]; exact a x hx, c, by omega⟩⟩
theorem LstAt.gr {h h' h2 : AH} {w : List Int} {N : Nat} {ss : List Sy} {bs : List Nat} (l : LstAt h h' w N ss bs) (G : Gr h' h2) : LstAt h h2 w N ss bs := l.to G.nobj G.objs
theorem Own.on {h0 h h2 : AH} {e e1 st : Nat} {l : List V} (o : Own h0 h e e1 st l) (ba : st ≤ 2 ∨ st < h.next) (G : Gr h h2) (n3 : 3 ≤ h.next) : Own h0 h2 e e1 st l :=
  ⟨o.gr.trans G, o.el, by
    rcases o.st with a | a | a
    · exact .inl a
    · exact .inr (.inl a)
    · exact .inr (.inr ⟨by rw [G.tips _ (by omega)]; exact a.1, a.2⟩)⟩
theorem LstAt.set {h h' : AH} {w : List Int} {N : Nat} {ss : List Sy} {bs : List Nat} (l : LstAt h h' w N ss bs) {o : Nat} (ho : o < h.nobj + 1 + N * (w.length + 1)) (z : List V) : LstAt h (h'.set o z) w N ss bs :=
  ⟨l.len, l.non, fun k s b h1 h2 hn => by
    obtain ⟨a, c, d⟩ := l.tok k s b h1 h2 hn
    exact ⟨fun x hx => by rw [set_objs_ne _ _ _ (by omega)]; exact a x hx, c, by rw [set_nobj]; exact d⟩⟩
theorem LstAt.snoc {h h' : AH} {w : List Int} {N : Nat} {ss : List Sy} {bs : List Nat} (l : LstAt h h' w N ss bs) {s : Sy} {b : Nat} (c1 : s.non = true → b = h.nobj + 1 + s.n.toNat * (w.length + 1))
    (c2 : s.non = false → RefAt h' w.length b (tokM w s.n) ∧ h.nobj + 1 + N * (w.length + 1) ≤ b ∧ b + (w.length + 1) ≤ h'.nobj) : LstAt h h' w N (ss ++ [s]) (bs ++ [b]) := by
  have split : ∀ (k : Nat) (s' : Sy) (b' : Nat), (ss ++ [s])[k]? = some s' → (bs ++ [b])[k]? = some b' → (ss[k]? = some s' ∧ bs[k]? = some b') ∨ (s' = s ∧ b' = b) := fun k s' b' h1 h2 => by
    have hl := l.len
    rw [List.getElem?_append] at h1 h2
    by_cases q : k < ss.length
    · rw [if_pos q] at h1; rw [if_pos (by omega)] at h2; exact .inl ⟨h1, h2⟩
    · rw [if_neg q] at h1; rw [if_neg (by omega)] at h2
      right
      have hk : k - ss.length = 0 := by
        cases hq : k - ss.length with
        | zero => rfl
        | succ m => rw [hq] at h1; simp at h1
      have hk2 : k - bs.length = 0 := by omega
      rw [hk] at h1; rw [hk2] at h2
      simp at h1 h2
      exact ⟨h1.symm, h2.symm⟩
  refine ⟨by simp [l.len], fun k s' b' h1 h2 hn => ?_, fun k s' b' h1 h2 hn => ?_⟩
  · rcases split k s' b' h1 h2 with ⟨x, y⟩ | ⟨rfl, rfl⟩
    · exact l.non k s' b' x y hn
    · exact c1 hn
  · rcases split k s' b' h1 h2 with ⟨x, y⟩ | ⟨rfl, rfl⟩
    · exact l.tok k s' b' x y hn
    · exact c2 hn
section
variable {X : Cx} {h : AH} {Q : V → AH → Prop}
theorem spansL2 (HN : Has (Ecx X) K.probateref08_none A.probateref08_none_o) (HT : Has (Ecx X) K.probateref08_token A.probateref08_token) (g : Gm) (w : List Int) {N : Nat} (gw : GW g N) (hL : w.length ≤ 2 ^ 10) (n3 : 3 ≤ h.next) {M : Nat → Nat → Nat → Bool} {i : Nat} (hi : i < g.prods.length) {e st : Nat} (he : w = [] ∨ e = 1) {more : Bool} {h' : AH} (ms : MS h h' g w.length N M)
    {Q : Ex → Env → AH → Prop} {zQ : Lz Q} {z : Lz (AC.loop A.probateref08_Spans.L2)}
    (hQ : ∀ h2 e8 s8 bs, MS h h2 g w.length N M → LstAt h h2 w N g.prods[i].right bs → (bs = [] ∨ e8 = 1) → Q (.exit 4) [(1, .sl e st (ints w)), (2, .ptr h.nobj 0), (5, matV w.length N (h.nobj + 1)), (6, .bool more), (7, .int .i64 i), (8, .sl e8 s8 (bs.map (refV w.length))), (9, .int .i64 g.prods[i].right.length), (36, .bool false)] h2) :
    acZ (Ecx X) [(1, .sl e st (ints w)), (2, .ptr h.nobj 0), (5, matV w.length N (h.nobj + 1)), (6, .bool more), (7, .int .i64 i), (8, .sl 1 2 []), (9, .int .i64 0)] h' z zQ := by
  have hgc : gmC g = [.int .i64 g.terms, .int .i64 g.nons, .int .i64 g.start, .sl 2 0 (g.prods.map prV)] := rfl
  have hgp : (g.prods.map prV).getD i .undef = prV g.prods[i] := Enc.getD hi
  have hil : (i : Int) < g.prods.length := by omega
  have hlen := gw.len _ (List.getElem_mem hi)
  have hsym := gw.sym _ (List.getElem_mem hi)
  generalize g.prods[i] = p at *
  have hpc : prC p = [.int .i64 p.left, .sl 2 0 (p.right.map symV)] := rfl
  refine loopI (n := p.right.length) (fun mm env h2 => ∃ k e8 s8 bs, k ≤ p.right.length ∧ mm = p.right.length - k ∧ MS h h2 g w.length N M ∧ LstAt h h2 w N (p.right.take k) bs ∧ Own h h2 1 e8 s8 (bs.map (refV w.length)) ∧ (s8 ≤ 2 ∨ s8 < h2.next) ∧
      env = [(1, .sl e st (ints w)), (2, .ptr h.nobj 0), (5, matV w.length N (h.nobj + 1)), (6, .bool more), (7, .int .i64 i), (8, .sl e8 s8 (bs.map (refV w.length))), (9, .int .i64 k)]) ?_
    ⟨0, 1, 2, [], by omega, by omega, ms, ⟨by simp, fun k s b h1 => by simp at h1, fun k s b h1 => by simp at h1⟩, Own.full ms.gr 1 [], by omega, rfl⟩
  clear ms h'
  rintro mm env h2 ⟨k, e8, s8, bs, hk, rfl, ms, la, ow, ba, rfl⟩
  unfold A.probateref08_Spans.L2
  have hbl : bs.length = k := by rw [la.len]; simp; omega
  by_cases hlt : k < p.right.length
  · have hlt' : (k : Int) < p.right.length := by omega
    have hgs : (p.right.map symV).getD k .undef = symV p.right[k] := Enc.getD hlt
    have hw1 : IntKind.i64.wrap ((k : Int) + 1) = ((k + 1 : Nat) : Int) := by rw [wrap_i64 (by omega) (by omega)]; rfl
    obtain ⟨s0, s1⟩ := hsym _ (List.getElem_mem hlt)
    have htk := List.take_succ_eq_append_getElem hlt
    generalize p.right[k] = s at *
    have hsc : symC s = [.bool s.non, .int .i64 s.n] := rfl
    have nb := ms.nb
    have n0 : ¬ h.nobj = h2.nobj := by have := Nat.le_trans (Nat.le_add_right _ _) nb; omega
    have q0 : (h2.new (symC s)).objs h2.nobj = symC s := by simp
    have ms2 := ms.gr' ((Gr.refl h2).new (symC s))
    have la2 := la.gr ((Gr.refl h2).new (symC s))
    have ow2 := ow.new (symC s)
    have ob2 := ms2.ob
    have ba2 : s8 ≤ 2 ∨ s8 < (h2.new (symC s)).next := ba
    have n33 : 3 ≤ (h2.new (symC s)).next := Nat.le_trans n3 ow.gr.next
    simp [ms.ob, hgc, hil, hgp, prV, hpc, V.cells, hlt', hgs, symV, V.good, hsc, setAt, n0]
    rw [← hsc]
    generalize h2.new (symC s) = h3 at *
    cases hn : s.non with
    | true =>
      obtain ⟨m, hm⟩ : ∃ m : Nat, s.n = (m : Int) := ⟨s.n.toNat, by omega⟩
      have hmN : m < N := by have := s1 hn; omega
      have hmN' : (m : Int) < N := by omega
      have hmg := matV_get (L := w.length) (N := N) (b := h.nobj + 1) hmN
      have em : ∀ b : Nat, bs.map (refV w.length) ++ [V.sl 1 0 ((List.range (w.length + 1)).map fun a => .osl 1 (b + a) 0 (w.length + 1) (w.length + 1))] = (bs ++ [b]).map (refV w.length) := fun b => by rw [List.map_append]; rfl
      have hmg' : ((List.range N).map fun n => refV w.length (h.nobj + 1 + n * (w.length + 1))).getD m .undef = .sl 1 0 ((List.range (w.length + 1)).map fun a => .osl 1 (h.nobj + 1 + m * (w.length + 1) + a) 0 (w.length + 1) (w.length + 1)) := hmg
      simp [q0, hsc, hn, hm, matV, hmN', hmg', fillL, V.isAgg, V.cells]
      refine ow2.appF (by simp) rfl (by simp [hbl]; omega) fun o5 => ?_
      rw [em] at o5 ⊢
      simp [hw1]
      exact ⟨p.right.length - (k + 1), by omega, iv ⟨k + 1, _, _, _, by omega, rfl, ms2.to o5.gr (by rw [push_nobj]; exact Nat.le_refl _) (fun o _ => by rw [push_objs]), by rw [htk]; exact (la2.to (by rw [push_nobj]; exact Nat.le_refl _) (fun o _ => by rw [push_objs])).snoc (fun _ => by rw [hm]; rfl) (fun q => by rw [hn] at q; cases q), o5, by rw [push_next]; omega, by simp [matV]⟩⟩
    | false =>
      simp [q0, hsc, hn]
      refine ecall (token8_spec HN HT w s.n e st he (by omega) fun h4 g4 nb4 ra4 => ?_)
      have em : ∀ b : Nat, bs.map (refV w.length) ++ [V.sl 1 0 ((List.range (w.length + 1)).map fun a => .osl 1 (b + a) 0 (w.length + 1) (w.length + 1))] = (bs ++ [b]).map (refV w.length) := fun b => by rw [List.map_append]; rfl
      have hrv : ∀ b, refV w.length b = .sl 1 0 ((List.range (w.length + 1)).map fun a => .osl 1 (b + a) 0 (w.length + 1) (w.length + 1)) := fun _ => rfl
      rw [hrv h3.nobj]
      simp [fillL, V.isAgg, V.cells]
      have ow4 := ow2.on ba2 g4 n33
      have nb3 := ms2.nb
      refine ow4.appF (by simp) rfl (by simp [hbl]; omega) fun o5 => ?_
      rw [em] at o5 ⊢
      simp [hw1]
      exact ⟨p.right.length - (k + 1), by omega, iv ⟨k + 1, _, _, _, by omega, rfl, (ms2.gr' g4).to o5.gr (by rw [push_nobj]; exact Nat.le_refl _) (fun o _ => by rw [push_objs]), by rw [htk]; exact ((la2.gr g4).to (by rw [push_nobj]; exact Nat.le_refl _) (fun o _ => by rw [push_objs])).snoc (fun q => by rw [hn] at q; cases q) (fun _ => ⟨fun a ha => by rw [push_objs]; exact ra4 a ha, nb3, by rw [push_nobj]; exact nb4⟩), o5, by rw [push_next]; omega, by simp⟩⟩
  · have hlt' : ¬ (k : Int) < p.right.length := by omega
    obtain rfl : k = p.right.length := by omega
    rw [List.take_length] at la
    simp [ms.ob, hgc, hil, hgp, prV, hpc, V.cells, hlt']
    exact hQ h2 e8 s8 bs ms la (by
      rcases ow.el with q | q
      · left; simpa using q
      · exact .inr q)
/-- What is told of the tables: it is so. -/
def Sound (g : Gm) (w : List Int) (M : Nat → Nat → Nat → Bool) : Prop := ∀ n a b, M n a b = true → DvN g w n a b
theorem LstAt.cs {g : Gm} {h h' : AH} {w : List Int} {N : Nat} {ss : List Sy} {bs : List Nat} {M : Nat → Nat → Nat → Bool} (l : LstAt h h' w N ss bs) (ms : MS h h' g w.length N M) (hs : ∀ s ∈ ss, 0 ≤ s.n ∧ (s.non = true → s.n < N)) :
    ∀ k (h1 : k < bs.length), RefAt h' w.length bs[k] ((ss.map (symC2 w M))[k]'(by rw [List.length_map, ← l.len]; exact h1)) ∧ bs[k] + (w.length + 1) ≤ h'.nobj := fun k h1 => by
  have hk : k < ss.length := by rw [← l.len]; exact h1
  obtain ⟨s0, s1⟩ := hs _ (List.getElem_mem hk)
  rw [List.getElem_map]
  cases hn : (ss[k]).non with
  | true =>
    have e := l.non k _ _ (List.getElem?_eq_getElem hk) (List.getElem?_eq_getElem h1) hn
    have hN : (ss[k]).n.toNat < N := by have := s1 hn; omega
    have hi := idx_lt (L := w.length) hN (Nat.le_refl _)
    have nb := ms.nb
    refine ⟨?_, by rw [e]; omega⟩
    have : symC2 w M ss[k] = M (ss[k]).n.toNat := by unfold symC2; rw [hn]; rfl
    rw [e, this]
    exact ms.at' _ hN
  | false =>
    obtain ⟨a, b, c⟩ := l.tok k _ _ (List.getElem?_eq_getElem hk) (List.getElem?_eq_getElem h1) hn
    have : symC2 w M ss[k] = tokM w (ss[k]).n := by unfold symC2; rw [hn]; rfl
    rw [this]
    exact ⟨a, c⟩
theorem spansL4 (g : Gm) (w : List Int) {N : Nat} (gw : GW g N) (hL : w.length ≤ 2 ^ 10) {M : Nat → Nat → Nat → Bool} {i a : Nat} (hi : i < g.prods.length) (ha : a ≤ w.length) {e st : Nat} {more : Bool} {v8 : V} {o12 : Nat} {f : Nat → Bool} {h' : AH} (ms : MS h h' g w.length N M) (so : Sound g w M)
    (h12 : h'.objs o12 = boolsV f (w.length + 1)) (l12 : h.nobj + 1 + N * (w.length + 1) ≤ o12) (lt12 : o12 < h'.nobj) (hf : ∀ b, b ≤ w.length → f b = true → DvN g w g.prods[i].left a b)
    {Q : Ex → Env → AH → Prop} {zQ : Lz Q} {z : Lz (AC.loop A.probateref08_Spans.L4)}
    (hQ : ∀ h2 M2 more2, MS h h2 g w.length N M2 → Sound g w M2 → h'.nobj ≤ h2.nobj → (∀ o, h.nobj + 1 + N * (w.length + 1) ≤ o → o < h'.nobj → h2.objs o = h'.objs o) → falses N w.length M2 ≤ falses N w.length M →
      (more2 = false → more = false ∧ M2 = M ∧ ∀ b, a ≤ b → b ≤ w.length → f b = true → M g.prods[i].left.toNat a b = true) → (more2 = true → more = true ∨ falses N w.length M2 < falses N w.length M) →
      Q (.exit 8) [(1, .sl e st (ints w)), (2, .ptr h.nobj 0), (5, matV w.length N (h.nobj + 1)), (6, .bool more2), (7, .int .i64 i), (8, v8), (11, .int .i64 a), (12, .osl 1 o12 0 (w.length + 1) (w.length + 1)), (13, .int .i64 ((w.length + 1 : Nat) : Int)), (80, .bool false)] h2) :
    acZ (Ecx X) [(1, .sl e st (ints w)), (2, .ptr h.nobj 0), (5, matV w.length N (h.nobj + 1)), (6, .bool more), (7, .int .i64 i), (8, v8), (11, .int .i64 a), (12, .osl 1 o12 0 (w.length + 1) (w.length + 1)), (13, .int .i64 a)] h' z zQ := by
  have hgc : gmC g = [.int .i64 g.terms, .int .i64 g.nons, .int .i64 g.start, .sl 2 0 (g.prods.map prV)] := rfl
  have hgp : (g.prods.map prV).getD i .undef = prV g.prods[i] := Enc.getD hi
  have hil : (i : Int) < g.prods.length := by omega
  have hiw : (ints w).length = w.length := by simp [ints]
  obtain ⟨l0, l1⟩ := gw.left _ (List.getElem_mem hi)
  generalize g.prods[i] = p at *
  have hpc : prC p = [.int .i64 p.left, .sl 2 0 (p.right.map symV)] := rfl
  obtain ⟨n, hn⟩ : ∃ n : Nat, p.left = (n : Int) := ⟨p.left.toNat, by omega⟩
  have hnN : n < N := by omega
  have hnN' : (n : Int) < N := by omega
  rw [hn, Int.toNat_natCast] at hQ
  have hal : a < w.length + 1 := by omega
  have hal' : (a : Int) < (w.length : Int) + 1 := by omega
  refine loopI (n := w.length + 1 - a) (fun mm env h2 => ∃ b M2 more2, a ≤ b ∧ b ≤ w.length + 1 ∧ mm = w.length + 1 - b ∧ MS h h2 g w.length N M2 ∧ Sound g w M2 ∧ h'.nobj ≤ h2.nobj ∧ (∀ o, h.nobj + 1 + N * (w.length + 1) ≤ o → o < h'.nobj → h2.objs o = h'.objs o) ∧ falses N w.length M2 ≤ falses N w.length M ∧
      (more2 = false → more = false ∧ M2 = M ∧ ∀ b', a ≤ b' → b' < b → f b' = true → M n a b' = true) ∧ (more2 = true → more = true ∨ falses N w.length M2 < falses N w.length M) ∧
      env = [(1, .sl e st (ints w)), (2, .ptr h.nobj 0), (5, matV w.length N (h.nobj + 1)), (6, .bool more2), (7, .int .i64 i), (8, v8), (11, .int .i64 a), (12, .osl 1 o12 0 (w.length + 1) (w.length + 1)), (13, .int .i64 b)]) ?_
    ⟨a, M, more, Nat.le_refl _, by omega, rfl, ms, so, Nat.le_refl _, fun _ _ _ => rfl, Nat.le_refl _, fun e => ⟨e, rfl, fun b' h1 h2 => by omega⟩, fun e => .inl e, rfl⟩
  rintro mm env h2 ⟨b, M2, more2, hab, hbl, rfl, ms2, so2, nb2, ob2, fl2, hm0, hm1, rfl⟩
  unfold A.probateref08_Spans.L4
  by_cases hle : b ≤ w.length
  · have hle' : (b : Int) ≤ w.length := by omega
    have hbl' : b < w.length + 1 := by omega
    have hbl2 : (b : Int) < (w.length : Int) + 1 := by omega
    have hw1 : IntKind.i64.wrap ((b : Int) + 1) = ((b + 1 : Nat) : Int) := by rw [wrap_i64 (by omega) (by omega)]; rfl
    have q12 : h2.objs o12 = boolsV f (w.length + 1) := (ob2 _ l12 lt12).trans h12
    have hgf : (boolsV f (w.length + 1)).getD b .undef = .bool (f b) := boolsV_get hbl'
    have hmg : ((List.range N).map fun n => refV w.length (h.nobj + 1 + n * (w.length + 1))).getD n .undef = .sl 1 0 ((List.range (w.length + 1)).map fun a => .osl 1 (h.nobj + 1 + n * (w.length + 1) + a) 0 (w.length + 1) (w.length + 1)) := matV_get hnN
    have hrg := refV_get (L := w.length) (b := h.nobj + 1 + n * (w.length + 1)) ha
    have hma := ms2.at' n hnN a ha
    have hgm : (boolsV (M2 n a) (w.length + 1)).getD b .undef = .bool (M2 n a b) := boolsV_get hbl'
    have hset := boolsV_set (M2 n a) hbl' true
    cases hfb : f b with
    | false =>
      rw [hfb] at hgf
      simp [hiw, hle', hbl', hbl2, q12, hgf, hw1]
      exact ⟨w.length + 1 - (b + 1), by omega, iv ⟨b + 1, M2, more2, by omega, by omega, rfl, ms2, so2, nb2, ob2, fl2, fun e => by
        obtain ⟨x, y, z⟩ := hm0 e
        refine ⟨x, y, fun b' h1 h2 h3 => ?_⟩
        by_cases q : b' = b
        · subst q; rw [hfb] at h3; cases h3
        · exact z b' h1 (by omega) h3, hm1, rfl⟩⟩
    | true =>
      rw [hfb] at hgf
      cases hM : M2 n a b with
      | true =>
        rw [hM] at hgm
        simp [hiw, hle', hbl', hbl2, q12, hgf, hw1, ms2.ob, hgc, hil, hgp, prV, hpc, V.cells, hn, matV, hnN', hmg, hal, hal', hrg, hma, hgm]
        exact ⟨w.length + 1 - (b + 1), by omega, iv ⟨b + 1, M2, more2, by omega, by omega, rfl, ms2, so2, nb2, ob2, fl2, fun e => by
          obtain ⟨x, y, z⟩ := hm0 e
          refine ⟨x, y, fun b' h1 h2 h3 => ?_⟩
          by_cases q : b' = b
          · subst q; rw [← y]; exact hM
          · exact z b' h1 (by omega) h3, hm1, rfl⟩⟩
      | false =>
        rw [hM] at hgm
        have hix := idx_lt (L := w.length) hnN ha
        have ms3 := ms2.set hnN ha hle
        have hfs := falses_set (N := N) hnN ha hle hM
        have nbm := ms.nb
        simp [hiw, hle', hbl', hbl2, q12, hgf, hw1, ms2.ob, hgc, hil, hgp, prV, hpc, V.cells, V.good, setAt, hn, matV, hnN', hmg, hal, hal', hrg, hma, hgm, hset]
        refine ⟨hle, ?_⟩
        exact ⟨w.length + 1 - (b + 1), by omega, iv ⟨b + 1, setM M2 n a b, true, by omega, by omega, rfl, ms3, fun n' a' b' q => by
            simp only [setM] at q
            split at q
            · rename_i c
              obtain ⟨rfl, rfl, rfl⟩ := c
              have := hf b' hle hfb
              rwa [hn] at this
            · exact so2 _ _ _ q, by rw [set_nobj]; exact nb2, fun o h1 h2 => by rw [set_objs_ne _ _ _ (by omega)]; exact ob2 o h1 h2, by omega, (fun e => nomatch e), (fun _ => .inr (by omega)), rfl⟩⟩
  · have hle' : ¬ (b : Int) ≤ w.length := by omega
    obtain rfl : b = w.length + 1 := by omega
    have hx : ¬ ((w.length : Int) + 1 ≤ w.length) := by omega
    simp [hiw, hx]
    have := hQ h2 M2 more2 ms2 so2 nb2 ob2 fl2 (fun e => by
      obtain ⟨x, y, z⟩ := hm0 e
      exact ⟨x, y, fun b' h1 h2 h3 => z b' h1 (by omega) h3⟩) hm1
    simpa using this
/-- It has all that a production tells, from the places before A. -/
def HoldsP (w : List Int) (M : Nat → Nat → Nat → Bool) (p : Pr) (A : Nat) : Prop := ∀ a b, a < A → RowR w.length (p.right.map (symC2 w M)) a b → M p.left.toNat a b = true
theorem spansL3 (HR : Has (Ecx X) K.probateref08_row A.probateref08_row_o) (g : Gm) (w : List Int) {N : Nat} (gw : GW g N) (hL : w.length ≤ 2 ^ 10) {M : Nat → Nat → Nat → Bool} {i : Nat} (hi : i < g.prods.length) {e st : Nat} {more : Bool} {e8 s8 : Nat} {bs : List Nat} {h' : AH} (ms : MS h h' g w.length N M) (so : Sound g w M)
    (la : LstAt h h' w N g.prods[i].right bs) (he8 : bs = [] ∨ e8 = 1) {Q : Ex → Env → AH → Prop} {zQ : Lz Q} {z : Lz (AC.loop A.probateref08_Spans.L3)}
    (hQ : ∀ h2 M2 more2, MS h h2 g w.length N M2 → Sound g w M2 → falses N w.length M2 ≤ falses N w.length M →
      (more2 = false → more = false ∧ M2 = M ∧ HoldsP w M g.prods[i] (w.length + 1)) → (more2 = true → more = true ∨ falses N w.length M2 < falses N w.length M) →
      Q (.exit 6) [(1, .sl e st (ints w)), (2, .ptr h.nobj 0), (5, matV w.length N (h.nobj + 1)), (6, .bool more2), (7, .int .i64 i), (8, .sl e8 s8 (bs.map (refV w.length))), (11, .int .i64 ((w.length + 1 : Nat) : Int)), (68, .bool false)] h2) :
    acZ (Ecx X) [(1, .sl e st (ints w)), (2, .ptr h.nobj 0), (5, matV w.length N (h.nobj + 1)), (6, .bool more), (7, .int .i64 i), (8, .sl e8 s8 (bs.map (refV w.length))), (11, .int .i64 0)] h' z zQ := by
  have hiw : (ints w).length = w.length := by simp [ints]
  have hlen := gw.len _ (List.getElem_mem hi)
  have hsym := gw.sym _ (List.getElem_mem hi)
  refine loopI (n := w.length + 1) (fun mm env h2 => ∃ a M2 more2, a ≤ w.length + 1 ∧ mm = w.length + 1 - a ∧ MS h h2 g w.length N M2 ∧ Sound g w M2 ∧ LstAt h h2 w N g.prods[i].right bs ∧ falses N w.length M2 ≤ falses N w.length M ∧
      (more2 = false → more = false ∧ M2 = M ∧ HoldsP w M g.prods[i] a) ∧ (more2 = true → more = true ∨ falses N w.length M2 < falses N w.length M) ∧
      env = [(1, .sl e st (ints w)), (2, .ptr h.nobj 0), (5, matV w.length N (h.nobj + 1)), (6, .bool more2), (7, .int .i64 i), (8, .sl e8 s8 (bs.map (refV w.length))), (11, .int .i64 a)]) ?_
    ⟨0, M, more, by omega, by omega, ms, so, la, Nat.le_refl _, fun q => ⟨q, rfl, fun a b h1 => by omega⟩, fun q => .inl q, rfl⟩
  clear ms so la h'
  rintro mm env h2 ⟨a, M2, more2, ha, rfl, ms2, so2, la2, fl2, hm0, hm1, rfl⟩
  unfold A.probateref08_Spans.L3
  by_cases hle : a ≤ w.length
  · have hle' : (a : Int) ≤ w.length := by omega
    have hw1 : IntKind.i64.wrap ((a : Int) + 1) = ((a + 1 : Nat) : Int) := by rw [wrap_i64 (by omega) (by omega)]; rfl
    have hcs := la2.cs ms2 hsym
    simp [hiw, hle']
    refine ecall (row_spec HR (L := w.length) (from' := a) (by omega) hle bs (g.prods[i].right.map (symC2 w M2)) (by rw [List.length_map, la2.len]) (by rw [la2.len]; exact hlen) hcs e8 s8 he8 fun h3 o3 g3 lo3 lt3 ob3 => ?_)
    have hfi : ∀ b, b ≤ w.length → (foldR (g.prods[i].right.map (symC2 w M2)) (fun b => decide (b = a)) b = true ↔ RowR w.length (g.prods[i].right.map (symC2 w M2)) a b) := fun b hb => by
      rw [foldR_iff _ _ b hb]
      constructor
      · rintro ⟨a', _, h2, h3⟩; simp at h2; subst h2; exact h3
      · intro h; exact ⟨a, hle, by simp, h⟩
    have nb2 := ms2.nb
    simp
    refine spansL4 (f := foldR (g.prods[i].right.map (symC2 w M2)) fun b => decide (b = a)) g w gw hL hi hle (ms2.gr' g3) so2 ob3 (by omega) lt3 (fun b hb hf => DvN.iff.2 ⟨_, List.getElem_mem hi, rfl, row_sound so2 _ _ _ (fun s hs => (hsym s hs).1) hle ((hfi b hb).1 hf)⟩) (fun h4 M4 more4 ms4 so4 nb4 ob4 fl4 x0 x1 => ?_)
    have la4 : LstAt h h4 w N g.prods[i].right bs := by
      have la3 := la2.gr g3
      exact ⟨la3.len, la3.non, fun k s b h1 h2 hn => by
        obtain ⟨c1, c2, c3⟩ := la3.tok k s b h1 h2 hn
        exact ⟨fun x hx => by rw [ob4 _ (by omega) (by omega)]; exact c1 x hx, c2, by omega⟩⟩
    simp [hw1]
    exact ⟨w.length + 1 - (a + 1), by omega, iv ⟨a + 1, M4, more4, by omega, rfl, ms4, so4, la4, by omega, fun q => by
      obtain ⟨y1, y2, y3⟩ := x0 q
      obtain ⟨z1, z2, z3⟩ := hm0 y1
      subst z2
      refine ⟨z1, y2, fun a' b h1 h2 => ?_⟩
      by_cases q : a' = a
      · subst q
        have := RowR.le hle h2
        exact y3 b this.1 this.2 ((hfi b this.2).2 h2)
      · exact z3 a' b (by omega) h2, fun q => by
      rcases x1 q with y | y
      · rcases hm1 y with z | z
        · exact .inl z
        · exact .inr (by omega)
      · exact .inr (by omega), rfl⟩⟩
  · obtain rfl : a = w.length + 1 := by omega
    have hx : ¬ ((w.length : Int) + 1 ≤ w.length) := by omega
    simp [hiw, hx]
    simpa using hQ h2 M2 more2 ms2 so2 fl2 hm0 hm1
/-- The table holds. -/
def HoldsM (g : Gm) (w : List Int) (M : Nat → Nat → Nat → Bool) : Prop := ∀ p ∈ g.prods, HoldsP w M p (w.length + 1)
/-- One turn. -/
theorem spansL1 (HN : Has (Ecx X) K.probateref08_none A.probateref08_none_o) (HT : Has (Ecx X) K.probateref08_token A.probateref08_token) (HR : Has (Ecx X) K.probateref08_row A.probateref08_row_o) (g : Gm) (w : List Int) {N : Nat} (gw : GW g N) (hL : w.length ≤ 2 ^ 10) (n3 : 3 ≤ h.next) {M : Nat → Nat → Nat → Bool} {e st : Nat} (he : w = [] ∨ e = 1) {h' : AH} (ms : MS h h' g w.length N M) (so : Sound g w M)
    {Q : Ex → Env → AH → Prop} {zQ : Lz Q} {z : Lz (AC.loop A.probateref08_Spans.L1)}
    (hQ : ∀ h2 M2 more2, MS h h2 g w.length N M2 → Sound g w M2 → (more2 = false → M2 = M ∧ HoldsM g w M) → (more2 = true → falses N w.length M2 < falses N w.length M) →
      Q (.exit 2) [(1, .sl e st (ints w)), (2, .ptr h.nobj 0), (5, matV w.length N (h.nobj + 1)), (6, .bool more2), (7, .int .i64 g.prods.length), (24, .bool false)] h2) :
    acZ (Ecx X) [(1, .sl e st (ints w)), (2, .ptr h.nobj 0), (5, matV w.length N (h.nobj + 1)), (6, .bool false), (7, .int .i64 0)] h' z zQ := by
  have hgc : gmC g = [.int .i64 g.terms, .int .i64 g.nons, .int .i64 g.start, .sl 2 0 (g.prods.map prV)] := rfl
  have hgb := gw.prods
  refine loopI (n := g.prods.length) (fun mm env h2 => ∃ i M2 more2, i ≤ g.prods.length ∧ mm = g.prods.length - i ∧ MS h h2 g w.length N M2 ∧ Sound g w M2 ∧
      (more2 = false → M2 = M ∧ ∀ p ∈ g.prods.take i, HoldsP w M p (w.length + 1)) ∧ (more2 = true → falses N w.length M2 < falses N w.length M) ∧
      env = [(1, .sl e st (ints w)), (2, .ptr h.nobj 0), (5, matV w.length N (h.nobj + 1)), (6, .bool more2), (7, .int .i64 i)]) ?_
    ⟨0, M, false, by omega, by omega, ms, so, fun _ => ⟨rfl, by simp⟩, (fun q => nomatch q), rfl⟩
  clear ms so h'
  rintro mm env h2 ⟨i, M2, more2, hi, rfl, ms2, so2, hm0, hm1, rfl⟩
  unfold A.probateref08_Spans.L1
  by_cases hlt : i < g.prods.length
  · have hlt' : (i : Int) < g.prods.length := by omega
    have hw1 : IntKind.i64.wrap ((i : Int) + 1) = ((i + 1 : Nat) : Int) := by rw [wrap_i64 (by omega) (by omega)]; rfl
    simp [ms2.ob, hgc, hlt', fillL]
    refine spansL2 HN HT g w gw hL n3 hlt he ms2 (fun h3 e8 s8 bs ms3 la3 he8 => ?_)
    simp
    refine spansL3 HR g w gw hL hlt ms3 so2 la3 he8 (fun h4 M4 more4 ms4 so4 fl4 x0 x1 => ?_)
    simp [hw1]
    exact ⟨g.prods.length - (i + 1), by omega, iv ⟨i + 1, M4, more4, by omega, rfl, ms4, so4, fun q => by
      obtain ⟨y1, y2, y3⟩ := x0 q
      obtain ⟨z1, z2⟩ := hm0 y1
      subst z1
      refine ⟨y2, fun p hp => ?_⟩
      rw [List.take_succ_eq_append_getElem hlt] at hp
      rcases List.mem_append.1 hp with hp | hp
      · exact z2 p hp
      · simp at hp; subst hp; exact y3, fun q => by
      rcases x1 q with y | y
      · have := hm1 y; omega
      · cases more2 with
        | false => have := (hm0 rfl).1; subst this; exact y
        | true => have := hm1 rfl; omega, rfl⟩⟩
  · have hlt' : ¬ (i : Int) < g.prods.length := by omega
    obtain rfl : i = g.prods.length := by omega
    rw [List.take_length] at hm0
    simp [ms2.ob, hgc, hlt']
    exact hQ h2 M2 more2 ms2 so2 hm0 hm1
theorem holds_all {g : Gm} {w : List Int} {N : Nat} (gw : GW g N) {M : Nat → Nat → Nat → Bool} (so : Sound g w M) (ho : HoldsM g w M) {n : Nat} {a b : Nat} (ha : a ≤ w.length) : M n a b = true ↔ DvN g w n a b := by
  refine ⟨so n a b, fun d => ?_⟩
  have := row_complete (N := N) (M := M) gw.left (fun p hp a b ha h => ho p hp a b (by omega) h) d
  obtain ⟨m, _, _, h3, h4⟩ := this
  cases h4
  simpa [symC2] using h3
structure LSp (X : Cx) : Prop where
  none : Has (Ecx X) K.probateref08_none A.probateref08_none_o
  token : Has (Ecx X) K.probateref08_token A.probateref08_token
  row : Has (Ecx X) K.probateref08_row A.probateref08_row_o
  spans : Has (Ecx X) K.probateref08_Spans A.probateref08_Spans
  isIn : Has (Ecx X) K.probateref08_In A.probateref08_In
/-- The table of all that comes: in an object behind the grammar's. -/
theorem spans_spec (L : LSp X) (g : Gm) (w : List Int) {N : Nat} (gw : GW g N) (hL : w.length ≤ 2 ^ 10) {e st : Nat} (he : w = [] ∨ e = 1)
    (hQ : ∀ M h', (∀ (n a b : Nat), a ≤ w.length → (M n a b = true ↔ DvN g w n a b)) → Gr h h' → MS h h' g w.length N M → Q (matV w.length N (h.nobj + 1)) h') : Ecx X K.probateref08_Spans [gmV g, .sl e st (ints w)] h Q := by
  refine fn_any L.spans (by simp [A.probateref08_Spans]) fun wf => ?_
  have hgc : gmC g = [.int .i64 g.terms, .int .i64 g.nons, .int .i64 g.start, .sl 2 0 (g.prods.map prV)] := rfl
  have hiw : (ints w).length = w.length := by simp [ints]
  have b0 : (h.new (gmC g)).objs h.nobj = gmC g := by simp
  have b1 : (h.new (gmC g)).nobj = h.nobj + 1 := by simp
  have gr := (Gr.refl h).new (gmC g)
  have n3 := wf.next
  simp [A.probateref08_Spans, gmV, V.cells, V.good]
  generalize h.new (gmC g) = h1 at *
  simp [b0, hgc, hiw, gw.nons]
  refine ecall (none_spec L.none N w.length (by have := gw.big; omega) (by omega) ?_)
  rw [b1]
  have ms0 : MS h (rowsH h1 (fun _ => boolsV (fun _ => false) (w.length + 1)) (N * (w.length + 1))) g w.length N (fun _ _ _ => false) := by
    refine ⟨gr.trans (rowsH_gr h1 _ _), by rw [rowsH_old _ _ (by omega)]; exact b0, by rw [rowsH_nobj, b1]; exact Nat.le_refl _, fun n hn a ha => ?_⟩
    have := idx_lt (L := w.length) hn ha
    rw [show h.nobj + 1 + n * (w.length + 1) + a = h1.nobj + (n * (w.length + 1) + a) by omega, rowsH_at _ _ this]
  simp
  refine loopI (n := 2 * falses N w.length (fun _ _ _ => false) + 1) (fun mm env h2 => ∃ M more, mm = 2 * falses N w.length M + (if more then 1 else 0) ∧ MS h h2 g w.length N M ∧ Sound g w M ∧ (more = false → HoldsM g w M) ∧
      env = [(1, .sl e st (ints w)), (2, .ptr h.nobj 0), (5, matV w.length N (h.nobj + 1)), (6, .bool more)]) ?_
    ⟨fun _ _ _ => false, true, rfl, ms0, (fun n a b q => nomatch q), (fun q => nomatch q), rfl⟩
  rintro mm env h2 ⟨M, more, rfl, ms, so, hm, rfl⟩
  unfold A.probateref08_Spans.L0
  cases more with
  | true =>
    simp
    refine spansL1 L.none L.token L.row g w gw hL n3 he ms so (fun h3 M3 more3 ms3 so3 x0 x1 => ?_)
    simp
    cases more3 with
    | true => exact ⟨_, by have := x1 rfl; show 2 * falses N w.length M3 + 1 < _; omega, iv ⟨M3, true, rfl, ms3, so3, (fun q => nomatch q), rfl⟩⟩
    | false =>
      obtain ⟨rfl, ho⟩ := x0 rfl
      exact ⟨2 * falses N w.length M3, by omega, iv ⟨M3, false, by simp, ms3, so3, fun _ => ho, rfl⟩⟩
  | false =>
    simp
    exact hQ M h2 (fun n a b ha => holds_all gw so (hm rfl) ha) ms.gr ms
/-- Does a nonterminal come to a part? -/
noncomputable def dvB (g : Gm) (w : List Int) (n : Int) (a b : Nat) : Bool := @decide (DvN g w n a b) (Classical.propDecidable _)
theorem dvB_iff {g : Gm} {w : List Int} {n : Int} {a b : Nat} : dvB g w n a b = true ↔ DvN g w n a b := by
  unfold dvB; exact @decide_eq_true_iff _ (Classical.propDecidable _)
/-- Does a word come of a grammar? -/
noncomputable def inG (g : Gm) (w : List Int) : Bool := dvB g w g.start 0 w.length
noncomputable def spanRow (g : Gm) (w : List Int) (k : Nat) : List V := boolsV (dvB g w ((k / (w.length + 1) : Nat) : Int) (k % (w.length + 1))) (w.length + 1)
/-- The same, told of one heap. -/
theorem spans_one (L : LSp X) (g : Gm) (w : List Int) {N : Nat} (gw : GW g N) (hL : w.length ≤ 2 ^ 10) {e st : Nat} (he : w = [] ∨ e = 1)
    (hQ : Q (matV w.length N (h.nobj + 1)) (rowsH (h.new (gmC g)) (spanRow g w) (N * (w.length + 1)))) : Ecx X K.probateref08_Spans [gmV g, .sl e st (ints w)] h Q := by
  refine Ecx.wf fun wf => Ecx.weak (spans_spec L g w gw hL he fun M h' hM gr ms => ?_)
  have nb := ms.nb
  refine ⟨_, _, .same _, ⟨by simp; exact gr.next, by simp; omega, fun s e' hs => ?_, fun o ho => ?_⟩, Bdd_matV (by simp), hQ⟩
  · simp at hs ⊢
    exact ⟨by rw [gr.tips _ (wf.tips _ _ hs).2]; exact hs, .inr hs⟩
  · simp at ho
    by_cases c : o < h.nobj
    · rw [rowsH_old _ _ (by simp; omega), new_objs_ne _ _ (by omega), gr.objs o c]
      exact ⟨WkL.refl _, .inl ⟨c, rfl⟩⟩
    · by_cases c2 : o = h.nobj
      · subst c2
        rw [rowsH_old _ _ (by simp), new_objs_same, ms.ob]
        exact ⟨WkL.refl _, .inr fun v hv => (gm_bdd g _ _ v hv)⟩
      · obtain ⟨k, rfl⟩ : ∃ k, o = h.nobj + 1 + k := ⟨o - h.nobj - 1, by omega⟩
        have hk : k < N * (w.length + 1) := by omega
        have e1 := rowsH_at (h.new (gmC g)) (spanRow g w) hk
        rw [new_nobj] at e1
        rw [e1]
        have hmod : k % (w.length + 1) ≤ w.length := by have := Nat.mod_lt k (show 0 < w.length + 1 by omega); omega
        have hdiv : k / (w.length + 1) < N := Nat.div_lt_of_lt_mul (by rw [Nat.mul_comm]; exact hk)
        have e2 := ms.at' _ hdiv _ hmod
        have e3 : h.nobj + 1 + k / (w.length + 1) * (w.length + 1) + k % (w.length + 1) = h.nobj + 1 + k := by
          have := Nat.div_add_mod k (w.length + 1)
          rw [Nat.mul_comm] at this; omega
        rw [e3] at e2
        have e4 : h'.objs (h.nobj + 1 + k) = spanRow g w k := by
          rw [e2]
          refine boolsV_congr fun b _ => Bool.eq_iff_iff.2 ?_
          rw [hM _ _ _ hmod, dvB_iff]
        rw [e4]
        exact ⟨WkL.refl _, .inr fun v hv => Bdd_bools _ _ _ _ v hv⟩
theorem in_spec (L : LSp X) (g : Gm) (w : List Int) {N : Nat} (gw : GW g N) (hs : 0 ≤ g.start ∧ g.start < N) (hL : w.length ≤ 2 ^ 10) {e st : Nat} (he : w = [] ∨ e = 1) (hQ : Q (.bool (inG g w)) h) : Ecx X K.probateref08_In [gmV g, .sl e st (ints w)] h Q := by
  refine fn_walk L.isIn (by simp [A.probateref08_In]) fun wf => ?_
  have hgc : gmC g = [.int .i64 g.terms, .int .i64 g.nons, .int .i64 g.start, .sl 2 0 (g.prods.map prV)] := rfl
  have hiw : (ints w).length = w.length := by simp [ints]
  have gr := (Gr.refl h).new (gmC g)
  have b0 : (h.new (gmC g)).objs h.nobj = gmC g := by simp
  have b1 : (h.new (gmC g)).nobj = h.nobj + 1 := by simp
  simp [A.probateref08_In, gmV, V.cells, V.good]
  generalize h.new (gmC g) = h1 at *
  simp [b0, hgc]
  rw [← hgc]
  refine dcallE _ _ (spans_one L g w gw hL he ⟨rfl, rfl⟩) ?_
  obtain ⟨n, hn⟩ : ∃ n : Nat, g.start = (n : Int) := ⟨g.start.toNat, by omega⟩
  have hnN : n < N := by omega
  have hnN' : (n : Int) < N := by omega
  have hgr2 : Gr h1 (rowsH (h1.new (gmC g)) (spanRow g w) (N * (w.length + 1))) := ((Gr.refl h1).new _).trans (rowsH_gr _ _ _)
  have q0 : (rowsH (h1.new (gmC g)) (spanRow g w) (N * (w.length + 1))).objs h.nobj = gmC g := by rw [hgr2.objs _ (by omega)]; exact b0
  have q1 : (rowsH (h1.new (gmC g)) (spanRow g w) (N * (w.length + 1))).objs (h1.nobj + 1 + n * (w.length + 1)) = boolsV (dvB g w n 0) (w.length + 1) := by
    have hi := idx_lt (L := w.length) hnN (Nat.zero_le _)
    have := rowsH_at (h1.new (gmC g)) (spanRow g w) (i := n * (w.length + 1)) (by omega)
    rw [new_nobj] at this
    rw [this]
    unfold spanRow
    rw [Nat.mul_div_cancel _ (by omega), Nat.mul_mod_left]
  generalize rowsH (h1.new (gmC g)) (spanRow g w) (N * (w.length + 1)) = h2 at *
  have hmg : ((List.range N).map fun n => refV w.length (h1.nobj + 1 + n * (w.length + 1))).getD n .undef = .sl 1 0 ((List.range (w.length + 1)).map fun a => .osl 1 (h1.nobj + 1 + n * (w.length + 1) + a) 0 (w.length + 1) (w.length + 1)) := matV_get hnN
  have hrg := refV_get (L := w.length) (b := h1.nobj + 1 + n * (w.length + 1)) (a := 0) (by omega)
  have hgb : (boolsV (dvB g w n 0) (w.length + 1)).getD w.length .undef = .bool (dvB g w n 0 w.length) := boolsV_get (by omega)
  have hin : inG g w = dvB g w n 0 w.length := by unfold inG; rw [hn]
  rw [hin] at hQ
  have hgc' : gmC g = [.int .i64 g.terms, .int .i64 g.nons, .int .i64 (n : Int), .sl 2 0 (g.prods.map prV)] := by rw [hgc, hn]
  simp [q0, hgc', matV, hnN', hmg, V.cells, hrg, q1, hgb, hiw]
  refine ⟨by rw [b0, hgc']; simp, by omega, fin_wk (gr.trans hgr2) (.same _) (by simp) hQ⟩
end
end Go.Proofs.Ytmobijebjkjnoaa.Al
namespace Go.Proofs.Ytmobijebjkjnoaa.Al
open Go Go.RowKit
set_option linter.unusedSimpArgs false
set_option linter.unusedVariables false
/-- A value, with new objects, and as it is told. -/
inductive RenV (os : Nat → Nat) (b : Nat) : Nat → V → V → Prop
  | one (e off len cap : Nat) : RenV os b 1 (.osl e (os 0) off len cap) (.osl e (b + 0) off len cap)
  | many (k st n c : Nat) : RenV os b k (.sl 1 st ((List.range k).map fun i => .osl 1 (os i) 0 n c)) (.sl 1 0 ((List.range k).map fun i => .osl 1 (b + i) 0 n c))
section
variable {X : Cx} {h : AH} {Q : V → AH → Prop}
theorem Ecx.ren {k : Nat} {args : List V} (c : Ecx X k args h fun r h1 => ∃ (os : Nat → Nat) (n : Nat) (z : Nat → List V) (r' : V), RenV os h.nobj n r r' ∧ Gr h h1 ∧ (∀ i, i < n → h.nobj ≤ os i ∧ os i < h1.nobj ∧ h1.objs (os i) = z i) ∧ (∀ i j, i < n → j < n → os i = os j → i = j) ∧
      (∀ i, ∀ v ∈ z i, Bdd h.next h.nobj v) ∧ Q r' (rowsH h z n)) : Ecx X k args h Q := by
  intro g w cargs I rl
  refine (c g w cargs I rl).mono ?_
  rintro x w' ⟨r, h1, g', ⟨os, n, z, r', hv, G, hos, inj, hz, q⟩, I', rx, S⟩
  have n3 := I.next
  have hnn : (rowsH h z n).nobj = h.nobj + n := rowsH_nobj h z n
  have htip : ∀ s e', h.tips s = some e' → s < h.next ∧ h1.tips s = some e' := fun s e' he => by
    have := (I.tipB s e' he).2.1
    exact ⟨this, by rw [G.tips s this]; exact he⟩
  have hmp : ∀ i, i < n → g'.mp (os i) = false := by
    cases hv with
    | one e off len cap =>
      cases rx with
      | osl _ _ _ _ _ c hn hm hc hk => intro i hi; rw [show i = 0 by omega]; exact hm
    | many k st m c =>
      intro i hi
      generalize heq : ((List.range n).map fun i => V.osl 1 (os i) 0 m c) = lst at rx
      cases rx with
      | slnil e st hst => 
        exfalso
        have := congrArg List.length heq
        simp at this; omega
      | slemp e a =>
        exfalso
        have := congrArg List.length heq
        simp at this; omega
      | sl e st l b off cap y h1' hs hcap he hc ho hp hr h2 h3 =>
        subst heq
        have hcl : cellsOf ((List.range n).map fun i => V.osl 1 (os i) 0 m c) = (List.range n).map fun i => V.osl 1 (os i) 0 m c := cells_refs _ _ fun _ => rfl
        have := hr i (by rw [hcl]; simpa using hi)
        simp only [hcl, List.getElem_map, List.getElem_range] at this
        generalize y i = yi at this
        cases this with
        | osl _ _ _ _ _ _ hn hm _ _ => exact hm
  obtain ⟨g2, hg2⟩ : ∃ g2 : Gh, g2 = { g' with obj := fun o => if o < h.nobj then g'.obj o else g'.obj (os (o - h.nobj)), mp := fun o => if o < h.nobj then g'.mp o else false } := ⟨_, rfl⟩
  have go : ∀ o, o < h.nobj → g2.obj o = g'.obj o := fun o ho => by rw [hg2]; simp [ho]
  have gn : ∀ i, g2.obj (h.nobj + i) = g'.obj (os i) := fun i => by rw [hg2]; simp only [if_neg (show ¬ h.nobj + i < h.nobj by omega)]; congr 2; omega
  have gm : ∀ o, o < h.nobj → g2.mp o = g'.mp o := fun o ho => by rw [hg2]; simp [ho]
  have gmn : ∀ i, g2.mp (h.nobj + i) = false := fun i => by rw [hg2]; simp only [if_neg (show ¬ h.nobj + i < h.nobj by omega)]
  have gt : g2.tip = g'.tip := by rw [hg2]
  have gp : g2.pub = g'.pub := by rw [hg2]
  have conv : ∀ {v : V} {y : Value}, Rel X g' w' h1 v y → Bdd h.next h.nobj v → Rel X g2 w' (rowsH h z n) v y := fun {v y} rr bd => by
    induction rr with
    | bool b => exact .bool b
    | int k n => exact .int k n
    | str s => exact .str s
    | slnil e st hst => exact .slnil e st hst
    | slemp e a => exact .slemp e a
    | sl e st l b' off cap x h1 hs hcap he hc ho hp hr h2 h3 ih =>
      cases bd with
      | sl _ _ _ hs' hl =>
        refine .sl e st l b' off cap x h1 (by rw [rowsH_next]; omega) hcap he hc ho (by rw [gp]; exact hp) (fun i hi => ih i hi (hl _ (List.getElem_mem hi))) h2 (fun e' he' => ?_)
        rw [rowsH_tips] at he'
        obtain ⟨a, b, c, d⟩ := h3 e' (htip _ _ he').2
        exact ⟨a, by rw [gt]; exact b, by rw [gp]; exact c, d⟩
    | agg l cs hl ho hr ih =>
      cases bd with
      | agg _ hb => exact .agg l cs hl ho (fun i h1 h2 => ih i h1 h2 (hb _ (List.getElem_mem h1)))
    | ptr o off hn hm => cases bd with | ptr _ _ ho => rw [← go o ho]; exact .ptr o off (by rw [hnn]; omega) (by rw [gm o ho]; exact hm)
    | mapr o hn hm => cases bd with | mapr _ ho => rw [← go o ho]; exact .mapr o (by rw [hnn]; omega) (by rw [gm o ho]; exact hm)
    | mapn => exact .mapn
    | osl e o off len cap c hn hm hc hk => cases bd with | osl _ _ _ _ _ ho => rw [← go o ho]; exact .osl e o off len cap c (by rw [hnn]; omega) (by rw [gm o ho]; exact hm) hc hk
    | rptr l off b' base x hc ho hp hr ih =>
      cases bd with
      | rptr _ _ hb => exact .rptr l off b' base x hc ho (by rw [gp]; exact hp) (fun i hi => ih i hi (hb _ (List.getElem_mem hi)))
    | nilp => exact .nilp
    | fn f first cap fs cs hf hcl hr1 hr2 ih1 ih2 =>
      cases bd with
      | fn _ _ _ b1 b2 => exact .fn f first cap fs cs hf hcl (fun i h1 h2 => ih1 i h1 h2 (b1 _ (List.getElem_mem h1))) (fun i h1 h2 => ih2 i h1 h2 (b2 _ (List.getElem_mem h1)))
    | nilf => exact .nilf
    | tup l cs hl hr ih =>
      cases bd with
      | tup _ hb => exact .tup l cs hl (fun i h1 h2 => ih i h1 h2 (hb _ (List.getElem_mem h1)))
    | undef v => exact .undef v
  have hbd : ∀ o, o < h.nobj → ∀ v ∈ h.objs o, Bdd h.next h.nobj v := fun o ho v hv => I.objBdd ho v hv
  -- an object as told: which one it is
  have wh : ∀ o, o < (rowsH h z n).nobj → ∃ o', g2.obj o = g'.obj o' ∧ o' < h1.nobj ∧ g2.mp o = g'.mp o' ∧ (rowsH h z n).objs o = h1.objs o' ∧ (∀ v ∈ h1.objs o', Bdd h.next h.nobj v) ∧ ((o < h.nobj ∧ o' = o) ∨ (h.nobj ≤ o ∧ o' = os (o - h.nobj) ∧ o - h.nobj < n)) := fun o ho => by
    rw [hnn] at ho
    by_cases c : o < h.nobj
    · exact ⟨o, go o c, Nat.lt_of_lt_of_le c G.nobj, gm o c, by rw [rowsH_old h z c, G.objs o c], by rw [G.objs o c]; exact hbd o c, .inl ⟨c, rfl⟩⟩
    · obtain ⟨i, rfl⟩ : ∃ i, o = h.nobj + i := ⟨o - h.nobj, by omega⟩
      obtain ⟨a, b, e⟩ := hos i (by omega)
      exact ⟨os i, gn i, b, by rw [gmn, hmp i (by omega)], by rw [rowsH_at h z (by omega), e], by rw [e]; exact hz i, .inr ⟨by omega, by congr 1; omega, by omega⟩⟩
  have S2 : Stp g w h g2 w' (rowsH h z n) :=
    { next := by rw [rowsH_next]; exact Nat.le_refl _
      nobj := by rw [hnn]; omega
      obj := fun o ho => by rw [go o ho]; exact S.obj o ho
      mp := fun o ho => by rw [gm o ho]; exact S.mp o ho
      pub := by rw [gp]; exact S.pub
      cell := S.cell
      tip := fun s hs e he => by
        rw [rowsH_tips] at he
        obtain ⟨a, b, c⟩ := S.tip s hs e (htip s e he).2
        exact ⟨he, by rw [gt]; exact b, by rw [gp]; exact c⟩
      row := fun s hs e he => by rw [rowsH_tips] at he; exact S.row s hs e (htip s e he).2 }
  refine ⟨r', _, g2, q, ?_, ?_, S2⟩
  · exact
      { below := I'.below
        next := by rw [rowsH_next]; exact n3
        maps := fun o ho hm => by
          obtain ⟨o', e1, e2, e3, e4, e5, e6⟩ := wh o ho
          obtain ⟨es, k1, k2, k3, k4⟩ := I'.maps o' e2 (by rw [← e3]; exact hm)
          refine ⟨es, by rw [e1]; exact k1, by rw [e4]; exact k2, k3, fun i i1 i2 => ?_⟩
          simp only [e4] at i1 ⊢
          exact conv (k4 i i1 i2) (e5 _ (List.getElem_mem i1))
        objs := fun o ho hm hne => by
          obtain ⟨o', e1, e2, e3, e4, e5, e6⟩ := wh o ho
          obtain ⟨cs, t, k1, k2, k3, k4⟩ := I'.objs o' e2 (by rw [← e3]; exact hm) (by rw [← e4]; exact hne)
          refine ⟨cs, t, by rw [e1]; exact k1, by rw [e4]; exact k2, k3, fun i i1 i2 => ?_⟩
          simp only [e4] at i1 ⊢
          exact conv (k4 i i1 i2) (e5 _ (List.getElem_mem i1))
        objL := fun {o} ho => by
          obtain ⟨o', e1, e2, _⟩ := wh o ho
          rw [e1]; exact I'.objL e2
        objB := fun o ho => by
          obtain ⟨o', e1, e2, e3, e4, _⟩ := wh o ho
          rw [e1, e3, e4, gp]; exact I'.objB o' e2
        objI := fun o o2 ho ho2 heq => by
          obtain ⟨p, e1, e2, _, _, _, e6⟩ := wh o ho
          obtain ⟨p2, f1, f2, _, _, _, f6⟩ := wh o2 ho2
          rw [e1, f1] at heq
          have hpp := I'.objI p p2 e2 f2 heq
          rcases e6 with ⟨a1, a2⟩ | ⟨a1, a2, a3⟩ <;> rcases f6 with ⟨b1, b2⟩ | ⟨b1, b2, b3⟩
          · omega
          · exfalso; have := (hos _ b3).1; omega
          · exfalso; have := (hos _ a3).1; omega
          · have := inj _ _ a3 b3 (by omega); omega
        tipB := fun s e he => by
          rw [rowsH_tips] at he
          obtain ⟨a, b⟩ := htip s e he
          obtain ⟨c1, c2, c3, c4⟩ := I'.tipB s e b
          exact ⟨c1, by rw [rowsH_next]; exact a, by rw [gt]; exact c3, by rw [gt]; exact c4⟩
        tipI := fun s e s' e' a b c => by
          rw [rowsH_tips] at a b
          rw [gt] at c
          exact I'.tipI s e s' e' (htip s e a).2 (htip s' e' b).2 c
        tipO := fun o s e ho he => by
          rw [rowsH_tips] at he
          obtain ⟨o', e1, e2, _⟩ := wh o ho
          rw [e1, gt]; exact I'.tipO o' s e e2 (htip s e he).2
        pubB := by rw [gp]; exact I'.pubB }
  · have osl : ∀ {e i off len cap : Nat} {y : Value}, i < n → Rel X g' w' h1 (.osl e (os i) off len cap) y → Rel X g2 w' (rowsH h z n) (.osl e (h.nobj + i) off len cap) y := fun {e i off len cap y} hi rr => by
      cases rr with
      | osl _ _ _ _ _ c hn hm hc hk =>
        rw [← gn i]
        exact .osl _ _ _ _ _ c (by rw [hnn]; omega) (gmn i) hc hk
    cases hv with
    | one e off len cap => exact osl (by omega) rx
    | many k st m c =>
      have hcl : ∀ f : Nat → Nat, cellsOf ((List.range n).map fun i => V.osl 1 (f i) 0 m c) = (List.range n).map fun i => V.osl 1 (f i) 0 m c := fun f => cells_refs _ _ fun _ => rfl
      generalize heq : ((List.range n).map fun i => V.osl 1 (os i) 0 m c) = lst at rx
      cases rx with
      | slnil e st hst =>
        have hn0 : n = 0 := by have := congrArg List.length heq; simpa using this
        subst hn0
        exact .slnil _ _ (by omega)
      | slemp e a =>
        have hn0 : n = 0 := by have := congrArg List.length heq; simpa using this
        subst hn0
        exact .slemp _ a
      | sl e st l b off cap y h1' hs hcap he hc ho hp hr h2 h3 =>
        subst heq
        have hlen : ((List.range n).map fun i => V.osl 1 (os i) 0 m c).length = ((List.range n).map fun i => V.osl 1 (h.nobj + i) 0 m c).length := by simp
        rw [hlen]
        refine .sl 1 0 _ b off cap y (by omega) (by rw [rowsH_next]; omega) (by rw [← hlen]; exact hcap) (fun v hv => ?_) (fun i hi => ?_) (fun i hi => ?_) ?_ (fun i hi => ?_) (fun q => by omega) (fun e' he' => ?_)
        · obtain ⟨i, _, rfl⟩ := List.mem_map.1 hv; rfl
        · exact hc i (by rw [hcl] at hi ⊢; simpa using hi)
        · exact ho i (by rw [hcl] at hi ⊢; simpa using hi)
        · rw [hcl, ← hlen, gp]; rw [hcl] at hp; exact hp
        · have hi' : i < n := by rw [hcl] at hi; simpa using hi
          have := hr i (by rw [hcl]; simpa using hi')
          simp only [hcl, List.getElem_map, List.getElem_range] at this ⊢
          exact osl hi' this
        · rw [rowsH_tips] at he'
          have := (I.tipB 0 e' he').1
          omega
end
end Go.Proofs.Ytmobijebjkjnoaa.Al
namespace Go.Proofs.Ytmobijebjkjnoaa.Al
open Go Go.RowKit
set_option linter.unusedSimpArgs false
set_option linter.unusedVariables false
attribute [-simp] List.getD_eq_getElem?_getD Int.not_lt Int.not_le List.map_take List.map_map
inductive StarR (L : Nat) (c : Nat → Nat → Bool) : Nat → Nat → Prop
  | refl (a : Nat) : StarR L c a a
  | snoc (a m b : Nat) (h : StarR L c a m) (h1 : m ≤ b) (h2 : b ≤ L) (h3 : c m b = true) : StarR L c a b
theorem StarR.le {L : Nat} {c : Nat → Nat → Bool} {a b : Nat} (s : StarR L c a b) (ha : a ≤ L) : a ≤ b ∧ b ≤ L := by
  induction s with
  | refl => exact ⟨Nat.le_refl _, ha⟩
  | snoc m b h h1 h2 h3 ih => have := ih; omega
noncomputable def starB (L : Nat) (c : Nat → Nat → Bool) (a b : Nat) : Bool := @decide (StarR L c a b) (Classical.propDecidable _)
theorem starB_iff {L : Nat} {c : Nat → Nat → Bool} {a b : Nat} : starB L c a b = true ↔ StarR L c a b := by
  unfold starB; exact @decide_eq_true_iff _ (Classical.propDecidable _)
def fals1 (L : Nat) (f : Nat → Bool) : Nat := (List.range (L + 1)).countP fun b => !f b
theorem fals1_set {L b : Nat} {f : Nat → Bool} (hb : b ≤ L) (h : f b = false) : fals1 L (fun b' => decide (b' = b) || f b') < fals1 L f := by
  unfold fals1
  refine countP_lt (x := b) (fun y hy => ?_) (by simp; omega) (by simp [h]) (by simp)
  cases hq : f y <;> simp_all
section
variable {X : Cx} {h : AH} {Q : V → AH → Prop}
theorem starL2 {L a b0 o : Nat} (hL : L ≤ 2 ^ 10) (ha : a ≤ L) {c : Nat → Nat → Bool} {f : Nat → Bool} {more : Bool} {h' : AH} (rc : RefAt h' L b0 c) (ob : h'.objs o = boolsV f (L + 1)) (hno : ∀ a, a ≤ L → ¬ b0 + a = o) {Q : Ex → Env → AH → Prop} {zQ : Lz Q} {z : Lz (AC.loop A.probateref08_star_o.L2)}
    (hQ : ∀ f2 more2, (∀ b, f b = true → f2 b = true) → (∀ b, f2 b = true → f b = true ∨ (a ≤ b ∧ b ≤ L ∧ f2 a = true ∧ c a b = true ∧ f a = true) ) → fals1 L f2 ≤ fals1 L f → (more2 = false → more = false ∧ f2 = f ∧ ∀ b, a ≤ b → b ≤ L → f a = true → c a b = true → f b = true) → (more2 = true → more = true ∨ fals1 L f2 < fals1 L f) →
      Q (.exit 4) [(0, refV L b0), (2, .int .i64 L), (7, .osl 1 o 0 (L + 1) (L + 1)), (8, .bool more2), (9, .int .i64 a), (10, .int .i64 ((L + 1 : Nat) : Int)), (26, .bool false)] (h'.set o (boolsV f2 (L + 1)))) :
    acZ (Ecx X) [(0, refV L b0), (2, .int .i64 L), (7, .osl 1 o 0 (L + 1) (L + 1)), (8, .bool more), (9, .int .i64 a), (10, .int .i64 a)] h' z zQ := by
  have hal : a < L + 1 := by omega
  have hal' : (a : Int) < (L : Int) + 1 := by omega
  refine loopI (n := L + 1 - a) (fun mm env h2 => ∃ b f2 more2, a ≤ b ∧ b ≤ L + 1 ∧ mm = L + 1 - b ∧ h2 = h'.set o (boolsV f2 (L + 1)) ∧ (∀ b, f b = true → f2 b = true) ∧ (∀ b, f2 b = true → f b = true ∨ (a ≤ b ∧ b ≤ L ∧ f2 a = true ∧ c a b = true ∧ f a = true)) ∧ fals1 L f2 ≤ fals1 L f ∧
      (more2 = false → more = false ∧ f2 = f ∧ ∀ b', a ≤ b' → b' < b → f a = true → c a b' = true → f b' = true) ∧ (more2 = true → more = true ∨ fals1 L f2 < fals1 L f) ∧
      env = [(0, refV L b0), (2, .int .i64 L), (7, .osl 1 o 0 (L + 1) (L + 1)), (8, .bool more2), (9, .int .i64 a), (10, .int .i64 b)]) ?_
    ⟨a, f, more, Nat.le_refl _, by omega, rfl, by rw [← ob, set_self rfl], fun _ q => q, fun _ q => .inl q, Nat.le_refl _, fun q => ⟨q, rfl, fun b' h1 h2 => by omega⟩, fun q => .inl q, rfl⟩
  rintro mm env h2 ⟨b, f2, more2, hab, hbl, rfl, rfl, up, dn, fl, m0, m1, rfl⟩
  unfold A.probateref08_star_o.L2
  have q0 : (h'.set o (boolsV f2 (L + 1))).objs o = boolsV f2 (L + 1) := by simp
  have q1 : (h'.set o (boolsV f2 (L + 1))).objs (b0 + a) = boolsV (c a) (L + 1) := by rw [set_objs_ne _ _ _ (hno a ha)]; exact rc a ha
  have hss : ∀ y, (h'.set o (boolsV f2 (L + 1))).set o y = h'.set o y := fun y => by simp
  generalize hh : h'.set o (boolsV f2 (L + 1)) = h2 at *
  by_cases hle : b ≤ L
  · have hle' : (b : Int) ≤ L := by omega
    have hbl' : b < L + 1 := by omega
    have hbl2 : (b : Int) < (L : Int) + 1 := by omega
    have hw1 : IntKind.i64.wrap ((b : Int) + 1) = ((b + 1 : Nat) : Int) := by rw [wrap_i64 (by omega) (by omega)]; rfl
    have g0 : (boolsV f2 (L + 1)).getD a .undef = .bool (f2 a) := boolsV_get hal
    have g1 : (boolsV f2 (L + 1)).getD b .undef = .bool (f2 b) := boolsV_get hbl'
    have g2 : (boolsV (c a) (L + 1)).getD b .undef = .bool (c a b) := boolsV_get hbl'
    have hrg := refV_get (L := L) (b := b0) ha
    have hset := boolsV_set f2 hbl' true
    have skip : (f2 a = true → c a b = true → f2 b = true) → more2 = false → more = false ∧ f2 = f ∧ ∀ b', a ≤ b' → b' < b + 1 → f a = true → c a b' = true → f b' = true := fun hs q => by
      obtain ⟨x, y, zz⟩ := m0 q
      refine ⟨x, y, fun b' h1 h2 h3 h4 => ?_⟩
      by_cases e : b' = b
      · subst e; subst y; exact hs h3 h4
      · exact zz b' h1 (by omega) h3 h4
    cases hfa : f2 a with
    | false =>
      rw [hfa] at g0
      simp [hle', hal, hal', refV, V.cells, q0, g0, hw1]
      exact ⟨L + 1 - (b + 1), by omega, iv ⟨b + 1, f2, more2, by omega, by omega, rfl, hh.symm, up, dn, fl, skip (fun q => by rw [hfa] at q; cases q), m1, rfl⟩⟩
    | true =>
      rw [hfa] at g0
      cases hcb : c a b with
      | false =>
        rw [hcb] at g2
        simp [hle', hal, hal', refV, V.cells, q0, g0, hrg, q1, g2, hbl', hbl2, hw1]
        exact ⟨L + 1 - (b + 1), by omega, iv ⟨b + 1, f2, more2, by omega, by omega, rfl, hh.symm, up, dn, fl, skip (fun _ q => by rw [hcb] at q; cases q), m1, rfl⟩⟩
      | true =>
        rw [hcb] at g2
        cases hfb : f2 b with
        | true =>
          rw [hfb] at g1
          simp [hle', hal, hal', refV, V.cells, q0, g0, hrg, q1, g2, g1, hbl', hbl2, hw1]
          exact ⟨L + 1 - (b + 1), by omega, iv ⟨b + 1, f2, more2, by omega, by omega, rfl, hh.symm, up, dn, fl, skip (fun _ _ => hfb), m1, rfl⟩⟩
        | false =>
          rw [hfb] at g1
          have hfs := fals1_set hle hfb
          have hne : ¬ a = b := fun e => by rw [e, hfb] at hfa; cases hfa
          simp [hle', hal, hal', refV, V.cells, V.good, setAt, q0, g0, hrg, q1, g2, g1, hbl', hbl2, hset, hss, hw1]
          refine ⟨hle, ?_⟩
          exact ⟨L + 1 - (b + 1), by omega, iv ⟨b + 1, fun b' => decide (b' = b) || f2 b', true, by omega, by omega, rfl, rfl, fun b' q => by simp [up b' q], fun b' q => by
            have hfa' : f a = true := by
              rcases dn a hfa with q | q
              · exact q
              · exact q.2.2.2.2
            by_cases e : b' = b
            · subst e; exact .inr ⟨hab, hle, by simp [hfa], hcb, hfa'⟩
            · simp [e] at q
              rcases dn b' q with y | y
              · exact .inl y
              · exact .inr ⟨y.1, y.2.1, by simp [hfa], y.2.2.2.1, y.2.2.2.2⟩, by omega, (fun q => nomatch q), (fun _ => .inr (by omega)), rfl⟩⟩
  · obtain rfl : b = L + 1 := by omega
    have hx : ¬ ((L : Int) + 1 ≤ L) := by omega
    simp [hx]
    have := hQ f2 more2 up dn fl (fun q => by
      obtain ⟨x, y, zz⟩ := m0 q
      exact ⟨x, y, fun b h1 h2 => zz b h1 (by omega)⟩) m1
    rw [← hh]
    simpa using this
theorem star_spec (H : Has (Ecx X) K.probateref08_star A.probateref08_star_o) {L from' b0 : Nat} (hL : L ≤ 2 ^ 10) (hf : from' ≤ L) {c : Nat → Nat → Bool} (rc : RefAt h L b0 c) (hb0 : b0 + (L + 1) ≤ h.nobj)
    (hQ : ∀ h' o, Gr h h' → h.nobj ≤ o → o < h'.nobj → h'.objs o = boolsV (starB L c from') (L + 1) → Q (.osl 1 o 0 (L + 1) (L + 1)) h') : Ecx X K.probateref08_star [refV L b0, .int .i64 from', .int .i64 L] h Q := by
  refine fn_any H (by simp [A.probateref08_star_o]) fun wf => ?_
  have hwL : IntKind.i64.wrap ((L : Int) + 1) = ((L + 1 : Nat) : Int) := by rw [wrap_i64 (by omega) (by omega)]; rfl
  have hfl : from' < L + 1 := by omega
  have hfl2 : (from' : Int) < (L : Int) + 1 := by omega
  have hset := boolsV_set (fun _ => false) hfl true
  simp [A.probateref08_star_o, hwL]
  refine ⟨by omega, by omega, ?_⟩
  rw [repl_false]
  simp [hfl, hfl2, V.cells, V.good, setAt, hset]
  refine ⟨by omega, ?_⟩
  have gr1 := (Gr.refl h).new (boolsV (fun b' => decide (b' = from')) (L + 1))
  have o1 : (h.new (boolsV (fun b' => decide (b' = from')) (L + 1))).objs h.nobj = boolsV (fun b' => decide (b' = from')) (L + 1) := by simp
  have o2 : (h.new (boolsV (fun b' => decide (b' = from')) (L + 1))).nobj = h.nobj + 1 := by simp
  generalize h.new (boolsV (fun b' => decide (b' = from')) (L + 1)) = h1 at *
  refine loopI (n := 2 * fals1 L (fun b' => decide (b' = from')) + 1) (fun mm env h' => ∃ f more, mm = 2 * fals1 L f + (if more then 1 else 0) ∧ Gr h h' ∧ h.nobj < h'.nobj ∧ h'.objs h.nobj = boolsV f (L + 1) ∧ f from' = true ∧ (∀ b, f b = true → StarR L c from' b) ∧ (more = false → ∀ a b, a ≤ b → b ≤ L → f a = true → c a b = true → f b = true) ∧
      env = [(0, refV L b0), (2, .int .i64 L), (7, .osl 1 h.nobj 0 (L + 1) (L + 1)), (8, .bool more)]) ?_
    ⟨_, true, rfl, gr1, by omega, o1, by simp, fun b q => by simp at q; subst q; exact .refl _, (fun q => nomatch q), rfl⟩
  clear gr1 o1 o2 h1
  rintro mm env h' ⟨f, more, rfl, gr, nb, ob, ff, so, cl, rfl⟩
  unfold A.probateref08_star_o.L0
  cases more with
  | false =>
    simp
    refine hQ h' h.nobj gr (Nat.le_refl _) nb ?_
    rw [ob]
    refine boolsV_congr fun b hb => Bool.eq_iff_iff.2 ?_
    rw [starB_iff]
    refine ⟨so b, fun s => ?_⟩
    induction s with
    | refl => exact ff
    | snoc m b h h1 h2 h3 ih => exact cl rfl m b h1 h2 (ih (by omega)) h3
  | true =>
    simp
    refine loopI (n := L + 1) (fun mm env h2 => ∃ a f2 more2, a ≤ L + 1 ∧ mm = L + 1 - a ∧ Gr h h2 ∧ h.nobj < h2.nobj ∧ h2.objs h.nobj = boolsV f2 (L + 1) ∧ f2 from' = true ∧ (∀ b, f2 b = true → StarR L c from' b) ∧
        (more2 = false → f2 = f ∧ ∀ a' b, a' < a → a' ≤ b → b ≤ L → f a' = true → c a' b = true → f b = true) ∧ (more2 = true → fals1 L f2 < fals1 L f) ∧
        env = [(0, refV L b0), (2, .int .i64 L), (7, .osl 1 h.nobj 0 (L + 1) (L + 1)), (8, .bool more2), (9, .int .i64 a)]) ?_
      ⟨0, f, false, by omega, by omega, gr, nb, ob, ff, so, fun _ => ⟨rfl, fun a' b h1 => by omega⟩, (fun q => nomatch q), rfl⟩
    clear gr nb ob h'
    rintro mm env h2 ⟨a, f2, more2, ha, rfl, gr, nb, ob, ff2, so2, m0, m1, rfl⟩
    unfold A.probateref08_star_o.L1
    by_cases hle : a ≤ L
    · have hle' : (a : Int) ≤ L := by omega
      have hw1 : IntKind.i64.wrap ((a : Int) + 1) = ((a + 1 : Nat) : Int) := by rw [wrap_i64 (by omega) (by omega)]; rfl
      simp [hle']
      refine starL2 hL hle (h' := h2) (c := c) (fun a ha => (gr.objs _ (by omega)).trans (rc a ha)) ob (fun a ha => by omega) (fun f3 more3 up dn fl x0 x1 => ?_)
      simp [hw1]
      exact ⟨L + 1 - (a + 1), by omega, iv ⟨a + 1, f3, more3, by omega, rfl, gr.set (Nat.le_refl _) _, by rw [set_nobj]; exact nb, by rw [set_objs_same], up _ ff2, fun b q => by
        rcases dn b q with y | ⟨y1, y2, y3, y4, y5⟩
        · exact so2 b y
        · exact .snoc _ a _ (so2 a y5) y1 y2 y4, fun q => by
        obtain ⟨y1, y2, y3⟩ := x0 q
        obtain ⟨z1, z2⟩ := m0 y1
        subst z1
        refine ⟨y2, fun a' b h1 h2 h3 h4 h5 => ?_⟩
        by_cases e : a' = a
        · subst e; exact y3 b h2 h3 h4 h5
        · exact z2 a' b (by omega) h2 h3 h4 h5, fun q => by
        rcases x1 q with y | y
        · have := m1 y; omega
        · cases more2 with
          | false => have := (m0 rfl).1; subst this; exact y
          | true => have := m1 rfl; omega, rfl⟩⟩
    · obtain rfl : a = L + 1 := by omega
      have hx : ¬ ((L : Int) + 1 ≤ L) := by omega
      simp [hx]
      cases more2 with
      | true => exact ⟨2 * fals1 L f2 + 1, by have := m1 rfl; omega, iv ⟨f2, true, rfl, gr, nb, ob, ff2, so2, (fun q => nomatch q), rfl⟩⟩
      | false =>
        obtain ⟨rfl, hc⟩ := m0 rfl
        exact ⟨2 * fals1 L f2, by omega, iv ⟨f2, false, rfl, gr, nb, ob, ff2, so2, fun _ a b h1 h2 => hc a b (by omega) h1 h2, rfl⟩⟩
end
end Go.Proofs.Ytmobijebjkjnoaa.Al
namespace Go.Proofs.Ytmobijebjkjnoaa.Al
open Go Go.RowKit
set_option linter.unusedSimpArgs false
set_option linter.unusedVariables false
attribute [-simp] List.getD_eq_getElem?_getD Int.not_lt Int.not_le List.map_take List.map_map
section
variable {X : Cx} {h : AH} {Q : V → AH → Prop}
theorem stars_spec (HS : Has (Ecx X) K.probateref08_star A.probateref08_star_o) (H : Has (Ecx X) K.probateref08_stars A.probateref08_stars) {L b0 : Nat} (hL : L ≤ 2 ^ 10) {c : Nat → Nat → Bool} (rc : RefAt h L b0 c) (hb0 : b0 + (L + 1) ≤ h.nobj)
    (hQ : Q (refV L h.nobj) (rowsH h (fun a => boolsV (starB L c a) (L + 1)) (L + 1))) : Ecx X K.probateref08_stars [refV L b0, .int .i64 L] h Q := by
  refine Ecx.ren (fn_any H (by simp [A.probateref08_stars]) fun wf => ?_)
  have n3 := wf.next
  simp [A.probateref08_stars, fillL]
  refine loopI (n := L + 1) (fun mm env h' => ∃ (a st : Nat) (os : Nat → Nat), a ≤ L + 1 ∧ mm = L + 1 - a ∧ Own h h' 1 1 st ((List.range a).map fun i => .osl 1 (os i) 0 (L + 1) (L + 1)) ∧ (st ≤ 2 ∨ st < h'.next) ∧ (∀ i, i < a → h.nobj ≤ os i ∧ os i < h'.nobj ∧ h'.objs (os i) = boolsV (starB L c i) (L + 1)) ∧ (∀ i j, i < j → j < a → os i < os j) ∧
      env = [(0, refV L b0), (1, .int .i64 L), (5, .sl 1 st ((List.range a).map fun i => .osl 1 (os i) 0 (L + 1) (L + 1))), (6, .int .i64 a)]) ?_
    ⟨0, 2, fun i => i, by omega, by omega, Own.full (Gr.refl h) 1 [], by omega, fun i hi => by omega, fun i j _ hj => by omega, rfl⟩
  rintro mm env h' ⟨a, st, os, ha, rfl, ow, ba, hos, inc, rfl⟩
  unfold A.probateref08_stars.L0
  by_cases hle : a ≤ L
  · have hle' : (a : Int) ≤ L := by omega
    have hw1 : IntKind.i64.wrap ((a : Int) + 1) = ((a + 1 : Nat) : Int) := by rw [wrap_i64 (by omega) (by omega)]; rfl
    simp [hle']
    refine ecall (star_spec HS (from' := a) hL hle (c := c) (fun x hx => (ow.gr.objs _ (by omega)).trans (rc x hx)) (by have := ow.gr.nobj; omega) fun h2 o g2 lo lt ob => ?_)
    have ow2 := ow.on ba g2 (Nat.le_trans n3 ow.gr.next)
    simp [fillL, V.isAgg, V.cells]
    refine ow2.appF (by simp) rfl (by simp; omega) fun o4 => ?_
    have hts : ((List.range a).map fun i => V.osl 1 (os i) 0 (L + 1) (L + 1)) ++ [.osl 1 o 0 (L + 1) (L + 1)] = (List.range (a + 1)).map fun i => V.osl 1 ((fun i => if i = a then o else os i) i) 0 (L + 1) (L + 1) := by
      rw [List.range_succ, List.map_append]
      congr 1
      · apply List.map_congr_left
        intro i hi
        simp at hi
        simp [show ¬ i = a by omega]
      · simp
    rw [hts] at o4 ⊢
    have hn : h.nobj ≤ h'.nobj := ow.gr.nobj
    have hn2 : h'.nobj ≤ h2.nobj := g2.nobj
    simp [hw1]
    exact ⟨L + 1 - (a + 1), by omega, iv ⟨a + 1, _, fun i => if i = a then o else os i, by omega, rfl, o4, by rw [push_next]; omega, fun i hi => by
      rw [push_nobj, push_objs]
      by_cases e : i = a
      · subst e; simp only [if_true]; exact ⟨by omega, lt, ob⟩
      · simp only [if_neg e]
        obtain ⟨x, y, z⟩ := hos i (by omega)
        exact ⟨x, by omega, by rw [g2.objs _ y]; exact z⟩, fun i j hij hj => by
      by_cases e : j = a
      · subst e
        simp only [if_true, if_neg (show ¬ i = j by omega)]
        have := (hos i hij).2.1; omega
      · simp only [if_neg e, if_neg (show ¬ i = a by omega)]
        exact inc i j hij (by omega), rfl⟩⟩
  · obtain rfl : a = L + 1 := by omega
    have hx : ¬ ((L : Int) + 1 ≤ L) := by omega
    simp [hx]
    exact ⟨os, L + 1, fun a => boolsV (starB L c a) (L + 1), refV L h.nobj, .many (L + 1) st (L + 1) (L + 1), ow.gr, hos, fun i j hi hj e => by
      rcases Nat.lt_trichotomy i j with q | q | q
      · have := inc i j q hj; omega
      · exact q
      · have := inc j i q hi; omega, fun i => Bdd_bools _ _ _ _, hQ⟩
theorem row_one (H : Has (Ecx X) K.probateref08_row A.probateref08_row_o) {L from' : Nat} (hL : L ≤ 2 ^ 20) (hf : from' ≤ L) (bs : List Nat) (cs : List (Nat → Nat → Bool)) (hlen : cs.length = bs.length) (hbl : bs.length ≤ 2 ^ 20)
    (hat : ∀ k (h1 : k < bs.length), RefAt h L bs[k] (cs[k]'(by omega)) ∧ bs[k] + (L + 1) ≤ h.nobj) (e0 st0 : Nat) (he : bs = [] ∨ e0 = 1)
    (hQ : Q (.osl 1 h.nobj 0 (L + 1) (L + 1)) (h.new (boolsV (foldR cs fun b => decide (b = from')) (L + 1)))) :
    Ecx X K.probateref08_row [.sl e0 st0 (bs.map (refV L)), .int .i64 from', .int .i64 L] h Q := by
  refine Ecx.ren (row_spec H hL hf bs cs hlen hbl hat e0 st0 he fun h' o G lo lt ob => ?_)
  exact ⟨fun _ => o, 1, fun _ => boolsV (foldR cs fun b => decide (b = from')) (L + 1), _, .one 1 0 (L + 1) (L + 1), G, fun i _ => ⟨lo, lt, ob⟩, fun i j hi hj _ => by omega, fun _ => Bdd_bools _ _ _ _, hQ⟩
end
end Go.Proofs.Ytmobijebjkjnoaa.Al
