/-
  Layer 3: the laws GramBack and GramOf, by the abstract layer. Conditions: each theorem's own.
-/
import Derived.Test.YtpnbdnmmfaomlaaGramLaw
namespace Go.Proofs.Ytpnbdnmmfaomlaa.Al
open Go Go.RowKit
set_option linter.unusedSimpArgs false
set_option linter.unusedVariables false
attribute [-simp] List.getD_eq_getElem?_getD Int.not_lt Int.not_le List.map_take

theorem ofF_mem {non : Int} : ∀ {l : List Pr} {i : Nat}, ∀ v ∈ ofF non l i, ∃ n : Nat, v = ((i + n : Nat) : Int) ∧ ∃ hn : n < l.length, l[n].left = non
  | [], i, v, hv => by simp [ofF] at hv
  | p :: l, i, v, hv => by
    simp only [ofF, List.mem_append] at hv
    rcases hv with hv | hv
    · split at hv
      · rename_i hp
        simp at hv
        exact ⟨0, by simp [hv], by simp, by simpa using hp⟩
      · simp at hv
    · obtain ⟨n, e, hn, hl⟩ := ofF_mem v hv
      exact ⟨n + 1, by rw [e]; congr 1; omega, by simp; omega, by simpa using hl⟩
theorem ofF_sorted {non : Int} : ∀ (l : List Pr) (i : Nat), (ofF non l i).Pairwise (· < ·)
  | [], i => by simp [ofF]
  | p :: l, i => by
    simp only [ofF]
    refine List.pairwise_append.2 ⟨by split <;> simp, ofF_sorted l (i + 1), fun a ha b hb => ?_⟩
    obtain ⟨n, e, _⟩ := ofF_mem b hb
    split at ha
    · simp at ha; omega
    · simp at ha
theorem ofF_count (non : Int) : ∀ (l : List Pr) (i : Nat), (ofF non l i).length = l.countP fun p => decide (p.left = non)
  | [], i => rfl
  | p :: l, i => by
    simp only [ofF, List.length_append, ofF_count non l (i + 1), List.countP_cons]
    by_cases c : p.left = non
    · simp [c]; omega
    · simp [c]
/-- How many productions are of nonterminals below. -/
def cntB (l : List Pr) (k : Int) : Nat := l.countP fun p => decide (p.left < k)
theorem cntB_succ (k : Int) : ∀ (l : List Pr), cntB l (k + 1) = cntB l k + l.countP fun p => decide (p.left = k)
  | [] => rfl
  | p :: l => by
    have ih := cntB_succ k l
    simp only [cntB] at ih ⊢
    simp only [List.countP_cons, ih]
    by_cases c1 : p.left < k
    · have a : p.left < k + 1 := by omega
      have b : ¬ p.left = k := by omega
      simp [c1, a, b]; exact Nat.add_right_comm _ _ _
    · by_cases c2 : p.left = k
      · have a : p.left < k + 1 := by omega
        simp [c1, a, c2, show k < k + 1 by omega]; first | omega | exact Nat.add_assoc _ _ _
      · have a : ¬ p.left < k + 1 := by omega
        simp [c1, a, c2]
theorem cntB_zero {l : List Pr} (h : ∀ p ∈ l, 0 ≤ p.left) : cntB l 0 = 0 := by
  simp only [cntB, List.countP_eq_zero]
  intro p hp; have := h p hp; simp; omega
theorem cntB_all {l : List Pr} {k : Int} (h : ∀ p ∈ l, p.left < k) : cntB l k = l.length := by
  simp only [cntB, List.countP_eq_length]
  intro p hp; simpa using h p hp
theorem of_none {l : List Pr} {k : Int} (h : ∀ p ∈ l, ¬ p.left = k) : ofF k l 0 = [] := by
  have : (ofF k l 0).length = 0 := by
    rw [ofF_count, List.countP_eq_zero]
    intro p hp; simpa using h p hp
  exact List.eq_nil_of_length_eq_zero this
section
variable {X : Cx} {h : AH} {Q : V → AH → Prop}
theorem back3_spec (L : L03 X) (g g2 : Gm) (b : List Nat) (og : GmOk g) (og2 : GmOk g2) (hb : b.length ≤ maxLen) (hbb : ∀ x ∈ b, x < 256) (hQ : Q (.bool true) h) :
    Ecx X K.probatelaw03_GramBack [gmV g, gmV g2, .sl 1 0 (u8s b)] h Q := by
  refine fn_walk L.back (by simp [A.probatelaw03_GramBack]) fun wf => ?_
  have hgc : ∀ g, gmC g = [.int .i64 g.terms, .int .i64 g.nons, .int .i64 g.start, .sl 2 0 (g.prods.map prV)] := fun _ => rfl
  have gr0 := ((Gr.refl h).new (gmC g)).new (gmC g2)
  simp [A.probatelaw03_GramBack, gmV, V.cells, V.good]
  have o1 : ((h.new (gmC g)).new (gmC g2)).objs h.nobj = gmC g := by simp
  have o2 : ((h.new (gmC g)).new (gmC g2)).objs (h.nobj + 1) = gmC g2 := by simp
  have nb : ((h.new (gmC g)).new (gmC g2)).nobj = h.nobj + 2 := by simp
  generalize (h.new (gmC g)).new (gmC g2) = h2 at *
  refine ecall (awake3_spec L ?_)
  simp [o1, gm4]
  refine ecall (large3_spec L g og ?_)
  cases hl1 : largeG g with
  | true => simp; exact fin_wk gr0 (.same _) (by simp) hQ
  | false =>
  simp [o2, gm4]
  refine ecall (large3_spec L g2 og2 ?_)
  cases hl2 : largeG g2 with
  | true => simp; exact fin_wk gr0 (.same _) (by simp) hQ
  | false =>
  obtain ⟨ga, gb⟩ := largeG_ok hl1
  obtain ⟨ga2, gb2⟩ := largeG_ok hl2
  simp
  by_cases d3 : (3000 : Int) < b.length
  · simp [d3]; exact fin_wk gr0 (.same _) (by simp) hQ
  simp [d3]
  refine ecall (read3_spec L.p b (by omega) hbb ?_)
  have hrc := readG_canon hbb
  have gr3 := gr0.new (gmC (readG b).1)
  have p1 : (h2.new (gmC (readG b).1)).objs h.nobj = gmC g := by rw [new_objs_ne _ _ (by omega)]; exact o1
  have p2 : (h2.new (gmC (readG b).1)).objs (h.nobj + 1) = gmC g2 := by rw [new_objs_ne _ _ (by omega)]; exact o2
  have p3 : (h2.new (gmC (readG b).1)).objs h2.nobj = gmC (readG b).1 := new_objs_same _ _
  have nb3 : (h2.new (gmC (readG b).1)).nobj = h.nobj + 3 := by simp [nb]
  rw [hgc (readG b).1] at gr3 p1 p2 p3 nb3
  simp [greadV, gmV, hgc, setAt, V.cells, V.good]
  generalize h2.new [.int .i64 (readG b).1.terms, .int .i64 (readG b).1.nons, .int .i64 (readG b).1.start, .sl 2 0 ((readG b).1.prods.map prV)] = h3 at *
  by_cases hr : (readG b).2 = 0
  · obtain ⟨r1, r2⟩ := hrc hr
    generalize readG b = R at *
    have rk := rightG_iff.1 r1
    have ok : GmOk R.1 := ⟨by have := rk.head; unfold maxLen; omega, fun p hp => by have := (rk.prods p hp).2.2.1; unfold maxLen; omega⟩
    simp [hr, p3]
    refine ecall (bytes3_spec L.p R.1 ok ?_)
    simp [gbytV, gbytR, r1, r2]
    refine ecall (same1_spec L.same1 _ _ _ _ (by unfold maxLen; omega) ?_)
    simp [p3]
    refine ecall (right3_spec L.p R.1 ok ?_)
    simp [r1]
    simp [p1, gm4]
    refine ecall (bytes3_spec L.p g og ?_)
    simp [gbytV, p2, gm4]
    refine ecall (bytes3_spec L.p g2 og2 ?_)
    simp [gbytV]
    cases hrw : rightG g with
    | false =>
      simp [gbytR, hrw, p1, gm4]
      refine ecall (right3_spec L.p g og ?_)
      simp [hrw]
      exact fin_wk gr3 (.same _) (by simp) hQ
    | true =>
      have hwl := gmB_len (rightG_iff.1 hrw)
      simp [gbytR, hrw]
      refine ecall (read3_spec L.p (gmB g) (by omega) (gmB_byte g) ?_)
      have gr4 := gr3.new (gmC g)
      have nb4 : ¬ h.nobj = h3.nobj := by omega
      have nb5 : ¬ h.nobj + 1 = h3.nobj := by omega
      have q1 : (h3.new (gmC g)).objs h.nobj = gmC g := by rw [new_objs_ne _ _ nb4]; exact p1
      have q2 : (h3.new (gmC g)).objs (h.nobj + 1) = gmC g2 := by rw [new_objs_ne _ _ nb5]; exact p2
      have q3 : (h3.new (gmC g)).objs h3.nobj = gmC g := new_objs_same _ _
      rw [hgc g] at gr4 q1 q2 q3
      simp [greadV, readG_gmB hrw, gmV, hgc, setAt, V.cells, V.good]
      generalize h3.new [.int .i64 g.terms, .int .i64 g.nons, .int .i64 g.start, .sl 2 0 (g.prods.map prV)] = h4 at *
      simp [q1, q2, q3, hgc]
      refine dcall (.bool true) (right3_spec L.p g og ⟨by rw [hrw], rfl⟩) ?_
      simp [hrw, q1, q2, q3, hgc]
      refine dcall (.bool true) (same3R_spec L.rsame g g (by omega) (fun p hp => by have := gb p hp; omega) ⟨by simp, rfl⟩) ?_
      cases hrv : rightG g2 with
      | false =>
        simp [gbytR, hrv]
        exact fin_wk gr4 (.same _) (by simp) hQ
      | true =>
        simp [gbytR, hrv]
        refine dcall (.bool (decide (gmB g = gmB g2))) (same1_spec L.same1 _ _ _ _ (by unfold maxLen; omega) ⟨rfl, rfl⟩) ?_
        simp [q1, q2, hgc]
        refine dcall (.bool (decide (g = g2))) (same3R_spec L.rsame g g2 (by omega) (fun p hp => by have := gb p hp; omega) ⟨rfl, rfl⟩) ?_
        have : (gmB g = gmB g2) = (g = g2) := propext ⟨fun e => gmB_inj hrw hrv e, fun e => by rw [e]⟩
        simp [this]
        exact fin_wk gr4 (.same _) (by simp) hQ
  · simp [hr]
    simp [p1, gm4]
    refine ecall (bytes3_spec L.p g og ?_)
    simp [gbytV, p2, gm4]
    refine ecall (bytes3_spec L.p g2 og2 ?_)
    simp [gbytV]
    cases hrw : rightG g with
    | false =>
      simp [gbytR, hrw, p1, gm4]
      refine ecall (right3_spec L.p g og ?_)
      simp [hrw]
      exact fin_wk gr3 (.same _) (by simp) hQ
    | true =>
      have hwl := gmB_len (rightG_iff.1 hrw)
      simp [gbytR, hrw]
      refine ecall (read3_spec L.p (gmB g) (by omega) (gmB_byte g) ?_)
      have gr4 := gr3.new (gmC g)
      have nb4 : ¬ h.nobj = h3.nobj := by omega
      have nb5 : ¬ h.nobj + 1 = h3.nobj := by omega
      have q1 : (h3.new (gmC g)).objs h.nobj = gmC g := by rw [new_objs_ne _ _ nb4]; exact p1
      have q2 : (h3.new (gmC g)).objs (h.nobj + 1) = gmC g2 := by rw [new_objs_ne _ _ nb5]; exact p2
      have q3 : (h3.new (gmC g)).objs h3.nobj = gmC g := new_objs_same _ _
      rw [hgc g] at gr4 q1 q2 q3
      simp [greadV, readG_gmB hrw, gmV, hgc, setAt, V.cells, V.good]
      generalize h3.new [.int .i64 g.terms, .int .i64 g.nons, .int .i64 g.start, .sl 2 0 (g.prods.map prV)] = h4 at *
      simp [q1, q2, q3, hgc]
      refine dcall (.bool true) (right3_spec L.p g og ⟨by rw [hrw], rfl⟩) ?_
      simp [hrw, q1, q2, q3, hgc]
      refine dcall (.bool true) (same3R_spec L.rsame g g (by omega) (fun p hp => by have := gb p hp; omega) ⟨by simp, rfl⟩) ?_
      cases hrv : rightG g2 with
      | false =>
        simp [gbytR, hrv]
        exact fin_wk gr4 (.same _) (by simp) hQ
      | true =>
        simp [gbytR, hrv]
        refine dcall (.bool (decide (gmB g = gmB g2))) (same1_spec L.same1 _ _ _ _ (by unfold maxLen; omega) ⟨rfl, rfl⟩) ?_
        simp [q1, q2, hgc]
        refine dcall (.bool (decide (g = g2))) (same3R_spec L.rsame g g2 (by omega) (fun p hp => by have := gb p hp; omega) ⟨rfl, rfl⟩) ?_
        have : (gmB g = gmB g2) = (g = g2) := propext ⟨fun e => gmB_inj hrw hrv e, fun e => by rw [e]⟩
        simp [this]
        exact fin_wk gr4 (.same _) (by simp) hQ
theorem of3_spec (L : L03 X) (g : Gm) (other : Int) (og : GmOk g) (hQ : Q (.bool true) h) : Ecx X K.probatelaw03_GramOf [gmV g, .int .i64 other] h Q := by
  refine fn_walk L.of (by simp [A.probatelaw03_GramOf]) fun wf => ?_
  have hgc : ∀ g, gmC g = [.int .i64 g.terms, .int .i64 g.nons, .int .i64 g.start, .sl 2 0 (g.prods.map prV)] := fun _ => rfl
  have gr0 := (Gr.refl h).new (gmC g)
  simp [A.probatelaw03_GramOf, gmV, V.cells, V.good]
  have o1 : (h.new (gmC g)).objs h.nobj = gmC g := by simp
  generalize h.new (gmC g) = h2 at *
  refine ecall (awake3_spec L ?_)
  simp [o1, gm4]
  refine ecall (large3_spec L g og ?_)
  cases hl1 : largeG g with
  | true => simp; exact fin_wk gr0 (.same _) (by simp) hQ
  | false =>
  obtain ⟨ga, gb⟩ := largeG_ok hl1
  simp [o1, gm4]
  refine ecall (right3_spec L.p g og ?_)
  cases hr : rightG g with
  | false => simp; exact fin_wk gr0 (.same _) (by simp) hQ
  | true =>
  have rg := rightG_iff.1 hr
  have hd := rg.head
  have hz := cntB_zero (fun p hp => (rg.prods p hp).1)
  have hall := cntB_all (fun p hp => (rg.prods p hp).2.1)
  obtain ⟨nn, hnn⟩ : ∃ nn : Nat, g.nons = nn := ⟨g.nons.toNat, by omega⟩
  have hcl : ∀ k : Int, cntB g.prods k ≤ g.prods.length := fun k => List.countP_le_length
  simp [o1, hgc, hnn]
  refine loopI (n := nn) (fun m env h' => ∃ k, k ≤ nn ∧ m = nn - k ∧ h' = h2 ∧ env = [(1, .int .i64 other), (2, .ptr h.nobj 0), (5, .int .i64 (cntB g.prods (k : Nat) : Nat)), (20, .int .i64 nn), (21, .int .i64 (k : Nat))]) ?_
    ⟨0, by omega, by omega, rfl, by simp [hz]⟩
  rintro m env h' ⟨k, hk, rfl, rfl, rfl⟩
  unfold A.probatelaw03_GramOf.L0
  by_cases hlt : k < nn
  · have hlt' : (k : Int) < nn := by omega
    have hw1 : IntKind.i64.wrap ((k : Int) + 1) = ((k + 1 : Nat) : Int) := by rw [wrap_i64 (by omega) (by omega)]; rfl
    have hsc := cntB_succ k g.prods
    have hcount := ofF_count k g.prods 0
    have hsort := ofF_sorted (non := k) g.prods 0
    have hmem := ofF_mem (non := k) (l := g.prods) (i := 0)
    have hck := hcl (k + 1)
    simp [hlt', o1, gm4]
    refine ecall (of_spec L.p g k (by omega) ?_)
    unfold ofG
    simp
    generalize ofF k g.prods 0 = F at *
    refine loopI (n := F.length) (fun m env h3 => ∃ j last, j ≤ F.length ∧ m = F.length - j ∧ h3 = h' ∧ env = [(1, .int .i64 other), (2, .ptr h.nobj 0), (5, .int .i64 (cntB g.prods (k : Nat) + j : Nat)), (6, .int .i64 (k : Nat)), (7, .int .i64 last), (20, .int .i64 nn), (21, .int .i64 (k : Nat)), (26, .sl 1 0 (ints F)), (27, .int .i64 F.length), (28, .int .i64 (j : Nat))] ∧
        (∀ v ∈ F.drop j, last < v)) ?_ ⟨0, -1, by omega, by omega, rfl, by simp, fun v hv => by obtain ⟨n, e, _⟩ := hmem v (List.mem_of_mem_drop hv); omega⟩
    rintro m env h3 ⟨j, last, hj, rfl, rfl, rfl, hlast⟩
    unfold A.probatelaw03_GramOf.L1
    by_cases hjt : j < F.length
    · have hjt' : (j : Int) < F.length := by omega
      have hgj := ints_get hjt
      have hdj := List.drop_eq_getElem_cons hjt
      have hsj : (F.drop j).Pairwise (· < ·) := hsort.drop
      obtain ⟨n, en, hn, hleft⟩ := hmem _ (List.getElem_mem hjt)
      rw [Nat.zero_add] at en
      have hlv := hlast F[j] (by rw [hdj]; exact List.mem_cons_self)
      rw [hdj] at hsj
      rw [List.pairwise_cons] at hsj
      rw [en] at hgj hlv
      have hnxt : ∀ v ∈ F.drop (j + 1), ((n : Nat) : Int) < v := fun v hv => by have := hsj.1 v hv; omega
      have hgp : (g.prods.map prV).getD n .undef = prV g.prods[n] := Enc.getD hn
      have c1 : ¬ (n : Int) ≤ last := by omega
      have c2 : ¬ (g.prods.length : Int) ≤ n := by omega
      have hnl : (n : Int) < g.prods.length := by omega
      have hw2 : IntKind.i64.wrap ((j : Int) + 1) = ((j + 1 : Nat) : Int) := by rw [wrap_i64 (by omega) (by omega)]; rfl
      have hw3 : IntKind.i64.wrap (((cntB g.prods (k : Nat) + j : Nat) : Int) + 1) = ((cntB g.prods (k : Nat) + (j + 1) : Nat) : Int) := by rw [wrap_i64 (by omega) (by omega)]; omega
      simp [hjt', hgj, V.cells, c1, c2, hnl, o1, hgc, hgp, prV, prC, hleft, hw2, hw3, -Int.natCast_add]
      exact ⟨F.length - (j + 1), by omega, iv ⟨j + 1, n, by omega, rfl, rfl, rfl, hnxt⟩⟩
    · have hjt' : ¬ (j : Int) < F.length := by omega
      obtain rfl : j = F.length := by omega
      simp [hjt', hw1, -Int.natCast_add]
      exact ⟨nn - (k + 1), by omega, iv ⟨k + 1, by omega, rfl, rfl, by rw [hcount, ← hsc]; simp⟩⟩
  · have hlt' : ¬ (k : Int) < nn := by omega
    obtain rfl : k = nn := by omega
    rw [hnn] at hall
    have hallI : ((cntB g.prods (k : Nat) : Nat) : Int) = g.prods.length := by omega
    simp [hlt', o1, hgc, hallI]
    by_cases e1 : 0 ≤ other
    · by_cases e2 : other < g.nons
      · have e2' : other < k := by omega
        simp [e1, e2, o1, hgc]
        exact fin_wk gr0 (.same _) (by simp) hQ
      · have e2' : ¬ other < k := by omega
        have hno := of_none (l := g.prods) (k := other) (fun p hp => by have := (rg.prods p hp).2.1; omega)
        simp [e1, e2, o1, hgc]
        refine ecall (of_spec L.p g other (by omega) ?_)
        unfold ofG
        rw [hno]
        simp
        exact fin_wk gr0 (.same _) (by simp) hQ
    · have hno := of_none (l := g.prods) (k := other) (fun p hp => by have := (rg.prods p hp).1; omega)
      simp [e1, o1, hgc]
      refine ecall (of_spec L.p g other (by omega) ?_)
      unfold ofG
      rw [hno]
      simp
      exact fin_wk gr0 (.same _) (by simp) hQ
end
end Go.Proofs.Ytpnbdnmmfaomlaa.Al
