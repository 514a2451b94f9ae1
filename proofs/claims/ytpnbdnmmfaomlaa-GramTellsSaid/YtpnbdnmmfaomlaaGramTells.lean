/-
  Layer 3: the law GramTells, by the abstract layer. Conditions: each theorem's own.
-/
import Derived.Test.YtpnbdnmmfaomlaaGramR3
namespace Go.Proofs.Ytpnbdnmmfaomlaa.Al
open Go Go.RowKit
set_option linter.unusedSimpArgs false
set_option linter.unusedVariables false
attribute [-simp] List.getD_eq_getElem?_getD Int.not_lt Int.not_le List.map_take

section
variable {X : Cx} {h : AH} {Q : V → AH → Prop}
theorem tells3_spec (L : L03 X) (LR : LGR X) (H : Has (Ecx X) K.probatelaw03_GramTells A.probatelaw03_GramTells) (g g2 : Gm) (non : Int) (b : List Nat) (og : GmOk g) (og2 : GmOk g2) (hb : b.length ≤ maxLen) (hbb : ∀ x ∈ b, x < 256) (hQ : Q (.bool true) h) :
    Ecx X K.probatelaw03_GramTells [gmV g, gmV g2, .int .i64 non, .sl 1 0 (u8s b)] h Q := by
  refine fn_walk H (by simp [A.probatelaw03_GramTells]) fun wf => ?_
  have gr0 := ((Gr.refl h).new (gmC g)).new (gmC g2)
  simp [A.probatelaw03_GramTells, gmV, V.cells, V.good]
  have o1 : ((h.new (gmC g)).new (gmC g2)).objs h.nobj = gmC g := by simp
  have o2 : ((h.new (gmC g)).new (gmC g2)).objs (h.nobj + 1) = gmC g2 := by simp
  have nb : ((h.new (gmC g)).new (gmC g2)).nobj = h.nobj + 2 := by simp
  generalize (h.new (gmC g)).new (gmC g2) = h2 at *
  refine ecall (awake3_spec L ?_)
  simp [o1, gm4]
  refine ecall (large3_spec L g og ?_)
  cases hl1 : largeG g with
  | true => simp; exact fin_wk gr0 (.same _) (by simp) hQ
  | false =>
  simp [o2, gm4]
  refine ecall (large3_spec L g2 og2 ?_)
  cases hl2 : largeG g2 with
  | true => simp; exact fin_wk gr0 (.same _) (by simp) hQ
  | false =>
  obtain ⟨ga, gb⟩ := largeG_ok hl1
  obtain ⟨ga2, gb2⟩ := largeG_ok hl2
  simp
  by_cases d3 : (3000 : Int) < b.length
  · simp [d3]; exact fin_wk gr0 (.same _) (by simp) hQ
  simp [d3, o1, gm4]
  refine ecall (bytes3_spec L.p g og ?_)
  simp [gbytV, o1, gm4]
  refine ecall (rbytes3_spec LR g ?_)
  simp [gbytV]
  refine ecall (read3_spec L.p b (by omega) hbb ?_)
  simp [greadV, gmV, gm_cells, setAt, V.cells, V.good]
  refine ecall (rread3_spec LR b (by omega) hbb ?_)
  simp [greadV, gmV, gm_cells, setAt, V.cells, V.good]
  have hbyl : (gbytR g).1.length ≤ maxLen := by
    unfold gbytR
    cases hr : rightG g with
    | false => simp
    | true =>
      have := gmB_len (rightG_iff.1 hr)
      simp; unfold maxLen; omega
  have hrs : (readG b).1.prods.length ≤ 2 ^ 40 ∧ ∀ p ∈ (readG b).1.prods, p.right.length ≤ 2 ^ 40 := by
    by_cases hr : (readG b).2 = 0
    · have rk := rightG_iff.1 (readG_canon hbb hr).1
      exact ⟨by have := rk.head; omega, fun p hp => by have := (rk.prods p hp).2.2.1; omega⟩
    · have : (readG b).1 = zeroG := by
        unfold readG at hr ⊢
        split
        · rfl
        · split
          · rfl
          · rename_i h1 h2; rw [if_neg h1, if_neg h2] at hr; exact absurd rfl hr
      rw [this]; simp [zeroG]
  generalize hRR : (readG b).1 = K at *
  have gr4 := (gr0.new (gmC K)).new (gmC K)
  have n1 : ¬ h.nobj = h2.nobj := by omega
  have n2 : ¬ h.nobj + 1 = h2.nobj := by omega
  have n3 : ¬ h.nobj = h2.nobj + 1 := by omega
  have n4 : ¬ h.nobj + 1 = h2.nobj + 1 := by omega
  have q1 : ((h2.new (gmC K)).new (gmC K)).objs h.nobj = gmC g := by rw [new_objs_ne _ _ (by simp; omega), new_objs_ne _ _ n1]; exact o1
  have q2 : ((h2.new (gmC K)).new (gmC K)).objs (h.nobj + 1) = gmC g2 := by rw [new_objs_ne _ _ (by simp; omega), new_objs_ne _ _ n2]; exact o2
  have q3 : ((h2.new (gmC K)).new (gmC K)).objs h2.nobj = gmC K := by rw [new_objs_ne _ _ (by simp), new_objs_same]
  have q4 : ((h2.new (gmC K)).new (gmC K)).objs (h2.nobj + 1) = gmC K := new_objs_same _ _
  rw [gm_cells K] at gr4 q1 q2 q3 q4
  generalize (h2.new [.int .i64 K.terms, .int .i64 K.nons, .int .i64 K.start, .sl 2 0 (K.prods.map prV)]).new [.int .i64 K.terms, .int .i64 K.nons, .int .i64 K.start, .sl 2 0 (K.prods.map prV)] = h4 at *
  simp [q1, q2, gm4]
  refine dcall (.bool (rightG g)) (right3_spec L.p g og ⟨rfl, rfl⟩) ?_
  simp [q1, q2, gm4]
  refine dcall (.bool (rightG g)) (rright3_spec LR.right g ⟨rfl, rfl⟩) ?_
  simp [q1, q2, gm4]
  refine dcall (.bool (decide (g = g2))) (same3_spec L.p g g2 og (by omega) (fun p hp => by have := gb p hp; omega) ⟨rfl, rfl⟩) ?_
  simp [q1, q2, gm4]
  refine dcall (.bool (decide (g = g2))) (same3R_spec L.rsame g g2 (by omega) (fun p hp => by have := gb p hp; omega) ⟨rfl, rfl⟩) ?_
  simp [q1, q2, gm4]
  refine dcall (gmV g) (clone3_spec L.p g (by omega) (fun p hp => by have := gb p hp; omega) ⟨rfl, rfl⟩) ?_
  simp [q1, q2, gm4]
  refine dcall (.bool true) (same3R_spec L.rsame g g (by omega) (fun p hp => by have := gb p hp; omega) ⟨by simp, rfl⟩) ?_
  simp [q1, q2, gm4]
  refine dcall (.sl 1 0 (ints (ofG g non))) (of_spec L.p g non (by omega) ⟨rfl, rfl⟩) ?_
  simp [q1, q2, gm4]
  refine dcall (.sl 1 0 (ints (ofG g non))) (rof_spec LR.of g non (by omega) ⟨rfl, rfl⟩) ?_
  simp [q1, q2, gm4]
  refine dcall (.bool true) (sameI_spec L.same2 (ofG g non) (ofG g non) _ _ (by have := ofF_len non g.prods 0; unfold ofG; omega) ⟨by simp, rfl⟩) ?_
  simp
  refine dcall (.bool true) (same1_spec L.same1 (gbytR g).1 (gbytR g).1 _ _ hbyl ⟨by simp, rfl⟩) ?_
  simp [q3, q4]
  refine dcall (.bool true) (same3R_spec L.rsame K K hrs.1 hrs.2 ⟨by simp, rfl⟩) ?_
  simp
  exact fin_wk gr4 (.same _) (by simp) hQ
end
end Go.Proofs.Ytpnbdnmmfaomlaa.Al
