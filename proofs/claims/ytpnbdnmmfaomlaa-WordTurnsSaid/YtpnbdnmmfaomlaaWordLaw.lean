/-
  Layer 4: awake, and the law WordTells, by the abstract layer. Conditions: each theorem's own.
-/
import Derived.Test.YtpnbdnmmfaomlaaWord5
import Derived.Test.YtpnbdnmmfaomlaaVaryLaw
import Derived.Test.YtpnbdnmmfaomlaaAlC
import Derived.Test.YtpnbdnmmfaomlaaAlFl04
namespace Go.Proofs.Ytpnbdnmmfaomlaa.Al
open Go Go.RowKit
set_option linter.unusedSimpArgs false
set_option linter.unusedVariables false
attribute [-simp] List.getD_eq_getElem?_getD Int.not_lt Int.not_le List.map_take

section
variable {X : Cx} {h : AH} {Q : V → AH → Prop}
/-- What the laws of layer 4 call. -/
structure L04 (X : Cx) : Prop where
  p : LWo X
  r : LWR X
  same1 : Has (Ecx X) K.probateref01_Same A.probateref01_Same
  awake : Has (Ecx X) K.probatelaw04_awake A.probatelaw04_awake
  tells : Has (Ecx X) K.probatelaw04_WordTells A.probatelaw04_WordTells
  back : Has (Ecx X) K.probatelaw04_WordBack A.probatelaw04_WordBack
  turns : Has (Ecx X) K.probatelaw04_WordTurns A.probatelaw04_WordTurns
theorem awake4_spec (L : L04 X) (hQ : Q (.bool true) h) : Ecx X K.probatelaw04_awake [] h Q := by
  refine fn_walk L.awake (by simp [A.probatelaw04_awake]) fun wf => ?_
  have t1 : applyR [5, 6, 7] [⟨0, false, 1⟩, ⟨1, true, 0⟩, ⟨3, false, 2⟩] = ([1, 5, 7, 2], 0) := by decide +kernel
  have t2 : bytesR [5, 6] = ([2, 5, 6], 0) := by simp [bytesR, wbyt, vputs, nats, vput_small, show rightW [5, 6] = true from by decide]
  have t3 : readR [2, 5, 6] = ([5, 6], 0) := by decide +kernel
  have t4 : applyR [] [⟨0, true, 0⟩] = ([], 2) := by decide +kernel
  simp [A.probatelaw04_awake, fillV, V.cells, V.good, fillL, V.isAgg, setAt]
  refine ecall (apply_spec L.p [5, 6, 7] [⟨0, false, 1⟩, ⟨1, true, 0⟩, ⟨3, false, 2⟩] _ _ (by simp) (by simp) ?_)
  simp only [applyV, t1]
  simp [fillV, V.cells, V.good, fillL, V.isAgg, setAt]
  refine ecall (bytes4_spec L.p [5, 6] _ (by simp) ?_)
  simp only [wbytV, t2]
  simp
  refine ecall (read4_spec L.p [2, 5, 6] _ _ (fun _ => rfl) (by simp) (by simp) (by simp) ?_)
  simp only [readV, t3]
  simp [fillV, V.cells, V.good, fillL, V.isAgg, setAt]
  refine ecall (.wkL (.cons (.nil _ 1 _) (.refl _)) (apply_spec L.p [] [⟨0, true, 0⟩] _ _ (by simp) (by simp) ?_))
  simp only [applyV, t4]
  simp [fillV, V.cells, V.good, fillL, V.isAgg, setAt]
  refine ecall (sameI_spec L.r.q.same [1, 5, 7, 2] [1, 5, 7, 2] _ _ (by simp) ?_)
  simp [fillL, V.cells, V.good, V.isAgg]
  refine ecall (same1_spec L.same1 [2, 5, 6] [2, 5, 6] _ _ (by simp [maxLen]) ?_)
  simp [fillL, V.cells, V.good, V.isAgg]
  refine ecall (sameI_spec L.r.q.same [5, 6] [5, 6] _ _ (by simp) ?_)
  simp [fillL, V.cells, V.good, V.isAgg]
  refine ecall (right_spec L.p [15] _ (by simp) ?_)
  simp only [show rightW [15] = true from by decide]
  simp [fillL, V.cells, V.good, V.isAgg]
  refine ecall (right_spec L.p [16] _ (by simp) ?_)
  simp only [show rightW [16] = false from by decide]
  simp [fillL, V.cells, V.good, V.isAgg, fillV, setAt]
  refine ecall (fits_spec L.p .nilf _ _ _ 3 [2] _ (by simp) ?_)
  simp only [show fitsW 3 [2] = true from by decide]
  simp [fillL, V.cells, V.good, V.isAgg, fillV, setAt]
  refine ecall (fits_spec L.p .nilf _ _ _ 2 [2] _ (by simp) ?_)
  simp only [show fitsW 2 [2] = false from by decide]
  simp
  refine ecall (.wkL (.cons (.nil _ 3 _) (.refl _)) (may_spec L.p [] 0 _ (by simp) ?_))
  simp [mayB, mayF]
  exact fin (by simp) hQ
theorem tells4_spec (L : L04 X) (g : List V) (terms : Int) (w : List Int) (b : List Nat) (l : List Ed) (size : Int) (hw : w.length ≤ maxLen) (hb : b.length ≤ maxLen) (hbb : ∀ x ∈ b, x < 256) (hl : l.length ≤ maxLen) (c1 c2 c3 : V) (hg : g = [.int .i64 terms, c1, c2, c3]) (hQ : Q (.bool true) h) :
    Ecx X K.probatelaw04_WordTells [.agg g, .sl 1 0 (ints w), .sl 1 0 (u8s b), .sl 3 0 (l.map edV), .int .i64 size] h Q := by
  subst hg
  refine fn_walk L.tells (by simp [A.probatelaw04_WordTells]) fun wf => ?_
  simp [A.probatelaw04_WordTells, V.cells, V.good]
  refine ecall (awake4_spec L ?_)
  simp
  have g0 := (Gr.refl h).new [.int .i64 terms, c1, c2, c3]
  by_cases d1 : (60 : Int) < w.length
  · simp [d1]; exact fin_wk g0 (.same _) (by simp) hQ
  by_cases d2 : (300 : Int) < b.length
  · simp [d1, d2]; exact fin_wk g0 (.same _) (by simp) hQ
  by_cases d3 : (60 : Int) < l.length
  · simp [d1, d2, d3]; exact fin_wk g0 (.same _) (by simp) hQ
  simp [d1, d2, d3]
  have hbl : (bytesR w).1.length ≤ 250 := by
    unfold bytesR
    split
    · simp
    · rename_i hr; exact wbyt_len (by simpa using hr)
  have hrl : (readR b).1.length ≤ 24 := by
    unfold readR
    split
    · simp
    · have := rnums_len b 0 24 15; simpa [natI] using this
  have hal : (applyR w l).1.length ≤ 2 ^ 40 := by
    unfold applyR
    split
    · simp
    · split
      · simp
      · split
        · simp
        · simp; omega
  refine ecall (bytes4_spec L.p w _ (by omega) ?_)
  simp [wbytV]
  refine ecall (bytesR_spec L.r w _ (by omega) ?_)
  simp [wbytV]
  refine ecall (read4_spec L.p b _ _ (fun _ => rfl) (by simp) (by omega) hbb ?_)
  simp [readV]
  refine ecall (readR4_spec L.r b 0 (by omega) hbb ?_)
  simp [readV]
  refine ecall (apply_spec L.p w l _ _ (by omega) (by omega) ?_)
  simp [applyV]
  refine ecall (applyR_spec L.r w l _ _ (by omega) (by omega) ?_)
  simp [applyV]
  refine dcall (.bool (rightW w)) (right_spec L.p w _ (by omega) ⟨rfl, rfl⟩) ?_
  simp
  refine dcall (.bool (rightW w)) (rightR_spec L.r.right w _ (by omega) ⟨rfl, rfl⟩) ?_
  simp
  refine dcall (.bool (fitsW terms w)) (fits_spec L.p .nilf _ _ _ terms w _ (by omega) ⟨rfl, rfl⟩) ?_
  simp
  refine dcall (.bool (fitsW terms w)) (fitsR_spec L.r.fits L.r.right _ _ _ terms w _ (by omega) ⟨rfl, rfl⟩) ?_
  simp
  refine dcall (.bool true) (same1_spec L.same1 _ _ _ _ (by unfold maxLen; omega) ⟨by simp, rfl⟩) ?_
  simp
  refine dcall (.bool true) (sameI_spec L.r.q.same _ _ _ _ (by omega) ⟨by simp, rfl⟩) ?_
  simp
  refine dcall (.bool (mayB l size)) (may_spec L.p l size _ (by omega) ⟨rfl, rfl⟩) ?_
  simp
  refine dcall (.bool (mayB l size)) (mayR_spec L.r.may l size _ (by omega) ⟨rfl, rfl⟩) ?_
  simp
  refine dcall (.bool true) (sameI_spec L.r.q.same _ _ _ _ (by omega) ⟨by simp, rfl⟩) ?_
  simp
  exact fin_wk g0 (.same _) (by simp) hQ
end
end Go.Proofs.Ytpnbdnmmfaomlaa.Al
