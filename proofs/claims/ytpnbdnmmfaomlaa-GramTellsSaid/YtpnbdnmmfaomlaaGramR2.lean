/-
  Layer 3: the reference's reading of a grammar, in plain lists: it is the program's. Conditions: each theorem's own.
-/
import Derived.Test.YtpnbdnmmfaomlaaGramR
namespace Go.Proofs.Ytpnbdnmmfaomlaa.Al
open Go Go.RowKit
set_option linter.unusedSimpArgs false
set_option linter.unusedVariables false
attribute [-simp] List.getD_eq_getElem?_getD Int.not_lt Int.not_le List.map_take

/-- A step of the reference's reader, and the program's that it is. -/
structure SimR {α : Type} (f g : Step α) : Prop where
  val : ∀ b e, (f b e).1 = (g (absR (b, e)).1 (absR (b, e)).2).1
  st : ∀ b e, absR (f b e).2 = (g (absR (b, e)).1 (absR (b, e)).2).2
theorem absR_two (b : List Nat) (e : Int) : (absR (b, e)).2 = e := rfl
theorem SimR.step {α : Type} {f g : Step α} (S : SimR f g) (b : List Nat) (e : Int) : g (absR (b, e)).1 (absR (b, e)).2 = ((f b e).1, absR ((f b e).2.1, (f b e).2.2)) := by
  rw [S.val b e, show ((f b e).2.1, (f b e).2.2) = (f b e).2 from rfl, S.st b e]
theorem simNum (most : Nat) : SimR (fun l e => rnumR l e most) (fun l e => rnum l e most) := ⟨fun b e => (rnumR_sim b e most).1, fun b e => (rnumR_sim b e most).2⟩
theorem SimR.map {α β : Type} {f g : Step α} (S : SimR f g) (φ : α → β) : SimR (stepMap φ f) (stepMap φ g) := ⟨fun b e => by simp only [stepMap, S.val b e], fun b e => by simp only [stepMap, S.st b e]⟩
theorem SimR.wl {α : Type} {f g : Step α} (S : SimR f g) : ∀ n, SimR (wlst f n) (wlst g n)
  | 0 => ⟨fun b e => rfl, fun b e => rfl⟩
  | n + 1 => by
    have ih := S.wl n
    refine ⟨fun b e => ?_, fun b e => ?_⟩
    · simp only [wlst, S.step b e]
      rw [ih.val]
    · simp only [wlst, S.step b e]
      rw [ih.st]
theorem SimR.rl {α : Type} {f g : Step α} (S : SimR f g) : ∀ n, SimR (rlist f n) (rlist g n)
  | 0 => ⟨fun b e => rfl, fun b e => rfl⟩
  | n + 1 => by
    have ih := S.rl n
    have key : ∀ b e, rlist g (n + 1) (absR (b, e)).1 (absR (b, e)).2 = ((rlist f (n + 1) b e).1, absR (rlist f (n + 1) b e).2) := fun b e => by
      by_cases he : e = 0
      · subst he
        rw [show (absR (b, (0 : Int))).2 = 0 from rfl, rlist_succ0, rlist_succ0]
        have h1 := S.step b 0
        rw [show (absR (b, (0 : Int))).2 = 0 from rfl] at h1
        rw [h1]
        simp only
        rw [ih.val, ← ih.st]
      · rw [rlist_e he, rlist_e (e := (absR (b, e)).2) he]
    exact ⟨fun b e => by rw [key], fun b e => by rw [key]⟩
/-- A production, and a grammar, by a way to read numbers. -/
def prG (nm : Nat → Step Nat) : Step Pr := fun l e =>
  (⟨((nm 23 l e).1 : Nat), (wlst (stepMap nSym (nm 47)) (nm 8 (nm 23 l e).2.1 (nm 23 l e).2.2).1 (nm 8 (nm 23 l e).2.1 (nm 23 l e).2.2).2.1 (nm 8 (nm 23 l e).2.1 (nm 23 l e).2.2).2.2).1⟩,
   (wlst (stepMap nSym (nm 47)) (nm 8 (nm 23 l e).2.1 (nm 23 l e).2.2).1 (nm 8 (nm 23 l e).2.1 (nm 23 l e).2.2).2.1 (nm 8 (nm 23 l e).2.1 (nm 23 l e).2.2).2.2).2)
def grH (nm : Nat → Step Nat) : Step (Nat × Nat × Nat × Nat) := seq2 (nm 16) (seq2 (nm 24) (seq2 (nm 23) (nm 60)))
def grG (nm : Nat → Step Nat) : Step Gm := fun l e =>
  (⟨((grH nm l e).1.1 : Nat), ((grH nm l e).1.2.1 : Nat), ((grH nm l e).1.2.2.1 : Nat), (rlist (prG nm) (grH nm l e).1.2.2.2 (grH nm l e).2.1 (grH nm l e).2.2).1⟩, (rlist (prG nm) (grH nm l e).1.2.2.2 (grH nm l e).2.1 (grH nm l e).2.2).2)
abbrev nmR : Nat → Step Nat := fun m l e => rnumR l e m
abbrev nmW : Nat → Step Nat := fun m l e => rnum l e m
theorem SimR.seq {α β : Type} {f g : Step α} {f2 g2 : Step β} (S : SimR f g) (T : SimR f2 g2) : SimR (seq2 f f2) (seq2 g g2) := by
  refine ⟨fun b e => ?_, fun b e => ?_⟩
  · simp only [seq2, S.step b e]; rw [T.val]
  · simp only [seq2, S.step b e]; rw [T.st]
theorem simPr : SimR (prG nmR) (prG nmW) := by
  have S := fun m => simNum m
  refine ⟨fun b e => ?_, fun b e => ?_⟩
  · have h1 := (S 23).step b e
    have h2 := (S 8).step (rnumR b e 23).2.1 (rnumR b e 23).2.2
    have h3 := (((S 47).map nSym).wl (rnumR (rnumR b e 23).2.1 (rnumR b e 23).2.2 8).1).step (rnumR (rnumR b e 23).2.1 (rnumR b e 23).2.2 8).2.1 (rnumR (rnumR b e 23).2.1 (rnumR b e 23).2.2 8).2.2
    simp only [prG, nmR, nmW, h1, h2, h3]
  · have h1 := (S 23).step b e
    have h2 := (S 8).step (rnumR b e 23).2.1 (rnumR b e 23).2.2
    have h3 := (((S 47).map nSym).wl (rnumR (rnumR b e 23).2.1 (rnumR b e 23).2.2 8).1).step (rnumR (rnumR b e 23).2.1 (rnumR b e 23).2.2 8).2.1 (rnumR (rnumR b e 23).2.1 (rnumR b e 23).2.2 8).2.2
    simp only [prG, nmR, nmW, h1, h2, h3]
theorem simGr : SimR (grG nmR) (grG nmW) := by
  have S := (simNum 16).seq ((simNum 24).seq ((simNum 23).seq (simNum 60)))
  have key : ∀ b e, grG nmW (absR (b, e)).1 (absR (b, e)).2 = ((grG nmR b e).1, absR (grG nmR b e).2) := fun b e => by
    have h1 := S.step b e
    have h1' : grH nmW (absR (b, e)).1 (absR (b, e)).2 = ((grH nmR b e).1, absR ((grH nmR b e).2.1, (grH nmR b e).2.2)) := h1
    have h2 := (simPr.rl (grH nmR b e).1.2.2.2).step (grH nmR b e).2.1 (grH nmR b e).2.2
    simp only [grG, h1', h2]
  exact ⟨fun b e => by rw [key], fun b e => by rw [key]⟩
theorem stepS_err {l : List Nat} {e : Int} (he : e ≠ 0) : (stepS l e).2 = (l, e) := by simp [stepS, stepMap, rnum, he]
theorem prW_err {l : List Nat} {e : Int} (he : e ≠ 0) : (prG nmW l e).2 = (l, e) := by
  have : ∀ m, rnum l e m = (0, l, e) := fun m => by simp [rnum, he]
  simp [prG, nmW, this, wlst]
theorem alikeP : Alike (prG nmW) stepP := by
  have hw : ∀ n l e, (wlst stepS n l e).2 = (rlist stepS n l e).2 := fun n l e => wlst_state (fun l e he => stepS_err he) n l e
  have hst : ∀ l e, (prG nmW l e).2 = (stepP l e).2 := fun l e => by
    simp only [prG, nmW, stepP, stepMap, seq2, rread]
    exact hw _ _ _
  refine ⟨hst, fun l e h => ?_⟩
  have h2 : (rlist stepS (rnum (rnum l e 23).2.1 (rnum l e 23).2.2 8).1 (rnum (rnum l e 23).2.1 (rnum l e 23).2.2 8).2.1 (rnum (rnum l e 23).2.1 (rnum l e 23).2.2 8).2.2).2.2 = 0 := by
    rw [hst] at h; exact h
  have h3 := (rlist_ok _ _ _ h2).1
  simp only [prG, nmW, stepP, stepMap, seq2, rread, mkP, h2]
  simp only [ne_eq, not_true_eq_false, if_false, h3]
  rfl
theorem alikeG : Alike (grG nmW) stepG := by
  have A := fun n => alikeP.rlist (fun l e he => prW_err he) n
  refine ⟨fun l e => ?_, fun l e h => ?_⟩
  · simp only [grG, grH, nmW, stepG, stepMap, seq2, rread]
    exact (A _).state _ _
  · have h2 : (rlist (prG nmW) (grH nmW l e).1.2.2.2 (grH nmW l e).2.1 (grH nmW l e).2.2).2.2 = 0 := h
    have h3 := (A _).val _ _ h2
    have h4 : (rlist stepP (grH nmW l e).1.2.2.2 (grH nmW l e).2.1 (grH nmW l e).2.2).2.2 = 0 := by rw [← (A _).state]; exact h2
    simp only [grH, nmW, seq2] at h3 h4
    simp only [grG, grH, nmW, stepG, stepMap, seq2, rread, mkG, h3, h4]
    simp
def readR3 (b : List Nat) : Gm × Int :=
  if rend (absR (grG nmR b 0).2).1 (absR (grG nmR b 0).2).2 ≠ 0 then (zeroG, rend (absR (grG nmR b 0).2).1 (absR (grG nmR b 0).2).2) else if rightG (grG nmR b 0).1 = false then (zeroG, 2) else ((grG nmR b 0).1, 0)
theorem readR3_is (b : List Nat) : readR3 b = readG b := by
  have h1 := simGr.val b 0
  have h2 := simGr.st b 0
  rw [show absR (b, (0 : Int)) = (b, 0) from by simp [absR]] at h1 h2
  have h3 := alikeG.state b 0
  unfold readR3 readG
  simp only [h2, h1, h3]
  by_cases he : rend (stepG b 0).2.1 (stepG b 0).2.2 = 0
  · have h4 : (grG nmW b 0).2.2 = 0 := by rw [h3]; exact (rend_zero he).2
    rw [alikeG.val b 0 h4]
  · rw [if_pos he, if_pos he]
end Go.Proofs.Ytpnbdnmmfaomlaa.Al
