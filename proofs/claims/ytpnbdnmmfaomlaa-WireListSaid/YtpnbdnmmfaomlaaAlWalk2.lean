/-
  The abstract layer, part 13: heaps in one form (what is turned stands inside, what is made outside), for a walk. Conditions: none.
-/
import Derived.Test.YtpnbdnmmfaomlaaAlWalk
namespace Go.Proofs.Ytpnbdnmmfaomlaa.Al
open Go Go.RowKit
set_option linter.unusedSimpArgs false
set_option linter.unusedVariables false

section
variable (h : AH) (o o' : Nat) (z y : List V)
theorem new_objs_at (e : o' = h.nobj) : (h.new z).objs o' = z := by subst e; exact new_objs_same h z
theorem new_set_at (e : o = h.nobj) : (h.new z).set o y = h.new y := by subst e; exact new_set h z y
theorem new_set_ne (e : ¬ o = h.nobj) : (h.new z).set o y = (h.set o y).new z := by
  unfold AH.set AH.new; simp only [AH.mk.injEq, and_true]; funext j; simp only [updN]; split <;> split <;> simp_all
theorem set_objs_at (e : o' = o) : (h.set o z).objs o' = z := by subst e; exact set_objs_same h _ z
end
attribute [simp] new_objs_at new_set_at new_set_ne set_objs_at
@[simp] theorem nat_one_one (n : Nat) : n + 1 + 1 = n + 2 := rfl
@[simp] theorem nat_two_one (n : Nat) : n + 2 + 1 = n + 3 := rfl
@[simp] theorem nat_three_one (n : Nat) : n + 3 + 1 = n + 4 := rfl
@[simp] theorem nat_four_one (n : Nat) : n + 4 + 1 = n + 5 := rfl
@[simp] theorem nat_five_one (n : Nat) : n + 5 + 1 = n + 6 := rfl
@[simp] theorem nat_six_one (n : Nat) : n + 6 + 1 = n + 7 := rfl
@[simp] theorem nat_seven_one (n : Nat) : n + 7 + 1 = n + 8 := rfl
/-- Some objects more are no change. -/
theorem GrW.news {h2 h : AH} (g : GrW h2 h) (z : List V) : GrW h2 (h.new z) :=
  ⟨g.next, Nat.le_succ_of_le g.nobj, fun o ho => by rw [new_objs_ne h z (by have := g.nobj; omega)]; exact g.objs o ho, g.tips⟩
end Go.Proofs.Ytpnbdnmmfaomlaa.Al
