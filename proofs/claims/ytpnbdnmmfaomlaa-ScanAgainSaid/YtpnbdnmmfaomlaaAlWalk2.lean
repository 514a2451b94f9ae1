/-
  The abstract layer, part 13: heaps in one form (what is turned stands inside, what is made outside), for a walk. Conditions: none.
-/
import Derived.Test.YtpnbdnmmfaomlaaAlWalk
namespace Go.Proofs.Ytpnbdnmmfaomlaa.Al
open Go Go.RowKit
set_option linter.unusedSimpArgs false
set_option linter.unusedVariables false

section
variable (h : AH) (o o' : Nat) (z y : List V)
theorem new_objs_at (e : o' = h.nobj) : (h.new z).objs o' = z := by subst e; exact new_objs_same h z
theorem new_set_at (e : o = h.nobj) : (h.new z).set o y = h.new y := by subst e; exact new_set h z y
theorem new_set_ne (e : ¬ o = h.nobj) : (h.new z).set o y = (h.set o y).new z := by
  unfold AH.set AH.new; simp only [AH.mk.injEq, and_true]; funext j; simp only [updN]; split <;> split <;> simp_all
theorem set_objs_at (e : o' = o) : (h.set o z).objs o' = z := by subst e; exact set_objs_same h _ z
end
attribute [simp] new_objs_at new_set_at new_set_ne set_objs_at
@[simp] theorem nat_one_one (n : Nat) : n + 1 + 1 = n + 2 := rfl
@[simp] theorem nat_two_one (n : Nat) : n + 2 + 1 = n + 3 := rfl
@[simp] theorem nat_three_one (n : Nat) : n + 3 + 1 = n + 4 := rfl
@[simp] theorem nat_four_one (n : Nat) : n + 4 + 1 = n + 5 := rfl
@[simp] theorem nat_five_one (n : Nat) : n + 5 + 1 = n + 6 := rfl
@[simp] theorem nat_six_one (n : Nat) : n + 6 + 1 = n + 7 := rfl
@[simp] theorem nat_seven_one (n : Nat) : n + 7 + 1 = n + 8 := rfl
/-- Some objects more are no change. -/
theorem GrW.news {h2 h : AH} (g : GrW h2 h) (z : List V) : GrW h2 (h.new z) :=
  ⟨g.next, Nat.le_succ_of_le g.nobj, fun o ho => by rw [new_objs_ne h z (by have := g.nobj; omega)]; exact g.objs o ho, g.tips⟩
section
variable {X : Cx} {env : Env} {h : AH} {K : Env → AH → Prop} {H : List AH} {L : List (AH → Prop)} {r : List (DK × AOper)} {zK : Lz K}
@[simp] theorem drZ_pl_eqs {neg : Bool} {offs : List (EK × Nat)} {x y : AO} {d : Option Nat} {z : Lz ((DK.pl, ⟨d, none, AOp.eqs neg offs x y⟩) :: r)} : drZ (Ecx X) env h H L z zK = opZ (Ecx X) env h (Lz.mk (a := AOp.eqs neg offs x y)) (Lz.mk (a := fun v h' => h' = h ∧ drZ (Ecx X) (put env d v) h H L (Lz.mk (a := r)) zK)) := drZ_pl rfl
@[simp] theorem drZ_pl_bld {zl : List V} {ps : List (Nat × Nat × AO)} {d : Option Nat} {z : Lz ((DK.pl, ⟨d, none, AOp.bld zl ps⟩) :: r)} : drZ (Ecx X) env h H L z zK = opZ (Ecx X) env h (Lz.mk (a := AOp.bld zl ps)) (Lz.mk (a := fun v h' => h' = h ∧ drZ (Ecx X) (put env d v) h H L (Lz.mk (a := r)) zK)) := drZ_pl rfl
@[simp] theorem drZ_pl_bsl {e n : Nat} {g : Bool} {zl : List V} {ps : List (Nat × AO)} {d : Option Nat} {z : Lz ((DK.pl, ⟨d, none, AOp.bsl e g zl n ps⟩) :: r)} : drZ (Ecx X) env h H L z zK = opZ (Ecx X) env h (Lz.mk (a := AOp.bsl e g zl n ps)) (Lz.mk (a := fun v h' => h' = h ∧ drZ (Ecx X) (put env d v) h H L (Lz.mk (a := r)) zK)) := drZ_pl rfl
end
/-- An invariant that simp leaves alone. -/
def Iv {p : Prop} (_ : Lz p) : Prop := p
theorem iv {p : Prop} {z : Lz p} (h : p) : Iv z := h
theorem loopI {X : Cx} {h : AH} {A : AC} {env : Env} {Q : Ex → Env → AH → Prop} {z : Lz (AC.loop A)} {zQ : Lz Q} (I : Nat → Env → AH → Prop) {n : Nat}
    (round : ∀ n env h, I n env h → acZ (Ecx X) env h (Lz.mk (a := A)) (Lz.mk (a := fun (e : Ex) env' h' => match e with
      | .nrm => ∃ m, m < n ∧ Iv (Lz.mk (a := I m env' h'))
      | .ret => Q .ret env' h'
      | .exit m => Q (.exit m) env' h'))) (hI : I n env h) : acZ (Ecx X) env h z zQ :=
  loopZ I round hI
theorem Wk.t2 {a b : V} (w : Wk a b) (x : V) : Wk (.tup [a, x]) (.tup [b, x]) := .tup _ _ rfl fun i h1 h2 => by
  match i with
  | 0 => exact w
  | 1 => exact .same _
  | n + 2 => simp at h1; omega
theorem Wk.t3 {a b : V} (w : Wk a b) (x y : V) : Wk (.tup [a, x, y]) (.tup [b, x, y]) := .tup _ _ rfl fun i h1 h2 => by
  match i with
  | 0 => exact w
  | 1 => exact .same _
  | 2 => exact .same _
  | n + 3 => simp at h1; omega
end Go.Proofs.Ytpnbdnmmfaomlaa.Al
