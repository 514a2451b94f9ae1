/-
  Functions with objects for slices, as abstract code, and that these are the program's own; written by a program of this claim (gen.py). Conditions: none.
-/
import Derived.Test.YtbbmglginkabfaaAlTieK
namespace Go.Proofs.Ytbbmglginkabfaa.Al
open Go
def A.gram_Clone_o.L0 : AC := .post (.seq (.reg [⟨(some 14), none, .bin .lss (.t 13) (.t 12)⟩])
  (.keep [1, 2, 3, 11, 12, 13, 14] (.seq (.cond (.t 14) .skip (.exit 0))
  (.keep [1, 2, 3, 11, 12, 13] (.seq (.block 1 (.seq (.reg [⟨(some 15), none, .ia 2 (.t 11) (.t 13)⟩, ⟨(some 16), none, .load true 2 (.t 15)⟩, ⟨(some 5), none, .alloc [(.int .i64 (0)), (.sl 0 1 [])]⟩, ⟨none, none, .store 2 (.t 5) (.t 16)⟩])
  (.keep [1, 2, 3, 5, 11, 12, 13] (.draw [(.pl, ⟨(some 17), none, .mv (.t 3)⟩), (.pl, ⟨(some 18), none, .fa 0 (.t 5)⟩), (.fl, ⟨(some 19), none, .load false 1 (.t 18)⟩), (.pl, ⟨(some 20), none, .fa 1 (.t 5)⟩), (.pl, ⟨(some 21), none, .load false 1 (.t 20)⟩), (.eff, ⟨(some 22), none, .call (.c (.fn K.slices_Clone_Sym [] [])) [(.t 21)]⟩), (.pl, ⟨(some 23), none, .bld [(.int .i64 (0)), (.sl 0 1 [])] [(0, 1, (.t 19)), (1, 1, (.t 22))]⟩), (.pl, ⟨(some 24), none, .bsl 2 true [(.int .i64 (0)), (.sl 0 1 [])] 1 [(0, (.t 23))]⟩), (.eff, ⟨(some 25), none, .appo 2 32 [(.int .i64 (0)), (.sl 0 1 [])] (.t 17) (.t 24)⟩), (.pl, ⟨(some 3), none, .mv (.t 25)⟩)]))))
  (.keep [1, 2, 3, 11, 12, 13] (.reg [⟨(some 26), none, .bin .add (.t 13) (.c (.int .i64 (1)))⟩, ⟨(some 13), none, .mv (.t 26)⟩]))))))) [1, 2, 3, 11, 12, 13]
def A.gram_Clone_o : AFn := ⟨30, [(2, (some (true, 4)))], (.seq (.reg [⟨(some 1), none, .box (.t 0)⟩, ⟨(some 2), none, .alloc [(.int .i64 (0)), (.int .i64 (0)), (.int .i64 (0)), (.sl 0 1 [])]⟩])
  (.keep [1, 2] (.seq (.reg [⟨(some 6), none, .fa 3 (.t 1)⟩, ⟨(some 7), none, .load false 1 (.t 6)⟩, ⟨(some 8), none, .len false (.t 7)⟩, ⟨(some 9), none, .mkso 2 32 [(.int .i64 (0)), (.sl 0 1 [])] (.c (.int .i64 (0))) (.t 8)⟩, ⟨(some 3), none, .mv (.t 9)⟩])
  (.keep [1, 2, 3] (.seq (.seq (.reg [⟨(some 10), none, .fa 3 (.t 1)⟩, ⟨(some 11), none, .load false 1 (.t 10)⟩, ⟨(some 12), none, .len false (.t 11)⟩, ⟨(some 13), none, .mv (.c (.int .i64 (0)))⟩])
  (.keep [1, 2, 3, 11, 12, 13] (.block 0 (.loop A.gram_Clone_o.L0))))
  (.keep [1, 2, 3] (.seq (.reg [⟨(some 27), none, .mv (.t 3)⟩, ⟨(some 28), none, .fa 3 (.t 1)⟩, ⟨none, none, .store 1 (.t 28) (.t 27)⟩])
  (.keep [1, 2] (.seq (.reg [⟨(some 29), none, .load true 4 (.t 1)⟩, ⟨none, none, .store 4 (.t 2) (.t 29)⟩]) .ret)))))))))⟩
theorem tie_o_gram_Clone : compFn Try.prog ({ yK with om := fun n => ([9, 25] : List Nat).contains n, eff := fun n => yK.eff n || ([101] : List Nat).contains n }) Try.f35 = some A.gram_Clone_o.strip := by kernel_rfl
theorem has_o_gram_Clone (W0 : World) : Has (Ecx (cxOf W0)) K.gram_Clone A.gram_Clone_o := fn_sound (Y := ({ yK with om := fun n => ([9, 25] : List Nat).contains n, eff := fun n => yK.eff n || ([101] : List Nat).contains n })) Try.checked.mixed rfl (by exact Try.func35) (by kernel_rfl) tie_o_gram_Clone
def A.slices_Clone_Sym_o : AFn := ⟨8, [(2, none)], (.seq (.reg [⟨(some 2), none, .mv (.c (.sl 0 1 []))⟩])
  (.keep [0] (.seq (.seq (.reg [⟨(some 3), none, .mv (.t 0)⟩, ⟨(some 4), none, .isnil false false (.t 3)⟩])
  (.keep [0, 4] (.cond (.t 4) (.seq (.reg [⟨(some 2), none, .mv (.c (.sl 0 1 []))⟩]) .ret) .skip)))
  (.keep [0] (.seq (.reg [⟨(some 5), none, .bsl 2 true [(.bool false), (.int .i64 (0))] 0 []⟩, ⟨(some 6), none, .mv (.t 0)⟩, ⟨(some 7), none, .appo 2 16 [(.bool false), (.int .i64 (0))] (.t 5) (.t 6)⟩, ⟨(some 2), none, .mv (.t 7)⟩]) .ret)))))⟩
theorem tie_o_slices_Clone_Sym : compFn Try.prog ({ yK with om := fun n => ([7] : List Nat).contains n }) Try.f52 = some A.slices_Clone_Sym_o.strip := by kernel_rfl
theorem has_o_slices_Clone_Sym (W0 : World) : Has (Ecx (cxOf W0)) K.slices_Clone_Sym A.slices_Clone_Sym_o := fn_sound (Y := ({ yK with om := fun n => ([7] : List Nat).contains n })) Try.checked.mixed rfl (by exact Try.func52) (by kernel_rfl) tie_o_slices_Clone_Sym
end Go.Proofs.Ytbbmglginkabfaa.Al
