/-
  The tie: the abstract functions of lib are the program's own. Conditions: none.
-/
import Derived.Test.YtbbmglginkabfaaAlTieK
import Derived.Test.YtbbmglginkabfaaAlFlib
namespace Go.Proofs.Ytbbmglginkabfaa.Al
open Go
theorem tie_slices_Clone_byte : compFn Try.prog yK Try.f40 = some A.slices_Clone_byte.strip := by kernel_rfl
theorem has_slices_Clone_byte (W0 : World) : Has (Ecx (cxOf W0)) K.slices_Clone_byte A.slices_Clone_byte := fn_sound Try.checked.mixed rfl (by exact Try.func40) (by kernel_rfl) tie_slices_Clone_byte
theorem tie_slices_ContainsFunc_Prod : compFn Try.prog yK Try.f49 = some A.slices_ContainsFunc_Prod.strip := by kernel_rfl
theorem has_slices_ContainsFunc_Prod (W0 : World) : Has (Ecx (cxOf W0)) K.slices_ContainsFunc_Prod A.slices_ContainsFunc_Prod := fn_sound Try.checked.mixed rfl (by exact Try.func49) (by kernel_rfl) tie_slices_ContainsFunc_Prod
theorem tie_slices_Clone_Sym : compFn Try.prog yK Try.f52 = some A.slices_Clone_Sym.strip := by kernel_rfl
theorem has_slices_Clone_Sym (W0 : World) : Has (Ecx (cxOf W0)) K.slices_Clone_Sym A.slices_Clone_Sym := fn_sound Try.checked.mixed rfl (by exact Try.func52) (by kernel_rfl) tie_slices_Clone_Sym
theorem tie_slices_EqualFunc_Prod : compFn Try.prog yK Try.f53 = some A.slices_EqualFunc_Prod.strip := by kernel_rfl
theorem has_slices_EqualFunc_Prod (W0 : World) : Has (Ecx (cxOf W0)) K.slices_EqualFunc_Prod A.slices_EqualFunc_Prod := fn_sound Try.checked.mixed rfl (by exact Try.func53) (by kernel_rfl) tie_slices_EqualFunc_Prod
theorem tie_slices_IndexFunc_Prod : compFn Try.prog yK Try.f59 = some A.slices_IndexFunc_Prod.strip := by kernel_rfl
theorem has_slices_IndexFunc_Prod (W0 : World) : Has (Ecx (cxOf W0)) K.slices_IndexFunc_Prod A.slices_IndexFunc_Prod := fn_sound Try.checked.mixed rfl (by exact Try.func59) (by kernel_rfl) tie_slices_IndexFunc_Prod
theorem tie_slices_ContainsFunc_Sym : compFn Try.prog yK Try.f61 = some A.slices_ContainsFunc_Sym.strip := by kernel_rfl
theorem has_slices_ContainsFunc_Sym (W0 : World) : Has (Ecx (cxOf W0)) K.slices_ContainsFunc_Sym A.slices_ContainsFunc_Sym := fn_sound Try.checked.mixed rfl (by exact Try.func61) (by kernel_rfl) tie_slices_ContainsFunc_Sym
theorem tie_slices_Equal_Sym : compFn Try.prog yK Try.f63 = some A.slices_Equal_Sym.strip := by kernel_rfl
theorem has_slices_Equal_Sym (W0 : World) : Has (Ecx (cxOf W0)) K.slices_Equal_Sym A.slices_Equal_Sym := fn_sound Try.checked.mixed rfl (by exact Try.func63) (by kernel_rfl) tie_slices_Equal_Sym
theorem tie_slices_IndexFunc_Sym : compFn Try.prog yK Try.f66 = some A.slices_IndexFunc_Sym.strip := by kernel_rfl
theorem has_slices_IndexFunc_Sym (W0 : World) : Has (Ecx (cxOf W0)) K.slices_IndexFunc_Sym A.slices_IndexFunc_Sym := fn_sound Try.checked.mixed rfl (by exact Try.func66) (by kernel_rfl) tie_slices_IndexFunc_Sym
end Go.Proofs.Ytbbmglginkabfaa.Al
