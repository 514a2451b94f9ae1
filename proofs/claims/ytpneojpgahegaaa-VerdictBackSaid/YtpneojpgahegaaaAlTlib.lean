/-
  The tie: the abstract functions of lib are the program's own. Conditions: none.
-/
import Derived.Test.YtpneojpgahegaaaAlTieK
import Derived.Test.YtpneojpgahegaaaAlFlib
namespace Go.Proofs.Ytpneojpgahegaaa.Al
open Go
theorem tie_slices_ContainsFunc_Edit : compFn Try.prog yK Try.f51 = some A.slices_ContainsFunc_Edit.strip := by kernel_rfl
theorem has_slices_ContainsFunc_Edit (W0 : World) : Has (Ecx (cxOf W0)) K.slices_ContainsFunc_Edit A.slices_ContainsFunc_Edit := fn_sound Try.checked.mixed rfl (by exact Try.func51) (by kernel_rfl) tie_slices_ContainsFunc_Edit
theorem tie_slices_ContainsFunc_Item : compFn Try.prog yK Try.f54 = some A.slices_ContainsFunc_Item.strip := by kernel_rfl
theorem has_slices_ContainsFunc_Item (W0 : World) : Has (Ecx (cxOf W0)) K.slices_ContainsFunc_Item A.slices_ContainsFunc_Item := fn_sound Try.checked.mixed rfl (by exact Try.func54) (by kernel_rfl) tie_slices_ContainsFunc_Item
theorem tie_slices_ContainsFunc_Item_2 : compFn Try.prog yK Try.f56 = some A.slices_ContainsFunc_Item_2.strip := by kernel_rfl
theorem has_slices_ContainsFunc_Item_2 (W0 : World) : Has (Ecx (cxOf W0)) K.slices_ContainsFunc_Item_2 A.slices_ContainsFunc_Item_2 := fn_sound Try.checked.mixed rfl (by exact Try.func56) (by kernel_rfl) tie_slices_ContainsFunc_Item_2
theorem tie_slices_ContainsFunc_int : compFn Try.prog yK Try.f57 = some A.slices_ContainsFunc_int.strip := by kernel_rfl
theorem has_slices_ContainsFunc_int (W0 : World) : Has (Ecx (cxOf W0)) K.slices_ContainsFunc_int A.slices_ContainsFunc_int := fn_sound Try.checked.mixed rfl (by exact Try.func57) (by kernel_rfl) tie_slices_ContainsFunc_int
theorem tie_slices_Equal_int : compFn Try.prog yK Try.f61 = some A.slices_Equal_int.strip := by kernel_rfl
theorem has_slices_Equal_int (W0 : World) : Has (Ecx (cxOf W0)) K.slices_Equal_int A.slices_Equal_int := fn_sound Try.checked.mixed rfl (by exact Try.func61) (by kernel_rfl) tie_slices_Equal_int
theorem tie_slices_Equal_Edit : compFn Try.prog yK Try.f62 = some A.slices_Equal_Edit.strip := by kernel_rfl
theorem has_slices_Equal_Edit (W0 : World) : Has (Ecx (cxOf W0)) K.slices_Equal_Edit A.slices_Equal_Edit := fn_sound Try.checked.mixed rfl (by exact Try.func62) (by kernel_rfl) tie_slices_Equal_Edit
theorem tie_slices_EqualFunc_Item : compFn Try.prog yK Try.f63 = some A.slices_EqualFunc_Item.strip := by kernel_rfl
theorem has_slices_EqualFunc_Item (W0 : World) : Has (Ecx (cxOf W0)) K.slices_EqualFunc_Item A.slices_EqualFunc_Item := fn_sound Try.checked.mixed rfl (by exact Try.func63) (by kernel_rfl) tie_slices_EqualFunc_Item
theorem tie_slices_Equal_Item : compFn Try.prog yK Try.f64 = some A.slices_Equal_Item.strip := by kernel_rfl
theorem has_slices_Equal_Item (W0 : World) : Has (Ecx (cxOf W0)) K.slices_Equal_Item A.slices_Equal_Item := fn_sound Try.checked.mixed rfl (by exact Try.func64) (by kernel_rfl) tie_slices_Equal_Item
theorem tie_slices_EqualFunc_int : compFn Try.prog yK Try.f65 = some A.slices_EqualFunc_int.strip := by kernel_rfl
theorem has_slices_EqualFunc_int (W0 : World) : Has (Ecx (cxOf W0)) K.slices_EqualFunc_int A.slices_EqualFunc_int := fn_sound Try.checked.mixed rfl (by exact Try.func65) (by kernel_rfl) tie_slices_EqualFunc_int
theorem tie_slices_Clone_byte : compFn Try.prog yK Try.f67 = some A.slices_Clone_byte.strip := by kernel_rfl
theorem has_slices_Clone_byte (W0 : World) : Has (Ecx (cxOf W0)) K.slices_Clone_byte A.slices_Clone_byte := fn_sound Try.checked.mixed rfl (by exact Try.func67) (by kernel_rfl) tie_slices_Clone_byte
theorem tie_slices_ContainsFunc_int_2 : compFn Try.prog yK Try.f75 = some A.slices_ContainsFunc_int_2.strip := by kernel_rfl
theorem has_slices_ContainsFunc_int_2 (W0 : World) : Has (Ecx (cxOf W0)) K.slices_ContainsFunc_int_2 A.slices_ContainsFunc_int_2 := fn_sound Try.checked.mixed rfl (by exact Try.func75) (by kernel_rfl) tie_slices_ContainsFunc_int_2
theorem tie_slices_IndexFunc_Edit : compFn Try.prog yK Try.f77 = some A.slices_IndexFunc_Edit.strip := by kernel_rfl
theorem has_slices_IndexFunc_Edit (W0 : World) : Has (Ecx (cxOf W0)) K.slices_IndexFunc_Edit A.slices_IndexFunc_Edit := fn_sound Try.checked.mixed rfl (by exact Try.func77) (by kernel_rfl) tie_slices_IndexFunc_Edit
theorem tie_slices_IndexFunc_Item : compFn Try.prog yK Try.f78 = some A.slices_IndexFunc_Item.strip := by kernel_rfl
theorem has_slices_IndexFunc_Item (W0 : World) : Has (Ecx (cxOf W0)) K.slices_IndexFunc_Item A.slices_IndexFunc_Item := fn_sound Try.checked.mixed rfl (by exact Try.func78) (by kernel_rfl) tie_slices_IndexFunc_Item
theorem tie_slices_IndexFunc_Item_2 : compFn Try.prog yK Try.f79 = some A.slices_IndexFunc_Item_2.strip := by kernel_rfl
theorem has_slices_IndexFunc_Item_2 (W0 : World) : Has (Ecx (cxOf W0)) K.slices_IndexFunc_Item_2 A.slices_IndexFunc_Item_2 := fn_sound Try.checked.mixed rfl (by exact Try.func79) (by kernel_rfl) tie_slices_IndexFunc_Item_2
theorem tie_slices_IndexFunc_int : compFn Try.prog yK Try.f80 = some A.slices_IndexFunc_int.strip := by kernel_rfl
theorem has_slices_IndexFunc_int (W0 : World) : Has (Ecx (cxOf W0)) K.slices_IndexFunc_int A.slices_IndexFunc_int := fn_sound Try.checked.mixed rfl (by exact Try.func80) (by kernel_rfl) tie_slices_IndexFunc_int
theorem tie_slices_IndexFunc_int_2 : compFn Try.prog yK Try.f84 = some A.slices_IndexFunc_int_2.strip := by kernel_rfl
theorem has_slices_IndexFunc_int_2 (W0 : World) : Has (Ecx (cxOf W0)) K.slices_IndexFunc_int_2 A.slices_IndexFunc_int_2 := fn_sound Try.checked.mixed rfl (by exact Try.func84) (by kernel_rfl) tie_slices_IndexFunc_int_2
end Go.Proofs.Ytpneojpgahegaaa.Al
