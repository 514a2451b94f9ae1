/-
  The tie: the abstract functions of wire are the program's own. Conditions: none.
-/
import Derived.Test.YtpneojpgahegaaaAlTieK
import Derived.Test.YtpneojpgahegaaaAlFwire
namespace Go.Proofs.Ytpneojpgahegaaa.Al
open Go
theorem tie_wire_Writer_Num : compFn Try.prog yK Try.f27 = some A.wire_Writer_Num.strip := by kernel_rfl
theorem has_wire_Writer_Num (W0 : World) : Has (Ecx (cxOf W0)) K.wire_Writer_Num A.wire_Writer_Num := fn_sound Try.checked.mixed rfl (by exact Try.func27) (by kernel_rfl) tie_wire_Writer_Num
theorem tie_wire_Writer_Nums : compFn Try.prog yK Try.f28 = some A.wire_Writer_Nums.strip := by kernel_rfl
theorem has_wire_Writer_Nums (W0 : World) : Has (Ecx (cxOf W0)) K.wire_Writer_Nums A.wire_Writer_Nums := fn_sound Try.checked.mixed rfl (by exact Try.func28) (by kernel_rfl) tie_wire_Writer_Nums
theorem tie_wire_Writer_Bool : compFn Try.prog yK Try.f29 = some A.wire_Writer_Bool.strip := by kernel_rfl
theorem has_wire_Writer_Bool (W0 : World) : Has (Ecx (cxOf W0)) K.wire_Writer_Bool A.wire_Writer_Bool := fn_sound Try.checked.mixed rfl (by exact Try.func29) (by kernel_rfl) tie_wire_Writer_Bool
theorem tie_wire_Writer_Bytes : compFn Try.prog yK Try.f30 = some A.wire_Writer_Bytes.strip := by kernel_rfl
theorem has_wire_Writer_Bytes (W0 : World) : Has (Ecx (cxOf W0)) K.wire_Writer_Bytes A.wire_Writer_Bytes := fn_sound Try.checked.mixed rfl (by exact Try.func30) (by kernel_rfl) tie_wire_Writer_Bytes
theorem tie_wire_New : compFn Try.prog yK Try.f34 = some A.wire_New.strip := by kernel_rfl
theorem has_wire_New (W0 : World) : Has (Ecx (cxOf W0)) K.wire_New A.wire_New := fn_sound Try.checked.mixed rfl (by exact Try.func34) (by kernel_rfl) tie_wire_New
theorem tie_wire_Reader_Num : compFn Try.prog yK Try.f35 = some A.wire_Reader_Num.strip := by kernel_rfl
theorem has_wire_Reader_Num (W0 : World) : Has (Ecx (cxOf W0)) K.wire_Reader_Num A.wire_Reader_Num := fn_sound Try.checked.mixed rfl (by exact Try.func35) (by kernel_rfl) tie_wire_Reader_Num
theorem tie_wire_Reader_Bool : compFn Try.prog yK Try.f37 = some A.wire_Reader_Bool.strip := by kernel_rfl
theorem has_wire_Reader_Bool (W0 : World) : Has (Ecx (cxOf W0)) K.wire_Reader_Bool A.wire_Reader_Bool := fn_sound Try.checked.mixed rfl (by exact Try.func37) (by kernel_rfl) tie_wire_Reader_Bool
theorem tie_wire_List_Edit : compFn Try.prog yK Try.f38 = some A.wire_List_Edit.strip := by kernel_rfl
theorem has_wire_List_Edit (W0 : World) : Has (Ecx (cxOf W0)) K.wire_List_Edit A.wire_List_Edit := fn_sound Try.checked.mixed rfl (by exact Try.func38) (by kernel_rfl) tie_wire_List_Edit
theorem tie_wire_Reader_End : compFn Try.prog yK Try.f40 = some A.wire_Reader_End.strip := by kernel_rfl
theorem has_wire_Reader_End (W0 : World) : Has (Ecx (cxOf W0)) K.wire_Reader_End A.wire_Reader_End := fn_sound Try.checked.mixed rfl (by exact Try.func40) (by kernel_rfl) tie_wire_Reader_End
theorem tie_wire_List_Item : compFn Try.prog yK Try.f44 = some A.wire_List_Item.strip := by kernel_rfl
theorem has_wire_List_Item (W0 : World) : Has (Ecx (cxOf W0)) K.wire_List_Item A.wire_List_Item := fn_sound Try.checked.mixed rfl (by exact Try.func44) (by kernel_rfl) tie_wire_List_Item
theorem tie_wire_List_int_2 : compFn Try.prog yK Try.f46 = some A.wire_List_int_2.strip := by kernel_rfl
theorem has_wire_List_int_2 (W0 : World) : Has (Ecx (cxOf W0)) K.wire_List_int_2 A.wire_List_int_2 := fn_sound Try.checked.mixed rfl (by exact Try.func46) (by kernel_rfl) tie_wire_List_int_2
theorem tie_wire_Reader_Wrong : compFn Try.prog yK Try.f70 = some A.wire_Reader_Wrong.strip := by kernel_rfl
theorem has_wire_Reader_Wrong (W0 : World) : Has (Ecx (cxOf W0)) K.wire_Reader_Wrong A.wire_Reader_Wrong := fn_sound Try.checked.mixed rfl (by exact Try.func70) (by kernel_rfl) tie_wire_Reader_Wrong
theorem tie_wire_Reader_Nums : compFn Try.prog yK Try.f71 = some A.wire_Reader_Nums.strip := by kernel_rfl
theorem has_wire_Reader_Nums (W0 : World) : Has (Ecx (cxOf W0)) K.wire_Reader_Nums A.wire_Reader_Nums := fn_sound Try.checked.mixed rfl (by exact Try.func71) (by kernel_rfl) tie_wire_Reader_Nums
theorem tie_wire_List_Item_2 : compFn Try.prog yK Try.f73 = some A.wire_List_Item_2.strip := by kernel_rfl
theorem has_wire_List_Item_2 (W0 : World) : Has (Ecx (cxOf W0)) K.wire_List_Item_2 A.wire_List_Item_2 := fn_sound Try.checked.mixed rfl (by exact Try.func73) (by kernel_rfl) tie_wire_List_Item_2
theorem tie_wire_List_int : compFn Try.prog yK Try.f82 = some A.wire_List_int.strip := by kernel_rfl
theorem has_wire_List_int (W0 : World) : Has (Ecx (cxOf W0)) K.wire_List_int A.wire_List_int := fn_sound Try.checked.mixed rfl (by exact Try.func82) (by kernel_rfl) tie_wire_List_int
theorem tie_wire_Reader_Nums_1 : compFn Try.prog yK Try.f83 = some A.wire_Reader_Nums_1.strip := by kernel_rfl
theorem has_wire_Reader_Nums_1 (W0 : World) : Has (Ecx (cxOf W0)) K.wire_Reader_Nums_1 A.wire_Reader_Nums_1 := fn_sound Try.checked.mixed rfl (by exact Try.func83) (by kernel_rfl) tie_wire_Reader_Nums_1
end Go.Proofs.Ytpneojpgahegaaa.Al
