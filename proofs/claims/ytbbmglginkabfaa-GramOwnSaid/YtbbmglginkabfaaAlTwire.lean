/-
  The tie: the abstract functions of wire are the program's own. Conditions: none.
-/
import Derived.Test.YtbbmglginkabfaaAlTieK
import Derived.Test.YtbbmglginkabfaaAlFwire
namespace Go.Proofs.Ytbbmglginkabfaa.Al
open Go
theorem tie_wire_Writer_Bytes : compFn Try.prog yK Try.f14 = some A.wire_Writer_Bytes.strip := by kernel_rfl
theorem has_wire_Writer_Bytes (W0 : World) : Has (Ecx (cxOf W0)) K.wire_Writer_Bytes A.wire_Writer_Bytes := fn_sound Try.checked.mixed rfl (by exact Try.func14) (by kernel_rfl) tie_wire_Writer_Bytes
theorem tie_wire_New : compFn Try.prog yK Try.f15 = some A.wire_New.strip := by kernel_rfl
theorem has_wire_New (W0 : World) : Has (Ecx (cxOf W0)) K.wire_New A.wire_New := fn_sound Try.checked.mixed rfl (by exact Try.func15) (by kernel_rfl) tie_wire_New
theorem tie_wire_Reader_Num : compFn Try.prog yK Try.f16 = some A.wire_Reader_Num.strip := by kernel_rfl
theorem has_wire_Reader_Num (W0 : World) : Has (Ecx (cxOf W0)) K.wire_Reader_Num A.wire_Reader_Num := fn_sound Try.checked.mixed rfl (by exact Try.func16) (by kernel_rfl) tie_wire_Reader_Num
theorem tie_wire_Reader_Bool : compFn Try.prog yK Try.f18 = some A.wire_Reader_Bool.strip := by kernel_rfl
theorem has_wire_Reader_Bool (W0 : World) : Has (Ecx (cxOf W0)) K.wire_Reader_Bool A.wire_Reader_Bool := fn_sound Try.checked.mixed rfl (by exact Try.func18) (by kernel_rfl) tie_wire_Reader_Bool
theorem tie_wire_Reader_Nums : compFn Try.prog yK Try.f20 = some A.wire_Reader_Nums.strip := by kernel_rfl
theorem has_wire_Reader_Nums (W0 : World) : Has (Ecx (cxOf W0)) K.wire_Reader_Nums A.wire_Reader_Nums := fn_sound Try.checked.mixed rfl (by exact Try.func20) (by kernel_rfl) tie_wire_Reader_Nums
theorem tie_wire_Reader_Wrong : compFn Try.prog yK Try.f22 = some A.wire_Reader_Wrong.strip := by kernel_rfl
theorem has_wire_Reader_Wrong (W0 : World) : Has (Ecx (cxOf W0)) K.wire_Reader_Wrong A.wire_Reader_Wrong := fn_sound Try.checked.mixed rfl (by exact Try.func22) (by kernel_rfl) tie_wire_Reader_Wrong
theorem tie_wire_Reader_Left : compFn Try.prog yK Try.f24 = some A.wire_Reader_Left.strip := by kernel_rfl
theorem has_wire_Reader_Left (W0 : World) : Has (Ecx (cxOf W0)) K.wire_Reader_Left A.wire_Reader_Left := fn_sound Try.checked.mixed rfl (by exact Try.func24) (by kernel_rfl) tie_wire_Reader_Left
theorem tie_wire_Reader_End : compFn Try.prog yK Try.f26 = some A.wire_Reader_End.strip := by kernel_rfl
theorem has_wire_Reader_End (W0 : World) : Has (Ecx (cxOf W0)) K.wire_Reader_End A.wire_Reader_End := fn_sound Try.checked.mixed rfl (by exact Try.func26) (by kernel_rfl) tie_wire_Reader_End
theorem tie_wire_List_Thing : compFn Try.prog yK Try.f29 = some A.wire_List_Thing.strip := by kernel_rfl
theorem has_wire_List_Thing (W0 : World) : Has (Ecx (cxOf W0)) K.wire_List_Thing A.wire_List_Thing := fn_sound Try.checked.mixed rfl (by exact Try.func29) (by kernel_rfl) tie_wire_List_Thing
theorem tie_wire_Writer_Nums : compFn Try.prog yK Try.f37 = some A.wire_Writer_Nums.strip := by kernel_rfl
theorem has_wire_Writer_Nums (W0 : World) : Has (Ecx (cxOf W0)) K.wire_Writer_Nums A.wire_Writer_Nums := fn_sound Try.checked.mixed rfl (by exact Try.func37) (by kernel_rfl) tie_wire_Writer_Nums
theorem tie_wire_Writer_Bool : compFn Try.prog yK Try.f38 = some A.wire_Writer_Bool.strip := by kernel_rfl
theorem has_wire_Writer_Bool (W0 : World) : Has (Ecx (cxOf W0)) K.wire_Writer_Bool A.wire_Writer_Bool := fn_sound Try.checked.mixed rfl (by exact Try.func38) (by kernel_rfl) tie_wire_Writer_Bool
theorem tie_wire_Writer_Num : compFn Try.prog yK Try.f39 = some A.wire_Writer_Num.strip := by kernel_rfl
theorem has_wire_Writer_Num (W0 : World) : Has (Ecx (cxOf W0)) K.wire_Writer_Num A.wire_Writer_Num := fn_sound Try.checked.mixed rfl (by exact Try.func39) (by kernel_rfl) tie_wire_Writer_Num
theorem tie_wire_List_int : compFn Try.prog yK Try.f43 = some A.wire_List_int.strip := by kernel_rfl
theorem has_wire_List_int (W0 : World) : Has (Ecx (cxOf W0)) K.wire_List_int A.wire_List_int := fn_sound Try.checked.mixed rfl (by exact Try.func43) (by kernel_rfl) tie_wire_List_int
theorem tie_wire_Reader_Nums_1 : compFn Try.prog yK Try.f44 = some A.wire_Reader_Nums_1.strip := by kernel_rfl
theorem has_wire_Reader_Nums_1 (W0 : World) : Has (Ecx (cxOf W0)) K.wire_Reader_Nums_1 A.wire_Reader_Nums_1 := fn_sound Try.checked.mixed rfl (by exact Try.func44) (by kernel_rfl) tie_wire_Reader_Nums_1
theorem tie_wire_List_Prod : compFn Try.prog yK Try.f57 = some A.wire_List_Prod.strip := by kernel_rfl
theorem has_wire_List_Prod (W0 : World) : Has (Ecx (cxOf W0)) K.wire_List_Prod A.wire_List_Prod := fn_sound Try.checked.mixed rfl (by exact Try.func57) (by kernel_rfl) tie_wire_List_Prod
theorem tie_wire_List_Sym : compFn Try.prog yK Try.f64 = some A.wire_List_Sym.strip := by kernel_rfl
theorem has_wire_List_Sym (W0 : World) : Has (Ecx (cxOf W0)) K.wire_List_Sym A.wire_List_Sym := fn_sound Try.checked.mixed rfl (by exact Try.func64) (by kernel_rfl) tie_wire_List_Sym
end Go.Proofs.Ytbbmglginkabfaa.Al
