/-
  The tie: the abstract functions of l02 are the program's own. Conditions: none.
-/
import Derived.Test.YtbbmglginkabfaaAlTieK
import Derived.Test.YtbbmglginkabfaaAlFl02
namespace Go.Proofs.Ytbbmglginkabfaa.Al
open Go
theorem tie_probatelaw02_WireWrites : compFn Try.prog yK Try.f3 = some A.probatelaw02_WireWrites.strip := by kernel_rfl
theorem has_probatelaw02_WireWrites (W0 : World) : Has (Ecx (cxOf W0)) K.probatelaw02_WireWrites A.probatelaw02_WireWrites := fn_sound Try.checked.mixed rfl (by exact Try.func3) (by kernel_rfl) tie_probatelaw02_WireWrites
theorem tie_probatelaw02_WireReads : compFn Try.prog yK Try.f4 = some A.probatelaw02_WireReads.strip := by kernel_rfl
theorem has_probatelaw02_WireReads (W0 : World) : Has (Ecx (cxOf W0)) K.probatelaw02_WireReads A.probatelaw02_WireReads := fn_sound Try.checked.mixed rfl (by exact Try.func4) (by kernel_rfl) tie_probatelaw02_WireReads
theorem tie_probatelaw02_WireBack : compFn Try.prog yK Try.f5 = some A.probatelaw02_WireBack.strip := by kernel_rfl
theorem has_probatelaw02_WireBack (W0 : World) : Has (Ecx (cxOf W0)) K.probatelaw02_WireBack A.probatelaw02_WireBack := fn_sound Try.checked.mixed rfl (by exact Try.func5) (by kernel_rfl) tie_probatelaw02_WireBack
theorem tie_probatelaw02_WireList : compFn Try.prog yK Try.f6 = some A.probatelaw02_WireList.strip := by kernel_rfl
theorem has_probatelaw02_WireList (W0 : World) : Has (Ecx (cxOf W0)) K.probatelaw02_WireList A.probatelaw02_WireList := fn_sound Try.checked.mixed rfl (by exact Try.func6) (by kernel_rfl) tie_probatelaw02_WireList
theorem tie_probatelaw02_awake : compFn Try.prog yK Try.f8 = some A.probatelaw02_awake.strip := by kernel_rfl
theorem has_probatelaw02_awake (W0 : World) : Has (Ecx (cxOf W0)) K.probatelaw02_awake A.probatelaw02_awake := fn_sound Try.checked.mixed rfl (by exact Try.func8) (by kernel_rfl) tie_probatelaw02_awake
theorem tie_probatelaw02_large : compFn Try.prog yK Try.f9 = some A.probatelaw02_large.strip := by kernel_rfl
theorem has_probatelaw02_large (W0 : World) : Has (Ecx (cxOf W0)) K.probatelaw02_large A.probatelaw02_large := fn_sound Try.checked.mixed rfl (by exact Try.func9) (by kernel_rfl) tie_probatelaw02_large
theorem tie_probatelaw02_write : compFn Try.prog yK Try.f10 = some A.probatelaw02_write.strip := by kernel_rfl
theorem has_probatelaw02_write (W0 : World) : Has (Ecx (cxOf W0)) K.probatelaw02_write A.probatelaw02_write := fn_sound Try.checked.mixed rfl (by exact Try.func10) (by kernel_rfl) tie_probatelaw02_write
theorem tie_probateref02_Nums : compFn Try.prog yK Try.f12 = some A.probateref02_Nums.strip := by kernel_rfl
theorem has_probateref02_Nums (W0 : World) : Has (Ecx (cxOf W0)) K.probateref02_Nums A.probateref02_Nums := fn_sound Try.checked.mixed rfl (by exact Try.func12) (by kernel_rfl) tie_probateref02_Nums
theorem tie_probateref02_Reader_Num : compFn Try.prog yK Try.f17 = some A.probateref02_Reader_Num.strip := by kernel_rfl
theorem has_probateref02_Reader_Num (W0 : World) : Has (Ecx (cxOf W0)) K.probateref02_Reader_Num A.probateref02_Reader_Num := fn_sound Try.checked.mixed rfl (by exact Try.func17) (by kernel_rfl) tie_probateref02_Reader_Num
theorem tie_probateref02_Same : compFn Try.prog yK Try.f19 = some A.probateref02_Same.strip := by kernel_rfl
theorem has_probateref02_Same (W0 : World) : Has (Ecx (cxOf W0)) K.probateref02_Same A.probateref02_Same := fn_sound Try.checked.mixed rfl (by exact Try.func19) (by kernel_rfl) tie_probateref02_Same
theorem tie_probateref02_Reader_Nums : compFn Try.prog yK Try.f21 = some A.probateref02_Reader_Nums.strip := by kernel_rfl
theorem has_probateref02_Reader_Nums (W0 : World) : Has (Ecx (cxOf W0)) K.probateref02_Reader_Nums A.probateref02_Reader_Nums := fn_sound Try.checked.mixed rfl (by exact Try.func21) (by kernel_rfl) tie_probateref02_Reader_Nums
theorem tie_probateref02_Reader_Wrong : compFn Try.prog yK Try.f23 = some A.probateref02_Reader_Wrong.strip := by kernel_rfl
theorem has_probateref02_Reader_Wrong (W0 : World) : Has (Ecx (cxOf W0)) K.probateref02_Reader_Wrong A.probateref02_Reader_Wrong := fn_sound Try.checked.mixed rfl (by exact Try.func23) (by kernel_rfl) tie_probateref02_Reader_Wrong
theorem tie_probateref02_Reader_Left : compFn Try.prog yK Try.f25 = some A.probateref02_Reader_Left.strip := by kernel_rfl
theorem has_probateref02_Reader_Left (W0 : World) : Has (Ecx (cxOf W0)) K.probateref02_Reader_Left A.probateref02_Reader_Left := fn_sound Try.checked.mixed rfl (by exact Try.func25) (by kernel_rfl) tie_probateref02_Reader_Left
theorem tie_probateref02_Reader_End : compFn Try.prog yK Try.f27 = some A.probateref02_Reader_End.strip := by kernel_rfl
theorem has_probateref02_Reader_End (W0 : World) : Has (Ecx (cxOf W0)) K.probateref02_Reader_End A.probateref02_Reader_End := fn_sound Try.checked.mixed rfl (by exact Try.func27) (by kernel_rfl) tie_probateref02_Reader_End
theorem tie_probatelaw02_read : compFn Try.prog yK Try.f28 = some A.probatelaw02_read.strip := by kernel_rfl
theorem has_probatelaw02_read (W0 : World) : Has (Ecx (cxOf W0)) K.probatelaw02_read A.probatelaw02_read := fn_sound Try.checked.mixed rfl (by exact Try.func28) (by kernel_rfl) tie_probatelaw02_read
theorem tie_probatelaw02_WireList_1 : compFn Try.prog yK Try.f30 = some A.probatelaw02_WireList_1.strip := by kernel_rfl
theorem has_probatelaw02_WireList_1 (W0 : World) : Has (Ecx (cxOf W0)) K.probatelaw02_WireList_1 A.probatelaw02_WireList_1 := fn_sound Try.checked.mixed rfl (by exact Try.func30) (by kernel_rfl) tie_probatelaw02_WireList_1
end Go.Proofs.Ytbbmglginkabfaa.Al
