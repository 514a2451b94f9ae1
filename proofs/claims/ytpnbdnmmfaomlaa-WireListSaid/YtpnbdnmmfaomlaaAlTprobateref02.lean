/-
  The tie: the abstract functions of probateref02 are the program's own. Conditions: none.
-/
import Derived.Test.YtpnbdnmmfaomlaaAlTieK
import Derived.Test.YtpnbdnmmfaomlaaAlFprobateref02
namespace Go.Proofs.Ytpnbdnmmfaomlaa.Al
open Go
theorem tie_probateref02_Nums : compFn Try.prog yK Try.f29 = some A.probateref02_Nums.strip := by kernel_rfl
theorem has_probateref02_Nums (W0 : World) : Has (Ecx (cxOf W0)) K.probateref02_Nums A.probateref02_Nums := fn_sound Try.checked.mixed rfl (by exact Try.func29) (by kernel_rfl) tie_probateref02_Nums
theorem tie_probateref02_Reader_Num : compFn Try.prog yK Try.f33 = some A.probateref02_Reader_Num.strip := by kernel_rfl
theorem has_probateref02_Reader_Num (W0 : World) : Has (Ecx (cxOf W0)) K.probateref02_Reader_Num A.probateref02_Reader_Num := fn_sound Try.checked.mixed rfl (by exact Try.func33) (by kernel_rfl) tie_probateref02_Reader_Num
theorem tie_probateref02_Same : compFn Try.prog yK Try.f35 = some A.probateref02_Same.strip := by kernel_rfl
theorem has_probateref02_Same (W0 : World) : Has (Ecx (cxOf W0)) K.probateref02_Same A.probateref02_Same := fn_sound Try.checked.mixed rfl (by exact Try.func35) (by kernel_rfl) tie_probateref02_Same
theorem tie_probateref02_Reader_Nums : compFn Try.prog yK Try.f37 = some A.probateref02_Reader_Nums.strip := by kernel_rfl
theorem has_probateref02_Reader_Nums (W0 : World) : Has (Ecx (cxOf W0)) K.probateref02_Reader_Nums A.probateref02_Reader_Nums := fn_sound Try.checked.mixed rfl (by exact Try.func37) (by kernel_rfl) tie_probateref02_Reader_Nums
theorem tie_probateref02_Reader_Wrong : compFn Try.prog yK Try.f39 = some A.probateref02_Reader_Wrong.strip := by kernel_rfl
theorem has_probateref02_Reader_Wrong (W0 : World) : Has (Ecx (cxOf W0)) K.probateref02_Reader_Wrong A.probateref02_Reader_Wrong := fn_sound Try.checked.mixed rfl (by exact Try.func39) (by kernel_rfl) tie_probateref02_Reader_Wrong
theorem tie_probateref02_Reader_Left : compFn Try.prog yK Try.f41 = some A.probateref02_Reader_Left.strip := by kernel_rfl
theorem has_probateref02_Reader_Left (W0 : World) : Has (Ecx (cxOf W0)) K.probateref02_Reader_Left A.probateref02_Reader_Left := fn_sound Try.checked.mixed rfl (by exact Try.func41) (by kernel_rfl) tie_probateref02_Reader_Left
theorem tie_probateref02_Reader_End : compFn Try.prog yK Try.f43 = some A.probateref02_Reader_End.strip := by kernel_rfl
theorem has_probateref02_Reader_End (W0 : World) : Has (Ecx (cxOf W0)) K.probateref02_Reader_End A.probateref02_Reader_End := fn_sound Try.checked.mixed rfl (by exact Try.func43) (by kernel_rfl) tie_probateref02_Reader_End
end Go.Proofs.Ytpnbdnmmfaomlaa.Al
