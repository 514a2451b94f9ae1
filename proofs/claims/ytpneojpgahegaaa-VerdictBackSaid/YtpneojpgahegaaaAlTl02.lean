/-
  The tie: the abstract functions of l02 are the program's own. Conditions: none.
-/
import Derived.Test.YtpneojpgahegaaaAlTieK
import Derived.Test.YtpneojpgahegaaaAlFl02
namespace Go.Proofs.Ytpneojpgahegaaa.Al
open Go
theorem tie_probateref02_Nums : compFn Try.prog yK Try.f32 = some A.probateref02_Nums.strip := by kernel_rfl
theorem has_probateref02_Nums (W0 : World) : Has (Ecx (cxOf W0)) K.probateref02_Nums A.probateref02_Nums := fn_sound Try.checked.mixed rfl (by exact Try.func32) (by kernel_rfl) tie_probateref02_Nums
theorem tie_probateref02_Reader_Num : compFn Try.prog yK Try.f41 = some A.probateref02_Reader_Num.strip := by kernel_rfl
theorem has_probateref02_Reader_Num (W0 : World) : Has (Ecx (cxOf W0)) K.probateref02_Reader_Num A.probateref02_Reader_Num := fn_sound Try.checked.mixed rfl (by exact Try.func41) (by kernel_rfl) tie_probateref02_Reader_Num
theorem tie_probateref02_Reader_Nums : compFn Try.prog yK Try.f42 = some A.probateref02_Reader_Nums.strip := by kernel_rfl
theorem has_probateref02_Reader_Nums (W0 : World) : Has (Ecx (cxOf W0)) K.probateref02_Reader_Nums A.probateref02_Reader_Nums := fn_sound Try.checked.mixed rfl (by exact Try.func42) (by kernel_rfl) tie_probateref02_Reader_Nums
theorem tie_probateref02_Reader_End : compFn Try.prog yK Try.f43 = some A.probateref02_Reader_End.strip := by kernel_rfl
theorem has_probateref02_Reader_End (W0 : World) : Has (Ecx (cxOf W0)) K.probateref02_Reader_End A.probateref02_Reader_End := fn_sound Try.checked.mixed rfl (by exact Try.func43) (by kernel_rfl) tie_probateref02_Reader_End
theorem tie_probateref02_Same : compFn Try.prog yK Try.f59 = some A.probateref02_Same.strip := by kernel_rfl
theorem has_probateref02_Same (W0 : World) : Has (Ecx (cxOf W0)) K.probateref02_Same A.probateref02_Same := fn_sound Try.checked.mixed rfl (by exact Try.func59) (by kernel_rfl) tie_probateref02_Same
end Go.Proofs.Ytpneojpgahegaaa.Al
