/-
  The tie: the abstract functions of probatelaw05 are the program's own. Conditions: none.
-/
import Derived.Test.YtpnbdnmmfaomlaaAlTieK
import Derived.Test.YtpnbdnmmfaomlaaAlFprobatelaw05
namespace Go.Proofs.Ytpnbdnmmfaomlaa.Al
open Go
theorem tie_probatelaw05_ScanTells : compFn Try.prog yK Try.f10 = some A.probatelaw05_ScanTells.strip := by kernel_rfl
theorem has_probatelaw05_ScanTells (W0 : World) : Has (Ecx (cxOf W0)) K.probatelaw05_ScanTells A.probatelaw05_ScanTells := fn_sound Try.checked.mixed rfl (by exact Try.func10) (by kernel_rfl) tie_probatelaw05_ScanTells
theorem tie_probatelaw05_ScanAgain : compFn Try.prog yK Try.f11 = some A.probatelaw05_ScanAgain.strip := by kernel_rfl
theorem has_probatelaw05_ScanAgain (W0 : World) : Has (Ecx (cxOf W0)) K.probatelaw05_ScanAgain A.probatelaw05_ScanAgain := fn_sound Try.checked.mixed rfl (by exact Try.func11) (by kernel_rfl) tie_probatelaw05_ScanAgain
theorem tie_probatelaw05_ScanBetween : compFn Try.prog yK Try.f12 = some A.probatelaw05_ScanBetween.strip := by kernel_rfl
theorem has_probatelaw05_ScanBetween (W0 : World) : Has (Ecx (cxOf W0)) K.probatelaw05_ScanBetween A.probatelaw05_ScanBetween := fn_sound Try.checked.mixed rfl (by exact Try.func12) (by kernel_rfl) tie_probatelaw05_ScanBetween
theorem tie_probatelaw05_awake : compFn Try.prog yK Try.f47 = some A.probatelaw05_awake.strip := by kernel_rfl
theorem has_probatelaw05_awake (W0 : World) : Has (Ecx (cxOf W0)) K.probatelaw05_awake A.probatelaw05_awake := fn_sound Try.checked.mixed rfl (by exact Try.func47) (by kernel_rfl) tie_probatelaw05_awake
theorem tie_probatelaw05_own : compFn Try.prog yK Try.f51 = some A.probatelaw05_own.strip := by kernel_rfl
theorem has_probatelaw05_own (W0 : World) : Has (Ecx (cxOf W0)) K.probatelaw05_own A.probatelaw05_own := fn_sound Try.checked.mixed rfl (by exact Try.func51) (by kernel_rfl) tie_probatelaw05_own
theorem tie_probatelaw05_text : compFn Try.prog yK Try.f52 = some A.probatelaw05_text.strip := by kernel_rfl
theorem has_probatelaw05_text (W0 : World) : Has (Ecx (cxOf W0)) K.probatelaw05_text A.probatelaw05_text := fn_sound Try.checked.mixed rfl (by exact Try.func52) (by kernel_rfl) tie_probatelaw05_text
end Go.Proofs.Ytpnbdnmmfaomlaa.Al
