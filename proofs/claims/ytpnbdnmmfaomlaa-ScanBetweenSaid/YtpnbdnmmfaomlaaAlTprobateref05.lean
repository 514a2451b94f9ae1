/-
  The tie: the abstract functions of probateref05 are the program's own. Conditions: none.
-/
import Derived.Test.YtpnbdnmmfaomlaaAlTieK
import Derived.Test.YtpnbdnmmfaomlaaAlFprobateref05
namespace Go.Proofs.Ytpnbdnmmfaomlaa.Al
open Go
theorem tie_probateref05_Scan : compFn Try.prog yK Try.f49 = some A.probateref05_Scan.strip := by kernel_rfl
theorem has_probateref05_Scan (W0 : World) : Has (Ecx (cxOf W0)) K.probateref05_Scan A.probateref05_Scan := fn_sound Try.checked.mixed rfl (by exact Try.func49) (by kernel_rfl) tie_probateref05_Scan
theorem tie_probateref05_Same : compFn Try.prog yK Try.f50 = some A.probateref05_Same.strip := by kernel_rfl
theorem has_probateref05_Same (W0 : World) : Has (Ecx (cxOf W0)) K.probateref05_Same A.probateref05_Same := fn_sound Try.checked.mixed rfl (by exact Try.func50) (by kernel_rfl) tie_probateref05_Same
theorem tie_probateref05_letter : compFn Try.prog yK Try.f87 = some A.probateref05_letter.strip := by kernel_rfl
theorem has_probateref05_letter (W0 : World) : Has (Ecx (cxOf W0)) K.probateref05_letter A.probateref05_letter := fn_sound Try.checked.mixed rfl (by exact Try.func87) (by kernel_rfl) tie_probateref05_letter
theorem tie_probateref05_part : compFn Try.prog yK Try.f88 = some A.probateref05_part.strip := by kernel_rfl
theorem has_probateref05_part (W0 : World) : Has (Ecx (cxOf W0)) K.probateref05_part A.probateref05_part := fn_sound Try.checked.mixed rfl (by exact Try.func88) (by kernel_rfl) tie_probateref05_part
end Go.Proofs.Ytpnbdnmmfaomlaa.Al
