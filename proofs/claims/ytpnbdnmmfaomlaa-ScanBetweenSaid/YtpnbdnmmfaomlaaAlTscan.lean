/-
  The tie: the abstract functions of scan are the program's own. Conditions: none.
-/
import Derived.Test.YtpnbdnmmfaomlaaAlTieK
import Derived.Test.YtpnbdnmmfaomlaaAlFscan
namespace Go.Proofs.Ytpnbdnmmfaomlaa.Al
open Go
theorem tie_scan_Scan : compFn Try.prog yK Try.f48 = some A.scan_Scan.strip := by kernel_rfl
theorem has_scan_Scan (W0 : World) : Has (Ecx (cxOf W0)) K.scan_Scan A.scan_Scan := fn_sound Try.checked.mixed rfl (by exact Try.func48) (by kernel_rfl) tie_scan_Scan
theorem tie_scan_first : compFn Try.prog yK Try.f86 = some A.scan_first.strip := by kernel_rfl
theorem has_scan_first (W0 : World) : Has (Ecx (cxOf W0)) K.scan_first A.scan_first := fn_sound Try.checked.mixed rfl (by exact Try.func86) (by kernel_rfl) tie_scan_first
theorem tie_scan_letter : compFn Try.prog yK Try.f102 = some A.scan_letter.strip := by kernel_rfl
theorem has_scan_letter (W0 : World) : Has (Ecx (cxOf W0)) K.scan_letter A.scan_letter := fn_sound Try.checked.mixed rfl (by exact Try.func102) (by kernel_rfl) tie_scan_letter
theorem tie_scan_run : compFn Try.prog yK Try.f103 = some A.scan_run.strip := by kernel_rfl
theorem has_scan_run (W0 : World) : Has (Ecx (cxOf W0)) K.scan_run A.scan_run := fn_sound Try.checked.mixed rfl (by exact Try.func103) (by kernel_rfl) tie_scan_run
theorem tie_scan_part : compFn Try.prog yK Try.f104 = some A.scan_part.strip := by kernel_rfl
theorem has_scan_part (W0 : World) : Has (Ecx (cxOf W0)) K.scan_part A.scan_part := fn_sound Try.checked.mixed rfl (by exact Try.func104) (by kernel_rfl) tie_scan_part
theorem tie_scan_quoted : compFn Try.prog yK Try.f105 = some A.scan_quoted.strip := by kernel_rfl
theorem has_scan_quoted (W0 : World) : Has (Ecx (cxOf W0)) K.scan_quoted A.scan_quoted := fn_sound Try.checked.mixed rfl (by exact Try.func105) (by kernel_rfl) tie_scan_quoted
end Go.Proofs.Ytpnbdnmmfaomlaa.Al
