/-
  The tie: the abstract functions of strings are the program's own. Conditions: none.
-/
import Derived.Test.YtpnbdnmmfaomlaaAlTieK
import Derived.Test.YtpnbdnmmfaomlaaAlFstrings
namespace Go.Proofs.Ytpnbdnmmfaomlaa.Al
open Go
theorem tie_strings_Cut : compFn Try.prog yK Try.f101 = some A.strings_Cut.strip := by kernel_rfl
theorem has_strings_Cut (W0 : World) : Has (Ecx (cxOf W0)) K.strings_Cut A.strings_Cut := fn_sound Try.checked.mixed rfl (by exact Try.func101) (by kernel_rfl) tie_strings_Cut
theorem tie_strings_IndexByte : compFn Try.prog yK Try.f106 = some A.strings_IndexByte.strip := by kernel_rfl
theorem has_strings_IndexByte (W0 : World) : Has (Ecx (cxOf W0)) K.strings_IndexByte A.strings_IndexByte := fn_sound Try.checked.mixed rfl (by exact Try.func106) (by kernel_rfl) tie_strings_IndexByte
end Go.Proofs.Ytpnbdnmmfaomlaa.Al
