/-
  The tie: the abstract functions of stringslite are the program's own. Conditions: none.
-/
import Derived.Test.YtpnbdnmmfaomlaaAlTieK
import Derived.Test.YtpnbdnmmfaomlaaAlFstringslite
namespace Go.Proofs.Ytpnbdnmmfaomlaa.Al
open Go
theorem tie_stringslite_Cut : compFn Try.prog yK Try.f114 = some A.stringslite_Cut.strip := by kernel_rfl
theorem has_stringslite_Cut (W0 : World) : Has (Ecx (cxOf W0)) K.stringslite_Cut A.stringslite_Cut := fn_sound Try.checked.mixed rfl (by exact Try.func114) (by kernel_rfl) tie_stringslite_Cut
theorem tie_stringslite_IndexByte : compFn Try.prog yK Try.f115 = some A.stringslite_IndexByte.strip := by kernel_rfl
theorem has_stringslite_IndexByte (W0 : World) : Has (Ecx (cxOf W0)) K.stringslite_IndexByte A.stringslite_IndexByte := fn_sound Try.checked.mixed rfl (by exact Try.func115) (by kernel_rfl) tie_stringslite_IndexByte
theorem tie_stringslite_Index : compFn Try.prog yK Try.f117 = some A.stringslite_Index.strip := by kernel_rfl
theorem has_stringslite_Index (W0 : World) : Has (Ecx (cxOf W0)) K.stringslite_Index A.stringslite_Index := fn_sound Try.checked.mixed rfl (by exact Try.func117) (by kernel_rfl) tie_stringslite_Index
end Go.Proofs.Ytpnbdnmmfaomlaa.Al
