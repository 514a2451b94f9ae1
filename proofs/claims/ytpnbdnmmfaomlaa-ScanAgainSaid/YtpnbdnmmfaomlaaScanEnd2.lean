/-
  Layer 5: the laws' calls. Conditions: none.
-/
import Derived.Test.YtpnbdnmmfaomlaaVaryEnd
import Derived.Test.YtpnbdnmmfaomlaaScanEnd
import Derived.Test.YtpnbdnmmfaomlaaAlTprobatelaw05
import Derived.Test.YtpnbdnmmfaomlaaAlTscan
import Derived.Test.YtpnbdnmmfaomlaaAlTprobateref05
import Derived.Test.YtpnbdnmmfaomlaaAlTstrings
import Derived.Test.YtpnbdnmmfaomlaaAlTstringslite
namespace Go.Proofs.Ytpnbdnmmfaomlaa.Al
open Go Go.RowKit
theorem ext_indexByte (W : World) (s : Str) (c : Int) (h : AH) (Q : V → AH → Prop) (hQ : Q (.int .i64 (idxB s c)) h) : Ecx (cxOf W) K.bytealg_IndexByteString [.str s, .int .u8 c] h Q :=
  indexByte_ext (X := cxOf W) (fn := Try.f118) (by exact Try.func118) (by kernel_rfl) (by kernel_rfl) (by kernel_rfl) (by kernel_rfl) s c hQ
theorem ls (W : World) : LS (cxOf W) := ⟨has_scan_letter W, has_scan_part W, has_scan_quoted W, has_scan_run W, has_scan_first W, has_scan_Scan W, has_strings_Cut W, has_strings_IndexByte W, has_stringslite_Cut W, has_stringslite_IndexByte W, has_stringslite_Index W, ext_indexByte W⟩
theorem lsr (W : World) : LSR (cxOf W) := ⟨has_probateref05_letter W, has_probateref05_part W, has_probateref05_Scan W, has_probateref05_Same W⟩
theorem l05 (W : World) : L05 (cxOf W) := ⟨ls W, lsr W, has_probatelaw05_own W, has_probatelaw05_awake W, has_probatelaw05_text W, has_probatelaw05_ScanTells W, has_probatelaw05_ScanAgain W, has_probatelaw05_ScanBetween W⟩
theorem law_ScanTells (W : World) {u0 : V} (a0 : Arg Try.prog 9 u0) : Ecx (cxOf W) K.probatelaw05_ScanTells [u0] iniH fun r _ => r = .bool true := by
  obtain ⟨s, rfl, _⟩ := arg_str Try.underlying9 a0
  exact tells5_spec (l05 W) s rfl
theorem law_ScanAgain (W : World) {u0 : V} (a0 : Arg Try.prog 9 u0) : Ecx (cxOf W) K.probatelaw05_ScanAgain [u0] iniH fun r _ => r = .bool true := by
  obtain ⟨s, rfl, _⟩ := arg_str Try.underlying9 a0
  exact again_spec (l05 W) s rfl
theorem law_ScanBetween (W : World) {u0 u1 u2 : V} (a0 : Arg Try.prog 9 u0) (a1 : Arg Try.prog 9 u1) (a2 : Arg Try.prog 9 u2) : Ecx (cxOf W) K.probatelaw05_ScanBetween [u0, u1, u2] iniH fun r _ => r = .bool true := by
  obtain ⟨a, rfl, _⟩ := arg_str Try.underlying9 a0
  obtain ⟨b, rfl, _⟩ := arg_str Try.underlying9 a1
  obtain ⟨c, rfl, _⟩ := arg_str Try.underlying9 a2
  exact between_spec (l05 W) a b c rfl
end Go.Proofs.Ytpnbdnmmfaomlaa.Al
