/-
  Layer 3: the law GramTells. Conditions: none.
-/
import Derived.Test.YtpnbdnmmfaomlaaGramEnd2
import Derived.Test.YtpnbdnmmfaomlaaGramTells
namespace Go.Proofs.Ytpnbdnmmfaomlaa.Al
open Go Go.RowKit
theorem lgr (W : World) : LGR (cxOf W) := ⟨has_probateref01_Put W, lq W, has_probateref03_Right W, has_probateref03_Of W, has_probateref03_Bytes W, has_probateref03_Read W⟩
theorem law_GramTells (W : World) {u0 u1 u2 u3 : V} (a0 : Arg Try.prog 76 u0) (a1 : Arg Try.prog 76 u1) (a2 : Arg Try.prog 3 u2) (a3 : Arg Try.prog 23 u3) : Ecx (cxOf W) K.probatelaw03_GramTells [u0, u1, u2, u3] iniH fun r _ => r = .bool true := by
  obtain ⟨g, rfl, og⟩ := arg_gram a0
  obtain ⟨g2, rfl, og2⟩ := arg_gram a1
  obtain ⟨n, rfl, _, _⟩ := arg_i64 Try.underlying3 a2
  obtain ⟨b, rfl, hbl, hbb⟩ := arg_bytes a3
  exact tells3_spec (l03 W) (lgr W) (has_probatelaw03_GramTells W) g g2 n b og og2 hbl hbb rfl
end Go.Proofs.Ytpnbdnmmfaomlaa.Al
