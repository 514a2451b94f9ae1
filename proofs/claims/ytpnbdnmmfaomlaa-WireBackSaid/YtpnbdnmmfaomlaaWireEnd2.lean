/-
  Layer 2: the call of the law WireBack. Conditions: none.
-/
import Derived.Test.YtpnbdnmmfaomlaaWireEnd
import Derived.Test.YtpnbdnmmfaomlaaWireLaw5
namespace Go.Proofs.Ytpnbdnmmfaomlaa.Al
open Go Go.RowKit
theorem law_WireBack (W : World) {u0 u1 : V} (a0 : Arg Try.prog 33 u0) (a1 : Arg Try.prog 3 u1) : Ecx (cxOf W) K.probatelaw02_WireBack [u0, u1] iniH fun r _ => r = .bool true := by
  obtain ⟨l, rfl, hl, hr⟩ := arg_things a0
  obtain ⟨c, rfl, _, _⟩ := arg_i64 Try.underlying3 a1
  exact back_spec (l02 W) l c hl hr rfl
end Go.Proofs.Ytpnbdnmmfaomlaa.Al
