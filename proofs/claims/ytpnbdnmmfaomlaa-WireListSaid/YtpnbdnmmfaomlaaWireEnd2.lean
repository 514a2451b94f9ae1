/-
  Layer 2: the calls of the laws WireBack and WireList. Conditions: none.
-/
import Derived.Test.YtpnbdnmmfaomlaaWireEnd
import Derived.Test.YtpnbdnmmfaomlaaWireLaw6
namespace Go.Proofs.Ytpnbdnmmfaomlaa.Al
open Go Go.RowKit
theorem law_WireBack (W : World) {u0 u1 : V} (a0 : Arg Try.prog 33 u0) (a1 : Arg Try.prog 3 u1) : Ecx (cxOf W) K.probatelaw02_WireBack [u0, u1] iniH fun r _ => r = .bool true := by
  obtain ⟨l, rfl, hl, hr⟩ := arg_things a0
  obtain ⟨c, rfl, _, _⟩ := arg_i64 Try.underlying3 a1
  exact back_spec (l02 W) l c hl hr rfl
theorem law_WireList (W : World) {u0 u1 u2 : V} (a0 : Arg Try.prog 23 u0) (a1 : Arg Try.prog 3 u1) (a2 : Arg Try.prog 3 u2) : Ecx (cxOf W) K.probatelaw02_WireList [u0, u1, u2] iniH fun r _ => r = .bool true := by
  obtain ⟨b, rfl, hbl, hbb⟩ := arg_bytes a0
  obtain ⟨m, rfl, _, _⟩ := arg_i64 Try.underlying3 a1
  obtain ⟨t, rfl, _, ht⟩ := arg_i64 Try.underlying3 a2
  exact listlaw_spec (l02 W) b m t hbl hbb ht rfl
end Go.Proofs.Ytpnbdnmmfaomlaa.Al
