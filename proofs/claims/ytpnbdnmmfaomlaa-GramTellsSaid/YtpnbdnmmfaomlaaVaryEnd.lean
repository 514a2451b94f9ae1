/-
  Layer 1: the laws' calls. Conditions: none.
-/
import Derived.Test.YtpnbdnmmfaomlaaAlArg
import Derived.Test.YtpnbdnmmfaomlaaVaryLaw
import Derived.Test.YtpnbdnmmfaomlaaAlTl01
import Derived.Test.YtpnbdnmmfaomlaaAlTvary
namespace Go.Proofs.Ytpnbdnmmfaomlaa.Al
open Go Go.RowKit
theorem l01 (W : World) : L01 (cxOf W) :=
  ⟨has_vary_Put W, has_vary_Take W, has_vary_end W, has_probateref01_Put W, has_probateref01_Take W, has_probateref01_Same W, has_probatelaw01_awake W, has_probatelaw01_VaryTells W, has_probatelaw01_VaryBack W, has_probatelaw01_VaryOne W⟩
/-- Bytes that are handed in. -/
theorem arg_bytes {u : V} (a : Arg Try.prog 23 u) : ∃ l : List Nat, u = .sl 1 0 (u8s l) ∧ l.length ≤ maxLen ∧ ∀ x ∈ l, x < 256 := by
  obtain ⟨l, rfl, hl, h⟩ := arg_sl Try.underlying23 a
  obtain ⟨m, rfl, hm⟩ := list_form (f := u8) (fun v hv => arg_u8 (by kernel_rfl) hv) l h
  rw [show Try.prog.cellsOf 5 = 1 by kernel_rfl]
  exact ⟨m, rfl, by simpa using hl, hm⟩
theorem law_VaryTells (W : World) {u0 u1 : V} (a0 : Arg Try.prog 22 u0) (a1 : Arg Try.prog 23 u1) : Ecx (cxOf W) K.probatelaw01_VaryTells [u0, u1] iniH fun r _ => r = .bool true := by
  obtain ⟨n, rfl, hn⟩ := arg_u64 Try.underlying22 a0
  obtain ⟨b, rfl, hl, hb⟩ := arg_bytes a1
  exact tells1_spec (l01 W) n hn b hl hb rfl
theorem law_VaryBack (W : World) {u0 u1 u2 : V} (a0 : Arg Try.prog 22 u0) (a1 : Arg Try.prog 22 u1) (a2 : Arg Try.prog 23 u2) : Ecx (cxOf W) K.probatelaw01_VaryBack [u0, u1, u2] iniH fun r _ => r = .bool true := by
  obtain ⟨n, rfl, hn⟩ := arg_u64 Try.underlying22 a0
  obtain ⟨m, rfl, hm⟩ := arg_u64 Try.underlying22 a1
  obtain ⟨b, rfl, hl, hb⟩ := arg_bytes a2
  exact back1_spec (l01 W) n m hn hm b hl hb rfl
theorem law_VaryOne (W : World) {u0 : V} (a0 : Arg Try.prog 23 u0) : Ecx (cxOf W) K.probatelaw01_VaryOne [u0] iniH fun r _ => r = .bool true := by
  obtain ⟨b, rfl, hl, hb⟩ := arg_bytes a0
  exact one1_spec (l01 W) b hl hb rfl
end Go.Proofs.Ytpnbdnmmfaomlaa.Al
