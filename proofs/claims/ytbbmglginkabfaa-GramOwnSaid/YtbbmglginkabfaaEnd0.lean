/-
  What the laws of many layers are handed, and what their readers and writers call. Conditions: none.
-/
import Derived.Test.YtbbmglginkabfaaAlArg
import Derived.Test.YtbbmglginkabfaaVaryLaw
import Derived.Test.YtbbmglginkabfaaWire
import Derived.Test.YtbbmglginkabfaaWriter
import Derived.Test.YtbbmglginkabfaaSim
import Derived.Test.YtbbmglginkabfaaAlTl01
import Derived.Test.YtbbmglginkabfaaAlTvary
import Derived.Test.YtbbmglginkabfaaAlTl02
import Derived.Test.YtbbmglginkabfaaAlTwire
import Derived.Test.YtbbmglginkabfaaAlTlib
namespace Go.Proofs.Ytbbmglginkabfaa.Al
open Go Go.RowKit
theorem lw (W : World) : LW (cxOf W) := ⟨has_vary_Put W, has_wire_Writer_Num W, has_wire_Writer_Bool W, has_wire_Writer_Nums W, has_wire_Writer_Bytes W, has_slices_Clone_byte W⟩
theorem lr (W : World) : LR (cxOf W) := ⟨has_vary_Take W, has_vary_end W, has_wire_Reader_Wrong W, has_wire_Reader_Num W, has_wire_Reader_Bool W, has_wire_Reader_End W, has_wire_Reader_Nums W, has_wire_Reader_Nums_1 W, has_wire_List_int W, has_wire_New W, has_slices_Clone_byte W⟩
theorem lq (W : World) : LQ (cxOf W) := ⟨has_probateref01_Take W, has_probateref02_Reader_Num W, has_probateref02_Reader_Nums W, has_probateref02_Reader_End W, has_probateref02_Same W⟩
/-- Bytes that are handed in. -/
theorem arg_bytes {u : V} (a : Arg Try.prog 26 u) : ∃ l : List Nat, u = .sl 1 0 (u8s l) ∧ l.length ≤ maxLen ∧ ∀ x ∈ l, x < 256 := by
  obtain ⟨l, rfl, hl, h⟩ := arg_sl Try.underlying26 a
  obtain ⟨m, rfl, hm⟩ := list_form (f := u8) (fun v hv => arg_u8 (by kernel_rfl) hv) l h
  rw [show Try.prog.cellsOf 5 = 1 by kernel_rfl]
  exact ⟨m, rfl, by simpa using hl, hm⟩
/-- Ints that are handed in. -/
theorem list_ints (m : List V) (h : ∀ v ∈ m, Arg Try.prog 3 v) : ∃ l : List Int, m = ints l ∧ ∀ n ∈ l, n < 2 ^ 63 :=
  list_form (f := .int .i64) (fun v hv => by obtain ⟨n, e, _, h2⟩ := arg_i64 Try.underlying3 hv; exact ⟨n, e, h2⟩) m h
theorem arg_ints {u : V} (a : Arg Try.prog 29 u) : ∃ l : List Int, u = .sl 1 0 (ints l) ∧ l.length ≤ maxLen ∧ ∀ n ∈ l, n < 2 ^ 63 := by
  obtain ⟨m, rfl, hm, h⟩ := arg_sl (e := 3) (by kernel_rfl) a
  obtain ⟨l, rfl, hr⟩ := list_ints m h
  rw [show Try.prog.cellsOf 3 = 1 by kernel_rfl]
  exact ⟨l, rfl, by simpa using hm, hr⟩
end Go.Proofs.Ytbbmglginkabfaa.Al
