/-
  Layer 2: the laws' calls. Conditions: none.
-/
import Derived.Test.YtpnbdnmmfaomlaaVaryEnd
import Derived.Test.YtpnbdnmmfaomlaaWireLaw3
import Derived.Test.YtpnbdnmmfaomlaaAlTl02
import Derived.Test.YtpnbdnmmfaomlaaAlTwire
import Derived.Test.YtpnbdnmmfaomlaaAlTlib
namespace Go.Proofs.Ytpnbdnmmfaomlaa.Al
open Go Go.RowKit
theorem lw (W : World) : LW (cxOf W) := ⟨has_vary_Put W, has_wire_Writer_Num W, has_wire_Writer_Bool W, has_wire_Writer_Nums W, has_wire_Writer_Bytes W, has_slices_Clone_byte W⟩
theorem lr (W : World) : LR (cxOf W) := ⟨has_vary_Take W, has_vary_end W, has_wire_Reader_Wrong W, has_wire_Reader_Num W, has_wire_Reader_Bool W, has_wire_Reader_Left W, has_wire_Reader_End W, has_wire_Reader_Nums W, has_wire_Reader_Nums_1 W, has_wire_List_int W, has_wire_New W, has_slices_Clone_byte W⟩
theorem lq (W : World) : LQ (cxOf W) := ⟨has_probateref01_Take W, has_probateref02_Reader_Num W, has_probateref02_Reader_Nums W, has_probateref02_Reader_Wrong W, has_probateref02_Reader_Left W, has_probateref02_Reader_End W, has_probateref02_Same W⟩
theorem l02 (W : World) : L02 (cxOf W) := ⟨lw W, lr W, lq W, has_probateref01_Put W, has_probateref02_Nums W, has_probateref01_Same W, has_probatelaw02_awake W, has_probatelaw02_large W, has_probatelaw02_write W, has_probatelaw02_read W, has_probatelaw02_WireWrites W, has_probatelaw02_WireReads W, has_probatelaw02_WireBack W, has_probatelaw02_WireList W, has_probatelaw02_WireList_1 W, has_wire_List_Thing W⟩
/-- Ints that are handed in. -/
theorem list_ints (m : List V) (h : ∀ v ∈ m, Arg Try.prog 3 v) : ∃ l : List Int, m = ints l ∧ ∀ n ∈ l, n < 2 ^ 63 :=
  list_form (f := .int .i64) (fun v hv => by obtain ⟨n, e, _, h2⟩ := arg_i64 Try.underlying3 hv; exact ⟨n, e, h2⟩) m h
theorem arg_thing {u : V} (a : Arg Try.prog 40 u) : ∃ x : Th, u = thV x ∧ Ranged x := by
  obtain ⟨l, rfl, t⟩ := arg_struct Try.underlying40 a
  obtain ⟨a0, r, rfl, y0, t⟩ := tys_cons t
  obtain ⟨a1, r, rfl, y1, t⟩ := tys_cons t
  obtain ⟨a2, r, rfl, y2, t⟩ := tys_cons t
  obtain ⟨a3, r, rfl, y3, t⟩ := tys_cons t
  obtain rfl := tys_nil t
  obtain ⟨n0, rfl, _, _⟩ := ty_i64 (by kernel_rfl) y0
  obtain ⟨n1, rfl, _, h1⟩ := ty_i64 (by kernel_rfl) y1
  obtain ⟨m, rfl, hm, hl⟩ := ty_sl (e := 3) (by kernel_rfl) y2
  obtain ⟨n3, rfl, _, _⟩ := ty_i64 (by kernel_rfl) y3
  obtain ⟨l, rfl, h2⟩ := list_ints m hl
  rw [show Try.prog.cellsOf 3 = 1 by kernel_rfl]
  exact ⟨⟨n0, n1, l, n3⟩, rfl, ⟨h1, h2, by simpa using hm⟩⟩
theorem arg_things {u : V} (a : Arg Try.prog 33 u) : ∃ l : List Th, u = .sl 4 0 (l.map thV) ∧ l.length ≤ maxLen ∧ ∀ x ∈ l, Ranged x := by
  obtain ⟨m, rfl, hm, h⟩ := arg_sl (e := 40) (by kernel_rfl) a
  obtain ⟨l, rfl, hr⟩ := list_form (f := thV) (fun v hv => arg_thing hv) m h
  rw [show Try.prog.cellsOf 40 = 4 by kernel_rfl]
  exact ⟨l, rfl, by simpa using hm, hr⟩
theorem law_WireWrites (W : World) {u0 : V} (a0 : Arg Try.prog 33 u0) : Ecx (cxOf W) K.probatelaw02_WireWrites [u0] iniH fun r _ => r = .bool true := by
  obtain ⟨l, rfl, hl, hr⟩ := arg_things a0
  exact writes_spec (l02 W) l hl hr rfl
theorem law_WireReads (W : World) {u0 u1 : V} (a0 : Arg Try.prog 23 u0) (a1 : Arg Try.prog 33 u1) : Ecx (cxOf W) K.probatelaw02_WireReads [u0, u1] iniH fun r _ => r = .bool true := by
  obtain ⟨b, rfl, hbl, hbb⟩ := arg_bytes a0
  obtain ⟨l, rfl, hl, hr⟩ := arg_things a1
  exact reads_spec (l02 W) b l hbl hbb hl hr rfl
end Go.Proofs.Ytpnbdnmmfaomlaa.Al
