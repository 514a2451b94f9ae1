/-
  Layer 3: the laws' calls. Conditions: none.
-/
import Derived.Test.YtpnbdnmmfaomlaaWireEnd
import Derived.Test.YtpnbdnmmfaomlaaGramEnd
import Derived.Test.YtpnbdnmmfaomlaaAlTl03
import Derived.Test.YtpnbdnmmfaomlaaAlTgram
namespace Go.Proofs.Ytpnbdnmmfaomlaa.Al
open Go Go.RowKit
theorem lg (W : World) : LG (cxOf W) := ⟨has_gram_there W, has_gram_fits W, has_gram_fits_1 W, has_gram_Right W, has_gram_Right_1 W, has_gram_alike W, has_gram_Same W, has_gram_Clone W, has_gram_Of W, has_gram_Bytes W, has_gram_sym W, has_gram_prod W, has_gram_Read W, has_slices_ContainsFunc_Prod W, has_slices_ContainsFunc_Sym W, has_slices_IndexFunc_Prod W, has_slices_IndexFunc_Sym W, has_slices_EqualFunc_Prod W, has_slices_Equal_Sym W, has_slices_Clone_Sym W, has_wire_List_Sym W, has_wire_List_Prod W, lw W, lr W⟩
theorem l03 (W : World) : L03 (cxOf W) := ⟨lg W, has_probateref03_Same W, has_probateref01_Same W, has_probateref02_Same W, has_probatelaw03_small W, has_probatelaw03_awake W, has_probatelaw03_large W, has_probatelaw03_GramBack W, has_probatelaw03_GramOf W⟩
theorem arg_sym {u : V} (a : Arg Try.prog 105 u) : ∃ x : Sy, u = symV x ∧ True := by
  obtain ⟨l, rfl, t⟩ := arg_struct Try.underlying105 a
  obtain ⟨a0, r, rfl, y0, t⟩ := tys_cons t
  obtain ⟨a1, r, rfl, y1, t⟩ := tys_cons t
  obtain rfl := tys_nil t
  obtain ⟨b, rfl⟩ := ty_bool (by kernel_rfl) y0
  obtain ⟨n, rfl, _, _⟩ := ty_i64 (by kernel_rfl) y1
  exact ⟨⟨b, n⟩, rfl, trivial⟩
theorem arg_prod {u : V} (a : Arg Try.prog 102 u) : ∃ x : Pr, u = prV x ∧ x.right.length ≤ maxLen := by
  obtain ⟨l, rfl, t⟩ := arg_struct Try.underlying102 a
  obtain ⟨a0, r, rfl, y0, t⟩ := tys_cons t
  obtain ⟨a1, r, rfl, y1, t⟩ := tys_cons t
  obtain rfl := tys_nil t
  obtain ⟨n, rfl, _, _⟩ := ty_i64 (by kernel_rfl) y0
  obtain ⟨m, rfl, hm, hl⟩ := ty_sl (e := 105) (by kernel_rfl) y1
  obtain ⟨l, rfl, _⟩ := list_form (f := symV) (fun v hv => arg_sym hv) m hl
  rw [show Try.prog.cellsOf 105 = 2 by kernel_rfl]
  exact ⟨⟨n, l⟩, rfl, by simpa using hm⟩
theorem arg_gram {u : V} (a : Arg Try.prog 76 u) : ∃ g : Gm, u = gmV g ∧ GmOk g := by
  obtain ⟨l, rfl, t⟩ := arg_struct Try.underlying76 a
  obtain ⟨a0, r, rfl, y0, t⟩ := tys_cons t
  obtain ⟨a1, r, rfl, y1, t⟩ := tys_cons t
  obtain ⟨a2, r, rfl, y2, t⟩ := tys_cons t
  obtain ⟨a3, r, rfl, y3, t⟩ := tys_cons t
  obtain rfl := tys_nil t
  obtain ⟨n0, rfl, _, _⟩ := ty_i64 (by kernel_rfl) y0
  obtain ⟨n1, rfl, _, _⟩ := ty_i64 (by kernel_rfl) y1
  obtain ⟨n2, rfl, _, _⟩ := ty_i64 (by kernel_rfl) y2
  obtain ⟨m, rfl, hm, hl⟩ := ty_sl (e := 102) (by kernel_rfl) y3
  obtain ⟨l, rfl, hr⟩ := list_form (f := prV) (fun v hv => arg_prod hv) m hl
  rw [show Try.prog.cellsOf 102 = 2 by kernel_rfl]
  exact ⟨⟨n0, n1, n2, l⟩, rfl, ⟨by simpa using hm, hr⟩⟩
theorem law_GramBack (W : World) {u0 u1 u2 : V} (a0 : Arg Try.prog 76 u0) (a1 : Arg Try.prog 76 u1) (a2 : Arg Try.prog 23 u2) : Ecx (cxOf W) K.probatelaw03_GramBack [u0, u1, u2] iniH fun r _ => r = .bool true := by
  obtain ⟨g, rfl, og⟩ := arg_gram a0
  obtain ⟨g2, rfl, og2⟩ := arg_gram a1
  obtain ⟨b, rfl, hbl, hbb⟩ := arg_bytes a2
  exact back3_spec (l03 W) g g2 b og og2 hbl hbb rfl
theorem law_GramOf (W : World) {u0 u1 : V} (a0 : Arg Try.prog 76 u0) (a1 : Arg Try.prog 3 u1) : Ecx (cxOf W) K.probatelaw03_GramOf [u0, u1] iniH fun r _ => r = .bool true := by
  obtain ⟨g, rfl, og⟩ := arg_gram a0
  obtain ⟨n, rfl, _, _⟩ := arg_i64 Try.underlying3 a1
  exact of3_spec (l03 W) g n og rfl
end Go.Proofs.Ytpnbdnmmfaomlaa.Al
