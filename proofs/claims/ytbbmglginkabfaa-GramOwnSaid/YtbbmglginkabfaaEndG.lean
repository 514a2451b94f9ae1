/-
  Grammars that are handed in, and what the laws of grammars call. Conditions: none.
-/
import Derived.Test.YtbbmglginkabfaaEnd0
import Derived.Test.YtbbmglginkabfaaGramLaw
import Derived.Test.YtbbmglginkabfaaAlTl03
import Derived.Test.YtbbmglginkabfaaAlTgram
namespace Go.Proofs.Ytbbmglginkabfaa.Al
open Go Go.RowKit
theorem lg (W : World) : LG (cxOf W) := ⟨has_gram_there W, has_gram_fits W, has_gram_fits_1 W, has_gram_Right W, has_gram_Right_1 W, has_gram_alike W, has_gram_Same W, has_gram_Clone W, has_gram_Of W, has_gram_Bytes W, has_gram_sym W, has_gram_prod W, has_gram_Read W, has_slices_ContainsFunc_Prod W, has_slices_ContainsFunc_Sym W, has_slices_IndexFunc_Prod W, has_slices_IndexFunc_Sym W, has_slices_EqualFunc_Prod W, has_slices_Equal_Sym W, has_slices_Clone_Sym W, has_wire_List_Sym W, has_wire_List_Prod W, lw W, lr W⟩
theorem l03 (W : World) : L03 (cxOf W) := ⟨lg W, has_probateref03_Same W, has_probateref01_Same W, has_probateref02_Same W, has_probatelaw03_small W, has_probatelaw03_awake W, has_probatelaw03_large W⟩
theorem arg_sym {u : V} (a : Arg Try.prog 67 u) : ∃ x : Sy, u = symV x ∧ True := by
  obtain ⟨l, rfl, t⟩ := arg_struct Try.underlying67 a
  obtain ⟨a0, r, rfl, y0, t⟩ := tys_cons t
  obtain ⟨a1, r, rfl, y1, t⟩ := tys_cons t
  obtain rfl := tys_nil t
  obtain ⟨b, rfl⟩ := ty_bool (by kernel_rfl) y0
  obtain ⟨n, rfl, _, _⟩ := ty_i64 (by kernel_rfl) y1
  exact ⟨⟨b, n⟩, rfl, trivial⟩
theorem arg_prod {u : V} (a : Arg Try.prog 65 u) : ∃ x : Pr, u = prV x ∧ x.right.length ≤ maxLen := by
  obtain ⟨l, rfl, t⟩ := arg_struct Try.underlying65 a
  obtain ⟨a0, r, rfl, y0, t⟩ := tys_cons t
  obtain ⟨a1, r, rfl, y1, t⟩ := tys_cons t
  obtain rfl := tys_nil t
  obtain ⟨n, rfl, _, _⟩ := ty_i64 (by kernel_rfl) y0
  obtain ⟨m, rfl, hm, hl⟩ := ty_sl (e := 67) (by kernel_rfl) y1
  obtain ⟨l, rfl, _⟩ := list_form (f := symV) (fun v hv => arg_sym hv) m hl
  rw [show Try.prog.cellsOf 67 = 2 by kernel_rfl]
  exact ⟨⟨n, l⟩, rfl, by simpa using hm⟩
theorem arg_gram {u : V} (a : Arg Try.prog 58 u) : ∃ g : Gm, u = gmV g ∧ GmOk g := by
  obtain ⟨l, rfl, t⟩ := arg_struct Try.underlying58 a
  obtain ⟨a0, r, rfl, y0, t⟩ := tys_cons t
  obtain ⟨a1, r, rfl, y1, t⟩ := tys_cons t
  obtain ⟨a2, r, rfl, y2, t⟩ := tys_cons t
  obtain ⟨a3, r, rfl, y3, t⟩ := tys_cons t
  obtain rfl := tys_nil t
  obtain ⟨n0, rfl, _, _⟩ := ty_i64 (by kernel_rfl) y0
  obtain ⟨n1, rfl, _, _⟩ := ty_i64 (by kernel_rfl) y1
  obtain ⟨n2, rfl, _, _⟩ := ty_i64 (by kernel_rfl) y2
  obtain ⟨m, rfl, hm, hl⟩ := ty_sl (e := 65) (by kernel_rfl) y3
  obtain ⟨l, rfl, hr⟩ := list_form (f := prV) (fun v hv => arg_prod hv) m hl
  rw [show Try.prog.cellsOf 65 = 2 by kernel_rfl]
  exact ⟨⟨n0, n1, n2, l⟩, rfl, ⟨by simpa using hm, hr⟩⟩
end Go.Proofs.Ytbbmglginkabfaa.Al
