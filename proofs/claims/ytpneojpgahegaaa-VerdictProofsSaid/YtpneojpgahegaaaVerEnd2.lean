/-
  Layer 20: the laws' calls. Conditions: none.
-/
import Derived.Test.YtpneojpgahegaaaEnd0
import Derived.Test.YtpneojpgahegaaaVerLaw
import Derived.Test.YtpneojpgahegaaaAlTl18
import Derived.Test.YtpneojpgahegaaaAlTl20
import Derived.Test.YtpneojpgahegaaaAlTverdict
namespace Go.Proofs.Ytpneojpgahegaaa.Al
open Go Go.RowKit
theorem lv (W : World) : LV (cxOf W) := ⟨has_verdict_within W, has_verdict_derivation W, has_verdict_derivation_1 W, has_verdict_Verdict_bare W, has_verdict_May_1 W, has_verdict_May W, has_verdict_odd W, has_verdict_Right_1 W, has_verdict_Right_2 W, has_verdict_Right W,
  ctE_is ▸ has_slices_ContainsFunc_Edit W, ixE_is ▸ has_slices_IndexFunc_Edit W, ctI_is ▸ has_slices_ContainsFunc_int_2 W, ixI_is ▸ has_slices_IndexFunc_int_2 W, ctT_is ▸ has_slices_ContainsFunc_Item W, ixT_is ▸ has_slices_IndexFunc_Item W,
  ctS_is ▸ has_slices_ContainsFunc_Item_2 W, ixS_is ▸ has_slices_IndexFunc_Item_2 W, ctL_is ▸ has_slices_ContainsFunc_int W, ixL_is ▸ has_slices_IndexFunc_int W⟩
theorem lv2 (W : World) : LV2 (cxOf W) := ⟨lv W, lw W, lr W, has_verdict_edit W, has_verdict_item W, has_verdict_lead W, has_verdict_set W, has_verdict_Read W, has_verdict_Decode W, has_verdict_Bytes W, has_verdict_Encode W, has_wire_List_Edit W, has_wire_List_Item_2 W, has_wire_List_Item W, has_wire_List_int_2 W⟩
theorem lv3 (W : World) : LV3 (cxOf W) := ⟨has_verdict_Same W, has_verdict_Alike W, has_slices_Equal_Edit W, has_slices_Equal_Item W, has_slices_Equal_int W, has_slices_EqualFunc_Item W, has_slices_EqualFunc_int W⟩
theorem lvr (W : World) : LVR (cxOf W) := ⟨has_probateref01_Put W, has_probateref02_Nums W, lq W, has_probateref02_Same W, has_probateref18_Same W, has_probateref20_num W, has_probateref20_flag W, has_probateref20_derivation W, has_probateref20_May W, has_probateref20_Right W, has_probateref20_Bytes W, has_probateref20_Encode W, has_probateref20_Read W, has_probateref20_Decode W, has_probateref20_Same W, has_probateref20_Alike W⟩
theorem l20 (W : World) : L20 (cxOf W) := ⟨lv2 W, lv3 W, lvr W, has_probateref01_Same W, has_probatelaw20_own W, has_probatelaw20_shown W, has_probatelaw20_large W, has_probatelaw20_awake W⟩
theorem arg_item {u : V} (a : Arg Try.prog 65 u) : ∃ x : It, u = itV x ∧ True := by
  obtain ⟨l, rfl, t⟩ := arg_struct Try.underlying65 a
  obtain ⟨a0, r, rfl, y0, t⟩ := tys_cons t
  obtain ⟨a1, r, rfl, y1, t⟩ := tys_cons t
  obtain ⟨a2, r, rfl, y2, t⟩ := tys_cons t
  obtain rfl := tys_nil t
  obtain ⟨n0, rfl, _, _⟩ := ty_i64 (by kernel_rfl) y0
  obtain ⟨n1, rfl, _, _⟩ := ty_i64 (by kernel_rfl) y1
  obtain ⟨n2, rfl, _, _⟩ := ty_i64 (by kernel_rfl) y2
  exact ⟨⟨n0, n1, n2⟩, rfl, trivial⟩
theorem arg_set {u : V} (a : Arg Try.prog 66 u) : ∃ l : List It, u = setV l ∧ l.length ≤ maxLen := by
  obtain ⟨m, rfl, hm, h⟩ := arg_sl (e := 65) (by kernel_rfl) a
  obtain ⟨l, rfl, _⟩ := list_form (f := itV) (fun v hv => arg_item hv) m h
  rw [show Try.prog.cellsOf 65 = 3 by kernel_rfl]
  exact ⟨l, rfl, by simpa using hm⟩
theorem arg_leadI {u : V} (a : Arg Try.prog 22 u) : ∃ l : List Int, u = leadV l ∧ l.length ≤ maxLen := by
  obtain ⟨l, e, h, _⟩ := arg_ints a
  exact ⟨l, e, h⟩
theorem arg_proof {u : V} (a : Arg Try.prog 30 u) : ∃ p : Pf, u = pfV p ∧ PfLen p := by
  obtain ⟨l, rfl, t⟩ := arg_struct Try.underlying30 a
  obtain ⟨a0, r, rfl, y0, t⟩ := tys_cons t
  obtain ⟨a1, r, rfl, y1, t⟩ := tys_cons t
  obtain rfl := tys_nil t
  obtain ⟨m, rfl, hm, hl⟩ := ty_sl (e := 66) (by kernel_rfl) y0
  obtain ⟨ss, rfl, hs⟩ := list_form (f := setV) (fun v hv => arg_set hv) m hl
  obtain ⟨m2, rfl, hm2, hl2⟩ := ty_sl (e := 22) (by kernel_rfl) y1
  obtain ⟨ls, rfl, hls⟩ := list_form (f := leadV) (fun v hv => arg_leadI hv) m2 hl2
  rw [show Try.prog.cellsOf 66 = 1 by kernel_rfl, show Try.prog.cellsOf 22 = 1 by kernel_rfl]
  simp only [List.length_map] at hm hm2
  exact ⟨⟨ss, ls⟩, rfl, ⟨hm, hm2, hs, hls⟩⟩
theorem arg_verdict {u : V} (a : Arg Try.prog 26 u) : ∃ v : Vd, u = vdV v ∧ VdLen v := by
  obtain ⟨l, rfl, t⟩ := arg_struct Try.underlying26 a
  obtain ⟨a0, r, rfl, y0, t⟩ := tys_cons t
  obtain ⟨a1, r, rfl, y1, t⟩ := tys_cons t
  obtain ⟨a2, r, rfl, y2, t⟩ := tys_cons t
  obtain ⟨a3, r, rfl, y3, t⟩ := tys_cons t
  obtain ⟨a4, r, rfl, y4, t⟩ := tys_cons t
  obtain ⟨a5, r, rfl, y5, t⟩ := tys_cons t
  obtain rfl := tys_nil t
  obtain ⟨n0, rfl, _, _⟩ := ty_i64 (by kernel_rfl) y0
  obtain ⟨m, rfl, hm, hl⟩ := ty_sl (e := 3) (by kernel_rfl) y1
  obtain ⟨ls, rfl, _⟩ := list_ints m hl
  obtain ⟨b, rfl⟩ := ty_bool (by kernel_rfl) y2
  obtain ⟨n3, rfl, _, _⟩ := ty_i64 (by kernel_rfl) y3
  obtain ⟨n4, rfl, h4, h5⟩ := ty_int (k := .u32) (by kernel_rfl) y4
  obtain ⟨m5, rfl, hm5, hl5⟩ := ty_sl (e := 74) (by kernel_rfl) y5
  obtain ⟨es, rfl, _⟩ := list_form (f := edV) (fun v hv => arg_edit hv) m5 hl5
  rw [show Try.prog.cellsOf 3 = 1 by kernel_rfl, show Try.prog.cellsOf 74 = 3 by kernel_rfl]
  have k1 : (0 : Int) ≤ n4 := h4
  have k2 : n4 < 2 ^ 32 := Int.lt_of_le_of_lt h5 (by decide)
  simp only [List.length_map, ints] at hm hm5
  exact ⟨⟨n0, ls, b, n3, n4, es⟩, rfl, ⟨hm, hm5, ⟨k1, k2⟩⟩⟩
theorem law_VerdictTells (W : World) {u0 u1 u2 u3 u4 : V} (a0 : Arg Try.prog 26 u0) (a1 : Arg Try.prog 26 u1) (a2 : Arg Try.prog 30 u2) (a3 : Arg Try.prog 30 u3) (a4 : Arg Try.prog 31 u4) : Ecx (cxOf W) K.probatelaw20_VerdictTells [u0, u1, u2, u3, u4] iniH fun r _ => r = .bool true := by
  obtain ⟨v, rfl, ov⟩ := arg_verdict a0
  obtain ⟨u, rfl, ou⟩ := arg_verdict a1
  obtain ⟨p, rfl, op⟩ := arg_proof a2
  obtain ⟨q, rfl, oq⟩ := arg_proof a3
  obtain ⟨b, rfl, hbl, hbb⟩ := arg_bytes a4
  exact tells20_spec (l20 W) (has_probatelaw20_VerdictTells W) v u p q b ov ou op oq hbl hbb rfl
theorem law_VerdictBack (W : World) {u0 u1 u2 : V} (a0 : Arg Try.prog 26 u0) (a1 : Arg Try.prog 26 u1) (a2 : Arg Try.prog 31 u2) : Ecx (cxOf W) K.probatelaw20_VerdictBack [u0, u1, u2] iniH fun r _ => r = .bool true := by
  obtain ⟨v, rfl, ov⟩ := arg_verdict a0
  obtain ⟨u, rfl, ou⟩ := arg_verdict a1
  obtain ⟨b, rfl, hbl, hbb⟩ := arg_bytes a2
  exact back20_spec (l20 W) (has_probatelaw20_VerdictBack W) v u b ov ou hbl hbb rfl
theorem law_VerdictProofs (W : World) {u0 u1 u2 : V} (a0 : Arg Try.prog 30 u0) (a1 : Arg Try.prog 30 u1) (a2 : Arg Try.prog 31 u2) : Ecx (cxOf W) K.probatelaw20_VerdictProofs [u0, u1, u2] iniH fun r _ => r = .bool true := by
  obtain ⟨p, rfl, op⟩ := arg_proof a0
  obtain ⟨q, rfl, oq⟩ := arg_proof a1
  obtain ⟨b, rfl, hbl, hbb⟩ := arg_bytes a2
  exact proofs20_spec (l20 W) (has_probatelaw20_VerdictProofs W) p q b op oq hbl hbb rfl
end Go.Proofs.Ytpneojpgahegaaa.Al
