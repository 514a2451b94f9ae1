/-
  Layer 4: the laws' calls. Conditions: none.
-/
import Derived.Test.YtpnbdnmmfaomlaaWireEnd
import Derived.Test.YtpnbdnmmfaomlaaWordEnd
import Derived.Test.YtpnbdnmmfaomlaaAlTl04
import Derived.Test.YtpnbdnmmfaomlaaAlTword
namespace Go.Proofs.Ytpnbdnmmfaomlaa.Al
open Go Go.RowKit
theorem lwo (W : World) : LWo (cxOf W) := ⟨has_word_below W, has_word_Right W, has_word_Fits W, has_word_Bytes W, has_word_Read W, has_word_fine W, has_word_May W, has_word_Apply W, has_word_Apply_1 W, lw W, lr W⟩
theorem lwr (W : World) : LWR (cxOf W) := ⟨has_probateref04_Right W, has_probateref04_Fits W, has_probateref04_Bytes W, has_probateref04_Read W, has_probateref04_May W, has_probateref04_Apply W, has_probateref02_Nums W, has_probateref01_Put W, lq W⟩
theorem l04 (W : World) : L04 (cxOf W) := ⟨lwo W, lwr W, has_probateref01_Same W, has_probatelaw04_awake W, has_probatelaw04_WordTells W, has_probatelaw04_WordBack W, has_probatelaw04_WordTurns W⟩
theorem arg_edit {u : V} (a : Arg Try.prog 89 u) : ∃ x : Ed, u = edV x ∧ True := by
  obtain ⟨l, rfl, t⟩ := arg_struct Try.underlying89 a
  obtain ⟨a0, r, rfl, y0, t⟩ := tys_cons t
  obtain ⟨a1, r, rfl, y1, t⟩ := tys_cons t
  obtain ⟨a2, r, rfl, y2, t⟩ := tys_cons t
  obtain rfl := tys_nil t
  obtain ⟨n0, rfl, _, _⟩ := ty_i64 (by kernel_rfl) y0
  obtain ⟨b, rfl⟩ := ty_bool (by kernel_rfl) y1
  obtain ⟨n2, rfl, _, _⟩ := ty_i64 (by kernel_rfl) y2
  exact ⟨⟨n0, b, n2⟩, rfl, trivial⟩
theorem arg_edits {u : V} (a : Arg Try.prog 77 u) : ∃ l : List Ed, u = .sl 3 0 (l.map edV) ∧ l.length ≤ maxLen := by
  obtain ⟨m, rfl, hm, h⟩ := arg_sl (e := 89) (by kernel_rfl) a
  obtain ⟨l, rfl, hr⟩ := list_form (f := edV) (fun v hv => arg_edit hv) m h
  rw [show Try.prog.cellsOf 89 = 3 by kernel_rfl]
  exact ⟨l, rfl, by simpa using hm⟩
theorem arg_ints {u : V} (a : Arg Try.prog 38 u) : ∃ l : List Int, u = .sl 1 0 (ints l) ∧ l.length ≤ maxLen ∧ ∀ n ∈ l, n < 2 ^ 63 := by
  obtain ⟨m, rfl, hm, h⟩ := arg_sl (e := 3) (by kernel_rfl) a
  obtain ⟨l, rfl, hr⟩ := list_ints m h
  rw [show Try.prog.cellsOf 3 = 1 by kernel_rfl]
  exact ⟨l, rfl, by simpa using hm, hr⟩
theorem arg_gram4 {u : V} (a : Arg Try.prog 76 u) : ∃ (t : Int) (c1 c2 c3 : V), u = .agg [.int .i64 t, c1, c2, c3] := by
  obtain ⟨l, rfl, t⟩ := arg_struct Try.underlying76 a
  obtain ⟨a0, r, rfl, y0, t⟩ := tys_cons t
  obtain ⟨a1, r, rfl, y1, t⟩ := tys_cons t
  obtain ⟨a2, r, rfl, y2, t⟩ := tys_cons t
  obtain ⟨a3, r, rfl, y3, t⟩ := tys_cons t
  obtain rfl := tys_nil t
  obtain ⟨n0, rfl, _, _⟩ := ty_i64 (by kernel_rfl) y0
  obtain ⟨n1, rfl, _, _⟩ := ty_i64 (by kernel_rfl) y1
  obtain ⟨n2, rfl, _, _⟩ := ty_i64 (by kernel_rfl) y2
  obtain ⟨m, rfl, _, _⟩ := ty_sl (e := 102) (by kernel_rfl) y3
  exact ⟨n0, _, _, _, rfl⟩
theorem law_WordTells (W : World) {u0 u1 u2 u3 u4 : V} (a0 : Arg Try.prog 76 u0) (a1 : Arg Try.prog 38 u1) (a2 : Arg Try.prog 23 u2) (a3 : Arg Try.prog 77 u3) (a4 : Arg Try.prog 3 u4) : Ecx (cxOf W) K.probatelaw04_WordTells [u0, u1, u2, u3, u4] iniH fun r _ => r = .bool true := by
  obtain ⟨t, c1, c2, c3, rfl⟩ := arg_gram4 a0
  obtain ⟨w, rfl, hw, _⟩ := arg_ints a1
  obtain ⟨b, rfl, hbl, hbb⟩ := arg_bytes a2
  obtain ⟨l, rfl, hl⟩ := arg_edits a3
  obtain ⟨z, rfl, _, _⟩ := arg_i64 Try.underlying3 a4
  exact tells4_spec (l04 W) _ t w b l z hw hbl hbb hl c1 c2 c3 rfl rfl
theorem law_WordBack (W : World) {u0 u1 u2 : V} (a0 : Arg Try.prog 38 u0) (a1 : Arg Try.prog 38 u1) (a2 : Arg Try.prog 23 u2) : Ecx (cxOf W) K.probatelaw04_WordBack [u0, u1, u2] iniH fun r _ => r = .bool true := by
  obtain ⟨w, rfl, hw, _⟩ := arg_ints a0
  obtain ⟨v, rfl, hv, _⟩ := arg_ints a1
  obtain ⟨b, rfl, hbl, hbb⟩ := arg_bytes a2
  exact back4_spec (l04 W) w v b hw hv hbl hbb rfl
theorem law_WordTurns (W : World) {u0 u1 u2 : V} (a0 : Arg Try.prog 38 u0) (a1 : Arg Try.prog 38 u1) (a2 : Arg Try.prog 77 u2) : Ecx (cxOf W) K.probatelaw04_WordTurns [u0, u1, u2] iniH fun r _ => r = .bool true := by
  obtain ⟨w, rfl, hw, _⟩ := arg_ints a0
  obtain ⟨v, rfl, hv, _⟩ := arg_ints a1
  obtain ⟨l, rfl, hl⟩ := arg_edits a2
  exact turns4_spec (l04 W) w v l hw hv hl rfl
end Go.Proofs.Ytpnbdnmmfaomlaa.Al
