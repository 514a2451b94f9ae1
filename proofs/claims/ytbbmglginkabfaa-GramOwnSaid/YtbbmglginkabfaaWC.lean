/-
  A writer that the call itself has made, by the abstract layer. Conditions: each theorem's own.
-/
import Derived.Test.YtbbmglginkabfaaWireLaw
namespace Go.Proofs.Ytbbmglginkabfaa.Al
open Go Go.RowKit
set_option linter.unusedSimpArgs false
set_option linter.unusedVariables false
attribute [-simp] List.getD_eq_getElem?_getD Int.not_lt Int.not_le List.map_take

/-- A writer o, made since h0, that holds these bytes. -/
structure WC (h0 h : AH) (o : Nat) (L : List Nat) : Prop where
  wo : ∃ st, WO h o L st ∧ (st ≤ 2 ∨ h0.next ≤ st)
  gr : Gr h0 h
  ho : h0.nobj ≤ o
  lo : o < h.nobj
theorem WC.new {h0 h : AH} {o : Nat} {L : List Nat} (w : WC h0 h o L) (z : List V) : WC h0 (h.new z) o L := by
  obtain ⟨st, wo, fs⟩ := w.wo
  have := w.lo
  exact ⟨⟨st, wo.keep (new_objs_ne _ _ (by omega)) (Nat.le_refl _) rfl, fs⟩, w.gr.new z, w.ho, by simp; omega⟩
theorem WC.mk0 (h0 : AH) {h : AH} (g : Gr h0 h) : WC h0 (h.new [.sl 0 1 []]) h.nobj [] := ⟨⟨1, WO.new h, .inl (by omega)⟩, g.new _, g.nobj, by simp⟩
theorem WC.set {h0 h : AH} {o q : Nat} {L : List Nat} (w : WC h0 h o L) (hq : h0.nobj ≤ q) (hne : ¬ o = q) (z : List V) : WC h0 (h.set q z) o L := by
  obtain ⟨st, wo, fs⟩ := w.wo
  exact ⟨⟨st, wo.keep (set_objs_ne _ _ _ hne) (Nat.le_refl _) rfl, fs⟩, w.gr.set hq z, w.ho, w.lo⟩
theorem WC.we {h0 h h1 : AH} {o st st1 : Nat} {L M : List Nat} (w : WC h0 h o L) (fs : st ≤ 2 ∨ h0.next ≤ st) (e : WE h h1 o st st1) (wo : WO h1 o M st1) : WC h0 h1 o M ∧ (∀ q, ¬ q = o → q < h.nobj → h1.objs q = h.objs q) ∧ h.nobj ≤ h1.nobj := by
  obtain ⟨g, f⟩ := w.gr.we e w.ho fs
  exact ⟨⟨⟨st1, wo, f⟩, g, w.ho, Nat.lt_of_lt_of_le w.lo e.nobj⟩, fun q hq hl => e.objs q hl hq, e.nobj⟩
section
variable {X : Cx} {h0 h : AH} {Q : V → AH → Prop}
theorem cnum (L0 : LW X) {o : Nat} {L : List Nat} (n : Nat) (hn : n < 2 ^ 63) (w : WC h0 h o L) (hl : L.length + 10 ≤ 2 ^ 46)
    (hQ : ∀ h1, WC h0 h1 o (L ++ vput n) → (∀ q, ¬ q = o → q < h.nobj → h1.objs q = h.objs q) → h.nobj ≤ h1.nobj → Q (.tup []) h1) : Ecx X K.wire_Writer_Num [.ptr o 0, .int .i64 n] h Q := by
  obtain ⟨st, wo, fs⟩ := w.wo
  refine wwnum L0 n hn wo hl fun h1 st1 e wo1 => ?_
  obtain ⟨a, b, c⟩ := w.we fs e wo1
  exact hQ h1 a b c
theorem cint (L0 : LW X) {o : Nat} {L : List Nat} (n : Int) (h0n : 0 ≤ n) (hn : n < 2 ^ 63) (w : WC h0 h o L) (hl : L.length + 10 ≤ 2 ^ 46)
    (hQ : ∀ h1, WC h0 h1 o (L ++ vput n.toNat) → (∀ q, ¬ q = o → q < h.nobj → h1.objs q = h.objs q) → h.nobj ≤ h1.nobj → Q (.tup []) h1) : Ecx X K.wire_Writer_Num [.ptr o 0, .int .i64 n] h Q := by
  obtain ⟨m, rfl⟩ : ∃ m : Nat, n = m := ⟨n.toNat, by omega⟩
  rw [Int.toNat_natCast] at hQ
  exact cnum L0 m (by omega) w hl hQ
theorem cbool (L0 : LW X) {o : Nat} {L : List Nat} (b : Bool) (w : WC h0 h o L) (hl : L.length + 10 ≤ 2 ^ 46)
    (hQ : ∀ h1, WC h0 h1 o (L ++ vput (if b then 1 else 0)) → (∀ q, ¬ q = o → q < h.nobj → h1.objs q = h.objs q) → h.nobj ≤ h1.nobj → Q (.tup []) h1) : Ecx X K.wire_Writer_Bool [.ptr o 0, .bool b] h Q := by
  obtain ⟨st, wo, fs⟩ := w.wo
  refine wwbool L0 b wo hl fun h1 st1 e wo1 => ?_
  obtain ⟨a, b, c⟩ := w.we fs e wo1
  exact hQ h1 a b c
theorem cnums (L0 : LW X) {o : Nat} {L : List Nat} {s : Nat} (ns : List Nat) (hn : ∀ n ∈ ns, n < 2 ^ 63) (w : WC h0 h o L) (hl : L.length + 10 * ns.length + 10 ≤ 2 ^ 46)
    (hQ : ∀ h1, WC h0 h1 o (L ++ vput ns.length ++ vputs ns) → (∀ q, ¬ q = o → q < h.nobj → h1.objs q = h.objs q) → h.nobj ≤ h1.nobj → Q (.tup []) h1) : Ecx X K.wire_Writer_Nums [.ptr o 0, .sl 1 s (i64s ns)] h Q := by
  obtain ⟨st, wo, fs⟩ := w.wo
  refine wwnums L0 ns hn wo hl fun h1 st1 e wo1 => ?_
  obtain ⟨a, b, c⟩ := w.we fs e wo1
  exact hQ h1 a b c
theorem cbytes (L0 : LW X) {o : Nat} {L : List Nat} (w : WC h0 h o L) (hl : L.length ≤ 2 ^ 46) (hQ : Q (.sl 1 0 (u8s L)) h) : Ecx X K.wire_Writer_Bytes [.ptr o 0] h Q := by
  obtain ⟨st, wo, fs⟩ := w.wo
  exact wbytes L0 wo hl hQ
end
end Go.Proofs.Ytbbmglginkabfaa.Al
