/-
  The abstract layer, part 5: operation by operation. Conditions: none.
-/
import Derived.Test.YtpnbdnmmfaomlaaAlOps
import Derived.Laws.StructEq
import Derived.Laws.MakeOwn
namespace Go.Proofs.Ytpnbdnmmfaomlaa.Al
open Go Go.RowKit
set_option linter.unusedSimpArgs false
set_option linter.unusedVariables false

section
variable {X : Cx} {g : Gh} {w : World} {h : AH} {K : V → AH → Prop}

/-! ### Types -/
theorem run_tyAgg {P : Program} {t : TypeId} {b : Bool} (e : tyAgg P t = some b) (w : World) : (isAgg t).run P w = .ok b w := by
  unfold tyAgg at e
  unfold isAgg
  split at e
  · rename_i hd; simp at e; subst e; simp [run_underlying hd]
  · rename_i hd; simp at e; subst e; simp [run_underlying hd]
  · rename_i d hd1 hd2 hd; simp at e; subst e
    cases d <;> first | (simp [run_underlying hd]; done) | (exact absurd rfl (hd1 _)) | (exact absurd rfl (hd2 _ _))
  · simp at e
theorem tySize_info {P : Program} {t : TypeId} {n : Nat} (e : tySize P t = some n) : ∃ i, P.info? t = some i ∧ i.size = n := by
  unfold tySize at e; split at e
  · rename_i i hi; simp at e; exact ⟨i, hi, e⟩
  · simp at e
theorem run_tySize {P : Program} {t : TypeId} {n : Nat} (e : tySize P t = some n) (w : World) : (sizeOf t).run P w = .ok n w := by
  obtain ⟨i, hi, rfl⟩ := tySize_info e
  simp [sizeOf, typeInfo, hi]
theorem tyZero_spec {P : Program} {t : TypeId} {l : List V} (e : tyZero P t = some l) : ∃ i z, P.info? t = some i ∧ i.zero = some z ∧ leafVs z.cells.toList = some l ∧ z.cells.all (·.oneCell') = true := by
  unfold tyZero at e
  split at e
  · rename_i i hi
    split at e
    · rename_i z hz
      split at e
      · rename_i m hm
        split at e
        · rename_i ha; simp at e; subst e; exact ⟨i, z, hi, hz, hm, ha⟩
        · simp at e
      · simp at e
    · simp at e
  · simp at e
theorem run_zero {P : Program} {t : TypeId} {i : TypeInfo} {z : Value} (h1 : P.info? t = some i) (h2 : i.zero = some z) (w : World) : (zeroValue t).run P w = .ok z w := by
  simp [zeroValue, typeInfo, h1, h2]
theorem leafVs_rel {z : Array Value} {l : List V} (e : leafVs z.toList = some l) : l.length = z.size ∧ ∀ i (h1 : i < l.length) (h2 : i < z.size), Rel X g w h (l[i]) (z[i]) := by
  obtain ⟨k1, k2⟩ := leafVs_spec e
  refine ⟨by simpa using k1, fun i h1 h2 => ?_⟩
  have := k2 i h1 (by simpa using h2)
  simp at this
  exact leafV_rel this
theorem tyElem_spec {P : Program} {t e : TypeId} (h : tyElem P t = some e) : P.underlying t = some (.slice e) := by
  unfold tyElem at h; split at h
  · rename_i h'; simp at h; subst h; exact h'
  · simp at h

theorem Out.of_run {s : Sem Value} {x : Value} {w' : World} {g' : Gh} {h' : AH} {v : V} (e : s.run X.P w = .ok x w') (hk : K v h') (I : Inv X g' w' h') (r : Rel X g' w' h' v x) (S : Stp g w h g' w' h') :
    Out X g w h K ((do pure (Next.value (← s)) : Sem Next).run X.P w) :=
  ⟨v, h', x, g', w', hk, I, r, S, .inl (by simp [e])⟩
theorem Out.same {s : Sem Value} {x : Value} {v : V} (I : Inv X g w h) (e : s.run X.P w = .ok x w) (hk : K v h) (r : Rel X g w h v x) :
    Out X g w h K ((do pure (Next.value (← s)) : Sem Next).run X.P w) := Out.of_run e hk I r (Stp.refl _ _ _)

/-! ### alloc, box -/
theorem out_alloc (I : Inv X g w h) {t : TypeId} {z : List V} (e : tyZero X.P t = some z) (hk : K (.ptr h.nobj 0) (h.new z)) :
    Out X g w h K ((do pure (Next.value (← Instr.alloc t true (.tuple #[]))) : Sem Next).run X.P w) := by
  obtain ⟨i, zv, h1, h2, h3, h4⟩ := tyZero_spec e
  obtain ⟨k1, k2⟩ := leafVs_rel (X := X) (g := g) (w := w) (h := h) h3
  obtain ⟨g', I', S, ho⟩ := new_obj I z zv.cells t k1 (fun i hi => by
    have := Array.all_eq_true.1 h4 i hi; exact this) k2
  refine Out.of_run (x := .pointer (some ⟨w.heap.size, 0, none⟩)) ?_ hk I' ?_ S
  · simp [Instr.alloc, run_zero h1 h2, newVar, newRow]
  · rw [← ho]; exact .ptr _ _ (by simp [AH.new])
theorem out_box (I : Inv X g w h) (t : TypeId) {v : V} {x : Value} (r : Rel X g w h v x) (hg : v.good = true) (hk : K (.ptr h.nobj 0) (h.new v.cells)) :
    Out X g w h K ((do pure (Next.value (← Instr.box t x)) : Sem Next).run X.P w) := by
  obtain ⟨k1, k2, k3⟩ := r.cells hg
  obtain ⟨g', I', S, ho⟩ := new_obj I v.cells x.cells t k1 k2 k3
  refine Out.of_run (x := .pointer (some ⟨w.heap.size, 0, none⟩)) ?_ hk I' ?_ S
  · simp [Instr.box, newVar, newRow]
  · rw [← ho]; exact .ptr _ _ (by simp [AH.new])

/-! ### load -/
/-- What lies at an address, cell by cell. -/
theorem load_cells {t : TypeId} {gg : Bool} {n : Nat} (h1 : tyAgg X.P t = some gg) (h2 : tySize X.P t = some n) {c : List V} {off b base : Nat} (x : Nat → Value)
    (hc : ∀ i, i < c.length → w.cell? ⟨b, base + i, none⟩ = some (x i)) (ho : ∀ i, i < c.length → (x i).oneCell' = true) (hr : ∀ i (hi : i < c.length), Rel X g w h (c[i]) (x i)) {K : V → Prop}
    (hk : loadC gg n c off K) : ∃ v u, (loadVar t ⟨b, base + off, none⟩).run X.P w = .ok u w ∧ Rel X g w h v u ∧ K v := by
  cases gg with
  | true =>
    obtain ⟨hl, hk⟩ := hk
    refine ⟨_, .agg (((List.range n).map fun j => x (off + j)).toArray), ?_, ?_, hk⟩
    · have := run_loadCells (P := X.P) w ⟨b, base + off, none⟩ n (fun j => x (off + j)) (fun j hj => by
        rw [Addr.add_lit, Nat.add_assoc]; exact hc (off + j) (by omega))
      simp [loadVar, run_tyAgg h1, run_tySize h2, this]
    · refine .agg _ _ (by simp; omega) (fun i hi => ?_) (fun i i1 i2 => ?_)
      · simp at hi ⊢; exact ho _ (by omega)
      · simp at i2 ⊢; exact hr (off + i) (by omega)
  | false =>
    obtain ⟨hl, hk⟩ := hk
    refine ⟨_, x off, ?_, ?_, hk⟩
    · simp [loadVar, run_tyAgg h1, hc off hl]
    · simp only [List.getD, List.getElem?_eq_getElem hl, Option.getD_some]; exact hr off hl
/-- What lies in an object. -/
theorem load_obj {t : TypeId} {gg : Bool} {n : Nat} (h1 : tyAgg X.P t = some gg) (h2 : tySize X.P t = some n) (I : Inv X g w h) {o off : Nat} (hn : o < h.nobj) {K : V → Prop}
    (hk : loadC gg n (h.objs o) off K) : ∃ v u, (loadVar t ⟨g.obj o, off, none⟩).run X.P w = .ok u w ∧ Rel X g w h v u ∧ K v := by
  obtain ⟨cs, t', k1, k2, k3, k4⟩ := I.objs o hn
  have := load_cells (X := X) (g := g) (w := w) (h := h) (base := 0) h1 h2 (fun i => cs.getD i undef) (b := g.obj o) (c := h.objs o) (off := off) (fun i hi => by
    have : i < cs.size := by omega
    simp [World.cell?, k1, this, Array.getD]) (fun i hi => by
    have hi2 : i < cs.size := by omega
    simp only [Array.getD, dif_pos hi2]; exact k3 i hi2) (fun i hi => by
    have hi2 : i < cs.size := by omega
    simp only [Array.getD, dif_pos hi2]; exact k4 i hi hi2) hk
  simpa using this
theorem out_load {t : TypeId} {gg : Bool} {n : Nat} (h1 : tyAgg X.P t = some gg) (h2 : tySize X.P t = some n) (I : Inv X g w h) {v : V} {x : Value} (r : Rel X g w h v x)
    (hk : match (generalizing := false) v with | .ptr o off => loadC gg n (h.objs o) off (fun v => K v h) | .rptr l off => loadC gg n l off (fun v => K v h) | _ => False) :
    Out X g w h K ((do pure (Next.value (← Instr.loadAt t x)) : Sem Next).run X.P w) := by
  cases r with
  | ptr o off hn =>
    obtain ⟨v, u, e, r, k⟩ := load_obj h1 h2 I hn hk
    exact Out.same I (by simp [Instr.loadAt, Instr.sureAddr, e]) k r
  | rptr l off b base xf hc ho hp hr =>
    obtain ⟨v, u, e, r, k⟩ := load_cells (X := X) (g := g) (w := w) (h := h) h1 h2 xf hc ho hr hk
    exact Out.same I (by simp [Instr.loadAt, Instr.sureAddr, e]) k r
  | _ => exact hk.elim

/-! ### store -/
theorem out_store {t : TypeId} {n : Nat} (h2 : tySize X.P t = some n) (I : Inv X g w h) {v u : V} {x y : Value} (r : Rel X g w h v x) (ru : Rel X g w h u y)
    (hk : match (generalizing := false) v with | .ptr o off => u.cells.length = n ∧ u.good = true ∧ off + n ≤ (h.objs o).length ∧ K (.tup []) (h.set o (setAt (h.objs o) off u.cells)) | _ => False) :
    Out X g w h K ((do Instr.storeAt t x y; pure Next.skip : Sem Next).run X.P w) := by
  cases r with
  | ptr o off hn =>
    obtain ⟨a1, a2, a3, a4⟩ := hk
    obtain ⟨c1, c2, c3⟩ := ru.cells a2
    obtain ⟨w', e, I', S⟩ := store_obj I o off hn u.cells y.cells.toList (by simpa using c1) (by omega) (fun i hi => by simp at hi ⊢; exact c2 i hi) (fun i i1 i2 => by simp at i2 ⊢; exact c3 i i1 i2)
    refine ⟨.tup [], _, undef, g, w', a4, I', .tup [] #[] rfl (by simp), S, .inr ⟨rfl, ?_⟩⟩
    have hsz : y.cells.size = n := by omega
    simp [Instr.storeAt, Instr.sureAddr, storeVar, run_tySize h2, hsz, e]
  | _ => exact hk.elim

/-! ### numbers, strings, bools -/
theorem out_bin_int (op : BinOp) (I : Inv X g w h) (t : TypeId) (x y : Operand) (k : IntKind) (a b : Int) (hk : if isShift op then shI op k a b (fun v => K v h) else binI op k a b (fun v => K v h)) :
    Out X g w h K ((do pure (Next.value (← (do eqGuard op t x y (.int k a) (.int k b); binOp op t (.int k a) (.int k b)))) : Sem Next).run X.P w) := by
  cases op <;> simp only [isShift, if_true, if_false, Bool.false_eq_true, shI, binI] at hk
  case add => exact Out.same I (by simp [eqGuard_add, binOp, Op.intArith]) hk (.int _ _)
  case sub => exact Out.same I (by simp [eqGuard_sub, binOp, Op.intArith]) hk (.int _ _)
  case mul => exact Out.same I (by simp [eqGuard_mul, binOp, Op.intArith]) hk (.int _ _)
  case quo => exact Out.same I (by simp [eqGuard_quo, binOp, Op.intDiv, hk.1]) hk.2 (.int _ _)
  case rem => exact Out.same I (by simp [eqGuard_rem, binOp, Op.intDiv, hk.1]) hk.2 (.int _ _)
  case and => exact Out.same I (by rw [eqGuard_and]; simp only [binOp, Op.intBits, bitAnd, bitOr, bitXor, bitAndNot, Sem.run_bind, Sem.run_pure, Result.andThen_ok, ne_eq, not_true_eq_false, ↓reduceIte]) hk (.int _ _)
  case or => exact Out.same I (by rw [eqGuard_or]; simp only [binOp, Op.intBits, bitAnd, bitOr, bitXor, bitAndNot, Sem.run_bind, Sem.run_pure, Result.andThen_ok, ne_eq, not_true_eq_false, ↓reduceIte]) hk (.int _ _)
  case xor => exact Out.same I (by rw [eqGuard_xor]; simp only [binOp, Op.intBits, bitAnd, bitOr, bitXor, bitAndNot, Sem.run_bind, Sem.run_pure, Result.andThen_ok, ne_eq, not_true_eq_false, ↓reduceIte]) hk (.int _ _)
  case andNot => exact Out.same I (by rw [eqGuard_andNot]; simp only [binOp, Op.intBits, bitAnd, bitOr, bitXor, bitAndNot, Sem.run_bind, Sem.run_pure, Result.andThen_ok, ne_eq, not_true_eq_false, ↓reduceIte]) hk (.int _ _)
  case eql => exact Out.same I (by simp [eqGuard_at_int, binOp, Op.intCmp]; rfl) hk (.bool _)
  case neq => exact Out.same I (by simp [eqGuard_at_int, binOp, Op.intCmp]; rfl) hk (.bool _)
  case lss => exact Out.same I (by simp [eqGuard_at_int, binOp, Op.intCmp]) hk (.bool _)
  case leq => exact Out.same I (by simp [eqGuard_at_int, binOp, Op.intCmp]) hk (.bool _)
  case gtr => exact Out.same I (by simp [eqGuard_at_int, binOp, Op.intCmp]) hk (.bool _)
  case geq => exact Out.same I (by simp [eqGuard_at_int, binOp, Op.intCmp]) hk (.bool _)
  case shl => exact Out.same I (by simp [eqGuard_shl, binOp, Op.shift]; omega) hk.2 (.int _ _)
  case shr => exact Out.same I (by simp [eqGuard_shr, binOp, Op.shift]; omega) hk.2 (.int _ _)

theorem toList_mk (s : List UInt8) : (⟨s.toArray⟩ : ByteArray).toList = s := by
  have h : ∀ (n i : Nat) (acc : List UInt8), s.length - i = n → ByteArray.toList.loop ⟨s.toArray⟩ i acc = acc.reverse ++ s.drop i := by
    intro n
    induction n with
    | zero =>
      intro i acc hn
      unfold ByteArray.toList.loop
      have : ¬ i < (⟨s.toArray⟩ : ByteArray).size := by simp [ByteArray.size]; omega
      rw [if_neg this, List.drop_eq_nil_of_le (by omega), List.append_nil]
    | succ n ih =>
      intro i acc hn
      unfold ByteArray.toList.loop
      have hlt : i < s.length := by omega
      have : i < (⟨s.toArray⟩ : ByteArray).size := by simpa [ByteArray.size] using hlt
      rw [if_pos this, ih (i + 1) _ (by omega), List.drop_eq_getElem_cons hlt]
      simp [ByteArray.get!, hlt]
  have := h s.length 0 [] (by simp)
  simpa [ByteArray.toList] using this
theorem mk_append (s t : List UInt8) : (⟨s.toArray⟩ : ByteArray) ++ ⟨t.toArray⟩ = ⟨(s ++ t).toArray⟩ := by
  apply ByteArray.ext
  rw [ByteArray.data_append]; simp
theorem mk_size (s : List UInt8) : (⟨s.toArray⟩ : ByteArray).size = s.length := by simp [ByteArray.size]
theorem mk_extract (s : List UInt8) (a b : Nat) : (⟨s.toArray⟩ : ByteArray).extract a b = ⟨((s.take b).drop a).toArray⟩ := by
  apply ByteArray.ext
  rw [ByteArray.data_extract]
  simp only [List.extract_toArray, List.extract_eq_take_drop, List.drop_take]

theorem beq_dec (a b : List UInt8) : (a == b) = decide (a = b) := Bool.eq_iff_iff.2 (by simp)
theorem equal_unf (t : TypeId) (x y : Value) : ∃ d, Op.equal t x y = Op.equalIn (d + 1) t x y := ⟨9999, rfl⟩
theorem out_bin_str (op : BinOp) (I : Inv X g w h) (t : TypeId) (x y : Operand) (a b : List UInt8) (hk : binS op a b (fun v => K v h)) :
    Out X g w h K ((do pure (Next.value (← (do eqGuard op t x y (.string ⟨a.toArray⟩) (.string ⟨b.toArray⟩); binOp op t (.string ⟨a.toArray⟩) (.string ⟨b.toArray⟩)))) : Sem Next).run X.P w) := by
  cases op <;> simp only [binS] at hk
  case add =>
    refine Out.same I (x := .string ⟨(a ++ b).toArray⟩) ?_ hk.2 (.str _)
    have h1 := hk.1
    have : ¬ ((a.length : Int) + b.length > 9223372036854775807) := by omega
    simp [eqGuard_at_string, binOp, Op.stringOp, mk_size, mk_append]
    omega
  case eql => exact Out.same I (by simp [eqGuard_at_string, binOp, Op.stringOp, toList_mk, beq_dec]) hk (.bool _)
  case neq => exact Out.same I (by simp [eqGuard_at_string, binOp, Op.stringOp, toList_mk, beq_dec]) hk (.bool _)
  case lss => exact Out.same I (by simp [eqGuard_at_string, binOp, Op.stringOp, toList_mk]) hk (.bool _)
  case leq => exact Out.same I (by simp [eqGuard_at_string, binOp, Op.stringOp, toList_mk, beq_dec]) hk (.bool _)
  case gtr => exact Out.same I (by simp only [eqGuard_at_string, binOp, Op.stringOp, toList_mk, beq_dec, Sem.run_bind, Sem.run_pure, Result.andThen_ok]) hk (.bool _)
  case geq => exact Out.same I (by simp [eqGuard_at_string, binOp, Op.stringOp, toList_mk]) hk (.bool _)

theorem out_beq (neg : Bool) (I : Inv X g w h) (t : TypeId) (ht : X.P.underlying t = some .bool) (x y : Operand) (a b : Bool) (hk : K (.bool (xor neg (decide (a = b)))) h) :
    Out X g w h K ((do pure (Next.value (← (do eqGuard (if neg then .neq else .eql) t x y (.bool a) (.bool b); binOp (if neg then .neq else .eql) t (.bool a) (.bool b)))) : Sem Next).run X.P w) := by
  obtain ⟨d, hd⟩ := equal_unf t (.bool a) (.bool b)
  cases neg
  · refine Out.same I ?_ hk (.bool _)
    simp only [eqGuard_at_bool, binOp, Bool.false_eq_true, ↓reduceIte]
    rw [hd]
    cases a <;> cases b <;> simp [Op.equalIn, run_underlying ht]
  · refine Out.same I ?_ hk (.bool _)
    simp only [eqGuard_at_bool, binOp, ↓reduceIte]
    rw [hd]
    cases a <;> cases b <;> simp [Op.equalIn, run_underlying ht]

/-! ### equality of structs -/
theorem part_run {l : List V} {xs : Array Value} (rl : Rel X g w h (.agg l) (.agg xs)) {t : TypeId} {off : Nat} {v : V} (hv : l.getD off .undef = v) (hv0 : v ≠ .undef) (hagg : tyAgg X.P t = some false) :
    ∃ u, (part t xs off).run X.P w = .ok u w ∧ Rel X g w h v u := by
  cases rl with
  | agg _ _ hl ho hr =>
    have hlt : off < l.length := by
      rcases Nat.lt_or_ge off l.length with c | c
      · exact c
      · simp [List.getD, List.getElem?_eq_none c] at hv; exact absurd hv.symm hv0
    have hlt2 : off < xs.size := by omega
    refine ⟨xs[off], by simp [part, run_tyAgg hagg, hlt2], ?_⟩
    have := hr off hlt hlt2
    rw [← hv]; simpa only [List.getD, List.getElem?_eq_getElem hlt, Option.getD_some] using this
theorem ekOf_int {P : Program} {t : TypeId} (e : ekOf P t = some .i) : ∃ k, P.underlying t = some (.int k) := by
  unfold ekOf at e; split at e <;> simp at e
  exact ⟨_, by assumption⟩
theorem ekOf_str {P : Program} {t : TypeId} (e : ekOf P t = some .s) : P.underlying t = some .string := by
  unfold ekOf at e; split at e <;> simp at e
  assumption
theorem ekOf_bool {P : Program} {t : TypeId} (e : ekOf P t = some .b) : P.underlying t = some .bool := by
  unfold ekOf at e; split at e <;> simp at e
  assumption
theorem eqFields_run {d : Nat} {xs ys : Array Value} {l m : List V} (rl : Rel X g w h (.agg l) (.agg xs)) (rm : Rel X g w h (.agg m) (.agg ys)) :
    ∀ {fs : List Field} {offs : List (EK × Nat)} {b : Bool}, eqOffs X.P fs = some offs → eqL l m offs = some b → (Op.eqFields (d + 1) xs ys fs).run X.P w = .ok b w
  | [], offs, b, e, hb => by
    simp [eqOffs] at e; subst e
    simp [eqL] at hb; subst hb
    simp [Op.eqFields]
  | f :: fs, offs, b, e, hb => by
    unfold eqOffs at e
    split at e
    · simp at e
    · rename_i hn
      have hn' : f.name ≠ "_" := by simpa using hn
      split at e
      · rename_i ek r q1 q2
        simp at e; subst e
        simp only [eqL] at hb
        split at hb
        · rename_i b1 b2 e1 e2
          simp at hb; subst hb
          have ih := eqFields_run (d := d) rl rm q2 e2
          have key : ∃ u u', (part f.type xs f.offset).run X.P w = .ok u w ∧ (part f.type ys f.offset).run X.P w = .ok u' w ∧ (Op.equalIn (d + 1) f.type u u').run X.P w = .ok b1 w := by
            have hagg : ∀ dd, X.P.underlying f.type = some dd → (match dd with | .struct _ | .array .. => false | _ => true) = true → tyAgg X.P f.type = some false := fun dd hd hdd => by
              unfold tyAgg; rw [hd]; cases dd <;> simp_all
            generalize hv : l.getD f.offset .undef = v at e1
            generalize hv' : m.getD f.offset .undef = v' at e1
            cases ek with
            | i =>
              cases v <;> cases v' <;> simp [eqLeaf] at e1
              obtain ⟨rfl, rfl⟩ := e1
              obtain ⟨k0, hk0⟩ := ekOf_int q1
              obtain ⟨u, p1, p2⟩ := part_run rl hv (by simp) (hagg _ hk0 rfl)
              obtain ⟨u', p3, p4⟩ := part_run rm hv' (by simp) (hagg _ hk0 rfl)
              cases p2; cases p4
              exact ⟨_, _, p1, p3, by rw [run_equalIn_int w d f.type _ k0 _ _ hk0]; rfl⟩
            | s =>
              cases v <;> cases v' <;> simp [eqLeaf] at e1
              subst e1
              have hk0 := ekOf_str q1
              obtain ⟨u, p1, p2⟩ := part_run rl hv (by simp) (hagg _ hk0 rfl)
              obtain ⟨u', p3, p4⟩ := part_run rm hv' (by simp) (hagg _ hk0 rfl)
              cases p2; cases p4
              exact ⟨_, _, p1, p3, by rw [run_equalIn_string w d f.type _ _ hk0, toList_mk, toList_mk, beq_dec]⟩
            | b =>
              cases v <;> cases v' <;> simp [eqLeaf] at e1
              subst e1
              have hk0 := ekOf_bool q1
              obtain ⟨u, p1, p2⟩ := part_run rl hv (by simp) (hagg _ hk0 rfl)
              obtain ⟨u', p3, p4⟩ := part_run rm hv' (by simp) (hagg _ hk0 rfl)
              cases p2; cases p4
              exact ⟨_, _, p1, p3, by rw [run_equalIn_bool' w d f.type _ _ hk0]; rfl⟩
          obtain ⟨u, u', p1, p2, p3⟩ := key
          simp only [Op.eqFields, if_pos hn', Sem.run_bind, p1, p2, p3, Result.andThen_ok]
          cases b1 <;> simp [ih]
        · simp at hb
      · simp at e
theorem out_eqs (neg : Bool) (I : Inv X g w h) {t : TypeId} {fields : Array Field} (ht : X.P.underlying t = some (.struct fields)) (hg : X.P.eqGuardType X.P.depth t = false) (hs : X.P.stoodInHeld t = false) {offs : List (EK × Nat)}
    (he : eqOffs X.P fields.toList = some offs) (x y : Operand) {v u : V} {xv yv : Value} (r : Rel X g w h v xv) (ru : Rel X g w h u yv)
    (hk : match (generalizing := false) v, u with | .agg l, .agg m => (match (generalizing := false) eqL l m offs with | some b => K (.bool (xor neg b)) h | none => False) | _, _ => False) :
    Out X g w h K ((do pure (Next.value (← (do eqGuard (if neg then .neq else .eql) t x y xv yv; binOp (if neg then .neq else .eql) t xv yv))) : Sem Next).run X.P w) := by
  cases r <;> first | exact hk.elim | skip
  cases ru <;> first | exact hk.elim | skip
  rename_i l cs hl ho hr m cs' hl' ho' hr'
  have rl := Rel.agg (X := X) (g := g) (w := w) (h := h) l cs hl ho hr
  have rm := Rel.agg (X := X) (g := g) (w := w) (h := h) m cs' hl' ho' hr'
  cases hb : eqL l m offs with
  | none => simp [hb] at hk
  | some b =>
    simp only [hb] at hk
    have hf : X.P.fieldsOf t = fields := by simp [Program.fieldsOf, ht]
    have hrun : (Op.equalIn 10000 t (.agg cs) (.agg cs')).run X.P w = .ok b w := by
      have := run_equalIn_struct (P := X.P) w 9999 t cs cs' (by rw [hf]; exact ht) hs
      rw [hf] at this
      have e2 := eqFields_run (d := 9998) rl rm he hb
      exact this.trans e2
    cases neg
    · refine Out.same I ?_ hk (.bool _)
      simp only [Bool.false_eq_true, ↓reduceIte, Sem.run_bind, run_eqGuard_agg w _ t x y cs cs' hg, Result.andThen_ok, run_eql_struct, hrun, Bool.false_xor]
    · refine Out.same I ?_ hk (.bool _)
      simp only [↓reduceIte, Sem.run_bind, run_eqGuard_agg w _ t x y cs cs' hg, Result.andThen_ok, run_neq_struct, hrun, Bool.true_xor]

theorem out_isnilS (neg : Bool) (I : Inv X g w h) (t e' : TypeId) (he : X.P.underlying t = some (.slice e')) (x y : Operand) {v : V} {u : Value} (r : Rel X g w h v u)
    (hk : match (generalizing := false) v with | .sl _ st l => nilK neg st l (fun b => K (.bool b) h) | _ => False) :
    Out X g w h K ((do pure (Next.value (← (do eqGuard (if neg then .neq else .eql) t x y u (.slice none 0 0); binOp (if neg then .neq else .eql) t u (.slice none 0 0)))) : Sem Next).run X.P w) := by
  have hsl : ∀ (a : Option Addr) (n m : Nat), ((do eqGuard (if neg then .neq else .eql) t x y (.slice a n m) (.slice none 0 0); binOp (if neg then .neq else .eql) t (.slice a n m) (.slice none 0 0)) : Sem Value).run X.P w = .ok (.bool (xor neg a.isNone)) w := by
    intro a n m
    obtain ⟨d, hd⟩ := equal_unf t (.slice a n m) (.slice none 0 0)
    cases neg <;> simp only [eqGuard_at_slice, binOp, Bool.false_eq_true, ↓reduceIte] <;> rw [hd] <;> cases a <;> simp [Op.equalIn, run_underlying he]
  cases r with
  | slnil e st hst =>
    refine Out.same I (hsl none 0 0) ?_ (.bool _)
    replace hk : nilK neg st [] (fun b => K (.bool b) h) := hk
    unfold nilK at hk
    split at hk
    · simpa using hk
    · split at hk
      · simpa using (hk.1 rfl).elim (fun a b => by cases neg <;> assumption)
      · omega
  | slemp e a =>
    refine Out.same I (hsl (some a) 0 0) ?_ (.bool _)
    replace hk : nilK neg 0 [] (fun b => K (.bool b) h) := hk
    have := hk
    simp [nilK] at this
    cases neg
    · simpa using this.2
    · simpa using this.1
  | sl e st l b off cap xf k1 ks kcap ke kc ko kp kr k2 k3 =>
    refine Out.same I (hsl (some ⟨b, off, none⟩) l.length cap) ?_ (.bool _)
    replace hk : nilK neg st l (fun b => K (.bool b) h) := hk
    unfold nilK at hk
    rw [if_neg k1] at hk
    split at hk
    · by_cases hl : l = []
      · have := hk.1 hl; cases neg
        · simpa using this.2
        · simpa using this.1
      · simpa using hk.2 hl
    · simpa using hk
  | _ => exact hk.elim
theorem out_isnilP (neg : Bool) (I : Inv X g w h) (t e' : TypeId) (he : X.P.underlying t = some (.pointer e')) (x y : Operand) {v : V} {u : Value} (r : Rel X g w h v u)
    (hk : match (generalizing := false) v with | .nilp => K (.bool !neg) h | .ptr _ _ => K (.bool neg) h | .rptr _ _ => K (.bool neg) h | _ => False) :
    Out X g w h K ((do pure (Next.value (← (do eqGuard (if neg then .neq else .eql) t x y u (.pointer none); binOp (if neg then .neq else .eql) t u (.pointer none)))) : Sem Next).run X.P w) := by
  have hpt : ∀ (a : Option Addr), ((do eqGuard (if neg then .neq else .eql) t x y (.pointer a) (.pointer none); binOp (if neg then .neq else .eql) t (.pointer a) (.pointer none)) : Sem Value).run X.P w = .ok (.bool (xor neg a.isNone)) w := by
    intro a
    obtain ⟨d, hd⟩ := equal_unf t (.pointer a) (.pointer none)
    cases neg <;> simp only [eqGuard_at_pointer, binOp, Bool.false_eq_true, ↓reduceIte] <;> rw [hd] <;> cases a <;> simp [Op.equalIn, run_underlying he]
  cases r with
  | nilp => exact Out.same I (hpt none) (by simpa using hk) (.bool _)
  | ptr o off hn => exact Out.same I (hpt _) (by simpa using hk) (.bool _)
  | rptr l off b base xf kc ko kp kr => exact Out.same I (hpt _) (by simpa using hk) (.bool _)
  | _ => exact hk.elim

end
end Go.Proofs.Ytpnbdnmmfaomlaa.Al
