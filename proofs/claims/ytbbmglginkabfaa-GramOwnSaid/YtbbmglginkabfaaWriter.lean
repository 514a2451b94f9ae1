/-
  Layer 2, wire: what a writer's calls do, by the abstract layer. Conditions: each theorem's own.
-/
import Derived.Test.YtbbmglginkabfaaWire
namespace Go.Proofs.Ytbbmglginkabfaa.Al
open Go Go.RowKit
set_option linter.unusedSimpArgs false
set_option linter.unusedVariables false
attribute [-simp] List.getD_eq_getElem?_getD Int.not_lt Int.not_le

theorem push_tips_ne {h : AH} {st e s : Nat} (h1 : s < h.next) (h2 : s ≠ st) : (h.push st e).tips s = h.tips s := by
  have hne : s ≠ h.next := by omega
  unfold AH.push
  split
  · exact updN_ne _ _ hne
  · have e1 : ((h.drop st).grow e).tips s = (h.drop st).tips s := updN_ne _ _ hne
    rw [e1]; exact updN_ne _ _ h2
theorem push_tips_le {h : AH} {st e s : Nat} (h1 : s < h.next) (h2 : st ≤ 2) : (h.push st e).tips s = h.tips s := by
  unfold AH.push
  rw [if_pos h2]
  exact updN_ne _ _ (by omega)
/-- A writer's object: its bytes, to which it may append. -/
structure WO (h : AH) (o : Nat) (l : List Nat) (st : Nat) : Prop where
  ob : ∃ e, h.objs o = [.sl e st (u8s l)] ∧ (u8s l = [] ∨ e = 1)
  st : (st = 1 ∧ l = []) ∨ st = 2 ∨ (h.tips st = some 1 ∧ st < h.next)
/-- From h to h1 a writer has written. -/
structure WE (h h1 : AH) (o st st1 : Nat) : Prop where
  next : h.next ≤ h1.next
  nobj : h.nobj ≤ h1.nobj
  objs : ∀ o', o' < h.nobj → o' ≠ o → h1.objs o' = h.objs o'
  tips : ∀ s, s < h.next → (s ≠ st ∨ s ≤ 2) → h1.tips s = h.tips s
  st : st1 = st ∨ h.next ≤ st1
theorem WE.refl (h : AH) (o st : Nat) : WE h h o st st := ⟨Nat.le_refl _, Nat.le_refl _, fun _ _ _ => rfl, fun _ _ _ => rfl, .inl rfl⟩
theorem WE.trans {h h1 h2 : AH} {o st st1 st2 : Nat} (a : WE h h1 o st st1) (b : WE h1 h2 o st1 st2) : WE h h2 o st st2 where
  next := Nat.le_trans a.next b.next
  nobj := Nat.le_trans a.nobj b.nobj
  objs o' h' hn := (b.objs o' (Nat.lt_of_lt_of_le h' a.nobj) hn).trans (a.objs o' h' hn)
  tips s hs hn := by
    have : s ≠ st1 ∨ s ≤ 2 := by rcases a.st with e | e <;> omega
    exact (b.tips s (Nat.lt_of_lt_of_le hs a.next) this).trans (a.tips s hs hn)
  st := by
    rcases b.st with e | e
    · rw [e]; exact a.st
    · exact .inr (Nat.le_trans a.next e)
/-- What was made from h0 on is still its own. -/
theorem Gr.we {h0 h h1 : AH} {o st st1 : Nat} (G : Gr h0 h) (w : WE h h1 o st st1) (ho : h0.nobj ≤ o) (hs : st ≤ 2 ∨ h0.next ≤ st) : Gr h0 h1 ∧ (st1 ≤ 2 ∨ h0.next ≤ st1) := by
  have g1 := G.next
  have g2 := G.nobj
  refine ⟨⟨Nat.le_trans g1 w.next, Nat.le_trans g2 w.nobj, fun o' h' => (w.objs o' (by omega) (by omega)).trans (G.objs o' h'), fun s h' => (w.tips s (by omega) (by omega)).trans (G.tips s h')⟩, ?_⟩
  rcases w.st with e | e
  · rw [e]; exact hs
  · exact .inr (by omega)
theorem WO.new (h : AH) : WO (h.new [.sl 0 1 []]) h.nobj [] 1 := ⟨⟨0, by simp, .inl rfl⟩, .inl ⟨rfl, rfl⟩⟩
/-- A writer of which nothing is written stays. -/
theorem WO.keep {h h1 : AH} {o st : Nat} {l : List Nat} (w : WO h o l st) (ho : h1.objs o = h.objs o) (hn : h.next ≤ h1.next) (ht : h1.tips st = h.tips st) : WO h1 o l st := by
  obtain ⟨e, ob, el⟩ := w.ob
  refine ⟨⟨e, by rw [ho]; exact ob, el⟩, ?_⟩
  rcases w.st with a | a | a
  · exact .inl a
  · exact .inr (.inl a)
  · exact .inr (.inr ⟨by rw [ht]; exact a.1, by omega⟩)
theorem WO.app {h : AH} {o st : Nat} {l : List Nat} (w : WO h o l st) {m : List Nat} (hm : m ≠ []) (hb : l.length + m.length ≤ 2 ^ 46) {e : Nat} (he : h.objs o = [.sl e st (u8s l)]) {K : V → AH → Prop} {zK : Lz K}
    (hk : K (.sl 1 h.next (u8s (l ++ m))) (h.push st 1)) : App h 1 1 e st (u8s l) 1 (u8s m) zK := by
  obtain ⟨e', ob, el⟩ := w.ob
  rw [he] at ob
  obtain rfl : e = e' := by simpa using ob
  refine ⟨fun h0 => absurd h0 (by intro e; apply hm; cases m with | nil => rfl | cons a b => simp [u8s] at e), fun _ => ⟨?_, el, rfl, by simp; omega, by rw [← u8s_append]; exact hk⟩⟩
  rcases w.st with a | a | a
  · exact .inl a.1
  · exact .inr (.inl a)
  · exact .inr (.inr a.1)
theorem WO.push {h : AH} (wf : Wf h) {o st : Nat} {l : List Nat} (w : WO h o l st) (m : List Nat) : WO ((h.push st 1).set o [.sl 1 h.next (u8s m)]) o m h.next ∧ WE h ((h.push st 1).set o [.sl 1 h.next (u8s m)]) o st h.next :=
  ⟨⟨⟨1, by simp, .inr rfl⟩, .inr (.inr ⟨push_new h st 1, by rw [set_next, push_next]; omega⟩)⟩,
   ⟨by rw [set_next, push_next]; omega, by rw [set_nobj, push_nobj]; exact Nat.le_refl _, fun o' _ hn => by rw [set_objs_ne _ _ _ hn, push_objs], fun s hs hn => by
      rw [set_tips]
      by_cases h2 : st ≤ 2
      · exact push_tips_le hs h2
      · exact push_tips_ne hs (by omega), .inr (Nat.le_refl _)⟩⟩

section
variable {X : Cx} {h : AH} {Q : V → AH → Prop}
structure LW (X : Cx) : Prop where
  put : Has (Ecx X) K.vary_Put A.vary_Put
  num : Has (Ecx X) K.wire_Writer_Num A.wire_Writer_Num
  bool : Has (Ecx X) K.wire_Writer_Bool A.wire_Writer_Bool
  nums : Has (Ecx X) K.wire_Writer_Nums A.wire_Writer_Nums
  bytes : Has (Ecx X) K.wire_Writer_Bytes A.wire_Writer_Bytes
  clone : Has (Ecx X) K.slices_Clone_byte A.slices_Clone_byte
theorem vput_ne (n : Nat) : vput n ≠ [] := by intro e; have := vput_pos n; rw [e] at this; simp at this
theorem wwnum (L : LW X) {o st : Nat} {l : List Nat} (n : Nat) (hn : n < 2 ^ 63) (w : WO h o l st) (hl : l.length + 10 ≤ 2 ^ 46)
    (hQ : ∀ h1 st1, WE h h1 o st st1 → WO h1 o (l ++ vput n) st1 → Q (.tup []) h1) : Ecx X K.wire_Writer_Num [.ptr o 0, .int .i64 n] h Q := by
  refine fn_any L.num (by simp [A.wire_Writer_Num]) fun wf => ?_
  obtain ⟨e, ob, el⟩ := w.ob
  have hw : IntKind.u64.wrap (n : Int) = n := wrap_u64_nat (by omega)
  have hv := vput_len64 (n := n) (by omega)
  simp [A.wire_Writer_Num, ob, hw]
  refine dcall (.sl 1 0 (u8s (vput n))) ?_ ?_
  · exact put_spec L.put n (by omega) ⟨rfl, rfl⟩
  · simp
    refine w.app (vput_ne n) (by omega) ob ?_
    simp [V.cells, V.good, setAt, push_objs, ob]
    obtain ⟨w1, w2⟩ := WO.push wf w (l ++ vput n)
    exact hQ _ _ w2 w1
theorem wwbool (L : LW X) {o st : Nat} {l : List Nat} (b : Bool) (w : WO h o l st) (hl : l.length + 10 ≤ 2 ^ 46)
    (hQ : ∀ h1 st1, WE h h1 o st st1 → WO h1 o (l ++ vput (if b then 1 else 0)) st1 → Q (.tup []) h1) : Ecx X K.wire_Writer_Bool [.ptr o 0, .bool b] h Q := by
  refine fn_any L.bool (by simp [A.wire_Writer_Bool]) fun wf => ?_
  cases b
  · simp [A.wire_Writer_Bool]
    refine ecall (wwnum L 0 (by omega) w hl fun h1 st1 a b => ?_)
    simp
    exact hQ h1 st1 a b
  · simp [A.wire_Writer_Bool]
    refine ecall (wwnum L 1 (by omega) w hl fun h1 st1 a b => ?_)
    simp
    exact hQ h1 st1 a b
def vputs (l : List Nat) : List Nat := (l.map vput).flatten
theorem vputs_len (l : List Nat) (h : ∀ n ∈ l, n < 2 ^ 63) : (vputs l).length ≤ 10 * l.length := by
  induction l with
  | nil => simp [vputs]
  | cons a l ih =>
    have := ih fun n hn => h n (by simp [hn])
    have h1 := vput_len64 (n := a) (by have := h a (by simp); omega)
    simp [vputs] at this ⊢; omega
theorem vputs_snoc (l : List Nat) (a : Nat) : vputs (l ++ [a]) = vputs l ++ vput a := by simp [vputs]
theorem wwnums (L : LW X) {o st : Nat} {l : List Nat} {s : Nat} (ns : List Nat) (hn : ∀ n ∈ ns, n < 2 ^ 63) (w : WO h o l st) (hl : l.length + 10 * ns.length + 10 ≤ 2 ^ 46)
    (hQ : ∀ h1 st1, WE h h1 o st st1 → WO h1 o (l ++ vput ns.length ++ vputs ns) st1 → Q (.tup []) h1) : Ecx X K.wire_Writer_Nums [.ptr o 0, .sl 1 s (i64s ns)] h Q := by
  refine fn_any L.nums (by simp [A.wire_Writer_Nums]) fun wf => ?_
  simp [A.wire_Writer_Nums]
  refine ecall (wwnum L ns.length (by omega) w (by omega) fun h1 st1 a b => ?_)
  simp
  refine loopZ (n := ns.length) (fun m env h' => ∃ k st', k ≤ ns.length ∧ m = ns.length - k ∧ env = [(4, .fn K.wire_Writer_Num [.ptr o 0] []), (13, .sl 1 s (i64s ns)), (14, .int .i64 ns.length), (15, .int .i64 k)] ∧ WE h h' o st st' ∧ WO h' o (l ++ vput ns.length ++ vputs (ns.take k)) st') ?_ ⟨0, st1, by omega, by omega, rfl, a, by simpa [vputs] using b⟩
  rintro m env h' ⟨k, st', hk, rfl, rfl, we, wo⟩
  unfold A.wire_Writer_Nums.L0
  by_cases hlt : k < ns.length
  · have hlt' : (k : Int) < ns.length := by omega
    have hg := i64s_getD hlt
    have hm : ns.getD k 0 ∈ ns := by simp [List.getD, List.getElem?_eq_getElem hlt]
    have hl1 := vput_len64 (n := ns.length) (by omega)
    have hl2 := vputs_len (ns.take k) fun n h => hn n (List.mem_of_mem_take h)
    have hl3 : (ns.take k).length = k := by simp; omega
    simp [hlt', hg, V.cells]
    refine ecall (wwnum L (ns.getD k 0) (hn _ hm) wo (by simp only [List.length_append]; omega) fun h2 st2 a2 b2 => ?_)
    simp
    refine ⟨ns.length - (k + 1), by omega, k + 1, by omega, rfl, by rw [wrap_i64 (by omega) (by omega)]; rfl, st2, we.trans a2, ?_⟩
    rw [List.take_succ_eq_append_getElem hlt, vputs_snoc]
    have : ns.getD k 0 = ns[k] := by simp [List.getD, List.getElem?_eq_getElem hlt]
    rw [this] at b2; simpa only [List.append_assoc] using b2
  · have hlt' : ¬ (k : Int) < ns.length := by omega
    simp [hlt']
    have : k = ns.length := by omega
    rw [this, List.take_length] at wo
    exact hQ _ _ we wo
theorem wbytes (L : LW X) {o st : Nat} {l : List Nat} (w : WO h o l st) (hl : l.length ≤ 2 ^ 46) (hQ : Q (.sl 1 0 (u8s l)) h) : Ecx X K.wire_Writer_Bytes [.ptr o 0] h Q := by
  refine fn_walk L.bytes (by simp [A.wire_Writer_Bytes]) fun wf => ?_
  obtain ⟨e, ob, el⟩ := w.ob
  simp [A.wire_Writer_Bytes, ob]
  refine ecall (clone8 L.clone (fun hne => ?_) (fun h1 => ?_) hl ?_)
  · rcases el with e0 | e0
    · exfalso; apply hne; cases l with | nil => rfl | cons a b => simp [u8s] at e0
    · exact e0
  · rcases w.st with a | a | a
    · exact a.2
    · omega
    · have := wf.tips _ _ a.1; omega
  · simp
    exact fin (by rw [Bdd_sl0, cellsOf_u8s]; exact ⟨by simp, Bdd_u8s _ _ _⟩) hQ
end
end Go.Proofs.Ytbbmglginkabfaa.Al
