/-
  What readings, stored things and appends share. Conditions: each theorem's own.
-/
import Derived.Test.YtbbmglginkabfaaCanon
import Derived.Test.YtbbmglginkabfaaWC
import Derived.Test.YtbbmglginkabfaaVaryLaw
namespace Go.Proofs.Ytbbmglginkabfaa.Al
open Go Go.RowKit
set_option linter.unusedSimpArgs false
set_option linter.unusedVariables false
attribute [-simp] List.getD_eq_getElem?_getD Int.not_lt Int.not_le List.map_take

theorem ints_get {l : List Int} {i : Nat} (h : i < l.length) : (ints l).getD i .undef = .int .i64 l[i] := by
  simp [ints, List.getD, List.getElem?_eq_getElem h]
theorem ints_cells (l : List Int) : cellsOf (ints l) = ints l := by
  induction l with
  | nil => rfl
  | cons a as ih => show V.cells (.int .i64 a) ++ cellsOf (ints as) = _; rw [ih]; rfl
theorem Bdd_ints (n m : Nat) (l : List Int) : ∀ v ∈ cellsOf (ints l), Bdd n m v := by
  intro v hv
  rw [ints_cells] at hv
  simp [ints] at hv; obtain ⟨b, _, rfl⟩ := hv; exact .int _ _
theorem ints_append (l m : List Int) : ints (l ++ m) = ints l ++ ints m := by simp [ints]
theorem all_take_succ {α : Type} {f : α → Bool} {l : List α} {k : Nat} (hk : k < l.length) (h : (l.take k).all f = true) (h1 : f l[k] = true) : (l.take (k + 1)).all f = true := by
  rw [List.take_succ_eq_append_getElem hk, List.all_append, h]; simp [h1]
theorem all_at {α : Type} {f : α → Bool} {l : List α} {k : Nat} (hk : k < l.length) (h1 : f l[k] = false) : l.all f = false :=
  List.all_eq_false.2 ⟨l[k], List.getElem_mem hk, by simp [h1]⟩

/-- Lists that are compared item by item. -/
theorem take_ext2 {α : Type} {a b : List α} {k : Nat} (ha : k < a.length) (hb : k < b.length) (h : a.take k = b.take k) (e : a[k] = b[k]) : a.take (k + 1) = b.take (k + 1) := by
  rw [List.take_succ_eq_append_getElem ha, List.take_succ_eq_append_getElem hb, h, e]
/-- An edit. -/
structure Ed where
  at' : Int
  drop : Bool
  tok : Int
  deriving DecidableEq
def edC (x : Ed) : List V := [.int .i64 x.at', .bool x.drop, .int .i64 x.tok]
def edV (x : Ed) : V := .agg (edC x)
theorem eds_getD {l : List Ed} {i : Nat} (h : i < l.length) : (l.map edV).getD i .undef = .agg (edC l[i]) := by
  simp [List.getD, List.getElem?_eq_getElem h, edV]
def nats (l : List Int) : List Nat := l.map Int.toNat
def natI (l : List Nat) : List Int := l.map fun (n : Nat) => (n : Int)
theorem i64s_ints (l : List Nat) : i64s l = ints (natI l) := by simp [i64s, ints, natI, i64]
theorem nats_natI (l : List Nat) : nats (natI l) = l := by
  simp only [nats, natI, List.map_map]
  conv => rhs; rw [← List.map_id l]
  exact List.map_congr_left fun t ht => rfl
theorem natI_nats {l : List Int} (h : ∀ t ∈ l, 0 ≤ t) : natI (nats l) = l := by
  simp only [nats, natI, List.map_map]
  conv => rhs; rw [← List.map_id l]
  exact List.map_congr_left fun t ht => by have := h t ht; simp; omega
theorem vput_byte : ∀ (n : Nat), ∀ x ∈ vput n, x < 256 := by
  intro n
  induction n using Nat.strongRecOn with
  | _ n ih =>
    rw [vput_eq]
    split
    · intro x hx; simp at hx; omega
    · intro x hx
      rcases List.mem_cons.1 hx with rfl | hx
      · omega
      · exact ih (n / 128) (by omega) x hx
/-! ### Structs in a slice, of which less is known -/
theorem WkL.append {a b c d : List V} (x : WkL a b) (y : WkL c d) : WkL (a ++ c) (b ++ d) := by
  induction x with
  | nil => exact y
  | cons h t ih => exact .cons h ih
inductive WkE : List V → List V → Prop
  | nil : WkE [] []
  | cons {a b l m : List V} (h : WkL a b) (t : WkE l m) : WkE (.agg a :: l) (.agg b :: m)
theorem WkE.cells {l m : List V} (w : WkE l m) : l.length = m.length ∧ WkL (cellsOf l) (cellsOf m) := by
  induction w with
  | nil => exact ⟨rfl, .nil⟩
  | cons h t ih => exact ⟨by simp [ih.1], h.append ih.2⟩
theorem WkE.append {a b c d : List V} (x : WkE a b) (y : WkE c d) : WkE (a ++ c) (b ++ d) := by
  induction x with
  | nil => exact y
  | cons h t ih => exact .cons h ih
theorem WkE.sl {e st : Nat} {l m : List V} (w : WkE l m) (hm : ∀ v ∈ m, v.cells.length = e) : Wk (.sl e st l) (.sl e 0 m) := by
  obtain ⟨a, b⟩ := w.cells
  obtain ⟨c, d⟩ := b.get
  exact .sld e st l m a hm c d
theorem all_false {α : Type} {f : α → Bool} {l : List α} {a : α} (h : a ∈ l) (hf : f a = false) : l.all f = false := by
  cases hh : l.all f with
  | false => rfl
  | true => rw [List.all_eq_true] at hh; rw [hh a h] at hf; exact absurd hf (by simp)
theorem all_snoc {α : Type} {f : α → Bool} {l : List α} {k : Nat} (hk : k < l.length) (h : (l.take k).all f = true) (hf : f l[k] = true) : (l.take (k + 1)).all f = true := by
  rw [List.take_succ_eq_append_getElem hk, List.all_append, h]; simp [hf]
/-- A step of the reference's reader, and the program's that it is. -/
structure SimR {α : Type} (f g : Step α) : Prop where
  val : ∀ b e, (f b e).1 = (g (absR (b, e)).1 (absR (b, e)).2).1
  st : ∀ b e, absR (f b e).2 = (g (absR (b, e)).1 (absR (b, e)).2).2
theorem absR_two (b : List Nat) (e : Int) : (absR (b, e)).2 = e := rfl
theorem SimR.step {α : Type} {f g : Step α} (S : SimR f g) (b : List Nat) (e : Int) : g (absR (b, e)).1 (absR (b, e)).2 = ((f b e).1, absR ((f b e).2.1, (f b e).2.2)) := by
  rw [S.val b e, show ((f b e).2.1, (f b e).2.2) = (f b e).2 from rfl, S.st b e]
theorem simNum (most : Nat) : SimR (fun l e => rnumR l e most) (fun l e => rnum l e most) := ⟨fun b e => (rnumR_sim b e most).1, fun b e => (rnumR_sim b e most).2⟩
theorem SimR.map {α β : Type} {f g : Step α} (S : SimR f g) (φ : α → β) : SimR (stepMap φ f) (stepMap φ g) := ⟨fun b e => by simp only [stepMap, S.val b e], fun b e => by simp only [stepMap, S.st b e]⟩
theorem SimR.wl {α : Type} {f g : Step α} (S : SimR f g) : ∀ n, SimR (wlst f n) (wlst g n)
  | 0 => ⟨fun b e => rfl, fun b e => rfl⟩
  | n + 1 => by
    have ih := S.wl n
    refine ⟨fun b e => ?_, fun b e => ?_⟩
    · simp only [wlst, S.step b e]
      rw [ih.val]
    · simp only [wlst, S.step b e]
      rw [ih.st]
theorem SimR.rl {α : Type} {f g : Step α} (S : SimR f g) : ∀ n, SimR (rlist f n) (rlist g n)
  | 0 => ⟨fun b e => rfl, fun b e => rfl⟩
  | n + 1 => by
    have ih := S.rl n
    have key : ∀ b e, rlist g (n + 1) (absR (b, e)).1 (absR (b, e)).2 = ((rlist f (n + 1) b e).1, absR (rlist f (n + 1) b e).2) := fun b e => by
      by_cases he : e = 0
      · subst he
        rw [show (absR (b, (0 : Int))).2 = 0 from rfl, rlist_succ0, rlist_succ0]
        have h1 := S.step b 0
        rw [show (absR (b, (0 : Int))).2 = 0 from rfl] at h1
        rw [h1]
        simp only
        rw [ih.val, ← ih.st]
      · rw [rlist_e he, rlist_e (e := (absR (b, e)).2) he]
    exact ⟨fun b e => by rw [key], fun b e => by rw [key]⟩
theorem SimR.seq {α β : Type} {f g : Step α} {f2 g2 : Step β} (S : SimR f g) (T : SimR f2 g2) : SimR (seq2 f f2) (seq2 g g2) := by
  refine ⟨fun b e => ?_, fun b e => ?_⟩
  · simp only [seq2, S.step b e]; rw [T.val]
  · simp only [seq2, S.step b e]; rw [T.st]
/-- Two slices that this call has made, and may append to each without the other one. -/
structure Two (h0 h : AH) (e1 st1 : Nat) (l1 : List V) (e2 st2 : Nat) (l2 : List V) : Prop where
  a : Own h0 h 2 e1 st1 l1
  b : Own h0 h 2 e2 st2 l2
  ba : st1 ≤ 2 ∨ st1 < h.next
  ne : st1 ≤ 2 ∨ ¬ st1 = st2
theorem Two.set {h0 h : AH} {e1 st1 e2 st2 o : Nat} {l1 l2 : List V} (t : Two h0 h e1 st1 l1 e2 st2 l2) (ho : h0.nobj ≤ o) (z : List V) : Two h0 (h.set o z) e1 st1 l1 e2 st2 l2 :=
  ⟨⟨t.a.gr.set ho z, t.a.el, t.a.st⟩, ⟨t.b.gr.set ho z, t.b.el, t.b.st⟩, t.ba, t.ne⟩
theorem Own.set {h0 h : AH} {e e1 st1 o : Nat} {l1 : List V} (t : Own h0 h e e1 st1 l1) (ho : h0.nobj ≤ o) (z : List V) : Own h0 (h.set o z) e e1 st1 l1 := ⟨t.gr.set ho z, t.el, t.st⟩
theorem Own.new {h0 h : AH} {e e1 st1 : Nat} {l1 : List V} (t : Own h0 h e e1 st1 l1) (z : List V) : Own h0 (h.new z) e e1 st1 l1 := ⟨t.gr.new z, t.el, t.st⟩
theorem Own.keep {h0 h : AH} {e e1 st1 st2 : Nat} {l1 : List V} (t : Own h0 h e e1 st1 l1) (gr : Gr h0 (h.push st2 e)) (ba : st1 ≤ 2 ∨ st1 < h.next) (ne : st1 ≤ 2 ∨ ¬ st1 = st2) : Own h0 (h.push st2 e) e e1 st1 l1 := by
  refine ⟨gr, t.el, ?_⟩
  rcases t.st with h1 | h1 | ⟨h1, h2⟩
  · exact .inl h1
  · exact .inr (.inl h1)
  · by_cases hs : st1 ≤ 2
    · have := h0.next
      by_cases h1' : st1 = 1
      · exact .inl h1'
      by_cases h2' : st1 = 2
      · exact .inr (.inl h2')
      refine .inr (.inr ⟨?_, h2⟩)
      rcases ba with ba | ba
      · unfold AH.push
        by_cases hst : st2 ≤ 2
        · rw [if_pos hst]
          by_cases hx : st1 = h.next
          · rw [hx]; exact updN_same _ _ _
          · rw [show (h.grow e).tips st1 = h.tips st1 from updN_ne _ _ hx]; exact h1
        · rw [if_neg hst]
          by_cases hx : st1 = h.next
          · rw [hx]; exact updN_same _ _ _
          · rw [show ((h.drop st2).grow e).tips st1 = (h.drop st2).tips st1 from updN_ne _ _ hx, show (h.drop st2).tips st1 = h.tips st1 from updN_ne _ _ (by omega)]; exact h1
      · unfold AH.push
        by_cases hst : st2 ≤ 2
        · rw [if_pos hst, show (h.grow e).tips st1 = h.tips st1 from updN_ne _ _ (by omega)]; exact h1
        · rw [if_neg hst, show ((h.drop st2).grow e).tips st1 = (h.drop st2).tips st1 from updN_ne _ _ (by show st1 ≠ h.next; omega), show (h.drop st2).tips st1 = h.tips st1 from updN_ne _ _ (by omega)]; exact h1
    · refine .inr (.inr ⟨?_, h2⟩)
      unfold AH.push
      by_cases hst : st2 ≤ 2
      · rw [if_pos hst, show (h.grow e).tips st1 = h.tips st1 from updN_ne _ _ (by omega)]; exact h1
      · rw [if_neg hst, show ((h.drop st2).grow e).tips st1 = (h.drop st2).tips st1 from updN_ne _ _ (by show st1 ≠ h.next; omega), show (h.drop st2).tips st1 = h.tips st1 from updN_ne _ _ (by omega)]; exact h1
theorem flat_len {α : Type} {f : α → List Nat} {m : Nat} : ∀ (l : List α), (∀ a ∈ l, (f a).length ≤ m) → (l.flatMap f).length ≤ m * l.length
  | [], _ => by simp
  | a :: l, h => by
    have := flat_len l fun b hb => h b (by simp [hb])
    have h1 := h a (by simp)
    simp only [List.flatMap_cons, List.length_append, List.length_cons, Nat.mul_add]; omega
theorem vputs_app (a b : List Nat) : vputs (a ++ b) = vputs a ++ vputs b := by simp [vputs]
abbrev nmR : Nat → Step Nat := fun m l e => rnumR l e m
abbrev nmW : Nat → Step Nat := fun m l e => rnum l e m
section
variable {X : Cx} {h : AH} {Q : V → AH → Prop}
theorem Own.push {h0 h : AH} {e e1 st : Nat} {l : List V} (o : Own h0 h e e1 st l) (m : List V) : Own h0 (h.push st e) e e h.next (l ++ m) := by
  refine ⟨o.gr.push ?_ e, .inr rfl, .inr (.inr ⟨push_new h st e, o.gr.next⟩)⟩
  rcases o.st with h1 | h1 | h1
  · omega
  · omega
  · exact .inr h1.2
/-- An append, with all that is known of the heap. -/
theorem Own.appF {h0 h : AH} {e e1 st : Nat} {l : List V} (o : Own h0 h e e1 st l) {sz e2 : Nat} {m : List V} (hm : m ≠ []) (he : e2 = e) (hb : (l.length + m.length) * sz ≤ 2 ^ 46) {K : V → AH → Prop} {zK : Lz K}
    (hk : Own h0 (h.push st e) e e h.next (l ++ m) → K (.sl e h.next (l ++ m)) (h.push st e)) : App h e sz e1 st l e2 m zK := by
  refine ⟨fun h1 => absurd h1 hm, fun _ => ⟨?_, o.el, he, hb, hk (o.push m)⟩⟩
  rcases o.st with h1 | h1 | h1
  · exact .inl h1
  · exact .inr (.inl h1)
  · exact .inr (.inr h1.1)
theorem Two.app {h0 h : AH} {e1 st1 e2 st2 : Nat} {l1 l2 : List V} (t : Two h0 h e1 st1 l1 e2 st2 l2) {sz e3 : Nat} {m : List V} (hm : m ≠ []) (he : e3 = 2) (hb : (l2.length + m.length) * sz ≤ 2 ^ 46) {K : V → AH → Prop} {zK : Lz K}
    (hk : ∀ st' h', Two h0 h' e1 st1 l1 2 st' (l2 ++ m) → h'.objs = h.objs → h'.nobj = h.nobj → K (.sl 2 st' (l2 ++ m)) h') : App h 2 sz e2 st2 l2 e3 m zK :=
  t.b.appF hm he hb fun o' => hk _ _ ⟨t.a.keep o'.gr t.ba t.ne, o', t.ba.imp id fun h1 => by rw [push_next]; omega, t.ba.imp id fun h1 => by omega⟩ (push_objs _ _ _) (push_nobj _ _ _)
theorem sameI_spec (H : Has (Ecx X) K.probateref02_Same A.probateref02_Same) (a b : List Int) (s t : Nat) (ha : a.length ≤ 2 ^ 40) (hQ : Q (.bool (decide (a = b))) h) :
    Ecx X K.probateref02_Same [.sl 1 s (ints a), .sl 1 t (ints b)] h Q := by
  refine fn_walk H (by simp [A.probateref02_Same]) fun wf => ?_
  by_cases hl : a.length = b.length
  · have hl' : (a.length : Int) = b.length := by omega
    simp [A.probateref02_Same, hl']
    refine loopI (n := a.length) (fun m env h' => ∃ k, k ≤ a.length ∧ m = a.length - k ∧ h' = h ∧ env = [(0, .sl 1 s (ints a)), (1, .sl 1 t (ints b)), (5, .int .i64 k)] ∧ a.take k = b.take k) ?_ ⟨0, by omega, by omega, rfl, rfl, rfl⟩
    rintro m env h' ⟨k, hk, rfl, rfl, rfl, he⟩
    unfold A.probateref02_Same.L0
    by_cases hlt : k < a.length
    · have hlt' : (k : Int) < b.length := by omega
      have hlb : k < b.length := by omega
      have hga := ints_get hlt
      have hgb := ints_get hlb
      have hw1 : IntKind.i64.wrap ((k : Int) + 1) = ((k + 1 : Nat) : Int) := by rw [wrap_i64 (by omega) (by omega)]; rfl
      by_cases e : a[k] = b[k]
      · simp [hl', hlt', hga, hgb, V.cells, e, hw1]
        exact ⟨a.length - (k + 1), by omega, iv ⟨k + 1, by omega, rfl, rfl, rfl, take_ext2 hlt hlb he e⟩⟩
      · have hf : decide (a = b) = false := by
          simp only [decide_eq_false_iff_not]; rintro rfl; exact e rfl
        rw [hf] at hQ
        simp [hl', hlt', hga, hgb, V.cells, e]
        exact fin (by simp) hQ
    · have hlt' : ¬ (k : Int) < b.length := by omega
      simp [hl', hlt']
      refine fin (by simp) ?_
      have hk : k = a.length := by omega
      rw [hk, List.take_length, hl, List.take_length] at he
      simpa [he] using hQ
  · have hl' : ¬ (a.length : Int) = b.length := by omega
    simp [A.probateref02_Same, hl']
    refine fin (by simp) ?_
    have : decide (a = b) = false := by simp; intro h; exact hl (by rw [h])
    rw [this] at hQ; exact hQ
end
end Go.Proofs.Ytbbmglginkabfaa.Al
