/-
  The abstract layer, part 1: abstract values, the abstract heap, and how a world of the model reads as them. Conditions: none.
-/
import Derived.Orders
import Derived.Below
import Derived.Laws.IdiomCopy
import Derived.Laws.CopyRow
import Derived.Laws.Cells
import Derived.KernelRfl
namespace Go.Proofs.Ytpnbdnmmfaomlaa.Al
open Go Go.RowKit

/-- Abstract values: a slice is the list of what it holds (e: cells of an element; st: 0 of unknown room, 1 nil, 2 full, from 3 on a stamp). -/
inductive V where
  | bool (b : Bool)
  | int (k : IntKind) (n : Int)
  | str (s : List UInt8)
  | sl (e st : Nat) (l : List V)
  | agg (l : List V)
  | ptr (o off : Nat)
  | rptr (l : List V) (off : Nat)
  | nilp
  | fn (f : Nat) (first cap : List V)
  | nilf
  | tup (l : List V)
  | undef
  deriving Inhabited

def V.cells : V → List V
  | .agg l => l
  | v => [v]
def V.leaf : V → Bool
  | .agg _ | .tup _ | .undef => false
  | _ => true
def V.isAgg : V → Bool
  | .agg _ => true
  | _ => false
def cellsOf (l : List V) : List V := l.flatMap V.cells
@[simp] theorem cellsOf_nil : cellsOf [] = [] := rfl
@[simp] theorem cellsOf_cons (v : V) (l : List V) : cellsOf (v :: l) = v.cells ++ cellsOf l := rfl
@[simp] theorem cellsOf_append (l m : List V) : cellsOf (l ++ m) = cellsOf l ++ cellsOf m := by simp [cellsOf]
theorem cellsOf_length {e : Nat} : ∀ {l : List V}, (∀ v ∈ l, v.cells.length = e) → (cellsOf l).length = l.length * e
  | [], _ => by simp
  | v :: l, h => by
    have ih := cellsOf_length (l := l) (e := e) (fun u hu => h u (by simp [hu]))
    simp [ih, h v (by simp), Nat.add_mul]; omega
theorem cellsOf_take_drop {e : Nat} : ∀ {l : List V} (_ : ∀ v ∈ l, v.cells.length = e) (n : Nat), cellsOf (l.drop n) = (cellsOf l).drop (n * e)
  | [], _, n => by simp
  | v :: l, h, 0 => by simp
  | v :: l, h, n + 1 => by
    have ih := cellsOf_take_drop (l := l) (e := e) (fun u hu => h u (by simp [hu])) n
    have hv := h v (by simp)
    simp only [List.drop_succ_cons, ih, cellsOf_cons]
    rw [List.drop_append, Nat.add_mul, Nat.one_mul, List.drop_eq_nil_of_le (as := v.cells) (by omega), List.nil_append]
    congr 1; omega
theorem cellsOf_getElem {e : Nat} {l : List V} (h : ∀ v ∈ l, v.cells.length = e) (n : Nat) (hn : n < l.length) (c : Nat) (hc : c < e) :
    (cellsOf l)[n * e + c]? = (l[n]).cells[c]? := by
  have hd := cellsOf_take_drop h n
  have : (cellsOf l)[n * e + c]? = ((cellsOf l).drop (n * e))[c]? := by rw [List.getElem?_drop]
  rw [this, ← hd, List.drop_eq_getElem_cons hn, cellsOf_cons, List.getElem?_append_left (by rw [h _ (List.getElem_mem hn)]; exact hc)]

structure Gh where
  obj : Nat → Nat
  tip : Nat → Nat
  pub : Nat → Nat

structure AH where
  objs : Nat → List V
  nobj : Nat
  tips : Nat → Option Nat
  next : Nat

/-- What stays fixed: the program, which function a key means, the world in which the law was called. -/
structure Cx where
  P : Program
  tbl : Nat → Nat
  W0 : World

def rowAt (w : World) (b off n : Nat) : Prop := ∃ cs t, w.heap[b]? = some (.cells cs t (0, 0)) ∧ off + n ≤ cs.size

inductive Rel (X : Cx) (g : Gh) (w : World) (h : AH) : V → Value → Prop
  | bool (b : Bool) : Rel X g w h (.bool b) (.bool b)
  | int (k : IntKind) (n : Int) : Rel X g w h (.int k n) (.int k n)
  | str (s : List UInt8) : Rel X g w h (.str s) (.string ⟨s.toArray⟩)
  | slnil (e st : Nat) (hst : st ≤ 1) : Rel X g w h (.sl e st []) (.slice none 0 0)
  | slemp (e : Nat) (a : Addr) : Rel X g w h (.sl e 0 []) (.slice (some a) 0 0)
  | sl (e st : Nat) (l : List V) (b off cap : Nat) (x : Nat → Value) (h1 : st ≠ 1) (hs : st < h.next) (hcap : l.length ≤ cap)
      (he : ∀ v ∈ l, v.cells.length = e)
      (hc : ∀ i, i < (cellsOf l).length → w.cell? ⟨b, off + i, none⟩ = some (x i))
      (ho : ∀ i, i < (cellsOf l).length → (x i).oneCell' = true)
      (hp : off + (cellsOf l).length ≤ g.pub b)
      (hr : ∀ i (hi : i < (cellsOf l).length), Rel X g w h ((cellsOf l)[i]) (x i))
      (h2 : st = 2 → cap = l.length)
      (h3 : ∀ e', h.tips st = some e' → e' = e ∧ b = g.tip st ∧ g.pub b = off + l.length * e ∧ rowAt w b off (cap * e)) :
      Rel X g w h (.sl e st l) (.slice (some ⟨b, off, none⟩) l.length cap)
  | agg (l : List V) (cs : Array Value) (hl : l.length = cs.size) (ho : ∀ i (h2 : i < cs.size), (cs[i]).oneCell' = true)
      (hr : ∀ i (h1 : i < l.length) (h2 : i < cs.size), Rel X g w h (l[i]) (cs[i])) : Rel X g w h (.agg l) (.agg cs)
  | ptr (o off : Nat) (hn : o < h.nobj) : Rel X g w h (.ptr o off) (.pointer (some ⟨g.obj o, off, none⟩))
  | rptr (l : List V) (off b base : Nat) (x : Nat → Value)
      (hc : ∀ i, i < l.length → w.cell? ⟨b, base + i, none⟩ = some (x i))
      (ho : ∀ i, i < l.length → (x i).oneCell' = true)
      (hp : base + l.length ≤ g.pub b)
      (hr : ∀ i (hi : i < l.length), Rel X g w h (l[i]) (x i)) : Rel X g w h (.rptr l off) (.pointer (some ⟨b, base + off, none⟩))
  | nilp : Rel X g w h .nilp (.pointer none)
  | fn (f : Nat) (first cap : List V) (fs cs : Array Value) (hf : first.length = fs.size) (hcl : cap.length = cs.size)
      (hr1 : ∀ i (h1 : i < first.length) (h2 : i < fs.size), Rel X g w h (first[i]) (fs[i]))
      (hr2 : ∀ i (h1 : i < cap.length) (h2 : i < cs.size), Rel X g w h (cap[i]) (cs[i])) :
      Rel X g w h (.fn f first cap) (.func (.func (X.tbl f)) fs cs)
  | nilf : Rel X g w h .nilf .nilFunc
  | tup (l : List V) (cs : Array Value) (hl : l.length = cs.size)
      (hr : ∀ i (h1 : i < l.length) (h2 : i < cs.size), Rel X g w h (l[i]) (cs[i])) : Rel X g w h (.tup l) (.tuple cs)
  | undef (v : Value) : Rel X g w h .undef v

/-- From one moment to a later one. -/
structure Stp (g : Gh) (w : World) (h : AH) (g' : Gh) (w' : World) (h' : AH) : Prop where
  next : h.next ≤ h'.next
  nobj : h.nobj ≤ h'.nobj
  obj : ∀ o, o < h.nobj → g'.obj o = g.obj o
  pub : ∀ b, g.pub b ≤ g'.pub b
  cell : ∀ b o, o < g.pub b → w'.cell? ⟨b, o, none⟩ = w.cell? ⟨b, o, none⟩
  tip : ∀ s, s < h.next → ∀ e, h'.tips s = some e → h.tips s = some e ∧ g'.tip s = g.tip s ∧ g'.pub (g.tip s) = g.pub (g.tip s)
  row : ∀ s, s < h.next → ∀ e, h'.tips s = some e → ∀ off n, rowAt w (g.tip s) off n → rowAt w' (g.tip s) off n

theorem Stp.refl (g : Gh) (w : World) (h : AH) : Stp g w h g w h :=
  ⟨Nat.le_refl _, Nat.le_refl _, fun _ _ => rfl, fun _ => Nat.le_refl _, fun _ _ _ => rfl, fun _ _ _ h => ⟨h, rfl, rfl⟩, fun _ _ _ _ _ _ h => h⟩
theorem Stp.trans {g g1 g2 : Gh} {w w1 w2 : World} {h h1 h2 : AH} (a : Stp g w h g1 w1 h1) (b : Stp g1 w1 h1 g2 w2 h2) : Stp g w h g2 w2 h2 where
  next := Nat.le_trans a.next b.next
  nobj := Nat.le_trans a.nobj b.nobj
  obj o ho := (b.obj o (Nat.lt_of_lt_of_le ho a.nobj)).trans (a.obj o ho)
  pub x := Nat.le_trans (a.pub x) (b.pub x)
  cell x o ho := (b.cell x o (Nat.lt_of_lt_of_le ho (a.pub x))).trans (a.cell x o ho)
  tip s hs e he := by
    obtain ⟨h1, h2, h3⟩ := b.tip s (Nat.lt_of_lt_of_le hs a.next) e he
    obtain ⟨k1, k2, k3⟩ := a.tip s hs e h1
    exact ⟨k1, h2.trans k2, by rw [← k3, ← k2, h3]⟩
  row s hs e he off n hr := by
    obtain ⟨h1, h2, h3⟩ := b.tip s (Nat.lt_of_lt_of_le hs a.next) e he
    obtain ⟨k1, k2, k3⟩ := a.tip s hs e h1
    have := a.row s hs e h1 off n hr
    rw [← k2] at this
    have := b.row s (Nat.lt_of_lt_of_le hs a.next) e he off n this
    rwa [k2] at this

theorem Rel.stp {X : Cx} {g g' : Gh} {w w' : World} {h h' : AH} (S : Stp g w h g' w' h') {v : V} {x : Value} (r : Rel X g w h v x) : Rel X g' w' h' v x := by
  induction r with
  | bool b => exact .bool b
  | int k n => exact .int k n
  | str s => exact .str s
  | slnil e st hst => exact .slnil e st hst
  | slemp e a => exact .slemp e a
  | sl e st l b off cap x h1 hs hcap he hc ho hp hr h2 h3 ih =>
    refine .sl e st l b off cap x h1 (Nat.lt_of_lt_of_le hs S.next) hcap he (fun i hi => ?_) ho (Nat.le_trans hp (S.pub b)) ih h2 (fun e' he' => ?_)
    · rw [S.cell b (off + i) (by omega)]; exact hc i hi
    · obtain ⟨k1, k2, k3⟩ := S.tip st hs e' he'
      obtain ⟨j1, j2, j3, j4⟩ := h3 e' k1
      refine ⟨j1, by rw [k2]; exact j2, by rw [j2, k3, ← j2]; exact j3, ?_⟩
      rw [j2] at j4 ⊢
      exact S.row st hs e' he' _ _ j4
  | agg l cs hl ho hr ih => exact .agg l cs hl ho ih
  | ptr o off hn => rw [← S.obj o hn]; exact .ptr o off (Nat.lt_of_lt_of_le hn S.nobj)
  | rptr l off b base x hc ho hp hr ih =>
    refine .rptr l off b base x (fun i hi => ?_) ho (Nat.le_trans hp (S.pub b)) ih
    rw [S.cell b (base + i) (by omega)]; exact hc i hi
  | nilp => exact .nilp
  | fn f first cap fs cs hf hcl hr1 hr2 ih1 ih2 => exact .fn f first cap fs cs hf hcl ih1 ih2
  | nilf => exact .nilf
  | tup l cs hl hr ih => exact .tup l cs hl ih
  | undef v => exact .undef v

/-- Bounded: it names no stamp and no object from these numbers on. -/
inductive Bdd (n m : Nat) : V → Prop
  | bool (b : Bool) : Bdd n m (.bool b)
  | int (k : IntKind) (i : Int) : Bdd n m (.int k i)
  | str (s : List UInt8) : Bdd n m (.str s)
  | sl (e st : Nat) (l : List V) (hs : st ≤ 2 ∨ st < n) (hl : ∀ v ∈ cellsOf l, Bdd n m v) : Bdd n m (.sl e st l)
  | agg (l : List V) (hl : ∀ v ∈ l, Bdd n m v) : Bdd n m (.agg l)
  | ptr (o off : Nat) (ho : o < m) : Bdd n m (.ptr o off)
  | rptr (l : List V) (off : Nat) (hl : ∀ v ∈ l, Bdd n m v) : Bdd n m (.rptr l off)
  | nilp : Bdd n m .nilp
  | fn (f : Nat) (first cap : List V) (h1 : ∀ v ∈ first, Bdd n m v) (h2 : ∀ v ∈ cap, Bdd n m v) : Bdd n m (.fn f first cap)
  | nilf : Bdd n m .nilf
  | tup (l : List V) (hl : ∀ v ∈ l, Bdd n m v) : Bdd n m (.tup l)
  | undef : Bdd n m .undef

theorem Rel.bdd {X : Cx} {g : Gh} {w : World} {h : AH} {v : V} {x : Value} (r : Rel X g w h v x) : Bdd h.next h.nobj v := by
  induction r with
  | bool b => exact .bool b
  | int k n => exact .int k n
  | str s => exact .str s
  | slnil e st hst => exact .sl e st _ (.inl (by omega)) (by simp)
  | slemp e a => exact .sl e 0 _ (.inl (by omega)) (by simp)
  | sl e st l b off cap x h1 hs hcap he hc ho hp hr h2 h3 ih =>
    refine .sl e st l (.inr hs) (fun v hv => ?_)
    obtain ⟨i, hi, rfl⟩ := List.getElem_of_mem hv
    exact ih i hi
  | agg l cs hl ho hr ih =>
    refine .agg l (fun v hv => ?_)
    obtain ⟨i, hi, rfl⟩ := List.getElem_of_mem hv
    exact ih i hi (by omega)
  | ptr o off hn => exact .ptr o off hn
  | rptr l off b base x hc ho hp hr ih =>
    refine .rptr l off (fun v hv => ?_)
    obtain ⟨i, hi, rfl⟩ := List.getElem_of_mem hv
    exact ih i hi
  | nilp => exact .nilp
  | fn f first cap fs cs hf hcl hr1 hr2 ih1 ih2 =>
    refine .fn f first cap (fun v hv => ?_) (fun v hv => ?_)
    · obtain ⟨i, hi, rfl⟩ := List.getElem_of_mem hv; exact ih1 i hi (by omega)
    · obtain ⟨i, hi, rfl⟩ := List.getElem_of_mem hv; exact ih2 i hi (by omega)
  | nilf => exact .nilf
  | tup l cs hl hr ih =>
    refine .tup l (fun v hv => ?_)
    obtain ⟨i, hi, rfl⟩ := List.getElem_of_mem hv
    exact ih i hi (by omega)
  | undef v => exact .undef

/-- In a smaller heap. -/
theorem Rel.shrink {X : Cx} {g : Gh} {w : World} {h h' : AH} (n3 : 3 ≤ h'.next) (ht : ∀ s e, h'.tips s = some e → h.tips s = some e) {v : V} {x : Value} (r : Rel X g w h v x)
    (bd : Bdd h'.next h'.nobj v) : Rel X g w h' v x := by
  induction r with
  | bool b => exact .bool b
  | int k n => exact .int k n
  | str s => exact .str s
  | slnil e st hst => exact .slnil e st hst
  | slemp e a => exact .slemp e a
  | sl e st l b' off cap x h1 hs hcap he hc ho hp hr h2 h3 ih =>
    cases bd with
    | sl _ _ _ hs' hl =>
      refine .sl e st l b' off cap x h1 (by omega) hcap he hc ho hp (fun i hi => ih i hi (hl _ (List.getElem_mem hi))) h2 (fun e' he' => h3 e' (ht _ _ he'))
  | agg l cs hl ho hr ih =>
    cases bd with
    | agg _ hb => exact .agg l cs hl ho (fun i h1 h2 => ih i h1 h2 (hb _ (List.getElem_mem h1)))
  | ptr o off hn => cases bd with | ptr _ _ ho => exact .ptr o off ho
  | rptr l off b' base x hc ho hp hr ih =>
    cases bd with
    | rptr _ _ hb => exact .rptr l off b' base x hc ho hp (fun i hi => ih i hi (hb _ (List.getElem_mem hi)))
  | nilp => exact .nilp
  | fn f first cap fs cs hf hcl hr1 hr2 ih1 ih2 =>
    cases bd with
    | fn _ _ _ b1 b2 => exact .fn f first cap fs cs hf hcl (fun i h1 h2 => ih1 i h1 h2 (b1 _ (List.getElem_mem h1))) (fun i h1 h2 => ih2 i h1 h2 (b2 _ (List.getElem_mem h1)))
  | nilf => exact .nilf
  | tup l cs hl hr ih =>
    cases bd with
    | tup _ hb => exact .tup l cs hl (fun i h1 h2 => ih i h1 h2 (hb _ (List.getElem_mem h1)))
  | undef v => exact .undef v

/-- What holds of world and heap together. -/
structure Inv (X : Cx) (g : Gh) (w : World) (h : AH) : Prop where
  below : Below X.W0.heap.size X.W0 w
  next : 3 ≤ h.next
  objs : ∀ o, o < h.nobj → ∃ cs t, w.heap[g.obj o]? = some (.cells cs t (0, 0)) ∧ (h.objs o).length = cs.size ∧
    (∀ i (h2 : i < cs.size), (cs[i]).oneCell' = true) ∧ ∀ i (h1 : i < (h.objs o).length) (h2 : i < cs.size), Rel X g w h ((h.objs o)[i]) (cs[i])
  objB : ∀ o, o < h.nobj → X.W0.heap.size ≤ g.obj o ∧ g.pub (g.obj o) = 0
  objI : ∀ o o', o < h.nobj → o' < h.nobj → g.obj o = g.obj o' → o = o'
  tipB : ∀ s e, h.tips s = some e → 3 ≤ s ∧ s < h.next ∧ X.W0.heap.size ≤ g.tip s ∧ g.tip s < w.heap.size
  tipI : ∀ s e s' e', h.tips s = some e → h.tips s' = some e' → g.tip s = g.tip s' → s = s'
  tipO : ∀ o s e, o < h.nobj → h.tips s = some e → g.obj o ≠ g.tip s
  pubB : ∀ b, w.heap.size ≤ b → g.pub b = 0

theorem Inv.objL {X : Cx} {g : Gh} {w : World} {h : AH} (I : Inv X g w h) {o : Nat} (ho : o < h.nobj) : g.obj o < w.heap.size := by
  obtain ⟨cs, t, hh, _⟩ := I.objs o ho
  rcases Nat.lt_or_ge (g.obj o) w.heap.size with h' | h'
  · exact h'
  · simp [Array.getElem?_eq_none h'] at hh

theorem Stp.drew (g : Gh) (w : World) (h : AH) : Stp g w h g w.drew h :=
  ⟨Nat.le_refl _, Nat.le_refl _, fun _ _ => rfl, fun _ => Nat.le_refl _, fun _ _ _ => rfl, fun _ _ _ h => ⟨h, rfl, rfl⟩, fun _ _ _ _ _ _ h => h⟩
/-- A draw turns nothing. -/
theorem Rel.drew {X : Cx} {g : Gh} {w : World} {h : AH} {v : V} {x : Value} (r : Rel X g w h v x) : Rel X g w.drew h v x := r.stp (Stp.drew g w h)
theorem Inv.drew {X : Cx} {g : Gh} {w : World} {h : AH} (I : Inv X g w h) : Inv X g w.drew h where
  below := I.below.drew
  next := I.next
  objs o ho := by
    obtain ⟨cs, t, h1, h2, h3, h4⟩ := I.objs o ho
    exact ⟨cs, t, h1, h2, h3, fun i a b => (h4 i a b).drew⟩
  objB := I.objB
  objI := I.objI
  tipB := I.tipB
  tipI := I.tipI
  tipO := I.tipO
  pubB := I.pubB

end Go.Proofs.Ytpnbdnmmfaomlaa.Al
