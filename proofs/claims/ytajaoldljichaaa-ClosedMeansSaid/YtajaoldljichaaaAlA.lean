/-
  The abstract layer, A: values, heaps, code, and what each operation does. Conditions: none.
-/
import Derived.Lib.AppendStr
import Derived.Orders
import Derived.Below
import Derived.Laws.IdiomCopy
import Derived.Laws.CopyRow
import Derived.Laws.Cells
import Derived.KernelRfl
import Derived.ArgAppend
import Derived.Maps.AppendAt
import Derived.Laws.StructEq
import Derived.Laws.MakeOwn
import Derived.Laws.IdiomStrings
namespace Go.Proofs.Ytajaoldljichaaa.Al
open Go Go.RowKit

/-- Abstract values: a slice is the list of what it holds (e: cells of an element; st: 0 of unknown room, 1 nil, 2 full, from 3 on a stamp), or it lies in an object of its own (osl), into which may be written. -/
inductive V where
  | bool (b : Bool)
  | int (k : IntKind) (n : Int)
  | str (s : List UInt8)
  | sl (e st : Nat) (l : List V)
  | agg (l : List V)
  | ptr (o off : Nat)
  | osl (e o off len cap : Nat)
  | rptr (l : List V) (off : Nat)
  | nilp
  | fn (f : Nat) (first cap : List V)
  | nilf
  | tup (l : List V)
  | mapr (o : Nat)
  | mapn
  | cval (c : Value)
  | tp (o t n : Nat)
  | tys (t : Nat) (v : V)
  | undef
  deriving Inhabited

def V.cells : V → List V
  | .agg l => l
  | v => [v]
def V.leaf : V → Bool
  | .agg _ | .tup _ | .undef => false
  | _ => true
def V.isAgg : V → Bool
  | .agg _ => true
  | _ => false
def cellsOf (l : List V) : List V := l.flatMap V.cells
@[simp] theorem cellsOf_nil : cellsOf [] = [] := rfl
@[simp] theorem cellsOf_cons (v : V) (l : List V) : cellsOf (v :: l) = v.cells ++ cellsOf l := rfl
@[simp] theorem cellsOf_append (l m : List V) : cellsOf (l ++ m) = cellsOf l ++ cellsOf m := by simp [cellsOf]
theorem cellsOf_length {e : Nat} : ∀ {l : List V}, (∀ v ∈ l, v.cells.length = e) → (cellsOf l).length = l.length * e
  | [], _ => by simp
  | v :: l, h => by
    have ih := cellsOf_length (l := l) (e := e) (fun u hu => h u (by simp [hu]))
    simp [ih, h v (by simp), Nat.add_mul]; omega
theorem cellsOf_take_drop {e : Nat} : ∀ {l : List V} (_ : ∀ v ∈ l, v.cells.length = e) (n : Nat), cellsOf (l.drop n) = (cellsOf l).drop (n * e)
  | [], _, n => by simp
  | v :: l, h, 0 => by simp
  | v :: l, h, n + 1 => by
    have ih := cellsOf_take_drop (l := l) (e := e) (fun u hu => h u (by simp [hu])) n
    have hv := h v (by simp)
    simp only [List.drop_succ_cons, ih, cellsOf_cons]
    rw [List.drop_append, Nat.add_mul, Nat.one_mul, List.drop_eq_nil_of_le (as := v.cells) (by omega), List.nil_append]
    congr 1; omega
theorem cellsOf_getElem {e : Nat} {l : List V} (h : ∀ v ∈ l, v.cells.length = e) (n : Nat) (hn : n < l.length) (c : Nat) (hc : c < e) :
    (cellsOf l)[n * e + c]? = (l[n]).cells[c]? := by
  have hd := cellsOf_take_drop h n
  have : (cellsOf l)[n * e + c]? = ((cellsOf l).drop (n * e))[c]? := by rw [List.getElem?_drop]
  rw [this, ← hd, List.drop_eq_getElem_cons hn, cellsOf_cons, List.getElem?_append_left (by rw [h _ (List.getElem_mem hn)]; exact hc)]

structure Gh where
  obj : Nat → Nat
  tip : Nat → Nat
  pub : Nat → Nat
  mp : Nat → Bool

structure AH where
  objs : Nat → List V
  nobj : Nat
  tips : Nat → Option Nat
  next : Nat

/-- A function's key. -/
abbrev FK (k : Nat) : Prop := k ≠ 0 ∧ k < 1000000
/-- What stays fixed: the program, which function a key means, the world in which the law was called, and what holds where a call panics. -/
structure Cx where
  P : Program
  tbl : Nat → Nat
  W0 : World
  Z : Value → AH → Prop

def rowAt (w : World) (b off n : Nat) : Prop := ∃ cs t, w.heap[b]? = some (.cells cs t (0, 0)) ∧ off + n ≤ cs.size

inductive Rel (X : Cx) (g : Gh) (w : World) (h : AH) : V → Value → Prop
  | bool (b : Bool) : Rel X g w h (.bool b) (.bool b)
  | int (k : IntKind) (n : Int) : Rel X g w h (.int k n) (.int k n)
  | str (s : List UInt8) : Rel X g w h (.str s) (.string ⟨s.toArray⟩)
  | slnil (e st : Nat) (hst : st ≤ 1) : Rel X g w h (.sl e st []) (.slice none 0 0)
  | slemp (e : Nat) (a : Addr) : Rel X g w h (.sl e 0 []) (.slice (some a) 0 0)
  | sl (e st : Nat) (l : List V) (b off cap : Nat) (x : Nat → Value) (h1 : st ≠ 1) (hs : st < h.next) (hcap : l.length ≤ cap)
      (he : ∀ v ∈ l, v.cells.length = e)
      (hc : ∀ i, i < (cellsOf l).length → w.cell? ⟨b, off + i, none⟩ = some (x i))
      (ho : ∀ i, i < (cellsOf l).length → (x i).oneCell' = true)
      (hp : off + (cellsOf l).length ≤ g.pub b)
      (hr : ∀ i (hi : i < (cellsOf l).length), Rel X g w h ((cellsOf l)[i]) (x i))
      (h2 : st = 2 → cap = l.length)
      (h3 : ∀ e', h.tips st = some e' → e' = e ∧ b = g.tip st ∧ g.pub b = off + l.length * e ∧ rowAt w b off (cap * e)) :
      Rel X g w h (.sl e st l) (.slice (some ⟨b, off, none⟩) l.length cap)
  | agg (l : List V) (cs : Array Value) (hl : l.length = cs.size) (ho : ∀ i (h2 : i < cs.size), (cs[i]).oneCell' = true)
      (hr : ∀ i (h1 : i < l.length) (h2 : i < cs.size), Rel X g w h (l[i]) (cs[i])) : Rel X g w h (.agg l) (.agg cs)
  | ptr (o off : Nat) (hn : o < h.nobj) (hm : g.mp o = false) : Rel X g w h (.ptr o off) (.pointer (some ⟨g.obj o, off, none⟩))
  | mapr (o : Nat) (hn : o < h.nobj) (hm : g.mp o = true) : Rel X g w h (.mapr o) (.map (some (g.obj o)))
  | mapn : Rel X g w h .mapn (.map none)
  | osl (e o off len cap c : Nat) (hn : o < h.nobj) (hm : g.mp o = false) (hc : len ≤ c) (hk : cap ≠ 0 → cap = c) : Rel X g w h (.osl e o off len cap) (.slice (some ⟨g.obj o, off, none⟩) len c)
  | rptr (l : List V) (off b base : Nat) (x : Nat → Value)
      (hc : ∀ i, i < l.length → w.cell? ⟨b, base + i, none⟩ = some (x i))
      (ho : ∀ i, i < l.length → (x i).oneCell' = true)
      (hp : base + l.length ≤ g.pub b)
      (hr : ∀ i (hi : i < l.length), Rel X g w h (l[i]) (x i)) : Rel X g w h (.rptr l off) (.pointer (some ⟨b, base + off, none⟩))
  | nilp : Rel X g w h .nilp (.pointer none)
  | fn (f : Nat) (first cap : List V) (fs cs : Array Value) (h0 : FK f) (hf : first.length = fs.size) (hcl : cap.length = cs.size)
      (hr1 : ∀ i (h1 : i < first.length) (h2 : i < fs.size), Rel X g w h (first[i]) (fs[i]))
      (hr2 : ∀ i (h1 : i < cap.length) (h2 : i < cs.size), Rel X g w h (cap[i]) (cs[i])) :
      Rel X g w h (.fn f first cap) (.func (.func (X.tbl f)) fs cs)
  | nilf : Rel X g w h .nilf .nilFunc
  | tup (l : List V) (cs : Array Value) (hl : l.length = cs.size)
      (hr : ∀ i (h1 : i < l.length) (h2 : i < cs.size), Rel X g w h (l[i]) (cs[i])) : Rel X g w h (.tup l) (.tuple cs)
  | cval (c : Value) : Rel X g w h (.cval c) c
  | tp (o t n : Nat) (hn : o < h.nobj) (hm : g.mp o = false) (hs : w.shape? (g.obj o) = some (t, n)) : Rel X g w h (.tp o t n) (.pointer (some ⟨g.obj o, 0, none⟩))
  | tys (t : Nat) (v : V) (a : Option Addr) (n c : Nat) (r : Rel X g w h v (.slice a n c)) (ht : ∀ b off sp, a = some ⟨b, off, sp⟩ → off = 0 ∧ ∃ k, w.shape? b = some (t, k) ∧ c ≤ k) : Rel X g w h (.tys t v) (.slice a n c)
  | undef (v : Value) : Rel X g w h .undef v

/-- From one moment to a later one. -/
structure Stp (g : Gh) (w : World) (h : AH) (g' : Gh) (w' : World) (h' : AH) : Prop where
  next : h.next ≤ h'.next
  nobj : h.nobj ≤ h'.nobj
  obj : ∀ o, o < h.nobj → g'.obj o = g.obj o
  mp : ∀ o, o < h.nobj → g'.mp o = g.mp o
  pub : ∀ b, g.pub b ≤ g'.pub b
  cell : ∀ b o, o < g.pub b → w'.cell? ⟨b, o, none⟩ = w.cell? ⟨b, o, none⟩
  tip : ∀ s, s < h.next → ∀ e, h'.tips s = some e → h.tips s = some e ∧ g'.tip s = g.tip s ∧ g'.pub (g.tip s) = g.pub (g.tip s)
  row : ∀ s, s < h.next → ∀ e, h'.tips s = some e → ∀ off n, rowAt w (g.tip s) off n → rowAt w' (g.tip s) off n
  shape : ∀ b s, w.shape? b = some s → w'.shape? b = some s

theorem Stp.refl (g : Gh) (w : World) (h : AH) : Stp g w h g w h :=
  ⟨Nat.le_refl _, Nat.le_refl _, fun _ _ => rfl, fun _ _ => rfl, fun _ => Nat.le_refl _, fun _ _ _ => rfl, fun _ _ _ h => ⟨h, rfl, rfl⟩, fun _ _ _ _ _ _ h => h, fun _ _ h => h⟩
theorem Stp.trans {g g1 g2 : Gh} {w w1 w2 : World} {h h1 h2 : AH} (a : Stp g w h g1 w1 h1) (b : Stp g1 w1 h1 g2 w2 h2) : Stp g w h g2 w2 h2 where
  next := Nat.le_trans a.next b.next
  nobj := Nat.le_trans a.nobj b.nobj
  obj o ho := (b.obj o (Nat.lt_of_lt_of_le ho a.nobj)).trans (a.obj o ho)
  mp o ho := (b.mp o (Nat.lt_of_lt_of_le ho a.nobj)).trans (a.mp o ho)
  pub x := Nat.le_trans (a.pub x) (b.pub x)
  cell x o ho := (b.cell x o (Nat.lt_of_lt_of_le ho (a.pub x))).trans (a.cell x o ho)
  tip s hs e he := by
    obtain ⟨h1, h2, h3⟩ := b.tip s (Nat.lt_of_lt_of_le hs a.next) e he
    obtain ⟨k1, k2, k3⟩ := a.tip s hs e h1
    exact ⟨k1, h2.trans k2, by rw [← k3, ← k2, h3]⟩
  row s hs e he off n hr := by
    obtain ⟨h1, h2, h3⟩ := b.tip s (Nat.lt_of_lt_of_le hs a.next) e he
    obtain ⟨k1, k2, k3⟩ := a.tip s hs e h1
    have := a.row s hs e h1 off n hr
    rw [← k2] at this
    have := b.row s (Nat.lt_of_lt_of_le hs a.next) e he off n this
    rwa [k2] at this
  shape x s h := b.shape x s (a.shape x s h)

theorem Rel.stp {X : Cx} {g g' : Gh} {w w' : World} {h h' : AH} (S : Stp g w h g' w' h') {v : V} {x : Value} (r : Rel X g w h v x) : Rel X g' w' h' v x := by
  induction r with
  | bool b => exact .bool b
  | int k n => exact .int k n
  | str s => exact .str s
  | slnil e st hst => exact .slnil e st hst
  | slemp e a => exact .slemp e a
  | sl e st l b off cap x h1 hs hcap he hc ho hp hr h2 h3 ih =>
    refine .sl e st l b off cap x h1 (Nat.lt_of_lt_of_le hs S.next) hcap he (fun i hi => ?_) ho (Nat.le_trans hp (S.pub b)) ih h2 (fun e' he' => ?_)
    · rw [S.cell b (off + i) (by omega)]; exact hc i hi
    · obtain ⟨k1, k2, k3⟩ := S.tip st hs e' he'
      obtain ⟨j1, j2, j3, j4⟩ := h3 e' k1
      refine ⟨j1, by rw [k2]; exact j2, by rw [j2, k3, ← j2]; exact j3, ?_⟩
      rw [j2] at j4 ⊢
      exact S.row st hs e' he' _ _ j4
  | agg l cs hl ho hr ih => exact .agg l cs hl ho ih
  | ptr o off hn hm => rw [← S.obj o hn]; exact .ptr o off (Nat.lt_of_lt_of_le hn S.nobj) ((S.mp o hn).trans hm)
  | mapr o hn hm => rw [← S.obj o hn]; exact .mapr o (Nat.lt_of_lt_of_le hn S.nobj) ((S.mp o hn).trans hm)
  | mapn => exact .mapn
  | osl e o off len cap c hn hm hc hk => rw [← S.obj o hn]; exact .osl e o off len cap c (Nat.lt_of_lt_of_le hn S.nobj) ((S.mp o hn).trans hm) hc hk
  | rptr l off b base x hc ho hp hr ih =>
    refine .rptr l off b base x (fun i hi => ?_) ho (Nat.le_trans hp (S.pub b)) ih
    rw [S.cell b (base + i) (by omega)]; exact hc i hi
  | nilp => exact .nilp
  | fn f first cap fs cs h0 hf hcl hr1 hr2 ih1 ih2 => exact .fn f first cap fs cs h0 hf hcl ih1 ih2
  | nilf => exact .nilf
  | tup l cs hl hr ih => exact .tup l cs hl ih
  | cval c => exact .cval c
  | tp o t n hn hm hs => rw [← S.obj o hn]; exact .tp o t n (Nat.lt_of_lt_of_le hn S.nobj) ((S.mp o hn).trans hm) (by rw [S.obj o hn]; exact S.shape _ _ hs)
  | tys t v a n c r ht ih => exact .tys t v a n c ih (fun b off sp e => by obtain ⟨e1, k, e2, e3⟩ := ht b off sp e; exact ⟨e1, k, S.shape _ _ e2, e3⟩)
  | undef v => exact .undef v

/-- Bounded: it names no stamp and no object from these numbers on. -/
inductive Bdd (n m : Nat) : V → Prop
  | bool (b : Bool) : Bdd n m (.bool b)
  | int (k : IntKind) (i : Int) : Bdd n m (.int k i)
  | str (s : List UInt8) : Bdd n m (.str s)
  | sl (e st : Nat) (l : List V) (hs : st ≤ 2 ∨ st < n) (hl : ∀ v ∈ cellsOf l, Bdd n m v) : Bdd n m (.sl e st l)
  | agg (l : List V) (hl : ∀ v ∈ l, Bdd n m v) : Bdd n m (.agg l)
  | ptr (o off : Nat) (ho : o < m) : Bdd n m (.ptr o off)
  | mapr (o : Nat) (ho : o < m) : Bdd n m (.mapr o)
  | mapn : Bdd n m .mapn
  | osl (e o off len cap : Nat) (ho : o < m) : Bdd n m (.osl e o off len cap)
  | rptr (l : List V) (off : Nat) (hl : ∀ v ∈ l, Bdd n m v) : Bdd n m (.rptr l off)
  | nilp : Bdd n m .nilp
  | fn (f : Nat) (first cap : List V) (h1 : ∀ v ∈ first, Bdd n m v) (h2 : ∀ v ∈ cap, Bdd n m v) : Bdd n m (.fn f first cap)
  | nilf : Bdd n m .nilf
  | tup (l : List V) (hl : ∀ v ∈ l, Bdd n m v) : Bdd n m (.tup l)
  | cval (c : Value) : Bdd n m (.cval c)
  | tp (o t k : Nat) (ho : o < m) : Bdd n m (.tp o t k)
  | tys (t : Nat) (v : V) (hv : Bdd n m v) : Bdd n m (.tys t v)
  | undef : Bdd n m .undef

theorem Rel.bdd {X : Cx} {g : Gh} {w : World} {h : AH} {v : V} {x : Value} (r : Rel X g w h v x) : Bdd h.next h.nobj v := by
  induction r with
  | bool b => exact .bool b
  | int k n => exact .int k n
  | str s => exact .str s
  | slnil e st hst => exact .sl e st _ (.inl (by omega)) (by simp)
  | slemp e a => exact .sl e 0 _ (.inl (by omega)) (by simp)
  | sl e st l b off cap x h1 hs hcap he hc ho hp hr h2 h3 ih =>
    refine .sl e st l (.inr hs) (fun v hv => ?_)
    obtain ⟨i, hi, rfl⟩ := List.getElem_of_mem hv
    exact ih i hi
  | agg l cs hl ho hr ih =>
    refine .agg l (fun v hv => ?_)
    obtain ⟨i, hi, rfl⟩ := List.getElem_of_mem hv
    exact ih i hi (by omega)
  | ptr o off hn hm => exact .ptr o off hn
  | mapr o hn hm => exact .mapr o hn
  | mapn => exact .mapn
  | osl e o off len cap c hn hm hc hk => exact .osl e o off len cap hn
  | rptr l off b base x hc ho hp hr ih =>
    refine .rptr l off (fun v hv => ?_)
    obtain ⟨i, hi, rfl⟩ := List.getElem_of_mem hv
    exact ih i hi
  | nilp => exact .nilp
  | fn f first cap fs cs h0 hf hcl hr1 hr2 ih1 ih2 =>
    refine .fn f first cap (fun v hv => ?_) (fun v hv => ?_)
    · obtain ⟨i, hi, rfl⟩ := List.getElem_of_mem hv; exact ih1 i hi (by omega)
    · obtain ⟨i, hi, rfl⟩ := List.getElem_of_mem hv; exact ih2 i hi (by omega)
  | nilf => exact .nilf
  | tup l cs hl hr ih =>
    refine .tup l (fun v hv => ?_)
    obtain ⟨i, hi, rfl⟩ := List.getElem_of_mem hv
    exact ih i hi (by omega)
  | cval c => exact .cval c
  | tp o t n hn hm hs => exact .tp o t n hn
  | tys t v a n c r ht ih => exact .tys t v ih
  | undef v => exact .undef

/-- In a smaller heap. -/
theorem Rel.shrink {X : Cx} {g : Gh} {w : World} {h h' : AH} (n3 : 3 ≤ h'.next) (ht : ∀ s e, h'.tips s = some e → h.tips s = some e) {v : V} {x : Value} (r : Rel X g w h v x)
    (bd : Bdd h'.next h'.nobj v) : Rel X g w h' v x := by
  induction r with
  | bool b => exact .bool b
  | int k n => exact .int k n
  | str s => exact .str s
  | slnil e st hst => exact .slnil e st hst
  | slemp e a => exact .slemp e a
  | sl e st l b' off cap x h1 hs hcap he hc ho hp hr h2 h3 ih =>
    cases bd with
    | sl _ _ _ hs' hl =>
      refine .sl e st l b' off cap x h1 (by omega) hcap he hc ho hp (fun i hi => ih i hi (hl _ (List.getElem_mem hi))) h2 (fun e' he' => h3 e' (ht _ _ he'))
  | agg l cs hl ho hr ih =>
    cases bd with
    | agg _ hb => exact .agg l cs hl ho (fun i h1 h2 => ih i h1 h2 (hb _ (List.getElem_mem h1)))
  | ptr o off hn hm => cases bd with | ptr _ _ ho => exact .ptr o off ho hm
  | mapr o hn hm => cases bd with | mapr _ ho => exact .mapr o ho hm
  | mapn => exact .mapn
  | osl e o off len cap c hn hm hc hk => cases bd with | osl _ _ _ _ _ ho => exact .osl e o off len cap c ho hm hc hk
  | rptr l off b' base x hc ho hp hr ih =>
    cases bd with
    | rptr _ _ hb => exact .rptr l off b' base x hc ho hp (fun i hi => ih i hi (hb _ (List.getElem_mem hi)))
  | nilp => exact .nilp
  | fn f first cap fs cs h0 hf hcl hr1 hr2 ih1 ih2 =>
    cases bd with
    | fn _ _ _ b1 b2 => exact .fn f first cap fs cs h0 hf hcl (fun i h1 h2 => ih1 i h1 h2 (b1 _ (List.getElem_mem h1))) (fun i h1 h2 => ih2 i h1 h2 (b2 _ (List.getElem_mem h1)))
  | nilf => exact .nilf
  | tup l cs hl hr ih =>
    cases bd with
    | tup _ hb => exact .tup l cs hl (fun i h1 h2 => ih i h1 h2 (hb _ (List.getElem_mem h1)))
  | cval c => exact .cval c
  | tp o t n hn hm hs => cases bd with | tp _ _ _ ho => exact .tp o t n ho hm hs
  | tys t v a n c r ht ih => cases bd with | tys _ _ hv => exact .tys t v a n c (ih hv) ht
  | undef v => exact .undef v

/-- A map's entries lie in its object, in order: each is a pair; a stamp is a place. -/
def MapOk0 (X : Cx) (g : Gh) (w : World) (h : AH) (o : Nat) : Prop := ∃ es : Array MapEntry, w.heap[g.obj o]? = some (.map es es.size) ∧ (h.objs o).length = es.size ∧
  (∀ i (h1 : i < es.size), (es[i]).born = i) ∧ ∀ i (h1 : i < (h.objs o).length) (h2 : i < es.size), Rel X g w h ((h.objs o)[i]) (.tuple #[(es[i]).key, (es[i]).val])
/-- A block of another kind (a loop's record, a block for deferred calls): its number, and values that lie in it. A dead one: -1. -/
def isBk : Obj → Bool
  | .loop _ | .deferred _ => true
  | _ => false
/-- The first loop over a function in code: its parameters, what is done ahead of a round, and the round. -/
def rngC : Code → Option (Array Tmp × Code × Code)
  | .seq a b => match rngC a with
    | some x => some x
    | none => rngC b
  | .cond _ a b => match rngC a with
    | some x => some x
    | none => rngC b
  | .block _ a => rngC a
  | .loop a => rngC a
  | .scope a => rngC a
  | .rangeFunc _ ps a b => some (ps, a, b)
  | _ => none
def rngF (P : Program) (f : Nat) : Option (Array Tmp × Code × Code) := match P.funcs[f]? with
  | some fn => match fn.body with
    | some c => rngC c
    | none => none
  | none => none
/-- A dead one: -1. A block for deferred calls: -2. The record of the loop in function f: 4 f ready, 4 f + 1 done, by a return, 4 f + 3 busy. -/
def stdLp (P : Program) (blk : Nat) (n : Int) (b : Obj) (vs : List Value) : Prop := (n = -1 ∧ vs = []) ∨ match b with
  | .loop r => ∃ f : Nat, vs = .int .i64 blk :: .map (some blk) :: r.tmps.toList ∧ rngF P f = some (r.params, r.assign, r.body) ∧
    (n = 4 * f ∧ r.state = .ready ∧ r.pending = none ∨ n = 4 * f + 1 ∧ r.state = .done ∧ r.pending = some .ret ∨ n = 4 * f + 3 ∧ r.state = .busy ∧ r.pending = none)
  | .deferred d => n = -2 ∧ d = some [] ∧ vs = [.int .i64 blk, .map (some blk)]
  | _ => False
def exoH (c : List V) (n : Int) : Prop := match c with
  | .int _ m :: _ => m = n
  | .undef :: _ => True
  | _ => False
def exoB (c : List V) : Bool := match c with
  | .int _ _ :: _ => true
  | .undef :: _ => true
  | _ => false
def ExoOk (X : Cx) (g : Gh) (w : World) (h : AH) (o : Nat) : Prop := ∃ b n vs, w.heap[g.obj o]? = some b ∧ isBk b = true ∧ stdLp X.P (g.obj o) n b vs ∧ exoH (h.objs o) n ∧
  (h.objs o).length = vs.length + 1 ∧ ∀ i (h1 : i + 1 < (h.objs o).length) (h2 : i < vs.length), Rel X g w h ((h.objs o)[i + 1]) (vs[i])
def MapOk (X : Cx) (g : Gh) (w : World) (h : AH) (o : Nat) : Prop := MapOk0 X g w h o ∨ ExoOk X g w h o
theorem exoB_of {c : List V} {n : Int} (e : exoH c n) : exoB c = true := by
  unfold exoH at e; split at e <;> first | rfl | exact e.elim
theorem MapOk.not {X : Cx} {g : Gh} {w : World} {h : AH} {o : Nat} (m : MapOk X g w h o) (e : exoB (h.objs o) = false) : MapOk0 X g w h o := by
  rcases m with m | ⟨b, n, vs, _, _, _, m, _⟩
  · exact m
  · rw [exoB_of m] at e; cases e
theorem MapOk.stp {X : Cx} {g g' : Gh} {w w' : World} {h h' : AH} {o : Nat} (S : Stp g w h g' w' h') (m : MapOk X g w h o) (ho : g'.obj o = g.obj o) (hw : ∀ (_ : Nat) b, w.heap[g.obj o]? = some b → w'.heap[g.obj o]? = some b) (hh : h'.objs o = h.objs o) : MapOk X g' w' h' o := by
  rcases m with ⟨es, a, b, c, d⟩ | ⟨b, n, vs, a, k, l, e, f, r⟩
  · refine .inl ⟨es, by rw [ho]; exact hw 0 _ a, by rw [hh]; exact b, c, fun i h1 h2 => ?_⟩
    simp only [hh] at h1 ⊢
    exact (d i h1 h2).stp S
  · refine .inr ⟨b, n, vs, by rw [ho]; exact hw 0 _ a, k, by rw [ho]; exact l, by rw [hh]; exact e, by rw [hh]; exact f, fun i h1 h2 => ?_⟩
    simp only [hh] at h1 ⊢
    exact (r i h1 h2).stp S
/-- What holds of world and heap together. -/
structure Inv (X : Cx) (g : Gh) (w : World) (h : AH) : Prop where
  below : Below X.W0.heap.size X.W0 w
  next : 3 ≤ h.next
  objs : ∀ o, o < h.nobj → g.mp o = false → h.objs o ≠ [] → ∃ cs t, w.heap[g.obj o]? = some (.cells cs t (0, 0)) ∧ (h.objs o).length ≤ cs.size ∧
    (∀ i (h2 : i < cs.size), (cs[i]).oneCell' = true) ∧ ∀ i (h1 : i < (h.objs o).length) (h2 : i < cs.size), Rel X g w h ((h.objs o)[i]) (cs[i])
  maps : ∀ o, o < h.nobj → g.mp o = true → MapOk X g w h o
  objL : ∀ {o : Nat}, o < h.nobj → g.obj o < w.heap.size
  objB : ∀ o, o < h.nobj → X.W0.heap.size ≤ g.obj o ∧ (g.mp o = false → h.objs o ≠ [] → g.pub (g.obj o) = 0)
  objI : ∀ o o', o < h.nobj → o' < h.nobj → g.obj o = g.obj o' → o = o'
  tipB : ∀ s e, h.tips s = some e → 3 ≤ s ∧ s < h.next ∧ X.W0.heap.size ≤ g.tip s ∧ g.tip s < w.heap.size
  tipI : ∀ s e s' e', h.tips s = some e → h.tips s' = some e' → g.tip s = g.tip s' → s = s'
  tipO : ∀ o s e, o < h.nobj → h.tips s = some e → g.obj o ≠ g.tip s
  pubB : ∀ b, w.heap.size ≤ b → g.pub b = 0

theorem Stp.drew (g : Gh) (w : World) (h : AH) : Stp g w h g w.drew h :=
  ⟨Nat.le_refl _, Nat.le_refl _, fun _ _ => rfl, fun _ _ => rfl, fun _ => Nat.le_refl _, fun _ _ _ => rfl, fun _ _ _ h => ⟨h, rfl, rfl⟩, fun _ _ _ _ _ _ h => h, fun _ _ h => h⟩
/-- A draw turns nothing. -/
theorem Rel.drew {X : Cx} {g : Gh} {w : World} {h : AH} {v : V} {x : Value} (r : Rel X g w h v x) : Rel X g w.drew h v x := r.stp (Stp.drew g w h)
theorem Inv.drew {X : Cx} {g : Gh} {w : World} {h : AH} (I : Inv X g w h) : Inv X g w.drew h where
  below := I.below.drew
  next := I.next
  objs o ho hm hne := by
    obtain ⟨cs, t, h1, h2, h3, h4⟩ := I.objs o ho hm hne
    exact ⟨cs, t, h1, h2, h3, fun i a b => (h4 i a b).drew⟩
  maps o ho hm := (I.maps o ho hm).stp (Stp.drew g w h) rfl (fun _ _ e => e) rfl
  objL := I.objL
  objB := I.objB
  objI := I.objI
  tipB := I.tipB
  tipI := I.tipI
  tipO := I.tipO
  pubB := I.pubB

end Go.Proofs.Ytajaoldljichaaa.Al
namespace Go.Proofs.Ytajaoldljichaaa.Al
open Go Go.RowKit

abbrev Env := List (Nat × V)
/-- What a call of a function (by its key) does. -/
abbrev Sig := Nat → List V → AH → (V → AH → Prop) → Prop

inductive AO where
  | t (n : Nat)
  | c (v : V)
  deriving Inhabited

/-- A plain field: a number, a string, a bool. -/
inductive EK where
  | i
  | s
  | b
  deriving Inhabited

/-- A map's key: a plain thing, or a struct of plain fields, whatever lies in structs in it. -/
inductive KK where
  | pl (e : EK)
  | st (offs : List (EK × Nat))
  deriving Inhabited
abbrev KK.i : KK := .pl .i
abbrev KK.s : KK := .pl .s
abbrev KK.b : KK := .pl .b

inductive AOp where
  | mv (x : AO)
  | pick (c a b : AO)
  | alloc (z : List V)
  | alct (t n : Nat) (z : List V)
  | box (x : AO)
  | bld (z : List V) (parts : List (Nat × Nat × AO))
  | bsl (e : Nat) (g : Bool) (z : List V) (n : Nat) (parts : List (Nat × AO))
  | load (g : Bool) (n : Nat) (x : AO)
  | store (n : Nat) (x v : AO)
  | nilchk (x : AO)
  | bin (op : BinOp) (x y : AO)
  | beq (neg : Bool) (x y : AO)
  | eqs (neg : Bool) (offs : List (EK × Nat)) (x y : AO)
  | mks (e sz : Nat) (cap : AO)
  | isnil (neg ptr : Bool) (x : AO)
  | un (op : UnOp) (x : AO)
  | conv (k : IntKind) (x : AO)
  | fa (off : Nat) (x : AO)
  | fld (g : Bool) (off n : Nat) (x : AO)
  | ia (e : Nat) (x i : AO)
  | ixs (x i : AO)
  | ext (x : AO) (i : Nat)
  | mkfn (f : Nat) (first cap : List AO)
  | slc (e : Nat) (x : AO) (lo hi : Option AO)
  | slcs (x : AO) (lo hi : Option AO)
  | len (str : Bool) (x : AO)
  | app (e sz : Nat) (x y : AO)
  | mm (mx : Bool) (x y : AO)
  | mkso (e sz : Nat) (z : List V) (len cap : AO)
  | bslo (e : Nat) (g : Bool) (z : List V) (n : Nat) (parts : List (Nat × AO))
  | appo (e sz : Nat) (z : List V) (x y : AO)
  | appg (e sz : Nat) (x y : AO)
  | mkm
  | lkp (e : KK) (z : V) (ok : Bool) (x k : AO)
  | mupd (e : KK) (x k v : AO)
  | ment (e : KK) (z : V) (x k : AO)
  | mest (x s v : AO)
  | mlen (x : AO)
  | s2b (x : AO)
  | apps (t : Nat) (x y : AO)
  | mkif (t : Nat) (x : AO)
  | call (f : AO) (args : List AO)
  deriving Inhabited

/-- In a region whose order is open: plain, turning the heap, or a load that may float. -/
inductive DK where
  | pl
  | eff
  | fl
  | efo
  deriving Inhabited

structure AOper where
  dst : Option Nat
  gd : Option (Nat × Bool)
  op : AOp
  deriving Inhabited

inductive AC where
  | skip
  | ret
  | exit (n : Nat)
  | seq (a b : AC)
  | cond (c : AO) (a b : AC)
  | block (n : Nat) (a : AC)
  | loop (a : AC)
  | scope (a : AC)
  | reg (l : List AOper)
  | draw (l : List (DK × AOper))
  | drawP (l : List (DK × AOper))
  | keep (l : List Nat) (a : AC)
  | post (a : AC) (l : List Nat)
  deriving Inhabited

/-- ntmps, the results' slots (and, where a result lies in memory, whether it is a struct, and its cells), the body. -/
structure AFn where
  n : Nat
  res : List (Nat × Option (Bool × Nat))
  body : AC
  deriving Inhabited

/-! ### The heap -/
def updN {α : Type} (f : Nat → α) (i : Nat) (x : α) : Nat → α := fun j => if j = i then x else f j
theorem updN_same {α : Type} (f : Nat → α) (i : Nat) (x : α) : updN f i x i = x := by simp [updN]
theorem updN_ne {α : Type} (f : Nat → α) {i j : Nat} (x : α) (h : j ≠ i) : updN f i x j = f j := by simp [updN, h]
def AH.new (h : AH) (z : List V) : AH := { h with objs := updN h.objs h.nobj z, nobj := h.nobj + 1 }
def AH.set (h : AH) (o : Nat) (z : List V) : AH := { h with objs := updN h.objs o z }
def AH.grow (h : AH) (e : Nat) : AH := { h with tips := updN h.tips h.next (some e), next := h.next + 1 }
def AH.drop (h : AH) (st : Nat) : AH := { h with tips := updN h.tips st none }
def AH.push (h : AH) (st e : Nat) : AH := if st ≤ 2 then h.grow e else (h.drop st).grow e

/-! ### Operations -/
def V.good : V → Bool
  | .tup _ | .undef | .cval _ => false
  | _ => true
def setAt : List V → Nat → List V → List V
  | cs, _, [] => cs
  | cs, off, v :: r => setAt (cs.set off v) (off + 1) r
def fillV : List V → List (Nat × Nat × V) → Option (List V)
  | cs, [] => some cs
  | cs, (off, size, v) :: r => if v.cells.length = size ∧ off + size ≤ cs.length ∧ v.good = true then fillV (setAt cs off v.cells) r else none
def fillL (e : Nat) (g : Bool) : List V → List (Nat × V) → Option (List V)
  | l, [] => some l
  | l, (i, v) :: r => if v.cells.length = e ∧ i < l.length ∧ v.good = true ∧ v.isAgg = g then fillL e g (l.set i v) r else none
def loadC (g : Bool) (n : Nat) (c : List V) (off : Nat) (K : V → Prop) : Prop :=
  match g with
  | true => off + n ≤ c.length ∧ K (.agg ((c.drop off).take n))
  | false => off < c.length ∧ K (c.getD off .undef)
def bitAnd (k : IntKind) (x y : Int) : Int := k.wrap (BitVec.ofInt k.bits x &&& BitVec.ofInt k.bits y).toNat
def bitOr (k : IntKind) (x y : Int) : Int := k.wrap (BitVec.ofInt k.bits x ||| BitVec.ofInt k.bits y).toNat
def bitXor (k : IntKind) (x y : Int) : Int := k.wrap (BitVec.ofInt k.bits x ^^^ BitVec.ofInt k.bits y).toNat
def bitAndNot (k : IntKind) (x y : Int) : Int := k.wrap (BitVec.ofInt k.bits x &&& ~~~ BitVec.ofInt k.bits y).toNat
/-- Whole numbers of one kind. -/
def binI (op : BinOp) (k : IntKind) (x y : Int) (K : V → Prop) : Prop :=
  match op with
  | .add => K (.int k (k.wrap (x + y)))
  | .sub => K (.int k (k.wrap (x - y)))
  | .mul => K (.int k (k.wrap (x * y)))
  | .quo => y ≠ 0 ∧ K (.int k (k.wrap (x.tdiv y)))
  | .rem => y ≠ 0 ∧ K (.int k (x.tmod y))
  | .and => K (.int k (bitAnd k x y))
  | .or => K (.int k (bitOr k x y))
  | .xor => K (.int k (bitXor k x y))
  | .andNot => K (.int k (bitAndNot k x y))
  | .eql => K (.bool (decide (x = y)))
  | .neq => K (.bool (!decide (x = y)))
  | .lss => K (.bool (decide (x < y)))
  | .leq => K (.bool (decide (x ≤ y)))
  | .gtr => K (.bool (decide (y < x)))
  | .geq => K (.bool (decide (y ≤ x)))
  | _ => False
def shI (op : BinOp) (k : IntKind) (x y : Int) (K : V → Prop) : Prop :=
  match op with
  | .shl => 0 ≤ y ∧ K (.int k (k.wrap (x * 2 ^ (min y.toNat k.bits))))
  | .shr => 0 ≤ y ∧ K (.int k (x.fdiv (2 ^ (min y.toNat k.bits))))
  | _ => False
def binS (op : BinOp) (s t : List UInt8) (K : V → Prop) : Prop :=
  match op with
  | .add => s.length + t.length ≤ 2 ^ 60 ∧ K (.str (s ++ t))
  | .eql => K (.bool (decide (s = t)))
  | .neq => K (.bool (!decide (s = t)))
  | .lss => K (.bool (Op.bytesLess s t))
  | .leq => K (.bool (Op.bytesLess s t || decide (s = t)))
  | .gtr => K (.bool !(Op.bytesLess s t || decide (s = t)))
  | .geq => K (.bool !(Op.bytesLess s t))
  | _ => False
def isShift : BinOp → Bool
  | .shl | .shr => true
  | _ => false
def appK (e sz e1 st : Nat) (l : List V) (e2 : Nat) (m : List V) (h : AH) (K : V → AH → Prop) : Prop :=
  (m = [] → K (.sl e1 st l) h) ∧
  (m ≠ [] → (st = 1 ∨ st = 2 ∨ h.tips st = some e) ∧ (l = [] ∨ e1 = e) ∧ e2 = e ∧ (l.length + m.length) * sz ≤ 2 ^ 46 ∧ K (.sl e h.next (l ++ m)) (h.push st e))
def bytesV (s : List UInt8) : List V := s.map fun b => .int .u8 b.toNat
def nilK (neg : Bool) (st : Nat) (l : List V) (K : Bool → Prop) : Prop :=
  if st = 1 then K (!neg) else if st = 0 then (l = [] → K true ∧ K false) ∧ (l ≠ [] → K neg) else K neg
def slcK (l : List V) (st : Nat) (lo hi : Int) (K : List V → Nat → Prop) : Prop :=
  0 ≤ lo ∧ lo ≤ hi ∧ hi ≤ l.length ∧ K ((l.take hi.toNat).drop lo.toNat) (if st = 1 then 1 else 0)
/-- A bound of a slice expression. -/
def bnd (ρ : AO → V) (d : Int) : Option AO → Option Int
  | none => some d
  | some x => match ρ x with
    | .int _ n => some n
    | _ => none

def eqLeaf : EK → V → V → Option Bool
  | .i, .int k a, .int k' b => if k = k' then some (decide (a = b)) else none
  | .s, .str a, .str b => some (decide (a = b))
  | .b, .bool a, .bool b => some (decide (a = b))
  | _, _, _ => none
/-- Equality of structs of plain fields. -/
def eqL (l m : List V) : List (EK × Nat) → Option Bool
  | [] => some true
  | o :: r => match eqLeaf o.1 (l.getD o.2 .undef) (m.getD o.2 .undef), eqL l m r with
    | some b, some c => some (b && c)
    | _, _ => none

/-- So many zeros, cell by cell. -/
def repl (z : List V) (n : Nat) : List V := cellsOf (List.replicate n (.agg z))
/-- What a slice holds: cells of an element, elements, cells. -/
def V.held (h : AH) : V → Option (Nat × Nat × List V)
  | .sl e _ l => some (e, l.length, cellsOf l)
  | .osl e o off len _ => if off + len * e ≤ (h.objs o).length then some (e, len, ((h.objs o).drop off).take (len * e)) else none
  | _ => none
/-- An append to a slice that lies in an object, or shall. -/
def appoK (e sz : Nat) (_z : List V) (x : V) (y : Option (Nat × Nat × List V)) (h : AH) (K : V → AH → Prop) : Prop :=
  match y with
  | none => False
  | some (ey, m, mc) => match x with
    | .sl _ st l => (st = 1 ∨ st = 2) ∧ l = [] ∧ (m = 0 → K x h) ∧ (m ≠ 0 → ey = e ∧ m * sz ≤ 2 ^ 46 ∧ K (.osl e h.nobj 0 m 0) (h.new mc))
    | .osl e1 o off len cap => (m = 0 → K x h) ∧ (m ≠ 0 → ey = e ∧ e1 = e ∧ off + cap * e ≤ (h.objs o).length ∧ (len + m) * sz ≤ 2 ^ 46 ∧
        len + m ≤ cap ∧ K (.osl e o off (len + m) cap) (h.set o (setAt (h.objs o) (off + len * e) mc)))
    | _ => False
/-- An append to a slice in an object, whose room is known; where there is none, to one of any room. -/
def appgK (e sz : Nat) (x : V) (y : Option (Nat × Nat × List V)) (h : AH) (K : V → AH → Prop) : Prop :=
  match y with
  | none => False
  | some (ey, m, mc) => match x with
    | .sl _ st l => m ≠ 0 ∧ ey = e ∧ (st = 1 ∨ st = 2) ∧ l = [] ∧ m * sz ≤ 2 ^ 46 ∧ ∀ c, m ≤ c → K (.osl e h.nobj 0 m c) (h.new (mc ++ List.replicate ((c - m) * e) .undef))
    | .osl e1 o off len cap => m ≠ 0 ∧ ey = e ∧ e1 = e ∧ cap ≠ 0 ∧ off + cap * e ≤ (h.objs o).length ∧ (len + m) * sz ≤ 2 ^ 46 ∧
        (len + m ≤ cap → K (.osl e o off (len + m) cap) (h.set o (setAt (h.objs o) (off + len * e) mc))) ∧
        (cap < len + m → ∀ c, len + m ≤ c → K (.osl e h.nobj 0 (len + m) c) (h.new (((h.objs o).drop off).take (len * e) ++ mc ++ List.replicate ((c - (len + m)) * e) .undef)))
    | _ => False
def eqKey : KK → V → V → Option Bool
  | .pl e, a, b => eqLeaf e a b
  | .st offs, .agg l, .agg m => if l.length = offs.length ∧ m.length = offs.length then eqL l m offs else none
  | _, _, _ => none
/-- A struct as a key has its fields. -/
def stOk : KK → V → Bool
  | .pl _, _ => true
  | .st offs, key => (eqKey (.st offs) key key).isSome
@[simp] theorem stOk_pl (e : EK) (key : V) : stOk (.pl e) key = true := rfl
/-- Where a key stands among entries, and what stands there. -/
def findE (e : KK) (key : V) : List V → Nat → Option (Option (Nat × V))
  | [], _ => if stOk e key then some none else none
  | .tup [k, v] :: r, i => match eqKey e key k with
    | some true => some (some (i, v))
    | some false => findE e key r (i + 1)
    | none => none
  | _ :: _, _ => none
def lkpV (z : V) : Bool → Option (Nat × V) → V
  | true, some (_, v) => .tup [v, .bool true]
  | true, none => .tup [z, .bool false]
  | false, some (_, v) => v
  | false, none => z
def keyOfE : V → V
  | .tup [k, _] => k
  | _ => .undef
def lkpK (e : KK) (z : V) (ok : Bool) (x key : V) (h : AH) (K : V → AH → Prop) : Prop := match x with
  | .mapr o => match findE e key (h.objs o) 0 with
    | some r => K (lkpV z ok r) h
    | none => False
  | .mapn => match findE e key [] 0 with
    | some r => K (lkpV z ok r) h
    | none => False
  | _ => False
def mupK (e : KK) (x key v : V) (h : AH) (K : V → AH → Prop) : Prop := match x with
  | .mapr o => match findE e key (h.objs o) 0 with
    | some (some (i, _)) => K (.tup []) (h.set o ((h.objs o).set i (.tup [key, v])))
    | some none => K (.tup []) (h.set o (h.objs o ++ [.tup [key, v]]))
    | none => False
  | _ => False
def mentK (e : KK) (z x key : V) (h : AH) (K : V → AH → Prop) : Prop := match x with
  | .mapr o => match findE e key (h.objs o) 0 with
    | some (some (i, v)) => K (.tup [v, .int .i64 i]) (h.set o ((h.objs o).set i (.tup [key, v])))
    | some none => K (.tup [z, .int .i64 (h.objs o).length]) (h.set o (h.objs o ++ [.tup [key, z]]))
    | none => False
  | _ => False
def mestK (x s v : V) (h : AH) (K : V → AH → Prop) : Prop := match x, s with
  | .mapr o, .int .i64 i => 0 ≤ i ∧ i < (h.objs o).length ∧ exoB (h.objs o) = false ∧ K (.tup []) (h.set o ((h.objs o).set i.toNat (.tup [keyOfE ((h.objs o).getD i.toNat .undef), v])))
  | _, _ => False
def mlenK (x : V) (h : AH) (K : V → AH → Prop) : Prop := match x with
  | .mapr o => exoB (h.objs o) = false ∧ K (.int .i64 (h.objs o).length) h
  | .mapn => K (.int .i64 0) h
  | _ => False
/-- The key of a loop's yield: of the block of its record. -/
def YK : Nat := 1000000
def yldOf : Value → Option Nat
  | .func (.yield l) ⟨[]⟩ ⟨[]⟩ => some l
  | _ => none
def yldK (c : Value) (K : Nat → Prop) : Prop := match yldOf c with
  | some l => K l
  | none => False
def AOp.wp (E : Sig) (ρ : AO → V) (h : AH) (K : V → AH → Prop) : AOp → Prop
  | .mv x => K (ρ x) h
  | .pick c a b => match ρ c with
    | .bool t => (t = true → K (ρ a) h) ∧ (t = false → K (ρ b) h)
    | _ => False
  | .alloc z => K (.ptr h.nobj 0) (h.new z)
  | .alct t n z => K (.tp h.nobj t n) (h.new z)
  | .box x => (ρ x).good = true ∧ K (.ptr h.nobj 0) (h.new (ρ x).cells)
  | .bld z parts => match fillV z (parts.map fun p => (p.1, p.2.1, ρ p.2.2)) with
    | some cs => K (.agg cs) h
    | none => False
  | .bsl e g z n parts => match fillL e g (List.replicate n (if g then .agg z else z.headD .undef)) (parts.map fun p => (p.1, ρ p.2)) with
    | some l => K (.sl e 2 l) h
    | none => False
  | .load g n x => match ρ x with
    | .ptr o off => loadC g n (h.objs o) off (fun v => K v h)
    | .rptr l off => loadC g n l off (fun v => K v h)
    | _ => False
  | .store n x v => match ρ x with
    | .ptr o off => (ρ v).cells.length = n ∧ (ρ v).good = true ∧ off + n ≤ (h.objs o).length ∧ K (.tup []) (h.set o (setAt (h.objs o) off (ρ v).cells))
    | _ => False
  | .nilchk x => match ρ x with
    | .ptr o off => K (.ptr o off) h
    | .rptr l off => K (.rptr l off) h
    | .fn f a b => K (.fn f a b) h
    | .tp o t n => K (.tp o t n) h
    | _ => False
  | .bin op x y => match ρ x, ρ y with
    | .int k a, .int k' b => if isShift op then shI op k a b (fun v => K v h) else k = k' ∧ binI op k a b (fun v => K v h)
    | .str s, .str t => binS op s t (fun v => K v h)
    | _, _ => False
  | .beq neg x y => match ρ x, ρ y with
    | .bool a, .bool b => K (.bool (xor neg (decide (a = b)))) h
    | _, _ => False
  | .eqs neg offs x y => match ρ x, ρ y with
    | .agg l, .agg m => match eqL l m offs with
      | some b => K (.bool (xor neg b)) h
      | none => False
    | _, _ => False
  | .mks e sz cap => match ρ cap with
    | .int .i64 n => 0 ≤ n ∧ n * sz ≤ 2 ^ 46 ∧ K (.sl e h.next []) (h.push 2 e)
    | _ => False
  | .isnil neg false x => match ρ x with
    | .sl _ st l => nilK neg st l (fun b => K (.bool b) h)
    | .osl .. => K (.bool neg) h
    | _ => False
  | .isnil neg true x => match ρ x with
    | .nilp => K (.bool !neg) h
    | .ptr _ _ => K (.bool neg) h
    | .rptr _ _ => K (.bool neg) h
    | _ => False
  | .un op x => match op, ρ x with
    | .not, .bool b => K (.bool !b) h
    | .neg, .int k n => K (.int k (k.wrap (0 - n))) h
    | .xor, .int k n => binI .xor k (if k.signed then -1 else k.max) n (fun v => K v h)
    | _, _ => False
  | .conv k x => match ρ x with
    | .int _ n => K (.int k (k.wrap n)) h
    | _ => False
  | .fa off x => match ρ x with
    | .ptr o f => K (.ptr o (f + off)) h
    | .rptr l f => K (.rptr l (f + off)) h
    | .tp o _ _ => K (.ptr o off) h
    | _ => False
  | .fld g off n x => match ρ x with
    | .agg l => loadC g n l off (fun v => K v h)
    | _ => False
  | .ia e x i => match ρ x, ρ i with
    | .sl e' _ l, .int _ n => e' = e ∧ 0 ≤ n ∧ n < l.length ∧ K (.rptr (l.getD n.toNat .undef).cells 0) h
    | .osl e' o off ln _, .int _ n => e' = e ∧ 0 ≤ n ∧ n < ln ∧ K (.ptr o (off + n.toNat * e)) h
    | _, _ => False
  | .ixs x i => match ρ x, ρ i with
    | .str s, .int _ n => 0 ≤ n ∧ n < s.length ∧ K (.int .u8 (s.getD n.toNat 0).toNat) h
    | _, _ => False
  | .ext x i => match ρ x with
    | .tup l => i < l.length ∧ K (l.getD i .undef) h
    | _ => False
  | .mkfn f first cap => K (.fn f (first.map ρ) (cap.map ρ)) h
  | .slc e x lo hi => match ρ x with
    | .sl e' st l => match bnd ρ 0 lo, bnd ρ l.length hi with
      | some a, some b => (l = [] ∨ e' = e) ∧ slcK l st a b (fun m st' => K (.sl e' st' m) h)
      | _, _ => False
    | .osl e' o off ln cp => match bnd ρ 0 lo, bnd ρ ln hi with
      | some a, some b => e' = e ∧ 0 ≤ a ∧ a ≤ b ∧ b ≤ cp ∧ K (.osl e o (if cp = a.toNat then off else off + a.toNat * e) (b.toNat - a.toNat) (cp - a.toNat)) h
      | _, _ => False
    | _ => False
  | .slcs x lo hi => match ρ x with
    | .str s => match bnd ρ 0 lo, bnd ρ s.length hi with
      | some a, some b => 0 ≤ a ∧ a ≤ b ∧ b ≤ s.length ∧ K (.str ((s.take b.toNat).drop a.toNat)) h
      | _, _ => False
    | _ => False
  | .len false x => match ρ x with
    | .sl _ _ l => K (.int .i64 l.length) h
    | .osl _ _ _ ln _ => K (.int .i64 ln) h
    | .tys _ (.sl _ _ l) => K (.int .i64 l.length) h
    | _ => False
  | .len true x => match ρ x with
    | .str s => K (.int .i64 s.length) h
    | _ => False
  | .app e sz x y => match ρ x, ρ y with
    | .sl e1 st l, .sl e2 _ m => appK e sz e1 st l e2 m h K
    | _, _ => False
  | .mm mx x y => match ρ x, ρ y with
    | .int k a, .int k' b => k = k' ∧ K (.int k (if mx then max a b else min a b)) h
    | _, _ => False
  | .mkso e sz z ln cp => match ρ ln, ρ cp with
    | .int .i64 a, .int .i64 c => 0 ≤ a ∧ a ≤ c ∧ c * sz ≤ 2 ^ 46 ∧ K (.osl e h.nobj 0 a.toNat c.toNat) (h.new (repl z c.toNat))
    | _, _ => False
  | .bslo e g z n parts => match fillL e g (List.replicate n (if g then .agg z else z.headD .undef)) (parts.map fun p => (p.1, ρ p.2)) with
    | some l => K (.osl e h.nobj 0 n n) (h.new (cellsOf l))
    | none => False
  | .appo e sz z x y => appoK e sz z (ρ x) ((ρ y).held h) h K
  | .appg e sz x y => appgK e sz (ρ x) ((ρ y).held h) h K
  | .mkm => K (.mapr h.nobj) (h.new [])
  | .lkp e z ok x k => lkpK e z ok (ρ x) (ρ k) h K
  | .mupd e x k v => mupK e (ρ x) (ρ k) (ρ v) h K
  | .ment e z x k => mentK e z (ρ x) (ρ k) h K
  | .mest x s v => mestK (ρ x) (ρ s) (ρ v) h K
  | .mlen x => mlenK (ρ x) h K
  | .s2b x => match ρ x with
    | .str s => K (.sl 1 0 (bytesV s)) h
    | _ => False
  | .apps t x y => match ρ x, ρ y with
    | .sl e1 1 [], .str s => (s = [] → K (.sl e1 1 []) h) ∧ (s ≠ [] → s.length ≤ 2 ^ 46 ∧ K (.tys t (.sl 1 h.next (bytesV s))) (h.push 1 1))
    | .tys t' (.sl e1 st l), .str s => t' = t ∧ appK 1 1 e1 st l 1 (bytesV s) h (fun v h' => K (.tys t v) h')
    | _, _ => False
  | .mkif t x => match ρ x with
    | .int k n => K (.cval (.iface t (.int k n))) h
    | _ => False
  | .call f args => match ρ f with
    | .fn k first cap => E k (first ++ args.map ρ ++ cap) h K
    | .cval c => yldK c fun l => E (YK + l) (args.map ρ) h K
    | _ => False

/-! ### Code -/
def get : Env → Nat → V
  | [], _ => .undef
  | (i, v) :: r, n => if n = i then v else get r n
def ev (env : Env) : AO → V
  | .t n => get env n
  | .c v => v
def put (env : Env) : Option Nat → V → Env
  | none, _ => env
  | some d, v => (d, v) :: env
def gdP : Option (Nat × Bool) → Env → Prop → Prop → Prop
  | none, _, A, _ => A
  | some (s, t), env, A, B => match get env s with
    | .bool b => (b = t → A) ∧ (b ≠ t → B)
    | .tup [] => B
    | _ => False

def awpOps (E : Sig) : List AOper → Env → AH → (Env → AH → Prop) → Prop
  | [], env, h, K => K env h
  | o :: r, env, h, K =>
    gdP o.gd env (o.op.wp E (ev env) h fun v h' => awpOps E r (put env o.dst v) h' K) (awpOps E r (put env o.dst (.tup [])) h K)

/-- It answers v, and leaves the heap. -/
def AOp.quiet (E : Sig) (o : AOp) (ρ : AO → V) (v : V) (h : AH) : Prop := o.wp E ρ h fun v' h' => v' = v ∧ h' = h
/-- A region whose order is open: each operation has one answer; only the marked ones turn the heap; a load that floats answers alike in every heap of the region (H: those that were, L: what the later ones owe), but for those behind a turn that stands behind it by edges (efo). -/
def awpD (E : Sig) : List (DK × AOper) → Env → AH → List AH → List (AH → Prop) → (Env → AH → Prop) → Prop
  | [], env, h, _, _, K => K env h
  | (.pl, o) :: r, env, h, H, L, K =>
    gdP o.gd env (∃ v, o.op.quiet E (ev env) v h ∧ awpD E r (put env o.dst v) h H L K) (awpD E r (put env o.dst (.tup [])) h H L K)
  | (.eff, o) :: r, env, h, H, L, K =>
    gdP o.gd env (∃ v h', o.op.wp E (ev env) h (fun v' h'' => v' = v ∧ h'' = h') ∧ (∀ c ∈ L, c h') ∧ awpD E r (put env o.dst v) h' (h :: H) L K) (awpD E r (put env o.dst (.tup [])) h H L K)
  | (.fl, o) :: r, env, h, H, L, K =>
    gdP o.gd env (∃ v, o.op.quiet E (ev env) v h ∧ (∀ h' ∈ H, o.op.quiet E (ev env) v h') ∧ awpD E r (put env o.dst v) h H (o.op.quiet E (ev env) v :: L) K) (awpD E r (put env o.dst (.tup [])) h H L K)
  | (.efo, o) :: r, env, h, H, L, K =>
    gdP o.gd env (∃ v h', o.op.wp E (ev env) h (fun v' h'' => v' = v ∧ h'' = h') ∧ awpD E r (put env o.dst v) h' (h :: H) [] K) (awpD E r (put env o.dst (.tup [])) h H L K)

inductive Ex where
  | nrm
  | ret
  | exit (n : Nat)

def iter (f : Env → AH → (Ex → Env → AH → Prop) → Prop) : Nat → Env → AH → (Ex → Env → AH → Prop) → Prop
  | 0, _, _, _ => False
  | n + 1, env, h, Q => f env h fun e env' h' => match e with
    | .nrm => iter f n env' h' Q
    | .ret => Q .ret env' h'
    | .exit m => Q (.exit m) env' h'

def keepE (l : List Nat) (env : Env) : Env := l.map fun i => (i, get env i)

def awp (E : Sig) : AC → Env → AH → (Ex → Env → AH → Prop) → Prop
  | .skip, env, h, Q => Q .nrm env h
  | .ret, env, h, Q => Q .ret env h
  | .exit n, env, h, Q => Q (.exit n) env h
  | .seq a b, env, h, Q => awp E a env h fun e env' h' => match e with
    | .nrm => awp E b env' h' Q
    | .ret => Q .ret env' h'
    | .exit m => Q (.exit m) env' h'
  | .cond c a b, env, h, Q => match ev env c with
    | .bool t => (t = true → awp E a env h Q) ∧ (t = false → awp E b env h Q)
    | _ => False
  | .block n a, env, h, Q => awp E a env h fun e env' h' => match e with
    | .nrm => Q .nrm env' h'
    | .ret => Q .ret env' h'
    | .exit m => if m = n then Q .nrm env' h' else Q (.exit m) env' h'
  | .loop a, env, h, Q => ∃ n, iter (awp E a) n env h Q
  | .scope a, env, h, Q => awp E a env h Q
  | .reg l, env, h, Q => awpOps E l env h (Q .nrm)
  | .draw l, env, h, Q => awpD E l env h [] [] (Q .nrm)
  | .drawP l, env, h, _ => awpD E l env h [] [] (fun _ _ => True)
  | .keep l a, env, h, Q => awp E a (keepE l env) h Q
  | .post a l, env, h, Q => awp E a env h fun e env' h' => match e with
    | .nrm => Q .nrm (keepE l env') h'
    | .ret => Q .ret env' h'
    | .exit m => Q (.exit m) env' h'

def initEnv : Nat → List V → Env
  | _, [] => []
  | i, v :: r => (i, v) :: initEnv (i + 1) r
def tupV : List V → V
  | [v] => v
  | l => .tup l
/-- The results, read behind the body. -/
def resP (env : Env) (h : AH) : List (Nat × Option (Bool × Nat)) → List V → (V → Prop) → Prop
  | [], acc, K => K (tupV acc.reverse)
  | (s, none) :: r, acc, K => resP env h r (get env s :: acc) K
  | (s, some (g, n)) :: r, acc, K => match get env s with
    | .ptr o off => loadC g n (h.objs o) off fun v => resP env h r (v :: acc) K
    | _ => False
def afn (E : Sig) (f : AFn) (args : List V) (h : AH) (Q : V → AH → Prop) : Prop :=
  args.length ≤ f.n ∧ awp E f.body (initEnv 0 args) h fun e env h' => match e with
    | .nrm => resP env h' f.res [] fun v => Q v h'
    | .ret => resP env h' f.res [] fun v => Q v h'
    | .exit _ => False

/-- The body of key k is f. -/
def Has (E : Sig) (k : Nat) (f : AFn) : Prop := ∀ args h Q, afn E f args h Q → E k args h Q

end Go.Proofs.Ytajaoldljichaaa.Al
namespace Go.Proofs.Ytajaoldljichaaa.Al
open Go Go.RowKit

def leafV : Value → Option V
  | .bool b => some (.bool b)
  | .int k n => some (.int k n)
  | .string s => some (.str s.data.toList)
  | .pointer none => some .nilp
  | .slice none 0 0 => some (.sl 0 1 [])
  | .nilFunc => some .nilf
  | .map none => some .mapn
  | .nilIface => some (.cval .nilIface)
  | _ => none
def leafVs : List Value → Option (List V)
  | [] => some []
  | v :: r => match leafV v, leafVs r with
    | some a, some b => some (a :: b)
    | _, _ => none
def constV : Value → Option V
  | .agg cs => (leafVs cs.toList).map .agg
  | v => leafV v

/-- How functions are named here. -/
structure Keys where
  tbl : Nat → Nat
  key : Nat → Nat
  eff : Nat → Bool
  om : Nat → Bool

section
variable (P : Program) (Y : Keys)

def tyAgg (t : TypeId) : Option Bool :=
  match P.underlying t with
  | some (.struct _) | some (.array ..) => some true
  | some _ => some false
  | none => none
def tySize (t : TypeId) : Option Nat := match P.info? t with
  | some i => some i.size
  | none => none
def tyBytes (t : TypeId) : Option Nat := match P.info? t with
  | some i => some i.bytes
  | none => none
def tyZero (t : TypeId) : Option (List V) := match P.info? t with
  | some i => match i.zero with
    | some z => match leafVs z.cells.toList with
      | some l => if z.cells.all (·.oneCell') then some l else none
      | none => none
    | none => none
  | none => none
def tyZeroV (t : TypeId) : Option V := match P.info? t with
  | some i => match i.zero with
    | some z => constV z
    | none => none
  | none => none
def tyElem (t : TypeId) : Option TypeId := match P.underlying t with
  | some (.slice e) => some e
  | _ => none

def fnKey (f : Nat) : Option Nat := if Y.tbl (Y.key f) = f ∧ FK (Y.key f) then some (Y.key f) else none

def co : Operand → Option AO
  | .tmp n => some (.t n)
  | .const v => match constV v with
    | some a => some (.c a)
    | none => none
  | .func f => match fnKey Y f with
    | some k => some (.c (.fn k [] []))
    | none => none
  | .global _ => some (.c .undef)
def cos : List Operand → Option (List AO)
  | [] => some []
  | x :: r => match co Y x, cos r with
    | some a, some b => some (a :: b)
    | _, _ => none
def coo : Option Operand → Option (Option AO)
  | none => some none
  | some x => match co Y x with
    | some a => some (some a)
    | none => none

def partsS (places : List (Nat × Nat)) : List (Nat × Operand) → Option (List (Nat × Nat × AO))
  | [] => some []
  | (i, x) :: r => match places[i]?, co Y x, partsS places r with
    | some p, some a, some b => some ((p.1, p.2, a) :: b)
    | _, _, _ => none
def partsL : List (Nat × Operand) → Option (List (Nat × AO))
  | [] => some []
  | (i, x) :: r => match co Y x, partsL r with
    | some a, some b => some ((i, a) :: b)
    | _, _ => none

def isNilS : Operand → Bool
  | .const (.slice none 0 0) => true
  | _ => false
def isNilP : Operand → Bool
  | .const (.pointer none) => true
  | _ => false

def ekOf (t : TypeId) : Option EK := match P.underlying t with
  | some (.int _) => some .i
  | some .string => some .s
  | some .bool => some .b
  | _ => none
/-- A struct's plain fields from a place on, and those of structs in it. -/
def eqOffs1 (sub : Nat → Nat → TypeId → Option (List (EK × Nat))) (base lim : Nat) : List Field → Option (List (EK × Nat))
  | [] => some []
  | f :: r => if f.name == "_" then none else
    match (match ekOf P f.type with
      | some k => if base + f.offset < lim then some [(k, base + f.offset)] else none
      | none => match tySize P f.type with
        | some s => if base + f.offset + s ≤ lim then sub (base + f.offset) (base + f.offset + s) f.type else none
        | none => none), eqOffs1 sub base lim r with
    | some a, some b => some (a ++ b)
    | _, _ => none
def eqSub : Nat → Nat → Nat → TypeId → Option (List (EK × Nat))
  | 0, _, _, _ => none
  | n + 1, base, lim, t => match P.underlying t with
    | some (.struct fs) => if P.stoodInHeld t then none else eqOffs1 P (eqSub n) base lim fs.toList
    | _ => none
def eqOffs (t : TypeId) : Option (List (EK × Nat)) := match tySize P t with
  | some s => eqSub P 4 0 s t
  | none => none
def kkOf (t : TypeId) : Option KK := match ekOf P t with
  | some e => some (.pl e)
  | none => match eqOffs P t with
    | some offs => if offs.map (·.2) = List.range offs.length then some (.st offs) else none
    | none => none
def compEqs (neg : Bool) (t : TypeId) (_fields : Array Field) (a b : AO) : Option AOp :=
  if P.eqGuardType P.depth t || P.stoodInHeld t then none else match eqOffs P t with
    | some l => some (.eqs neg l a b)
    | none => none

def compBin (op : BinOp) (t : TypeId) (x y : Operand) : Option AOp :=
  match op, isNilS y || isNilP y with
  | .eql, true => match P.underlying t, co Y x with
    | some (.slice _), some a => if isNilS y then some (.isnil false false a) else none
    | some (.pointer _), some a => if isNilP y then some (.isnil false true a) else none
    | _, _ => none
  | .neq, true => match P.underlying t, co Y x with
    | some (.slice _), some a => if isNilS y then some (.isnil true false a) else none
    | some (.pointer _), some a => if isNilP y then some (.isnil true true a) else none
    | _, _ => none
  | _, _ => match P.underlying t, co Y x, co Y y with
    | some (.int _), some a, some b => some (.bin op a b)
    | some .string, some a, some b => some (.bin op a b)
    | some .bool, some a, some b => match op with
      | .eql => some (.beq false a b)
      | .neq => some (.beq true a b)
      | _ => none
    | some (.struct fields), some a, some b => match op with
      | .eql => compEqs P false t fields a b
      | .neq => compEqs P true t fields a b
      | _ => none
    | _, _, _ => none

def compCall (md gr : Bool) (c : Call) : Option AOp :=
  match c.callee with
  | .value f => match co Y f, cos Y c.args.toList with
    | some a, some l => some (.call a l)
    | _, _ => none
  | .builtin .len => match c.args.toList, c.argTypes.toList with
    | [x], [t] => match P.underlying t, co Y x with
      | some (.slice _), some a => some (.len false a)
      | some .string, some a => some (.len true a)
      | some (.map _ _), some a => some (.mlen a)
      | _, _ => none
    | _, _ => none
  | .builtin .append => match c.args.toList, c.argTypes.toList with
    | [x, y], [t, t2] => match P.underlying t, P.underlying t2, co Y x, co Y y with
      | some (.slice e), some (.slice e2), some a, some b => match tySize P e, tyBytes P e, tyZero P e with
        | some n, some m, some z => if t = t2 ∧ e = e2 ∧ 0 < n ∧ 0 < m ∧ z.length = n then some (if gr then .appg n m a b else if md then .appo n m z a b else .app n m a b) else none
        | _, _, _ => none
      | some (.slice e), some .string, some a, some b => match P.underlying e, tySize P e, tyBytes P e, tyZero P e with
        | some (.int .u8), some n, some m, some z => if n = 1 ∧ m = 1 ∧ z.length = 1 ∧ md = false ∧ gr = false then some (.apps e a b) else none
        | _, _, _, _ => none
      | _, _, _, _ => none
    | _, _ => none
  | .builtin .max => match c.args.toList, c.argTypes.toList with
    | [x, y], [t, _] => match P.underlying t, co Y x, co Y y with
      | some (.int _), some a, some b => some (.mm true a b)
      | _, _, _ => none
    | _, _ => none
  | .builtin .min => match c.args.toList, c.argTypes.toList with
    | [x, y], [t, _] => match P.underlying t, co Y x, co Y y with
      | some (.int _), some a, some b => some (.mm false a b)
      | _, _, _ => none
    | _, _ => none
  | _ => none

def isZero : Operand → Bool
  | .const (.int .i64 0) => true
  | _ => false
def compMake (t : TypeId) (cap : Operand) : Option AOp :=
  match tyElem P t, co Y cap with
  | some e, some c => match tySize P e, tyBytes P e, tyZero P e with
    | some n, some m, some z => if 0 < n ∧ 0 < m ∧ z.length = n then some (.mks n m c) else none
    | _, _, _ => none
  | _, _ => none
def compMakeO (t : TypeId) (len cap : Operand) : Option AOp :=
  match tyElem P t, co Y len, co Y cap with
  | some e, some l, some c => match tySize P e, tyBytes P e, tyZero P e with
    | some n, some m, some z => if 0 < n ∧ 0 < m ∧ z.length = n then some (.mkso n m z l c) else none
    | _, _, _ => none
  | _, _, _ => none
/-- A pointer to its own kind, and a slice: strings.Builder. -/
def bldTy (t : TypeId) : Bool := match P.underlying t with
  | some (.struct fs) => match fs.toList with
    | [a, b] => (match P.underlying a.type with | some (.pointer t') => t' == t | _ => false) && (match P.underlying b.type with | some (.slice _) => true | _ => false)
    | _ => false
  | _ => false
def compOp (md gr : Bool) : Op → Option AOp
  | .move x | .assign x => (co Y x).map .mv
  | .pick c a b => match co Y c, co Y a, co Y b with
    | some c, some a, some b => some (.pick c a b)
    | _, _, _ => none
  | .alloc t => (tyZero P t).map fun z => if bldTy P t then .alct t z.length z else .alloc z
  | .box _ x => (co Y x).map .box
  | .build t parts => match P.underlying t, tyZero P t with
    | some (.struct fields), some z => match fields.toList.mapM (fun f => (P.info? f.type).map fun i => (f.offset, i.size)) with
      | some places => (partsS Y places parts.toList).map (.bld z)
      | none => none
    | _, _ => none
  | .buildSlice t n parts => match tyElem P t with
    | some e => match tySize P e, tyAgg P e, tyZero P e, partsL Y parts.toList with
      | some s, some g, some z, some l => if 0 < s ∧ z.length = s ∧ n * s ≤ 2 ^ 24 ∧ (g = false → s = 1) then some (if md && n != 0 then .bslo s g z n l else .bsl s g z n l) else none
      | _, _, _, _ => none
    | none => none
  | .load t x => match tyAgg P t, tySize P t, co Y x with
    | some g, some n, some a => if n = 0 then none else some (.load g n a)
    | _, _, _ => none
  | .store t x v => match tySize P t, co Y x, co Y v with
    | some n, some a, some b => if n = 0 then none else some (.store n a b)
    | _, _, _ => none
  | .nilCheck x => (co Y x).map .nilchk
  | .binOp op t x y _ => compBin P Y op t x y
  | .unOp op _ x => match op with
    | .not | .neg | .xor => (co Y x).map (.un op)
    | _ => none
  | .convert src dst x => match P.underlying src, P.underlying dst, co Y x with
    | some (.int _), some (.int k), some a => some (.conv k a)
    | some .string, some (.slice e), some a => match P.underlying e with
      | some (.int .u8) => some (.s2b a)
      | _ => none
    | _, _, _ => none
  | .fieldAddr s x f => match P.underlying s, co Y x with
    | some (.struct fields), some a => match fields[f]? with
      | some fl => match tySize P fl.type with
        | some n => if n = 0 then none else some (.fa fl.offset a)
        | none => none
      | none => none
    | _, _ => none
  | .field s x f => match P.underlying s, co Y x with
    | some (.struct fields), some a => match fields[f]? with
      | some fl => match tySize P fl.type, tyAgg P fl.type with
        | some n, some g => some (.fld g fl.offset n a)
        | _, _ => none
      | none => none
    | _, _ => none
  | .indexAddr t x i => match tyElem P t with
    | some e => match tySize P e, co Y x, co Y i with
      | some n, some a, some b => some (.ia n a b)
      | _, _, _ => none
    | none => none
  | .index t x i => match P.underlying t, co Y x, co Y i with
    | some .string, some a, some b => some (.ixs a b)
    | _, _, _ => none
  | .extract x i => (co Y x).map (.ext · i)
  | .makeFunc (.func f) first cap => match fnKey Y f, cos Y first.toList, cos Y cap.toList with
    | some k, some a, some b => some (.mkfn k a b)
    | _, _, _ => none
  | .makeMap _ none => some .mkm
  | .lookup t x k ok => match P.underlying t, co Y x, co Y k with
    | some (.map kt et), some a, some b => match kkOf P kt, tyZeroV P et with
      | some e, some z => some (.lkp e z ok a b)
      | _, _ => none
    | _, _, _ => none
  | .mapUpdate t x k v => match P.underlying t, co Y x, co Y k, co Y v with
    | some (.map kt _), some a, some b, some c => match kkOf P kt with
      | some e => some (.mupd e a b c)
      | none => none
    | _, _, _, _ => none
  | .mapEntry t x k => match P.underlying t, co Y x, co Y k with
    | some (.map kt et), some a, some b => match kkOf P kt, tyZeroV P et with
      | some e, some z => some (.ment e z a b)
      | _, _ => none
    | _, _, _ => none
  | .entryStore _ x s' v => match co Y x, co Y s', co Y v with
    | some a, some b, some c => some (.mest a b c)
    | _, _, _ => none
  | .makeSlice t l cap => if md then compMakeO P Y t l cap else if isZero l then compMake P Y t cap else none
  | .slice t x lo hi none => match P.underlying t, co Y x, coo Y lo, coo Y hi with
    | some .string, some a, some l, some h => some (.slcs a l h)
    | some (.slice e), some a, some l, some h => (tySize P e).map (.slc · a l h)
    | _, _, _, _ => none
  | .call c => compCall P Y md gr c
  | .makeInterface t x => match P.underlying t, co Y x with
    | some (.int _), some a => some (.mkif t a)
    | _, _ => none
  | .panic x => match co Y x with
    | some a => some (.call (.c (.fn 0 [] [])) [a])
    | none => none
  | _ => none

/-- A panic is a call of the function 0. -/
def isPan : AOp → Bool
  | .call (.c (.fn 0 _ _)) _ => true
  | _ => false
def dstOk (N : Nat) : Option Nat → Bool
  | none => true
  | some d => decide (d < N)
def modeOf : Option Nat → Bool
  | none => false
  | some d => Y.om d
def growOf : Option Nat → Bool
  | none => false
  | some d => Y.om (d + 1000000)
def compOper (N : Nat) (ops : Array Oper) (o : Oper) : Option AOper :=
  if dstOk N o.dst then
    match compOp P Y (modeOf Y o.dst) (growOf Y o.dst) o.op with
    | some a => match o.guard with
      | none => some ⟨o.dst, none, a⟩
      | some (j, t) => match ops[j]? with
        | some oj => match oj.dst with
          | some s => some ⟨o.dst, some (s, t), a⟩
          | none => none
        | none => none
    | none => none
  else none
def compOpers (N : Nat) (ops : Array Oper) : List Oper → Option (List AOper)
  | [] => some []
  | o :: r => match compOper P Y N ops o, compOpers N ops r with
    | some a, some b => some (a :: b)
    | _, _ => none

/-- Does the operation turn the heap? -/
def effOp : AOp → Bool
  | .alloc _ | .alct .. | .box _ | .store .. | .app .. | .apps .. | .mks .. | .mkso .. | .bslo .. | .appo .. | .appg .. | .mkm | .mupd .. | .ment .. | .mest .. => true
  | .call (.c (.fn k _ _)) _ => k == 0 || Y.eff k
  | _ => false
/-- Does it look at the heap? -/
def lookOp : AOp → Bool
  | .load .. | .call .. | .lkp .. | .mlen .. => true
  | o => effOp Y o

def bindsTo (o : Oper) (i : Nat) : Bool := o.after.any fun e => e.on == i && Region.binds .any e
def usesSlot (ops : Array Oper) (o : Oper) (s : Nat) : Bool := (o.looksAt ops).contains s
/-- The masks are backed by edges. -/
def maskOk (ops : Array Oper) (b : Array Nat) : Bool :=
  (List.range ops.size).all fun j => match ops[j]? with
    | some o => (List.range ops.size).all fun i => !(b.getD j 0).testBit i || o.after.any fun e => Region.binds .any e && decide (e.on < j) && (e.on == i || (b.getD e.on 0).testBit i)
    | none => false
def isLoad : AOp → Bool
  | .load .. | .lkp .. | .mlen .. | .call .. => true
  | _ => false
/-- The kinds of a region's operations: a load that some turning operation is not ordered with floats. -/
def floats (b : Array Nat) (l : List AOper) (j : Nat) (a : AOper) : Bool :=
  isLoad a.op && l.zipIdx.any fun p => effOp Y p.1.op && !(if p.2 < j then (b.getD j 0).testBit p.2 else (b.getD p.2 0).testBit j)
def isStore : AOp → Bool
  | .mest .. => true
  | .store .. => true
  | _ => false
def kindOf (b : Array Nat) (l : List AOper) (j : Nat) (a : AOper) : DK :=
  if effOp Y a.op then
    if isStore a.op && (l.zipIdx.any fun p => decide (p.2 < j) && floats Y b l p.2 p.1) && (l.zipIdx.all fun p => !(decide (p.2 < j) && floats Y b l p.2 p.1) || (b.getD j 0).testBit p.2) then .efo else .eff
  else
  if floats Y b l j a then .fl else .pl
def kinds (ops : Array Oper) (l : List AOper) : List (DK × AOper) :=
  let b := Region.before ops
  l.zipIdx.map fun p => (kindOf Y b l p.2 p.1, p.1)
def isEff : DK → Bool
  | .eff => true
  | .efo => true
  | _ => false
def isFl : DK → Bool
  | .fl => true
  | _ => false
def isEfo : DK → Bool
  | .efo => true
  | _ => false
def looks (z : DK × AOper) : Bool := match z.1 with
  | .fl => false
  | _ => lookOp Y z.2.op
/-- Its kind is right. -/
def kindOk (z : DK × AOper) : Bool := match z.1 with
  | .eff => effOp Y z.2.op
  | .efo => effOp Y z.2.op
  | .fl => isLoad z.2.op
  | .pl => !effOp Y z.2.op
def pairOk (ops : Array Oper) (b : Array Nat) (i j : Nat) (oi oj : Oper) (zi zj : DK × AOper) : Bool :=
  (match oi.dst with
    | some d => (oj.dst != some d) && (!usesSlot ops oj d || bindsTo oj i)
    | none => true) &&
  (match oj.dst with
    | some d => !usesSlot ops oi d || bindsTo oj i
    | none => true) &&
  (!(isEff zi.1 && looks Y zj || looks Y zi && isEff zj.1) || (b.getD j 0).testBit i) && (!(isFl zi.1 && isEfo zj.1) || (b.getD j 0).testBit i)
/-- Everything that a later operation owes to an earlier one is said by edges. -/
def drawOk (ops : Array Oper) (z : List (DK × AOper)) : Bool :=
  maskOk ops (Region.before ops) && z.all (kindOk Y) &&
  (List.range ops.size).all fun j => (List.range j).all fun i =>
    match ops[i]?, ops[j]?, z[i]?, z[j]? with
    | some oi, some oj, some zi, some zj => pairOk Y ops (Region.before ops) i j oi oj zi zj
    | _, _, _, _ => false
def edgesDown (ops : Array Oper) : Bool :=
  (List.range ops.size).all fun j => match ops[j]? with
    | some o => o.after.all fun e => !Region.binds .any e || decide (e.on < j)
    | none => false

/-- A region whose last operation waits for all others: that one may have more than one answer. -/
def lastOk (ops : Array Oper) : Bool :=
  maskOk ops (Region.before ops) && edgesDown ops && (List.range (ops.size - 1)).all fun i => ((Region.before ops).getD (ops.size - 1) 0).testBit i
def guardsIn (ops : Array Oper) : Bool := ops.all fun o => match o.guard with
  | some (s, _) => decide (s < ops.size)
  | none => true
/-- An operation of which more than one answer is to be told: an append to an object, or a call of a function that is marked so. -/
def ndOp (o : AOper) : Bool := match o.op with
  | .appg .. => true
  | .call (.c (.fn k _ _)) _ => Y.om (3000000 + k)
  | _ => false
def compLast (N : Nat) (ops : Array Oper) (l : List AOper) : Option AC := match l.getLast? with
  | some z => if ndOp Y z && lastOk ops && guardsIn ops.pop then match compOpers P Y N ops.pop ops.pop.toList with
      | some l1 => if drawOk Y ops.pop (kinds Y ops.pop l1) && edgesDown ops.pop then some (.seq (.draw (kinds Y ops.pop l1)) (.reg [z])) else none
      | none => none
    else none
  | none => none
def comp (N : Nat) : Code → Option AC
  | .skip => some .skip
  | .label _ => some .skip
  | .ret => some .ret
  | .exit n => some (.exit n)
  | .seq a b => match comp N a, comp N b with
    | some x, some y => some (.seq x y)
    | _, _ => none
  | .cond c a b => match co Y c, comp N a, comp N b with
    | some z, some x, some y => some (.cond z x y)
    | _, _, _ => none
  | .block n a => match comp N a with
    | some x => some (.block n x)
    | none => none
  | .loop a => match comp N a with
    | some x => some (.loop x)
    | none => none
  | .scope a => match comp N a with
    | some x => some (.scope x)
    | none => none
  | .region _ ops d => match compOpers P Y N ops ops.toList with
    | some l => match d with
      | false => some (.reg l)
      | true => match compLast P Y N ops l with
        | some A => some A
        | none => if drawOk Y ops (kinds Y ops l) && edgesDown ops then some (if l.any fun a => isPan a.op && a.gd.isNone then .drawP (kinds Y ops l) else .draw (kinds Y ops l)) else none
    | none => none
  | _ => none

def AC.strip : AC → AC
  | .seq a b => .seq a.strip b.strip
  | .cond c a b => .cond c a.strip b.strip
  | .block n a => .block n a.strip
  | .loop a => .loop a.strip
  | .scope a => .scope a.strip
  | .keep _ a => a.strip
  | .post a _ => a.strip
  | a => a

def resSlots : List ResultVar → Option (List (Nat × Option (Bool × Nat)))
  | [] => some []
  | .tmp t :: r => match resSlots r with
    | some l => some ((t, none) :: l)
    | none => none
  | .cell a t :: r => match tyAgg P t, tySize P t, resSlots r with
    | some g, some n, some l => if n = 0 then none else some ((a, some (g, n)) :: l)
    | _, _, _ => none
/-- A function of the program as an abstract one. -/
def compFn (f : Func) : Option AFn :=
  match f.body, resSlots P f.results.toList with
  | some c, some r => match comp P Y f.ntmps c with
    | some a => some ⟨f.ntmps, r, a⟩
    | none => none
  | _, _ => none
def AFn.strip (f : AFn) : AFn := { f with body := f.body.strip }
end

end Go.Proofs.Ytajaoldljichaaa.Al
namespace Go.Proofs.Ytajaoldljichaaa.Al
open Go Go.RowKit
set_option linter.unusedSimpArgs false
set_option linter.unusedVariables false

def RelL (X : Cx) (g : Gh) (w : World) (h : AH) (l : List V) (cs : Array Value) : Prop :=
  l.length = cs.size ∧ ∀ i (h1 : i < l.length) (h2 : i < cs.size), Rel X g w h (l[i]) (cs[i])

def Out (X : Cx) (g : Gh) (w : World) (h : AH) (K : V → AH → Prop) (r : Result Next) : Prop :=
  ∃ v h' x g' w', K v h' ∧ Inv X g' w' h' ∧ Rel X g' w' h' v x ∧ Stp g w h g' w' h' ∧ (r = .ok (.value x) w' ∨ (x = undef ∧ r = .ok .skip w'))

section
variable {X : Cx} {g : Gh} {w : World} {h : AH} {K : V → AH → Prop}

theorem Out.stay (I : Inv X g w h) {v : V} (hk : K v h) {x : Value} (r : Rel X g w h v x) {R : Result Next} (e : R = .ok (.value x) w) : Out X g w h K R :=
  ⟨v, h, x, g, w, hk, I, r, Stp.refl g w h, .inl e⟩

/-! ### Constants and operands -/
theorem leafV_rel {x : Value} {v : V} (e : leafV x = some v) : Rel X g w h v x := by
  cases x with
  | bool b => simp [leafV] at e; subst e; exact .bool b
  | int k n => simp [leafV] at e; subst e; exact .int k n
  | string s => simp [leafV] at e; subst e; exact .str s.data.toList
  | pointer a => cases a with
    | none => simp [leafV] at e; subst e; exact .nilp
    | some a => simp [leafV] at e
  | slice a n c =>
    unfold leafV at e; split at e <;> simp_all
    subst e; exact .slnil 0 1 (by omega)
  | nilFunc => simp [leafV] at e; subst e; exact .nilf
  | map a => cases a with
    | none => simp [leafV] at e; subst e; exact .mapn
    | some a => simp [leafV] at e
  | nilIface => simp [leafV] at e; subst e; exact .cval _
  | _ => simp [leafV] at e
theorem leafV_one {x : Value} {v : V} (e : leafV x = some v) : x.oneCell' = true := by
  cases x <;> first | rfl | (simp [leafV] at e)
theorem leafVs_spec : ∀ {l : List Value} {m : List V}, leafVs l = some m → m.length = l.length ∧ ∀ i (h1 : i < m.length) (h2 : i < l.length), leafV l[i] = some m[i]
  | [], m, e => by simp [leafVs] at e; subst e; simp
  | x :: l, m, e => by
    unfold leafVs at e
    split at e
    · rename_i a b h1 h2
      obtain ⟨k1, k2⟩ := leafVs_spec h2
      simp at e; subst e
      refine ⟨by simp [k1], fun i i1 i2 => ?_⟩
      cases i with
      | zero => exact h1
      | succ i => exact k2 i (by simpa using i1) (by simpa using i2)
    · simp at e
theorem constV_rel {x : Value} {v : V} (e : constV x = some v) : Rel X g w h v x := by
  unfold constV at e
  split at e
  · rename_i cs
    cases hl : leafVs cs.toList with
    | none => simp [hl] at e
    | some m =>
      simp [hl] at e; subst e
      obtain ⟨k1, k2⟩ := leafVs_spec hl
      refine .agg m cs (by simpa using k1) (fun i i2 => ?_) (fun i i1 i2 => ?_)
      · have := k2 i (by simp at k1; omega) (by simpa using i2)
        simp at this
        exact leafV_one this
      · have := k2 i i1 (by simpa using i2)
        simp at this
        exact leafV_rel this
  · exact leafV_rel e

/-- The environment reads as the temporaries do. -/
def EnvRel (X : Cx) (g : Gh) (w : World) (h : AH) (env : Env) (a : Act) : Prop := ∀ n, Rel X g w h (get env n) (a.tmps.getD n undef)

theorem fnKey_spec {Y : Keys} {f k : Nat} (e : fnKey Y f = some k) : Y.tbl k = f := by
  unfold fnKey at e; split at e
  · rename_i hh; simp at e; subst e; exact hh.1
  · simp at e
theorem fnKey_ne {Y : Keys} {f k : Nat} (e : fnKey Y f = some k) : FK k := by
  unfold fnKey at e; split at e
  · rename_i hh; simp at e; subst e; exact hh.2
  · simp at e
theorem co_rel {Y : Keys} (hY : X.tbl = Y.tbl) {env : Env} {a : Act} (R : EnvRel X g w h env a) {x : Operand} {y : AO} (e : co Y x = some y) : Rel X g w h (ev env y) (a.eval x) := by
  cases x with
  | tmp n => simp [co] at e; subst e; exact R n
  | const v =>
    simp only [co] at e; split at e
    · rename_i u hu; simp at e; subst e; exact constV_rel hu
    · simp at e
  | func f =>
    simp only [co] at e; split at e
    · rename_i k hk; simp at e; subst e
      have := Rel.fn (X := X) (g := g) (w := w) (h := h) k [] [] #[] #[] (fnKey_ne hk) rfl rfl (by simp) (by simp)
      rw [hY, fnKey_spec hk] at this
      exact this
    · simp at e
  | global _ => simp [co] at e; subst e; exact .undef _

/-! ### Cells of a value -/
theorem Rel.cells {v : V} {x : Value} (r : Rel X g w h v x) (hg : v.good = true) :
    v.cells.length = x.cells.size ∧ (∀ i (h2 : i < x.cells.size), (x.cells[i]).oneCell' = true) ∧ ∀ i (h1 : i < v.cells.length) (h2 : i < x.cells.size), Rel X g w h (v.cells[i]) (x.cells[i]) := by
  cases r with
  | agg l cs hl ho hr => exact ⟨hl, ho, hr⟩
  | tup => simp [V.good] at hg
  | undef => simp [V.good] at hg
  | cval => simp [V.good] at hg
  | _ =>
    refine ⟨rfl, fun i h2 => ?_, fun i h1 h2 => ?_⟩
    · simp [Value.cells] at h2; subst h2; rfl
    · simp [V.cells] at h1; subst h1
      simp only [V.cells, Value.cells, List.getElem_cons_zero, List.getElem_toArray]
      first | (constructor <;> assumption) | skip

/-! ### New blocks -/
theorem heap_alloc_some {o : Obj} {b : Nat} {x : Obj} (hb : w.heap[b]? = some x) : (w.alloc o).heap[b]? = some x := by
  have hlt : b < w.heap.size := (Array.getElem?_eq_some_iff.1 hb).1
  rw [Below.heap_alloc w o b hlt]; exact hb
theorem rowAt_lt {b off n : Nat} (r : rowAt w b off n) : b < w.heap.size := by
  obtain ⟨cs, t, hh, _⟩ := r
  exact (Array.getElem?_eq_some_iff.1 hh).1
theorem rowAt_alloc {o : Obj} {b off n : Nat} (r : rowAt w b off n) : rowAt (w.alloc o) b off n := by
  obtain ⟨cs, t, hh, hl⟩ := r
  exact ⟨cs, t, heap_alloc_some hh, hl⟩
theorem Inv.pub_lt (I : Inv X g w h) {b o : Nat} (ho : o < g.pub b) : b < w.heap.size := by
  rcases Nat.lt_or_ge b w.heap.size with h' | h'
  · exact h'
  · have := I.pubB b h'; omega
theorem Inv.size (I : Inv X g w h) : X.W0.heap.size ≤ w.heap.size := I.below.size

theorem Inv.objBdd (I : Inv X g w h) {o : Nat} (ho : o < h.nobj) : ∀ v ∈ h.objs o, Bdd h.next h.nobj v := fun v hv => by
  cases hm : g.mp o with
  | false =>
    obtain ⟨cs, t, _, k2, _, k4⟩ := I.objs o ho hm (fun e => by rw [e] at hv; simp at hv)
    obtain ⟨i, hi, rfl⟩ := List.getElem_of_mem hv
    exact (k4 i hi (by omega)).bdd
  | true =>
    rcases I.maps o ho hm with ⟨es, _, k2, _, k4⟩ | ⟨b, n, vs, _, _, _, c, f, r⟩
    · obtain ⟨i, hi, rfl⟩ := List.getElem_of_mem hv
      exact (k4 i hi (by omega)).bdd
    · obtain ⟨i, hi, rfl⟩ := List.getElem_of_mem hv
      cases i with
      | succ i => exact (r i hi (by omega)).bdd
      | zero =>
        unfold exoH at c
        split at c
        · rename_i e; simp only [e, List.getElem_cons_zero]; exact .int _ _
        · rename_i e; simp only [e, List.getElem_cons_zero]; exact .undef
        · exact c.elim
theorem shape_lt {b : Nat} {s : TypeId × Nat} (hs : w.shape? b = some s) : b < w.heap.size := by
  rcases Nat.lt_or_ge b w.heap.size with c | c
  · exact c
  · simp [World.shape?, Array.getElem?_eq_none c] at hs
theorem shape_blk {w' : World} {b : Nat} {s : TypeId × Nat} (hs : w.shape? b = some s) (e : w'.heap[b]? = w.heap[b]?) : w'.shape? b = some s := by
  unfold World.shape? at hs ⊢; rw [e]; exact hs
theorem shape_alloc (o : Obj) {b : Nat} {s : TypeId × Nat} (hs : w.shape? b = some s) : (w.alloc o).shape? b = some s := by
  have hlt := shape_lt hs
  have hb : ∃ x, w.heap[b]? = some x := ⟨w.heap[b], Array.getElem?_eq_getElem hlt⟩
  obtain ⟨x, hb⟩ := hb
  exact shape_blk hs ((heap_alloc_some hb).trans hb.symm)
theorem shape_setCell (a : Addr) (u : Value) {b : Nat} {s : TypeId × Nat} (hs : w.shape? b = some s) : (w.setCell a u).shape? b = some s := by
  by_cases e : b = a.block
  · subst e
    unfold World.shape? at hs ⊢
    unfold World.setCell
    have hlt : a.block < w.heap.size := shape_lt (w := w) (b := a.block) (s := s) (by unfold World.shape?; exact hs)
    rw [Array.getElem?_eq_getElem hlt] at hs
    simp only [Array.getElem?_modify, if_true, Array.getElem?_eq_getElem hlt, Option.map_some]
    split at hs
    · rename_i c el fz q
      rw [Option.some.inj q]
      simp at hs ⊢
      rw [← hs]
      split <;> simp
    · cases hs
  · refine shape_blk hs ?_
    unfold World.setCell
    rw [Array.getElem?_modify, if_neg (fun q => e q.symm)]
theorem shape_setCells (b' : Nat) : ∀ (vs : List Value) (o : Nat) (w : World) {b : Nat} {s : TypeId × Nat}, w.shape? b = some s → (w.setCells b' o vs).shape? b = some s
  | [], _, _, _, _, h => h
  | v :: vs, o, w, _, _, h => by rw [World.setCells]; exact shape_setCells b' vs (o + 1) _ (shape_setCell _ _ h)
theorem new_obj (I : Inv X g w h) (z : List V) (cs : Array Value) (t : TypeId) (hl : z.length ≤ cs.size) (ho : ∀ i (h2 : i < cs.size), (cs[i]).oneCell' = true)
    (hr : ∀ i (h1 : i < z.length) (h2 : i < cs.size), Rel X g w h (z[i]) (cs[i])) :
    ∃ g', Inv X g' (w.alloc (.cells cs t)) (h.new z) ∧ Stp g w h g' (w.alloc (.cells cs t)) (h.new z) ∧ g'.obj h.nobj = w.heap.size ∧ g'.mp h.nobj = false := by
  have S : Stp g w h { g with obj := updN g.obj h.nobj w.heap.size, mp := updN g.mp h.nobj false } (w.alloc (.cells cs t)) (h.new z) :=
    { next := Nat.le_refl _
      nobj := Nat.le_succ _
      obj := fun o ho => updN_ne _ _ (by omega)
      mp := fun o ho => updN_ne _ _ (by omega)
      pub := fun _ => Nat.le_refl _
      cell := fun b o hb => World.cell?_alloc_lt w _ _ (I.pub_lt hb)
      tip := fun s _ e he => ⟨he, rfl, rfl⟩
      row := fun s _ e he off n r => rowAt_alloc r
      shape := fun b s hs => shape_alloc _ hs }
  refine ⟨_, ?_, S, updN_same _ _ _, updN_same _ _ _⟩
  exact
    { below := I.below.alloc I.size _
      next := I.next
      maps := fun o ho' hm => by
        by_cases ho2 : o = h.nobj
        · subst ho2; simp only [updN_same] at hm; exact absurd hm (by simp)
        · have hlt : o < h.nobj := by have : o < h.nobj + 1 := ho'; omega
          simp only [updN_ne _ _ ho2] at hm
          exact (I.maps o hlt hm).stp S (updN_ne _ _ ho2) (fun _ _ k => heap_alloc_some k) (updN_ne _ _ ho2)
      objs := fun o ho' hm hne => by
        by_cases ho2 : o = h.nobj
        · subst ho2
          refine ⟨cs, t, ?_, ?_, ho, fun i h1 h2 => ?_⟩
          · simp only [updN_same]; exact heap_alloc_new w _
          · simp only [AH.new, updN_same]; exact hl
          · have e : (h.new z).objs h.nobj = z := updN_same _ _ _
            have := (hr i (by rw [e] at h1; exact h1) h2).stp S
            simpa only [e] using this
        · have hlt : o < h.nobj := by have : o < h.nobj + 1 := ho'; omega
          have e : (h.new z).objs o = h.objs o := updN_ne _ _ ho2
          obtain ⟨cs', t', k1, k2, k3, k4⟩ := I.objs o hlt (by simpa only [updN_ne _ _ ho2] using hm) (by rw [← e]; exact hne)
          refine ⟨cs', t', ?_, by rw [e]; exact k2, k3, fun i h1 h2 => ?_⟩
          · simp only [updN_ne _ _ ho2]; exact heap_alloc_some k1
          · simp only [e] at h1 ⊢; exact (k4 i h1 h2).stp S
      objL := fun {o} ho' => by
        by_cases ho2 : o = h.nobj
        · subst ho2; simp only [updN_same]; simp
        · simp only [updN_ne _ _ ho2]; have := I.objL (o := o) (by have : o < h.nobj + 1 := ho'; omega); simp; omega
      objB := fun o ho' => by
        by_cases ho2 : o = h.nobj
        · subst ho2; simp only [updN_same]; exact ⟨I.size, fun _ _ => I.pubB _ (Nat.le_refl _)⟩
        · have e : (h.new z).objs o = h.objs o := updN_ne _ _ ho2
          simp only [updN_ne _ _ ho2, e]; exact I.objB o (by have : o < h.nobj + 1 := ho'; omega)
      objI := fun o o' h1 h2 e => by
        have h1' : o < h.nobj + 1 := h1
        have h2' : o' < h.nobj + 1 := h2
        by_cases a : o = h.nobj <;> by_cases b : o' = h.nobj
        · rw [a, b]
        · simp only [a, updN_same, updN_ne _ _ b] at e
          have := I.objL (o := o') (by omega); omega
        · simp only [b, updN_same, updN_ne _ _ a] at e
          have := I.objL (o := o) (by omega); omega
        · simp only [updN_ne _ _ a, updN_ne _ _ b] at e
          exact I.objI o o' (by omega) (by omega) e
      tipB := fun s e he => by
        obtain ⟨a, b, c, d⟩ := I.tipB s e he
        exact ⟨a, b, c, by simp; omega⟩
      tipI := I.tipI
      tipO := fun o s e h1 he => by
        have h1' : o < h.nobj + 1 := h1
        by_cases a : o = h.nobj
        · simp only [a, updN_same]; have := (I.tipB s e he).2.2.2; show w.heap.size ≠ g.tip s; omega
        · simp only [updN_ne _ _ a]; exact I.tipO o s e (by omega) he
      pubB := fun b hb => I.pubB b (by simp at hb; omega) }

theorem new_map (I : Inv X g w h) :
    ∃ g', Inv X g' (w.alloc (.map #[] 0)) (h.new []) ∧ Stp g w h g' (w.alloc (.map #[] 0)) (h.new []) ∧ g'.obj h.nobj = w.heap.size ∧ g'.mp h.nobj = true := by
  have S : Stp g w h { g with obj := updN g.obj h.nobj w.heap.size, mp := updN g.mp h.nobj true } (w.alloc (.map #[] 0)) (h.new []) :=
    { next := Nat.le_refl _
      nobj := Nat.le_succ _
      obj := fun o ho => updN_ne _ _ (by omega)
      mp := fun o ho => updN_ne _ _ (by omega)
      pub := fun _ => Nat.le_refl _
      cell := fun b o hb => World.cell?_alloc_lt w _ _ (I.pub_lt hb)
      tip := fun s _ e he => ⟨he, rfl, rfl⟩
      row := fun s _ e he off n r => rowAt_alloc r
      shape := fun b s hs => shape_alloc _ hs }
  refine ⟨_, ?_, S, updN_same _ _ _, updN_same _ _ _⟩
  exact
    { below := I.below.alloc I.size _
      next := I.next
      maps := fun o ho' hm => by
        by_cases ho2 : o = h.nobj
        · subst ho2
          refine .inl ⟨#[], by simp only [updN_same]; exact heap_alloc_new w _, by simp [AH.new, updN_same], by simp, fun i h1 h2 => by simp at h2⟩
        · have hlt : o < h.nobj := by have : o < h.nobj + 1 := ho'; omega
          simp only [updN_ne _ _ ho2] at hm
          exact (I.maps o hlt hm).stp S (updN_ne _ _ ho2) (fun _ _ k => heap_alloc_some k) (updN_ne _ _ ho2)
      objs := fun o ho' hm hne => by
        by_cases ho2 : o = h.nobj
        · subst ho2; simp only [updN_same] at hm; exact absurd hm (by simp)
        · have hlt : o < h.nobj := by have : o < h.nobj + 1 := ho'; omega
          have e : (h.new []).objs o = h.objs o := updN_ne _ _ ho2
          obtain ⟨cs', t', k1, k2, k3, k4⟩ := I.objs o hlt (by simpa only [updN_ne _ _ ho2] using hm) (by rw [← e]; exact hne)
          refine ⟨cs', t', ?_, by rw [e]; exact k2, k3, fun i h1 h2 => ?_⟩
          · simp only [updN_ne _ _ ho2]; exact heap_alloc_some k1
          · simp only [e] at h1 ⊢; exact (k4 i h1 h2).stp S
      objL := fun {o} ho' => by
        by_cases ho2 : o = h.nobj
        · subst ho2; simp only [updN_same]; simp
        · simp only [updN_ne _ _ ho2]; have := I.objL (o := o) (by have : o < h.nobj + 1 := ho'; omega); simp; omega
      objB := fun o ho' => by
        by_cases ho2 : o = h.nobj
        · subst ho2; simp only [updN_same]; exact ⟨I.size, fun _ _ => I.pubB _ (Nat.le_refl _)⟩
        · have e : (h.new []).objs o = h.objs o := updN_ne _ _ ho2
          simp only [updN_ne _ _ ho2, e]; exact I.objB o (by have : o < h.nobj + 1 := ho'; omega)
      objI := fun o o' h1 h2 e => by
        have h1' : o < h.nobj + 1 := h1
        have h2' : o' < h.nobj + 1 := h2
        by_cases a : o = h.nobj <;> by_cases b : o' = h.nobj
        · rw [a, b]
        · simp only [a, updN_same, updN_ne _ _ b] at e
          have := I.objL (o := o') (by omega); omega
        · simp only [b, updN_same, updN_ne _ _ a] at e
          have := I.objL (o := o) (by omega); omega
        · simp only [updN_ne _ _ a, updN_ne _ _ b] at e
          exact I.objI o o' (by omega) (by omega) e
      tipB := fun s e he => by
        obtain ⟨a, b, c, d⟩ := I.tipB s e he
        exact ⟨a, b, c, by simp; omega⟩
      tipI := I.tipI
      tipO := fun o s e h1 he => by
        have h1' : o < h.nobj + 1 := h1
        by_cases a : o = h.nobj
        · simp only [a, updN_same]; have := (I.tipB s e he).2.2.2; show w.heap.size ≠ g.tip s; omega
        · simp only [updN_ne _ _ a]; exact I.tipO o s e (by omega) he
      pubB := fun b hb => I.pubB b (by simp at hb; omega) }

/-- A new block that nobody points into but by what is told of it here: n cells of it are published. -/
theorem new_row (I : Inv X g w h) (cs : Array Value) (t : TypeId) (n : Nat) (fz : Nat × Nat := (0, 0)) :
    ∃ g', Inv X g' (w.alloc (.cells cs t fz)) h ∧ Stp g w h g' (w.alloc (.cells cs t fz)) h ∧ g'.pub w.heap.size = n := by
  have S : Stp g w h { g with pub := updN g.pub w.heap.size n } (w.alloc (.cells cs t fz)) h :=
    { next := Nat.le_refl _
      nobj := Nat.le_refl _
      obj := fun o ho => rfl
      mp := fun o ho => rfl
      pub := fun b => by
        by_cases hb : b = w.heap.size
        · rw [hb, I.pubB _ (Nat.le_refl _)]; exact Nat.zero_le _
        · exact Nat.le_of_eq (updN_ne _ _ hb).symm
      cell := fun b o hb => World.cell?_alloc_lt w _ _ (I.pub_lt hb)
      tip := fun s _ e he => ⟨he, rfl, updN_ne _ _ (by have := (I.tipB s e he).2.2.2; omega)⟩
      row := fun s _ e he off n r => rowAt_alloc r
      shape := fun b s hs => shape_alloc _ hs }
  refine ⟨_, ?_, S, updN_same _ _ _⟩
  exact
    { below := I.below.alloc I.size _
      next := I.next
      maps := fun o ho' hm => (I.maps o ho' hm).stp S rfl (fun _ _ k => heap_alloc_some k) rfl
      objs := fun o ho' hm hne => by
        obtain ⟨cs', t', k1, k2, k3, k4⟩ := I.objs o ho' hm hne
        exact ⟨cs', t', heap_alloc_some k1, k2, k3, fun i h1 h2 => (k4 i h1 h2).stp S⟩
      objL := fun {o} ho' => by have := I.objL ho'; show g.obj o < _; simp; omega
      objB := fun o ho' => ⟨(I.objB o ho').1, fun hm hne => by
        show updN g.pub w.heap.size n (g.obj o) = 0
        rw [updN_ne _ _ (by have := I.objL ho'; omega)]; exact (I.objB o ho').2 hm hne⟩
      objI := I.objI
      tipB := fun s e he => by
        obtain ⟨a, b, c, d⟩ := I.tipB s e he
        exact ⟨a, b, c, by simp; omega⟩
      tipI := I.tipI
      tipO := I.tipO
      pubB := fun b hb => by
        show updN g.pub w.heap.size n b = 0
        simp at hb
        rw [updN_ne _ _ (by omega)]; exact I.pubB b (by omega) }

/-! ### Stores into objects -/
theorem setAt_length : ∀ (vs : List V) (cs : List V) (off : Nat), (setAt cs off vs).length = cs.length
  | [], cs, off => rfl
  | v :: vs, cs, off => by simp [setAt, setAt_length vs]
theorem setAt_getElem? : ∀ (vs : List V) (cs : List V) (off i : Nat), off + vs.length ≤ cs.length →
    (setAt cs off vs)[i]? = if off ≤ i ∧ i < off + vs.length then vs[i - off]? else cs[i]?
  | [], cs, off, i, _ => by simp [setAt]; omega
  | v :: vs, cs, off, i, hl => by
    simp only [List.length_cons] at hl
    rw [setAt, setAt_getElem? vs (cs.set off v) (off + 1) i (by simp; omega)]
    by_cases h1 : off + 1 ≤ i ∧ i < off + 1 + vs.length
    · rw [if_pos h1, if_pos (by simp; omega), show i - off = (i - (off + 1)) + 1 by omega]; simp
    · rw [if_neg h1, List.getElem?_set]
      by_cases h2 : off = i
      · subst h2; simp; omega
      · rw [if_neg h2, if_neg (by simp; omega)]

theorem setRow_heap_ne (w : World) (b : Nat) (cs : Array Value) (k : Nat) (hk : k ≠ b) : (w.setRow b cs).heap[k]? = w.heap[k]? := by
  unfold World.setRow
  simp only [Array.getElem?_modify]
  rw [if_neg (by omega)]

theorem store_obj (I : Inv X g w h) (o off : Nat) (ho : o < h.nobj) (hm : g.mp o = false) (hlive : h.objs o ≠ []) (vs : List V) (us : List Value) (hlen : vs.length = us.length)
    (hfit : off + vs.length ≤ (h.objs o).length) (h1 : ∀ i (h2 : i < us.length), (us[i]).oneCell' = true)
    (hr : ∀ i (h1 : i < vs.length) (h2 : i < us.length), Rel X g w h (vs[i]) (us[i])) :
    ∃ w', (storeCells ⟨g.obj o, off, none⟩ us).run X.P w = .ok () w' ∧ Inv X g w' (h.set o (setAt (h.objs o) off vs)) ∧ Stp g w h g w' (h.set o (setAt (h.objs o) off vs)) := by
  obtain ⟨cs, t, k1, k2, k3, k4⟩ := I.objs o ho hm hlive
  have hst := run_storeCells_at X.P (g.obj o) off t us 0 cs w k1 (by omega) (fun v hv => by
    obtain ⟨i, hi, rfl⟩ := List.getElem_of_mem hv; exact h1 i hi)
  simp only [Nat.add_zero] at hst
  generalize hcur : (cs.toList.take off ++ us ++ cs.toList.drop (off + us.length)).toArray = cur at hst
  have hsz : cur.size = cs.size := by
    rw [← hcur]; simp; omega
  have hget : ∀ i, cur[i]? = if off ≤ i ∧ i < off + us.length then us[i - off]? else cs[i]? := fun i => by
    rw [← hcur]
    simp only [List.getElem?_toArray, List.append_assoc, List.getElem?_append, List.length_take, Array.length_toList, List.getElem?_take, List.getElem?_drop, Array.getElem?_toList]
    have hm : min off cs.size = off := by omega
    rw [hm]
    by_cases a : i < off
    · rw [if_pos a, if_pos a, if_neg (by omega)]
    · rw [if_neg a]
      by_cases b : i < off + us.length
      · rw [if_pos (by omega), if_pos ⟨by omega, b⟩]
      · rw [if_neg (by omega), if_neg (by omega)]; congr 1; omega
  refine ⟨_, hst, ?_⟩
  have hcell : ∀ b i, 0 < g.pub b → (w.setRow (g.obj o) cur).cell? ⟨b, i, none⟩ = w.cell? ⟨b, i, none⟩ := fun b i hb =>
    World.cell?_of_block (setRow_heap_ne _ _ _ _ (fun e => by
      have hz := (I.objB o ho).2 hm hlive; rw [← e] at hz; simp only at hz; omega))
  have S : Stp g w h g (w.setRow (g.obj o) cur) (h.set o (setAt (h.objs o) off vs)) :=
    { next := Nat.le_refl _
      nobj := Nat.le_refl _
      obj := fun _ _ => rfl
      mp := fun _ _ => rfl
      pub := fun _ => Nat.le_refl _
      cell := fun b i hb => hcell b i (by omega)
      tip := fun s _ e he => ⟨he, rfl, rfl⟩
      row := fun s _ e he off n r => by
        obtain ⟨c, t, hh, hl⟩ := r
        exact ⟨c, t, by rw [setRow_heap_ne _ _ _ _ (fun e' => I.tipO o s e ho he e'.symm)]; exact hh, hl⟩
      shape := fun b s hs => by
        by_cases e : b = g.obj o
        · subst e
          unfold World.shape? at hs ⊢
          rw [k1] at hs
          rw [setRow_heap w _ cs cur t _ k1]
          simp only at hs ⊢
          rw [hsz]; exact hs
        · exact shape_blk hs (setRow_heap_ne _ _ _ _ e) }
  refine ⟨?_, S⟩
  exact
    { below := I.below.trans ⟨rfl, rfl, rfl, by simp [World.setRow], fun k hk => setRow_heap_ne _ _ _ _ (by have := (I.objB o ho).1; omega)⟩
      next := I.next
      maps := fun o' ho' hm' => by
        have e : ¬ o' = o := fun e => by rw [e, hm] at hm'; cases hm'
        exact (I.maps o' ho' hm').stp S rfl (fun _ _ k => by rw [setRow_heap_ne _ _ _ _ (fun e' => e (I.objI o' o ho' ho e'))]; exact k) (updN_ne _ _ e)
      objs := fun o' ho' hm' hne => by
        by_cases e : o' = o
        · subst e
          have e2 : (h.set o' (setAt (h.objs o') off vs)).objs o' = setAt (h.objs o') off vs := updN_same _ _ _
          refine ⟨cur, t, setRow_heap w _ cs cur t _ k1, by rw [e2, setAt_length, hsz]; exact k2, fun i h2 => ?_, fun i i1 i2 => ?_⟩
          · have hc := hget i
            rw [Array.getElem?_eq_getElem h2] at hc
            by_cases a : off ≤ i ∧ i < off + us.length
            · rw [if_pos a, List.getElem?_eq_getElem (by omega)] at hc
              rw [Option.some.inj hc]; exact h1 _ _
            · rw [if_neg a, Array.getElem?_eq_getElem (by omega)] at hc
              rw [Option.some.inj hc]; exact k3 _ _
          · simp only [e2] at i1 ⊢
            have hv := setAt_getElem? vs (h.objs o') off i hfit
            rw [List.getElem?_eq_getElem i1] at hv
            have hc := hget i
            rw [Array.getElem?_eq_getElem i2] at hc
            rw [setAt_length] at i1
            by_cases a : off ≤ i ∧ i < off + us.length
            · rw [if_pos a, List.getElem?_eq_getElem (by omega)] at hc
              rw [if_pos (by omega), List.getElem?_eq_getElem (by omega)] at hv
              rw [Option.some.inj hc, Option.some.inj hv]; exact (hr _ _ _).stp S
            · rw [if_neg a, Array.getElem?_eq_getElem (by omega)] at hc
              rw [if_neg (by omega), List.getElem?_eq_getElem (by omega)] at hv
              rw [Option.some.inj hc, Option.some.inj hv]; exact (k4 _ _ _).stp S
        · have e2 : (h.set o (setAt (h.objs o) off vs)).objs o' = h.objs o' := updN_ne _ _ e
          obtain ⟨cs', t', j1, j2, j3, j4⟩ := I.objs o' ho' hm' (by rw [← e2]; exact hne)
          refine ⟨cs', t', ?_, by rw [e2]; exact j2, j3, fun i i1 i2 => ?_⟩
          · rw [setRow_heap_ne _ _ _ _ (fun e' => e (I.objI o' o ho' ho e'))]; exact j1
          · simp only [e2] at i1 ⊢; exact (j4 i i1 i2).stp S
      objL := fun {o'} ho' => by have := I.objL ho'; simp [World.setRow]; exact this
      objB := fun o' ho' => by
        refine ⟨(I.objB o' ho').1, fun hm' hne => (I.objB o' ho').2 hm' ?_⟩
        by_cases e : o' = o
        · rw [e]; exact hlive
        · have e2 : (h.set o (setAt (h.objs o) off vs)).objs o' = h.objs o' := updN_ne _ _ e
          rw [← e2]; exact hne
      objI := I.objI
      tipB := fun s e he => by
        obtain ⟨a, b, c, d⟩ := I.tipB s e he
        exact ⟨a, b, c, by simp [World.setRow]; exact d⟩
      tipI := I.tipI
      tipO := I.tipO
      pubB := fun b hb => I.pubB b (by simpa [World.setRow] using hb) }

/-! ### append -/
theorem push_next (h : AH) (st e : Nat) : (h.push st e).next = h.next + 1 := by unfold AH.push; split <;> rfl
theorem push_nobj (h : AH) (st e : Nat) : (h.push st e).nobj = h.nobj := by unfold AH.push; split <;> rfl
theorem push_objs (h : AH) (st e : Nat) : (h.push st e).objs = h.objs := by unfold AH.push; split <;> rfl
theorem push_new (h : AH) (st e : Nat) : (h.push st e).tips h.next = some e := by unfold AH.push; split <;> exact updN_same _ _ _
theorem push_tips {h : AH} {st e s e' : Nat} (he : (h.push st e).tips s = some e') : (s = h.next ∧ e' = e) ∨ (s ≠ h.next ∧ h.tips s = some e' ∧ (3 ≤ st → s ≠ st)) := by
  by_cases a : s = h.next
  · subst a; rw [push_new] at he; exact .inl ⟨rfl, (Option.some.inj he).symm⟩
  · refine .inr ⟨a, ?_⟩
    unfold AH.push at he
    split at he
    · rename_i hst
      have : (h.grow e).tips s = h.tips s := updN_ne _ _ a
      rw [this] at he; exact ⟨he, fun h3 => by omega⟩
    · rename_i hst
      have e1 : ((h.drop st).grow e).tips s = (h.drop st).tips s := updN_ne _ _ a
      rw [e1] at he
      by_cases b : s = st
      · subst b; have : (h.drop s).tips s = none := updN_same _ _ _
        rw [this] at he; simp at he
      · have e2 : (h.drop st).tips s = h.tips s := updN_ne _ _ b
        rw [e2] at he; exact ⟨he, fun _ => b⟩

theorem fresh_row (I : Inv X g w h) {w' : World} {t : TypeId} {size : Nat} {v' : Value} {n : Nat} {xs : List Value} (ow : w'.ownsRow w.heap.size t size v' n xs) (hn : 0 < n ∨ v' ≠ .slice none 0 0)
    (hg : w.grownBy w' none) (st : Nat) (L : List V) (hL : L.length = n) (he : ∀ v ∈ L, v.cells.length = size) (ho : ∀ u ∈ xs, u.oneCell' = true)
    (hr : ∀ i (h1 : i < (cellsOf L).length) (h2 : i < xs.length), Rel X g w h ((cellsOf L)[i]) (xs[i])) :
    ∃ g', Inv X g' w' (h.push st size) ∧ Stp g w h g' w' (h.push st size) ∧ Rel X g' w' (h.push st size) (.sl size h.next L) v' := by
  subst hL
  rcases ow.2 with ⟨hv0, h0⟩ | ⟨b, cap, cur, rfl, hb, hheap, hnc, hcm, hsz, htake⟩
  · rcases hn with hn | hn
    · omega
    · exact absurd hv0 hn
  have hlt : h.next < (h.push st size).next := by rw [push_next]; omega
  have hcells := ow.cells (g := b) rfl
  have hxs : xs.length = L.length * size := ow.1
  have hFl : (cellsOf L).length = L.length * size := cellsOf_length he
  have hblk : ∀ k, k < w.heap.size → w'.heap[k]? = w.heap[k]? := fun k hk => hg.block k hk (by simp)
  have hblt : b < w'.heap.size := (Array.getElem?_eq_some_iff.1 hheap).1
  have S : Stp g w h { g with pub := updN g.pub b (L.length * size), tip := updN g.tip h.next b } w' (h.push st size) :=
    { next := by rw [push_next]; omega
      nobj := by rw [push_nobj]; exact Nat.le_refl _
      obj := fun _ _ => rfl
      mp := fun _ _ => rfl
      pub := fun k => by
        by_cases hk : k = b
        · rw [hk, I.pubB b hb]; exact Nat.zero_le _
        · exact Nat.le_of_eq (updN_ne _ _ hk).symm
      cell := fun k o hk => World.cell?_of_block (hblk k (I.pub_lt hk))
      tip := fun s hs e he => by
        rcases push_tips he with ⟨a, _⟩ | ⟨a, b', _⟩
        · omega
        · refine ⟨b', updN_ne _ _ a, updN_ne _ _ (by have := (I.tipB s e b').2.2.2; omega)⟩
      row := fun s hs e he off k r => by
        obtain ⟨c, t, hh, hl⟩ := r
        exact ⟨c, t, by rw [hblk _ (Array.getElem?_eq_some_iff.1 hh).1]; exact hh, hl⟩
      shape := fun k s hs => shape_blk hs (hblk _ (shape_lt hs)) }
  refine ⟨_, ?_, S, ?_⟩
  · exact
      { below := I.below.trans ⟨hg.os, hg.tape, hg.output, hg.size, fun k hk => hblk k (by have := I.size; omega)⟩
        next := by rw [push_next]; have := I.next; omega
        maps := fun o ho' hm => by
          rw [push_nobj] at ho'
          exact (I.maps o ho' hm).stp S rfl (fun _ _ k => by rw [hblk _ (I.objL ho')]; exact k) (by rw [push_objs])
        objs := fun o ho' hm hne => by
          rw [push_nobj] at ho'
          obtain ⟨cs', t', k1, k2, k3, k4⟩ := I.objs o ho' hm (by rw [push_objs] at hne; exact hne)
          refine ⟨cs', t', by rw [hblk _ (I.objL ho')]; exact k1, by rw [push_objs]; exact k2, k3, fun i h1 h2 => ?_⟩
          simp only [push_objs] at h1 ⊢
          exact (k4 i h1 h2).stp S
        objL := fun {o} ho' => by rw [push_nobj] at ho'; have := I.objL ho'; have := hg.size; show g.obj o < _; omega
        objB := fun o ho' => by
          rw [push_nobj] at ho'
          refine ⟨(I.objB o ho').1, fun hm' hne => ?_⟩
          show updN g.pub b (L.length * size) (g.obj o) = 0
          rw [updN_ne _ _ (by have := I.objL ho'; omega)]; exact (I.objB o ho').2 hm' (by rw [push_objs] at hne; exact hne)
        objI := fun o o' h1 h2 => I.objI o o' (by rw [push_nobj] at h1; exact h1) (by rw [push_nobj] at h2; exact h2)
        tipB := fun s e he => by
          rcases push_tips he with ⟨a, _⟩ | ⟨a, b', _⟩
          · subst a; rw [push_next]
            refine ⟨I.next, by omega, ?_⟩
            simp only [updN_same]; exact ⟨by have := I.size; omega, hblt⟩
          · obtain ⟨i1, i2, i3, i4⟩ := I.tipB s e b'
            rw [push_next]
            simp only [updN_ne _ _ a]
            exact ⟨i1, by omega, i3, by have := hg.size; omega⟩
        tipI := fun s e s' e' h1 h2 heq => by
          rcases push_tips h1 with ⟨a, _⟩ | ⟨a, b1, _⟩ <;> rcases push_tips h2 with ⟨a', _⟩ | ⟨a', b2, _⟩
          · rw [a, a']
          · simp only [a, updN_same, updN_ne _ _ a'] at heq
            have := (I.tipB s' e' b2).2.2.2; omega
          · simp only [a', updN_same, updN_ne _ _ a] at heq
            have := (I.tipB s e b1).2.2.2; omega
          · simp only [updN_ne _ _ a, updN_ne _ _ a'] at heq
            exact I.tipI s e s' e' b1 b2 heq
        tipO := fun o s e ho' he => by
          rw [push_nobj] at ho'
          rcases push_tips he with ⟨a, _⟩ | ⟨a, b1, _⟩
          · simp only [a, updN_same]; have := I.objL ho'; show g.obj o ≠ b; omega
          · simp only [updN_ne _ _ a]; exact I.tipO o s e ho' b1
        pubB := fun k hk => by
          show updN g.pub b (L.length * size) k = 0
          rw [updN_ne _ _ (by omega)]; exact I.pubB k (by have := hg.size; omega) }
  · refine .sl size h.next L b 0 cap (fun i => xs.getD i undef) (by have := I.next; omega) hlt hnc he (fun i hi => ?_) (fun i hi => ?_) ?_ (fun i hi => ?_) (by have := I.next; omega) (fun e' he' => ?_)
    · have := hcells i (xs.getD i undef) (by simp [List.getD, List.getElem?_eq_getElem (show i < xs.length by omega)])
      rw [Addr.add_lit] at this
      exact this
    · have hi2 : i < xs.length := by omega
      simp only [List.getD, List.getElem?_eq_getElem hi2, Option.getD_some]
      exact ho _ (List.getElem_mem hi2)
    · show 0 + _ ≤ updN g.pub b (L.length * size) b
      rw [updN_same]; omega
    · have hi2 : i < xs.length := by omega
      simp only [List.getD, List.getElem?_eq_getElem hi2, Option.getD_some]
      exact (hr i hi hi2).stp S
    · rw [push_new] at he'
      obtain rfl := Option.some.inj he'
      refine ⟨rfl, (updN_same _ _ _).symm, ?_, ⟨cur, t, hheap, by omega⟩⟩
      show updN g.pub b (L.length * size) b = _
      rw [updN_same]; omega

theorem heap_setCells_ne (b : Nat) : ∀ (vs : List Value) (o : Nat) (w : World) (k : Nat), k ≠ b → (w.setCells b o vs).heap[k]? = w.heap[k]?
  | [], _, _, _, _ => rfl
  | v :: vs, o, w, k, hk => by rw [World.setCells, heap_setCells_ne b vs _ _ _ hk, Below.heap_setCell _ _ _ _ hk]
theorem rowAt_setCell {b off n : Nat} (r : rowAt w b off n) (a : Addr) (u : Value) : rowAt (w.setCell a u) b off n := by
  obtain ⟨cs, t, hh, hl⟩ := r
  by_cases hb : a.block = b
  · refine ⟨(if a.spot.isSome then cs else cs.setIfInBounds a.off u), t, ?_, by split <;> simpa using hl⟩
    simp only [World.setCell, Array.getElem?_modify, hb, if_true, hh, Option.map_some]
  · exact ⟨cs, t, by rw [Below.heap_setCell _ _ _ _ (Ne.symm hb)]; exact hh, hl⟩
theorem rowAt_setCells {b off n : Nat} (b' : Nat) : ∀ (vs : List Value) (o : Nat) (w : World), rowAt w b off n → rowAt (w.setCells b' o vs) b off n
  | [], _, _, r => r
  | v :: vs, o, w, r => by rw [World.setCells]; exact rowAt_setCells b' vs _ _ (rowAt_setCell r _ _)
theorem size_setCells (b : Nat) : ∀ (vs : List Value) (o : Nat) (w : World), (w.setCells b o vs).heap.size = w.heap.size
  | [], _, _ => rfl
  | v :: vs, o, w => by rw [World.setCells, size_setCells b vs]; simp
theorem streams_setCells (b : Nat) : ∀ (vs : List Value) (o : Nat) (w : World), (w.setCells b o vs).os = w.os ∧ (w.setCells b o vs).tape = w.tape ∧ (w.setCells b o vs).output = w.output
  | [], _, _ => ⟨rfl, rfl, rfl⟩
  | v :: vs, o, w => by rw [World.setCells]; exact streams_setCells b vs (o + 1) (w.setCell ⟨b, o, none⟩ v)

theorem grow_tip (I : Inv X g w h) {st size e1 : Nat} {l : List V} {b off cap : Nat} (ht : h.tips st = some size) (rl : Rel X g w h (.sl e1 st l) (.slice (some ⟨b, off, none⟩) l.length cap))
    (m : List V) (hm : ∀ v ∈ m, v.cells.length = size) (news : List Value) (hnews : news.length = (cellsOf m).length) (ho : ∀ u ∈ news, u.oneCell' = true)
    (hr : ∀ i (h1 : i < (cellsOf m).length) (h2 : i < news.length), Rel X g w h ((cellsOf m)[i]) (news[i])) (hroom : l.length + m.length ≤ cap) :
    ∃ g', Inv X g' (w.setCells b (off + l.length * size) news) (h.push st size) ∧ Stp g w h g' (w.setCells b (off + l.length * size) news) (h.push st size) ∧
      Rel X g' (w.setCells b (off + l.length * size) news) (h.push st size) (.sl size h.next (l ++ m)) (.slice (some ⟨b, off, none⟩) (l.length + m.length) cap) := by
  generalize hla : (some (⟨b, off, none⟩ : Addr)) = la at rl
  generalize hlen : l.length = ll at rl
  cases rl with
  | slnil => simp at hla
  | slemp => have := (I.tipB _ _ ht).1; omega
  | sl _ _ _ b' off' _ x k1 ks kcap ke kc ko kp kr k2 k3 =>
  simp at hla
  obtain ⟨rfl, rfl⟩ := hla
  obtain ⟨rfl, hbt, hpub, hrow⟩ := k3 size ht
  obtain ⟨t1, t2, t3, t4⟩ := I.tipB st size ht
  have hFl := cellsOf_length ke
  have hFm := cellsOf_length hm
  have hrow' : rowAt w b off ((l.length + m.length) * size) := by
    obtain ⟨c, t, hh, hl⟩ := hrow
    refine ⟨c, t, hh, ?_⟩
    have := Nat.mul_le_mul_right size hroom
    omega
  have hold : ∀ j, j < news.length → (w.cell? ⟨b, off + l.length * size + j, none⟩).isSome = true := fun j hj => by
    obtain ⟨c, t, hh, hl⟩ := hrow'
    rw [Nat.add_mul] at hl
    have : off + l.length * size + j < c.size := by omega
    simp [World.cell?, hh, this]
  have hin := World.cell?_setCells_in b news (off + l.length * size) w hold
  have hout : ∀ k o, (k = b → o < off + l.length * size) → (w.setCells b (off + l.length * size) news).cell? ⟨k, o, none⟩ = w.cell? ⟨k, o, none⟩ := fun k o hk =>
    World.cell?_setCells_out b news _ w _ (fun h1 _ => .inl (hk h1))
  have S : Stp g w h { g with pub := updN g.pub b (off + (l.length + m.length) * size), tip := updN g.tip h.next b } (w.setCells b (off + l.length * size) news) (h.push st size) :=
    { next := by rw [push_next]; omega
      nobj := by rw [push_nobj]; exact Nat.le_refl _
      obj := fun _ _ => rfl
      mp := fun _ _ => rfl
      pub := fun k => by
        by_cases hk : k = b
        · subst hk; simp only [updN_same]; rw [hpub, Nat.add_mul]; omega
        · exact Nat.le_of_eq (updN_ne _ _ hk).symm
      cell := fun k o hk => hout k o (fun e => by subst e; omega)
      tip := fun s hs e he => by
        rcases push_tips he with ⟨a, _⟩ | ⟨a, b', c⟩
        · omega
        · refine ⟨b', updN_ne _ _ a, updN_ne _ _ (fun e' => c t1 (I.tipI s e st size b' ht (by rw [e', hbt])))⟩
      row := fun s hs e he off' k r => rowAt_setCells b _ _ _ r
      shape := fun k s hs => shape_setCells b _ _ _ hs }
  refine ⟨_, ?_, S, ?_⟩
  · obtain ⟨s1, s2, s3⟩ := streams_setCells b news (off + l.length * size) w
    exact
      { below := I.below.trans ⟨s1, s2, s3, Nat.le_of_eq (size_setCells b _ _ _).symm, fun k hk => heap_setCells_ne b _ _ _ _ (by omega)⟩
        next := by rw [push_next]; have := I.next; omega
        maps := fun o ho' hm => by
          rw [push_nobj] at ho'
          exact (I.maps o ho' hm).stp S rfl (fun _ _ k => by rw [heap_setCells_ne b _ _ _ _ (by rw [hbt]; exact I.tipO o st size ho' ht)]; exact k) (by rw [push_objs])
        objs := fun o ho' hm hne => by
          rw [push_nobj] at ho'
          obtain ⟨cs', t', j1, j2, j3, j4⟩ := I.objs o ho' hm (by rw [push_objs] at hne; exact hne)
          refine ⟨cs', t', by rw [heap_setCells_ne b _ _ _ _ (by rw [hbt]; exact I.tipO o st size ho' ht)]; exact j1, by rw [push_objs]; exact j2, j3, fun i h1 h2 => ?_⟩
          simp only [push_objs] at h1 ⊢
          exact (j4 i h1 h2).stp S
        objL := fun {o} ho' => by rw [push_nobj] at ho'; have := I.objL ho'; rw [size_setCells]; exact this
        objB := fun o ho' => by
          rw [push_nobj] at ho'
          refine ⟨(I.objB o ho').1, fun hm' hne => ?_⟩
          show updN g.pub b _ (g.obj o) = 0
          rw [updN_ne _ _ (by rw [hbt]; exact I.tipO o st size ho' ht)]; exact (I.objB o ho').2 hm' (by rw [push_objs] at hne; exact hne)
        objI := fun o o' h1 h2 => I.objI o o' (by rw [push_nobj] at h1; exact h1) (by rw [push_nobj] at h2; exact h2)
        tipB := fun s e he => by
          rcases push_tips he with ⟨a, _⟩ | ⟨a, b', _⟩
          · subst a; rw [push_next, size_setCells]
            refine ⟨I.next, by omega, ?_⟩
            simp only [updN_same]; rw [hbt]; exact ⟨t3, t4⟩
          · obtain ⟨i1, i2, i3, i4⟩ := I.tipB s e b'
            rw [push_next, size_setCells]
            simp only [updN_ne _ _ a]
            exact ⟨i1, by omega, i3, i4⟩
        tipI := fun s e s' e' h1 h2 heq => by
          rcases push_tips h1 with ⟨a, _⟩ | ⟨a, b1, c1⟩ <;> rcases push_tips h2 with ⟨a', _⟩ | ⟨a', b2, c2⟩
          · rw [a, a']
          · simp only [a, updN_same, updN_ne _ _ a'] at heq
            exact absurd (I.tipI s' e' st size b2 ht (by rw [← heq, hbt])) (c2 t1)
          · simp only [a', updN_same, updN_ne _ _ a] at heq
            exact absurd (I.tipI s e st size b1 ht (by rw [heq, hbt])) (c1 t1)
          · simp only [updN_ne _ _ a, updN_ne _ _ a'] at heq
            exact I.tipI s e s' e' b1 b2 heq
        tipO := fun o s e ho' he => by
          rw [push_nobj] at ho'
          rcases push_tips he with ⟨a, _⟩ | ⟨a, b1, _⟩
          · simp only [a, updN_same]; rw [hbt]; exact I.tipO o st size ho' ht
          · simp only [updN_ne _ _ a]; exact I.tipO o s e ho' b1
        pubB := fun k hk => by
          rw [size_setCells] at hk
          show updN g.pub b _ k = 0
          rw [updN_ne _ _ (by omega)]; exact I.pubB k hk }
  · have e1 : l.length + m.length = (l ++ m).length := by simp
    have hap : (cellsOf (l ++ m)).length = (l.length + m.length) * size := by rw [cellsOf_append, List.length_append, hFl, hFm, Nat.add_mul]
    have hlt : h.next < (h.push st size).next := by rw [push_next]; omega
    rw [e1] at S ⊢
    refine .sl size h.next (l ++ m) b off cap (fun i => if i < l.length * size then x i else news.getD (i - l.length * size) undef) (by have := I.next; omega) hlt (by rw [← e1]; exact hroom)
      (fun v hv => (List.mem_append.1 hv).elim (ke v) (hm v)) (fun i hi => ?_) (fun i hi => ?_) ?_ (fun i hi => ?_) (by have := I.next; omega) (fun e' he' => ?_)
    · rw [hap, Nat.add_mul] at hi
      by_cases a : i < l.length * size
      · simp only [if_pos a]; rw [hout b (off + i) (fun _ => by omega)]; exact kc i (by omega)
      · simp only [if_neg a]
        have := hin (i - l.length * size) (by omega)
        rw [show off + l.length * size + (i - l.length * size) = off + i by omega] at this
        rw [this, List.getD, List.getElem?_eq_getElem (by omega)]; rfl
    · rw [hap, Nat.add_mul] at hi
      by_cases a : i < l.length * size
      · simp only [if_pos a]; exact ko i (by omega)
      · have hi2 : i - l.length * size < news.length := by omega
        simp only [if_neg a, List.getD, List.getElem?_eq_getElem hi2, Option.getD_some]
        exact ho _ (List.getElem_mem hi2)
    · show _ ≤ updN g.pub b _ b
      rw [updN_same, hap, e1]; exact Nat.le_refl _
    · have hi' := hi
      rw [hap, Nat.add_mul] at hi'
      by_cases a : i < l.length * size
      · simp only [if_pos a]
        have hFi : i < (cellsOf l).length := by omega
        have e2 : (cellsOf (l ++ m))[i] = (cellsOf l)[i] := by simp only [cellsOf_append]; exact List.getElem_append_left hFi
        rw [e2]; exact (kr i hFi).stp S
      · have hi2 : i - l.length * size < news.length := by omega
        simp only [if_neg a, List.getD, List.getElem?_eq_getElem hi2, Option.getD_some]
        have e2 : (cellsOf (l ++ m))[i] = (cellsOf m)[i - l.length * size]'(by omega) := by
          simp only [cellsOf_append]; rw [List.getElem_append_right (by omega)]; simp only [hFl]
        rw [e2]; exact (hr _ _ hi2).stp S
    · rw [push_new] at he'
      obtain rfl := Option.some.inj he'
      refine ⟨rfl, (updN_same _ _ _).symm, ?_, rowAt_setCells b _ _ _ hrow⟩
      show updN g.pub b _ b = _
      rw [updN_same]

theorem rangeMap_get {x : Nat → Value} {n i : Nat} {u : Value} (e : ((List.range n).map x)[i]? = some u) : i < n ∧ u = x i := by
  have hi : i < n := by
    have := (List.getElem?_eq_some_iff.1 e).1; simpa using this
  simp [hi] at e
  exact ⟨hi, e.symm⟩

/-- The bytes of a string, behind a slice. -/
theorem apps_run (I : Inv X g w h) {t u ty e : TypeId} {i : TypeInfo} {z : Value} (ht : X.P.underlying t = some (.slice e)) (hu : X.P.underlying u = some .string) (hi : X.P.info? e = some i) (hz : i.zero = some z)
    (hzs : z.cells.size = 1) (hs1 : i.size = 1) (hb1 : i.bytes = 1) {e1 st : Nat} {l : List V} {x : Value} (rx : Rel X g w h (.sl e1 st l) x) (s : List UInt8)
    (hm : s ≠ []) (hst : st = 1 ∨ st = 2 ∨ h.tips st = some 1) (hl : l = [] ∨ e1 = 1) (hb : (l.length + s.length) * 1 ≤ 2 ^ 46) (htx : ∀ b off sp n c, x = .slice (some ⟨b, off, sp⟩) n c → off = 0 ∧ ∃ k, w.shape? b = some (e, k) ∧ c ≤ k) :
    ∃ v' g' w', (Builtin.append_ #[t, u] ty #[x, .string ⟨s.toArray⟩]).run X.P w = .ok v' w' ∧ Inv X g' w' (h.push st 1) ∧ Stp g w h g' w' (h.push st 1) ∧
      Rel X g' w' (h.push st 1) (.tys e (.sl 1 h.next (l ++ bytesV s))) v' := by
  have hmpos : 0 < s.length := List.length_pos_iff.2 hm
  have hsz : (⟨s.toArray⟩ : ByteArray).size = s.length := by simp [ByteArray.size]
  have hcl : ∀ s : List UInt8, cellsOf (bytesV s) = bytesV s := fun s => by
    induction s with
    | nil => rfl
    | cons a l ih => simp only [bytesV, List.map_cons, cellsOf_cons, V.cells, List.singleton_append] at *; rw [ih]
  have hbl : (bytesV s).length = s.length := by simp [bytesV]
  have hbv : ∀ v ∈ bytesV s, v.cells.length = 1 := fun v hv => by simp [bytesV] at hv; obtain ⟨b, _, rfl⟩ := hv; rfl
  generalize hnews : Lib.strCells ⟨s.toArray⟩ = news
  have hne : news = s.map fun b => Value.int .u8 b.toNat := by rw [← hnews]; simp [Lib.strCells]
  have hnl : news.length = s.length := by rw [hne]; simp
  have hn1 : ∀ u ∈ news, u.oneCell' = true := fun u hu => by rw [hne] at hu; simp at hu; obtain ⟨b, _, rfl⟩ := hu; rfl
  have hnr : ∀ j (h1 : j < (cellsOf (bytesV s)).length) (h2 : j < news.length), Rel X g w h ((cellsOf (bytesV s))[j]) (news[j]) := fun j h1 h2 => by
    have hj : j < s.length := by omega
    have e1 : (cellsOf (bytesV s))[j] = .int .u8 (s[j].toNat : Int) := by
      have : (cellsOf (bytesV s))[j]? = some (.int .u8 (s[j].toNat : Int)) := by rw [hcl]; simp [bytesV, hj]
      exact (List.getElem_eq_iff h1).2 this
    have e2 : news[j] = .int .u8 (s[j].toNat : Int) := by
      have : news[j]? = some (.int .u8 (s[j].toNat : Int)) := by rw [hne]; simp [hj]
      exact (List.getElem_eq_iff h2).2 this
    rw [e1, e2]; exact .int _ _
  have hfc : ∀ w : World, (Builtin.firstCells 1 s.length (.string ⟨s.toArray⟩)).run X.P w = .ok news.toArray w := fun w => by
    have := Lib.run_firstCells_string (P := X.P) w 1 ⟨s.toArray⟩
    rw [hsz, hnews] at this; exact this
  have hsmall : l.length + s.length ≤ 2 ^ 46 := by omega
  have h63 : l.length + s.length ≤ maxLen := by unfold maxLen; omega
  have fresh : ∀ (olds : List Value) (cap : Nat), cap < olds.length + s.length → olds.length = l.length → (∀ u ∈ olds, u.oneCell' = true) → (∀ v ∈ l, v.cells.length = 1) → (∀ j (h1 : j < (cellsOf l).length) (h2 : j < olds.length), Rel X g w h ((cellsOf l)[j]) (olds[j])) →
      ∀ v' w', v' = .slice (some ⟨w.heap.size, 0, none⟩) (l.length + s.length) (grownCap w (l.length + s.length) cap e) → w' = w.drew.alloc (.cells (olds.toArray ++ news.toArray ++ Builtin.zeroCells z.cells (grownCap w (l.length + s.length) cap e - (l.length + s.length))) e) →
      ∃ g', Inv X g' w' (h.push st 1) ∧ Stp g w h g' w' (h.push st 1) ∧ Rel X g' w' (h.push st 1) (.tys e (.sl 1 h.next (l ++ bytesV s))) v' := fun olds cap hcap hol ho1 hle hor v' w' hv hw => by
    subst hv; subst hw
    have hge := grownCap_ge w (l.length + s.length) cap e
    have hcm : grownCap w (l.length + s.length) cap e ≤ maxLen := grownCap_le_maxLen w (l.length + s.length) cap e h63
    have hFl := cellsOf_length hle
    have hT : ∀ b off sp, (some ⟨w.heap.size, 0, none⟩ : Option Addr) = some ⟨b, off, sp⟩ → off = 0 ∧ ∃ k, (w.drew.alloc (.cells (olds.toArray ++ news.toArray ++ Builtin.zeroCells z.cells (grownCap w (l.length + s.length) cap e - (l.length + s.length))) e)).shape? b = some (e, k) ∧ grownCap w (l.length + s.length) cap e ≤ k := fun b off sp q => by
      simp at q
      obtain ⟨rfl, rfl, rfl⟩ := q
      refine ⟨rfl, _, by unfold World.shape?; rw [show (w.drew.alloc (.cells (olds.toArray ++ news.toArray ++ Builtin.zeroCells z.cells (grownCap w (l.length + s.length) cap e - (l.length + s.length))) e)).heap[w.heap.size]? = _ from heap_alloc_new w.drew _], ?_⟩
      simp only [Array.size_append, List.size_toArray, size_zeroCells, hzs, hol, hnl]; omega
    obtain ⟨g', I', S, r⟩ := fresh_row I (w' := w.drew.alloc (.cells (olds.toArray ++ news.toArray ++ Builtin.zeroCells z.cells (grownCap w (l.length + s.length) cap e - (l.length + s.length))) e)) (t := e) (size := 1) (n := l.length + s.length) (xs := olds ++ news) ⟨by simp [hol, hnl], .inr ⟨w.heap.size, _, _, rfl, Nat.le_refl _, heap_alloc_new w.drew _, hge, hcm, by simp only [Array.size_append, List.size_toArray, size_zeroCells, hzs, hol, hnl]; omega, by
      simp only [Array.toList_append, List.append_assoc]
      rw [← List.append_assoc, show (l.length + s.length) * 1 = (olds ++ news).length by simp [hol, hnl]]
      exact List.take_left⟩⟩ (.inl (by omega)) ⟨rfl, rfl, rfl, by simp, fun k hk _ => heap_alloc_old w.drew _ k hk⟩ st (l ++ bytesV s) (by simp [hbl])
      (fun v hv => (List.mem_append.1 hv).elim (hle v) (hbv v)) (fun u hu => (List.mem_append.1 hu).elim (ho1 u) (hn1 u)) (fun j a b => by
      rcases Nat.lt_or_ge j olds.length with hj | hj
      · have e2 : (cellsOf (l ++ bytesV s))[j] = (cellsOf l)[j]'(by omega) := by simp only [cellsOf_append]; exact List.getElem_append_left (by omega)
        have e3 : (olds ++ news)[j] = olds[j] := List.getElem_append_left hj
        rw [e2, e3]; exact hor j (by omega) hj
      · have e3 : (olds ++ news)[j] = news[j - olds.length]'(by simp at b; omega) := List.getElem_append_right hj
        have e2 : (cellsOf (l ++ bytesV s))[j] = (cellsOf (bytesV s))[j - olds.length]'(by simp at a; omega) := by
          simp only [cellsOf_append]; rw [List.getElem_append_right (by omega)]; congr 1; omega
        rw [e2, e3]; exact hnr _ _ _)
    exact ⟨g', I', S, .tys _ _ _ _ _ r hT⟩
  cases rx with
  | slemp =>
    rcases hst with h1 | h1 | h1
    · omega
    · omega
    · have := (I.tipB _ _ h1).1; omega
  | slnil _ _ hst1 =>
    have hr := run_append_nil_string (P := X.P) w t u ty e i z ht hu hi hz ⟨s.toArray⟩ (by rw [hsz]; exact hmpos) (by rw [hsz]; omega) (by rw [hsz, hb1]; omega)
    rw [hsz] at hr
    obtain ⟨g', I', S, r⟩ := fresh [] 0 (by simpa using hmpos) rfl (by simp) (by simp) (by simp) _ _ rfl rfl
    refine ⟨_, g', _, hr.trans ?_, I', S, r⟩
    simp [hne]
  | sl _ _ _ b off cap x k1 ks kcap ke kc ko kp kr k2 k3 =>
    have hle : ∀ v ∈ l, v.cells.length = 1 := by
      rcases hl with rfl | rfl
      · simp
      · exact ke
    have hFl' := cellsOf_length hle
    generalize holds : (List.range (cellsOf l).length).map x = olds
    have hol : olds.length = l.length := by rw [← holds]; simp [hFl']
    have hget : ∀ j u, olds[j]? = some u → j < (cellsOf l).length ∧ u = x j := fun j u hu => by
      rw [← holds] at hu; exact rangeMap_get hu
    by_cases hroom : l.length + s.length ≤ cap
    · have htip : h.tips st = some 1 := by
        rcases hst with h1 | h1 | h1
        · exact absurd h1 k1
        · have := k2 h1; omega
        · exact h1
      have rl := Rel.sl (X := X) (g := g) (w := w) (h := h) e1 st l b off cap x k1 ks kcap ke kc ko kp kr k2 k3
      obtain ⟨g', I', S, r⟩ := grow_tip I htip rl (bytesV s) hbv news (by rw [hnl, hcl, hbl]) hn1 hnr (by rw [hbl]; exact hroom)
      have hcc : ∀ j, j < news.length → (w.cell? ⟨b, off + l.length * 1 + j, none⟩).isSome = true ∧ w.frozen? ⟨b, off + l.length * 1 + j, none⟩ = false := fun j hj => by
        obtain ⟨q1, q2, q3, c, t', hh, hlc⟩ := k3 _ htip
        rw [← q1] at hlc
        have : off + l.length + j < c.size := by omega
        simp [World.cell?, World.frozen?, hh, this]
      have hstc := run_storeCells_cells (P := X.P) b (off + l.length * 1) news 0 w (by simpa using fun j hj => (hcc j hj).1) (by simpa using fun j hj => (hcc j hj).2) hn1
      simp only [Nat.add_zero, Nat.mul_one] at hstc
      refine ⟨_, g', _, ?_, I', S, .tys _ _ _ _ _ (by rw [hbl] at r; exact r) (fun b' off' sp' q => by
        simp at q
        obtain ⟨rfl, rfl, rfl⟩ := q
        obtain ⟨q1, k, q2, q3⟩ := htx _ _ _ _ _ rfl
        exact ⟨q1, k, shape_setCells _ _ _ _ q2, q3⟩)⟩
      simp [Builtin.append_, run_underlying ht, run_underlying hu, sizeOf, typeInfo, hi, hs1, Builtin.lenOf, hsz, hroom, hfc, Addr.add_lit, hstc]
    · have hocell : ∀ j u, olds[j]? = some u → w.cell? ((⟨b, off, none⟩ : Addr).add j) = some u := fun j u hu => by
        obtain ⟨a, rfl⟩ := hget j u hu
        rw [Addr.add_lit]; exact kc j (by
          rcases hl with rfl | rfl
          · simp at a
          · exact a)
      have hr := Lib.run_append_grow_string (P := X.P) w t u ty e i z ht hu hi hz ⟨b, off, none⟩ l.length cap olds (by rw [hol, hs1]; omega) hocell ⟨s.toArray⟩ (by rw [hsz]; omega) (by rw [hsz]; omega) (by
        rw [hsz]; exact growslice_fits (by omega) (by rw [hb1]; omega))
      rw [hsz, hnews] at hr
      obtain ⟨g', I', S, r⟩ := fresh olds cap (by omega) hol (fun u hu => by
        obtain ⟨j, hj, rfl⟩ := List.getElem_of_mem hu
        have := hget j olds[j] (List.getElem?_eq_getElem hj)
        rw [this.2]; exact ko j this.1) hle (fun j h1 h2 => by
        have := hget j olds[j] (List.getElem?_eq_getElem h2)
        rw [this.2]; exact kr j h1) _ _ rfl rfl
      exact ⟨_, g', _, hr, I', S, r⟩
theorem app_run (I : Inv X g w h) {t ty e : TypeId} {i : TypeInfo} {z : Value} (ht : X.P.underlying t = some (.slice e)) (hi : X.P.info? e = some i) (hz : i.zero = some z)
    (hzs : z.cells.size = i.size) (hs0 : 0 < i.size) (hb0 : 0 < i.bytes) {e1 st : Nat} {l : List V} {x : Value} (rx : Rel X g w h (.sl e1 st l) x) {e2 st2 : Nat} {m : List V} {y : Value}
    (ry : Rel X g w h (.sl e2 st2 m) y) (hm : m ≠ []) (hst : st = 1 ∨ st = 2 ∨ h.tips st = some i.size) (hl : l = [] ∨ e1 = i.size) (he2 : e2 = i.size)
    (hb : (l.length + m.length) * i.bytes ≤ 2 ^ 46) :
    ∃ v' g' w', (Builtin.append_ #[t, t] ty #[x, y]).run X.P w = .ok v' w' ∧ Inv X g' w' (h.push st i.size) ∧ Stp g w h g' w' (h.push st i.size) ∧
      Rel X g' w' (h.push st i.size) (.sl i.size h.next (l ++ m)) v' := by
  have hmpos : 0 < m.length := List.length_pos_iff.2 hm
  have hsmall : l.length + m.length ≤ 2 ^ 46 := Nat.le_trans (Nat.le_mul_of_pos_right _ hb0) hb
  subst he2
  cases ry with
  | slnil => exact absurd rfl hm
  | slemp => exact absurd rfl hm
  | sl _ _ _ yb yoff ycap y j1 js jcap je jc jo jp jr j2 j3 =>
  have hFm := cellsOf_length je
  generalize hnews : (List.range (cellsOf m).length).map y = news
  have hnl : news.length = m.length * i.size := by rw [← hnews]; simp [hFm]
  have hncell : ∀ j u, news[j]? = some u → w.cell? ((⟨yb, yoff, none⟩ : Addr).add j) = some u := fun j u hu => by
    rw [← hnews] at hu
    obtain ⟨a, rfl⟩ := rangeMap_get hu
    rw [Addr.add_lit]; exact jc j a
  have hn1 : ∀ u ∈ news, u.oneCell' = true := fun u hu => by
    obtain ⟨j, hj, rfl⟩ := List.getElem_of_mem hu
    have := rangeMap_get (x := y) (n := (cellsOf m).length) (i := j) (u := news[j]) (by rw [hnews]; exact List.getElem?_eq_getElem hj)
    rw [this.2]; exact jo j this.1
  have hnr : ∀ j (h1 : j < (cellsOf m).length) (h2 : j < news.length), Rel X g w h ((cellsOf m)[j]) (news[j]) := fun j h1 h2 => by
    have := rangeMap_get (x := y) (n := (cellsOf m).length) (i := j) (u := news[j]) (by rw [hnews]; exact List.getElem?_eq_getElem h2)
    rw [this.2]; exact jr j h1
  have h63 : l.length + m.length ≤ maxLen := by unfold maxLen; omega
  have hby : (l.length + m.length) * i.bytes ≤ 140737488355328 := by omega
  cases rx with
  | slemp =>
    rcases hst with h1 | h1 | h1
    · omega
    · omega
    · have := (I.tipB _ _ h1).1; omega
  | slnil _ _ hst1 =>
    obtain ⟨v', w', e1', own, gr, hnil, hblk⟩ := run_append_own_at (P := X.P) (w := w) w.heap.size t ty e i z i.size i.bytes ht hi hz rfl rfl hzs hs0 (.slice none 0 0) 0 [] (World.ownsRow_nil _ _ _ _)
      ⟨yb, yoff, none⟩ m.length ycap news hnl hncell hn1 (by simpa using h63) (by simpa using hby) (Nat.le_refl _)
    obtain ⟨g', I', S, r⟩ := fresh_row I own (.inl (by omega)) gr st m (by simp) je (by simpa using hn1) (fun j a b => by simpa using hnr j a (by simpa using b))
    exact ⟨v', g', w', e1', I', S, by simpa using r⟩
  | sl _ _ _ b off cap x k1 ks kcap ke kc ko kp kr k2 k3 =>
    have hFl := cellsOf_length ke
    have hle : ∀ v ∈ l, v.cells.length = i.size := by
      rcases hl with rfl | rfl
      · simp
      · exact ke
    have hFl' := cellsOf_length hle
    generalize holds : (List.range (cellsOf l).length).map x = olds
    have hol : olds.length = l.length * i.size := by rw [← holds]; simp [hFl']
    have hocell : ∀ j u, olds[j]? = some u → w.cell? ((⟨b, off, none⟩ : Addr).add j) = some u := fun j u hu => by
      rw [← holds] at hu
      obtain ⟨a, rfl⟩ := rangeMap_get hu
      rw [Addr.add_lit]; exact kc j a
    by_cases hroom : l.length + m.length ≤ cap
    · have htip : h.tips st = some i.size := by
        rcases hst with h1 | h1 | h1
        · exact absurd h1 k1
        · have := k2 h1; omega
        · exact h1
      have rl := Rel.sl (X := X) (g := g) (w := w) (h := h) e1 st l b off cap x k1 ks kcap ke kc ko kp kr k2 k3
      obtain ⟨g', I', S, r⟩ := grow_tip I htip rl m je news (by rw [hnl, hFm]) hn1 hnr hroom
      have hcc : ∀ j, j < news.length → (w.cell? ⟨b, off + l.length * i.size + j, none⟩).isSome = true ∧ w.frozen? ⟨b, off + l.length * i.size + j, none⟩ = false := fun j hj => by
        obtain ⟨q1, q2, q3, c, t', hh, hlc⟩ := k3 _ htip
        have := Nat.mul_le_mul_right i.size hroom
        rw [Nat.add_mul] at this
        rw [← q1] at hlc
        have : off + l.length * i.size + j < c.size := by omega
        simp [World.cell?, World.frozen?, hh, this]
      refine ⟨_, g', _, run_append_room_cells (P := X.P) w t ty e i ht hi b off l.length cap ⟨yb, yoff, none⟩ m.length ycap news hnl hncell hn1 hroom (fun j hj => (hcc j hj).1) (fun j hj => (hcc j hj).2), I', S, r⟩
    · obtain ⟨v', w', e1', own, gr⟩ := run_append_arg_grows (P := X.P) w t ty e i z i.size i.bytes ht hi hz rfl rfl hzs hs0 ⟨b, off, none⟩ l.length cap olds hol hocell ⟨yb, yoff, none⟩ m.length ycap news hnl hncell (by omega) h63 hby
      have hx1 : ∀ u ∈ olds ++ news, u.oneCell' = true := fun u hu => by
        rcases List.mem_append.1 hu with hu | hu
        · obtain ⟨j, hj, rfl⟩ := List.getElem_of_mem hu
          have := rangeMap_get (x := x) (n := (cellsOf l).length) (i := j) (u := olds[j]) (by rw [holds]; exact List.getElem?_eq_getElem hj)
          rw [this.2]; exact ko j this.1
        · exact hn1 u hu
      obtain ⟨g', I', S, r⟩ := fresh_row I own (.inl (by omega)) gr st (l ++ m) (by simp) (fun v hv => (List.mem_append.1 hv).elim (hle v) (je v)) hx1 (fun j a b => by
        have hj : j < olds.length ∨ olds.length ≤ j := Nat.lt_or_ge _ _
        rcases hj with hj | hj
        · have e2 : (cellsOf (l ++ m))[j] = (cellsOf l)[j]'(by omega) := by simp only [cellsOf_append]; exact List.getElem_append_left (by omega)
          have e3 : (olds ++ news)[j] = olds[j] := List.getElem_append_left hj
          have := rangeMap_get (x := x) (n := (cellsOf l).length) (i := j) (u := olds[j]) (by rw [holds]; exact List.getElem?_eq_getElem hj)
          rw [e2, e3, this.2]; exact kr j (by omega)
        · have e3 : (olds ++ news)[j] = news[j - olds.length]'(by simp at b; omega) := List.getElem_append_right hj
          have hq : (cellsOf l).length ≤ j := by omega
          have e2 : (cellsOf (l ++ m))[j] = (cellsOf m)[j - olds.length]'(by simp at a; omega) := by
            simp only [cellsOf_append]; rw [List.getElem_append_right hq]; congr 1; omega
          rw [e2, e3]; exact hnr _ _ _)
      exact ⟨v', g', w', e1', I', S, r⟩

end
end Go.Proofs.Ytajaoldljichaaa.Al
namespace Go.Proofs.Ytajaoldljichaaa.Al
open Go Go.RowKit
set_option linter.unusedSimpArgs false
set_option linter.unusedVariables false

section
variable {X : Cx} {g : Gh} {w : World} {h : AH} {K : V → AH → Prop}

/-! ### Types -/
theorem run_tyAgg {P : Program} {t : TypeId} {b : Bool} (e : tyAgg P t = some b) (w : World) : (isAgg t).run P w = .ok b w := by
  unfold tyAgg at e
  unfold isAgg
  split at e
  · rename_i hd; simp at e; subst e; simp [run_underlying hd]
  · rename_i hd; simp at e; subst e; simp [run_underlying hd]
  · rename_i d hd1 hd2 hd; simp at e; subst e
    cases d <;> first | (simp [run_underlying hd]; done) | (exact absurd rfl (hd1 _)) | (exact absurd rfl (hd2 _ _))
  · simp at e
theorem tySize_info {P : Program} {t : TypeId} {n : Nat} (e : tySize P t = some n) : ∃ i, P.info? t = some i ∧ i.size = n := by
  unfold tySize at e; split at e
  · rename_i i hi; simp at e; exact ⟨i, hi, e⟩
  · simp at e
theorem run_tySize {P : Program} {t : TypeId} {n : Nat} (e : tySize P t = some n) (w : World) : (sizeOf t).run P w = .ok n w := by
  obtain ⟨i, hi, rfl⟩ := tySize_info e
  simp [sizeOf, typeInfo, hi]
theorem tyZero_spec {P : Program} {t : TypeId} {l : List V} (e : tyZero P t = some l) : ∃ i z, P.info? t = some i ∧ i.zero = some z ∧ leafVs z.cells.toList = some l ∧ z.cells.all (·.oneCell') = true := by
  unfold tyZero at e
  split at e
  · rename_i i hi
    split at e
    · rename_i z hz
      split at e
      · rename_i m hm
        split at e
        · rename_i ha; simp at e; subst e; exact ⟨i, z, hi, hz, hm, ha⟩
        · simp at e
      · simp at e
    · simp at e
  · simp at e
theorem run_zero {P : Program} {t : TypeId} {i : TypeInfo} {z : Value} (h1 : P.info? t = some i) (h2 : i.zero = some z) (w : World) : (zeroValue t).run P w = .ok z w := by
  simp [zeroValue, typeInfo, h1, h2]
theorem leafVs_rel {z : Array Value} {l : List V} (e : leafVs z.toList = some l) : l.length = z.size ∧ ∀ i (h1 : i < l.length) (h2 : i < z.size), Rel X g w h (l[i]) (z[i]) := by
  obtain ⟨k1, k2⟩ := leafVs_spec e
  refine ⟨by simpa using k1, fun i h1 h2 => ?_⟩
  have := k2 i h1 (by simpa using h2)
  simp at this
  exact leafV_rel this
theorem tyElem_spec {P : Program} {t e : TypeId} (h : tyElem P t = some e) : P.underlying t = some (.slice e) := by
  unfold tyElem at h; split at h
  · rename_i h'; simp at h; subst h; exact h'
  · simp at h

theorem Out.of_run {s : Sem Value} {x : Value} {w' : World} {g' : Gh} {h' : AH} {v : V} (e : s.run X.P w = .ok x w') (hk : K v h') (I : Inv X g' w' h') (r : Rel X g' w' h' v x) (S : Stp g w h g' w' h') :
    Out X g w h K ((do pure (Next.value (← s)) : Sem Next).run X.P w) :=
  ⟨v, h', x, g', w', hk, I, r, S, .inl (by simp [e])⟩
theorem Out.same {s : Sem Value} {x : Value} {v : V} (I : Inv X g w h) (e : s.run X.P w = .ok x w) (hk : K v h) (r : Rel X g w h v x) :
    Out X g w h K ((do pure (Next.value (← s)) : Sem Next).run X.P w) := Out.of_run e hk I r (Stp.refl _ _ _)

/-! ### alloc, box -/
theorem out_alloc (I : Inv X g w h) {t : TypeId} {z : List V} (e : tyZero X.P t = some z) (hk : K (.ptr h.nobj 0) (h.new z)) :
    Out X g w h K ((do pure (Next.value (← Instr.alloc t true (.tuple #[]))) : Sem Next).run X.P w) := by
  obtain ⟨i, zv, h1, h2, h3, h4⟩ := tyZero_spec e
  obtain ⟨k1, k2⟩ := leafVs_rel (X := X) (g := g) (w := w) (h := h) h3
  obtain ⟨g', I', S, ho, hmm⟩ := new_obj I z zv.cells t (Nat.le_of_eq k1) (fun i hi => by
    have := Array.all_eq_true.1 h4 i hi; exact this) k2
  refine Out.of_run (x := .pointer (some ⟨w.heap.size, 0, none⟩)) ?_ hk I' ?_ S
  · simp [Instr.alloc, run_zero h1 h2, newVar, newRow]
  · rw [← ho]; exact .ptr _ _ (by simp [AH.new]) hmm
theorem out_alct (I : Inv X g w h) {t : TypeId} {z : List V} (e : tyZero X.P t = some z) (hk : K (.tp h.nobj t z.length) (h.new z)) :
    Out X g w h K ((do pure (Next.value (← Instr.alloc t true (.tuple #[]))) : Sem Next).run X.P w) := by
  obtain ⟨i, zv, h1, h2, h3, h4⟩ := tyZero_spec e
  obtain ⟨k1, k2⟩ := leafVs_rel (X := X) (g := g) (w := w) (h := h) h3
  obtain ⟨g', I', S, ho, hmm⟩ := new_obj I z zv.cells t (Nat.le_of_eq k1) (fun i hi => by
    have := Array.all_eq_true.1 h4 i hi; exact this) k2
  refine Out.of_run (x := .pointer (some ⟨w.heap.size, 0, none⟩)) ?_ hk I' ?_ S
  · simp [Instr.alloc, run_zero h1 h2, newVar, newRow]
  · rw [← ho]
    refine .tp _ _ _ (by simp [AH.new]) hmm ?_
    rw [ho, k1]
    have : (w.alloc (.cells zv.cells t)).heap[w.heap.size]? = some (.cells zv.cells t (0, 0)) := heap_alloc_new w _
    unfold World.shape?; rw [this]
theorem out_box (I : Inv X g w h) (t : TypeId) {v : V} {x : Value} (r : Rel X g w h v x) (hg : v.good = true) (hk : K (.ptr h.nobj 0) (h.new v.cells)) :
    Out X g w h K ((do pure (Next.value (← Instr.box t x)) : Sem Next).run X.P w) := by
  obtain ⟨k1, k2, k3⟩ := r.cells hg
  obtain ⟨g', I', S, ho, hmm⟩ := new_obj I v.cells x.cells t (Nat.le_of_eq k1) k2 k3
  refine Out.of_run (x := .pointer (some ⟨w.heap.size, 0, none⟩)) ?_ hk I' ?_ S
  · simp [Instr.box, newVar, newRow]
  · rw [← ho]; exact .ptr _ _ (by simp [AH.new]) hmm

/-! ### load -/
/-- What lies at an address, cell by cell. -/
theorem load_cells {t : TypeId} {gg : Bool} {n : Nat} (h1 : tyAgg X.P t = some gg) (h2 : tySize X.P t = some n) {c : List V} {off b base : Nat} (x : Nat → Value)
    (hc : ∀ i, i < c.length → w.cell? ⟨b, base + i, none⟩ = some (x i)) (ho : ∀ i, i < c.length → (x i).oneCell' = true) (hr : ∀ i (hi : i < c.length), Rel X g w h (c[i]) (x i)) {K : V → Prop}
    (hk : loadC gg n c off K) : ∃ v u, (loadVar t ⟨b, base + off, none⟩).run X.P w = .ok u w ∧ Rel X g w h v u ∧ K v := by
  cases gg with
  | true =>
    obtain ⟨hl, hk⟩ := hk
    refine ⟨_, .agg (((List.range n).map fun j => x (off + j)).toArray), ?_, ?_, hk⟩
    · have := run_loadCells (P := X.P) w ⟨b, base + off, none⟩ n (fun j => x (off + j)) (fun j hj => by
        rw [Addr.add_lit, Nat.add_assoc]; exact hc (off + j) (by omega))
      simp [loadVar, run_tyAgg h1, run_tySize h2, this]
    · refine .agg _ _ (by simp; omega) (fun i hi => ?_) (fun i i1 i2 => ?_)
      · simp at hi ⊢; exact ho _ (by omega)
      · simp at i2 ⊢; exact hr (off + i) (by omega)
  | false =>
    obtain ⟨hl, hk⟩ := hk
    refine ⟨_, x off, ?_, ?_, hk⟩
    · simp [loadVar, run_tyAgg h1, hc off hl]
    · simp only [List.getD, List.getElem?_eq_getElem hl, Option.getD_some]; exact hr off hl
/-- What lies in an object. -/
theorem load_obj {t : TypeId} {gg : Bool} {n : Nat} (h1 : tyAgg X.P t = some gg) (h2 : tySize X.P t = some n) (I : Inv X g w h) {o off : Nat} (hn : o < h.nobj) (hm : g.mp o = false) {K : V → Prop}
    (hn0 : n ≠ 0) (hk : loadC gg n (h.objs o) off K) : ∃ v u, (loadVar t ⟨g.obj o, off, none⟩).run X.P w = .ok u w ∧ Rel X g w h v u ∧ K v := by
  have hlive : h.objs o ≠ [] := fun e => by
    rw [e] at hk
    cases gg
    · have := hk.1; simp at this
    · have := hk.1; simp at this; omega
  obtain ⟨cs, t', k1, k2, k3, k4⟩ := I.objs o hn hm hlive
  have := load_cells (X := X) (g := g) (w := w) (h := h) (base := 0) h1 h2 (fun i => cs.getD i undef) (b := g.obj o) (c := h.objs o) (off := off) (fun i hi => by
    have : i < cs.size := by omega
    simp [World.cell?, k1, this, Array.getD]) (fun i hi => by
    have hi2 : i < cs.size := by omega
    simp only [Array.getD, dif_pos hi2]; exact k3 i hi2) (fun i hi => by
    have hi2 : i < cs.size := by omega
    simp only [Array.getD, dif_pos hi2]; exact k4 i hi hi2) hk
  simpa using this
theorem out_load {t : TypeId} {gg : Bool} {n : Nat} (h1 : tyAgg X.P t = some gg) (h2 : tySize X.P t = some n) (hn0 : n ≠ 0) (I : Inv X g w h) {v : V} {x : Value} (r : Rel X g w h v x)
    (hk : match (generalizing := false) v with | .ptr o off => loadC gg n (h.objs o) off (fun v => K v h) | .rptr l off => loadC gg n l off (fun v => K v h) | _ => False) :
    Out X g w h K ((do pure (Next.value (← Instr.loadAt t x)) : Sem Next).run X.P w) := by
  cases r with
  | ptr o off hn hm =>
    obtain ⟨v, u, e, r, k⟩ := load_obj h1 h2 I hn hm hn0 hk
    exact Out.same I (by simp [Instr.loadAt, Instr.sureAddr, e]) k r
  | rptr l off b base xf hc ho hp hr =>
    obtain ⟨v, u, e, r, k⟩ := load_cells (X := X) (g := g) (w := w) (h := h) h1 h2 xf hc ho hr hk
    exact Out.same I (by simp [Instr.loadAt, Instr.sureAddr, e]) k r
  | _ => exact hk.elim

/-! ### store -/
theorem out_store {t : TypeId} {n : Nat} (h2 : tySize X.P t = some n) (hn0 : n ≠ 0) (I : Inv X g w h) {v u : V} {x y : Value} (r : Rel X g w h v x) (ru : Rel X g w h u y)
    (hk : match (generalizing := false) v with | .ptr o off => u.cells.length = n ∧ u.good = true ∧ off + n ≤ (h.objs o).length ∧ K (.tup []) (h.set o (setAt (h.objs o) off u.cells)) | _ => False) :
    Out X g w h K ((do Instr.storeAt t x y; pure Next.skip : Sem Next).run X.P w) := by
  cases r with
  | ptr o off hn hm =>
    obtain ⟨a1, a2, a3, a4⟩ := hk
    obtain ⟨c1, c2, c3⟩ := ru.cells a2
    obtain ⟨w', e, I', S⟩ := store_obj I o off hn hm (fun e => by rw [e] at a3; simp at a3; omega) u.cells y.cells.toList (by simpa using c1) (by omega) (fun i hi => by simp at hi ⊢; exact c2 i hi) (fun i i1 i2 => by simp at i2 ⊢; exact c3 i i1 i2)
    refine ⟨.tup [], _, undef, g, w', a4, I', .tup [] #[] rfl (by simp), S, .inr ⟨rfl, ?_⟩⟩
    have hsz : y.cells.size = n := by omega
    simp [Instr.storeAt, Instr.sureAddr, storeVar, run_tySize h2, hsz, e]
  | _ => exact hk.elim

/-! ### numbers, strings, bools -/
theorem out_bin_int (op : BinOp) (I : Inv X g w h) (t : TypeId) (x y : Operand) (k : IntKind) (a b : Int) (hk : if isShift op then shI op k a b (fun v => K v h) else binI op k a b (fun v => K v h)) :
    Out X g w h K ((do pure (Next.value (← (do eqGuard op t x y (.int k a) (.int k b); binOp op t (.int k a) (.int k b)))) : Sem Next).run X.P w) := by
  cases op <;> simp only [isShift, if_true, if_false, Bool.false_eq_true, shI, binI] at hk
  case add => exact Out.same I (by simp [eqGuard_add, binOp, Op.intArith]) hk (.int _ _)
  case sub => exact Out.same I (by simp [eqGuard_sub, binOp, Op.intArith]) hk (.int _ _)
  case mul => exact Out.same I (by simp [eqGuard_mul, binOp, Op.intArith]) hk (.int _ _)
  case quo => exact Out.same I (by simp [eqGuard_quo, binOp, Op.intDiv, hk.1]) hk.2 (.int _ _)
  case rem => exact Out.same I (by simp [eqGuard_rem, binOp, Op.intDiv, hk.1]) hk.2 (.int _ _)
  case and => exact Out.same I (by rw [eqGuard_and]; simp only [binOp, Op.intBits, bitAnd, bitOr, bitXor, bitAndNot, Sem.run_bind, Sem.run_pure, Result.andThen_ok, ne_eq, not_true_eq_false, ↓reduceIte]) hk (.int _ _)
  case or => exact Out.same I (by rw [eqGuard_or]; simp only [binOp, Op.intBits, bitAnd, bitOr, bitXor, bitAndNot, Sem.run_bind, Sem.run_pure, Result.andThen_ok, ne_eq, not_true_eq_false, ↓reduceIte]) hk (.int _ _)
  case xor => exact Out.same I (by rw [eqGuard_xor]; simp only [binOp, Op.intBits, bitAnd, bitOr, bitXor, bitAndNot, Sem.run_bind, Sem.run_pure, Result.andThen_ok, ne_eq, not_true_eq_false, ↓reduceIte]) hk (.int _ _)
  case andNot => exact Out.same I (by rw [eqGuard_andNot]; simp only [binOp, Op.intBits, bitAnd, bitOr, bitXor, bitAndNot, Sem.run_bind, Sem.run_pure, Result.andThen_ok, ne_eq, not_true_eq_false, ↓reduceIte]) hk (.int _ _)
  case eql => exact Out.same I (by simp [eqGuard_at_int, binOp, Op.intCmp]; rfl) hk (.bool _)
  case neq => exact Out.same I (by simp [eqGuard_at_int, binOp, Op.intCmp]; rfl) hk (.bool _)
  case lss => exact Out.same I (by simp [eqGuard_at_int, binOp, Op.intCmp]) hk (.bool _)
  case leq => exact Out.same I (by simp [eqGuard_at_int, binOp, Op.intCmp]) hk (.bool _)
  case gtr => exact Out.same I (by simp [eqGuard_at_int, binOp, Op.intCmp]) hk (.bool _)
  case geq => exact Out.same I (by simp [eqGuard_at_int, binOp, Op.intCmp]) hk (.bool _)
  case shl => exact Out.same I (by simp [eqGuard_shl, binOp, Op.shift]; omega) hk.2 (.int _ _)
  case shr => exact Out.same I (by simp [eqGuard_shr, binOp, Op.shift]; omega) hk.2 (.int _ _)

theorem toList_mk (s : List UInt8) : (⟨s.toArray⟩ : ByteArray).toList = s := by
  have h : ∀ (n i : Nat) (acc : List UInt8), s.length - i = n → ByteArray.toList.loop ⟨s.toArray⟩ i acc = acc.reverse ++ s.drop i := by
    intro n
    induction n with
    | zero =>
      intro i acc hn
      unfold ByteArray.toList.loop
      have : ¬ i < (⟨s.toArray⟩ : ByteArray).size := by simp [ByteArray.size]; omega
      rw [if_neg this, List.drop_eq_nil_of_le (by omega), List.append_nil]
    | succ n ih =>
      intro i acc hn
      unfold ByteArray.toList.loop
      have hlt : i < s.length := by omega
      have : i < (⟨s.toArray⟩ : ByteArray).size := by simpa [ByteArray.size] using hlt
      rw [if_pos this, ih (i + 1) _ (by omega), List.drop_eq_getElem_cons hlt]
      simp [ByteArray.get!, hlt]
  have := h s.length 0 [] (by simp)
  simpa [ByteArray.toList] using this
theorem mk_append (s t : List UInt8) : (⟨s.toArray⟩ : ByteArray) ++ ⟨t.toArray⟩ = ⟨(s ++ t).toArray⟩ := by
  apply ByteArray.ext
  rw [ByteArray.data_append]; simp
theorem mk_size (s : List UInt8) : (⟨s.toArray⟩ : ByteArray).size = s.length := by simp [ByteArray.size]
theorem mk_extract (s : List UInt8) (a b : Nat) : (⟨s.toArray⟩ : ByteArray).extract a b = ⟨((s.take b).drop a).toArray⟩ := by
  apply ByteArray.ext
  rw [ByteArray.data_extract]
  simp only [List.extract_toArray, List.extract_eq_take_drop, List.drop_take]

theorem beq_dec (a b : List UInt8) : (a == b) = decide (a = b) := Bool.eq_iff_iff.2 (by simp)
theorem equal_unf (t : TypeId) (x y : Value) : ∃ d, Op.equal t x y = Op.equalIn (d + 1) t x y := ⟨9999, rfl⟩
theorem out_bin_str (op : BinOp) (I : Inv X g w h) (t : TypeId) (x y : Operand) (a b : List UInt8) (hk : binS op a b (fun v => K v h)) :
    Out X g w h K ((do pure (Next.value (← (do eqGuard op t x y (.string ⟨a.toArray⟩) (.string ⟨b.toArray⟩); binOp op t (.string ⟨a.toArray⟩) (.string ⟨b.toArray⟩)))) : Sem Next).run X.P w) := by
  cases op <;> simp only [binS] at hk
  case add =>
    refine Out.same I (x := .string ⟨(a ++ b).toArray⟩) ?_ hk.2 (.str _)
    have h1 := hk.1
    have : ¬ ((a.length : Int) + b.length > 9223372036854775807) := by omega
    simp [eqGuard_at_string, binOp, Op.stringOp, mk_size, mk_append]
    omega
  case eql => exact Out.same I (by simp [eqGuard_at_string, binOp, Op.stringOp, toList_mk, beq_dec]) hk (.bool _)
  case neq => exact Out.same I (by simp [eqGuard_at_string, binOp, Op.stringOp, toList_mk, beq_dec]) hk (.bool _)
  case lss => exact Out.same I (by simp [eqGuard_at_string, binOp, Op.stringOp, toList_mk]) hk (.bool _)
  case leq => exact Out.same I (by simp [eqGuard_at_string, binOp, Op.stringOp, toList_mk, beq_dec]) hk (.bool _)
  case gtr => exact Out.same I (by simp only [eqGuard_at_string, binOp, Op.stringOp, toList_mk, beq_dec, Sem.run_bind, Sem.run_pure, Result.andThen_ok]) hk (.bool _)
  case geq => exact Out.same I (by simp [eqGuard_at_string, binOp, Op.stringOp, toList_mk]) hk (.bool _)

theorem out_beq (neg : Bool) (I : Inv X g w h) (t : TypeId) (ht : X.P.underlying t = some .bool) (x y : Operand) (a b : Bool) (hk : K (.bool (xor neg (decide (a = b)))) h) :
    Out X g w h K ((do pure (Next.value (← (do eqGuard (if neg then .neq else .eql) t x y (.bool a) (.bool b); binOp (if neg then .neq else .eql) t (.bool a) (.bool b)))) : Sem Next).run X.P w) := by
  obtain ⟨d, hd⟩ := equal_unf t (.bool a) (.bool b)
  cases neg
  · refine Out.same I ?_ hk (.bool _)
    simp only [eqGuard_at_bool, binOp, Bool.false_eq_true, ↓reduceIte]
    rw [hd]
    cases a <;> cases b <;> simp [Op.equalIn, run_underlying ht]
  · refine Out.same I ?_ hk (.bool _)
    simp only [eqGuard_at_bool, binOp, ↓reduceIte]
    rw [hd]
    cases a <;> cases b <;> simp [Op.equalIn, run_underlying ht]

/-! ### equality of structs -/
theorem part_run {l : List V} {xs : Array Value} (rl : Rel X g w h (.agg l) (.agg xs)) {t : TypeId} {off : Nat} {v : V} (hv : l.getD off .undef = v) (hv0 : v ≠ .undef) (hagg : tyAgg X.P t = some false) :
    ∃ u, (part t xs off).run X.P w = .ok u w ∧ Rel X g w h v u := by
  cases rl with
  | agg _ _ hl ho hr =>
    have hlt : off < l.length := by
      rcases Nat.lt_or_ge off l.length with c | c
      · exact c
      · simp [List.getD, List.getElem?_eq_none c] at hv; exact absurd hv.symm hv0
    have hlt2 : off < xs.size := by omega
    refine ⟨xs[off], by simp [part, run_tyAgg hagg, hlt2], ?_⟩
    have := hr off hlt hlt2
    rw [← hv]; simpa only [List.getD, List.getElem?_eq_getElem hlt, Option.getD_some] using this
theorem ekOf_int {P : Program} {t : TypeId} (e : ekOf P t = some .i) : ∃ k, P.underlying t = some (.int k) := by
  unfold ekOf at e; split at e <;> simp at e
  exact ⟨_, by assumption⟩
theorem ekOf_str {P : Program} {t : TypeId} (e : ekOf P t = some .s) : P.underlying t = some .string := by
  unfold ekOf at e; split at e <;> simp at e
  assumption
theorem ekOf_bool {P : Program} {t : TypeId} (e : ekOf P t = some .b) : P.underlying t = some .bool := by
  unfold ekOf at e; split at e <;> simp at e
  assumption
/-- A part of cells, as its own. -/
structure View (cx xs : Array Value) (base lim : Nat) : Prop where
  at' : ∀ i, base + i < lim → cx[i]? = xs[base + i]?
  ex : ∀ i j, base + j ≤ lim → cx.extract i j = xs.extract (base + i) (base + j)
theorem View.refl (xs : Array Value) (lim : Nat) : View xs xs 0 lim := ⟨fun i _ => by rw [Nat.zero_add], fun i j _ => by rw [Nat.zero_add, Nat.zero_add]⟩
theorem View.of (xs : Array Value) (b l : Nat) : View (xs.extract b l) xs b l := ⟨fun i hi => by
    rw [Array.getElem?_extract]
    split
    · rfl
    · rename_i h
      rw [Array.getElem?_eq_none]
      omega, fun i j hj => by
    rw [Array.extract_extract]
    congr 1
    omega⟩
theorem eqL_append (l m : List V) : ∀ (a b : List (EK × Nat)) {t : Bool}, eqL l m (a ++ b) = some t → ∃ t1 t2, eqL l m a = some t1 ∧ eqL l m b = some t2 ∧ t = (t1 && t2)
  | [], b, t, h => ⟨true, t, rfl, h, by simp⟩
  | o :: a, b, t, h => by
    simp only [List.cons_append, eqL] at h
    split at h
    · rename_i b1 b2 e1 e2
      simp at h; subst h
      obtain ⟨t1, t2, h1, h2, rfl⟩ := eqL_append l m a b e2
      exact ⟨b1 && t1, t2, by simp only [eqL, e1, h1], h2, by rw [Bool.and_assoc]⟩
    · simp at h
theorem leaf_run {l m : List V} {xs ys : Array Value} (rl : Rel X g w h (.agg l) (.agg xs)) (rm : Rel X g w h (.agg m) (.agg ys)) {cx cy : Array Value} {base lim : Nat} (vx : View cx xs base lim) (vy : View cy ys base lim)
    {t : TypeId} {off : Nat} (hlt : base + off < lim) {ek : EK} (q1 : ekOf X.P t = some ek) {b1 : Bool} (e1 : eqLeaf ek (l.getD (base + off) .undef) (m.getD (base + off) .undef) = some b1) (d : Nat) :
    ∃ u u', (part t cx off).run X.P w = .ok u w ∧ (part t cy off).run X.P w = .ok u' w ∧ (Op.equalIn (d + 1) t u u').run X.P w = .ok b1 w := by
  have hagg : ∀ dd, X.P.underlying t = some dd → (match dd with | .struct _ | .array .. => false | _ => true) = true → tyAgg X.P t = some false := fun dd hd hdd => by
    unfold tyAgg; rw [hd]; cases dd <;> simp_all
  have hpx : tyAgg X.P t = some false → (part t cx off).run X.P w = (part t xs (base + off)).run X.P w := fun e => by simp [part, run_tyAgg e, vx.at' off hlt]
  have hpy : tyAgg X.P t = some false → (part t cy off).run X.P w = (part t ys (base + off)).run X.P w := fun e => by simp [part, run_tyAgg e, vy.at' off hlt]
  generalize hv : l.getD (base + off) .undef = v at e1
  generalize hv' : m.getD (base + off) .undef = v' at e1
  cases ek with
  | i =>
    cases v <;> cases v' <;> simp [eqLeaf] at e1
    obtain ⟨rfl, rfl⟩ := e1
    obtain ⟨k0, hk0⟩ := ekOf_int q1
    have ha := hagg _ hk0 rfl
    obtain ⟨u, p1, p2⟩ := part_run rl hv (by simp) ha
    obtain ⟨u', p3, p4⟩ := part_run rm hv' (by simp) ha
    cases p2; cases p4
    exact ⟨_, _, (hpx ha).trans p1, (hpy ha).trans p3, by rw [run_equalIn_int w d t _ k0 _ _ hk0]; rfl⟩
  | s =>
    cases v <;> cases v' <;> simp [eqLeaf] at e1
    subst e1
    have hk0 := ekOf_str q1
    have ha := hagg _ hk0 rfl
    obtain ⟨u, p1, p2⟩ := part_run rl hv (by simp) ha
    obtain ⟨u', p3, p4⟩ := part_run rm hv' (by simp) ha
    cases p2; cases p4
    exact ⟨_, _, (hpx ha).trans p1, (hpy ha).trans p3, by rw [run_equalIn_string w d t _ _ hk0, toList_mk, toList_mk, beq_dec]⟩
  | b =>
    cases v <;> cases v' <;> simp [eqLeaf] at e1
    subst e1
    have hk0 := ekOf_bool q1
    have ha := hagg _ hk0 rfl
    obtain ⟨u, p1, p2⟩ := part_run rl hv (by simp) ha
    obtain ⟨u', p3, p4⟩ := part_run rm hv' (by simp) ha
    cases p2; cases p4
    exact ⟨_, _, (hpx ha).trans p1, (hpy ha).trans p3, by rw [run_equalIn_bool' w d t _ _ hk0]; rfl⟩
theorem eqSub_run {l m : List V} {xs ys : Array Value} (rl : Rel X g w h (.agg l) (.agg xs)) (rm : Rel X g w h (.agg m) (.agg ys)) :
    ∀ (n : Nat) {base lim : Nat} {t : TypeId} {offs : List (EK × Nat)} {b : Bool} {cx cy : Array Value}, View cx xs base lim → View cy ys base lim → eqSub X.P n base lim t = some offs → eqL l m offs = some b → ∀ d, n < d → (Op.equalIn d t (.agg cx) (.agg cy)).run X.P w = .ok b w
  | 0, _, _, _, _, _, _, _, _, _, e, _, _, _ => by simp [eqSub] at e
  | n + 1, base, lim, t, offs, b, cx, cy, vx, vy, e, hb, d, hd => by
    obtain ⟨d, rfl⟩ : ∃ d', d = d' + 1 := ⟨d - 1, by omega⟩
    obtain ⟨d, rfl⟩ : ∃ d', d = d' + 1 := ⟨d - 1, by omega⟩
    unfold eqSub at e
    split at e
    · rename_i fs ht
      split at e
      · simp at e
      · rename_i hs
        have hf : X.P.fieldsOf t = fs := by simp [Program.fieldsOf, ht]
        rw [run_equalIn_struct (P := X.P) w (d + 1) t cx cy (by rw [hf]; exact ht) (by simpa using hs), hf]
        have go : ∀ (fs : List Field) (offs : List (EK × Nat)) (b : Bool), eqOffs1 X.P (eqSub X.P n) base lim fs = some offs → eqL l m offs = some b → (Op.eqFields (d + 1) cx cy fs).run X.P w = .ok b w := by
          intro fs
          induction fs with
          | nil =>
            intro offs b e hb
            simp [eqOffs1] at e; subst e
            simp [eqL] at hb; subst hb
            simp [Op.eqFields]
          | cons f fs ih =>
            intro offs b e hb
            unfold eqOffs1 at e
            split at e
            · simp at e
            · rename_i hn
              have hn' : f.name ≠ "_" := by simpa using hn
              split at e
              · rename_i o1 o2 q1 q2
                simp at e; subst e
                obtain ⟨b1, b2, e1, e2, rfl⟩ := eqL_append _ _ _ _ hb
                have ih := ih o2 b2 q2 e2
                have key : ∃ u u', (part f.type cx f.offset).run X.P w = .ok u w ∧ (part f.type cy f.offset).run X.P w = .ok u' w ∧ (Op.equalIn (d + 1) f.type u u').run X.P w = .ok b1 w := by
                  split at q1
                  · rename_i ek q
                    split at q1
                    · rename_i hlt
                      simp at q1; subst q1
                      simp only [eqL] at e1
                      split at e1
                      · rename_i c1 c2 e3 e4
                        simp at e4 e1; subst e4; subst e1
                        rw [Bool.and_true]
                        exact leaf_run rl rm vx vy hlt q e3 d
                      · simp at e1
                    · simp at q1
                  · split at q1
                    · rename_i sz hsz
                      split at q1
                      · rename_i hle
                        have hag : tyAgg X.P f.type = some true := by
                          cases n with
                          | zero => simp [eqSub] at q1
                          | succ n =>
                            unfold eqSub at q1
                            split at q1
                            · rename_i hu; unfold tyAgg; rw [hu]
                            · simp at q1
                        refine ⟨.agg (cx.extract f.offset (f.offset + sz)), .agg (cy.extract f.offset (f.offset + sz)), by simp [part, run_tyAgg hag, run_tySize hsz], by simp [part, run_tyAgg hag, run_tySize hsz], ?_⟩
                        rw [vx.ex _ _ (by omega), vy.ex _ _ (by omega), ← Nat.add_assoc]
                        exact eqSub_run rl rm n (View.of _ _ _) (View.of _ _ _) q1 e1 (d + 1) (by omega)
                      · simp at q1
                    · simp at q1
                obtain ⟨u, u', p1, p2, p3⟩ := key
                simp only [Op.eqFields, if_pos hn', Sem.run_bind, p1, p2, p3, Result.andThen_ok]
                cases b1 <;> simp [ih]
              · simp at e
        exact go _ _ _ e hb
    · simp at e
theorem out_eqs (neg : Bool) (I : Inv X g w h) {t : TypeId} {fields : Array Field} (ht : X.P.underlying t = some (.struct fields)) (hg : X.P.eqGuardType X.P.depth t = false) (hs : X.P.stoodInHeld t = false) {offs : List (EK × Nat)}
    (he : eqOffs X.P t = some offs) (x y : Operand) {v u : V} {xv yv : Value} (r : Rel X g w h v xv) (ru : Rel X g w h u yv)
    (hk : match (generalizing := false) v, u with | .agg l, .agg m => (match (generalizing := false) eqL l m offs with | some b => K (.bool (xor neg b)) h | none => False) | _, _ => False) :
    Out X g w h K ((do pure (Next.value (← (do eqGuard (if neg then .neq else .eql) t x y xv yv; binOp (if neg then .neq else .eql) t xv yv))) : Sem Next).run X.P w) := by
  cases r <;> first | exact hk.elim | skip
  cases ru <;> first | exact hk.elim | skip
  rename_i l cs hl ho hr m cs' hl' ho' hr'
  have rl := Rel.agg (X := X) (g := g) (w := w) (h := h) l cs hl ho hr
  have rm := Rel.agg (X := X) (g := g) (w := w) (h := h) m cs' hl' ho' hr'
  cases hb : eqL l m offs with
  | none => simp [hb] at hk
  | some b =>
    simp only [hb] at hk
    have hrun : (Op.equalIn 10000 t (.agg cs) (.agg cs')).run X.P w = .ok b w := by
      unfold eqOffs at he
      split at he
      · exact eqSub_run rl rm 4 (View.refl _ _) (View.refl _ _) he hb 10000 (by omega)
      · simp at he
    cases neg
    · refine Out.same I ?_ hk (.bool _)
      simp only [Bool.false_eq_true, ↓reduceIte, Sem.run_bind, run_eqGuard_agg w _ t x y cs cs' hg, Result.andThen_ok, run_eql_struct, hrun, Bool.false_xor]
    · refine Out.same I ?_ hk (.bool _)
      simp only [↓reduceIte, Sem.run_bind, run_eqGuard_agg w _ t x y cs cs' hg, Result.andThen_ok, run_neq_struct, hrun, Bool.true_xor]

theorem out_isnilS (neg : Bool) (I : Inv X g w h) (t e' : TypeId) (he : X.P.underlying t = some (.slice e')) (x y : Operand) {v : V} {u : Value} (r : Rel X g w h v u)
    (hk : match (generalizing := false) v with | .sl _ st l => nilK neg st l (fun b => K (.bool b) h) | .osl .. => K (.bool neg) h | _ => False) :
    Out X g w h K ((do pure (Next.value (← (do eqGuard (if neg then .neq else .eql) t x y u (.slice none 0 0); binOp (if neg then .neq else .eql) t u (.slice none 0 0)))) : Sem Next).run X.P w) := by
  have hsl : ∀ (a : Option Addr) (n m : Nat), ((do eqGuard (if neg then .neq else .eql) t x y (.slice a n m) (.slice none 0 0); binOp (if neg then .neq else .eql) t (.slice a n m) (.slice none 0 0)) : Sem Value).run X.P w = .ok (.bool (xor neg a.isNone)) w := by
    intro a n m
    obtain ⟨d, hd⟩ := equal_unf t (.slice a n m) (.slice none 0 0)
    cases neg <;> simp only [eqGuard_at_slice, binOp, Bool.false_eq_true, ↓reduceIte] <;> rw [hd] <;> cases a <;> simp [Op.equalIn, run_underlying he]
  cases r with
  | slnil e st hst =>
    refine Out.same I (hsl none 0 0) ?_ (.bool _)
    replace hk : nilK neg st [] (fun b => K (.bool b) h) := hk
    unfold nilK at hk
    split at hk
    · simpa using hk
    · split at hk
      · simpa using (hk.1 rfl).elim (fun a b => by cases neg <;> assumption)
      · omega
  | slemp e a =>
    refine Out.same I (hsl (some a) 0 0) ?_ (.bool _)
    replace hk : nilK neg 0 [] (fun b => K (.bool b) h) := hk
    have := hk
    simp [nilK] at this
    cases neg
    · simpa using this.2
    · simpa using this.1
  | sl e st l b off cap xf k1 ks kcap ke kc ko kp kr k2 k3 =>
    refine Out.same I (hsl (some ⟨b, off, none⟩) l.length cap) ?_ (.bool _)
    replace hk : nilK neg st l (fun b => K (.bool b) h) := hk
    unfold nilK at hk
    rw [if_neg k1] at hk
    split at hk
    · by_cases hl : l = []
      · have := hk.1 hl; cases neg
        · simpa using this.2
        · simpa using this.1
      · simpa using hk.2 hl
    · simpa using hk
  | osl e o off len cap c hn hm hc hcc =>
    exact Out.same I (hsl (some ⟨g.obj o, off, none⟩) len c) (by simpa using hk) (.bool _)
  | _ => exact hk.elim
theorem out_isnilP (neg : Bool) (I : Inv X g w h) (t e' : TypeId) (he : X.P.underlying t = some (.pointer e')) (x y : Operand) {v : V} {u : Value} (r : Rel X g w h v u)
    (hk : match (generalizing := false) v with | .nilp => K (.bool !neg) h | .ptr _ _ => K (.bool neg) h | .rptr _ _ => K (.bool neg) h | _ => False) :
    Out X g w h K ((do pure (Next.value (← (do eqGuard (if neg then .neq else .eql) t x y u (.pointer none); binOp (if neg then .neq else .eql) t u (.pointer none)))) : Sem Next).run X.P w) := by
  have hpt : ∀ (a : Option Addr), ((do eqGuard (if neg then .neq else .eql) t x y (.pointer a) (.pointer none); binOp (if neg then .neq else .eql) t (.pointer a) (.pointer none)) : Sem Value).run X.P w = .ok (.bool (xor neg a.isNone)) w := by
    intro a
    obtain ⟨d, hd⟩ := equal_unf t (.pointer a) (.pointer none)
    cases neg <;> simp only [eqGuard_at_pointer, binOp, Bool.false_eq_true, ↓reduceIte] <;> rw [hd] <;> cases a <;> simp [Op.equalIn, run_underlying he]
  cases r with
  | nilp => exact Out.same I (hpt none) (by simpa using hk) (.bool _)
  | ptr o off hn hm => exact Out.same I (hpt _) (by simpa using hk) (.bool _)
  | rptr l off b base xf kc ko kp kr => exact Out.same I (hpt _) (by simpa using hk) (.bool _)
  | _ => exact hk.elim

end
end Go.Proofs.Ytajaoldljichaaa.Al
namespace Go.Proofs.Ytajaoldljichaaa.Al
open Go Go.RowKit
set_option linter.unusedSimpArgs false
set_option linter.unusedVariables false

section
variable {X : Cx} {g : Gh} {w : World} {h : AH} {K : V → AH → Prop}

theorem out_fa {s : TypeId} {fields : Array Field} {f n : Nat} {fl : Field} (h1 : X.P.underlying s = some (.struct fields)) (h2 : fields[f]? = some fl) (h3 : tySize X.P fl.type = some n) (h4 : n ≠ 0)
    (I : Inv X g w h) {v : V} {x : Value} (r : Rel X g w h v x)
    (hk : match (generalizing := false) v with | .ptr o q => K (.ptr o (q + fl.offset)) h | .rptr l q => K (.rptr l (q + fl.offset)) h | .tp o _ _ => K (.ptr o fl.offset) h | _ => False) :
    Out X g w h K ((do pure (Next.value (← Instr.fieldAt s x f)) : Sem Next).run X.P w) := by
  have hrun : ∀ a : Addr, (Instr.fieldAt s (.pointer (some a)) f).run X.P w = .ok (.pointer (some (a.add fl.offset))) w := fun a => by
    simp [Instr.fieldAt, run_underlying h1, h2, Instr.sureAddr, fieldPlace, run_tySize h3, h4]
  cases r with
  | ptr o off hn hm => exact Out.same I (hrun _) hk (by rw [Addr.add_lit]; exact .ptr _ _ hn hm)
  | rptr l off b base xf kc ko kp kr => exact Out.same I (hrun _) hk (by rw [Addr.add_lit, Nat.add_assoc]; exact .rptr l _ b base xf kc ko kp kr)
  | tp o t n hn hm hs => exact Out.same I (hrun _) hk (by rw [Addr.add_lit, Nat.zero_add]; exact .ptr _ _ hn hm)
  | _ => exact hk.elim

theorem out_fld {t : TypeId} {fields : Array Field} {f n : Nat} {gg : Bool} {fl : Field} (h1 : X.P.underlying t = some (.struct fields)) (h2 : fields[f]? = some fl) (h3 : tySize X.P fl.type = some n)
    (h4 : tyAgg X.P fl.type = some gg) (I : Inv X g w h) {v : V} {x : Value} (r : Rel X g w h v x) (hk : match (generalizing := false) v with | .agg l => loadC gg n l fl.offset (fun v => K v h) | _ => False) :
    Out X g w h K ((do pure (Next.value (← Instr.field t x f)) : Sem Next).run X.P w) := by
  cases r with
  | agg l cs hl ho hr =>
    cases gg with
    | true =>
      obtain ⟨hb, hk⟩ := hk
      refine Out.same I (x := .agg (cs.extract fl.offset (fl.offset + n))) ?_ hk ?_
      · simp [Instr.field, run_underlying h1, h2, part, asAgg, run_tyAgg h4, run_tySize h3]
      · refine .agg _ _ (by simp; omega) (fun i hi => ?_) (fun i i1 i2 => ?_)
        · simp at hi ⊢; exact ho _ (by omega)
        · simp at i1 i2 ⊢; exact hr _ (by omega) (by omega)
    | false =>
      obtain ⟨hb, hk⟩ := hk
      have hb2 : fl.offset < cs.size := by omega
      refine Out.same I (x := cs[fl.offset]) ?_ hk ?_
      · simp [Instr.field, run_underlying h1, h2, part, asAgg, run_tyAgg h4, hb2]
      · simp only [List.getD, List.getElem?_eq_getElem hb, Option.getD_some]; exact hr _ hb hb2
  | _ => exact hk.elim

theorem out_ia {t e : TypeId} {n : Nat} (h1 : X.P.underlying t = some (.slice e)) (h2 : tySize X.P e = some n) (I : Inv X g w h) {v u : V} {x y : Value} (r : Rel X g w h v x) (ru : Rel X g w h u y)
    (hk : match (generalizing := false) v, u with | .sl e' _ l, .int _ i => e' = n ∧ 0 ≤ i ∧ i < l.length ∧ K (.rptr (l.getD i.toNat .undef).cells 0) h | .osl e' o off len _, .int _ i => e' = n ∧ 0 ≤ i ∧ i < len ∧ K (.ptr o (off + i.toNat * n)) h | _, _ => False) :
    Out X g w h K ((do pure (Next.value (← Instr.indexAt t x y)) : Sem Next).run X.P w) := by
  cases r with
  | slnil e' st hst =>
    cases ru with
    | int k i => simp at hk; omega
    | _ => exact hk.elim
  | slemp e' a =>
    cases ru with
    | int k i => simp at hk; omega
    | _ => exact hk.elim
  | sl e' st l b off cap xf k1 ks kcap ke kc ko kp kr k2 k3 =>
    cases ru with
    | int k i =>
      obtain ⟨rfl, i0, i1, hk⟩ := hk
      have hi : i.toNat < l.length := by omega
      have hFl := cellsOf_length ke
      have hmem : l.getD i.toNat .undef = l[i.toNat] := by simp [List.getD, List.getElem?_eq_getElem hi]
      have hce : (l[i.toNat]).cells.length = e' := ke _ (List.getElem_mem hi)
      have hmul : i.toNat * e' + e' ≤ l.length * e' := by
        have := Nat.mul_le_mul_right e' (show i.toNat + 1 ≤ l.length by omega)
        rw [Nat.add_mul] at this; omega
      rw [hmem] at hk
      refine Out.same I (x := .pointer (some ⟨b, off + i.toNat * e' + 0, none⟩)) ?_ hk (.rptr _ 0 b (off + i.toNat * e') (fun j => xf (i.toNat * e' + j)) ?_ ?_ ?_ ?_)
      · simp [Instr.indexAt, asIntOf, run_underlying h1, run_tySize h2, i0, i1, Addr.add_lit]
      · intro j hj; rw [hce] at hj; rw [Nat.add_assoc]; exact kc _ (by omega)
      · intro j hj; rw [hce] at hj; exact ko _ (by omega)
      · rw [hce]; omega
      · intro j hj
        have hj' := hj
        rw [hce] at hj
        have e1 := cellsOf_getElem ke i.toNat hi j hj
        rw [List.getElem?_eq_getElem hj', List.getElem?_eq_getElem (by omega)] at e1
        rw [← Option.some.inj e1]; exact kr _ _
    | _ => exact hk.elim
  | osl e' o off len cap c hn hm hc hcc =>
    cases ru with
    | int k i =>
      obtain ⟨rfl, i0, i1, hk⟩ := hk
      refine Out.same I (x := .pointer (some ⟨g.obj o, off + i.toNat * e', none⟩)) ?_ hk (.ptr _ _ hn hm)
      simp [Instr.indexAt, asIntOf, run_underlying h1, run_tySize h2, i0, i1, Addr.add_lit]
    | _ => exact hk.elim
  | _ => exact hk.elim

theorem out_ixs {t : TypeId} (h1 : X.P.underlying t = some .string) (I : Inv X g w h) {v u : V} {x y : Value} (r : Rel X g w h v x) (ru : Rel X g w h u y)
    (hk : match (generalizing := false) v, u with | .str s, .int _ n => 0 ≤ n ∧ n < s.length ∧ K (.int .u8 (s.getD n.toNat 0).toNat) h | _, _ => False) :
    Out X g w h K ((do pure (Next.value (← Instr.index t x y)) : Sem Next).run X.P w) := by
  cases r with
  | str s =>
    cases ru with
    | int k n =>
      obtain ⟨i0, i1, hk⟩ := hk
      have hi : n.toNat < s.length := by omega
      have hb : (⟨s.toArray⟩ : ByteArray)[n.toNat]? = some s[n.toNat] := by
        rw [getElem?_pos (⟨s.toArray⟩ : ByteArray) n.toNat (by simpa [ByteArray.size] using hi)]; rfl
      have hmem : s.getD n.toNat 0 = s[n.toNat] := by simp [List.getD, List.getElem?_eq_getElem hi]
      rw [hmem] at hk
      refine Out.same I ?_ hk (.int _ _)
      simp [Instr.index, asIntOf, run_underlying h1, i0, hb]
    | _ => exact hk.elim
  | _ => exact hk.elim

theorem out_ext (I : Inv X g w h) {v : V} {x : Value} (i : Nat) (r : Rel X g w h v x) (hk : match (generalizing := false) v with | .tup l => i < l.length ∧ K (l.getD i .undef) h | _ => False) :
    Out X g w h K ((do pure (Next.value (← Instr.extract x i)) : Sem Next).run X.P w) := by
  cases r with
  | tup l cs hl hr =>
    obtain ⟨i1, hk⟩ := hk
    have i2 : i < cs.size := by omega
    refine Out.same I (x := cs[i]) ?_ hk ?_
    · simp [Instr.extract, i2]
    · simp only [List.getD, List.getElem?_eq_getElem i1, Option.getD_some]; exact hr _ i1 i2
  | _ => exact hk.elim

theorem out_len {t ty : TypeId} (I : Inv X g w h) {v : V} {x : Value} (r : Rel X g w h v x)
    (hk : match (generalizing := false) v with | .sl _ _ l => (∃ e, X.P.underlying t = some (.slice e)) ∧ K (.int .i64 l.length) h | .osl _ _ _ len _ => (∃ e, X.P.underlying t = some (.slice e)) ∧ K (.int .i64 len) h | .tys _ (.sl _ _ l) => (∃ e, X.P.underlying t = some (.slice e)) ∧ K (.int .i64 l.length) h | .str s => X.P.underlying t = some .string ∧ K (.int .i64 s.length) h | _ => False) :
    Out X g w h K ((do pure (Next.value (← Builtin.len_ #[t] ty #[x])) : Sem Next).run X.P w) := by
  cases r with
  | slnil e st hst =>
    obtain ⟨⟨e', he⟩, hk⟩ := hk
    exact Out.same I (by simp [Builtin.len_, run_underlying he, goInt]) hk (.int _ _)
  | slemp e a =>
    obtain ⟨⟨e', he⟩, hk⟩ := hk
    exact Out.same I (by simp [Builtin.len_, run_underlying he, goInt]) hk (.int _ _)
  | sl e' st l b off cap xf k1 ks kcap ke kc ko kp kr k2 k3 =>
    obtain ⟨⟨e', he⟩, hk⟩ := hk
    exact Out.same I (by simp [Builtin.len_, run_underlying he, goInt]) hk (.int _ _)
  | osl e o off len cap c hn hm hc hcc =>
    obtain ⟨⟨e', he⟩, hk⟩ := hk
    exact Out.same I (by simp [Builtin.len_, run_underlying he, goInt]) hk (.int _ _)
  | str s =>
    obtain ⟨he, hk⟩ := hk
    exact Out.same I (by simp [Builtin.len_, run_underlying he, goInt, mk_size]) hk (.int _ _)
  | tys t' v a n c r ht =>
    cases r with
    | slnil e st hst =>
      obtain ⟨⟨e', he⟩, hk⟩ := hk
      exact Out.same I (by simp [Builtin.len_, run_underlying he, goInt]) hk (.int _ _)
    | slemp e a =>
      obtain ⟨⟨e', he⟩, hk⟩ := hk
      exact Out.same I (by simp [Builtin.len_, run_underlying he, goInt]) hk (.int _ _)
    | sl e' st l b off cap xf k1 ks kcap ke kc ko kp kr k2 k3 =>
      obtain ⟨⟨e', he⟩, hk⟩ := hk
      exact Out.same I (by simp [Builtin.len_, run_underlying he, goInt]) hk (.int _ _)
    | _ => exact hk.elim
  | _ => exact hk.elim

/-! ### slice expressions -/
def bndV (d : Int) : Option Value → Option Int
  | none => some d
  | some (.int _ n) => some n
  | some _ => none
theorem run_sliceBound {k : IntKind} {n : Int} {y : Nat} {f : BoundsCode} (h0 : 0 ≤ n) (h1 : n ≤ y) : (Instr.sliceBound (.int k n) y f).run X.P w = .ok n.toNat w := by
  simp [Instr.sliceBound, asIntOf, h0, h1]
theorem run_sliceBounds {sl : Bool} {len cap : Nat} {lo hi : Option Value} {a b : Int} (h1 : bndV 0 lo = some a) (h2 : bndV len hi = some b) (k0 : 0 ≤ a) (k1 : a ≤ b) (k2 : b ≤ len) (k3 : len ≤ cap) :
    (Instr.sliceBounds sl len cap lo hi none).run X.P w = .ok (a.toNat, b.toNat, cap) w := by
  have kb : 0 ≤ b := by omega
  have ka : a ≤ (b.toNat : Int) := by omega
  unfold Instr.sliceBounds
  cases hi with
  | none =>
    simp [bndV] at h2
    subst h2
    cases lo with
    | none => simp [bndV] at h1; subst h1; simp
    | some v =>
      cases v <;> simp [bndV] at h1
      subst h1
      simp [run_sliceBound k0 k1]
  | some u =>
    cases u <;> simp [bndV] at h2
    subst h2
    cases lo with
    | none => simp [bndV] at h1; subst h1; simp [run_sliceBound kb (show _ ≤ (cap : Int) by omega)]
    | some v =>
      cases v <;> simp [bndV] at h1
      subst h1
      simp [run_sliceBound kb (show _ ≤ (cap : Int) by omega), run_sliceBound k0 ka]

theorem run_sliceBoundsO {sl : Bool} {len cap : Nat} {lo hi : Option Value} {a b : Int} (h1 : bndV 0 lo = some a) (h2 : bndV len hi = some b) (k0 : 0 ≤ a) (k1 : a ≤ b) (k2 : b ≤ cap) (k3 : len ≤ cap) :
    (Instr.sliceBounds sl len cap lo hi none).run X.P w = .ok (a.toNat, b.toNat, cap) w := by
  have kb : 0 ≤ b := by omega
  have ka : a ≤ (b.toNat : Int) := by omega
  unfold Instr.sliceBounds
  cases hi with
  | none =>
    simp [bndV] at h2
    subst h2
    cases lo with
    | none => simp [bndV] at h1; subst h1; simp
    | some v =>
      cases v <;> simp [bndV] at h1
      subst h1
      simp [run_sliceBound k0 k1]
  | some u =>
    cases u <;> simp [bndV] at h2
    subst h2
    cases lo with
    | none => simp [bndV] at h1; subst h1; simp [run_sliceBound kb (show _ ≤ (cap : Int) by omega)]
    | some v =>
      cases v <;> simp [bndV] at h1
      subst h1
      simp [run_sliceBound kb (show _ ≤ (cap : Int) by omega), run_sliceBound k0 ka]

theorem out_slc_str {t : TypeId} (h1 : X.P.underlying t = some .string) (I : Inv X g w h) (s : List UInt8) {lo hi : Option Value} {a b : Int} (e1 : bndV 0 lo = some a) (e2 : bndV s.length hi = some b)
    (k0 : 0 ≤ a) (k1 : a ≤ b) (k2 : b ≤ s.length) (hk : K (.str ((s.take b.toNat).drop a.toNat)) h) :
    Out X g w h K ((do pure (Next.value (← Instr.sliceAt t (.string ⟨s.toArray⟩) lo hi none)) : Sem Next).run X.P w) := by
  refine Out.same I ?_ hk (.str _)
  have := run_sliceBounds (X := X) (w := w) (sl := false) (len := s.length) (cap := s.length) e1 e2 k0 k1 k2 (Nat.le_refl _)
  simp [Instr.sliceAt, run_underlying h1, Instr.slice, mk_size, this, mk_extract]

theorem out_slc {t e : TypeId} {n : Nat} (h1 : X.P.underlying t = some (.slice e)) (h2 : tySize X.P e = some n) (I : Inv X g w h) {e' st : Nat} {l : List V} {x : Value} (r : Rel X g w h (.sl e' st l) x) {lo hi : Option Value} {a b : Int}
    (e1 : bndV 0 lo = some a) (e2 : bndV l.length hi = some b) (he : l = [] ∨ e' = n) (hk : slcK l st a b (fun m st' => K (.sl e' st' m) h)) :
    Out X g w h K ((do pure (Next.value (← Instr.sliceAt t x lo hi none)) : Sem Next).run X.P w) := by
  obtain ⟨k0, k1, k2, hk⟩ := hk
  cases r with
  | slnil e' st hst =>
    have hs := run_sliceBounds (X := X) (w := w) (sl := true) (len := 0) (cap := 0) e1 e2 k0 k1 k2 (Nat.le_refl _)
    have ha : a = 0 := by simp at k2; omega
    have hb : b = 0 := by simp at k2; omega
    subst ha; subst hb
    simp at hs hk
    refine Out.same I (x := .slice none 0 0) ?_ hk (.slnil _ _ (by split <;> omega))
    simp [Instr.sliceAt, run_underlying h1, Instr.slice, hs, run_tySize h2]
  | slemp e ad =>
    have hs := run_sliceBounds (X := X) (w := w) (sl := true) (len := 0) (cap := 0) e1 e2 k0 k1 k2 (Nat.le_refl _)
    have ha : a = 0 := by simp at k2; omega
    have hb : b = 0 := by simp at k2; omega
    subst ha; subst hb
    simp at hs hk
    refine Out.same I (x := .slice (some ad) 0 0) ?_ hk (.slemp _ _)
    simp [Instr.sliceAt, run_underlying h1, Instr.slice, hs, run_tySize h2]
  | sl _ _ _ bb off cap xf j1 js jcap je jc jo jp jr j2 j3 =>
    have hs := run_sliceBounds (X := X) (w := w) (sl := true) (len := l.length) (cap := cap) e1 e2 k0 k1 k2 jcap
    rw [if_neg j1] at hk
    have hFl := cellsOf_length je
    have hlen : ((l.take b.toNat).drop a.toNat).length = b.toNat - a.toNat := by simp; omega
    have hne : ∀ v ∈ (l.take b.toNat).drop a.toNat, v.cells.length = e' := fun v hv => je v (List.mem_of_mem_take (List.mem_of_mem_drop hv))
    have hF2 := cellsOf_length hne
    rw [hlen] at hF2
    have hcell : ∀ i (hi : i < (cellsOf ((l.take b.toNat).drop a.toNat)).length), ∃ hq : a.toNat * e' + i < (cellsOf l).length, (cellsOf ((l.take b.toNat).drop a.toNat))[i] = (cellsOf l)[a.toNat * e' + i] := fun i hi => by
      have hq : a.toNat * e' + i < (cellsOf l).length := by
        rw [hF2, Nat.sub_mul] at hi
        have := Nat.mul_le_mul_right e' (show b.toNat ≤ l.length by omega)
        rw [hFl]; omega
      refine ⟨hq, ?_⟩
      have htk : ∀ v ∈ l.take b.toNat, v.cells.length = e' := fun v hv => je v (List.mem_of_mem_take hv)
      have q1 := cellsOf_take_drop htk a.toNat
      have q2 : (cellsOf (l.take b.toNat ++ l.drop b.toNat)) = cellsOf l := by rw [List.take_append_drop]
      rw [cellsOf_append] at q2
      have q3 : (cellsOf (l.take b.toNat)).length = b.toNat * e' := by rw [cellsOf_length htk, List.length_take, Nat.min_eq_left (by omega)]
      have : (cellsOf ((l.take b.toNat).drop a.toNat))[i]? = (cellsOf l)[a.toNat * e' + i]? := by
        rw [q1, List.getElem?_drop, ← q2, List.getElem?_append_left]
        rw [hF2, Nat.sub_mul] at hi; rw [q3]; omega
      rw [List.getElem?_eq_getElem hi, List.getElem?_eq_getElem hq] at this
      exact Option.some.inj this
    have hm : ∀ c, c ≤ l.length → off + c * e' ≤ g.pub bb := fun c hc => by
      have := Nat.mul_le_mul_right e' hc; omega
    by_cases hc : cap = a.toNat
    · -- nothing left: the address stays
      subst hc
      have hz : b.toNat - a.toNat = 0 := by omega
      have hnil : (l.take b.toNat).drop a.toNat = [] := List.eq_nil_of_length_eq_zero (by omega)
      rw [hnil] at hk
      refine Out.same I (x := .slice (some ⟨bb, off, none⟩) 0 (a.toNat - a.toNat)) ?_ hk ?_
      · simp [Instr.sliceAt, run_underlying h1, Instr.slice, hs, run_tySize h2, hz]
      · exact .sl e' 0 [] bb off _ xf (by omega) (by have := I.next; omega) (by simp) (by simp) (by simp) (by simp) (by have := hm 0 (by omega); simpa using this) (by simp) (by omega) (fun e'' h'' => by have := (I.tipB _ _ h'').1; omega)
    · by_cases hl : l = []
      · subst hl
        have hb0 : b = 0 := by simp at k2; omega
        have ha0 : a = 0 := by omega
        subst hb0; subst ha0
        simp at hk hs hc
        refine Out.same I (x := .slice (some ((⟨bb, off, none⟩ : Addr).add (0 * n))) 0 cap) ?_ hk ?_
        · simp [Instr.sliceAt, run_underlying h1, Instr.slice, hs, run_tySize h2, hc]
        · simp only [Nat.zero_mul, Addr.add_zero']
          exact .sl e' 0 [] bb off _ xf (by omega) (by have := I.next; omega) (by simp) (by simp) (by simp) (by simp) (by have := hm 0 (by simp); simpa using this) (by simp) (by omega) (fun e'' h'' => by have := (I.tipB _ _ h'').1; omega)
      · have hen : e' = n := he.resolve_left hl
        subst hen
        refine Out.same I (x := .slice (some ⟨bb, off + a.toNat * e', none⟩) ((l.take b.toNat).drop a.toNat).length (cap - a.toNat)) ?_ hk ?_
        · simp [Instr.sliceAt, run_underlying h1, Instr.slice, hs, run_tySize h2, hc, Addr.add_lit]
          omega
        · refine .sl e' 0 _ bb (off + a.toNat * e') _ (fun i => xf (a.toNat * e' + i)) (by omega) (by have := I.next; omega) (by rw [hlen]; omega) hne (fun i hi => ?_) (fun i hi => ?_) ?_ (fun i hi => ?_) (by omega)
            (fun e'' h'' => by have := (I.tipB _ _ h'').1; omega)
          · obtain ⟨hq, _⟩ := hcell i hi; rw [Nat.add_assoc]; exact jc _ hq
          · obtain ⟨hq, _⟩ := hcell i hi; exact jo _ hq
          · rw [hF2, Nat.sub_mul]
            have q := hm b.toNat (by omega)
            have := Nat.mul_le_mul_right e' (show a.toNat ≤ b.toNat by omega)
            omega
          · obtain ⟨hq, e4⟩ := hcell i hi; rw [e4]; exact jr _ hq

theorem out_slco {t e : TypeId} {n : Nat} (h1 : X.P.underlying t = some (.slice e)) (h2 : tySize X.P e = some n) (I : Inv X g w h) {o off len cap c : Nat} (hn : o < h.nobj) (hm : g.mp o = false) (hc : len ≤ c) (hcc : cap ≠ 0 → cap = c) {lo hi : Option Value} {a b : Int}
    (e1 : bndV 0 lo = some a) (e2 : bndV len hi = some b) (k0 : 0 ≤ a) (k1 : a ≤ b) (k2 : b ≤ cap) (hk : K (.osl n o (if cap = a.toNat then off else off + a.toNat * n) (b.toNat - a.toNat) (cap - a.toNat)) h) :
    Out X g w h K ((do pure (Next.value (← Instr.sliceAt t (.slice (some ⟨g.obj o, off, none⟩) len c) lo hi none)) : Sem Next).run X.P w) := by
  have hbc : b ≤ c := by
    by_cases h0 : cap = 0
    · omega
    · have := hcc h0; omega
  have hs := run_sliceBoundsO (X := X) (w := w) (sl := true) (len := len) (cap := c) e1 e2 k0 k1 hbc hc
  by_cases h0 : cap = 0
  · subst h0
    obtain rfl : a = 0 := by omega
    obtain rfl : b = 0 := by omega
    replace hk : K (.osl n o off 0 0) h := by simpa using hk
    by_cases hca : c = 0
    · subst hca
      refine Out.same I (x := .slice (some ⟨g.obj o, off, none⟩) 0 0) ?_ hk (.osl _ _ _ _ _ _ hn hm (by simp) (by simp))
      simp [Instr.sliceAt, run_underlying h1, Instr.slice, hs, run_tySize h2]
    · refine Out.same I (x := .slice (some ⟨g.obj o, off, none⟩) 0 c) ?_ hk (.osl _ _ _ _ _ _ hn hm (by simp) (by simp))
      simp [Instr.sliceAt, run_underlying h1, Instr.slice, hs, run_tySize h2, hca, Addr.add_lit]
  obtain rfl := hcc h0
  by_cases hca : cap = a.toNat
  · rw [if_pos hca] at hk
    subst hca
    refine Out.same I (x := .slice (some ⟨g.obj o, off, none⟩) (b.toNat - a.toNat) (a.toNat - a.toNat)) ?_ hk (.osl _ _ _ _ _ _ hn hm (by omega) (fun _ => rfl))
    simp [Instr.sliceAt, run_underlying h1, Instr.slice, hs, run_tySize h2]
  · rw [if_neg hca] at hk
    refine Out.same I (x := .slice (some ⟨g.obj o, off + a.toNat * n, none⟩) (b.toNat - a.toNat) (cap - a.toNat)) ?_ hk (.osl _ _ _ _ _ _ hn hm (by omega) (fun _ => rfl))
    simp [Instr.sliceAt, run_underlying h1, Instr.slice, hs, run_tySize h2, hca, Addr.add_lit]

/-! ### build -/
def RelA (X : Cx) (g : Gh) (w : World) (h : AH) (zs : List V) (cs : Array Value) : Prop :=
  zs.length = cs.size ∧ (∀ i (h2 : i < cs.size), (cs[i]).oneCell' = true) ∧ ∀ i (h1 : i < zs.length) (h2 : i < cs.size), Rel X g w h (zs[i]) (cs[i])
def setAtA (cs : Array Value) (off : Nat) : List Value → Array Value
  | [] => cs
  | v :: r => setAtA (cs.setIfInBounds off v) (off + 1) r
theorem foldl_setAtA (off : Nat) : ∀ (l : List Value) (k : Nat) (cs : Array Value), (l.zipIdx k).foldl (fun cs p => cs.setIfInBounds (off + p.2) p.1) cs = setAtA cs (off + k) l
  | [], _, _ => rfl
  | v :: l, k, cs => by
    simp only [List.zipIdx_cons, List.foldl_cons]
    rw [foldl_setAtA off l (k + 1)]; rfl
theorem RelA.set {zs : List V} {cs : Array Value} (r : RelA X g w h zs cs) (i : Nat) {v : V} {x : Value} (rv : Rel X g w h v x) (ho : x.oneCell' = true) : RelA X g w h (zs.set i v) (cs.setIfInBounds i x) := by
  obtain ⟨h1, h2, h3⟩ := r
  refine ⟨by simpa using h1, fun j hj => ?_, fun j j1 j2 => ?_⟩
  · rw [Array.getElem_setIfInBounds (by simpa using hj)]
    split
    · exact ho
    · exact h2 _ _
  · rw [Array.getElem_setIfInBounds (by simpa using j2), List.getElem_set]
    split
    · exact rv
    · exact h3 _ _ _
theorem RelA.setAt : ∀ (vs : List V) (xs : List Value) {zs : List V} {cs : Array Value} (off : Nat), RelA X g w h zs cs → vs.length = xs.length → (∀ i (h2 : i < xs.length), (xs[i]).oneCell' = true) →
    (∀ i (h1 : i < vs.length) (h2 : i < xs.length), Rel X g w h (vs[i]) (xs[i])) → RelA X g w h (setAt zs off vs) (setAtA cs off xs)
  | [], [], _, _, _, r, _, _, _ => r
  | v :: vs, x :: xs, zs, cs, off, r, hl, ho, hr => by
    refine RelA.setAt vs xs (off + 1) (r.set off (hr 0 (by simp) (by simp)) (ho 0 (by simp))) (by simpa using hl) (fun i h2 => ?_) (fun i h1 h2 => ?_)
    · exact ho (i + 1) (by simpa using h2)
    · exact hr (i + 1) (by simpa using h1) (by simpa using h2)
  | [], _ :: _, _, _, _, _, hl, _, _ => by simp at hl
  | _ :: _, [], _, _, _, _, hl, _, _ => by simp at hl

/-- Parts of the model and abstract parts, one by one. -/
def RelParts (X : Cx) (g : Gh) (w : World) (h : AH) (place : Nat → Option (Nat × Nat)) : List (Nat × Value) → List (Nat × Nat × V) → Prop
  | [], [] => True
  | (i, x) :: ps, (off, size, v) :: qs => place i = some (off, size) ∧ Rel X g w h v x ∧ RelParts X g w h place ps qs
  | _, _ => False
theorem fill_rel {place : Nat → Option (Nat × Nat)} : ∀ (ps : List (Nat × Value)) (qs : List (Nat × Nat × V)) (zs : List V) (cs : Array Value) (out : List V),
    RelParts X g w h place ps qs → RelA X g w h zs cs → fillV zs qs = some out → ∃ cs', Instr.fill place cs ps = some cs' ∧ RelA X g w h out cs'
  | [], [], zs, cs, out, _, r, e => by simp [fillV] at e; subst e; exact ⟨cs, rfl, r⟩
  | (i, x) :: ps, (off, size, v) :: qs, zs, cs, out, hp, r, e => by
    obtain ⟨h1, h2, h3⟩ := hp
    unfold fillV at e
    split at e
    · rename_i hc
      obtain ⟨c1, c2, c3⟩ := hc
      obtain ⟨k1, k2, k3⟩ := h2.cells c3
      have r2 : RelA X g w h (Al.setAt zs off v.cells) (setAtA cs off x.cells.toList) :=
        RelA.setAt v.cells x.cells.toList off r (by simpa using k1) (fun j hj => by simp at hj ⊢; exact k2 j hj) (fun j j1 j2 => by simp at j2 ⊢; exact k3 j j1 j2)
      obtain ⟨cs', e1, e2⟩ := fill_rel ps qs _ _ out h3 r2 e
      refine ⟨cs', ?_, e2⟩
      have hf := foldl_setAtA off x.cells.toList 0 cs
      have hr1 := r.1
      simp only [Instr.fill, h1]
      rw [if_neg (by simp; omega), ← Array.foldl_toList, Array.toList_zipIdx]
      rw [Nat.add_zero] at hf
      rw [hf]; exact e1
    · simp at e
  | [], _ :: _, _, _, _, hp, _, _ => hp.elim
  | _ :: _, [], _, _, _, hp, _, _ => hp.elim

theorem out_bld {t : TypeId} {fields : Array Field} {z : List V} {places : List (Nat × Nat)} (h1 : X.P.underlying t = some (.struct fields)) (h2 : tyZero X.P t = some z)
    (h3 : fields.toList.mapM (fun f => (X.P.info? f.type).map fun i => (f.offset, i.size)) = some places) (I : Inv X g w h) {ps : Array (Nat × Value)} {qs : List (Nat × Nat × V)}
    (hp : RelParts X g w h (places[·]?) ps.toList qs) (hk : match (generalizing := false) fillV z qs with | some cs => K (.agg cs) h | none => False) :
    Out X g w h K ((do pure (Next.value (← Instr.build t ps)) : Sem Next).run X.P w) := by
  obtain ⟨i, zv, k1, k2, k3, k4⟩ := tyZero_spec h2
  obtain ⟨j1, j2⟩ := leafVs_rel (X := X) (g := g) (w := w) (h := h) k3
  cases hf : fillV z qs with
  | none => simp [hf] at hk
  | some out =>
    simp only [hf] at hk
    obtain ⟨cs', e1, e2⟩ := fill_rel ps.toList qs z zv.cells out hp ⟨j1, fun i hi => Array.all_eq_true.1 k4 i hi, j2⟩ hf
    refine Out.same I (run_build w t ps cs' ?_) hk (.agg out cs' e2.1 e2.2.1 e2.2.2)
    simp only [Program.built, k1, h1, k2, h3]
    simpa using e1

theorem cellsOf_set {e : Nat} (he0 : 0 < e) {l : List V} (he : ∀ v ∈ l, v.cells.length = e) {i : Nat} (hi : i < l.length) {v : V} (hv : v.cells.length = e) :
    cellsOf (l.set i v) = setAt (cellsOf l) (i * e) v.cells := by
  have he' : ∀ u ∈ l.set i v, u.cells.length = e := fun u hu => by
    rcases List.mem_or_eq_of_mem_set hu with hu | hu
    · exact he u hu
    · rw [hu]; exact hv
  have hF := cellsOf_length he
  have hmul : i * e + e ≤ l.length * e := by
    have := Nat.mul_le_mul_right e (show i + 1 ≤ l.length by omega)
    rw [Nat.add_mul] at this; omega
  apply List.ext_getElem?
  intro k
  rw [setAt_getElem? _ _ _ _ (by omega)]
  by_cases hk : k < l.length * e
  · have hq : k / e < l.length := Nat.div_lt_of_lt_mul (by rw [Nat.mul_comm]; exact hk)
    have hc : k % e < e := Nat.mod_lt _ he0
    have hd : k / e * e + k % e = k := by rw [Nat.mul_comm]; exact Nat.div_add_mod k e
    have a1 := cellsOf_getElem he' (k / e) (by simpa using hq) (k % e) hc
    have a2 := cellsOf_getElem he (k / e) hq (k % e) hc
    rw [hd] at a1 a2
    rw [a1, a2, List.getElem_set]
    by_cases hqi : i = k / e
    · rw [if_pos hqi]
      have : i * e ≤ k ∧ k < i * e + v.cells.length := by rw [hqi, hv]; omega
      rw [if_pos this]; congr 1; rw [hqi]; omega
    · rw [if_neg hqi, if_neg]
      intro hh
      apply hqi
      rw [hv] at hh
      have h1 : i ≤ k / e := (Nat.le_div_iff_mul_le he0).2 hh.1
      have h2 : k / e < i + 1 := (Nat.div_lt_iff_lt_mul he0).2 (by rw [Nat.add_mul]; omega)
      omega
  · rw [if_neg (by omega), List.getElem?_eq_none (by rw [cellsOf_length he', List.length_set]; omega), List.getElem?_eq_none (by omega)]

theorem fillL_fillV {e : Nat} {gg : Bool} (he0 : 0 < e) : ∀ (qs : List (Nat × V)) (l out : List V), (∀ v ∈ l, v.cells.length = e) → fillL e gg l qs = some out →
    (∀ v ∈ out, v.cells.length = e) ∧ out.length = l.length ∧ fillV (cellsOf l) (qs.map fun q => (q.1 * e, e, q.2)) = some (cellsOf out)
  | [], l, out, hl, h => by simp [fillL] at h; subst h; exact ⟨hl, rfl, rfl⟩
  | (i, v) :: qs, l, out, hl, h => by
    unfold fillL at h
    split at h
    · rename_i hc
      obtain ⟨c1, c2, c3, c4⟩ := hc
      have hl' : ∀ u ∈ l.set i v, u.cells.length = e := fun u hu => by
        rcases List.mem_or_eq_of_mem_set hu with hu | hu
        · exact hl u hu
        · rw [hu]; exact c1
      obtain ⟨d1, d2, d3⟩ := fillL_fillV he0 qs _ out hl' h
      refine ⟨d1, by simpa using d2, ?_⟩
      have hmul : i * e + e ≤ l.length * e := by
        have := Nat.mul_le_mul_right e (show i + 1 ≤ l.length by omega)
        rw [Nat.add_mul] at this; omega
      simp only [List.map_cons, fillV]
      rw [if_pos ⟨c1, by rw [cellsOf_length hl]; exact hmul, c3⟩, ← cellsOf_set he0 hl c2 c1]
      exact d3
    · simp at h

theorem out_bsl {t e : TypeId} {s n : Nat} {gg : Bool} {z : List V} (h1 : X.P.underlying t = some (.slice e)) (h2 : tySize X.P e = some s) (h3 : tyZero X.P e = some z) (h4 : 0 < s) (h5 : z.length = s)
    (h6 : n * s ≤ 2 ^ 24) (h7 : gg = false → s = 1) (I : Inv X g w h) {ps : Array (Nat × Value)} {qs : List (Nat × V)}
    (hp : RelParts X g w h (fun i => some (i * s, s)) ps.toList (qs.map fun q => (q.1 * s, s, q.2)))
    (hk : match (generalizing := false) fillL s gg (List.replicate n (if gg then .agg z else z.headD .undef)) qs with | some l => K (.sl s 2 l) h | none => False) :
    Out X g w h K ((do pure (Next.value (← Instr.buildSlice t n ps)) : Sem Next).run X.P w) := by
  obtain ⟨i, zv, k1, k2, k3, k4⟩ := tyZero_spec h3
  obtain ⟨j1, j2⟩ := leafVs_rel (X := X) (g := g) (w := w) (h := h) k3
  generalize hz0 : (if gg then V.agg z else z.headD .undef) = z0 at hk
  have hz1 : z0.cells = z := by
    rw [← hz0]
    cases gg with
    | true => rfl
    | false =>
      have := h7 rfl
      match z, h5 with
      | [u], _ =>
        have hu : leafVs zv.cells.toList = some [u] := k3
        simp only [List.headD, Bool.false_eq_true, if_false]
        have : ∃ x, leafV x = some u := by
          obtain ⟨q1, q2⟩ := leafVs_spec hu
          exact ⟨_, q2 0 (by simp) (by simp at q1; simp; omega)⟩
        obtain ⟨x, hx⟩ := this
        cases u <;> first | rfl | skip
        exfalso
        unfold leafV at hx
        split at hx <;> simp at hx
      | [], h5 => simp at h5; omega
      | _ :: _ :: _, h5 => simp at h5; omega
  cases hf : fillL s gg (List.replicate n z0) qs with
  | none => simp [hf] at hk
  | some out =>
    simp only [hf] at hk
    have hrep : ∀ v ∈ List.replicate n z0, v.cells.length = s := fun v hv => by rw [List.eq_of_mem_replicate hv, hz1, h5]
    obtain ⟨d1, d2, d3⟩ := fillL_fillV h4 qs _ out hrep hf
    have hzsz : zv.cells.size = s := by omega
    have r0 : RelA X g w h (cellsOf (List.replicate n z0)) ((Array.range (n * s)).map fun j => zv.cells[j % zv.cells.size]!) := by
      have hlen : (cellsOf (List.replicate n z0)).length = n * s := by rw [cellsOf_length hrep]; simp
      refine ⟨by rw [hlen]; simp, fun q hq => ?_, fun q q1 q2 => ?_⟩
      · simp at hq ⊢
        have : q % zv.cells.size < zv.cells.size := Nat.mod_lt _ (by omega)
        rw [getElem!_pos zv.cells _ this]
        exact Array.all_eq_true.1 k4 _ this
      · simp at q2 ⊢
        have hm : q % zv.cells.size < zv.cells.size := Nat.mod_lt _ (by omega)
        rw [getElem!_pos zv.cells _ hm]
        have hd : q / s * s + q % s = q := by rw [Nat.mul_comm]; exact Nat.div_add_mod q s
        have hqn : q / s < (List.replicate n z0).length := by simp; exact Nat.div_lt_of_lt_mul (by rw [Nat.mul_comm]; exact q2)
        have a1 := cellsOf_getElem hrep (q / s) hqn (q % s) (Nat.mod_lt _ h4)
        rw [hd] at a1
        have hzl : q % s < z.length := by rw [h5]; exact Nat.mod_lt _ h4
        simp only [List.getElem_replicate, hz1] at a1
        rw [List.getElem?_eq_getElem q1, List.getElem?_eq_getElem hzl] at a1
        rw [Option.some.inj a1]
        simp only [hzsz]
        exact j2 _ _ _
    obtain ⟨cs', e1, e2⟩ := fill_rel ps.toList _ _ _ (cellsOf out) hp r0 d3
    obtain ⟨g', I', S, hpub⟩ := new_row I cs' e (cellsOf out).length
    have hol : out.length = n := by rw [d2]; simp
    have hFo : (cellsOf out).length = n * s := by rw [cellsOf_length d1, hol]
    refine Out.of_run (x := .slice (some ⟨w.heap.size, 0, none⟩) out.length n) ?_ hk I' ?_ S
    · rw [hol]
      have hzz : n * s = 0 → n = 0 := fun hh => by
        rcases Nat.mul_eq_zero.1 hh with h | h
        · exact h
        · omega
      by_cases hn : n * s = 0
      · have hn0 := hzz hn
        subst hn0
        have hr0 : Array.range 0 = #[] := rfl
        simp [hr0] at e1
        simp [Instr.buildSlice, run_underlying h1, run_tySize h2, hr0, e1, newRow]
      · simp [Instr.buildSlice, run_underlying h1, run_tySize h2, hn, run_zero k1 k2, show ¬ 16777216 < n * s by omega, e1, newRow]
    · refine .sl s 2 out w.heap.size 0 n (fun i => cs'.getD i undef) (by omega) (by have := I'.next; omega) (by omega) d1 (fun i hi => ?_) (fun i hi => ?_) (by rw [hpub]; omega) (fun i hi => ?_) (fun _ => hol.symm)
        (fun e'' h'' => by have := (I'.tipB _ _ h'').1; omega)
      · have : i < cs'.size := by have := e2.1; omega
        simp [this, Array.getD]
      · have hi2 : i < cs'.size := by have := e2.1; omega
        simp only [Array.getD, dif_pos hi2]; exact e2.2.1 i hi2
      · have hi2 : i < cs'.size := by have := e2.1; omega
        simp only [Array.getD, dif_pos hi2]; exact (e2.2.2 i hi hi2).stp S

theorem out_mks {t e : TypeId} {n m : Nat} {z : List V} (h1 : X.P.underlying t = some (.slice e)) (h2 : tySize X.P e = some n) (h3 : tyBytes X.P e = some m) (h4 : tyZero X.P e = some z) (h5 : 0 < n) (h6 : 0 < m)
    (I : Inv X g w h) {v : V} {x : Value} (r : Rel X g w h v x) (hk : match (generalizing := false) v with | .int .i64 c => 0 ≤ c ∧ c * m ≤ 2 ^ 46 ∧ K (.sl n h.next []) (h.push 2 n) | _ => False) :
    Out X g w h K ((do pure (Next.value (← Instr.makeSlice t (.int .i64 0) x)) : Sem Next).run X.P w) := by
  cases r with
  | int k c =>
    cases k <;> first | exact hk.elim | skip
    obtain ⟨k0, k1, hk⟩ := hk
    obtain ⟨i, zv, q1, q2, q3, q4⟩ := tyZero_spec h4
    obtain ⟨i', q5, rfl⟩ := tySize_info h2
    rw [q1] at q5
    obtain rfl := Option.some.inj q5
    have hm : m = i.bytes := by
      unfold tyBytes at h3; rw [q1] at h3; exact (Option.some.inj h3).symm
    subst hm
    obtain ⟨c, rfl⟩ : ∃ c' : Nat, c = c' := ⟨c.toNat, by omega⟩
    have hcm : c * i.bytes ≤ 2 ^ 46 := by
      have : ((c * i.bytes : Nat) : Int) ≤ 2 ^ 46 := by rw [Int.natCast_mul]; exact k1
      omega
    have hc : c ≤ 2 ^ 46 := Nat.le_trans (Nat.le_mul_of_pos_right _ h6) hcm
    obtain ⟨w', e1, ow, gr⟩ := run_make_own (P := X.P) w w.heap.size t e i zv i.size h1 q1 q2 rfl .i64 .i64 c (by rw [Nat.mul_comm]; omega) (by unfold maxLen; omega) (Nat.le_refl _)
    obtain ⟨g', I', S, r⟩ := fresh_row I ow (.inr (by simp)) gr 2 [] rfl (by simp) (by simp) (by simp)
    exact Out.of_run e1 hk I' r S
  | _ => exact hk.elim

/-! ### Slices that lie in objects -/
theorem repl_length {z : List V} {s : Nat} (hz : z.length = s) (n : Nat) : (repl z n).length = n * s := by
  unfold repl
  rw [cellsOf_length (e := s) (fun v hv => by rw [List.eq_of_mem_replicate hv]; exact hz)]; simp
theorem repl_rel {zv : Value} {z : List V} {s : Nat} (k3 : leafVs zv.cells.toList = some z) (k4 : zv.cells.all (·.oneCell') = true) (h4 : 0 < s) (h5 : z.length = s) (n : Nat) :
    RelA X g w h (repl z n) ((Array.range (n * s)).map fun j => zv.cells[j % zv.cells.size]!) := by
  obtain ⟨j1, j2⟩ := leafVs_rel (X := X) (g := g) (w := w) (h := h) k3
  have hrep : ∀ v ∈ List.replicate n (V.agg z), v.cells.length = s := fun v hv => by rw [List.eq_of_mem_replicate hv]; exact h5
  have hzsz : zv.cells.size = s := by omega
  refine ⟨by rw [repl_length h5]; simp, fun q hq => ?_, fun q q1 q2 => ?_⟩
  · simp at hq ⊢
    have : q % zv.cells.size < zv.cells.size := Nat.mod_lt _ (by omega)
    rw [getElem!_pos zv.cells _ this]
    exact Array.all_eq_true.1 k4 _ this
  · simp at q2 ⊢
    have hm : q % zv.cells.size < zv.cells.size := Nat.mod_lt _ (by omega)
    rw [getElem!_pos zv.cells _ hm]
    have hd : q / s * s + q % s = q := by rw [Nat.mul_comm]; exact Nat.div_add_mod q s
    have hqn : q / s < (List.replicate n (V.agg z)).length := by simp; exact Nat.div_lt_of_lt_mul (by rw [Nat.mul_comm]; exact q2)
    have a1 := cellsOf_getElem hrep (q / s) hqn (q % s) (Nat.mod_lt _ h4)
    rw [hd] at a1
    have hzl : q % s < z.length := by rw [h5]; exact Nat.mod_lt _ h4
    simp only [List.getElem_replicate, V.cells] at a1
    change (repl z n)[q]? = _ at a1
    rw [List.getElem?_eq_getElem q1, List.getElem?_eq_getElem hzl] at a1
    have a2 : (repl z n)[q] = z[q % s] := Option.some.inj a1
    simp only [hzsz]
    exact Eq.mpr (congrArg (fun v => Rel X g w h v _) a2) (j2 _ _ _)
theorem RelA.append {a b : List V} {c d : Array Value} (r : RelA X g w h a c) (q : RelA X g w h b d) : RelA X g w h (a ++ b) (c ++ d) := by
  obtain ⟨r1, r2, r3⟩ := r
  obtain ⟨q1, q2, q3⟩ := q
  refine ⟨by simp [r1, q1], fun i hi => ?_, fun i i1 i2 => ?_⟩
  · rw [Array.getElem_append]; split
    · exact r2 _ _
    · exact q2 _ _
  · rw [Array.getElem_append, List.getElem_append]
    by_cases c : i < a.length
    · rw [dif_pos c, dif_pos (by omega)]; exact r3 _ _ _
    · rw [dif_neg c, dif_neg (by omega)]
      have := q3 (i - a.length) (by simp at i1; omega) (by simp at i2; omega)
      simpa only [r1] using this
theorem new_objA (I : Inv X g w h) {z : List V} {cs : Array Value} (t : TypeId) (r : RelA X g w h z cs) :
    ∃ g', Inv X g' (w.alloc (.cells cs t)) (h.new z) ∧ Stp g w h g' (w.alloc (.cells cs t)) (h.new z) ∧ g'.obj h.nobj = w.heap.size ∧ g'.mp h.nobj = false :=
  new_obj I z cs t (Nat.le_of_eq r.1) r.2.1 r.2.2
theorem out_mkso {t e : TypeId} {n m : Nat} {z : List V} (h1 : X.P.underlying t = some (.slice e)) (h2 : tySize X.P e = some n) (h3 : tyBytes X.P e = some m) (h4 : tyZero X.P e = some z) (h5 : 0 < n) (h6 : 0 < m) (h7 : z.length = n)
    (I : Inv X g w h) {u v : V} {x y : Value} (ru : Rel X g w h u x) (rv : Rel X g w h v y)
    (hk : match (generalizing := false) u, v with | .int .i64 a, .int .i64 c => 0 ≤ a ∧ a ≤ c ∧ c * m ≤ 2 ^ 46 ∧ K (.osl n h.nobj 0 a.toNat c.toNat) (h.new (repl z c.toNat)) | _, _ => False) :
    Out X g w h K ((do pure (Next.value (← Instr.makeSlice t x y)) : Sem Next).run X.P w) := by
  cases ru with
  | int k a =>
    cases rv with
    | int k' c =>
      cases k <;> first | exact hk.elim | skip
      cases k' <;> first | exact hk.elim | skip
      obtain ⟨k0, k1, k2, hk⟩ := hk
      obtain ⟨i, zv, q1, q2, q3, q4⟩ := tyZero_spec h4
      obtain ⟨i', q5, rfl⟩ := tySize_info h2
      rw [q1] at q5
      obtain rfl := Option.some.inj q5
      have hm : m = i.bytes := by
        unfold tyBytes at h3; rw [q1] at h3; exact (Option.some.inj h3).symm
      subst hm
      obtain ⟨c, rfl⟩ : ∃ c' : Nat, c = c' := ⟨c.toNat, by omega⟩
      have hcm : c * i.bytes ≤ 2 ^ 46 := by
        have : ((c * i.bytes : Nat) : Int) ≤ 2 ^ 46 := by rw [Int.natCast_mul]; exact k2
        omega
      have hc : c ≤ 2 ^ 46 := Nat.le_trans (Nat.le_mul_of_pos_right _ h6) hcm
      have hr := run_make (P := X.P) w t e i zv h1 q1 q2 .i64 .i64 a c k0 k1 (by rw [Int.mul_comm]; rw [← Int.natCast_mul]; omega) (by omega)
      obtain ⟨g', I', S, ho, hmm⟩ := new_objA I e (repl_rel (X := X) (g := g) (w := w) (h := h) q3 q4 h5 h7 c)
      refine Out.of_run (x := .slice (some ⟨w.heap.size, 0, none⟩) a.toNat c) ?_ hk I' ?_ S
      · rw [hr]; rfl
      · rw [← ho]; exact .osl _ _ _ _ _ _ (Nat.lt_succ_self _) hmm (by simp; omega) (fun _ => by simp)
    | _ => cases k <;> exact hk.elim
  | _ => exact hk.elim
theorem out_bslo {t e : TypeId} {s n : Nat} {gg : Bool} {z : List V} (h1 : X.P.underlying t = some (.slice e)) (h2 : tySize X.P e = some s) (h3 : tyZero X.P e = some z) (h4 : 0 < s) (h5 : z.length = s)
    (h6 : n * s ≤ 2 ^ 24) (h7 : gg = false → s = 1) (I : Inv X g w h) {ps : Array (Nat × Value)} {qs : List (Nat × V)}
    (hp : RelParts X g w h (fun i => some (i * s, s)) ps.toList (qs.map fun q => (q.1 * s, s, q.2)))
    (hk : match (generalizing := false) fillL s gg (List.replicate n (if gg then .agg z else z.headD .undef)) qs with | some l => K (.osl s h.nobj 0 n n) (h.new (cellsOf l)) | none => False) :
    Out X g w h K ((do pure (Next.value (← Instr.buildSlice t n ps)) : Sem Next).run X.P w) := by
  obtain ⟨i, zv, k1, k2, k3, k4⟩ := tyZero_spec h3
  generalize hz0 : (if gg then V.agg z else z.headD .undef) = z0 at hk
  have hz1 : z0.cells = z := by
    rw [← hz0]
    cases gg with
    | true => rfl
    | false =>
      have := h7 rfl
      match z, h5 with
      | [u], _ =>
        have hu : leafVs zv.cells.toList = some [u] := k3
        simp only [List.headD, Bool.false_eq_true, if_false]
        have : ∃ x, leafV x = some u := by
          obtain ⟨q1, q2⟩ := leafVs_spec hu
          exact ⟨_, q2 0 (by simp) (by simp at q1; simp; omega)⟩
        obtain ⟨x, hx⟩ := this
        cases u <;> first | rfl | skip
        exfalso
        unfold leafV at hx
        split at hx <;> simp at hx
      | [], h5 => simp at h5; omega
      | _ :: _ :: _, h5 => simp at h5; omega
  cases hf : fillL s gg (List.replicate n z0) qs with
  | none => simp [hf] at hk
  | some out =>
    simp only [hf] at hk
    have hrep : ∀ v ∈ List.replicate n z0, v.cells.length = s := fun v hv => by rw [List.eq_of_mem_replicate hv, hz1, h5]
    obtain ⟨d1, d2, d3⟩ := fillL_fillV h4 qs _ out hrep hf
    have hce : cellsOf (List.replicate n z0) = repl z n := by
      unfold repl
      induction n with
      | zero => rfl
      | succ n ih => simp only [List.replicate_succ, cellsOf_cons, hz1, V.cells] at *; congr 1; simp only [cellsOf, List.flatMap_replicate, hz1, V.cells]
    have r0 : RelA X g w h (cellsOf (List.replicate n z0)) ((Array.range (n * s)).map fun j => zv.cells[j % zv.cells.size]!) := by
      rw [hce]; exact repl_rel k3 k4 h4 h5 n
    obtain ⟨cs', e1, e2⟩ := fill_rel ps.toList _ _ _ (cellsOf out) hp r0 d3
    obtain ⟨g', I', S, ho, hmm⟩ := new_objA I e e2
    refine Out.of_run (x := .slice (some ⟨w.heap.size, 0, none⟩) n n) ?_ hk I' ?_ S
    · have hzz : n * s = 0 → n = 0 := fun hh => by
        rcases Nat.mul_eq_zero.1 hh with h | h
        · exact h
        · omega
      by_cases hn : n * s = 0
      · have hn0 := hzz hn
        subst hn0
        have hr0 : Array.range 0 = #[] := rfl
        simp [hr0] at e1
        simp [Instr.buildSlice, run_underlying h1, run_tySize h2, hr0, e1, newRow]
      · simp [Instr.buildSlice, run_underlying h1, run_tySize h2, hn, run_zero k1 k2, show ¬ 16777216 < n * s by omega, e1, newRow]
    · rw [← ho]; exact .osl _ _ _ _ _ _ (Nat.lt_succ_self _) hmm (Nat.le_refl _) (fun _ => rfl)

/-- The first of the cells. -/
def RelP (X : Cx) (g : Gh) (w : World) (h : AH) (zs : List V) (cs : Array Value) : Prop :=
  zs.length ≤ cs.size ∧ (∀ i (h2 : i < cs.size), (cs[i]).oneCell' = true) ∧ ∀ i (h1 : i < zs.length) (h2 : i < cs.size), Rel X g w h (zs[i]) (cs[i])
theorem RelP.part {zs : List V} {cs : Array Value} (r : RelP X g w h zs cs) (off n : Nat) (hl : off + n ≤ zs.length) :
    ∃ us : List Value, us.length = n ∧ ((zs.drop off).take n).length = n ∧ (∀ j u, us[j]? = some u → cs[off + j]? = some u) ∧ (∀ u ∈ us, u.oneCell' = true) ∧ ∀ j (h1 : j < ((zs.drop off).take n).length) (h2 : j < us.length), Rel X g w h (((zs.drop off).take n)[j]) (us[j]) := by
  obtain ⟨r1, r2, r3⟩ := r
  refine ⟨(cs.toList.drop off).take n, by simp; omega, by simp; omega, fun j u hu => ?_, fun u hu => ?_, fun j h1 h2 => ?_⟩
  · rw [List.getElem?_take] at hu
    split at hu
    · rw [List.getElem?_drop] at hu; simpa using hu
    · simp at hu
  · have := List.mem_of_mem_drop (List.mem_of_mem_take hu)
    obtain ⟨i, hi, rfl⟩ := List.getElem_of_mem this
    simp at hi ⊢; exact r2 i hi
  · simp only [List.getElem_take, List.getElem_drop, Array.getElem_toList]
    simp at h1 h2
    exact r3 _ (by omega) (by omega)
theorem Inv.objA (I : Inv X g w h) {o : Nat} (hn : o < h.nobj) (hm : g.mp o = false) (hne : h.objs o ≠ []) : ∃ cs t, w.heap[g.obj o]? = some (.cells cs t (0, 0)) ∧ RelP X g w h (h.objs o) cs := by
  obtain ⟨cs, t, k1, k2, k3, k4⟩ := I.objs o hn hm hne
  exact ⟨cs, t, k1, k2, k3, k4⟩
/-- What is read of a slice. -/
theorem held_cells (I : Inv X g w h) {v : V} {x : Value} (r : Rel X g w h v x) {ey m : Nat} {mc : List V} (hh : v.held h = some (ey, m, mc)) (hm : m ≠ 0) (hey : 0 < ey) :
    ∃ (b off c : Nat) (news : List Value), x = .slice (some ⟨b, off, none⟩) m c ∧ mc.length = m * ey ∧ news.length = m * ey ∧ (∀ j u, news[j]? = some u → w.cell? ⟨b, off + j, none⟩ = some u) ∧ (∀ u ∈ news, u.oneCell' = true) ∧
      ∀ j (h1 : j < mc.length) (h2 : j < news.length), Rel X g w h (mc[j]) (news[j]) := by
  cases r with
  | slnil => simp [V.held] at hh; exact absurd hh.2.1.symm (by omega)
  | slemp => simp [V.held] at hh; exact absurd hh.2.1.symm (by omega)
  | sl e st l yb yoff ycap y j1 js jcap je jc jo jp jr j2 j3 =>
    simp [V.held] at hh
    obtain ⟨rfl, rfl, rfl⟩ := hh
    have hFm := cellsOf_length je
    refine ⟨yb, yoff, ycap, (List.range (cellsOf l).length).map y, rfl, hFm, by simp [hFm], fun j u hu => ?_, fun u hu => ?_, fun j h1 h2 => ?_⟩
    · obtain ⟨a, rfl⟩ := rangeMap_get hu
      exact jc j a
    · simp at hu
      obtain ⟨j, hj, rfl⟩ := hu
      exact jo j hj
    · simp; exact jr j h1
  | osl e o off len cap c hn hmo hc hcc =>
    simp [V.held] at hh
    obtain ⟨hfit, rfl, rfl, rfl⟩ := hh
    have hpos : 0 < len * e := Nat.mul_pos (by omega) hey
    obtain ⟨cs, t, k1, k2⟩ := I.objA hn hmo (fun e => by rw [e] at hfit; simp at hfit; omega)
    obtain ⟨us, u1, u2, u3, u4, u5⟩ := k2.part off (len * e) hfit
    exact ⟨g.obj o, off, c, us, rfl, u2, u1, fun j u hu => by simp [World.cell?, k1, u3 j u hu], u4, u5⟩
  | _ => simp [V.held] at hh
theorem held_zero {v : V} {x : Value} (r : Rel X g w h v x) {ey : Nat} {mc : List V} (hh : v.held h = some (ey, 0, mc)) :
    (Builtin.lenOf x).run X.P w = .ok 0 w ∧ ∀ k, (Builtin.firstCells k 0 x).run X.P w = .ok #[] w := by
  cases r with
  | slnil => simp [Builtin.lenOf, Builtin.firstCells]
  | slemp => simp [Builtin.lenOf, Builtin.firstCells, loadCells, loadCellsFrom]
  | sl e st l yb yoff ycap =>
    simp [V.held] at hh
    obtain ⟨rfl, rfl, rfl⟩ := hh
    simp [Builtin.lenOf, Builtin.firstCells, loadCells, loadCellsFrom]
  | osl e o off len cap c hn hm hc hcc =>
    simp [V.held] at hh
    obtain ⟨hfit, rfl, rfl, rfl⟩ := hh
    simp [Builtin.lenOf, Builtin.firstCells, loadCells, loadCellsFrom]
  | _ => simp [V.held] at hh
theorem relA_list {zs : List V} {us : List Value} (hl : zs.length = us.length) (h1 : ∀ u ∈ us, u.oneCell' = true) (hr : ∀ j (h1 : j < zs.length) (h2 : j < us.length), Rel X g w h (zs[j]) (us[j])) : RelA X g w h zs us.toArray :=
  ⟨by simpa using hl, fun i hi => by simp at hi ⊢; exact h1 _ (List.getElem_mem hi), fun i i1 i2 => by simp at i2 ⊢; exact hr i i1 i2⟩
theorem RelA.stp {g' : Gh} {w' : World} {h' : AH} (S : Stp g w h g' w' h') {zs : List V} {cs : Array Value} (r : RelA X g w h zs cs) : RelA X g' w' h' zs cs := ⟨r.1, r.2.1, fun i a b => (r.2.2 i a b).stp S⟩
theorem zeros_one {cs : Array Value} {n : Nat} (k4 : cs.all (·.oneCell') = true) : (Builtin.zeroCells cs n).size = n * cs.size ∧ ∀ i (h : i < (Builtin.zeroCells cs n).size), ((Builtin.zeroCells cs n)[i]).oneCell' = true := by
  refine ⟨by simp [Builtin.zeroCells], fun i hi => ?_⟩
  simp only [Builtin.zeroCells, Array.size_map, Array.size_range] at hi
  have hp : 0 < cs.size := by
    rcases Nat.eq_zero_or_pos cs.size with h | h
    · rw [h] at hi; simp at hi
    · exact h
  have hm : i % cs.size < cs.size := Nat.mod_lt _ hp
  simp only [Builtin.zeroCells, Array.getElem_map, Array.getElem_range]
  rw [getElem!_pos cs (i % cs.size) hm]
  exact Array.all_eq_true.1 k4 _ hm
theorem appo_run (I : Inv X g w h) {t ty e : TypeId} {i : TypeInfo} {zv : Value} {zl : List V} (ht : X.P.underlying t = some (.slice e)) (hi : X.P.info? e = some i) (hz : i.zero = some zv)
    (k3 : leafVs zv.cells.toList = some zl) (k4 : zv.cells.all (·.oneCell') = true) (hzl : zl.length = i.size) (hs0 : 0 < i.size) (hb0 : 0 < i.bytes) {v u : V} {x y : Value} (rx : Rel X g w h v x) (ry : Rel X g w h u y)
    (hk : appoK i.size i.bytes zl v (u.held h) h K) :
    ∃ v' h' x' g' w', (Builtin.append_ #[t, t] ty #[x, y]).run X.P w = .ok x' w' ∧ K v' h' ∧ Inv X g' w' h' ∧ Rel X g' w' h' v' x' ∧ Stp g w h g' w' h' := by
  have hzs : zv.cells.size = i.size := by have := (leafVs_spec k3).1; simp at this; omega
  have big : ∀ n, n * i.bytes ≤ 2 ^ 46 → n ≤ 2 ^ 46 := fun n hn => Nat.le_trans (Nat.le_mul_of_pos_right _ hb0) hn
  unfold appoK at hk
  cases hu : u.held h with
  | none => rw [hu] at hk; exact hk.elim
  | some p =>
  obtain ⟨ey, m, mc⟩ := p
  rw [hu] at hk
  simp only at hk
  cases rx with
  | slnil e1 st hst =>
    obtain ⟨_, _, hk0, hk1⟩ := hk
    by_cases hm : m = 0
    · subst hm
      obtain ⟨y1, y2⟩ := held_zero ry hu
      exact ⟨_, h, .slice none 0 0, g, w, by simp [Builtin.append_, run_underlying ht, sizeOf, typeInfo, hi, y1, y2], hk0 rfl, I, .slnil _ _ (by omega), Stp.refl _ _ _⟩
    · obtain ⟨rfl, hb, hk⟩ := hk1 hm
      obtain ⟨b, off, c, news, rfl, n1, n2, n3, n4, n5⟩ := held_cells I ry hu hm hs0
      have hmb := big _ hb
      have hr := run_append_nil (P := X.P) (w := w) t ty e i zv ht hi hz ⟨b, off, none⟩ m c news n2 (fun j u hu => by rw [Addr.add_lit]; exact n3 j u hu) (by omega) (by omega) (by omega)
      have hge := grownCap_ge w m 0 e
      obtain ⟨zq1, zq2⟩ := zeros_one (n := grownCap w m 0 e - m) k4
      obtain ⟨g', I', S, ho, hmm⟩ := new_obj I.drew mc (news.toArray ++ Builtin.zeroCells zv.cells (grownCap w m 0 e - m)) e (by simp; omega) (fun j hj => by
        rw [Array.getElem_append]; split
        · exact n4 _ (by simp)
        · exact zq2 _ _) (fun j h1 h2 => by
        rw [Array.getElem_append_left (by simp; omega)]
        simpa using (n5 j h1 (by omega)).stp (Stp.drew g w h))
      refine ⟨_, _, _, g', _, hr, hk, I', ?_, (Stp.drew g w h).trans S⟩
      exact Eq.mp (congrArg (fun b => Rel X g' _ _ (.osl i.size h.nobj 0 m 0) (.slice (some ⟨b, 0, none⟩) m (grownCap w m 0 e))) ho) (.osl _ _ _ _ _ _ (Nat.lt_succ_self _) hmm hge (fun h => absurd rfl h))
  | slemp => obtain ⟨h1, _⟩ := hk; omega
  | sl e1 st l b off cap xf j1 js jcap je jc jo jp jr j2 j3 =>
    obtain ⟨hst, rfl, hk0, hk1⟩ := hk
    obtain rfl : st = 2 := by omega
    obtain rfl : cap = 0 := j2 rfl
    by_cases hm : m = 0
    · subst hm
      obtain ⟨y1, y2⟩ := held_zero ry hu
      exact ⟨_, h, .slice (some ⟨b, off, none⟩) 0 0, g, w, by simp [Builtin.append_, run_underlying ht, sizeOf, typeInfo, hi, y1, y2, storeCells], hk0 rfl, I, .sl e1 2 [] b off 0 xf j1 js jcap je jc jo jp jr j2 j3, Stp.refl _ _ _⟩
    · obtain ⟨rfl, hb, hk⟩ := hk1 hm
      obtain ⟨yb, yoff, c, news, rfl, n1, n2, n3, n4, n5⟩ := held_cells I ry hu hm hs0
      have hmb := big _ hb
      have hr := run_append_grow (P := X.P) (w := w) t ty e i zv ht hi hz ⟨b, off, none⟩ 0 0 [] (by simp) (fun j u hu => by simp at hu) ⟨yb, yoff, none⟩ m c news n2 (fun j u hu => by rw [Addr.add_lit]; exact n3 j u hu) (by omega) (by omega) (growslice_fits (by omega) (by simpa using (by omega : m * i.bytes ≤ 2 ^ 47)))
      rw [show (#[] : Array Value) ++ news.toArray = news.toArray by simp] at hr
      have hge := grownCap_ge w (0 + m) 0 e
      obtain ⟨zq1, zq2⟩ := zeros_one (n := grownCap w (0 + m) 0 e - (0 + m)) k4
      obtain ⟨g', I', S, ho, hmm⟩ := new_obj I.drew mc (news.toArray ++ Builtin.zeroCells zv.cells (grownCap w (0 + m) 0 e - (0 + m))) e (by simp; omega) (fun j hj => by
        rw [Array.getElem_append]; split
        · exact n4 _ (by simp)
        · exact zq2 _ _) (fun j h1 h2 => by
        rw [Array.getElem_append_left (by simp; omega)]
        simpa using (n5 j h1 (by omega)).stp (Stp.drew g w h))
      refine ⟨_, _, _, g', _, hr, hk, I', ?_, (Stp.drew g w h).trans S⟩
      exact Eq.mp (congrArg (fun b => Rel X g' _ _ (.osl i.size h.nobj 0 m 0) (.slice (some ⟨b, 0, none⟩) (0 + m) (grownCap w (0 + m) 0 e))) ho) (Eq.mp (congrArg (fun k => Rel X g' _ _ (.osl i.size h.nobj 0 m 0) (.slice (some ⟨g'.obj h.nobj, 0, none⟩) k (grownCap w (0 + m) 0 e))) (Nat.zero_add m).symm) (.osl _ _ _ _ _ _ (Nat.lt_succ_self _) hmm (by omega) (fun h => absurd rfl h)))
  | osl e1 o off len cap c0 hn hmo hc hcc =>
    obtain ⟨hk0, hk1⟩ := hk
    by_cases hm : m = 0
    · subst hm
      obtain ⟨y1, y2⟩ := held_zero ry hu
      exact ⟨_, h, .slice (some ⟨g.obj o, off, none⟩) len c0, g, w, by simp [Builtin.append_, run_underlying ht, sizeOf, typeInfo, hi, y1, y2, hc, storeCells], hk0 rfl, I, .osl _ _ _ _ _ _ hn hmo hc hcc, Stp.refl _ _ _⟩
    · obtain ⟨rfl, rfl, hfit, hb, hroom, hka⟩ := hk1 hm
      obtain rfl := hcc (by omega)
      obtain ⟨b, boff, c, news, rfl, n1, n2, n3, n4, n5⟩ := held_cells I ry hu hm hs0
      have hmb := big _ hb
      have hmul := Nat.mul_le_mul_right i.size hroom
      rw [Nat.add_mul] at hmul
      have hpos : 0 < m * i.size := Nat.mul_pos (by omega) hs0
      have hlive : h.objs o ≠ [] := fun e => by rw [e] at hfit; simp at hfit; omega
      obtain ⟨cs, tt, c1, c2⟩ := I.objA hn hmo hlive
      have c3 := c2.1
      obtain ⟨w', e1, I', S⟩ := store_obj I o (off + len * i.size) hn hmo hlive mc news (by omega) (by omega) (fun j hj => n4 _ (List.getElem_mem hj)) n5
      have hcc : ∀ j, j < news.length → (w.cell? ⟨g.obj o, off + len * i.size + j, none⟩).isSome = true ∧ w.frozen? ⟨g.obj o, off + len * i.size + j, none⟩ = false := fun j hj => by
        have : off + len * i.size + j < cs.size := by omega
        simp [World.cell?, World.frozen?, c1, this]
      have hr := run_append_room_cells (P := X.P) w t ty e i ht hi (g.obj o) off len cap ⟨b, boff, none⟩ m c news n2 (fun j u hu => by rw [Addr.add_lit]; exact n3 j u hu) n4 hroom (fun j hj => (hcc j hj).1) (fun j hj => (hcc j hj).2)
      have hst := run_storeCells_cells (P := X.P) (g.obj o) (off + len * i.size) news 0 w (fun j hj => by simpa using (hcc j hj).1) (fun j hj => by simpa using (hcc j hj).2) n4
      simp only [Nat.add_zero] at hst
      rw [hst] at e1
      have hw : w.setCells (g.obj o) (off + len * i.size) news = w' := by injection e1
      rw [hw] at hr
      exact ⟨_, _, _, g, w', hr, hka, I', .osl _ _ _ _ _ _ hn hmo (by omega) (fun _ => rfl), S⟩
  | _ => exact hk.elim

theorem relP_list {zs : List V} {us : List Value} {r : Array Value} {k : Nat} (hl : zs.length = us.length) (hr : ∀ j (h1 : j < zs.length) (h2 : j < us.length), Rel X g w h (zs[j]) (us[j])) (hk : k ≤ r.size) :
    (zs ++ List.replicate k V.undef).length ≤ (us.toArray ++ r).size ∧ ∀ i (h1 : i < (zs ++ List.replicate k V.undef).length) (h2 : i < (us.toArray ++ r).size), Rel X g w h ((zs ++ List.replicate k V.undef)[i]) ((us.toArray ++ r)[i]) := by
  refine ⟨by simp; omega, fun i h1 h2 => ?_⟩
  rw [List.getElem_append, Array.getElem_append]
  by_cases c : i < zs.length
  · rw [dif_pos c, dif_pos (by simp; omega)]
    simpa using hr i c (by omega)
  · rw [dif_neg c, List.getElem_replicate]
    exact .undef _
theorem appg_run (I : Inv X g w h) {t ty e : TypeId} {i : TypeInfo} {zv : Value} {zl : List V} (ht : X.P.underlying t = some (.slice e)) (hi : X.P.info? e = some i) (hz : i.zero = some zv)
    (k3 : leafVs zv.cells.toList = some zl) (k4 : zv.cells.all (·.oneCell') = true) (hzl : zl.length = i.size) (hs0 : 0 < i.size) (hb0 : 0 < i.bytes) {v u : V} {x y : Value} (rx : Rel X g w h v x) (ry : Rel X g w h u y)
    (hk : appgK i.size i.bytes v (u.held h) h K) :
    ∃ v' h' x' g' w', (Builtin.append_ #[t, t] ty #[x, y]).run X.P w = .ok x' w' ∧ K v' h' ∧ Inv X g' w' h' ∧ Rel X g' w' h' v' x' ∧ Stp g w h g' w' h' := by
  have hzs : zv.cells.size = i.size := by have := (leafVs_spec k3).1; simp at this; omega
  have big : ∀ n, n * i.bytes ≤ 2 ^ 46 → n ≤ 2 ^ 46 := fun n hn => Nat.le_trans (Nat.le_mul_of_pos_right _ hb0) hn
  unfold appgK at hk
  cases hu : u.held h with
  | none => rw [hu] at hk; exact hk.elim
  | some p =>
  obtain ⟨ey, m, mc⟩ := p
  rw [hu] at hk
  simp only at hk
  cases rx with
  | slnil e1 st hst =>
    obtain ⟨hm, rfl, _, _, hb, hk⟩ := hk
    obtain ⟨b, off, c, news, rfl, n1, n2, n3, n4, n5⟩ := held_cells I ry hu hm hs0
    have hmb := big _ hb
    have hr := run_append_nil (P := X.P) (w := w) t ty e i zv ht hi hz ⟨b, off, none⟩ m c news n2 (fun j u hu => by rw [Addr.add_lit]; exact n3 j u hu) (by omega) (by omega) (by omega)
    have hge := grownCap_ge w m 0 e
    obtain ⟨zq1, zq2⟩ := zeros_one (n := grownCap w m 0 e - m) k4
    obtain ⟨r1, r2⟩ := relP_list (X := X) (g := g) (w := w.drew) (h := h) (r := Builtin.zeroCells zv.cells (grownCap w m 0 e - m)) (k := (grownCap w m 0 e - m) * i.size) (n1.trans n2.symm) (fun j h1 h2 => (n5 j h1 h2).stp (Stp.drew g w h)) (by rw [zq1, hzs]; exact Nat.le_refl _)
    obtain ⟨g', I', S, ho, hmm⟩ := new_obj I.drew _ (news.toArray ++ Builtin.zeroCells zv.cells (grownCap w m 0 e - m)) e r1 (fun j hj => by
      rw [Array.getElem_append]; split
      · exact n4 _ (by simp)
      · exact zq2 _ _) r2
    refine ⟨_, _, _, g', _, hr, hk _ hge, I', ?_, (Stp.drew g w h).trans S⟩
    exact Eq.mp (congrArg (fun b => Rel X g' _ _ (.osl i.size h.nobj 0 m (grownCap w m 0 e)) (.slice (some ⟨b, 0, none⟩) m (grownCap w m 0 e))) ho) (.osl _ _ _ _ _ _ (Nat.lt_succ_self _) hmm hge (fun _ => rfl))
  | slemp => obtain ⟨_, _, h1, _⟩ := hk; omega
  | sl e1 st l b off cap xf j1 js jcap je jc jo jp jr j2 j3 =>
    obtain ⟨hm, rfl, hst, rfl, hb, hk⟩ := hk
    obtain rfl : st = 2 := by omega
    obtain rfl : cap = 0 := j2 rfl
    obtain ⟨yb, yoff, c, news, rfl, n1, n2, n3, n4, n5⟩ := held_cells I ry hu hm hs0
    have hmb := big _ hb
    have hr := run_append_grow (P := X.P) (w := w) t ty e i zv ht hi hz ⟨b, off, none⟩ 0 0 [] (by simp) (fun j u hu => by simp at hu) ⟨yb, yoff, none⟩ m c news n2 (fun j u hu => by rw [Addr.add_lit]; exact n3 j u hu) (by omega) (by omega) (growslice_fits (by omega) (by simpa using (by omega : m * i.bytes ≤ 2 ^ 47)))
    rw [show (#[] : Array Value) ++ news.toArray = news.toArray by simp] at hr
    have hge := grownCap_ge w (0 + m) 0 e
    obtain ⟨zq1, zq2⟩ := zeros_one (n := grownCap w (0 + m) 0 e - (0 + m)) k4
    obtain ⟨r1, r2⟩ := relP_list (X := X) (g := g) (w := w.drew) (h := h) (r := Builtin.zeroCells zv.cells (grownCap w (0 + m) 0 e - (0 + m))) (k := (grownCap w (0 + m) 0 e - m) * i.size) (n1.trans n2.symm) (fun j h1 h2 => (n5 j h1 h2).stp (Stp.drew g w h)) (by rw [zq1, hzs, Nat.zero_add]; exact Nat.le_refl _)
    obtain ⟨g', I', S, ho, hmm⟩ := new_obj I.drew _ (news.toArray ++ Builtin.zeroCells zv.cells (grownCap w (0 + m) 0 e - (0 + m))) e r1 (fun j hj => by
      rw [Array.getElem_append]; split
      · exact n4 _ (by simp)
      · exact zq2 _ _) r2
    refine ⟨_, _, _, g', _, hr, hk (grownCap w (0 + m) 0 e) (by omega), I', ?_, (Stp.drew g w h).trans S⟩
    exact Eq.mp (congrArg (fun b => Rel X g' _ _ (.osl i.size h.nobj 0 m (grownCap w (0 + m) 0 e)) (.slice (some ⟨b, 0, none⟩) (0 + m) (grownCap w (0 + m) 0 e))) ho) (Eq.mp (congrArg (fun k => Rel X g' _ _ (.osl i.size h.nobj 0 m (grownCap w (0 + m) 0 e)) (.slice (some ⟨g'.obj h.nobj, 0, none⟩) k (grownCap w (0 + m) 0 e))) (Nat.zero_add m).symm) (.osl _ _ _ _ _ _ (Nat.lt_succ_self _) hmm (by omega) (fun _ => rfl)))
  | osl e1 o off len cap c0 hn hmo hc hcc =>
    obtain ⟨hm, rfl, rfl, hcap, hfit, hb, hka, hkb⟩ := hk
    obtain rfl := hcc hcap
    obtain ⟨b, boff, c, news, rfl, n1, n2, n3, n4, n5⟩ := held_cells I ry hu hm hs0
    have hmb := big _ hb
    have hcpos : 0 < cap * i.size := Nat.mul_pos (by omega) hs0
    have hlive : h.objs o ≠ [] := fun e => by rw [e] at hfit; simp at hfit; omega
    obtain ⟨cs, tt, c1, c2⟩ := I.objA hn hmo hlive
    have c3 := c2.1
    by_cases hroom : len + m ≤ cap
    · have hmul := Nat.mul_le_mul_right i.size hroom
      rw [Nat.add_mul] at hmul
      have hpos : 0 < m * i.size := Nat.mul_pos (by omega) hs0
      obtain ⟨w', e1, I', S⟩ := store_obj I o (off + len * i.size) hn hmo hlive mc news (by omega) (by omega) (fun j hj => n4 _ (List.getElem_mem hj)) n5
      have hcc : ∀ j, j < news.length → (w.cell? ⟨g.obj o, off + len * i.size + j, none⟩).isSome = true ∧ w.frozen? ⟨g.obj o, off + len * i.size + j, none⟩ = false := fun j hj => by
        have : off + len * i.size + j < cs.size := by omega
        simp [World.cell?, World.frozen?, c1, this]
      have hr := run_append_room_cells (P := X.P) w t ty e i ht hi (g.obj o) off len cap ⟨b, boff, none⟩ m c news n2 (fun j u hu => by rw [Addr.add_lit]; exact n3 j u hu) n4 hroom (fun j hj => (hcc j hj).1) (fun j hj => (hcc j hj).2)
      have hst := run_storeCells_cells (P := X.P) (g.obj o) (off + len * i.size) news 0 w (fun j hj => by simpa using (hcc j hj).1) (fun j hj => by simpa using (hcc j hj).2) n4
      simp only [Nat.add_zero] at hst
      rw [hst] at e1
      have hw : w.setCells (g.obj o) (off + len * i.size) news = w' := by injection e1
      rw [hw] at hr
      exact ⟨_, _, _, g, w', hr, hka hroom, I', .osl _ _ _ _ _ _ hn hmo (by omega) (fun _ => rfl), S⟩
    · have hmul := Nat.mul_le_mul_right i.size hc
      obtain ⟨us, u1, u2, u3, u4, u5⟩ := c2.part off (len * i.size) (by omega)
      have hr := run_append_grow (P := X.P) (w := w) t ty e i zv ht hi hz ⟨g.obj o, off, none⟩ len cap us u1 (fun j u hu => by rw [Addr.add_lit]; simp [World.cell?, c1, u3 j u hu]) ⟨b, boff, none⟩ m c news n2 (fun j u hu => by rw [Addr.add_lit]; exact n3 j u hu) (by omega) (by omega) (growslice_fits (by omega) (by omega))
      have hge := grownCap_ge w (len + m) cap e
      obtain ⟨zq1, zq2⟩ := zeros_one (n := grownCap w (len + m) cap e - (len + m)) k4
      have hjoin : ∀ j (h1 : j < (((h.objs o).drop off).take (len * i.size) ++ mc).length) (h2 : j < (us ++ news).length), Rel X g w.drew h ((((h.objs o).drop off).take (len * i.size) ++ mc)[j]) ((us ++ news)[j]) := fun j h1 h2 => by
        rw [List.getElem_append, List.getElem_append]
        by_cases q : j < len * i.size
        · rw [dif_pos (by omega), dif_pos (by omega)]
          exact (u5 j (by omega) (by omega)).stp (Stp.drew g w h)
        · rw [dif_neg (by omega), dif_neg (by omega)]
          have := (n5 (j - len * i.size) (by rw [List.length_append] at h1; omega) (by rw [List.length_append] at h2; omega)).stp (Stp.drew g w h)
          simpa only [u1, u2] using this
      obtain ⟨r1, r2⟩ := relP_list (X := X) (g := g) (w := w.drew) (h := h) (zs := ((h.objs o).drop off).take (len * i.size) ++ mc) (us := us ++ news) (r := Builtin.zeroCells zv.cells (grownCap w (len + m) cap e - (len + m))) (k := (grownCap w (len + m) cap e - (len + m)) * i.size) (by rw [List.length_append, List.length_append]; omega) hjoin (by rw [zq1, hzs]; exact Nat.le_refl _)
      rw [show us.toArray ++ news.toArray = (us ++ news).toArray by simp] at hr
      obtain ⟨g', I', S, ho, hmm⟩ := new_obj I.drew _ ((us ++ news).toArray ++ Builtin.zeroCells zv.cells (grownCap w (len + m) cap e - (len + m))) e r1 (fun j hj => by
        rw [Array.getElem_append]; split
        · rename_i q
          have : ((us ++ news).toArray)[j] ∈ us ++ news := by simp only [List.getElem_toArray]; exact List.getElem_mem _
          rcases List.mem_append.1 this with q | q
          · exact u4 _ q
          · exact n4 _ q
        · exact zq2 _ _) r2
      refine ⟨_, _, _, g', _, hr, hkb (by omega) _ hge, I', ?_, (Stp.drew g w h).trans S⟩
      exact Eq.mp (congrArg (fun b => Rel X g' _ _ (.osl i.size h.nobj 0 (len + m) (grownCap w (len + m) cap e)) (.slice (some ⟨b, 0, none⟩) (len + m) (grownCap w (len + m) cap e))) ho) (.osl _ _ _ _ _ _ (Nat.lt_succ_self _) hmm hge (fun _ => rfl))
  | _ => exact hk.elim

/-! ### Maps -/
section
variable {X : Cx} {g : Gh} {w : World} {h : AH} {K : V → AH → Prop}
/-- A key's description. -/
def ekd : EK → TypeDesc → Prop
  | .i, d => ∃ q, d = .int q
  | .s, d => d = .string
  | .b, d => d = .bool
theorem ekOf_ekd {P : Program} {t : TypeId} {e : EK} (h : ekOf P t = some e) : ∃ d, P.underlying t = some d ∧ ekd e d := by
  cases e with
  | i => obtain ⟨k, hk⟩ := ekOf_int h; exact ⟨_, hk, k, rfl⟩
  | s => exact ⟨_, ekOf_str h, rfl⟩
  | b => exact ⟨_, ekOf_bool h, rfl⟩
theorem eqLeaf_now {e : EK} {d : TypeDesc} (hd : ekd e d) {a b : V} {x y : Value} (ra : Rel X g w h a x) (rb : Rel X g w h b y) {t : Bool} (ht : eqLeaf e a b = some t) :
    Instr.sameNow d x y = some t ∧ (t = true → x = y) := by
  cases e with
  | i =>
    obtain ⟨q, rfl⟩ := hd
    cases ra <;> simp [eqLeaf] at ht
    cases rb <;> simp at ht
    obtain ⟨rfl, rfl⟩ := ht
    simp [Instr.sameNow]
    exact Bool.eq_iff_iff.2 (by simp)
  | s =>
    cases hd
    cases ra <;> simp [eqLeaf] at ht
    cases rb <;> simp at ht
    subst ht
    rename_i s1 s2
    have : ((⟨s1.toArray⟩ : ByteArray) == ⟨s2.toArray⟩) = decide (s1 = s2) := Bool.eq_iff_iff.2 (by rw [MapKept.bytes_beq]; simp [ByteArray.ext_iff])
    simp [Instr.sameNow, this]
  | b =>
    cases hd
    cases ra <;> simp [eqLeaf] at ht
    cases rb <;> simp at ht
    subst ht
    simp [Instr.sameNow]
    exact Bool.eq_iff_iff.2 (by simp)
theorem tup2 {l : List V} {a b : Value} (r : Rel X g w h (.tup l) (.tuple #[a, b])) : ∃ u v, l = [u, v] ∧ Rel X g w h u a ∧ Rel X g w h v b := by
  cases r with
  | tup _ _ hl hr =>
    match l, hl, hr with
    | [u, v], _, hr => exact ⟨u, v, rfl, hr 0 (by simp) (by simp), hr 1 (by simp) (by simp)⟩
theorem findE_run {e : EK} {d : TypeDesc} (hd : ekd e d) {key : V} {kv : Value} (rk : Rel X g w h key kv) : ∀ (zs : List V) (es : List MapEntry) (n : Nat) (r : Option (Nat × V)), zs.length = es.length →
    (∀ i (h1 : i < zs.length) (h2 : i < es.length), Rel X g w h (zs[i]) (.tuple #[(es[i]).key, (es[i]).val])) → findE (.pl e) key zs n = some r →
    (r = none ∧ Instr.findNow d kv es n = some none) ∨ ∃ i v, r = some (n + i, v) ∧ ∃ hi : i < es.length, Instr.findNow d kv es n = some (some (n + i, (es[i]).val)) ∧ Rel X g w h v (es[i]).val ∧ (es[i]).key = kv
  | [], [], n, r, _, _, hf => by
    simp [findE] at hf
    exact .inl ⟨hf.symm, rfl⟩
  | z :: zs, e1 :: es, n, r, hl, hr, hf => by
    have r0 := hr 0 (by simp) (by simp)
    simp at r0
    have hz : ∃ u v, z = .tup [u, v] := by
      cases r0 with
      | tup l cs hl hr => exact (by obtain ⟨u, v, e0, _⟩ := tup2 (.tup (X := X) (g := g) (w := w) (h := h) l _ hl hr); exact ⟨u, v, by rw [e0]⟩)
      | undef => simp [findE] at hf
      | cval => simp [findE] at hf
    obtain ⟨u, v, rfl⟩ := hz
    obtain ⟨u', v', e0, ru, rv⟩ := tup2 r0
    simp at e0
    obtain ⟨rfl, rfl⟩ := e0
    simp only [findE, eqKey] at hf
    split at hf
    · rename_i ht
      obtain ⟨h1, h2⟩ := eqLeaf_now hd rk ru ht
      simp at hf; subst hf
      exact .inr ⟨0, v, rfl, by simp, by simp [Instr.findNow, h1], rv, (h2 rfl).symm⟩
    · rename_i ht
      obtain ⟨h1, _⟩ := eqLeaf_now hd rk ru ht
      rcases findE_run hd rk zs es (n + 1) r (by simpa using hl) (fun i a b => by have := hr (i + 1) (by simp; omega) (by simp; omega); simpa only [List.getElem_cons_succ] using this) hf with ⟨a, b⟩ | ⟨i, v2, a, hi, b, c, dd⟩
      · exact .inl ⟨a, by simp [Instr.findNow, h1, b]⟩
      · exact .inr ⟨i + 1, v2, by rw [a]; congr 2; omega, by simpa using hi, by simp [Instr.findNow, h1, b]; omega, by simpa using c, by simpa using dd⟩
    · simp at hf
theorem setBlock_ne (w : World) (b : Nat) (o : Obj) (k : Nat) (hk : k ≠ b) : ({ w with heap := w.heap.setIfInBounds b o } : World).heap[k]? = w.heap[k]? := by
  simp only [Array.getElem?_setIfInBounds]; rw [if_neg (by omega)]
/-- Another map in the same place. -/
theorem store_map (I : Inv X g w h) {o : Nat} (ho : o < h.nobj) (hm : g.mp o = true) (hx : exoB (h.objs o) = false) (es : Array MapEntry) (zs : List V) (hl : zs.length = es.size) (hb : ∀ i (h1 : i < es.size), (es[i]).born = i)
    (hr : ∀ i (h1 : i < zs.length) (h2 : i < es.size), Rel X g w h (zs[i]) (.tuple #[(es[i]).key, (es[i]).val])) :
    Inv X g { w with heap := w.heap.setIfInBounds (g.obj o) (.map es es.size) } (h.set o zs) ∧ Stp g w h g { w with heap := w.heap.setIfInBounds (g.obj o) (.map es es.size) } (h.set o zs) := by
  obtain ⟨es0, k1, k2, k3, k4⟩ := (I.maps o ho hm).not hx
  have hlt : g.obj o < w.heap.size := I.objL ho
  generalize hw' : ({ w with heap := w.heap.setIfInBounds (g.obj o) (.map es es.size) } : World) = w'
  have hne : ∀ k, k ≠ g.obj o → w'.heap[k]? = w.heap[k]? := fun k hk => by rw [← hw']; exact setBlock_ne w _ _ k hk
  have hat : w'.heap[g.obj o]? = some (.map es es.size) := by rw [← hw']; simp [hlt]
  have hsz : w'.heap.size = w.heap.size := by rw [← hw']; simp
  have hcell : ∀ a : Addr, w'.cell? a = w.cell? a := fun a => by
    by_cases e : a.block = g.obj o
    · simp [World.cell?, e, hat, k1]
    · simp [World.cell?, hne _ e]
  have S : Stp g w h g w' (h.set o zs) :=
    { next := Nat.le_refl _
      nobj := Nat.le_refl _
      obj := fun _ _ => rfl
      mp := fun _ _ => rfl
      pub := fun _ => Nat.le_refl _
      cell := fun b i _ => hcell _
      tip := fun s _ e he => ⟨he, rfl, rfl⟩
      row := fun s _ e he off n r => by
        obtain ⟨c, t, hh, hl⟩ := r
        exact ⟨c, t, by rw [hne _ (fun e' => I.tipO o s e ho he e'.symm)]; exact hh, hl⟩
      shape := fun b s hs => by
        by_cases e : b = g.obj o
        · subst e
          unfold World.shape? at hs; rw [k1] at hs; cases hs
        · exact shape_blk hs (hne _ e) }
  refine ⟨?_, S⟩
  exact
    { below := I.below.trans ⟨by rw [← hw'], by rw [← hw'], by rw [← hw'], by rw [hsz]; exact Nat.le_refl _, fun k hk => hne _ (by have := (I.objB o ho).1; omega)⟩
      next := I.next
      maps := fun o' ho' hm' => by
        by_cases e : o' = o
        · subst e
          have e2 : (h.set o' zs).objs o' = zs := updN_same _ _ _
          refine .inl ⟨es, hat, by rw [e2]; exact hl, hb, fun i h1 h2 => ?_⟩
          simp only [e2] at h1 ⊢
          exact (hr i h1 h2).stp S
        · exact (I.maps o' ho' hm').stp S rfl (fun _ _ k => by rw [hne _ (fun e' => e (I.objI o' o ho' ho e'))]; exact k) (updN_ne _ _ e)
      objs := fun o' ho' hm' hn => by
        have e : ¬ o' = o := fun e => by rw [e, hm] at hm'; cases hm'
        have e2 : (h.set o zs).objs o' = h.objs o' := updN_ne _ _ e
        obtain ⟨cs', t', j1, j2, j3, j4⟩ := I.objs o' ho' hm' (by rw [← e2]; exact hn)
        refine ⟨cs', t', ?_, by rw [e2]; exact j2, j3, fun i i1 i2 => ?_⟩
        · rw [hne _ (fun e' => e (I.objI o' o ho' ho e'))]; exact j1
        · simp only [e2] at i1 ⊢; exact (j4 i i1 i2).stp S
      objL := fun {o'} ho' => by have := I.objL ho'; rw [hsz]; exact this
      objB := fun o' ho' => by
        refine ⟨(I.objB o' ho').1, fun hm' hn => ?_⟩
        by_cases e : o' = o
        · rw [e, hm] at hm'; cases hm'
        · have e2 : (h.set o zs).objs o' = h.objs o' := updN_ne _ _ e
          exact (I.objB o' ho').2 hm' (by rw [← e2]; exact hn)
      objI := I.objI
      tipB := fun s e he => by
        obtain ⟨a, b, c, d⟩ := I.tipB s e he
        exact ⟨a, b, c, by rw [hsz]; exact d⟩
      tipI := I.tipI
      tipO := I.tipO
      pubB := fun b hb => I.pubB b (by rw [hsz] at hb; exact hb) }
theorem run_checkNow {P : Program} {w : World} {kt : TypeId} {d : TypeDesc} {e : EK} (hd : P.underlying kt = some d) (he : ekd e d) (b : Bool) (n : Nat) (kv : Value) : (Instr.checkKey b (n + 1) kt kv).run P w = .ok () w := by
  unfold Instr.checkKey
  simp only [Sem.run_bind, run_underlying hd, Result.andThen]
  cases e with
  | i => obtain ⟨q, rfl⟩ := he; rfl
  | s => cases he; rfl
  | b => cases he; rfl
theorem run_findNow {P : Program} {w : World} {kt : TypeId} {d : TypeDesc} (hd : P.underlying kt = some d) (kv : Value) (es : List MapEntry) {r : Option (Nat × Value)} (h : Instr.findNow d kv es 0 = some r) : (Instr.findKey kt kv es).run P w = .ok r w := by
  simp [Instr.findKey, run_underlying hd, h]
theorem kkOf_st {P : Program} {t : TypeId} {offs : List (EK × Nat)} (h : kkOf P t = some (.st offs)) : eqOffs P t = some offs ∧ offs.map (·.2) = List.range offs.length := by
  unfold kkOf at h
  split at h
  · simp at h
  · split at h
    · split at h
      · simp at h; subst h; exact ⟨by assumption, by assumption⟩
      · simp at h
    · simp at h
theorem kkOf_pl {P : Program} {t : TypeId} {e : EK} (h : kkOf P t = some (.pl e)) : ekOf P t = some e := by
  unfold kkOf at h
  split at h
  · simp at h; subst h; assumption
  · split at h
    · split at h
      · simp at h
      · simp at h
    · simp at h
theorem eqOffs_sub {P : Program} {t : TypeId} {offs : List (EK × Nat)} (h : eqOffs P t = some offs) : ∃ s, eqSub P 4 0 s t = some offs := by
  unfold eqOffs at h
  split at h
  · exact ⟨_, h⟩
  · simp at h
theorem eqSub_desc {P : Program} {n base lim : Nat} {t : TypeId} {offs : List (EK × Nat)} (h : eqSub P n base lim t = some offs) : ∃ fs, P.underlying t = some (.struct fs) := by
  cases n with
  | zero => simp [eqSub] at h
  | succ n =>
    unfold eqSub at h
    split at h
    · exact ⟨_, by assumption⟩
    · simp at h
theorem eqL_all {l m : List V} : ∀ {offs : List (EK × Nat)} {t : Bool}, eqL l m offs = some t → ∀ o ∈ offs, ∃ t', eqLeaf o.1 (l.getD o.2 .undef) (m.getD o.2 .undef) = some t' ∧ (t = true → t' = true)
  | [], _, _, o, ho => by simp at ho
  | p :: r, t, h, o, ho => by
    simp only [eqL] at h
    split at h
    · rename_i b1 b2 e1 e2
      simp at h
      rcases List.mem_cons.1 ho with rfl | ho
      · exact ⟨b1, e1, fun ht => by subst ht; simp at h; exact h.1⟩
      · obtain ⟨t', h1, h2⟩ := eqL_all e2 o ho
        exact ⟨t', h1, fun ht => h2 (by subst ht; simp at h; exact h.2)⟩
    · simp at h
theorem eqLeaf_same {e : EK} {a b : V} {x y : Value} (ra : Rel X g w h a x) (rb : Rel X g w h b y) (ht : eqLeaf e a b = some true) : x = y ∧ ∀ n, Instr.sameBits n x x = true := by
  have hs : ∀ n, Instr.sameBits n x x = true := fun n => by
    cases e <;> cases ra <;> simp [eqLeaf] at ht <;> cases n <;> simp [Instr.sameBits]
    all_goals exact (MapKept.bytes_beq _ _).2 rfl
  refine ⟨?_, hs⟩
  cases e with
  | i =>
    cases ra <;> simp [eqLeaf] at ht
    cases rb <;> simp at ht
    obtain ⟨rfl, rfl⟩ := ht
    rfl
  | s =>
    cases ra <;> simp [eqLeaf] at ht
    cases rb <;> simp at ht
    subst ht
    rfl
  | b =>
    cases ra <;> simp [eqLeaf] at ht
    cases rb <;> simp at ht
    subst ht
    rfl
theorem zip_self {α : Type} : ∀ l : List α, l.zip l = l.map fun x => (x, x)
  | [] => rfl
  | a :: l => by simp [zip_self l]
theorem eqKey_agg {offs : List (EK × Nat)} {a b : V} {t : Bool} (h : eqKey (.st offs) a b = some t) : ∃ l m, a = .agg l ∧ b = .agg m ∧ l.length = offs.length ∧ m.length = offs.length ∧ eqL l m offs = some t := by
  cases a <;> simp [eqKey] at h
  cases b <;> simp at h
  exact ⟨_, _, rfl, rfl, h.1.1, h.1.2, h.2⟩
theorem eqKey_same {offs : List (EK × Nat)} (hc : offs.map (·.2) = List.range offs.length) {a b : V} {x y : Value} (ra : Rel X g w h a x) (rb : Rel X g w h b y) (ht : eqKey (.st offs) a b = some true) : x = y ∧ Instr.sameBits 10000 x x = true := by
  obtain ⟨l, m, rfl, rfl, hl, hm, he⟩ := eqKey_agg ht
  cases ra with
  | agg _ xs hlx _ hrx =>
  cases rb with
  | agg _ ys hly _ hry =>
  have cell : ∀ i (h1 : i < xs.size) (h2 : i < ys.size), xs[i] = ys[i] ∧ ∀ n, Instr.sameBits n xs[i] xs[i] = true := fun i h1 h2 => by
    have hio : i < offs.length := by omega
    have h3 : (offs[i]).2 = i := by
      have : (offs.map (·.2))[i]? = (List.range offs.length)[i]? := by rw [hc]
      simpa [hio] using this
    obtain ⟨t', e1, e2⟩ := eqL_all he _ (List.getElem_mem hio)
    obtain rfl := e2 rfl
    rw [h3] at e1
    have r1 := hrx i (by omega) h1
    have r2 := hry i (by omega) h2
    simp only [List.getD, List.getElem?_eq_getElem (show i < l.length by omega), List.getElem?_eq_getElem (show i < m.length by omega), Option.getD_some] at e1
    exact eqLeaf_same r1 r2 e1
  have hxy : xs = ys := Array.ext (by omega) fun i h1 h2 => (cell i h1 h2).1
  subst hxy
  refine ⟨rfl, ?_⟩
  simp only [Instr.sameBits, beq_self_eq_true, Bool.true_and, zip_self, List.all_map, List.all_eq_true]
  intro z hz
  obtain ⟨i, hi, rfl⟩ := List.getElem_of_mem hz
  simp at hi
  simpa using (cell i hi hi).2 9999
theorem checkSub_run {xs : Array Value} (b : Bool) :
    ∀ (n : Nat) {base lim : Nat} {t : TypeId} {offs : List (EK × Nat)} {cx : Array Value}, View cx xs base lim → eqSub X.P n base lim t = some offs → (∀ o ∈ offs, o.2 < xs.size) → ∀ d, n < d → (Instr.checkKey b d t (.agg cx)).run X.P w = .ok () w
  | 0, _, _, _, _, _, _, e, _, _, _ => by simp [eqSub] at e
  | n + 1, base, lim, t, offs, cx, vx, e, hb, d, hd => by
    obtain ⟨d, rfl⟩ : ∃ d', d = d' + 1 := ⟨d - 1, by omega⟩
    obtain ⟨d, rfl⟩ : ∃ d', d = d' + 1 := ⟨d - 1, by omega⟩
    unfold eqSub at e
    split at e
    · rename_i fs ht
      split at e
      · simp at e
      · unfold Instr.checkKey
        simp only [Sem.run_bind, run_underlying ht, Result.andThen_ok]
        rw [← Array.forIn_toList]
        generalize fs.toList = fs at e
        clear ht
        induction fs generalizing offs with
        | nil => simp
        | cons f fs ih =>
          unfold eqOffs1 at e
          split at e
          · simp at e
          · rename_i hn
            have hn' : f.name ≠ "_" := by simpa using hn
            split at e
            · rename_i o1 o2 q1 q2
              simp at e; subst e
              have ih := ih o2 (fun o ho => hb o (List.mem_append.2 (.inr ho))) q2
              have key : ∃ u, (part f.type cx f.offset).run X.P w = .ok u w ∧ (Instr.checkKey b (d + 1) f.type u).run X.P w = .ok () w := by
                split at q1
                · rename_i ek q
                  split at q1
                  · rename_i hlt
                    simp at q1; subst q1
                    obtain ⟨dd, hdd, hk⟩ := ekOf_ekd q
                    have hagg : tyAgg X.P f.type = some false := by
                      unfold tyAgg; rw [hdd]
                      cases ek with
                      | i => obtain ⟨q, rfl⟩ := hk; rfl
                      | s => cases hk; rfl
                      | b => cases hk; rfl
                    have hlt2 : base + f.offset < xs.size := hb (ek, base + f.offset) (by simp)
                    refine ⟨xs[base + f.offset], by simp [part, run_tyAgg hagg, vx.at' f.offset hlt, hlt2], run_checkNow hdd hk b d _⟩
                  · simp at q1
                · split at q1
                  · rename_i sz hsz
                    split at q1
                    · rename_i hle
                      obtain ⟨fs2, hu⟩ := eqSub_desc q1
                      have hag : tyAgg X.P f.type = some true := by unfold tyAgg; rw [hu]
                      refine ⟨.agg (cx.extract f.offset (f.offset + sz)), by simp [part, run_tyAgg hag, run_tySize hsz], ?_⟩
                      rw [vx.ex _ _ (by omega), ← Nat.add_assoc]
                      exact checkSub_run b n (View.of _ _ _) q1 (fun o ho => hb o (List.mem_append.2 (.inl ho))) (d + 1) (by omega)
                    · simp at q1
                  · simp at q1
              obtain ⟨u, p1, p2⟩ := key
              simp only [List.forIn_cons, Sem.run_bind, Sem.run_ite, if_pos hn', p1, p2, Result.andThen_ok, Sem.run_pure]
              exact ih
            · simp at e
    · simp at e
theorem findE_shape {offs : List (EK × Nat)} {key : V} : ∀ {zs : List V} {n : Nat} {r : Option (Nat × V)}, findE (.st offs) key zs n = some r → ∃ k t, eqKey (.st offs) key k = some t
  | [], n, r, h => by
    unfold findE at h
    split at h
    · rename_i c
      unfold stOk at c
      obtain ⟨t, ht⟩ := Option.isSome_iff_exists.1 c
      exact ⟨_, _, ht⟩
    · simp at h
  | z :: zs, n, r, h => by
    unfold findE at h
    split at h
    · simp at *
    · split at h
      · exact ⟨_, _, by assumption⟩
      · exact ⟨_, _, by assumption⟩
      · simp at h
    · simp at h
theorem run_checkKey {kt : TypeId} {e : KK} (h2 : kkOf X.P kt = some e) {key : V} {kv : Value} (rk : Rel X g w h key kv) {zs : List V} {n : Nat} {r : Option (Nat × V)} (hf : findE e key zs n = some r) (b : Bool) : (Instr.checkKey b 10000 kt kv).run X.P w = .ok () w := by
  cases e with
  | pl e =>
    obtain ⟨d, hd, hdd⟩ := ekOf_ekd (kkOf_pl h2)
    exact run_checkNow hd hdd b 9999 kv
  | st offs =>
    obtain ⟨he, hc⟩ := kkOf_st h2
    obtain ⟨s, hs⟩ := eqOffs_sub he
    obtain ⟨k, t, hk⟩ := findE_shape hf
    obtain ⟨l, m, rfl, rfl, hl, hm, _⟩ := eqKey_agg hk
    cases rk with
    | agg _ xs hlx _ hrx =>
      refine checkSub_run b 4 (View.refl xs s) hs (fun o ho => ?_) 10000 (by omega)
      have : o.2 ∈ offs.map (·.2) := List.mem_map.2 ⟨o, ho, rfl⟩
      rw [hc, List.mem_range] at this
      omega
theorem findAsk_run {kt : TypeId} {offs : List (EK × Nat)} (he : eqOffs X.P kt = some offs) (hc : offs.map (·.2) = List.range offs.length) {key : V} {kv : Value} (rk : Rel X g w h key kv) : ∀ (zs : List V) (es : List MapEntry) (n : Nat) (r : Option (Nat × V)), zs.length = es.length →
    (∀ i (h1 : i < zs.length) (h2 : i < es.length), Rel X g w h (zs[i]) (.tuple #[(es[i]).key, (es[i]).val])) → findE (.st offs) key zs n = some r →
    (r = none ∧ (Instr.findAsking kt kv es n).run X.P w = .ok none w) ∨ ∃ i v, r = some (n + i, v) ∧ ∃ hi : i < es.length, (Instr.findAsking kt kv es n).run X.P w = .ok (some (n + i, (es[i]).val)) w ∧ Rel X g w h v (es[i]).val ∧ (es[i]).key = kv
  | [], [], n, r, _, _, hf => by
    unfold findE at hf
    split at hf
    · simp at hf
      exact .inl ⟨hf.symm, by simp [Instr.findAsking]⟩
    · simp at hf
  | z :: zs, e1 :: es, n, r, hl, hr, hf => by
    have r0 := hr 0 (by simp) (by simp)
    simp at r0
    have hz : ∃ u v, z = .tup [u, v] := by
      cases r0 with
      | tup l cs hl hr => exact (by obtain ⟨u, v, e0, _⟩ := tup2 (.tup (X := X) (g := g) (w := w) (h := h) l _ hl hr); exact ⟨u, v, by rw [e0]⟩)
      | undef => simp [findE] at hf
      | cval => simp [findE] at hf
    obtain ⟨u, v, rfl⟩ := hz
    obtain ⟨u', v', e0, ru, rv⟩ := tup2 r0
    simp at e0
    obtain ⟨rfl, rfl⟩ := e0
    have heq : ∀ t, eqKey (.st offs) key u = some t → (Op.equal kt kv e1.key).run X.P w = .ok t w := fun t ht => by
      obtain ⟨s, hs⟩ := eqOffs_sub he
      obtain ⟨l, m, rfl, rfl, h1, h2, h3⟩ := eqKey_agg ht
      unfold Op.equal Op.maxDepth
      generalize e1.key = kk at ru
      cases rk with
      | agg _ xs hlx ho hrx =>
      cases ru with
      | agg _ ys hly ho2 hry =>
      exact eqSub_run (.agg (X := X) (g := g) (w := w) (h := h) l xs hlx ho hrx) (.agg (X := X) (g := g) (w := w) (h := h) m ys hly ho2 hry) 4 (View.refl _ _) (View.refl _ _) hs h3 10000 (by omega)
    simp only [findE] at hf
    split at hf
    · rename_i ht
      simp at hf; subst hf
      exact .inr ⟨0, v, rfl, by simp, by simp [Instr.findAsking, heq _ ht], rv, (eqKey_same hc rk ru ht).1.symm⟩
    · rename_i ht
      rcases findAsk_run he hc rk zs es (n + 1) r (by simpa using hl) (fun i a b => by have := hr (i + 1) (by simp; omega) (by simp; omega); simpa only [List.getElem_cons_succ] using this) hf with ⟨a, b⟩ | ⟨i, v2, a, hi, b, c, dd⟩
      · exact .inl ⟨a, by simp [Instr.findAsking, heq _ ht, b]⟩
      · exact .inr ⟨i + 1, v2, by rw [a]; congr 2; omega, by simpa using hi, by simp [Instr.findAsking, heq _ ht, b]; omega, by simpa using c, by simpa using dd⟩
    · simp at hf
theorem findKey_run {kt : TypeId} {e : KK} (h2 : kkOf X.P kt = some e) {key : V} {kv : Value} (rk : Rel X g w h key kv) (zs : List V) (es : List MapEntry) (r : Option (Nat × V)) (hl : zs.length = es.length)
    (hr : ∀ i (h1 : i < zs.length) (h2 : i < es.length), Rel X g w h (zs[i]) (.tuple #[(es[i]).key, (es[i]).val])) (hf : findE e key zs 0 = some r) :
    (r = none ∧ (Instr.findKey kt kv es).run X.P w = .ok none w) ∨ ∃ i v, r = some (i, v) ∧ ∃ hi : i < es.length, (Instr.findKey kt kv es).run X.P w = .ok (some (i, (es[i]).val)) w ∧ Rel X g w h v (es[i]).val ∧ (es[i]).key = kv := by
  cases e with
  | pl e =>
    obtain ⟨d, hd, hdd⟩ := ekOf_ekd (kkOf_pl h2)
    rcases findE_run hdd rk zs es 0 r hl hr hf with ⟨a, b⟩ | ⟨i, v, a, hi, b, c, dd⟩
    · exact .inl ⟨a, run_findNow hd kv es b⟩
    · rw [Nat.zero_add] at a b
      exact .inr ⟨i, v, a, hi, run_findNow hd kv es b, c, dd⟩
  | st offs =>
    obtain ⟨he, hc⟩ := kkOf_st h2
    obtain ⟨s, hs⟩ := eqOffs_sub he
    obtain ⟨fs, hd⟩ := eqSub_desc hs
    have hask : es ≠ [] → (Instr.findKey kt kv es).run X.P w = (Instr.findAsking kt kv es 0).run X.P w := fun hne => by
      match es, hne with
      | e1 :: es, _ =>
        have : Instr.findNow (.struct fs) kv (e1 :: es) 0 = none := by simp [Instr.findNow, Instr.sameNow]
        simp [Instr.findKey, run_underlying hd, this]
    by_cases hne : es = []
    · subst hne
      match zs, hl with
      | [], _ =>
        unfold findE at hf
        split at hf
        · simp at hf
          exact .inl ⟨hf.symm, by simp [Instr.findKey, run_underlying hd, Instr.findNow]⟩
        · simp at hf
    · rw [hask hne]
      rcases findAsk_run he hc rk zs es 0 r hl hr hf with ⟨a, b⟩ | ⟨i, v, a, hi, b, c, dd⟩
      · exact .inl ⟨a, b⟩
      · rw [Nat.zero_add] at a b
        exact .inr ⟨i, v, a, hi, b, c, dd⟩
theorem findE_exo {e : KK} {key : V} {zs : List V} {r : Option (Nat × V)} (hf : findE e key zs 0 = some r) : exoB zs = false := by
  unfold exoB
  split
  · simp [findE] at hf
  · simp [findE] at hf
  · rfl
theorem out_lkp {t kt et : TypeId} {e : KK} {z : V} (h1 : X.P.underlying t = some (.map kt et)) (h2 : kkOf X.P kt = some e) (h3 : tyZeroV X.P et = some z) (ok : Bool) (I : Inv X g w h) {v u : V} {x y : Value} (r : Rel X g w h v x) (ru : Rel X g w h u y)
    (hk : lkpK e z ok v u h K) : Out X g w h K ((do pure (Next.value (← Instr.lookup t x y ok)) : Sem Next).run X.P w) := by
  have hz : ∃ zv, (zeroValue et).run X.P w = .ok zv w ∧ Rel X g w h z zv := by
    unfold tyZeroV at h3
    split at h3
    · rename_i i hi
      split at h3
      · rename_i zv hzv
        exact ⟨zv, run_zero hi hzv w, constV_rel h3⟩
      · simp at h3
    · simp at h3
  obtain ⟨zv, hz1, hz2⟩ := hz
  cases r with
  | mapn =>
    simp only [lkpK] at hk
    split at hk
    · rename_i rr hrr
      rcases findKey_run h2 ru [] [] rr rfl (fun i i1 => by simp at i1) hrr with ⟨rfl, hf⟩ | ⟨i, v2, _, hi, _⟩
      · cases ok with
        | true => exact Out.same I (x := .tuple #[zv, .bool false]) (by simp [Instr.lookup, run_underlying h1, run_checkKey h2 ru hrr, hf, hz1]) hk (.tup _ _ rfl fun i i1 i2 => by match i with | 0 => exact hz2 | 1 => exact .bool _ | n + 2 => simp at i1; omega)
        | false => exact Out.same I (x := zv) (by simp [Instr.lookup, run_underlying h1, run_checkKey h2 ru hrr, hf, hz1]) hk hz2
      · simp at hi
    · exact hk.elim
  | mapr o hn hm =>
    simp only [lkpK] at hk
    split at hk
    · rename_i rr hrr
      obtain ⟨es, k1, k2, k3, k4⟩ := (I.maps o hn hm).not (findE_exo hrr)
      rcases findKey_run h2 ru (h.objs o) es.toList rr (by simpa using k2) (fun i i1 i2 => by simp at i2 ⊢; exact k4 i i1 i2) hrr with ⟨rfl, hf⟩ | ⟨i, v2, rfl, hi, hf, rv, _⟩
      · have hf' := hf
        cases ok with
        | true => exact Out.same I (x := .tuple #[zv, .bool false]) (by simp [Instr.lookup, run_underlying h1, MapKept.run_getObj_map k1, run_checkKey h2 ru hrr, hf', hz1]) hk (.tup _ _ rfl fun i i1 i2 => by match i with | 0 => exact hz2 | 1 => exact .bool _ | n + 2 => simp at i1; omega)
        | false => exact Out.same I (x := zv) (by simp [Instr.lookup, run_underlying h1, MapKept.run_getObj_map k1, run_checkKey h2 ru hrr, hf', hz1]) hk hz2
      · have hf' := hf
        cases ok with
        | true => exact Out.same I (x := .tuple #[(es.toList[i]).val, .bool true]) (by simp [Instr.lookup, run_underlying h1, MapKept.run_getObj_map k1, run_checkKey h2 ru hrr, hf']) hk (.tup _ _ rfl fun i i1 i2 => by match i with | 0 => exact rv | 1 => exact .bool _ | n + 2 => simp at i1; omega)
        | false => exact Out.same I (x := (es.toList[i]).val) (by simp [Instr.lookup, run_underlying h1, MapKept.run_getObj_map k1, run_checkKey h2 ru hrr, hf']) hk rv
    · exact hk.elim
  | _ => exact hk.elim
theorem out_mlen {t ty kt et : TypeId} (h1 : X.P.underlying t = some (.map kt et)) (I : Inv X g w h) {v : V} {x : Value} (r : Rel X g w h v x) (hk : mlenK v h K) :
    Out X g w h K ((do pure (Next.value (← Builtin.len_ #[t] ty #[x])) : Sem Next).run X.P w) := by
  cases r with
  | mapn => exact Out.same I (x := .int .i64 0) (by simp [Builtin.len_, run_underlying h1, goInt]) hk (.int _ _)
  | mapr o hn hm =>
    obtain ⟨hx, hk⟩ := hk
    obtain ⟨es, k1, k2, k3, k4⟩ := (I.maps o hn hm).not hx
    refine Out.same I (x := .int .i64 (h.objs o).length) (by simp [Builtin.len_, run_underlying h1, goInt, MapKept.run_getObj_map k1, k2]) hk (.int _ _)
  | _ => exact hk.elim
theorem out_mkm (I : Inv X g w h) (t : TypeId) (hk : K (.mapr h.nobj) (h.new [])) : Out X g w h K ((do pure (Next.value (← Instr.makeMap t none)) : Sem Next).run X.P w) := by
  obtain ⟨g', I', S, ho, hmm⟩ := new_map I
  refine Out.of_run (x := .map (some w.heap.size)) ?_ hk I' ?_ S
  · simp [Instr.makeMap]
  · rw [← ho]; exact .mapr _ (Nat.lt_succ_self _) hmm
theorem run_keyStays {P : Program} {w : World} {kv : Value} (h : Instr.sameBits 10000 kv kv = true) : (Instr.keyThatStays kv kv).run P w = .ok kv w := by
  simp [Instr.keyThatStays, h]
theorem findE_hit {e : KK} {key : V} : ∀ {zs : List V} {n : Nat} {p : Nat × V}, findE e key zs n = some (some p) → ∃ k t, eqKey e key k = some t
  | [], n, p, h => by unfold findE at h; split at h <;> simp at h
  | z :: zs, n, p, h => by
    unfold findE at h
    split at h
    · simp at *
    · split at h
      · exact ⟨_, _, by assumption⟩
      · exact ⟨_, _, by assumption⟩
      · simp at h
    · simp at h
/-- A key with its fields is its own. -/
theorem key_bits {kt : TypeId} {e : KK} (h2 : kkOf X.P kt = some e) {key : V} {kv : Value} (rk : Rel X g w h key kv) (hl : ∃ k t, eqKey e key k = some t) : Instr.sameBits 10000 kv kv = true := by
  obtain ⟨k, t, ht⟩ := hl
  cases e with
  | pl e =>
    replace ht : eqLeaf e key k = some t := ht
    cases e <;> cases rk <;> simp [eqLeaf] at ht <;> simp [Instr.sameBits]
    exact (MapKept.bytes_beq _ _).2 rfl
  | st offs =>
    obtain ⟨he, hc⟩ := kkOf_st h2
    obtain ⟨l, m, rfl, rfl, h1, h3, h4⟩ := eqKey_agg ht
    have hself : eqL l l offs = some true := by
      have : ∀ (os : List (EK × Nat)) (t : Bool), eqL l m os = some t → eqL l l os = some true := by
        intro os
        induction os with
        | nil => intro t _; rfl
        | cons o os ih =>
          intro t ho
          simp only [eqL] at ho ⊢
          split at ho
          · rename_i b1 b2 e1 e2
            have e3 : eqLeaf o.1 (l.getD o.2 .undef) (l.getD o.2 .undef) = some true := by
              generalize l.getD o.2 .undef = a at e1
              generalize m.getD o.2 .undef = b at e1
              generalize o.1 = q at e1
              cases q <;> cases a <;> simp [eqLeaf] at e1 ⊢
            rw [e3, ih _ e2]; rfl
          · simp at ho
      exact this offs t h4
    exact (eqKey_same hc rk rk (by simp [eqKey, h1, hself])).2
theorem out_mupd {t kt et : TypeId} {e : KK} (h1 : X.P.underlying t = some (.map kt et)) (h2 : kkOf X.P kt = some e) (I : Inv X g w h) {v u c : V} {x y b : Value} (r : Rel X g w h v x) (ru : Rel X g w h u y) (rc : Rel X g w h c b)
    (hk : mupK e v u c h K) : Out X g w h K ((do Instr.mapUpdate t x y b; pure Next.skip : Sem Next).run X.P w) := by
  cases r with
  | mapr o hn hm =>
    have hx : exoB (h.objs o) = false := by
      simp only [mupK] at hk
      split at hk
      · exact findE_exo (by assumption)
      · exact findE_exo (by assumption)
      · exact hk.elim
    obtain ⟨es, k1, k2, k3, k4⟩ := (I.maps o hn hm).not hx
    simp only [mupK] at hk
    have rt : Rel X g w h (.tup [u, c]) (.tuple #[y, b]) := .tup _ _ rfl fun i i1 i2 => by match i with | 0 => exact ru | 1 => exact rc | n + 2 => simp at i1; omega
    split at hk
    · rename_i i v2 hrr
      rcases findKey_run h2 ru (h.objs o) es.toList _ (by simpa using k2) (fun i i1 i2 => by simp at i2 ⊢; exact k4 i i1 i2) hrr with ⟨hc, _⟩ | ⟨i', v3, hrr2, hi, hf, rv, hkey⟩
      · cases hc
      simp at hrr2
      obtain ⟨rfl, rfl⟩ := hrr2
      have hf' := hf
      have hks := run_keyStays (P := X.P) (w := w) (key_bits h2 ru (findE_hit hrr))
      have hi' : i < es.size := by simpa using hi
      have hke : ((es[i]?).map (·.key)).getD y = y := by simp [hi']; simpa using hkey
      obtain ⟨I', S⟩ := store_map I hn hm hx (es.modify i fun e => { e with key := y, val := b }) ((h.objs o).set i (.tup [u, c])) (by simp [k2]) (fun j hj => by
        simp at hj; simp [Array.getElem_modify]; split <;> simp [k3 j hj]) (fun j j1 j2 => by
        simp at j1 j2
        simp only [Array.getElem_modify, List.getElem_set]
        split
        · exact rt
        · exact k4 j j1 j2)
      refine ⟨.tup [], _, undef, g, _, hk, I', .tup [] #[] rfl (by simp), S, .inr ⟨rfl, ?_⟩⟩
      simp [Instr.mapUpdate, run_underlying h1, MapKept.run_getObj_map k1, run_checkKey h2 ru hrr, hf', hke, hks, MapKept.run_setObj_map _ k1]
    · rename_i hrr
      rcases findKey_run h2 ru (h.objs o) es.toList _ (by simpa using k2) (fun i i1 i2 => by simp at i2 ⊢; exact k4 i i1 i2) hrr with ⟨_, hf⟩ | ⟨i', v3, hrr2, _⟩
      · have hf' := hf
        obtain ⟨I', S⟩ := store_map I hn hm hx (es.push { key := y, val := b, born := es.size }) (h.objs o ++ [.tup [u, c]]) (by simp [k2]) (fun j hj => by
          simp at hj; rw [Array.getElem_push]; split
          · exact k3 j _
          · simp; omega) (fun j j1 j2 => by
          simp only [Array.getElem_push, List.getElem_append]
          simp at j1 j2
          split <;> split
          · exact k4 j _ _
          · omega
          · omega
          · simpa using rt)
        refine ⟨.tup [], _, undef, g, _, hk, I', .tup [] #[] rfl (by simp), S, .inr ⟨rfl, ?_⟩⟩
        simp [Instr.mapUpdate, run_underlying h1, MapKept.run_getObj_map k1, run_checkKey h2 ru hrr, hf', MapKept.run_setObj_map _ k1]
      · cases hrr2
    · exact hk.elim
  | _ => exact hk.elim
theorem out_ment {t kt et : TypeId} {e : KK} {z : V} (h1 : X.P.underlying t = some (.map kt et)) (h2 : kkOf X.P kt = some e) (h3 : tyZeroV X.P et = some z) (I : Inv X g w h) {v u : V} {x y : Value} (r : Rel X g w h v x) (ru : Rel X g w h u y)
    (hk : mentK e z v u h K) : Out X g w h K ((do pure (Next.value (← Instr.mapEntry t x y)) : Sem Next).run X.P w) := by
  have hz : ∃ zv, (zeroValue et).run X.P w = .ok zv w ∧ Rel X g w h z zv := by
    unfold tyZeroV at h3
    split at h3
    · rename_i i hi
      split at h3
      · rename_i zv hzv
        exact ⟨zv, run_zero hi hzv w, constV_rel h3⟩
      · simp at h3
    · simp at h3
  obtain ⟨zv, hz1, hz2⟩ := hz
  cases r with
  | mapr o hn hm =>
    have hx : exoB (h.objs o) = false := by
      simp only [mentK] at hk
      split at hk
      · exact findE_exo (by assumption)
      · exact findE_exo (by assumption)
      · exact hk.elim
    obtain ⟨es, k1, k2, k3, k4⟩ := (I.maps o hn hm).not hx
    simp only [mentK] at hk
    split at hk
    · rename_i i v2 hrr
      rcases findKey_run h2 ru (h.objs o) es.toList _ (by simpa using k2) (fun i i1 i2 => by simp at i2 ⊢; exact k4 i i1 i2) hrr with ⟨hc, _⟩ | ⟨i', v3, hrr2, hi, hf, rv, hkey⟩
      · cases hc
      simp at hrr2
      obtain ⟨rfl, rfl⟩ := hrr2
      have hf' := hf
      have hks := run_keyStays (P := X.P) (w := w) (key_bits h2 ru (findE_hit hrr))
      have hi' : i < es.size := by simpa using hi
      have hke : ((es[i]?).map (·.key)).getD y = y := by simp [hi']; simpa using hkey
      have hbo : (Option.map (fun x : MapEntry => (x.born : Int)) es[i]?).getD 0 = (i : Int) := by simp [hi', k3 i hi']
      obtain ⟨I', S⟩ := store_map I hn hm hx (es.modify i fun e => { e with key := y }) ((h.objs o).set i (.tup [u, v2])) (by simp [k2]) (fun j hj => by
        simp at hj; simp [Array.getElem_modify]; split <;> simp [k3 j hj]) (fun j j1 j2 => by
        simp at j1 j2
        simp only [Array.getElem_modify, List.getElem_set]
        split
        · rename_i ej; subst ej
          exact .tup _ _ rfl fun q i1 i2 => by match q with | 0 => exact ru | 1 => (simpa using rv) | n + 2 => simp at i1; omega
        · exact k4 j j1 j2)
      refine Out.of_run (x := .tuple #[(es[i]).val, .int .i64 i]) ?_ hk I' (.tup _ _ rfl fun q i1 i2 => by match q with | 0 => (simpa using rv.stp S) | 1 => exact .int _ _ | n + 2 => simp at i1; omega) S
      simp [Instr.mapEntry, run_underlying h1, MapKept.run_getObj_map k1, run_checkKey h2 ru hrr, hf', hke, hks, hbo, MapKept.run_setObj_map _ k1, goInt]
    · rename_i hrr
      rcases findKey_run h2 ru (h.objs o) es.toList _ (by simpa using k2) (fun i i1 i2 => by simp at i2 ⊢; exact k4 i i1 i2) hrr with ⟨_, hf⟩ | ⟨i', v3, hrr2, _⟩
      · have hf' := hf
        obtain ⟨I', S⟩ := store_map I hn hm hx (es.push { key := y, val := zv, born := es.size }) (h.objs o ++ [.tup [u, z]]) (by simp [k2]) (fun j hj => by
          simp at hj; rw [Array.getElem_push]; split
          · exact k3 j _
          · simp; omega) (fun j j1 j2 => by
          simp only [Array.getElem_push, List.getElem_append]
          simp at j1 j2
          split <;> split
          · exact k4 j _ _
          · omega
          · omega
          · simp
            exact .tup _ _ rfl fun q i1 i2 => by match q with | 0 => exact ru | 1 => exact hz2 | n + 2 => simp at i1; omega)
        refine Out.of_run (x := .tuple #[zv, .int .i64 es.size]) ?_ hk I' (.tup _ _ rfl fun q i1 i2 => by match q with | 0 => exact hz2.stp S | 1 => (rw [k2]; exact .int _ _) | n + 2 => simp at i1; omega) S
        simp [Instr.mapEntry, run_underlying h1, MapKept.run_getObj_map k1, run_checkKey h2 ru hrr, hf', hz1, MapKept.run_setObj_map _ k1, goInt]
      · cases hrr2
    · exact hk.elim
  | _ => exact hk.elim
theorem findIdx_born {es : Array MapEntry} (k3 : ∀ i (h1 : i < es.size), (es[i]).born = i) {i : Nat} (hi : i < es.size) : es.findIdx? (fun e => (e.born : Int) == (i : Int)) = some i := by
  rw [Array.findIdx?_eq_some_iff_getElem]
  refine ⟨hi, by simp [k3 i hi], fun j hj => ?_⟩
  simp [k3 j (by omega)]; omega
theorem out_mest (t : TypeId) (I : Inv X g w h) {v u c : V} {x y b : Value} (r : Rel X g w h v x) (ru : Rel X g w h u y) (rc : Rel X g w h c b)
    (hk : mestK v u c h K) : Out X g w h K ((do Instr.entryStore t x y b; pure Next.skip : Sem Next).run X.P w) := by
  cases r with
  | mapr o hn hm =>
    cases ru with
    | int q i =>
      cases q <;> first | exact hk.elim | skip
      obtain ⟨i0, i1, hx, hk⟩ := hk
      obtain ⟨es, k1, k2, k3, k4⟩ := (I.maps o hn hm).not hx
      obtain ⟨i, rfl⟩ : ∃ n : Nat, i = n := ⟨i.toNat, by omega⟩
      have hi : i < es.size := by omega
      have hil : i < (h.objs o).length := by omega
      simp only [Int.toNat_natCast] at hk
      obtain ⟨I', S⟩ := store_map I hn hm hx (es.modify i fun e => { e with val := b }) ((h.objs o).set i (.tup [keyOfE ((h.objs o).getD i .undef), c])) (by simp [k2]) (fun j hj => by
        simp at hj; simp [Array.getElem_modify]; split <;> simp [k3 j hj]) (fun j j1 j2 => by
        simp at j1 j2
        simp only [Array.getElem_modify, List.getElem_set]
        split
        · rename_i ej; subst ej
          have r0 := k4 i hil hi
          simp only [List.getD_eq_getElem?_getD, List.getElem?_eq_getElem hil, Option.getD_some]
          generalize (h.objs o)[i] = zz at r0
          refine .tup _ _ rfl fun q i1 i2 => ?_
          match q with
          | 0 =>
            show Rel X g w h (keyOfE zz) _
            unfold keyOfE
            split
            · obtain ⟨a1, a2, e0, ra, _⟩ := tup2 r0
              simp at e0; obtain ⟨rfl, rfl⟩ := e0; exact ra
            · exact .undef _
          | 1 => exact rc
          | n + 2 => simp at i1; omega
        · exact k4 j j1 j2)
      refine ⟨.tup [], _, undef, g, _, hk, I', .tup [] #[] rfl (by simp), S, .inr ⟨rfl, ?_⟩⟩
      simp [Instr.entryStore, MapKept.run_getObj_map k1, asInt, asIntOf, findIdx_born k3 hi, MapKept.run_setObj_map _ k1]
    | _ => exact hk.elim
  | _ => exact hk.elim
theorem out_s2b {src dst e : TypeId} (h1 : X.P.underlying src = some .string) (h2 : X.P.underlying dst = some (.slice e)) (h3 : X.P.underlying e = some (.int .u8)) (I : Inv X g w h) {v : V} {x : Value} (r : Rel X g w h v x)
    (hk : match (generalizing := false) v with | .str s => K (.sl 1 0 (bytesV s)) h | _ => False) : Out X g w h K ((do pure (Next.value (← convert src dst x)) : Sem Next).run X.P w) := by
  cases r with
  | str s =>
    have hr := run_bytes_of_string (P := X.P) w src dst e ⟨s.toArray⟩ h1 h2 h3
    have hsz : (⟨s.toArray⟩ : ByteArray).size = s.length := mk_size s
    rw [hsz] at hr
    have hge := grownCap_ge w s.length 0 e
    generalize grownCap w s.length 0 e = cp at hr hge
    obtain ⟨g', I', S, hp⟩ := new_row I.drew (bytesRow ⟨s.toArray⟩ cp) e s.length ((bytesRow ⟨s.toArray⟩ cp).size, (bytesRow ⟨s.toArray⟩ cp).size + 1)
    have S' := (Stp.drew g w h).trans S
    have hcl : ∀ s : List UInt8, cellsOf (bytesV s) = bytesV s := fun s => by
      induction s with
      | nil => rfl
      | cons a l ih => simp only [bytesV, List.map_cons, cellsOf_cons, V.cells, List.singleton_append] at *; rw [ih]
    have hl : (bytesV s).length = s.length := by simp [bytesV]
    refine Out.of_run (x := .slice (some ⟨w.heap.size, 0, none⟩) (bytesV s).length cp) (by rw [hr, hl]) hk I' ?_ S'
    refine .sl 1 0 (bytesV s) w.heap.size 0 cp (fun i => .int .u8 ((s.getD i 0).toNat : Int)) (by omega) (by have := I.next; omega) (by omega) (fun v hv => ?_) (fun i hi => ?_) (fun i hi => rfl) ?_ (fun i hi => ?_) (fun h => by cases h) (fun e' he' => ?_)
    · simp [bytesV] at hv; obtain ⟨b, _, rfl⟩ := hv; rfl
    · rw [hcl, hl] at hi
      have hb := bytesRow_at ⟨s.toArray⟩ cp i (by simpa using hi)
      have hh : (w.drew.alloc (.cells (bytesRow ⟨s.toArray⟩ cp) e ((bytesRow ⟨s.toArray⟩ cp).size, (bytesRow ⟨s.toArray⟩ cp).size + 1))).heap[w.heap.size]? = some (.cells (bytesRow ⟨s.toArray⟩ cp) e ((bytesRow ⟨s.toArray⟩ cp).size, (bytesRow ⟨s.toArray⟩ cp).size + 1)) := heap_alloc_new w.drew _
      simp only [World.cell?, hh, Nat.zero_add, hb]
      simp [List.getD_eq_getElem?_getD, hi]
    · rw [hcl, hl, Nat.zero_add]; exact Nat.le_of_eq hp.symm
    · have hi' : i < s.length := by rw [hcl, hl] at hi; exact hi
      have he : (cellsOf (bytesV s))[i] = .int .u8 ((s.getD i 0).toNat : Int) := by
        have : (cellsOf (bytesV s))[i]? = some (.int .u8 ((s.getD i 0).toNat : Int)) := by rw [hcl]; simp [bytesV, List.getD_eq_getElem?_getD, hi']
        exact (List.getElem_eq_iff hi).2 this
      rw [he]; exact .int _ _
    · have := I.tipB 0 e' he'; omega
  | _ => exact hk.elim
end
end
end Go.Proofs.Ytajaoldljichaaa.Al
