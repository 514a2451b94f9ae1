/-
  The abstract layer, part 4: each operation of the model does what its abstract form says. Conditions: none.
-/
import Derived.Test.YtpnbdnmmfaomlaaAlComp
import Derived.ArgAppend
import Derived.Maps.AppendAt
namespace Go.Proofs.Ytpnbdnmmfaomlaa.Al
open Go Go.RowKit
set_option linter.unusedSimpArgs false
set_option linter.unusedVariables false

def RelL (X : Cx) (g : Gh) (w : World) (h : AH) (l : List V) (cs : Array Value) : Prop :=
  l.length = cs.size ∧ ∀ i (h1 : i < l.length) (h2 : i < cs.size), Rel X g w h (l[i]) (cs[i])

def Out (X : Cx) (g : Gh) (w : World) (h : AH) (K : V → AH → Prop) (r : Result Next) : Prop :=
  ∃ v h' x g' w', K v h' ∧ Inv X g' w' h' ∧ Rel X g' w' h' v x ∧ Stp g w h g' w' h' ∧ (r = .ok (.value x) w' ∨ (x = undef ∧ r = .ok .skip w'))

section
variable {X : Cx} {g : Gh} {w : World} {h : AH} {K : V → AH → Prop}

theorem Out.stay (I : Inv X g w h) {v : V} (hk : K v h) {x : Value} (r : Rel X g w h v x) {R : Result Next} (e : R = .ok (.value x) w) : Out X g w h K R :=
  ⟨v, h, x, g, w, hk, I, r, Stp.refl g w h, .inl e⟩

/-! ### Constants and operands -/
theorem leafV_rel {x : Value} {v : V} (e : leafV x = some v) : Rel X g w h v x := by
  cases x with
  | bool b => simp [leafV] at e; subst e; exact .bool b
  | int k n => simp [leafV] at e; subst e; exact .int k n
  | string s => simp [leafV] at e; subst e; exact .str s.data.toList
  | pointer a => cases a with
    | none => simp [leafV] at e; subst e; exact .nilp
    | some a => simp [leafV] at e
  | slice a n c =>
    unfold leafV at e; split at e <;> simp_all
    subst e; exact .slnil 0 1 (by omega)
  | nilFunc => simp [leafV] at e; subst e; exact .nilf
  | _ => simp [leafV] at e
theorem leafV_one {x : Value} {v : V} (e : leafV x = some v) : x.oneCell' = true := by
  cases x <;> first | rfl | (simp [leafV] at e)
theorem leafVs_spec : ∀ {l : List Value} {m : List V}, leafVs l = some m → m.length = l.length ∧ ∀ i (h1 : i < m.length) (h2 : i < l.length), leafV l[i] = some m[i]
  | [], m, e => by simp [leafVs] at e; subst e; simp
  | x :: l, m, e => by
    unfold leafVs at e
    split at e
    · rename_i a b h1 h2
      obtain ⟨k1, k2⟩ := leafVs_spec h2
      simp at e; subst e
      refine ⟨by simp [k1], fun i i1 i2 => ?_⟩
      cases i with
      | zero => exact h1
      | succ i => exact k2 i (by simpa using i1) (by simpa using i2)
    · simp at e
theorem constV_rel {x : Value} {v : V} (e : constV x = some v) : Rel X g w h v x := by
  unfold constV at e
  split at e
  · rename_i cs
    cases hl : leafVs cs.toList with
    | none => simp [hl] at e
    | some m =>
      simp [hl] at e; subst e
      obtain ⟨k1, k2⟩ := leafVs_spec hl
      refine .agg m cs (by simpa using k1) (fun i i2 => ?_) (fun i i1 i2 => ?_)
      · have := k2 i (by simp at k1; omega) (by simpa using i2)
        simp at this
        exact leafV_one this
      · have := k2 i i1 (by simpa using i2)
        simp at this
        exact leafV_rel this
  · exact leafV_rel e

/-- The environment reads as the temporaries do. -/
def EnvRel (X : Cx) (g : Gh) (w : World) (h : AH) (env : Env) (a : Act) : Prop := ∀ n, Rel X g w h (get env n) (a.tmps.getD n undef)

theorem fnKey_spec {Y : Keys} {f k : Nat} (e : fnKey Y f = some k) : Y.tbl k = f := by
  unfold fnKey at e; split at e
  · rename_i h; simp at e; subst e; exact h
  · simp at e
theorem co_rel {Y : Keys} (hY : X.tbl = Y.tbl) {env : Env} {a : Act} (R : EnvRel X g w h env a) {x : Operand} {y : AO} (e : co Y x = some y) : Rel X g w h (ev env y) (a.eval x) := by
  cases x with
  | tmp n => simp [co] at e; subst e; exact R n
  | const v =>
    simp only [co] at e; split at e
    · rename_i u hu; simp at e; subst e; exact constV_rel hu
    · simp at e
  | func f =>
    simp only [co] at e; split at e
    · rename_i k hk; simp at e; subst e
      have := Rel.fn (X := X) (g := g) (w := w) (h := h) k [] [] #[] #[] rfl rfl (by simp) (by simp)
      rw [hY, fnKey_spec hk] at this
      exact this
    · simp at e
  | global _ => simp [co] at e; subst e; exact .undef _

/-! ### Cells of a value -/
theorem Rel.cells {v : V} {x : Value} (r : Rel X g w h v x) (hg : v.good = true) :
    v.cells.length = x.cells.size ∧ (∀ i (h2 : i < x.cells.size), (x.cells[i]).oneCell' = true) ∧ ∀ i (h1 : i < v.cells.length) (h2 : i < x.cells.size), Rel X g w h (v.cells[i]) (x.cells[i]) := by
  cases r with
  | agg l cs hl ho hr => exact ⟨hl, ho, hr⟩
  | tup => simp [V.good] at hg
  | undef => simp [V.good] at hg
  | _ =>
    refine ⟨rfl, fun i h2 => ?_, fun i h1 h2 => ?_⟩
    · simp [Value.cells] at h2; subst h2; rfl
    · simp [V.cells] at h1; subst h1
      simp only [V.cells, Value.cells, List.getElem_cons_zero, List.getElem_toArray]
      first | (constructor <;> assumption) | skip

/-! ### New blocks -/
theorem heap_alloc_some {o : Obj} {b : Nat} {x : Obj} (hb : w.heap[b]? = some x) : (w.alloc o).heap[b]? = some x := by
  have hlt : b < w.heap.size := (Array.getElem?_eq_some_iff.1 hb).1
  rw [Below.heap_alloc w o b hlt]; exact hb
theorem rowAt_lt {b off n : Nat} (r : rowAt w b off n) : b < w.heap.size := by
  obtain ⟨cs, t, hh, _⟩ := r
  exact (Array.getElem?_eq_some_iff.1 hh).1
theorem rowAt_alloc {o : Obj} {b off n : Nat} (r : rowAt w b off n) : rowAt (w.alloc o) b off n := by
  obtain ⟨cs, t, hh, hl⟩ := r
  exact ⟨cs, t, heap_alloc_some hh, hl⟩
theorem Inv.pub_lt (I : Inv X g w h) {b o : Nat} (ho : o < g.pub b) : b < w.heap.size := by
  rcases Nat.lt_or_ge b w.heap.size with h' | h'
  · exact h'
  · have := I.pubB b h'; omega
theorem Inv.size (I : Inv X g w h) : X.W0.heap.size ≤ w.heap.size := I.below.size

theorem new_obj (I : Inv X g w h) (z : List V) (cs : Array Value) (t : TypeId) (hl : z.length = cs.size) (ho : ∀ i (h2 : i < cs.size), (cs[i]).oneCell' = true)
    (hr : ∀ i (h1 : i < z.length) (h2 : i < cs.size), Rel X g w h (z[i]) (cs[i])) :
    ∃ g', Inv X g' (w.alloc (.cells cs t)) (h.new z) ∧ Stp g w h g' (w.alloc (.cells cs t)) (h.new z) ∧ g'.obj h.nobj = w.heap.size := by
  have S : Stp g w h { g with obj := updN g.obj h.nobj w.heap.size } (w.alloc (.cells cs t)) (h.new z) :=
    { next := Nat.le_refl _
      nobj := Nat.le_succ _
      obj := fun o ho => updN_ne _ _ (by omega)
      pub := fun _ => Nat.le_refl _
      cell := fun b o hb => World.cell?_alloc_lt w _ _ (I.pub_lt hb)
      tip := fun s _ e he => ⟨he, rfl, rfl⟩
      row := fun s _ e he off n r => rowAt_alloc r }
  refine ⟨_, ?_, S, updN_same _ _ _⟩
  exact
    { below := I.below.alloc I.size _
      next := I.next
      objs := fun o ho' => by
        by_cases ho2 : o = h.nobj
        · subst ho2
          refine ⟨cs, t, ?_, ?_, ho, fun i h1 h2 => ?_⟩
          · simp only [updN_same]; exact heap_alloc_new w _
          · simp only [AH.new, updN_same]; exact hl
          · have e : (h.new z).objs h.nobj = z := updN_same _ _ _
            have := (hr i (by rw [e] at h1; exact h1) h2).stp S
            simpa only [e] using this
        · have hlt : o < h.nobj := by have : o < h.nobj + 1 := ho'; omega
          obtain ⟨cs', t', k1, k2, k3, k4⟩ := I.objs o hlt
          have e : (h.new z).objs o = h.objs o := updN_ne _ _ ho2
          refine ⟨cs', t', ?_, by rw [e]; exact k2, k3, fun i h1 h2 => ?_⟩
          · simp only [updN_ne _ _ ho2]; exact heap_alloc_some k1
          · simp only [e] at h1 ⊢; exact (k4 i h1 h2).stp S
      objB := fun o ho' => by
        by_cases ho2 : o = h.nobj
        · subst ho2; simp only [updN_same]; exact ⟨I.size, I.pubB _ (Nat.le_refl _)⟩
        · simp only [updN_ne _ _ ho2]; exact I.objB o (by have : o < h.nobj + 1 := ho'; omega)
      objI := fun o o' h1 h2 e => by
        have h1' : o < h.nobj + 1 := h1
        have h2' : o' < h.nobj + 1 := h2
        by_cases a : o = h.nobj <;> by_cases b : o' = h.nobj
        · rw [a, b]
        · simp only [a, updN_same, updN_ne _ _ b] at e
          have := I.objL (o := o') (by omega); omega
        · simp only [b, updN_same, updN_ne _ _ a] at e
          have := I.objL (o := o) (by omega); omega
        · simp only [updN_ne _ _ a, updN_ne _ _ b] at e
          exact I.objI o o' (by omega) (by omega) e
      tipB := fun s e he => by
        obtain ⟨a, b, c, d⟩ := I.tipB s e he
        exact ⟨a, b, c, by simp; omega⟩
      tipI := I.tipI
      tipO := fun o s e h1 he => by
        have h1' : o < h.nobj + 1 := h1
        by_cases a : o = h.nobj
        · simp only [a, updN_same]; have := (I.tipB s e he).2.2.2; show w.heap.size ≠ g.tip s; omega
        · simp only [updN_ne _ _ a]; exact I.tipO o s e (by omega) he
      pubB := fun b hb => I.pubB b (by simp at hb; omega) }

/-- A new block that nobody points into but by what is told of it here: n cells of it are published. -/
theorem new_row (I : Inv X g w h) (cs : Array Value) (t : TypeId) (n : Nat) :
    ∃ g', Inv X g' (w.alloc (.cells cs t)) h ∧ Stp g w h g' (w.alloc (.cells cs t)) h ∧ g'.pub w.heap.size = n := by
  have S : Stp g w h { g with pub := updN g.pub w.heap.size n } (w.alloc (.cells cs t)) h :=
    { next := Nat.le_refl _
      nobj := Nat.le_refl _
      obj := fun o ho => rfl
      pub := fun b => by
        by_cases hb : b = w.heap.size
        · rw [hb, I.pubB _ (Nat.le_refl _)]; exact Nat.zero_le _
        · exact Nat.le_of_eq (updN_ne _ _ hb).symm
      cell := fun b o hb => World.cell?_alloc_lt w _ _ (I.pub_lt hb)
      tip := fun s _ e he => ⟨he, rfl, updN_ne _ _ (by have := (I.tipB s e he).2.2.2; omega)⟩
      row := fun s _ e he off n r => rowAt_alloc r }
  refine ⟨_, ?_, S, updN_same _ _ _⟩
  exact
    { below := I.below.alloc I.size _
      next := I.next
      objs := fun o ho' => by
        obtain ⟨cs', t', k1, k2, k3, k4⟩ := I.objs o ho'
        exact ⟨cs', t', heap_alloc_some k1, k2, k3, fun i h1 h2 => (k4 i h1 h2).stp S⟩
      objB := fun o ho' => ⟨(I.objB o ho').1, by
        show updN g.pub w.heap.size n (g.obj o) = 0
        rw [updN_ne _ _ (by have := I.objL ho'; omega)]; exact (I.objB o ho').2⟩
      objI := I.objI
      tipB := fun s e he => by
        obtain ⟨a, b, c, d⟩ := I.tipB s e he
        exact ⟨a, b, c, by simp; omega⟩
      tipI := I.tipI
      tipO := I.tipO
      pubB := fun b hb => by
        show updN g.pub w.heap.size n b = 0
        simp at hb
        rw [updN_ne _ _ (by omega)]; exact I.pubB b (by omega) }

/-! ### Stores into objects -/
theorem setAt_length : ∀ (vs : List V) (cs : List V) (off : Nat), (setAt cs off vs).length = cs.length
  | [], cs, off => rfl
  | v :: vs, cs, off => by simp [setAt, setAt_length vs]
theorem setAt_getElem? : ∀ (vs : List V) (cs : List V) (off i : Nat), off + vs.length ≤ cs.length →
    (setAt cs off vs)[i]? = if off ≤ i ∧ i < off + vs.length then vs[i - off]? else cs[i]?
  | [], cs, off, i, _ => by simp [setAt]; omega
  | v :: vs, cs, off, i, hl => by
    simp only [List.length_cons] at hl
    rw [setAt, setAt_getElem? vs (cs.set off v) (off + 1) i (by simp; omega)]
    by_cases h1 : off + 1 ≤ i ∧ i < off + 1 + vs.length
    · rw [if_pos h1, if_pos (by simp; omega), show i - off = (i - (off + 1)) + 1 by omega]; simp
    · rw [if_neg h1, List.getElem?_set]
      by_cases h2 : off = i
      · subst h2; simp; omega
      · rw [if_neg h2, if_neg (by simp; omega)]

theorem setRow_heap_ne (w : World) (b : Nat) (cs : Array Value) (k : Nat) (hk : k ≠ b) : (w.setRow b cs).heap[k]? = w.heap[k]? := by
  unfold World.setRow
  simp only [Array.getElem?_modify]
  rw [if_neg (by omega)]

theorem store_obj (I : Inv X g w h) (o off : Nat) (ho : o < h.nobj) (vs : List V) (us : List Value) (hlen : vs.length = us.length)
    (hfit : off + vs.length ≤ (h.objs o).length) (h1 : ∀ i (h2 : i < us.length), (us[i]).oneCell' = true)
    (hr : ∀ i (h1 : i < vs.length) (h2 : i < us.length), Rel X g w h (vs[i]) (us[i])) :
    ∃ w', (storeCells ⟨g.obj o, off, none⟩ us).run X.P w = .ok () w' ∧ Inv X g w' (h.set o (setAt (h.objs o) off vs)) ∧ Stp g w h g w' (h.set o (setAt (h.objs o) off vs)) := by
  obtain ⟨cs, t, k1, k2, k3, k4⟩ := I.objs o ho
  have hst := run_storeCells_at X.P (g.obj o) off t us 0 cs w k1 (by omega) (fun v hv => by
    obtain ⟨i, hi, rfl⟩ := List.getElem_of_mem hv; exact h1 i hi)
  simp only [Nat.add_zero] at hst
  generalize hcur : (cs.toList.take off ++ us ++ cs.toList.drop (off + us.length)).toArray = cur at hst
  have hsz : cur.size = cs.size := by
    rw [← hcur]; simp; omega
  have hget : ∀ i, cur[i]? = if off ≤ i ∧ i < off + us.length then us[i - off]? else cs[i]? := fun i => by
    rw [← hcur]
    simp only [List.getElem?_toArray, List.append_assoc, List.getElem?_append, List.length_take, Array.length_toList, List.getElem?_take, List.getElem?_drop, Array.getElem?_toList]
    have hm : min off cs.size = off := by omega
    rw [hm]
    by_cases a : i < off
    · rw [if_pos a, if_pos a, if_neg (by omega)]
    · rw [if_neg a]
      by_cases b : i < off + us.length
      · rw [if_pos (by omega), if_pos ⟨by omega, b⟩]
      · rw [if_neg (by omega), if_neg (by omega)]; congr 1; omega
  refine ⟨_, hst, ?_⟩
  have hcell : ∀ b i, 0 < g.pub b → (w.setRow (g.obj o) cur).cell? ⟨b, i, none⟩ = w.cell? ⟨b, i, none⟩ := fun b i hb =>
    World.cell?_of_block (setRow_heap_ne _ _ _ _ (fun e => by
      have hz := (I.objB o ho).2; rw [← e] at hz; simp only at hz; omega))
  have S : Stp g w h g (w.setRow (g.obj o) cur) (h.set o (setAt (h.objs o) off vs)) :=
    { next := Nat.le_refl _
      nobj := Nat.le_refl _
      obj := fun _ _ => rfl
      pub := fun _ => Nat.le_refl _
      cell := fun b i hb => hcell b i (by omega)
      tip := fun s _ e he => ⟨he, rfl, rfl⟩
      row := fun s _ e he off n r => by
        obtain ⟨c, t, hh, hl⟩ := r
        exact ⟨c, t, by rw [setRow_heap_ne _ _ _ _ (fun e' => I.tipO o s e ho he e'.symm)]; exact hh, hl⟩ }
  refine ⟨?_, S⟩
  exact
    { below := I.below.trans ⟨rfl, rfl, rfl, by simp [World.setRow], fun k hk => setRow_heap_ne _ _ _ _ (by have := (I.objB o ho).1; omega)⟩
      next := I.next
      objs := fun o' ho' => by
        by_cases e : o' = o
        · subst e
          have e2 : (h.set o' (setAt (h.objs o') off vs)).objs o' = setAt (h.objs o') off vs := updN_same _ _ _
          refine ⟨cur, t, setRow_heap w _ cs cur t _ k1, by rw [e2, setAt_length, k2, hsz], fun i h2 => ?_, fun i i1 i2 => ?_⟩
          · have hc := hget i
            rw [Array.getElem?_eq_getElem h2] at hc
            by_cases a : off ≤ i ∧ i < off + us.length
            · rw [if_pos a, List.getElem?_eq_getElem (by omega)] at hc
              rw [Option.some.inj hc]; exact h1 _ _
            · rw [if_neg a, Array.getElem?_eq_getElem (by omega)] at hc
              rw [Option.some.inj hc]; exact k3 _ _
          · simp only [e2] at i1 ⊢
            have hv := setAt_getElem? vs (h.objs o') off i hfit
            rw [List.getElem?_eq_getElem i1] at hv
            have hc := hget i
            rw [Array.getElem?_eq_getElem i2] at hc
            rw [setAt_length] at i1
            by_cases a : off ≤ i ∧ i < off + us.length
            · rw [if_pos a, List.getElem?_eq_getElem (by omega)] at hc
              rw [if_pos (by omega), List.getElem?_eq_getElem (by omega)] at hv
              rw [Option.some.inj hc, Option.some.inj hv]; exact (hr _ _ _).stp S
            · rw [if_neg a, Array.getElem?_eq_getElem (by omega)] at hc
              rw [if_neg (by omega), List.getElem?_eq_getElem (by omega)] at hv
              rw [Option.some.inj hc, Option.some.inj hv]; exact (k4 _ _ _).stp S
        · obtain ⟨cs', t', j1, j2, j3, j4⟩ := I.objs o' ho'
          have e2 : (h.set o (setAt (h.objs o) off vs)).objs o' = h.objs o' := updN_ne _ _ e
          refine ⟨cs', t', ?_, by rw [e2]; exact j2, j3, fun i i1 i2 => ?_⟩
          · rw [setRow_heap_ne _ _ _ _ (fun e' => e (I.objI o' o ho' ho e'))]; exact j1
          · simp only [e2] at i1 ⊢; exact (j4 i i1 i2).stp S
      objB := I.objB
      objI := I.objI
      tipB := fun s e he => by
        obtain ⟨a, b, c, d⟩ := I.tipB s e he
        exact ⟨a, b, c, by simp [World.setRow]; exact d⟩
      tipI := I.tipI
      tipO := I.tipO
      pubB := fun b hb => I.pubB b (by simpa [World.setRow] using hb) }

/-! ### append -/
theorem push_next (h : AH) (st e : Nat) : (h.push st e).next = h.next + 1 := by unfold AH.push; split <;> rfl
theorem push_nobj (h : AH) (st e : Nat) : (h.push st e).nobj = h.nobj := by unfold AH.push; split <;> rfl
theorem push_objs (h : AH) (st e : Nat) : (h.push st e).objs = h.objs := by unfold AH.push; split <;> rfl
theorem push_new (h : AH) (st e : Nat) : (h.push st e).tips h.next = some e := by unfold AH.push; split <;> exact updN_same _ _ _
theorem push_tips {h : AH} {st e s e' : Nat} (he : (h.push st e).tips s = some e') : (s = h.next ∧ e' = e) ∨ (s ≠ h.next ∧ h.tips s = some e' ∧ (3 ≤ st → s ≠ st)) := by
  by_cases a : s = h.next
  · subst a; rw [push_new] at he; exact .inl ⟨rfl, (Option.some.inj he).symm⟩
  · refine .inr ⟨a, ?_⟩
    unfold AH.push at he
    split at he
    · rename_i hst
      have : (h.grow e).tips s = h.tips s := updN_ne _ _ a
      rw [this] at he; exact ⟨he, fun h3 => by omega⟩
    · rename_i hst
      have e1 : ((h.drop st).grow e).tips s = (h.drop st).tips s := updN_ne _ _ a
      rw [e1] at he
      by_cases b : s = st
      · subst b; have : (h.drop s).tips s = none := updN_same _ _ _
        rw [this] at he; simp at he
      · have e2 : (h.drop st).tips s = h.tips s := updN_ne _ _ b
        rw [e2] at he; exact ⟨he, fun _ => b⟩

theorem fresh_row (I : Inv X g w h) {w' : World} {t : TypeId} {size : Nat} {v' : Value} {n : Nat} {xs : List Value} (ow : w'.ownsRow w.heap.size t size v' n xs) (hn : 0 < n ∨ v' ≠ .slice none 0 0)
    (hg : w.grownBy w' none) (st : Nat) (L : List V) (hL : L.length = n) (he : ∀ v ∈ L, v.cells.length = size) (ho : ∀ u ∈ xs, u.oneCell' = true)
    (hr : ∀ i (h1 : i < (cellsOf L).length) (h2 : i < xs.length), Rel X g w h ((cellsOf L)[i]) (xs[i])) :
    ∃ g', Inv X g' w' (h.push st size) ∧ Stp g w h g' w' (h.push st size) ∧ Rel X g' w' (h.push st size) (.sl size h.next L) v' := by
  subst hL
  rcases ow.2 with ⟨hv0, h0⟩ | ⟨b, cap, cur, rfl, hb, hheap, hnc, hcm, hsz, htake⟩
  · rcases hn with hn | hn
    · omega
    · exact absurd hv0 hn
  have hlt : h.next < (h.push st size).next := by rw [push_next]; omega
  have hcells := ow.cells (g := b) rfl
  have hxs : xs.length = L.length * size := ow.1
  have hFl : (cellsOf L).length = L.length * size := cellsOf_length he
  have hblk : ∀ k, k < w.heap.size → w'.heap[k]? = w.heap[k]? := fun k hk => hg.block k hk (by simp)
  have hblt : b < w'.heap.size := (Array.getElem?_eq_some_iff.1 hheap).1
  have S : Stp g w h { g with pub := updN g.pub b (L.length * size), tip := updN g.tip h.next b } w' (h.push st size) :=
    { next := by rw [push_next]; omega
      nobj := by rw [push_nobj]; exact Nat.le_refl _
      obj := fun _ _ => rfl
      pub := fun k => by
        by_cases hk : k = b
        · rw [hk, I.pubB b hb]; exact Nat.zero_le _
        · exact Nat.le_of_eq (updN_ne _ _ hk).symm
      cell := fun k o hk => World.cell?_of_block (hblk k (I.pub_lt hk))
      tip := fun s hs e he => by
        rcases push_tips he with ⟨a, _⟩ | ⟨a, b', _⟩
        · omega
        · refine ⟨b', updN_ne _ _ a, updN_ne _ _ (by have := (I.tipB s e b').2.2.2; omega)⟩
      row := fun s hs e he off k r => by
        obtain ⟨c, t, hh, hl⟩ := r
        exact ⟨c, t, by rw [hblk _ (Array.getElem?_eq_some_iff.1 hh).1]; exact hh, hl⟩ }
  refine ⟨_, ?_, S, ?_⟩
  · exact
      { below := I.below.trans ⟨hg.os, hg.tape, hg.output, hg.size, fun k hk => hblk k (by have := I.size; omega)⟩
        next := by rw [push_next]; have := I.next; omega
        objs := fun o ho' => by
          rw [push_nobj] at ho'
          obtain ⟨cs', t', k1, k2, k3, k4⟩ := I.objs o ho'
          refine ⟨cs', t', by rw [hblk _ (I.objL ho')]; exact k1, by rw [push_objs]; exact k2, k3, fun i h1 h2 => ?_⟩
          simp only [push_objs] at h1 ⊢
          exact (k4 i h1 h2).stp S
        objB := fun o ho' => by
          rw [push_nobj] at ho'
          refine ⟨(I.objB o ho').1, ?_⟩
          show updN g.pub b (L.length * size) (g.obj o) = 0
          rw [updN_ne _ _ (by have := I.objL ho'; omega)]; exact (I.objB o ho').2
        objI := fun o o' h1 h2 => I.objI o o' (by rw [push_nobj] at h1; exact h1) (by rw [push_nobj] at h2; exact h2)
        tipB := fun s e he => by
          rcases push_tips he with ⟨a, _⟩ | ⟨a, b', _⟩
          · subst a; rw [push_next]
            refine ⟨I.next, by omega, ?_⟩
            simp only [updN_same]; exact ⟨by have := I.size; omega, hblt⟩
          · obtain ⟨i1, i2, i3, i4⟩ := I.tipB s e b'
            rw [push_next]
            simp only [updN_ne _ _ a]
            exact ⟨i1, by omega, i3, by have := hg.size; omega⟩
        tipI := fun s e s' e' h1 h2 heq => by
          rcases push_tips h1 with ⟨a, _⟩ | ⟨a, b1, _⟩ <;> rcases push_tips h2 with ⟨a', _⟩ | ⟨a', b2, _⟩
          · rw [a, a']
          · simp only [a, updN_same, updN_ne _ _ a'] at heq
            have := (I.tipB s' e' b2).2.2.2; omega
          · simp only [a', updN_same, updN_ne _ _ a] at heq
            have := (I.tipB s e b1).2.2.2; omega
          · simp only [updN_ne _ _ a, updN_ne _ _ a'] at heq
            exact I.tipI s e s' e' b1 b2 heq
        tipO := fun o s e ho' he => by
          rw [push_nobj] at ho'
          rcases push_tips he with ⟨a, _⟩ | ⟨a, b1, _⟩
          · simp only [a, updN_same]; have := I.objL ho'; show g.obj o ≠ b; omega
          · simp only [updN_ne _ _ a]; exact I.tipO o s e ho' b1
        pubB := fun k hk => by
          show updN g.pub b (L.length * size) k = 0
          rw [updN_ne _ _ (by omega)]; exact I.pubB k (by have := hg.size; omega) }
  · refine .sl size h.next L b 0 cap (fun i => xs.getD i undef) (by have := I.next; omega) hlt hnc he (fun i hi => ?_) (fun i hi => ?_) ?_ (fun i hi => ?_) (by have := I.next; omega) (fun e' he' => ?_)
    · have := hcells i (xs.getD i undef) (by simp [List.getD, List.getElem?_eq_getElem (show i < xs.length by omega)])
      rw [Addr.add_lit] at this
      exact this
    · have hi2 : i < xs.length := by omega
      simp only [List.getD, List.getElem?_eq_getElem hi2, Option.getD_some]
      exact ho _ (List.getElem_mem hi2)
    · show 0 + _ ≤ updN g.pub b (L.length * size) b
      rw [updN_same]; omega
    · have hi2 : i < xs.length := by omega
      simp only [List.getD, List.getElem?_eq_getElem hi2, Option.getD_some]
      exact (hr i hi hi2).stp S
    · rw [push_new] at he'
      obtain rfl := Option.some.inj he'
      refine ⟨rfl, (updN_same _ _ _).symm, ?_, ⟨cur, t, hheap, by omega⟩⟩
      show updN g.pub b (L.length * size) b = _
      rw [updN_same]; omega

theorem heap_setCells_ne (b : Nat) : ∀ (vs : List Value) (o : Nat) (w : World) (k : Nat), k ≠ b → (w.setCells b o vs).heap[k]? = w.heap[k]?
  | [], _, _, _, _ => rfl
  | v :: vs, o, w, k, hk => by rw [World.setCells, heap_setCells_ne b vs _ _ _ hk, Below.heap_setCell _ _ _ _ hk]
theorem rowAt_setCell {b off n : Nat} (r : rowAt w b off n) (a : Addr) (u : Value) : rowAt (w.setCell a u) b off n := by
  obtain ⟨cs, t, hh, hl⟩ := r
  by_cases hb : a.block = b
  · refine ⟨(if a.spot.isSome then cs else cs.setIfInBounds a.off u), t, ?_, by split <;> simpa using hl⟩
    simp only [World.setCell, Array.getElem?_modify, hb, if_true, hh, Option.map_some]
  · exact ⟨cs, t, by rw [Below.heap_setCell _ _ _ _ (Ne.symm hb)]; exact hh, hl⟩
theorem rowAt_setCells {b off n : Nat} (b' : Nat) : ∀ (vs : List Value) (o : Nat) (w : World), rowAt w b off n → rowAt (w.setCells b' o vs) b off n
  | [], _, _, r => r
  | v :: vs, o, w, r => by rw [World.setCells]; exact rowAt_setCells b' vs _ _ (rowAt_setCell r _ _)
theorem size_setCells (b : Nat) : ∀ (vs : List Value) (o : Nat) (w : World), (w.setCells b o vs).heap.size = w.heap.size
  | [], _, _ => rfl
  | v :: vs, o, w => by rw [World.setCells, size_setCells b vs]; simp
theorem streams_setCells (b : Nat) : ∀ (vs : List Value) (o : Nat) (w : World), (w.setCells b o vs).os = w.os ∧ (w.setCells b o vs).tape = w.tape ∧ (w.setCells b o vs).output = w.output
  | [], _, _ => ⟨rfl, rfl, rfl⟩
  | v :: vs, o, w => by rw [World.setCells]; exact streams_setCells b vs (o + 1) (w.setCell ⟨b, o, none⟩ v)

theorem grow_tip (I : Inv X g w h) {st size e1 : Nat} {l : List V} {b off cap : Nat} (ht : h.tips st = some size) (rl : Rel X g w h (.sl e1 st l) (.slice (some ⟨b, off, none⟩) l.length cap))
    (m : List V) (hm : ∀ v ∈ m, v.cells.length = size) (news : List Value) (hnews : news.length = (cellsOf m).length) (ho : ∀ u ∈ news, u.oneCell' = true)
    (hr : ∀ i (h1 : i < (cellsOf m).length) (h2 : i < news.length), Rel X g w h ((cellsOf m)[i]) (news[i])) (hroom : l.length + m.length ≤ cap) :
    ∃ g', Inv X g' (w.setCells b (off + l.length * size) news) (h.push st size) ∧ Stp g w h g' (w.setCells b (off + l.length * size) news) (h.push st size) ∧
      Rel X g' (w.setCells b (off + l.length * size) news) (h.push st size) (.sl size h.next (l ++ m)) (.slice (some ⟨b, off, none⟩) (l.length + m.length) cap) := by
  generalize hla : (some (⟨b, off, none⟩ : Addr)) = la at rl
  generalize hlen : l.length = ll at rl
  cases rl with
  | slnil => simp at hla
  | slemp => have := (I.tipB _ _ ht).1; omega
  | sl _ _ _ b' off' _ x k1 ks kcap ke kc ko kp kr k2 k3 =>
  simp at hla
  obtain ⟨rfl, rfl⟩ := hla
  obtain ⟨rfl, hbt, hpub, hrow⟩ := k3 size ht
  obtain ⟨t1, t2, t3, t4⟩ := I.tipB st size ht
  have hFl := cellsOf_length ke
  have hFm := cellsOf_length hm
  have hrow' : rowAt w b off ((l.length + m.length) * size) := by
    obtain ⟨c, t, hh, hl⟩ := hrow
    refine ⟨c, t, hh, ?_⟩
    have := Nat.mul_le_mul_right size hroom
    omega
  have hold : ∀ j, j < news.length → (w.cell? ⟨b, off + l.length * size + j, none⟩).isSome = true := fun j hj => by
    obtain ⟨c, t, hh, hl⟩ := hrow'
    rw [Nat.add_mul] at hl
    have : off + l.length * size + j < c.size := by omega
    simp [World.cell?, hh, this]
  have hin := World.cell?_setCells_in b news (off + l.length * size) w hold
  have hout : ∀ k o, (k = b → o < off + l.length * size) → (w.setCells b (off + l.length * size) news).cell? ⟨k, o, none⟩ = w.cell? ⟨k, o, none⟩ := fun k o hk =>
    World.cell?_setCells_out b news _ w _ (fun h1 _ => .inl (hk h1))
  have S : Stp g w h { g with pub := updN g.pub b (off + (l.length + m.length) * size), tip := updN g.tip h.next b } (w.setCells b (off + l.length * size) news) (h.push st size) :=
    { next := by rw [push_next]; omega
      nobj := by rw [push_nobj]; exact Nat.le_refl _
      obj := fun _ _ => rfl
      pub := fun k => by
        by_cases hk : k = b
        · subst hk; simp only [updN_same]; rw [hpub, Nat.add_mul]; omega
        · exact Nat.le_of_eq (updN_ne _ _ hk).symm
      cell := fun k o hk => hout k o (fun e => by subst e; omega)
      tip := fun s hs e he => by
        rcases push_tips he with ⟨a, _⟩ | ⟨a, b', c⟩
        · omega
        · refine ⟨b', updN_ne _ _ a, updN_ne _ _ (fun e' => c t1 (I.tipI s e st size b' ht (by rw [e', hbt])))⟩
      row := fun s hs e he off' k r => rowAt_setCells b _ _ _ r }
  refine ⟨_, ?_, S, ?_⟩
  · obtain ⟨s1, s2, s3⟩ := streams_setCells b news (off + l.length * size) w
    exact
      { below := I.below.trans ⟨s1, s2, s3, Nat.le_of_eq (size_setCells b _ _ _).symm, fun k hk => heap_setCells_ne b _ _ _ _ (by omega)⟩
        next := by rw [push_next]; have := I.next; omega
        objs := fun o ho' => by
          rw [push_nobj] at ho'
          obtain ⟨cs', t', j1, j2, j3, j4⟩ := I.objs o ho'
          refine ⟨cs', t', by rw [heap_setCells_ne b _ _ _ _ (by rw [hbt]; exact I.tipO o st size ho' ht)]; exact j1, by rw [push_objs]; exact j2, j3, fun i h1 h2 => ?_⟩
          simp only [push_objs] at h1 ⊢
          exact (j4 i h1 h2).stp S
        objB := fun o ho' => by
          rw [push_nobj] at ho'
          refine ⟨(I.objB o ho').1, ?_⟩
          show updN g.pub b _ (g.obj o) = 0
          rw [updN_ne _ _ (by rw [hbt]; exact I.tipO o st size ho' ht)]; exact (I.objB o ho').2
        objI := fun o o' h1 h2 => I.objI o o' (by rw [push_nobj] at h1; exact h1) (by rw [push_nobj] at h2; exact h2)
        tipB := fun s e he => by
          rcases push_tips he with ⟨a, _⟩ | ⟨a, b', _⟩
          · subst a; rw [push_next, size_setCells]
            refine ⟨I.next, by omega, ?_⟩
            simp only [updN_same]; rw [hbt]; exact ⟨t3, t4⟩
          · obtain ⟨i1, i2, i3, i4⟩ := I.tipB s e b'
            rw [push_next, size_setCells]
            simp only [updN_ne _ _ a]
            exact ⟨i1, by omega, i3, i4⟩
        tipI := fun s e s' e' h1 h2 heq => by
          rcases push_tips h1 with ⟨a, _⟩ | ⟨a, b1, c1⟩ <;> rcases push_tips h2 with ⟨a', _⟩ | ⟨a', b2, c2⟩
          · rw [a, a']
          · simp only [a, updN_same, updN_ne _ _ a'] at heq
            exact absurd (I.tipI s' e' st size b2 ht (by rw [← heq, hbt])) (c2 t1)
          · simp only [a', updN_same, updN_ne _ _ a] at heq
            exact absurd (I.tipI s e st size b1 ht (by rw [heq, hbt])) (c1 t1)
          · simp only [updN_ne _ _ a, updN_ne _ _ a'] at heq
            exact I.tipI s e s' e' b1 b2 heq
        tipO := fun o s e ho' he => by
          rw [push_nobj] at ho'
          rcases push_tips he with ⟨a, _⟩ | ⟨a, b1, _⟩
          · simp only [a, updN_same]; rw [hbt]; exact I.tipO o st size ho' ht
          · simp only [updN_ne _ _ a]; exact I.tipO o s e ho' b1
        pubB := fun k hk => by
          rw [size_setCells] at hk
          show updN g.pub b _ k = 0
          rw [updN_ne _ _ (by omega)]; exact I.pubB k hk }
  · have e1 : l.length + m.length = (l ++ m).length := by simp
    have hap : (cellsOf (l ++ m)).length = (l.length + m.length) * size := by rw [cellsOf_append, List.length_append, hFl, hFm, Nat.add_mul]
    have hlt : h.next < (h.push st size).next := by rw [push_next]; omega
    rw [e1] at S ⊢
    refine .sl size h.next (l ++ m) b off cap (fun i => if i < l.length * size then x i else news.getD (i - l.length * size) undef) (by have := I.next; omega) hlt (by rw [← e1]; exact hroom)
      (fun v hv => (List.mem_append.1 hv).elim (ke v) (hm v)) (fun i hi => ?_) (fun i hi => ?_) ?_ (fun i hi => ?_) (by have := I.next; omega) (fun e' he' => ?_)
    · rw [hap, Nat.add_mul] at hi
      by_cases a : i < l.length * size
      · simp only [if_pos a]; rw [hout b (off + i) (fun _ => by omega)]; exact kc i (by omega)
      · simp only [if_neg a]
        have := hin (i - l.length * size) (by omega)
        rw [show off + l.length * size + (i - l.length * size) = off + i by omega] at this
        rw [this, List.getD, List.getElem?_eq_getElem (by omega)]; rfl
    · rw [hap, Nat.add_mul] at hi
      by_cases a : i < l.length * size
      · simp only [if_pos a]; exact ko i (by omega)
      · have hi2 : i - l.length * size < news.length := by omega
        simp only [if_neg a, List.getD, List.getElem?_eq_getElem hi2, Option.getD_some]
        exact ho _ (List.getElem_mem hi2)
    · show _ ≤ updN g.pub b _ b
      rw [updN_same, hap, e1]; exact Nat.le_refl _
    · have hi' := hi
      rw [hap, Nat.add_mul] at hi'
      by_cases a : i < l.length * size
      · simp only [if_pos a]
        have hFi : i < (cellsOf l).length := by omega
        have e2 : (cellsOf (l ++ m))[i] = (cellsOf l)[i] := by simp only [cellsOf_append]; exact List.getElem_append_left hFi
        rw [e2]; exact (kr i hFi).stp S
      · have hi2 : i - l.length * size < news.length := by omega
        simp only [if_neg a, List.getD, List.getElem?_eq_getElem hi2, Option.getD_some]
        have e2 : (cellsOf (l ++ m))[i] = (cellsOf m)[i - l.length * size]'(by omega) := by
          simp only [cellsOf_append]; rw [List.getElem_append_right (by omega)]; simp only [hFl]
        rw [e2]; exact (hr _ _ hi2).stp S
    · rw [push_new] at he'
      obtain rfl := Option.some.inj he'
      refine ⟨rfl, (updN_same _ _ _).symm, ?_, rowAt_setCells b _ _ _ hrow⟩
      show updN g.pub b _ b = _
      rw [updN_same]

theorem rangeMap_get {x : Nat → Value} {n i : Nat} {u : Value} (e : ((List.range n).map x)[i]? = some u) : i < n ∧ u = x i := by
  have hi : i < n := by
    have := (List.getElem?_eq_some_iff.1 e).1; simpa using this
  simp [hi] at e
  exact ⟨hi, e.symm⟩

theorem app_run (I : Inv X g w h) {t ty e : TypeId} {i : TypeInfo} {z : Value} (ht : X.P.underlying t = some (.slice e)) (hi : X.P.info? e = some i) (hz : i.zero = some z)
    (hzs : z.cells.size = i.size) (hs0 : 0 < i.size) (hb0 : 0 < i.bytes) {e1 st : Nat} {l : List V} {x : Value} (rx : Rel X g w h (.sl e1 st l) x) {e2 st2 : Nat} {m : List V} {y : Value}
    (ry : Rel X g w h (.sl e2 st2 m) y) (hm : m ≠ []) (hst : st = 1 ∨ st = 2 ∨ h.tips st = some i.size) (hl : l = [] ∨ e1 = i.size) (he2 : e2 = i.size)
    (hb : (l.length + m.length) * i.bytes ≤ 2 ^ 46) :
    ∃ v' g' w', (Builtin.append_ #[t, t] ty #[x, y]).run X.P w = .ok v' w' ∧ Inv X g' w' (h.push st i.size) ∧ Stp g w h g' w' (h.push st i.size) ∧
      Rel X g' w' (h.push st i.size) (.sl i.size h.next (l ++ m)) v' := by
  have hmpos : 0 < m.length := List.length_pos_iff.2 hm
  have hsmall : l.length + m.length ≤ 2 ^ 46 := Nat.le_trans (Nat.le_mul_of_pos_right _ hb0) hb
  subst he2
  cases ry with
  | slnil => exact absurd rfl hm
  | slemp => exact absurd rfl hm
  | sl _ _ _ yb yoff ycap y j1 js jcap je jc jo jp jr j2 j3 =>
  have hFm := cellsOf_length je
  generalize hnews : (List.range (cellsOf m).length).map y = news
  have hnl : news.length = m.length * i.size := by rw [← hnews]; simp [hFm]
  have hncell : ∀ j u, news[j]? = some u → w.cell? ((⟨yb, yoff, none⟩ : Addr).add j) = some u := fun j u hu => by
    rw [← hnews] at hu
    obtain ⟨a, rfl⟩ := rangeMap_get hu
    rw [Addr.add_lit]; exact jc j a
  have hn1 : ∀ u ∈ news, u.oneCell' = true := fun u hu => by
    obtain ⟨j, hj, rfl⟩ := List.getElem_of_mem hu
    have := rangeMap_get (x := y) (n := (cellsOf m).length) (i := j) (u := news[j]) (by rw [hnews]; exact List.getElem?_eq_getElem hj)
    rw [this.2]; exact jo j this.1
  have hnr : ∀ j (h1 : j < (cellsOf m).length) (h2 : j < news.length), Rel X g w h ((cellsOf m)[j]) (news[j]) := fun j h1 h2 => by
    have := rangeMap_get (x := y) (n := (cellsOf m).length) (i := j) (u := news[j]) (by rw [hnews]; exact List.getElem?_eq_getElem h2)
    rw [this.2]; exact jr j h1
  have h63 : l.length + m.length ≤ maxLen := by unfold maxLen; omega
  have hby : (l.length + m.length) * i.bytes ≤ 140737488355328 := by omega
  cases rx with
  | slemp =>
    rcases hst with h1 | h1 | h1
    · omega
    · omega
    · have := (I.tipB _ _ h1).1; omega
  | slnil _ _ hst1 =>
    obtain ⟨v', w', e1', own, gr, hnil, hblk⟩ := run_append_own_at (P := X.P) (w := w) w.heap.size t ty e i z i.size i.bytes ht hi hz rfl rfl hzs hs0 (.slice none 0 0) 0 [] (World.ownsRow_nil _ _ _ _)
      ⟨yb, yoff, none⟩ m.length ycap news hnl hncell hn1 (by simpa using h63) (by simpa using hby) (Nat.le_refl _)
    obtain ⟨g', I', S, r⟩ := fresh_row I own (.inl (by omega)) gr st m (by simp) je (by simpa using hn1) (fun j a b => by simpa using hnr j a (by simpa using b))
    exact ⟨v', g', w', e1', I', S, by simpa using r⟩
  | sl _ _ _ b off cap x k1 ks kcap ke kc ko kp kr k2 k3 =>
    have hFl := cellsOf_length ke
    have hle : ∀ v ∈ l, v.cells.length = i.size := by
      rcases hl with rfl | rfl
      · simp
      · exact ke
    have hFl' := cellsOf_length hle
    generalize holds : (List.range (cellsOf l).length).map x = olds
    have hol : olds.length = l.length * i.size := by rw [← holds]; simp [hFl']
    have hocell : ∀ j u, olds[j]? = some u → w.cell? ((⟨b, off, none⟩ : Addr).add j) = some u := fun j u hu => by
      rw [← holds] at hu
      obtain ⟨a, rfl⟩ := rangeMap_get hu
      rw [Addr.add_lit]; exact kc j a
    by_cases hroom : l.length + m.length ≤ cap
    · have htip : h.tips st = some i.size := by
        rcases hst with h1 | h1 | h1
        · exact absurd h1 k1
        · have := k2 h1; omega
        · exact h1
      have rl := Rel.sl (X := X) (g := g) (w := w) (h := h) e1 st l b off cap x k1 ks kcap ke kc ko kp kr k2 k3
      obtain ⟨g', I', S, r⟩ := grow_tip I htip rl m je news (by rw [hnl, hFm]) hn1 hnr hroom
      have hcc : ∀ j, j < news.length → (w.cell? ⟨b, off + l.length * i.size + j, none⟩).isSome = true ∧ w.frozen? ⟨b, off + l.length * i.size + j, none⟩ = false := fun j hj => by
        obtain ⟨q1, q2, q3, c, t', hh, hlc⟩ := k3 _ htip
        have := Nat.mul_le_mul_right i.size hroom
        rw [Nat.add_mul] at this
        rw [← q1] at hlc
        have : off + l.length * i.size + j < c.size := by omega
        simp [World.cell?, World.frozen?, hh, this]
      refine ⟨_, g', _, run_append_room_cells (P := X.P) w t ty e i ht hi b off l.length cap ⟨yb, yoff, none⟩ m.length ycap news hnl hncell hn1 hroom (fun j hj => (hcc j hj).1) (fun j hj => (hcc j hj).2), I', S, r⟩
    · obtain ⟨v', w', e1', own, gr⟩ := run_append_arg_grows (P := X.P) w t ty e i z i.size i.bytes ht hi hz rfl rfl hzs hs0 ⟨b, off, none⟩ l.length cap olds hol hocell ⟨yb, yoff, none⟩ m.length ycap news hnl hncell (by omega) h63 hby
      have hx1 : ∀ u ∈ olds ++ news, u.oneCell' = true := fun u hu => by
        rcases List.mem_append.1 hu with hu | hu
        · obtain ⟨j, hj, rfl⟩ := List.getElem_of_mem hu
          have := rangeMap_get (x := x) (n := (cellsOf l).length) (i := j) (u := olds[j]) (by rw [holds]; exact List.getElem?_eq_getElem hj)
          rw [this.2]; exact ko j this.1
        · exact hn1 u hu
      obtain ⟨g', I', S, r⟩ := fresh_row I own (.inl (by omega)) gr st (l ++ m) (by simp) (fun v hv => (List.mem_append.1 hv).elim (hle v) (je v)) hx1 (fun j a b => by
        have hj : j < olds.length ∨ olds.length ≤ j := Nat.lt_or_ge _ _
        rcases hj with hj | hj
        · have e2 : (cellsOf (l ++ m))[j] = (cellsOf l)[j]'(by omega) := by simp only [cellsOf_append]; exact List.getElem_append_left (by omega)
          have e3 : (olds ++ news)[j] = olds[j] := List.getElem_append_left hj
          have := rangeMap_get (x := x) (n := (cellsOf l).length) (i := j) (u := olds[j]) (by rw [holds]; exact List.getElem?_eq_getElem hj)
          rw [e2, e3, this.2]; exact kr j (by omega)
        · have e3 : (olds ++ news)[j] = news[j - olds.length]'(by simp at b; omega) := List.getElem_append_right hj
          have hq : (cellsOf l).length ≤ j := by omega
          have e2 : (cellsOf (l ++ m))[j] = (cellsOf m)[j - olds.length]'(by simp at a; omega) := by
            simp only [cellsOf_append]; rw [List.getElem_append_right hq]; congr 1; omega
          rw [e2, e3]; exact hnr _ _ _)
      exact ⟨v', g', w', e1', I', S, r⟩

end
end Go.Proofs.Ytpnbdnmmfaomlaa.Al
