/-
  What the law ClosedMeans needs of this claim's texts (part 1). Conditions: each theorem's own.
-/
import Derived.Test.YtajaoldljichaaaAlC
import Derived.RangeFuncRecord
import Derived.RangeFuncLeaves
import Derived.Test.YtajaoldljichaaaAlKeys
import Derived.Test.YtajaoldljichaaaAlB
import Derived.Test.YtajaoldljichaaaAlA
namespace Go.Proofs.Ytajaoldljichaaa.Al
open Go Go.RowKit
set_option linter.unusedSimpArgs false
set_option linter.unusedVariables false
attribute [-simp] List.getD_eq_getElem?_getD Int.not_lt Int.not_le List.map_take
section
variable {X : Cx} {g : Gh} {w : World} {h : AH} {Y : Keys}
theorem store_exo (I : Inv X g w h) {o : Nat} (ho : o < h.nobj) (hm : g.mp o = true) {b0 : Obj} (k1 : w.heap[g.obj o]? = some b0) (kb : isBk b0 = true) (b : Obj) (n : Int) (vs : List Value) (c : List V) (hb : isBk b = true)
    (hl : stdLp X.P (g.obj o) n b vs) (hc : exoH c n) (hlen : c.length = vs.length + 1) (hr : ∀ i (h1 : i + 1 < c.length) (h2 : i < vs.length), Rel X g w h (c[i + 1]) (vs[i])) :
    Inv X g (w.putObj (g.obj o) b) (h.set o c) ∧ Stp g w h g (w.putObj (g.obj o) b) (h.set o c) := by
  have hlt : g.obj o < w.heap.size := I.objL ho
  have wp1 : (w.putObj (g.obj o) b).os = w.os := rfl
  have wp2 : (w.putObj (g.obj o) b).tape = w.tape := rfl
  have wp3 : (w.putObj (g.obj o) b).output = w.output := rfl
  have hne : ∀ k, k ≠ g.obj o → (w.putObj (g.obj o) b).heap[k]? = w.heap[k]? := fun k hk => World.putObj_heap_other hk
  have hat : (w.putObj (g.obj o) b).heap[g.obj o]? = some b := World.putObj_heap_same hlt
  have hsz : (w.putObj (g.obj o) b).heap.size = w.heap.size := World.putObj_size
  generalize w.putObj (g.obj o) b = w' at *
  have hcell : ∀ a : Addr, w'.cell? a = w.cell? a := fun a => by
    by_cases e : a.block = g.obj o
    · cases b0 <;> simp [isBk] at kb <;> cases b <;> simp [isBk] at hb <;> simp [World.cell?, e, hat, k1]
    · simp [World.cell?, hne _ e]
  have S : Stp g w h g w' (h.set o c) :=
    { next := Nat.le_refl _
      nobj := Nat.le_refl _
      obj := fun _ _ => rfl
      mp := fun _ _ => rfl
      pub := fun _ => Nat.le_refl _
      cell := fun b i _ => hcell _
      tip := fun s _ e he => ⟨he, rfl, rfl⟩
      row := fun s _ e he off n r => by
        obtain ⟨c, t, hh, hl⟩ := r
        exact ⟨c, t, by rw [hne _ (fun e' => I.tipO o s e ho he e'.symm)]; exact hh, hl⟩
      shape := fun b s hs => by
        by_cases e : b = g.obj o
        · subst e
          cases b0 <;> simp [isBk] at kb <;> simp [World.shape?, k1] at hs
        · exact shape_blk hs (hne _ e) }
  refine ⟨?_, S⟩
  exact
    { below := I.below.trans ⟨wp1, wp2, wp3, by rw [hsz]; exact Nat.le_refl _, fun k hk => hne _ (by have := (I.objB o ho).1; omega)⟩
      next := I.next
      maps := fun o' ho' hm' => by
        by_cases e : o' = o
        · subst e
          have e2 : (h.set o' c).objs o' = c := updN_same _ _ _
          refine .inr ⟨b, n, vs, hat, hb, hl, by rw [e2]; exact hc, by rw [e2]; exact hlen, fun i h1 h2 => ?_⟩
          simp only [e2] at h1 ⊢
          exact (hr i h1 h2).stp S
        · exact (I.maps o' ho' hm').stp S rfl (fun _ _ k => by rw [hne _ (fun e' => e (I.objI o' o ho' ho e'))]; exact k) (updN_ne _ _ e)
      objs := fun o' ho' hm' hn => by
        have e : ¬ o' = o := fun e => by rw [e, hm] at hm'; cases hm'
        have e2 : (h.set o c).objs o' = h.objs o' := updN_ne _ _ e
        obtain ⟨cs', t', j1, j2, j3, j4⟩ := I.objs o' ho' hm' (by rw [← e2]; exact hn)
        refine ⟨cs', t', ?_, by rw [e2]; exact j2, j3, fun i i1 i2 => ?_⟩
        · rw [hne _ (fun e' => e (I.objI o' o ho' ho e'))]; exact j1
        · simp only [e2] at i1 ⊢; exact (j4 i i1 i2).stp S
      objL := fun {o'} ho' => by have := I.objL ho'; rw [hsz]; exact this
      objB := fun o' ho' => by
        refine ⟨(I.objB o' ho').1, fun hm' hn => ?_⟩
        by_cases e : o' = o
        · rw [e, hm] at hm'; cases hm'
        · have e2 : (h.set o c).objs o' = h.objs o' := updN_ne _ _ e
          exact (I.objB o' ho').2 hm' (by rw [← e2]; exact hn)
      objI := I.objI
      tipB := fun s e he => by
        obtain ⟨a, b, c, d⟩ := I.tipB s e he
        exact ⟨a, b, c, by rw [hsz]; exact d⟩
      tipI := I.tipI
      tipO := I.tipO
      pubB := fun b hb => I.pubB b (by rw [hsz] at hb; exact hb) }
theorem new_exo (I : Inv X g w h) (b : Obj) (n : Int) (vs : List Value) (c : List V) (hb : isBk b = true) (hl : stdLp X.P w.heap.size n b vs) (hc : exoH c n) (hlen : c.length = vs.length + 1)
    (hr : ∀ i (h1 : i + 1 < c.length) (h2 : i < vs.length), (c[i + 1] = .mapr h.nobj ∧ vs[i] = .map (some w.heap.size)) ∨ Rel X g w h (c[i + 1]) (vs[i])) :
    ∃ g', Inv X g' (w.alloc b) (h.new c) ∧ Stp g w h g' (w.alloc b) (h.new c) ∧ g'.obj h.nobj = w.heap.size ∧ g'.mp h.nobj = true := by
  have S : Stp g w h { g with obj := updN g.obj h.nobj w.heap.size, mp := updN g.mp h.nobj true } (w.alloc b) (h.new c) :=
    { next := Nat.le_refl _
      nobj := Nat.le_succ _
      obj := fun o ho => updN_ne _ _ (by omega)
      mp := fun o ho => updN_ne _ _ (by omega)
      pub := fun _ => Nat.le_refl _
      cell := fun b o hb => World.cell?_alloc_lt w _ _ (I.pub_lt hb)
      tip := fun s _ e he => ⟨he, rfl, rfl⟩
      row := fun s _ e he off n r => rowAt_alloc r
      shape := fun b s hs => shape_alloc _ hs }
  refine ⟨_, ?_, S, updN_same _ _ _, updN_same _ _ _⟩
  exact
    { below := I.below.alloc I.size _
      next := I.next
      maps := fun o ho' hm => by
        by_cases ho2 : o = h.nobj
        · subst ho2
          have e2 : (h.new c).objs h.nobj = c := updN_same _ _ _
          refine .inr ⟨b, n, vs, by simp only [updN_same]; exact heap_alloc_new w _, hb, by simp only [updN_same]; exact hl, by rw [e2]; exact hc, by rw [e2]; exact hlen, fun i h1 h2 => ?_⟩
          simp only [e2] at h1 ⊢
          rcases hr i h1 h2 with ⟨q1, q2⟩ | q
          · rw [q1, q2]
            have := Rel.mapr (X := X) (g := { g with obj := updN g.obj h.nobj w.heap.size, mp := updN g.mp h.nobj true }) (w := w.alloc b) (h := h.new c) h.nobj (Nat.lt_succ_self _) (updN_same _ _ _)
            simpa only [updN_same] using this
          · exact q.stp S
        · have hlt : o < h.nobj := by have : o < h.nobj + 1 := ho'; omega
          simp only [updN_ne _ _ ho2] at hm
          exact (I.maps o hlt hm).stp S (updN_ne _ _ ho2) (fun _ _ k => heap_alloc_some k) (updN_ne _ _ ho2)
      objs := fun o ho' hm hne => by
        by_cases ho2 : o = h.nobj
        · subst ho2; simp only [updN_same] at hm; exact absurd hm (by simp)
        · have hlt : o < h.nobj := by have : o < h.nobj + 1 := ho'; omega
          have e : (h.new c).objs o = h.objs o := updN_ne _ _ ho2
          obtain ⟨cs', t', k1, k2, k3, k4⟩ := I.objs o hlt (by simpa only [updN_ne _ _ ho2] using hm) (by rw [← e]; exact hne)
          refine ⟨cs', t', ?_, by rw [e]; exact k2, k3, fun i h1 h2 => ?_⟩
          · simp only [updN_ne _ _ ho2]; exact heap_alloc_some k1
          · simp only [e] at h1 ⊢; exact (k4 i h1 h2).stp S
      objL := fun {o} ho' => by
        by_cases ho2 : o = h.nobj
        · subst ho2; simp only [updN_same]; simp
        · simp only [updN_ne _ _ ho2]; have := I.objL (o := o) (by have : o < h.nobj + 1 := ho'; omega); simp; omega
      objB := fun o ho' => by
        by_cases ho2 : o = h.nobj
        · subst ho2; simp only [updN_same]; exact ⟨I.size, fun _ _ => I.pubB _ (Nat.le_refl _)⟩
        · have e : (h.new c).objs o = h.objs o := updN_ne _ _ ho2
          simp only [updN_ne _ _ ho2, e]; exact I.objB o (by have : o < h.nobj + 1 := ho'; omega)
      objI := fun o o' h1 h2 e => by
        have h1' : o < h.nobj + 1 := h1
        have h2' : o' < h.nobj + 1 := h2
        by_cases a : o = h.nobj <;> by_cases b : o' = h.nobj
        · rw [a, b]
        · simp only [a, updN_same, updN_ne _ _ b] at e
          have := I.objL (o := o') (by omega); omega
        · simp only [b, updN_same, updN_ne _ _ a] at e
          have := I.objL (o := o) (by omega); omega
        · simp only [updN_ne _ _ a, updN_ne _ _ b] at e
          exact I.objI o o' (by omega) (by omega) e
      tipB := fun s e he => by
        obtain ⟨a, b, c, d⟩ := I.tipB s e he
        exact ⟨a, b, c, by simp; omega⟩
      tipI := I.tipI
      tipO := fun o s e h1 he => by
        have h1' : o < h.nobj + 1 := h1
        by_cases a : o = h.nobj
        · simp only [a, updN_same]; have := (I.tipB s e he).2.2.2; show w.heap.size ≠ g.tip s; omega
        · simp only [updN_ne _ _ a]; exact I.tipO o s e (by omega) he
      pubB := fun b hb => I.pubB b (by simp at hb; omega) }
/-- An object that says of itself that it is a record, or a block for deferred calls. -/
theorem exo_get (I : Inv X g w h) {o l : Nat} {n : Int} {us : List V} (ho : o < h.nobj) (e : h.objs o = .int .i64 n :: .int .i64 l :: .mapr o :: us) (hn : n ≠ -1) :
    g.mp o = true ∧ g.obj o = l ∧ ∃ b ts, w.heap[l]? = some b ∧ isBk b = true ∧ stdLp X.P l n b (.int .i64 l :: .map (some l) :: ts) ∧ us.length = ts.length ∧ ∀ i (h1 : i < us.length) (h2 : i < ts.length), Rel X g w h (us[i]) (ts[i]) := by
  have hm : g.mp o = true := by
    cases hm : g.mp o with
    | true => rfl
    | false =>
      obtain ⟨cs, t, _, k2, _, k4⟩ := I.objs o ho hm (by rw [e]; simp)
      have hl : (h.objs o).length = us.length + 3 := by rw [e]; simp
      have r := k4 2 (by omega) (by omega)
      simp only [e, List.getElem_cons_succ, List.getElem_cons_zero] at r
      generalize cs[2]'(by omega) = z at r
      cases r
      rename_i hm2
      rw [hm] at hm2; cases hm2
  refine ⟨hm, ?_⟩
  rcases I.maps o ho hm with ⟨es, _, k2, _, k4⟩ | ⟨b, n', vs, k1, kb, kl, ke, kf, kr⟩
  · have hl : (h.objs o).length = us.length + 3 := by rw [e]; simp
    have r := k4 0 (by omega) (by omega)
    simp only [e, List.getElem_cons_zero] at r
    generalize hz : Value.tuple #[_, _] = z at r
    cases r
    cases hz
  · have hn' : n' = n := by rw [e] at ke; exact (show n = n' from ke).symm
    subst hn'
    have hl : vs.length = us.length + 2 := by rw [e] at kf; simp at kf; omega
    have hv : ∃ ts, vs = .int .i64 (g.obj o) :: .map (some (g.obj o)) :: ts := by
      rcases kl with ⟨h1, _⟩ | kl
      · exact absurd h1 hn
      · split at kl
        · obtain ⟨f, h1, _⟩ := kl; exact ⟨_, h1⟩
        · exact ⟨[], kl.2.2⟩
        · exact kl.elim
    obtain ⟨ts, rfl⟩ := hv
    have r0 := kr 0 (by rw [e]; simp) (by simp)
    simp only [e, List.getElem_cons_succ, List.getElem_cons_zero] at r0
    have hlo : g.obj o = l := by
      generalize hz : Value.int .i64 (g.obj o) = z at r0
      cases r0; simp at hz; omega
    subst hlo
    refine ⟨rfl, b, ts, k1, kb, kl, by simp at hl; omega, fun i h1 h2 => ?_⟩
    have r := kr (i + 2) (by rw [e]; simp; omega) (by simp; omega)
    simpa only [e, List.getElem_cons_succ] using r
/-- The loop's record, in its states. -/
def recC (st : Int) (l o : Nat) (us : List V) : List V := .int .i64 st :: .int .i64 l :: .mapr o :: us
theorem rec_put (I : Inv X g w h) {o l f : Nat} {us : List V} (ho : o < h.nobj) {st st' : Int} (e : h.objs o = recC st l o us) (hn : st ≠ -1) (r r' : Loop) (hr : w.heap[l]? = some (.loop r)) (ht : r'.tmps = r.tmps) (hc : rngF X.P f = some (r'.params, r'.assign, r'.body))
    (hs : st' = 4 * f ∧ r'.state = .ready ∧ r'.pending = none ∨ st' = 4 * f + 1 ∧ r'.state = .done ∧ r'.pending = some .ret ∨ st' = 4 * f + 3 ∧ r'.state = .busy ∧ r'.pending = none) :
    Inv X g (w.putObj l (.loop r')) (h.set o (recC st' l o us)) ∧ Stp g w h g (w.putObj l (.loop r')) (h.set o (recC st' l o us)) := by
  obtain ⟨hm, rfl, b, ts, k1, k2, k3, k4, k5⟩ := exo_get I ho e hn
  rw [hr] at k1
  obtain rfl := Option.some.inj k1
  have hts : ts = r.tmps.toList := by
    rcases k3 with ⟨h1, _⟩ | ⟨f', h1, _⟩
    · exact absurd h1 hn
    · simpa using h1
  refine store_exo I ho hm hr rfl (.loop r') st' (.int .i64 (g.obj o) :: .map (some (g.obj o)) :: ts) _ rfl (.inr ⟨f, by rw [ht, hts], hc, hs⟩) rfl (by simp [recC, k4]) (fun i i1 i2 => ?_)
  match i with
  | 0 => exact .int _ _
  | 1 => exact .mapr o ho hm
  | i + 2 =>
    simp only [recC, List.getElem_cons_succ]
    exact k5 i (by simp [recC] at i1; omega) (by simp at i2; omega)
theorem rec_dead (I : Inv X g w h) {o l : Nat} {n : Int} {us : List V} (ho : o < h.nobj) (e : h.objs o = .int .i64 n :: .int .i64 l :: .mapr o :: us) (hn : n ≠ -1) (b' : Obj) (hb' : isBk b' = true) :
    Inv X g (w.putObj l b') (h.set o [.int .i64 (-1)]) ∧ Stp g w h g (w.putObj l b') (h.set o [.int .i64 (-1)]) := by
  obtain ⟨hm, rfl, b, ts, k1, k2, k3, k4, k5⟩ := exo_get I ho e hn
  exact store_exo I ho hm k1 k2 b' (-1) [] _ hb' (.inl ⟨rfl, rfl⟩) rfl rfl (fun i i1 i2 => by simp at i2)
/-- What a round must do, and what yield then answers. -/
def RoundP (X : Cx) (A1 A2 : AC) (f p l o : Nat) (us : List V) (x : V) (h : AH) (Q : V → AH → Prop) : Prop :=
  h.objs o = recC (4 * f) l o us ∧ o < h.nobj ∧ awp (Ecx X) A1 ((p, x) :: initEnv 0 us) h fun e env1 h1 => match e with
    | .nrm => h1.objs o = recC (4 * f) l o us ∧ o < h1.nobj ∧ awp (Ecx X) A2 env1 (h1.set o (recC (4 * f + 3) l o us)) fun e env2 h2 => h2.objs o = recC (4 * f + 3) l o us ∧ o < h2.nobj ∧ match e with
      | .nrm => Q (.bool true) (h2.set o (recC (4 * f) l o us))
      | .ret => Q (.bool false) (h2.set o (recC (4 * f + 1) l o us))
      | .exit _ => False
    | _ => False
theorem relL_app {l m : List V} {vs us : Array Value} (r : RelL X g w h l vs) (s : RelL X g w h m us) : RelL X g w h (l ++ m) (vs ++ us) := by
  refine ⟨by simp [r.1, s.1], fun i h1 h2 => ?_⟩
  rw [List.getElem_append, Array.getElem_append]
  by_cases c : i < l.length
  · rw [dif_pos c, dif_pos (by rw [← r.1]; exact c)]; exact r.2 i _ _
  · rw [dif_neg c, dif_neg (by rw [← r.1]; exact c)]
    have := s.2 (i - l.length) (by simp at h1; omega) (by have := r.1; simp at h2; omega)
    simp only [← r.1] at this ⊢
    exact this
theorem yield_ok (hm : X.P.follows .mixedOrders = true) (hY : X.tbl = Y.tbl) {N f p : Nat} {assign body : Code} {A1 A2 : AC} (hr : rngF X.P f = some (#[p], assign, body)) (hc1 : comp X.P Y N assign = some A1.strip) (hc2 : comp X.P Y N body = some A2.strip)
    (hp : p < N) (hZ : ∀ p h, ¬ X.Z p h) {l o : Nat} {us : List V} {x : V} {Q : V → AH → Prop} (hus : us.length = N) (R : RoundP X A1 A2 f p l o us x h Q) : Ecx X (YK + l) [x] h Q := by
  intro g w cargs I rl
  obtain ⟨e, ho, hk⟩ := R
  have hsz : cargs.size = 1 := by have := rl.1; simpa using this.symm
  have r0 := rl.2 0 (by simp) (by omega)
  simp only [List.getElem_cons_zero] at r0
  obtain ⟨xv, rfl⟩ : ∃ xv, cargs = #[xv] := ⟨cargs[0], Array.ext (by simp [hsz]) fun i h1 h2 => by
    have : i = 0 := by omega
    subst this; rfl⟩
  simp only [List.getElem_toArray, List.getElem_cons_zero] at r0
  have hrec : ∀ {g : Gh} {w : World} {h : AH} {st : Int}, Inv X g w h → o < h.nobj → h.objs o = recC st l o us → st = 4 * f ∨ st = 4 * f + 3 → ∃ r : Loop, w.heap[l]? = some (.loop r) ∧ r.params = #[p] ∧ r.assign = assign ∧ r.body = body ∧ r.tmps.size = N ∧
      (st = 4 * f → r.state = .ready ∧ r.pending = none) ∧ ∀ i (h1 : i < us.length) (h2 : i < r.tmps.size), Rel X g w h (us[i]) (r.tmps[i]) := by
    intro g w h st I ho e hst
    obtain ⟨_, hl, b, ts, k1, k2, k3, k4, k5⟩ := exo_get I ho e (by rcases hst with rfl | rfl <;> omega)
    rcases k3 with ⟨h1, _⟩ | k3
    · exact absurd h1 (by rcases hst with rfl | rfl <;> omega)
    · split at k3
      · rename_i r
        obtain ⟨f', e1, e2, e3⟩ := k3
        have hff : f' = f := by omega
        subst hff
        rw [hr] at e2
        injection e2 with e2
        injection e2 with e2 e4
        injection e4 with e4 e5
        simp at e1
        subst e1
        refine ⟨r, k1, e2.symm, e4.symm, e5.symm, by rw [← hus, k4]; simp, fun hs => ?_, fun i h1 h2 => by have := k5 i h1 (by simpa using h2); simpa only [Array.getElem_toList] using this⟩
        rcases e3 with ⟨q, a, b⟩ | ⟨q, a, b⟩ | ⟨q, a, b⟩
        · exact ⟨a, b⟩
        · omega
        · omega
      · omega
      · exact k3.elim
  obtain ⟨r, k1, p1, p2, p3, p4, p5, p6⟩ := hrec I ho e (.inl rfl)
  refine .inr (.inr (.inr ⟨l, r.fn, _, r.assign, r.body, rfl, run_yield k1 (by simp [p1]), ?_⟩))
  refine roundIn_of_wpIn trivial ?_
  show r.assign.wpIn (FR (some l)) 0 X.P _ _ w
  rw [p2]
  have hN : (((r.params.zip #[xv]).foldl (fun tmps (t, a) => tmps.setIfInBounds t a) r.tmps)).size = N := by simp [p1, p4]
  refine code_sound (ro := some l) (ds := []) hm hY (N := N) A1 assign hc1 (g := g) (w := w) (h := h) (env := (p, x) :: initEnv 0 us) ⟨fun n => ?_, I, hN, rfl⟩ hk (fun e1 env1 h1 g1 w1 a1 q H1 S1 => ?_) (fun p w' a' z hd => ?_)
  · simp only [get, p1]
    by_cases en : n = p
    · subst en
      rw [if_pos rfl]
      have : (#[n].zip #[xv]).foldl (fun tmps (t, a) => tmps.setIfInBounds t a) r.tmps = r.tmps.setIfInBounds n xv := by simp
      rw [this]
      have : (r.tmps.setIfInBounds n xv).getD n undef = xv := by simp [Array.getD, p4, hp]
      rw [this]; exact r0
    · rw [if_neg en, initEnv_get]
      have : (#[p].zip #[xv]).foldl (fun tmps (t, a) => tmps.setIfInBounds t a) r.tmps = r.tmps.setIfInBounds p xv := by simp
      rw [this]
      split
      · rename_i hn
        have hn1 : n < us.length := by omega
        have hn2 : n < r.tmps.size := by omega
        have : (r.tmps.setIfInBounds p xv).getD n undef = r.tmps[n] := by
          simp only [Array.getD_eq_getD_getElem?, Array.getElem?_setIfInBounds_ne (Ne.symm en), Array.getElem?_eq_getElem hn2, Option.getD_some]
        rw [this]
        simp only [Nat.sub_zero, List.getD, List.getElem?_eq_getElem hn1, Option.getD_some]
        exact p6 n hn1 hn2
      · exact .undef _
  · cases e1 with
    | ret => exact q.elim
    | exit n => exact q.elim
    | nrm =>
      obtain ⟨q1, q2, q3⟩ := q
      obtain ⟨r1, m1, m2, m3, m4, m5, m6, m7⟩ := hrec H1.inv q2 q1 (.inl rfl)
      obtain ⟨s1, s2⟩ := m6 rfl
      refine ⟨_, run_beginRound m1 s1, ?_⟩
      obtain ⟨I2, S2⟩ := rec_put H1.inv (f := f) (st' := 4 * f + 3) q2 q1 (by omega) r1 { r1 with state := .busy } m1 rfl (by rw [hr, m2, m3, m4]) (.inr (.inr ⟨rfl, rfl, s2⟩))
      show r.body.wpIn (FR (some l)) 0 X.P _ a1 _
      rw [p3]
      refine code_sound (ro := some l) (ds := []) hm hY (N := N) A2 body hc2 (env := env1) ⟨H1.env.stp S2, I2, H1.size, H1.defers⟩ q3 (fun e2 env2 h2 g2 w2 a2 t H2 S3 => ?_) (fun p w' a' z hd => ?_)
      · obtain ⟨t1, t2, t3⟩ := t
        obtain ⟨r2, n1, n2, n3, n4, n5, _⟩ := hrec H2.inv t2 t1 (.inr rfl)
        cases e2 with
        | exit n => exact t3.elim
        | nrm =>
          obtain ⟨I4, S4⟩ := rec_put H2.inv (f := f) (st' := 4 * f) t2 t1 (by omega) r2 { r2 with state := .ready, pending := none } n1 rfl (by rw [hr, n2, n3, n4]) (.inl ⟨rfl, rfl, rfl⟩)
          refine ⟨_, _, run_endRound none n1, _, rfl, .bool true, _, g2, t3, I4, .bool _, ((S1.trans S2).trans S3).trans S4⟩
        | ret =>
          obtain ⟨I4, S4⟩ := rec_put H2.inv (f := f) (st' := 4 * f + 1) t2 t1 (by omega) r2 { r2 with state := .done, pending := some .ret } n1 rfl (by rw [hr, n2, n3, n4]) (.inr (.inl ⟨rfl, rfl, rfl⟩))
          refine ⟨_, _, run_endRound (some .ret) n1, _, rfl, .bool false, _, g2, t3, I4, .bool _, ((S1.trans S2).trans S3).trans S4⟩
      · obtain ⟨_, _, z, _⟩ := z
        exact absurd z (hZ _ _)
  · obtain ⟨_, _, z, _⟩ := z
    exact absurd z (hZ _ _)
/-- A function with a body of its own. -/
def Body (X : Cx) (k : Nat) : Prop := ∃ fn, X.P.funcs[X.tbl k]? = some fn ∧ (fn.name == "runtime.NumGoroutine") = false ∧ fn.body.isNone = false
def defC (D o : Nat) : List V := [.int .i64 (-2), .int .i64 D, .mapr o]
def deadC : List V := [.int .i64 (-1)]
/-- What the statement must do: behind it K, of whether a round has returned. -/
def RangeP (X : Cx) (A1 A2 : AC) (f p N : Nat) (z : AO) (env : Env) (h : AH) (K : Bool → AH → Prop) : Prop :=
  match ev env z with
  | .fn k first cap => Body X k ∧ ∀ l D, (∀ x h' Q', RoundP X A1 A2 f p l (h.nobj + 1) ((List.range N).map (get env)) x h' Q' → Ecx X (YK + l) [x] h' Q') →
      Ecx X k (first ++ [.cval (.func (.yield l) #[] #[])] ++ cap) ((h.new (defC D h.nobj)).new (recC (4 * f) l (h.nobj + 1) ((List.range N).map (get env)))) fun _ h3 =>
        h3.objs h.nobj = defC D h.nobj ∧
        ((h3.objs (h.nobj + 1) = recC (4 * f) l (h.nobj + 1) ((List.range N).map (get env)) ∧ K false (h3.set (h.nobj + 1) deadC)) ∨
         (h3.objs (h.nobj + 1) = recC (4 * f + 1) l (h.nobj + 1) ((List.range N).map (get env)) ∧ K true (h3.set (h.nobj + 1) deadC)))
  | _ => False
def markD (D : Nat) : Deferred := { target := .collected D, args := #[] }
theorem range_ok (hm : X.P.follows .mixedOrders = true) (hY : X.tbl = Y.tbl) {N f p : Nat} {assign body : Code} {A1 A2 : AC} (hr : rngF X.P f = some (#[p], assign, body)) (hc1 : comp X.P Y N assign = some A1.strip) (hc2 : comp X.P Y N body = some A2.strip)
    (hp : p < N) (hZ : ∀ p h, ¬ X.Z p h) {z : AO} {zc : Operand} (hz : co Y zc = some z) {env : Env} {a : Act} {K : Bool → AH → Prop} {Qc : Exit → Act → World → Prop} (H : Hold X N [] g w h env a) (hk : RangeP X A1 A2 f p N z env h K)
    (hq : ∀ b D h' g' w', K b h' → Inv X g' w' h' → Stp g w h g' w' h' → h'.objs h.nobj = defC D h.nobj → h.nobj < h'.nobj → Qc (if b then .ret else .normal) { a with defers := [markD D] } w') :
    (Code.rangeFunc zc #[p] assign body).wpIn (FR none) 0 X.P Qc a w := by
  unfold RangeP at hk
  have rz := co_rel hY H.env hz
  generalize hv : ev env z = v at rz hk
  generalize hu : a.eval zc = u at rz
  cases rz <;> first | exact hk.elim | skip
  rename_i k first cap fs cs h0 hf hcl hr1 hr2
  obtain ⟨⟨fn0, b1, b2, b3⟩, hk⟩ := hk
  refine wpIn_rangeFunc fun fn _ => ?_
  have hN : a.tmps.size = N := H.size
  have hus : ((List.range N).map (get env)).length = N := by simp
  obtain ⟨g1, I1, S1, o1, m1⟩ := new_exo H.inv (.deferred (some [])) (-2) [.int .i64 w.heap.size, .map (some w.heap.size)] (defC w.heap.size h.nobj) rfl (.inr ⟨rfl, rfl, rfl⟩) rfl rfl (fun i i1 i2 => by
    match i with
    | 0 => exact .inr (.int _ _)
    | 1 => exact .inl ⟨rfl, rfl⟩
    | i + 2 => simp only [List.length_cons, List.length_nil] at i2; omega)
  have hs1 : (w.alloc (.deferred (some []))).heap.size = w.heap.size + 1 := by simp
  obtain ⟨rec, hrec⟩ : ∃ rec : Loop, rec = { state := .ready, pending := none, fn, tmps := a.tmps, params := #[p], assign, body, defers := w.heap.size } := ⟨_, rfl⟩
  obtain ⟨g2, I2, S2, o2, m2⟩ := new_exo I1 (.loop rec) (4 * f) (.int .i64 (w.heap.size + 1 : Nat) :: .map (some (w.heap.size + 1)) :: a.tmps.toList) (recC (4 * f) (w.heap.size + 1) (h.nobj + 1) ((List.range N).map (get env))) rfl
    (.inr ⟨f, by rw [hs1, hrec], by rw [hr, hrec], .inl ⟨rfl, by rw [hrec], by rw [hrec]⟩⟩) rfl (by simp [recC, hN]) (fun i i1 i2 => by
      match i with
      | 0 => exact .inr (.int _ _)
      | 1 => exact .inl ⟨rfl, by rw [hs1]; rfl⟩
      | i + 2 =>
        refine .inr ?_
        simp only [recC, List.getElem_cons_succ, List.getElem_map, List.getElem_range]
        have hi : i < a.tmps.size := by simpa using i2
        have := (H.env i).stp S1
        simpa [Array.getD, hi] using this)
  have S12 := S1.trans S2
  have hcall := hk (w.heap.size + 1) w.heap.size (fun x h' Q' R => yield_ok hm hY hr hc1 hc2 hp hZ hus R) g2 _ (fs ++ #[.func (.yield (w.heap.size + 1)) #[] #[]] ++ cs) I2 (relL_app (relL_app ⟨hf, fun i i1 i2 => (hr1 i i1 i2).stp S12⟩ ⟨rfl, fun i i1 i2 => by
    have : i = 0 := by simp at i1; omega
    subst this; exact .cval _⟩) ⟨hcl, fun i i1 i2 => (hr2 i i1 i2).stp S12⟩)
  subst hrec
  generalize hW : (w.alloc (.deferred (some []))).alloc (.loop { state := .ready, pending := none, fn, tmps := a.tmps, params := #[p], assign, body, defers := w.heap.size }) = W1 at *
  refine ⟨w.heap.size + 1, [markD w.heap.size], W1, { target := .fn (.func (X.tbl k)) cs, args := fs ++ #[.func (.yield (w.heap.size + 1)) #[] #[]] }, W1, X.tbl k, fs ++ #[.func (.yield (w.heap.size + 1)) #[] #[]] ++ cs, W1, ?_, ?_, fun _ _ => trivial, ?_, fun h => by simp [FR, Fence.wide] at h, ?_⟩
  · rw [← hW]; exact run_enterLoop_outer _ _ _ _ _
  · have hcst : ∀ v, a.eval (.const v) = v := fun _ => rfl
    simp [resolve, hu, hcst, Deferred.ofValue]
  · have h2' : ¬ fn0.name = "runtime.NumGoroutine" := by simpa using b2
    simp only [invoke]
    simp [callFunc, b1, h2', b3]
    cases hb : fn0.body with
    | none => simp [hb] at b3
    | some b => simp
  · have hfr : FR none = Fence.wide := rfl
    have hd : ({ tmps := a.tmps, defers := [markD w.heap.size] ++ a.defers } : Act) = { a with defers := [markD w.heap.size] } := by rw [H.defers]; rfl
    rw [hd]
    rcases hcall with ⟨fn', _, c1, c2, c3, c4⟩ | ⟨x, w', _, c1, _⟩ | ⟨c1, _⟩ | ⟨l', _, _, _, _, c1, _⟩
    · rw [hfr]
      refine callsIn_wide.2 (c4.mono fun e w3 c => ?_)
      rcases c with ⟨x, rfl, r, h3, g3, ⟨d1, d2⟩, I3, rx, S3⟩ | ⟨p, rfl, h', g', z, _⟩
      · have hn3 : h.nobj + 1 < h3.nobj := S3.nobj
        have hn0 : h.nobj < h3.nobj := by omega
        have other : ∀ c, (h3.set (h.nobj + 1) c).objs h.nobj = h3.objs h.nobj := fun c => updN_ne _ _ (by omega)
        rcases d2 with ⟨d2, d3⟩ | ⟨d2, d3⟩
        · obtain ⟨_, hl, b, ts, k1, k2, k3, k4, k5⟩ := exo_get I3 hn3 d2 (by omega)
          rcases k3 with ⟨q, _⟩ | k3
          · omega
          · split at k3
            · rename_i r
              obtain ⟨f', e1, e2, e3⟩ := k3
              have hst : r.state = .ready ∧ r.pending = none := by
                rcases e3 with ⟨q, a, b⟩ | ⟨q, a, b⟩ | ⟨q, a, b⟩
                · exact ⟨a, b⟩
                · omega
                · omega
              obtain ⟨I4, S4⟩ := rec_dead I3 hn3 d2 (by omega) (.loop { r with state := .exhausted }) rfl
              refine ⟨none, w3.putObj (w.heap.size + 1) (.loop { r with state := .exhausted }), (run_endLoop k1 (by rw [hst.1]; simp)).trans (by rw [hst.2]), ?_⟩
              exact hq false w.heap.size _ g3 _ d3 I4 ((S12.trans S3).trans S4) (by rw [other]; exact d1) hn0
            · omega
            · exact k3.elim
        · obtain ⟨_, hl, b, ts, k1, k2, k3, k4, k5⟩ := exo_get I3 hn3 d2 (by omega)
          rcases k3 with ⟨q, _⟩ | k3
          · omega
          · split at k3
            · rename_i r
              obtain ⟨f', e1, e2, e3⟩ := k3
              have hst : r.state = .done ∧ r.pending = some .ret := by
                rcases e3 with ⟨q, a, b⟩ | ⟨q, a, b⟩ | ⟨q, a, b⟩
                · omega
                · exact ⟨a, b⟩
                · omega
              obtain ⟨I4, S4⟩ := rec_dead I3 hn3 d2 (by omega) (.loop { r with state := .exhausted }) rfl
              refine ⟨some .ret, w3.putObj (w.heap.size + 1) (.loop { r with state := .exhausted }), (run_endLoop k1 (by rw [hst.1]; simp)).trans (by rw [hst.2]), ?_⟩
              exact wpIn_ret (hq true w.heap.size _ g3 _ d3 I4 ((S12.trans S3).trans S4) (by rw [other]; exact d1) hn0)
            · omega
            · exact k3.elim
      · exact absurd z (hZ _ _)
    · have h2' : ¬ fn0.name = "runtime.NumGoroutine" := by simpa using b2
      exfalso
      have : (callFunc (X.tbl k) (fs ++ #[.func (.yield (w.heap.size + 1)) #[] #[]] ++ cs)).run X.P W1 = .ok (.enter (X.tbl k) (fs ++ #[.func (.yield (w.heap.size + 1)) #[] #[]] ++ cs)) W1 := by
        simp [callFunc, b1, h2', b3]
        cases hb : fn0.body with
        | none => simp [hb] at b3
        | some b => simp
      rw [this] at c1
      simp at c1
    · exact absurd c1 h0.1
    · have := h0.2; simp [YK] at c1; omega
/-- A function that holds such a loop, and the mark of the block for deferred calls. -/
theorem fn_range (hm : X.P.follows .mixedOrders = true) (hY : X.tbl = Y.tbl) {k : Nat} {fn : Func} (hf : X.P.funcs[X.tbl k]? = some fn) (hname : (fn.name == "runtime.NumGoroutine") = false) (hk0 : FK k) {c0 c1 c2 assign body : Code} {i p N : Nat} {zc : Operand}
    (hb : fn.body = some (.seq c0 (.seq (.seq c1 (.block i (.rangeFunc zc #[p] assign body))) c2))) (hN : fn.ntmps = N) {res : List (Nat × Option (Bool × Nat))} (hres : resSlots X.P fn.results.toList = some res)
    {C0 C1 C2 A1 A2 : AC} (h0 : comp X.P Y N c0 = some C0.strip) (h1 : comp X.P Y N c1 = some C1.strip) (h2 : comp X.P Y N c2 = some C2.strip) (h3 : comp X.P Y N assign = some A1.strip) (h4 : comp X.P Y N body = some A2.strip)
    (hr : rngF X.P (X.tbl k) = some (#[p], assign, body)) (hp : p < N) (hZ : ∀ p h, ¬ X.Z p h) {z : AO} (hz : co Y zc = some z)
    {args : List V} {h : AH} {Q : V → AH → Prop} (hl : args.length ≤ N)
    (hk : awp (Ecx X) C0 (initEnv 0 args) h fun e env1 h1 => match e with
      | .nrm => awp (Ecx X) C1 env1 h1 fun e env2 h2 => match e with
        | .nrm => RangeP X A1 A2 (X.tbl k) p N z env2 h2 fun b hb => match b with
          | true => resP env2 (hb.set h2.nobj deadC) res [] fun v => Q v (hb.set h2.nobj deadC)
          | false => awp (Ecx X) C2 env2 hb fun e env5 h5 => match e with
            | .exit _ => False
            | _ => (∃ D, h5.objs h2.nobj = defC D h2.nobj) ∧ h2.nobj < h5.nobj ∧ resP env5 (h5.set h2.nobj deadC) res [] fun v => Q v (h5.set h2.nobj deadC)
        | _ => False
      | .ret => resP env1 h1 res [] fun v => Q v h1
      | .exit _ => False) : Ecx X k args h Q := by
  intro g w cargs I rl
  have hbn : fn.body.isNone = false := by rw [hb]; rfl
  refine .inl ⟨fn, hk0, hf, hname, hbn, ?_⟩
  refine (callsIn_wide (n := 0)).1 (callsIn_of_wp_marks hf hb trivial ?_)
  show Code.wpIn (FR none) 0 X.P _ _ _ w
  have fin : ∀ {D o : Nat} {g' : Gh} {w' : World} {h' : AH} {env' : Env} {a' : Act}, Inv X g' w' h' → EnvRel X g' w' h' env' a' → a'.defers = [markD D] → h'.objs o = defC D o → o < h'.nobj → Stp g w h g' w' h' →
      resP env' (h'.set o deadC) res [] (fun v => Q v (h'.set o deadC)) →
      LeavesInM (FR none) 0 X.P fn a'.tmps (fun e w' => (∃ x, e = .returned x ∧ ∃ r h' g', Q r h' ∧ Inv X g' w' h' ∧ Rel X g' w' h' r x ∧ Stp g w h g' w' h') ∨ ∃ p, e = .panicked [{ v := p, recovered := false }] ∧ PanOk X g w h p w') a'.defers .returning w' := by
    intro D o g' w' h' env' a' I' R' hd ho hlt S' q
    rw [hd]
    obtain ⟨_, hl, b, ts, k1, k2, k3, k4, k5⟩ := exo_get I' hlt ho (by omega)
    rcases k3 with ⟨q, _⟩ | k3
    · omega
    · split at k3
      · obtain ⟨f', e1, e2, e3⟩ := k3
        rcases e3 with ⟨q, a, b⟩ | ⟨q, a, b⟩ | ⟨q, a, b⟩ <;> omega
      · obtain ⟨_, rfl, _⟩ := k3
        obtain ⟨I4, S4⟩ := rec_dead I' hlt ho (by omega) (.deferred none) rfl
        refine ⟨by simp, .inl ⟨D, _, rfl, run_takeDeferred k1, ?_⟩⟩
        obtain ⟨v, u, hrun, q2, rv⟩ := results_run (R'.stp S4) I4 hres q
        exact ⟨u, hrun, .inl ⟨u, rfl, v, _, g', q2, I4, rv, S'.trans S4⟩⟩
      · exact k3.elim
  have pan : ∀ {p : Value} {g' : Gh} {w' w'' : World} {h' : AH}, ¬ PanOk X g' w' h' p w'' := fun z => by
    obtain ⟨_, _, z, _⟩ := z
    exact hZ _ _ z
  have H0 : Hold X N [] g w h (initEnv 0 args) { tmps := cargs ++ Array.replicate (fn.ntmps - cargs.size) undef, defers := [] } := by
    refine ⟨fun n => ?_, I, ?_, rfl⟩
    · rw [initEnv_get]
      split
      · rename_i hn
        have hn1 : n < args.length := by omega
        have hn2 : n < cargs.size := by rw [← rl.1]; exact hn1
        have : (cargs ++ Array.replicate (fn.ntmps - cargs.size) undef).getD n undef = cargs[n] := by
          simp [Array.getD_eq_getD_getElem?, Array.getElem?_append, hn2]
        simp only [this, Nat.sub_zero, List.getD, List.getElem?_eq_getElem hn1, Option.getD_some]
        exact rl.2 n hn1 hn2
      · exact .undef _
    · simp; have := rl.1; omega
  refine wpIn_seq (code_sound (ro := none) (ds := []) hm hY C0 c0 h0 H0 hk (fun e env1 h1' g1 w1 a1 q H1 S1 => ?_) (fun p w' a' z _ => absurd z pan))
  cases e with
  | exit n => exact q.elim
  | ret =>
    obtain ⟨v, u, hrun, q2, rv⟩ := results_run H1.env H1.inv hres q
    show LeavesInM (FR none) 0 X.P fn a1.tmps _ a1.defers .returning w1
    rw [H1.defers]
    exact ⟨u, hrun, .inl ⟨u, rfl, v, _, g1, q2, H1.inv, rv, S1⟩⟩
  | nrm =>
    refine wpIn_seq (wpIn_seq (code_sound (ro := none) (ds := []) hm hY C1 c1 h1 H1 q (fun e env2 h2' g2 w2 a2 q H2 S2 => ?_) (fun p w' a' z _ => absurd z pan)))
    cases e with
    | exit n => exact q.elim
    | ret => exact q.elim
    | nrm =>
      refine wpIn_block (range_ok hm hY hr h3 h4 hp hZ hz H2 q (fun b D h3' g3 w3 kb I3 S3 d1 d2 => ?_))
      cases b with
      | true => exact fin I3 (H2.env.stp S3) rfl d1 d2 ((S1.trans S2).trans S3) kb
      | false =>
        refine code_sound (ro := none) (ds := [markD D]) hm hY C2 c2 h2 ⟨H2.env.stp S3, I3, H2.size, rfl⟩ kb (fun e env5 h5 g5 w5 a5 q H5 S5 => ?_) (fun p w' a' z _ => absurd z pan)
        have go : ∀ (q : (∃ D, h5.objs h2'.nobj = defC D h2'.nobj) ∧ h2'.nobj < h5.nobj ∧ resP env5 (h5.set h2'.nobj deadC) res [] fun v => Q v (h5.set h2'.nobj deadC)), LeavesInM (FR none) 0 X.P fn a5.tmps (fun e w' => (∃ x, e = .returned x ∧ ∃ r h' g', Q r h' ∧ Inv X g' w' h' ∧ Rel X g' w' h' r x ∧ Stp g w h g' w' h') ∨ ∃ p, e = .panicked [{ v := p, recovered := false }] ∧ PanOk X g w h p w') a5.defers .returning w5 := by
          rintro ⟨⟨D', q1⟩, q2, q3⟩
          obtain ⟨m1, m2, _⟩ := exo_get I3 d2 d1 (by omega)
          obtain ⟨m3, m4, _⟩ := exo_get H5.inv q2 q1 (by omega)
          have : D' = D := by rw [← m2, ← m4, S5.obj _ d2]
          subst this
          exact fin H5.inv H5.env H5.defers q1 q2 (((S1.trans S2).trans S3).trans S5) q3
        cases e with
        | exit n => exact q.elim
        | nrm => exact go q
        | ret => exact go q
end
end Go.Proofs.Ytajaoldljichaaa.Al
namespace Go.Proofs.Ytajaoldljichaaa.Al
def A.closed_all.C0 : AC := .keep [0, 1] (.reg [⟨(some 2), none, .box (.t 0)⟩, ⟨(some 4), none, .alloc [.bool false]⟩])
def A.closed_all.C1 : AC := .keep [1, 2, 4] (.reg [⟨(some 6), none, .mv (.t 1)⟩])
def A.closed_all.As : AC := .keep [2, 4, 7] (.reg [⟨(some 5), none, .alloc [.int .i64 0, .int .i64 0, .int .i64 0, .int .i64 0]⟩, ⟨none, none, .store 4 (.t 5) (.t 7)⟩])
def A.closed_all.Bo : AC := .keep [2, 4, 5] (.block 1 (.seq (.draw [(.pl, ⟨(some 8), none, .load false 1 (.t 2)⟩), (.pl, ⟨(some 9), none, .nilchk (.t 8)⟩), (.pl, ⟨(some 10), none, .fa 6 (.t 9)⟩), (.pl, ⟨(some 11), none, .load false 1 (.t 10)⟩), (.pl, ⟨(some 12), none, .load true 4 (.t 5)⟩), (.pl, ⟨(some 13), none, .lkp (.st [(.i, 0), (.i, 1), (.i, 2), (.i, 3)]) (.int .i64 (0)) false (.t 11) (.t 12)⟩), (.pl, ⟨(some 14), none, .bin .eql (.t 13) (.c (.int .i64 (0)))⟩)])
  (.keep [4, 14] (.cond (.t 14) (.seq (.reg [⟨none, none, .store 1 (.t 4) (.c (.bool false))⟩]) .ret) .skip))))
def A.closed_all.C2 : AC := .keep [4] (.seq (.reg [⟨none, none, .store 1 (.t 4) (.c (.bool true))⟩]) .ret)
end Go.Proofs.Ytajaoldljichaaa.Al
namespace Go.Proofs.Ytajaoldljichaaa.Al
open Go Go.RowKit
set_option linter.unusedSimpArgs false
set_option linter.unusedVariables false
attribute [-simp] List.getD_eq_getElem?_getD Int.not_lt Int.not_le List.map_take
/-- How things lie in a slice: e cells each; g: they are structs. -/
structure Enc {α : Type} (enc : α → V) (e : Nat) (g : Bool) : Prop where
  len : ∀ a, (enc a).cells.length = e
  agg : ∀ a, (enc a).isAgg = g
  good : ∀ a, (enc a).good = true
  bdd : ∀ a n m, ∀ v ∈ (enc a).cells, Bdd n m v
theorem Enc.getD {α : Type} {enc : α → V} {l : List α} {i : Nat} (h : i < l.length) : (l.map enc).getD i .undef = enc l[i] := by
  simp [List.getD, List.getElem?_eq_getElem h]
theorem Enc.ld {α : Type} {enc : α → V} {e : Nat} {g : Bool} (E : Enc enc e g) (a : α) {S : Sig} {env : Env} {h : AH} {K : V → AH → Prop} {zK : Lz K} (hk : K (enc a) h) : ldZ S env h g e (.rptr (enc a).cells 0) zK := by
  have h1 := E.len a
  have h2 := E.agg a
  cases g with
  | true =>
    generalize enc a = v at *
    cases v <;> simp [V.isAgg] at h2
    rename_i l
    simp only [V.cells] at h1
    simp [V.cells, h1]
    rw [← h1, List.take_length]; exact hk
  | false =>
    have h3 := E.good a
    generalize enc a = v at *
    cases v <;> simp [V.isAgg, V.good] at h2 h3 <;> simp [V.cells] at h1 <;> subst h1 <;> simpa [V.cells] using hk
theorem Enc.cells {α : Type} {enc : α → V} {e : Nat} {g : Bool} (E : Enc enc e g) (n m : Nat) : ∀ l : List α, ∀ v ∈ cellsOf (l.map enc), Bdd n m v
  | [], v, hv => by simp [cellsOf] at hv
  | a :: l, v, hv => by
    have hv : v ∈ (enc a).cells ++ cellsOf (l.map enc) := hv
    rcases List.mem_append.1 hv with hv | hv
    · exact E.bdd a n m v hv
    · exact E.cells n m l v hv
/-! ### IndexFunc, ContainsFunc -/
def ixfL (e : Nat) (g : Bool) : AC := .post (.seq (.reg [⟨(some 9), none, .bin .lss (.t 8) (.t 7)⟩])
  (.keep [0, 1, 7, 8, 9] (.seq (.cond (.t 9) .skip (.exit 0))
  (.keep [0, 1, 7, 8] (.seq (.block 1 (.seq (.reg [⟨(some 10), none, .mv (.t 8)⟩, ⟨(some 5), none, .mv (.t 10)⟩])
  (.keep [0, 1, 5, 7, 8] (.seq (.reg [⟨(some 11), none, .mv (.t 1)⟩, ⟨(some 12), none, .mv (.t 0)⟩, ⟨(some 13), none, .mv (.t 5)⟩, ⟨(some 14), none, .ia e (.t 12) (.t 13)⟩, ⟨(some 15), none, .load g e (.t 14)⟩, ⟨(some 16), none, .call (.t 11) [(.t 15)]⟩])
  (.keep [0, 1, 5, 7, 8, 16] (.cond (.t 16) (.seq (.reg [⟨(some 17), none, .mv (.t 5)⟩, ⟨(some 4), none, .mv (.t 17)⟩]) .ret) .skip))))))
  (.keep [0, 1, 7, 8] (.reg [⟨(some 18), none, .bin .add (.t 8) (.c (.int .i64 (1)))⟩, ⟨(some 8), none, .mv (.t 18)⟩]))))))) [0, 1, 7, 8]
def ixfF (e : Nat) (g : Bool) : AFn := ⟨19, [(4, none)], (.seq (.reg [⟨(some 4), none, .mv (.c (.int .i64 (0)))⟩])
  (.keep [0, 1] (.seq (.seq (.reg [⟨(some 6), none, .mv (.t 0)⟩, ⟨(some 7), none, .len false (.t 6)⟩, ⟨(some 8), none, .mv (.c (.int .i64 (0)))⟩])
  (.keep [0, 1, 7, 8] (.block 0 (.loop (ixfL e g)))))
  (.keep [] (.seq (.reg [⟨(some 4), none, .mv (.c (.int .i64 (-1)))⟩]) .ret)))))⟩
def ctfF (k : Nat) : AFn := ⟨9, [(4, none)], (.seq (.reg [⟨(some 4), none, .mv (.c (.bool false))⟩])
  (.keep [0, 1] (.seq (.reg [⟨(some 5), none, .mv (.t 0)⟩, ⟨(some 6), none, .mv (.t 1)⟩, ⟨(some 7), none, .call (.c (.fn k [] [])) [(.t 5), (.t 6)]⟩, ⟨(some 8), none, .bin .geq (.t 7) (.c (.int .i64 (0)))⟩, ⟨(some 4), none, .mv (.t 8)⟩]) .ret)))⟩
def idxP {α : Type} (p : α → Bool) : List α → Int
  | [] => -1
  | a :: l => if p a = true then 0 else if idxP p l = -1 then -1 else idxP p l + 1
theorem idxP_any {α : Type} (p : α → Bool) : ∀ l : List α, -1 ≤ idxP p l ∧ (0 ≤ idxP p l ↔ l.any p = true)
  | [] => by simp [idxP]
  | a :: l => by
    obtain ⟨h1, h2⟩ := idxP_any p l
    unfold idxP
    cases hp : p a
    · simp only [Bool.false_eq_true, if_false, List.any_cons, hp, Bool.false_or, ← h2]
      split <;> omega
    · simp [hp]
theorem idxP_drop {α : Type} (p : α → Bool) : ∀ (l : List α) (k : Nat), k ≤ l.length → (l.take k).any p = false → idxP p l = if idxP p (l.drop k) = -1 then -1 else idxP p (l.drop k) + k
  | l, 0, _, _ => by simp
  | [], k + 1, h, _ => by simp at h
  | a :: l, k + 1, h, ha => by
    simp only [List.take_succ_cons, List.any_cons, Bool.or_eq_false_iff] at ha
    have ih := idxP_drop p l k (by simpa using h) ha.2
    have h1 := (idxP_any p (l.drop k)).1
    rw [idxP, ha.1, ih]
    simp only [Bool.false_eq_true, if_false, List.drop_succ_cons]
    split
    · simp
    · rw [if_neg (by omega)]; omega
section
variable {X : Cx} {h : AH} {Q : V → AH → Prop}
theorem indexFunc {α : Type} {enc : α → V} {e : Nat} {g : Bool} (E : Enc enc e g) {k : Nat} (H : Has (Ecx X) k (ixfF e g)) (l : List α) (s kf : Nat) (first cap : List V) (p : α → Bool) (hl : l.length < 2 ^ 62)
    (hp : ∀ a ∈ l, ∀ (Q : V → AH → Prop) (h' : AH), Gr h h' → Q (.bool (p a)) h' → Ecx X kf (first ++ enc a :: cap) h' Q) (hQ : Q (.int .i64 (idxP p l)) h) : Ecx X k [.sl e s (l.map enc), .fn kf first cap] h Q := by
  refine fn_walk H (by simp [ixfF]) fun wf => ?_
  simp [ixfF]
  refine loopI (n := l.length) (fun n env h' => ∃ k, k ≤ l.length ∧ n = l.length - k ∧ Gr h h' ∧ env = [(0, .sl e s (l.map enc)), (1, .fn kf first cap), (7, .int .i64 l.length), (8, .int .i64 k)] ∧ (l.take k).any p = false) ?_ ⟨0, by omega, by omega, Gr.refl h, rfl, by simp⟩
  rintro n env h' ⟨j, hj, rfl, gr, rfl, ha⟩
  unfold ixfL
  have hd := idxP_drop p l j hj ha
  by_cases hlt : j < l.length
  · have hlt' : (j : Int) < l.length := by omega
    have hg := Enc.getD (enc := enc) hlt
    have hw1 : IntKind.i64.wrap ((j : Int) + 1) = ((j + 1 : Nat) : Int) := by rw [wrap_i64 (by omega) (by omega)]; rfl
    simp [hlt', hg]
    refine E.ld _ ?_
    simp
    refine ecall ?_
    refine hp _ (List.getElem_mem hlt) _ _ gr ?_
    rw [List.drop_eq_getElem_cons hlt, idxP] at hd
    cases hpa : p l[j] with
    | true =>
      rw [hpa] at hd
      simp at hd ⊢
      rw [hd] at hQ
      exact fin_wk gr (.same _) (by simp) hQ
    | false =>
      simp [hw1]
      exact ⟨l.length - (j + 1), by omega, iv ⟨j + 1, by omega, rfl, gr, rfl, by
        rw [List.take_succ_eq_append_getElem hlt, List.any_append, ha]; simp [hpa]⟩⟩
  · have hlt' : ¬ (j : Int) < l.length := by omega
    obtain rfl : j = l.length := by omega
    rw [List.drop_length, idxP] at hd
    simp at hd
    simp [hlt']
    rw [hd] at hQ
    exact fin_wk gr (.same _) (by simp) hQ
theorem containsFunc {α : Type} {enc : α → V} {e : Nat} {g : Bool} (E : Enc enc e g) {k k2 : Nat} (H : Has (Ecx X) k (ctfF k2)) (H2 : Has (Ecx X) k2 (ixfF e g)) (l : List α) (s kf : Nat) (first cap : List V) (p : α → Bool) (hl : l.length < 2 ^ 62)
    (hp : ∀ a ∈ l, ∀ (Q : V → AH → Prop) (h' : AH), Gr h h' → Q (.bool (p a)) h' → Ecx X kf (first ++ enc a :: cap) h' Q) (hQ : Q (.bool (l.any p)) h) : Ecx X k [.sl e s (l.map enc), .fn kf first cap] h Q := by
  refine fn_walk H (by simp [ctfF]) fun wf => ?_
  simp [ctfF]
  refine ecall (indexFunc E H2 l s kf first cap p hl hp ?_)
  simp
  obtain ⟨h1, h2⟩ := idxP_any p l
  have : decide (0 ≤ idxP p l) = l.any p := by
    cases h3 : l.any p
    · simp; intro h4; have := h2.1 h4; rw [h3] at this; cases this
    · simp; exact h2.2 h3
  rw [this]
  exact fin (by simp) hQ
end
/-! ### EqualFunc -/
/-! ### Clone -/
end Go.Proofs.Ytajaoldljichaaa.Al
namespace Go.Proofs.Ytajaoldljichaaa.Al
open Go Go.RowKit
set_option linter.unusedSimpArgs false
set_option linter.unusedVariables false
attribute [-simp] List.getD_eq_getElem?_getD Int.not_lt Int.not_le List.map_take
/-- What the law on loops over functions gives for a function of this form. -/
def HasAll (X : Cx) (k : Nat) (C0 C1 C2 A1 A2 : AC) (f p N : Nat) (z : AO) (res : List (Nat × Option (Bool × Nat))) : Prop :=
  ∀ {args : List V} {h : AH} {Q : V → AH → Prop}, args.length ≤ N → (awp (Ecx X) C0 (initEnv 0 args) h fun e env1 h1 => match e with
      | .nrm => awp (Ecx X) C1 env1 h1 fun e env2 h2 => match e with
        | .nrm => RangeP X A1 A2 f p N z env2 h2 fun b hb => match b with
          | true => resP env2 (hb.set h2.nobj deadC) res [] fun v => Q v (hb.set h2.nobj deadC)
          | false => awp (Ecx X) C2 env2 hb fun e env5 h5 => match e with
            | .exit _ => False
            | _ => (∃ D, h5.objs h2.nobj = defC D h2.nobj) ∧ h2.nobj < h5.nobj ∧ resP env5 (h5.set h2.nobj deadC) res [] fun v => Q v (h5.set h2.nobj deadC)
        | _ => False
      | .ret => resP env1 h1 res [] fun v => Q v h1
      | .exit _ => False) → Ecx X k args h Q
/-- As Gr, but for some objects. -/
structure FrO (os : List Nat) (h h1 : AH) : Prop where
  next : h.next ≤ h1.next
  nobj : h.nobj ≤ h1.nobj
  objs : ∀ o, o < h.nobj → o ∉ os → h1.objs o = h.objs o
  tips : ∀ s, s < h.next → h1.tips s = h.tips s
theorem FrO.refl (os : List Nat) (h : AH) : FrO os h h := ⟨Nat.le_refl _, Nat.le_refl _, fun _ _ _ => rfl, fun _ _ => rfl⟩
theorem FrO.trans {os : List Nat} {a b c : AH} (x : FrO os a b) (y : FrO os b c) : FrO os a c :=
  ⟨Nat.le_trans x.next y.next, Nat.le_trans x.nobj y.nobj, fun o ho hn => (y.objs o (Nat.lt_of_lt_of_le ho x.nobj) hn).trans (x.objs o ho hn), fun s hs => (y.tips s (Nat.lt_of_lt_of_le hs x.next)).trans (x.tips s hs)⟩
theorem Gr.frO {a b : AH} (g : Gr a b) (os : List Nat) : FrO os a b := ⟨g.next, g.nobj, fun o ho _ => g.objs o ho, g.tips⟩
theorem FrO.new {os : List Nat} {a b : AH} (x : FrO os a b) (z : List V) : FrO os a (b.new z) := x.trans ((Gr.refl b).new z |>.frO os)
theorem FrO.set {os : List Nat} {a b : AH} (x : FrO os a b) {o : Nat} (ho : o ∈ os) (z : List V) : FrO os a (b.set o z) :=
  ⟨x.next, x.nobj, fun o' h' hn => by
    have : o' ≠ o := fun e => hn (by rw [e]; exact ho)
    rw [show (b.set o z).objs o' = b.objs o' from updN_ne _ _ this]; exact x.objs o' h' hn, x.tips⟩
/-- Yield may be called at these things, one behind the other, till it says no. -/
def YldP (X : Cx) (yk : Nat) (os : List Nat) : List V → AH → (AH → Prop) → Prop
  | [], h, Q => ∀ h', Gr h h' → Q h'
  | x :: L, h, Q => ∀ h', Gr h h' → Ecx X yk [x] h' fun v h3 => FrO os h' h3 ∧ ((v = .bool true ∧ YldP X yk os L h3 Q) ∨ (v = .bool false ∧ Q h3))
theorem YldP.gr {X : Cx} {yk : Nat} {os : List Nat} : ∀ {L : List V} {h h1 : AH} {Q : AH → Prop}, Gr h h1 → YldP X yk os L h Q → YldP X yk os L h1 Q
  | [], _, _, _, g, y => fun h' g' => y h' (g.trans g')
  | _ :: _, _, _, _, g, y => fun h' g' => y h' (g.trans g')
/-- A closure that hands these things to yield. -/
def IterOk (X : Cx) (k : Nat) (first cap : List V) (h : AH) (L : List V) : Prop := Body X k ∧
  ∀ l os h2 Q, Gr h h2 → (∀ o ∈ os, h.nobj ≤ o ∧ o < h2.nobj) → YldP X (YK + l) os L h2 Q → Ecx X k (first ++ [.cval (.func (.yield l) #[] #[])] ++ cap) h2 fun _ h3 => Q h3
theorem IterOk.gr {X : Cx} {k : Nat} {first cap : List V} {h h1 : AH} {L : List V} (g : Gr h h1) (i : IterOk X k first cap h L) : IterOk X k first cap h1 L :=
  ⟨i.1, fun l os h2 Q g2 ho y => i.2 l os h2 Q (g.trans g2) (fun o m => ⟨Nat.le_trans g.nobj (ho o m).1, (ho o m).2⟩) y⟩
theorem lkpZ_f {h : AH} {K : V → AH → Prop} {zK : Lz K} {l v : V} {r : Option (Nat × V)} (hv : lkpV l false r = v) : lkpZ h l false (some r) zK = K v h := by
  rcases r with _ | ⟨i, u⟩
  · simp only [lkpV] at hv; rw [lkpZ_fn, hv]
  · simp only [lkpV] at hv; rw [lkpZ_fs, hv]
/-- Between two rounds. -/
structure AllSt (h : AH) (o l D f : Nat) (us : List V) (h' : AH) : Prop where
  g : Gr h h'
  lt : h.nobj + 1 + 2 < h'.nobj
  r : h'.objs (h.nobj + 1 + 2) = recC (4 * f) l (h.nobj + 1 + 2) us
  c : h'.objs (h.nobj + 1) = [.bool false]
  d : h'.objs (h.nobj + 2) = defC D (h.nobj + 2)
  b : h'.objs h.nobj = [.ptr o 0]
theorem AllSt.gr {h : AH} {o l D f : Nat} {us : List V} {a b : AH} (s : AllSt h o l D f us a) (g : Gr a b) : AllSt h o l D f us b :=
  ⟨s.g.trans g, Nat.lt_of_lt_of_le s.lt g.nobj, by rw [g.objs _ s.lt]; exact s.r, by rw [g.objs _ (by have := s.lt; omega)]; exact s.c, by rw [g.objs _ (by have := s.lt; omega)]; exact s.d, by rw [g.objs _ (by have := s.lt; omega)]; exact s.b⟩
/-- Behind the rounds. -/
def AllEnd (X : Cx) (h : AH) (l D f : Nat) (us : List V) (env : Env) (Q : V → AH → Prop) (h3 : AH) : Prop :=
  h3.objs (h.nobj + 2) = defC D (h.nobj + 2) ∧
    ((h3.objs (h.nobj + 1 + 2) = recC (4 * f) l (h.nobj + 1 + 2) us ∧ awp (Ecx X) A.closed_all.C2 env (h3.set (h.nobj + 1 + 2) deadC) fun e env5 h5 =>
        match e with
        | Ex.exit n => False
        | x => (∃ D, h5.objs (h.nobj + 2) = defC D (h.nobj + 2)) ∧ h.nobj + 2 < h5.nobj ∧
            match get env5 4 with
            | V.ptr o off => off < ((h5.set (h.nobj + 2) deadC).objs o).length ∧ Gr h (h5.set (h.nobj + 2) deadC) ∧ ∃ r', Wk (((h5.set (h.nobj + 2) deadC).objs o).getD off V.undef) r' ∧ Bdd h.next h.nobj r' ∧ Q r' h
            | x => False) ∨
      h3.objs (h.nobj + 1 + 2) = recC (4 * f + 1) l (h.nobj + 1 + 2) us ∧ 0 < (h3.objs (h.nobj + 1)).length ∧ Gr h ((h3.set (h.nobj + 1 + 2) deadC).set (h.nobj + 2) deadC) ∧
        ∃ r', Wk ((h3.objs (h.nobj + 1)).getD 0 V.undef) r' ∧ Bdd h.next h.nobj r' ∧ Q r' h)
section
variable {X : Cx} {h : AH} {Q : V → AH → Prop}
def HasC (X : Cx) (f : Nat) : Prop := HasAll X K.closed_looker_all A.closed_all.C0 A.closed_all.C1 A.closed_all.C2 A.closed_all.As A.closed_all.Bo f 7 15 (.t 6) [(4, some (false, 1))]
theorem all_spec {f : Nat} (H : HasC X f) (o om : Nat) (g4 : List V) (w s : V) (ok : o < h.nobj) (om' : om < h.nobj) (ho : h.objs o = g4 ++ [w, s, .mapr om]) (hg4 : g4.length = 4)
    {k : Nat} {first cap : List V} {L : List (List V)} (hL : ∀ x ∈ L, x.length = 4) (I : IterOk X k first cap h (L.map V.agg)) (p : List V → Bool)
    (hp : ∀ x ∈ L, ∃ r, findE (.st [(.i, 0), (.i, 1), (.i, 2), (.i, 3)]) (.agg x) (h.objs om) 0 = some r ∧ ∃ n : Nat, lkpV (.int .i64 0) false r = .int .i64 (n : Int) ∧ (p x = true ↔ n ≠ 0))
    (hx : ∀ x ∈ L, ∀ v ∈ x, ∃ n, v = .int .i64 n) (hQ : Q (.bool (L.all p)) h) : Ecx X K.closed_looker_all [.ptr o 0, .fn k first cap] h Q := by
  refine Ecx.pure (H (by simp) ?_)
  show acZ (Ecx X) _ h (Lz.mk (a := A.closed_all.C0)) (Lz.mk (a := _))
  simp [A.closed_all.C0, V.cells, V.good]
  show acZ (Ecx X) _ _ (Lz.mk (a := A.closed_all.C1)) (Lz.mk (a := _))
  simp [A.closed_all.C1]
  unfold RangeP
  simp [ev, get]
  refine ⟨I.1, fun l D HY => ?_⟩
  rw [List.append_cons]
  generalize hu : List.map (fun x => if x = 6 then V.fn k first cap else if x = 1 then V.fn k first cap else if x = 2 then V.ptr h.nobj 0 else if x = 4 then V.ptr (h.nobj + 1) 0 else V.undef) (List.range 15) = us at HY ⊢
  have hu2 : get (initEnv 0 us) 2 = .ptr h.nobj 0 := by rw [← hu]; rfl
  have hu4 : get (initEnv 0 us) 4 = .ptr (h.nobj + 1) 0 := by rw [← hu]; rfl
  have StGr : ∀ {a b : AH}, AllSt h o l D f us a → Gr a b → AllSt h o l D f us b := fun s g => s.gr g
  have gr0 : Gr h ((((h.new [V.ptr o 0]).new [V.bool false]).new (defC D (h.nobj + 2))).new (recC (4 * f) l (h.nobj + 1 + 2) us)) := ((((Gr.refl h).new _).new _).new _).new _
  have st0 : AllSt h o l D f us ((((h.new [V.ptr o 0]).new [V.bool false]).new (defC D (h.nobj + 2))).new (recC (4 * f) l (h.nobj + 1 + 2) us)) :=
    ⟨gr0, Nat.lt_succ_self _, updN_same _ _ _, by simp only [AH.new, updN]; rw [if_neg (by omega), if_neg (by omega), if_pos trivial], by simp only [AH.new, updN]; rw [if_neg (by omega), if_pos trivial], by simp only [AH.new, updN]; rw [if_neg (by omega), if_neg (by omega), if_neg (by omega), if_pos trivial]⟩
  have hos : ∀ o' ∈ [h.nobj + 1, h.nobj + 1 + 2], h.nobj ≤ o' ∧ o' < ((((h.new [V.ptr o 0]).new [V.bool false]).new (defC D (h.nobj + 2))).new (recC (4 * f) l (h.nobj + 1 + 2) us)).nobj := fun o' ho' => by
    show h.nobj ≤ o' ∧ o' < h.nobj + 1 + 1 + 1 + 1
    rcases List.mem_cons.1 ho' with rfl | ho'
    · omega
    · rcases List.mem_cons.1 ho' with rfl | ho'
      · omega
      · cases ho'
  refine I.2 l [h.nobj + 1, h.nobj + 1 + 2] _ _ gr0 hos ?_
  have key : ∀ (L' : List (List V)), (∀ x ∈ L', x ∈ L) → ∀ h', AllSt h o l D f us h' → (∀ b, L'.all p = b → L.all p = b) → YldP X (YK + l) [h.nobj + 1, h.nobj + 1 + 2] (L'.map V.agg) h' (AllEnd X h l D f us [(6, V.fn k first cap), (1, V.fn k first cap), (2, V.ptr h.nobj 0), (4, V.ptr (h.nobj + 1) 0)] Q) := by
    intro L'
    induction L' with
    | nil =>
      intro _ h' st hb h'' g
      replace st := st.gr g
      have ha := hb true rfl
      rw [ha] at hQ
      refine ⟨st.d, .inl ⟨st.r, ?_⟩⟩
      show acZ (Ecx X) _ _ (Lz.mk (a := A.closed_all.C2)) (Lz.mk (a := _))
      have n1 : ¬ h.nobj + 1 = h.nobj + 1 + 2 := by omega
      have n2 : ¬ h.nobj + 2 = h.nobj + 1 + 2 := by omega
      have n3 : ¬ h.nobj + 2 = h.nobj + 1 := by omega
      have n4 : ¬ h.nobj + 1 = h.nobj + 2 := by omega
      have hd := st.d
      have hc := st.c
      have hl := st.lt
      have hn : h.nobj + 2 < h''.nobj := by omega
      simp [A.closed_all.C2, V.cells, V.good, n1, n2, n3, n4, hc, hd, setAt, hn, get]
      exact ⟨⟨D, rfl⟩, ((st.g.set (o := h.nobj + 1 + 2) (by omega) _).set (o := h.nobj + 1) (by omega) _).set (o := h.nobj + 2) (by omega) _, .bool true, .same _, .bool _, hQ⟩
    | cons x L' ih =>
      intro hm h' st hb h'' g
      replace st := st.gr g
      obtain ⟨r, hf, n, hv, hpn⟩ := hp x (hm x (by simp))
      obtain ⟨a0, a1, a2, a3, rfl⟩ : ∃ a b c d, x = [a, b, c, d] := by
        have := hL x (hm x (by simp))
        match x, this with
        | [a, b, c, d], _ => exact ⟨a, b, c, d, rfl⟩
      have hxx := hx _ (hm _ (List.mem_cons_self ..))
      obtain ⟨m0, rfl⟩ := hxx a0 (by simp)
      obtain ⟨m1, rfl⟩ := hxx a1 (by simp)
      obtain ⟨m2, rfl⟩ := hxx a2 (by simp)
      obtain ⟨m3, rfl⟩ := hxx a3 (by simp)
      refine HY _ _ _ ⟨st.r, st.lt, ?_⟩
      show acZ (Ecx X) _ _ (Lz.mk (a := A.closed_all.As)) (Lz.mk (a := _))
      have hl := st.lt
      have q1 : ¬ h.nobj + 1 + 2 = h''.nobj := by omega
      have q2 : ¬ h.nobj + 1 = h''.nobj := by omega
      have q3 : ¬ h.nobj = h''.nobj := by omega
      have q4 : ¬ o = h''.nobj := by omega
      have q5 : ¬ om = h''.nobj := by omega
      have n1 : ¬ h.nobj + 1 = h.nobj + 1 + 2 := by omega
      have n5 : ¬ h''.nobj = h.nobj + 1 + 2 := by omega
      have n6 : ¬ h.nobj = h.nobj + 1 + 2 := by omega
      have n7 : ¬ o = h.nobj + 1 + 2 := by omega
      have n8 : ¬ om = h.nobj + 1 + 2 := by omega
      have hr := st.r
      have hc := st.c
      have hB := st.b
      have hO : h''.objs o = g4 ++ [w, s, .mapr om] := by rw [st.g.objs o ok, ho]
      have hM : h''.objs om = h.objs om := st.g.objs om om'
      have h6 : (g4 ++ [w, s, V.mapr om]).getD 6 .undef = .mapr om := by
        match g4, hg4 with
        | [a, b, c, d], _ => rfl
      simp [A.closed_all.As, hu2, hu4, get, V.cells, V.good, setAt, q1, hr, Nat.lt_succ_of_lt hl]
      show acZ (Ecx X) _ _ (Lz.mk (a := A.closed_all.Bo)) (Lz.mk (a := _))
      simp [A.closed_all.Bo, q1, q2, q3, q4, q5, n1, n5, n6, n7, n8, hr, hc, hB, hO, hM, h6, hg4, hf, hv]
      rw [lkpZ_f hv]
      by_cases hn0 : n = 0
      · subst hn0
        have hpx : p [V.int IntKind.i64 m0, V.int IntKind.i64 m1, V.int IntKind.i64 m2, V.int IntKind.i64 m3] = false := by
          cases hc : p [V.int IntKind.i64 m0, V.int IntKind.i64 m1, V.int IntKind.i64 m2, V.int IntKind.i64 m3] with
          | false => rfl
          | true => exact absurd rfl (hpn.1 hc)
        have ha := hb false (by simp [hpx])
        rw [ha] at hQ
        simp [q1, q2, n1, n5, hc, setAt, V.cells, V.good]
        have n3 : ¬ h.nobj + 2 = h.nobj + 1 + 2 := by omega
        have n4 : ¬ h.nobj + 2 = h.nobj + 1 := by omega
        have n9 : ¬ h.nobj + 2 = h''.nobj := by omega
        have hd := st.d
        have mo : h.nobj + 1 ∈ [h.nobj + 1, h.nobj + 1 + 2] := List.mem_cons_self ..
        have mp : h.nobj + 1 + 2 ∈ [h.nobj + 1, h.nobj + 1 + 2] := List.mem_cons_of_mem _ (List.mem_cons_self ..)
        refine ⟨by omega, ((((FrO.refl _ h'').set mp _).set mo _).set mp _).new _, ?_, .inr ⟨?_, ?_, ?_, .bool false, ?_, .bool _, hQ⟩⟩
        · simp [n3, n4, n9, hd]
        · simp [q1]
        · simp [n1, q2]
        · refine Gr.set (Gr.set ?_ (by omega) _) (by omega) _
          exact ((((st.g.set (by omega) _).set (by omega) _).set (by omega) _).new _)
        · have : ((((h''.set (h.nobj + 1 + 2) (recC (4 * f + 3) l (h.nobj + 1 + 2) us)).set (h.nobj + 1) [V.bool false]).set (h.nobj + 1 + 2) (recC (4 * f + 1) l (h.nobj + 1 + 2) us)).new [V.int IntKind.i64 m0, V.int IntKind.i64 m1, V.int IntKind.i64 m2, V.int IntKind.i64 m3]).objs (h.nobj + 1) = [V.bool false] := by simp [n1, q2]
          rw [this]; exact .same _
      · have hpx : p [V.int IntKind.i64 m0, V.int IntKind.i64 m1, V.int IntKind.i64 m2, V.int IntKind.i64 m3] = true := hpn.2 hn0
        have hn0' : ¬ (n : Int) = 0 := by omega
        simp [hn0, hn0', q1, n5]
        have n3 : ¬ h.nobj + 2 = h.nobj + 1 + 2 := by omega
        have n9 : ¬ h.nobj + 2 = h''.nobj := by omega
        have hd := st.d
        have mp : h.nobj + 1 + 2 ∈ [h.nobj + 1, h.nobj + 1 + 2] := List.mem_cons_of_mem _ (List.mem_cons_self ..)
        refine ⟨by omega, ((FrO.refl _ h'').set mp _).new _, ih (fun x hx => hm x (List.mem_cons_of_mem _ hx)) _ ⟨(st.g.set (by omega) _).new _, by show _ < h''.nobj + 1; omega, by simp [q1], by simp [n1, q2, hc], by simp [n3, n9, hd], by simp [n6, q3, hB]⟩ (fun b e => hb b (by simp [hpx, e]))⟩
  exact key L (fun _ h => h) _ st0 (fun _ h => h)
end
end Go.Proofs.Ytajaoldljichaaa.Al
namespace Go.Proofs.Ytajaoldljichaaa.Al
open Go Go.RowKit
set_option linter.unusedSimpArgs false
set_option linter.unusedVariables false
attribute [-simp] List.getD_eq_getElem?_getD Int.not_lt Int.not_le
def u8 (b : Nat) : V := .int .u8 b
def u8s (l : List Nat) : List V := l.map u8
@[simp] theorem u8s_nil : u8s [] = [] := rfl
@[simp] theorem u8s_length (l : List Nat) : (u8s l).length = l.length := by simp [u8s]
theorem u8s_append (l m : List Nat) : u8s (l ++ m) = u8s l ++ u8s m := by simp [u8s]
/-! ### Taking -/
/-- How many bytes ahead are not the last one of a number. -/
def ld : List Nat → Nat
  | [] => 0
  | c :: r => if c < 128 then 0 else ld r + 1
end Go.Proofs.Ytajaoldljichaaa.Al
namespace Go.Proofs.Ytajaoldljichaaa.Al
def A.slices_ContainsFunc_Prod : AFn := ⟨9, [(4, none)], (.seq (.reg [⟨(some 4), none, .mv (.c (.bool false))⟩])
  (.keep [0, 1] (.seq (.reg [⟨(some 5), none, .mv (.t 0)⟩, ⟨(some 6), none, .mv (.t 1)⟩, ⟨(some 7), none, .call (.c (.fn K.slices_IndexFunc_Prod [] [])) [(.t 5), (.t 6)]⟩, ⟨(some 8), none, .bin .geq (.t 7) (.c (.int .i64 (0)))⟩, ⟨(some 4), none, .mv (.t 8)⟩]) .ret)))⟩
def A.slices_IndexFunc_Prod.L0 : AC := .post (.seq (.reg [⟨(some 9), none, .bin .lss (.t 8) (.t 7)⟩])
  (.keep [0, 1, 7, 8, 9] (.seq (.cond (.t 9) .skip (.exit 0))
  (.keep [0, 1, 7, 8] (.seq (.block 1 (.seq (.reg [⟨(some 10), none, .mv (.t 8)⟩, ⟨(some 5), none, .mv (.t 10)⟩])
  (.keep [0, 1, 5, 7, 8] (.seq (.reg [⟨(some 11), none, .mv (.t 1)⟩, ⟨(some 12), none, .mv (.t 0)⟩, ⟨(some 13), none, .mv (.t 5)⟩, ⟨(some 14), none, .ia 2 (.t 12) (.t 13)⟩, ⟨(some 15), none, .load true 2 (.t 14)⟩, ⟨(some 16), none, .call (.t 11) [(.t 15)]⟩])
  (.keep [0, 1, 5, 7, 8, 16] (.cond (.t 16) (.seq (.reg [⟨(some 17), none, .mv (.t 5)⟩, ⟨(some 4), none, .mv (.t 17)⟩]) .ret) .skip))))))
  (.keep [0, 1, 7, 8] (.reg [⟨(some 18), none, .bin .add (.t 8) (.c (.int .i64 (1)))⟩, ⟨(some 8), none, .mv (.t 18)⟩]))))))) [0, 1, 7, 8]
def A.slices_IndexFunc_Prod : AFn := ⟨19, [(4, none)], (.seq (.reg [⟨(some 4), none, .mv (.c (.int .i64 (0)))⟩])
  (.keep [0, 1] (.seq (.seq (.reg [⟨(some 6), none, .mv (.t 0)⟩, ⟨(some 7), none, .len false (.t 6)⟩, ⟨(some 8), none, .mv (.c (.int .i64 (0)))⟩])
  (.keep [0, 1, 7, 8] (.block 0 (.loop A.slices_IndexFunc_Prod.L0))))
  (.keep [] (.seq (.reg [⟨(some 4), none, .mv (.c (.int .i64 (-1)))⟩]) .ret)))))⟩
def A.slices_ContainsFunc_Sym : AFn := ⟨9, [(4, none)], (.seq (.reg [⟨(some 4), none, .mv (.c (.bool false))⟩])
  (.keep [0, 1] (.seq (.reg [⟨(some 5), none, .mv (.t 0)⟩, ⟨(some 6), none, .mv (.t 1)⟩, ⟨(some 7), none, .call (.c (.fn K.slices_IndexFunc_Sym [] [])) [(.t 5), (.t 6)]⟩, ⟨(some 8), none, .bin .geq (.t 7) (.c (.int .i64 (0)))⟩, ⟨(some 4), none, .mv (.t 8)⟩]) .ret)))⟩
def A.slices_IndexFunc_Sym.L0 : AC := .post (.seq (.reg [⟨(some 9), none, .bin .lss (.t 8) (.t 7)⟩])
  (.keep [0, 1, 7, 8, 9] (.seq (.cond (.t 9) .skip (.exit 0))
  (.keep [0, 1, 7, 8] (.seq (.block 1 (.seq (.reg [⟨(some 10), none, .mv (.t 8)⟩, ⟨(some 5), none, .mv (.t 10)⟩])
  (.keep [0, 1, 5, 7, 8] (.seq (.reg [⟨(some 11), none, .mv (.t 1)⟩, ⟨(some 12), none, .mv (.t 0)⟩, ⟨(some 13), none, .mv (.t 5)⟩, ⟨(some 14), none, .ia 2 (.t 12) (.t 13)⟩, ⟨(some 15), none, .load true 2 (.t 14)⟩, ⟨(some 16), none, .call (.t 11) [(.t 15)]⟩])
  (.keep [0, 1, 5, 7, 8, 16] (.cond (.t 16) (.seq (.reg [⟨(some 17), none, .mv (.t 5)⟩, ⟨(some 4), none, .mv (.t 17)⟩]) .ret) .skip))))))
  (.keep [0, 1, 7, 8] (.reg [⟨(some 18), none, .bin .add (.t 8) (.c (.int .i64 (1)))⟩, ⟨(some 8), none, .mv (.t 18)⟩]))))))) [0, 1, 7, 8]
def A.slices_IndexFunc_Sym : AFn := ⟨19, [(4, none)], (.seq (.reg [⟨(some 4), none, .mv (.c (.int .i64 (0)))⟩])
  (.keep [0, 1] (.seq (.seq (.reg [⟨(some 6), none, .mv (.t 0)⟩, ⟨(some 7), none, .len false (.t 6)⟩, ⟨(some 8), none, .mv (.c (.int .i64 (0)))⟩])
  (.keep [0, 1, 7, 8] (.block 0 (.loop A.slices_IndexFunc_Sym.L0))))
  (.keep [] (.seq (.reg [⟨(some 4), none, .mv (.c (.int .i64 (-1)))⟩]) .ret)))))⟩
def A.slices_Equal_int.L0 : AC := .post (.seq (.reg [⟨(some 14), none, .bin .lss (.t 13) (.t 12)⟩])
  (.keep [0, 1, 12, 13, 14] (.seq (.cond (.t 14) .skip (.exit 0))
  (.keep [0, 1, 12, 13] (.seq (.block 1 (.seq (.reg [⟨(some 15), none, .mv (.t 13)⟩, ⟨(some 5), none, .mv (.t 15)⟩])
  (.keep [0, 1, 5, 12, 13] (.seq (.draw [(.pl, ⟨(some 16), none, .mv (.t 0)⟩), (.pl, ⟨(some 17), none, .mv (.t 5)⟩), (.pl, ⟨(some 18), none, .ia 1 (.t 16) (.t 17)⟩), (.pl, ⟨(some 19), none, .load false 1 (.t 18)⟩), (.pl, ⟨(some 20), none, .mv (.t 1)⟩), (.pl, ⟨(some 21), none, .mv (.t 5)⟩), (.pl, ⟨(some 22), none, .ia 1 (.t 20) (.t 21)⟩), (.pl, ⟨(some 23), none, .load false 1 (.t 22)⟩), (.pl, ⟨(some 24), none, .bin .neq (.t 19) (.t 23)⟩)])
  (.keep [0, 1, 12, 13, 24] (.cond (.t 24) (.seq (.reg [⟨(some 4), none, .mv (.c (.bool false))⟩]) .ret) .skip))))))
  (.keep [0, 1, 12, 13] (.reg [⟨(some 25), none, .bin .add (.t 13) (.c (.int .i64 (1)))⟩, ⟨(some 13), none, .mv (.t 25)⟩]))))))) [0, 1, 12, 13]
def A.slices_Equal_int : AFn := ⟨26, [(4, none)], (.seq (.reg [⟨(some 4), none, .mv (.c (.bool false))⟩])
  (.keep [0, 1] (.seq (.seq (.reg [⟨(some 6), none, .mv (.t 0)⟩, ⟨(some 7), none, .len false (.t 6)⟩, ⟨(some 8), none, .mv (.t 1)⟩, ⟨(some 9), none, .len false (.t 8)⟩, ⟨(some 10), none, .bin .neq (.t 7) (.t 9)⟩])
  (.keep [0, 1, 10] (.cond (.t 10) (.seq (.reg [⟨(some 4), none, .mv (.c (.bool false))⟩]) .ret) .skip)))
  (.keep [0, 1] (.seq (.seq (.reg [⟨(some 11), none, .mv (.t 0)⟩, ⟨(some 12), none, .len false (.t 11)⟩, ⟨(some 13), none, .mv (.c (.int .i64 (0)))⟩])
  (.keep [0, 1, 12, 13] (.block 0 (.loop A.slices_Equal_int.L0))))
  (.keep [] (.seq (.reg [⟨(some 4), none, .mv (.c (.bool true))⟩]) .ret)))))))⟩
def A.slices_ContainsFunc_Node : AFn := ⟨9, [(4, none)], (.seq (.reg [⟨(some 4), none, .mv (.c (.bool false))⟩])
  (.keep [0, 1] (.seq (.reg [⟨(some 5), none, .mv (.t 0)⟩, ⟨(some 6), none, .mv (.t 1)⟩, ⟨(some 7), none, .call (.c (.fn K.slices_IndexFunc_Node [] [])) [(.t 5), (.t 6)]⟩, ⟨(some 8), none, .bin .geq (.t 7) (.c (.int .i64 (0)))⟩, ⟨(some 4), none, .mv (.t 8)⟩]) .ret)))⟩
def A.slices_IndexFunc_Node.L0 : AC := .post (.seq (.reg [⟨(some 9), none, .bin .lss (.t 8) (.t 7)⟩])
  (.keep [0, 1, 7, 8, 9] (.seq (.cond (.t 9) .skip (.exit 0))
  (.keep [0, 1, 7, 8] (.seq (.block 1 (.seq (.reg [⟨(some 10), none, .mv (.t 8)⟩, ⟨(some 5), none, .mv (.t 10)⟩])
  (.keep [0, 1, 5, 7, 8] (.seq (.reg [⟨(some 11), none, .mv (.t 1)⟩, ⟨(some 12), none, .mv (.t 0)⟩, ⟨(some 13), none, .mv (.t 5)⟩, ⟨(some 14), none, .ia 2 (.t 12) (.t 13)⟩, ⟨(some 15), none, .load true 2 (.t 14)⟩, ⟨(some 16), none, .call (.t 11) [(.t 15)]⟩])
  (.keep [0, 1, 5, 7, 8, 16] (.cond (.t 16) (.seq (.reg [⟨(some 17), none, .mv (.t 5)⟩, ⟨(some 4), none, .mv (.t 17)⟩]) .ret) .skip))))))
  (.keep [0, 1, 7, 8] (.reg [⟨(some 18), none, .bin .add (.t 8) (.c (.int .i64 (1)))⟩, ⟨(some 8), none, .mv (.t 18)⟩]))))))) [0, 1, 7, 8]
def A.slices_IndexFunc_Node : AFn := ⟨19, [(4, none)], (.seq (.reg [⟨(some 4), none, .mv (.c (.int .i64 (0)))⟩])
  (.keep [0, 1] (.seq (.seq (.reg [⟨(some 6), none, .mv (.t 0)⟩, ⟨(some 7), none, .len false (.t 6)⟩, ⟨(some 8), none, .mv (.c (.int .i64 (0)))⟩])
  (.keep [0, 1, 7, 8] (.block 0 (.loop A.slices_IndexFunc_Node.L0))))
  (.keep [] (.seq (.reg [⟨(some 4), none, .mv (.c (.int .i64 (-1)))⟩]) .ret)))))⟩
def A.slices_ContainsFunc_int_2 : AFn := ⟨9, [(4, none)], (.seq (.reg [⟨(some 4), none, .mv (.c (.bool false))⟩])
  (.keep [0, 1] (.seq (.reg [⟨(some 5), none, .mv (.t 0)⟩, ⟨(some 6), none, .mv (.t 1)⟩, ⟨(some 7), none, .call (.c (.fn K.slices_IndexFunc_int_2 [] [])) [(.t 5), (.t 6)]⟩, ⟨(some 8), none, .bin .geq (.t 7) (.c (.int .i64 (0)))⟩, ⟨(some 4), none, .mv (.t 8)⟩]) .ret)))⟩
def A.slices_IndexFunc_int_2.L0 : AC := .post (.seq (.reg [⟨(some 9), none, .bin .lss (.t 8) (.t 7)⟩])
  (.keep [0, 1, 7, 8, 9] (.seq (.cond (.t 9) .skip (.exit 0))
  (.keep [0, 1, 7, 8] (.seq (.block 1 (.seq (.reg [⟨(some 10), none, .mv (.t 8)⟩, ⟨(some 5), none, .mv (.t 10)⟩])
  (.keep [0, 1, 5, 7, 8] (.seq (.reg [⟨(some 11), none, .mv (.t 1)⟩, ⟨(some 12), none, .mv (.t 0)⟩, ⟨(some 13), none, .mv (.t 5)⟩, ⟨(some 14), none, .ia 1 (.t 12) (.t 13)⟩, ⟨(some 15), none, .load false 1 (.t 14)⟩, ⟨(some 16), none, .call (.t 11) [(.t 15)]⟩])
  (.keep [0, 1, 5, 7, 8, 16] (.cond (.t 16) (.seq (.reg [⟨(some 17), none, .mv (.t 5)⟩, ⟨(some 4), none, .mv (.t 17)⟩]) .ret) .skip))))))
  (.keep [0, 1, 7, 8] (.reg [⟨(some 18), none, .bin .add (.t 8) (.c (.int .i64 (1)))⟩, ⟨(some 8), none, .mv (.t 18)⟩]))))))) [0, 1, 7, 8]
def A.slices_IndexFunc_int_2 : AFn := ⟨19, [(4, none)], (.seq (.reg [⟨(some 4), none, .mv (.c (.int .i64 (0)))⟩])
  (.keep [0, 1] (.seq (.seq (.reg [⟨(some 6), none, .mv (.t 0)⟩, ⟨(some 7), none, .len false (.t 6)⟩, ⟨(some 8), none, .mv (.c (.int .i64 (0)))⟩])
  (.keep [0, 1, 7, 8] (.block 0 (.loop A.slices_IndexFunc_int_2.L0))))
  (.keep [] (.seq (.reg [⟨(some 4), none, .mv (.c (.int .i64 (-1)))⟩]) .ret)))))⟩
end Go.Proofs.Ytajaoldljichaaa.Al
namespace Go.Proofs.Ytajaoldljichaaa.Al
open Go Go.RowKit
set_option linter.unusedSimpArgs false
set_option linter.unusedVariables false
attribute [-simp] List.getD_eq_getElem?_getD Int.not_lt Int.not_le
/-! ### Lists -/
/-- Things are read one by one, as long as nothing is wrong. -/
def rlist {α : Type} (step : List Nat → Int → α × List Nat × Int) : Nat → List Nat → Int → List α × List Nat × Int
  | 0, l, e => ([], l, e)
  | n + 1, l, e => if e ≠ 0 then ([], l, e) else ((step l e).1 :: (rlist step n (step l e).2.1 (step l e).2.2).1, (rlist step n (step l e).2.1 (step l e).2.2).2)
section
variable {X : Cx} {h : AH} {Q : V → AH → Prop}
def i64 (n : Nat) : V := .int .i64 n
/-! ### The reference's reader -/
/-- The reader of layer 2 that the reference's is. -/
def absR (s : List Nat × Int) : List Nat × Int := (if s.2 = 0 then s.1 else [], s.2)
end
end Go.Proofs.Ytajaoldljichaaa.Al
namespace Go.Proofs.Ytajaoldljichaaa.Al
open Go Go.RowKit
set_option linter.unusedSimpArgs false
set_option linter.unusedVariables false
attribute [-simp] List.getD_eq_getElem?_getD Int.not_lt Int.not_le
theorem push_tips_ne {h : AH} {st e s : Nat} (h1 : s < h.next) (h2 : s ≠ st) : (h.push st e).tips s = h.tips s := by
  have hne : s ≠ h.next := by omega
  unfold AH.push
  split
  · exact updN_ne _ _ hne
  · have e1 : ((h.drop st).grow e).tips s = (h.drop st).tips s := updN_ne _ _ hne
    rw [e1]; exact updN_ne _ _ h2
theorem push_tips_le {h : AH} {st e s : Nat} (h1 : s < h.next) (h2 : st ≤ 2) : (h.push st e).tips s = h.tips s := by
  unfold AH.push
  rw [if_pos h2]
  exact updN_ne _ _ (by omega)
/-- A writer's object: its bytes, to which it may append. -/
structure WO (h : AH) (o : Nat) (l : List Nat) (st : Nat) : Prop where
  ob : ∃ e, h.objs o = [.sl e st (u8s l)] ∧ (u8s l = [] ∨ e = 1)
  st : (st = 1 ∧ l = []) ∨ st = 2 ∨ (h.tips st = some 1 ∧ st < h.next)
/-- From h to h1 a writer has written. -/
structure WE (h h1 : AH) (o st st1 : Nat) : Prop where
  next : h.next ≤ h1.next
  nobj : h.nobj ≤ h1.nobj
  objs : ∀ o', o' < h.nobj → o' ≠ o → h1.objs o' = h.objs o'
  tips : ∀ s, s < h.next → (s ≠ st ∨ s ≤ 2) → h1.tips s = h.tips s
  st : st1 = st ∨ h.next ≤ st1
theorem WE.refl (h : AH) (o st : Nat) : WE h h o st st := ⟨Nat.le_refl _, Nat.le_refl _, fun _ _ _ => rfl, fun _ _ _ => rfl, .inl rfl⟩
theorem WE.trans {h h1 h2 : AH} {o st st1 st2 : Nat} (a : WE h h1 o st st1) (b : WE h1 h2 o st1 st2) : WE h h2 o st st2 where
  next := Nat.le_trans a.next b.next
  nobj := Nat.le_trans a.nobj b.nobj
  objs o' h' hn := (b.objs o' (Nat.lt_of_lt_of_le h' a.nobj) hn).trans (a.objs o' h' hn)
  tips s hs hn := by
    have : s ≠ st1 ∨ s ≤ 2 := by rcases a.st with e | e <;> omega
    exact (b.tips s (Nat.lt_of_lt_of_le hs a.next) this).trans (a.tips s hs hn)
  st := by
    rcases b.st with e | e
    · rw [e]; exact a.st
    · exact .inr (Nat.le_trans a.next e)
theorem WO.new (h : AH) : WO (h.new [.sl 0 1 []]) h.nobj [] 1 := ⟨⟨0, by simp, .inl rfl⟩, .inl ⟨rfl, rfl⟩⟩
/-- A writer of which nothing is written stays. -/
theorem WO.keep {h h1 : AH} {o st : Nat} {l : List Nat} (w : WO h o l st) (ho : h1.objs o = h.objs o) (hn : h.next ≤ h1.next) (ht : h1.tips st = h.tips st) : WO h1 o l st := by
  obtain ⟨e, ob, el⟩ := w.ob
  refine ⟨⟨e, by rw [ho]; exact ob, el⟩, ?_⟩
  rcases w.st with a | a | a
  · exact .inl a
  · exact .inr (.inl a)
  · exact .inr (.inr ⟨by rw [ht]; exact a.1, by omega⟩)
theorem WO.app {h : AH} {o st : Nat} {l : List Nat} (w : WO h o l st) {m : List Nat} (hm : m ≠ []) (hb : l.length + m.length ≤ 2 ^ 46) {e : Nat} (he : h.objs o = [.sl e st (u8s l)]) {K : V → AH → Prop} {zK : Lz K}
    (hk : K (.sl 1 h.next (u8s (l ++ m))) (h.push st 1)) : App h 1 1 e st (u8s l) 1 (u8s m) zK := by
  obtain ⟨e', ob, el⟩ := w.ob
  rw [he] at ob
  obtain rfl : e = e' := by simpa using ob
  refine ⟨fun h0 => absurd h0 (by intro e; apply hm; cases m with | nil => rfl | cons a b => simp [u8s] at e), fun _ => ⟨?_, el, rfl, by simp; omega, by rw [← u8s_append]; exact hk⟩⟩
  rcases w.st with a | a | a
  · exact .inl a.1
  · exact .inr (.inl a)
  · exact .inr (.inr a.1)
theorem WO.push {h : AH} (wf : Wf h) {o st : Nat} {l : List Nat} (w : WO h o l st) (m : List Nat) : WO ((h.push st 1).set o [.sl 1 h.next (u8s m)]) o m h.next ∧ WE h ((h.push st 1).set o [.sl 1 h.next (u8s m)]) o st h.next :=
  ⟨⟨⟨1, by simp, .inr rfl⟩, .inr (.inr ⟨push_new h st 1, by rw [set_next, push_next]; omega⟩)⟩,
   ⟨by rw [set_next, push_next]; omega, by rw [set_nobj, push_nobj]; exact Nat.le_refl _, fun o' _ hn => by rw [set_objs_ne _ _ _ hn, push_objs], fun s hs hn => by
      rw [set_tips]
      by_cases h2 : st ≤ 2
      · exact push_tips_le hs h2
      · exact push_tips_ne hs (by omega), .inr (Nat.le_refl _)⟩⟩
end Go.Proofs.Ytajaoldljichaaa.Al
namespace Go.Proofs.Ytajaoldljichaaa.Al
open Go Go.RowKit
set_option linter.unusedSimpArgs false
set_option linter.unusedVariables false
attribute [-simp] List.getD_eq_getElem?_getD Int.not_lt Int.not_le
/-- A thing. -/
structure Th where
  kind : Int
  n : Int
  l : List Int
  e : Int
def ints (l : List Int) : List V := l.map (.int .i64)
@[simp] theorem ints_length (l : List Int) : (ints l).length = l.length := by simp [ints]
theorem ints_getD {l : List Int} {i : Nat} (h : i < l.length) : (ints l).getD i .undef = .int .i64 (l.getD i 0) := by
  simp [ints, List.getD, List.getElem?_eq_getElem h]
section
variable {X : Cx} {h : AH} {Q : V → AH → Prop}
/-- A thing that is not too large, its numbers as such. -/
def tn (x : Th) : Nat := x.n.toNat
theorem WE.new (h : AH) (o st : Nat) (z : List V) : WE h (h.new z) o st st :=
  ⟨Nat.le_refl _, by simp, fun o' h' _ => by simp [show ¬ o' = h.nobj by omega], fun _ _ _ => rfl, .inl rfl⟩
end
end Go.Proofs.Ytajaoldljichaaa.Al
namespace Go.Proofs.Ytajaoldljichaaa.Al
open Go Go.RowKit
set_option linter.unusedSimpArgs false
set_option linter.unusedVariables false
attribute [-simp] List.getD_eq_getElem?_getD Int.not_lt Int.not_le
section
variable {X : Cx} {h : AH} {Q : V → AH → Prop}
/-- A writer, and beside it bytes that one appends to. -/
structure WS (h h1 : AH) (o sw ce st : Nat) (W1 W2 : List Nat) : Prop where
  n3 : 3 ≤ h.next
  gr : Gr h h1
  ho : h.nobj ≤ o
  wo : WO h1 o W1 sw
  fw : sw ≤ 2 ∨ h.next ≤ sw
  el : ce = 1
  tip : st = 2 ∨ (h1.tips st = some 1 ∧ st < h1.next)
  fs : st ≤ 2 ∨ h.next ≤ st
  ne : st ≤ 2 ∨ st ≠ sw
theorem WS.app {h h1 : AH} {o sw ce st : Nat} {W1 W2 : List Nat} (s : WS h h1 o sw ce st W1 W2) {m : List Nat} {e2 : Nat} (hm : m ≠ []) (he : e2 = 1) (hb : W2.length + m.length ≤ 2 ^ 46) {K : V → AH → Prop} {zK : Lz K}
    (hk : ∀ st' h2, WS h h2 o sw 1 st' W1 (W2 ++ m) → h2.objs = h1.objs → h2.nobj = h1.nobj → K (.sl 1 st' (u8s (W2 ++ m))) h2) : App h1 1 1 ce st (u8s W2) e2 (u8s m) zK := by
  have hnx := s.gr.next
  have n3 := s.n3
  refine ⟨fun h0 => absurd h0 (by intro e; apply hm; cases m with | nil => rfl | cons a b => simp [u8s] at e), fun _ => ⟨?_, .inr s.el, he, by simp; omega, ?_⟩⟩
  · rcases s.tip with a | a
    · exact .inr (.inl a)
    · exact .inr (.inr a.1)
  · rw [← u8s_append]
    have hne : sw < h1.next := by
      rcases s.wo.st with a | a | a
      · omega
      · omega
      · exact a.2
    refine hk _ _ ⟨n3, s.gr.push (by have := s.fs; omega) 1, s.ho, s.wo.keep (by rw [push_objs]) (by rw [push_next]; omega) ?_, s.fw, rfl, .inr ⟨push_new h1 st 1, by rw [push_next]; omega⟩, .inr hnx, .inr (by omega)⟩ (push_objs h1 st 1) (push_nobj h1 st 1)
    by_cases h2 : st ≤ 2
    · exact push_tips_le hne h2
    · exact push_tips_ne hne (by have := s.ne; omega)
end
end Go.Proofs.Ytajaoldljichaaa.Al
namespace Go.Proofs.Ytajaoldljichaaa.Al
open Go Go.RowKit
set_option linter.unusedSimpArgs false
set_option linter.unusedVariables false
attribute [-simp] List.getD_eq_getElem?_getD Int.not_lt Int.not_le
theorem rlist_succ0 {α : Type} (step : List Nat → Int → α × List Nat × Int) (n : Nat) (l : List Nat) : rlist step (n + 1) l 0 = ((step l 0).1 :: (rlist step n (step l 0).2.1 (step l 0).2.2).1, (rlist step n (step l 0).2.1 (step l 0).2.2).2) := by simp [rlist]
end Go.Proofs.Ytajaoldljichaaa.Al
namespace Go.Proofs.Ytajaoldljichaaa.Al
open Go Go.RowKit
set_option linter.unusedSimpArgs false
set_option linter.unusedVariables false
abbrev Step (α : Type) := List Nat → Int → α × List Nat × Int
/-- A step that reads things as they are written, and only such. -/
structure Canon {α : Type} (step : Step α) (bytes : α → List Nat) (ok : α → Prop) : Prop where
  back : ∀ l a l', (∀ x ∈ l, x < 256) → step l 0 = (a, l', 0) → l = bytes a ++ l' ∧ ok a
  read : ∀ a r, ok a → step (bytes a ++ r) 0 = (a, r, 0)
  err : ∀ l e, e ≠ 0 → (step l e).2 = (l, e)
/-- One step, then another one. -/
def seq2 {α β : Type} (f : Step α) (g : Step β) : Step (α × β) := fun l e => (((f l e).1, (g (f l e).2.1 (f l e).2.2).1), (g (f l e).2.1 (f l e).2.2).2)
theorem Canon.seq {α β : Type} {f : Step α} {g : Step β} {bf : α → List Nat} {bg : β → List Nat} {pf : α → Prop} {pg : β → Prop} (F : Canon f bf pf) (G : Canon g bg pg) : Canon (seq2 f g) (fun p => bf p.1 ++ bg p.2) (fun p => pf p.1 ∧ pg p.2) where
  back l p l' hb h := by
    have h1 := congrArg Prod.fst h
    have h2 := congrArg Prod.snd h
    simp only [seq2] at h1 h2
    have he : (f l 0).2.2 = 0 := by
      by_cases he : (f l 0).2.2 = 0
      · exact he
      · rw [G.err _ _ he] at h2; exact absurd (congrArg Prod.snd h2) he
    obtain ⟨a1, a2⟩ := F.back l (f l 0).1 (f l 0).2.1 hb (Prod.ext rfl (Prod.ext rfl he))
    rw [he] at h1 h2
    have hb' : ∀ x ∈ (f l 0).2.1, x < 256 := fun x hx => hb x (by rw [a1]; exact List.mem_append_right _ hx)
    obtain ⟨b1, b2⟩ := G.back _ (g (f l 0).2.1 0).1 l' hb' (Prod.ext rfl h2)
    rw [← h1]
    exact ⟨by simp only [List.append_assoc, ← b1]; exact a1, a2, b2⟩
  read p r hp := by
    simp only [seq2, List.append_assoc, F.read p.1 _ hp.1, G.read p.2 r hp.2]
  err l e he := by simp only [seq2, F.err l e he, G.err l e he]
/-- The same, told in other words. -/
def stepMap {α β : Type} (φ : α → β) (f : Step α) : Step β := fun l e => (φ (f l e).1, (f l e).2)
theorem Canon.map {α β : Type} {f : Step α} {bf : α → List Nat} {pf : α → Prop} (F : Canon f bf pf) (φ : α → β) (ψ : β → α) (q : β → Prop) (h1 : ∀ a, pf a → q (φ a) ∧ ψ (φ a) = a) (h2 : ∀ b, q b → pf (ψ b) ∧ φ (ψ b) = b) : Canon (stepMap φ f) (fun b => bf (ψ b)) q where
  back l b l' hb h := by
    have e1 := congrArg Prod.fst h
    have e2 := congrArg Prod.snd h
    simp only [stepMap] at e1 e2
    obtain ⟨a1, a2⟩ := F.back l (f l 0).1 l' hb (Prod.ext rfl e2)
    rw [← e1, (h1 _ a2).2]
    exact ⟨a1, (h1 _ a2).1⟩
  read b r hb := by
    simp only [stepMap, F.read (ψ b) r (h2 b hb).1, (h2 b hb).2]
  err l e he := F.err l e he
theorem Canon.inj {α : Type} {f : Step α} {bf : α → List Nat} {pf : α → Prop} (F : Canon f bf pf) {a b : α} (ha : pf a) (hb : pf b) (h : bf a = bf b) : a = b := by
  have h1 := F.read a [] ha
  have h2 := F.read b [] hb
  rw [h, h2] at h1
  exact (congrArg Prod.fst h1).symm
/-! ### Read on, whatever is wrong -/
def wlst {α : Type} (step : Step α) : Nat → Step (List α)
  | 0, l, e => ([], l, e)
  | n + 1, l, e => ((step l e).1 :: (wlst step n (step l e).2.1 (step l e).2.2).1, (wlst step n (step l e).2.1 (step l e).2.2).2)
theorem rlist_e {α : Type} {step : Step α} {n : Nat} {l : List Nat} {e : Int} (he : e ≠ 0) : rlist step n l e = ([], l, e) := by
  cases n with
  | zero => rfl
  | succ n => simp [rlist, he]
/-- Two steps that agree in what is left, and in what is read where nothing is wrong behind it. -/
structure Alike {α : Type} (f g : Step α) : Prop where
  state : ∀ l e, (f l e).2 = (g l e).2
  val : ∀ l e, (f l e).2.2 = 0 → (f l e).1 = (g l e).1
theorem Alike.rlist {α : Type} {f g : Step α} (A : Alike f g) (hs : ∀ l e, e ≠ 0 → (f l e).2 = (l, e)) : ∀ (n : Nat), Alike (rlist f n) (rlist g n)
  | 0 => ⟨fun l e => rfl, fun l e _ => rfl⟩
  | n + 1 => by
    have ih := A.rlist hs n
    refine ⟨fun l e => ?_, fun l e h => ?_⟩
    · by_cases he : e = 0
      · subst he
        rw [rlist_succ0, rlist_succ0]
        simp only
        rw [ih.state, A.state]
      · rw [rlist_e he, rlist_e he]
    · by_cases he : e = 0
      · subst he
        rw [rlist_succ0] at h ⊢
        rw [rlist_succ0]
        simp only at h ⊢
        have h0 : (f l 0).2.2 = 0 := by
          by_cases h0 : (f l 0).2.2 = 0
          · exact h0
          · rw [rlist_e h0] at h; exact absurd h h0
        rw [ih.val _ _ h, A.val l 0 h0, A.state]
      · rw [rlist_e he, rlist_e he]
end Go.Proofs.Ytajaoldljichaaa.Al
namespace Go.Proofs.Ytajaoldljichaaa.Al
open Go Go.RowKit
set_option linter.unusedSimpArgs false
set_option linter.unusedVariables false
attribute [-simp] List.getD_eq_getElem?_getD Int.not_lt Int.not_le List.map_take
/-- A writer o, made since h0, that holds these bytes. -/
structure WC (h0 h : AH) (o : Nat) (L : List Nat) : Prop where
  wo : ∃ st, WO h o L st ∧ (st ≤ 2 ∨ h0.next ≤ st)
  gr : Gr h0 h
  ho : h0.nobj ≤ o
  lo : o < h.nobj
theorem WC.new {h0 h : AH} {o : Nat} {L : List Nat} (w : WC h0 h o L) (z : List V) : WC h0 (h.new z) o L := by
  obtain ⟨st, wo, fs⟩ := w.wo
  have := w.lo
  exact ⟨⟨st, wo.keep (new_objs_ne _ _ (by omega)) (Nat.le_refl _) rfl, fs⟩, w.gr.new z, w.ho, by simp; omega⟩
theorem WC.set {h0 h : AH} {o q : Nat} {L : List Nat} (w : WC h0 h o L) (hq : h0.nobj ≤ q) (hne : ¬ o = q) (z : List V) : WC h0 (h.set q z) o L := by
  obtain ⟨st, wo, fs⟩ := w.wo
  exact ⟨⟨st, wo.keep (set_objs_ne _ _ _ hne) (Nat.le_refl _) rfl, fs⟩, w.gr.set hq z, w.ho, w.lo⟩
end Go.Proofs.Ytajaoldljichaaa.Al
namespace Go.Proofs.Ytajaoldljichaaa.Al
open Go Go.RowKit
set_option linter.unusedSimpArgs false
set_option linter.unusedVariables false
attribute [-simp] List.getD_eq_getElem?_getD Int.not_lt Int.not_le List.map_take
theorem ints_get {l : List Int} {i : Nat} (h : i < l.length) : (ints l).getD i .undef = .int .i64 l[i] := by
  simp [ints, List.getD, List.getElem?_eq_getElem h]
theorem ints_cells (l : List Int) : cellsOf (ints l) = ints l := by
  induction l with
  | nil => rfl
  | cons a as ih => show V.cells (.int .i64 a) ++ cellsOf (ints as) = _; rw [ih]; rfl
theorem Bdd_ints (n m : Nat) (l : List Int) : ∀ v ∈ cellsOf (ints l), Bdd n m v := by
  intro v hv
  rw [ints_cells] at hv
  simp [ints] at hv; obtain ⟨b, _, rfl⟩ := hv; exact .int _ _
theorem all_take_succ {α : Type} {f : α → Bool} {l : List α} {k : Nat} (hk : k < l.length) (h : (l.take k).all f = true) (h1 : f l[k] = true) : (l.take (k + 1)).all f = true := by
  rw [List.take_succ_eq_append_getElem hk, List.all_append, h]; simp [h1]
theorem all_at {α : Type} {f : α → Bool} {l : List α} {k : Nat} (hk : k < l.length) (h1 : f l[k] = false) : l.all f = false :=
  List.all_eq_false.2 ⟨l[k], List.getElem_mem hk, by simp [h1]⟩
/-- Lists that are compared item by item. -/
theorem take_ext2 {α : Type} {a b : List α} {k : Nat} (ha : k < a.length) (hb : k < b.length) (h : a.take k = b.take k) (e : a[k] = b[k]) : a.take (k + 1) = b.take (k + 1) := by
  rw [List.take_succ_eq_append_getElem ha, List.take_succ_eq_append_getElem hb, h, e]
/-- An edit. -/
structure Ed where
  at' : Int
  drop : Bool
  tok : Int
  deriving DecidableEq
/-! ### Structs in a slice, of which less is known -/
theorem WkL.append {a b c d : List V} (x : WkL a b) (y : WkL c d) : WkL (a ++ c) (b ++ d) := by
  induction x with
  | nil => exact y
  | cons h t ih => exact .cons h ih
inductive WkE : List V → List V → Prop
  | nil : WkE [] []
  | cons {a b l m : List V} (h : WkL a b) (t : WkE l m) : WkE (.agg a :: l) (.agg b :: m)
theorem WkE.cells {l m : List V} (w : WkE l m) : l.length = m.length ∧ WkL (cellsOf l) (cellsOf m) := by
  induction w with
  | nil => exact ⟨rfl, .nil⟩
  | cons h t ih => exact ⟨by simp [ih.1], h.append ih.2⟩
theorem WkE.append {a b c d : List V} (x : WkE a b) (y : WkE c d) : WkE (a ++ c) (b ++ d) := by
  induction x with
  | nil => exact y
  | cons h t ih => exact .cons h ih
theorem WkE.sl {e st : Nat} {l m : List V} (w : WkE l m) (hm : ∀ v ∈ m, v.cells.length = e) : Wk (.sl e st l) (.sl e 0 m) := by
  obtain ⟨a, b⟩ := w.cells
  obtain ⟨c, d⟩ := b.get
  exact .sld e st l m a hm c d
/-- A step of the reference's reader, and the program's that it is. -/
structure SimR {α : Type} (f g : Step α) : Prop where
  val : ∀ b e, (f b e).1 = (g (absR (b, e)).1 (absR (b, e)).2).1
  st : ∀ b e, absR (f b e).2 = (g (absR (b, e)).1 (absR (b, e)).2).2
theorem SimR.step {α : Type} {f g : Step α} (S : SimR f g) (b : List Nat) (e : Int) : g (absR (b, e)).1 (absR (b, e)).2 = ((f b e).1, absR ((f b e).2.1, (f b e).2.2)) := by
  rw [S.val b e, show ((f b e).2.1, (f b e).2.2) = (f b e).2 from rfl, S.st b e]
theorem SimR.map {α β : Type} {f g : Step α} (S : SimR f g) (φ : α → β) : SimR (stepMap φ f) (stepMap φ g) := ⟨fun b e => by simp only [stepMap, S.val b e], fun b e => by simp only [stepMap, S.st b e]⟩
theorem SimR.wl {α : Type} {f g : Step α} (S : SimR f g) : ∀ n, SimR (wlst f n) (wlst g n)
  | 0 => ⟨fun b e => rfl, fun b e => rfl⟩
  | n + 1 => by
    have ih := S.wl n
    refine ⟨fun b e => ?_, fun b e => ?_⟩
    · simp only [wlst, S.step b e]
      rw [ih.val]
    · simp only [wlst, S.step b e]
      rw [ih.st]
theorem SimR.rl {α : Type} {f g : Step α} (S : SimR f g) : ∀ n, SimR (rlist f n) (rlist g n)
  | 0 => ⟨fun b e => rfl, fun b e => rfl⟩
  | n + 1 => by
    have ih := S.rl n
    have key : ∀ b e, rlist g (n + 1) (absR (b, e)).1 (absR (b, e)).2 = ((rlist f (n + 1) b e).1, absR (rlist f (n + 1) b e).2) := fun b e => by
      by_cases he : e = 0
      · subst he
        rw [show (absR (b, (0 : Int))).2 = 0 from rfl, rlist_succ0, rlist_succ0]
        have h1 := S.step b 0
        rw [show (absR (b, (0 : Int))).2 = 0 from rfl] at h1
        rw [h1]
        simp only
        rw [ih.val, ← ih.st]
      · rw [rlist_e he, rlist_e (e := (absR (b, e)).2) he]
    exact ⟨fun b e => by rw [key], fun b e => by rw [key]⟩
theorem SimR.seq {α β : Type} {f g : Step α} {f2 g2 : Step β} (S : SimR f g) (T : SimR f2 g2) : SimR (seq2 f f2) (seq2 g g2) := by
  refine ⟨fun b e => ?_, fun b e => ?_⟩
  · simp only [seq2, S.step b e]; rw [T.val]
  · simp only [seq2, S.step b e]; rw [T.st]
/-- Two slices that this call has made, and may append to each without the other one. -/
structure Two (h0 h : AH) (e1 st1 : Nat) (l1 : List V) (e2 st2 : Nat) (l2 : List V) : Prop where
  a : Own h0 h 2 e1 st1 l1
  b : Own h0 h 2 e2 st2 l2
  ba : st1 ≤ 2 ∨ st1 < h.next
  ne : st1 ≤ 2 ∨ ¬ st1 = st2
theorem Two.set {h0 h : AH} {e1 st1 e2 st2 o : Nat} {l1 l2 : List V} (t : Two h0 h e1 st1 l1 e2 st2 l2) (ho : h0.nobj ≤ o) (z : List V) : Two h0 (h.set o z) e1 st1 l1 e2 st2 l2 :=
  ⟨⟨t.a.gr.set ho z, t.a.el, t.a.st⟩, ⟨t.b.gr.set ho z, t.b.el, t.b.st⟩, t.ba, t.ne⟩
theorem Own.set {h0 h : AH} {e e1 st1 o : Nat} {l1 : List V} (t : Own h0 h e e1 st1 l1) (ho : h0.nobj ≤ o) (z : List V) : Own h0 (h.set o z) e e1 st1 l1 := ⟨t.gr.set ho z, t.el, t.st⟩
theorem Own.new {h0 h : AH} {e e1 st1 : Nat} {l1 : List V} (t : Own h0 h e e1 st1 l1) (z : List V) : Own h0 (h.new z) e e1 st1 l1 := ⟨t.gr.new z, t.el, t.st⟩
theorem Own.keep {h0 h : AH} {e e1 st1 st2 : Nat} {l1 : List V} (t : Own h0 h e e1 st1 l1) (gr : Gr h0 (h.push st2 e)) (ba : st1 ≤ 2 ∨ st1 < h.next) (ne : st1 ≤ 2 ∨ ¬ st1 = st2) : Own h0 (h.push st2 e) e e1 st1 l1 := by
  refine ⟨gr, t.el, ?_⟩
  rcases t.st with h1 | h1 | ⟨h1, h2⟩
  · exact .inl h1
  · exact .inr (.inl h1)
  · by_cases hs : st1 ≤ 2
    · have := h0.next
      by_cases h1' : st1 = 1
      · exact .inl h1'
      by_cases h2' : st1 = 2
      · exact .inr (.inl h2')
      refine .inr (.inr ⟨?_, h2⟩)
      rcases ba with ba | ba
      · unfold AH.push
        by_cases hst : st2 ≤ 2
        · rw [if_pos hst]
          by_cases hx : st1 = h.next
          · rw [hx]; exact updN_same _ _ _
          · rw [show (h.grow e).tips st1 = h.tips st1 from updN_ne _ _ hx]; exact h1
        · rw [if_neg hst]
          by_cases hx : st1 = h.next
          · rw [hx]; exact updN_same _ _ _
          · rw [show ((h.drop st2).grow e).tips st1 = (h.drop st2).tips st1 from updN_ne _ _ hx, show (h.drop st2).tips st1 = h.tips st1 from updN_ne _ _ (by omega)]; exact h1
      · unfold AH.push
        by_cases hst : st2 ≤ 2
        · rw [if_pos hst, show (h.grow e).tips st1 = h.tips st1 from updN_ne _ _ (by omega)]; exact h1
        · rw [if_neg hst, show ((h.drop st2).grow e).tips st1 = (h.drop st2).tips st1 from updN_ne _ _ (by show st1 ≠ h.next; omega), show (h.drop st2).tips st1 = h.tips st1 from updN_ne _ _ (by omega)]; exact h1
    · refine .inr (.inr ⟨?_, h2⟩)
      unfold AH.push
      by_cases hst : st2 ≤ 2
      · rw [if_pos hst, show (h.grow e).tips st1 = h.tips st1 from updN_ne _ _ (by omega)]; exact h1
      · rw [if_neg hst, show ((h.drop st2).grow e).tips st1 = (h.drop st2).tips st1 from updN_ne _ _ (by show st1 ≠ h.next; omega), show (h.drop st2).tips st1 = h.tips st1 from updN_ne _ _ (by omega)]; exact h1
section
variable {X : Cx} {h : AH} {Q : V → AH → Prop}
theorem Own.push {h0 h : AH} {e e1 st : Nat} {l : List V} (o : Own h0 h e e1 st l) (m : List V) : Own h0 (h.push st e) e e h.next (l ++ m) := by
  refine ⟨o.gr.push ?_ e, .inr rfl, .inr (.inr ⟨push_new h st e, o.gr.next⟩)⟩
  rcases o.st with h1 | h1 | h1
  · omega
  · omega
  · exact .inr h1.2
/-- An append, with all that is known of the heap. -/
theorem Own.appF {h0 h : AH} {e e1 st : Nat} {l : List V} (o : Own h0 h e e1 st l) {sz e2 : Nat} {m : List V} (hm : m ≠ []) (he : e2 = e) (hb : (l.length + m.length) * sz ≤ 2 ^ 46) {K : V → AH → Prop} {zK : Lz K}
    (hk : Own h0 (h.push st e) e e h.next (l ++ m) → K (.sl e h.next (l ++ m)) (h.push st e)) : App h e sz e1 st l e2 m zK := by
  refine ⟨fun h1 => absurd h1 hm, fun _ => ⟨?_, o.el, he, hb, hk (o.push m)⟩⟩
  rcases o.st with h1 | h1 | h1
  · exact .inl h1
  · exact .inr (.inl h1)
  · exact .inr (.inr h1.1)
theorem Two.app {h0 h : AH} {e1 st1 e2 st2 : Nat} {l1 l2 : List V} (t : Two h0 h e1 st1 l1 e2 st2 l2) {sz e3 : Nat} {m : List V} (hm : m ≠ []) (he : e3 = 2) (hb : (l2.length + m.length) * sz ≤ 2 ^ 46) {K : V → AH → Prop} {zK : Lz K}
    (hk : ∀ st' h', Two h0 h' e1 st1 l1 2 st' (l2 ++ m) → h'.objs = h.objs → h'.nobj = h.nobj → K (.sl 2 st' (l2 ++ m)) h') : App h 2 sz e2 st2 l2 e3 m zK :=
  t.b.appF hm he hb fun o' => hk _ _ ⟨t.a.keep o'.gr t.ba t.ne, o', t.ba.imp id fun h1 => by rw [push_next]; omega, t.ba.imp id fun h1 => by omega⟩ (push_objs _ _ _) (push_nobj _ _ _)
end
end Go.Proofs.Ytajaoldljichaaa.Al
namespace Go.Proofs.Ytajaoldljichaaa.Al
open Go Go.RowKit
set_option linter.unusedSimpArgs false
set_option linter.unusedVariables false
attribute [-simp] List.getD_eq_getElem?_getD Int.not_lt Int.not_le List.map_take
structure It where
  prod : Int
  dot : Int
  frm : Int
  deriving DecidableEq
def itC (x : It) : List V := [.int .i64 x.prod, .int .i64 x.dot, .int .i64 x.frm]
def itV (x : It) : V := .agg (itC x)
def setV (l : List It) : V := .sl 3 0 (l.map itV)
theorem encInt : Enc (fun n : Int => V.int .i64 n) 1 false := ⟨fun _ => rfl, fun _ => rfl, fun _ => rfl, fun a n m v hv => by simp [V.cells] at hv; subst hv; simp⟩
/-! ### What may be -/
/-! ### Bytes -/
/-! ### Steps -/
/-! ### What bytes are -/
end Go.Proofs.Ytajaoldljichaaa.Al
namespace Go.Proofs.Ytajaoldljichaaa.Al
open Go Go.RowKit
set_option linter.unusedSimpArgs false
set_option linter.unusedVariables false
attribute [-simp] List.getD_eq_getElem?_getD Int.not_lt Int.not_le List.map_take
end Go.Proofs.Ytajaoldljichaaa.Al
namespace Go.Proofs.Ytajaoldljichaaa.Al
open Go Go.RowKit
set_option linter.unusedSimpArgs false
set_option linter.unusedVariables false
attribute [-simp] List.getD_eq_getElem?_getD Int.not_lt Int.not_le List.map_take
end Go.Proofs.Ytajaoldljichaaa.Al
namespace Go.Proofs.Ytajaoldljichaaa.Al
open Go Go.RowKit
set_option linter.unusedSimpArgs false
set_option linter.unusedVariables false
attribute [-simp] List.getD_eq_getElem?_getD Int.not_lt Int.not_le List.map_take
end Go.Proofs.Ytajaoldljichaaa.Al
namespace Go.Proofs.Ytajaoldljichaaa.Al
open Go Go.RowKit
set_option linter.unusedSimpArgs false
set_option linter.unusedVariables false
attribute [-simp] List.getD_eq_getElem?_getD Int.not_lt Int.not_le List.map_take
end Go.Proofs.Ytajaoldljichaaa.Al
namespace Go.Proofs.Ytajaoldljichaaa.Al
def A.probateref04_Right.L0 : AC := .post (.seq (.seq (.reg [⟨(some 7), none, .mv (.t 3)⟩, ⟨(some 8), none, .mv (.t 0)⟩, ⟨(some 9), none, .len false (.t 8)⟩, ⟨(some 10), none, .bin .lss (.t 7) (.t 9)⟩])
  (.keep [0, 3, 10] (.cond (.t 10) .skip (.exit 0))))
  (.keep [0, 3] (.seq (.block 1 (.seq (.reg [⟨(some 13), none, .mv (.t 0)⟩, ⟨(some 14), none, .mv (.t 3)⟩, ⟨(some 15), none, .ia 1 (.t 13) (.t 14)⟩, ⟨(some 16), none, .load false 1 (.t 15)⟩, ⟨(some 17), none, .bin .lss (.t 16) (.c (.int .i64 (0)))⟩, ⟨(some 18), none, .mv (.t 17)⟩, ⟨(some 19), (some (18, false)), .mv (.t 0)⟩, ⟨(some 20), (some (18, false)), .mv (.t 3)⟩, ⟨(some 21), (some (18, false)), .ia 1 (.t 19) (.t 20)⟩, ⟨(some 22), (some (18, false)), .load false 1 (.t 21)⟩, ⟨(some 23), (some (18, false)), .bin .gtr (.t 22) (.c (.int .i64 (15)))⟩, ⟨(some 24), none, .pick (.t 18) (.c (.bool true)) (.t 23)⟩])
  (.keep [0, 3, 24] (.cond (.t 24) (.seq (.reg [⟨(some 2), none, .mv (.c (.bool false))⟩]) .ret) .skip))))
  (.keep [0, 3] (.reg [⟨(some 11), none, .mv (.t 3)⟩, ⟨(some 12), none, .bin .add (.t 11) (.c (.int .i64 (1)))⟩, ⟨(some 3), none, .mv (.t 12)⟩]))))) [0, 3]
def A.probateref04_Right : AFn := ⟨25, [(2, none)], (.seq (.reg [⟨(some 2), none, .mv (.c (.bool false))⟩])
  (.keep [0] (.seq (.seq (.reg [⟨(some 4), none, .mv (.t 0)⟩, ⟨(some 5), none, .len false (.t 4)⟩, ⟨(some 6), none, .bin .gtr (.t 5) (.c (.int .i64 (24)))⟩])
  (.keep [0, 6] (.cond (.t 6) (.seq (.reg [⟨(some 2), none, .mv (.c (.bool false))⟩]) .ret) .skip)))
  (.keep [0] (.seq (.seq (.reg [⟨(some 3), none, .mv (.c (.int .i64 (0)))⟩])
  (.keep [0, 3] (.block 0 (.loop A.probateref04_Right.L0))))
  (.keep [] (.seq (.reg [⟨(some 2), none, .mv (.c (.bool true))⟩]) .ret)))))))⟩
def A.probateref04_Fits.L0 : AC := .post (.seq (.seq (.reg [⟨(some 9), none, .mv (.t 5)⟩, ⟨(some 10), none, .mv (.t 1)⟩, ⟨(some 11), none, .len false (.t 10)⟩, ⟨(some 12), none, .bin .lss (.t 9) (.t 11)⟩])
  (.keep [1, 2, 5, 12] (.cond (.t 12) .skip (.exit 0))))
  (.keep [1, 2, 5] (.seq (.block 1 (.seq (.draw [(.pl, ⟨(some 15), none, .mv (.t 1)⟩), (.pl, ⟨(some 16), none, .mv (.t 5)⟩), (.pl, ⟨(some 17), none, .ia 1 (.t 15) (.t 16)⟩), (.pl, ⟨(some 18), none, .load false 1 (.t 17)⟩), (.pl, ⟨(some 19), none, .fa 0 (.t 2)⟩), (.pl, ⟨(some 20), none, .load false 1 (.t 19)⟩), (.pl, ⟨(some 21), none, .bin .geq (.t 18) (.t 20)⟩)])
  (.keep [1, 2, 5, 21] (.cond (.t 21) (.seq (.reg [⟨(some 4), none, .mv (.c (.bool false))⟩]) .ret) .skip))))
  (.keep [1, 2, 5] (.reg [⟨(some 13), none, .mv (.t 5)⟩, ⟨(some 14), none, .bin .add (.t 13) (.c (.int .i64 (1)))⟩, ⟨(some 5), none, .mv (.t 14)⟩]))))) [1, 2, 5]
def A.probateref04_Fits : AFn := ⟨22, [(4, none)], (.seq (.reg [⟨(some 2), none, .box (.t 0)⟩, ⟨(some 4), none, .mv (.c (.bool false))⟩])
  (.keep [1, 2] (.seq (.seq (.reg [⟨(some 6), none, .mv (.t 1)⟩, ⟨(some 7), none, .call (.c (.fn K.probateref04_Right [] [])) [(.t 6)]⟩, ⟨(some 8), none, .un .not (.t 7)⟩])
  (.keep [1, 2, 8] (.cond (.t 8) (.seq (.reg [⟨(some 4), none, .mv (.c (.bool false))⟩]) .ret) .skip)))
  (.keep [1, 2] (.seq (.seq (.reg [⟨(some 5), none, .mv (.c (.int .i64 (0)))⟩])
  (.keep [1, 2, 5] (.block 0 (.loop A.probateref04_Fits.L0))))
  (.keep [] (.seq (.reg [⟨(some 4), none, .mv (.c (.bool true))⟩]) .ret)))))))⟩
end Go.Proofs.Ytajaoldljichaaa.Al
namespace Go.Proofs.Ytajaoldljichaaa.Al
open Go Go.RowKit
set_option linter.unusedSimpArgs false
set_option linter.unusedVariables false
attribute [-simp] List.getD_eq_getElem?_getD Int.not_lt Int.not_le List.map_take
def belowB (w : List Int) (m : Int) : Bool := w.all fun t => decide (0 ≤ t) && decide (t < m)
def rightW (w : List Int) : Bool := decide (w.length ≤ 24) && belowB w 16
def fitsW (terms : Int) (w : List Int) : Bool := rightW w && belowB w terms
/-- What becomes of a word from a place on. -/
def appF (w : List Int) : List Ed → Nat → List Int
  | [], i => w.drop i
  | x :: l, i => (w.take x.at'.toNat).drop i ++ (if x.drop = true then appF w l (x.at'.toNat + 1) else x.tok :: appF w l x.at'.toNat)
section
variable {X : Cx} {h : AH} {Q : V → AH → Prop}
theorem rightR_spec (H : Has (Ecx X) K.probateref04_Right A.probateref04_Right) (w : List Int) (s : Nat) (hl : w.length < 2 ^ 64) (hQ : Q (.bool (rightW w)) h) : Ecx X K.probateref04_Right [.sl 1 s (ints w)] h Q := by
  refine fn_walk H (by simp [A.probateref04_Right]) fun wf => ?_
  unfold rightW at hQ
  by_cases c0 : 24 < w.length
  · have c0' : (24 : Int) < w.length := by omega
    simp [show ¬ w.length ≤ 24 by omega] at hQ
    simp [A.probateref04_Right, c0']
    exact fin (by simp) hQ
  have c0' : ¬ (24 : Int) < w.length := by omega
  simp [show w.length ≤ 24 by omega] at hQ
  simp [A.probateref04_Right, c0']
  refine loopI (n := w.length) (fun n env h' => ∃ k, k ≤ w.length ∧ n = w.length - k ∧ h' = h ∧ env = [(0, .sl 1 s (ints w)), (3, .int .i64 k)] ∧ (w.take k).all (fun t => decide (0 ≤ t) && decide (t < 16)) = true) ?_ ⟨0, by omega, by omega, rfl, rfl, by simp⟩
  rintro n env h' ⟨k, hk, rfl, rfl, rfl, ha⟩
  unfold A.probateref04_Right.L0
  by_cases hlt : k < w.length
  · have hlt' : (k : Int) < w.length := by omega
    have hg := ints_get hlt
    have hw1 : IntKind.i64.wrap ((k : Int) + 1) = ((k + 1 : Nat) : Int) := by rw [wrap_i64 (by omega) (by omega)]; rfl
    by_cases c1 : w[k] < 0
    · simp [hlt', hg, V.cells, c1]
      have : belowB w 16 = false := all_at hlt (by simp; omega)
      rw [this] at hQ
      exact fin (by simp) hQ
    by_cases c2 : 15 < w[k]
    · simp [hlt', hg, V.cells, c1, c2]
      have : belowB w 16 = false := all_at hlt (by simp; omega)
      rw [this] at hQ
      exact fin (by simp) hQ
    simp [hlt', hg, V.cells, c1, c2, hw1]
    exact ⟨w.length - (k + 1), by omega, iv ⟨k + 1, by omega, rfl, rfl, rfl, all_take_succ hlt ha (by simp; omega)⟩⟩
  · have hlt' : ¬ (k : Int) < w.length := by omega
    have hk : k = w.length := by omega
    rw [hk, List.take_length] at ha
    simp [hlt']
    have : belowB w 16 = true := ha
    rw [this] at hQ
    exact fin (by simp) hQ
theorem fitsR_spec (H : Has (Ecx X) K.probateref04_Fits A.probateref04_Fits) (H2 : Has (Ecx X) K.probateref04_Right A.probateref04_Right) (a b c : V) (terms : Int) (w : List Int) (s : Nat) (hl : w.length < 2 ^ 64) (hQ : Q (.bool (fitsW terms w)) h) :
    Ecx X K.probateref04_Fits [.agg [.int .i64 terms, a, b, c], .sl 1 s (ints w)] h Q := by
  refine fn_walk H (by simp [A.probateref04_Fits]) fun wf => ?_
  simp [A.probateref04_Fits, V.cells, V.good]
  refine ecall (rightR_spec H2 w s hl ?_)
  unfold fitsW at hQ
  cases hr : rightW w with
  | false => rw [hr] at hQ; simp; exact fin_wk ((Gr.refl h).new _) (.same _) (by simp) hQ
  | true =>
    rw [hr] at hQ
    simp at hQ ⊢
    have h24 : w.length ≤ 24 := by simp only [rightW, Bool.and_eq_true, decide_eq_true_eq] at hr; exact hr.1
    have hpos : ∀ t ∈ w, 0 ≤ t := by
      simp only [rightW, Bool.and_eq_true, belowB, List.all_eq_true, decide_eq_true_eq] at hr
      exact fun t ht => (hr.2 t ht).1
    refine loopI (n := w.length) (fun n env h' => ∃ k, k ≤ w.length ∧ n = w.length - k ∧ h' = h.new [.int .i64 terms, a, b, c] ∧ env = [(1, .sl 1 s (ints w)), (2, .ptr h.nobj 0), (5, .int .i64 k)] ∧ (w.take k).all (fun t => decide (0 ≤ t) && decide (t < terms)) = true) ?_ ⟨0, by omega, by omega, rfl, rfl, by simp⟩
    rintro n env h' ⟨k, hk, rfl, rfl, rfl, ha⟩
    unfold A.probateref04_Fits.L0
    by_cases hlt : k < w.length
    · have hlt' : (k : Int) < w.length := by omega
      have hg := ints_get hlt
      have hp := hpos w[k] (List.getElem_mem hlt)
      have hw1 : IntKind.i64.wrap ((k : Int) + 1) = ((k + 1 : Nat) : Int) := by rw [wrap_i64 (by omega) (by omega)]; rfl
      by_cases c2 : terms ≤ w[k]
      · simp [hlt', hg, V.cells, c2]
        have : belowB w terms = false := all_at hlt (by simp; omega)
        rw [this] at hQ
        exact fin_wk ((Gr.refl h).new _) (.same _) (by simp) hQ
      simp [hlt', hg, V.cells, c2, hw1]
      exact ⟨w.length - (k + 1), by omega, iv ⟨k + 1, by omega, rfl, rfl, rfl, all_take_succ hlt ha (by simp; omega)⟩⟩
    · have hlt' : ¬ (k : Int) < w.length := by omega
      have hk : k = w.length := by omega
      rw [hk, List.take_length] at ha
      simp [hlt']
      have : belowB w terms = true := ha
      rw [this] at hQ
      exact fin_wk ((Gr.refl h).new _) (.same _) (by simp) hQ
end
end Go.Proofs.Ytajaoldljichaaa.Al
namespace Go.Proofs.Ytajaoldljichaaa.Al
open Go Go.RowKit
set_option linter.unusedSimpArgs false
set_option linter.unusedVariables false
attribute [-simp] List.getD_eq_getElem?_getD Int.not_lt Int.not_le List.map_take
/-- Objects of Apply: how many tokens were put (m), and the first 24 of them (o). -/
structure PO (h0 h : AH) (m o : Nat) (L : List Int) : Prop where
  own : ∃ e st, Own h0 h 1 e st (ints (L.take 24)) ∧ h.objs o = [.sl e st (ints (L.take 24))]
  many : h.objs m = [.int .i64 L.length]
  hm : h0.nobj ≤ m
  ho : h0.nobj ≤ o
  ne : ¬ m = o
  lm : m < h.nobj
  lo : o < h.nobj
theorem PO.new {h0 h : AH} {m o : Nat} {L : List Int} (p : PO h0 h m o L) (z : List V) : PO h0 (h.new z) m o L := by
  obtain ⟨e, st, ow, ob⟩ := p.own
  have := p.lm
  have := p.lo
  exact ⟨⟨e, st, ⟨ow.gr.new z, ow.el, ow.st⟩, by rw [new_objs_ne _ _ (by omega)]; exact ob⟩, by rw [new_objs_ne _ _ (by omega)]; exact p.many, p.hm, p.ho, p.ne, by simp; omega, by simp; omega⟩
theorem PO.set {h0 h : AH} {m o : Nat} {L : List Int} (p : PO h0 h m o L) {q : Nat} (hq : h0.nobj ≤ q) (h1 : ¬ m = q) (h2 : ¬ o = q) (z : List V) : PO h0 (h.set q z) m o L := by
  obtain ⟨e, st, ow, ob⟩ := p.own
  exact ⟨⟨e, st, ⟨ow.gr.set hq z, ow.el, ow.st⟩, by rw [set_objs_ne _ _ _ h2]; exact ob⟩, by rw [set_objs_ne _ _ _ h1]; exact p.many, p.hm, p.ho, p.ne, p.lm, p.lo⟩
theorem PO.gr {h0 h : AH} {m o : Nat} {L : List Int} (p : PO h0 h m o L) : Gr h0 h := by obtain ⟨e, st, ow, _⟩ := p.own; exact ow.gr
end Go.Proofs.Ytajaoldljichaaa.Al
namespace Go.Proofs.Ytajaoldljichaaa.Al
def A.gram_Right : AFn := ⟨33, [(2, none)], (.seq (.reg [⟨(some 1), none, .box (.t 0)⟩, ⟨(some 2), none, .mv (.c (.bool false))⟩])
  (.keep [1] (.seq (.block 0 (.seq (.seq (.reg [⟨(some 4), none, .fa 0 (.t 1)⟩, ⟨(some 5), none, .load false 1 (.t 4)⟩, ⟨(some 6), none, .bin .lss (.t 5) (.c (.int .i64 (0)))⟩, ⟨(some 3), none, .mv (.t 6)⟩])
  (.keep [1, 3] (.cond (.t 3) .skip (.seq (.reg [⟨(some 7), none, .fa 0 (.t 1)⟩, ⟨(some 8), none, .load false 1 (.t 7)⟩, ⟨(some 9), none, .bin .gtr (.t 8) (.c (.int .i64 (16)))⟩, ⟨(some 3), none, .mv (.t 9)⟩])
  (.keep [1, 3] (.cond (.t 3) .skip (.seq (.reg [⟨(some 10), none, .fa 1 (.t 1)⟩, ⟨(some 11), none, .load false 1 (.t 10)⟩, ⟨(some 12), none, .bin .lss (.t 11) (.c (.int .i64 (1)))⟩, ⟨(some 3), none, .mv (.t 12)⟩])
  (.keep [1, 3] (.cond (.t 3) .skip (.seq (.reg [⟨(some 13), none, .fa 1 (.t 1)⟩, ⟨(some 14), none, .load false 1 (.t 13)⟩, ⟨(some 15), none, .bin .gtr (.t 14) (.c (.int .i64 (24)))⟩, ⟨(some 3), none, .mv (.t 15)⟩])
  (.keep [1, 3] (.cond (.t 3) .skip (.seq (.reg [⟨(some 16), none, .fa 2 (.t 1)⟩, ⟨(some 17), none, .load false 1 (.t 16)⟩, ⟨(some 18), none, .bin .lss (.t 17) (.c (.int .i64 (0)))⟩, ⟨(some 3), none, .mv (.t 18)⟩])
  (.keep [1, 3] (.cond (.t 3) .skip (.seq (.reg [⟨(some 19), none, .fa 2 (.t 1)⟩, ⟨(some 20), none, .load false 1 (.t 19)⟩, ⟨(some 21), none, .fa 1 (.t 1)⟩, ⟨(some 22), none, .load false 1 (.t 21)⟩, ⟨(some 23), none, .bin .geq (.t 20) (.t 22)⟩, ⟨(some 3), none, .mv (.t 23)⟩])
  (.keep [1, 3] (.cond (.t 3) .skip (.reg [⟨(some 24), none, .fa 3 (.t 1)⟩, ⟨(some 25), none, .load false 1 (.t 24)⟩, ⟨(some 26), none, .len false (.t 25)⟩, ⟨(some 27), none, .bin .gtr (.t 26) (.c (.int .i64 (60)))⟩, ⟨(some 3), none, .mv (.t 27)⟩])))))))))))))))))))
  (.keep [1, 3] (.cond (.t 3) (.seq (.reg [⟨(some 2), none, .mv (.c (.bool false))⟩]) .ret) .skip))))
  (.keep [1] (.seq (.reg [⟨(some 28), none, .fa 3 (.t 1)⟩, ⟨(some 29), none, .load false 1 (.t 28)⟩, ⟨(some 30), none, .mkfn K.gram_Right_1 [] [(.t 1)]⟩, ⟨(some 31), none, .call (.c (.fn K.slices_ContainsFunc_Prod [] [])) [(.t 29), (.t 30)]⟩, ⟨(some 32), none, .un .not (.t 31)⟩, ⟨(some 2), none, .mv (.t 32)⟩]) .ret)))))⟩
def A.gram_Of.L0 : AC := .post (.seq (.reg [⟨(some 12), none, .bin .lss (.t 11) (.t 10)⟩])
  (.keep [1, 5, 9, 10, 11, 12] (.seq (.cond (.t 12) .skip (.exit 0))
  (.keep [1, 5, 9, 10, 11] (.seq (.block 1 (.seq (.reg [⟨(some 13), none, .mv (.t 11)⟩, ⟨(some 14), none, .ia 2 (.t 9) (.t 11)⟩, ⟨(some 15), none, .load true 2 (.t 14)⟩, ⟨(some 7), none, .alloc [(.int .i64 (0)), (.sl 0 1 [])]⟩, ⟨(some 6), none, .mv (.t 13)⟩, ⟨none, none, .store 2 (.t 7) (.t 15)⟩])
  (.keep [1, 5, 6, 7, 9, 10, 11] (.seq (.reg [⟨(some 16), none, .fa 0 (.t 7)⟩, ⟨(some 17), none, .load false 1 (.t 16)⟩, ⟨(some 18), none, .mv (.t 1)⟩, ⟨(some 19), none, .bin .eql (.t 17) (.t 18)⟩])
  (.keep [1, 5, 6, 9, 10, 11, 19] (.cond (.t 19) (.reg [⟨(some 20), none, .mv (.t 5)⟩, ⟨(some 21), none, .mv (.t 6)⟩, ⟨(some 22), none, .bsl 1 false [(.int .i64 (0))] 1 [(0, (.t 21))]⟩, ⟨(some 23), none, .app 1 8 (.t 20) (.t 22)⟩, ⟨(some 5), none, .mv (.t 23)⟩]) .skip))))))
  (.keep [1, 5, 9, 10, 11] (.reg [⟨(some 24), none, .bin .add (.t 11) (.c (.int .i64 (1)))⟩, ⟨(some 11), none, .mv (.t 24)⟩]))))))) [1, 5, 9, 10, 11]
def A.gram_Of : AFn := ⟨26, [(4, none)], (.seq (.reg [⟨(some 2), none, .box (.t 0)⟩, ⟨(some 4), none, .mv (.c (.sl 0 1 []))⟩])
  (.keep [1, 2] (.seq (.reg [⟨(some 5), none, .mv (.c (.sl 0 1 []))⟩])
  (.keep [1, 2, 5] (.seq (.seq (.reg [⟨(some 8), none, .fa 3 (.t 2)⟩, ⟨(some 9), none, .load false 1 (.t 8)⟩, ⟨(some 10), none, .len false (.t 9)⟩, ⟨(some 11), none, .mv (.c (.int .i64 (0)))⟩])
  (.keep [1, 5, 9, 10, 11] (.block 0 (.loop A.gram_Of.L0))))
  (.keep [5] (.seq (.reg [⟨(some 25), none, .mv (.t 5)⟩, ⟨(some 4), none, .mv (.t 25)⟩]) .ret)))))))⟩
def A.gram_Right_1 : AFn := ⟨8, [(3, none)], (.seq (.reg [⟨(some 2), none, .box (.t 0)⟩, ⟨(some 3), none, .mv (.c (.bool false))⟩])
  (.keep [1, 2] (.seq (.reg [⟨(some 4), none, .load true 4 (.t 1)⟩, ⟨(some 5), none, .load true 2 (.t 2)⟩, ⟨(some 6), none, .call (.c (.fn K.gram_fits [] [])) [(.t 4), (.t 5)]⟩, ⟨(some 7), none, .un .not (.t 6)⟩, ⟨(some 3), none, .mv (.t 7)⟩]) .ret)))⟩
def A.gram_fits : AFn := ⟨23, [(4, none)], (.seq (.reg [⟨(some 2), none, .box (.t 0)⟩, ⟨(some 3), none, .box (.t 1)⟩, ⟨(some 4), none, .mv (.c (.bool false))⟩])
  (.keep [2, 3] (.seq (.reg [⟨(some 5), none, .load true 4 (.t 2)⟩, ⟨(some 6), none, .fa 0 (.t 3)⟩, ⟨(some 7), none, .load false 1 (.t 6)⟩, ⟨(some 8), none, .bld [(.bool false), (.int .i64 (0))] [(0, 1, (.c (.bool true))), (1, 1, (.t 7))]⟩, ⟨(some 9), none, .call (.c (.fn K.gram_there [] [])) [(.t 5), (.t 8)]⟩, ⟨(some 10), none, .mv (.t 9)⟩, ⟨(some 11), (some (10, true)), .fa 1 (.t 3)⟩, ⟨(some 12), (some (10, true)), .load false 1 (.t 11)⟩, ⟨(some 13), (some (10, true)), .len false (.t 12)⟩, ⟨(some 14), (some (10, true)), .bin .leq (.t 13) (.c (.int .i64 (8)))⟩, ⟨(some 15), none, .pick (.t 10) (.t 14) (.c (.bool false))⟩, ⟨(some 16), none, .mv (.t 15)⟩, ⟨(some 17), (some (16, true)), .fa 1 (.t 3)⟩, ⟨(some 18), (some (16, true)), .load false 1 (.t 17)⟩, ⟨(some 19), (some (16, true)), .mkfn K.gram_fits_1 [] [(.t 2)]⟩, ⟨(some 20), (some (16, true)), .call (.c (.fn K.slices_ContainsFunc_Sym [] [])) [(.t 18), (.t 19)]⟩, ⟨(some 21), (some (16, true)), .un .not (.t 20)⟩, ⟨(some 22), none, .pick (.t 16) (.t 21) (.c (.bool false))⟩, ⟨(some 4), none, .mv (.t 22)⟩]) .ret)))⟩
def A.gram_there : AFn := ⟨21, [(4, none)], (.seq (.reg [⟨(some 2), none, .box (.t 0)⟩, ⟨(some 3), none, .box (.t 1)⟩, ⟨(some 4), none, .mv (.c (.bool false))⟩])
  (.keep [2, 3] (.seq (.reg [⟨(some 6), none, .fa 0 (.t 2)⟩, ⟨(some 7), none, .load false 1 (.t 6)⟩, ⟨(some 5), none, .mv (.t 7)⟩])
  (.keep [2, 3, 5] (.seq (.seq (.reg [⟨(some 8), none, .fa 0 (.t 3)⟩, ⟨(some 9), none, .load false 1 (.t 8)⟩])
  (.keep [2, 3, 5, 9] (.cond (.t 9) (.reg [⟨(some 10), none, .fa 1 (.t 2)⟩, ⟨(some 11), none, .load false 1 (.t 10)⟩, ⟨(some 5), none, .mv (.t 11)⟩]) .skip)))
  (.keep [3, 5] (.seq (.reg [⟨(some 12), none, .fa 1 (.t 3)⟩, ⟨(some 13), none, .load false 1 (.t 12)⟩, ⟨(some 14), none, .bin .geq (.t 13) (.c (.int .i64 (0)))⟩, ⟨(some 15), none, .mv (.t 14)⟩, ⟨(some 16), (some (15, true)), .fa 1 (.t 3)⟩, ⟨(some 17), (some (15, true)), .load false 1 (.t 16)⟩, ⟨(some 18), (some (15, true)), .mv (.t 5)⟩, ⟨(some 19), (some (15, true)), .bin .lss (.t 17) (.t 18)⟩, ⟨(some 20), none, .pick (.t 15) (.t 19) (.c (.bool false))⟩, ⟨(some 4), none, .mv (.t 20)⟩]) .ret)))))))⟩
def A.gram_fits_1 : AFn := ⟨8, [(3, none)], (.seq (.reg [⟨(some 2), none, .box (.t 0)⟩, ⟨(some 3), none, .mv (.c (.bool false))⟩])
  (.keep [1, 2] (.seq (.reg [⟨(some 4), none, .load true 4 (.t 1)⟩, ⟨(some 5), none, .load true 2 (.t 2)⟩, ⟨(some 6), none, .call (.c (.fn K.gram_there [] [])) [(.t 4), (.t 5)]⟩, ⟨(some 7), none, .un .not (.t 6)⟩, ⟨(some 3), none, .mv (.t 7)⟩]) .ret)))⟩
end Go.Proofs.Ytajaoldljichaaa.Al
namespace Go.Proofs.Ytajaoldljichaaa.Al
open Go Go.RowKit
set_option linter.unusedSimpArgs false
set_option linter.unusedVariables false
attribute [-simp] List.getD_eq_getElem?_getD Int.not_lt Int.not_le List.map_take
theorem ixf_prod : A.slices_IndexFunc_Prod = ixfF 2 true := rfl
theorem ixf_sym : A.slices_IndexFunc_Sym = ixfF 2 true := rfl
theorem ctf_prod : A.slices_ContainsFunc_Prod = ctfF K.slices_IndexFunc_Prod := rfl
theorem ctf_sym : A.slices_ContainsFunc_Sym = ctfF K.slices_IndexFunc_Sym := rfl
/-- A symbol, a production, a grammar. -/
structure Sy where
  non : Bool
  n : Int
  deriving DecidableEq
structure Pr where
  left : Int
  right : List Sy
  deriving DecidableEq
structure Gm where
  terms : Int
  nons : Int
  start : Int
  prods : List Pr
  deriving DecidableEq
def symC (s : Sy) : List V := [.bool s.non, .int .i64 s.n]
def symV (s : Sy) : V := .agg (symC s)
def prC (p : Pr) : List V := [.int .i64 p.left, .sl 2 0 (p.right.map symV)]
def prV (p : Pr) : V := .agg (prC p)
def gmC (g : Gm) : List V := [.int .i64 g.terms, .int .i64 g.nons, .int .i64 g.start, .sl 2 0 (g.prods.map prV)]
def gmV (g : Gm) : V := .agg (gmC g)
theorem encS : Enc symV 2 true := ⟨fun _ => rfl, fun _ => rfl, fun _ => rfl, fun a n m v hv => by simp [symV, symC, V.cells] at hv; rcases hv with rfl | rfl <;> simp⟩
theorem encP : Enc prV 2 true := ⟨fun _ => rfl, fun _ => rfl, fun _ => rfl, fun a n m v hv => by
  simp [prV, prC, V.cells] at hv
  rcases hv with rfl | rfl
  · simp
  · rw [Bdd_sl0]; exact ⟨by omega, encS.cells n m a.right⟩⟩
theorem Wk.a4 {d d' : V} (w : Wk d d') (a b c : V) : Wk (.agg [a, b, c, d]) (.agg [a, b, c, d']) := .agg _ _ rfl fun i h1 h2 => by
  match i with
  | 0 => exact .same _
  | 1 => exact .same _
  | 2 => exact .same _
  | 3 => exact w
  | n + 4 => simp at h1; omega
theorem gm_bdd (g : Gm) (n m : Nat) : ∀ v ∈ gmC g, Bdd n m v := by
  intro v hv
  simp [gmC] at hv
  rcases hv with rfl | rfl | rfl | rfl
  · simp
  · simp
  · simp
  · rw [Bdd_sl0]; exact ⟨by omega, encP.cells n m g.prods⟩
def thereG (g : Gm) (s : Sy) : Bool := decide (0 ≤ s.n) && decide (s.n < if s.non = true then g.nons else g.terms)
def fitsG (g : Gm) (p : Pr) : Bool := thereG g ⟨true, p.left⟩ && decide (p.right.length ≤ 8) && p.right.all (thereG g)
def headG (g : Gm) : Bool := decide (0 ≤ g.terms) && decide (g.terms ≤ 16) && decide (1 ≤ g.nons) && decide (g.nons ≤ 24) && decide (0 ≤ g.start) && decide (g.start < g.nons) && decide (g.prods.length ≤ 60)
def rightG (g : Gm) : Bool := headG g && g.prods.all (fitsG g)
theorem not_any_not {α : Type} (f : α → Bool) : ∀ l : List α, (!l.any fun a => !f a) = l.all f
  | [] => rfl
  | a :: l => by have := not_any_not f l; simp only [List.any_cons, List.all_cons, Bool.not_or, Bool.not_not, this]
section
variable {X : Cx} {h : AH} {Q : V → AH → Prop}
/-- What layer 3's program calls. -/
structure LGr (X : Cx) : Prop where
  there : Has (Ecx X) K.gram_there A.gram_there
  fits : Has (Ecx X) K.gram_fits A.gram_fits
  fits1 : Has (Ecx X) K.gram_fits_1 A.gram_fits_1
  right : Has (Ecx X) K.gram_Right A.gram_Right
  right1 : Has (Ecx X) K.gram_Right_1 A.gram_Right_1
  ctP : Has (Ecx X) K.slices_ContainsFunc_Prod A.slices_ContainsFunc_Prod
  ctS : Has (Ecx X) K.slices_ContainsFunc_Sym A.slices_ContainsFunc_Sym
  ixP : Has (Ecx X) K.slices_IndexFunc_Prod A.slices_IndexFunc_Prod
  ixS : Has (Ecx X) K.slices_IndexFunc_Sym A.slices_IndexFunc_Sym
theorem there_spec (H : Has (Ecx X) K.gram_there A.gram_there) (g : Gm) (s : Sy) (hQ : Q (.bool (thereG g s)) h) : Ecx X K.gram_there [gmV g, symV s] h Q := by
  refine fn_walk H (by simp [A.gram_there]) fun wf => ?_
  have gr := ((Gr.refl h).new (gmC g)).new (symC s)
  obtain ⟨non, n⟩ := s
  unfold thereG at hQ
  cases non <;> by_cases c1 : 0 ≤ n
  · by_cases c2 : n < g.terms <;> simp [A.gram_there, gmV, symV, gmC, symC, V.cells, V.good, c1, c2] at hQ gr ⊢ <;> exact fin_wk gr (.same _) (by simp) hQ
  · simp [A.gram_there, gmV, symV, gmC, symC, V.cells, V.good, c1] at hQ gr ⊢; exact fin_wk gr (.same _) (by simp) hQ
  · by_cases c2 : n < g.nons <;> simp [A.gram_there, gmV, symV, gmC, symC, V.cells, V.good, c1, c2] at hQ gr ⊢ <;> exact fin_wk gr (.same _) (by simp) hQ
  · simp [A.gram_there, gmV, symV, gmC, symC, V.cells, V.good, c1] at hQ gr ⊢; exact fin_wk gr (.same _) (by simp) hQ
theorem fits1_spec (L : LGr X) (g : Gm) (s : Sy) (o : Nat) (ho : h.objs o = gmC g) (hQ : Q (.bool (!thereG g s)) h) : Ecx X K.gram_fits_1 [symV s, .ptr o 0] h Q := by
  refine Ecx.bdd fun hb => fn_walk L.fits1 (by simp [A.gram_fits_1]) fun wf => ?_
  have hol : o < h.nobj := by have := hb (.ptr o 0) (by simp); simpa using this
  have n1 : ¬ o = h.nobj := by omega
  have gr := (Gr.refl h).new (symC s)
  simp [A.gram_fits_1, symV, V.cells, V.good, n1, ho, show (gmC g).length = 4 from rfl, show (gmC g).take 4 = gmC g from rfl, show (symC s).length = 2 from rfl, show (symC s).take 2 = symC s from rfl]
  refine ecall (there_spec L.there g s ?_)
  simp
  exact fin_wk gr (.same _) (by simp) hQ
theorem gm4 (g : Gm) : (gmC g).length = 4 ∧ (gmC g).take 4 = gmC g := ⟨rfl, rfl⟩
theorem pr2 (p : Pr) : (prC p).length = 2 ∧ (prC p).take 2 = prC p := ⟨rfl, rfl⟩
theorem fits_spec3 (L : LGr X) (g : Gm) (p : Pr) (hl : p.right.length ≤ maxLen) (hQ : Q (.bool (fitsG g p)) h) : Ecx X K.gram_fits [gmV g, prV p] h Q := by
  refine fn_walk L.fits (by simp [A.gram_fits]) fun wf => ?_
  have gr := ((Gr.refl h).new (gmC g)).new (prC p)
  simp [A.gram_fits, gmV, prV, V.cells, V.good, gm4, fillV, setAt, show prC p = [.int .i64 p.left, .sl 2 0 (p.right.map symV)] from rfl]
  refine ecall (there_spec L.there g ⟨true, p.left⟩ ?_)
  unfold fitsG at hQ
  cases ht : thereG g ⟨true, p.left⟩ with
  | false => rw [ht] at hQ; simp at hQ ⊢; exact fin_wk gr (.same _) (by simp) hQ
  | true =>
    rw [ht] at hQ
    by_cases c : p.right.length ≤ 8
    · have c' : (p.right.length : Int) ≤ 8 := by omega
      simp [c] at hQ
      simp [c']
      have hcs := L.ctS
      have hxs := L.ixS
      rw [ctf_sym] at hcs
      rw [ixf_sym] at hxs
      refine ecall (containsFunc encS hcs hxs p.right 0 _ [] _ (fun s => !thereG g s) (by omega) (fun s _ Q' h' gr' hQ' => ?_) ?_)
      · refine fits1_spec L g s h.nobj ?_ hQ'
        rw [gr'.objs _ (by simp)]; simp
      · simp [not_any_not]
        exact fin_wk gr (.same _) (by simp) hQ
    · have c' : ¬ (p.right.length : Int) ≤ 8 := by omega
      simp [c] at hQ
      simp [c']
      exact fin_wk gr (.same _) (by simp) hQ
theorem right1_spec (L : LGr X) (g : Gm) (p : Pr) (o : Nat) (ho : h.objs o = gmC g) (hl : p.right.length ≤ maxLen) (hQ : Q (.bool (!fitsG g p)) h) : Ecx X K.gram_Right_1 [prV p, .ptr o 0] h Q := by
  refine Ecx.bdd fun hb => fn_walk L.right1 (by simp [A.gram_Right_1]) fun wf => ?_
  have hol : o < h.nobj := by have := hb (.ptr o 0) (by simp); simpa using this
  have n1 : ¬ o = h.nobj := by omega
  have gr := (Gr.refl h).new (prC p)
  simp [A.gram_Right_1, prV, V.cells, V.good, n1, ho, gm4, pr2]
  refine ecall (fits_spec3 L g p hl ?_)
  simp
  exact fin_wk gr (.same _) (by simp) hQ
/-- A grammar that may be handed in. -/
structure GmOk (g : Gm) : Prop where
  len : g.prods.length ≤ maxLen
  rl : ∀ p ∈ g.prods, p.right.length ≤ maxLen
theorem right3R (L : LGr X) (g : Gm) (ok : GmOk g) (hQ : Q (.bool (rightG g)) h) : Ecx X K.gram_Right [gmV g] h Q := by
  refine fn_walk L.right (by simp [A.gram_Right]) fun wf => ?_
  have gr := (Gr.refl h).new (gmC g)
  unfold rightG headG at hQ
  simp [A.gram_Right, gmV, V.cells, V.good, show gmC g = [.int .i64 g.terms, .int .i64 g.nons, .int .i64 g.start, .sl 2 0 (g.prods.map prV)] from rfl] at gr ⊢
  by_cases c1 : g.terms < 0
  · simp [c1, show ¬ 0 ≤ g.terms by omega] at hQ ⊢; exact fin_wk gr (.same _) (by simp) hQ
  by_cases c2 : 16 < g.terms
  · simp [c1, c2, show ¬ g.terms ≤ 16 by omega] at hQ ⊢; exact fin_wk gr (.same _) (by simp) hQ
  by_cases c3 : g.nons < 1
  · simp [c1, c2, c3, show ¬ 1 ≤ g.nons by omega] at hQ ⊢; exact fin_wk gr (.same _) (by simp) hQ
  by_cases c4 : 24 < g.nons
  · simp [c1, c2, c3, c4, show ¬ g.nons ≤ 24 by omega] at hQ ⊢; exact fin_wk gr (.same _) (by simp) hQ
  by_cases c5 : g.start < 0
  · simp [c1, c2, c3, c4, c5, show ¬ 0 ≤ g.start by omega] at hQ ⊢; exact fin_wk gr (.same _) (by simp) hQ
  by_cases c6 : g.nons ≤ g.start
  · simp [c1, c2, c3, c4, c5, c6, show ¬ g.start < g.nons by omega] at hQ ⊢; exact fin_wk gr (.same _) (by simp) hQ
  by_cases c7 : (60 : Int) < g.prods.length
  · simp [c1, c2, c3, c4, c5, c6, c7, show ¬ g.prods.length ≤ 60 by omega] at hQ ⊢; exact fin_wk gr (.same _) (by simp) hQ
  simp [show 0 ≤ g.terms by omega, show g.terms ≤ 16 by omega, show 1 ≤ g.nons by omega, show g.nons ≤ 24 by omega, show 0 ≤ g.start by omega, show g.start < g.nons by omega, show g.prods.length ≤ 60 by omega] at hQ
  simp [c1, c2, c3, c4, c5, c6, c7]
  have hcs := L.ctP
  have hxs := L.ixP
  rw [ctf_prod] at hcs
  rw [ixf_prod] at hxs
  refine ecall (containsFunc encP hcs hxs g.prods 0 _ [] _ (fun p => !fitsG g p) (by omega) (fun p hp Q' h' gr' hQ' => ?_) ?_)
  · refine right1_spec L g p h.nobj ?_ (ok.rl p hp) hQ'
    rw [gr'.objs _ (by simp)]; simp; rfl
  · simp [not_any_not]
    exact fin_wk gr (.same _) (by simp) hQ
/-! ### A nonterminal's productions -/
def ofF (non : Int) : List Pr → Nat → List Int
  | [], _ => []
  | p :: l, i => (if p.left = non then [(i : Int)] else []) ++ ofF non l (i + 1)
def ofG (g : Gm) (non : Int) : List Int := ofF non g.prods 0
theorem ofF_len (non : Int) : ∀ (l : List Pr) (i : Nat), (ofF non l i).length ≤ l.length
  | [], i => by simp [ofF]
  | p :: l, i => by have := ofF_len non l (i + 1); simp only [ofF, List.length_append, List.length_cons]; split <;> simp <;> omega
theorem ofP_spec (H : Has (Ecx X) K.gram_Of A.gram_Of) (g : Gm) (non : Int) (hl : g.prods.length ≤ 2 ^ 40) (hQ : Q (.sl 1 0 (ints (ofG g non))) h) : Ecx X K.gram_Of [gmV g, .int .i64 non] h Q := by
  refine fn_walk H (by simp [A.gram_Of]) fun wf => ?_
  have gr := (Gr.refl h).new (gmC g)
  have hgc : gmC g = [.int .i64 g.terms, .int .i64 g.nons, .int .i64 g.start, .sl 2 0 (g.prods.map prV)] := rfl
  simp [A.gram_Of, gmV, V.cells, V.good, hgc] at gr ⊢
  have htl := ofF_len non g.prods 0
  refine loopI (n := g.prods.length) (fun n env h' => ∃ k out e1 st, k ≤ g.prods.length ∧ n = g.prods.length - k ∧ env = [(1, .int .i64 non), (5, .sl e1 st (ints out)), (9, .sl 2 0 (g.prods.map prV)), (10, .int .i64 g.prods.length), (11, .int .i64 k)] ∧ Own h h' 1 e1 st (ints out) ∧ out ++ ofF non (g.prods.drop k) k = ofG g non) ?_
    ⟨0, [], 0, 1, by omega, by omega, rfl, ⟨gr, .inl rfl, .inl rfl⟩, rfl⟩
  rintro n env h' ⟨k, out, e1, st, hk, rfl, rfl, ow, ho⟩
  unfold A.gram_Of.L0
  have hol : out.length ≤ g.prods.length := by have := congrArg List.length ho; simp [ofG] at this; unfold ofG at *; omega
  by_cases hlt : k < g.prods.length
  · have hlt' : (k : Int) < g.prods.length := by omega
    have hg : (g.prods.map prV).getD k .undef = prV g.prods[k] := Enc.getD hlt
    have hw1 : IntKind.i64.wrap ((k : Int) + 1) = ((k + 1 : Nat) : Int) := by rw [wrap_i64 (by omega) (by omega)]; rfl
    rw [List.drop_eq_getElem_cons hlt, ofF] at ho
    generalize g.prods[k] = p at *
    have ow2 : Own h (h'.new (prC p)) 1 e1 st (ints out) := ⟨ow.gr.new _, ow.el, ow.st⟩
    by_cases c : p.left = non
    · rw [if_pos c] at ho
      simp [hlt', hg, prV, V.cells, V.good, prC, setAt, c, fillL, V.isAgg, hw1] at ow2 ⊢
      refine ow2.appZ (fun _ => rfl) (by simp; omega) fun e2 st2 h2 o2 _ _ => ?_
      have em : ints out ++ [V.int .i64 k] = ints (out ++ [(k : Int)]) := by simp [ints]
      rw [em] at o2 ⊢
      simp
      exact ⟨g.prods.length - (k + 1), by omega, iv ⟨k + 1, out ++ [(k : Int)], e2, st2, by omega, rfl, by rw [hw1], o2, by rw [← ho]; simp⟩⟩
    · rw [if_neg c, List.nil_append] at ho
      simp [hlt', hg, prV, V.cells, V.good, prC, setAt, c, hw1] at ow2 ⊢
      exact ⟨g.prods.length - (k + 1), by omega, iv ⟨k + 1, out, e1, st, by omega, rfl, by first | rfl | rw [hw1], ow2, ho⟩⟩
  · have hlt' : ¬ (k : Int) < g.prods.length := by omega
    obtain rfl : k = g.prods.length := by omega
    rw [List.drop_length, ofF, List.append_nil] at ho
    rw [ho] at ow ⊢
    simp [hlt']
    exact fin_own ow (Bdd_ints _ _ _) hQ
/-! ### A copy -/
end
end Go.Proofs.Ytajaoldljichaaa.Al
namespace Go.Proofs.Ytajaoldljichaaa.Al
open Go Go.RowKit
def prG (g : Gm) (i : Int) : Pr := g.prods.getD i.toNat ⟨0, []⟩
theorem prG_get {g : Gm} {i : Int} (h0 : 0 ≤ i) (h1 : i < g.prods.length) : ∃ n : Nat, i = n ∧ ∃ hn : n < g.prods.length, prG g i = g.prods[n] ∧ (g.prods.map prV).getD n .undef = prV (prG g i) := by
  obtain ⟨n, rfl⟩ : ∃ n : Nat, i = n := ⟨i.toNat, by omega⟩
  have hn : n < g.prods.length := by omega
  refine ⟨n, rfl, hn, by simp [prG, List.getD_eq_getElem?_getD, hn], ?_⟩
  rw [Enc.getD hn]; simp [prG, List.getD_eq_getElem?_getD, hn]
end Go.Proofs.Ytajaoldljichaaa.Al
namespace Go.Proofs.Ytajaoldljichaaa.Al
def A.closed_Closed : AFn := ⟨18, [(6, none)], (.seq (.reg [⟨(some 3), none, .box (.t 0)⟩, ⟨(some 6), none, .mv (.c (.bool false))⟩])
  (.keep [1, 2, 3] (.seq (.reg [⟨(some 8), none, .load true 4 (.t 3)⟩, ⟨(some 9), none, .mv (.t 1)⟩, ⟨(some 10), none, .mv (.t 2)⟩, ⟨(some 11), none, .call (.c (.fn K.closed_look [] [])) [(.t 8), (.t 9), (.t 10)]⟩, ⟨(some 7), none, .mv (.t 11)⟩])
  (.keep [7] (.seq (.reg [⟨(some 12), none, .mv (.t 7)⟩, ⟨(some 13), none, .isnil true true (.t 12)⟩, ⟨(some 14), none, .mv (.t 13)⟩, ⟨(some 15), (some (14, true)), .mv (.t 7)⟩, ⟨(some 16), (some (14, true)), .call (.c (.fn K.closed_looker_closed [] [])) [(.t 15)]⟩, ⟨(some 17), none, .pick (.t 14) (.t 16) (.c (.bool false))⟩, ⟨(some 6), none, .mv (.t 17)⟩]) .ret)))))⟩
def A.closed_Alone : AFn := ⟨59, [(8, none)], (.seq (.reg [⟨(some 4), none, .box (.t 0)⟩, ⟨(some 8), none, .mv (.c (.bool false))⟩])
  (.keep [1, 2, 3, 4] (.seq (.reg [⟨(some 14), none, .load true 4 (.t 4)⟩, ⟨(some 15), none, .mv (.t 1)⟩, ⟨(some 16), none, .mv (.t 2)⟩, ⟨(some 17), none, .call (.c (.fn K.closed_look [] [])) [(.t 14), (.t 15), (.t 16)]⟩, ⟨(some 9), none, .mv (.t 17)⟩])
  (.keep [1, 2, 3, 4, 9] (.seq (.seq (.reg [⟨(some 18), none, .mv (.t 9)⟩, ⟨(some 19), none, .isnil false true (.t 18)⟩, ⟨(some 20), none, .mv (.t 19)⟩, ⟨(some 21), (some (20, false)), .mv (.t 2)⟩, ⟨(some 22), (some (20, false)), .len false (.t 21)⟩, ⟨(some 23), (some (20, false)), .mv (.t 1)⟩, ⟨(some 24), (some (20, false)), .len false (.t 23)⟩, ⟨(some 25), (some (20, false)), .bin .add (.t 24) (.c (.int .i64 (1)))⟩, ⟨(some 26), (some (20, false)), .bin .neq (.t 22) (.t 25)⟩, ⟨(some 27), none, .pick (.t 20) (.c (.bool true)) (.t 26)⟩, ⟨(some 28), none, .mv (.t 27)⟩, ⟨(some 29), (some (28, false)), .mv (.t 9)⟩, ⟨(some 30), (some (28, false)), .call (.c (.fn K.closed_looker_closed [] [])) [(.t 29)]⟩, ⟨(some 31), (some (28, false)), .un .not (.t 30)⟩, ⟨(some 32), none, .pick (.t 28) (.c (.bool true)) (.t 31)⟩])
  (.keep [1, 3, 4, 9, 32] (.cond (.t 32) (.seq (.reg [⟨(some 8), none, .mv (.c (.bool false))⟩]) .ret) .skip)))
  (.keep [1, 3, 4, 9] (.seq (.reg [⟨(some 34), none, .load true 4 (.t 4)⟩, ⟨(some 35), none, .mv (.t 3)⟩, ⟨(some 36), none, .call (.c (.fn K.tree_Replay [] [])) [(.t 34), (.t 35)]⟩, ⟨(some 33), none, .mv (.t 36)⟩, ⟨(some 37), none, .ext (.t 33) 0⟩, ⟨(some 38), none, .ext (.t 33) 1⟩, ⟨(some 10), none, .mv (.t 37)⟩, ⟨(some 11), none, .mv (.t 38)⟩])
  (.keep [1, 3, 4, 9, 10, 11] (.seq (.reg [⟨(some 40), none, .load true 4 (.t 4)⟩, ⟨(some 41), none, .mv (.t 3)⟩, ⟨(some 42), none, .call (.c (.fn K.tree_Nodes [] [])) [(.t 40), (.t 41)]⟩, ⟨(some 39), none, .mv (.t 42)⟩, ⟨(some 43), none, .ext (.t 39) 0⟩, ⟨(some 44), none, .ext (.t 39) 1⟩, ⟨(some 12), none, .mv (.t 43)⟩, ⟨(some 13), none, .mv (.t 44)⟩])
  (.keep [1, 9, 10, 11, 12] (.seq (.reg [⟨(some 45), none, .mv (.t 11)⟩, ⟨(some 46), none, .bin .eql (.t 45) (.c (.int .i64 (0)))⟩, ⟨(some 47), none, .mv (.t 46)⟩, ⟨(some 48), (some (47, true)), .mv (.t 10)⟩, ⟨(some 49), (some (47, true)), .mv (.t 1)⟩, ⟨(some 50), (some (47, true)), .call (.c (.fn K.slices_Equal_int [] [])) [(.t 48), (.t 49)]⟩, ⟨(some 51), none, .pick (.t 47) (.t 50) (.c (.bool false))⟩, ⟨(some 52), none, .mv (.t 51)⟩, ⟨(some 53), (some (52, true)), .mv (.t 12)⟩, ⟨(some 54), (some (52, true)), .mv (.t 9)⟩, ⟨(some 55), (some (52, true)), .mkfn K.closed_looker_other [(.t 54)] []⟩, ⟨(some 56), (some (52, true)), .call (.c (.fn K.slices_ContainsFunc_Node [] [])) [(.t 53), (.t 55)]⟩, ⟨(some 57), (some (52, true)), .un .not (.t 56)⟩, ⟨(some 58), none, .pick (.t 52) (.t 57) (.c (.bool false))⟩, ⟨(some 8), none, .mv (.t 58)⟩]) .ret)))))))))))⟩
def A.closed_looker_closed.L1 : AC := .post (.seq (.reg [⟨(some 30), none, .bin .lss (.t 29) (.t 28)⟩])
  (.keep [0, 3, 20, 21, 22, 27, 28, 29, 30] (.seq (.cond (.t 30) .skip (.exit 2))
  (.keep [0, 3, 20, 21, 22, 27, 28, 29] (.seq (.block 3 (.seq (.reg [⟨(some 31), none, .ia 3 (.t 27) (.t 29)⟩, ⟨(some 32), none, .load true 3 (.t 31)⟩, ⟨(some 6), none, .alloc [(.int .i64 (0)), (.int .i64 (0)), (.int .i64 (0))]⟩, ⟨none, none, .store 3 (.t 6) (.t 32)⟩])
  (.keep [0, 3, 6, 20, 21, 22, 27, 28, 29] (.seq (.reg [⟨(some 33), none, .mv (.t 0)⟩, ⟨(some 34), none, .mv (.t 0)⟩, ⟨(some 35), none, .load true 3 (.t 6)⟩, ⟨(some 36), none, .mv (.t 3)⟩, ⟨(some 37), none, .call (.c (.fn K.closed_looker_follows [] [])) [(.t 34), (.t 35), (.t 36)]⟩, ⟨(some 38), none, .call (.c (.fn K.closed_looker_all [] [])) [(.t 33), (.t 37)]⟩, ⟨(some 39), none, .un .not (.t 38)⟩])
  (.keep [0, 3, 20, 21, 22, 27, 28, 29, 39] (.cond (.t 39) (.seq (.reg [⟨(some 2), none, .mv (.c (.bool false))⟩]) .ret) .skip))))))
  (.keep [0, 3, 20, 21, 22, 27, 28, 29] (.reg [⟨(some 40), none, .bin .add (.t 29) (.c (.int .i64 (1)))⟩, ⟨(some 29), none, .mv (.t 40)⟩]))))))) [0, 3, 20, 21, 22, 27, 28, 29]
def A.closed_looker_closed.L0 : AC := .post (.seq (.reg [⟨(some 23), none, .bin .lss (.t 22) (.t 21)⟩])
  (.keep [0, 20, 21, 22, 23] (.seq (.cond (.t 23) .skip (.exit 0))
  (.keep [0, 20, 21, 22] (.seq (.block 1 (.seq (.reg [⟨(some 24), none, .mv (.t 22)⟩, ⟨(some 25), none, .ia 1 (.t 20) (.t 22)⟩, ⟨(some 26), none, .load false 1 (.t 25)⟩, ⟨(some 3), none, .mv (.t 24)⟩, ⟨(some 4), none, .mv (.t 26)⟩])
  (.keep [0, 3, 4, 20, 21, 22] (.seq (.reg [⟨(some 27), none, .mv (.t 4)⟩, ⟨(some 28), none, .len false (.t 27)⟩, ⟨(some 29), none, .mv (.c (.int .i64 (0)))⟩])
  (.keep [0, 3, 20, 21, 22, 27, 28, 29] (.block 2 (.loop A.closed_looker_closed.L1)))))))
  (.keep [0, 20, 21, 22] (.reg [⟨(some 41), none, .bin .add (.t 22) (.c (.int .i64 (1)))⟩, ⟨(some 22), none, .mv (.t 41)⟩]))))))) [0, 20, 21, 22]
def A.closed_looker_closed : AFn := ⟨42, [(2, none)], (.seq (.reg [⟨(some 2), none, .mv (.c (.bool false))⟩])
  (.keep [0] (.seq (.seq (.reg [⟨(some 7), none, .mv (.t 0)⟩, ⟨(some 8), none, .mv (.t 0)⟩, ⟨(some 9), none, .mv (.t 0)⟩, ⟨(some 10), none, .nilchk (.t 9)⟩, ⟨(some 11), none, .fa 0 (.t 10)⟩, ⟨(some 12), none, .fa 2 (.t 11)⟩, ⟨(some 13), none, .load false 1 (.t 12)⟩, ⟨(some 14), none, .call (.c (.fn K.closed_looker_begins [] [])) [(.t 8), (.t 13), (.c (.int .i64 (0)))]⟩, ⟨(some 15), none, .call (.c (.fn K.closed_looker_all [] [])) [(.t 7), (.t 14)]⟩, ⟨(some 16), none, .un .not (.t 15)⟩])
  (.keep [0, 16] (.cond (.t 16) (.seq (.reg [⟨(some 2), none, .mv (.c (.bool false))⟩]) .ret) .skip)))
  (.keep [0] (.seq (.seq (.reg [⟨(some 17), none, .mv (.t 0)⟩, ⟨(some 18), none, .nilchk (.t 17)⟩, ⟨(some 19), none, .fa 5 (.t 18)⟩, ⟨(some 20), none, .load false 1 (.t 19)⟩, ⟨(some 21), none, .len false (.t 20)⟩, ⟨(some 22), none, .mv (.c (.int .i64 (0)))⟩])
  (.keep [0, 20, 21, 22] (.block 0 (.loop A.closed_looker_closed.L0))))
  (.keep [] (.seq (.reg [⟨(some 2), none, .mv (.c (.bool true))⟩]) .ret)))))))⟩
def A.closed_looker_other.L0 : AC := .post (.seq (.reg [⟨(some 44), none, .bin .lss (.t 43) (.t 42)⟩])
  (.keep [0, 3, 5, 6, 7, 41, 42, 43, 44] (.seq (.cond (.t 44) .skip (.exit 0))
  (.keep [0, 3, 5, 6, 7, 41, 42, 43] (.seq (.block 1 (.seq (.reg [⟨(some 45), none, .ia 1 (.t 41) (.t 43)⟩, ⟨(some 46), none, .load false 1 (.t 45)⟩, ⟨(some 9), none, .mv (.t 46)⟩])
  (.keep [0, 3, 5, 6, 7, 9, 41, 42, 43] (.seq (.reg [⟨(some 47), none, .mv (.t 9)⟩, ⟨(some 48), none, .fa 0 (.t 3)⟩, ⟨(some 49), none, .load false 1 (.t 48)⟩, ⟨(some 50), none, .bin .neq (.t 47) (.t 49)⟩, ⟨(some 51), none, .mv (.t 50)⟩, ⟨(some 52), (some (51, true)), .mv (.t 0)⟩, ⟨(some 53), (some (51, true)), .mv (.t 9)⟩, ⟨(some 54), (some (51, true)), .mv (.t 0)⟩, ⟨(some 55), (some (51, true)), .nilchk (.t 54)⟩, ⟨(some 56), (some (51, true)), .fa 0 (.t 55)⟩, ⟨(some 57), (some (51, true)), .fa 3 (.t 56)⟩, ⟨(some 58), (some (51, true)), .load false 1 (.t 57)⟩, ⟨(some 59), (some (51, true)), .mv (.t 9)⟩, ⟨(some 60), (some (51, true)), .ia 2 (.t 58) (.t 59)⟩, ⟨(some 61), (some (51, true)), .fa 1 (.t 60)⟩, ⟨(some 62), (some (51, true)), .load false 1 (.t 61)⟩, ⟨(some 63), (some (51, true)), .len false (.t 62)⟩, ⟨(some 64), (some (51, true)), .mv (.t 6)⟩, ⟨(some 65), (some (51, true)), .bld [(.int .i64 (0)), (.int .i64 (0)), (.int .i64 (0))] [(0, 1, (.t 53)), (1, 1, (.t 63)), (2, 1, (.t 64))]⟩, ⟨(some 66), (some (51, true)), .mv (.t 7)⟩, ⟨(some 67), (some (51, true)), .call (.c (.fn K.closed_looker_has [] [])) [(.t 52), (.t 65), (.t 66)]⟩, ⟨(some 68), none, .pick (.t 51) (.t 67) (.c (.bool false))⟩])
  (.keep [0, 3, 5, 6, 7, 41, 42, 43, 68] (.cond (.t 68) (.seq (.reg [⟨(some 4), none, .mv (.c (.bool true))⟩]) .ret) .skip))))))
  (.keep [0, 3, 5, 6, 7, 41, 42, 43] (.reg [⟨(some 69), none, .bin .add (.t 43) (.c (.int .i64 (1)))⟩, ⟨(some 43), none, .mv (.t 69)⟩]))))))) [0, 3, 5, 6, 7, 41, 42, 43]
def A.closed_looker_other.L2 : AC := .post (.seq (.seq (.reg [⟨(some 85), none, .mv (.t 13)⟩, ⟨(some 86), none, .mv (.t 12)⟩, ⟨(some 87), none, .bin .leq (.t 85) (.t 86)⟩])
  (.keep [0, 3, 6, 10, 11, 12, 13, 71, 72, 73, 87] (.cond (.t 87) .skip (.exit 4))))
  (.keep [0, 3, 6, 10, 11, 12, 13, 71, 72, 73] (.seq (.block 5 (.seq (.reg [⟨(some 90), none, .mv (.t 13)⟩, ⟨(some 91), none, .fa 1 (.t 3)⟩, ⟨(some 92), none, .load false 1 (.t 91)⟩, ⟨(some 93), none, .mv (.t 10)⟩, ⟨(some 94), none, .ia 1 (.t 92) (.t 93)⟩, ⟨(some 95), none, .load false 1 (.t 94)⟩, ⟨(some 96), none, .bin .neq (.t 90) (.t 95)⟩, ⟨(some 97), none, .mv (.t 96)⟩, ⟨(some 98), (some (97, true)), .mv (.t 0)⟩, ⟨(some 99), (some (97, true)), .fa 0 (.t 3)⟩, ⟨(some 100), (some (97, true)), .load false 1 (.t 99)⟩, ⟨(some 101), (some (97, true)), .mv (.t 10)⟩, ⟨(some 102), (some (97, true)), .mv (.t 6)⟩, ⟨(some 103), (some (97, true)), .bld [(.int .i64 (0)), (.int .i64 (0)), (.int .i64 (0))] [(0, 1, (.t 100)), (1, 1, (.t 101)), (2, 1, (.t 102))]⟩, ⟨(some 104), (some (97, true)), .mv (.t 13)⟩, ⟨(some 105), (some (97, true)), .call (.c (.fn K.closed_looker_has [] [])) [(.t 98), (.t 103), (.t 104)]⟩, ⟨(some 106), none, .pick (.t 97) (.t 105) (.c (.bool false))⟩, ⟨(some 107), none, .mv (.t 106)⟩, ⟨(some 108), (some (107, true)), .mv (.t 0)⟩, ⟨(some 109), (some (107, true)), .load true 2 (.t 11)⟩, ⟨(some 110), (some (107, true)), .mv (.t 13)⟩, ⟨(some 111), (some (107, true)), .mv (.t 12)⟩, ⟨(some 112), (some (107, true)), .call (.c (.fn K.closed_looker_leads [] [])) [(.t 108), (.t 109), (.t 110), (.t 111)]⟩, ⟨(some 113), none, .pick (.t 107) (.t 112) (.c (.bool false))⟩])
  (.keep [0, 3, 6, 10, 11, 12, 13, 71, 72, 73, 113] (.cond (.t 113) (.seq (.reg [⟨(some 4), none, .mv (.c (.bool true))⟩]) .ret) .skip))))
  (.keep [0, 3, 6, 10, 11, 12, 13, 71, 72, 73] (.reg [⟨(some 88), none, .mv (.t 13)⟩, ⟨(some 89), none, .bin .add (.t 88) (.c (.int .i64 (1)))⟩, ⟨(some 13), none, .mv (.t 89)⟩]))))) [0, 3, 6, 10, 11, 12, 13, 71, 72, 73]
def A.closed_looker_other.L1 : AC := .post (.seq (.reg [⟨(some 74), none, .bin .lss (.t 73) (.t 72)⟩])
  (.keep [0, 3, 6, 71, 72, 73, 74] (.seq (.cond (.t 74) .skip (.exit 2))
  (.keep [0, 3, 6, 71, 72, 73] (.seq (.block 3 (.seq (.reg [⟨(some 75), none, .mv (.t 73)⟩, ⟨(some 76), none, .ia 2 (.t 71) (.t 73)⟩, ⟨(some 77), none, .load true 2 (.t 76)⟩, ⟨(some 11), none, .alloc [(.bool false), (.int .i64 (0))]⟩, ⟨(some 10), none, .mv (.t 75)⟩, ⟨none, none, .store 2 (.t 11) (.t 77)⟩])
  (.keep [0, 3, 6, 10, 11, 71, 72, 73] (.seq (.reg [⟨(some 78), none, .fa 1 (.t 3)⟩, ⟨(some 79), none, .load false 1 (.t 78)⟩, ⟨(some 80), none, .mv (.t 10)⟩, ⟨(some 81), none, .bin .add (.t 80) (.c (.int .i64 (1)))⟩, ⟨(some 82), none, .ia 1 (.t 79) (.t 81)⟩, ⟨(some 83), none, .load false 1 (.t 82)⟩, ⟨(some 12), none, .mv (.t 83)⟩])
  (.keep [0, 3, 6, 10, 11, 12, 71, 72, 73] (.seq (.reg [⟨(some 84), none, .mv (.t 6)⟩, ⟨(some 13), none, .mv (.t 84)⟩])
  (.keep [0, 3, 6, 10, 11, 12, 13, 71, 72, 73] (.block 4 (.loop A.closed_looker_other.L2)))))))))
  (.keep [0, 3, 6, 71, 72, 73] (.reg [⟨(some 114), none, .bin .add (.t 73) (.c (.int .i64 (1)))⟩, ⟨(some 73), none, .mv (.t 114)⟩]))))))) [0, 3, 6, 71, 72, 73]
def A.closed_looker_other : AFn := ⟨115, [(4, none)], (.seq (.reg [⟨(some 3), none, .box (.t 1)⟩, ⟨(some 4), none, .mv (.c (.bool false))⟩])
  (.keep [0, 3] (.seq (.draw [(.pl, ⟨(some 14), none, .mv (.t 0)⟩), (.pl, ⟨(some 15), none, .nilchk (.t 14)⟩), (.pl, ⟨(some 16), none, .fa 0 (.t 15)⟩), (.pl, ⟨(some 17), none, .fa 3 (.t 16)⟩), (.fl, ⟨(some 18), none, .load false 1 (.t 17)⟩), (.pl, ⟨(some 19), none, .fa 0 (.t 3)⟩), (.fl, ⟨(some 20), none, .load false 1 (.t 19)⟩), (.pl, ⟨(some 21), none, .ia 2 (.t 18) (.t 20)⟩), (.fl, ⟨(some 22), none, .load true 2 (.t 21)⟩), (.eff, ⟨(some 5), none, .alloc [(.int .i64 (0)), (.sl 0 1 [])]⟩), (.efo, ⟨none, none, .store 2 (.t 5) (.t 22)⟩)])
  (.keep [0, 3, 5] (.seq (.draw [(.pl, ⟨(some 23), none, .fa 1 (.t 3)⟩), (.pl, ⟨(some 24), none, .load false 1 (.t 23)⟩), (.pl, ⟨(some 25), none, .ia 1 (.t 24) (.c (.int .i64 (0)))⟩), (.pl, ⟨(some 26), none, .load false 1 (.t 25)⟩), (.pl, ⟨(some 27), none, .fa 1 (.t 3)⟩), (.pl, ⟨(some 28), none, .load false 1 (.t 27)⟩), (.pl, ⟨(some 29), none, .fa 1 (.t 3)⟩), (.pl, ⟨(some 30), none, .load false 1 (.t 29)⟩), (.pl, ⟨(some 31), none, .len false (.t 30)⟩), (.pl, ⟨(some 32), none, .bin .sub (.t 31) (.c (.int .i64 (1)))⟩), (.pl, ⟨(some 33), none, .ia 1 (.t 28) (.t 32)⟩), (.pl, ⟨(some 34), none, .load false 1 (.t 33)⟩), (.pl, ⟨(some 6), none, .mv (.t 26)⟩), (.pl, ⟨(some 7), none, .mv (.t 34)⟩)])
  (.keep [0, 3, 5, 6, 7] (.seq (.seq (.draw [(.pl, ⟨(some 35), none, .mv (.t 0)⟩), (.pl, ⟨(some 36), none, .nilchk (.t 35)⟩), (.pl, ⟨(some 37), none, .fa 0 (.t 36)⟩), (.pl, ⟨(some 38), none, .load true 4 (.t 37)⟩), (.pl, ⟨(some 39), none, .fa 0 (.t 5)⟩), (.pl, ⟨(some 40), none, .load false 1 (.t 39)⟩), (.pl, ⟨(some 41), none, .call (.c (.fn K.gram_Of [] [])) [(.t 38), (.t 40)]⟩), (.pl, ⟨(some 42), none, .len false (.t 41)⟩), (.pl, ⟨(some 43), none, .mv (.c (.int .i64 (0)))⟩)])
  (.keep [0, 3, 5, 6, 7, 41, 42, 43] (.block 0 (.loop A.closed_looker_other.L0))))
  (.keep [0, 3, 5, 6] (.seq (.seq (.reg [⟨(some 70), none, .fa 1 (.t 5)⟩, ⟨(some 71), none, .load false 1 (.t 70)⟩, ⟨(some 72), none, .len false (.t 71)⟩, ⟨(some 73), none, .mv (.c (.int .i64 (0)))⟩])
  (.keep [0, 3, 6, 71, 72, 73] (.block 2 (.loop A.closed_looker_other.L1))))
  (.keep [] (.seq (.reg [⟨(some 4), none, .mv (.c (.bool false))⟩]) .ret)))))))))))⟩
def A.closed_looker_may : AFn := ⟨53, [(6, none)], (.seq (.reg [⟨(some 4), none, .box (.t 1)⟩, ⟨(some 6), none, .mv (.c (.bool false))⟩])
  (.keep [0, 2, 4] (.seq (.draw [(.pl, ⟨(some 7), none, .fa 0 (.t 4)⟩), (.pl, ⟨(some 8), none, .load false 1 (.t 7)⟩), (.pl, ⟨(some 9), none, .bin .geq (.t 8) (.c (.int .i64 (0)))⟩), (.pl, ⟨(some 10), none, .mv (.t 9)⟩), (.pl, ⟨(some 11), (some (10, true)), .fa 0 (.t 4)⟩), (.pl, ⟨(some 12), (some (10, true)), .load false 1 (.t 11)⟩), (.pl, ⟨(some 13), (some (10, true)), .mv (.t 0)⟩), (.pl, ⟨(some 14), (some (10, true)), .nilchk (.t 13)⟩), (.pl, ⟨(some 15), (some (10, true)), .fa 0 (.t 14)⟩), (.pl, ⟨(some 16), (some (10, true)), .fa 3 (.t 15)⟩), (.pl, ⟨(some 17), (some (10, true)), .load false 1 (.t 16)⟩), (.pl, ⟨(some 18), (some (10, true)), .len false (.t 17)⟩), (.pl, ⟨(some 19), (some (10, true)), .bin .lss (.t 12) (.t 18)⟩), (.pl, ⟨(some 20), none, .pick (.t 10) (.t 19) (.c (.bool false))⟩), (.pl, ⟨(some 21), none, .mv (.t 20)⟩), (.pl, ⟨(some 22), (some (21, true)), .fa 1 (.t 4)⟩), (.pl, ⟨(some 23), (some (21, true)), .load false 1 (.t 22)⟩), (.pl, ⟨(some 24), (some (21, true)), .bin .geq (.t 23) (.c (.int .i64 (0)))⟩), (.pl, ⟨(some 25), none, .pick (.t 21) (.t 24) (.c (.bool false))⟩), (.pl, ⟨(some 26), none, .mv (.t 25)⟩), (.pl, ⟨(some 27), (some (26, true)), .fa 1 (.t 4)⟩), (.pl, ⟨(some 28), (some (26, true)), .load false 1 (.t 27)⟩), (.pl, ⟨(some 29), (some (26, true)), .mv (.t 0)⟩), (.pl, ⟨(some 30), (some (26, true)), .nilchk (.t 29)⟩), (.pl, ⟨(some 31), (some (26, true)), .fa 0 (.t 30)⟩), (.pl, ⟨(some 32), (some (26, true)), .fa 3 (.t 31)⟩), (.pl, ⟨(some 33), (some (26, true)), .load false 1 (.t 32)⟩), (.pl, ⟨(some 34), (some (26, true)), .fa 0 (.t 4)⟩), (.pl, ⟨(some 35), (some (26, true)), .load false 1 (.t 34)⟩), (.pl, ⟨(some 36), (some (26, true)), .ia 2 (.t 33) (.t 35)⟩), (.pl, ⟨(some 37), (some (26, true)), .fa 1 (.t 36)⟩), (.pl, ⟨(some 38), (some (26, true)), .load false 1 (.t 37)⟩), (.pl, ⟨(some 39), (some (26, true)), .len false (.t 38)⟩), (.pl, ⟨(some 40), (some (26, true)), .bin .leq (.t 28) (.t 39)⟩), (.pl, ⟨(some 41), none, .pick (.t 26) (.t 40) (.c (.bool false))⟩), (.pl, ⟨(some 42), none, .mv (.t 41)⟩), (.pl, ⟨(some 43), (some (42, true)), .fa 2 (.t 4)⟩), (.pl, ⟨(some 44), (some (42, true)), .load false 1 (.t 43)⟩), (.pl, ⟨(some 45), (some (42, true)), .bin .geq (.t 44) (.c (.int .i64 (0)))⟩), (.pl, ⟨(some 46), none, .pick (.t 42) (.t 45) (.c (.bool false))⟩), (.pl, ⟨(some 47), none, .mv (.t 46)⟩), (.pl, ⟨(some 48), (some (47, true)), .fa 2 (.t 4)⟩), (.pl, ⟨(some 49), (some (47, true)), .load false 1 (.t 48)⟩), (.pl, ⟨(some 50), (some (47, true)), .mv (.t 2)⟩), (.pl, ⟨(some 51), (some (47, true)), .bin .leq (.t 49) (.t 50)⟩), (.pl, ⟨(some 52), none, .pick (.t 47) (.t 51) (.c (.bool false))⟩), (.pl, ⟨(some 6), none, .mv (.t 52)⟩)]) .ret)))⟩
def A.closed_looker_begins : AFn := ⟨8, [(6, none)], (.seq (.reg [⟨(some 3), none, .box (.t 0)⟩, ⟨(some 4), none, .box (.t 1)⟩, ⟨(some 5), none, .box (.t 2)⟩, ⟨(some 6), none, .mv (.c .nilf)⟩])
  (.keep [3, 4, 5] (.seq (.reg [⟨(some 7), none, .mkfn K.closed_looker_begins_1 [] [(.t 3), (.t 4), (.t 5)]⟩, ⟨(some 6), none, .mv (.t 7)⟩]) .ret)))⟩
def A.closed_looker_follows : AFn := ⟨31, [(6, none)], (.seq (.reg [⟨(some 3), none, .box (.t 0)⟩, ⟨(some 4), none, .box (.t 1)⟩, ⟨(some 5), none, .box (.t 2)⟩, ⟨(some 6), none, .mv (.c .nilf)⟩])
  (.keep [3, 4, 5] (.seq (.reg [⟨(some 10), none, .load false 1 (.t 3)⟩, ⟨(some 11), none, .load true 3 (.t 4)⟩, ⟨(some 12), none, .call (.c (.fn K.closed_looker_next [] [])) [(.t 10), (.t 11)]⟩, ⟨(some 9), none, .mv (.t 12)⟩, ⟨(some 13), none, .ext (.t 9) 0⟩, ⟨(some 14), none, .ext (.t 9) 1⟩, ⟨(some 7), none, .alloc [(.bool false), (.int .i64 (0))]⟩, ⟨none, none, .store 2 (.t 7) (.t 13)⟩, ⟨(some 8), none, .mv (.t 14)⟩])
  (.keep [3, 4, 5, 7, 8] (.seq (.block 0 (.seq (.reg [⟨(some 16), none, .mv (.t 8)⟩, ⟨(some 17), none, .un .not (.t 16)⟩, ⟨(some 15), none, .mv (.t 17)⟩])
  (.keep [3, 4, 5, 7, 15] (.cond (.t 15) (.seq (.reg [⟨(some 18), none, .load false 1 (.t 3)⟩, ⟨(some 19), none, .load true 3 (.t 4)⟩, ⟨(some 20), none, .load false 1 (.t 5)⟩, ⟨(some 21), none, .call (.c (.fn K.closed_looker_waits [] [])) [(.t 18), (.t 19), (.t 20)]⟩, ⟨(some 6), none, .mv (.t 21)⟩]) .ret) (.seq (.reg [⟨(some 23), none, .fa 0 (.t 7)⟩, ⟨(some 24), none, .load false 1 (.t 23)⟩, ⟨(some 22), none, .mv (.t 24)⟩])
  (.keep [3, 4, 5, 7, 22] (.cond (.t 22) (.seq (.reg [⟨(some 25), none, .load false 1 (.t 3)⟩, ⟨(some 26), none, .fa 1 (.t 7)⟩, ⟨(some 27), none, .load false 1 (.t 26)⟩, ⟨(some 28), none, .load false 1 (.t 5)⟩, ⟨(some 29), none, .call (.c (.fn K.closed_looker_begins [] [])) [(.t 25), (.t 27), (.t 28)]⟩, ⟨(some 6), none, .mv (.t 29)⟩]) .ret) .skip)))))))
  (.keep [3, 4, 5, 7] (.seq (.reg [⟨(some 30), none, .mkfn K.closed_looker_follows_1 [] [(.t 5), (.t 3), (.t 7), (.t 4)]⟩, ⟨(some 6), none, .mv (.t 30)⟩]) .ret)))))))⟩
def A.closed_looker_leads : AFn := ⟨37, [(8, none)], (.seq (.reg [⟨(some 4), none, .box (.t 0)⟩, ⟨(some 5), none, .box (.t 1)⟩, ⟨(some 6), none, .box (.t 2)⟩, ⟨(some 7), none, .box (.t 3)⟩, ⟨(some 8), none, .mv (.c (.bool false))⟩])
  (.keep [4, 5, 6, 7] (.seq (.seq (.reg [⟨(some 9), none, .fa 0 (.t 5)⟩, ⟨(some 10), none, .load false 1 (.t 9)⟩, ⟨(some 11), none, .un .not (.t 10)⟩])
  (.keep [4, 5, 6, 7, 11] (.cond (.t 11) (.seq (.draw [(.pl, ⟨(some 12), none, .load false 1 (.t 7)⟩), (.pl, ⟨(some 13), none, .load false 1 (.t 6)⟩), (.pl, ⟨(some 14), none, .bin .add (.t 13) (.c (.int .i64 (1)))⟩), (.pl, ⟨(some 15), none, .bin .eql (.t 12) (.t 14)⟩), (.pl, ⟨(some 16), none, .mv (.t 15)⟩), (.pl, ⟨(some 17), (some (16, true)), .load false 1 (.t 4)⟩), (.pl, ⟨(some 18), (some (16, true)), .nilchk (.t 17)⟩), (.pl, ⟨(some 19), (some (16, true)), .fa 4 (.t 18)⟩), (.pl, ⟨(some 20), (some (16, true)), .load false 1 (.t 19)⟩), (.pl, ⟨(some 21), (some (16, true)), .load false 1 (.t 6)⟩), (.pl, ⟨(some 22), (some (16, true)), .ia 1 (.t 20) (.t 21)⟩), (.pl, ⟨(some 23), (some (16, true)), .load false 1 (.t 22)⟩), (.pl, ⟨(some 24), (some (16, true)), .fa 1 (.t 5)⟩), (.pl, ⟨(some 25), (some (16, true)), .load false 1 (.t 24)⟩), (.pl, ⟨(some 26), (some (16, true)), .bin .eql (.t 23) (.t 25)⟩), (.pl, ⟨(some 27), none, .pick (.t 16) (.t 26) (.c (.bool false))⟩), (.pl, ⟨(some 8), none, .mv (.t 27)⟩)]) .ret) .skip)))
  (.keep [4, 5, 6, 7] (.seq (.draw [(.pl, ⟨(some 28), none, .load false 1 (.t 4)⟩), (.pl, ⟨(some 29), none, .nilchk (.t 28)⟩), (.pl, ⟨(some 30), none, .fa 0 (.t 29)⟩), (.pl, ⟨(some 31), none, .load true 4 (.t 30)⟩), (.pl, ⟨(some 32), none, .fa 1 (.t 5)⟩), (.pl, ⟨(some 33), none, .load false 1 (.t 32)⟩), (.pl, ⟨(some 34), none, .call (.c (.fn K.gram_Of [] [])) [(.t 31), (.t 33)]⟩), (.pl, ⟨(some 35), none, .mkfn K.closed_looker_leads_1 [] [(.t 4), (.t 6), (.t 7)]⟩), (.pl, ⟨(some 36), none, .call (.c (.fn K.slices_ContainsFunc_int_2 [] [])) [(.t 34), (.t 35)]⟩), (.pl, ⟨(some 8), none, .mv (.t 36)⟩)]) .ret)))))⟩
def A.closed_looker_begins_1.L0 : AC := .post (.seq (.reg [⟨(some 15), none, .bin .lss (.t 14) (.t 13)⟩])
  (.keep [0, 3, 12, 13, 14, 15] (.seq (.cond (.t 15) .skip (.exit 0))
  (.keep [0, 3, 12, 13, 14] (.seq (.block 1 (.seq (.reg [⟨(some 16), none, .ia 1 (.t 12) (.t 14)⟩, ⟨(some 17), none, .load false 1 (.t 16)⟩, ⟨(some 6), none, .mv (.t 17)⟩])
  (.keep [0, 3, 6, 12, 13, 14] (.seq (.reg [⟨(some 18), none, .mv (.t 0)⟩, ⟨(some 19), none, .mv (.t 6)⟩, ⟨(some 20), none, .load false 1 (.t 3)⟩, ⟨(some 21), none, .bld [(.int .i64 (0)), (.int .i64 (0)), (.int .i64 (0))] [(0, 1, (.t 19)), (2, 1, (.t 20))]⟩, ⟨(some 22), none, .load false 1 (.t 3)⟩, ⟨(some 23), none, .bld [(.int .i64 (0)), (.int .i64 (0)), (.int .i64 (0)), (.int .i64 (0))] [(0, 3, (.t 21)), (3, 1, (.t 22))]⟩, ⟨(some 24), none, .call (.t 18) [(.t 23)]⟩, ⟨(some 25), none, .un .not (.t 24)⟩])
  (.keep [0, 3, 12, 13, 14, 25] (.cond (.t 25) .ret .skip))))))
  (.keep [0, 3, 12, 13, 14] (.reg [⟨(some 26), none, .bin .add (.t 14) (.c (.int .i64 (1)))⟩, ⟨(some 14), none, .mv (.t 26)⟩]))))))) [0, 3, 12, 13, 14]
def A.closed_looker_begins_1 : AFn := ⟨27, [], (.seq (.draw [(.pl, ⟨(some 7), none, .load false 1 (.t 1)⟩), (.pl, ⟨(some 8), none, .nilchk (.t 7)⟩), (.pl, ⟨(some 9), none, .fa 0 (.t 8)⟩), (.pl, ⟨(some 10), none, .load true 4 (.t 9)⟩), (.pl, ⟨(some 11), none, .load false 1 (.t 2)⟩), (.pl, ⟨(some 12), none, .call (.c (.fn K.gram_Of [] [])) [(.t 10), (.t 11)]⟩), (.pl, ⟨(some 13), none, .len false (.t 12)⟩), (.pl, ⟨(some 14), none, .mv (.c (.int .i64 (0)))⟩)])
  (.keep [0, 3, 12, 13, 14] (.block 0 (.loop A.closed_looker_begins_1.L0))))⟩
def A.closed_looker_next : AFn := ⟨28, [(4, (some (true, 2))), (5, none)], (.seq (.reg [⟨(some 3), none, .box (.t 1)⟩, ⟨(some 4), none, .alloc [(.bool false), (.int .i64 (0))]⟩, ⟨(some 5), none, .mv (.c (.bool false))⟩])
  (.keep [0, 3, 4] (.seq (.draw [(.pl, ⟨(some 7), none, .mv (.t 0)⟩), (.pl, ⟨(some 8), none, .nilchk (.t 7)⟩), (.pl, ⟨(some 9), none, .fa 0 (.t 8)⟩), (.pl, ⟨(some 10), none, .fa 3 (.t 9)⟩), (.pl, ⟨(some 11), none, .load false 1 (.t 10)⟩), (.pl, ⟨(some 12), none, .fa 0 (.t 3)⟩), (.pl, ⟨(some 13), none, .load false 1 (.t 12)⟩), (.pl, ⟨(some 14), none, .ia 2 (.t 11) (.t 13)⟩), (.pl, ⟨(some 15), none, .fa 1 (.t 14)⟩), (.pl, ⟨(some 16), none, .load false 1 (.t 15)⟩), (.pl, ⟨(some 6), none, .mv (.t 16)⟩)])
  (.keep [3, 4, 6] (.seq (.seq (.reg [⟨(some 17), none, .fa 1 (.t 3)⟩, ⟨(some 18), none, .load false 1 (.t 17)⟩, ⟨(some 19), none, .mv (.t 6)⟩, ⟨(some 20), none, .len false (.t 19)⟩, ⟨(some 21), none, .bin .eql (.t 18) (.t 20)⟩])
  (.keep [3, 4, 6, 21] (.cond (.t 21) (.seq (.reg [⟨(some 22), none, .bld [(.bool false), (.int .i64 (0))] []⟩, ⟨none, none, .store 2 (.t 4) (.t 22)⟩, ⟨(some 5), none, .mv (.c (.bool false))⟩]) .ret) .skip)))
  (.keep [3, 4, 6] (.seq (.reg [⟨(some 23), none, .mv (.t 6)⟩, ⟨(some 24), none, .fa 1 (.t 3)⟩, ⟨(some 25), none, .load false 1 (.t 24)⟩, ⟨(some 26), none, .ia 2 (.t 23) (.t 25)⟩, ⟨(some 27), none, .load true 2 (.t 26)⟩, ⟨none, none, .store 2 (.t 4) (.t 27)⟩, ⟨(some 5), none, .mv (.c (.bool true))⟩]) .ret)))))))⟩
def A.closed_looker_waits : AFn := ⟨8, [(6, none)], (.seq (.reg [⟨(some 3), none, .box (.t 0)⟩, ⟨(some 4), none, .box (.t 1)⟩, ⟨(some 5), none, .box (.t 2)⟩, ⟨(some 6), none, .mv (.c .nilf)⟩])
  (.keep [3, 4, 5] (.seq (.reg [⟨(some 7), none, .mkfn K.closed_looker_waits_1 [] [(.t 3), (.t 4), (.t 5)]⟩, ⟨(some 6), none, .mv (.t 7)⟩]) .ret)))⟩
def A.closed_looker_follows_1 : AFn := ⟨39, [], (.seq (.draw [(.pl, ⟨(some 6), none, .load false 1 (.t 1)⟩), (.pl, ⟨(some 7), none, .bin .add (.t 6) (.c (.int .i64 (1)))⟩), (.pl, ⟨(some 8), none, .load false 1 (.t 2)⟩), (.pl, ⟨(some 9), none, .nilchk (.t 8)⟩), (.pl, ⟨(some 10), none, .fa 5 (.t 9)⟩), (.pl, ⟨(some 11), none, .load false 1 (.t 10)⟩), (.pl, ⟨(some 12), none, .len false (.t 11)⟩), (.pl, ⟨(some 13), none, .bin .lss (.t 7) (.t 12)⟩), (.pl, ⟨(some 14), none, .mv (.t 13)⟩), (.pl, ⟨(some 15), (some (14, true)), .load false 1 (.t 2)⟩), (.pl, ⟨(some 16), (some (14, true)), .nilchk (.t 15)⟩), (.pl, ⟨(some 17), (some (14, true)), .fa 4 (.t 16)⟩), (.pl, ⟨(some 18), (some (14, true)), .load false 1 (.t 17)⟩), (.pl, ⟨(some 19), (some (14, true)), .load false 1 (.t 1)⟩), (.pl, ⟨(some 20), (some (14, true)), .ia 1 (.t 18) (.t 19)⟩), (.pl, ⟨(some 21), (some (14, true)), .load false 1 (.t 20)⟩), (.pl, ⟨(some 22), (some (14, true)), .fa 1 (.t 3)⟩), (.pl, ⟨(some 23), (some (14, true)), .load false 1 (.t 22)⟩), (.pl, ⟨(some 24), (some (14, true)), .bin .eql (.t 21) (.t 23)⟩), (.pl, ⟨(some 25), none, .pick (.t 14) (.t 24) (.c (.bool false))⟩)])
  (.keep [0, 1, 4, 25] (.cond (.t 25) (.reg [⟨(some 26), none, .mv (.t 0)⟩, ⟨(some 27), none, .fa 0 (.t 4)⟩, ⟨(some 28), none, .load false 1 (.t 27)⟩, ⟨(some 29), none, .fa 1 (.t 4)⟩, ⟨(some 30), none, .load false 1 (.t 29)⟩, ⟨(some 31), none, .bin .add (.t 30) (.c (.int .i64 (1)))⟩, ⟨(some 32), none, .fa 2 (.t 4)⟩, ⟨(some 33), none, .load false 1 (.t 32)⟩, ⟨(some 34), none, .bld [(.int .i64 (0)), (.int .i64 (0)), (.int .i64 (0))] [(0, 1, (.t 28)), (1, 1, (.t 31)), (2, 1, (.t 33))]⟩, ⟨(some 35), none, .load false 1 (.t 1)⟩, ⟨(some 36), none, .bin .add (.t 35) (.c (.int .i64 (1)))⟩, ⟨(some 37), none, .bld [(.int .i64 (0)), (.int .i64 (0)), (.int .i64 (0)), (.int .i64 (0))] [(0, 3, (.t 34)), (3, 1, (.t 36))]⟩, ⟨(some 38), none, .call (.t 26) [(.t 37)]⟩]) .skip)))⟩
def A.closed_looker_leads_1 : AFn := ⟨22, [(5, none)], (.seq (.reg [⟨(some 5), none, .mv (.c (.bool false))⟩])
  (.keep [0, 1, 2, 3] (.seq (.draw [(.pl, ⟨(some 6), none, .load false 1 (.t 1)⟩), (.pl, ⟨(some 7), none, .mv (.t 0)⟩), (.pl, ⟨(some 8), none, .load false 1 (.t 1)⟩), (.pl, ⟨(some 9), none, .nilchk (.t 8)⟩), (.pl, ⟨(some 10), none, .fa 0 (.t 9)⟩), (.pl, ⟨(some 11), none, .fa 3 (.t 10)⟩), (.pl, ⟨(some 12), none, .load false 1 (.t 11)⟩), (.pl, ⟨(some 13), none, .mv (.t 0)⟩), (.pl, ⟨(some 14), none, .ia 2 (.t 12) (.t 13)⟩), (.pl, ⟨(some 15), none, .fa 1 (.t 14)⟩), (.pl, ⟨(some 16), none, .load false 1 (.t 15)⟩), (.pl, ⟨(some 17), none, .len false (.t 16)⟩), (.pl, ⟨(some 18), none, .load false 1 (.t 2)⟩), (.pl, ⟨(some 19), none, .bld [(.int .i64 (0)), (.int .i64 (0)), (.int .i64 (0))] [(0, 1, (.t 7)), (1, 1, (.t 17)), (2, 1, (.t 18))]⟩), (.pl, ⟨(some 20), none, .load false 1 (.t 3)⟩), (.pl, ⟨(some 21), none, .call (.c (.fn K.closed_looker_has [] [])) [(.t 6), (.t 19), (.t 20)]⟩), (.pl, ⟨(some 5), none, .mv (.t 21)⟩)]) .ret)))⟩
def A.closed_looker_waits_1.L0 : AC := .post (.seq (.reg [⟨(some 31), none, .bin .lss (.t 30) (.t 29)⟩])
  (.keep [0, 1, 3, 5, 28, 29, 30, 31] (.seq (.cond (.t 31) .skip (.exit 0))
  (.keep [0, 1, 3, 5, 28, 29, 30] (.seq (.block 1 (.seq (.reg [⟨(some 32), none, .ia 3 (.t 28) (.t 30)⟩, ⟨(some 33), none, .load true 3 (.t 32)⟩, ⟨(some 7), none, .alloc [(.int .i64 (0)), (.int .i64 (0)), (.int .i64 (0))]⟩, ⟨none, none, .store 3 (.t 7) (.t 33)⟩])
  (.keep [0, 1, 3, 5, 7, 28, 29, 30] (.seq (.reg [⟨(some 35), none, .load false 1 (.t 1)⟩, ⟨(some 36), none, .load true 3 (.t 7)⟩, ⟨(some 37), none, .call (.c (.fn K.closed_looker_next [] [])) [(.t 35), (.t 36)]⟩, ⟨(some 34), none, .mv (.t 37)⟩, ⟨(some 38), none, .ext (.t 34) 0⟩, ⟨(some 39), none, .ext (.t 34) 1⟩, ⟨(some 8), none, .alloc [(.bool false), (.int .i64 (0))]⟩, ⟨none, none, .store 2 (.t 8) (.t 38)⟩, ⟨(some 9), none, .mv (.t 39)⟩])
  (.keep [0, 1, 3, 5, 7, 8, 9, 28, 29, 30] (.seq (.reg [⟨(some 40), none, .mv (.t 9)⟩, ⟨(some 41), none, .mv (.t 40)⟩, ⟨(some 42), (some (41, true)), .load true 2 (.t 8)⟩, ⟨(some 43), (some (41, true)), .load true 2 (.t 5)⟩, ⟨(some 44), (some (41, true)), .eqs false [(.b, 0), (.i, 1)] (.t 42) (.t 43)⟩, ⟨(some 45), none, .pick (.t 41) (.t 44) (.c (.bool false))⟩, ⟨(some 46), none, .mv (.t 45)⟩, ⟨(some 47), (some (46, true)), .mv (.t 0)⟩, ⟨(some 48), (some (46, true)), .fa 0 (.t 7)⟩, ⟨(some 49), (some (46, true)), .load false 1 (.t 48)⟩, ⟨(some 50), (some (46, true)), .fa 1 (.t 7)⟩, ⟨(some 51), (some (46, true)), .load false 1 (.t 50)⟩, ⟨(some 52), (some (46, true)), .bin .add (.t 51) (.c (.int .i64 (1)))⟩, ⟨(some 53), (some (46, true)), .fa 2 (.t 7)⟩, ⟨(some 54), (some (46, true)), .load false 1 (.t 53)⟩, ⟨(some 55), (some (46, true)), .bld [(.int .i64 (0)), (.int .i64 (0)), (.int .i64 (0))] [(0, 1, (.t 49)), (1, 1, (.t 52)), (2, 1, (.t 54))]⟩, ⟨(some 56), (some (46, true)), .load false 1 (.t 3)⟩, ⟨(some 57), (some (46, true)), .bld [(.int .i64 (0)), (.int .i64 (0)), (.int .i64 (0)), (.int .i64 (0))] [(0, 3, (.t 55)), (3, 1, (.t 56))]⟩, ⟨(some 58), (some (46, true)), .call (.t 47) [(.t 57)]⟩, ⟨(some 59), (some (46, true)), .un .not (.t 58)⟩, ⟨(some 60), none, .pick (.t 46) (.t 59) (.c (.bool false))⟩])
  (.keep [0, 1, 3, 5, 28, 29, 30, 60] (.cond (.t 60) .ret .skip))))))))
  (.keep [0, 1, 3, 5, 28, 29, 30] (.reg [⟨(some 61), none, .bin .add (.t 30) (.c (.int .i64 (1)))⟩, ⟨(some 30), none, .mv (.t 61)⟩]))))))) [0, 1, 3, 5, 28, 29, 30]
def A.closed_looker_waits_1 : AFn := ⟨62, [], (.seq (.draw [(.fl, ⟨(some 10), none, .load false 1 (.t 1)⟩), (.pl, ⟨(some 11), none, .nilchk (.t 10)⟩), (.pl, ⟨(some 12), none, .fa 0 (.t 11)⟩), (.pl, ⟨(some 13), none, .fa 3 (.t 12)⟩), (.fl, ⟨(some 14), none, .load false 1 (.t 13)⟩), (.pl, ⟨(some 15), none, .fa 0 (.t 2)⟩), (.fl, ⟨(some 16), none, .load false 1 (.t 15)⟩), (.pl, ⟨(some 17), none, .ia 2 (.t 14) (.t 16)⟩), (.pl, ⟨(some 18), none, .fa 0 (.t 17)⟩), (.fl, ⟨(some 19), none, .load false 1 (.t 18)⟩), (.pl, ⟨(some 20), none, .bld [(.bool false), (.int .i64 (0))] [(0, 1, (.c (.bool true))), (1, 1, (.t 19))]⟩), (.eff, ⟨(some 5), none, .alloc [(.bool false), (.int .i64 (0))]⟩), (.efo, ⟨none, none, .store 2 (.t 5) (.t 20)⟩)])
  (.keep [0, 1, 2, 3, 5] (.seq (.draw [(.pl, ⟨(some 21), none, .load false 1 (.t 1)⟩), (.pl, ⟨(some 22), none, .nilchk (.t 21)⟩), (.pl, ⟨(some 23), none, .fa 5 (.t 22)⟩), (.pl, ⟨(some 24), none, .load false 1 (.t 23)⟩), (.pl, ⟨(some 25), none, .fa 2 (.t 2)⟩), (.pl, ⟨(some 26), none, .load false 1 (.t 25)⟩), (.pl, ⟨(some 27), none, .ia 1 (.t 24) (.t 26)⟩), (.pl, ⟨(some 28), none, .load false 1 (.t 27)⟩), (.pl, ⟨(some 29), none, .len false (.t 28)⟩), (.pl, ⟨(some 30), none, .mv (.c (.int .i64 (0)))⟩)])
  (.keep [0, 1, 3, 5, 28, 29, 30] (.block 0 (.loop A.closed_looker_waits_1.L0))))))⟩
def A.closed_look.L1 : AC := .post (.seq (.reg [⟨(some 44), none, .bin .lss (.t 43) (.t 42)⟩])
  (.keep [7, 8, 34, 35, 36, 41, 42, 43, 44] (.seq (.cond (.t 44) .skip (.exit 2))
  (.keep [7, 8, 34, 35, 36, 41, 42, 43] (.seq (.block 3 (.seq (.reg [⟨(some 45), none, .ia 3 (.t 41) (.t 43)⟩, ⟨(some 46), none, .load true 3 (.t 45)⟩, ⟨(some 11), none, .alloc [(.int .i64 (0)), (.int .i64 (0)), (.int .i64 (0))]⟩, ⟨none, none, .store 3 (.t 11) (.t 46)⟩])
  (.keep [7, 8, 11, 34, 35, 36, 41, 42, 43] (.seq (.seq (.reg [⟨(some 47), none, .mv (.t 7)⟩, ⟨(some 48), none, .load true 3 (.t 11)⟩, ⟨(some 49), none, .mv (.t 8)⟩, ⟨(some 50), none, .call (.c (.fn K.closed_looker_may [] [])) [(.t 47), (.t 48), (.t 49)]⟩, ⟨(some 51), none, .un .not (.t 50)⟩])
  (.keep [7, 8, 11, 34, 35, 36, 41, 42, 43, 51] (.cond (.t 51) (.seq (.reg [⟨(some 6), none, .mv (.c .nilp)⟩]) .ret) .skip)))
  (.keep [7, 8, 11, 34, 35, 36, 41, 42, 43] (.draw [(.pl, ⟨(some 52), none, .mv (.t 7)⟩), (.pl, ⟨(some 53), none, .nilchk (.t 52)⟩), (.pl, ⟨(some 54), none, .fa 6 (.t 53)⟩), (.pl, ⟨(some 55), none, .load false 1 (.t 54)⟩), (.pl, ⟨(some 56), none, .load true 3 (.t 11)⟩), (.pl, ⟨(some 57), none, .mv (.t 8)⟩), (.pl, ⟨(some 58), none, .bld [(.int .i64 (0)), (.int .i64 (0)), (.int .i64 (0)), (.int .i64 (0))] [(0, 3, (.t 56)), (3, 1, (.t 57))]⟩), (.fl, ⟨(some 59), none, .lkp (.st [(.i, 0), (.i, 1), (.i, 2), (.i, 3)]) (.int .i64 (0)) false (.t 55) (.t 58)⟩), (.pl, ⟨(some 60), none, .bin .add (.t 59) (.c (.int .i64 (1)))⟩), (.eff, ⟨(some 61), none, .ment (.st [(.i, 0), (.i, 1), (.i, 2), (.i, 3)]) (.int .i64 (0)) (.t 55) (.t 58)⟩), (.pl, ⟨(some 62), none, .ext (.t 61) 1⟩), (.efo, ⟨none, none, .mest (.t 55) (.t 62) (.t 60)⟩)]))))))
  (.keep [7, 8, 34, 35, 36, 41, 42, 43] (.reg [⟨(some 63), none, .bin .add (.t 43) (.c (.int .i64 (1)))⟩, ⟨(some 43), none, .mv (.t 63)⟩]))))))) [7, 8, 34, 35, 36, 41, 42, 43]
def A.closed_look.L0 : AC := .post (.seq (.reg [⟨(some 37), none, .bin .lss (.t 36) (.t 35)⟩])
  (.keep [7, 34, 35, 36, 37] (.seq (.cond (.t 37) .skip (.exit 0))
  (.keep [7, 34, 35, 36] (.seq (.block 1 (.seq (.reg [⟨(some 38), none, .mv (.t 36)⟩, ⟨(some 39), none, .ia 1 (.t 34) (.t 36)⟩, ⟨(some 40), none, .load false 1 (.t 39)⟩, ⟨(some 8), none, .mv (.t 38)⟩, ⟨(some 9), none, .mv (.t 40)⟩])
  (.keep [7, 8, 9, 34, 35, 36] (.seq (.reg [⟨(some 41), none, .mv (.t 9)⟩, ⟨(some 42), none, .len false (.t 41)⟩, ⟨(some 43), none, .mv (.c (.int .i64 (0)))⟩])
  (.keep [7, 8, 34, 35, 36, 41, 42, 43] (.block 2 (.loop A.closed_look.L1)))))))
  (.keep [7, 34, 35, 36] (.reg [⟨(some 64), none, .bin .add (.t 36) (.c (.int .i64 (1)))⟩, ⟨(some 36), none, .mv (.t 64)⟩]))))))) [7, 34, 35, 36]
def A.closed_look : AFn := ⟨66, [(6, none)], (.seq (.reg [⟨(some 3), none, .box (.t 0)⟩, ⟨(some 6), none, .mv (.c .nilp)⟩])
  (.keep [1, 2, 3] (.seq (.seq (.reg [⟨(some 12), none, .load true 4 (.t 3)⟩, ⟨(some 13), none, .call (.c (.fn K.gram_Right [] [])) [(.t 12)]⟩, ⟨(some 14), none, .un .not (.t 13)⟩, ⟨(some 15), none, .mv (.t 14)⟩, ⟨(some 16), (some (15, false)), .mv (.t 2)⟩, ⟨(some 17), (some (15, false)), .len false (.t 16)⟩, ⟨(some 18), (some (15, false)), .bin .eql (.t 17) (.c (.int .i64 (0)))⟩, ⟨(some 19), none, .pick (.t 15) (.c (.bool true)) (.t 18)⟩, ⟨(some 20), none, .mv (.t 19)⟩, ⟨(some 21), (some (20, false)), .mv (.t 2)⟩, ⟨(some 22), (some (20, false)), .len false (.t 21)⟩, ⟨(some 23), (some (20, false)), .mv (.t 1)⟩, ⟨(some 24), (some (20, false)), .len false (.t 23)⟩, ⟨(some 25), (some (20, false)), .bin .add (.t 24) (.c (.int .i64 (1)))⟩, ⟨(some 26), (some (20, false)), .bin .gtr (.t 22) (.t 25)⟩, ⟨(some 27), none, .pick (.t 20) (.c (.bool true)) (.t 26)⟩])
  (.keep [1, 2, 3, 27] (.cond (.t 27) (.seq (.reg [⟨(some 6), none, .mv (.c .nilp)⟩]) .ret) .skip)))
  (.keep [1, 2, 3] (.seq (.reg [⟨(some 28), none, .load true 4 (.t 3)⟩, ⟨(some 29), none, .mv (.t 1)⟩, ⟨(some 30), none, .mv (.t 2)⟩, ⟨(some 31), none, .mkm⟩, ⟨(some 32), none, .bld [(.int .i64 (0)), (.int .i64 (0)), (.int .i64 (0)), (.sl 0 1 []), (.sl 0 1 []), (.sl 0 1 []), .mapn] [(0, 4, (.t 28)), (4, 1, (.t 29)), (5, 1, (.t 30)), (6, 1, (.t 31))]⟩, ⟨(some 33), none, .box (.t 32)⟩, ⟨(some 7), none, .mv (.t 33)⟩])
  (.keep [2, 7] (.seq (.seq (.reg [⟨(some 34), none, .mv (.t 2)⟩, ⟨(some 35), none, .len false (.t 34)⟩, ⟨(some 36), none, .mv (.c (.int .i64 (0)))⟩])
  (.keep [7, 34, 35, 36] (.block 0 (.loop A.closed_look.L0))))
  (.keep [7] (.seq (.reg [⟨(some 65), none, .mv (.t 7)⟩, ⟨(some 6), none, .mv (.t 65)⟩]) .ret)))))))))⟩
def A.closed_looker_has : AFn := ⟨16, [(6, none)], (.seq (.reg [⟨(some 4), none, .box (.t 1)⟩, ⟨(some 6), none, .mv (.c (.bool false))⟩])
  (.keep [0, 2, 4] (.seq (.draw [(.pl, ⟨(some 7), none, .mv (.t 0)⟩), (.pl, ⟨(some 8), none, .nilchk (.t 7)⟩), (.pl, ⟨(some 9), none, .fa 6 (.t 8)⟩), (.pl, ⟨(some 10), none, .load false 1 (.t 9)⟩), (.pl, ⟨(some 11), none, .load true 3 (.t 4)⟩), (.pl, ⟨(some 12), none, .mv (.t 2)⟩), (.pl, ⟨(some 13), none, .bld [(.int .i64 (0)), (.int .i64 (0)), (.int .i64 (0)), (.int .i64 (0))] [(0, 3, (.t 11)), (3, 1, (.t 12))]⟩), (.pl, ⟨(some 14), none, .lkp (.st [(.i, 0), (.i, 1), (.i, 2), (.i, 3)]) (.int .i64 (0)) false (.t 10) (.t 13)⟩), (.pl, ⟨(some 15), none, .bin .gtr (.t 14) (.c (.int .i64 (0)))⟩), (.pl, ⟨(some 6), none, .mv (.t 15)⟩)]) .ret)))⟩
end Go.Proofs.Ytajaoldljichaaa.Al
namespace Go.Proofs.Ytajaoldljichaaa.Al
open Go Go.RowKit
set_option linter.unusedSimpArgs false
set_option linter.unusedVariables false
attribute [-simp] List.getD_eq_getElem?_getD Int.not_lt Int.not_le List.map_take
/-- May an item stand at a place? -/
def mayI (g : Gm) (x : It) (at' : Int) : Bool := decide (0 ≤ x.prod) && decide (x.prod < g.prods.length) && decide (0 ≤ x.dot) && decide (x.dot ≤ (prG g x.prod).right.length) && decide (0 ≤ x.frm) && decide (x.frm ≤ at')
theorem mayI_iff {g : Gm} {x : It} {a : Int} : mayI g x a = true ↔ 0 ≤ x.prod ∧ x.prod < g.prods.length ∧ 0 ≤ x.dot ∧ x.dot ≤ (prG g x.prod).right.length ∧ 0 ≤ x.frm ∧ x.frm ≤ a := by simp [mayI, and_assoc]
/-- An item's next symbol. -/
def nextI (g : Gm) (x : It) : Option Sy := (prG g x.prod).right[x.dot.toNat]?
def nextV : Option Sy → V
  | some s => .tup [symV s, .bool true]
  | none => .tup [.agg [.bool false, .int .i64 0], .bool false]
/-- A looker. -/
def lkC (g : Gm) (w : List Int) (ss : List (List It)) (om : Nat) : List V := gmC g ++ [.sl 1 0 (ints w), .sl 1 0 (ss.map setV), .mapr om]
structure Lk (h : AH) (o om : Nat) (g : Gm) (w : List Int) (ss : List (List It)) : Prop where
  lt : o < h.nobj
  ltm : om < h.nobj
  c : h.objs o = lkC g w ss om
theorem Lk.gr {h h' : AH} {o om : Nat} {g : Gm} {w : List Int} {ss : List (List It)} (l : Lk h o om g w ss) (r : Gr h h') : Lk h' o om g w ss :=
  ⟨Nat.lt_of_lt_of_le l.lt r.nobj, Nat.lt_of_lt_of_le l.ltm r.nobj, by rw [r.objs _ l.lt]; exact l.c⟩
theorem Lk.fr {h h' : AH} {o om : Nat} {os : List Nat} {g : Gm} {w : List Int} {ss : List (List It)} (l : Lk h o om g w ss) (r : FrO os h h') (ho : o ∉ os) : Lk h' o om g w ss :=
  ⟨Nat.lt_of_lt_of_le l.lt r.nobj, Nat.lt_of_lt_of_le l.ltm r.nobj, by rw [r.objs _ l.lt ho]; exact l.c⟩
theorem lkE (g : Gm) (w : List Int) (ss : List (List It)) (om : Nat) : lkC g w ss om = [.int .i64 g.terms, .int .i64 g.nons, .int .i64 g.start, .sl 2 0 (g.prods.map prV), .sl 1 0 (ints w), .sl 1 0 (ss.map setV), .mapr om] := rfl
/-- What layer 19's program calls. -/
structure LCl (X : Cx) (f : Nat) : Prop where
  all : HasC X f
  has : Has (Ecx X) K.closed_looker_has A.closed_looker_has
  may : Has (Ecx X) K.closed_looker_may A.closed_looker_may
  next : Has (Ecx X) K.closed_looker_next A.closed_looker_next
  begins : Has (Ecx X) K.closed_looker_begins A.closed_looker_begins
  begins1 : Has (Ecx X) K.closed_looker_begins_1 A.closed_looker_begins_1
  bb : Body X K.closed_looker_begins_1
  waits : Has (Ecx X) K.closed_looker_waits A.closed_looker_waits
  waits1 : Has (Ecx X) K.closed_looker_waits_1 A.closed_looker_waits_1
  bw : Body X K.closed_looker_waits_1
  follows : Has (Ecx X) K.closed_looker_follows A.closed_looker_follows
  follows1 : Has (Ecx X) K.closed_looker_follows_1 A.closed_looker_follows_1
  bf : Body X K.closed_looker_follows_1
  look : Has (Ecx X) K.closed_look A.closed_look
  closed : Has (Ecx X) K.closed_looker_closed A.closed_looker_closed
  closed' : Has (Ecx X) K.closed_Closed A.closed_Closed
  of : Has (Ecx X) K.gram_Of A.gram_Of
  gr : LGr X
section
variable {X : Cx} {h : AH} {Q : V → AH → Prop} {f : Nat}
theorem cnext_spec (H : Has (Ecx X) K.closed_looker_next A.closed_looker_next) {o om : Nat} {g : Gm} {w : List Int} {ss : List (List It)} (L : Lk h o om g w ss) (x : It) {a : Int} (hm : mayI g x a = true) (hr : (prG g x.prod).right.length < 2 ^ 30)
    (hQ : Q (nextV (nextI g x)) h) : Ecx X K.closed_looker_next [.ptr o 0, itV x] h Q := by
  refine fn_walk H (by simp [A.closed_looker_next]) fun wf => ?_
  obtain ⟨p, d, fr⟩ := x
  obtain ⟨m0, m1, m2, m3, m4, m5⟩ := mayI_iff.1 hm
  simp only at m0 m1 m2 m3 m4 m5 hr
  obtain ⟨n, rfl, hn, e1, e2⟩ := prG_get m0 m1
  obtain ⟨d, rfl⟩ : ∃ k : Nat, d = k := ⟨d.toNat, by omega⟩
  have lc := L.c
  rw [lkE] at lc
  have n1 : ¬ o = h.nobj := by have := L.lt; omega
  have n2 : ¬ o = h.nobj + 1 := by have := L.lt; omega
  simp [A.closed_looker_next, itV, itC, V.cells, V.good, n1, n2, lc, e2, m0, m1, prV, prC]
  generalize hp : prG g n = q at *
  have gr := (((Gr.refl h).new [V.int .i64 (n : Int), V.int .i64 (d : Int), V.int .i64 fr]).new [.bool false, .int .i64 0])
  by_cases c : d = q.right.length
  · have c' : (d : Int) = q.right.length := by omega
    have hn0 : nextI g ⟨n, d, fr⟩ = none := by simp [nextI, hp, c]
    rw [hn0] at hQ
    simp [c', setAt, V.cells, V.good]
    exact fin_wk (((Gr.refl h).new _).new _) (.same _) (by simp) hQ
  · have c' : ¬ (d : Int) = q.right.length := by omega
    have hlt : d < q.right.length := by omega
    have hlt' : (d : Int) < q.right.length := by omega
    have hn0 : nextI g ⟨n, d, fr⟩ = some q.right[d] := by simp [nextI, hp, hlt]
    rw [hn0] at hQ
    have hg : (q.right.map symV).getD d .undef = symV q.right[d] := Enc.getD hlt
    simp [c', hlt', hg, symV, symC, setAt, V.cells, V.good]
    exact fin_wk (((Gr.refl h).new _).new _) (.same _) (by simp) hQ
theorem cmay_spec (H : Has (Ecx X) K.closed_looker_may A.closed_looker_may) {o om : Nat} {g : Gm} {w : List Int} {ss : List (List It)} (L : Lk h o om g w ss) (x : It) (a : Int) (hr : g.prods.length < 2 ^ 30)
    (hQ : Q (.bool (mayI g x a)) h) : Ecx X K.closed_looker_may [.ptr o 0, itV x, .int .i64 a] h Q := by
  refine fn_walk H (by simp [A.closed_looker_may]) fun wf => ?_
  obtain ⟨p, d, fr⟩ := x
  have lc := L.c
  rw [lkE] at lc
  have n1 : ¬ o = h.nobj := by have := L.lt; omega
  have gr := ((Gr.refl h).new [V.int .i64 p, V.int .i64 d, V.int .i64 fr])
  simp [A.closed_looker_may, itV, itC, V.cells, V.good, n1, lc]
  by_cases c0 : 0 ≤ p
  · by_cases c1 : p < g.prods.length
    · obtain ⟨n, rfl, hn, e1, e2⟩ := prG_get c0 c1
      by_cases c2 : 0 ≤ d
      · by_cases c3 : d ≤ (prG g n).right.length
        · by_cases c4 : 0 ≤ fr
          · simp [c0, c1, c2, c3, c4, e2, prV, prC, V.cells, n1, lc, mayI] at hQ ⊢
            exact fin_wk gr (.same _) (by simp) hQ
          · simp [c0, c1, c2, c3, c4, e2, prV, prC, V.cells, n1, lc, mayI] at hQ ⊢
            exact fin_wk gr (.same _) (by simp) hQ
        · simp [c0, c1, c2, c3, e2, prV, prC, V.cells, n1, lc, mayI] at hQ ⊢
          exact fin_wk gr (.same _) (by simp) hQ
      · simp [c0, c1, c2, e2, prV, prC, V.cells, n1, lc, mayI] at hQ ⊢
        exact fin_wk gr (.same _) (by simp) hQ
    · simp [c0, c1, n1, lc, mayI] at hQ ⊢
      exact fin_wk gr (.same _) (by simp) hQ
  · simp [c0, n1, lc, mayI] at hQ ⊢
    exact fin_wk gr (.same _) (by simp) hQ
/-! ### The items that are there -/
abbrev Pk : Type := It × Int
def pkC (k : Pk) : List V := [.int .i64 k.1.prod, .int .i64 k.1.dot, .int .i64 k.1.frm, .int .i64 k.2]
def pkV (k : Pk) : V := .agg (pkC k)
def heV (l : List (Pk × Nat)) : List V := l.map fun p => .tup [pkV p.1, .int .i64 (p.2 : Nat)]
def fk (k : Pk) : List (Pk × Nat) → Nat → Option (Nat × Nat)
  | [], _ => none
  | (k', n) :: r, i => if k = k' then some (i, n) else fk k r (i + 1)
def cntK (k : Pk) (l : List (Pk × Nat)) : Nat := match fk k l 0 with
  | some (_, n) => n
  | none => 0
def bump (l : List (Pk × Nat)) (k : Pk) : List (Pk × Nat) := match fk k l 0 with
  | some (i, n) => l.set i (k, n + 1)
  | none => l ++ [(k, 1)]
theorem eqKey_pk (a b : Pk) : eqKey (.st [(.i, 0), (.i, 1), (.i, 2), (.i, 3)]) (pkV a) (pkV b) = some (decide (a = b)) := by
  obtain ⟨⟨a1, a2, a3⟩, a4⟩ := a
  obtain ⟨⟨b1, b2, b3⟩, b4⟩ := b
  simp [eqKey, pkV, pkC, eqL, eqLeaf, List.getD]
  by_cases h1 : a1 = b1 <;> by_cases h2 : a2 = b2 <;> by_cases h3 : a3 = b3 <;> by_cases h4 : a4 = b4 <;> simp [h1, h2, h3, h4]
theorem findE_pk (k : Pk) : ∀ (l : List (Pk × Nat)) (i : Nat), findE (.st [(.i, 0), (.i, 1), (.i, 2), (.i, 3)]) (pkV k) (heV l) i = some ((fk k l i).map fun p => (p.1, .int .i64 (p.2 : Nat)))
  | [], i => by simp [heV, findE, stOk, eqKey_pk, fk]
  | (k', n) :: r, i => by
    have ih := findE_pk k r (i + 1)
    simp only [heV, List.map_cons] at ih ⊢
    unfold findE
    rw [eqKey_pk]
    by_cases e : k = k'
    · subst e; simp [fk]
    · simp only [e, decide_false, fk, if_false]; exact ih
theorem fk_idx (k : Pk) : ∀ (l : List (Pk × Nat)) (i j n : Nat), fk k l i = some (j, n) → i ≤ j ∧ l[j - i]? = some (k, n)
  | [], _, _, _, h => by simp [fk] at h
  | (k', m) :: r, i, j, n, h => by
    unfold fk at h
    split at h
    · rename_i e; simp at h; obtain ⟨rfl, rfl⟩ := h; subst e; simp
    · obtain ⟨h1, h2⟩ := fk_idx k r (i + 1) j n h
      refine ⟨by omega, ?_⟩
      rw [show j - i = (j - (i + 1)) + 1 by omega]; simpa using h2
theorem fk_shift (k : Pk) : ∀ (l : List (Pk × Nat)) (i d : Nat), fk k l (i + d) = (fk k l i).map fun p => (p.1 + d, p.2)
  | [], _, _ => rfl
  | (k', m) :: r, i, d => by
    unfold fk
    split
    · rfl
    · rw [show i + d + 1 = (i + 1) + d by omega]; exact fk_shift k r (i + 1) d
theorem cntK_cons (k k' : Pk) (n : Nat) (l : List (Pk × Nat)) : cntK k ((k', n) :: l) = if k = k' then n else cntK k l := by
  unfold cntK
  rw [fk]
  by_cases e : k = k'
  · simp [e]
  · rw [if_neg e, if_neg e, fk_shift k l 0 1]
    cases fk k l 0 <;> rfl
theorem bump_cons (k k' : Pk) (n : Nat) (l : List (Pk × Nat)) : bump ((k', n) :: l) k = if k = k' then (k, n + 1) :: l else (k', n) :: bump l k := by
  unfold bump
  rw [fk]
  by_cases e : k = k'
  · simp [e]
  · rw [if_neg e, if_neg e, fk_shift k l 0 1]
    cases hf : fk k l 0 with
    | none => rfl
    | some p => obtain ⟨j, m⟩ := p; rfl
theorem cntK_bump (k k' : Pk) : ∀ l : List (Pk × Nat), cntK k (bump l k') = cntK k l + if k = k' then 1 else 0
  | [] => by
    by_cases e : k = k'
    · subst e; simp [bump, fk, cntK]
    · simp [bump, fk, cntK, e]
  | (k2, n) :: r => by
    have ih := cntK_bump k k' r
    rw [bump_cons]
    by_cases e : k' = k2
    · subst e
      rw [if_pos rfl, cntK_cons, cntK_cons]
      by_cases e2 : k = k' <;> simp [e2]
    · rw [if_neg e, cntK_cons, cntK_cons, ih]
      by_cases e2 : k = k2
      · subst e2; simp [Ne.symm e]
      · simp [e2]
theorem exoB_he (l : List (Pk × Nat)) : exoB (heV l) = false := by cases l <;> rfl
@[simp] theorem lkpZ_pk {K : V → AH → Prop} {zK : Lz K} {k : Pk} {l : List (Pk × Nat)} : lkpZ h (.int .i64 0) false (some ((fk k l 0).map fun p => (p.1, .int .i64 (p.2 : Nat)))) zK = K (.int .i64 (cntK k l : Nat)) h := by
  refine lkpZ_f ?_
  unfold cntK
  cases fk k l 0 with
  | none => rfl
  | some p => rfl
theorem lkT (g : Gm) (w : List Int) (ss : List (List It)) (om : Nat) : (lkC g w ss om).length = 7 ∧ (lkC g w ss om).take 4 = gmC g ∧ (lkC g w ss om).getD 2 .undef = .int .i64 g.start ∧ (lkC g w ss om).getD 3 .undef = .sl 2 0 (g.prods.map prV) ∧
    (lkC g w ss om).getD 4 .undef = .sl 1 0 (ints w) ∧ (lkC g w ss om).getD 5 .undef = .sl 1 0 (ss.map setV) ∧ (lkC g w ss om).getD 6 .undef = .mapr om := ⟨rfl, rfl, rfl, rfl, rfl, rfl, rfl⟩
theorem chas_spec (H : Has (Ecx X) K.closed_looker_has A.closed_looker_has) {o om : Nat} {g : Gm} {w : List Int} {ss : List (List It)} (L : Lk h o om g w ss) {l : List (Pk × Nat)} (hm : h.objs om = heV l) (x : It) (a : Int)
    (hQ : Q (.bool (decide (0 < cntK (x, a) l))) h) : Ecx X K.closed_looker_has [.ptr o 0, itV x, .int .i64 a] h Q := by
  refine fn_walk H (by simp [A.closed_looker_has]) fun wf => ?_
  obtain ⟨p, d, fr⟩ := x
  obtain ⟨t1, t2, t3, t4, t5, t6, t7⟩ := lkT g w ss om
  have n1 : ¬ o = h.nobj := by have := L.lt; omega
  have n2 : ¬ om = h.nobj := by have := L.ltm; omega
  have hf := findE_pk (⟨p, d, fr⟩, a) l 0
  simp only [pkV, pkC] at hf
  simp [A.closed_looker_has, itV, itC, V.cells, V.good, n1, n2, L.c, t1, t7, hm, fillV, setAt, hf]
  exact fin_wk ((Gr.refl h).new _) (.same _) (by simp) hQ
/-! ### What follows -/
/-- Boxes with what a closure has caught. -/
structure Box3 (h : AH) (b : Nat) (v1 v2 v3 : List V) : Prop where
  lt : b + 2 < h.nobj
  c1 : h.objs b = v1
  c2 : h.objs (b + 1) = v2
  c3 : h.objs (b + 2) = v3
theorem Box3.gr {h h' : AH} {b : Nat} {v1 v2 v3 : List V} (l : Box3 h b v1 v2 v3) (r : Gr h h') : Box3 h' b v1 v2 v3 :=
  ⟨Nat.lt_of_lt_of_le l.lt r.nobj, by rw [r.objs _ (by have := l.lt; omega)]; exact l.c1, by rw [r.objs _ (by have := l.lt; omega)]; exact l.c2, by rw [r.objs _ l.lt]; exact l.c3⟩
theorem Box3.fr {h h' : AH} {b n : Nat} {os : List Nat} {v1 v2 v3 : List V} (l : Box3 h b v1 v2 v3) (r : FrO os h h') (ho : ∀ o ∈ os, n ≤ o) (hb : b + 2 < n) : Box3 h' b v1 v2 v3 :=
  ⟨Nat.lt_of_lt_of_le l.lt r.nobj, by rw [r.objs _ (by have := l.lt; omega) (fun m => by have := ho _ m; omega)]; exact l.c1, by rw [r.objs _ (by have := l.lt; omega) (fun m => by have := ho _ m; omega)]; exact l.c2,
    by rw [r.objs _ l.lt (fun m => by have := ho _ m; omega)]; exact l.c3⟩
def box3 (h : AH) (v1 v2 v3 : List V) : AH := ((h.new v1).new v2).new v3
theorem box3_gr (h : AH) (v1 v2 v3 : List V) : Gr h (box3 h v1 v2 v3) := (((Gr.refl h).new _).new _).new _
theorem box3_ok (h : AH) (v1 v2 v3 : List V) : Box3 (box3 h v1 v2 v3) h.nobj v1 v2 v3 :=
  ⟨Nat.lt_succ_self _, by simp only [box3, AH.new, updN]; rw [if_neg (by omega), if_neg (by omega), if_pos trivial], by simp only [box3, AH.new, updN]; rw [if_neg (by omega), if_pos trivial], updN_same _ _ _⟩
theorem begins_spec (H : Has (Ecx X) K.closed_looker_begins A.closed_looker_begins) (o : Nat) (n a : Int)
    (hQ : Q (.fn K.closed_looker_begins_1 [] [.ptr h.nobj 0, .ptr (h.nobj + 1) 0, .ptr (h.nobj + 2) 0]) (box3 h [.ptr o 0] [.int .i64 n] [.int .i64 a])) : Ecx X K.closed_looker_begins [.ptr o 0, .int .i64 n, .int .i64 a] h Q := by
  refine fn_any H (by simp [A.closed_looker_begins]) fun wf => ?_
  simp [A.closed_looker_begins, V.cells, V.good]
  exact hQ
def beginsL (g : Gm) (n a : Int) : List Pk := (ofG g n).map fun p => (⟨p, 0, a⟩, a)
theorem beginsI (L : LCl X f) {b o om : Nat} {g : Gm} {w : List Int} {ss : List (List It)} {n a : Int} (hg : g.prods.length < 2 ^ 30) (M : Lk h o om g w ss) (B : Box3 h b [.ptr o 0] [.int .i64 n] [.int .i64 a]) :
    IterOk X K.closed_looker_begins_1 [] [.ptr b 0, .ptr (b + 1) 0, .ptr (b + 2) 0] h ((beginsL g n a).map pkV) := by
  refine ⟨L.bb, fun l os h2 Q gr hos y => fn_any L.begins1 (by simp [A.closed_looker_begins_1]) fun wf => ?_⟩
  have hb := B.lt
  have hlt := M.lt
  have hn := gr.nobj
  have B2 := B.gr gr
  have M2 := M.gr gr
  obtain ⟨t1, t2, t3, t4, t5, t6, t7⟩ := lkT g w ss om
  simp [A.closed_looker_begins_1, B2.c1, B2.c2, M2.c, t1, t2]
  refine dcall (.sl 1 0 (ints (ofG g n))) (ofP_spec L.of g n (by omega) ⟨rfl, rfl⟩) ?_
  have hol : (ofG g n).length < 2 ^ 30 := by have : (ofG g n).length ≤ g.prods.length := ofF_len n g.prods 0; omega
  simp
  refine loopI (n := (ofG g n).length) (fun m env h' => ∃ k, k ≤ (ofG g n).length ∧ m = (ofG g n).length - k ∧ FrO os h2 h' ∧ YldP X (YK + l) os (((beginsL g n a).map pkV).drop k) h' Q ∧
    env = [(0, .cval (.func (.yield l) #[] #[])), (3, .ptr (b + 2) 0), (12, .sl 1 0 (ints (ofG g n))), (13, .int .i64 (ofG g n).length), (14, .int .i64 k)]) ?_ ⟨0, by omega, by omega, FrO.refl _ _, y, by simp⟩
  rintro m env h' ⟨k, hk, rfl, fr, yy, rfl⟩
  unfold A.closed_looker_begins_1.L0
  have B3 := B2.fr fr (fun o m => (hos o m).1) hb
  have hbl : (beginsL g n a).length = (ofG g n).length := by simp [beginsL]
  by_cases hk2 : k < (ofG g n).length
  · have hk' : (k : Int) < (ofG g n).length := by omega
    have hgt := ints_getD (l := ofG g n) hk2
    have hw1 : IntKind.i64.wrap ((k : Int) + 1) = ((k + 1 : Nat) : Int) := by rw [wrap_i64 (by omega) (by omega)]; rfl
    have hd : ((beginsL g n a).map pkV).drop k = pkV (⟨(ofG g n).getD k 0, 0, a⟩, a) :: ((beginsL g n a).map pkV).drop (k + 1) := by
      rw [List.drop_eq_getElem_cons (by simpa [hbl] using hk2)]; simp [beginsL, List.getD_eq_getElem?_getD, hk2]
    rw [hd] at yy
    simp [hk', hgt, B3.c3, fillV, setAt, V.cells, V.good]
    refine ecall ((yy h' (Gr.refl _)).mono fun v h3 c => ?_)
    obtain ⟨fr2, ⟨rfl, y2⟩ | ⟨rfl, q⟩⟩ := c
    · simp [hw1]
      exact ⟨(ofG g n).length - (k + 1), by omega, iv ⟨k + 1, by omega, rfl, fr.trans fr2, y2, by simp⟩⟩
    · simp
      exact q
  · have hk' : ¬ (k : Int) < (ofG g n).length := by omega
    rw [List.drop_eq_nil_of_le (by simp [hbl]; omega)] at yy
    simp [hk']
    exact yy h' (Gr.refl _)
theorem waits_spec (H : Has (Ecx X) K.closed_looker_waits A.closed_looker_waits) (o : Nat) (x : It) (a : Int)
    (hQ : Q (.fn K.closed_looker_waits_1 [] [.ptr h.nobj 0, .ptr (h.nobj + 1) 0, .ptr (h.nobj + 2) 0]) (box3 h [.ptr o 0] (itC x) [.int .i64 a])) : Ecx X K.closed_looker_waits [.ptr o 0, itV x, .int .i64 a] h Q := by
  refine fn_any H (by simp [A.closed_looker_waits]) fun wf => ?_
  simp [A.closed_looker_waits, itV, V.cells, V.good]
  exact hQ
def onI (y : It) : It := ⟨y.prod, y.dot + 1, y.frm⟩
def waitsF (g : Gm) (left a : Int) (l : List It) : List Pk := l.filterMap fun y => if nextI g y = some ⟨true, left⟩ then some (onI y, a) else none
def setA (ss : List (List It)) (i : Int) : List It := ss.getD i.toNat []
def waitsL (g : Gm) (ss : List (List It)) (x : It) (a : Int) : List Pk := waitsF g (prG g x.prod).left a (setA ss x.frm)
/-- All items may stand where they do. -/
def MayS (g : Gm) (ss : List (List It)) : Prop := ∀ i (hi : i < ss.length), ∀ y ∈ ss[i], mayI g y i = true
structure SzG (g : Gm) (ss : List (List It)) : Prop where
  gl : g.prods.length < 2 ^ 30
  r : ∀ p ∈ g.prods, p.right.length < 2 ^ 30
  s : ss.length < 2 ^ 30
  i : ∀ l ∈ ss, l.length < 2 ^ 30
theorem SzG.pr {g : Gm} {ss : List (List It)} (z : SzG g ss) (i : Int) : (prG g i).right.length < 2 ^ 30 := by
  unfold prG
  rw [List.getD_eq_getElem?_getD]
  by_cases c : i.toNat < g.prods.length
  · rw [List.getElem?_eq_getElem c]; exact z.r _ (List.getElem_mem c)
  · rw [List.getElem?_eq_none (by omega)]; simp
theorem setA_get {ss : List (List It)} {i : Int} (h0 : 0 ≤ i) (h1 : i < ss.length) : ∃ n : Nat, i = n ∧ ∃ hn : n < ss.length, setA ss i = ss[n] ∧ (ss.map setV).getD n .undef = .sl 3 0 ((setA ss i).map itV) := by
  obtain ⟨n, rfl⟩ : ∃ n : Nat, i = n := ⟨i.toNat, by omega⟩
  have hn : n < ss.length := by omega
  refine ⟨n, rfl, hn, by simp [setA, List.getD_eq_getElem?_getD, hn], ?_⟩
  rw [Enc.getD hn]; simp [setA, List.getD_eq_getElem?_getD, hn, setV]
theorem waitsI (L : LCl X f) {b o om : Nat} {g : Gm} {w : List Int} {ss : List (List It)} {x : It} {a : Int} (hz : SzG g ss) (hs : MayS g ss) (hm : mayI g x a = true) (ha : x.frm < ss.length) (M : Lk h o om g w ss) (B : Box3 h b [.ptr o 0] (itC x) [.int .i64 a]) :
    IterOk X K.closed_looker_waits_1 [] [.ptr b 0, .ptr (b + 1) 0, .ptr (b + 2) 0] h ((waitsL g ss x a).map pkV) := by
  refine ⟨L.bw, fun l os h2 Q gr hos y => fn_any L.waits1 (by simp [A.closed_looker_waits_1]) fun wf => ?_⟩
  have hb := B.lt
  have hlt := M.lt
  have hn := gr.nobj
  have B2 := B.gr gr
  have M2 := M.gr gr
  obtain ⟨t1, t2, t3, t4, t5, t6, t7⟩ := lkT g w ss om
  obtain ⟨m0, m1, m2, m3, m4, m5⟩ := mayI_iff.1 hm
  obtain ⟨p, d, fr⟩ := x
  simp only at m0 m1 m2 m3 m4 m5 ha
  obtain ⟨pn, rfl, hpn, e1, e2⟩ := prG_get m0 m1
  obtain ⟨sn, rfl, hsn, s1, s2⟩ := setA_get m4 ha
  have n1 : ¬ b = h2.nobj := by omega
  have n2 : ¬ b + 1 = h2.nobj := by omega
  have n3 : ¬ o = h2.nobj := by omega
  have bx := B2.c2
  simp only [itC] at bx
  simp [A.closed_looker_waits_1, n1, n2, n3, B2.c1, bx, M2.c, t1, t2, t4, t6, e2, s2, m1, ha, prV, prC, V.cells, fillV, setAt, V.good]
  have hT : ∀ y ∈ setA ss sn, mayI g y sn = true := by rw [s1]; exact hs sn hsn
  have hTl : (setA ss sn).length < 2 ^ 30 := by rw [s1]; exact hz.i _ (List.getElem_mem hsn)
  have hwl : waitsL g ss ⟨pn, d, sn⟩ a = waitsF g (prG g pn).left a (setA ss sn) := rfl
  rw [hwl] at y
  generalize hTe : setA ss sn = T at *
  generalize (prG g pn).left = left at *
  have M3 := M2.gr ((Gr.refl h2).new [V.bool true, V.int IntKind.i64 left])
  have hn5 : ∀ o' ∈ os, ¬ h2.nobj = o' := fun o' m => by have := (hos o' m).2; omega
  refine loopI (n := T.length) (fun m env h' => ∃ k, k ≤ T.length ∧ m = T.length - k ∧ FrO os (h2.new [V.bool true, V.int IntKind.i64 left]) h' ∧ YldP X (YK + l) os ((waitsF g left a (T.drop k)).map pkV) h' Q ∧
    env = [(0, V.cval (Value.func (Fn.yield l) #[] #[])), (1, V.ptr b 0), (3, V.ptr (b + 2) 0), (5, V.ptr h2.nobj 0), (28, V.sl 3 0 (List.map itV T)), (29, V.int IntKind.i64 T.length), (30, .int .i64 k)]) ?_ ⟨0, by omega, by omega, FrO.refl _ _, y.gr ((Gr.refl h2).new _), by simp⟩
  rintro m env h' ⟨k, hk, rfl, fr2, yy, rfl⟩
  unfold A.closed_looker_waits_1.L0
  have frx : FrO os h2 h' := ((Gr.refl h2).new _ |>.frO os).trans fr2
  have B3 := B2.fr frx (fun o m => (hos o m).1) hb
  have M4 := M2.fr frx (fun m => by have := (hos o m).1; omega)
  have h5 : h'.objs h2.nobj = [V.bool true, V.int IntKind.i64 left] := by
    rw [fr2.objs h2.nobj (Nat.lt_succ_self _) (fun m => hn5 _ m rfl)]; exact updN_same _ _ _
  have h5n : h2.nobj < h'.nobj := fr2.nobj
  by_cases hk2 : k < T.length
  · have hk' : (k : Int) < T.length := by omega
    have hg : (T.map itV).getD k .undef = itV T[k] := Enc.getD hk2
    have hw1 : IntKind.i64.wrap ((k : Int) + 1) = ((k + 1 : Nat) : Int) := by rw [wrap_i64 (by omega) (by omega)]; rfl
    have hmy := hT _ (List.getElem_mem hk2)
    rw [List.drop_eq_getElem_cons hk2] at yy
    generalize T[k] = z at *
    obtain ⟨z1, z2, z3⟩ := z
    obtain ⟨w0, w1, w2, w3, w4, w5⟩ := mayI_iff.1 hmy
    simp only at w0 w1 w2 w3 w4 w5
    have hz1 := hz.pr z1
    have hwz : IntKind.i64.wrap (z2 + 1) = z2 + 1 := wrap_i64 (by omega) (by omega)
    have n4 : ¬ b + 2 = h'.nobj := by omega
    have n5 : ¬ o = h'.nobj := by omega
    have n6 : ¬ b = h'.nobj := by omega
    have n7 : ¬ h2.nobj = h'.nobj := by omega
    have n8 : ¬ h2.nobj = h'.nobj + 1 := by omega
    have n9 : ¬ b + 2 = h'.nobj + 1 := by omega
    simp [hk', hg, itV, itC, V.cells, V.good, setAt, n6, n5, B3.c1]
    refine ecall (cnext_spec L.next (M4.gr ((Gr.refl h').new _)) ⟨z1, z2, z3⟩ hmy hz1 ?_)
    cases hnx : nextI g ⟨z1, z2, z3⟩ with
    | none =>
      have hwf : waitsF g left a (⟨z1, z2, z3⟩ :: T.drop (k + 1)) = waitsF g left a (T.drop (k + 1)) := by simp [waitsF, hnx]
      rw [hwf] at yy
      simp [nextV, V.cells, V.good, setAt, hw1]
      exact ⟨T.length - (k + 1), by omega, iv ⟨k + 1, by omega, rfl, (fr2.new _).new _, yy.gr (((Gr.refl h').new _).new _), by simp⟩⟩
    | some s =>
      obtain ⟨sn', sv⟩ := s
      simp [nextV, symV, symC, V.cells, V.good, setAt, n7, n8, h5, eqL, eqLeaf]
      by_cases hc : (⟨sn', sv⟩ : Sy) = ⟨true, left⟩
      · obtain ⟨rfl, rfl⟩ : sn' = true ∧ sv = left := by simpa using hc
        have hwf : waitsF g sv a (⟨z1, z2, z3⟩ :: T.drop (k + 1)) = (onI ⟨z1, z2, z3⟩, a) :: waitsF g sv a (T.drop (k + 1)) := by simp [waitsF, hnx]
        rw [hwf] at yy
        simp [n7, n8, n4, n9, B3.c3, fillV, setAt, V.cells, V.good, hwz]
        have g2 : Gr h' ((h'.new [V.int .i64 z1, V.int .i64 z2, V.int .i64 z3]).new [V.bool true, V.int .i64 sv]) := ((Gr.refl h').new _).new _
        refine ecall ((yy _ g2).mono fun v h3 c => ?_)
        obtain ⟨fr3, ⟨rfl, y2⟩ | ⟨rfl, q⟩⟩ := c
        · simp [hw1]
          exact ⟨T.length - (k + 1), by omega, iv ⟨k + 1, by omega, rfl, (fr2.trans (g2.frO os)).trans fr3, y2, by simp⟩⟩
        · simp
          exact q
      · have hwf : waitsF g left a (⟨z1, z2, z3⟩ :: T.drop (k + 1)) = waitsF g left a (T.drop (k + 1)) := by simp [waitsF, hnx, hc]
        rw [hwf] at yy
        have hf : (sn' && decide (sv = left)) = false := by
          cases sn' <;> simp at hc ⊢
          exact hc
        rw [hf]
        simp [hw1]
        exact ⟨T.length - (k + 1), by omega, iv ⟨k + 1, by omega, rfl, (fr2.new _).new _, yy.gr (((Gr.refl h').new _).new _), by simp⟩⟩
  · have hk' : ¬ (k : Int) < T.length := by omega
    rw [List.drop_eq_nil_of_le (by omega)] at yy
    simp [hk']
    exact yy h' (Gr.refl _)
def follows1L (w : List Int) (ss : List (List It)) (x : It) (n a : Int) : List Pk := if a + 1 < ss.length ∧ w.getD a.toNat 0 = n then [(onI x, a + 1)] else []
def followsL (g : Gm) (w : List Int) (ss : List (List It)) (x : It) (a : Int) : List Pk := match nextI g x with
  | none => waitsL g ss x a
  | some s => if s.non = true then beginsL g s.n a else follows1L w ss x s.n a
theorem follows1I (L : LCl X f) {b1 b2 b3 b4 o om : Nat} {g : Gm} {w : List Int} {ss : List (List It)} {x : It} {s : Sy} {a : Int} (hz : SzG g ss) (hw : ss.length ≤ w.length + 1) (ha : 0 ≤ a ∧ a < 2 ^ 40) (hx : x.dot < 2 ^ 40 ∧ 0 ≤ x.dot) (M : Lk h o om g w ss)
    (l1 : b1 < h.nobj) (l2 : b2 < h.nobj) (l3 : b3 < h.nobj) (l4 : b4 < h.nobj) (c1 : h.objs b1 = [.int .i64 a]) (c2 : h.objs b2 = [.ptr o 0]) (c3 : h.objs b3 = symC s) (c4 : h.objs b4 = itC x) :
    IterOk X K.closed_looker_follows_1 [] [.ptr b1 0, .ptr b2 0, .ptr b3 0, .ptr b4 0] h ((follows1L w ss x s.n a).map pkV) := by
  refine ⟨L.bf, fun l os h2 Q gr hos y => fn_any L.follows1 (by simp [A.closed_looker_follows_1]) fun wf => ?_⟩
  have M2 := M.gr gr
  have d1 := (gr.objs _ l1).trans c1
  have d2 := (gr.objs _ l2).trans c2
  have d3 := (gr.objs _ l3).trans c3
  have d4 := (gr.objs _ l4).trans c4
  obtain ⟨t1, t2, t3, t4, t5, t6, t7⟩ := lkT g w ss om
  have hs := hz.s
  have hw1 : IntKind.i64.wrap (a + 1) = a + 1 := wrap_i64 (by omega) (by omega)
  have hw2 : IntKind.i64.wrap (x.dot + 1) = x.dot + 1 := wrap_i64 (by omega) (by omega)
  simp only [symC] at d3
  simp only [itC] at d4
  unfold follows1L at y
  obtain ⟨n, rfl⟩ : ∃ n : Nat, a = n := ⟨a.toNat, by omega⟩
  by_cases q1 : (n : Int) + 1 < ss.length
  · have q2 : n < w.length := by omega
    have q3 : (n : Int) < w.length := by omega
    have hg := ints_getD (l := w) q2
    by_cases q4 : w.getD n 0 = s.n
    · simp [q1, q4] at y
      simp [A.closed_looker_follows_1, d1, d2, d3, d4, M2.c, t1, t5, t6, hw1, hw2, q1, q3, hg, q4, fillV, setAt, V.cells, V.good]
      refine ecall ((y h2 (Gr.refl _)).mono fun v h3 c => ?_)
      obtain ⟨fr3, ⟨rfl, y2⟩ | ⟨rfl, q⟩⟩ := c
      · simp
        exact y2 _ (Gr.refl _)
      · simp
        exact q
    · simp [q1, q4] at y
      simp [A.closed_looker_follows_1, d1, d2, d3, d4, M2.c, t1, t5, t6, hw1, q1, q3, hg, q4]
      exact y _ (Gr.refl _)
  · simp [q1] at y
    simp [A.closed_looker_follows_1, d1, d2, d3, d4, M2.c, t1, t5, t6, hw1, q1]
    exact y _ (Gr.refl _)
theorem follows_spec (L : LCl X f) {o om : Nat} {g : Gm} {w : List Int} {ss : List (List It)} {x : It} {a : Int} (hz : SzG g ss) (hs : MayS g ss) (hm : mayI g x a = true) (ha : 0 ≤ a ∧ a < ss.length) (hw : ss.length ≤ w.length + 1) (M : Lk h o om g w ss)
    (hQ : ∀ k cap h', Gr h h' → IterOk X k [] cap h' ((followsL g w ss x a).map pkV) → Q (.fn k [] cap) h') : Ecx X K.closed_looker_follows [.ptr o 0, itV x, .int .i64 a] h Q := by
  refine fn_any L.follows (by simp [A.closed_looker_follows]) fun wf => ?_
  have hlt := M.lt
  obtain ⟨m0, m1, m2, m3, m4, m5⟩ := mayI_iff.1 hm
  have hr := hz.pr x.prod
  have hsz := hz.s
  have gr := ((Gr.refl h).new [.ptr o 0]).new (itC x) |>.new [.int .i64 a]
  have it3 : (itC x).length = 3 ∧ (itC x).take 3 = itC x := ⟨rfl, rfl⟩
  simp [A.closed_looker_follows, itV, V.cells, V.good, it3.1, it3.2]
  refine ecall (cnext_spec L.next (M.gr gr) x hm hr ?_)
  have n1 : ¬ h.nobj = h.nobj + 3 := by omega
  have n2 : ¬ h.nobj + 1 = h.nobj + 3 := by omega
  have n3 : ¬ h.nobj + 2 = h.nobj + 3 := by omega
  cases hnx : nextI g x with
  | none =>
    have hf : followsL g w ss x a = waitsL g ss x a := by simp [followsL, hnx]
    rw [hf] at hQ
    simp [nextV, V.cells, V.good, setAt, n1, n2, n3, it3.1, it3.2]
    refine ecall (waits_spec L.waits o x a ?_)
    simp
    have g4 := gr.new [V.bool false, .int .i64 0]
    exact hQ _ _ _ (g4.trans (box3_gr _ _ _ _)) (waitsI L hz hs hm (by omega) (M.gr (g4.trans (box3_gr _ _ _ _))) (box3_ok _ _ _ _))
  | some s =>
    obtain ⟨non, n⟩ := s
    cases non with
    | true =>
      have hf : followsL g w ss x a = beginsL g n a := by simp [followsL, hnx]
      rw [hf] at hQ
      simp [nextV, symV, symC, V.cells, V.good, setAt, n1, n2, n3]
      refine ecall (begins_spec L.begins o n a ?_)
      simp
      have g4 := gr.new [V.bool true, .int .i64 n]
      exact hQ _ _ _ (g4.trans (box3_gr _ _ _ _)) (beginsI L hz.gl (M.gr (g4.trans (box3_gr _ _ _ _))) (box3_ok _ _ _ _))
    | false =>
      have hf : followsL g w ss x a = follows1L w ss x n a := by simp [followsL, hnx]
      rw [hf] at hQ
      simp [nextV, symV, symC, V.cells, V.good, setAt, n1, n2, n3]
      have g4 := gr.new [V.bool false, .int .i64 n]
      exact hQ _ _ _ g4 (follows1I L (s := ⟨false, n⟩) hz hw (by omega) (by omega) (M.gr g4) (by show _ < h.nobj + 1 + 1 + 1 + 1; omega) (by show _ < h.nobj + 1 + 1 + 1 + 1; omega) (by show _ < h.nobj + 1 + 1 + 1 + 1; omega) (by show _ < h.nobj + 1 + 1 + 1 + 1; omega) (by simp [n3]) (by simp [n1]) (by simp [symC]) (by simp [n2]))
/-! ### A looker is made -/
def LookOk (g : Gm) (w : List Int) (ss : List (List It)) : Prop := rightG g = true ∧ 0 < ss.length ∧ ss.length ≤ w.length + 1 ∧ MayS g ss
def InS (ss : List (List It)) (k : Pk) : Prop := ∃ i, ∃ hi : i < ss.length, k.2 = i ∧ k.1 ∈ ss[i]
def HereOk (ss : List (List It)) (l : List (Pk × Nat)) : Prop := ∀ k, 0 < cntK k l ↔ InS ss k
/-- The first j of the k-th set, and all sets ahead of it. -/
def Upto (ss : List (List It)) (k j : Nat) (x : Pk) : Prop := (∃ i, ∃ hi : i < ss.length, i < k ∧ x.2 = i ∧ x.1 ∈ ss[i]) ∨ (x.2 = k ∧ x.1 ∈ (setA ss k).take j)
theorem upto_zero {ss : List (List It)} {x : Pk} : ¬ Upto ss 0 0 x := by
  rintro (⟨i, hi, h0, _⟩ | ⟨_, h⟩)
  · omega
  · simp at h
theorem upto_next {ss : List (List It)} {k : Nat} (hk : k < ss.length) {x : Pk} : Upto ss k ss[k].length x ↔ Upto ss (k + 1) 0 x := by
  have hs : setA ss k = ss[k] := by simp [setA, List.getD_eq_getElem?_getD, hk]
  constructor
  · rintro (⟨i, hi, h0, h1, h2⟩ | ⟨h1, h2⟩)
    · exact .inl ⟨i, hi, by omega, h1, h2⟩
    · rw [hs, List.take_length] at h2
      exact .inl ⟨k, hk, by omega, h1, h2⟩
  · rintro (⟨i, hi, h0, h1, h2⟩ | ⟨h1, h2⟩)
    · by_cases e : i = k
      · subst e; exact .inr ⟨h1, by rw [hs, List.take_length]; exact h2⟩
      · exact .inl ⟨i, hi, by omega, h1, h2⟩
    · simp at h2
theorem upto_succ {ss : List (List It)} {k j : Nat} (hk : k < ss.length) (hj : j < ss[k].length) {x : Pk} : Upto ss k (j + 1) x ↔ Upto ss k j x ∨ x = (ss[k][j], (k : Int)) := by
  have hs : setA ss k = ss[k] := by simp [setA, List.getD_eq_getElem?_getD, hk]
  unfold Upto
  rw [hs, List.take_succ_eq_append_getElem hj]
  obtain ⟨a, b⟩ := x
  simp only [List.mem_append, List.mem_singleton, Prod.mk.injEq]
  constructor
  · rintro (h | ⟨h1, h2 | h2⟩)
    · exact .inl (.inl h)
    · exact .inl (.inr ⟨h1, h2⟩)
    · exact .inr ⟨h2, h1⟩
  · rintro ((h | ⟨h1, h2⟩) | ⟨h1, h2⟩)
    · exact .inl h
    · exact .inr ⟨h1, .inl h2⟩
    · exact .inr ⟨h2, .inr h1⟩
theorem upto_all {ss : List (List It)} {x : Pk} : Upto ss ss.length 0 x ↔ InS ss x := by
  constructor
  · rintro (⟨i, hi, _, h1, h2⟩ | ⟨_, h⟩)
    · exact ⟨i, hi, h1, h2⟩
    · simp at h
  · rintro ⟨i, hi, h1, h2⟩
    exact .inl ⟨i, hi, hi, h1, h2⟩
theorem cB_all : ∃ c : Nat, c = 1073741824 := ⟨_, rfl⟩
noncomputable def cB : Nat := cB_all.choose
theorem cB_eq : cB = 1073741824 := cB_all.choose_spec
/-- While a looker is made. -/
structure LkM (h : AH) (g : Gm) (w : List Int) (ss : List (List It)) (o om k j : Nat) (l : List (Pk × Nat)) (h' : AH) : Prop where
  gr : Gr h h'
  lk : Lk h' o om g w ss
  no : h.nobj ≤ om
  ne : ¬ o = om
  c : h'.objs om = heV l
  u : ∀ x, 0 < cntK x l ↔ Upto ss k j x
  b : ∀ x, cntK x l ≤ k * cB + j
  m : ∀ i (hi : i < ss.length), i < k → ∀ y ∈ ss[i], mayI g y i = true
theorem LkM.grow {h : AH} {g : Gm} {w : List Int} {ss : List (List It)} {o om k j : Nat} {l : List (Pk × Nat)} {h' h2 : AH} (s : LkM h g w ss o om k j l h') (r : Gr h' h2) : LkM h g w ss o om k j l h2 :=
  ⟨s.gr.trans r, s.lk.gr r, s.no, s.ne, by rw [r.objs _ s.lk.ltm]; exact s.c, s.u, s.b, s.m⟩
theorem heV_snoc (l : List (Pk × Nat)) (k : Pk) (n : Nat) : heV l ++ [.tup [pkV k, .int .i64 n]] = heV (l ++ [(k, n)]) := by simp [heV]
theorem heV_set (l : List (Pk × Nat)) (i : Nat) (k : Pk) (n : Nat) : (heV l).set i (.tup [pkV k, .int .i64 n]) = heV (l.set i (k, n)) := by simp [heV, List.map_set]
theorem flk {env : Env} {h' : AH} {om n : Nat} {k : Pk} {l' : List (Pk × Nat)} (h1 : get env 55 = .mapr om) (h2 : get env 58 = pkV k) (h3 : h'.objs om = heV l') (h4 : cntK k l' = n) :
    flZ (Ecx X) env h' (.int .i64 n) (Lz.mk (a := AOp.lkp (.st [(.i, 0), (.i, 1), (.i, 2), (.i, 3)]) (.int .i64 0) false (.t 55) (.t 58))) := by
  simp only [flZ, AOp.wp, ev, h1, h2, lkpK, h3, findE_pk]
  refine ⟨?_, trivial⟩
  unfold cntK at h4
  cases hf : fk k l' 0 with
  | none => rw [hf] at h4; subst h4; rfl
  | some p => rw [hf] at h4; subst h4; rfl
theorem mest_none (l : List (Pk × Nat)) (k : Pk) : heV l ++ [V.tup [keyOfE ((heV l ++ [V.tup [pkV k, .int .i64 0]]).getD (heV l).length .undef), .int .i64 1]] = heV (l ++ [(k, 1)]) := by
  have : (heV l ++ [V.tup [pkV k, .int .i64 0]]).getD (heV l).length .undef = .tup [pkV k, .int .i64 0] := by simp [List.getD_eq_getElem?_getD]
  rw [this]
  simp [heV, keyOfE]
theorem mest_some (l : List (Pk × Nat)) (k : Pk) {i n : Nat} (hi : i < l.length) : (heV l).set i (V.tup [keyOfE (((heV l).set i (V.tup [pkV k, .int .i64 n])).getD i .undef), .int .i64 ((n : Int) + 1)]) = heV (l.set i (k, n + 1)) := by
  have hl : i < (heV l).length := by simpa [heV] using hi
  have : ((heV l).set i (V.tup [pkV k, .int .i64 n])).getD i .undef = .tup [pkV k, .int .i64 n] := by simp [List.getD_eq_getElem?_getD, hl]
  rw [this, ← heV_set]
  rfl
theorem look_spec (L : LCl X f) {g : Gm} {w : List Int} {ss : List (List It)} (hz : SzG g ss) (hw : w.length < 2 ^ 40)
    (hQ0 : ¬ LookOk g w ss → ∀ h', Gr h h' → Q .nilp h') (hQ1 : LookOk g w ss → ∀ h' o om l, Gr h h' → h.nobj ≤ om → Lk h' o om g w ss → h'.objs om = heV l → HereOk ss l → Q (.ptr o 0) h') :
    Ecx X K.closed_look [gmV g, .sl 1 0 (ints w), .sl 1 0 (ss.map setV)] h Q := by
  refine fn_any L.look (by simp [A.closed_look]) fun wf => ?_
  have hsz := hz.s
  have hlw : IntKind.i64.wrap ((w.length : Int) + 1) = ((w.length + 1 : Nat) : Int) := by rw [wrap_i64 (by omega) (by omega)]; rfl
  have hgok : GmOk g := ⟨by have := hz.gl; simp [maxLen]; omega, fun p hp => by have := hz.r p hp; simp [maxLen]; omega⟩
  have g1 : (gmC g).length = 4 ∧ (gmC g).take 4 = gmC g := ⟨rfl, rfl⟩
  simp [A.closed_look, gmV, V.cells, V.good, g1.1, g1.2]
  refine ecall (right3R L.gr g hgok ?_)
  have gr1 := (Gr.refl h).new (gmC g)
  by_cases c1 : rightG g = true
  · by_cases c2 : ss.length = 0
    · have h0 : ¬ LookOk g w ss := fun q => by have := q.2.1; omega
      simp [c1, c2]
      exact hQ0 h0 _ gr1
    · by_cases c3 : ss.length ≤ w.length + 1
      · have c3' : ¬ (w.length : Int) + 1 < ss.length := by omega
        have c2' : ¬ ((ss.length : Nat) : Int) = 0 := by omega
        simp [c1, c2, c2', hlw, c3', setAt, fillV, V.cells, V.good, gmC]
        have hgmC : [V.int IntKind.i64 g.terms, V.int IntKind.i64 g.nons, V.int IntKind.i64 g.start, V.sl 2 0 (List.map prV g.prods)] = gmC g := rfl
        have hlkC : [V.int IntKind.i64 g.terms, V.int IntKind.i64 g.nons, V.int IntKind.i64 g.start, V.sl 2 0 (List.map prV g.prods), V.sl 1 0 (ints w), V.sl 1 0 (List.map setV ss), V.mapr (h.nobj + 1)] = lkC g w ss (h.nobj + 1) := rfl
        rw [hgmC, hlkC]
        have gr3 := (gr1.new []).new (lkC g w ss (h.nobj + 1))
        have s0 : LkM h g w ss (h.nobj + 2) (h.nobj + 1) 0 0 [] (((h.new (gmC g)).new []).new (lkC g w ss (h.nobj + 1))) :=
          { gr := gr3, lk := ⟨Nat.lt_succ_self _, by show _ < h.nobj + 1 + 1 + 1; omega, updN_same _ _ _⟩, no := by omega, ne := by omega, c := by simp [heV], u := fun x => ⟨fun hh => by simp [cntK, fk] at hh, fun hh => absurd hh upto_zero⟩, b := fun x => by simp [cntK, fk], m := fun i hi h0 => by omega }
        generalize (((h.new (gmC g)).new []).new (lkC g w ss (h.nobj + 1))) = h3 at *
        generalize h.nobj + 2 = o at *
        generalize h.nobj + 1 = om at *
        refine loopI (n := ss.length) (fun m env h' => ∃ k l, k ≤ ss.length ∧ m = ss.length - k ∧ LkM h g w ss o om k 0 l h' ∧
          env = [(7, V.ptr o 0), (34, V.sl 1 0 (List.map setV ss)), (35, V.int IntKind.i64 ss.length), (36, V.int IntKind.i64 k)]) ?_ ⟨0, [], by omega, by omega, s0, by simp⟩
        rintro m env h' ⟨k, l, hk, rfl, st, rfl⟩
        unfold A.closed_look.L0
        by_cases hk2 : k < ss.length
        · have hk' : (k : Int) < ss.length := by omega
          have hw1 : IntKind.i64.wrap ((k : Int) + 1) = ((k + 1 : Nat) : Int) := by rw [wrap_i64 (by omega) (by omega)]; rfl
          have hg : (ss.map setV).getD k .undef = .sl 3 0 (ss[k].map itV) := by rw [Enc.getD hk2]; rfl
          have hTl : ss[k].length < 2 ^ 30 := hz.i _ (List.getElem_mem hk2)
          have hsA : setA ss k = ss[k] := by simp [setA, List.getD_eq_getElem?_getD, hk2]
          simp [hk', hg, V.cells]
          refine loopI (n := ss[k].length) (fun m env h' => ∃ j l, j ≤ ss[k].length ∧ m = ss[k].length - j ∧ LkM h g w ss o om k j l h' ∧ (∀ y ∈ ss[k].take j, mayI g y k = true) ∧
            env = [(7, V.ptr o 0), (8, V.int IntKind.i64 k), (34, V.sl 1 0 (List.map setV ss)), (35, V.int IntKind.i64 ss.length), (36, V.int IntKind.i64 k), (41, V.sl 3 0 (ss[k].map itV)), (42, V.int IntKind.i64 ss[k].length), (43, V.int IntKind.i64 j)]) ?_ ⟨0, l, by omega, by omega, st, by simp, by simp⟩
          rintro m env h' ⟨j, l, hj, rfl, st, hmj, rfl⟩
          unfold A.closed_look.L1
          by_cases hj2 : j < ss[k].length
          · have hj' : (j : Int) < ss[k].length := by omega
            have hw2 : IntKind.i64.wrap ((j : Int) + 1) = ((j + 1 : Nat) : Int) := by rw [wrap_i64 (by omega) (by omega)]; rfl
            have hgj : (ss[k].map itV).getD j .undef = itV ss[k][j] := Enc.getD hj2
            have hup := fun x => upto_succ hk2 hj2 (x := x)
            have hmem := List.getElem_mem hj2
            have htk : ss[k].take (j + 1) = ss[k].take j ++ [ss[k][j]] := List.take_succ_eq_append_getElem hj2
            generalize hz' : ss[k][j] = z at *
            obtain ⟨z1, z2, z3⟩ := z
            have lt1 := st.lk.lt
            have lt2 := st.lk.ltm
            have q1 : ¬ o = h'.nobj := by omega
            have q2 : ¬ om = h'.nobj := by omega
            have q3 := st.ne
            simp [hj', hgj, itV, itC, V.cells, V.good, setAt]
            refine ecall (cmay_spec L.may (st.lk.gr ((Gr.refl h').new _)) ⟨z1, z2, z3⟩ k hz.gl ?_)
            by_cases hmy : mayI g ⟨z1, z2, z3⟩ k = true
            · have hf := findE_pk (⟨z1, z2, z3⟩, (k : Int)) l 0
              simp only [pkV, pkC] at hf
              simp [hmy, q1, q2, lkT, st.lk.c, st.c, fillV, setAt, hf]
              have hmj' : ∀ y ∈ ss[k].take (j + 1), mayI g y k = true := fun y hy => by
                rw [htk] at hy
                rcases List.mem_append.1 hy with hy | hy
                · exact hmj y hy
                · simp at hy; subst hy; exact hmy
              have next : ∀ l', l' = bump l (⟨z1, z2, z3⟩, (k : Int)) → ∀ h2, Gr h h2 → Lk h2 o om g w ss → h2.objs om = heV l' → LkM h g w ss o om k (j + 1) l' h2 := fun l' e h2 g2 L2 c2 => by
                subst e
                refine ⟨g2, L2, st.no, st.ne, c2, fun x => ?_, fun x => ?_, st.m⟩
                · rw [cntK_bump, hup x, ← st.u x]
                  by_cases e : x = (⟨z1, z2, z3⟩, (k : Int))
                  · subst e; simp
                  · simp [e]
                · rw [cntK_bump]
                  have := st.b x
                  split <;> omega
              have hb := st.b (⟨z1, z2, z3⟩, (k : Int))
              cases hfk : fk (⟨z1, z2, z3⟩, (k : Int)) l 0 with
              | none =>
                have hcn : cntK (⟨z1, z2, z3⟩, (k : Int)) l = 0 := by simp [cntK, hfk]
                have hbu : bump l (⟨z1, z2, z3⟩, (k : Int)) = l ++ [(⟨(⟨z1, z2, z3⟩, (k : Int)), 1⟩ : Pk × Nat)] := by simp [bump, hfk]
                simp [q1, q2, st.lk.c, st.c, hcn]
                have hw1 : IntKind.i64.wrap 1 = 1 := by decide
                have e1 := mest_none l (⟨z1, z2, z3⟩, (k : Int))
                have e2 : heV l ++ [.tup [pkV (⟨z1, z2, z3⟩, (k : Int)), .int .i64 0]] = _ := heV_snoc l (⟨z1, z2, z3⟩, (k : Int)) 0
                simp only [pkV, pkC] at e1 e2
                have c2 := cntK_bump (⟨z1, z2, z3⟩, (k : Int)) (⟨z1, z2, z3⟩, (k : Int)) l
                refine ⟨flk rfl rfl (l' := l ++ [((⟨z1, z2, z3⟩, (k : Int)), 0)]) (by simp [q2]; exact e2) (by
                  have : ∀ l : List (Pk × Nat), fk (⟨z1, z2, z3⟩, (k : Int)) l 0 = none → cntK (⟨z1, z2, z3⟩, (k : Int)) (l ++ [((⟨z1, z2, z3⟩, (k : Int)), 0)]) = 0 := by
                    intro l
                    induction l with
                    | nil => intro _; simp [cntK, fk]
                    | cons p l ih =>
                      intro hn
                      obtain ⟨k', n'⟩ := p
                      rw [fk] at hn
                      split at hn
                      · cases hn
                      · rename_i e
                        rw [List.cons_append, cntK_cons, if_neg e]
                        have := fk_shift (⟨z1, z2, z3⟩, (k : Int)) l 0 1
                        rw [hn] at this
                        refine ih ?_
                        cases hq : fk (⟨z1, z2, z3⟩, (k : Int)) l 0 with
                        | none => rfl
                        | some p => rw [hq] at this; cases this
                  exact this l hfk), by omega, by rw [e2]; exact exoB_he _, ss[k].length - (j + 1), by omega, iv ⟨j + 1, bump l (⟨z1, z2, z3⟩, (k : Int)), by omega, rfl, next _ rfl _ ((st.gr.set st.no _).new _) ⟨Nat.lt_succ_of_lt lt1, Nat.lt_succ_of_lt lt2, by simp [q1, q3]; exact st.lk.c⟩ (by rw [hbu]; simp [q2, hcn, hw1]; exact e1), hmj', by simp [hw2]⟩⟩
              | some p =>
                obtain ⟨i, n⟩ := p
                obtain ⟨_, hin⟩ := fk_idx _ l 0 i n hfk
                have hcn : cntK (⟨z1, z2, z3⟩, (k : Int)) l = n := by simp [cntK, hfk]
                have hbu : bump l (⟨z1, z2, z3⟩, (k : Int)) = l.set i (⟨(⟨z1, z2, z3⟩, (k : Int)), n + 1⟩ : Pk × Nat) := by simp [bump, hfk]
                simp [q1, q2, st.lk.c, st.c, hcn]
                have hil : i < l.length := (List.getElem?_eq_some_iff.1 hin).1
                have hw1 : IntKind.i64.wrap ((n : Int) + 1) = ((n + 1 : Nat) : Int) := by rw [hcn] at hb; have := cB_eq; have : k * cB ≤ 1073741824 * cB := Nat.mul_le_mul_right _ (by omega); rw [wrap_i64 (by omega) (by omega)]; rfl
                have e1 := mest_some l (⟨z1, z2, z3⟩, (k : Int)) (n := n) hil
                have e2 := heV_set l i (⟨z1, z2, z3⟩, (k : Int)) n
                simp only [pkV, pkC] at e1 e2
                have e3 : l.set i ((⟨z1, z2, z3⟩, (k : Int)), n) = l := by
                  refine List.ext_getElem? fun q => ?_
                  rw [List.getElem?_set]
                  split
                  · rename_i e; subst e; try rw [if_pos hil]
                    simpa using hin.symm
                  · rfl
                refine ⟨flk rfl rfl (l' := l) (by simp [q2]; rw [e2, e3]) hcn, by simpa [heV] using hil, by rw [e2]; exact exoB_he _, ss[k].length - (j + 1), by omega, iv ⟨j + 1, bump l (⟨z1, z2, z3⟩, (k : Int)), by omega, rfl, next _ rfl _ ((st.gr.set st.no _).new _) ⟨Nat.lt_succ_of_lt lt1, Nat.lt_succ_of_lt lt2, by simp [q1, q3]; exact st.lk.c⟩ (by rw [hbu]; simp [q2, hcn, hw1]; exact e1), hmj', by simp [hw2]⟩⟩
            · have h0 : ¬ LookOk g w ss := fun q => hmy (q.2.2.2 k hk2 _ hmem)
              have hmy' : mayI g ⟨z1, z2, z3⟩ k = false := by simpa using hmy
              simp [hmy']
              exact hQ0 h0 _ (st.gr.new _)
          · have hj' : ¬ (j : Int) < ss[k].length := by omega
            obtain rfl : j = ss[k].length := by omega
            simp [hj', hw1]
            rw [List.take_length] at hmj
            have st' : LkM h g w ss o om (k + 1) 0 l h' := ⟨st.gr, st.lk, st.no, st.ne, st.c, fun x => (st.u x).trans (upto_next hk2), fun x => (by have := st.b x; have := cB_eq; rw [Nat.succ_mul]; omega), fun i hi h0 y hy => by
              by_cases e : i = k
              · subst e; exact hmj y hy
              · exact st.m i hi (by omega) y hy⟩
            exact ⟨ss.length - (k + 1), by omega, iv ⟨k + 1, l, by omega, rfl, st', by simp⟩⟩
        · have hk' : ¬ (k : Int) < ss.length := by omega
          obtain rfl : k = ss.length := by omega
          simp [hk']
          exact hQ1 ⟨c1, by omega, c3, fun i hi y hy => st.m i hi hi y hy⟩ _ _ _ l st.gr st.no st.lk st.c (fun x => (st.u x).trans upto_all)
      · have h0 : ¬ LookOk g w ss := fun q => by have := q.2.2.1; omega
        have c3' : (w.length : Int) + 1 < ss.length := by omega
        simp [c1, c2, hlw, c3']
        exact hQ0 h0 _ gr1
  · have h0 : ¬ LookOk g w ss := fun q => c1 q.1
    have c1' : rightG g = false := by simpa using c1
    simp [c1']
    exact hQ0 h0 _ gr1
end
end Go.Proofs.Ytajaoldljichaaa.Al
namespace Go.Proofs.Ytajaoldljichaaa.Al
open Go Go.RowKit
set_option linter.unusedSimpArgs false
set_option linter.unusedVariables false
attribute [-simp] List.getD_eq_getElem?_getD Int.not_lt Int.not_le List.map_take
/-- A statement's answer. -/
noncomputable def bP (p : Prop) : Bool := @decide p (Classical.propDecidable p)
theorem bP_t {p : Prop} (h : p) : bP p = true := @decide_eq_true p (Classical.propDecidable p) h
theorem bP_f {p : Prop} (h : ¬ p) : bP p = false := @decide_eq_false p (Classical.propDecidable p) h
theorem bP_of {p : Prop} (h : bP p = true) : p := @of_decide_eq_true p (Classical.propDecidable p) h
theorem bP_iff {p q : Prop} (h : p ↔ q) : bP p = bP q := by rw [propext h]
theorem bP_eq {p : Prop} {b : Bool} (h : b = true ↔ p) : bP p = b := by
  cases b with
  | true => exact bP_t (h.1 rfl)
  | false => exact bP_f fun q => by have := h.2 q; cases this
def ClosedP (g : Gm) (w : List Int) (ss : List (List It)) : Prop := (∀ k ∈ beginsL g g.start 0, InS ss k) ∧ ∀ i (hi : i < ss.length), ∀ x ∈ ss[i], ∀ k ∈ followsL g w ss x i, InS ss k
theorem pkC_inj {a b : Pk} (h : pkC a = pkC b) : a = b := by
  obtain ⟨⟨a1, a2, a3⟩, a4⟩ := a
  obtain ⟨⟨b1, b2, b3⟩, b4⟩ := b
  simp [pkC] at h
  obtain ⟨rfl, rfl, rfl, rfl⟩ := h
  rfl
section
variable {X : Cx} {h : AH} {Q : V → AH → Prop} {f : Nat}
theorem all_pk (L : LCl X f) {o om : Nat} {g : Gm} {w : List Int} {ss : List (List It)} {l : List (Pk × Nat)} (M : Lk h o om g w ss) (hm : h.objs om = heV l) (hh : HereOk ss l) {k : Nat} {cap : List V} {ks : List Pk} (I : IterOk X k [] cap h (ks.map pkV))
    (hQ : Q (.bool (bP (∀ x ∈ ks, InS ss x))) h) : Ecx X K.closed_looker_all [.ptr o 0, .fn k [] cap] h Q := by
  refine all_spec L.all o om (gmC g) (.sl 1 0 (ints w)) (.sl 1 0 (ss.map setV)) M.lt M.ltm M.c rfl (L := ks.map pkC) (fun x hx => by obtain ⟨y, _, rfl⟩ := List.mem_map.1 hx; rfl) (by rw [List.map_map]; exact I) (fun v => bP (∃ x, v = pkC x ∧ InS ss x)) (fun v hv => ?_) (fun v hv u hu => ?_) ?_
  · obtain ⟨x, hx, rfl⟩ := List.mem_map.1 hv
    have hf := findE_pk x l 0
    rw [← hm] at hf
    refine ⟨_, hf, cntK x l, ?_, ?_⟩
    · unfold cntK
      cases fk x l 0 with
      | none => rfl
      | some p => rfl
    · constructor
      · intro hb
        have hb : bP (∃ y, pkC x = pkC y ∧ InS ss y) = true := hb
        obtain ⟨y, e, hy⟩ := bP_of hb
        have := pkC_inj e; subst this
        have := (hh x).2 hy; omega
      · intro hn
        exact bP_t ⟨x, rfl, (hh x).1 (by omega)⟩
  · obtain ⟨x, hx, rfl⟩ := List.mem_map.1 hv
    simp [pkC] at hu
    rcases hu with rfl | rfl | rfl | rfl <;> exact ⟨_, rfl⟩
  · have : ((ks.map pkC).all fun v => bP (∃ x, v = pkC x ∧ InS ss x)) = bP (∀ x ∈ ks, InS ss x) := by
      refine (bP_eq ?_).symm
      rw [List.all_eq_true]
      constructor
      · intro a x hx
        have hb := a (pkC x) (List.mem_map_of_mem hx)
        obtain ⟨y, e, hy⟩ := bP_of hb
        have := pkC_inj e; subst this
        exact hy
      · intro a v hv
        obtain ⟨x, hx, rfl⟩ := List.mem_map.1 hv
        exact bP_t ⟨x, rfl, a x hx⟩
    rw [this]; exact hQ
theorem closed1_spec (L : LCl X f) {o om : Nat} {g : Gm} {w : List Int} {ss : List (List It)} {l : List (Pk × Nat)} (hz : SzG g ss) (hk : LookOk g w ss) (M : Lk h o om g w ss) (hm : h.objs om = heV l) (hh : HereOk ss l)
    (hQ : Q (.bool (bP (ClosedP g w ss))) h) : Ecx X K.closed_looker_closed [.ptr o 0] h Q := by
  refine fn_walk L.closed (by simp [A.closed_looker_closed]) fun wf => ?_
  have hsz := hz.s
  obtain ⟨k1, k2, k3, k4⟩ := hk
  simp [A.closed_looker_closed, M.c, lkT]
  refine ecall (begins_spec L.begins o g.start 0 ?_)
  simp
  have grb := box3_gr h [.ptr o 0] [.int .i64 g.start] [.int .i64 0]
  have M2 := M.gr grb
  have hm2 := (grb.objs _ M.ltm).trans hm
  refine ecall (all_pk L M2 hm2 hh (beginsI L hz.gl M2 (box3_ok _ _ _ _)) ?_)
  by_cases c1 : ∀ x ∈ beginsL g g.start 0, InS ss x
  · rw [bP_t c1]
    simp [M2.c, lkT]
    refine loopI (n := ss.length) (fun m env h' => ∃ k, k ≤ ss.length ∧ m = ss.length - k ∧ Gr h h' ∧ (∀ i (hi : i < ss.length), i < k → ∀ x ∈ ss[i], ∀ y ∈ followsL g w ss x i, InS ss y) ∧
      env = [(0, V.ptr o 0), (20, V.sl 1 0 (List.map setV ss)), (21, V.int IntKind.i64 ss.length), (22, V.int IntKind.i64 k)]) ?_ ⟨0, by omega, by omega, grb, fun i hi h0 => by omega, by simp⟩
    rintro m env h' ⟨k, hk, rfl, gr, hf, rfl⟩
    unfold A.closed_looker_closed.L0
    by_cases hk2 : k < ss.length
    · have hk' : (k : Int) < ss.length := by omega
      have hw1 : IntKind.i64.wrap ((k : Int) + 1) = ((k + 1 : Nat) : Int) := by rw [wrap_i64 (by omega) (by omega)]; rfl
      have hg : (ss.map setV).getD k .undef = .sl 3 0 (ss[k].map itV) := by rw [Enc.getD hk2]; rfl
      have hTl : ss[k].length < 2 ^ 30 := hz.i _ (List.getElem_mem hk2)
      simp [hk', hg, V.cells]
      refine loopI (n := ss[k].length) (fun m env h' => ∃ j, j ≤ ss[k].length ∧ m = ss[k].length - j ∧ Gr h h' ∧ (∀ x ∈ ss[k].take j, ∀ y ∈ followsL g w ss x k, InS ss y) ∧
        env = [(0, V.ptr o 0), (3, V.int IntKind.i64 k), (20, V.sl 1 0 (List.map setV ss)), (21, V.int IntKind.i64 ss.length), (22, V.int IntKind.i64 k), (27, V.sl 3 0 (ss[k].map itV)), (28, V.int IntKind.i64 ss[k].length), (29, V.int IntKind.i64 j)]) ?_ ⟨0, by omega, by omega, gr, by simp, by simp⟩
      rintro m env h' ⟨j, hj, rfl, gr, hfj, rfl⟩
      unfold A.closed_looker_closed.L1
      by_cases hj2 : j < ss[k].length
      · have hj' : (j : Int) < ss[k].length := by omega
        have hw2 : IntKind.i64.wrap ((j : Int) + 1) = ((j + 1 : Nat) : Int) := by rw [wrap_i64 (by omega) (by omega)]; rfl
        have hgj : (ss[k].map itV).getD j .undef = itV ss[k][j] := Enc.getD hj2
        have hmem := List.getElem_mem hj2
        have htk : ss[k].take (j + 1) = ss[k].take j ++ [ss[k][j]] := List.take_succ_eq_append_getElem hj2
        have hmy := k4 k hk2 _ hmem
        generalize hz' : ss[k][j] = z at *
        have it3 : (itC z).length = 3 ∧ (itC z).take 3 = itC z := ⟨rfl, rfl⟩
        have hst : setAt [V.int .i64 0, V.int .i64 0, V.int .i64 0] 0 (itC z) = itC z := rfl
        simp [hj', hgj, itV, V.cells, V.good, hst, it3.1, it3.2]
        have gr2 := gr.new (itC z)
        refine ecall (follows_spec L hz k4 hmy (by omega) k3 (M.gr gr2) fun kf cap h3 g3 I3 => ?_)
        simp
        have gr3 := gr2.trans g3
        refine ecall (all_pk L (M.gr gr3) ((gr3.objs _ M.ltm).trans hm) hh I3 ?_)
        by_cases c2 : ∀ x ∈ followsL g w ss z k, InS ss x
        · rw [bP_t c2]
          simp [hw2]
          exact ⟨ss[k].length - (j + 1), by omega, iv ⟨j + 1, by omega, rfl, gr3, fun x hx => by
            rw [htk] at hx
            rcases List.mem_append.1 hx with hx | hx
            · exact hfj x hx
            · simp at hx; subst hx; exact c2, by simp⟩⟩
        · have h0 : ¬ ClosedP g w ss := fun q => c2 (q.2 k hk2 z hmem)
          rw [bP_f h0] at hQ
          rw [bP_f c2]
          simp
          exact fin_wk gr3 (.same _) (by simp) hQ
      · have hj' : ¬ (j : Int) < ss[k].length := by omega
        obtain rfl : j = ss[k].length := by omega
        simp [hj', hw1]
        rw [List.take_length] at hfj
        exact ⟨ss.length - (k + 1), by omega, iv ⟨k + 1, by omega, rfl, gr, fun i hi h0 x hx => by
          by_cases e : i = k
          · subst e; exact hfj x hx
          · exact hf i hi (by omega) x hx, by simp⟩⟩
    · have hk' : ¬ (k : Int) < ss.length := by omega
      obtain rfl : k = ss.length := by omega
      have h1 : ClosedP g w ss := ⟨c1, fun i hi => hf i hi hi⟩
      rw [bP_t h1] at hQ
      simp [hk']
      exact fin_wk gr (.same _) (by simp) hQ
  · have h0 : ¬ ClosedP g w ss := fun q => c1 q.1
    rw [bP_f h0] at hQ
    rw [bP_f c1]
    simp
    exact fin_wk grb (.same _) (by simp) hQ
theorem closed_spec (L : LCl X f) {g : Gm} {w : List Int} {ss : List (List It)} (hz : SzG g ss) (hw : w.length < 2 ^ 40)
    (hQ : Q (.bool (bP (LookOk g w ss ∧ ClosedP g w ss))) h) : Ecx X K.closed_Closed [gmV g, .sl 1 0 (ints w), .sl 1 0 (ss.map setV)] h Q := by
  refine fn_walk L.closed' (by simp [A.closed_Closed]) fun wf => ?_
  have g1 : (gmC g).length = 4 ∧ (gmC g).take 4 = gmC g := ⟨rfl, rfl⟩
  simp [A.closed_Closed, gmV, V.cells, V.good, g1.1, g1.2]
  have gr1 := (Gr.refl h).new (gmC g)
  refine ecall (look_spec L hz hw (fun h0 h' gr => ?_) (fun h1 h' o om l gr _ M hm hh => ?_))
  · have h2 : ¬ (LookOk g w ss ∧ ClosedP g w ss) := fun q => h0 q.1
    rw [bP_f h2] at hQ
    simp
    exact fin_wk (gr1.trans gr) (.same _) (by simp) hQ
  · have : bP (LookOk g w ss ∧ ClosedP g w ss) = bP (ClosedP g w ss) := bP_iff ⟨fun q => q.2, fun q => ⟨h1, q⟩⟩
    rw [this] at hQ
    simp
    refine ecall (closed1_spec L hz h1 M hm hh ?_)
    simp
    exact fin_wk (gr1.trans gr) (.same _) (by simp) hQ
end
end Go.Proofs.Ytajaoldljichaaa.Al
namespace Go.Proofs.Ytajaoldljichaaa.Al
open Go Go.RowKit
set_option linter.unusedSimpArgs false
set_option linter.unusedVariables false
/-- What each operation waits for. -/
def depsOf (ops : Array Oper) : List (List Nat) := ops.toList.map fun o => (o.after.toList.filter (Region.binds .any)).map (·.on)
/-- Slots and what has been done, in order: whatever the road, they look alike. -/
def sput : Env → Nat → V → Env
  | [], d, v => [(d, v)]
  | (e, u) :: r, d, v => if d < e then (d, v) :: (e, u) :: r else if d = e then (d, v) :: r else (e, u) :: sput r d v
def sputO (env : Env) : Option Nat → V → Env
  | none, _ => env
  | some d, v => sput env d v
def sins : Nat → List Nat → List Nat
  | i, [] => [i]
  | i, j :: r => if i < j then i :: j :: r else j :: sins i r
theorem get_sput : ∀ (env : Env) (d : Nat) (v : V) (n : Nat), get (sput env d v) n = if n = d then v else get env n
  | [], d, v, n => by simp [sput, get]
  | (e, u) :: r, d, v, n => by
    unfold sput
    split
    · rfl
    · split
      · rename_i h1 h2
        subst h2
        simp only [get]
        split <;> rfl
      · rename_i h1 h2
        simp only [get]
        rw [get_sput r d v n]
        by_cases e1 : n = e
        · rw [if_pos e1, if_pos e1, if_neg (by omega)]
        · rw [if_neg e1, if_neg e1]
theorem mem_sins {i x : Nat} : ∀ {l : List Nat}, x ∈ sins i l ↔ x = i ∨ x ∈ l
  | [] => by simp [sins]
  | j :: r => by
    unfold sins
    split
    · simp
    · rw [List.mem_cons, List.mem_cons, mem_sins (l := r)]
      constructor
      · rintro (h | h | h)
        · exact .inr (.inl h)
        · exact .inl h
        · exact .inr (.inr h)
      · rintro (h | h | h)
        · exact .inr (.inl h)
        · exact .inl h
        · exact .inr (.inr h)
/-- Each operation that may be next. -/
def memB (i : Nat) : List Nat → Bool
  | [] => false
  | j :: r => Nat.beq i j || memB i r
def allB (done : List Nat) : List Nat → Bool
  | [] => true
  | j :: r => memB j done && allB done r
def rdyB (done : List Nat) (i : Nat) (d : List Nat) : Bool := !memB i done && allB done d
theorem memB_iff {i : Nat} : ∀ {l : List Nat}, memB i l = true ↔ i ∈ l
  | [] => by simp [memB]
  | j :: r => by simp only [memB, Bool.or_eq_true, memB_iff (l := r), List.mem_cons, Nat.beq_eq]
theorem allB_of {done : List Nat} : ∀ {d : List Nat}, (∀ j ∈ d, j ∈ done) → allB done d = true
  | [], _ => rfl
  | j :: r, h => by simp only [allB, Bool.and_eq_true]; exact ⟨memB_iff.2 (h j (by simp)), allB_of fun k hk => h k (by simp [hk])⟩
theorem rdyB_of {done : List Nat} {i : Nat} {d : List Nat} (h1 : i ∉ done) (h2 : ∀ j ∈ d, j ∈ done) : rdyB done i d = true := by
  have : memB i done = false := by
    cases h : memB i done with
    | false => rfl
    | true => exact absurd (memB_iff.1 h) h1
  simp [rdyB, this, allB_of h2]
def eachP (S : Nat → AOper → Prop) (done : List Nat) : Nat → List (AOper × List Nat) → Prop
  | _, [] => True
  | i, (o, d) :: r => (if rdyB done i d = true then S i o else True) ∧ eachP S done (i + 1) r
def awpAny (E : Sig) (l : List (AOper × List Nat)) (K : Env → AH → Prop) : Nat → List Nat → Env → AH → Prop
  | 0, _, env, h => K env h
  | n + 1, done, env, h => eachP (fun i o => gdP o.gd env (o.op.wp E (ev env) h fun v h' => awpAny E l K n (sins i done) (sputO env o.dst v) h') (awpAny E l K n (sins i done) (sputO env o.dst (.tup [])) h)) done 0 l
theorem eachP_get {S : Nat → AOper → Prop} {done : List Nat} : ∀ {l : List (AOper × List Nat)} {k : Nat}, eachP S done k l → ∀ i (hi : i < l.length), (k + i) ∉ done → (∀ j ∈ (l[i]).2, j ∈ done) → S (k + i) (l[i]).1
  | [], _, _, i, hi => by simp at hi
  | (o, d) :: r, k, h, 0, _ => fun h1 h2 => by
    have h3 := h.1
    rw [if_pos (rdyB_of (i := k) (by simpa using h1) (by simpa using h2))] at h3
    exact h3
  | (o, d) :: r, k, h, i + 1, hi => by
    have := eachP_get h.2 i (by simpa using hi)
    rw [show k + (i + 1) = k + 1 + i by omega]
    simpa using this
section
variable {X : Cx} {Y : Keys}
theorem sputO_rel {g : Gh} {w : World} {h : AH} {env : Env} {d : Option Nat} {v : V} {a : Act} (R : EnvRel X g w h (put env d v) a) : EnvRel X g w h (sputO env d v) a := by
  intro n
  have := R n
  cases d with
  | none => exact this
  | some d =>
    simp only [sputO, get_sput]
    simpa only [put, get] using this
theorem any_sound {ro : Option Nat} {ds : List Deferred} (hm : X.P.follows .mixedOrders = true) (hY : X.tbl = Y.tbl) {N : Nat} {ops : Array Oper} {l : List AOper} {deps : List (List Nat)} (hc : compOpers X.P Y N ops ops.toList = some l) (hd : depsOf ops = deps) (h2 : edgesDown ops = true)
    {g : Gh} {w : World} {h : AH} {env : Env} {a : Act} {K : Env → AH → Prop} {Qc : Exit → Act → World → Prop} {id : Nat} (H : Hold X N ds g w h env a) (hk : awpAny (Ecx X) (l.zip deps) K l.length [] env h)
    (hq : ∀ env' h' g' w' a', K env' h' → Hold X N ds g' w' h' env' a' → Stp g w h g' w' h' → Qc .normal a' w')
    (hp : ∀ p w' a', PanOk X g w h p w' → a'.defers = ds → Qc (.panic [{ v := p, recovered := false }]) a' w') : (Code.region id ops true).wpIn (FR ro) 0 X.P Qc a w := by
  obtain ⟨hl, hget⟩ := compOpers_get hc
  have hsz : l.length = ops.size := by simpa using hl
  have hdl : deps.length = ops.size := by rw [← hd]; simp [depsOf]
  have hzl : (l.zip deps).length = ops.size := by simp [hsz, hdl]
  refine wpIn_region_any hm ?_
  have hdown : ∀ j (hj : j < ops.size), ∀ e ∈ (ops[j]).after, Region.binds .any e = true → e.on < j := fun j hj e he hb => by
    unfold edgesDown at h2
    have h3 := List.all_eq_true.1 h2 j (List.mem_range.2 hj)
    simp only [Array.getElem?_eq_getElem hj] at h3
    have := Array.all_eq_true'.1 h3 e he
    simp only [hb, Bool.not_true, Bool.false_or, decide_eq_true_eq] at this
    exact this
  have key : ∀ (n : Nat) (listed : Array Bool) (done : List Nat) (g1 : Gh) (w1 : World) (h1 : AH) (env1 : Env) (a1 : Act), listed.size = ops.size → (∀ i, i < ops.size → (listed.getD i true = true ↔ i ∈ done)) → cnt listed ops.size = n →
      Hold X N ds g1 w1 h1 env1 a1 → Stp g w h g1 w1 h1 → awpAny (Ecx X) (l.zip deps) K n done env1 h1 → wpAnyIn (FR ro) 0 X.P .any ops Qc n listed a1 w1 := by
    intro n
    induction n with
    | zero =>
      intro listed done g1 w1 h1 env1 a1 hs hd1 hcn H1 S1 hk1
      refine ⟨?_, hq env1 h1 g1 w1 a1 hk1 H1 S1⟩
      have hall := fun i hi => cnt_zero hcn i hi
      cases hr : Region.ready .any ops listed with
      | nil => rfl
      | cons i r =>
        have hi : i ∈ Region.ready .any ops listed := by rw [hr]; simp
        obtain ⟨h1, o, ho, _⟩ := mem_ready.1 hi
        have := hall i (Array.getElem?_eq_some_iff.1 ho).1
        rw [h1] at this; cases this
    | succ n ih =>
      intro listed done g1 w1 h1 env1 a1 hs hd1 hcn H1 S1 hk1
      refine ⟨fun h0 => ?_, fun i hi => ?_⟩
      · exfalso
        have key : ∀ k, k ≤ ops.size → (∀ i, i < k → listed.getD i true = true) ∨ ∃ i, i ∈ Region.ready .any ops listed := by
          intro k
          induction k with
          | zero => exact fun _ => .inl fun i hi => absurd hi (Nat.not_lt_zero _)
          | succ k ih =>
            intro hk
            rcases ih (by omega) with h | h
            · by_cases hl : listed.getD k true = true
              · refine .inl (fun i hi => ?_)
                by_cases e : i = k
                · rw [e]; exact hl
                · exact h i (by omega)
              · refine .inr ⟨k, mem_ready.2 ⟨by simpa using hl, ops[k]'(by omega), Array.getElem?_eq_getElem _, fun e he hb => ?_⟩⟩
                have hdn := hdown k (by omega) e he hb
                rw [← getD_true_false (by omega)]; exact h e.on hdn
            · exact .inr h
        rcases key ops.size (Nat.le_refl _) with h | ⟨i, hi⟩
        · have hall : ∀ k, k ≤ ops.size → cnt listed k = 0 := by
            intro k
            induction k with
            | zero => intro _; rfl
            | succ k ih => intro hk; simp only [cnt]; rw [ih (by omega), h k (by omega)]; rfl
          have := hall ops.size (Nat.le_refl _)
          omega
        · rw [h0] at hi; cases hi
      · obtain ⟨hun, o, ho, hpre⟩ := mem_ready.1 hi
        obtain ⟨hio, hoe⟩ := Array.getElem?_eq_some_iff.1 ho
        have hil : i < l.length := by omega
        have hcomp : compOper X.P Y N ops o = some l[i] := by
          have := hget i (by simpa using hil) (by simpa using hio)
          rw [← hoe]; simpa using this
        obtain ⟨c1, c2, c3⟩ := compOper_op hcomp
        have hz : (l.zip deps)[i]'(by omega) = (l[i], deps[i]'(by omega)) := by simp
        have step := eachP_get hk1 i (by omega) (by rw [Nat.zero_add]; exact fun q => by have := (hd1 i hio).2 q; rw [this] at hun; cases hun) (fun j hj => by
          rw [hz] at hj
          have hdi : deps[i]'(by omega) = (o.after.toList.filter (Region.binds .any)).map (·.on) := by
            subst hd; simp [depsOf, hoe]
          rw [hdi] at hj
          obtain ⟨e, he, rfl⟩ := List.mem_map.1 hj
          obtain ⟨he1, he2⟩ := List.mem_filter.1 he
          have hdn := hdown i hio e (by rw [hoe]; simpa using he1) he2
          refine (hd1 e.on (by omega)).1 ?_
          rw [getD_true_false (by omega)]
          exact hpre e (by simpa using he1) he2)
        rw [Nat.zero_add, hz] at step
        have hseti : ∀ j, j < ops.size → ((listed.setIfInBounds i true).getD j true = true ↔ j ∈ sins i done) := fun j hj => by
          rw [mem_sins]
          by_cases e : j = i
          · subst e; simp [Array.getD, hs, hj]
          · have : (listed.setIfInBounds i true).getD j true = listed.getD j true := by
              simp only [Array.getD_eq_getD_getElem?, Array.getElem?_setIfInBounds_ne (Ne.symm e)]
            rw [this, hd1 j hj]; simp [e]
        have hcnt : cnt (listed.setIfInBounds i true) ops.size = n := by
          have := cnt_set listed i hun ops.size
          rw [if_pos hio] at this; omega
        have hsz' : (listed.setIfInBounds i true).size = ops.size := by simp [hs]
        unfold wpOpIn
        simp only [ho]
        have hR : ∀ x ∈ o.op.operands, ∀ y, co Y x = some y → Rel X g1 w1 h1 (ev env1 y) (a1.eval x) := fun x _ y hy => co_rel hY H1.env hy
        rcases guard_spec hcomp (fun s _ _ => H1.env s) step with ⟨hk, hw⟩ | ⟨hk, hw⟩
        · rw [if_pos hw]
          refine op_sound hY c1 (fun _ => rfl) hR H1.inv hk (fun v h' x g' w' k I' r S => ?_) (fun p w' z => hp p w' a1 (z.trans S1) H1.defers)
          refine ih _ (sins i done) g' w' h' _ _ hsz' hseti hcnt ⟨?_, I', by rw [put_size]; exact H1.size, by rw [put_defers']; exact H1.defers⟩ (S1.trans S) k
          rw [c2]; exact sputO_rel ((H1.env.stp S).put H1.size c3 r)
        · rw [if_neg (by simp [hw])]
          refine ⟨fun _ _ => trivial, ?_⟩
          refine ih _ (sins i done) g1 w1 h1 _ _ hsz' hseti hcnt ⟨?_, H1.inv, by rw [put_size]; exact H1.size, by rw [put_defers']; exact H1.defers⟩ S1 hk
          rw [c2]; exact sputO_rel (H1.env.put H1.size c3 (.tup [] #[] rfl (by simp)))
  have hrep : ∀ i, i < ops.size → (Array.replicate ops.size false).getD i true = false := fun i hi => by simp [Array.getD, hi]
  have hc0 : ∀ k, k ≤ ops.size → cnt (Array.replicate ops.size false) k = k := by
    intro k
    induction k with
    | zero => intro _; rfl
    | succ k ih => intro hk; simp only [cnt]; rw [ih (by omega), hrep k (by omega)]; simp
  rw [hsz] at hk
  exact key ops.size _ [] g { w with drawn := w.drawn + 1 } h env a (by simp) (fun i hi => by rw [hrep i hi]; simp) (hc0 _ (Nat.le_refl _)) ⟨fun n => (H.env n).drew, H.inv.drew, H.size, H.defers⟩ (Stp.drew g w h) hk
end
end Go.Proofs.Ytajaoldljichaaa.Al
namespace Go.Proofs.Ytajaoldljichaaa.Al
def A.tree_push.C0 : AC := .post (.keep [0, 1] (.reg [⟨(some 3), none, .box (.t 1)⟩])) [0, 3]
def A.tree_push.R : List AOper := [⟨(some 4), none, .mv (.t 0)⟩, ⟨(some 5), none, .mv (.t 0)⟩, ⟨(some 6), none, .nilchk (.t 5)⟩, ⟨(some 7), none, .fa 0 (.t 6)⟩, ⟨(some 8), none, .load false 1 (.t 7)⟩, ⟨(some 9), none, .load true 4 (.t 3)⟩, ⟨(some 10), none, .bsl 4 true [(.bool false), (.int .i64 (0)), (.int .i64 (0)), (.bool false)] 1 [(0, (.t 9))]⟩, ⟨(some 11), none, .appg 4 32 (.t 8) (.t 10)⟩, ⟨(some 12), none, .nilchk (.t 4)⟩, ⟨(some 13), none, .fa 0 (.t 12)⟩, ⟨none, none, .store 1 (.t 13) (.t 11)⟩]
def A.tree_push.D : List (List Nat) := [[], [], [1], [2], [3], [], [5], [4, 6], [0, 0, 1, 2, 3, 4, 5, 6, 7], [8, 0, 1, 2, 3, 4, 5, 6, 7], [9, 7, 7, 0, 1, 2, 3, 4, 5, 6, 7]]
end Go.Proofs.Ytajaoldljichaaa.Al
