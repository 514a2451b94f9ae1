/-
  What the law ShowOne needs of this claim's texts (part 2). Conditions: each theorem's own.
-/
import Derived.Test.YtdbbgkdepjidjaaAlC
import Derived.Test.YtdbbgkdepjidjaaAlKeys
import Derived.Test.YtdbbgkdepjidjaaAlA
import Derived.Test.YtdbbgkdepjidjaaAlB
import Derived.Test.YtdbbgkdepjidjaaSh1ShowOne
namespace Go.Proofs.Ytdbbgkdepjidjaa.Al
open Go Go.RowKit
set_option linter.unusedSimpArgs false
set_option linter.unusedVariables false
/-- With other stamps' ghosts. -/
theorem Rel.retip {X : Cx} {g g' : Gh} {w : World} {h h' : AH} (n3 : 3 ≤ h'.next) {n : Nat} (hn : n ≤ h'.next) (hnx : h'.nobj ≤ h.nobj) (hgo : g'.obj = g.obj) (hgm : g'.mp = g.mp) (hgp : g'.pub = g.pub) (hgt : ∀ s, s < n → g'.tip s = g.tip s) (h3n : 3 ≤ n)
    (ht : ∀ s e, s < n → h'.tips s = some e → h.tips s = some e) {v : V} {x : Value} (r : Rel X g w h v x) (bd : Bdd n h'.nobj v) : Rel X g' w h' v x := by
  induction r with
  | bool b => exact .bool b
  | int k n => exact .int k n
  | str s => exact .str s
  | slnil e st hst => exact .slnil e st hst
  | slemp e a => exact .slemp e a
  | sl e st l b' off cap x h1 hs hcap he hc ho hp hr h2 h3 ih =>
    cases bd with
    | sl _ _ _ hs' hl =>
      have hsn : st < n := by omega
      refine .sl e st l b' off cap x h1 (by omega) hcap he hc ho (by rw [hgp]; exact hp) (fun i hi => ih i hi (hl _ (List.getElem_mem hi))) h2 (fun e' he' => ?_)
      obtain ⟨a, b, c, d⟩ := h3 e' (ht _ _ hsn he')
      exact ⟨a, by rw [hgt _ hsn]; exact b, by rw [hgp]; exact c, d⟩
  | agg l cs hl ho hr ih =>
    cases bd with
    | agg _ hb => exact .agg l cs hl ho (fun i h1 h2 => ih i h1 h2 (hb _ (List.getElem_mem h1)))
  | ptr o off hn hm => cases bd with | ptr _ _ ho => rw [← hgo]; exact .ptr o off ho (by rw [hgm]; exact hm)
  | mapr o hn hm => cases bd with | mapr _ ho => rw [← hgo]; exact .mapr o ho (by rw [hgm]; exact hm)
  | mapn => exact .mapn
  | osl e o off len cap c hn hm hc hk => cases bd with | osl _ _ _ _ _ ho => rw [← hgo]; exact .osl e o off len cap c ho (by rw [hgm]; exact hm) hc hk
  | rptr l off b' base x hc ho hp hr ih =>
    cases bd with
    | rptr _ _ hb => exact .rptr l off b' base x hc ho (by rw [hgp]; exact hp) (fun i hi => ih i hi (hb _ (List.getElem_mem hi)))
  | nilp => exact .nilp
  | fn f first cap fs cs h0 hf hcl hr1 hr2 ih1 ih2 =>
    cases bd with
    | fn _ _ _ b1 b2 => exact .fn f first cap fs cs h0 hf hcl (fun i h1 h2 => ih1 i h1 h2 (b1 _ (List.getElem_mem h1))) (fun i h1 h2 => ih2 i h1 h2 (b2 _ (List.getElem_mem h1)))
  | nilf => exact .nilf
  | tup l cs hl hr ih =>
    cases bd with
    | tup _ hb => exact .tup l cs hl (fun i h1 h2 => ih i h1 h2 (hb _ (List.getElem_mem h1)))
  | cval c => exact .cval c
  | tp o t n hn hm hs => cases bd with | tp _ _ _ ho => rw [← hgo]; exact .tp o t n ho (by rw [hgm]; exact hm) (by rw [hgo]; exact hs)
  | tys t v a n c r ht ih => cases bd with | tys _ _ hv => exact .tys t v a n c (ih hv) ht
  | undef v => exact .undef v
/-- From h to h1 a slice of that stamp has been appended to. -/
structure SE (e : Nat) (h h1 : AH) (st st1 : Nat) : Prop where
  next : h.next ≤ h1.next
  nobj : h.nobj ≤ h1.nobj
  objs : ∀ o, o < h.nobj → h1.objs o = h.objs o
  tips : ∀ s, s < h.next → (s ≠ st ∨ s ≤ 2) → h1.tips s = h.tips s
  st : (st1 = st ∧ h1.tips st = h.tips st ∧ (st ≤ 2 ∨ st < h.next)) ∨ (h.next ≤ st1 ∧ st1 < h1.next ∧ h1.tips st1 = some e)
theorem SE.refl {e : Nat} {h : AH} {st : Nat} (hs : st ≤ 2 ∨ st < h.next) : SE e h h st st := ⟨Nat.le_refl _, Nat.le_refl _, fun _ _ => rfl, fun _ _ _ => rfl, .inl ⟨rfl, rfl, hs⟩⟩
theorem SE.new {e : Nat} {h h1 : AH} {st st1 : Nat} (s : SE e h h1 st st1) (z : List V) : SE e h (h1.new z) st st1 :=
  ⟨s.next, Nat.le_succ_of_le s.nobj, fun o ho => by rw [new_objs_ne _ _ (by have := s.nobj; omega)]; exact s.objs o ho, s.tips, s.st⟩
theorem SE.set {e : Nat} {h h1 : AH} {st st1 : Nat} (s : SE e h h1 st st1) {o : Nat} (ho : h.nobj ≤ o) (z : List V) : SE e h (h1.set o z) st st1 :=
  ⟨s.next, s.nobj, fun o' ho' => by rw [set_objs_ne _ _ _ (by omega)]; exact s.objs o' ho', s.tips, s.st⟩
theorem push_tips_at {h : AH} {st e s : Nat} (h1 : s < h.next) (h2 : s ≠ st ∨ s ≤ 2) : (h.push st e).tips s = h.tips s := by
  have hne : s ≠ h.next := by omega
  unfold AH.push
  split
  · exact updN_ne _ _ hne
  · have e1 : ((h.drop st).grow e).tips s = (h.drop st).tips s := updN_ne _ _ hne
    rw [e1]; exact updN_ne _ _ (by omega)
theorem SE.push {e : Nat} {h h1 : AH} (n3 : 3 ≤ h.next) {st st1 : Nat} (s : SE e h h1 st st1) : SE e h (h1.push st1 e) st h1.next := by
  have a := s.next
  refine ⟨by rw [push_next]; omega, by rw [push_nobj]; exact s.nobj, fun o ho => by rw [push_objs]; exact s.objs o ho, fun k hk hn => ?_, .inr ⟨a, by rw [push_next]; omega, push_new h1 st1 e⟩⟩
  rw [push_tips_at (by omega) ?_]
  · exact s.tips k hk hn
  · rcases s.st with ⟨b, _⟩ | ⟨b, _⟩
    · rw [b]; exact hn
    · omega
/-- A slice to which may be appended. -/
structure May (e : Nat) (h : AH) (e1 st : Nat) (l : List V) : Prop where
  el : l = [] ∨ e1 = e
  st : st = 1 ∨ st = 2 ∨ h.tips st = some e
theorem May.app {e : Nat} {h : AH} {e1 st : Nat} {l : List V} (y : May e h e1 st l) {sz e2 : Nat} {m : List V} (hm : m ≠ []) (he : e2 = e) (hb : (l.length + m.length) * sz ≤ 2 ^ 46) {K : V → AH → Prop} {zK : Lz K}
    (hk : K (.sl e h.next (l ++ m)) (h.push st e)) : App h e sz e1 st l e2 m zK :=
  ⟨fun h0 => absurd h0 hm, fun _ => ⟨y.st, y.el, he, hb, hk⟩⟩
theorem May.se {e : Nat} {h h1 : AH} {e1 st st1 : Nat} {l : List V} (y : May e h e1 st l) (s : SE e h h1 st st1) {l1 : List V} {e2 : Nat} (hl : l1 = [] ∨ e2 = e) : May e h1 e2 st1 l1 :=
  ⟨hl, by
    rcases s.st with ⟨b, c, _⟩ | ⟨b, _, c⟩
    · rw [b, c]; exact y.st
    · exact .inr (.inr c)⟩
section
variable {X : Cx} {h : AH} {Q : V → AH → Prop}
/-- A call that appends to a slice, and hands it back. -/
theorem Ecx.tip {k : Nat} {args : List V} {st e : Nat} (hst : st ≤ 2 ∨ st < h.next)
    (c : Ecx X k args h fun r h1 => ∃ st1 l, r = .sl e st1 l ∧ SE e h h1 st st1 ∧ h.next ≤ st1 ∧ (∀ v ∈ cellsOf l, Bdd h.next h.nobj v) ∧ Q (.sl e h.next l) (h.push st e)) : Ecx X k args h Q := by
  intro g w cargs I rl
  refine (c g w cargs I rl).mono ?_
  rintro x w' ⟨r, h1, g', ⟨st1, l, rfl, se, hle, hb, q⟩, I', rx, S⟩
  have n3 := I.next
  have hs1 : st1 < h1.next ∧ h1.tips st1 = some e := by
    rcases se.st with ⟨b, c, d⟩ | ⟨b, c, d⟩
    · omega
    · exact ⟨c, d⟩
  have htn : (h.push st e).next = h.next + 1 := push_next _ _ _
  have hob : (h.push st e).objs = h.objs := push_objs _ _ _
  have hno : (h.push st e).nobj = h.nobj := push_nobj _ _ _
  have htip : ∀ s e', s < h.next → (h.push st e).tips s = some e' → h.tips s = some e' ∧ h1.tips s = some e' := fun s e' hs he => by
    by_cases hq : s ≠ st ∨ s ≤ 2
    · rw [push_tips_at hs hq] at he
      exact ⟨he, by rw [se.tips s hs hq]; exact he⟩
    · obtain rfl : s = st := by omega
      unfold AH.push at he
      rw [if_neg (by omega)] at he
      have e1 : ((h.drop s).grow e).tips s = (h.drop s).tips s := updN_ne _ _ (by show s ≠ h.next; omega)
      rw [e1, show (h.drop s).tips s = none from updN_same _ _ _] at he
      cases he
  have htop : ∀ s e', (h.push st e).tips s = some e' → s < h.next ∨ (s = h.next ∧ e' = e) := fun s e' he => by
    by_cases hq : s = h.next
    · subst hq; rw [push_new] at he; exact .inr ⟨rfl, (Option.some.inj he).symm⟩
    · left
      have : (h.push st e).tips s = some e' → h.tips s = some e' := fun he => by
        unfold AH.push at he
        split at he
        · rwa [show (h.grow e).tips s = h.tips s from updN_ne _ _ hq] at he
        · rw [show ((h.drop st).grow e).tips s = (h.drop st).tips s from updN_ne _ _ hq] at he
          by_cases hs : s = st
          · subst hs; rw [show (h.drop s).tips s = none from updN_same _ _ _] at he; cases he
          · rwa [show (h.drop st).tips s = h.tips s from updN_ne _ _ hs] at he
      exact (I.tipB s e' (this he)).2.1
  obtain ⟨g2, hg2e⟩ : ∃ g2 : Gh, g2 = { g' with tip := updN g'.tip h.next (g'.tip st1) } := ⟨_, rfl⟩
  have ho2 : g2.obj = g'.obj := by rw [hg2e]
  have hm2 : g2.mp = g'.mp := by rw [hg2e]
  have hp2 : g2.pub = g'.pub := by rw [hg2e]
  have hg2 : ∀ s, s < h.next → g2.tip s = g'.tip s := fun s hs => by rw [hg2e]; exact updN_ne _ _ (by omega)
  have hg2n : g2.tip h.next = g'.tip st1 := by rw [hg2e]; exact updN_same _ _ _
  have conv : ∀ {v : V} {x : Value}, Rel X g' w' h1 v x → Bdd h.next h.nobj v → Rel X g2 w' (h.push st e) v x := fun {v x} r b =>
    Rel.retip (g := g') (g' := g2) (n := h.next) (by rw [htn]; omega) (by rw [htn]; omega) (by rw [hno]; exact se.nobj) ho2 hm2 hp2 hg2 n3 (fun s e' hs he => (htip s e' hs he).2) r (by rw [hno]; exact b)
  have hbd : ∀ o, o < h.nobj → ∀ v ∈ h.objs o, Bdd h.next h.nobj v := fun o ho v hv => I.objBdd ho v hv
  have S2 : Stp g w h g2 w' (h.push st e) :=
    { next := by rw [htn]; omega
      nobj := by rw [hno]; exact Nat.le_refl _
      obj := by rw [ho2]; exact S.obj
      mp := by rw [hm2]; exact S.mp
      pub := by rw [hp2]; exact S.pub
      cell := S.cell
      tip := fun s hs e' he => by
        obtain ⟨a, b⟩ := htip s e' hs he
        obtain ⟨c, d, f⟩ := S.tip s hs e' b
        exact ⟨a, by rw [hg2 s hs]; exact d, by rw [hp2]; exact f⟩
      row := fun s hs e' he => S.row s hs e' (htip s e' hs he).2
      shape := S.shape }
  refine ⟨_, _, g2, q, ?_, ?_, S2⟩
  · exact
      { below := I'.below
        next := by rw [htn]; omega
        maps := fun o ho hm => by
          rw [hno] at ho
          rw [hm2] at hm
          unfold MapOk
          rw [ho2]
          obtain ⟨es, k1, k2, k3, k4⟩ := I'.maps o (Nat.lt_of_lt_of_le ho se.nobj) hm
          refine ⟨es, k1, by rw [hob, ← se.objs o ho]; exact k2, k3, fun i i1 i2 => ?_⟩
          simp only [hob] at i1 ⊢
          have := k4 i (by rw [se.objs o ho]; exact i1) i2
          simp only [se.objs o ho] at this
          exact conv this (hbd o ho _ (List.getElem_mem i1))
        objs := fun o ho hm hne => by
          rw [hno] at ho
          rw [hob] at hne
          rw [hm2] at hm
          rw [ho2]
          obtain ⟨cs, t, k1, k2, k3, k4⟩ := I'.objs o (Nat.lt_of_lt_of_le ho se.nobj) hm (by rw [se.objs o ho]; exact hne)
          refine ⟨cs, t, k1, by rw [hob, ← se.objs o ho]; exact k2, k3, fun i i1 i2 => ?_⟩
          simp only [hob] at i1 ⊢
          have := k4 i (by rw [se.objs o ho]; exact i1) i2
          simp only [se.objs o ho] at this
          exact conv this (hbd o ho _ (List.getElem_mem i1))
        objL := fun {o} ho => by rw [ho2]; exact I'.objL (Nat.lt_of_lt_of_le (by rw [hno] at ho; exact ho) se.nobj)
        objB := fun o ho => by
          rw [hno] at ho
          rw [ho2, hm2, hp2]
          refine ⟨(I'.objB o (Nat.lt_of_lt_of_le ho se.nobj)).1, fun hm hne => (I'.objB o (Nat.lt_of_lt_of_le ho se.nobj)).2 hm ?_⟩
          rw [se.objs o ho]; rw [hob] at hne; exact hne
        objI := fun o o' a b => by rw [ho2]; exact I'.objI o o' (Nat.lt_of_lt_of_le (by rw [hno] at a; exact a) se.nobj) (Nat.lt_of_lt_of_le (by rw [hno] at b; exact b) se.nobj)
        tipB := fun s e' he => by
          rcases htop s e' he with hs | ⟨rfl, rfl⟩
          · obtain ⟨a, b, c, d⟩ := I'.tipB s e' (htip s e' hs he).2
            exact ⟨a, by rw [htn]; omega, by rw [hg2 s hs]; exact c, by rw [hg2 s hs]; exact d⟩
          · obtain ⟨a, b, c, d⟩ := I'.tipB st1 e' hs1.2
            exact ⟨n3, by rw [htn]; omega, by rw [hg2n]; exact c, by rw [hg2n]; exact d⟩
        tipI := fun s e' s' e'' he he' heq => by
          rcases htop s e' he with hs | ⟨rfl, rfl⟩ <;> rcases htop s' e'' he' with hs' | ⟨rfl, rfl⟩
          · rw [hg2 s hs, hg2 s' hs'] at heq
            exact I'.tipI s e' s' e'' (htip s e' hs he).2 (htip s' e'' hs' he').2 heq
          · rw [hg2 s hs, hg2n] at heq
            have := I'.tipI s e' st1 e'' (htip s e' hs he).2 hs1.2 heq
            omega
          · rw [hg2 s' hs', hg2n] at heq
            have := I'.tipI st1 e' s' e'' hs1.2 (htip s' e'' hs' he').2 heq
            omega
          · rfl
        tipO := fun o s e' ho he => by
          rw [hno] at ho
          rw [ho2]
          rcases htop s e' he with hs | ⟨rfl, rfl⟩
          · rw [hg2 s hs]; exact I'.tipO o s e' (Nat.lt_of_lt_of_le ho se.nobj) (htip s e' hs he).2
          · rw [hg2n]; exact I'.tipO o st1 e' (Nat.lt_of_lt_of_le ho se.nobj) hs1.2
        pubB := by rw [hp2]; exact I'.pubB }
  · cases rx with
    | slnil e st hst => omega
    | slemp e a => omega
    | sl e st l b' off cap x h1' hs hcap he hc ho hp hr h2 h3 =>
      refine .sl e h.next l b' off cap x (by omega) (by rw [htn]; omega) hcap he hc ho (by rw [hp2]; exact hp) (fun i hi => conv (hr i hi) (hb _ (List.getElem_mem hi))) (fun e2 => by omega) (fun e' he' => ?_)
      rw [push_new] at he'
      obtain rfl := Option.some.inj he'
      obtain ⟨a, b, c, d⟩ := h3 _ hs1.2
      exact ⟨rfl, by rw [hg2n]; exact b, by rw [hp2]; exact c, d⟩
end
end Go.Proofs.Ytdbbgkdepjidjaa.Al
namespace Go.Proofs.Ytdbbgkdepjidjaa.Al
open Go Go.RowKit
set_option linter.unusedSimpArgs false
set_option linter.unusedVariables false
attribute [-simp] List.getD_eq_getElem?_getD Int.not_lt Int.not_le List.map_take List.map_map
/-! ### What is read, in plain Lean -/
/-- A name that is used, or given, and its place. -/
structure Use where
  name : Str
  at' : Nat
  deriving DecidableEq
def useV (u : Use) : V := .agg [.str u.name, .int .i64 u.at']
/-- A reader's state. -/
structure PS where
  at' : Nat
  rules : List Rl
  nodes : List Nd
  given : List Use
  used : List Use
def PS.adv (s : PS) : PS := { s with at' := s.at' + 1 }
def PS.lay (s : PS) (kind : Int) (name : Str) (kids : List Int) : PS := { s with nodes := s.nodes ++ [⟨kind, name, kids⟩] }
def PS.last (s : PS) : Int := (s.nodes.length : Int) - 1
section
variable (toks : List Tok) (en : Nat)
def aheadP (a : Nat) (m : Str) : Bool := match toks[a]? with
  | some t => decide (t.kind = 3) && decide (t.text = m)
  | none => false
/-- The place of the next token, or the text's end. -/
def plcP (a : Nat) : Nat := match toks[a]? with
  | some t => t.at'
  | none => en
def bgnP (a : Nat) : Bool := match toks[a]? with
  | some t => decide (t.kind ≠ 3) || decide (t.text = [40])
  | none => false
abbrev PR (α : Type) := Except Nat (PS × α)
def pbnd {α β : Type} (r : PR α) (f : PS → α → PR β) : PR β := match r with
  | .ok (s, a) => f s a
  | .error p => .error p
def mustP (m : Str) (s : PS) : PR Unit := if aheadP toks s.at' m then .ok (s.adv, ()) else .error (plcP toks en s.at')
def nameP (s : PS) : PR Use := match toks[s.at']? with
  | some t => if t.kind = 1 then .ok (s.adv, ⟨t.text, t.at'⟩) else .error t.at'
  | none => .error en
def nodeP (kind : Int) (name : Str) (kids : List Int) (s : PS) : PS × Int := ((s.lay kind name kids), (s.nodes.length : Int))
def oneP (kind : Int) (l : List Int) (s : PS) : PS × Int := match l with
  | [n] => (s, n)
  | l => nodeP kind [] l s
def useP (u : Use) (s : PS) : PS := { s with used := s.used ++ [u] }
def atomP (alt : PS → PR Int) (s : PS) : PR Int :=
  if aheadP toks s.at' [40] then pbnd (alt s.adv) fun s1 n => pbnd (mustP toks en [41] s1) fun s2 _ => .ok (s2, n)
  else match toks[s.at']? with
    | none => .error en
    | some t => if t.kind = 2 then .ok (nodeP 7 t.text [] s.adv) else pbnd (nameP toks en s) fun s1 u => .ok (nodeP 6 u.name [] (useP u s1))
def markP (s : PS) (n : Int) : PS × Int :=
  if aheadP toks s.at' [42] then nodeP 3 [] [n] s.adv
  else if aheadP toks s.at' [43] then nodeP 4 [] [n] s.adv
  else if aheadP toks s.at' [63] then nodeP 5 [] [n] s.adv
  else (s, n)
def itemP (alt : PS → PR Int) (s : PS) : PR Int := pbnd (atomP toks en alt s) fun s1 n => .ok (markP toks s1 n)
def itemsP (alt : PS → PR Int) : Nat → PS → List Int → PR (List Int)
  | 0, s, l => .ok (s, l)
  | k + 1, s, l => if bgnP toks s.at' then pbnd (itemP toks en alt s) fun s1 n => itemsP alt k s1 (l ++ [n]) else .ok (s, l)
def seqP (alt : PS → PR Int) (s : PS) : PR Int := pbnd (itemsP toks en alt (toks.length + 1) s []) fun s1 l => .ok (oneP 1 l s1)
def altsL (alt : PS → PR Int) : Nat → PS → List Int → PR (List Int)
  | 0, s, l => .ok (s, l)
  | k + 1, s, l => pbnd (seqP toks en alt s) fun s1 n => if aheadP toks s1.at' [124] then altsL alt k s1.adv (l ++ [n]) else .ok (s1, l ++ [n])
def altsP : Nat → PS → PR Int
  | 0, s => .error 0
  | f + 1, s => pbnd (altsL toks en (altsP f) (toks.length + 1) s []) fun s1 l => .ok (oneP 2 l s1)
def giveP (u : Use) (s : PS) : PS := { s with given := s.given ++ [u] }
def ruleP (s : PS) : PR Unit := pbnd (nameP toks en s) fun s1 u => pbnd (mustP toks en [58] (giveP u s1)) fun s2 _ => pbnd (altsP toks en (toks.length + 1) s2) fun s3 n =>
  pbnd (mustP toks en [59] s3) fun s4 _ => .ok ({ s4 with rules := s4.rules ++ [⟨u.name, n⟩] }, ())
def textL : Nat → PS → PR Unit
  | 0, s => .ok (s, ())
  | k + 1, s => pbnd (ruleP toks en s) fun s1 _ => if s1.at' < toks.length then textL k s1 else .ok (s1, ())
def textP : PR Unit := textL toks en (toks.length + 1) ⟨0, [], [], [], []⟩
end
/-! ### Where it stands, and how much there is -/
def pot (toks : List Tok) (s : PS) : Nat := s.nodes.length + s.used.length + s.given.length + s.rules.length + 8 * (toks.length - s.at')
/-- From s to s' something may have been read. -/
structure Fwd (toks : List Tok) (c : Nat) (s s' : PS) : Prop where
  at1 : s.at' ≤ s'.at'
  at2 : s'.at' ≤ toks.length
  pot : pot toks s' ≤ pot toks s + c
section
variable {toks : List Tok} {en : Nat}
theorem aheadP_lt {a : Nat} {m : Str} (h : aheadP toks a m = true) : a < toks.length := by
  unfold aheadP at h
  rcases Nat.lt_or_ge a toks.length with c | c
  · exact c
  · rw [List.getElem?_eq_none c] at h; simp at h
theorem bgnP_lt {a : Nat} (h : bgnP toks a = true) : a < toks.length := by
  unfold bgnP at h
  rcases Nat.lt_or_ge a toks.length with c | c
  · exact c
  · rw [List.getElem?_eq_none c] at h; simp at h
theorem pot_adv {s : PS} (h : s.at' < toks.length) : pot toks s.adv + 8 = pot toks s := by unfold pot PS.adv; simp only; omega
theorem pbnd_ok {α β : Type} {r : PR α} {f : PS → α → PR β} {x : PS × β} (h : pbnd r f = .ok x) : ∃ s a, r = .ok (s, a) ∧ f s a = .ok x := by
  unfold pbnd at h
  split at h
  · exact ⟨_, _, rfl, h⟩
  · cases h
theorem must_fwd {m : Str} {s s' : PS} {u : Unit} (h : mustP toks en m s = .ok (s', u)) : s' = s.adv ∧ s.at' < toks.length := by
  unfold mustP at h
  split at h
  · rename_i c; cases h; exact ⟨rfl, aheadP_lt c⟩
  · cases h
theorem name_fwd {s s' : PS} {u : Use} (h : nameP toks en s = .ok (s', u)) : s' = s.adv ∧ s.at' < toks.length := by
  unfold nameP at h
  split at h
  · rename_i t e
    split at h
    · cases h
      exact ⟨rfl, (List.getElem?_eq_some_iff.1 e).1⟩
    · cases h
  · cases h
theorem one_fwd (kind : Int) (l : List Int) (s : PS) : (oneP kind l s).1.at' = s.at' ∧ pot toks (oneP kind l s).1 ≤ pot toks s + 1 := by
  unfold oneP
  split
  · exact ⟨rfl, Nat.le_succ _⟩
  · exact ⟨rfl, by unfold pot nodeP PS.lay; simp; omega⟩
theorem mark_fwd {s : PS} (n : Int) (h : s.at' ≤ toks.length) : Fwd toks 0 s (markP toks s n).1 := by
  have key : ∀ k : Int, s.at' < toks.length → Fwd toks 0 s (nodeP k [] [n] s.adv).1 := fun k hl =>
    ⟨by simp [nodeP, PS.lay, PS.adv], by simp [nodeP, PS.lay, PS.adv]; omega, by
      have := pot_adv hl
      unfold pot PS.adv at this
      unfold nodeP PS.lay PS.adv pot; simp at this ⊢; omega⟩
  unfold markP
  split
  · rename_i c; exact key 3 (aheadP_lt c)
  split
  · rename_i c; exact key 4 (aheadP_lt c)
  split
  · rename_i c; exact key 5 (aheadP_lt c)
  · exact ⟨Nat.le_refl _, h, Nat.le_refl _⟩
/-- Alternatives go on. -/
def AltFwd (toks : List Tok) (alt : PS → PR Int) : Prop := ∀ s s' n, s.at' ≤ toks.length → alt s = .ok (s', n) → Fwd toks 2 s s'
theorem atom_fwd {alt : PS → PR Int} (ha : AltFwd toks alt) {s s' : PS} {n : Int} (h : atomP toks en alt s = .ok (s', n)) : s.at' < s'.at' ∧ Fwd toks 0 s s' := by
  unfold atomP at h
  split at h
  · rename_i c
    have hl := aheadP_lt c
    obtain ⟨s1, n1, h1, h2⟩ := pbnd_ok h
    obtain ⟨s2, u, h3, h4⟩ := pbnd_ok h2
    cases h4
    obtain ⟨rfl, hl2⟩ := must_fwd h3
    have f := ha _ _ _ (by simp [PS.adv]; omega) h1
    have p1 := pot_adv hl
    have p2 := pot_adv hl2
    have a1 := f.at1
    simp only [PS.adv] at a1
    refine ⟨by simp only [PS.adv]; omega, ⟨by simp only [PS.adv]; omega, by simp only [PS.adv]; omega, ?_⟩⟩
    have := f.pot; omega
  · split at h
    · cases h
    · rename_i t e
      have hl := (List.getElem?_eq_some_iff.1 e).1
      split at h
      · cases h
        refine ⟨by simp [PS.lay, PS.adv], ⟨by simp [PS.lay, PS.adv], by simp [PS.lay, PS.adv]; omega, ?_⟩⟩
        unfold pot PS.lay PS.adv; simp; omega
      · obtain ⟨s1, u, h1, h2⟩ := pbnd_ok h
        cases h2
        obtain ⟨rfl, _⟩ := name_fwd h1
        refine ⟨by simp [PS.lay, PS.adv, useP], ⟨by simp [PS.lay, PS.adv, useP], by simp [PS.lay, PS.adv, useP]; omega, ?_⟩⟩
        unfold pot PS.lay PS.adv useP; simp; omega
theorem item_fwd {alt : PS → PR Int} (ha : AltFwd toks alt) {s s' : PS} {n : Int} (h : itemP toks en alt s = .ok (s', n)) : s.at' < s'.at' ∧ Fwd toks 0 s s' := by
  unfold itemP at h
  obtain ⟨s1, n1, h1, h2⟩ := pbnd_ok h
  obtain ⟨a, f⟩ := atom_fwd ha h1
  have g := mark_fwd n1 f.at2
  have e : s' = (markP toks s1 n1).1 := by have := congrArg (fun x => x.toOption.map (·.1)) h2; simpa [Except.toOption] using this.symm
  rw [e]
  have := f.pot; have := g.pot; have := g.at1
  exact ⟨by omega, ⟨by omega, g.at2, by omega⟩⟩
theorem items_fwd {alt : PS → PR Int} (ha : AltFwd toks alt) : ∀ (k : Nat) {s s' : PS} {l l' : List Int}, s.at' ≤ toks.length → itemsP toks en alt k s l = .ok (s', l') → Fwd toks 0 s s'
  | 0, s, s', l, l', hs, h => by cases h; exact ⟨Nat.le_refl _, hs, by omega⟩
  | k + 1, s, s', l, l', hs, h => by
    unfold itemsP at h
    split at h
    · obtain ⟨s1, n, h1, h2⟩ := pbnd_ok h
      obtain ⟨a, f⟩ := item_fwd ha h1
      have g := items_fwd ha k f.at2 h2
      have := f.pot; have := g.pot; have := g.at1
      exact ⟨by omega, g.at2, by omega⟩
    · cases h; exact ⟨Nat.le_refl _, hs, by omega⟩
theorem seq_fwd {alt : PS → PR Int} (ha : AltFwd toks alt) {s s' : PS} {n : Int} (hs : s.at' ≤ toks.length) (h : seqP toks en alt s = .ok (s', n)) : Fwd toks 1 s s' := by
  unfold seqP at h
  obtain ⟨s1, l, h1, h2⟩ := pbnd_ok h
  have f := items_fwd ha _ hs h1
  have e : s' = (oneP 1 l s1).1 := by have := congrArg (fun x => x.toOption.map (·.1)) h2; simpa [Except.toOption] using this.symm
  obtain ⟨o1, o2⟩ := one_fwd (toks := toks) 1 l s1
  rw [e]
  have := f.pot; have := f.at1; have := f.at2
  exact ⟨by omega, by omega, by omega⟩
theorem altsL_fwd {alt : PS → PR Int} (ha : AltFwd toks alt) : ∀ (k : Nat) {s s' : PS} {l l' : List Int}, s.at' ≤ toks.length → altsL toks en alt k s l = .ok (s', l') → Fwd toks 1 s s'
  | 0, s, s', l, l', hs, h => by cases h; exact ⟨Nat.le_refl _, hs, by omega⟩
  | k + 1, s, s', l, l', hs, h => by
    unfold altsL at h
    obtain ⟨s1, n, h1, h2⟩ := pbnd_ok h
    have f := seq_fwd ha hs h1
    have := f.pot; have := f.at1; have := f.at2
    split at h2
    · rename_i c
      have hl := aheadP_lt c
      have p := pot_adv hl
      have g := altsL_fwd ha k (by simp [PS.adv]; omega) h2
      have := g.pot; have a := g.at1
      simp only [PS.adv] at a
      exact ⟨by omega, g.at2, by omega⟩
    · cases h2; exact f
theorem alts_fwd : ∀ f, AltFwd toks (altsP toks en f)
  | 0, s, s', n, _, h => by cases h
  | f + 1, s, s', n, hs, h => by
    unfold altsP at h
    obtain ⟨s1, l, h1, h2⟩ := pbnd_ok h
    have g := altsL_fwd (alts_fwd f) _ hs h1
    have e : s' = (oneP 2 l s1).1 := by have := congrArg (fun x => x.toOption.map (·.1)) h2; simpa [Except.toOption] using this.symm
    obtain ⟨o1, o2⟩ := one_fwd (toks := toks) 2 l s1
    rw [e]
    have := g.pot; have := g.at1; have := g.at2
    exact ⟨by omega, by omega, by omega⟩
theorem rule_fwd {s s' : PS} {u : Unit} (hs : s.at' ≤ toks.length) (h : ruleP toks en s = .ok (s', u)) : s.at' < s'.at' ∧ Fwd toks 0 s s' := by
  unfold ruleP at h
  obtain ⟨s1, u1, h1, h⟩ := pbnd_ok h
  obtain ⟨s2, u2, h2, h⟩ := pbnd_ok h
  obtain ⟨s3, n, h3, h⟩ := pbnd_ok h
  obtain ⟨s4, u4, h4, h⟩ := pbnd_ok h
  cases h
  obtain ⟨rfl, l1⟩ := name_fwd h1
  obtain ⟨rfl, l2⟩ := must_fwd h2
  obtain ⟨rfl, l4⟩ := must_fwd h4
  have l2' : s.at' + 1 < toks.length := by simpa [giveP, PS.adv] using l2
  have f := alts_fwd _ _ _ _ (by simp [giveP, PS.adv]; omega) h3
  have a1 := f.at1
  have p1 := f.pot
  have p4 := pot_adv l4
  simp only [giveP, PS.adv] at a1
  refine ⟨by simp [PS.adv]; omega, ⟨by simp [PS.adv]; omega, by simp [PS.adv]; omega, ?_⟩⟩
  unfold pot giveP PS.adv at *
  simp at *
  omega
theorem textL_fwd : ∀ (k : Nat) {s s' : PS} {u : Unit}, s.at' ≤ toks.length → textL toks en k s = .ok (s', u) → Fwd toks 0 s s'
  | 0, s, s', u, hs, h => by cases h; exact ⟨Nat.le_refl _, hs, Nat.le_refl _⟩
  | k + 1, s, s', u, hs, h => by
    unfold textL at h
    obtain ⟨s1, u1, h1, h2⟩ := pbnd_ok h
    have f := (rule_fwd hs h1).2
    have := f.pot; have := f.at1
    split at h2
    · have g := textL_fwd k f.at2 h2
      have := g.pot; have := g.at1
      exact ⟨by omega, g.at2, by omega⟩
    · cases h2; exact f
theorem textP_pot {s' : PS} {u : Unit} (h : textP toks en = .ok (s', u)) : pot toks s' ≤ 8 * toks.length := by
  have f := textL_fwd _ (by simp) h
  have := f.pot
  simp [pot] at this ⊢; omega
end
/-! ### Its object -/
/-- The stamps of its slices. -/
structure S4 where
  a : Nat
  b : Nat
  c : Nat
  d : Nat
def S4.has (σ : S4) (s : Nat) : Prop := s = σ.a ∨ s = σ.b ∨ s = σ.c ∨ s = σ.d
structure RdO (h : AH) (o : Nat) (v0 v2 : V) (a eg : Nat) (R N G U : List V) (σ : S4) : Prop where
  ob : ∃ e1 e2 e3 e4, h.objs o = [v0, .int .i64 a, v2, .sl e1 σ.a R, .sl e2 σ.b N, .sl e3 σ.c G, .sl e4 σ.d U] ∧ May 2 h e1 σ.a R ∧ May 3 h e2 σ.b N ∧ May eg h e3 σ.c G ∧ May eg h e4 σ.d U
  lt : o < h.nobj
  lo : 3 ≤ h.next ∧ ∀ s, s ≤ 2 → h.tips s = none
  sb : ∀ s, σ.has s → s ≤ 2 ∨ s < h.next
  ab : σ.a ≤ 2 ∨ σ.a ≠ σ.b
  ac : σ.a ≤ 2 ∨ σ.a ≠ σ.c
  ad : σ.a ≤ 2 ∨ σ.a ≠ σ.d
  bc : σ.b ≤ 2 ∨ σ.b ≠ σ.c
  bd : σ.b ≤ 2 ∨ σ.b ≠ σ.d
  cd : σ.c ≤ 2 ∨ σ.c ≠ σ.d
/-- From h to h1 only this object has been turned, and its slices. -/
structure RE (h h1 : AH) (o : Nat) (σ σ1 : S4) : Prop where
  next : h.next ≤ h1.next
  nobj : h.nobj ≤ h1.nobj
  objs : ∀ o', o' < h.nobj → o' ≠ o → h1.objs o' = h.objs o'
  tips : ∀ s, s < h.next → (¬ σ.has s ∨ s ≤ 2) → h1.tips s = h.tips s
  st : ∀ s, σ1.has s → σ.has s ∨ h.next ≤ s
theorem RE.refl (h : AH) (o : Nat) (σ : S4) : RE h h o σ σ := ⟨Nat.le_refl _, Nat.le_refl _, fun _ _ _ => rfl, fun _ _ _ => rfl, fun _ h => .inl h⟩
theorem RE.trans {h h1 h2 : AH} {o : Nat} {σ σ1 σ2 : S4} (a : RE h h1 o σ σ1) (b : RE h1 h2 o σ1 σ2) : RE h h2 o σ σ2 where
  next := Nat.le_trans a.next b.next
  nobj := Nat.le_trans a.nobj b.nobj
  objs o' h' hn := (b.objs o' (Nat.lt_of_lt_of_le h' a.nobj) hn).trans (a.objs o' h' hn)
  tips s hs hn := by
    have h1 : ¬ σ1.has s ∨ s ≤ 2 := by
      rcases hn with c | c
      · left; intro e; rcases a.st s e with d | d
        · exact c d
        · omega
      · exact .inr c
    exact (b.tips s (Nat.lt_of_lt_of_le hs a.next) h1).trans (a.tips s hs hn)
  st s hs := by
    rcases b.st s hs with e | e
    · exact a.st s e
    · exact .inr (Nat.le_trans a.next e)
theorem RE.new {h h1 : AH} {o : Nat} {σ σ1 : S4} (f : RE h h1 o σ σ1) (z : List V) : RE h (h1.new z) o σ σ1 :=
  ⟨f.next, Nat.le_succ_of_le f.nobj, fun o' ho hn => by rw [new_objs_ne _ _ (by have := f.nobj; omega)]; exact f.objs o' ho hn, f.tips, f.st⟩
theorem RE.set {h h1 : AH} {o : Nat} {σ σ1 : S4} (f : RE h h1 o σ σ1) {o' : Nat} (ho : o' = o ∨ h.nobj ≤ o') (z : List V) : RE h (h1.set o' z) o σ σ1 :=
  ⟨f.next, f.nobj, fun o2 ho' hn => by
    rw [set_objs_ne _ _ _ (by rintro rfl; rcases ho with h | h; exact hn h; omega)]; exact f.objs o2 ho' hn, f.tips, f.st⟩
/-- A slice of one's own is pushed. -/
theorem RE.push {h h1 : AH} {o : Nat} {σ σ1 : S4} (f : RE h h1 o σ σ1) {s : Nat} (hs : s ≤ 2 ∨ h.next ≤ s) (e : Nat) : RE h (h1.push s e) o σ σ1 := by
  have n := f.next
  exact ⟨by rw [push_next]; omega, by rw [push_nobj]; exact f.nobj, fun o' ho hn => by rw [push_objs]; exact f.objs o' ho hn, fun s' hs' hn => by
    rw [← f.tips s' hs' hn]
    by_cases c : s ≤ 2
    · have : ((h1.push s e).tips s') = h1.tips s' := by unfold AH.push; rw [if_pos c]; exact updN_ne _ _ (by omega)
      exact this
    · exact push_tips_at (by omega) (by omega), f.st⟩
theorem May.keep {e : Nat} {h h1 : AH} {e1 st : Nat} {l : List V} (m : May e h e1 st l) (ht : st ≤ 2 ∨ h1.tips st = h.tips st) (h2 : st ≤ 2 → h.tips st = none) : May e h1 e1 st l :=
  ⟨m.el, by
    rcases m.st with c | c | c
    · exact .inl c
    · exact .inr (.inl c)
    · rcases ht with d | d
      · rw [h2 d] at c; cases c
      · exact .inr (.inr (by rw [d]; exact c))⟩
theorem Wf.low {h : AH} (w : Wf h) {s : Nat} (hs : s ≤ 2) : h.tips s = none := by
  cases e : h.tips s with
  | none => rfl
  | some t => have := (w.tips s t e).1; omega
theorem Wf.lo {h : AH} (wf : Wf h) : 3 ≤ h.next ∧ ∀ s, s ≤ 2 → h.tips s = none := ⟨wf.next, fun _ hs => wf.low hs⟩
theorem push_low {h : AH} (lo : 3 ≤ h.next ∧ ∀ s, s ≤ 2 → h.tips s = none) (s e : Nat) : 3 ≤ (h.push s e).next ∧ ∀ s', s' ≤ 2 → (h.push s e).tips s' = none := by
  refine ⟨by rw [push_next]; omega, fun s' hs => ?_⟩
  rw [push_tips_at (by omega) (.inr hs)]; exact lo.2 s' hs
/-- Its object stays where others are turned. -/
theorem RdO.keep {h h1 : AH} {o : Nat} {v0 v2 : V} {a eg : Nat} {R N G U : List V} {σ : S4} (r : RdO h o v0 v2 a eg R N G U σ) (hn : h.next ≤ h1.next) (hb : h.nobj ≤ h1.nobj) (ho : h1.objs o = h.objs o)
    (ht : ∀ s, σ.has s → s ≤ 2 ∨ h1.tips s = h.tips s) (hl : ∀ s, s ≤ 2 → h1.tips s = none) : RdO h1 o v0 v2 a eg R N G U σ := by
  obtain ⟨e1, e2, e3, e4, ob, m1, m2, m3, m4⟩ := r.ob
  exact ⟨⟨e1, e2, e3, e4, by rw [ho]; exact ob, m1.keep (ht _ (.inl rfl)) (r.lo.2 _), m2.keep (ht _ (.inr (.inl rfl))) (r.lo.2 _), m3.keep (ht _ (.inr (.inr (.inl rfl)))) (r.lo.2 _), m4.keep (ht _ (.inr (.inr (.inr rfl)))) (r.lo.2 _)⟩,
    by have := r.lt; omega, ⟨by have := r.lo.1; omega, hl⟩, fun s hs => by have := r.sb s hs; omega, r.ab, r.ac, r.ad, r.bc, r.bd, r.cd⟩
theorem RdO.new {h : AH} {o : Nat} {v0 v2 : V} {a eg : Nat} {R N G U : List V} {σ : S4} (r : RdO h o v0 v2 a eg R N G U σ) (z : List V) : RdO (h.new z) o v0 v2 a eg R N G U σ :=
  r.keep (Nat.le_refl _) (Nat.le_succ _) (new_objs_ne _ _ (by have := r.lt; omega)) (fun _ _ => .inr rfl) r.lo.2
theorem RdO.other {h : AH} {o o' : Nat} {v0 v2 : V} {a eg : Nat} {R N G U : List V} {σ : S4} (r : RdO h o v0 v2 a eg R N G U σ) (ho : o' ≠ o) (z : List V) : RdO (h.set o' z) o v0 v2 a eg R N G U σ :=
  r.keep (Nat.le_refl _) (Nat.le_refl _) (set_objs_ne _ _ _ (fun e => ho e.symm)) (fun _ _ => .inr rfl) r.lo.2
theorem RdO.push {h : AH} {o : Nat} {v0 v2 : V} {a eg : Nat} {R N G U : List V} {σ : S4} (r : RdO h o v0 v2 a eg R N G U σ) {s : Nat} (hs : s ≤ 2 ∨ ¬ σ.has s) (e : Nat) : RdO (h.push s e) o v0 v2 a eg R N G U σ :=
  r.keep (by rw [push_next]; omega) (by rw [push_nobj]; exact Nat.le_refl _) (by rw [push_objs]) (fun s' h' => by
    by_cases c : s' ≤ 2
    · exact .inl c
    · right
      have := r.sb s' h'
      by_cases d : s ≤ 2
      · unfold AH.push; rw [if_pos d]; exact updN_ne _ _ (by omega)
      · exact push_tips_at (by omega) (.inl (by rintro rfl; rcases hs with q | q; exact d q; exact q h'))) (push_low r.lo s e).2
/-- It goes on. -/
theorem RdO.cells {h : AH} {o : Nat} {v0 v2 : V} {a eg : Nat} {R N G U : List V} {σ : S4} (r : RdO h o v0 v2 a eg R N G U σ) {e1 e2 e3 e4 : Nat} (ob : h.objs o = [v0, .int .i64 a, v2, .sl e1 σ.a R, .sl e2 σ.b N, .sl e3 σ.c G, .sl e4 σ.d U]) (v0' : V) (a' : Nat) (v2' : V) :
    RdO (h.set o [v0', .int .i64 a', v2', .sl e1 σ.a R, .sl e2 σ.b N, .sl e3 σ.c G, .sl e4 σ.d U]) o v0' v2' a' eg R N G U σ := by
  obtain ⟨f1, f2, f3, f4, ob', m1, m2, m3, m4⟩ := r.ob
  rw [ob] at ob'
  simp at ob'
  obtain ⟨rfl, rfl, rfl, rfl⟩ := ob'
  exact ⟨⟨_, _, _, _, set_objs_same _ _ _, ⟨m1.el, m1.st⟩, ⟨m2.el, m2.st⟩, ⟨m3.el, m3.st⟩, ⟨m4.el, m4.st⟩⟩, r.lt, r.lo, r.sb, r.ab, r.ac, r.ad, r.bc, r.bd, r.cd⟩
theorem May.push {e : Nat} {h : AH} {e1 st : Nat} {l : List V} (m : May e h e1 st l) (lo : 3 ≤ h.next ∧ ∀ s, s ≤ 2 → h.tips s = none) (hb : st ≤ 2 ∨ st < h.next) {s : Nat} (ne : st ≤ 2 ∨ st ≠ s) (e' : Nat) : May e (h.push s e') e1 st l := by
  by_cases c : st ≤ 2
  · exact m.keep (.inl c) (lo.2 _)
  · refine ⟨m.el, ?_⟩
    rcases m.st with d | d | d
    · exact .inl d
    · exact .inr (.inl d)
    · refine .inr (.inr ?_)
      rw [push_tips_at (by omega) (by omega)]; exact d
theorem RE.pushO {h : AH} {o : Nat} {σ σ1 : S4} {s : Nat} (hs : σ.has s) (e : Nat) (h1 : ∀ s, σ1.has s → σ.has s ∨ h.next ≤ s) (z : List V) : RE h ((h.push s e).set o z) o σ σ1 := by
  refine ⟨by rw [set_next, push_next]; omega, by rw [set_nobj, push_nobj]; exact Nat.le_refl _, fun o' _ hn => by rw [set_objs_ne _ _ _ hn, push_objs], fun s' hs' hn => ?_, h1⟩
  rw [set_tips]
  by_cases c : s ≤ 2
  · unfold AH.push; rw [if_pos c]; exact updN_ne _ _ (by omega)
  · refine push_tips_at hs' ?_
    rcases hn with d | d
    · left; rintro rfl; exact d hs
    · exact .inr d
section
variable {h : AH} {o : Nat} {v0 v2 : V} {a eg : Nat} {R N G U : List V} {σ : S4} {e1 e2 e3 e4 : Nat}
theorem RdO.pushR (r : RdO h o v0 v2 a eg R N G U σ) (ob : h.objs o = [v0, .int .i64 a, v2, .sl e1 σ.a R, .sl e2 σ.b N, .sl e3 σ.c G, .sl e4 σ.d U]) (x : V) : RdO ((h.push σ.a 2).set o [v0, .int .i64 a, v2, .sl 2 h.next (R ++ [x]), .sl e2 σ.b N, .sl e3 σ.c G, .sl e4 σ.d U]) o v0 v2 a eg (R ++ [x]) N G U { σ with a := h.next } ∧ RE h ((h.push σ.a 2).set o [v0, .int .i64 a, v2, .sl 2 h.next (R ++ [x]), .sl e2 σ.b N, .sl e3 σ.c G, .sl e4 σ.d U]) o σ { σ with a := h.next } := by
  obtain ⟨f1, f2, f3, f4, ob', m1, m2, m3, m4⟩ := r.ob
  rw [ob] at ob'
  simp at ob'
  obtain ⟨rfl, rfl, rfl, rfl⟩ := ob'
  have hb : ∀ s, S4.has { σ with a := h.next } s → s = h.next ∨ σ.has s := fun s hs => by
    rcases hs with e | e | e | e <;> subst e <;> simp [S4.has]
  exact ⟨⟨⟨_, _, _, _, set_objs_same _ _ _, ⟨.inr rfl, .inr (.inr (by rw [set_tips]; exact push_new h _ _))⟩, (let q := m2.push r.lo (r.sb _ (.inr (.inl rfl))) (by have := r.ab; omega) 2; ⟨q.el, q.st⟩), (let q := m3.push r.lo (r.sb _ (.inr (.inr (.inl rfl)))) (by have := r.ac; omega) 2; ⟨q.el, q.st⟩), (let q := m4.push r.lo (r.sb _ (.inr (.inr (.inr rfl)))) (by have := r.ad; omega) 2; ⟨q.el, q.st⟩)⟩, by rw [set_nobj, push_nobj]; exact r.lt, by rw [set_next, set_tips]; exact push_low r.lo _ _, fun s hs => by
      rw [set_next, push_next]
      rcases hb s hs with e | e
      · omega
      · have := r.sb s e; omega, (.inr (by show h.next ≠ σ.b; have := r.sb σ.b (.inr (.inl rfl)); have := r.lo.1; omega)), (.inr (by show h.next ≠ σ.c; have := r.sb σ.c (.inr (.inr (.inl rfl))); have := r.lo.1; omega)), (.inr (by show h.next ≠ σ.d; have := r.sb σ.d (.inr (.inr (.inr rfl))); have := r.lo.1; omega)), r.bc, r.bd, r.cd⟩,
    RE.pushO (.inl rfl) _ (fun s hs => (hb s hs).elim (fun e => .inr (by omega)) .inl) _⟩
theorem RdO.pushN (r : RdO h o v0 v2 a eg R N G U σ) (ob : h.objs o = [v0, .int .i64 a, v2, .sl e1 σ.a R, .sl e2 σ.b N, .sl e3 σ.c G, .sl e4 σ.d U]) (x : V) : RdO ((h.push σ.b 3).set o [v0, .int .i64 a, v2, .sl e1 σ.a R, .sl 3 h.next (N ++ [x]), .sl e3 σ.c G, .sl e4 σ.d U]) o v0 v2 a eg R (N ++ [x]) G U { σ with b := h.next } ∧ RE h ((h.push σ.b 3).set o [v0, .int .i64 a, v2, .sl e1 σ.a R, .sl 3 h.next (N ++ [x]), .sl e3 σ.c G, .sl e4 σ.d U]) o σ { σ with b := h.next } := by
  obtain ⟨f1, f2, f3, f4, ob', m1, m2, m3, m4⟩ := r.ob
  rw [ob] at ob'
  simp at ob'
  obtain ⟨rfl, rfl, rfl, rfl⟩ := ob'
  have hb : ∀ s, S4.has { σ with b := h.next } s → s = h.next ∨ σ.has s := fun s hs => by
    rcases hs with e | e | e | e <;> subst e <;> simp [S4.has]
  exact ⟨⟨⟨_, _, _, _, set_objs_same _ _ _, (let q := m1.push r.lo (r.sb _ (.inl rfl)) r.ab 3; ⟨q.el, q.st⟩), ⟨.inr rfl, .inr (.inr (by rw [set_tips]; exact push_new h _ _))⟩, (let q := m3.push r.lo (r.sb _ (.inr (.inr (.inl rfl)))) (by have := r.bc; omega) 3; ⟨q.el, q.st⟩), (let q := m4.push r.lo (r.sb _ (.inr (.inr (.inr rfl)))) (by have := r.bd; omega) 3; ⟨q.el, q.st⟩)⟩, by rw [set_nobj, push_nobj]; exact r.lt, by rw [set_next, set_tips]; exact push_low r.lo _ _, fun s hs => by
      rw [set_next, push_next]
      rcases hb s hs with e | e
      · omega
      · have := r.sb s e; omega, (by show σ.a ≤ 2 ∨ σ.a ≠ h.next; have := r.sb σ.a (.inl rfl); omega), r.ac, r.ad, (.inr (by show h.next ≠ σ.c; have := r.sb σ.c (.inr (.inr (.inl rfl))); have := r.lo.1; omega)), (.inr (by show h.next ≠ σ.d; have := r.sb σ.d (.inr (.inr (.inr rfl))); have := r.lo.1; omega)), r.cd⟩,
    RE.pushO (.inr (.inl rfl)) _ (fun s hs => (hb s hs).elim (fun e => .inr (by omega)) .inl) _⟩
theorem RdO.pushG (r : RdO h o v0 v2 a eg R N G U σ) (ob : h.objs o = [v0, .int .i64 a, v2, .sl e1 σ.a R, .sl e2 σ.b N, .sl e3 σ.c G, .sl e4 σ.d U]) (x : V) : RdO ((h.push σ.c eg).set o [v0, .int .i64 a, v2, .sl e1 σ.a R, .sl e2 σ.b N, .sl eg h.next (G ++ [x]), .sl e4 σ.d U]) o v0 v2 a eg R N (G ++ [x]) U { σ with c := h.next } ∧ RE h ((h.push σ.c eg).set o [v0, .int .i64 a, v2, .sl e1 σ.a R, .sl e2 σ.b N, .sl eg h.next (G ++ [x]), .sl e4 σ.d U]) o σ { σ with c := h.next } := by
  obtain ⟨f1, f2, f3, f4, ob', m1, m2, m3, m4⟩ := r.ob
  rw [ob] at ob'
  simp at ob'
  obtain ⟨rfl, rfl, rfl, rfl⟩ := ob'
  have hb : ∀ s, S4.has { σ with c := h.next } s → s = h.next ∨ σ.has s := fun s hs => by
    rcases hs with e | e | e | e <;> subst e <;> simp [S4.has]
  exact ⟨⟨⟨_, _, _, _, set_objs_same _ _ _, (let q := m1.push r.lo (r.sb _ (.inl rfl)) r.ac eg; ⟨q.el, q.st⟩), (let q := m2.push r.lo (r.sb _ (.inr (.inl rfl))) r.bc eg; ⟨q.el, q.st⟩), ⟨.inr rfl, .inr (.inr (by rw [set_tips]; exact push_new h _ _))⟩, (let q := m4.push r.lo (r.sb _ (.inr (.inr (.inr rfl)))) (by have := r.cd; omega) eg; ⟨q.el, q.st⟩)⟩, by rw [set_nobj, push_nobj]; exact r.lt, by rw [set_next, set_tips]; exact push_low r.lo _ _, fun s hs => by
      rw [set_next, push_next]
      rcases hb s hs with e | e
      · omega
      · have := r.sb s e; omega, r.ab, (by show σ.a ≤ 2 ∨ σ.a ≠ h.next; have := r.sb σ.a (.inl rfl); omega), r.ad, (by show σ.b ≤ 2 ∨ σ.b ≠ h.next; have := r.sb σ.b (.inr (.inl rfl)); omega), r.bd, (.inr (by show h.next ≠ σ.d; have := r.sb σ.d (.inr (.inr (.inr rfl))); have := r.lo.1; omega))⟩,
    RE.pushO (.inr (.inr (.inl rfl))) _ (fun s hs => (hb s hs).elim (fun e => .inr (by omega)) .inl) _⟩
theorem RdO.pushU (r : RdO h o v0 v2 a eg R N G U σ) (ob : h.objs o = [v0, .int .i64 a, v2, .sl e1 σ.a R, .sl e2 σ.b N, .sl e3 σ.c G, .sl e4 σ.d U]) (x : V) : RdO ((h.push σ.d eg).set o [v0, .int .i64 a, v2, .sl e1 σ.a R, .sl e2 σ.b N, .sl e3 σ.c G, .sl eg h.next (U ++ [x])]) o v0 v2 a eg R N G (U ++ [x]) { σ with d := h.next } ∧ RE h ((h.push σ.d eg).set o [v0, .int .i64 a, v2, .sl e1 σ.a R, .sl e2 σ.b N, .sl e3 σ.c G, .sl eg h.next (U ++ [x])]) o σ { σ with d := h.next } := by
  obtain ⟨f1, f2, f3, f4, ob', m1, m2, m3, m4⟩ := r.ob
  rw [ob] at ob'
  simp at ob'
  obtain ⟨rfl, rfl, rfl, rfl⟩ := ob'
  have hb : ∀ s, S4.has { σ with d := h.next } s → s = h.next ∨ σ.has s := fun s hs => by
    rcases hs with e | e | e | e <;> subst e <;> simp [S4.has]
  exact ⟨⟨⟨_, _, _, _, set_objs_same _ _ _, (let q := m1.push r.lo (r.sb _ (.inl rfl)) r.ad eg; ⟨q.el, q.st⟩), (let q := m2.push r.lo (r.sb _ (.inr (.inl rfl))) r.bd eg; ⟨q.el, q.st⟩), (let q := m3.push r.lo (r.sb _ (.inr (.inr (.inl rfl)))) r.cd eg; ⟨q.el, q.st⟩), ⟨.inr rfl, .inr (.inr (by rw [set_tips]; exact push_new h _ _))⟩⟩, by rw [set_nobj, push_nobj]; exact r.lt, by rw [set_next, set_tips]; exact push_low r.lo _ _, fun s hs => by
      rw [set_next, push_next]
      rcases hb s hs with e | e
      · omega
      · have := r.sb s e; omega, r.ab, r.ac, (by show σ.a ≤ 2 ∨ σ.a ≠ h.next; have := r.sb σ.a (.inl rfl); omega), r.bc, (by show σ.b ≤ 2 ∨ σ.b ≠ h.next; have := r.sb σ.b (.inr (.inl rfl)); omega), (by show σ.c ≤ 2 ∨ σ.c ≠ h.next; have := r.sb σ.c (.inr (.inr (.inl rfl))); omega)⟩,
    RE.pushO (.inr (.inr (.inr rfl))) _ (fun s hs => (hb s hs).elim (fun e => .inr (by omega)) .inl) _⟩
end
end Go.Proofs.Ytdbbgkdepjidjaa.Al
namespace Go.Proofs.Ytdbbgkdepjidjaa.Al
open Go Go.RowKit
set_option linter.unusedSimpArgs false
set_option linter.unusedVariables false
attribute [-simp] List.getD_eq_getElem?_getD Int.not_lt Int.not_le List.map_take List.map_map
structure LRd (X : Cx) (wr : Int → Value) : Prop where
  fail : ∀ (toks : List Tok) (en a o : Nat) (rest : List V) (h : AH) (Q : V → AH → Prop), h.objs o = .sl 3 0 (toks.map tokV) :: .int .i64 (a : Nat) :: .int .i64 (en : Nat) :: rest → toks.length < 2 ^ 30 → a < 2 ^ 30 → X.Z (wr (plcP toks en a)) h →
    Ecx X K.rules_reader_fail [.ptr o 0] h Q
  ahead : Has (Ecx X) K.rules_reader_ahead A.rules_reader_ahead
  take : Has (Ecx X) K.rules_reader_take A.rules_reader_take
  must : Has (Ecx X) K.rules_reader_must A.rules_reader_must
  name : Has (Ecx X) K.rules_reader_name A.rules_reader_name
  node : Has (Ecx X) K.rules_reader_node A.rules_reader_node
  begins : Has (Ecx X) K.rules_reader_begins A.rules_reader_begins
  atom : Has (Ecx X) K.rules_reader_atom A.rules_reader_atom
  item : Has (Ecx X) K.rules_reader_item A.rules_reader_item
  one : Has (Ecx X) K.rules_reader_one A.rules_reader_one
  alts : Has (Ecx X) K.rules_reader_alternatives A.rules_reader_alternatives
  text : Has (Ecx X) K.rules_reader_text A.rules_reader_text
/-- The reader's object. -/
def RdP (toks : List Tok) (en : Nat) (h : AH) (o : Nat) (s : PS) (σ : S4) : Prop := ∃ N, WkE N (s.nodes.map ndV) ∧ RdO h o (.sl 3 0 (toks.map tokV)) (.int .i64 (en : Nat)) s.at' 2 (s.rules.map rlV) N (s.given.map useV) (s.used.map useV) σ
/-- What is told behind a call: of what was read, or of where it panics. -/
def Ans (X : Cx) (wr : Int → Value) (toks : List Tok) (en : Nat) (h : AH) (o : Nat) (σ : S4) (Q : V → AH → Prop) {α : Type} (enc : α → V) : PR α → Prop
  | .ok (s, n) => ∀ h1 σ1, RE h h1 o σ σ1 → RdP toks en h1 o s σ1 → Q (enc n) h1
  | .error p => ∀ h1 σ1, RE h h1 o σ σ1 → X.Z (wr (p : Nat)) h1
section
variable {X : Cx} {wr : Int → Value} {toks : List Tok} {en : Nat} {h : AH} {o : Nat} {σ : S4} {Q : V → AH → Prop}
theorem Ans.from {α : Type} {enc : α → V} {r : PR α} (a : Ans X wr toks en h o σ Q enc r) {h1 : AH} {σ1 : S4} (f : RE h h1 o σ σ1) : Ans X wr toks en h1 o σ1 Q enc r := by
  cases r with
  | error p => exact fun h2 σ2 g => a h2 σ2 (f.trans g)
  | ok x => exact fun h2 σ2 g => a h2 σ2 (f.trans g)
theorem Ans.pbnd {α β : Type} {enc : α → V} {r : PR α} {f : PS → α → PR β} {enc2 : β → V} (a : Ans X wr toks en h o σ Q enc2 (pbnd r f)) {Q' : V → AH → Prop}
    (hk : ∀ s n, r = .ok (s, n) → ∀ h1 σ1, RE h h1 o σ σ1 → RdP toks en h1 o s σ1 → Ans X wr toks en h1 o σ1 Q enc2 (f s n) → Q' (enc n) h1) : Ans X wr toks en h o σ Q' enc r := by
  cases r with
  | error p => exact a
  | ok x =>
    obtain ⟨s, n⟩ := x
    exact fun h1 σ1 g rd => hk s n rfl h1 σ1 g rd (Ans.from (show Ans X wr toks en h o σ Q enc2 (f s n) from a) g)
/-- The same, told from where the function began. -/
theorem Ans.pbnd0 {α β : Type} {enc : α → V} {r : PR α} {f : PS → α → PR β} {enc2 : β → V} (a : Ans X wr toks en h o σ Q enc2 (Al.pbnd r f)) {hn : AH} {σn : S4} (g0 : RE h hn o σ σn) {Q' : V → AH → Prop}
    (hk : ∀ s n, r = .ok (s, n) → ∀ h1 σ1, RE hn h1 o σn σ1 → RdP toks en h1 o s σ1 → Ans X wr toks en h o σ Q enc2 (f s n) → Q' (enc n) h1) : Ans X wr toks en hn o σn Q' enc r := by
  cases r with
  | error p => exact Ans.from (enc := enc2) (r := .error p) a g0
  | ok x =>
    obtain ⟨s, n⟩ := x
    exact fun h1 σ1 g rd => hk s n rfl h1 σ1 g rd a
theorem RdP.ob {s : PS} (r : RdP toks en h o s σ) : ∃ rest, h.objs o = .sl 3 0 (toks.map tokV) :: .int .i64 (s.at' : Nat) :: .int .i64 (en : Nat) :: rest := by
  obtain ⟨N, _, rd⟩ := r
  obtain ⟨e1, e2, e3, e4, ob, _⟩ := rd.ob
  exact ⟨_, ob⟩
theorem rdAhead (H : Has (Ecx X) K.rules_reader_ahead A.rules_reader_ahead) {a : Nat} {rest : List V} (ob : h.objs o = .sl 3 0 (toks.map tokV) :: .int .i64 (a : Nat) :: rest) (m : Str) (hQ : Q (.bool (aheadP toks a m)) h) : Ecx X K.rules_reader_ahead [.ptr o 0, .str m] h Q := by
  refine fn_walk H (by simp [A.rules_reader_ahead]) fun wf => ?_
  by_cases hlt : a < toks.length
  · have hlt' : (a : Int) < toks.length := by omega
    have hg : (toks.map tokV).getD a .undef = .agg (tokC toks[a]) := toks_getD hlt
    have hp : aheadP toks a m = (decide (toks[a].kind = 3) && decide (toks[a].text = m)) := by simp [aheadP, hlt]
    rw [hp] at hQ
    by_cases c1 : toks[a].kind = 3
    · have c1' : (toks[a].kind : Int) = 3 := by omega
      by_cases c2 : toks[a].text = m
      · simp [c1, c2] at hQ
        simp [A.rules_reader_ahead, ob, hlt', hg, tokC, V.cells, c1', c2]
        exact fin (by simp) hQ
      · simp [c1, c2] at hQ
        simp [A.rules_reader_ahead, ob, hlt', hg, tokC, V.cells, c1', c2]
        exact fin (by simp) hQ
    · have c1' : ¬ (toks[a].kind : Int) = 3 := by omega
      simp [c1] at hQ
      simp [A.rules_reader_ahead, ob, hlt', hg, tokC, V.cells, c1']
      exact fin (by simp) hQ
  · have hlt' : ¬ (a : Int) < toks.length := by omega
    have hp : aheadP toks a m = false := by simp [aheadP, hlt]
    rw [hp] at hQ
    simp [A.rules_reader_ahead, ob, hlt']
    exact fin (by simp) hQ
theorem RdP.to {s : PS} (r : RdP toks en h o s σ) {a : Nat} {e1 e2 e3 e4 : Nat} {N : List V} (hN : WkE N (s.nodes.map ndV)) (ob : h.objs o = [.sl 3 0 (toks.map tokV), .int .i64 (s.at' : Nat), .int .i64 (en : Nat), .sl e1 σ.a (s.rules.map rlV), .sl e2 σ.b N, .sl e3 σ.c (s.given.map useV), .sl e4 σ.d (s.used.map useV)]) :
    RdP toks en (h.set o [.sl 3 0 (toks.map tokV), .int .i64 (a : Nat), .int .i64 (en : Nat), .sl e1 σ.a (s.rules.map rlV), .sl e2 σ.b N, .sl e3 σ.c (s.given.map useV), .sl e4 σ.d (s.used.map useV)]) o { s with at' := a } σ := by
  obtain ⟨N', _, rd⟩ := r
  have : N' = N := by
    obtain ⟨f1, f2, f3, f4, ob', _⟩ := rd.ob
    rw [ob] at ob'; simp at ob'; exact ob'.2.1.2.symm
  subst this
  exact ⟨N', hN, rd.cells ob _ a _⟩
theorem rdTake (L : LRd X wr) {s : PS} (r : RdP toks en h o s σ) (hs : toks.length < 2 ^ 30) (m : Str) (hT : aheadP toks s.at' m = true → ∀ h1, RE h h1 o σ σ → RdP toks en h1 o s.adv σ → Q (.bool true) h1) (hF : aheadP toks s.at' m = false → Q (.bool false) h) :
    Ecx X K.rules_reader_take [.ptr o 0, .str m] h Q := by
  refine fn_any L.take (by simp [A.rules_reader_take]) fun wf => ?_
  have r0 := r
  obtain ⟨N, hN, rd⟩ := r
  obtain ⟨e1, e2, e3, e4, ob, _⟩ := rd.ob
  simp [A.rules_reader_take]
  refine ecall (rdAhead L.ahead ob m ?_)
  cases c : aheadP toks s.at' m with
  | false => simp; exact hF c
  | true =>
    have hl := aheadP_lt c
    have hw1 : IntKind.i64.wrap ((s.at' : Int) + 1) = ((s.at' + 1 : Nat) : Int) := by rw [wrap_i64 (by omega) (by omega)]; rfl
    simp [ob, setAt, V.cells, V.good, hw1]
    exact hT c _ ((RE.refl h o σ).set (.inl rfl) _) (RdP.to r0 hN ob)
theorem rdMust (L : LRd X wr) {s : PS} (r : RdP toks en h o s σ) (hs : toks.length < 2 ^ 30) (ha : s.at' ≤ toks.length) (m : Str) (hQ : Ans X wr toks en h o σ Q (fun _ : Unit => .tup []) (mustP toks en m s)) :
    Ecx X K.rules_reader_must [.ptr o 0, .str m] h Q := by
  refine fn_any L.must (by simp [A.rules_reader_must]) fun wf => ?_
  obtain ⟨rest, ob⟩ := r.ob
  simp [A.rules_reader_must]
  refine ecall (rdTake L r hs m (fun c h1 g r1 => ?_) (fun c => ?_))
  · simp
    unfold mustP at hQ
    rw [if_pos c] at hQ
    exact hQ h1 σ g r1
  · simp
    unfold mustP at hQ
    rw [if_neg (by simp [c])] at hQ
    exact ecall (L.fail toks en s.at' o rest h _ ob hs (by omega) (hQ h σ (RE.refl h o σ)))
theorem WkE.len {l m : List V} (w : WkE l m) : l.length = m.length := w.cells.1
theorem wk_kids {ek st : Nat} {kids : List Int} (hk : kids = [] ∨ ek = 1) : Wk (.sl ek st (ints kids)) (.sl 1 0 (ints kids)) := by
  rcases hk with rfl | rfl
  · exact .nil _ _ _
  · exact .sl _ _ _
theorem rdNode (L : LRd X wr) {s : PS} (r : RdP toks en h o s σ) (hp : s.nodes.length ≤ 2 ^ 38) (kind : Int) (name : Str) (kids : List Int) {ek st : Nat} (hk : kids = [] ∨ ek = 1)
    (hQ : ∀ h1 σ1, RE h h1 o σ σ1 → RdP toks en h1 o (s.lay kind name kids) σ1 → Q (.int .i64 s.nodes.length) h1) : Ecx X K.rules_reader_node [.ptr o 0, .int .i64 kind, .str name, .sl ek st (ints kids)] h Q := by
  refine fn_any L.node (by simp [A.rules_reader_node]) fun wf => ?_
  obtain ⟨N, hN, rd⟩ := r
  obtain ⟨e1, e2, e3, e4, ob, m1, m2, m3, m4⟩ := rd.ob
  have hl := hN.len
  simp only [List.length_map] at hl
  simp [A.rules_reader_node, ob, fillV, fillL, setAt, V.cells, V.good, V.isAgg]
  refine m2.app (by simp) rfl (by simp; omega) ?_
  have hw1 : IntKind.i64.wrap (N.length : Int) = (s.nodes.length : Int) := by rw [hl, wrap_i64 (by omega) (by omega)]
  simp [setAt, V.cells, V.good, push_objs, ob, hw1]
  obtain ⟨r1, g1⟩ := rd.pushN ob (.agg [.int .i64 kind, .str name, .sl ek st (ints kids)])
  refine hQ _ _ g1 ⟨_, ?_, r1⟩
  rw [PS.lay]
  simp only [List.map_append, List.map_cons, List.map_nil]
  exact hN.append (.cons (.cons (.same _) (.cons (.same _) (.cons (wk_kids hk) .nil))) .nil)
theorem rdOne (L : LRd X wr) {s : PS} (r : RdP toks en h o s σ) (hp : s.nodes.length ≤ 2 ^ 38) (kind : Int) (l : List Int) (hl : l.length ≤ 2 ^ 40) {e st : Nat} (he : l = [] ∨ e = 1)
    (hQ : ∀ h1 σ1, RE h h1 o σ σ1 → RdP toks en h1 o (oneP kind l s).1 σ1 → Q (.int .i64 (oneP kind l s).2) h1) : Ecx X K.rules_reader_one [.ptr o 0, .int .i64 kind, .sl e st (ints l)] h Q := by
  refine fn_any L.one (by simp [A.rules_reader_one]) fun wf => ?_
  have hil : (ints l).length = l.length := by simp [ints]
  by_cases c : l.length = 1
  · obtain ⟨n, rfl⟩ := List.length_eq_one_iff.1 c
    obtain rfl : e = 1 := he.resolve_left (by simp)
    simp [A.rules_reader_one, ints, V.cells]
    exact hQ h σ (RE.refl _ _ _) r
  · have c' : ¬ (l.length : Int) = 1 := by omega
    simp [A.rules_reader_one, hil, c']
    have ho : oneP kind l s = nodeP kind [] l s := by
      match l, c with
      | [], _ => rfl
      | [n], c => simp at c
      | _ :: _ :: _, _ => rfl
    rw [ho] at hQ
    refine ecall (rdNode L r hp kind [] l he fun h1 σ1 g r1 => ?_)
    simp
    exact hQ h1 σ1 g r1
theorem rdBegins (L : LRd X wr) {s : PS} (r : RdP toks en h o s σ) (hQ : Q (.bool (bgnP toks s.at')) h) : Ecx X K.rules_reader_begins [.ptr o 0] h Q := by
  refine fn_walk L.begins (by simp [A.rules_reader_begins]) fun wf => ?_
  obtain ⟨rest, ob⟩ := r.ob
  by_cases hlt : s.at' < toks.length
  · have hlt' : (s.at' : Int) < toks.length := by omega
    have hg : (toks.map tokV).getD s.at' .undef = .agg (tokC toks[s.at']) := toks_getD hlt
    have hp : bgnP toks s.at' = (decide (toks[s.at'].kind ≠ 3) || decide (toks[s.at'].text = [40])) := by simp [bgnP, hlt]
    rw [hp] at hQ
    by_cases c1 : toks[s.at'].kind = 3
    · have c1' : (toks[s.at'].kind : Int) = 3 := by omega
      simp [c1] at hQ
      simp [A.rules_reader_begins, ob, hlt', hg, tokC, V.cells, c1']
      refine dcall (.bool (decide (toks[s.at'].text = [40]))) (rdAhead L.ahead ob _ ?_) ?_
      · simp [aheadP, hlt, c1]
      · simp
        exact fin (by simp) hQ
    · have c1' : ¬ (toks[s.at'].kind : Int) = 3 := by omega
      simp [c1] at hQ
      simp [A.rules_reader_begins, ob, hlt', hg, tokC, V.cells, c1']
      exact fin (by simp) hQ
  · have hlt' : ¬ (s.at' : Int) < toks.length := by omega
    have hp : bgnP toks s.at' = false := by simp [bgnP, hlt]
    rw [hp] at hQ
    simp [A.rules_reader_begins, ob, hlt']
    exact fin (by simp) hQ
/-- Where a token stands. -/
theorem rdName (L : LRd X wr) {s : PS} (r : RdP toks en h o s σ) (hs : toks.length < 2 ^ 30) (ha : s.at' ≤ toks.length) (hQ : Ans X wr toks en h o σ Q useV (nameP toks en s)) :
    Ecx X K.rules_reader_name [.ptr o 0] h Q := by
  refine fn_any L.name (by simp [A.rules_reader_name]) fun wf => ?_
  have r0 := r
  obtain ⟨N, hN, rd⟩ := r
  obtain ⟨e1, e2, e3, e4, ob, _⟩ := rd.ob
  have hlt0 := rd.lt
  have n1 : ¬ o = h.nobj := by omega
  have n2 : ¬ o = h.nobj + 1 := by omega
  have n3 : ¬ h.nobj = o := by omega
  have n4 : ¬ h.nobj + 1 = o := by omega
  have ob1 := ob
  by_cases hlt : s.at' < toks.length
  · have hlt' : (s.at' : Int) < toks.length := by omega
    have hge' : ¬ (toks.length : Int) ≤ s.at' := by omega
    have hg : (toks.map tokV).getD s.at' .undef = .agg (tokC toks[s.at']) := toks_getD hlt
    have hn : nameP toks en s = if toks[s.at'].kind = 1 then .ok (s.adv, ⟨toks[s.at'].text, toks[s.at'].at'⟩) else .error toks[s.at'].at' := by simp [nameP, hlt]
    rw [hn] at hQ
    have hw1 : IntKind.i64.wrap ((s.at' : Int) + 1) = ((s.at' + 1 : Nat) : Int) := by rw [wrap_i64 (by omega) (by omega)]; rfl
    by_cases c1 : toks[s.at'].kind = 1
    · have c1' : (toks[s.at'].kind : Int) = 1 := by omega
      rw [if_pos c1] at hQ
      simp [A.rules_reader_name, ob, hlt', hge', hg, tokC, V.cells, V.good, setAt, c1', n1, n2, n3, n4]
      rw [hw1]
      exact hQ _ σ ((((RE.refl h o σ).set (.inl rfl) _).new _).new _) ⟨N, hN, ((rd.cells ob _ _ _).new _).new _⟩
    · have c1' : ¬ (toks[s.at'].kind : Int) = 1 := by omega
      rw [if_neg c1] at hQ
      simp [A.rules_reader_name, ob, hlt', hge', hg, tokC, V.cells, c1', n1]
      refine ecall (L.fail toks en s.at' o _ _ _ (by rw [new_objs_ne _ _ n1]; exact ob) hs (by omega) ?_)
      have := hQ (h.new [.str [], .int .i64 0]) σ ((RE.refl h o σ).new _)
      simpa [plcP, hlt] using this
  · have hlt' : ¬ (s.at' : Int) < toks.length := by omega
    have hge' : (toks.length : Int) ≤ s.at' := by omega
    have hn : nameP toks en s = .error en := by simp [nameP, hlt]
    rw [hn] at hQ
    simp [A.rules_reader_name, ob, hge', n1]
    refine ecall (L.fail toks en s.at' o _ _ _ (by rw [new_objs_ne _ _ n1]; exact ob) hs (by omega) ?_)
    have := hQ (h.new [.str [], .int .i64 0]) σ ((RE.refl h o σ).new _)
    simpa [plcP, hlt] using this
end
end Go.Proofs.Ytdbbgkdepjidjaa.Al
namespace Go.Proofs.Ytdbbgkdepjidjaa.Al
def A.show_Text.L0 : AC := .post (.seq (.reg [⟨(some 18), none, .bin .lss (.t 17) (.t 16)⟩])
  (.keep [4, 5, 15, 16, 17, 18] (.seq (.cond (.t 18) .skip (.exit 0))
  (.keep [4, 5, 15, 16, 17] (.seq (.block 1 (.seq (.reg [⟨(some 19), none, .ia 2 (.t 15) (.t 17)⟩, ⟨(some 20), none, .load true 2 (.t 19)⟩, ⟨(some 7), none, .alloc [(.str []), (.int .i64 (0))]⟩, ⟨none, none, .store 2 (.t 7) (.t 20)⟩])
  (.keep [4, 5, 7, 15, 16, 17] (.seq (.reg [⟨(some 21), none, .mv (.t 4)⟩, ⟨(some 22), none, .nilchk (.t 21)⟩, ⟨(some 23), none, .fa 2 (.t 22)⟩, ⟨none, none, .store 1 (.t 23) (.c (.sl 0 1 []))⟩])
  (.keep [4, 5, 7, 15, 16, 17] (.seq (.reg [⟨(some 24), none, .mv (.t 4)⟩, ⟨(some 25), none, .fa 0 (.t 7)⟩, ⟨(some 26), none, .load false 1 (.t 25)⟩, ⟨(some 27), none, .bsl 1 false [(.str [])] 2 [(0, (.t 26)), (1, (.c (.str [58])))]⟩, ⟨(some 28), none, .call (.c (.fn K.show_writer_put [] [])) [(.t 24), (.t 27)]⟩])
  (.keep [4, 5, 7, 15, 16, 17] (.seq (.reg [⟨(some 29), none, .mv (.t 4)⟩, ⟨(some 30), none, .fa 1 (.t 7)⟩, ⟨(some 31), none, .load false 1 (.t 30)⟩, ⟨(some 32), none, .call (.c (.fn K.show_writer_node [] [])) [(.t 29), (.t 31)]⟩])
  (.keep [4, 5, 15, 16, 17] (.seq (.reg [⟨(some 33), none, .mv (.t 4)⟩, ⟨(some 34), none, .bsl 1 false [(.str [])] 1 [(0, (.c (.str [59])))]⟩, ⟨(some 35), none, .call (.c (.fn K.show_writer_put [] [])) [(.t 33), (.t 34)]⟩])
  (.keep [4, 5, 15, 16, 17] (.reg [⟨(some 36), none, .mv (.t 4)⟩, ⟨(some 37), none, .nilchk (.t 36)⟩, ⟨(some 38), none, .fa 2 (.t 37)⟩, ⟨(some 39), none, .load false 1 (.t 38)⟩, ⟨(some 40), none, .call (.c (.fn K.strings_Join [] [])) [(.t 39), (.c (.str [32]))]⟩, ⟨(some 41), none, .bin .add (.t 40) (.c (.str [10]))⟩, ⟨(some 42), none, .call (.c (.fn K.strings_Builder_WriteString [] [])) [(.t 5), (.t 41)]⟩]))))))))))))
  (.keep [4, 5, 15, 16, 17] (.reg [⟨(some 43), none, .bin .add (.t 17) (.c (.int .i64 (1)))⟩, ⟨(some 17), none, .mv (.t 43)⟩]))))))) [4, 5, 15, 16, 17]
def A.show_Text : AFn := ⟨47, [(2, none), (3, none)], (.seq (.reg [⟨(some 1), none, .box (.t 0)⟩, ⟨(some 2), none, .mv (.c (.str []))⟩, ⟨(some 3), none, .mv (.c (.int .i64 (0)))⟩])
  (.keep [1] (.seq (.seq (.reg [⟨(some 8), none, .load true 2 (.t 1)⟩, ⟨(some 9), none, .call (.c (.fn K.rules_Right [] [])) [(.t 8)]⟩, ⟨(some 10), none, .un .not (.t 9)⟩])
  (.keep [1, 10] (.cond (.t 10) (.seq (.reg [⟨(some 2), none, .mv (.c (.str []))⟩, ⟨(some 3), none, .mv (.c (.int .i64 (1)))⟩]) .ret) .skip)))
  (.keep [1] (.seq (.reg [⟨(some 11), none, .load true 2 (.t 1)⟩, ⟨(some 12), none, .bld [(.sl 0 1 []), (.sl 0 1 []), (.sl 0 1 [])] [(0, 2, (.t 11))]⟩, ⟨(some 13), none, .box (.t 12)⟩, ⟨(some 4), none, .mv (.t 13)⟩])
  (.keep [1, 4] (.seq (.reg [⟨(some 5), none, .alct 58 2 [.nilp, (.sl 0 1 [])]⟩])
  (.keep [1, 4, 5] (.seq (.seq (.reg [⟨(some 14), none, .fa 0 (.t 1)⟩, ⟨(some 15), none, .load false 1 (.t 14)⟩, ⟨(some 16), none, .len false (.t 15)⟩, ⟨(some 17), none, .mv (.c (.int .i64 (0)))⟩])
  (.keep [4, 5, 15, 16, 17] (.block 0 (.loop A.show_Text.L0))))
  (.keep [5] (.seq (.seq (.reg [⟨(some 44), none, .call (.c (.fn K.strings_Builder_Len [] [])) [(.t 5)]⟩, ⟨(some 45), none, .bin .gtr (.t 44) (.c (.int .i64 (4000)))⟩])
  (.keep [5, 45] (.cond (.t 45) (.seq (.reg [⟨(some 2), none, .mv (.c (.str []))⟩, ⟨(some 3), none, .mv (.c (.int .i64 (5)))⟩]) .ret) .skip)))
  (.keep [5] (.seq (.reg [⟨(some 46), none, .call (.c (.fn K.strings_Builder_String [] [])) [(.t 5)]⟩, ⟨(some 2), none, .mv (.t 46)⟩, ⟨(some 3), none, .mv (.c (.int .i64 (0)))⟩]) .ret)))))))))))))⟩
def A.show_Tokens : AFn := ⟨36, [(4, none), (5, none)], (.seq (.reg [⟨(some 2), none, .box (.t 0)⟩, ⟨(some 4), none, .mv (.c (.sl 0 1 []))⟩, ⟨(some 5), none, .mv (.c (.int .i64 (0)))⟩])
  (.keep [1, 2] (.seq (.block 0 (.seq (.reg [⟨(some 8), none, .load true 2 (.t 2)⟩, ⟨(some 9), none, .call (.c (.fn K.rules_Right [] [])) [(.t 8)]⟩, ⟨(some 10), none, .un .not (.t 9)⟩, ⟨(some 7), none, .mv (.t 10)⟩])
  (.keep [1, 2, 7] (.cond (.t 7) (.seq (.reg [⟨(some 4), none, .mv (.c (.sl 0 1 []))⟩, ⟨(some 5), none, .mv (.c (.int .i64 (1)))⟩]) .ret) (.seq (.reg [⟨(some 12), none, .mv (.t 1)⟩, ⟨(some 13), none, .bin .lss (.t 12) (.c (.int .i64 (0)))⟩, ⟨(some 14), none, .mv (.t 13)⟩, ⟨(some 15), (some (14, false)), .mv (.t 1)⟩, ⟨(some 16), (some (14, false)), .fa 0 (.t 2)⟩, ⟨(some 17), (some (14, false)), .load false 1 (.t 16)⟩, ⟨(some 18), (some (14, false)), .len false (.t 17)⟩, ⟨(some 19), (some (14, false)), .bin .geq (.t 15) (.t 18)⟩, ⟨(some 20), none, .pick (.t 14) (.c (.bool true)) (.t 19)⟩, ⟨(some 11), none, .mv (.t 20)⟩])
  (.keep [1, 2, 11] (.cond (.t 11) (.seq (.reg [⟨(some 4), none, .mv (.c (.sl 0 1 []))⟩, ⟨(some 5), none, .mv (.c (.int .i64 (11)))⟩]) .ret) .skip)))))))
  (.keep [1, 2] (.seq (.reg [⟨(some 21), none, .load true 2 (.t 2)⟩, ⟨(some 22), none, .bld [(.sl 0 1 []), (.sl 0 1 []), (.sl 0 1 [])] [(0, 2, (.t 21))]⟩, ⟨(some 23), none, .box (.t 22)⟩, ⟨(some 6), none, .mv (.t 23)⟩])
  (.keep [1, 2, 6] (.seq (.reg [⟨(some 24), none, .mv (.t 6)⟩, ⟨(some 25), none, .fa 0 (.t 2)⟩, ⟨(some 26), none, .load false 1 (.t 25)⟩, ⟨(some 27), none, .mv (.t 1)⟩, ⟨(some 28), none, .ia 2 (.t 26) (.t 27)⟩, ⟨(some 29), none, .fa 1 (.t 28)⟩, ⟨(some 30), none, .load false 1 (.t 29)⟩, ⟨(some 31), none, .call (.c (.fn K.show_writer_node [] [])) [(.t 24), (.t 30)]⟩])
  (.keep [6] (.seq (.reg [⟨(some 32), none, .mv (.t 6)⟩, ⟨(some 33), none, .nilchk (.t 32)⟩, ⟨(some 34), none, .fa 2 (.t 33)⟩, ⟨(some 35), none, .load false 1 (.t 34)⟩, ⟨(some 4), none, .mv (.t 35)⟩, ⟨(some 5), none, .mv (.c (.int .i64 (0)))⟩]) .ret)))))))))⟩
def A.show_writer_put : AFn := ⟨13, [], (.reg [⟨(some 4), none, .mv (.t 0)⟩, ⟨(some 5), none, .mv (.t 0)⟩, ⟨(some 6), none, .nilchk (.t 5)⟩, ⟨(some 7), none, .fa 2 (.t 6)⟩, ⟨(some 8), none, .load false 1 (.t 7)⟩, ⟨(some 9), none, .mv (.t 1)⟩, ⟨(some 10), none, .app 1 16 (.t 8) (.t 9)⟩, ⟨(some 11), none, .nilchk (.t 4)⟩, ⟨(some 12), none, .fa 2 (.t 11)⟩, ⟨none, none, .store 1 (.t 12) (.t 10)⟩])⟩
def A.show_writer_node : AFn := ⟨65, [], (.seq (.reg [⟨(some 2), none, .box (.t 0)⟩])
  (.keep [1, 2] (.seq (.reg [⟨(some 7), none, .load false 1 (.t 2)⟩, ⟨(some 8), none, .nilchk (.t 7)⟩, ⟨(some 9), none, .fa 0 (.t 8)⟩, ⟨(some 10), none, .fa 1 (.t 9)⟩, ⟨(some 11), none, .load false 1 (.t 10)⟩, ⟨(some 12), none, .mv (.t 1)⟩, ⟨(some 13), none, .ia 3 (.t 11) (.t 12)⟩, ⟨(some 14), none, .load true 3 (.t 13)⟩, ⟨(some 4), none, .alloc [(.int .i64 (0)), (.str []), (.sl 0 1 [])]⟩, ⟨none, none, .store 3 (.t 4) (.t 14)⟩])
  (.keep [2, 4] (.seq (.reg [⟨(some 15), none, .fa 0 (.t 4)⟩, ⟨(some 16), none, .load false 1 (.t 15)⟩])
  (.keep [2, 4, 16] (.block 0 (.seq (.reg [⟨(some 34), none, .bin .eql (.t 16) (.c (.int .i64 (6)))⟩, ⟨(some 33), none, .mv (.t 34)⟩])
  (.keep [2, 4, 16, 33] (.cond (.t 33) (.reg [⟨(some 35), none, .load false 1 (.t 2)⟩, ⟨(some 36), none, .fa 1 (.t 4)⟩, ⟨(some 37), none, .load false 1 (.t 36)⟩, ⟨(some 38), none, .bsl 1 false [(.str [])] 1 [(0, (.t 37))]⟩, ⟨(some 39), none, .call (.c (.fn K.show_writer_put [] [])) [(.t 35), (.t 38)]⟩]) (.seq (.reg [⟨(some 41), none, .bin .eql (.t 16) (.c (.int .i64 (7)))⟩, ⟨(some 40), none, .mv (.t 41)⟩])
  (.keep [2, 4, 16, 40] (.cond (.t 40) (.reg [⟨(some 42), none, .load false 1 (.t 2)⟩, ⟨(some 43), none, .fa 1 (.t 4)⟩, ⟨(some 44), none, .load false 1 (.t 43)⟩, ⟨(some 45), none, .bin .add (.c (.str [39])) (.t 44)⟩, ⟨(some 46), none, .bin .add (.t 45) (.c (.str [39]))⟩, ⟨(some 47), none, .bsl 1 false [(.str [])] 1 [(0, (.t 46))]⟩, ⟨(some 48), none, .call (.c (.fn K.show_writer_put [] [])) [(.t 42), (.t 47)]⟩]) (.seq (.reg [⟨(some 50), none, .bin .eql (.t 16) (.c (.int .i64 (1)))⟩, ⟨(some 49), none, .mv (.t 50)⟩])
  (.keep [2, 4, 16, 49] (.cond (.t 49) (.reg [⟨(some 51), none, .fa 2 (.t 4)⟩, ⟨(some 52), none, .load false 1 (.t 51)⟩, ⟨(some 53), none, .load false 1 (.t 2)⟩, ⟨(some 54), none, .mkfn K.show_writer_item [(.t 53)] []⟩, ⟨(some 55), none, .call (.c (.fn K.show_each [] [])) [(.t 52), (.t 54), (.c (.sl 0 1 []))]⟩]) (.seq (.reg [⟨(some 57), none, .bin .eql (.t 16) (.c (.int .i64 (2)))⟩, ⟨(some 56), none, .mv (.t 57)⟩])
  (.keep [2, 4, 56] (.cond (.t 56) (.reg [⟨(some 58), none, .fa 2 (.t 4)⟩, ⟨(some 59), none, .load false 1 (.t 58)⟩, ⟨(some 60), none, .load false 1 (.t 2)⟩, ⟨(some 61), none, .mkfn K.show_writer_alternative [(.t 60)] []⟩, ⟨(some 62), none, .mkfn K.show_writer_node_1 [] [(.t 2)]⟩, ⟨(some 63), none, .bsl 1 false [.nilf] 1 [(0, (.t 62))]⟩, ⟨(some 64), none, .call (.c (.fn K.show_each [] [])) [(.t 59), (.t 61), (.t 63)]⟩]) (.seq (.reg [⟨(some 18), none, .fa 0 (.t 4)⟩, ⟨(some 19), none, .load false 1 (.t 18)⟩, ⟨(some 20), none, .call (.c (.fn K.show_repeated [] [])) [(.t 19)]⟩, ⟨(some 17), none, .mv (.t 20)⟩, ⟨(some 21), none, .ext (.t 17) 0⟩, ⟨(some 22), none, .ext (.t 17) 1⟩, ⟨(some 5), none, .mv (.t 21)⟩, ⟨(some 6), none, .mv (.t 22)⟩])
  (.keep [2, 4, 5] (.seq (.draw [(.pl, ⟨(some 23), none, .load false 1 (.t 2)⟩), (.pl, ⟨(some 24), none, .fa 2 (.t 4)⟩), (.pl, ⟨(some 25), none, .load false 1 (.t 24)⟩), (.pl, ⟨(some 26), none, .ia 1 (.t 25) (.c (.int .i64 (0)))⟩), (.pl, ⟨(some 27), none, .load false 1 (.t 26)⟩), (.eff, ⟨(some 28), none, .call (.c (.fn K.show_writer_atom [] [])) [(.t 23), (.t 27)]⟩)])
  (.keep [2, 5] (.reg [⟨(some 29), none, .load false 1 (.t 2)⟩, ⟨(some 30), none, .mv (.t 5)⟩, ⟨(some 31), none, .bsl 1 false [(.str [])] 1 [(0, (.t 30))]⟩, ⟨(some 32), none, .call (.c (.fn K.show_writer_put [] [])) [(.t 29), (.t 31)]⟩]))))))))))))))))))))))))⟩
def A.show_each.L1 : AC := .post (.seq (.reg [⟨(some 20), none, .bin .lss (.t 19) (.t 18)⟩])
  (.keep [1, 2, 6, 7, 10, 11, 12, 17, 18, 19, 20] (.seq (.cond (.t 20) .skip (.exit 2))
  (.keep [1, 2, 6, 7, 10, 11, 12, 17, 18, 19] (.seq (.block 3 (.seq (.reg [⟨(some 21), none, .ia 1 (.t 17) (.t 19)⟩, ⟨(some 22), none, .load false 1 (.t 21)⟩, ⟨(some 9), none, .mv (.t 22)⟩])
  (.keep [1, 2, 6, 7, 9, 10, 11, 12, 17, 18, 19] (.seq (.reg [⟨(some 23), none, .mv (.t 6)⟩, ⟨(some 24), none, .bin .gtr (.t 23) (.c (.int .i64 (0)))⟩])
  (.keep [1, 2, 6, 7, 9, 10, 11, 12, 17, 18, 19, 24] (.cond (.t 24) (.reg [⟨(some 25), none, .mv (.t 9)⟩, ⟨(some 26), none, .call (.t 25) []⟩]) .skip))))))
  (.keep [1, 2, 6, 7, 10, 11, 12, 17, 18, 19] (.reg [⟨(some 27), none, .bin .add (.t 19) (.c (.int .i64 (1)))⟩, ⟨(some 19), none, .mv (.t 27)⟩]))))))) [1, 2, 6, 7, 10, 11, 12, 17, 18, 19]
def A.show_each.L0 : AC := .post (.seq (.reg [⟨(some 13), none, .bin .lss (.t 12) (.t 11)⟩])
  (.keep [1, 2, 10, 11, 12, 13] (.seq (.cond (.t 13) .skip (.exit 0))
  (.keep [1, 2, 10, 11, 12] (.seq (.block 1 (.seq (.reg [⟨(some 14), none, .mv (.t 12)⟩, ⟨(some 15), none, .ia 1 (.t 10) (.t 12)⟩, ⟨(some 16), none, .load false 1 (.t 15)⟩, ⟨(some 6), none, .mv (.t 14)⟩, ⟨(some 7), none, .mv (.t 16)⟩])
  (.keep [1, 2, 6, 7, 10, 11, 12] (.seq (.seq (.reg [⟨(some 17), none, .mv (.t 2)⟩, ⟨(some 18), none, .len false (.t 17)⟩, ⟨(some 19), none, .mv (.c (.int .i64 (0)))⟩])
  (.keep [1, 2, 6, 7, 10, 11, 12, 17, 18, 19] (.block 2 (.loop A.show_each.L1))))
  (.keep [1, 2, 7, 10, 11, 12] (.reg [⟨(some 28), none, .mv (.t 1)⟩, ⟨(some 29), none, .mv (.t 7)⟩, ⟨(some 30), none, .call (.t 28) [(.t 29)]⟩]))))))
  (.keep [1, 2, 10, 11, 12] (.reg [⟨(some 31), none, .bin .add (.t 12) (.c (.int .i64 (1)))⟩, ⟨(some 12), none, .mv (.t 31)⟩]))))))) [1, 2, 10, 11, 12]
def A.show_each : AFn := ⟨32, [], (.seq (.reg [⟨(some 10), none, .mv (.t 0)⟩, ⟨(some 11), none, .len false (.t 10)⟩, ⟨(some 12), none, .mv (.c (.int .i64 (0)))⟩])
  (.keep [1, 2, 10, 11, 12] (.block 0 (.loop A.show_each.L0))))⟩
def A.show_writer_item : AFn := ⟨26, [], (.seq (.seq (.reg [⟨(some 7), none, .mv (.t 0)⟩, ⟨(some 8), none, .nilchk (.t 7)⟩, ⟨(some 9), none, .fa 0 (.t 8)⟩, ⟨(some 10), none, .fa 1 (.t 9)⟩, ⟨(some 11), none, .load false 1 (.t 10)⟩, ⟨(some 12), none, .mv (.t 1)⟩, ⟨(some 13), none, .ia 3 (.t 11) (.t 12)⟩, ⟨(some 14), none, .fa 0 (.t 13)⟩, ⟨(some 15), none, .load false 1 (.t 14)⟩, ⟨(some 16), none, .call (.c (.fn K.show_repeated [] [])) [(.t 15)]⟩, ⟨(some 6), none, .mv (.t 16)⟩, ⟨(some 17), none, .ext (.t 6) 0⟩, ⟨(some 18), none, .ext (.t 6) 1⟩, ⟨(some 4), none, .mv (.t 17)⟩, ⟨(some 5), none, .mv (.t 18)⟩])
  (.keep [0, 1, 5] (.seq (.reg [⟨(some 19), none, .mv (.t 5)⟩])
  (.keep [0, 1, 19] (.cond (.t 19) (.seq (.reg [⟨(some 20), none, .mv (.t 0)⟩, ⟨(some 21), none, .mv (.t 1)⟩, ⟨(some 22), none, .call (.c (.fn K.show_writer_node [] [])) [(.t 20), (.t 21)]⟩]) .ret) .skip)))))
  (.keep [0, 1] (.reg [⟨(some 23), none, .mv (.t 0)⟩, ⟨(some 24), none, .mv (.t 1)⟩, ⟨(some 25), none, .call (.c (.fn K.show_writer_atom [] [])) [(.t 23), (.t 24)]⟩])))⟩
def A.show_writer_alternative : AFn := ⟨20, [], (.seq (.seq (.reg [⟨(some 4), none, .mv (.t 0)⟩, ⟨(some 5), none, .nilchk (.t 4)⟩, ⟨(some 6), none, .fa 0 (.t 5)⟩, ⟨(some 7), none, .fa 1 (.t 6)⟩, ⟨(some 8), none, .load false 1 (.t 7)⟩, ⟨(some 9), none, .mv (.t 1)⟩, ⟨(some 10), none, .ia 3 (.t 8) (.t 9)⟩, ⟨(some 11), none, .fa 0 (.t 10)⟩, ⟨(some 12), none, .load false 1 (.t 11)⟩, ⟨(some 13), none, .bin .eql (.t 12) (.c (.int .i64 (1)))⟩])
  (.keep [0, 1, 13] (.cond (.t 13) (.seq (.reg [⟨(some 14), none, .mv (.t 0)⟩, ⟨(some 15), none, .mv (.t 1)⟩, ⟨(some 16), none, .call (.c (.fn K.show_writer_node [] [])) [(.t 14), (.t 15)]⟩]) .ret) .skip)))
  (.keep [0, 1] (.reg [⟨(some 17), none, .mv (.t 0)⟩, ⟨(some 18), none, .mv (.t 1)⟩, ⟨(some 19), none, .call (.c (.fn K.show_writer_item [] [])) [(.t 17), (.t 18)]⟩])))⟩
def A.show_writer_node_1 : AFn := ⟨4, [], (.reg [⟨(some 1), none, .load false 1 (.t 0)⟩, ⟨(some 2), none, .bsl 1 false [(.str [])] 1 [(0, (.c (.str [124])))]⟩, ⟨(some 3), none, .call (.c (.fn K.show_writer_put [] [])) [(.t 1), (.t 2)]⟩])⟩
def A.show_repeated : AFn := ⟨11, [(2, none), (3, none)], (.seq (.reg [⟨(some 2), none, .mv (.c (.str []))⟩, ⟨(some 3), none, .mv (.c (.bool false))⟩])
  (.keep [0] (.seq (.seq (.reg [⟨(some 4), none, .mv (.t 0)⟩])
  (.keep [4] (.block 0 (.seq (.reg [⟨(some 6), none, .bin .eql (.t 4) (.c (.int .i64 (3)))⟩, ⟨(some 5), none, .mv (.t 6)⟩])
  (.keep [4, 5] (.cond (.t 5) (.seq (.reg [⟨(some 2), none, .mv (.c (.str [42]))⟩, ⟨(some 3), none, .mv (.c (.bool true))⟩]) .ret) (.seq (.reg [⟨(some 8), none, .bin .eql (.t 4) (.c (.int .i64 (4)))⟩, ⟨(some 7), none, .mv (.t 8)⟩])
  (.keep [4, 7] (.cond (.t 7) (.seq (.reg [⟨(some 2), none, .mv (.c (.str [43]))⟩, ⟨(some 3), none, .mv (.c (.bool true))⟩]) .ret) (.seq (.reg [⟨(some 10), none, .bin .eql (.t 4) (.c (.int .i64 (5)))⟩, ⟨(some 9), none, .mv (.t 10)⟩])
  (.keep [9] (.cond (.t 9) (.seq (.reg [⟨(some 2), none, .mv (.c (.str [63]))⟩, ⟨(some 3), none, .mv (.c (.bool true))⟩]) .ret) .skip))))))))))))
  (.keep [] (.seq (.reg [⟨(some 2), none, .mv (.c (.str []))⟩, ⟨(some 3), none, .mv (.c (.bool false))⟩]) .ret)))))⟩
def A.show_writer_atom : AFn := ⟨26, [], (.seq (.seq (.reg [⟨(some 5), none, .mv (.t 0)⟩, ⟨(some 6), none, .nilchk (.t 5)⟩, ⟨(some 7), none, .fa 0 (.t 6)⟩, ⟨(some 8), none, .fa 1 (.t 7)⟩, ⟨(some 9), none, .load false 1 (.t 8)⟩, ⟨(some 10), none, .mv (.t 1)⟩, ⟨(some 11), none, .ia 3 (.t 9) (.t 10)⟩, ⟨(some 12), none, .fa 0 (.t 11)⟩, ⟨(some 13), none, .load false 1 (.t 12)⟩, ⟨(some 4), none, .mv (.t 13)⟩])
  (.keep [0, 1, 4] (.seq (.reg [⟨(some 14), none, .mv (.t 4)⟩, ⟨(some 15), none, .bin .eql (.t 14) (.c (.int .i64 (6)))⟩, ⟨(some 16), none, .mv (.t 15)⟩, ⟨(some 17), (some (16, false)), .mv (.t 4)⟩, ⟨(some 18), (some (16, false)), .bin .eql (.t 17) (.c (.int .i64 (7)))⟩, ⟨(some 19), none, .pick (.t 16) (.c (.bool true)) (.t 18)⟩])
  (.keep [0, 1, 19] (.cond (.t 19) (.seq (.reg [⟨(some 20), none, .mv (.t 0)⟩, ⟨(some 21), none, .mv (.t 1)⟩, ⟨(some 22), none, .call (.c (.fn K.show_writer_node [] [])) [(.t 20), (.t 21)]⟩]) .ret) .skip)))))
  (.keep [0, 1] (.reg [⟨(some 23), none, .mv (.t 0)⟩, ⟨(some 24), none, .mv (.t 1)⟩, ⟨(some 25), none, .call (.c (.fn K.show_writer_bracketed [] [])) [(.t 23), (.t 24)]⟩])))⟩
def A.show_writer_bracketed : AFn := ⟨13, [], (.seq (.reg [⟨(some 4), none, .mv (.t 0)⟩, ⟨(some 5), none, .bsl 1 false [(.str [])] 1 [(0, (.c (.str [40])))]⟩, ⟨(some 6), none, .call (.c (.fn K.show_writer_put [] [])) [(.t 4), (.t 5)]⟩])
  (.keep [0, 1] (.seq (.reg [⟨(some 7), none, .mv (.t 0)⟩, ⟨(some 8), none, .mv (.t 1)⟩, ⟨(some 9), none, .call (.c (.fn K.show_writer_node [] [])) [(.t 7), (.t 8)]⟩])
  (.keep [0] (.reg [⟨(some 10), none, .mv (.t 0)⟩, ⟨(some 11), none, .bsl 1 false [(.str [])] 1 [(0, (.c (.str [41])))]⟩, ⟨(some 12), none, .call (.c (.fn K.show_writer_put [] [])) [(.t 10), (.t 11)]⟩])))))⟩
end Go.Proofs.Ytdbbgkdepjidjaa.Al
namespace Go.Proofs.Ytdbbgkdepjidjaa.Al
open Go Go.RowKit
set_option linter.unusedSimpArgs false
set_option linter.unusedVariables false
attribute [-simp] List.getD_eq_getElem?_getD Int.not_lt Int.not_le List.map_take List.map_map
/-! ### What is told, in plain Lean -/
section
variable (t : Te)
def kindT (n : Int) : Int := match t.nodes[n.toNat]? with
  | some x => x.kind
  | none => 0
def brk (l : List Str) : List Str := [40] :: (l ++ [[41]])
def atomW (rec : Int → List Str) (n : Int) : List Str := if kindT t n = 6 ∨ kindT t n = 7 then rec n else brk (rec n)
def itemW (rec : Int → List Str) (n : Int) : List Str := if 3 ≤ kindT t n ∧ kindT t n ≤ 5 then rec n else atomW t rec n
def altW (rec : Int → List Str) (n : Int) : List Str := if kindT t n = 1 then rec n else itemW t rec n
/-- Of each, and something between. -/
def eachW (sep : List Str) (one : Int → List Str) (l : List Int) : List Str := match l with
  | [] => []
  | k :: r => one k ++ r.flatMap fun k => sep ++ one k
def markW (k : Int) : Str := if k = 3 then [42] else if k = 4 then [43] else if k = 5 then [63] else []
/-- A node's tokens. -/
def tokW : Nat → Int → List Str
  | 0, _ => []
  | f + 1, n => match t.nodes[n.toNat]? with
    | none => []
    | some x => if x.kind = 6 then [x.name] else if x.kind = 7 then [39 :: (x.name ++ [39])]
      else if x.kind = 1 then eachW [] (itemW t (tokW f)) x.kids
      else if x.kind = 2 then eachW [[124]] (altW t (tokW f)) x.kids
      else atomW t (tokW f) (x.kids.getD 0 0) ++ [markW x.kind]
end
theorem eachW_snoc (sep : List Str) (one : Int → List Str) (l : List Int) (k : Int) : eachW sep one (l ++ [k]) = eachW sep one l ++ ((if l = [] then [] else sep) ++ one k) := by
  cases l with
  | nil => simp [eachW]
  | cons a l => simp [eachW]
theorem eachW_take {sep : List Str} {one : Int → List Str} {l : List Int} {i : Nat} (h : i < l.length) : eachW sep one (l.take (i + 1)) = eachW sep one (l.take i) ++ ((if i = 0 then [] else sep) ++ one l[i]) := by
  rw [List.take_succ_eq_append_getElem h, eachW_snoc]
  congr 2
  cases l with
  | nil => simp at h
  | cons a l => simp
theorem eachW_len {sep : List Str} {one : Int → List Str} {l : List Int} (i : Nat) : (eachW sep one (l.take i)).length ≤ (eachW sep one l).length := by
  cases l with
  | nil => simp [eachW]
  | cons a l =>
    cases i with
    | zero => simp [eachW]
    | succ i =>
      simp only [List.take_succ_cons, eachW, List.length_append]
      have : l.flatMap (fun k => sep ++ one k) = (l.take i).flatMap (fun k => sep ++ one k) ++ (l.drop i).flatMap (fun k => sep ++ one k) := by rw [← List.flatMap_append, List.take_append_drop]
      rw [this, List.length_append]; omega
/-! ### One answer -/
/-- A call with one answer. -/
def Det (X : Cx) (k : Nat) (args : List V) (h : AH) (v : V) (h1 : AH) : Prop := Ecx X k args h fun v' h' => v' = v ∧ h' = h1
theorem Det.to {X : Cx} {k : Nat} {args : List V} {h h1 : AH} {v : V} {Q : V → AH → Prop} (d : Det X k args h v h1) (hq : Q v h1) : Ecx X k args h Q := d.mono fun r h' e => by rw [e.1, e.2]; exact hq
/-- Steps, one behind the other. -/
theorem chainD {α : Type} (P : Nat → α → Prop) (R : Nat → α → α → Prop) : ∀ (n : Nat) (a0 : α), P 0 a0 → (∀ i a, i < n → P i a → ∃ b, P (i + 1) b ∧ R i a b) →
    ∃ f : Nat → α, f 0 = a0 ∧ (∀ i, i ≤ n → P i (f i)) ∧ ∀ i, i < n → R i (f i) (f (i + 1))
  | 0, a0, h0, _ => ⟨fun _ => a0, rfl, fun i hi => by obtain rfl : i = 0 := by omega
                                                      exact h0, fun i hi => by omega⟩
  | n + 1, a0, h0, hs => by
    obtain ⟨f, f0, f1, f2⟩ := chainD P R n a0 h0 fun i a hi => hs i a (by omega)
    obtain ⟨b, b1, b2⟩ := hs n (f n) (by omega) (f1 n (Nat.le_refl _))
    refine ⟨fun i => if i ≤ n then f i else b, by simp [f0], fun i hi => ?_, fun i hi => ?_⟩
    · by_cases c : i ≤ n
      · simp only [if_pos c]; exact f1 i c
      · obtain rfl : i = n + 1 := by omega
        simp only [if_neg c]; exact b1
    · by_cases c : i + 1 ≤ n
      · simp only [if_pos c, if_pos (show i ≤ n by omega)]; exact f2 i (by omega)
      · obtain rfl : i = n := by omega
        simp only [if_neg c, if_pos (Nat.le_refl i)]; exact b2
/-! ### Its object -/
structure WrO (h : AH) (o : Nat) (t : Te) (st : Nat) (L : List Str) : Prop where
  ob : ∃ e, h.objs o = [.sl 2 0 (t.rules.map rlV), .sl 3 0 (t.nodes.map ndV), .sl e st (strs L)] ∧ May 1 h e st (strs L)
  lt : o < h.nobj
  lo : 3 ≤ h.next ∧ ∀ s, s ≤ 2 → h.tips s = none
  sb : st ≤ 2 ∨ st < h.next
/-- From h to h1 only this object has been turned, and its slice. -/
structure SWE (h h1 : AH) (o st st1 : Nat) : Prop where
  next : h.next ≤ h1.next
  nobj : h.nobj ≤ h1.nobj
  objs : ∀ o', o' < h.nobj → o' ≠ o → h1.objs o' = h.objs o'
  tips : ∀ s, s < h.next → (s ≠ st ∨ s ≤ 2) → h1.tips s = h.tips s
  st : st1 = st ∨ h.next ≤ st1
theorem SWE.refl (h : AH) (o st : Nat) : SWE h h o st st := ⟨Nat.le_refl _, Nat.le_refl _, fun _ _ _ => rfl, fun _ _ _ => rfl, .inl rfl⟩
theorem SWE.trans {h h1 h2 : AH} {o st st1 st2 : Nat} (a : SWE h h1 o st st1) (b : SWE h1 h2 o st1 st2) : SWE h h2 o st st2 where
  next := Nat.le_trans a.next b.next
  nobj := Nat.le_trans a.nobj b.nobj
  objs o' h' hn := (b.objs o' (Nat.lt_of_lt_of_le h' a.nobj) hn).trans (a.objs o' h' hn)
  tips s hs hn := by
    have h1 : s ≠ st1 ∨ s ≤ 2 := by
      rcases hn with c | c
      · left; rcases a.st with d | d
        · rw [d]; exact c
        · omega
      · exact .inr c
    exact (b.tips s (Nat.lt_of_lt_of_le hs a.next) h1).trans (a.tips s hs hn)
  st := by
    rcases b.st with e | e
    · rw [e]; exact a.st
    · exact .inr (Nat.le_trans a.next e)
theorem SWE.new {h h1 : AH} {o st st1 : Nat} (f : SWE h h1 o st st1) (z : List V) : SWE h (h1.new z) o st st1 :=
  ⟨f.next, Nat.le_succ_of_le f.nobj, fun o' ho hn => by rw [new_objs_ne _ _ (by have := f.nobj; omega)]; exact f.objs o' ho hn, f.tips, f.st⟩
theorem SWE.set {h h1 : AH} {o st st1 : Nat} (f : SWE h h1 o st st1) {o' : Nat} (ho : o' = o ∨ h.nobj ≤ o') (z : List V) : SWE h (h1.set o' z) o st st1 :=
  ⟨f.next, f.nobj, fun o2 ho' hn => by
    rw [set_objs_ne _ _ _ (by rintro rfl; rcases ho with h | h; exact hn h; omega)]; exact f.objs o2 ho' hn, f.tips, f.st⟩
section
variable {h : AH} {o st : Nat} {t : Te} {L : List Str}
theorem WrO.new (r : WrO h o t st L) (z : List V) : WrO (h.new z) o t st L := by
  obtain ⟨e, ob, m⟩ := r.ob
  exact ⟨⟨e, by rw [new_objs_ne _ _ (by have := r.lt; omega)]; exact ob, ⟨m.el, m.st⟩⟩, Nat.lt_succ_of_lt r.lt, r.lo, r.sb⟩
theorem WrO.other (r : WrO h o t st L) {o' : Nat} (ho : o' ≠ o) (z : List V) : WrO (h.set o' z) o t st L := by
  obtain ⟨e, ob, m⟩ := r.ob
  exact ⟨⟨e, by rw [set_objs_ne _ _ _ (fun q => ho q.symm)]; exact ob, ⟨m.el, m.st⟩⟩, r.lt, r.lo, r.sb⟩
theorem WrO.push (r : WrO h o t st L) {e : Nat} (ob : h.objs o = [.sl 2 0 (t.rules.map rlV), .sl 3 0 (t.nodes.map ndV), .sl e st (strs L)]) (M : List Str) :
    WrO ((h.push st 1).set o [.sl 2 0 (t.rules.map rlV), .sl 3 0 (t.nodes.map ndV), .sl 1 h.next (strs (L ++ M))]) o t h.next (L ++ M) ∧ SWE h ((h.push st 1).set o [.sl 2 0 (t.rules.map rlV), .sl 3 0 (t.nodes.map ndV), .sl 1 h.next (strs (L ++ M))]) o st h.next := by
  refine ⟨⟨⟨1, set_objs_same _ _ _, ⟨.inr rfl, .inr (.inr (by rw [set_tips]; exact push_new h _ _))⟩⟩, by rw [set_nobj, push_nobj]; exact r.lt, by rw [set_next, set_tips]; exact push_low r.lo _ _, .inr (by rw [set_next, push_next]; omega)⟩,
    ⟨by rw [set_next, push_next]; omega, by rw [set_nobj, push_nobj]; exact Nat.le_refl _, fun o' _ hn => by rw [set_objs_ne _ _ _ hn, push_objs], fun s hs hn => by
      rw [set_tips]
      by_cases c : st ≤ 2
      · unfold AH.push; rw [if_pos c]; exact updN_ne _ _ (by omega)
      · exact push_tips_at hs (by omega), .inr (Nat.le_refl _)⟩⟩
end
structure LWr (X : Cx) : Prop where
  put : Has (Ecx X) K.show_writer_put A.show_writer_put
  rep : Has (Ecx X) K.show_repeated A.show_repeated
  bracketed : Has (Ecx X) K.show_writer_bracketed A.show_writer_bracketed
  atom : Has (Ecx X) K.show_writer_atom A.show_writer_atom
  item : Has (Ecx X) K.show_writer_item A.show_writer_item
  each : Has (Ecx X) K.show_each A.show_each
  alt : Has (Ecx X) K.show_writer_alternative A.show_writer_alternative
  node : Has (Ecx X) K.show_writer_node A.show_writer_node
  node1 : Has (Ecx X) K.show_writer_node_1 A.show_writer_node_1
section
variable {X : Cx} {h : AH} {o st : Nat} {t : Te} {L : List Str}
theorem wPut (W : LWr X) (r : WrO h o t st L) (M : List Str) (hm : M ≠ []) (hl : L.length + M.length ≤ 2 ^ 40) {st2 : Nat} :
    ∃ h1, Det X K.show_writer_put [.ptr o 0, .sl 1 st2 (strs M)] h (.tup []) h1 ∧ SWE h h1 o st h.next ∧ WrO h1 o t h.next (L ++ M) := by
  obtain ⟨e, ob, m⟩ := r.ob
  obtain ⟨r1, g1⟩ := r.push ob M
  refine ⟨_, ?_, g1, r1⟩
  refine fn_any W.put (by simp [A.show_writer_put]) fun wf => ?_
  simp [A.show_writer_put, ob]
  refine m.app (by simpa [strs] using hm) rfl (by simp [strs]; omega) ?_
  simp [setAt, V.cells, V.good, push_objs, ob, strs]
theorem wRep (W : LWr X) (k : Int) {Q : V → AH → Prop} (hQ : Q (.tup [.str (markW k), .bool (decide (3 ≤ k ∧ k ≤ 5))]) h) : Ecx X K.show_repeated [.int .i64 k] h Q := by
  refine fn_walk W.rep (by simp [A.show_repeated]) fun wf => ?_
  by_cases c3 : k = 3
  · subst c3; simp [A.show_repeated]; exact fin (by simp) hQ
  by_cases c4 : k = 4
  · subst c4; simp [A.show_repeated]; exact fin (by simp) hQ
  by_cases c5 : k = 5
  · subst c5; simp [A.show_repeated]; exact fin (by simp) hQ
  have hk : decide (3 ≤ k ∧ k ≤ 5) = false := by simp; omega
  rw [hk] at hQ
  simp [markW, c3, c4, c5] at hQ
  simp [A.show_repeated, c3, c4, c5]
  exact fin (by simp) hQ
end
end Go.Proofs.Ytdbbgkdepjidjaa.Al
namespace Go.Proofs.Ytdbbgkdepjidjaa.Al
open Go Go.RowKit
set_option linter.unusedSimpArgs false
set_option linter.unusedVariables false
attribute [-simp] List.getD_eq_getElem?_getD Int.not_lt Int.not_le List.map_take List.map_map
/-- A call that puts out M. -/
def WD (X : Cx) (k : Nat) (args : List V) (h : AH) (o : Nat) (t : Te) (st : Nat) (L M : List Str) : Prop := ∃ h1 st1, Det X k args h (.tup []) h1 ∧ SWE h h1 o st st1 ∧ WrO h1 o t st1 (L ++ M)
/-- Nodes below f. -/
def NodeD (X : Cx) (t : Te) (f : Nat) : Prop := ∀ h o st L (n : Nat), WrO h o t st L → n < f → n < t.nodes.length → L.length + (tokW t f n).length ≤ 2 ^ 40 → WD X K.show_writer_node [.ptr o 0, .int .i64 n] h o t st L (tokW t f n)
section
variable {X : Cx} {h : AH} {o st : Nat} {t : Te} {L : List Str} {f : Nat}
theorem brk_len (l : List Str) : (brk l).length = l.length + 2 := by simp [brk]
theorem wBracketed (W : LWr X) (nd : NodeD X t f) (r : WrO h o t st L) {n : Nat} (hn : n < f) (hl : n < t.nodes.length) (hb : L.length + (brk (tokW t f n)).length ≤ 2 ^ 40) :
    WD X K.show_writer_bracketed [.ptr o 0, .int .i64 n] h o t st L (brk (tokW t f n)) := by
  rw [brk_len] at hb
  obtain ⟨h1, d1, g1, r1⟩ := wPut W r [[40]] (by simp) (by simp; omega) (st2 := 2)
  obtain ⟨h2, st2, d2, g2, r2⟩ := nd h1 o _ _ n r1 hn hl (by simp; omega)
  obtain ⟨h3, d3, g3, r3⟩ := wPut W r2 [[41]] (by simp) (by simp; omega) (st2 := 2)
  refine ⟨h3, _, ?_, g1.trans (g2.trans g3), by simpa [brk] using r3⟩
  refine fn_any W.bracketed (by simp [A.show_writer_bracketed]) fun wf => ?_
  simp [A.show_writer_bracketed, fillL]
  refine ecall (d1.to ?_)
  simp [fillL]
  refine ecall (d2.to ?_)
  simp [fillL]
  refine ecall (d3.to ?_)
  simp
theorem kindT_at {n : Nat} (hl : n < t.nodes.length) : kindT t n = t.nodes[n].kind := by simp [kindT, hl]
theorem wAtom (W : LWr X) (nd : NodeD X t f) (r : WrO h o t st L) {n : Nat} (hn : n < f) (hl : n < t.nodes.length) (hb : L.length + (atomW t (tokW t f) n).length ≤ 2 ^ 40) :
    WD X K.show_writer_atom [.ptr o 0, .int .i64 n] h o t st L (atomW t (tokW t f) n) := by
  obtain ⟨e, ob, m⟩ := id r.ob
  have hg : (t.nodes.map ndV).getD n .undef = ndV t.nodes[n] := Enc.getD hl
  have hl' : (n : Int) < t.nodes.length := by omega
  have hk := kindT_at hl
  unfold atomW at hb ⊢
  rw [hk] at hb ⊢
  by_cases c : t.nodes[n].kind = 6 ∨ t.nodes[n].kind = 7
  · rw [if_pos c] at hb ⊢
    obtain ⟨h1, st1, d1, g1, r1⟩ := nd h o _ _ n r hn hl hb
    refine ⟨h1, st1, ?_, g1, r1⟩
    refine fn_any W.atom (by simp [A.show_writer_atom]) fun wf => ?_
    rcases c with c | c
    · simp [A.show_writer_atom, ob, hl', hg, ndV, ndC, V.cells, c]
      refine ecall (d1.to ?_)
      simp
    · simp [A.show_writer_atom, ob, hl', hg, ndV, ndC, V.cells, c]
      refine ecall (d1.to ?_)
      simp
  · rw [if_neg c] at hb ⊢
    obtain ⟨h1, st1, d1, g1, r1⟩ := wBracketed W nd r hn hl hb
    refine ⟨h1, st1, ?_, g1, r1⟩
    have c6 : ¬ t.nodes[n].kind = 6 := fun e => c (.inl e)
    have c7 : ¬ t.nodes[n].kind = 7 := fun e => c (.inr e)
    refine fn_any W.atom (by simp [A.show_writer_atom]) fun wf => ?_
    simp [A.show_writer_atom, ob, hl', hg, ndV, ndC, V.cells, c6, c7]
    refine ecall (d1.to ?_)
    simp
theorem wItem (W : LWr X) (nd : NodeD X t f) (r : WrO h o t st L) {n : Nat} (hn : n < f) (hl : n < t.nodes.length) (hb : L.length + (itemW t (tokW t f) n).length ≤ 2 ^ 40) :
    WD X K.show_writer_item [.ptr o 0, .int .i64 n] h o t st L (itemW t (tokW t f) n) := by
  obtain ⟨e, ob, m⟩ := id r.ob
  have hg : (t.nodes.map ndV).getD n .undef = ndV t.nodes[n] := Enc.getD hl
  have hl' : (n : Int) < t.nodes.length := by omega
  have hk := kindT_at hl
  unfold itemW at hb ⊢
  rw [hk] at hb ⊢
  by_cases c : 3 ≤ t.nodes[n].kind ∧ t.nodes[n].kind ≤ 5
  · rw [if_pos c] at hb ⊢
    obtain ⟨h1, st1, d1, g1, r1⟩ := nd h o _ _ n r hn hl hb
    refine ⟨h1, st1, ?_, g1, r1⟩
    refine fn_any W.item (by simp [A.show_writer_item]) fun wf => ?_
    simp [A.show_writer_item, ob, hl', hg, ndV, ndC, V.cells]
    refine ecall (wRep W t.nodes[n].kind ?_)
    simp [c]
    refine ecall (d1.to ?_)
    simp
  · rw [if_neg c] at hb ⊢
    obtain ⟨h1, st1, d1, g1, r1⟩ := wAtom W nd r hn hl hb
    refine ⟨h1, st1, ?_, g1, r1⟩
    refine fn_any W.item (by simp [A.show_writer_item]) fun wf => ?_
    simp [A.show_writer_item, ob, hl', hg, ndV, ndC, V.cells]
    refine ecall (wRep W t.nodes[n].kind ?_)
    simp [c]
    refine ecall (d1.to ?_)
    simp
theorem wAlt (W : LWr X) (nd : NodeD X t f) (r : WrO h o t st L) {n : Nat} (hn : n < f) (hl : n < t.nodes.length) (hb : L.length + (altW t (tokW t f) n).length ≤ 2 ^ 40) :
    WD X K.show_writer_alternative [.ptr o 0, .int .i64 n] h o t st L (altW t (tokW t f) n) := by
  obtain ⟨e, ob, m⟩ := id r.ob
  have hg : (t.nodes.map ndV).getD n .undef = ndV t.nodes[n] := Enc.getD hl
  have hl' : (n : Int) < t.nodes.length := by omega
  have hk := kindT_at hl
  unfold altW at hb ⊢
  rw [hk] at hb ⊢
  by_cases c : t.nodes[n].kind = 1
  · rw [if_pos c] at hb ⊢
    obtain ⟨h1, st1, d1, g1, r1⟩ := nd h o _ _ n r hn hl hb
    refine ⟨h1, st1, ?_, g1, r1⟩
    refine fn_any W.alt (by simp [A.show_writer_alternative]) fun wf => ?_
    simp [A.show_writer_alternative, ob, hl', hg, ndV, ndC, V.cells, c]
    refine ecall (d1.to ?_)
    simp
  · rw [if_neg c] at hb ⊢
    obtain ⟨h1, st1, d1, g1, r1⟩ := wItem W nd r hn hl hb
    refine ⟨h1, st1, ?_, g1, r1⟩
    refine fn_any W.alt (by simp [A.show_writer_alternative]) fun wf => ?_
    simp [A.show_writer_alternative, ob, hl', hg, ndV, ndC, V.cells, c]
    refine ecall (d1.to ?_)
    simp
/-- Of each of some kids, and something between. -/
theorem wEach (W : LWr X) (r : WrO h o t st L) {kids : List Int} (hkl : kids.length ≤ 2 ^ 30) {one : Int → List Str} {sep : List Str} {k1 : Nat} {bt : V} {sk : Nat}
    (hone : ∀ h' st' L' i (hi : i < kids.length), SWE h h' o st st' → WrO h' o t st' L' → L'.length + (one kids[i]).length ≤ 2 ^ 40 → WD X k1 [.ptr o 0, .int .i64 kids[i]] h' o t st' L' (one kids[i]))
    (hbt : (sep = [] ∧ bt = .sl 0 1 []) ∨ ∃ k2 b, bt = .sl 1 2 [.fn k2 [] b] ∧ ∀ h' st' L', SWE h h' o st st' → WrO h' o t st' L' → L'.length + sep.length ≤ 2 ^ 40 → WD X k2 b h' o t st' L' sep)
    (hb : L.length + (eachW sep one kids).length ≤ 2 ^ 40) :
    WD X K.show_each [.sl 1 sk (ints kids), .fn k1 [.ptr o 0] [], bt] h o t st L (eachW sep one kids) := by
  have hil : (ints kids).length = kids.length := by simp [ints]
  have hlen : ∀ i, i < kids.length → L.length + ((eachW sep one (kids.take i)).length + ((if i = 0 then [] else sep) ++ one (kids.getD i 0)).length) ≤ 2 ^ 40 := fun i hi => by
    have h1 := eachW_take (sep := sep) (one := one) hi
    have h2 := eachW_len (sep := sep) (one := one) (l := kids) (i + 1)
    have h3 : kids.getD i 0 = kids[i] := by simp [List.getD, hi]
    rw [h1, List.length_append] at h2
    rw [h3]; omega
  rcases hbt with ⟨rfl, rfl⟩ | ⟨k2, b, rfl, hsep⟩
  · obtain ⟨F, f0, f1, f2⟩ := chainD (fun i (a : AH × Nat) => SWE h a.1 o st a.2 ∧ WrO a.1 o t a.2 (L ++ eachW [] one (kids.take i))) (fun i a b => Det X k1 [.ptr o 0, .int .i64 (kids.getD i 0)] a.1 (.tup []) b.1) kids.length (h, st) ⟨SWE.refl h o st, by simpa [eachW] using r⟩ (fun i a hi ⟨g, w⟩ => by
      have h3 : kids.getD i 0 = kids[i] := by simp [List.getD, hi]
      have hb1 := hlen i hi
      simp only [ite_self, List.nil_append, h3] at hb1
      obtain ⟨h1, st1, d1, g1, r1⟩ := hone a.1 a.2 _ i hi g w (by rw [List.length_append]; omega)
      exact ⟨(h1, st1), ⟨g.trans g1, by rw [eachW_take hi]; simpa using r1⟩, by rw [h3]; exact d1⟩)
    refine ⟨(F kids.length).1, (F kids.length).2, ?_, (f1 _ (Nat.le_refl _)).1, by simpa using (f1 _ (Nat.le_refl _)).2⟩
    refine fn_any W.each (by simp [A.show_each]) fun wf => ?_
    simp [A.show_each, hil]
    refine loopI (n := kids.length) (fun m env h' => ∃ k, k ≤ kids.length ∧ m = kids.length - k ∧ h' = (F k).1 ∧
      env = [(1, .fn k1 [.ptr o 0] []), (2, .sl 0 1 []), (10, .sl 1 sk (ints kids)), (11, .int .i64 kids.length), (12, .int .i64 k)]) ?_ ⟨0, by omega, by omega, by rw [f0], rfl⟩
    rintro m env h' ⟨k, hk, rfl, rfl, rfl⟩
    unfold A.show_each.L0
    by_cases hlt : k < kids.length
    · have hlt' : (k : Int) < kids.length := by omega
      have hgk := ints_get hlt
      have h3 : kids.getD k 0 = kids[k] := by simp [List.getD, hlt]
      have d := f2 k hlt
      rw [h3] at d
      have hw1 : IntKind.i64.wrap ((k : Int) + 1) = ((k + 1 : Nat) : Int) := by rw [wrap_i64 (by omega) (by omega)]; rfl
      simp [hlt', hgk, V.cells]
      refine loopI (n := 0) (fun m env h' => m = 0 ∧ h' = (F k).1 ∧
        env = [(1, .fn k1 [.ptr o 0] []), (2, .sl 0 1 []), (6, .int .i64 k), (7, .int .i64 kids[k]), (10, .sl 1 sk (ints kids)), (11, .int .i64 kids.length), (12, .int .i64 k), (17, .sl 0 1 []), (18, .int .i64 0), (19, .int .i64 0)]) ?_ ⟨rfl, rfl, rfl⟩
      rintro m env h' ⟨rfl, rfl, rfl⟩
      unfold A.show_each.L1
      simp
      refine ecall (d.to ?_)
      simp [hw1, -Int.natCast_add]
      exact ⟨kids.length - (k + 1), by omega, iv ⟨k + 1, by omega, rfl, rfl, rfl⟩⟩
    · have hlt' : ¬ (k : Int) < kids.length := by omega
      obtain rfl : k = kids.length := by omega
      simp [hlt']
  · obtain ⟨F, f0, f1, f2⟩ := chainD (fun i (a : AH × Nat) => SWE h a.1 o st a.2 ∧ WrO a.1 o t a.2 (L ++ eachW sep one (kids.take i))) (fun i a c => ∃ hm, ((i = 0 ∧ hm = a.1) ∨ (i ≠ 0 ∧ Det X k2 b a.1 (.tup []) hm)) ∧ Det X k1 [.ptr o 0, .int .i64 (kids.getD i 0)] hm (.tup []) c.1) kids.length (h, st) ⟨SWE.refl h o st, by simpa [eachW] using r⟩ (fun i a hi ⟨g, w⟩ => by
      have h3 : kids.getD i 0 = kids[i] := by simp [List.getD, hi]
      have hb1 := hlen i hi
      rw [h3] at hb1
      by_cases c : i = 0
      · rw [if_pos c] at hb1
        obtain ⟨h1, st1, d1, g1, r1⟩ := hone a.1 a.2 _ i hi g w (by rw [List.length_append]; simp at hb1; omega)
        exact ⟨(h1, st1), ⟨g.trans g1, by rw [eachW_take hi, if_pos c]; simpa using r1⟩, a.1, .inl ⟨c, rfl⟩, by rw [h3]; exact d1⟩
      · rw [if_neg c, List.length_append] at hb1
        obtain ⟨h1, st1, d1, g1, r1⟩ := hsep a.1 a.2 _ g w (by rw [List.length_append]; omega)
        obtain ⟨h2, st2, d2, g2, r2⟩ := hone h1 st1 _ i hi (g.trans g1) r1 (by simp only [List.length_append]; omega)
        exact ⟨(h2, st2), ⟨(g.trans g1).trans g2, by rw [eachW_take hi, if_neg c]; simpa using r2⟩, h1, .inr ⟨c, d1⟩, by rw [h3]; exact d2⟩)
    refine ⟨(F kids.length).1, (F kids.length).2, ?_, (f1 _ (Nat.le_refl _)).1, by simpa using (f1 _ (Nat.le_refl _)).2⟩
    refine fn_any W.each (by simp [A.show_each]) fun wf => ?_
    simp [A.show_each, hil]
    refine loopI (n := kids.length) (fun m env h' => ∃ k, k ≤ kids.length ∧ m = kids.length - k ∧ h' = (F k).1 ∧
      env = [(1, .fn k1 [.ptr o 0] []), (2, .sl 1 2 [.fn k2 [] b]), (10, .sl 1 sk (ints kids)), (11, .int .i64 kids.length), (12, .int .i64 k)]) ?_ ⟨0, by omega, by omega, by rw [f0], rfl⟩
    rintro m env h' ⟨k, hk, rfl, rfl, rfl⟩
    unfold A.show_each.L0
    by_cases hlt : k < kids.length
    · have hlt' : (k : Int) < kids.length := by omega
      have hgk := ints_get hlt
      have h3 : kids.getD k 0 = kids[k] := by simp [List.getD, hlt]
      obtain ⟨hm, dm, d⟩ := f2 k hlt
      rw [h3] at d
      have hw1 : IntKind.i64.wrap ((k : Int) + 1) = ((k + 1 : Nat) : Int) := by rw [wrap_i64 (by omega) (by omega)]; rfl
      simp [hlt', hgk, V.cells]
      refine loopI (n := 1) (fun m env h' => ∃ j, j ≤ 1 ∧ m = 1 - j ∧ h' = (if j = 0 then (F k).1 else hm) ∧
        env = [(1, .fn k1 [.ptr o 0] []), (2, .sl 1 2 [.fn k2 [] b]), (6, .int .i64 k), (7, .int .i64 kids[k]), (10, .sl 1 sk (ints kids)), (11, .int .i64 kids.length), (12, .int .i64 k), (17, .sl 1 2 [.fn k2 [] b]), (18, .int .i64 1), (19, .int .i64 j)]) ?_ ⟨0, by omega, rfl, rfl, rfl⟩
      rintro m env h' ⟨j, hj, rfl, rfl, rfl⟩
      unfold A.show_each.L1
      by_cases hj0 : j = 0
      · subst hj0
        rcases dm with ⟨rfl, rfl⟩ | ⟨hk0, dm⟩
        · simp [V.cells]
          exact iv ⟨1, by omega, rfl, rfl, rfl⟩
        · have hk0' : (0 : Int) < k := by omega
          simp [V.cells, hk0', Nat.pos_of_ne_zero hk0]
          refine ecall (dm.to ?_)
          simp
          exact iv ⟨1, by omega, rfl, rfl, rfl⟩
      · obtain rfl : j = 1 := by omega
        simp
        refine ecall (d.to ?_)
        simp [hw1, -Int.natCast_add]
        exact ⟨kids.length - (k + 1), by omega, iv ⟨k + 1, by omega, rfl, rfl, rfl⟩⟩
    · have hlt' : ¬ (k : Int) < kids.length := by omega
      obtain rfl : k = kids.length := by omega
      simp [hlt']
/-- A tree whose nodes can be put out. -/
structure TOk (t : Te) : Prop where
  lt : ∀ i (h : i < t.nodes.length), ∀ k ∈ t.nodes[i].kids, 0 ≤ k ∧ k < i
  nm : ∀ x ∈ t.nodes, x.name.length ≤ 2 ^ 40
  ks : ∀ x ∈ t.nodes, x.kids.length ≤ 2 ^ 30
  kd : ∀ x ∈ t.nodes, x.kind = 6 ∨ x.kind = 7 ∨ x.kind = 1 ∨ x.kind = 2 ∨ (3 ≤ x.kind ∧ x.kind ≤ 5 ∧ x.kids.length = 1)
  n1 : t.nodes.length ≤ 2 ^ 30
theorem wNode1 (W : LWr X) (r : WrO h o t st L) {b : Nat} (hb : h.objs b = [.ptr o 0]) (hl : L.length + 1 ≤ 2 ^ 40) : WD X K.show_writer_node_1 [.ptr b 0] h o t st L [[124]] := by
  obtain ⟨h1, d1, g1, r1⟩ := wPut W r [[124]] (by simp) (by simp; omega) (st2 := 2)
  refine ⟨h1, _, ?_, g1, r1⟩
  refine fn_any W.node1 (by simp [A.show_writer_node_1]) fun wf => ?_
  simp [A.show_writer_node_1, hb, V.cells, fillL]
  refine ecall (d1.to ?_)
  simp
theorem wNode (W : LWr X) (T : TOk t) : ∀ f, NodeD X t f
  | 0, h, o, st, L, n, r, hn, hl, hb => by omega
  | f + 1, h, o, st, L, n, r, hn, hl, hb => by
    have nd := wNode W T f
    obtain ⟨e, ob, m⟩ := id r.ob
    have hg : (t.nodes.map ndV).getD n .undef = ndV t.nodes[n] := Enc.getD hl
    have hl' : (n : Int) < t.nodes.length := by omega
    have tk : tokW t (f + 1) n = if t.nodes[n].kind = 6 then [t.nodes[n].name] else if t.nodes[n].kind = 7 then [39 :: (t.nodes[n].name ++ [39])]
      else if t.nodes[n].kind = 1 then eachW [] (itemW t (tokW t f)) t.nodes[n].kids
      else if t.nodes[n].kind = 2 then eachW [[124]] (altW t (tokW t f)) t.nodes[n].kids
      else atomW t (tokW t f) (t.nodes[n].kids.getD 0 0) ++ [markW t.nodes[n].kind] := by
      rw [tokW]; simp [hl]
    have hlt := T.lt n hl
    have hnm := T.nm _ (List.getElem_mem hl)
    have hks := T.ks _ (List.getElem_mem hl)
    have hkd := T.kd _ (List.getElem_mem hl)
    have hn1 := T.n1
    rw [tk] at hb ⊢
    have hx' : ndV t.nodes[n] = .agg [.int .i64 t.nodes[n].kind, .str t.nodes[n].name, .sl 1 0 (ints t.nodes[n].kids)] := rfl
    rw [hx'] at hg
    generalize t.nodes[n].kind = kind at *
    generalize t.nodes[n].name = name at *
    generalize t.nodes[n].kids = kids at *
    have q1 : ¬ o = h.nobj := by have := r.lt; omega
    have q2 : ¬ o = h.nobj + 1 := by have := r.lt; omega
    have q3 : ¬ h.nobj = o := fun e => q1 e.symm
    have q4 : ¬ h.nobj + 1 = o := fun e => q2 e.symm
    generalize hA : (h.new [.ptr o 0]).new [.int .i64 kind, .str name, .sl 1 0 (ints kids)] = hA'
    have gA : SWE h hA' o st st := by rw [← hA]; exact ((SWE.refl h o st).new _).new _
    have rA : WrO hA' o t st L := by rw [← hA]; exact (r.new _).new _
    have oB : hA'.objs h.nobj = [.ptr o 0] := by rw [← hA]; simp
    have oC : hA'.objs (h.nobj + 1) = [.int .i64 kind, .str name, .sl 1 0 (ints kids)] := by rw [← hA]; simp
    have nA : hA'.nobj = h.nobj + 2 := by rw [← hA]; simp
    have kidN : ∀ k ∈ kids, ∃ m : Nat, k = (m : Int) ∧ m < f ∧ m < t.nodes.length := fun k hk => by
      obtain ⟨a, b⟩ := hlt k hk
      exact ⟨k.toNat, by omega, by omega, by omega⟩
    by_cases c6 : kind = 6
    · subst c6
      rw [if_pos rfl] at hb ⊢
      obtain ⟨h1, d1, g1, r1⟩ := wPut W rA [name] (by simp) (by simpa using hb) (st2 := 2)
      refine ⟨h1, _, ?_, gA.trans g1, r1⟩
      refine fn_any W.node (by simp [A.show_writer_node]) fun wf => ?_
      simp [A.show_writer_node, ob, hl', hg, V.cells, V.good, setAt, fillL, q1, q2, q3, q4]
      rw [hA]
      refine ecall (d1.to ?_)
      simp
    rw [if_neg c6] at hb ⊢
    by_cases c7 : kind = 7
    · subst c7
      rw [if_pos rfl] at hb ⊢
      obtain ⟨h1, d1, g1, r1⟩ := wPut W rA [39 :: (name ++ [39])] (by simp) (by simpa using hb) (st2 := 2)
      refine ⟨h1, _, ?_, gA.trans g1, r1⟩
      refine fn_any W.node (by simp [A.show_writer_node]) fun wf => ?_
      simp [A.show_writer_node, ob, hl', hg, V.cells, V.good, setAt, fillL, q1, q2, q3, q4]
      rw [hA]
      refine ⟨by omega, by omega, ?_⟩
      refine ecall (d1.to ?_)
      simp
    rw [if_neg c7] at hb ⊢
    by_cases c1 : kind = 1
    · subst c1
      rw [if_pos rfl] at hb ⊢
      obtain ⟨h1, st1, d1, g1, r1⟩ := wEach W rA (kids := kids) (sk := 0) (k1 := K.show_writer_item) hks (fun h' st' L' i hi g w hb' => by
        obtain ⟨m, e1, e2, e3⟩ := kidN _ (List.getElem_mem hi)
        rw [e1] at hb' ⊢
        exact wItem W nd w e2 e3 hb') (.inl ⟨rfl, rfl⟩) hb
      refine ⟨h1, _, ?_, gA.trans g1, r1⟩
      refine fn_any W.node (by simp [A.show_writer_node]) fun wf => ?_
      simp [A.show_writer_node, ob, hl', hg, V.cells, V.good, setAt, fillL, q1, q2, q3, q4]
      rw [hA]
      refine ecall (d1.to ?_)
      simp
    rw [if_neg c1] at hb ⊢
    by_cases c2 : kind = 2
    · subst c2
      rw [if_pos rfl] at hb ⊢
      obtain ⟨h1, st1, d1, g1, r1⟩ := wEach W rA (kids := kids) (sk := 0) (k1 := K.show_writer_alternative) hks (fun h' st' L' i hi g w hb' => by
        obtain ⟨m, e1, e2, e3⟩ := kidN _ (List.getElem_mem hi)
        rw [e1] at hb' ⊢
        exact wAlt W nd w e2 e3 hb') (.inr ⟨K.show_writer_node_1, [.ptr h.nobj 0], rfl, fun h' st' L' g w hb' => wNode1 W w (by rw [g.objs _ (by omega) q3]; exact oB) (by simpa using hb')⟩) hb
      refine ⟨h1, _, ?_, gA.trans g1, r1⟩
      refine fn_any W.node (by simp [A.show_writer_node]) fun wf => ?_
      simp [A.show_writer_node, ob, hl', hg, V.cells, V.good, setAt, fillL, q1, q2, q3, q4]
      rw [hA]
      refine ecall (d1.to ?_)
      simp
    rw [if_neg c2] at hb ⊢
    obtain ⟨k3, k5, k1⟩ : 3 ≤ kind ∧ kind ≤ 5 ∧ kids.length = 1 := by omega
    obtain ⟨k, rfl⟩ := List.length_eq_one_iff.1 k1
    obtain ⟨m, rfl, e2, e3⟩ := kidN k (by simp)
    simp only [List.getD_cons_zero] at hb ⊢
    rw [List.length_append] at hb
    obtain ⟨h1, st1, d1, g1, r1⟩ := wAtom W nd rA e2 e3 (by omega)
    obtain ⟨h2, d2, g2, r2⟩ := wPut W r1 [markW kind] (by simp) (by rw [List.length_append]; omega) (st2 := 2)
    refine ⟨h2, _, ?_, gA.trans (g1.trans g2), by simpa using r2⟩
    refine fn_any W.node (by simp [A.show_writer_node]) fun wf => ?_
    simp [A.show_writer_node, ob, hl', hg, V.cells, V.good, setAt, fillL, q1, q2, q3, q4, c6, c7, c1, c2]
    rw [hA]
    refine ecall (wRep W kind ?_)
    have oB1 : h1.objs h.nobj = [.ptr o 0] := by rw [g1.objs _ (by omega) q3]; exact oB
    simp [oB, oC, ints, V.cells]
    refine dcallE _ _ d1 ?_
    simp [oB1, fillL]
    refine ecall (d2.to ?_)
    simp
end
end Go.Proofs.Ytdbbgkdepjidjaa.Al
namespace Go.Proofs.Ytdbbgkdepjidjaa.Al
def A.probatelaw07_ShowOne : AFn := ⟨97, [(4, none)], (.seq (.reg [⟨(some 4), none, .mv (.c (.bool false))⟩])
  (.keep [0, 1] (.seq (.seq (.reg [⟨(some 20), none, .call (.c (.fn K.probatelaw07_awake [] [])) []⟩, ⟨(some 21), none, .un .not (.t 20)⟩])
  (.keep [0, 1, 21] (.cond (.t 21) (.seq (.reg [⟨(some 4), none, .mv (.c (.bool false))⟩]) .ret) .skip)))
  (.keep [0, 1] (.seq (.seq (.reg [⟨(some 22), none, .mv (.t 0)⟩, ⟨(some 23), none, .len true (.t 22)⟩, ⟨(some 24), none, .bin .gtr (.t 23) (.c (.int .i64 (1000)))⟩, ⟨(some 25), none, .mv (.t 24)⟩, ⟨(some 26), (some (25, false)), .mv (.t 1)⟩, ⟨(some 27), (some (25, false)), .len true (.t 26)⟩, ⟨(some 28), (some (25, false)), .bin .gtr (.t 27) (.c (.int .i64 (1000)))⟩, ⟨(some 29), none, .pick (.t 25) (.c (.bool true)) (.t 28)⟩])
  (.keep [0, 1, 29] (.cond (.t 29) (.seq (.reg [⟨(some 4), none, .mv (.c (.bool true))⟩]) .ret) .skip)))
  (.keep [0, 1] (.seq (.reg [⟨(some 31), none, .mv (.t 0)⟩, ⟨(some 32), none, .call (.c (.fn K.rules_Read [] [])) [(.t 31)]⟩, ⟨(some 30), none, .mv (.t 32)⟩, ⟨(some 33), none, .ext (.t 30) 0⟩, ⟨(some 34), none, .ext (.t 30) 1⟩, ⟨(some 35), none, .ext (.t 30) 2⟩, ⟨(some 5), none, .alloc [(.sl 0 1 []), (.sl 0 1 [])]⟩, ⟨none, none, .store 2 (.t 5) (.t 33)⟩, ⟨(some 6), none, .mv (.t 34)⟩, ⟨(some 7), none, .mv (.t 35)⟩])
  (.keep [1, 5, 7] (.seq (.reg [⟨(some 37), none, .mv (.t 1)⟩, ⟨(some 38), none, .call (.c (.fn K.rules_Read [] [])) [(.t 37)]⟩, ⟨(some 36), none, .mv (.t 38)⟩, ⟨(some 39), none, .ext (.t 36) 0⟩, ⟨(some 40), none, .ext (.t 36) 1⟩, ⟨(some 41), none, .ext (.t 36) 2⟩, ⟨(some 8), none, .alloc [(.sl 0 1 []), (.sl 0 1 [])]⟩, ⟨none, none, .store 2 (.t 8) (.t 39)⟩, ⟨(some 9), none, .mv (.t 40)⟩, ⟨(some 10), none, .mv (.t 41)⟩])
  (.keep [5, 7, 8, 10] (.seq (.seq (.reg [⟨(some 42), none, .mv (.t 7)⟩, ⟨(some 43), none, .bin .neq (.t 42) (.c (.int .i64 (0)))⟩])
  (.keep [5, 8, 10, 43] (.cond (.t 43) (.seq (.reg [⟨(some 4), none, .mv (.c (.bool true))⟩]) .ret) .skip)))
  (.keep [5, 8, 10] (.seq (.reg [⟨(some 45), none, .load true 2 (.t 5)⟩, ⟨(some 46), none, .call (.c (.fn K.show_Text [] [])) [(.t 45)]⟩, ⟨(some 44), none, .mv (.t 46)⟩, ⟨(some 47), none, .ext (.t 44) 0⟩, ⟨(some 48), none, .ext (.t 44) 1⟩, ⟨(some 11), none, .mv (.t 47)⟩, ⟨(some 12), none, .mv (.t 48)⟩])
  (.keep [5, 8, 10, 11, 12] (.seq (.seq (.reg [⟨(some 49), none, .mv (.t 12)⟩, ⟨(some 50), none, .bin .neq (.t 49) (.c (.int .i64 (0)))⟩])
  (.keep [5, 8, 10, 11, 12, 50] (.cond (.t 50) (.seq (.reg [⟨(some 51), none, .mv (.t 12)⟩, ⟨(some 52), none, .bin .eql (.t 51) (.c (.int .i64 (5)))⟩, ⟨(some 4), none, .mv (.t 52)⟩]) .ret) .skip)))
  (.keep [5, 8, 10, 11] (.seq (.reg [⟨(some 54), none, .mv (.t 11)⟩, ⟨(some 55), none, .call (.c (.fn K.rules_Read [] [])) [(.t 54)]⟩, ⟨(some 53), none, .mv (.t 55)⟩, ⟨(some 56), none, .ext (.t 53) 0⟩, ⟨(some 57), none, .ext (.t 53) 1⟩, ⟨(some 58), none, .ext (.t 53) 2⟩, ⟨(some 13), none, .alloc [(.sl 0 1 []), (.sl 0 1 [])]⟩, ⟨none, none, .store 2 (.t 13) (.t 56)⟩, ⟨(some 14), none, .mv (.t 57)⟩, ⟨(some 15), none, .mv (.t 58)⟩])
  (.keep [5, 8, 10, 11, 13, 15] (.seq (.reg [⟨(some 60), none, .load true 2 (.t 13)⟩, ⟨(some 61), none, .call (.c (.fn K.show_Text [] [])) [(.t 60)]⟩, ⟨(some 59), none, .mv (.t 61)⟩, ⟨(some 62), none, .ext (.t 59) 0⟩, ⟨(some 63), none, .ext (.t 59) 1⟩, ⟨(some 16), none, .mv (.t 62)⟩, ⟨(some 17), none, .mv (.t 63)⟩])
  (.keep [5, 8, 10, 11, 15, 16, 17] (.seq (.reg [⟨(some 65), none, .load true 2 (.t 8)⟩, ⟨(some 66), none, .call (.c (.fn K.show_Text [] [])) [(.t 65)]⟩, ⟨(some 64), none, .mv (.t 66)⟩, ⟨(some 67), none, .ext (.t 64) 0⟩, ⟨(some 68), none, .ext (.t 64) 1⟩, ⟨(some 18), none, .mv (.t 67)⟩, ⟨(some 19), none, .mv (.t 68)⟩])
  (.keep [5, 8, 10, 11, 15, 16, 17, 18, 19] (.seq (.reg [⟨(some 69), none, .mv (.t 15)⟩, ⟨(some 70), none, .bin .eql (.t 69) (.c (.int .i64 (0)))⟩, ⟨(some 71), none, .mv (.t 70)⟩, ⟨(some 72), (some (71, true)), .mv (.t 17)⟩, ⟨(some 73), (some (71, true)), .bin .eql (.t 72) (.c (.int .i64 (0)))⟩, ⟨(some 74), none, .pick (.t 71) (.t 73) (.c (.bool false))⟩, ⟨(some 75), none, .mv (.t 74)⟩, ⟨(some 76), (some (75, true)), .mv (.t 16)⟩, ⟨(some 77), (some (75, true)), .mv (.t 11)⟩, ⟨(some 78), (some (75, true)), .bin .eql (.t 76) (.t 77)⟩, ⟨(some 79), none, .pick (.t 75) (.t 78) (.c (.bool false))⟩, ⟨(some 80), none, .mv (.t 79)⟩, ⟨(some 81), (some (80, true)), .mv (.t 10)⟩, ⟨(some 82), (some (80, true)), .bin .neq (.t 81) (.c (.int .i64 (0)))⟩, ⟨(some 83), (some (80, true)), .mv (.t 82)⟩, ⟨(some 84), (some (83, false)), .mv (.t 19)⟩, ⟨(some 85), (some (83, false)), .bin .neq (.t 84) (.c (.int .i64 (0)))⟩, ⟨(some 86), (some (80, true)), .pick (.t 83) (.c (.bool true)) (.t 85)⟩, ⟨(some 87), (some (80, true)), .mv (.t 86)⟩, ⟨(some 88), (some (87, false)), .mv (.t 11)⟩, ⟨(some 89), (some (87, false)), .mv (.t 18)⟩, ⟨(some 90), (some (87, false)), .bin .eql (.t 88) (.t 89)⟩, ⟨(some 91), (some (87, false)), .load true 2 (.t 5)⟩, ⟨(some 92), (some (87, false)), .load true 2 (.t 8)⟩, ⟨(some 93), (some (87, false)), .call (.c (.fn K.rules_Same [] [])) [(.t 91), (.t 92)]⟩, ⟨(some 94), (some (87, false)), .beq false (.t 90) (.t 93)⟩, ⟨(some 95), (some (80, true)), .pick (.t 87) (.c (.bool true)) (.t 94)⟩, ⟨(some 96), none, .pick (.t 80) (.t 95) (.c (.bool false))⟩, ⟨(some 4), none, .mv (.t 96)⟩]) .ret)))))))))))))))))))))))⟩
def A.probatelaw07_awake : AFn := ⟨78, [(0, none)], (.seq (.reg [⟨(some 0), none, .mv (.c (.bool false))⟩])
  (.keep [] (.seq (.reg [⟨(some 10), none, .bld [(.str []), (.int .i64 (0))] [(0, 1, (.c (.str [115]))), (1, 1, (.c (.int .i64 (5))))]⟩, ⟨(some 11), none, .bsl 2 true [(.str []), (.int .i64 (0))] 1 [(0, (.t 10))]⟩, ⟨(some 12), none, .bld [(.int .i64 (0)), (.str []), (.sl 0 1 [])] [(0, 1, (.c (.int .i64 (7)))), (1, 1, (.c (.str [97])))]⟩, ⟨(some 13), none, .bld [(.int .i64 (0)), (.str []), (.sl 0 1 [])] [(0, 1, (.c (.int .i64 (6)))), (1, 1, (.c (.str [115])))]⟩, ⟨(some 14), none, .bsl 1 false [(.int .i64 (0))] 2 [(0, (.c (.int .i64 (0)))), (1, (.c (.int .i64 (1))))]⟩, ⟨(some 15), none, .bld [(.int .i64 (0)), (.str []), (.sl 0 1 [])] [(0, 1, (.c (.int .i64 (1)))), (2, 1, (.t 14))]⟩, ⟨(some 16), none, .bsl 1 false [(.int .i64 (0))] 1 [(0, (.c (.int .i64 (2))))]⟩, ⟨(some 17), none, .bld [(.int .i64 (0)), (.str []), (.sl 0 1 [])] [(0, 1, (.c (.int .i64 (3)))), (2, 1, (.t 16))]⟩, ⟨(some 18), none, .bld [(.int .i64 (0)), (.str []), (.sl 0 1 [])] [(0, 1, (.c (.int .i64 (1))))]⟩, ⟨(some 19), none, .bsl 1 false [(.int .i64 (0))] 2 [(0, (.c (.int .i64 (3)))), (1, (.c (.int .i64 (4))))]⟩, ⟨(some 20), none, .bld [(.int .i64 (0)), (.str []), (.sl 0 1 [])] [(0, 1, (.c (.int .i64 (2)))), (2, 1, (.t 19))]⟩, ⟨(some 21), none, .bsl 3 true [(.int .i64 (0)), (.str []), (.sl 0 1 [])] 6 [(0, (.t 12)), (1, (.t 13)), (2, (.t 15)), (3, (.t 17)), (4, (.t 18)), (5, (.t 20))]⟩, ⟨(some 22), none, .bld [(.sl 0 1 []), (.sl 0 1 [])] [(0, 1, (.t 11)), (1, 1, (.t 21))]⟩, ⟨(some 1), none, .alloc [(.sl 0 1 []), (.sl 0 1 [])]⟩, ⟨none, none, .store 2 (.t 1) (.t 22)⟩])
  (.keep [1] (.seq (.reg [⟨(some 24), none, .load true 2 (.t 1)⟩, ⟨(some 25), none, .call (.c (.fn K.show_Text [] [])) [(.t 24)]⟩, ⟨(some 23), none, .mv (.t 25)⟩, ⟨(some 26), none, .ext (.t 23) 0⟩, ⟨(some 27), none, .ext (.t 23) 1⟩, ⟨(some 2), none, .mv (.t 26)⟩, ⟨(some 3), none, .mv (.t 27)⟩])
  (.keep [1, 2, 3] (.seq (.reg [⟨(some 29), none, .load true 2 (.t 1)⟩, ⟨(some 30), none, .call (.c (.fn K.show_Tokens [] [])) [(.t 29), (.c (.int .i64 (0)))]⟩, ⟨(some 28), none, .mv (.t 30)⟩, ⟨(some 31), none, .ext (.t 28) 0⟩, ⟨(some 32), none, .ext (.t 28) 1⟩, ⟨(some 4), none, .mv (.t 31)⟩, ⟨(some 5), none, .mv (.t 32)⟩])
  (.keep [1, 2, 3, 4, 5] (.seq (.reg [⟨(some 34), none, .bld [(.sl 0 1 []), (.sl 0 1 [])] []⟩, ⟨(some 35), none, .call (.c (.fn K.show_Text [] [])) [(.t 34)]⟩, ⟨(some 33), none, .mv (.t 35)⟩, ⟨(some 36), none, .ext (.t 33) 0⟩, ⟨(some 37), none, .ext (.t 33) 1⟩, ⟨(some 6), none, .mv (.t 36)⟩, ⟨(some 7), none, .mv (.t 37)⟩])
  (.keep [1, 2, 3, 4, 5, 7] (.seq (.reg [⟨(some 39), none, .load true 2 (.t 1)⟩, ⟨(some 40), none, .call (.c (.fn K.show_Tokens [] [])) [(.t 39), (.c (.int .i64 (1)))]⟩, ⟨(some 38), none, .mv (.t 40)⟩, ⟨(some 41), none, .ext (.t 38) 0⟩, ⟨(some 42), none, .ext (.t 38) 1⟩, ⟨(some 8), none, .mv (.t 41)⟩, ⟨(some 9), none, .mv (.t 42)⟩])
  (.keep [2, 3, 4, 5, 7, 9] (.seq (.reg [⟨(some 43), none, .mv (.t 2)⟩, ⟨(some 44), none, .bin .eql (.t 43) (.c (.str [115, 32, 58, 32, 40, 32, 39, 97, 39, 32, 115, 32, 41, 32, 42, 32, 124, 32, 59, 10]))⟩, ⟨(some 45), none, .mv (.t 44)⟩, ⟨(some 46), (some (45, true)), .mv (.t 3)⟩, ⟨(some 47), (some (45, true)), .bin .eql (.t 46) (.c (.int .i64 (0)))⟩, ⟨(some 48), none, .pick (.t 45) (.t 47) (.c (.bool false))⟩, ⟨(some 49), none, .mv (.t 48)⟩, ⟨(some 50), (some (49, true)), .mv (.t 4)⟩, ⟨(some 51), (some (49, true)), .len false (.t 50)⟩, ⟨(some 52), (some (49, true)), .bin .eql (.t 51) (.c (.int .i64 (6)))⟩, ⟨(some 53), none, .pick (.t 49) (.t 52) (.c (.bool false))⟩, ⟨(some 54), none, .mv (.t 53)⟩, ⟨(some 55), (some (54, true)), .mv (.t 4)⟩, ⟨(some 56), (some (54, true)), .ia 1 (.t 55) (.c (.int .i64 (0)))⟩, ⟨(some 57), (some (54, true)), .load false 1 (.t 56)⟩, ⟨(some 58), (some (54, true)), .bin .eql (.t 57) (.c (.str [40]))⟩, ⟨(some 59), none, .pick (.t 54) (.t 58) (.c (.bool false))⟩, ⟨(some 60), none, .mv (.t 59)⟩, ⟨(some 61), (some (60, true)), .mv (.t 4)⟩, ⟨(some 62), (some (60, true)), .ia 1 (.t 61) (.c (.int .i64 (5)))⟩, ⟨(some 63), (some (60, true)), .load false 1 (.t 62)⟩, ⟨(some 64), (some (60, true)), .bin .eql (.t 63) (.c (.str [124]))⟩, ⟨(some 65), none, .pick (.t 60) (.t 64) (.c (.bool false))⟩, ⟨(some 66), none, .mv (.t 65)⟩, ⟨(some 67), (some (66, true)), .mv (.t 5)⟩, ⟨(some 68), (some (66, true)), .bin .eql (.t 67) (.c (.int .i64 (0)))⟩, ⟨(some 69), none, .pick (.t 66) (.t 68) (.c (.bool false))⟩, ⟨(some 70), none, .mv (.t 69)⟩, ⟨(some 71), (some (70, true)), .mv (.t 7)⟩, ⟨(some 72), (some (70, true)), .bin .eql (.t 71) (.c (.int .i64 (1)))⟩, ⟨(some 73), none, .pick (.t 70) (.t 72) (.c (.bool false))⟩, ⟨(some 74), none, .mv (.t 73)⟩, ⟨(some 75), (some (74, true)), .mv (.t 9)⟩, ⟨(some 76), (some (74, true)), .bin .eql (.t 75) (.c (.int .i64 (11)))⟩, ⟨(some 77), none, .pick (.t 74) (.t 76) (.c (.bool false))⟩, ⟨(some 0), none, .mv (.t 77)⟩]) .ret)))))))))))))⟩
def A.probateref07_Text.L1 : AC := .post (.seq (.seq (.reg [⟨(some 35), none, .mv (.t 7)⟩, ⟨(some 36), none, .mv (.t 6)⟩, ⟨(some 37), none, .len false (.t 36)⟩, ⟨(some 38), none, .bin .lss (.t 35) (.t 37)⟩])
  (.keep [1, 4, 5, 6, 7, 38] (.cond (.t 38) .skip (.exit 2))))
  (.keep [1, 4, 5, 6, 7] (.seq (.block 3 (.reg [⟨(some 41), none, .mv (.t 4)⟩, ⟨(some 42), none, .bin .add (.t 41) (.c (.str [32]))⟩, ⟨(some 43), none, .mv (.t 6)⟩, ⟨(some 44), none, .mv (.t 7)⟩, ⟨(some 45), none, .ia 1 (.t 43) (.t 44)⟩, ⟨(some 46), none, .load false 1 (.t 45)⟩, ⟨(some 47), none, .bin .add (.t 42) (.t 46)⟩, ⟨(some 4), none, .mv (.t 47)⟩]))
  (.keep [1, 4, 5, 6, 7] (.reg [⟨(some 39), none, .mv (.t 7)⟩, ⟨(some 40), none, .bin .add (.t 39) (.c (.int .i64 (1)))⟩, ⟨(some 7), none, .mv (.t 40)⟩]))))) [1, 4, 5, 6, 7]
def A.probateref07_Text.L0 : AC := .post (.seq (.seq (.reg [⟨(some 11), none, .mv (.t 5)⟩, ⟨(some 12), none, .fa 0 (.t 1)⟩, ⟨(some 13), none, .load false 1 (.t 12)⟩, ⟨(some 14), none, .len false (.t 13)⟩, ⟨(some 15), none, .bin .lss (.t 11) (.t 14)⟩])
  (.keep [1, 4, 5, 15] (.cond (.t 15) .skip (.exit 0))))
  (.keep [1, 4, 5] (.seq (.block 1 (.seq (.reg [⟨(some 18), none, .mv (.t 4)⟩, ⟨(some 19), none, .fa 0 (.t 1)⟩, ⟨(some 20), none, .load false 1 (.t 19)⟩, ⟨(some 21), none, .mv (.t 5)⟩, ⟨(some 22), none, .ia 2 (.t 20) (.t 21)⟩, ⟨(some 23), none, .fa 0 (.t 22)⟩, ⟨(some 24), none, .load false 1 (.t 23)⟩, ⟨(some 25), none, .bin .add (.t 18) (.t 24)⟩, ⟨(some 26), none, .bin .add (.t 25) (.c (.str [32, 58]))⟩, ⟨(some 4), none, .mv (.t 26)⟩])
  (.keep [1, 4, 5] (.seq (.draw [(.pl, ⟨(some 27), none, .load true 2 (.t 1)⟩), (.pl, ⟨(some 28), none, .fa 0 (.t 1)⟩), (.pl, ⟨(some 29), none, .load false 1 (.t 28)⟩), (.pl, ⟨(some 30), none, .mv (.t 5)⟩), (.pl, ⟨(some 31), none, .ia 2 (.t 29) (.t 30)⟩), (.pl, ⟨(some 32), none, .fa 1 (.t 31)⟩), (.pl, ⟨(some 33), none, .load false 1 (.t 32)⟩), (.eff, ⟨(some 34), none, .call (.c (.fn K.probateref07_Node [] [])) [(.t 27), (.t 33)]⟩), (.pl, ⟨(some 6), none, .mv (.t 34)⟩)])
  (.keep [1, 4, 5, 6] (.seq (.seq (.reg [⟨(some 7), none, .mv (.c (.int .i64 (0)))⟩])
  (.keep [1, 4, 5, 6, 7] (.block 2 (.loop A.probateref07_Text.L1))))
  (.keep [1, 4, 5] (.reg [⟨(some 48), none, .mv (.t 4)⟩, ⟨(some 49), none, .bin .add (.t 48) (.c (.str [32, 59, 10]))⟩, ⟨(some 4), none, .mv (.t 49)⟩]))))))))
  (.keep [1, 4, 5] (.reg [⟨(some 16), none, .mv (.t 5)⟩, ⟨(some 17), none, .bin .add (.t 16) (.c (.int .i64 (1)))⟩, ⟨(some 5), none, .mv (.t 17)⟩]))))) [1, 4, 5]
def A.probateref07_Text : AFn := ⟨54, [(2, none), (3, none)], (.seq (.reg [⟨(some 1), none, .box (.t 0)⟩, ⟨(some 2), none, .mv (.c (.str []))⟩, ⟨(some 3), none, .mv (.c (.int .i64 (0)))⟩])
  (.keep [1] (.seq (.seq (.reg [⟨(some 8), none, .load true 2 (.t 1)⟩, ⟨(some 9), none, .call (.c (.fn K.probateref06_Right [] [])) [(.t 8)]⟩, ⟨(some 10), none, .un .not (.t 9)⟩])
  (.keep [1, 10] (.cond (.t 10) (.seq (.reg [⟨(some 2), none, .mv (.c (.str []))⟩, ⟨(some 3), none, .mv (.c (.int .i64 (1)))⟩]) .ret) .skip)))
  (.keep [1] (.seq (.reg [⟨(some 4), none, .mv (.c (.str []))⟩])
  (.keep [1, 4] (.seq (.seq (.reg [⟨(some 5), none, .mv (.c (.int .i64 (0)))⟩])
  (.keep [1, 4, 5] (.block 0 (.loop A.probateref07_Text.L0))))
  (.keep [4] (.seq (.seq (.reg [⟨(some 50), none, .mv (.t 4)⟩, ⟨(some 51), none, .len true (.t 50)⟩, ⟨(some 52), none, .bin .gtr (.t 51) (.c (.int .i64 (4000)))⟩])
  (.keep [4, 52] (.cond (.t 52) (.seq (.reg [⟨(some 2), none, .mv (.c (.str []))⟩, ⟨(some 3), none, .mv (.c (.int .i64 (5)))⟩]) .ret) .skip)))
  (.keep [4] (.seq (.reg [⟨(some 53), none, .mv (.t 4)⟩, ⟨(some 2), none, .mv (.t 53)⟩, ⟨(some 3), none, .mv (.c (.int .i64 (0)))⟩]) .ret)))))))))))⟩
def A.probateref07_Node.L0 : AC := .post (.seq (.seq (.reg [⟨(some 61), none, .mv (.t 7)⟩, ⟨(some 62), none, .fa 2 (.t 5)⟩, ⟨(some 63), none, .load false 1 (.t 62)⟩, ⟨(some 64), none, .len false (.t 63)⟩, ⟨(some 65), none, .bin .lss (.t 61) (.t 64)⟩])
  (.keep [2, 5, 6, 7, 65] (.cond (.t 65) .skip (.exit 1))))
  (.keep [2, 5, 6, 7] (.seq (.block 2 (.draw [(.pl, ⟨(some 68), none, .mv (.t 6)⟩), (.pl, ⟨(some 69), none, .load true 2 (.t 2)⟩), (.pl, ⟨(some 70), none, .fa 2 (.t 5)⟩), (.pl, ⟨(some 71), none, .load false 1 (.t 70)⟩), (.pl, ⟨(some 72), none, .mv (.t 7)⟩), (.pl, ⟨(some 73), none, .ia 1 (.t 71) (.t 72)⟩), (.pl, ⟨(some 74), none, .load false 1 (.t 73)⟩), (.eff, ⟨(some 75), none, .call (.c (.fn K.probateref07_item [] [])) [(.t 69), (.t 74), (.c (.bool true))]⟩), (.eff, ⟨(some 76), none, .app 1 16 (.t 68) (.t 75)⟩), (.pl, ⟨(some 6), none, .mv (.t 76)⟩)]))
  (.keep [2, 5, 6, 7] (.reg [⟨(some 66), none, .mv (.t 7)⟩, ⟨(some 67), none, .bin .add (.t 66) (.c (.int .i64 (1)))⟩, ⟨(some 7), none, .mv (.t 67)⟩]))))) [2, 5, 6, 7]
def A.probateref07_Node.L1 : AC := .post (.seq (.seq (.reg [⟨(some 79), none, .mv (.t 8)⟩, ⟨(some 80), none, .fa 2 (.t 5)⟩, ⟨(some 81), none, .load false 1 (.t 80)⟩, ⟨(some 82), none, .len false (.t 81)⟩, ⟨(some 83), none, .bin .lss (.t 79) (.t 82)⟩])
  (.keep [2, 5, 6, 8, 83] (.cond (.t 83) .skip (.exit 3))))
  (.keep [2, 5, 6, 8] (.seq (.block 4 (.seq (.seq (.reg [⟨(some 86), none, .mv (.t 8)⟩, ⟨(some 87), none, .bin .gtr (.t 86) (.c (.int .i64 (0)))⟩])
  (.keep [2, 5, 6, 8, 87] (.cond (.t 87) (.reg [⟨(some 88), none, .mv (.t 6)⟩, ⟨(some 89), none, .bsl 1 false [(.str [])] 1 [(0, (.c (.str [124])))]⟩, ⟨(some 90), none, .app 1 16 (.t 88) (.t 89)⟩, ⟨(some 6), none, .mv (.t 90)⟩]) .skip)))
  (.keep [2, 5, 6, 8] (.seq (.draw [(.pl, ⟨(some 91), none, .fa 1 (.t 2)⟩), (.pl, ⟨(some 92), none, .load false 1 (.t 91)⟩), (.pl, ⟨(some 93), none, .fa 2 (.t 5)⟩), (.pl, ⟨(some 94), none, .load false 1 (.t 93)⟩), (.pl, ⟨(some 95), none, .mv (.t 8)⟩), (.pl, ⟨(some 96), none, .ia 1 (.t 94) (.t 95)⟩), (.pl, ⟨(some 97), none, .load false 1 (.t 96)⟩), (.pl, ⟨(some 98), none, .ia 3 (.t 92) (.t 97)⟩), (.pl, ⟨(some 99), none, .fa 0 (.t 98)⟩), (.pl, ⟨(some 100), none, .load false 1 (.t 99)⟩), (.pl, ⟨(some 101), none, .bin .eql (.t 100) (.c (.int .i64 (1)))⟩)])
  (.keep [2, 5, 6, 8, 101] (.cond (.t 101) (.draw [(.pl, ⟨(some 102), none, .mv (.t 6)⟩), (.pl, ⟨(some 103), none, .load true 2 (.t 2)⟩), (.pl, ⟨(some 104), none, .fa 2 (.t 5)⟩), (.pl, ⟨(some 105), none, .load false 1 (.t 104)⟩), (.pl, ⟨(some 106), none, .mv (.t 8)⟩), (.pl, ⟨(some 107), none, .ia 1 (.t 105) (.t 106)⟩), (.pl, ⟨(some 108), none, .load false 1 (.t 107)⟩), (.eff, ⟨(some 109), none, .call (.c (.fn K.probateref07_Node [] [])) [(.t 103), (.t 108)]⟩), (.eff, ⟨(some 110), none, .app 1 16 (.t 102) (.t 109)⟩), (.pl, ⟨(some 6), none, .mv (.t 110)⟩)]) (.draw [(.pl, ⟨(some 111), none, .mv (.t 6)⟩), (.pl, ⟨(some 112), none, .load true 2 (.t 2)⟩), (.pl, ⟨(some 113), none, .fa 2 (.t 5)⟩), (.pl, ⟨(some 114), none, .load false 1 (.t 113)⟩), (.pl, ⟨(some 115), none, .mv (.t 8)⟩), (.pl, ⟨(some 116), none, .ia 1 (.t 114) (.t 115)⟩), (.pl, ⟨(some 117), none, .load false 1 (.t 116)⟩), (.eff, ⟨(some 118), none, .call (.c (.fn K.probateref07_item [] [])) [(.t 112), (.t 117), (.c (.bool true))]⟩), (.eff, ⟨(some 119), none, .app 1 16 (.t 111) (.t 118)⟩), (.pl, ⟨(some 6), none, .mv (.t 119)⟩)])))))))
  (.keep [2, 5, 6, 8] (.reg [⟨(some 84), none, .mv (.t 8)⟩, ⟨(some 85), none, .bin .add (.t 84) (.c (.int .i64 (1)))⟩, ⟨(some 8), none, .mv (.t 85)⟩]))))) [2, 5, 6, 8]
def A.probateref07_Node : AFn := ⟨121, [(4, none)], (.seq (.reg [⟨(some 2), none, .box (.t 0)⟩, ⟨(some 4), none, .mv (.c (.sl 0 1 []))⟩])
  (.keep [1, 2] (.seq (.reg [⟨(some 9), none, .fa 1 (.t 2)⟩, ⟨(some 10), none, .load false 1 (.t 9)⟩, ⟨(some 11), none, .mv (.t 1)⟩, ⟨(some 12), none, .ia 3 (.t 10) (.t 11)⟩, ⟨(some 13), none, .load true 3 (.t 12)⟩, ⟨(some 5), none, .alloc [(.int .i64 (0)), (.str []), (.sl 0 1 [])]⟩, ⟨none, none, .store 3 (.t 5) (.t 13)⟩])
  (.keep [2, 5] (.seq (.reg [⟨(some 14), none, .bsl 1 false [(.str [])] 0 []⟩, ⟨(some 6), none, .mv (.t 14)⟩])
  (.keep [2, 5, 6] (.seq (.seq (.reg [⟨(some 15), none, .fa 0 (.t 5)⟩, ⟨(some 16), none, .load false 1 (.t 15)⟩])
  (.keep [2, 5, 6, 16] (.block 0 (.seq (.reg [⟨(some 18), none, .bin .eql (.t 16) (.c (.int .i64 (7)))⟩, ⟨(some 17), none, .mv (.t 18)⟩])
  (.keep [2, 5, 6, 16, 17] (.cond (.t 17) (.seq (.reg [⟨(some 19), none, .fa 1 (.t 5)⟩, ⟨(some 20), none, .load false 1 (.t 19)⟩, ⟨(some 21), none, .bin .add (.c (.str [39])) (.t 20)⟩, ⟨(some 22), none, .bin .add (.t 21) (.c (.str [39]))⟩, ⟨(some 23), none, .bsl 1 false [(.str [])] 1 [(0, (.t 22))]⟩, ⟨(some 4), none, .mv (.t 23)⟩]) .ret) (.seq (.reg [⟨(some 25), none, .bin .eql (.t 16) (.c (.int .i64 (6)))⟩, ⟨(some 24), none, .mv (.t 25)⟩])
  (.keep [2, 5, 6, 16, 24] (.cond (.t 24) (.seq (.reg [⟨(some 26), none, .fa 1 (.t 5)⟩, ⟨(some 27), none, .load false 1 (.t 26)⟩, ⟨(some 28), none, .bsl 1 false [(.str [])] 1 [(0, (.t 27))]⟩, ⟨(some 4), none, .mv (.t 28)⟩]) .ret) (.seq (.reg [⟨(some 30), none, .bin .eql (.t 16) (.c (.int .i64 (3)))⟩, ⟨(some 29), none, .mv (.t 30)⟩])
  (.keep [2, 5, 6, 16, 29] (.cond (.t 29) (.seq (.draw [(.pl, ⟨(some 31), none, .load true 2 (.t 2)⟩), (.pl, ⟨(some 32), none, .fa 2 (.t 5)⟩), (.pl, ⟨(some 33), none, .load false 1 (.t 32)⟩), (.pl, ⟨(some 34), none, .ia 1 (.t 33) (.c (.int .i64 (0)))⟩), (.pl, ⟨(some 35), none, .load false 1 (.t 34)⟩), (.eff, ⟨(some 36), none, .call (.c (.fn K.probateref07_item [] [])) [(.t 31), (.t 35), (.c (.bool false))]⟩), (.pl, ⟨(some 37), none, .bsl 1 false [(.str [])] 1 [(0, (.c (.str [42])))]⟩), (.eff, ⟨(some 38), none, .app 1 16 (.t 36) (.t 37)⟩), (.pl, ⟨(some 4), none, .mv (.t 38)⟩)]) .ret) (.seq (.reg [⟨(some 40), none, .bin .eql (.t 16) (.c (.int .i64 (4)))⟩, ⟨(some 39), none, .mv (.t 40)⟩])
  (.keep [2, 5, 6, 16, 39] (.cond (.t 39) (.seq (.draw [(.pl, ⟨(some 41), none, .load true 2 (.t 2)⟩), (.pl, ⟨(some 42), none, .fa 2 (.t 5)⟩), (.pl, ⟨(some 43), none, .load false 1 (.t 42)⟩), (.pl, ⟨(some 44), none, .ia 1 (.t 43) (.c (.int .i64 (0)))⟩), (.pl, ⟨(some 45), none, .load false 1 (.t 44)⟩), (.eff, ⟨(some 46), none, .call (.c (.fn K.probateref07_item [] [])) [(.t 41), (.t 45), (.c (.bool false))]⟩), (.pl, ⟨(some 47), none, .bsl 1 false [(.str [])] 1 [(0, (.c (.str [43])))]⟩), (.eff, ⟨(some 48), none, .app 1 16 (.t 46) (.t 47)⟩), (.pl, ⟨(some 4), none, .mv (.t 48)⟩)]) .ret) (.seq (.reg [⟨(some 50), none, .bin .eql (.t 16) (.c (.int .i64 (5)))⟩, ⟨(some 49), none, .mv (.t 50)⟩])
  (.keep [2, 5, 6, 16, 49] (.cond (.t 49) (.seq (.draw [(.pl, ⟨(some 51), none, .load true 2 (.t 2)⟩), (.pl, ⟨(some 52), none, .fa 2 (.t 5)⟩), (.pl, ⟨(some 53), none, .load false 1 (.t 52)⟩), (.pl, ⟨(some 54), none, .ia 1 (.t 53) (.c (.int .i64 (0)))⟩), (.pl, ⟨(some 55), none, .load false 1 (.t 54)⟩), (.eff, ⟨(some 56), none, .call (.c (.fn K.probateref07_item [] [])) [(.t 51), (.t 55), (.c (.bool false))]⟩), (.pl, ⟨(some 57), none, .bsl 1 false [(.str [])] 1 [(0, (.c (.str [63])))]⟩), (.eff, ⟨(some 58), none, .app 1 16 (.t 56) (.t 57)⟩), (.pl, ⟨(some 4), none, .mv (.t 58)⟩)]) .ret) (.seq (.reg [⟨(some 60), none, .bin .eql (.t 16) (.c (.int .i64 (1)))⟩, ⟨(some 59), none, .mv (.t 60)⟩])
  (.keep [2, 5, 6, 16, 59] (.cond (.t 59) (.seq (.reg [⟨(some 7), none, .mv (.c (.int .i64 (0)))⟩])
  (.keep [2, 5, 6, 7] (.block 1 (.loop A.probateref07_Node.L0)))) (.seq (.reg [⟨(some 78), none, .bin .eql (.t 16) (.c (.int .i64 (2)))⟩, ⟨(some 77), none, .mv (.t 78)⟩])
  (.keep [2, 5, 6, 77] (.cond (.t 77) (.seq (.reg [⟨(some 8), none, .mv (.c (.int .i64 (0)))⟩])
  (.keep [2, 5, 6, 8] (.block 3 (.loop A.probateref07_Node.L1)))) .skip))))))))))))))))))))))))
  (.keep [6] (.seq (.reg [⟨(some 120), none, .mv (.t 6)⟩, ⟨(some 4), none, .mv (.t 120)⟩]) .ret)))))))))⟩
def A.probateref07_item : AFn := ⟨30, [(6, none)], (.seq (.reg [⟨(some 3), none, .box (.t 0)⟩, ⟨(some 6), none, .mv (.c (.sl 0 1 []))⟩])
  (.keep [1, 2, 3] (.seq (.reg [⟨(some 8), none, .fa 1 (.t 3)⟩, ⟨(some 9), none, .load false 1 (.t 8)⟩, ⟨(some 10), none, .mv (.t 1)⟩, ⟨(some 11), none, .ia 3 (.t 9) (.t 10)⟩, ⟨(some 12), none, .fa 0 (.t 11)⟩, ⟨(some 13), none, .load false 1 (.t 12)⟩, ⟨(some 7), none, .mv (.t 13)⟩])
  (.keep [1, 2, 3, 7] (.seq (.seq (.reg [⟨(some 14), none, .mv (.t 7)⟩, ⟨(some 15), none, .bin .geq (.t 14) (.c (.int .i64 (6)))⟩, ⟨(some 16), none, .mv (.t 15)⟩, ⟨(some 17), (some (16, false)), .mv (.t 2)⟩, ⟨(some 18), (some (16, false)), .mv (.t 17)⟩, ⟨(some 19), (some (18, true)), .mv (.t 7)⟩, ⟨(some 20), (some (18, true)), .bin .geq (.t 19) (.c (.int .i64 (3)))⟩, ⟨(some 21), (some (16, false)), .pick (.t 18) (.t 20) (.c (.bool false))⟩, ⟨(some 22), none, .pick (.t 16) (.c (.bool true)) (.t 21)⟩])
  (.keep [1, 3, 22] (.cond (.t 22) (.seq (.reg [⟨(some 23), none, .load true 2 (.t 3)⟩, ⟨(some 24), none, .mv (.t 1)⟩, ⟨(some 25), none, .call (.c (.fn K.probateref07_Node [] [])) [(.t 23), (.t 24)]⟩, ⟨(some 6), none, .mv (.t 25)⟩]) .ret) .skip)))
  (.keep [1, 3] (.seq (.reg [⟨(some 26), none, .load true 2 (.t 3)⟩, ⟨(some 27), none, .mv (.t 1)⟩, ⟨(some 28), none, .call (.c (.fn K.probateref07_Node [] [])) [(.t 26), (.t 27)]⟩, ⟨(some 29), none, .call (.c (.fn K.probateref07_brackets [] [])) [(.t 28)]⟩, ⟨(some 6), none, .mv (.t 29)⟩]) .ret)))))))⟩
def A.probateref07_brackets : AFn := ⟨8, [(2, none)], (.seq (.reg [⟨(some 2), none, .mv (.c (.sl 0 1 []))⟩])
  (.keep [0] (.seq (.reg [⟨(some 3), none, .bsl 1 false [(.str [])] 1 [(0, (.c (.str [40])))]⟩, ⟨(some 4), none, .mv (.t 0)⟩, ⟨(some 5), none, .app 1 16 (.t 3) (.t 4)⟩, ⟨(some 6), none, .bsl 1 false [(.str [])] 1 [(0, (.c (.str [41])))]⟩, ⟨(some 7), none, .app 1 16 (.t 5) (.t 6)⟩, ⟨(some 2), none, .mv (.t 7)⟩]) .ret)))⟩
end Go.Proofs.Ytdbbgkdepjidjaa.Al
namespace Go.Proofs.Ytdbbgkdepjidjaa.Al
open Go Go.RowKit
set_option linter.unusedSimpArgs false
set_option linter.unusedVariables false
attribute [-simp] List.getD_eq_getElem?_getD Int.not_lt Int.not_le List.map_take List.map_map
structure LWrR (X : Cx) : Prop where
  brackets : Has (Ecx X) K.probateref07_brackets A.probateref07_brackets
  item : Has (Ecx X) K.probateref07_item A.probateref07_item
  node : Has (Ecx X) K.probateref07_Node A.probateref07_Node
section
variable {X : Cx} {h : AH} {t : Te} {f : Nat}
theorem Gr.trans' {h h1 h2 : AH} (a : Gr h h1) (b : Gr h1 h2) : Gr h h2 :=
  ⟨Nat.le_trans a.next b.next, Nat.le_trans a.nobj b.nobj, fun o ho => (b.objs o (Nat.lt_of_lt_of_le ho a.nobj)).trans (a.objs o ho), fun s hs => (b.tips s (Nat.lt_of_lt_of_le hs a.next)).trans (a.tips s hs)⟩
theorem Own.from {h0 h h1 : AH} {e e1 st : Nat} {l : List V} (g : Gr h0 h) (o : Own h h1 e e1 st l) : Own h0 h1 e e1 st l :=
  ⟨g.trans' o.gr, o.el, by
    rcases o.st with a | a | a
    · exact .inl a
    · exact .inr (.inl a)
    · exact .inr (.inr ⟨a.1, Nat.le_trans g.next a.2⟩)⟩
end
end Go.Proofs.Ytdbbgkdepjidjaa.Al
namespace Go.Proofs.Ytdbbgkdepjidjaa.Al
open Go Go.RowKit
set_option linter.unusedSimpArgs false
set_option linter.unusedVariables false
attribute [-simp] List.getD_eq_getElem?_getD Int.not_lt Int.not_le List.map_take
/-- What becomes of a word from a place on. -/
def appF (w : List Int) : List Ed → Nat → List Int
  | [], i => w.drop i
  | x :: l, i => (w.take x.at'.toNat).drop i ++ (if x.drop = true then appF w l (x.at'.toNat + 1) else x.tok :: appF w l x.at'.toNat)
end Go.Proofs.Ytdbbgkdepjidjaa.Al
namespace Go.Proofs.Ytdbbgkdepjidjaa.Al
open Go Go.RowKit
set_option linter.unusedSimpArgs false
set_option linter.unusedVariables false
attribute [-simp] List.getD_eq_getElem?_getD Int.not_lt Int.not_le List.map_take
/-- Objects of Apply: how many tokens were put (m), and the first 24 of them (o). -/
structure PO (h0 h : AH) (m o : Nat) (L : List Int) : Prop where
  own : ∃ e st, Own h0 h 1 e st (ints (L.take 24)) ∧ h.objs o = [.sl e st (ints (L.take 24))]
  many : h.objs m = [.int .i64 L.length]
  hm : h0.nobj ≤ m
  ho : h0.nobj ≤ o
  ne : ¬ m = o
  lm : m < h.nobj
  lo : o < h.nobj
theorem PO.new {h0 h : AH} {m o : Nat} {L : List Int} (p : PO h0 h m o L) (z : List V) : PO h0 (h.new z) m o L := by
  obtain ⟨e, st, ow, ob⟩ := p.own
  have := p.lm
  have := p.lo
  exact ⟨⟨e, st, ⟨ow.gr.new z, ow.el, ow.st⟩, by rw [new_objs_ne _ _ (by omega)]; exact ob⟩, by rw [new_objs_ne _ _ (by omega)]; exact p.many, p.hm, p.ho, p.ne, by simp; omega, by simp; omega⟩
theorem PO.set {h0 h : AH} {m o : Nat} {L : List Int} (p : PO h0 h m o L) {q : Nat} (hq : h0.nobj ≤ q) (h1 : ¬ m = q) (h2 : ¬ o = q) (z : List V) : PO h0 (h.set q z) m o L := by
  obtain ⟨e, st, ow, ob⟩ := p.own
  exact ⟨⟨e, st, ⟨ow.gr.set hq z, ow.el, ow.st⟩, by rw [set_objs_ne _ _ _ h2]; exact ob⟩, by rw [set_objs_ne _ _ _ h1]; exact p.many, p.hm, p.ho, p.ne, p.lm, p.lo⟩
theorem PO.gr {h0 h : AH} {m o : Nat} {L : List Int} (p : PO h0 h m o L) : Gr h0 h := by obtain ⟨e, st, ow, _⟩ := p.own; exact ow.gr
end Go.Proofs.Ytdbbgkdepjidjaa.Al
namespace Go.Proofs.Ytdbbgkdepjidjaa.Al
open Go Go.RowKit
set_option linter.unusedSimpArgs false
set_option linter.unusedVariables false
attribute [-simp] List.getD_eq_getElem?_getD Int.not_lt Int.not_le List.map_take
/-- A symbol, a production, a grammar. -/
structure Sy where
  non : Bool
  n : Int
  deriving DecidableEq
structure Pr where
  left : Int
  right : List Sy
  deriving DecidableEq
structure Gm where
  terms : Int
  nons : Int
  start : Int
  prods : List Pr
  deriving DecidableEq
def symC (s : Sy) : List V := [.bool s.non, .int .i64 s.n]
def symV (s : Sy) : V := .agg (symC s)
def prC (p : Pr) : List V := [.int .i64 p.left, .sl 2 0 (p.right.map symV)]
def prV (p : Pr) : V := .agg (prC p)
section
variable {X : Cx} {h : AH} {Q : V → AH → Prop}
/-! ### A nonterminal's productions -/
/-! ### A copy -/
end
end Go.Proofs.Ytdbbgkdepjidjaa.Al
namespace Go.Proofs.Ytdbbgkdepjidjaa.Al
open Go Go.RowKit
set_option linter.unusedSimpArgs false
set_option linter.unusedVariables false
attribute [-simp] List.getD_eq_getElem?_getD Int.not_lt Int.not_le List.map_take
section
variable {X : Cx} {h : AH} {Q : V → AH → Prop}
theorem Bdd_strs (n m : Nat) (l : List Str) : ∀ v ∈ cellsOf (strs l), Bdd n m v := by
  intro v hv
  have : ∀ l : List Str, cellsOf (strs l) = strs l := fun l => by
    induction l with
    | nil => rfl
    | cons a l ih => simp only [strs, List.map_cons, cellsOf_cons, V.cells, List.singleton_append] at *; rw [ih]
  rw [this] at hv
  obtain ⟨s, _, rfl⟩ := List.mem_map.1 hv
  simp
end
end Go.Proofs.Ytdbbgkdepjidjaa.Al
namespace Go.Proofs.Ytdbbgkdepjidjaa.Al
def A.rules_Right_o.L1 : AC := .post (.seq (.seq (.reg [⟨(some 59), none, .mv (.t 3)⟩, ⟨(some 60), none, .fa 1 (.t 5)⟩, ⟨(some 61), none, .load false 1 (.t 60)⟩, ⟨(some 62), none, .bin .leq (.t 59) (.t 61)⟩])
  (.keep [1, 3, 5, 6, 26, 27, 28, 62] (.cond (.t 62) .skip (.exit 2))))
  (.keep [1, 3, 5, 6, 26, 27, 28] (.seq (.block 3 (.seq (.reg [⟨(some 65), none, .fa 1 (.t 1)⟩, ⟨(some 66), none, .load false 1 (.t 65)⟩, ⟨(some 67), none, .mv (.t 3)⟩, ⟨(some 68), none, .ia 3 (.t 66) (.t 67)⟩, ⟨(some 69), none, .load true 3 (.t 68)⟩, ⟨(some 7), none, .alloc [(.int .i64 (0)), (.str []), (.sl 0 1 [])]⟩, ⟨none, none, .store 3 (.t 7) (.t 69)⟩])
  (.keep [1, 3, 5, 6, 7, 26, 27, 28] (.seq (.reg [⟨(some 70), none, .mv (.t 6)⟩, ⟨(some 71), none, .len false (.t 70)⟩, ⟨(some 72), none, .fa 2 (.t 7)⟩, ⟨(some 73), none, .load false 1 (.t 72)⟩, ⟨(some 74), none, .len false (.t 73)⟩, ⟨(some 75), none, .bin .sub (.t 71) (.t 74)⟩, ⟨(some 8), none, .mv (.t 75)⟩])
  (.keep [1, 3, 5, 6, 7, 8, 26, 27, 28] (.seq (.seq (.draw [(.pl, ⟨(some 76), none, .load true 2 (.t 1)⟩), (.pl, ⟨(some 77), none, .load true 3 (.t 7)⟩), (.pl, ⟨(some 78), none, .call (.c (.fn K.rules_Tree_fine [] [])) [(.t 76), (.t 77)]⟩), (.pl, ⟨(some 79), none, .un .not (.t 78)⟩), (.pl, ⟨(some 80), none, .mv (.t 79)⟩), (.pl, ⟨(some 81), (some (80, false)), .mv (.t 8)⟩), (.pl, ⟨(some 82), (some (80, false)), .bin .lss (.t 81) (.c (.int .i64 (0)))⟩), (.pl, ⟨(some 83), none, .pick (.t 80) (.c (.bool true)) (.t 82)⟩), (.pl, ⟨(some 84), none, .mv (.t 83)⟩), (.pl, ⟨(some 85), (some (84, false)), .mv (.t 6)⟩), (.pl, ⟨(some 86), (some (84, false)), .mv (.t 8)⟩), (.pl, ⟨(some 87), (some (84, false)), .slc 1 (.t 85) (some (.t 86)) none⟩), (.pl, ⟨(some 88), (some (84, false)), .fa 2 (.t 7)⟩), (.pl, ⟨(some 89), (some (84, false)), .load false 1 (.t 88)⟩), (.pl, ⟨(some 90), (some (84, false)), .call (.c (.fn K.slices_Equal_int [] [])) [(.t 87), (.t 89)]⟩), (.pl, ⟨(some 91), (some (84, false)), .un .not (.t 90)⟩), (.pl, ⟨(some 92), none, .pick (.t 84) (.c (.bool true)) (.t 91)⟩)])
  (.keep [1, 3, 5, 6, 8, 26, 27, 28, 92] (.cond (.t 92) (.seq (.reg [⟨(some 2), none, .mv (.c (.bool false))⟩]) .ret) .skip)))
  (.keep [1, 3, 5, 6, 8, 26, 27, 28] (.reg [⟨(some 93), none, .mv (.t 6)⟩, ⟨(some 94), none, .mv (.t 8)⟩, ⟨(some 95), none, .slc 1 (.t 93) none (some (.t 94))⟩, ⟨(some 96), none, .mv (.t 3)⟩, ⟨(some 97), none, .bsl 1 false [(.int .i64 (0))] 1 [(0, (.t 96))]⟩, ⟨(some 98), none, .appg 1 8 (.t 95) (.t 97)⟩, ⟨(some 6), none, .mv (.t 98)⟩]))))))))
  (.keep [1, 3, 5, 6, 26, 27, 28] (.reg [⟨(some 63), none, .mv (.t 3)⟩, ⟨(some 64), none, .bin .add (.t 63) (.c (.int .i64 (1)))⟩, ⟨(some 3), none, .mv (.t 64)⟩]))))) [1, 3, 5, 6, 26, 27, 28]
def A.rules_Right_o.L0 : AC := .post (.seq (.reg [⟨(some 29), none, .bin .lss (.t 28) (.t 27)⟩])
  (.keep [1, 3, 26, 27, 28, 29] (.seq (.cond (.t 29) .skip (.exit 0))
  (.keep [1, 3, 26, 27, 28] (.seq (.block 1 (.seq (.reg [⟨(some 30), none, .mv (.t 28)⟩, ⟨(some 31), none, .ia 2 (.t 26) (.t 28)⟩, ⟨(some 32), none, .load true 2 (.t 31)⟩, ⟨(some 5), none, .alloc [(.str []), (.int .i64 (0))]⟩, ⟨(some 4), none, .mv (.t 30)⟩, ⟨none, none, .store 2 (.t 5) (.t 32)⟩])
  (.keep [1, 3, 4, 5, 26, 27, 28] (.seq (.seq (.reg [⟨(some 33), none, .fa 0 (.t 5)⟩, ⟨(some 34), none, .load false 1 (.t 33)⟩, ⟨(some 35), none, .call (.c (.fn K.rules_token [] [])) [(.t 34), (.c (.int .i64 (1)))]⟩, ⟨(some 36), none, .un .not (.t 35)⟩, ⟨(some 37), none, .mv (.t 36)⟩, ⟨(some 38), (some (37, false)), .fa 0 (.t 1)⟩, ⟨(some 39), (some (37, false)), .load false 1 (.t 38)⟩, ⟨(some 40), (some (37, false)), .mv (.t 4)⟩, ⟨(some 41), (some (37, false)), .slc 2 (.t 39) none (some (.t 40))⟩, ⟨(some 42), (some (37, false)), .mkfn K.rules_Right_1 [] [(.t 5)]⟩, ⟨(some 43), (some (37, false)), .call (.c (.fn K.slices_ContainsFunc_Rule [] [])) [(.t 41), (.t 42)]⟩, ⟨(some 44), none, .pick (.t 37) (.c (.bool true)) (.t 43)⟩, ⟨(some 45), none, .mv (.t 44)⟩, ⟨(some 46), (some (45, false)), .fa 1 (.t 5)⟩, ⟨(some 47), (some (45, false)), .load false 1 (.t 46)⟩, ⟨(some 48), (some (45, false)), .mv (.t 3)⟩, ⟨(some 49), (some (45, false)), .bin .lss (.t 47) (.t 48)⟩, ⟨(some 50), none, .pick (.t 45) (.c (.bool true)) (.t 49)⟩, ⟨(some 51), none, .mv (.t 50)⟩, ⟨(some 52), (some (51, false)), .fa 1 (.t 5)⟩, ⟨(some 53), (some (51, false)), .load false 1 (.t 52)⟩, ⟨(some 54), (some (51, false)), .fa 1 (.t 1)⟩, ⟨(some 55), (some (51, false)), .load false 1 (.t 54)⟩, ⟨(some 56), (some (51, false)), .len false (.t 55)⟩, ⟨(some 57), (some (51, false)), .bin .geq (.t 53) (.t 56)⟩, ⟨(some 58), none, .pick (.t 51) (.c (.bool true)) (.t 57)⟩])
  (.keep [1, 3, 5, 26, 27, 28, 58] (.cond (.t 58) (.seq (.reg [⟨(some 2), none, .mv (.c (.bool false))⟩]) .ret) .skip)))
  (.keep [1, 3, 5, 26, 27, 28] (.seq (.reg [⟨(some 6), none, .mv (.c (.sl 0 1 []))⟩])
  (.keep [1, 3, 5, 6, 26, 27, 28] (.seq (.block 2 (.loop A.rules_Right_o.L1))
  (.keep [1, 3, 6, 26, 27, 28] (.seq (.reg [⟨(some 99), none, .mv (.t 6)⟩, ⟨(some 100), none, .len false (.t 99)⟩, ⟨(some 101), none, .bin .neq (.t 100) (.c (.int .i64 (1)))⟩])
  (.keep [1, 3, 26, 27, 28, 101] (.cond (.t 101) (.seq (.reg [⟨(some 2), none, .mv (.c (.bool false))⟩]) .ret) .skip))))))))))))
  (.keep [1, 3, 26, 27, 28] (.reg [⟨(some 102), none, .bin .add (.t 28) (.c (.int .i64 (1)))⟩, ⟨(some 28), none, .mv (.t 102)⟩]))))))) [1, 3, 26, 27, 28]
def A.rules_Right_o : AFn := ⟨108, [(2, none)], (.seq (.reg [⟨(some 1), none, .box (.t 0)⟩, ⟨(some 2), none, .mv (.c (.bool false))⟩])
  (.keep [1] (.seq (.seq (.reg [⟨(some 9), none, .fa 0 (.t 1)⟩, ⟨(some 10), none, .load false 1 (.t 9)⟩, ⟨(some 11), none, .len false (.t 10)⟩, ⟨(some 12), none, .bin .eql (.t 11) (.c (.int .i64 (0)))⟩, ⟨(some 13), none, .mv (.t 12)⟩, ⟨(some 14), (some (13, false)), .fa 0 (.t 1)⟩, ⟨(some 15), (some (13, false)), .load false 1 (.t 14)⟩, ⟨(some 16), (some (13, false)), .len false (.t 15)⟩, ⟨(some 17), (some (13, false)), .bin .gtr (.t 16) (.c (.int .i64 (24)))⟩, ⟨(some 18), none, .pick (.t 13) (.c (.bool true)) (.t 17)⟩, ⟨(some 19), none, .mv (.t 18)⟩, ⟨(some 20), (some (19, false)), .fa 1 (.t 1)⟩, ⟨(some 21), (some (19, false)), .load false 1 (.t 20)⟩, ⟨(some 22), (some (19, false)), .len false (.t 21)⟩, ⟨(some 23), (some (19, false)), .bin .gtr (.t 22) (.c (.int .i64 (200)))⟩, ⟨(some 24), none, .pick (.t 19) (.c (.bool true)) (.t 23)⟩])
  (.keep [1, 24] (.cond (.t 24) (.seq (.reg [⟨(some 2), none, .mv (.c (.bool false))⟩]) .ret) .skip)))
  (.keep [1] (.seq (.reg [⟨(some 3), none, .mv (.c (.int .i64 (0)))⟩])
  (.keep [1, 3] (.seq (.seq (.reg [⟨(some 25), none, .fa 0 (.t 1)⟩, ⟨(some 26), none, .load false 1 (.t 25)⟩, ⟨(some 27), none, .len false (.t 26)⟩, ⟨(some 28), none, .mv (.c (.int .i64 (0)))⟩])
  (.keep [1, 3, 26, 27, 28] (.block 0 (.loop A.rules_Right_o.L0))))
  (.keep [1, 3] (.seq (.reg [⟨(some 103), none, .mv (.t 3)⟩, ⟨(some 104), none, .fa 1 (.t 1)⟩, ⟨(some 105), none, .load false 1 (.t 104)⟩, ⟨(some 106), none, .len false (.t 105)⟩, ⟨(some 107), none, .bin .eql (.t 103) (.t 106)⟩, ⟨(some 2), none, .mv (.t 107)⟩]) .ret)))))))))⟩
end Go.Proofs.Ytdbbgkdepjidjaa.Al
namespace Go.Proofs.Ytdbbgkdepjidjaa.Al
open Go Go.RowKit
set_option linter.unusedSimpArgs false
set_option linter.unusedVariables false
attribute [-simp] List.getD_eq_getElem?_getD Int.not_lt Int.not_le List.map_take
section
variable {X : Cx} {h : AH} {Q : V → AH → Prop}
/-- Numbers that lie in an object, against numbers. -/
theorem eqO_spec (H : Has (Ecx X) K.slices_Equal_int A.slices_Equal_int) (a b : List Int) {o off c t n : Nat} {l : List V} (hn : a.length = n) (ho : h.objs o = l) (hoff : off + n ≤ l.length) (hl : (l.drop off).take n = ints a) (ha : n < 2 ^ 62)
    (hQ : Q (.bool (decide (a = b))) h) : Ecx X K.slices_Equal_int [.osl 1 o off n c, .sl 1 t (ints b)] h Q := by
  subst hn
  refine fn_walk H (by simp [A.slices_Equal_int]) fun wf => ?_
  by_cases hl' : (a.length : Int) = b.length
  · simp [A.slices_Equal_int, hl']
    refine loopI (n := a.length) (fun m env h' => ∃ k, k ≤ a.length ∧ m = a.length - k ∧ h' = h ∧ env = [(0, .osl 1 o off a.length c), (1, .sl 1 t (ints b)), (12, .int .i64 b.length), (13, .int .i64 k)] ∧ a.take k = b.take k) ?_ ⟨0, by omega, by omega, rfl, by rfl, rfl⟩
    rintro m env h' ⟨k, hk, rfl, rfl, rfl, he⟩
    unfold A.slices_Equal_int.L0
    by_cases hlt : k < a.length
    · have hlt' : (k : Int) < b.length := by omega
      have hlb : k < b.length := by omega
      have hga : l.getD (off + k) .undef = (V.int .i64) a[k] := by
        have : ((l.drop off).take a.length)[k]? = (ints a)[k]? := by rw [hl]
        rw [List.getElem?_take, if_pos hlt, List.getElem?_drop] at this
        simp only [List.getD_eq_getElem?_getD, this]
        simp [ints, hlt]
      have hgb := ints_get hlb
      have hr : off + k < l.length := by omega
      have hw1 : IntKind.i64.wrap ((k : Int) + 1) = ((k + 1 : Nat) : Int) := by rw [wrap_i64 (by omega) (by omega)]; rfl
      by_cases e : a[k] = b[k]
      · simp [hl', hlt', hlt, hga, hgb, V.cells, V.good, e, hw1, ho, hr]
        exact ⟨a.length - (k + 1), by omega, iv ⟨k + 1, by omega, rfl, rfl, rfl, take_ext2 hlt hlb he e⟩⟩
      · have hf : decide (a = b) = false := by
          simp only [decide_eq_false_iff_not]; rintro rfl; exact e rfl
        rw [hf] at hQ
        simp [hl', hlt', hlt, hga, hgb, V.cells, e, ho, hr]; exact fin (by simp) hQ
    · have hlt' : ¬ (k : Int) < b.length := by omega
      simp [hl', hlt']
      refine fin (by simp) ?_
      have hk : k = a.length := by omega
      rw [hk, List.take_length, show a.length = b.length by omega, List.take_length] at he
      simpa [he] using hQ
  · simp [A.slices_Equal_int, hl']
    refine fin (by simp) ?_
    have : decide (a = b) = false := by simp; intro h; exact hl' (by rw [h])
    rw [this] at hQ; exact hQ
theorem ruRight1_spec (L : LRu X) (r : Rl) {o : Nat} {n : Rl} (ho : h.objs o = rlC n) (hob : o < h.nobj) (hQ : Q (.bool (decide (r.name = n.name))) h) : Ecx X K.rules_Right_1 [rlV r, .ptr o 0] h Q := by
  refine fn_walk L.right1 (by simp [A.rules_Right_1]) fun wf => ?_
  have gr := (Gr.refl h).new (rlC r)
  have n1 : ¬ o = h.nobj := by omega
  have hnc : rlC n = [.str n.name, .int .i64 n.body] := rfl
  have hrc : rlC r = [.str r.name, .int .i64 r.body] := rfl
  simp [A.rules_Right_1, rlV, V.cells, V.good, n1, ho, hnc, hrc]
  exact fin_wk (by rw [← hrc]; exact gr) (.same _) (by simp) hQ
end
/-- One node: its kids are the last that are nobody's so far. -/
def stpS (t : Te) (a : Nat) (st : List Int) : Option (List Int) := match t.nodes[a]? with
  | some n => if fineP t n = true ∧ n.kids.length ≤ st.length ∧ st.drop (st.length - n.kids.length) = n.kids then some (st.take (st.length - n.kids.length) ++ [(a : Int)]) else none
  | none => none
def runS (t : Te) : Nat → Nat → List Int → Option (List Int)
  | 0, _, st => some st
  | k + 1, a, st => match stpS t a st with
    | some st' => runS t k (a + 1) st'
    | none => none
def rightS (t : Te) : List Rl → List Str → Nat → Option Nat
  | [], _, a => some a
  | r :: rs, seen, a => if tokenT r.name 1 = true ∧ r.name ∉ seen ∧ (a : Int) ≤ r.body ∧ r.body < t.nodes.length then (match runS t (r.body.toNat + 1 - a) a [] with
      | some [_] => rightS t rs (seen ++ [r.name]) (r.body.toNat + 1)
      | _ => none) else none
/-- As the program asks. -/
def rightP (t : Te) : Bool := decide (0 < t.rules.length) && decide (t.rules.length ≤ 24) && decide (t.nodes.length ≤ 200) && decide (rightS t t.rules [] 0 = some t.nodes.length)
/-- The open nodes, as they lie. -/
def StkV (lo : Nat) (h' : AH) (v : V) (st : List Int) : Prop := (st = [] ∧ v = .sl 0 1 []) ∨
  ∃ o cap, v = .osl 1 o 0 st.length cap ∧ cap ≠ 0 ∧ st.length ≤ cap ∧ lo < o ∧ o < h'.nobj ∧ cap ≤ (h'.objs o).length ∧ (h'.objs o).take st.length = ints st
section
variable {X : Cx} {h : AH} {Q : V → AH → Prop}
theorem appG_nil {K : V → AH → Prop} {zK : Lz K} {e sz e1 st st' : Nat} {m : List V} (hm : m ≠ []) (hst : st = 1 ∨ st = 2) (hb : m.length * sz ≤ 2 ^ 46)
    (hk : ∀ c, m.length ≤ c → K (.osl e h.nobj 0 m.length c) (h.new (cellsOf m ++ List.replicate ((c - m.length) * e) .undef))) : AppG h e sz (.sl e1 st []) (.sl e st' m) zK :=
  ⟨fun e => hm (List.eq_nil_of_length_eq_zero e), rfl, hst, rfl, hb, hk⟩
theorem appG_osl {K : V → AH → Prop} {zK : Lz K} {e sz o off len cap st' : Nat} {m : List V} (hm : m ≠ []) (hc : cap ≠ 0) (hf : off + cap * e ≤ (h.objs o).length) (hb : (len + m.length) * sz ≤ 2 ^ 46)
    (h1 : len + m.length ≤ cap → K (.osl e o off (len + m.length) cap) (h.set o (setAt (h.objs o) (off + len * e) (cellsOf m))))
    (h2 : cap < len + m.length → ∀ c, len + m.length ≤ c → K (.osl e h.nobj 0 (len + m.length) c) (h.new (((h.objs o).drop off).take (len * e) ++ cellsOf m ++ List.replicate ((c - (len + m.length)) * e) .undef))) : AppG h e sz (.osl e o off len cap) (.sl e st' m) zK :=
  ⟨fun e => hm (List.eq_nil_of_length_eq_zero e), rfl, rfl, hc, hf, hb, h1, h2⟩
theorem eqNil_spec (H : Has (Ecx X) K.slices_Equal_int A.slices_Equal_int) (b : List Int) {e s t : Nat} (hQ : Q (.bool (decide (b = []))) h) : Ecx X K.slices_Equal_int [.sl e s [], .sl 1 t (ints b)] h Q := by
  refine fn_walk H (by simp [A.slices_Equal_int]) fun wf => ?_
  have hb : (ints b).length = b.length := by simp [ints]
  by_cases c : b = []
  · subst c
    simp [A.slices_Equal_int, ints]
    refine loopI (n := 0) (fun m env h' => h' = h ∧ env = [(0, .sl e s []), (1, .sl 1 t []), (12, .int .i64 0), (13, .int .i64 0)]) ?_ ⟨rfl, rfl⟩
    rintro m env h' ⟨rfl, rfl⟩
    unfold A.slices_Equal_int.L0
    simp
    exact fin (by simp) (by simpa using hQ)
  · have c' : ¬ (0 : Int) = b.length := by have := List.length_pos_iff.2 c; omega
    have c2 : ¬ 0 = b.length := by have := List.length_pos_iff.2 c; omega
    simp [A.slices_Equal_int, hb, c', c2, c]
    exact fin (by simp) (by simpa [c] using hQ)
theorem take_set {l : List V} {st : List Int} {n r cap : Nat} {v : V} (hn : n = st.length) (ht : l.take n = ints st) (hr : r ≤ n) (hc : r < l.length) : (l.set r v).take (r + 1) = ints (st.take r) ++ [v] := by
  subst hn
  rw [List.take_succ_eq_append_getElem (by simpa using hc), List.getElem_set_self]
  congr 1
  rw [List.take_set_of_le (Nat.le_refl _)]
  have : (l.take st.length).take r = (ints st).take r := by rw [ht]
  rw [List.take_take, Nat.min_eq_left hr] at this
  rw [this]; simp [ints, List.map_take]
theorem StkV.to {lo : Nat} {h h' : AH} {v : V} {st : List Int} (s : StkV lo h v st) (hn : h.nobj ≤ h'.nobj) (ho : ∀ o, lo < o → o < h.nobj → h'.objs o = h.objs o) : StkV lo h' v st := by
  rcases s with s | ⟨o, cap, e1, e2, e3, e4, e5, e6, e7⟩
  · exact .inl s
  · exact .inr ⟨o, cap, e1, e2, e3, e4, by omega, by rw [ho o e4 e5]; exact e6, by rw [ho o e4 e5]; exact e7⟩
theorem rightL1 (L : LRu X) (t : Te) {h' h2 : AH} {r : Rl} {a B k : Nat} {Q : Ex → Env → AH → Prop} {zQ : Lz Q} {z : Lz (AC.loop A.rules_Right_o.L1)} (hr : t.rules.length < 2 ^ 30) (hn : t.nodes.length < 2 ^ 30) (hnn : ∀ n ∈ t.nodes, n.name.length ≤ 2 ^ 30) (hks : ∀ n ∈ t.nodes, n.kids.length ≤ 2 ^ 30)
    (q4 : Gr h h2) (q1 : h2.objs h.nobj = teC t) (q0 : h2.objs h'.nobj = rlC r) (nb : h.nobj < h'.nobj) (q5 : h'.nobj < h2.nobj) (hbod : (B : Int) = r.body) (hBl : B < t.nodes.length) (haB : a ≤ B)
    (hret : ∀ e h3, Gr h h3 → runS t (B + 1 - a) a [] = none → Q .ret ((2, .bool false) :: e) h3)
    (hex : ∀ h3 v st, Gr h h3 → h3.objs h.nobj = teC t → h.nobj < h3.nobj → StkV h'.nobj h3 v st → runS t (B + 1 - a) a [] = some st → Q (.exit 2) [(1, .ptr h.nobj 0), (3, .int .i64 ((B + 1 : Nat) : Int)), (5, .ptr h'.nobj 0), (6, v), (26, .sl 2 0 (t.rules.map rlV)), (27, .int .i64 t.rules.length), (28, .int .i64 k), (62, .bool false)] h3) :
    acZ (Ecx X) [(1, .ptr h.nobj 0), (3, .int .i64 (a : Int)), (5, .ptr h'.nobj 0), (6, .sl 0 1 []), (26, .sl 2 0 (t.rules.map rlV)), (27, .int .i64 t.rules.length), (28, .int .i64 k)] h2 z zQ := by
  have htc : teC t = [.sl 2 0 (t.rules.map rlV), .sl 3 0 (t.nodes.map ndV)] := rfl
  have hrc : rlC r = [.str r.name, .int .i64 r.body] := rfl
  refine loopI (n := B + 1 - a) (fun m env h3 => ∃ j st v, j ≤ B + 1 - a ∧ m = B + 1 - a - j ∧ Gr h h3 ∧ h3.objs h.nobj = teC t ∧ h3.objs h'.nobj = rlC r ∧ h'.nobj < h3.nobj ∧ env = [(1, .ptr h.nobj 0), (3, .int .i64 ((a + j : Nat) : Int)), (5, .ptr h'.nobj 0), (6, v), (26, .sl 2 0 (t.rules.map rlV)), (27, .int .i64 t.rules.length), (28, .int .i64 k)] ∧
    StkV h'.nobj h3 v st ∧ st.length ≤ j ∧ runS t (B + 1 - a - j) (a + j) st = runS t (B + 1 - a) a []) ?_ ⟨0, [], _, by omega, by omega, q4, q1, q0, q5, rfl, .inl ⟨rfl, rfl⟩, by simp, rfl⟩
  rintro m env h3 ⟨j, st, v, hj, rfl, gr3, ob3, or3, nb3, rfl, stk, hsl, hrun⟩
  unfold A.rules_Right_o.L1
  have n2 : ¬ h.nobj = h3.nobj := by omega
  have n3 : ¬ h'.nobj = h3.nobj := by omega
  by_cases hjl : j < B + 1 - a
  · have hle : ((a + j : Nat) : Int) ≤ r.body := by omega
    have hil : a + j < t.nodes.length := by omega
    have hil' : ((a + j : Nat) : Int) < t.nodes.length := by omega
    have hgn : (t.nodes.map ndV).getD (a + j) .undef = ndV t.nodes[a + j] := Enc.getD hil
    have hw2 : IntKind.i64.wrap (((a + j : Nat) : Int) + 1) = ((a + (j + 1) : Nat) : Int) := by rw [wrap_i64 (by omega) (by omega)]; rfl
    have hnk := hks _ (List.getElem_mem hil)
    have hnl := hnn _ (List.getElem_mem hil)
    have hst : stpS t (a + j) st = if fineP t t.nodes[a + j] = true ∧ t.nodes[a + j].kids.length ≤ st.length ∧ st.drop (st.length - t.nodes[a + j].kids.length) = t.nodes[a + j].kids then some (st.take (st.length - t.nodes[a + j].kids.length) ++ [((a + j : Nat) : Int)]) else none := by
      unfold stpS; rw [List.getElem?_eq_getElem hil]
    have hru := hrun
    rw [show B + 1 - a - j = (B + 1 - a - (j + 1)) + 1 by omega, runS, hst] at hru
    clear hst
    generalize t.nodes[a + j] = nd at *
    generalize haj : a + j = p at *
    have hnc : ndC nd = [.int .i64 nd.kind, .str nd.name, .sl 1 0 (ints nd.kids)] := rfl
    have u0 : (h3.new (ndC nd)).objs h3.nobj = ndC nd := by simp
    have u1 : (h3.new (ndC nd)).objs h.nobj = teC t := by simp [n2, ob3]
    have u2 : (h3.new (ndC nd)).objs h'.nobj = rlC r := by simp [n3, or3]
    have u3 : (h3.new (ndC nd)).nobj = h3.nobj + 1 := by simp
    have u4 := gr3.new (ndC nd)
    have u5 : ∀ o, o < h3.nobj → (h3.new (ndC nd)).objs o = h3.objs o := fun o ho => by rw [new_objs_ne _ _ (by omega)]
    have stk4 : StkV h'.nobj (h3.new (ndC nd)) v st := stk.to (by omega) fun o h1 h2 => u5 o h2
    simp [or3, hrc, hle, ob3, htc, hil', hgn, ndV, V.cells, V.good, hnc, setAt]
    rw [← hnc]
    generalize h3.new (ndC nd) = h4 at *
    rcases stk4 with ⟨rfl, rfl⟩ | ⟨o, cap, rfl, e2, e3, e4, e5, e6, e7⟩
    · cases hf : fineP t nd with
      | false =>
        rw [if_neg (fun e => by rw [hf] at e; exact absurd e.1 (by simp))] at hru
        simp [u0, hnc, u1, htc]
        rw [← hnc]
        refine dcall (.bool (fineP t nd)) (rufine_spec L t nd (by omega) hnl ⟨rfl, rfl⟩) ?_
        simp [hf]
        exact hret _ _ u4 hru.symm
      | true =>
      by_cases hz : nd.kids = []
      · rw [if_pos ⟨hf, by simp [hz], by simp [hz]⟩] at hru
        simp [u0, hnc, u1, htc]
        rw [← hnc]
        refine dcall (.bool (fineP t nd)) (rufine_spec L t nd (by omega) hnl ⟨rfl, rfl⟩) ?_
        have hw0 : IntKind.i64.wrap 0 = 0 := by rfl
        simp [hf, hz, u0, hnc, u1, htc, ints, hw0]
        refine dcall (.bool (decide (([] : List Int) = []))) (eqNil_spec (e := 0) (s := 1) (t := 0) L.eqI [] ⟨rfl, rfl⟩) ?_
        simp
        refine appG_nil (by simp) (.inl rfl) (by simp) fun c hc => ?_
        simp [hw2, V.cells]
        simp only [hz, List.length_nil, List.take_nil, List.nil_append] at hru
        exact ⟨B + 1 - a - (j + 1), by omega, iv ⟨j + 1, [(p : Int)], _, by omega, rfl, u4.new _, by rw [new_objs_ne _ _ (by omega)]; exact u1, by rw [new_objs_ne _ _ (by omega)]; exact u2, by simp; omega, by rw [← haj]; rfl,
          .inr ⟨h4.nobj, c, rfl, by simp at hc; omega, by simpa using hc, by omega, by simp, by simp at hc ⊢; omega, by simp [ints]⟩, by simp, by rw [show a + (j + 1) = p + 1 by omega]; exact hru⟩⟩
      · rw [if_neg (fun e => hz (List.eq_nil_of_length_eq_zero (by simpa using e.2.1)))] at hru
        have hzl : 0 < nd.kids.length := List.length_pos_iff.2 hz
        have hwr : IntKind.i64.wrap (0 - (nd.kids.length : Int)) = - (nd.kids.length : Int) := by rw [wrap_i64 (by omega) (by omega)]; omega
        simp [u0, hnc, u1, htc]
        rw [← hnc]
        refine dcall (.bool (fineP t nd)) (rufine_spec L t nd (by omega) hnl ⟨rfl, rfl⟩) ?_
        have hneg : -(nd.kids.length : Int) < 0 := by omega
        have hwr' : IntKind.i64.wrap (-(nd.kids.length : Int)) = -(nd.kids.length : Int) := wrap_i64 (by omega) (by omega)
        simp [hf, u0, hnc, u1, htc, ints, hwr', hneg, hzl, hz]
        exact hret _ _ u4 hru.symm
    · have hwr : IntKind.i64.wrap ((st.length : Int) - (nd.kids.length : Int)) = (st.length : Int) - (nd.kids.length : Int) := wrap_i64 (by omega) (by omega)
      cases hf : fineP t nd with
      | false =>
        rw [if_neg (fun e => by rw [hf] at e; exact absurd e.1 (by simp))] at hru
        simp [u0, hnc, u1, htc]
        rw [← hnc]
        refine dcall (.bool (fineP t nd)) (rufine_spec L t nd (by omega) hnl ⟨rfl, rfl⟩) ?_
        simp [hf]
        exact hret _ _ u4 hru.symm
      | true =>
      by_cases hz : nd.kids.length ≤ st.length
      · obtain ⟨r', hr'⟩ : ∃ r', r' = st.length - nd.kids.length := ⟨_, rfl⟩
        have hri : (st.length : Int) - (nd.kids.length : Int) = (r' : Int) := by omega
        rw [hri] at hwr
        have hneg : ¬ (r' : Int) < 0 := by omega
        have hrl : (r' : Int) ≤ st.length := by omega
        have hrc' : r' ≤ cap := by omega
        have hrc2 : (st.length : Int) ≤ cap := by omega
        have hrc3 : (r' : Int) ≤ cap := by omega
        rw [← hr'] at hru
        have hdrop : ((h4.objs o).drop r').take (st.length - r') = ints (st.drop r') := by
          rw [← List.drop_take, e7]; simp [ints]
        simp [u0, hnc, u1, htc, hri, hwr]
        rw [← hnc]
        refine dcall (.bool (fineP t nd)) (rufine_spec L t nd (by omega) hnl ⟨rfl, rfl⟩) ?_
        simp [hf, u0, hnc, u1, htc, hneg, hrl, hrc2, hrc3, ints, e3]
        refine dcall (.bool (decide (st.drop r' = nd.kids))) (eqO_spec L.eqI (st.drop r') nd.kids (l := h4.objs o) (by simp) rfl ?_ ?_ (by omega) ⟨rfl, rfl⟩) ?_
        · split <;> omega
        · by_cases hq : cap = r'
          · rw [if_pos hq]
            have : st.length - r' = 0 := by omega
            rw [this, show r' = st.length by omega]; simp [ints]
          · rw [if_neg hq]; exact hdrop
        by_cases hd : st.drop r' = nd.kids
        · rw [if_pos ⟨hf, hz, hd⟩] at hru
          simp only at hru
          simp [hd, hrc3]
          have hlen : (st.take r' ++ [(p : Int)]).length = r' + 1 := by simp; omega
          refine appG_osl (by simp) e2 (by omega) (by simp; omega) (fun hin => ?_) fun hout c hc => ?_
          · simp at hin
            simp [hw2, V.cells, setAt]
            have m1 : ¬ h.nobj = o := by omega
            have m2 : ¬ h'.nobj = o := by omega
            exact ⟨B + 1 - a - (j + 1), by omega, iv ⟨j + 1, _, _, by omega, rfl, u4.set (by omega) _, by rw [set_objs_ne _ _ _ m1]; exact u1, by rw [set_objs_ne _ _ _ m2]; exact u2, by rw [set_nobj]; omega, rfl,
              .inr ⟨o, cap, by rw [hlen], by omega, by omega, by omega, by rw [set_nobj]; exact e5, by rw [set_objs_same, List.length_set]; exact e6, by
                rw [set_objs_same, hlen, take_set (cap := cap) rfl e7 (by omega) (by omega)]; simp [ints]⟩, by omega, by rw [show a + (j + 1) = p + 1 by omega]; exact hru⟩⟩
          · simp at hout hc
            simp [hw2, V.cells, setAt]
            have htk : (h4.objs o).take r' = ints (st.take r') := by
              have : ((h4.objs o).take st.length).take r' = (ints st).take r' := by rw [e7]
              rw [List.take_take, Nat.min_eq_left (by omega)] at this
              rw [this]; simp [ints, List.map_take]
            have htl : (ints (st.take r')).length = r' := by simp [ints]; omega
            exact ⟨B + 1 - a - (j + 1), by omega, iv ⟨j + 1, _, _, by omega, rfl, u4.new _, by rw [new_objs_ne _ _ (by omega)]; exact u1, by rw [new_objs_ne _ _ (by omega)]; exact u2, by rw [new_nobj]; omega, rfl,
              .inr ⟨h4.nobj, c, by rw [hlen], by omega, by omega, by omega, by simp, by rw [new_objs_same, htk]; simp [htl]; omega, by
                rw [new_objs_same, htk, hlen, show ∀ R, ints (st.take r') ++ V.int .i64 (p : Int) :: R = (ints (st.take r') ++ [V.int .i64 (p : Int)]) ++ R from fun R => by simp, List.take_left' (by simp [htl])]; simp [ints]⟩, by omega, by rw [show a + (j + 1) = p + 1 by omega]; exact hru⟩⟩
        · rw [if_neg (fun e => hd e.2.2)] at hru
          simp [hd]
          exact hret _ _ u4 hru.symm
      · rw [if_neg (fun e => hz e.2.1)] at hru
        have hneg : (st.length : Int) - (nd.kids.length : Int) < 0 := by omega
        simp [u0, hnc, u1, htc, hwr]
        rw [← hnc]
        refine dcall (.bool (fineP t nd)) (rufine_spec L t nd (by omega) hnl ⟨rfl, rfl⟩) ?_
        simp [hf, hneg, show (st.length : Int) < nd.kids.length by omega, show st.length < nd.kids.length by omega]
        exact hret _ _ u4 hru.symm
  · have hle : ¬ ((a + j : Nat) : Int) ≤ r.body := by omega
    have hjj : B + 1 - a - j = 0 := by omega
    rw [hjj, runS] at hrun
    have hle2 : ¬ ((a : Int) + (j : Int) ≤ r.body) := by omega
    simp [or3, hrc, hle2]
    have := hex h3 v st gr3 ob3 (by omega) stk hrun.symm
    rw [show ((B + 1 : Nat) : Int) = (a : Int) + (j : Int) by omega] at this
    exact this
theorem ruRight_spec (L : LRu X) (HR : Has (Ecx X) K.rules_Right A.rules_Right_o) (t : Te) (hr : t.rules.length < 2 ^ 30) (hn : t.nodes.length < 2 ^ 30) (hrn : ∀ r ∈ t.rules, r.name.length ≤ 2 ^ 30) (hnn : ∀ n ∈ t.nodes, n.name.length ≤ 2 ^ 30) (hks : ∀ n ∈ t.nodes, n.kids.length ≤ 2 ^ 30)
    (hQ : Q (.bool (rightP t)) h) : Ecx X K.rules_Right [teV t] h Q := by
  refine fn_walk HR (by simp [A.rules_Right_o]) fun wf => ?_
  have htc : teC t = [.sl 2 0 (t.rules.map rlV), .sl 3 0 (t.nodes.map ndV)] := rfl
  have gr := (Gr.refl h).new (teC t)
  have hb0 : (h.new (teC t)).objs h.nobj = teC t := by simp
  have hb1 : (h.new (teC t)).nobj = h.nobj + 1 := by simp
  simp [A.rules_Right_o, teV, V.cells, V.good]
  generalize h.new (teC t) = h1 at *
  simp [hb0, htc]
  by_cases c0 : t.rules = []
  · have : rightP t = false := by simp [rightP, c0]
    rw [this] at hQ
    simp [c0]
    exact fin_wk gr (.same _) (by simp) hQ
  have c0' : 0 < t.rules.length := List.length_pos_iff.2 c0
  by_cases c1 : (24 : Int) < t.rules.length
  · have : rightP t = false := by
      have : ¬ t.rules.length ≤ 24 := by omega
      simp [rightP, this]
    rw [this] at hQ
    simp [c0, c1, hb0, htc]
    exact fin_wk gr (.same _) (by simp) hQ
  by_cases c2 : (200 : Int) < t.nodes.length
  · have : rightP t = false := by
      have : ¬ t.nodes.length ≤ 200 := by omega
      simp [rightP, this]
    rw [this] at hQ
    simp [c0, c1, c2, hb0, htc]
    exact fin_wk gr (.same _) (by simp) hQ
  have hrp : rightP t = decide (rightS t t.rules [] 0 = some t.nodes.length) := by
    unfold rightP
    rw [decide_eq_true c0', decide_eq_true (show t.rules.length ≤ 24 by omega), decide_eq_true (show t.nodes.length ≤ 200 by omega)]; simp
  rw [hrp] at hQ
  clear hrp
  simp [c0, c1, c2, hb0, htc]
  refine loopI (n := t.rules.length) (fun m env h' => ∃ k a, k ≤ t.rules.length ∧ m = t.rules.length - k ∧ a ≤ t.nodes.length ∧ Gr h h' ∧ h'.objs h.nobj = teC t ∧ h.nobj < h'.nobj ∧ env = [(1, .ptr h.nobj 0), (3, .int .i64 (a : Int)), (26, .sl 2 0 (t.rules.map rlV)), (27, .int .i64 t.rules.length), (28, .int .i64 k)] ∧
      rightS t (t.rules.drop k) ((rnames t).take k) a = rightS t t.rules [] 0) ?_ ⟨0, 0, by omega, by omega, by omega, gr, hb0, by omega, rfl, by simp⟩
  rintro m env h' ⟨k, a, hk, rfl, ha, gr', ob, nb, rfl, hS⟩
  unfold A.rules_Right_o.L0
  by_cases hlt : k < t.rules.length
  · have hlt' : (k : Int) < t.rules.length := by omega
    have hg : (t.rules.map rlV).getD k .undef = rlV t.rules[k] := Enc.getD hlt
    have hw1 : IntKind.i64.wrap ((k : Int) + 1) = ((k + 1 : Nat) : Int) := by rw [wrap_i64 (by omega) (by omega)]; rfl
    have hmem := hrn _ (List.getElem_mem hlt)
    have htk : (rnames t).take (k + 1) = (rnames t).take k ++ [t.rules[k].name] := by
      rw [List.take_succ_eq_append_getElem (by simp [rnames, hlt])]; simp [rnames]
    have hany : ((t.rules.take k).any fun r => decide (r.name = t.rules[k].name)) = decide (t.rules[k].name ∈ (rnames t).take k) := by
      apply Bool.eq_iff_iff.2
      simp [rnames, ← List.map_take]
    have hSd := hS
    rw [List.drop_eq_getElem_cons hlt, rightS] at hSd
    have hkl : (t.rules.map rlV).take k = (t.rules.take k).map rlV := List.map_take.symm
    generalize hrr : t.rules[k] = r at *
    have hrc : rlC r = [.str r.name, .int .i64 r.body] := rfl
    have n1 : ¬ h.nobj = h'.nobj := by omega
    have q0 : (h'.new (rlC r)).objs h'.nobj = rlC r := by simp
    have q1 : (h'.new (rlC r)).objs h.nobj = teC t := by simp [n1, ob]
    have q2 : (h'.new (rlC r)).nobj = h'.nobj + 1 := by simp
    have q3 : ∀ o, o < h'.nobj → (h'.new (rlC r)).objs o = h'.objs o := fun o ho => by rw [new_objs_ne _ _ (by omega)]
    have q4 := gr'.new (rlC r)
    simp [hlt', hg, rlV, V.cells, V.good, hrc, setAt]
    rw [← hrc]
    generalize h'.new (rlC r) = h2 at *
    refine ecall (token_spec L.s L.token r.name 1 (by omega) ?_)
    cases ht : tokenT r.name 1 with
    | false =>
      rw [if_neg (fun e => by rw [ht] at e; exact absurd e.1 (by simp))] at hSd
      rw [← hSd] at hQ
      simp
      exact fin_wk q4 (.same _) (by simp) (by simpa using hQ)
    | true =>
    have hct := L.ctR
    rw [show A.slices_ContainsFunc_Rule = ctfF K.slices_IndexFunc_Rule from rfl] at hct
    have hix := L.ixR
    rw [show A.slices_IndexFunc_Rule = ixfF 2 true from rfl] at hix
    simp [q1, htc, q0, hrc, hkl, show (k : Int) ≤ t.rules.length by omega]
    refine ecall (containsFunc encRl hct hix (t.rules.take k) _ _ [] _ (fun x => decide (x.name = r.name)) (by simp; omega) (fun x _ Q' h3 gr3 hQ' => ?_) ?_)
    · exact ruRight1_spec L x ((gr3.objs _ (by omega)).trans q0) (by have := gr3.nobj; omega) hQ'
    rw [hany]
    by_cases c3 : r.name ∈ (rnames t).take k
    · rw [if_neg (fun e => e.2.1 c3)] at hSd
      rw [← hSd] at hQ
      simp [c3]
      exact fin_wk q4 (.same _) (by simp) (by simpa using hQ)
    by_cases c4 : r.body < a
    · rw [if_neg (fun e => by omega)] at hSd
      rw [← hSd] at hQ
      simp [c3, c4, q0, hrc]
      exact fin_wk q4 (.same _) (by simp) (by simpa using hQ)
    by_cases c5 : (t.nodes.length : Int) ≤ r.body
    · rw [if_neg (fun e => by omega)] at hSd
      rw [← hSd] at hQ
      simp [c3, c4, c5, q0, q1, htc, hrc]
      exact fin_wk q4 (.same _) (by simp) (by simpa using hQ)
    rw [if_pos ⟨ht, c3, by omega, by omega⟩] at hSd
    simp [c3, c4, c5, q0, q1, htc, hrc]
    have q5 : h'.nobj < h2.nobj := by omega
    have hbod : ((r.body.toNat : Nat) : Int) = r.body := by omega
    generalize hB : r.body.toNat = B at *
    refine rightL1 L t hr hn hnn hks q4 q1 q0 nb q5 hbod (by omega) (by omega) (fun e h3 g3 he => ?_) (fun h3 v st g3 o3 n3 stk he => ?_)
    · rw [he] at hSd
      simp only at hSd
      rw [← hSd] at hQ
      simp
      exact fin_wk g3 (.same _) (by simp) (by simpa using hQ)
    · rw [he] at hSd
      have hnext : (st.length = 1 ∧ rightS t (t.rules.drop (k + 1)) ((rnames t).take k ++ [r.name]) (B + 1) = rightS t t.rules [] 0) ∨ (¬ st.length = 1 ∧ rightS t t.rules [] 0 = none) := by
        match st, hSd with
        | [x], hSd => exact .inl ⟨rfl, hSd⟩
        | [], hSd => exact .inr ⟨by simp, hSd.symm⟩
        | _ :: _ :: _, hSd => exact .inr ⟨by simp, hSd.symm⟩
      rw [← htk] at hnext
      have hvl : ∀ (env : Env) (K : V → AH → Prop) (zK : Lz K), K (.int .i64 st.length) h3 → lenZ (Ecx X) env h3 false v zK := fun env K zK hK => by
        rcases stk with ⟨rfl, rfl⟩ | ⟨o, cap, rfl, _⟩
        · simpa using hK
        · simpa using hK
      simp
      refine hvl _ _ _ ?_
      simp
      by_cases c6 : st.length = 1
      · have c6' : (st.length : Int) = 1 := by omega
        have hn2 := (hnext.resolve_right (fun e => e.1 c6)).2
        simp [c6', hw1]
        exact ⟨t.rules.length - (k + 1), by omega, iv ⟨k + 1, B + 1, by omega, rfl, by omega, g3, o3, n3, rfl, hn2⟩⟩
      · have c6' : ¬ (st.length : Int) = 1 := by omega
        rcases hnext with e | e
        · exact absurd e.1 c6
        · rw [e.2] at hQ
          simp [c6', c6]
          exact fin_wk g3 (.same _) (by simp) (by simpa using hQ)
  · have hlt' : ¬ (k : Int) < t.rules.length := by omega
    obtain rfl : k = t.rules.length := by omega
    rw [List.drop_length, rightS] at hS
    rw [← hS] at hQ
    simp [hlt', ob, htc]
    have : decide ((a : Int) = t.nodes.length) = decide (some a = some t.nodes.length) := by
      apply Bool.eq_iff_iff.2; simp; omega
    rw [this]
    exact fin_wk gr' (.same _) (by simp) hQ
end
end Go.Proofs.Ytdbbgkdepjidjaa.Al
namespace Go.Proofs.Ytdbbgkdepjidjaa.Al
open Go Go.RowKit
set_option linter.unusedSimpArgs false
set_option linter.unusedVariables false
attribute [-simp] List.getD_eq_getElem?_getD Int.not_lt Int.not_le List.map_take
/-- The numbers of a node, and of all below it. -/
def undK (L : Nat) (rec : Int → List Int → List Int) (n : Int) : List Int → List Int → List Int
  | [], out => out ++ [n]
  | k :: ks, out => if n ≤ k ∨ L < out.length then out ++ [-1] else undK L rec n ks (rec k out)
def undT (t : Te) : Nat → Int → List Int → List Int
  | 0, _, out => out ++ [-1]
  | f + 1, n, out => if n < 0 ∨ (t.nodes.length : Int) ≤ n ∨ t.nodes.length < out.length then out ++ [-1] else undK t.nodes.length (undT t f) n (match t.nodes[n.toNat]? with
    | some x => x.kids
    | none => []) out
/-- The numbers from 0 on. -/
def iotaI (n : Nat) : List Int := (List.range n).map fun i : Nat => (i : Int)
@[simp] theorem iotaI_len (n : Nat) : (iotaI n).length = n := by simp [iotaI]
theorem iotaI_succ (n : Nat) : iotaI (n + 1) = iotaI n ++ [(n : Int)] := by simp [iotaI, List.range_succ]
/-- A name, as the reference asks. -/
def nameR (s : Str) : Bool := match scanR s with
  | ([a], _, e) => decide (e = 0) && decide (a.kind = 1) && decide (a.text = s)
  | _ => false
def rightR (t : Te) : List Rl → List Str → List Int → Option (List Int)
  | [], _, all => some all
  | r :: rs, seen, all => if nameR r.name = true ∧ r.name ∉ seen then rightR t rs (seen ++ [r.name]) (undT t t.nodes.length r.body all) else none
/-- As the reference asks. -/
def rightD (t : Te) : Bool := decide (0 < t.rules.length) && decide (t.rules.length ≤ 24) && decide (t.nodes.length ≤ 200) && (match rightR t t.rules [] [] with
  | some all => decide (all = iotaI t.nodes.length) && t.nodes.all (fineT t)
  | none => false)
structure LR6 (X : Cx) : Prop where
  s : LSR X
  under : Has (Ecx X) K.probateref06_under A.probateref06_under
  right : Has (Ecx X) K.probateref06_Right A.probateref06_Right
  fine : Has (Ecx X) K.probateref06_Tree_fine A.probateref06_Tree_fine
  rule : Has (Ecx X) K.probateref06_Tree_rule A.probateref06_Tree_rule
  quote : Has (Ecx X) K.probateref06_quote A.probateref06_quote
end Go.Proofs.Ytdbbgkdepjidjaa.Al
namespace Go.Proofs.Ytdbbgkdepjidjaa.Al
open Go Go.RowKit
set_option linter.unusedSimpArgs false
set_option linter.unusedVariables false
attribute [-simp] List.getD_eq_getElem?_getD Int.not_lt Int.not_le List.drop_one List.map_take
section
variable {X : Cx} {h : AH} {Q : V → AH → Prop}
theorem scanR_len (s : Str) : (scanR s).1.length ≤ s.length := by
  unfold scanR
  have := scanL_len s.length s 0
  split
  · simp
  · split
    · simp
    · exact this
end
end Go.Proofs.Ytdbbgkdepjidjaa.Al
namespace Go.Proofs.Ytdbbgkdepjidjaa.Al
open Go Go.RowKit
set_option linter.unusedSimpArgs false
set_option linter.unusedVariables false
attribute [-simp] List.getD_eq_getElem?_getD Int.not_lt Int.not_le List.drop_one List.map_take
theorem runN_all {p : UInt8 → Bool} {t : Str} (h : ∀ c ∈ t, p c = true) (r : Str) : runN p (t ++ r) = t.length + runN p r := by
  induction t with
  | nil => simp
  | cons c t ih => rw [List.cons_append, runN_cons, if_pos (h c (by simp)), ih fun d hd => h d (by simp [hd])]; simp; omega
theorem runN_stop {p : UInt8 → Bool} {c : UInt8} (h : p c = false) (r : Str) : runN p (c :: r) = 0 := by rw [runN_cons]; simp [h]
theorem take_run (p : UInt8 → Bool) (s : Str) : ∀ c ∈ s.take (runN p s), p c = true := by
  rw [take_runN]; intro c hc; exact List.all_eq_true.1 (List.all_takeWhile (p := p)) c hc |> fun h => by simpa using h
/-- As it is written. -/
def tokText (t : Tok) : Str := if t.kind = 2 then 39 :: (t.text ++ [39]) else t.text
def goodTok (t : Tok) : Prop := (t.kind = 1 ∧ (∃ c r, t.text = c :: r ∧ letterB c = true) ∧ ∀ c ∈ t.text, partB c = true) ∨ (t.kind = 2 ∧ t.text ≠ [] ∧ ∀ c ∈ t.text, quotedB c = true) ∨ (t.kind = 3 ∧ ∃ c, t.text = [c] ∧ c ∈ marksL)
theorem tokText_pos {t : Tok} (h : goodTok t) : 1 ≤ (tokText t).length := by
  rcases h with ⟨h1, ⟨c, r, e, _⟩, _⟩ | ⟨h1, _⟩ | ⟨h1, c, e, _⟩
  · simp [tokText, h1, e]
  · simp [tokText, h1]
  · simp [tokText, h1, e]
theorem sfirst_cons (c : UInt8) (s : Str) : sfirst (c :: s) =
    if bt c = 35 then (0, [], runN notLf (c :: s))
    else if bt c = 13 ∨ bt c = 32 ∨ bt c = 9 ∨ bt c = 10 then (0, [], 1)
    else if letterB c then (1, (c :: s).take (runN partB (c :: s)), runN partB (c :: s))
    else if bt c = 39 then
      if runN quotedB s = 0 ∨ runN quotedB s = s.length ∨ bt (s.getD (runN quotedB s) 0) ≠ 39 then (0, [], 0) else (2, s.take (runN quotedB s), runN quotedB s + 2)
    else if c ∈ marksL then (3, [c], 1)
    else (0, [], 0) := by
  unfold sfirst
  simp only [List.getD_cons_zero, List.drop_succ_cons, List.drop_zero, List.length_cons, List.getD_cons_succ, List.take_succ_cons, List.take_zero, Nat.add_right_cancel_iff]
  rfl
theorem sfirst_tok {s : Str} (k : Nat) (hne : s ≠ []) (h0 : (sfirst s).2.2 ≠ 0) (h1 : (sfirst s).1 ≠ 0) :
    goodTok ⟨(sfirst s).1, (sfirst s).2.1, k⟩ ∧ tokText ⟨(sfirst s).1, (sfirst s).2.1, k⟩ = s.take (sfirst s).2.2 := by
  cases s with
  | nil => exact absurd rfl hne
  | cons c s =>
    rw [sfirst_cons] at h0 h1 ⊢
    by_cases c1 : bt c = 35
    · rw [if_pos c1] at h1; exact absurd rfl h1
    rw [if_neg c1] at h0 h1 ⊢
    by_cases c2 : bt c = 13 ∨ bt c = 32 ∨ bt c = 9 ∨ bt c = 10
    · rw [if_pos c2] at h1; exact absurd rfl h1
    rw [if_neg c2] at h0 h1 ⊢
    by_cases c3 : letterB c = true
    · rw [if_pos c3] at h0 h1 ⊢
      have hp : partB c = true := by simp only [letterB] at c3; simp [partB, partI, c3]
      refine ⟨.inl ⟨rfl, ⟨c, s.take (runN partB s), ?_, c3⟩, take_run partB (c :: s)⟩, rfl⟩
      simp [runN_cons, hp]
    rw [if_neg c3] at h0 h1 ⊢
    by_cases c4 : bt c = 39
    · rw [if_pos c4] at h0 h1 ⊢
      by_cases c5 : runN quotedB s = 0 ∨ runN quotedB s = s.length ∨ bt (s.getD (runN quotedB s) 0) ≠ 39
      · rw [if_pos c5] at h1; exact absurd rfl h1
      rw [if_neg c5] at h0 h1 ⊢
      have hle := runN_le quotedB s
      have c6 : runN quotedB s < s.length := by omega
      have c7 : s.getD (runN quotedB s) 0 = 39 := bt_inj.1 ((show bt (s.getD (runN quotedB s) 0) = 39 by omega).trans rfl)
      have c8 : c = 39 := bt_inj.1 (c4.trans rfl)
      refine ⟨.inr (.inl ⟨rfl, ?_, take_run quotedB s⟩), ?_⟩
      · intro e; have e2 := congrArg List.length e; simp only [List.length_take, List.length_nil] at e2; omega
      · simp only [tokText, if_true, List.take_succ_cons, c8]
        rw [List.take_succ_eq_append_getElem c6]
        have : s[runN quotedB s] = 39 := by rw [← c7]; simp [List.getD, List.getElem?_eq_getElem c6]
        rw [this]
    rw [if_neg c4] at h0 h1 ⊢
    by_cases c5 : c ∈ marksL
    · rw [if_pos c5]
      exact ⟨.inr (.inr ⟨rfl, c, rfl, c5⟩), rfl⟩
    · rw [if_neg c5] at h1; exact absurd rfl h1
theorem letterB_ne {c : UInt8} (h : letterB c = true) : bt c ≠ 35 ∧ ¬ (bt c = 13 ∨ bt c = 32 ∨ bt c = 9 ∨ bt c = 10) := by
  have := letterI_ne (c := bt c) h; omega
/-- Each stands at its place. -/
def chain (s0 : Str) : Nat → List Tok → Prop
  | _, [] => True
  | k, t :: l => goodTok t ∧ k ≤ t.at' ∧ t.at' + (tokText t).length ≤ s0.length ∧ (s0.drop t.at').take (tokText t).length = tokText t ∧ chain s0 (t.at' + (tokText t).length) l
theorem chain_mono {s0 : Str} {k k' : Nat} (h : k ≤ k') : ∀ {l : List Tok}, chain s0 k' l → chain s0 k l
  | [], _ => trivial
  | t :: l, ⟨a, b, c⟩ => ⟨a, by omega, c⟩
theorem scanL_chain (s0 : Str) : ∀ (n k : Nat), k ≤ s0.length → chain s0 k (scanL n (s0.drop k) k).1
  | 0, k, h => trivial
  | n + 1, k, h => by
    by_cases hne : s0.drop k = []
    · rw [hne, scanL_nil]; trivial
    rw [scanL_step k hne]
    split
    · trivial
    · rename_i h0
      have hle := sfirst_le hne
      simp at hle
      have ih := scanL_chain s0 n (k + (sfirst (s0.drop k)).2.2) (by omega)
      rw [← List.drop_drop] at ih
      by_cases h1 : (sfirst (s0.drop k)).1 = 0
      · rw [if_pos h1]
        exact chain_mono (by omega) ih
      · rw [if_neg h1]
        obtain ⟨g, e⟩ := sfirst_tok k hne h0 h1
        have hlen : (tokText ⟨(sfirst (s0.drop k)).1, (sfirst (s0.drop k)).2.1, k⟩).length = (sfirst (s0.drop k)).2.2 := by rw [e]; simp; omega
        refine ⟨g, by simp, by rw [hlen]; simp; omega, by rw [hlen, e], ?_⟩
        rw [hlen]; exact ih
theorem scanR_chain (s : Str) : chain s 0 (scanR s).1 := by
  unfold scanR
  split
  · trivial
  · split
    · trivial
    · exact scanL_chain s s.length 0 (by omega)
theorem chain_good {s0 : Str} : ∀ {l : List Tok} {k : Nat}, chain s0 k l → ∀ t ∈ l, goodTok t
  | [], k, _, t, ht => by simp at ht
  | u :: l, k, ⟨g, _, _, _, c⟩, t, ht => by
    rcases List.mem_cons.1 ht with rfl | ht
    · exact g
    · exact chain_good c t ht
theorem sfirst_space (r : Str) : sfirst (32 :: r) = (0, [], 1) := by rw [sfirst_cons, if_neg (by decide), if_pos (by decide)]
/-! ### Between -/
end Go.Proofs.Ytdbbgkdepjidjaa.Al
namespace Go.Proofs.Ytdbbgkdepjidjaa.Al
open Go Go.RowKit
set_option linter.unusedSimpArgs false
set_option linter.unusedVariables false
theorem iotaI_pre {u : List Int} {n : Nat} (h : u <+: iotaI n) : u = iotaI u.length ∧ u.length ≤ n := by
  have hl : u.length ≤ n := by simpa using h.length_le
  refine ⟨?_, hl⟩
  rw [List.prefix_iff_eq_take] at h
  rw [h]
  simp only [iotaI, ← List.map_take, List.take_range, List.length_map, List.length_range]
theorem iotaI_last {l : List Int} {v : Int} {n : Nat} (h : l ++ [v] = iotaI n) : n = l.length + 1 ∧ v = l.length ∧ l = iotaI l.length := by
  have hn : n = l.length + 1 := by have := congrArg List.length h; simp at this; omega
  subst hn
  rw [iotaI_succ] at h
  obtain ⟨a, b⟩ := List.append_inj' h rfl
  exact ⟨rfl, by simpa using b, a⟩
theorem undK_pre {L : Nat} {rec : Int → List Int → List Int} (hr : ∀ k out, out <+: rec k out) (n : Int) : ∀ (ks out : List Int), out <+: undK L rec n ks out
  | [], out => ⟨[n], rfl⟩
  | k :: ks, out => by
    unfold undK
    split
    · exact ⟨[-1], rfl⟩
    · exact (hr k out).trans (undK_pre hr n ks _)
theorem undT_pre (t : Te) : ∀ (f : Nat) (n : Int) (out : List Int), out <+: undT t f n out
  | 0, n, out => ⟨[-1], rfl⟩
  | f + 1, n, out => by
    unfold undT
    split
    · exact ⟨[-1], rfl⟩
    · exact undK_pre (undT_pre t f) n _ _
theorem rightR_pre (t : Te) : ∀ (rs : List Rl) (seen : List Str) (u v : List Int), rightR t rs seen u = some v → u <+: v
  | [], _, u, v, h => by simp [rightR] at h; subst h; exact List.prefix_refl _
  | r :: rs, seen, u, v, h => by
    unfold rightR at h
    split at h
    · exact (undT_pre t _ _ _).trans (rightR_pre t rs _ _ _ h)
    · cases h
theorem runS_add (t : Te) : ∀ (j k a : Nat) (st st1 : List Int), runS t j a st = some st1 → runS t (j + k) a st = runS t k (a + j) st1
  | 0, k, a, st, st1, h => by simp [runS] at h; subst h; simp
  | j + 1, k, a, st, st1, h => by
    rw [show j + 1 + k = (j + k) + 1 by omega, runS]
    rw [runS] at h
    cases hs : stpS t a st with
    | none => rw [hs] at h; cases h
    | some st2 =>
      rw [hs] at h
      simp only at h ⊢
      rw [runS_add t j k (a + 1) st2 st1 h, show a + 1 + j = a + (j + 1) by omega]
/-- What the reference lists in order, the stack takes. -/
theorem runS_und (t : Te) (hf : ∀ n ∈ t.nodes, fineP t n = true) : ∀ (f : Nat) (n : Int) (a b : Nat), undT t f n (iotaI a) = iotaI b → b ≤ t.nodes.length →
    ∃ m : Nat, n = m ∧ a ≤ m ∧ b = m + 1 ∧ ∀ st, runS t (b - a) a st = some (st ++ [n])
  | 0, n, a, b, h, hb => by
    have := iotaI_last h; omega
  | f + 1, n, a, b, h, hb => by
    unfold undT at h
    split at h
    · have := iotaI_last h; omega
    · rename_i c
      obtain ⟨m, rfl⟩ : ∃ m : Nat, n = (m : Int) := ⟨n.toNat, by omega⟩
      have hm : m < t.nodes.length := by omega
      rw [Int.toNat_natCast, List.getElem?_eq_getElem hm] at h
      simp only at h
      have key : ∀ (ks : List Int) (a' : Nat), undK t.nodes.length (undT t f) m ks (iotaI a') = iotaI b → a' ≤ m ∧ b = m + 1 ∧ ∀ st, runS t (m - a') a' st = some (st ++ ks) := by
        intro ks
        induction ks with
        | nil =>
          intro a' h
          have := iotaI_last h
          simp at this
          obtain ⟨h1, h2⟩ := this
          refine ⟨by omega, by omega, fun st => ?_⟩
          rw [show m - a' = 0 by omega]; simp [runS]
        | cons k ks ih =>
          intro a' h
          unfold undK at h
          split at h
          · have := iotaI_last h; omega
          · rename_i c2
            have hp := undK_pre (L := t.nodes.length) (undT_pre t f) m ks (undT t f k (iotaI a'))
            rw [h] at hp
            obtain ⟨e1, e2⟩ := iotaI_pre hp
            obtain ⟨q, hq, q1, q2, q3⟩ := runS_und t hf f k a' _ e1 (by omega)
            rw [e1] at h
            obtain ⟨r1, r2, r3⟩ := ih _ h
            refine ⟨by omega, r2, fun st => ?_⟩
            have := runS_add t ((undT t f k (iotaI a')).length - a') (m - (undT t f k (iotaI a')).length) a' st _ (q3 st)
            rw [show (undT t f k (iotaI a')).length - a' + (m - (undT t f k (iotaI a')).length) = m - a' by omega, show a' + ((undT t f k (iotaI a')).length - a') = (undT t f k (iotaI a')).length by omega, r3] at this
            rw [this]; simp
      obtain ⟨k1, k2, k3⟩ := key _ a h
      refine ⟨m, rfl, k1, k2, fun st => ?_⟩
      have hlast : runS t 1 m (st ++ t.nodes[m].kids) = some (st ++ [(m : Int)]) := by
        simp only [runS, stpS]
        rw [List.getElem?_eq_getElem hm]
        simp only
        rw [if_pos ⟨hf _ (List.getElem_mem hm), by simp, by simp⟩]
        simp
      have := runS_add t (m - a) 1 a st _ (k3 st)
      rw [show m - a + 1 = b - a by omega, show a + (m - a) = m by omega, hlast] at this
      exact this
/-- A stack covers what stands from a place to a place. -/
inductive Seg (t : Te) : Nat → List Int → Nat → Prop
  | nil (a : Nat) : Seg t a [] a
  | cons (a c b : Nat) (st : List Int) (h : ∀ f : Nat, c < f → undT t f c (iotaI a) = iotaI (c + 1)) (h1 : a ≤ c) (h2 : Seg t (c + 1) st b) : Seg t a ((c : Int) :: st) b
theorem Seg.le {t : Te} {a b : Nat} {st : List Int} (s : Seg t a st b) : a ≤ b := by
  induction s with
  | nil => exact Nat.le_refl _
  | cons a c b st h h1 h2 ih => omega
theorem Seg.app {t : Te} {a b c : Nat} {s1 s2 : List Int} (x : Seg t a s1 b) (y : Seg t b s2 c) : Seg t a (s1 ++ s2) c := by
  induction x with
  | nil => exact y
  | cons a c b st h h1 h2 ih => exact .cons _ _ _ _ h h1 (ih y)
theorem Seg.split {t : Te} {c : Nat} {s2 : List Int} : ∀ {s1 : List Int} {a : Nat}, Seg t a (s1 ++ s2) c → ∃ b, Seg t a s1 b ∧ Seg t b s2 c
  | [], a, x => ⟨a, .nil a, x⟩
  | v :: s1, a, x => by
    cases x with
    | cons a k b st h h1 h2 =>
      obtain ⟨m, y, z⟩ := Seg.split h2
      exact ⟨m, .cons _ _ _ _ h h1 y, z⟩
theorem undK_seg {t : Te} {f n : Nat} (hn : n < t.nodes.length) (hf : n ≤ f) : ∀ {ks : List Int} {a : Nat}, Seg t a ks n → undK t.nodes.length (undT t f) n ks (iotaI a) = iotaI (n + 1)
  | [], a, s => by cases s; simp [undK, iotaI_succ]
  | k :: ks, a, s => by
    cases s with
    | cons a c b st h h1 h2 =>
      have := h2.le
      unfold undK
      rw [if_neg (by simp; omega), h f (by omega)]
      exact undK_seg hn hf h2
theorem Seg.step {t : Te} {lo a : Nat} {st st' : List Int} (s : Seg t lo st a) (h : stpS t a st = some st') : Seg t lo st' (a + 1) ∧ ∃ h : a < t.nodes.length, fineP t t.nodes[a] = true := by
  unfold stpS at h
  split at h
  · rename_i nd hnd
    obtain ⟨hlt, rfl⟩ := List.getElem?_eq_some_iff.1 hnd
    split at h
    · rename_i c
      obtain ⟨c1, c2, c3⟩ := c
      obtain rfl := Option.some.inj h
      refine ⟨?_, hlt, c1⟩
      rw [← List.take_append_drop (st.length - t.nodes[a].kids.length) st, c3] at s
      obtain ⟨b, s1, s2⟩ := Seg.split s
      refine s1.app (.cons _ _ _ _ (fun f hf => ?_) s2.le (.nil _))
      obtain ⟨f, rfl⟩ : ∃ g, f = g + 1 := ⟨f - 1, by omega⟩
      unfold undT
      have := s2.le
      rw [if_neg (by simp; omega), Int.toNat_natCast, List.getElem?_eq_getElem hlt]
      exact undK_seg hlt (by omega) s2
    · cases h
  · cases h
theorem Seg.run {t : Te} {lo : Nat} : ∀ (k a : Nat) (st st' : List Int), Seg t lo st a → runS t k a st = some st' → Seg t lo st' (a + k) ∧ ∀ i, a ≤ i → i < a + k → ∃ h : i < t.nodes.length, fineP t t.nodes[i] = true
  | 0, a, st, st', s, h => by simp [runS] at h; subst h; exact ⟨s, fun i h1 h2 => by omega⟩
  | k + 1, a, st, st', s, h => by
    rw [runS] at h
    cases hs : stpS t a st with
    | none => rw [hs] at h; cases h
    | some st2 =>
      rw [hs] at h
      obtain ⟨s2, hlt, hf⟩ := s.step hs
      obtain ⟨s3, h3⟩ := Seg.run k (a + 1) st2 st' s2 h
      refine ⟨by rw [show a + (k + 1) = a + 1 + k by omega]; exact s3, fun i h1 h2 => ?_⟩
      by_cases e : i = a
      · subst e; exact ⟨hlt, hf⟩
      · exact h3 i (by omega) (by omega)
theorem name_eq (s : Str) : nameR s = tokenT s 1 := by
  have hch := scanR_chain s
  unfold nameR tokenT
  generalize scanR s = R at *
  obtain ⟨l, p, e⟩ := R
  match l, hch with
  | [], _ => rfl
  | _ :: _ :: _, _ => rfl
  | [a], hch =>
    obtain ⟨g, h1, h2, _⟩ := hch
    simp only at h2 ⊢
    by_cases k1 : a.kind = 1
    · by_cases k2 : a.text = s
      · have : tokText a = s := by unfold tokText; rw [k1, k2]; simp
        rw [this] at h2
        have h0 : a.at' = 0 := by omega
        simp [k1, k2, h0]
      · simp [k1, k2]
    · have : ¬ (a.kind : Int) = 1 := by omega
      simp [k1, this]
theorem right_fwd (t : Te) : ∀ (rs : List Rl) (seen : List Str) (a b : Nat), rightS t rs seen a = some b → rightR t rs seen (iotaI a) = some (iotaI b) ∧ ∀ i, a ≤ i → i < b → ∃ h : i < t.nodes.length, fineP t t.nodes[i] = true
  | [], seen, a, b, h => by simp [rightS] at h; subst h; exact ⟨rfl, fun i h1 h2 => by omega⟩
  | r :: rs, seen, a, b, h => by
    unfold rightS at h
    split at h
    · rename_i c
      obtain ⟨c1, c2, c3, c4⟩ := c
      split at h
      · rename_i x hx
        obtain ⟨B, hB⟩ : ∃ B : Nat, r.body = (B : Int) := ⟨r.body.toNat, by omega⟩
        rw [hB, Int.toNat_natCast] at hx h
        obtain ⟨s, hs⟩ := Seg.run _ _ _ _ (Seg.nil a) hx
        obtain ⟨k1, k2⟩ := right_fwd t rs _ _ _ h
        have hu : undT t t.nodes.length r.body (iotaI a) = iotaI (B + 1) := by
          rw [show a + (B + 1 - a) = B + 1 by omega] at s
          cases s with
          | cons a c b st h h1 h2 =>
            cases h2
            rw [hB]; exact h _ (by omega)
        refine ⟨?_, fun i h1 h2 => ?_⟩
        · unfold rightR
          rw [if_pos ⟨by rw [name_eq]; exact c1, c2⟩, hu]; exact k1
        · by_cases e : i < B + 1
          · exact hs i h1 (by omega)
          · exact k2 i (by omega) h2
      · cases h
    · cases h
theorem right_bwd (t : Te) (hf : ∀ n ∈ t.nodes, fineP t n = true) : ∀ (rs : List Rl) (seen : List Str) (a : Nat), rightR t rs seen (iotaI a) = some (iotaI t.nodes.length) → rightS t rs seen a = some t.nodes.length
  | [], seen, a, h => by
    simp [rightR] at h
    have := congrArg List.length h
    simp at this
    simp [rightS, this]
  | r :: rs, seen, a, h => by
    unfold rightR at h
    split at h
    · rename_i c
      obtain ⟨c1, c2⟩ := c
      obtain ⟨e1, e2⟩ := iotaI_pre (rightR_pre t _ _ _ _ h)
      obtain ⟨m, hm, q1, q2, q3⟩ := runS_und t hf _ _ _ _ e1 e2
      rw [e1, q2] at h
      have ih := right_bwd t hf rs _ _ h
      unfold rightS
      rw [q2] at q3
      rw [hm, Int.toNat_natCast, if_pos ⟨by rw [← name_eq]; exact c1, c2, by omega, by omega⟩, q3 []]
      exact ih
    · cases h
/-- The program's and the reference's answers are the same. -/
theorem right_eq (t : Te) : rightP t = rightD t := by
  have hfe : ∀ n, fineT t n = fineP t n := fun n => (fineP_eq t n).symm
  unfold rightP rightD
  congr 1
  apply Bool.eq_iff_iff.2
  simp only [decide_eq_true_eq]
  constructor
  · intro h
    obtain ⟨k1, k2⟩ := right_fwd t _ _ _ _ h
    rw [show iotaI 0 = [] from rfl] at k1
    rw [k1]
    simp only [decide_true, Bool.true_and, List.all_eq_true]
    intro n hn
    obtain ⟨i, hi, rfl⟩ := List.getElem_of_mem hn
    obtain ⟨_, hf⟩ := k2 i (by omega) hi
    rw [hfe]; exact hf
  · intro h
    split at h
    · rename_i all hall
      simp only [Bool.and_eq_true, decide_eq_true_eq, List.all_eq_true] at h
      rw [h.1] at hall
      exact right_bwd t (fun n hn => by rw [← hfe]; exact h.2 n hn) _ _ 0 hall
    · cases h
end Go.Proofs.Ytdbbgkdepjidjaa.Al
namespace Go.Proofs.Ytdbbgkdepjidjaa.Al
open Go Go.RowKit
set_option linter.unusedSimpArgs false
set_option linter.unusedVariables false
def iotaF (a k : Nat) : List Int := (List.range k).map fun i : Nat => ((a + i : Nat) : Int)
theorem iotaF_zero (k : Nat) : iotaF 0 k = iotaI k := by simp [iotaF, iotaI]
theorem iotaF_succ (a k : Nat) : iotaF a (k + 1) = (a : Int) :: iotaF (a + 1) k := by
  simp only [iotaF, List.range_succ_eq_map, List.map_cons, List.map_map, Nat.add_zero]
  congr 1
  apply List.map_congr_left
  intro i _
  simp only [Function.comp, Nat.succ_eq_add_one]; congr 1; omega
theorem iotaF_add (a j k : Nat) : iotaF a (j + k) = iotaF a j ++ iotaF (a + j) k := by
  induction j generalizing a with
  | zero => simp [iotaF]
  | succ j ih => rw [show j + 1 + k = (j + k) + 1 by omega, iotaF_succ, iotaF_succ, ih, show a + 1 + j = a + (j + 1) by omega]; simp
/-- What is known of a tree that may be. -/
structure RTe (t : Te) : Prop where
  r0 : 0 < t.rules.length
  r1 : t.rules.length ≤ 24
  n1 : t.nodes.length ≤ 200
  names : (rnames t).Nodup
  fine : ∀ n ∈ t.nodes, fineT t n = true
  perm : (t.nodes.flatMap (·.kids) ++ t.rules.map (·.body)).Perm (iotaI t.nodes.length)
  lt : ∀ i (h : i < t.nodes.length), ∀ k ∈ t.nodes[i].kids, 0 ≤ k ∧ k < i
  tok : ∀ r ∈ t.rules, tokenT r.name 1 = true
theorem stpS_perm {t : Te} {a : Nat} {st st' : List Int} (h : stpS t a st = some st') : ∃ hlt : a < t.nodes.length, (t.nodes[a].kids ++ st').Perm (st ++ [(a : Int)]) ∧ fineP t t.nodes[a] = true ∧ (∀ k ∈ t.nodes[a].kids, k ∈ st) ∧ ∀ x ∈ st', x ∈ st ∨ x = a := by
  unfold stpS at h
  split at h
  · rename_i nd hnd
    obtain ⟨hlt, rfl⟩ := List.getElem?_eq_some_iff.1 hnd
    split at h
    · rename_i c
      obtain ⟨c1, c2, c3⟩ := c
      obtain rfl := Option.some.inj h
      refine ⟨hlt, ?_, c1, fun k hk => ?_, fun x hx => ?_⟩
      · have e := List.take_append_drop (st.length - t.nodes[a].kids.length) st
        rw [c3] at e
        rw [← List.append_assoc]
        refine List.Perm.append_right _ ?_
        refine List.perm_append_comm.trans ?_
        rw [e]
      · rw [← c3] at hk; exact List.mem_of_mem_drop hk
      · simp only [List.mem_append, List.mem_singleton] at hx
        exact hx.imp List.mem_of_mem_take id
    · cases h
  · cases h
theorem runS_perm {t : Te} : ∀ (k a : Nat) (st st' : List Int), runS t k a st = some st' → (∀ x ∈ st, 0 ≤ x ∧ x < (a : Int)) →
    (((t.nodes.drop a).take k).flatMap (·.kids) ++ st').Perm (st ++ iotaF a k) ∧ (∀ x ∈ st', 0 ≤ x ∧ x < ((a + k : Nat) : Int)) ∧ ∀ i (h : i < t.nodes.length), a ≤ i → i < a + k → ∀ m ∈ t.nodes[i].kids, 0 ≤ m ∧ m < i
  | 0, a, st, st', h, hs => by
    simp [runS] at h; subst h
    exact ⟨by simp [iotaF], by simpa using hs, fun i _ h1 h2 => by omega⟩
  | k + 1, a, st, st', h, hs => by
    rw [runS] at h
    cases hst : stpS t a st with
    | none => rw [hst] at h; cases h
    | some st2 =>
      rw [hst] at h
      obtain ⟨hlt, p1, p2, p3, p4⟩ := stpS_perm hst
      have hs2 : ∀ x ∈ st2, 0 ≤ x ∧ x < ((a + 1 : Nat) : Int) := fun x hx => by
        rcases p4 x hx with e | e
        · have := hs x e; omega
        · omega
      obtain ⟨q1, q2, q3⟩ := runS_perm k (a + 1) st2 st' h hs2
      refine ⟨?_, by rw [show a + (k + 1) = a + 1 + k by omega]; exact q2, fun i hi h1 h2 m hm => ?_⟩
      · rw [List.drop_eq_getElem_cons hlt, List.take_succ_cons, List.flatMap_cons, List.append_assoc, iotaF_succ]
        refine (List.Perm.append_left _ q1).trans ?_
        rw [← List.append_assoc]
        refine (List.Perm.append_right _ p1).trans ?_
        simp
      · by_cases e : i = a
        · subst e; exact hs m (p3 m hm)
        · exact q3 i hi (by omega) (by omega) m hm
theorem rightS_all {t : Te} : ∀ (rs : List Rl) (seen : List Str) (a b : Nat), rightS t rs seen a = some b → seen.Nodup → a ≤ b ∧
    (seen ++ rs.map (·.name)).Nodup ∧ (((t.nodes.drop a).take (b - a)).flatMap (·.kids) ++ rs.map (·.body)).Perm (iotaF a (b - a)) ∧ (∀ i (h : i < t.nodes.length), a ≤ i → i < b → ∀ m ∈ t.nodes[i].kids, 0 ≤ m ∧ m < i) ∧ ∀ r ∈ rs, tokenT r.name 1 = true
  | [], seen, a, b, h, hs => by
    simp [rightS] at h; subst h
    exact ⟨Nat.le_refl _, by simpa using hs, by simp [iotaF], fun i _ h1 h2 => by omega, by simp⟩
  | r :: rs, seen, a, b, h, hs => by
    unfold rightS at h
    split at h
    · rename_i c
      obtain ⟨c1, c2, c3, c4⟩ := c
      split at h
      · rename_i x hx
        obtain ⟨B, hB⟩ : ∃ B : Nat, r.body = (B : Int) := ⟨r.body.toNat, by omega⟩
        rw [hB, Int.toNat_natCast] at hx h
        have hns : (seen ++ [r.name]).Nodup := by
          rw [List.nodup_append]
          exact ⟨hs, by simp, fun a ha b hb e => by simp at hb; subst e; subst hb; exact c2 ha⟩
        obtain ⟨k1, k2, k3, k4, k5⟩ := rightS_all rs _ _ _ h hns
        obtain ⟨p1, p2, p3⟩ := runS_perm _ _ _ _ hx (by simp)
        obtain ⟨s, hsf⟩ := Seg.run _ _ _ _ (Seg.nil a) hx
        have hxB : x = (B : Int) := by
          rw [show a + (B + 1 - a) = B + 1 by omega] at s
          cases s with
          | cons a c b st h h1 h2 => cases h2; rfl
        subst hxB
        refine ⟨by omega, by simpa using k2, ?_, fun i hi h1 h2 m hm => ?_, fun q hq => ?_⟩
        · have e1 : b - a = (B + 1 - a) + (b - (B + 1)) := by omega
          have e2 : (t.nodes.drop a).take (b - a) = (t.nodes.drop a).take (B + 1 - a) ++ (t.nodes.drop (B + 1)).take (b - (B + 1)) := by
            rw [e1, List.take_add, List.drop_drop, show a + (B + 1 - a) = B + 1 by omega]
          rw [e2, List.flatMap_append, e1, iotaF_add, show a + (B + 1 - a) = B + 1 by omega]
          simp only [List.map_cons, hB]
          simp only [List.nil_append] at p1
          refine List.Perm.trans ?_ (p1.append k3)
          simp only [List.append_assoc]
          refine List.Perm.append_left _ ?_
          refine List.Perm.trans (List.perm_middle) ?_
          simp
        · by_cases e : i < B + 1
          · exact p3 i hi h1 (by omega) m hm
          · exact k4 i hi (by omega) h2 m hm
        · rcases List.mem_cons.1 hq with rfl | hq
          · exact c1
          · exact k5 q hq
      · cases h
    · cases h
theorem rte_of {t : Te} (h : rightP t = true) : RTe t := by
  have hD := h
  rw [right_eq] at hD
  unfold rightP at h
  simp only [Bool.and_eq_true, decide_eq_true_eq] at h
  obtain ⟨⟨⟨h1, h2⟩, h3⟩, h4⟩ := h
  obtain ⟨k1, k2, k3, k4, k5⟩ := rightS_all _ _ _ _ h4 (by simp)
  obtain ⟨_, hfi⟩ := right_fwd t _ _ _ _ h4
  rw [iotaF_zero] at k3
  simp only [Nat.sub_zero, List.drop_zero, List.take_length] at k3
  exact ⟨h1, h2, h3, by simpa [rnames] using k2, fun n hn => by
    obtain ⟨i, hi, rfl⟩ := List.getElem_of_mem hn
    rw [← fineP_eq]; exact (hfi i (by omega) hi).2, k3, fun i hi m hm => k4 i hi (by omega) hi m hm, k5⟩
theorem iotaI_nodup (n : Nat) : (iotaI n).Nodup := by
  unfold iotaI
  refine List.Pairwise.map _ (fun a b h => ?_) List.nodup_range
  intro e; exact h (by omega)
theorem RTe.nodup {t : Te} (r : RTe t) : (t.nodes.flatMap (·.kids) ++ t.rules.map (·.body)).Nodup := r.perm.nodup_iff.2 (iotaI_nodup _)
theorem flat_at {α : Type} {f : α → List Int} : ∀ (l : List α) (i j : Nat) (hi : i < l.length) (hj : j < l.length) (m : Int), (l.flatMap f).Nodup → m ∈ f l[i] → m ∈ f l[j] → i = j
  | [], i, j, hi, hj, m, _, _, _ => by simp at hi
  | a :: l, i, j, hi, hj, m, h, h1, h2 => by
    rw [List.flatMap_cons, List.nodup_append] at h
    match i, j with
    | 0, 0 => rfl
    | 0, j + 1 =>
      exfalso
      simp at h1 h2 hj
      exact h.2.2 m h1 m (List.mem_flatMap.2 ⟨_, List.getElem_mem hj, h2⟩) rfl
    | i + 1, 0 =>
      exfalso
      simp at h1 h2 hi
      exact h.2.2 m h2 m (List.mem_flatMap.2 ⟨_, List.getElem_mem hi, h1⟩) rfl
    | i + 1, j + 1 =>
      simp at hi hj h1 h2
      rw [flat_at l i j hi hj m h.2.1 h1 h2]
/-- A node is one's kid. -/
theorem RTe.one {t : Te} (r : RTe t) {i j : Nat} (hi : i < t.nodes.length) (hj : j < t.nodes.length) {m : Int} (h1 : m ∈ t.nodes[i].kids) (h2 : m ∈ t.nodes[j].kids) : i = j :=
  flat_at (f := (·.kids)) t.nodes i j hi hj m (List.nodup_append.1 r.nodup).1 h1 h2
theorem RTe.body {t : Te} (r : RTe t) {q : Rl} (hq : q ∈ t.rules) : 0 ≤ q.body ∧ q.body < t.nodes.length := by
  have : q.body ∈ iotaI t.nodes.length := r.perm.mem_iff.1 (List.mem_append.2 (.inr (List.mem_map.2 ⟨q, hq, rfl⟩)))
  unfold iotaI at this
  obtain ⟨i, hi, e⟩ := List.mem_map.1 this
  simp at hi
  omega
end Go.Proofs.Ytdbbgkdepjidjaa.Al
namespace Go.Proofs.Ytdbbgkdepjidjaa.Al
open Go Go.RowKit
set_option linter.unusedSimpArgs false
set_option linter.unusedVariables false
attribute [-simp] List.getD_eq_getElem?_getD Int.not_lt Int.not_le List.map_take
structure RightG (g : Gm) : Prop where
  head : 0 ≤ g.terms ∧ g.terms ≤ 16 ∧ 1 ≤ g.nons ∧ g.nons ≤ 24 ∧ 0 ≤ g.start ∧ g.start < g.nons ∧ g.prods.length ≤ 60
  prods : ∀ p ∈ g.prods, 0 ≤ p.left ∧ p.left < g.nons ∧ p.right.length ≤ 8 ∧ ∀ s ∈ p.right, 0 ≤ s.n ∧ s.n < (if s.non = true then g.nons else g.terms)
theorem RightG.sym {g : Gm} (r : RightG g) {p : Pr} (hp : p ∈ g.prods) {s : Sy} (hs : s ∈ p.right) : 0 ≤ s.n ∧ s.n ≤ 23 := by
  have h1 := (r.prods p hp).2.2.2 s hs
  have h2 := r.head
  split at h1 <;> omega
end Go.Proofs.Ytdbbgkdepjidjaa.Al
namespace Go.Proofs.Ytdbbgkdepjidjaa.Al
open Go Go.RowKit
set_option linter.unusedSimpArgs false
set_option linter.unusedVariables false
attribute [-simp] List.getD_eq_getElem?_getD Int.not_lt Int.not_le List.map_take
/-! ### Steps -/
def okS (s : Sy) : Prop := 0 ≤ s.n ∧ s.n ≤ 23
def okP (p : Pr) : Prop := (0 ≤ p.left ∧ p.left ≤ 23) ∧ p.right.length ≤ 8 ∧ ∀ s ∈ p.right, okS s
def okG (g : Gm) : Prop := (0 ≤ g.terms ∧ g.terms ≤ 16) ∧ (0 ≤ g.nons ∧ g.nons ≤ 24) ∧ (0 ≤ g.start ∧ g.start ≤ 23) ∧ g.prods.length ≤ 60 ∧ ∀ p ∈ g.prods, okP p
theorem RightG.ok {g : Gm} (r : RightG g) : okG g := by
  obtain ⟨a, b, c, d, e, f, i⟩ := r.head
  refine ⟨⟨a, b⟩, ⟨by omega, d⟩, ⟨e, by omega⟩, i, fun p hp => ?_⟩
  obtain ⟨h1, h2, h3, h4⟩ := r.prods p hp
  exact ⟨⟨h1, by omega⟩, h3, fun s hs => r.sym hp hs⟩
/-! ### Readers that may be -/
end Go.Proofs.Ytdbbgkdepjidjaa.Al
namespace Go.Proofs.Ytdbbgkdepjidjaa.Al
open Go Go.RowKit
set_option linter.unusedSimpArgs false
set_option linter.unusedVariables false
attribute [-simp] List.getD_eq_getElem?_getD Int.not_lt Int.not_le List.map_take
structure TeSm (t : Te) : Prop where
  r : t.rules.length ≤ 30
  n : t.nodes.length ≤ 210
  rn : ∀ r ∈ t.rules, r.name.length ≤ 2 ^ 30
  nn : ∀ n ∈ t.nodes, n.name.length ≤ 2 ^ 30
  ks : ∀ n ∈ t.nodes, n.kids.length ≤ 2 ^ 30
section
variable {X : Cx} {h : AH} {Q : V → AH → Prop}
theorem Wk.l2 {a b c d : V} (x : Wk a c) (y : Wk b d) : Wk (.agg [a, b]) (.agg [c, d]) := .agg _ _ rfl fun i h1 h2 => by
  match i with
  | 0 => exact x
  | 1 => exact y
  | n + 2 => simp at h1; omega
theorem Wk.sln {e e1 st : Nat} {l : List V} (h : l = [] ∨ e1 = e) : Wk (.sl e1 st l) (.sl e 0 l) := by
  rcases h with rfl | rfl
  · exact .nil _ _ _
  · exact .sl _ _ _
end
/-- Productions, as they lie: of their symbols less may be known. -/
def PrWL : List V → List Pr → Prop
  | [], [] => True
  | v :: vs, p :: ps => (∃ e st, v = .agg [.int .i64 p.left, .sl e st (p.right.map symV)] ∧ (p.right = [] ∨ e = 2)) ∧ PrWL vs ps
  | _, _ => False
theorem PrWL.app : ∀ {vs : List V} {ps : List Pr} {us : List V} {qs : List Pr}, PrWL vs ps → PrWL us qs → PrWL (vs ++ us) (ps ++ qs)
  | [], [], _, _, _, h => h
  | v :: vs, p :: ps, _, _, ⟨a, b⟩, h => ⟨a, PrWL.app b h⟩
theorem PrWL.len : ∀ {vs : List V} {ps : List Pr}, PrWL vs ps → vs.length = ps.length
  | [], [], _ => rfl
  | v :: vs, p :: ps, ⟨_, b⟩ => by simp [PrWL.len b]
theorem PrWL.wkl : ∀ {vs : List V} {ps : List Pr}, PrWL vs ps → WkL (cellsOf vs) (cellsOf (ps.map prV))
  | [], [], _ => .nil
  | v :: vs, p :: ps, ⟨⟨e, st, hv, h⟩, b⟩ => by
    subst hv
    simp only [List.map_cons, cellsOf_cons]
    refine .cons (.same _) (.cons (Wk.sln ?_) (PrWL.wkl b))
    rcases h with h | h
    · left; rw [h]; rfl
    · exact .inr h
theorem PrWL.wk {vs : List V} {ps : List Pr} (h : PrWL vs ps) {e st : Nat} (he : vs = [] ∨ e = 2) : Wk (.sl e st vs) (.sl 2 0 (ps.map prV)) := by
  obtain ⟨a, b⟩ := h.wkl.get
  rcases he with rfl | rfl
  · match ps, h with
    | [], _ => exact .nil _ _ _
  · exact .sld _ _ _ _ (by simp [h.len]) (fun v hv => by
      obtain ⟨p, _, rfl⟩ := List.mem_map.1 hv
      rfl) a b
theorem RTe.in {t : Te} (r : RTe t) {i : Nat} (hi : i < t.nodes.length) : ∀ m ∈ t.nodes[i].kids, 0 ≤ m ∧ m < t.nodes.length := fun m hm => by have := r.lt i hi m hm; omega
end Go.Proofs.Ytdbbgkdepjidjaa.Al
namespace Go.Proofs.Ytdbbgkdepjidjaa.Al
open Go Go.RowKit
set_option linter.unusedSimpArgs false
set_option linter.unusedVariables false
attribute [-simp] List.getD_eq_getElem?_getD Int.not_lt Int.not_le List.map_take
structure LSame6 (X : Cx) : Prop where
  same : Has (Ecx X) K.rules_Same A.rules_Same
  same1 : Has (Ecx X) K.rules_Same_1 A.rules_Same_1
  eqR : Has (Ecx X) K.slices_Equal_Rule A.slices_Equal_Rule
  eqN : Has (Ecx X) K.slices_EqualFunc_Node A.slices_EqualFunc_Node
  eqI : Has (Ecx X) K.slices_Equal_int A.slices_Equal_int
theorem eqfF_node : A.slices_EqualFunc_Node = eqfF 3 3 true true [.int .i64 0, .str [], .sl 0 1 []] [.int .i64 0, .str [], .sl 0 1 []] := rfl
section
variable {X : Cx} {h : AH} {Q : V → AH → Prop}
theorem eqI6_spec (H : Has (Ecx X) K.slices_Equal_int A.slices_Equal_int) (a b : List Int) (s t : Nat) (ha : a.length < 2 ^ 62) (hQ : Q (.bool (decide (a = b))) h) : Ecx X K.slices_Equal_int [.sl 1 s (a.map (V.int .i64)), .sl 1 t (b.map (V.int .i64))] h Q := by
  refine fn_walk H (by simp [A.slices_Equal_int]) fun wf => ?_
  by_cases hl : a.length = b.length
  · have hl' : (a.length : Int) = b.length := by omega
    simp [A.slices_Equal_int, hl']
    refine loopI (n := a.length) (fun m env h' => ∃ k, k ≤ a.length ∧ m = a.length - k ∧ h' = h ∧ env = [(0, .sl 1 s (a.map (V.int .i64))), (1, .sl 1 t (b.map (V.int .i64))), (12, .int .i64 b.length), (13, .int .i64 k)] ∧ a.take k = b.take k) ?_ ⟨0, by omega, by omega, rfl, by rfl, rfl⟩
    rintro m env h' ⟨k, hk, rfl, rfl, rfl, he⟩
    unfold A.slices_Equal_int.L0
    by_cases hlt : k < a.length
    · have hlt' : (k : Int) < b.length := by omega
      have hlb : k < b.length := by omega
      have hga : (a.map (V.int .i64)).getD k .undef = (V.int .i64) a[k] := Enc.getD (enc := (V.int .i64)) hlt
      have hgb : (b.map (V.int .i64)).getD k .undef = (V.int .i64) b[k] := Enc.getD (enc := (V.int .i64)) hlb
      have hw1 : IntKind.i64.wrap ((k : Int) + 1) = ((k + 1 : Nat) : Int) := by rw [wrap_i64 (by omega) (by omega)]; rfl
      by_cases e : a[k] = b[k]
      · simp [hl', hlt', hga, hgb, V.cells, V.good, e, hw1]
        exact ⟨a.length - (k + 1), by omega, iv ⟨k + 1, by omega, rfl, rfl, rfl, take_ext2 hlt hlb he e⟩⟩
      · have hf : decide (a = b) = false := by
          simp only [decide_eq_false_iff_not]; rintro rfl; exact e rfl
        rw [hf] at hQ
        simp [hl', hlt', hga, hgb, V.cells, e]; exact fin (by simp) hQ
    · have hlt' : ¬ (k : Int) < b.length := by omega
      simp [hl', hlt']
      refine fin (by simp) ?_
      have hk : k = a.length := by omega
      rw [hk, List.take_length, hl, List.take_length] at he
      simpa [he] using hQ
  · have hl' : ¬ (a.length : Int) = b.length := by omega
    simp [A.slices_Equal_int, hl']
    refine fin (by simp) ?_
    have : decide (a = b) = false := by simp; intro h; exact hl (by rw [h])
    rw [this] at hQ; exact hQ
theorem eqRl_spec (H : Has (Ecx X) K.slices_Equal_Rule A.slices_Equal_Rule) (a b : List Rl) (s t : Nat) (ha : a.length < 2 ^ 62) (hQ : Q (.bool (decide (a = b))) h) : Ecx X K.slices_Equal_Rule [.sl 2 s (a.map rlV), .sl 2 t (b.map rlV)] h Q := by
  refine fn_walk H (by simp [A.slices_Equal_Rule]) fun wf => ?_
  by_cases hl : a.length = b.length
  · have hl' : (a.length : Int) = b.length := by omega
    simp [A.slices_Equal_Rule, hl']
    refine loopI (n := a.length) (fun m env h' => ∃ k, k ≤ a.length ∧ m = a.length - k ∧ h' = h ∧ env = [(0, .sl 2 s (a.map rlV)), (1, .sl 2 t (b.map rlV)), (12, .int .i64 b.length), (13, .int .i64 k)] ∧ a.take k = b.take k) ?_ ⟨0, by omega, by omega, rfl, rfl, rfl⟩
    rintro m env h' ⟨k, hk, rfl, rfl, rfl, he⟩
    unfold A.slices_Equal_Rule.L0
    by_cases hlt : k < a.length
    · have hlt' : (k : Int) < b.length := by omega
      have hlb : k < b.length := by omega
      have hga : (a.map rlV).getD k .undef = rlV a[k] := Enc.getD hlt
      have hgb : (b.map rlV).getD k .undef = rlV b[k] := Enc.getD hlb
      have hw1 : IntKind.i64.wrap ((k : Int) + 1) = ((k + 1 : Nat) : Int) := by rw [wrap_i64 (by omega) (by omega)]; rfl
      by_cases e : a[k] = b[k]
      · simp [hl', hlt', hga, hgb, V.cells, rlV, rlC, e, hw1]
        exact ⟨a.length - (k + 1), by omega, iv ⟨k + 1, by omega, rfl, rfl, rfl, take_ext2 hlt hlb he e⟩⟩
      · have hne : (a[k].name = b[k].name → ¬ a[k].body = b[k].body) := by
          intro e1 e2; apply e; cases ha : a[k]; cases hb : b[k]; simp_all
        have hf : decide (a = b) = false := by
          simp only [decide_eq_false_iff_not]; rintro rfl; exact e rfl
        rw [hf] at hQ
        by_cases e1 : a[k].name = b[k].name <;> by_cases e2 : a[k].body = b[k].body <;> first | exact absurd e2 (hne e1) | (simp [hl', hlt', hga, hgb, V.cells, rlV, rlC, e1, e2]; exact fin (by simp) hQ)
    · have hlt' : ¬ (k : Int) < b.length := by omega
      simp [hl', hlt']
      refine fin (by simp) ?_
      have hk : k = a.length := by omega
      rw [hk, List.take_length, hl, List.take_length] at he
      simpa [he] using hQ
  · have hl' : ¬ (a.length : Int) = b.length := by omega
    simp [A.slices_Equal_Rule, hl']
    refine fin (by simp) ?_
    have : decide (a = b) = false := by simp; intro h; exact hl (by rw [h])
    rw [this] at hQ; exact hQ
theorem ruSame1_spec (L : LSame6 X) (a b : Nd) (ha : a.kids.length < 2 ^ 62) (hQ : Q (.bool (decide (a = b))) h) : Ecx X K.rules_Same_1 [ndV a, ndV b] h Q := by
  refine fn_walk L.same1 (by simp [A.rules_Same_1]) fun wf => ?_
  have gr := ((Gr.refl h).new (ndC a)).new (ndC b)
  simp [A.rules_Same_1, ndV, V.cells, V.good, ndC] at gr ⊢
  have hd : decide (a = b) = (decide (a.kind = b.kind) && decide (a.name = b.name) && decide (a.kids = b.kids)) := by
    obtain ⟨l1, r1, k1⟩ := a; obtain ⟨l2, r2, k2⟩ := b
    by_cases e1 : l1 = l2 <;> by_cases e2 : r1 = r2 <;> by_cases e3 : k1 = k2 <;> simp [e1, e2, e3]
  rw [hd] at hQ
  by_cases e1 : a.kind = b.kind
  case neg => simp [e1] at hQ ⊢; exact fin_wk gr (.same _) (by simp) hQ
  by_cases e2 : a.name = b.name
  case neg => simp [e1, e2] at hQ gr ⊢; exact fin_wk gr (.same _) (by simp) hQ
  simp [e1, e2] at hQ gr ⊢
  refine ecall (eqI6_spec L.eqI a.kids b.kids 0 0 ha ?_)
  simp
  exact fin_wk gr (.same _) (by simp) hQ
theorem ruSame_spec (L : LSame6 X) (a b : Te) (hr : a.rules.length < 2 ^ 62) (hn : a.nodes.length < 2 ^ 62) (hk : ∀ n ∈ a.nodes, n.kids.length < 2 ^ 62) (hQ : Q (.bool (decide (a = b))) h) : Ecx X K.rules_Same [teV a, teV b] h Q := by
  refine fn_walk L.same (by simp [A.rules_Same]) fun wf => ?_
  have gr := ((Gr.refl h).new (teC a)).new (teC b)
  simp [A.rules_Same, teV, V.cells, V.good, show ∀ t, teC t = [.sl 2 0 (t.rules.map rlV), .sl 3 0 (t.nodes.map ndV)] from fun _ => rfl] at gr ⊢
  have hd : decide (a = b) = (decide (a.rules = b.rules) && decide (a.nodes = b.nodes)) := by
    obtain ⟨r1, k1⟩ := a; obtain ⟨r2, k2⟩ := b
    by_cases e1 : r1 = r2 <;> by_cases e2 : k1 = k2 <;> simp [e1, e2]
  rw [hd] at hQ
  refine ecall (eqRl_spec L.eqR a.rules b.rules 0 0 hr ?_)
  by_cases e1 : a.rules = b.rules
  case neg => simp [e1] at hQ ⊢; exact fin_wk gr (.same _) (by simp) hQ
  simp [e1] at hQ gr ⊢
  have heq := L.eqN
  rw [eqfF_node] at heq
  refine ecall (equalFunc rfl rfl encNd encNd heq a.nodes b.nodes 0 0 _ [] [] (fun p q => decide (p = q)) hn (fun p hp q _ Q' h' _ hQ' => ruSame1_spec L p q (hk p hp) hQ') ?_)
  have : allEq (fun p q : Nd => decide (p = q)) a.nodes b.nodes = decide (a.nodes = b.nodes) := by
    by_cases e : a.nodes = b.nodes
    · simp [e, (allEq_iff (f := fun p q : Nd => decide (p = q)) (by simp) _ _).2 rfl]
    · cases h1 : allEq (fun p q : Nd => decide (p = q)) a.nodes b.nodes with
      | false => simp [e]
      | true => exact absurd ((allEq_iff (f := fun p q : Nd => decide (p = q)) (by simp) _ _).1 h1) e
  rw [this]
  simp
  exact fin_wk gr (.same _) (by simp) hQ
end
end Go.Proofs.Ytdbbgkdepjidjaa.Al
