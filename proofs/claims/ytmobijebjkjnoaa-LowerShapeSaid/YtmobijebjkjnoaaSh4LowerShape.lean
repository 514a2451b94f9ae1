/-
  What the law LowerShape needs of this claim's texts (part 4). Conditions: each theorem's own.
-/
import Derived.Test.YtmobijebjkjnoaaAlC
import Derived.Test.YtmobijebjkjnoaaChecked
import Derived.KernelRfl
import Derived.Test.YtmobijebjkjnoaaAlKeys
import Derived.Test.YtmobijebjkjnoaaAlArg
import Derived.Test.YtmobijebjkjnoaaAlA
import Derived.Test.YtmobijebjkjnoaaAlB
import Derived.Test.YtmobijebjkjnoaaSh1LowerShape
import Derived.Test.YtmobijebjkjnoaaSh2LowerShape
import Derived.Test.YtmobijebjkjnoaaSh3LowerShape
namespace Go.Proofs.Ytmobijebjkjnoaa.Al
open Go Go.RowKit
set_option linter.unusedSimpArgs false
set_option linter.unusedVariables false
/-- With other stamps' ghosts. -/
theorem Rel.retip {X : Cx} {g g' : Gh} {w : World} {h h' : AH} (n3 : 3 ≤ h'.next) {n : Nat} (hn : n ≤ h'.next) (hnx : h'.nobj ≤ h.nobj) (hgo : g'.obj = g.obj) (hgm : g'.mp = g.mp) (hgp : g'.pub = g.pub) (hgt : ∀ s, s < n → g'.tip s = g.tip s) (h3n : 3 ≤ n)
    (ht : ∀ s e, s < n → h'.tips s = some e → h.tips s = some e) {v : V} {x : Value} (r : Rel X g w h v x) (bd : Bdd n h'.nobj v) : Rel X g' w h' v x := by
  induction r with
  | bool b => exact .bool b
  | int k n => exact .int k n
  | str s => exact .str s
  | slnil e st hst => exact .slnil e st hst
  | slemp e a => exact .slemp e a
  | sl e st l b' off cap x h1 hs hcap he hc ho hp hr h2 h3 ih =>
    cases bd with
    | sl _ _ _ hs' hl =>
      have hsn : st < n := by omega
      refine .sl e st l b' off cap x h1 (by omega) hcap he hc ho (by rw [hgp]; exact hp) (fun i hi => ih i hi (hl _ (List.getElem_mem hi))) h2 (fun e' he' => ?_)
      obtain ⟨a, b, c, d⟩ := h3 e' (ht _ _ hsn he')
      exact ⟨a, by rw [hgt _ hsn]; exact b, by rw [hgp]; exact c, d⟩
  | agg l cs hl ho hr ih =>
    cases bd with
    | agg _ hb => exact .agg l cs hl ho (fun i h1 h2 => ih i h1 h2 (hb _ (List.getElem_mem h1)))
  | ptr o off hn hm => cases bd with | ptr _ _ ho => rw [← hgo]; exact .ptr o off ho (by rw [hgm]; exact hm)
  | mapr o hn hm => cases bd with | mapr _ ho => rw [← hgo]; exact .mapr o ho (by rw [hgm]; exact hm)
  | mapn => exact .mapn
  | osl e o off len cap c hn hm hc hk => cases bd with | osl _ _ _ _ _ ho => rw [← hgo]; exact .osl e o off len cap c ho (by rw [hgm]; exact hm) hc hk
  | rptr l off b' base x hc ho hp hr ih =>
    cases bd with
    | rptr _ _ hb => exact .rptr l off b' base x hc ho (by rw [hgp]; exact hp) (fun i hi => ih i hi (hb _ (List.getElem_mem hi)))
  | nilp => exact .nilp
  | fn f first cap fs cs hf hcl hr1 hr2 ih1 ih2 =>
    cases bd with
    | fn _ _ _ b1 b2 => exact .fn f first cap fs cs hf hcl (fun i h1 h2 => ih1 i h1 h2 (b1 _ (List.getElem_mem h1))) (fun i h1 h2 => ih2 i h1 h2 (b2 _ (List.getElem_mem h1)))
  | nilf => exact .nilf
  | tup l cs hl hr ih =>
    cases bd with
    | tup _ hb => exact .tup l cs hl (fun i h1 h2 => ih i h1 h2 (hb _ (List.getElem_mem h1)))
  | undef v => exact .undef v
/-- From h to h1 a slice of that stamp has been appended to. -/
structure SE (e : Nat) (h h1 : AH) (st st1 : Nat) : Prop where
  next : h.next ≤ h1.next
  nobj : h.nobj ≤ h1.nobj
  objs : ∀ o, o < h.nobj → h1.objs o = h.objs o
  tips : ∀ s, s < h.next → (s ≠ st ∨ s ≤ 2) → h1.tips s = h.tips s
  st : (st1 = st ∧ h1.tips st = h.tips st ∧ (st ≤ 2 ∨ st < h.next)) ∨ (h.next ≤ st1 ∧ st1 < h1.next ∧ h1.tips st1 = some e)
theorem SE.refl {e : Nat} {h : AH} {st : Nat} (hs : st ≤ 2 ∨ st < h.next) : SE e h h st st := ⟨Nat.le_refl _, Nat.le_refl _, fun _ _ => rfl, fun _ _ _ => rfl, .inl ⟨rfl, rfl, hs⟩⟩
theorem SE.new {e : Nat} {h h1 : AH} {st st1 : Nat} (s : SE e h h1 st st1) (z : List V) : SE e h (h1.new z) st st1 :=
  ⟨s.next, Nat.le_succ_of_le s.nobj, fun o ho => by rw [new_objs_ne _ _ (by have := s.nobj; omega)]; exact s.objs o ho, s.tips, s.st⟩
theorem SE.set {e : Nat} {h h1 : AH} {st st1 : Nat} (s : SE e h h1 st st1) {o : Nat} (ho : h.nobj ≤ o) (z : List V) : SE e h (h1.set o z) st st1 :=
  ⟨s.next, s.nobj, fun o' ho' => by rw [set_objs_ne _ _ _ (by omega)]; exact s.objs o' ho', s.tips, s.st⟩
theorem push_tips_at {h : AH} {st e s : Nat} (h1 : s < h.next) (h2 : s ≠ st ∨ s ≤ 2) : (h.push st e).tips s = h.tips s := by
  have hne : s ≠ h.next := by omega
  unfold AH.push
  split
  · exact updN_ne _ _ hne
  · have e1 : ((h.drop st).grow e).tips s = (h.drop st).tips s := updN_ne _ _ hne
    rw [e1]; exact updN_ne _ _ (by omega)
theorem SE.push {e : Nat} {h h1 : AH} (n3 : 3 ≤ h.next) {st st1 : Nat} (s : SE e h h1 st st1) : SE e h (h1.push st1 e) st h1.next := by
  have a := s.next
  refine ⟨by rw [push_next]; omega, by rw [push_nobj]; exact s.nobj, fun o ho => by rw [push_objs]; exact s.objs o ho, fun k hk hn => ?_, .inr ⟨a, by rw [push_next]; omega, push_new h1 st1 e⟩⟩
  rw [push_tips_at (by omega) ?_]
  · exact s.tips k hk hn
  · rcases s.st with ⟨b, _⟩ | ⟨b, _⟩
    · rw [b]; exact hn
    · omega
/-- A slice to which may be appended. -/
structure May (e : Nat) (h : AH) (e1 st : Nat) (l : List V) : Prop where
  el : l = [] ∨ e1 = e
  st : st = 1 ∨ st = 2 ∨ h.tips st = some e
theorem May.app {e : Nat} {h : AH} {e1 st : Nat} {l : List V} (y : May e h e1 st l) {sz e2 : Nat} {m : List V} (hm : m ≠ []) (he : e2 = e) (hb : (l.length + m.length) * sz ≤ 2 ^ 46) {K : V → AH → Prop} {zK : Lz K}
    (hk : K (.sl e h.next (l ++ m)) (h.push st e)) : App h e sz e1 st l e2 m zK :=
  ⟨fun h0 => absurd h0 hm, fun _ => ⟨y.st, y.el, he, hb, hk⟩⟩
theorem May.se {e : Nat} {h h1 : AH} {e1 st st1 : Nat} {l : List V} (y : May e h e1 st l) (s : SE e h h1 st st1) {l1 : List V} {e2 : Nat} (hl : l1 = [] ∨ e2 = e) : May e h1 e2 st1 l1 :=
  ⟨hl, by
    rcases s.st with ⟨b, c, _⟩ | ⟨b, _, c⟩
    · rw [b, c]; exact y.st
    · exact .inr (.inr c)⟩
section
variable {X : Cx} {h : AH} {Q : V → AH → Prop}
/-- A call that appends to a slice, and hands it back. -/
theorem Ecx.tip {k : Nat} {args : List V} {st e : Nat} (hst : st ≤ 2 ∨ st < h.next)
    (c : Ecx X k args h fun r h1 => ∃ st1 l, r = .sl e st1 l ∧ SE e h h1 st st1 ∧ h.next ≤ st1 ∧ (∀ v ∈ cellsOf l, Bdd h.next h.nobj v) ∧ Q (.sl e h.next l) (h.push st e)) : Ecx X k args h Q := by
  intro g w cargs I rl
  refine (c g w cargs I rl).mono ?_
  rintro x w' ⟨r, h1, g', ⟨st1, l, rfl, se, hle, hb, q⟩, I', rx, S⟩
  have n3 := I.next
  have hs1 : st1 < h1.next ∧ h1.tips st1 = some e := by
    rcases se.st with ⟨b, c, d⟩ | ⟨b, c, d⟩
    · omega
    · exact ⟨c, d⟩
  have htn : (h.push st e).next = h.next + 1 := push_next _ _ _
  have hob : (h.push st e).objs = h.objs := push_objs _ _ _
  have hno : (h.push st e).nobj = h.nobj := push_nobj _ _ _
  have htip : ∀ s e', s < h.next → (h.push st e).tips s = some e' → h.tips s = some e' ∧ h1.tips s = some e' := fun s e' hs he => by
    by_cases hq : s ≠ st ∨ s ≤ 2
    · rw [push_tips_at hs hq] at he
      exact ⟨he, by rw [se.tips s hs hq]; exact he⟩
    · obtain rfl : s = st := by omega
      unfold AH.push at he
      rw [if_neg (by omega)] at he
      have e1 : ((h.drop s).grow e).tips s = (h.drop s).tips s := updN_ne _ _ (by show s ≠ h.next; omega)
      rw [e1, show (h.drop s).tips s = none from updN_same _ _ _] at he
      cases he
  have htop : ∀ s e', (h.push st e).tips s = some e' → s < h.next ∨ (s = h.next ∧ e' = e) := fun s e' he => by
    by_cases hq : s = h.next
    · subst hq; rw [push_new] at he; exact .inr ⟨rfl, (Option.some.inj he).symm⟩
    · left
      have : (h.push st e).tips s = some e' → h.tips s = some e' := fun he => by
        unfold AH.push at he
        split at he
        · rwa [show (h.grow e).tips s = h.tips s from updN_ne _ _ hq] at he
        · rw [show ((h.drop st).grow e).tips s = (h.drop st).tips s from updN_ne _ _ hq] at he
          by_cases hs : s = st
          · subst hs; rw [show (h.drop s).tips s = none from updN_same _ _ _] at he; cases he
          · rwa [show (h.drop st).tips s = h.tips s from updN_ne _ _ hs] at he
      exact (I.tipB s e' (this he)).2.1
  obtain ⟨g2, hg2e⟩ : ∃ g2 : Gh, g2 = { g' with tip := updN g'.tip h.next (g'.tip st1) } := ⟨_, rfl⟩
  have ho2 : g2.obj = g'.obj := by rw [hg2e]
  have hm2 : g2.mp = g'.mp := by rw [hg2e]
  have hp2 : g2.pub = g'.pub := by rw [hg2e]
  have hg2 : ∀ s, s < h.next → g2.tip s = g'.tip s := fun s hs => by rw [hg2e]; exact updN_ne _ _ (by omega)
  have hg2n : g2.tip h.next = g'.tip st1 := by rw [hg2e]; exact updN_same _ _ _
  have conv : ∀ {v : V} {x : Value}, Rel X g' w' h1 v x → Bdd h.next h.nobj v → Rel X g2 w' (h.push st e) v x := fun {v x} r b =>
    Rel.retip (g := g') (g' := g2) (n := h.next) (by rw [htn]; omega) (by rw [htn]; omega) (by rw [hno]; exact se.nobj) ho2 hm2 hp2 hg2 n3 (fun s e' hs he => (htip s e' hs he).2) r (by rw [hno]; exact b)
  have hbd : ∀ o, o < h.nobj → ∀ v ∈ h.objs o, Bdd h.next h.nobj v := fun o ho v hv => I.objBdd ho v hv
  have S2 : Stp g w h g2 w' (h.push st e) :=
    { next := by rw [htn]; omega
      nobj := by rw [hno]; exact Nat.le_refl _
      obj := by rw [ho2]; exact S.obj
      mp := by rw [hm2]; exact S.mp
      pub := by rw [hp2]; exact S.pub
      cell := S.cell
      tip := fun s hs e' he => by
        obtain ⟨a, b⟩ := htip s e' hs he
        obtain ⟨c, d, f⟩ := S.tip s hs e' b
        exact ⟨a, by rw [hg2 s hs]; exact d, by rw [hp2]; exact f⟩
      row := fun s hs e' he => S.row s hs e' (htip s e' hs he).2 }
  refine ⟨_, _, g2, q, ?_, ?_, S2⟩
  · exact
      { below := I'.below
        next := by rw [htn]; omega
        maps := fun o ho hm => by
          rw [hno] at ho
          rw [hm2] at hm
          unfold MapOk
          rw [ho2]
          obtain ⟨es, k1, k2, k3, k4⟩ := I'.maps o (Nat.lt_of_lt_of_le ho se.nobj) hm
          refine ⟨es, k1, by rw [hob, ← se.objs o ho]; exact k2, k3, fun i i1 i2 => ?_⟩
          simp only [hob] at i1 ⊢
          have := k4 i (by rw [se.objs o ho]; exact i1) i2
          simp only [se.objs o ho] at this
          exact conv this (hbd o ho _ (List.getElem_mem i1))
        objs := fun o ho hm hne => by
          rw [hno] at ho
          rw [hob] at hne
          rw [hm2] at hm
          rw [ho2]
          obtain ⟨cs, t, k1, k2, k3, k4⟩ := I'.objs o (Nat.lt_of_lt_of_le ho se.nobj) hm (by rw [se.objs o ho]; exact hne)
          refine ⟨cs, t, k1, by rw [hob, ← se.objs o ho]; exact k2, k3, fun i i1 i2 => ?_⟩
          simp only [hob] at i1 ⊢
          have := k4 i (by rw [se.objs o ho]; exact i1) i2
          simp only [se.objs o ho] at this
          exact conv this (hbd o ho _ (List.getElem_mem i1))
        objL := fun {o} ho => by rw [ho2]; exact I'.objL (Nat.lt_of_lt_of_le (by rw [hno] at ho; exact ho) se.nobj)
        objB := fun o ho => by
          rw [hno] at ho
          rw [ho2, hm2, hp2]
          refine ⟨(I'.objB o (Nat.lt_of_lt_of_le ho se.nobj)).1, fun hm hne => (I'.objB o (Nat.lt_of_lt_of_le ho se.nobj)).2 hm ?_⟩
          rw [se.objs o ho]; rw [hob] at hne; exact hne
        objI := fun o o' a b => by rw [ho2]; exact I'.objI o o' (Nat.lt_of_lt_of_le (by rw [hno] at a; exact a) se.nobj) (Nat.lt_of_lt_of_le (by rw [hno] at b; exact b) se.nobj)
        tipB := fun s e' he => by
          rcases htop s e' he with hs | ⟨rfl, rfl⟩
          · obtain ⟨a, b, c, d⟩ := I'.tipB s e' (htip s e' hs he).2
            exact ⟨a, by rw [htn]; omega, by rw [hg2 s hs]; exact c, by rw [hg2 s hs]; exact d⟩
          · obtain ⟨a, b, c, d⟩ := I'.tipB st1 e' hs1.2
            exact ⟨n3, by rw [htn]; omega, by rw [hg2n]; exact c, by rw [hg2n]; exact d⟩
        tipI := fun s e' s' e'' he he' heq => by
          rcases htop s e' he with hs | ⟨rfl, rfl⟩ <;> rcases htop s' e'' he' with hs' | ⟨rfl, rfl⟩
          · rw [hg2 s hs, hg2 s' hs'] at heq
            exact I'.tipI s e' s' e'' (htip s e' hs he).2 (htip s' e'' hs' he').2 heq
          · rw [hg2 s hs, hg2n] at heq
            have := I'.tipI s e' st1 e'' (htip s e' hs he).2 hs1.2 heq
            omega
          · rw [hg2 s' hs', hg2n] at heq
            have := I'.tipI st1 e' s' e'' hs1.2 (htip s' e'' hs' he').2 heq
            omega
          · rfl
        tipO := fun o s e' ho he => by
          rw [hno] at ho
          rw [ho2]
          rcases htop s e' he with hs | ⟨rfl, rfl⟩
          · rw [hg2 s hs]; exact I'.tipO o s e' (Nat.lt_of_lt_of_le ho se.nobj) (htip s e' hs he).2
          · rw [hg2n]; exact I'.tipO o st1 e' (Nat.lt_of_lt_of_le ho se.nobj) hs1.2
        pubB := by rw [hp2]; exact I'.pubB }
  · cases rx with
    | slnil e st hst => omega
    | slemp e a => omega
    | sl e st l b' off cap x h1' hs hcap he hc ho hp hr h2 h3 =>
      refine .sl e h.next l b' off cap x (by omega) (by rw [htn]; omega) hcap he hc ho (by rw [hp2]; exact hp) (fun i hi => conv (hr i hi) (hb _ (List.getElem_mem hi))) (fun e2 => by omega) (fun e' he' => ?_)
      rw [push_new] at he'
      obtain rfl := Option.some.inj he'
      obtain ⟨a, b, c, d⟩ := h3 _ hs1.2
      exact ⟨rfl, by rw [hg2n]; exact b, by rw [hp2]; exact c, d⟩
end
end Go.Proofs.Ytmobijebjkjnoaa.Al
namespace Go.Proofs.Ytmobijebjkjnoaa.Al
open Go Go.RowKit
set_option linter.unusedSimpArgs false
set_option linter.unusedVariables false
attribute [-simp] List.getD_eq_getElem?_getD Int.not_lt Int.not_le List.map_take
/-- The numbers of a node, and of all below it. -/
def undK (L : Nat) (rec : Int → List Int → List Int) (n : Int) : List Int → List Int → List Int
  | [], out => out ++ [n]
  | k :: ks, out => if n ≤ k ∨ L < out.length then out ++ [-1] else undK L rec n ks (rec k out)
def undT (t : Te) : Nat → Int → List Int → List Int
  | 0, _, out => out ++ [-1]
  | f + 1, n, out => if n < 0 ∨ (t.nodes.length : Int) ≤ n ∨ t.nodes.length < out.length then out ++ [-1] else undK t.nodes.length (undT t f) n (match t.nodes[n.toNat]? with
    | some x => x.kids
    | none => []) out
/-- The numbers from 0 on. -/
def iotaI (n : Nat) : List Int := (List.range n).map fun i : Nat => (i : Int)
@[simp] theorem iotaI_len (n : Nat) : (iotaI n).length = n := by simp [iotaI]
theorem iotaI_succ (n : Nat) : iotaI (n + 1) = iotaI n ++ [(n : Int)] := by simp [iotaI, List.range_succ]
/-- A name, as the reference asks. -/
def nameR (s : Str) : Bool := match scanR s with
  | ([a], _, e) => decide (e = 0) && decide (a.kind = 1) && decide (a.text = s)
  | _ => false
def rightR (t : Te) : List Rl → List Str → List Int → Option (List Int)
  | [], _, all => some all
  | r :: rs, seen, all => if nameR r.name = true ∧ r.name ∉ seen then rightR t rs (seen ++ [r.name]) (undT t t.nodes.length r.body all) else none
/-- As the reference asks. -/
def rightD (t : Te) : Bool := decide (0 < t.rules.length) && decide (t.rules.length ≤ 24) && decide (t.nodes.length ≤ 200) && (match rightR t t.rules [] [] with
  | some all => decide (all = iotaI t.nodes.length) && t.nodes.all (fineT t)
  | none => false)
structure LR6 (X : Cx) : Prop where
  s : LSR X
  under : Has (Ecx X) K.probateref06_under A.probateref06_under
  right : Has (Ecx X) K.probateref06_Right A.probateref06_Right
  fine : Has (Ecx X) K.probateref06_Tree_fine A.probateref06_Tree_fine
  rule : Has (Ecx X) K.probateref06_Tree_rule A.probateref06_Tree_rule
  quote : Has (Ecx X) K.probateref06_quote A.probateref06_quote
end Go.Proofs.Ytmobijebjkjnoaa.Al
namespace Go.Proofs.Ytmobijebjkjnoaa.Al
open Go Go.RowKit
set_option linter.unusedSimpArgs false
set_option linter.unusedVariables false
attribute [-simp] List.getD_eq_getElem?_getD Int.not_lt Int.not_le List.drop_one List.map_take
theorem take_run (p : UInt8 → Bool) (s : Str) : ∀ c ∈ s.take (runN p s), p c = true := by
  rw [take_runN]; intro c hc; exact List.all_eq_true.1 (List.all_takeWhile (p := p)) c hc |> fun h => by simpa using h
/-- As it is written. -/
def tokText (t : Tok) : Str := if t.kind = 2 then 39 :: (t.text ++ [39]) else t.text
def goodTok (t : Tok) : Prop := (t.kind = 1 ∧ (∃ c r, t.text = c :: r ∧ letterB c = true) ∧ ∀ c ∈ t.text, partB c = true) ∨ (t.kind = 2 ∧ t.text ≠ [] ∧ ∀ c ∈ t.text, quotedB c = true) ∨ (t.kind = 3 ∧ ∃ c, t.text = [c] ∧ c ∈ marksL)
theorem sfirst_cons (c : UInt8) (s : Str) : sfirst (c :: s) =
    if bt c = 35 then (0, [], runN notLf (c :: s))
    else if bt c = 13 ∨ bt c = 32 ∨ bt c = 9 ∨ bt c = 10 then (0, [], 1)
    else if letterB c then (1, (c :: s).take (runN partB (c :: s)), runN partB (c :: s))
    else if bt c = 39 then
      if runN quotedB s = 0 ∨ runN quotedB s = s.length ∨ bt (s.getD (runN quotedB s) 0) ≠ 39 then (0, [], 0) else (2, s.take (runN quotedB s), runN quotedB s + 2)
    else if c ∈ marksL then (3, [c], 1)
    else (0, [], 0) := by
  unfold sfirst
  simp only [List.getD_cons_zero, List.drop_succ_cons, List.drop_zero, List.length_cons, List.getD_cons_succ, List.take_succ_cons, List.take_zero, Nat.add_right_cancel_iff]
  rfl
theorem sfirst_tok {s : Str} (k : Nat) (hne : s ≠ []) (h0 : (sfirst s).2.2 ≠ 0) (h1 : (sfirst s).1 ≠ 0) :
    goodTok ⟨(sfirst s).1, (sfirst s).2.1, k⟩ ∧ tokText ⟨(sfirst s).1, (sfirst s).2.1, k⟩ = s.take (sfirst s).2.2 := by
  cases s with
  | nil => exact absurd rfl hne
  | cons c s =>
    rw [sfirst_cons] at h0 h1 ⊢
    by_cases c1 : bt c = 35
    · rw [if_pos c1] at h1; exact absurd rfl h1
    rw [if_neg c1] at h0 h1 ⊢
    by_cases c2 : bt c = 13 ∨ bt c = 32 ∨ bt c = 9 ∨ bt c = 10
    · rw [if_pos c2] at h1; exact absurd rfl h1
    rw [if_neg c2] at h0 h1 ⊢
    by_cases c3 : letterB c = true
    · rw [if_pos c3] at h0 h1 ⊢
      have hp : partB c = true := by simp only [letterB] at c3; simp [partB, partI, c3]
      refine ⟨.inl ⟨rfl, ⟨c, s.take (runN partB s), ?_, c3⟩, take_run partB (c :: s)⟩, rfl⟩
      simp [runN_cons, hp]
    rw [if_neg c3] at h0 h1 ⊢
    by_cases c4 : bt c = 39
    · rw [if_pos c4] at h0 h1 ⊢
      by_cases c5 : runN quotedB s = 0 ∨ runN quotedB s = s.length ∨ bt (s.getD (runN quotedB s) 0) ≠ 39
      · rw [if_pos c5] at h1; exact absurd rfl h1
      rw [if_neg c5] at h0 h1 ⊢
      have hle := runN_le quotedB s
      have c6 : runN quotedB s < s.length := by omega
      have c7 : s.getD (runN quotedB s) 0 = 39 := bt_inj.1 ((show bt (s.getD (runN quotedB s) 0) = 39 by omega).trans rfl)
      have c8 : c = 39 := bt_inj.1 (c4.trans rfl)
      refine ⟨.inr (.inl ⟨rfl, ?_, take_run quotedB s⟩), ?_⟩
      · intro e; have e2 := congrArg List.length e; simp only [List.length_take, List.length_nil] at e2; omega
      · simp only [tokText, if_true, List.take_succ_cons, c8]
        rw [List.take_succ_eq_append_getElem c6]
        have : s[runN quotedB s] = 39 := by rw [← c7]; simp [List.getD, List.getElem?_eq_getElem c6]
        rw [this]
    rw [if_neg c4] at h0 h1 ⊢
    by_cases c5 : c ∈ marksL
    · rw [if_pos c5]
      exact ⟨.inr (.inr ⟨rfl, c, rfl, c5⟩), rfl⟩
    · rw [if_neg c5] at h1; exact absurd rfl h1
/-- Each stands at its place. -/
def chain (s0 : Str) : Nat → List Tok → Prop
  | _, [] => True
  | k, t :: l => goodTok t ∧ k ≤ t.at' ∧ t.at' + (tokText t).length ≤ s0.length ∧ (s0.drop t.at').take (tokText t).length = tokText t ∧ chain s0 (t.at' + (tokText t).length) l
theorem chain_mono {s0 : Str} {k k' : Nat} (h : k ≤ k') : ∀ {l : List Tok}, chain s0 k' l → chain s0 k l
  | [], _ => trivial
  | t :: l, ⟨a, b, c⟩ => ⟨a, by omega, c⟩
theorem scanL_chain (s0 : Str) : ∀ (n k : Nat), k ≤ s0.length → chain s0 k (scanL n (s0.drop k) k).1
  | 0, k, h => trivial
  | n + 1, k, h => by
    by_cases hne : s0.drop k = []
    · rw [hne, scanL_nil]; trivial
    rw [scanL_step k hne]
    split
    · trivial
    · rename_i h0
      have hle := sfirst_le hne
      simp at hle
      have ih := scanL_chain s0 n (k + (sfirst (s0.drop k)).2.2) (by omega)
      rw [← List.drop_drop] at ih
      by_cases h1 : (sfirst (s0.drop k)).1 = 0
      · rw [if_pos h1]
        exact chain_mono (by omega) ih
      · rw [if_neg h1]
        obtain ⟨g, e⟩ := sfirst_tok k hne h0 h1
        have hlen : (tokText ⟨(sfirst (s0.drop k)).1, (sfirst (s0.drop k)).2.1, k⟩).length = (sfirst (s0.drop k)).2.2 := by rw [e]; simp; omega
        refine ⟨g, by simp, by rw [hlen]; simp; omega, by rw [hlen, e], ?_⟩
        rw [hlen]; exact ih
theorem scanR_chain (s : Str) : chain s 0 (scanR s).1 := by
  unfold scanR
  split
  · trivial
  · split
    · trivial
    · exact scanL_chain s s.length 0 (by omega)
/-! ### Between -/
end Go.Proofs.Ytmobijebjkjnoaa.Al
namespace Go.Proofs.Ytmobijebjkjnoaa.Al
open Go Go.RowKit
set_option linter.unusedSimpArgs false
set_option linter.unusedVariables false
theorem iotaI_pre {u : List Int} {n : Nat} (h : u <+: iotaI n) : u = iotaI u.length ∧ u.length ≤ n := by
  have hl : u.length ≤ n := by simpa using h.length_le
  refine ⟨?_, hl⟩
  rw [List.prefix_iff_eq_take] at h
  rw [h]
  simp only [iotaI, ← List.map_take, List.take_range, List.length_map, List.length_range]
theorem iotaI_last {l : List Int} {v : Int} {n : Nat} (h : l ++ [v] = iotaI n) : n = l.length + 1 ∧ v = l.length ∧ l = iotaI l.length := by
  have hn : n = l.length + 1 := by have := congrArg List.length h; simp at this; omega
  subst hn
  rw [iotaI_succ] at h
  obtain ⟨a, b⟩ := List.append_inj' h rfl
  exact ⟨rfl, by simpa using b, a⟩
theorem undK_pre {L : Nat} {rec : Int → List Int → List Int} (hr : ∀ k out, out <+: rec k out) (n : Int) : ∀ (ks out : List Int), out <+: undK L rec n ks out
  | [], out => ⟨[n], rfl⟩
  | k :: ks, out => by
    unfold undK
    split
    · exact ⟨[-1], rfl⟩
    · exact (hr k out).trans (undK_pre hr n ks _)
theorem undT_pre (t : Te) : ∀ (f : Nat) (n : Int) (out : List Int), out <+: undT t f n out
  | 0, n, out => ⟨[-1], rfl⟩
  | f + 1, n, out => by
    unfold undT
    split
    · exact ⟨[-1], rfl⟩
    · exact undK_pre (undT_pre t f) n _ _
theorem rightR_pre (t : Te) : ∀ (rs : List Rl) (seen : List Str) (u v : List Int), rightR t rs seen u = some v → u <+: v
  | [], _, u, v, h => by simp [rightR] at h; subst h; exact List.prefix_refl _
  | r :: rs, seen, u, v, h => by
    unfold rightR at h
    split at h
    · exact (undT_pre t _ _ _).trans (rightR_pre t rs _ _ _ h)
    · cases h
theorem runS_add (t : Te) : ∀ (j k a : Nat) (st st1 : List Int), runS t j a st = some st1 → runS t (j + k) a st = runS t k (a + j) st1
  | 0, k, a, st, st1, h => by simp [runS] at h; subst h; simp
  | j + 1, k, a, st, st1, h => by
    rw [show j + 1 + k = (j + k) + 1 by omega, runS]
    rw [runS] at h
    cases hs : stpS t a st with
    | none => rw [hs] at h; cases h
    | some st2 =>
      rw [hs] at h
      simp only at h ⊢
      rw [runS_add t j k (a + 1) st2 st1 h, show a + 1 + j = a + (j + 1) by omega]
/-- What the reference lists in order, the stack takes. -/
theorem runS_und (t : Te) (hf : ∀ n ∈ t.nodes, fineP t n = true) : ∀ (f : Nat) (n : Int) (a b : Nat), undT t f n (iotaI a) = iotaI b → b ≤ t.nodes.length →
    ∃ m : Nat, n = m ∧ a ≤ m ∧ b = m + 1 ∧ ∀ st, runS t (b - a) a st = some (st ++ [n])
  | 0, n, a, b, h, hb => by
    have := iotaI_last h; omega
  | f + 1, n, a, b, h, hb => by
    unfold undT at h
    split at h
    · have := iotaI_last h; omega
    · rename_i c
      obtain ⟨m, rfl⟩ : ∃ m : Nat, n = (m : Int) := ⟨n.toNat, by omega⟩
      have hm : m < t.nodes.length := by omega
      rw [Int.toNat_natCast, List.getElem?_eq_getElem hm] at h
      simp only at h
      have key : ∀ (ks : List Int) (a' : Nat), undK t.nodes.length (undT t f) m ks (iotaI a') = iotaI b → a' ≤ m ∧ b = m + 1 ∧ ∀ st, runS t (m - a') a' st = some (st ++ ks) := by
        intro ks
        induction ks with
        | nil =>
          intro a' h
          have := iotaI_last h
          simp at this
          obtain ⟨h1, h2⟩ := this
          refine ⟨by omega, by omega, fun st => ?_⟩
          rw [show m - a' = 0 by omega]; simp [runS]
        | cons k ks ih =>
          intro a' h
          unfold undK at h
          split at h
          · have := iotaI_last h; omega
          · rename_i c2
            have hp := undK_pre (L := t.nodes.length) (undT_pre t f) m ks (undT t f k (iotaI a'))
            rw [h] at hp
            obtain ⟨e1, e2⟩ := iotaI_pre hp
            obtain ⟨q, hq, q1, q2, q3⟩ := runS_und t hf f k a' _ e1 (by omega)
            rw [e1] at h
            obtain ⟨r1, r2, r3⟩ := ih _ h
            refine ⟨by omega, r2, fun st => ?_⟩
            have := runS_add t ((undT t f k (iotaI a')).length - a') (m - (undT t f k (iotaI a')).length) a' st _ (q3 st)
            rw [show (undT t f k (iotaI a')).length - a' + (m - (undT t f k (iotaI a')).length) = m - a' by omega, show a' + ((undT t f k (iotaI a')).length - a') = (undT t f k (iotaI a')).length by omega, r3] at this
            rw [this]; simp
      obtain ⟨k1, k2, k3⟩ := key _ a h
      refine ⟨m, rfl, k1, k2, fun st => ?_⟩
      have hlast : runS t 1 m (st ++ t.nodes[m].kids) = some (st ++ [(m : Int)]) := by
        simp only [runS, stpS]
        rw [List.getElem?_eq_getElem hm]
        simp only
        rw [if_pos ⟨hf _ (List.getElem_mem hm), by simp, by simp⟩]
        simp
      have := runS_add t (m - a) 1 a st _ (k3 st)
      rw [show m - a + 1 = b - a by omega, show a + (m - a) = m by omega, hlast] at this
      exact this
/-- A stack covers what stands from a place to a place. -/
inductive Seg (t : Te) : Nat → List Int → Nat → Prop
  | nil (a : Nat) : Seg t a [] a
  | cons (a c b : Nat) (st : List Int) (h : ∀ f : Nat, c < f → undT t f c (iotaI a) = iotaI (c + 1)) (h1 : a ≤ c) (h2 : Seg t (c + 1) st b) : Seg t a ((c : Int) :: st) b
theorem Seg.le {t : Te} {a b : Nat} {st : List Int} (s : Seg t a st b) : a ≤ b := by
  induction s with
  | nil => exact Nat.le_refl _
  | cons a c b st h h1 h2 ih => omega
theorem Seg.app {t : Te} {a b c : Nat} {s1 s2 : List Int} (x : Seg t a s1 b) (y : Seg t b s2 c) : Seg t a (s1 ++ s2) c := by
  induction x with
  | nil => exact y
  | cons a c b st h h1 h2 ih => exact .cons _ _ _ _ h h1 (ih y)
theorem Seg.split {t : Te} {c : Nat} {s2 : List Int} : ∀ {s1 : List Int} {a : Nat}, Seg t a (s1 ++ s2) c → ∃ b, Seg t a s1 b ∧ Seg t b s2 c
  | [], a, x => ⟨a, .nil a, x⟩
  | v :: s1, a, x => by
    cases x with
    | cons a k b st h h1 h2 =>
      obtain ⟨m, y, z⟩ := Seg.split h2
      exact ⟨m, .cons _ _ _ _ h h1 y, z⟩
theorem undK_seg {t : Te} {f n : Nat} (hn : n < t.nodes.length) (hf : n ≤ f) : ∀ {ks : List Int} {a : Nat}, Seg t a ks n → undK t.nodes.length (undT t f) n ks (iotaI a) = iotaI (n + 1)
  | [], a, s => by cases s; simp [undK, iotaI_succ]
  | k :: ks, a, s => by
    cases s with
    | cons a c b st h h1 h2 =>
      have := h2.le
      unfold undK
      rw [if_neg (by simp; omega), h f (by omega)]
      exact undK_seg hn hf h2
theorem Seg.step {t : Te} {lo a : Nat} {st st' : List Int} (s : Seg t lo st a) (h : stpS t a st = some st') : Seg t lo st' (a + 1) ∧ ∃ h : a < t.nodes.length, fineP t t.nodes[a] = true := by
  unfold stpS at h
  split at h
  · rename_i nd hnd
    obtain ⟨hlt, rfl⟩ := List.getElem?_eq_some_iff.1 hnd
    split at h
    · rename_i c
      obtain ⟨c1, c2, c3⟩ := c
      obtain rfl := Option.some.inj h
      refine ⟨?_, hlt, c1⟩
      rw [← List.take_append_drop (st.length - t.nodes[a].kids.length) st, c3] at s
      obtain ⟨b, s1, s2⟩ := Seg.split s
      refine s1.app (.cons _ _ _ _ (fun f hf => ?_) s2.le (.nil _))
      obtain ⟨f, rfl⟩ : ∃ g, f = g + 1 := ⟨f - 1, by omega⟩
      unfold undT
      have := s2.le
      rw [if_neg (by simp; omega), Int.toNat_natCast, List.getElem?_eq_getElem hlt]
      exact undK_seg hlt (by omega) s2
    · cases h
  · cases h
theorem Seg.run {t : Te} {lo : Nat} : ∀ (k a : Nat) (st st' : List Int), Seg t lo st a → runS t k a st = some st' → Seg t lo st' (a + k) ∧ ∀ i, a ≤ i → i < a + k → ∃ h : i < t.nodes.length, fineP t t.nodes[i] = true
  | 0, a, st, st', s, h => by simp [runS] at h; subst h; exact ⟨s, fun i h1 h2 => by omega⟩
  | k + 1, a, st, st', s, h => by
    rw [runS] at h
    cases hs : stpS t a st with
    | none => rw [hs] at h; cases h
    | some st2 =>
      rw [hs] at h
      obtain ⟨s2, hlt, hf⟩ := s.step hs
      obtain ⟨s3, h3⟩ := Seg.run k (a + 1) st2 st' s2 h
      refine ⟨by rw [show a + (k + 1) = a + 1 + k by omega]; exact s3, fun i h1 h2 => ?_⟩
      by_cases e : i = a
      · subst e; exact ⟨hlt, hf⟩
      · exact h3 i (by omega) (by omega)
theorem name_eq (s : Str) : nameR s = tokenT s 1 := by
  have hch := scanR_chain s
  unfold nameR tokenT
  generalize scanR s = R at *
  obtain ⟨l, p, e⟩ := R
  match l, hch with
  | [], _ => rfl
  | _ :: _ :: _, _ => rfl
  | [a], hch =>
    obtain ⟨g, h1, h2, _⟩ := hch
    simp only at h2 ⊢
    by_cases k1 : a.kind = 1
    · by_cases k2 : a.text = s
      · have : tokText a = s := by unfold tokText; rw [k1, k2]; simp
        rw [this] at h2
        have h0 : a.at' = 0 := by omega
        simp [k1, k2, h0]
      · simp [k1, k2]
    · have : ¬ (a.kind : Int) = 1 := by omega
      simp [k1, this]
theorem right_fwd (t : Te) : ∀ (rs : List Rl) (seen : List Str) (a b : Nat), rightS t rs seen a = some b → rightR t rs seen (iotaI a) = some (iotaI b) ∧ ∀ i, a ≤ i → i < b → ∃ h : i < t.nodes.length, fineP t t.nodes[i] = true
  | [], seen, a, b, h => by simp [rightS] at h; subst h; exact ⟨rfl, fun i h1 h2 => by omega⟩
  | r :: rs, seen, a, b, h => by
    unfold rightS at h
    split at h
    · rename_i c
      obtain ⟨c1, c2, c3, c4⟩ := c
      split at h
      · rename_i x hx
        obtain ⟨B, hB⟩ : ∃ B : Nat, r.body = (B : Int) := ⟨r.body.toNat, by omega⟩
        rw [hB, Int.toNat_natCast] at hx h
        obtain ⟨s, hs⟩ := Seg.run _ _ _ _ (Seg.nil a) hx
        obtain ⟨k1, k2⟩ := right_fwd t rs _ _ _ h
        have hu : undT t t.nodes.length r.body (iotaI a) = iotaI (B + 1) := by
          rw [show a + (B + 1 - a) = B + 1 by omega] at s
          cases s with
          | cons a c b st h h1 h2 =>
            cases h2
            rw [hB]; exact h _ (by omega)
        refine ⟨?_, fun i h1 h2 => ?_⟩
        · unfold rightR
          rw [if_pos ⟨by rw [name_eq]; exact c1, c2⟩, hu]; exact k1
        · by_cases e : i < B + 1
          · exact hs i h1 (by omega)
          · exact k2 i (by omega) h2
      · cases h
    · cases h
theorem right_bwd (t : Te) (hf : ∀ n ∈ t.nodes, fineP t n = true) : ∀ (rs : List Rl) (seen : List Str) (a : Nat), rightR t rs seen (iotaI a) = some (iotaI t.nodes.length) → rightS t rs seen a = some t.nodes.length
  | [], seen, a, h => by
    simp [rightR] at h
    have := congrArg List.length h
    simp at this
    simp [rightS, this]
  | r :: rs, seen, a, h => by
    unfold rightR at h
    split at h
    · rename_i c
      obtain ⟨c1, c2⟩ := c
      obtain ⟨e1, e2⟩ := iotaI_pre (rightR_pre t _ _ _ _ h)
      obtain ⟨m, hm, q1, q2, q3⟩ := runS_und t hf _ _ _ _ e1 e2
      rw [e1, q2] at h
      have ih := right_bwd t hf rs _ _ h
      unfold rightS
      rw [q2] at q3
      rw [hm, Int.toNat_natCast, if_pos ⟨by rw [← name_eq]; exact c1, c2, by omega, by omega⟩, q3 []]
      exact ih
    · cases h
/-- The program's and the reference's answers are the same. -/
theorem right_eq (t : Te) : rightP t = rightD t := by
  have hfe : ∀ n, fineT t n = fineP t n := fun n => (fineP_eq t n).symm
  unfold rightP rightD
  congr 1
  apply Bool.eq_iff_iff.2
  simp only [decide_eq_true_eq]
  constructor
  · intro h
    obtain ⟨k1, k2⟩ := right_fwd t _ _ _ _ h
    rw [show iotaI 0 = [] from rfl] at k1
    rw [k1]
    simp only [decide_true, Bool.true_and, List.all_eq_true]
    intro n hn
    obtain ⟨i, hi, rfl⟩ := List.getElem_of_mem hn
    obtain ⟨_, hf⟩ := k2 i (by omega) hi
    rw [hfe]; exact hf
  · intro h
    split at h
    · rename_i all hall
      simp only [Bool.and_eq_true, decide_eq_true_eq, List.all_eq_true] at h
      rw [h.1] at hall
      exact right_bwd t (fun n hn => by rw [← hfe]; exact h.2 n hn) _ _ 0 hall
    · cases h
end Go.Proofs.Ytmobijebjkjnoaa.Al
namespace Go.Proofs.Ytmobijebjkjnoaa.Al
open Go Go.RowKit
set_option linter.unusedSimpArgs false
set_option linter.unusedVariables false
def iotaF (a k : Nat) : List Int := (List.range k).map fun i : Nat => ((a + i : Nat) : Int)
theorem iotaF_zero (k : Nat) : iotaF 0 k = iotaI k := by simp [iotaF, iotaI]
theorem iotaF_succ (a k : Nat) : iotaF a (k + 1) = (a : Int) :: iotaF (a + 1) k := by
  simp only [iotaF, List.range_succ_eq_map, List.map_cons, List.map_map, Nat.add_zero]
  congr 1
  apply List.map_congr_left
  intro i _
  simp only [Function.comp, Nat.succ_eq_add_one]; congr 1; omega
theorem iotaF_add (a j k : Nat) : iotaF a (j + k) = iotaF a j ++ iotaF (a + j) k := by
  induction j generalizing a with
  | zero => simp [iotaF]
  | succ j ih => rw [show j + 1 + k = (j + k) + 1 by omega, iotaF_succ, iotaF_succ, ih, show a + 1 + j = a + (j + 1) by omega]; simp
/-- What is known of a tree that may be. -/
structure RTe (t : Te) : Prop where
  r0 : 0 < t.rules.length
  r1 : t.rules.length ≤ 24
  n1 : t.nodes.length ≤ 200
  names : (rnames t).Nodup
  fine : ∀ n ∈ t.nodes, fineT t n = true
  perm : (t.nodes.flatMap (·.kids) ++ t.rules.map (·.body)).Perm (iotaI t.nodes.length)
  lt : ∀ i (h : i < t.nodes.length), ∀ k ∈ t.nodes[i].kids, 0 ≤ k ∧ k < i
  tok : ∀ r ∈ t.rules, tokenT r.name 1 = true
theorem stpS_perm {t : Te} {a : Nat} {st st' : List Int} (h : stpS t a st = some st') : ∃ hlt : a < t.nodes.length, (t.nodes[a].kids ++ st').Perm (st ++ [(a : Int)]) ∧ fineP t t.nodes[a] = true ∧ (∀ k ∈ t.nodes[a].kids, k ∈ st) ∧ ∀ x ∈ st', x ∈ st ∨ x = a := by
  unfold stpS at h
  split at h
  · rename_i nd hnd
    obtain ⟨hlt, rfl⟩ := List.getElem?_eq_some_iff.1 hnd
    split at h
    · rename_i c
      obtain ⟨c1, c2, c3⟩ := c
      obtain rfl := Option.some.inj h
      refine ⟨hlt, ?_, c1, fun k hk => ?_, fun x hx => ?_⟩
      · have e := List.take_append_drop (st.length - t.nodes[a].kids.length) st
        rw [c3] at e
        rw [← List.append_assoc]
        refine List.Perm.append_right _ ?_
        refine List.perm_append_comm.trans ?_
        rw [e]
      · rw [← c3] at hk; exact List.mem_of_mem_drop hk
      · simp only [List.mem_append, List.mem_singleton] at hx
        exact hx.imp List.mem_of_mem_take id
    · cases h
  · cases h
theorem runS_perm {t : Te} : ∀ (k a : Nat) (st st' : List Int), runS t k a st = some st' → (∀ x ∈ st, 0 ≤ x ∧ x < (a : Int)) →
    (((t.nodes.drop a).take k).flatMap (·.kids) ++ st').Perm (st ++ iotaF a k) ∧ (∀ x ∈ st', 0 ≤ x ∧ x < ((a + k : Nat) : Int)) ∧ ∀ i (h : i < t.nodes.length), a ≤ i → i < a + k → ∀ m ∈ t.nodes[i].kids, 0 ≤ m ∧ m < i
  | 0, a, st, st', h, hs => by
    simp [runS] at h; subst h
    exact ⟨by simp [iotaF], by simpa using hs, fun i _ h1 h2 => by omega⟩
  | k + 1, a, st, st', h, hs => by
    rw [runS] at h
    cases hst : stpS t a st with
    | none => rw [hst] at h; cases h
    | some st2 =>
      rw [hst] at h
      obtain ⟨hlt, p1, p2, p3, p4⟩ := stpS_perm hst
      have hs2 : ∀ x ∈ st2, 0 ≤ x ∧ x < ((a + 1 : Nat) : Int) := fun x hx => by
        rcases p4 x hx with e | e
        · have := hs x e; omega
        · omega
      obtain ⟨q1, q2, q3⟩ := runS_perm k (a + 1) st2 st' h hs2
      refine ⟨?_, by rw [show a + (k + 1) = a + 1 + k by omega]; exact q2, fun i hi h1 h2 m hm => ?_⟩
      · rw [List.drop_eq_getElem_cons hlt, List.take_succ_cons, List.flatMap_cons, List.append_assoc, iotaF_succ]
        refine (List.Perm.append_left _ q1).trans ?_
        rw [← List.append_assoc]
        refine (List.Perm.append_right _ p1).trans ?_
        simp
      · by_cases e : i = a
        · subst e; exact hs m (p3 m hm)
        · exact q3 i hi (by omega) (by omega) m hm
theorem rightS_all {t : Te} : ∀ (rs : List Rl) (seen : List Str) (a b : Nat), rightS t rs seen a = some b → seen.Nodup → a ≤ b ∧
    (seen ++ rs.map (·.name)).Nodup ∧ (((t.nodes.drop a).take (b - a)).flatMap (·.kids) ++ rs.map (·.body)).Perm (iotaF a (b - a)) ∧ (∀ i (h : i < t.nodes.length), a ≤ i → i < b → ∀ m ∈ t.nodes[i].kids, 0 ≤ m ∧ m < i) ∧ ∀ r ∈ rs, tokenT r.name 1 = true
  | [], seen, a, b, h, hs => by
    simp [rightS] at h; subst h
    exact ⟨Nat.le_refl _, by simpa using hs, by simp [iotaF], fun i _ h1 h2 => by omega, by simp⟩
  | r :: rs, seen, a, b, h, hs => by
    unfold rightS at h
    split at h
    · rename_i c
      obtain ⟨c1, c2, c3, c4⟩ := c
      split at h
      · rename_i x hx
        obtain ⟨B, hB⟩ : ∃ B : Nat, r.body = (B : Int) := ⟨r.body.toNat, by omega⟩
        rw [hB, Int.toNat_natCast] at hx h
        have hns : (seen ++ [r.name]).Nodup := by
          rw [List.nodup_append]
          exact ⟨hs, by simp, fun a ha b hb e => by simp at hb; subst e; subst hb; exact c2 ha⟩
        obtain ⟨k1, k2, k3, k4, k5⟩ := rightS_all rs _ _ _ h hns
        obtain ⟨p1, p2, p3⟩ := runS_perm _ _ _ _ hx (by simp)
        obtain ⟨s, hsf⟩ := Seg.run _ _ _ _ (Seg.nil a) hx
        have hxB : x = (B : Int) := by
          rw [show a + (B + 1 - a) = B + 1 by omega] at s
          cases s with
          | cons a c b st h h1 h2 => cases h2; rfl
        subst hxB
        refine ⟨by omega, by simpa using k2, ?_, fun i hi h1 h2 m hm => ?_, fun q hq => ?_⟩
        · have e1 : b - a = (B + 1 - a) + (b - (B + 1)) := by omega
          have e2 : (t.nodes.drop a).take (b - a) = (t.nodes.drop a).take (B + 1 - a) ++ (t.nodes.drop (B + 1)).take (b - (B + 1)) := by
            rw [e1, List.take_add, List.drop_drop, show a + (B + 1 - a) = B + 1 by omega]
          rw [e2, List.flatMap_append, e1, iotaF_add, show a + (B + 1 - a) = B + 1 by omega]
          simp only [List.map_cons, hB]
          simp only [List.nil_append] at p1
          refine List.Perm.trans ?_ (p1.append k3)
          simp only [List.append_assoc]
          refine List.Perm.append_left _ ?_
          refine List.Perm.trans (List.perm_middle) ?_
          simp
        · by_cases e : i < B + 1
          · exact p3 i hi h1 (by omega) m hm
          · exact k4 i hi (by omega) h2 m hm
        · rcases List.mem_cons.1 hq with rfl | hq
          · exact c1
          · exact k5 q hq
      · cases h
    · cases h
theorem rte_of {t : Te} (h : rightP t = true) : RTe t := by
  have hD := h
  rw [right_eq] at hD
  unfold rightP at h
  simp only [Bool.and_eq_true, decide_eq_true_eq] at h
  obtain ⟨⟨⟨h1, h2⟩, h3⟩, h4⟩ := h
  obtain ⟨k1, k2, k3, k4, k5⟩ := rightS_all _ _ _ _ h4 (by simp)
  obtain ⟨_, hfi⟩ := right_fwd t _ _ _ _ h4
  rw [iotaF_zero] at k3
  simp only [Nat.sub_zero, List.drop_zero, List.take_length] at k3
  exact ⟨h1, h2, h3, by simpa [rnames] using k2, fun n hn => by
    obtain ⟨i, hi, rfl⟩ := List.getElem_of_mem hn
    rw [← fineP_eq]; exact (hfi i (by omega) hi).2, k3, fun i hi m hm => k4 i hi (by omega) hi m hm, k5⟩
theorem iotaI_nodup (n : Nat) : (iotaI n).Nodup := by
  unfold iotaI
  refine List.Pairwise.map _ (fun a b h => ?_) List.nodup_range
  intro e; exact h (by omega)
theorem RTe.nodup {t : Te} (r : RTe t) : (t.nodes.flatMap (·.kids) ++ t.rules.map (·.body)).Nodup := r.perm.nodup_iff.2 (iotaI_nodup _)
theorem flat_at {α : Type} {f : α → List Int} : ∀ (l : List α) (i j : Nat) (hi : i < l.length) (hj : j < l.length) (m : Int), (l.flatMap f).Nodup → m ∈ f l[i] → m ∈ f l[j] → i = j
  | [], i, j, hi, hj, m, _, _, _ => by simp at hi
  | a :: l, i, j, hi, hj, m, h, h1, h2 => by
    rw [List.flatMap_cons, List.nodup_append] at h
    match i, j with
    | 0, 0 => rfl
    | 0, j + 1 =>
      exfalso
      simp at h1 h2 hj
      exact h.2.2 m h1 m (List.mem_flatMap.2 ⟨_, List.getElem_mem hj, h2⟩) rfl
    | i + 1, 0 =>
      exfalso
      simp at h1 h2 hi
      exact h.2.2 m h2 m (List.mem_flatMap.2 ⟨_, List.getElem_mem hi, h1⟩) rfl
    | i + 1, j + 1 =>
      simp at hi hj h1 h2
      rw [flat_at l i j hi hj m h.2.1 h1 h2]
/-- A node is one's kid. -/
theorem RTe.one {t : Te} (r : RTe t) {i j : Nat} (hi : i < t.nodes.length) (hj : j < t.nodes.length) {m : Int} (h1 : m ∈ t.nodes[i].kids) (h2 : m ∈ t.nodes[j].kids) : i = j :=
  flat_at (f := (·.kids)) t.nodes i j hi hj m (List.nodup_append.1 r.nodup).1 h1 h2
/-- A kid is no body. -/
theorem RTe.nobody {t : Te} (r : RTe t) {i : Nat} (hi : i < t.nodes.length) {m : Int} (h1 : m ∈ t.nodes[i].kids) {q : Rl} (hq : q ∈ t.rules) : q.body ≠ m := fun e =>
  (List.nodup_append.1 r.nodup).2.2 m (List.mem_flatMap.2 ⟨_, List.getElem_mem hi, h1⟩) _ (List.mem_map.2 ⟨q, hq, rfl⟩) e.symm
theorem RTe.body {t : Te} (r : RTe t) {q : Rl} (hq : q ∈ t.rules) : 0 ≤ q.body ∧ q.body < t.nodes.length := by
  have : q.body ∈ iotaI t.nodes.length := r.perm.mem_iff.1 (List.mem_append.2 (.inr (List.mem_map.2 ⟨q, hq, rfl⟩)))
  unfold iotaI at this
  obtain ⟨i, hi, e⟩ := List.mem_map.1 this
  simp at hi
  omega
end Go.Proofs.Ytmobijebjkjnoaa.Al
namespace Go.Proofs.Ytmobijebjkjnoaa.Al
open Go Go.RowKit
set_option linter.unusedSimpArgs false
set_option linter.unusedVariables false
attribute [-simp] List.getD_eq_getElem?_getD Int.not_lt Int.not_le List.map_take
theorem headG_iff {g : Gm} : headG g = true ↔ 0 ≤ g.terms ∧ g.terms ≤ 16 ∧ 1 ≤ g.nons ∧ g.nons ≤ 24 ∧ 0 ≤ g.start ∧ g.start < g.nons ∧ g.prods.length ≤ 60 := by
  simp [headG, and_assoc]
structure RightG (g : Gm) : Prop where
  head : 0 ≤ g.terms ∧ g.terms ≤ 16 ∧ 1 ≤ g.nons ∧ g.nons ≤ 24 ∧ 0 ≤ g.start ∧ g.start < g.nons ∧ g.prods.length ≤ 60
  prods : ∀ p ∈ g.prods, 0 ≤ p.left ∧ p.left < g.nons ∧ p.right.length ≤ 8 ∧ ∀ s ∈ p.right, 0 ≤ s.n ∧ s.n < (if s.non = true then g.nons else g.terms)
theorem rightG_iff {g : Gm} : rightG g = true ↔ RightG g := by
  constructor
  · intro h
    simp only [rightG, Bool.and_eq_true, headG_iff, List.all_eq_true] at h
    refine ⟨h.1, fun p hp => ?_⟩
    have := h.2 p hp
    simp only [fitsG, thereG, Bool.and_eq_true, decide_eq_true_eq, if_true, List.all_eq_true] at this
    exact ⟨this.1.1.1, this.1.1.2, this.1.2, this.2⟩
  · intro ⟨h1, h2⟩
    simp only [rightG, Bool.and_eq_true, headG_iff, List.all_eq_true]
    refine ⟨h1, fun p hp => ?_⟩
    obtain ⟨a, b, c, d⟩ := h2 p hp
    simp only [fitsG, thereG, Bool.and_eq_true, decide_eq_true_eq, if_true, List.all_eq_true]
    exact ⟨⟨⟨a, b⟩, c⟩, d⟩
theorem RightG.sym {g : Gm} (r : RightG g) {p : Pr} (hp : p ∈ g.prods) {s : Sy} (hs : s ∈ p.right) : 0 ≤ s.n ∧ s.n ≤ 23 := by
  have h1 := (r.prods p hp).2.2.2 s hs
  have h2 := r.head
  split at h1 <;> omega
end Go.Proofs.Ytmobijebjkjnoaa.Al
namespace Go.Proofs.Ytmobijebjkjnoaa.Al
open Go Go.RowKit
set_option linter.unusedSimpArgs false
set_option linter.unusedVariables false
attribute [-simp] List.getD_eq_getElem?_getD Int.not_lt Int.not_le List.map_take
/-! ### Steps -/
def okS (s : Sy) : Prop := 0 ≤ s.n ∧ s.n ≤ 23
def okP (p : Pr) : Prop := (0 ≤ p.left ∧ p.left ≤ 23) ∧ p.right.length ≤ 8 ∧ ∀ s ∈ p.right, okS s
def okG (g : Gm) : Prop := (0 ≤ g.terms ∧ g.terms ≤ 16) ∧ (0 ≤ g.nons ∧ g.nons ≤ 24) ∧ (0 ≤ g.start ∧ g.start ≤ 23) ∧ g.prods.length ≤ 60 ∧ ∀ p ∈ g.prods, okP p
theorem RightG.ok {g : Gm} (r : RightG g) : okG g := by
  obtain ⟨a, b, c, d, e, f, i⟩ := r.head
  refine ⟨⟨a, b⟩, ⟨by omega, d⟩, ⟨e, by omega⟩, i, fun p hp => ?_⟩
  obtain ⟨h1, h2, h3, h4⟩ := r.prods p hp
  exact ⟨⟨h1, by omega⟩, h3, fun s hs => r.sym hp hs⟩
/-! ### Readers that may be -/
end Go.Proofs.Ytmobijebjkjnoaa.Al
namespace Go.Proofs.Ytmobijebjkjnoaa.Al
open Go Go.RowKit
set_option linter.unusedSimpArgs false
set_option linter.unusedVariables false
attribute [-simp] List.getD_eq_getElem?_getD Int.not_lt Int.not_le List.map_take
section
variable {X : Cx} {h : AH} {Q : V → AH → Prop}
theorem same3R_spec (H : Has (Ecx X) K.probateref03_Same A.probateref03_Same) (a b : Gm) (ha : a.prods.length ≤ 2 ^ 40) (hr : ∀ p ∈ a.prods, p.right.length ≤ 2 ^ 40) (hQ : Q (.bool (decide (a = b))) h) : Ecx X K.probateref03_Same [gmV a, gmV b] h Q := by
  refine fn_walk H (by simp [A.probateref03_Same]) fun wf => ?_
  have gr := ((Gr.refl h).new (gmC a)).new (gmC b)
  have hgc : ∀ g, gmC g = [.int .i64 g.terms, .int .i64 g.nons, .int .i64 g.start, .sl 2 0 (g.prods.map prV)] := fun _ => rfl
  have oa : ((h.new (gmC a)).new (gmC b)).objs h.nobj = gmC a := by simp
  have ob : ((h.new (gmC a)).new (gmC b)).objs (h.nobj + 1) = gmC b := by simp
  have hd : decide (a = b) = (decide (a.terms = b.terms) && decide (a.nons = b.nons) && decide (a.start = b.start) && decide (a.prods = b.prods)) := by
    obtain ⟨t1, n1, s1, p1⟩ := a; obtain ⟨t2, n2, s2, p2⟩ := b
    by_cases e1 : t1 = t2 <;> by_cases e2 : n1 = n2 <;> by_cases e3 : s1 = s2 <;> by_cases e4 : p1 = p2 <;> simp [e1, e2, e3, e4]
  rw [hd] at hQ
  simp [A.probateref03_Same, gmV, V.cells, V.good]
  generalize (h.new (gmC a)).new (gmC b) = h2 at *
  simp [oa, ob, hgc]
  by_cases e1 : a.terms = b.terms
  case neg => simp [e1] at hQ ⊢; exact fin_wk gr (.same _) (by simp) hQ
  by_cases e2 : a.nons = b.nons
  case neg => simp [e1, e2, oa, ob, hgc] at hQ ⊢; exact fin_wk gr (.same _) (by simp) hQ
  by_cases e3 : a.start = b.start
  case neg => simp [e1, e2, e3, oa, ob, hgc] at hQ ⊢; exact fin_wk gr (.same _) (by simp) hQ
  by_cases e4 : a.prods.length = b.prods.length
  case neg =>
    have e4' : ¬ (a.prods.length : Int) = b.prods.length := by omega
    have : ¬ a.prods = b.prods := fun e => e4 (by rw [e])
    simp [e1, e2, e3, e4', oa, ob, hgc, this] at hQ ⊢
    exact fin_wk gr (.same _) (by simp) hQ
  have e4' : (a.prods.length : Int) = b.prods.length := by omega
  simp [e1, e2, e3] at hQ
  simp [e1, e2, e3, e4', oa, ob, hgc]
  refine loopI (n := a.prods.length) (fun m env h' => ∃ k, k ≤ a.prods.length ∧ m = a.prods.length - k ∧ h' = h2 ∧ env = [(2, .ptr h.nobj 0), (3, .ptr (h.nobj + 1) 0), (5, .int .i64 k)] ∧ a.prods.take k = b.prods.take k) ?_ ⟨0, by omega, by omega, rfl, rfl, rfl⟩
  rintro m env h' ⟨k, hk, rfl, rfl, rfl, he⟩
  unfold A.probateref03_Same.L0
  by_cases hlt : k < a.prods.length
  · have hlt' : (k : Int) < b.prods.length := by omega
    have hlb : k < b.prods.length := by omega
    have hga : (a.prods.map prV).getD k .undef = prV a.prods[k] := Enc.getD hlt
    have hgb : (b.prods.map prV).getD k .undef = prV b.prods[k] := Enc.getD hlb
    have hw1 : IntKind.i64.wrap ((k : Int) + 1) = ((k + 1 : Nat) : Int) := by rw [wrap_i64 (by omega) (by omega)]; rfl
    have hrk := hr _ (List.getElem_mem hlt)
    have hnx : a.prods[k] = b.prods[k] → a.prods.take (k + 1) = b.prods.take (k + 1) := fun e => take_ext2 hlt hlb he e
    have hno : ¬ a.prods[k] = b.prods[k] → Fin h (.bool false) h' (Lz.mk (a := Q)) := fun e => by
      have : ¬ a.prods = b.prods := fun e2 => e (by simp only [e2])
      simp [this] at hQ
      exact fin_wk gr (.same _) (by simp) hQ
    generalize a.prods[k] = p at *
    generalize b.prods[k] = q at *
    by_cases f1 : p.left = q.left
    case neg =>
      simp [e4', hlt', hlt, hlb, oa, ob, hgc, hga, hgb, prV, prC, V.cells, f1]
      exact hno (fun e => f1 (by rw [e]))
    by_cases f2 : p.right.length = q.right.length
    case neg =>
      have f2' : ¬ (p.right.length : Int) = q.right.length := by omega
      simp [e4', hlt', hlt, hlb, oa, ob, hgc, hga, hgb, prV, prC, V.cells, f1, f2']
      exact hno (fun e => f2 (by rw [e]))
    have f2' : (p.right.length : Int) = q.right.length := by omega
    simp [e4', hlt', hlt, hlb, oa, ob, hgc, hga, hgb, prV, prC, V.cells, f1, f2']
    refine loopI (n := p.right.length) (fun m env h3 => ∃ j, j ≤ p.right.length ∧ m = p.right.length - j ∧ h3 = h' ∧ env = [(2, .ptr h.nobj 0), (3, .ptr (h.nobj + 1) 0), (5, .int .i64 k), (6, .int .i64 j)] ∧ p.right.take j = q.right.take j) ?_ ⟨0, by omega, by omega, rfl, rfl, rfl⟩
    rintro m env h3 ⟨j, hj, rfl, rfl, rfl, hje⟩
    unfold A.probateref03_Same.L1
    by_cases hjt : j < p.right.length
    · have hjt' : (j : Int) < q.right.length := by omega
      have hjb : j < q.right.length := by omega
      have gja : (p.right.map symV).getD j .undef = symV p.right[j] := Enc.getD hjt
      have gjb : (q.right.map symV).getD j .undef = symV q.right[j] := Enc.getD hjb
      have hw2 : IntKind.i64.wrap ((j : Int) + 1) = ((j + 1 : Nat) : Int) := by rw [wrap_i64 (by omega) (by omega)]; rfl
      by_cases e : p.right[j] = q.right[j]
      · simp [e4', hlt', hlt, hlb, oa, ob, hgc, hga, hgb, prV, prC, V.cells, f1, f2', hjt', hjt, hjb, gja, gjb, symV, symC, e, hw2]
        exact ⟨p.right.length - (j + 1), by omega, iv ⟨j + 1, by omega, rfl, rfl, rfl, take_ext2 hjt hjb hje e⟩⟩
      · have hne : p.right[j].non = q.right[j].non → ¬ p.right[j].n = q.right[j].n := by
          intro g1 g2; apply e; cases ha : p.right[j]; cases hb : q.right[j]; simp_all
        have hpq : ¬ p = q := fun e2 => e (by simp only [e2])
        by_cases g1 : p.right[j].non = q.right[j].non <;> by_cases g2 : p.right[j].n = q.right[j].n <;> first | exact absurd g2 (hne g1) | (simp [e4', hlt', hlt, hlb, oa, ob, hgc, hga, hgb, prV, prC, V.cells, f1, f2', hjt', hjt, hjb, gja, gjb, symV, symC, g1, g2]; exact hno hpq)
    · have hjt' : ¬ (j : Int) < q.right.length := by omega
      obtain rfl : j = p.right.length := by omega
      rw [List.take_length, f2, List.take_length] at hje
      have hpq : p = q := by obtain ⟨l1, r1⟩ := p; obtain ⟨l2, r2⟩ := q; simp only at f1 hje; rw [f1, hje]
      simp [e4', hlt', hlt, hlb, oa, ob, hgc, hga, hgb, prV, prC, V.cells, f1, f2', hjt', hw1]
      exact ⟨a.prods.length - (k + 1), by omega, iv ⟨k + 1, by omega, rfl, rfl, rfl, hnx hpq⟩⟩
  · have hlt' : ¬ (k : Int) < b.prods.length := by omega
    simp [e4', hlt', oa, hgc]
    have hk : k = a.prods.length := by omega
    rw [hk, List.take_length, e4, List.take_length] at he
    simp [he] at hQ
    exact fin_wk gr (.same _) (by simp) hQ
/-! ### What comes back -/
end
end Go.Proofs.Ytmobijebjkjnoaa.Al
namespace Go.Proofs.Ytmobijebjkjnoaa.Al
open Go Go.RowKit
set_option linter.unusedSimpArgs false
set_option linter.unusedVariables false
attribute [-simp] List.getD_eq_getElem?_getD Int.not_lt Int.not_le List.map_take
section
variable {X : Cx} {h : AH} {Q : V → AH → Prop}
theorem Wk.l2 {a b c d : V} (x : Wk a c) (y : Wk b d) : Wk (.agg [a, b]) (.agg [c, d]) := .agg _ _ rfl fun i h1 h2 => by
  match i with
  | 0 => exact x
  | 1 => exact y
  | n + 2 => simp at h1; omega
theorem Wk.sln {e e1 st : Nat} {l : List V} (h : l = [] ∨ e1 = e) : Wk (.sl e1 st l) (.sl e 0 l) := by
  rcases h with rfl | rfl
  · exact .nil _ _ _
  · exact .sl _ _ _
end
/-- Of a Kid of an Alt. -/
def altP (t : Te) (left : Int) (k : Int) : Pr := match t.nodes[k.toNat]? with
  | some y => if y.kind = 1 then ⟨left, symsT t y.kids⟩ else ⟨left, [symT t k.toNat]⟩
  | none => ⟨left, []⟩
/-- A node's productions. -/
def prodsT (t : Te) (n : Nat) (left : Int) : List Pr := match t.nodes[n]? with
  | some x => if 6 ≤ x.kind then [⟨left, [symT t n]⟩] else if x.kind = 1 then [⟨left, symsT t x.kids⟩] else if x.kind = 2 then x.kids.map (altP t left)
    else if x.kind = 3 then [⟨left, [symT t (x.kids.headD 0).toNat, ⟨true, left⟩]⟩, ⟨left, []⟩]
    else if x.kind = 4 then [⟨left, [symT t (x.kids.headD 0).toNat, ⟨true, left⟩]⟩, ⟨left, [symT t (x.kids.headD 0).toNat]⟩]
    else [⟨left, [symT t (x.kids.headD 0).toNat]⟩, ⟨left, []⟩]
  | none => []
/-- Productions, as they lie: of their symbols less may be known. -/
def PrWL : List V → List Pr → Prop
  | [], [] => True
  | v :: vs, p :: ps => (∃ e st, v = .agg [.int .i64 p.left, .sl e st (p.right.map symV)] ∧ (p.right = [] ∨ e = 2)) ∧ PrWL vs ps
  | _, _ => False
theorem PrWL.app : ∀ {vs : List V} {ps : List Pr} {us : List V} {qs : List Pr}, PrWL vs ps → PrWL us qs → PrWL (vs ++ us) (ps ++ qs)
  | [], [], _, _, _, h => h
  | v :: vs, p :: ps, _, _, ⟨a, b⟩, h => ⟨a, PrWL.app b h⟩
theorem PrWL.len : ∀ {vs : List V} {ps : List Pr}, PrWL vs ps → vs.length = ps.length
  | [], [], _ => rfl
  | v :: vs, p :: ps, ⟨_, b⟩ => by simp [PrWL.len b]
theorem PrWL.wkl : ∀ {vs : List V} {ps : List Pr}, PrWL vs ps → WkL (cellsOf vs) (cellsOf (ps.map prV))
  | [], [], _ => .nil
  | v :: vs, p :: ps, ⟨⟨e, st, hv, h⟩, b⟩ => by
    subst hv
    simp only [List.map_cons, cellsOf_cons]
    refine .cons (.same _) (.cons (Wk.sln ?_) (PrWL.wkl b))
    rcases h with h | h
    · left; rw [h]; rfl
    · exact .inr h
theorem PrWL.wk {vs : List V} {ps : List Pr} (h : PrWL vs ps) {e st : Nat} (he : vs = [] ∨ e = 2) : Wk (.sl e st vs) (.sl 2 0 (ps.map prV)) := by
  obtain ⟨a, b⟩ := h.wkl.get
  rcases he with rfl | rfl
  · match ps, h with
    | [], _ => exact .nil _ _ _
  · exact .sld _ _ _ _ (by simp [h.len]) (fun v hv => by
      obtain ⟨p, _, rfl⟩ := List.mem_map.1 hv
      rfl) a b
theorem RTe.kids_len {t : Te} (r : RTe t) {i : Nat} (hi : i < t.nodes.length) : t.nodes[i].kids.length ≤ 200 := by
  have h1 := r.perm.length_eq
  have h2 : t.nodes[i].kids.length ≤ (t.nodes.flatMap (·.kids)).length := (List.sublist_flatten_of_mem (List.mem_map.2 ⟨_, List.getElem_mem hi, rfl⟩)).length_le
  have := r.n1
  simp only [List.length_append, iotaI_len] at h1
  omega
theorem RTe.in {t : Te} (r : RTe t) {i : Nat} (hi : i < t.nodes.length) : ∀ m ∈ t.nodes[i].kids, 0 ≤ m ∧ m < t.nodes.length := fun m hm => by have := r.lt i hi m hm; omega
/-- What is known of a node's kind, and how many kids there are. -/
theorem fineT_kind {t : Te} {n : Nd} (h : fineT t n = true) : (n.kind = 1 ∧ n.kids.length ≠ 1) ∨ (n.kind = 2 ∧ 2 ≤ n.kids.length) ∨ (3 ≤ n.kind ∧ n.kind ≤ 5 ∧ n.kids.length = 1) ∨ (n.kind = 6 ∧ n.kids = [] ∧ n.name ∈ rnames t) ∨ (n.kind = 7 ∧ n.kids = []) := by
  unfold fineT at h
  split at h
  · simp at h; rename_i c; right; right; right; left; exact ⟨c, h.1, h.2⟩
  · split at h
    · simp at h; rename_i c; right; right; right; right; exact ⟨c, h.1⟩
    · simp at h
      obtain ⟨_, h⟩ := h
      rcases h with (h | h) | h
      · exact .inl h
      · exact .inr (.inl h)
      · exact .inr (.inr (.inl ⟨h.1.1, h.1.2, h.2⟩))
end Go.Proofs.Ytmobijebjkjnoaa.Al
namespace Go.Proofs.Ytmobijebjkjnoaa.Al
open Go Go.RowKit
set_option linter.unusedSimpArgs false
set_option linter.unusedVariables false
attribute [-simp] List.getD_eq_getElem?_getD Int.not_lt Int.not_le List.map_take
theorem prodsT_len {t : Te} (rt : RTe t) (n : Nat) (left : Int) : (prodsT t n left).length ≤ 200 := by
  unfold prodsT
  split
  · rename_i x hx
    obtain ⟨hn, rfl⟩ := List.getElem?_eq_some_iff.1 hx
    have := rt.kids_len hn
    repeat' split
    all_goals (simp <;> omega)
  · simp
theorem flatP_len {α : Type} {f : α → List Pr} {m : Nat} : ∀ (l : List α), (∀ a ∈ l, (f a).length ≤ m) → (l.flatMap f).length ≤ m * l.length
  | [], _ => by simp
  | a :: l, h => by
    have := flatP_len l fun b hb => h b (by simp [hb])
    have h1 := h a (by simp)
    simp only [List.flatMap_cons, List.length_append, List.length_cons, Nat.mul_add]; omega
/-- The productions of the rules' bodies, and of nodes that have nonterminals of their own. -/
def lowA (t : Te) (k : Nat) : List Pr := (List.range k).flatMap fun i : Nat => prodsT t (t.rules.getD i ⟨[], 0⟩).body.toNat i
def lowB (t : Te) (k : Nat) : List Pr := (List.range k).flatMap fun n : Nat => if hasN t n then prodsT t n (ownN t n) else []
def lowP (t : Te) : List Pr := lowA t t.rules.length ++ lowB t t.nodes.length
def lowG (t : Te) : Gm := ⟨(termsT t).length, (t.rules.length + cntN t t.nodes.length : Nat), 0, lowP t⟩
def lowRes (t : Te) : Gm × List Str × Int := if rightD t then (if rightG (lowG t) then (lowG t, termsT t, 0) else (⟨0, 0, 0, []⟩, [], 5)) else (⟨0, 0, 0, []⟩, [], 1)
def lowV (r : Gm × List Str × Int) : V := .tup [gmV r.1, .sl 1 0 (strs r.2.1), .int .i64 r.2.2]
theorem lowA_succ (t : Te) (k : Nat) : lowA t (k + 1) = lowA t k ++ prodsT t (t.rules.getD k ⟨[], 0⟩).body.toNat k := by simp [lowA, List.range_succ]
theorem lowB_succ (t : Te) (k : Nat) : lowB t (k + 1) = lowB t k ++ if hasN t k then prodsT t k (ownN t k) else [] := by simp [lowB, List.range_succ]
theorem lowA_len {t : Te} (rt : RTe t) (k : Nat) (hk : k ≤ 24) : (lowA t k).length ≤ 4800 := by
  have := flatP_len (f := fun i : Nat => prodsT t (t.rules.getD i ⟨[], 0⟩).body.toNat i) (m := 200) (List.range k) fun a _ => prodsT_len rt _ _
  simp only [List.length_range] at this
  unfold lowA; omega
theorem lowB_len {t : Te} (rt : RTe t) (k : Nat) (hk : k ≤ 200) : (lowB t k).length ≤ 40000 := by
  have := flatP_len (f := fun n : Nat => if hasN t n then prodsT t n (ownN t n) else []) (m := 200) (List.range k) fun a _ => by
    split
    · exact prodsT_len rt _ _
    · simp
  simp only [List.length_range] at this
  unfold lowB; omega
theorem cntN_succ (t : Te) (k : Nat) : cntN t (k + 1) = cntN t k + if hasN t k then 1 else 0 := by
  unfold cntN; rw [List.range_succ, List.countP_append]; simp [List.countP_cons]
theorem cntN_le (t : Te) (k : Nat) : cntN t k ≤ k := by unfold cntN; exact Nat.le_trans List.countP_le_length (by simp)
theorem Bdd_gmV (n m : Nat) (g : Gm) : Bdd n m (gmV g) := by
  simp only [gmV, Bdd_agg]; exact gm_bdd g n m
theorem Bdd_lowV (n m : Nat) (r : Gm × List Str × Int) : Bdd n m (lowV r) := by
  simp only [lowV, Bdd_tup]
  intro v hv
  simp at hv
  rcases hv with rfl | rfl | rfl
  · exact Bdd_gmV _ _ _
  · rw [Bdd_sl0]; exact ⟨by omega, Bdd_strs _ _ _⟩
  · simp
theorem Wk.l3 {a b c a' b' c' : V} (x : Wk a a') (y : Wk b b') (z : Wk c c') : Wk (.tup [a, b, c]) (.tup [a', b', c']) := .tup _ _ rfl fun i h1 h2 => by
  match i with
  | 0 => exact x
  | 1 => exact y
  | 2 => exact z
  | n + 3 => simp at h1; omega
structure LRL (X : Cx) : Prop where
  s : LR8 X
  six : LR6 X
  prods : Has (Ecx X) K.probateref08_prods A.probateref08_prods
  lower : Has (Ecx X) K.probateref08_Lower A.probateref08_Lower
  gright : Has (Ecx X) K.probateref03_Right A.probateref03_Right
end Go.Proofs.Ytmobijebjkjnoaa.Al
namespace Go.Proofs.Ytmobijebjkjnoaa.Al
open Go Go.RowKit
set_option linter.unusedSimpArgs false
set_option linter.unusedVariables false
attribute [-simp] List.getD_eq_getElem?_getD Int.not_lt Int.not_le List.map_take List.map_map
/-- Entries of maps. -/
def fndS (s : Str) : List Str → Option Nat
  | [] => none
  | a :: l => if s = a then some 0 else (fndS s l).map (· + 1)
def entS : List Str → Nat → List V
  | [], _ => []
  | s :: l, i => .tup [.str s, .int .i64 (i : Int)] :: entS l (i + 1)
theorem plc_fnd (s : Str) : ∀ (l : List Str) (i : Nat), plc s l i = match fndS s l with
    | some j => ((i + j : Nat) : Int)
    | none => -1
  | [], i => rfl
  | a :: l, i => by
    unfold plc fndS
    by_cases c : a = s
    · rw [if_pos c, if_pos c.symm]; simp
    · rw [if_neg c, if_neg (fun e => c e.symm), plc_fnd s l (i + 1)]
      cases fndS s l with
      | none => rfl
      | some j => show ((i + 1 + j : Nat) : Int) = ((i + (j + 1) : Nat) : Int); omega
theorem fndS_none {s : Str} : ∀ {l : List Str}, fndS s l = none ↔ s ∉ l
  | [] => by simp [fndS]
  | a :: l => by
    unfold fndS
    by_cases c : s = a
    · rw [if_pos c]; simp [c]
    · rw [if_neg c]; simp [c, fndS_none (s := s) (l := l)]
theorem findE_entS (s : Str) : ∀ (l : List Str) (i k : Nat), findE .s (.str s) (entS l i) k = some ((fndS s l).map fun j => (k + j, .int .i64 ((i + j : Nat) : Int)))
  | [], i, k => rfl
  | a :: l, i, k => by
    unfold entS fndS
    by_cases c : s = a
    · simp [findE, eqLeaf, c]
    · simp only [findE, eqLeaf, decide_eq_false c, if_neg c]
      rw [findE_entS s l (i + 1) (k + 1)]
      cases fndS s l with
      | none => rfl
      | some j => simp; omega
theorem entS_app : ∀ (l : List Str) (s : Str) (i : Nat), entS (l ++ [s]) i = entS l i ++ [.tup [.str s, .int .i64 ((i + l.length : Nat) : Int)]]
  | [], s, i => by simp [entS]
  | a :: l, s, i => by
    simp only [List.cons_append, entS, entS_app l s (i + 1), List.length_cons]
    rw [show i + 1 + l.length = i + (l.length + 1) by omega]
def entK (l : List Int) : List V := l.map fun k => .tup [.int .i64 k, .int .i64 1]
theorem findE_entK (k : Int) : ∀ (l : List Int) (j : Nat), (k ∉ l ∧ findE .i (.int .i64 k) (entK l) j = some none) ∨ (k ∈ l ∧ ∃ i, ∃ h : i < l.length, l[i] = k ∧ findE .i (.int .i64 k) (entK l) j = some (some (j + i, .int .i64 1)))
  | [], j => .inl ⟨by simp, rfl⟩
  | a :: l, j => by
    by_cases c : k = a
    · exact .inr ⟨by simp [c], 0, by simp, by simp [c], by simp [entK, findE, eqLeaf, c]⟩
    · have hs : findE .i (.int .i64 k) (entK (a :: l)) j = findE .i (.int .i64 k) (entK l) (j + 1) := by simp [entK, findE, eqLeaf, c]
      rw [hs]
      rcases findE_entK k l (j + 1) with ⟨h1, h2⟩ | ⟨h1, i, h2, h3, h4⟩
      · exact .inl ⟨by simp [c, h1], h2⟩
      · exact .inr ⟨by simp [h1], i + 1, by simpa using h2, by simpa using h3, by rw [h4, show j + 1 + i = j + (i + 1) by omega]⟩
def insK (l : List Int) (k : Int) : List Int := if k ∈ l then l else l ++ [k]
theorem mem_insK (l : List Int) (k x : Int) : x ∈ insK l k ↔ x ∈ l ∨ x = k := by
  unfold insK
  split
  · rename_i h; exact ⟨.inl, fun e => e.elim id (fun e => e ▸ h)⟩
  · simp
/-- Entries of numbers. -/
def entI (l : List (Int × Int)) : List V := l.map fun p => .tup [.int .i64 p.1, .int .i64 p.2]
def fndI (k : Int) : List (Int × Int) → Option (Nat × Int)
  | [] => none
  | a :: l => if k = a.1 then some (0, a.2) else (fndI k l).map fun p => (p.1 + 1, p.2)
theorem findE_entI (k : Int) : ∀ (l : List (Int × Int)) (j : Nat), findE .i (.int .i64 k) (entI l) j = some ((fndI k l).map fun p => (j + p.1, .int .i64 p.2))
  | [], j => rfl
  | a :: l, j => by
    unfold fndI
    by_cases c : k = a.1
    · simp [entI, findE, eqLeaf, c]
    · have hs : findE .i (.int .i64 k) (entI (a :: l)) j = findE .i (.int .i64 k) (entI l) (j + 1) := by simp [entI, findE, eqLeaf, c]
      rw [hs, findE_entI k l (j + 1), if_neg c]
      cases fndI k l with
      | none => rfl
      | some p => simp; omega
theorem fndI_none {k : Int} : ∀ {l : List (Int × Int)}, (∀ p ∈ l, p.1 ≠ k) → fndI k l = none
  | [], _ => rfl
  | a :: l, h => by
    unfold fndI
    rw [if_neg (fun e => h a (by simp) e.symm), fndI_none (fun p hp => h p (by simp [hp]))]; rfl
/-- The lowerer. -/
def loC (t : Te) (e sn : Nat) (names : List Str) (m1 m2 m3 : Nat) (pv : V) : List V := [.sl 2 0 (t.rules.map rlV), .sl 3 0 (t.nodes.map ndV), .sl e sn (strs names), .mapr m1, .mapr m2, .mapr m3, pv]
/-- From h to h1 only these objects have been turned, and a slice of this stamp. -/
structure FR (h h1 : AH) (os : List Nat) (st : Nat) : Prop where
  next : h.next ≤ h1.next
  nobj : h.nobj ≤ h1.nobj
  objs : ∀ o, o < h.nobj → o ∉ os → h1.objs o = h.objs o
  tips : ∀ s, s < h.next → (s ≠ st ∨ s ≤ 2) → h1.tips s = h.tips s
theorem FR.refl (h : AH) (os : List Nat) (st : Nat) : FR h h os st := ⟨Nat.le_refl _, Nat.le_refl _, fun _ _ _ => rfl, fun _ _ _ => rfl⟩
theorem FR.new {h h1 : AH} {os : List Nat} {st : Nat} (f : FR h h1 os st) (z : List V) : FR h (h1.new z) os st :=
  ⟨f.next, Nat.le_succ_of_le f.nobj, fun o ho hn => by rw [new_objs_ne _ _ (by have := f.nobj; omega)]; exact f.objs o ho hn, f.tips⟩
theorem FR.set {h h1 : AH} {os : List Nat} {st : Nat} (f : FR h h1 os st) {o : Nat} (ho : o ∈ os ∨ h.nobj ≤ o) (z : List V) : FR h (h1.set o z) os st :=
  ⟨f.next, f.nobj, fun o' ho' hn => by
    rw [set_objs_ne _ _ _ (by rintro rfl; rcases ho with h | h; exact hn h; omega)]; exact f.objs o' ho' hn, f.tips⟩
theorem FR.push {h h1 : AH} {os : List Nat} {st : Nat} (f : FR h h1 os st) {s1 : Nat} (hs : s1 = st ∨ s1 ≤ 2 ∨ h.next ≤ s1) (e : Nat) : FR h (h1.push s1 e) os st := by
  have := f.next
  refine ⟨by rw [push_next]; omega, by rw [push_nobj]; exact f.nobj, fun o ho hn => by rw [push_objs]; exact f.objs o ho hn, fun s h1' h2 => ?_⟩
  by_cases c : s1 ≤ 2
  · have key : (h1.push s1 e).tips s = h1.tips s := by
      unfold AH.push; rw [if_pos c]; exact updN_ne _ _ (by omega)
    rw [key]; exact f.tips s h1' h2
  · rw [push_tips_at (by omega) (by omega)]; exact f.tips s h1' h2
theorem Gr.fr {h0 h h1 : AH} {os : List Nat} {st : Nat} (G : Gr h0 h) (f : FR h h1 os st) (ho : ∀ o ∈ os, h0.nobj ≤ o) (hs : st ≤ 2 ∨ h0.next ≤ st) : Gr h0 h1 := by
  have g1 := G.next
  have g2 := G.nobj
  exact ⟨Nat.le_trans g1 f.next, Nat.le_trans g2 f.nobj, fun o h' => (f.objs o (by omega) (fun e => by have := ho o e; omega)).trans (G.objs o h'), fun s h' => (f.tips s (by omega) (by omega)).trans (G.tips s h')⟩
structure LLo (X : Cx) : Prop where
  ru : LRu X
  right : Has (Ecx X) K.rules_Right A.rules_Right_o
  term : Has (Ecx X) K.lower_lowerer_term A.lower_lowerer_term
  alone : Has (Ecx X) K.lower_lowerer_alone A.lower_lowerer_alone
  number : Has (Ecx X) K.lower_lowerer_number A.lower_lowerer_number
  symbol : Has (Ecx X) K.lower_lowerer_symbol A.lower_lowerer_symbol
  all : Has (Ecx X) K.lower_all A.lower_all
  lay : Has (Ecx X) K.lower_lowerer_lay A.lower_lowerer_lay
  node : Has (Ecx X) K.lower_lowerer_node A.lower_lowerer_node
  lower : Has (Ecx X) K.lower_Lower A.lower_Lower
  gr : LGr X
section
variable {X : Cx} {h : AH} {Q : V → AH → Prop}
theorem term_spec (L : LLo X) (t : Te) {o m1 m2 m3 e sn : Nat} {names : List Str} {pv : V} (s : Str) (ho : h.objs o = loC t e sn names m1 m2 m3 pv) (h1 : h.objs m1 = entS names 0) (hno : ¬ o = m1) (hnl : names.length ≤ 2 ^ 30) (my : May 1 h e sn (strs names))
    (hQ0 : fndS s names ≠ none → Q (.tup []) h) (hQ1 : fndS s names = none → Q (.tup []) (((h.set m1 (entS (names ++ [s]) 0)).push sn 1).set o (loC t 1 h.next (names ++ [s]) m1 m2 m3 pv))) :
    Ecx X K.lower_lowerer_term [.ptr o 0, .str s] h Q := by
  refine fn_any L.term (by simp [A.lower_lowerer_term]) fun wf => ?_
  have hf := findE_entS s names 0 0
  have hno' : ¬ m1 = o := fun e => hno e.symm
  simp [A.lower_lowerer_term, ho, loC, h1, hf]
  cases hs : fndS s names with
  | some j => 
    simp
    exact hQ0 (by rw [hs]; simp)
  | none =>
    rw [hs] at hf
    have q := hQ1 hs
    have hsl : (strs names).length = names.length := by simp [strs]
    have he := entS_app names s 0
    simp only [Nat.zero_add] at he
    rw [he] at q
    simp [lkpV, ho, loC, h1, hf, hno, hno', hsl, fillL, V.isAgg]
    refine (show May 1 (h.set m1 (entS names 0 ++ [V.tup [V.str s, V.int .i64 (names.length : Int)]])) e sn (strs names) from ⟨my.el, my.st⟩).app (by simp) rfl (by simp [hsl]; omega) ?_
    simp [V.cells, V.good, setAt, ho, loC, hno, push_objs]
    simpa [loC, strs] using q
theorem all_spec (L : LLo X) (l : List Int) {kf : Nat} {first cap : List V} (f : Int → Sy) (hl : l.length ≤ 2 ^ 30) (hf : ∀ k ∈ l, ∀ {h' : AH} {Q' : V → AH → Prop}, Gr h h' → Q' (symV (f k)) h' → Ecx X kf (first ++ .int .i64 k :: cap) h' Q')
    (hQ : Q (.sl 2 0 ((l.map f).map symV)) h) : Ecx X K.lower_all [.sl 1 0 (ints l), .fn kf first cap] h Q := by
  refine fn_walk L.all (by simp [A.lower_all]) fun wf => ?_
  have hil : (ints l).length = l.length := by simp [ints]
  simp [A.lower_all, hil]
  refine loopI (n := l.length) (fun m env h' => ∃ k e st, k ≤ l.length ∧ m = l.length - k ∧ Own h h' 2 e st (((l.take k).map f).map symV) ∧ env = [(1, .fn kf first cap), (5, .sl e st (((l.take k).map f).map symV)), (8, .sl 1 0 (ints l)), (9, .int .i64 l.length), (10, .int .i64 k)]) ?_
    ⟨0, 0, 1, by omega, by omega, ⟨Gr.refl h, .inl rfl, .inl rfl⟩, rfl⟩
  rintro m env h' ⟨k, e, st, hk, rfl, ow, rfl⟩
  unfold A.lower_all.L0
  by_cases hlt : k < l.length
  · have hlt' : (k : Int) < l.length := by omega
    have hg := ints_get hlt
    have hw1 : IntKind.i64.wrap ((k : Int) + 1) = ((k + 1 : Nat) : Int) := by rw [wrap_i64 (by omega) (by omega)]; rfl
    have hts : ((l.take (k + 1)).map f).map symV = ((l.take k).map f).map symV ++ [symV (f l[k])] := by
      rw [List.take_succ_eq_append_getElem hlt, List.map_append, List.map_append]; rfl
    have hm := List.getElem_mem hlt
    have hsc : symC (f l[k]) = [.bool (f l[k]).non, .int .i64 (f l[k]).n] := rfl
    simp [hlt', hg, hil, V.cells]
    refine ecall (hf _ hm ow.gr ?_)
    simp [fillL, V.isAgg, symV, hsc]
    rw [show V.agg [.bool (f l[k]).non, .int .i64 (f l[k]).n] = symV (f l[k]) from rfl]
    refine ow.appZ (fun _ => rfl) (by simp; omega) fun e2 st2 h3 o3 ob3 no3 => ?_
    rw [← hts] at o3 ⊢
    simp [hw1]
    exact ⟨l.length - (k + 1), by omega, iv ⟨k + 1, e2, st2, by omega, rfl, o3, rfl⟩⟩
  · have hlt' : ¬ (k : Int) < l.length := by omega
    obtain rfl : k = l.length := by omega
    rw [List.take_length] at ow ⊢
    simp [hlt']
    exact fin_own ow (encS.cells _ _ _) (by simpa using hQ)
theorem lay_spec (L : LLo X) {o e sp : Nat} {c0 c1 c2 c3 c4 c5 : V} {ps : List Pr} (p : Pr) (ho : h.objs o = [c0, c1, c2, c3, c4, c5, .sl e sp (ps.map prV)]) (my : May 2 h e sp (ps.map prV)) (hl : ps.length ≤ 2 ^ 30)
    (hQ : Q (.tup []) ((h.push sp 2).set o [c0, c1, c2, c3, c4, c5, .sl 2 h.next ((ps ++ [p]).map prV)])) : Ecx X K.lower_lowerer_lay [.ptr o 0, .int .i64 p.left, .sl 2 0 (p.right.map symV)] h Q := by
  refine fn_any L.lay (by simp [A.lower_lowerer_lay]) fun wf => ?_
  simp [A.lower_lowerer_lay, ho, fillV, fillL, setAt, V.cells, V.good, V.isAgg]
  refine my.app (by simp) rfl (by simp; omega) ?_
  simp [V.cells, V.good, setAt, ho, push_objs]
  simpa [prV, prC] using hQ
end
end Go.Proofs.Ytmobijebjkjnoaa.Al
namespace Go.Proofs.Ytmobijebjkjnoaa.Al
open Go Go.RowKit
set_option linter.unusedSimpArgs false
set_option linter.unusedVariables false
attribute [-simp] List.getD_eq_getElem?_getD Int.not_lt Int.not_le List.map_take List.map_map
theorem mupF_entK {h : AH} {K : V → AH → Prop} {zK : Lz K} {m : Nat} {l : List Int} {k : Int} (hm : h.objs m = entK l) (hk : K (.tup []) (h.set m (entK (insK l k)))) : mupF h m (.int .i64 k) (.int .i64 1) (findE .i (.int .i64 k) (entK l) 0) zK := by
  rcases findE_entK k l 0 with ⟨h1, h2⟩ | ⟨h1, i, h2, h3, h4⟩
  · rw [h2]
    show K (.tup []) (h.set m (h.objs m ++ [.tup [.int .i64 k, .int .i64 1]]))
    rw [hm]
    unfold insK at hk
    rw [if_neg h1] at hk
    simpa [entK] using hk
  · rw [h4]
    show K (.tup []) (h.set m ((h.objs m).set (0 + i) (.tup [.int .i64 k, .int .i64 1])))
    unfold insK at hk
    rw [if_pos h1] at hk
    have : (h.objs m).set (0 + i) (.tup [.int .i64 k, .int .i64 1]) = entK l := by
      rw [hm, Nat.zero_add]
      apply List.ext_getElem?
      intro j
      rw [List.getElem?_set]
      split
      · rename_i e
        subst e
        simp [entK, h2, h3]
      · rfl
    rw [this]; exact hk
def kindAt (t : Te) (k : Int) : Int := match t.nodes[k.toNat]? with
  | some y => y.kind
  | none => 0
def aloA (rs : List Rl) (l : List Int) : List Int := rs.foldl (fun l r => insK l r.body) l
def aloX (t : Te) (kind : Int) (ks : List Int) (l : List Int) : List Int := ks.foldl (fun l k => if kind = 2 ∧ kindAt t k = 1 then insK l k else l) l
def aloB (t : Te) (ns : List Nd) (l : List Int) : List Int := ns.foldl (fun l x => aloX t x.kind x.kids l) l
def aloneK (t : Te) : List Int := aloB t t.nodes (aloA t.rules [])
theorem mem_aloA (i : Int) : ∀ (rs : List Rl) (l : List Int), i ∈ aloA rs l ↔ i ∈ l ∨ ∃ r ∈ rs, r.body = i
  | [], l => by simp [aloA]
  | r :: rs, l => by
    have := mem_aloA i rs (insK l r.body)
    unfold aloA at *
    rw [List.foldl_cons, this, mem_insK]
    simp only [List.mem_cons, exists_eq_or_imp]
    constructor
    · rintro ((h | h) | h)
      · exact .inl h
      · exact .inr (.inl h.symm)
      · exact .inr (.inr h)
    · rintro (h | h | h)
      · exact .inl (.inl h)
      · exact .inl (.inr h.symm)
      · exact .inr h
theorem mem_aloX (t : Te) (kind i : Int) : ∀ (ks l : List Int), i ∈ aloX t kind ks l ↔ i ∈ l ∨ (kind = 2 ∧ i ∈ ks ∧ kindAt t i = 1)
  | [], l => by simp [aloX]
  | k :: ks, l => by
    have := mem_aloX t kind i ks (if kind = 2 ∧ kindAt t k = 1 then insK l k else l)
    unfold aloX at *
    rw [List.foldl_cons, this]
    by_cases c : kind = 2 ∧ kindAt t k = 1
    · rw [if_pos c, mem_insK]
      constructor
      · rintro ((h | h) | h)
        · exact .inl h
        · exact .inr ⟨c.1, by simp [h], by rw [h]; exact c.2⟩
        · exact .inr ⟨h.1, by simp [h.2.1], h.2.2⟩
      · rintro (h | ⟨h1, h2, h3⟩)
        · exact .inl (.inl h)
        · rcases List.mem_cons.1 h2 with h2 | h2
          · exact .inl (.inr h2)
          · exact .inr ⟨h1, h2, h3⟩
    · rw [if_neg c]
      constructor
      · rintro (h | h)
        · exact .inl h
        · exact .inr ⟨h.1, by simp [h.2.1], h.2.2⟩
      · rintro (h | ⟨h1, h2, h3⟩)
        · exact .inl h
        · rcases List.mem_cons.1 h2 with h2 | h2
          · exact absurd ⟨h1, by rw [← h2]; exact h3⟩ c
          · exact .inr ⟨h1, h2, h3⟩
theorem mem_aloB (t : Te) (i : Int) : ∀ (ns : List Nd) (l : List Int), i ∈ aloB t ns l ↔ i ∈ l ∨ ∃ x ∈ ns, x.kind = 2 ∧ i ∈ x.kids ∧ kindAt t i = 1
  | [], l => by simp [aloB]
  | x :: ns, l => by
    have := mem_aloB t i ns (aloX t x.kind x.kids l)
    unfold aloB at *
    rw [List.foldl_cons, this, mem_aloX]
    simp only [List.mem_cons, exists_eq_or_imp, or_assoc]
/-- The program's test is the reference's. -/
theorem alone_has {t : Te} {i : Nat} (hi : i < t.nodes.length) (h7 : t.nodes[i].kind ≤ 7) : hasN t i = (decide (t.nodes[i].kind ≠ 7) && decide (t.nodes[i].kind ≠ 6) && !decide ((i : Int) ∈ aloneK t)) := by
  unfold hasN
  rw [List.getElem?_eq_getElem hi]
  simp only
  have hk : kindAt t (i : Int) = t.nodes[i].kind := by unfold kindAt; rw [Int.toNat_natCast, List.getElem?_eq_getElem hi]
  have e1 : decide (t.nodes[i].kind ≤ 5) = (decide (t.nodes[i].kind ≠ 7) && decide (t.nodes[i].kind ≠ 6)) := by
    apply Bool.eq_iff_iff.2; simp; omega
  rw [e1, Bool.and_assoc]
  congr 1
  apply Bool.eq_iff_iff.2
  simp only [Bool.and_eq_true, Bool.not_eq_true', decide_eq_false_iff_not, aloneK, mem_aloB, mem_aloA, hk]
  simp only [List.all_eq_true, decide_eq_true_eq, List.any_eq_false, kidT, Bool.and_eq_true]
  constructor
  · rintro ⟨h1, h2⟩ ((h | ⟨r, hr, he⟩) | ⟨x, hx, hx1, hx2, hx3⟩)
    · simp at h
    · exact h1 r hr he
    · apply h2 x hx
      rw [List.any_eq_true]
      exact ⟨_, hx2, by simp [hx1, hx3]⟩
  · intro h
    refine ⟨fun r hr he => h (.inl (.inr ⟨r, hr, he⟩)), fun x hx hq => ?_⟩
    rw [List.any_eq_true] at hq
    obtain ⟨m, hm, he⟩ := hq
    simp at he
    exact h (.inr ⟨x, hx, he.1.1, by rw [← he.1.2]; exact hm, he.2⟩)
section
variable {X : Cx} {h : AH} {Q : V → AH → Prop}
theorem aloneL2 (t : Te) {o m o7 k31 : Nat} {v : V} {h0 : AH} {kind : Int} {ks : List Int} {l : List Int} {Q : Ex → Env → AH → Prop} {zQ : Lz Q} {z : Lz (AC.loop A.lower_lowerer_alone.L2)} (hl : ks.length ≤ 2 ^ 30) (hin : ∀ k ∈ ks, 0 ≤ k ∧ k < t.nodes.length) (rest : List V)
    (gr : Gr h0 h) (hm0 : h0.nobj ≤ m) (ho : h.objs o = .sl 2 0 (t.rules.map rlV) :: .sl 3 0 (t.nodes.map ndV) :: rest) (h7 : h.objs o7 = [.int .i64 kind, v, .sl 1 0 (ints ks)]) (hm : h.objs m = entK l) (om : ¬ o = m) (o7m : ¬ o7 = m)
    (hex : Gr h0 (h.set m (entK (aloX t kind ks l))) → Q (.exit 4) [(0, .ptr o 0), (3, .mapr m), (7, .ptr o7 0), (29, .sl 3 0 (t.nodes.map ndV)), (30, .int .i64 t.nodes.length), (31, .int .i64 k31), (36, .sl 1 0 (ints ks)), (37, .int .i64 ks.length), (38, .int .i64 ks.length), (39, .bool false)] (h.set m (entK (aloX t kind ks l)))) :
    acZ (Ecx X) [(0, .ptr o 0), (3, .mapr m), (7, .ptr o7 0), (29, .sl 3 0 (t.nodes.map ndV)), (30, .int .i64 t.nodes.length), (31, .int .i64 k31), (36, .sl 1 0 (ints ks)), (37, .int .i64 ks.length), (38, .int .i64 0)] h z zQ := by
  refine loopI (n := ks.length) (fun mm env h' => ∃ j, j ≤ ks.length ∧ mm = ks.length - j ∧ h' = h.set m (entK (aloX t kind (ks.take j) l)) ∧ env = [(0, .ptr o 0), (3, .mapr m), (7, .ptr o7 0), (29, .sl 3 0 (t.nodes.map ndV)), (30, .int .i64 t.nodes.length), (31, .int .i64 k31), (36, .sl 1 0 (ints ks)), (37, .int .i64 ks.length), (38, .int .i64 j)]) ?_
    ⟨0, by omega, by omega, by rw [show aloX t kind (ks.take 0) l = l from rfl, ← hm, set_self rfl], rfl⟩
  rintro mm env h' ⟨j, hj, rfl, rfl, rfl⟩
  unfold A.lower_lowerer_alone.L2
  have hil : (ints ks).length = ks.length := by simp [ints]
  have ob : (h.set m (entK (aloX t kind (ks.take j) l))).objs o = .sl 2 0 (t.rules.map rlV) :: .sl 3 0 (t.nodes.map ndV) :: rest := by rw [set_objs_ne _ _ _ om]; exact ho
  have ob7 : (h.set m (entK (aloX t kind (ks.take j) l))).objs o7 = [.int .i64 kind, v, .sl 1 0 (ints ks)] := by rw [set_objs_ne _ _ _ o7m]; exact h7
  have obm : (h.set m (entK (aloX t kind (ks.take j) l))).objs m = entK (aloX t kind (ks.take j) l) := by simp
  have hss : ∀ z, (h.set m (entK (aloX t kind (ks.take j) l))).set m z = h.set m z := fun z => by simp
  generalize hh : h.set m (entK (aloX t kind (ks.take j) l)) = h2 at *
  by_cases hlt : j < ks.length
  · have hlt' : (j : Int) < ks.length := by omega
    have hgk := ints_get hlt
    have hw1 : IntKind.i64.wrap ((j : Int) + 1) = ((j + 1 : Nat) : Int) := by rw [wrap_i64 (by omega) (by omega)]; rfl
    have hink := hin _ (List.getElem_mem hlt)
    have hsu : aloX t kind (ks.take (j + 1)) l = if kind = 2 ∧ kindAt t ks[j] = 1 then insK (aloX t kind (ks.take j) l) ks[j] else aloX t kind (ks.take j) l := by
      unfold aloX; rw [List.take_succ_eq_append_getElem hlt, List.foldl_append]; rfl
    obtain ⟨c, hc⟩ : ∃ c : Nat, ks[j] = (c : Int) := ⟨ks[j].toNat, by omega⟩
    rw [hc] at hgk hsu hink
    have hcn : c < t.nodes.length := by omega
    have hcn' : (c : Int) < t.nodes.length := by omega
    have hgc : (t.nodes.map ndV).getD c .undef = ndV t.nodes[c] := Enc.getD hcn
    have hka : kindAt t (c : Int) = t.nodes[c].kind := by unfold kindAt; rw [Int.toNat_natCast, List.getElem?_eq_getElem hcn]
    rw [hka] at hsu
    generalize t.nodes[c] = y at *
    have hyc : ndC y = [.int .i64 y.kind, .str y.name, .sl 1 0 (ints y.kids)] := rfl
    by_cases c1 : kind = 2
    · by_cases c2 : y.kind = 1
      · rw [if_pos ⟨c1, c2⟩] at hsu
        simp [hlt', hgk, hil, V.cells, ob7, ob, hcn', hgc, ndV, hyc, c1, c2]
        rw [obm]
        refine mupF_entK obm ?_
        simp [hw1]
        exact ⟨ks.length - (j + 1), by omega, iv ⟨j + 1, by omega, rfl, by rw [hss, hsu], rfl⟩⟩
      · rw [if_neg (fun e => c2 e.2)] at hsu
        simp [hlt', hgk, hil, V.cells, ob7, ob, hcn', hgc, ndV, hyc, c1, c2, hw1]
        exact ⟨ks.length - (j + 1), by omega, iv ⟨j + 1, by omega, rfl, by rw [hsu, hh], rfl⟩⟩
    · rw [if_neg (fun e => c1 e.1)] at hsu
      simp [hlt', hgk, hil, V.cells, ob7, ob, hcn', hgc, ndV, hyc, c1, hw1]
      exact ⟨ks.length - (j + 1), by omega, iv ⟨j + 1, by omega, rfl, by rw [hsu, hh], rfl⟩⟩
  · have hlt' : ¬ (j : Int) < ks.length := by omega
    obtain rfl : j = ks.length := by omega
    rw [List.take_length] at hh
    simp [hlt']
    rw [← hh]
    exact hex (gr.set hm0 _)
theorem alone_spec (L : LLo X) (t : Te) (rt : RTe t) {o : Nat} {rest : List V} (ob : o < h.nobj) (ho : h.objs o = .sl 2 0 (t.rules.map rlV) :: .sl 3 0 (t.nodes.map ndV) :: rest)
    (hQ : ∀ h', Gr h h' → h.nobj < h'.nobj → h'.objs h.nobj = entK (aloneK t) → Q (.mapr h.nobj) h') : Ecx X K.lower_lowerer_alone [.ptr o 0] h Q := by
  refine fn_any L.alone (by simp [A.lower_lowerer_alone]) fun wf => ?_
  have hn := rt.n1
  have hr := rt.r1
  have om : ¬ o = h.nobj := by omega
  simp [A.lower_lowerer_alone, ho, om]
  refine loopI (n := t.rules.length) (fun mm env h' => ∃ k, k ≤ t.rules.length ∧ mm = t.rules.length - k ∧ Gr h h' ∧ h.nobj < h'.nobj ∧ h'.objs h.nobj = entK (aloA (t.rules.take k) []) ∧ env = [(0, .ptr o 0), (3, .mapr h.nobj), (15, .sl 2 0 (t.rules.map rlV)), (16, .int .i64 t.rules.length), (17, .int .i64 k)]) ?_
    ⟨0, by omega, by omega, (Gr.refl h).new [], by simp, by simp [aloA, entK], rfl⟩
  rintro mm env h' ⟨k, hk, rfl, gr, nb, om', rfl⟩
  unfold A.lower_lowerer_alone.L0
  by_cases hlt : k < t.rules.length
  · have hlt' : (k : Int) < t.rules.length := by omega
    have hg : (t.rules.map rlV).getD k .undef = rlV t.rules[k] := Enc.getD hlt
    have hw1 : IntKind.i64.wrap ((k : Int) + 1) = ((k + 1 : Nat) : Int) := by rw [wrap_i64 (by omega) (by omega)]; rfl
    have hsu : aloA (t.rules.take (k + 1)) [] = insK (aloA (t.rules.take k) []) t.rules[k].body := by
      unfold aloA; rw [List.take_succ_eq_append_getElem hlt, List.foldl_append]; rfl
    generalize t.rules[k] = r at *
    have hrc : rlC r = [.str r.name, .int .i64 r.body] := rfl
    have n1 : ¬ h.nobj = h'.nobj := by omega
    have q0 : (h'.new (rlC r)).objs h'.nobj = rlC r := by simp
    have q1 : (h'.new (rlC r)).objs h.nobj = entK (aloA (t.rules.take k) []) := by simp [n1, om']
    have q2 : (h'.new (rlC r)).nobj = h'.nobj + 1 := by simp
    have q3 := gr.new (rlC r)
    simp [hlt', hg, rlV, V.cells, V.good, hrc, setAt]
    rw [← hrc]
    generalize h'.new (rlC r) = h2 at *
    simp [q0, hrc, q1]
    refine mupF_entK q1 ?_
    simp [hw1]
    exact ⟨t.rules.length - (k + 1), by omega, iv ⟨k + 1, by omega, rfl, q3.set (by omega) _, by rw [set_nobj]; omega, by rw [set_objs_same, hsu], rfl⟩⟩
  · have hlt' : ¬ (k : Int) < t.rules.length := by omega
    obtain rfl : k = t.rules.length := by omega
    rw [List.take_length] at om'
    have ob' : h'.objs o = .sl 2 0 (t.rules.map rlV) :: .sl 3 0 (t.nodes.map ndV) :: rest := (gr.objs _ ob).trans ho
    simp [hlt', ob']
    refine loopI (n := t.nodes.length) (fun mm env h2 => ∃ k, k ≤ t.nodes.length ∧ mm = t.nodes.length - k ∧ Gr h h2 ∧ h.nobj < h2.nobj ∧ h2.objs h.nobj = entK (aloB t (t.nodes.take k) (aloA t.rules [])) ∧ env = [(0, .ptr o 0), (3, .mapr h.nobj), (29, .sl 3 0 (t.nodes.map ndV)), (30, .int .i64 t.nodes.length), (31, .int .i64 k)]) ?_
      ⟨0, by omega, by omega, gr, nb, by simpa [aloB] using om', rfl⟩
    clear gr nb om' ob' h'
    rintro mm env h' ⟨k, hk, rfl, gr, nb, om', rfl⟩
    unfold A.lower_lowerer_alone.L1
    by_cases hlt : k < t.nodes.length
    · have hlt' : (k : Int) < t.nodes.length := by omega
      have hg : (t.nodes.map ndV).getD k .undef = ndV t.nodes[k] := Enc.getD hlt
      have hw1 : IntKind.i64.wrap ((k : Int) + 1) = ((k + 1 : Nat) : Int) := by rw [wrap_i64 (by omega) (by omega)]; rfl
      have hsu : aloB t (t.nodes.take (k + 1)) (aloA t.rules []) = aloX t t.nodes[k].kind t.nodes[k].kids (aloB t (t.nodes.take k) (aloA t.rules [])) := by
        unfold aloB; rw [List.take_succ_eq_append_getElem hlt, List.foldl_append]; rfl
      have hin := rt.in hlt
      have hkl := rt.kids_len hlt
      generalize t.nodes[k] = x at *
      have hxc : ndC x = [.int .i64 x.kind, .str x.name, .sl 1 0 (ints x.kids)] := rfl
      have n1 : ¬ h.nobj = h'.nobj := by omega
      have q0 : (h'.new (ndC x)).objs h'.nobj = ndC x := by simp
      have q1 : (h'.new (ndC x)).objs h.nobj = entK (aloB t (t.nodes.take k) (aloA t.rules [])) := by simp [n1, om']
      have q2 : (h'.new (ndC x)).nobj = h'.nobj + 1 := by simp
      have q3 := gr.new (ndC x)
      have hil : (ints x.kids).length = x.kids.length := by simp [ints]
      simp [hlt', hg, ndV, V.cells, V.good, hxc, setAt]
      rw [← hxc]
      generalize h'.new (ndC x) = h2 at *
      refine aloneL2 t (o := o) (m := h.nobj) (o7 := h'.nobj) (k31 := k) (v := .str x.name) (h0 := h) (by omega) hin rest q3 (Nat.le_refl _) ((q3.objs _ ob).trans ho) (by rw [q0, hxc]) q1 om (by omega) fun g4 => ?_
      simp [hw1]
      exact ⟨t.nodes.length - (k + 1), by omega, iv ⟨k + 1, by omega, rfl, g4, by rw [set_nobj]; omega, by rw [set_objs_same, hsu], rfl⟩⟩
    · have hlt' : ¬ (k : Int) < t.nodes.length := by omega
      obtain rfl : k = t.nodes.length := by omega
      rw [List.take_length] at om'
      simp [hlt']
      exact hQ h' gr nb om'
end
end Go.Proofs.Ytmobijebjkjnoaa.Al
namespace Go.Proofs.Ytmobijebjkjnoaa.Al
open Go Go.RowKit
set_option linter.unusedSimpArgs false
set_option linter.unusedVariables false
attribute [-simp] List.getD_eq_getElem?_getD Int.not_lt Int.not_le List.map_take List.map_map
def tstep (out : List Str) (n : Nd) : List Str := if n.kind = 7 ∧ plc n.name out 0 < 0 then out ++ [n.name] else out
theorem termsF_snoc : ∀ (l : List Nd) (n : Nd) (out : List Str), termsF (l ++ [n]) out = tstep (termsF l out) n
  | [], n, out => rfl
  | a :: l, n, out => by simp only [List.cons_append, termsF]; exact termsF_snoc l n _
theorem plc_neg (s : Str) (l : List Str) : plc s l 0 < 0 ↔ fndS s l = none := by
  rw [plc_fnd]
  cases fndS s l <;> simp <;> omega
theorem termsF_mem {s : Str} : ∀ (l : List Nd) (out : List Str), s ∈ out → s ∈ termsF l out
  | [], out, h => h
  | n :: l, out, h => by
    unfold termsF
    refine termsF_mem l _ ?_
    split
    · simp [h]
    · exact h
theorem termsF_has : ∀ (l : List Nd) (out : List Str) (n : Nd), n ∈ l → n.kind = 7 → n.name ∈ termsF l out
  | a :: l, out, n, h, h7 => by
    unfold termsF
    rcases List.mem_cons.1 h with rfl | h
    · refine termsF_mem l _ ?_
      by_cases c : plc n.name out 0 < 0
      · rw [if_pos ⟨h7, c⟩]; simp
      · rw [if_neg (fun e => c e.2)]
        rw [plc_neg, fndS_none] at c
        exact Classical.not_not.1 c
    · exact termsF_has l _ n h h7
/-- The entries of nodes that have nonterminals of their own. -/
def ownE (t : Te) (k : Nat) : List (Int × Int) := ((List.range k).filter (hasN t)).map fun i : Nat => ((i : Int), ownN t i)
theorem ownE_succ (t : Te) (k : Nat) : ownE t (k + 1) = if hasN t k then ownE t k ++ [((k : Int), ownN t k)] else ownE t k := by
  unfold ownE
  rw [List.range_succ, List.filter_append, List.map_append]
  cases hh : hasN t k <;> simp [List.filter, hh]
theorem ownE_fresh (t : Te) (k : Nat) : fndI (k : Int) (ownE t k) = none := by
  refine fndI_none fun p hp => ?_
  unfold ownE at hp
  obtain ⟨i, hi, rfl⟩ := List.mem_map.1 hp
  have := List.mem_range.1 (List.mem_filter.1 hi).1
  show (i : Int) ≠ k
  omega
theorem fndI_app {k : Int} : ∀ {l m : List (Int × Int)}, fndI k l = none → fndI k (l ++ m) = (fndI k m).map fun p => (p.1 + l.length, p.2)
  | [], m, _ => by cases h : fndI k m <;> simp [h]
  | a :: l, m, h => by
    unfold fndI at h
    split at h
    · simp at h
    · rename_i c
      have h' : fndI k l = none := by cases hq : fndI k l <;> simp [hq] at h ⊢
      simp only [List.cons_append, fndI, if_neg c, fndI_app h']
      cases fndI k m <;> simp; omega
theorem fndI_app_some {k : Int} {p : Nat × Int} : ∀ {l m : List (Int × Int)}, fndI k l = some p → fndI k (l ++ m) = some p
  | [], m, h => by simp [fndI] at h
  | a :: l, m, h => by
    unfold fndI at h
    simp only [List.cons_append, fndI]
    split at h
    · rename_i c; rw [if_pos c]; exact h
    · rename_i c
      rw [if_neg c]
      cases hq : fndI k l with
      | none => rw [hq] at h; simp at h
      | some q => rw [hq] at h; rw [fndI_app_some hq]; exact h
theorem ownE_find (t : Te) {n : Nat} (hh : hasN t n = true) : ∀ k, n < k → ∃ i, fndI (n : Int) (ownE t k) = some (i, ownN t n)
  | 0, h => by omega
  | k + 1, h => by
    rw [ownE_succ]
    by_cases e : n = k
    · subst e
      rw [hh, if_pos rfl, fndI_app (ownE_fresh t n)]
      exact ⟨_, by simp [fndI]; rfl⟩
    · obtain ⟨i, hi⟩ := ownE_find t hh k (by omega)
      split
      · exact ⟨i, fndI_app_some hi⟩
      · exact ⟨i, hi⟩
theorem ownE_len (t : Te) (k : Nat) : (ownE t k).length = cntN t k := by
  unfold ownE cntN; rw [List.length_map, List.countP_eq_length_filter]
theorem entI_app (l : List (Int × Int)) (p : Int × Int) : entI (l ++ [p]) = entI l ++ [.tup [.int .i64 p.1, .int .i64 p.2]] := by simp [entI]
/-- A kid that is asked for its symbol has one. -/
theorem kid_has {t : Te} (rt : RTe t) {n k : Nat} (hn : n < t.nodes.length) (hk : (k : Int) ∈ t.nodes[n].kids) (hkn : k < t.nodes.length) (h5 : t.nodes[k].kind ≤ 5) (hc : ¬ (t.nodes[n].kind = 2 ∧ t.nodes[k].kind = 1)) : hasN t k = true := by
  unfold hasN
  rw [List.getElem?_eq_getElem hkn]
  simp only [Bool.and_eq_true, decide_eq_true_eq, List.all_eq_true, Bool.not_eq_true', List.any_eq_false]
  refine ⟨⟨h5, fun r hr => rt.nobody hn hk hr⟩, fun y hy hq => ?_⟩
  unfold kidT at hq
  rw [List.any_eq_true] at hq
  obtain ⟨m, hm, he⟩ := hq
  simp at he
  obtain ⟨j, hj, rfl⟩ := List.getElem_of_mem hy
  obtain rfl := rt.one hn hj hk (by rw [← he.1.2]; exact hm)
  exact hc ⟨he.1.1, he.2⟩
/-- What the lowerer knows when all is numbered. -/
structure LoF (h : AH) (o m1 m2 m3 : Nat) (t : Te) : Prop where
  ob : ∃ e sn pv, h.objs o = loC t e sn (termsT t) m1 m2 m3 pv
  o1 : h.objs m1 = entS (termsT t) 0
  o2 : h.objs m2 = entS (rnames t) 0
  o3 : h.objs m3 = entI (ownE t t.nodes.length)
  lt : o < h.nobj ∧ m1 < h.nobj ∧ m2 < h.nobj ∧ m3 < h.nobj
  ne : ¬ o = m1 ∧ ¬ o = m2 ∧ ¬ o = m3
theorem LoF.gr {h h' : AH} {o m1 m2 m3 : Nat} {t : Te} (f : LoF h o m1 m2 m3 t) (g : Gr h h') : LoF h' o m1 m2 m3 t :=
  ⟨by rw [g.objs _ f.lt.1]; exact f.ob, by rw [g.objs _ f.lt.2.1]; exact f.o1, by rw [g.objs _ f.lt.2.2.1]; exact f.o2, by rw [g.objs _ f.lt.2.2.2]; exact f.o3, by have := g.nobj; have := f.lt; omega, f.ne⟩
theorem kindR {t : Te} (rt : RTe t) {n : Nat} (hn : n < t.nodes.length) : 1 ≤ t.nodes[n].kind ∧ t.nodes[n].kind ≤ 7 := by
  have := fineT_kind (rt.fine _ (List.getElem_mem hn)); omega
section
variable {X : Cx} {h : AH} {Q : V → AH → Prop}
theorem symbol_spec (L : LLo X) (t : Te) (rt : RTe t) {o m1 m2 m3 : Nat} (f : LoF h o m1 m2 m3 t) (n : Nat) (hn : n < t.nodes.length) (hh : t.nodes[n].kind ≤ 5 → hasN t n = true) (hQ : Q (symV (symT t n)) h) :
    Ecx X K.lower_lowerer_symbol [.ptr o 0, .int .i64 n] h Q := by
  refine fn_walk L.symbol (by simp [A.lower_lowerer_symbol]) fun wf => ?_
  obtain ⟨e, sn, pv, ob⟩ := f.ob
  obtain ⟨l0, l1, l2, l3⟩ := f.lt
  have hii : (n : Int) < t.nodes.length := by omega
  have hg : (t.nodes.map ndV).getD n .undef = ndV t.nodes[n] := Enc.getD hn
  have hsy : symT t n = if t.nodes[n].kind = 7 then ⟨false, plc t.nodes[n].name (termsT t) 0⟩ else if t.nodes[n].kind = 6 then ⟨true, plc t.nodes[n].name (rnames t) 0⟩ else ⟨true, ownN t n⟩ := by
    unfold symT; rw [List.getElem?_eq_getElem hn]
  rw [hsy] at hQ
  have h7 : t.nodes[n].kind = 7 → t.nodes[n].name ∈ termsT t := fun e => termsF_has _ _ _ (List.getElem_mem hn) e
  have h6 : t.nodes[n].kind = 6 → t.nodes[n].name ∈ rnames t := fun e => by
    have := fineT_kind (rt.fine _ (List.getElem_mem hn)); rcases this with a | a | a | a | a <;> first | exact a.2.2 | omega
  have hkk := kindR rt hn
  generalize t.nodes[n] = nd at *
  have gr := ((Gr.refl h).new [.bool false, .int .i64 0]).new (ndC nd)
  have n1 : ¬ o = h.nobj := by omega
  have n2 : ¬ o = h.nobj + 1 := by omega
  have n3 : ¬ h.nobj = h.nobj + 1 := by omega
  have b0 : ((h.new [.bool false, .int .i64 0]).new (ndC nd)).objs o = loC t e sn (termsT t) m1 m2 m3 pv := by simp [n1, n2, ob]
  have b1 : ((h.new [.bool false, .int .i64 0]).new (ndC nd)).objs h.nobj = [.bool false, .int .i64 0] := by simp
  have b2 : ((h.new [.bool false, .int .i64 0]).new (ndC nd)).objs (h.nobj + 1) = ndC nd := by simp
  have b3 : ((h.new [.bool false, .int .i64 0]).new (ndC nd)).objs m1 = entS (termsT t) 0 := by simp [show ¬ m1 = h.nobj by omega, show ¬ m1 = h.nobj + 1 by omega, f.o1]
  have b4 : ((h.new [.bool false, .int .i64 0]).new (ndC nd)).objs m2 = entS (rnames t) 0 := by simp [show ¬ m2 = h.nobj by omega, show ¬ m2 = h.nobj + 1 by omega, f.o2]
  have b5 : ((h.new [.bool false, .int .i64 0]).new (ndC nd)).objs m3 = entI (ownE t t.nodes.length) := by simp [show ¬ m3 = h.nobj by omega, show ¬ m3 = h.nobj + 1 by omega, f.o3]
  have hnc : ndC nd = [.int .i64 nd.kind, .str nd.name, .sl 1 0 (ints nd.kids)] := rfl
  simp [A.lower_lowerer_symbol, ob, loC, hii, hg, ndV, hnc, V.cells, V.good, setAt, n1, n3]
  rw [← hnc]
  generalize (h.new [.bool false, .int .i64 0]).new (ndC nd) = h2 at *
  by_cases c7 : nd.kind = 7
  · rw [if_pos c7] at hQ
    have hf := findE_entS nd.name (termsT t) 0 0
    have hp := plc_fnd nd.name (termsT t) 0
    have hm := h7 c7
    cases hx : fndS nd.name (termsT t) with
    | none => exact absurd hm (fndS_none.1 hx)
    | some j =>
      rw [hx] at hf hp
      simp only [Option.map_some] at hf hp
      simp [b2, hnc, c7, b0, loC, b3, hf, fillV, setAt, V.cells, V.good, b1]
      rw [hp] at hQ
      exact fin_wk (gr.set (by omega) _) (.same _) (by simp) (by simpa [symV, symC] using hQ)
  rw [if_neg c7] at hQ
  by_cases c6 : nd.kind = 6
  · rw [if_pos c6] at hQ
    have hf := findE_entS nd.name (rnames t) 0 0
    have hp := plc_fnd nd.name (rnames t) 0
    have hm := h6 c6
    cases hx : fndS nd.name (rnames t) with
    | none => exact absurd hm (fndS_none.1 hx)
    | some j =>
      rw [hx] at hf hp
      simp only [Option.map_some] at hf hp
      simp [b2, hnc, c7, c6, b0, loC, b4, hf, fillV, setAt, V.cells, V.good, b1]
      rw [hp] at hQ
      exact fin_wk (gr.set (by omega) _) (.same _) (by simp) (by simpa [symV, symC] using hQ)
  rw [if_neg c6] at hQ
  obtain ⟨i, hi⟩ := ownE_find t (hh (by omega)) t.nodes.length hn
  have hf := findE_entI n (ownE t t.nodes.length) 0
  rw [hi] at hf
  simp only [Option.map_some] at hf
  simp [b2, hnc, c7, c6, b0, loC, b5, hf, fillV, setAt, V.cells, V.good, b1]
  exact fin_wk (gr.set (by omega) _) (.same _) (by simp) (by simpa [symV, symC] using hQ)
theorem number_spec (L : LLo X) (t : Te) (rt : RTe t) {o m1 m2 m3 : Nat} (ho : h.objs o = loC t 0 1 [] m1 m2 m3 (.sl 0 1 [])) (hm1 : h.objs m1 = []) (hm2 : h.objs m2 = []) (hm3 : h.objs m3 = [])
    (lt : o < h.nobj ∧ m1 < h.nobj ∧ m2 < h.nobj ∧ m3 < h.nobj) (ne : ¬ o = m1 ∧ ¬ o = m2 ∧ ¬ o = m3) (nm : ¬ m1 = m2 ∧ ¬ m1 = m3 ∧ ¬ m2 = m3)
    (hQ : ∀ h' e sn, FR h h' [o, m1, m2, m3] 1 → h'.objs o = loC t e sn (termsT t) m1 m2 m3 (.sl 0 1 []) → (strs (termsT t) = [] ∨ e = 1) → LoF h' o m1 m2 m3 t → Q (.tup []) h') : Ecx X K.lower_lowerer_number [.ptr o 0] h Q := by
  refine fn_any L.number (by simp [A.lower_lowerer_number]) fun wf => ?_
  have hn := rt.n1
  have hr := rt.r1
  obtain ⟨l0, l1, l2, l3⟩ := lt
  obtain ⟨e1, e2, e3⟩ := ne
  obtain ⟨f1, f2, f3⟩ := nm
  simp [A.lower_lowerer_number, ho, loC]
  refine loopI (n := t.rules.length) (fun mm env h' => ∃ k, k ≤ t.rules.length ∧ mm = t.rules.length - k ∧ FR h h' [o, m1, m2, m3] 1 ∧ h'.objs o = loC t 0 1 [] m1 m2 m3 (.sl 0 1 []) ∧ h'.objs m1 = [] ∧ h'.objs m3 = [] ∧ h'.objs m2 = entS ((rnames t).take k) 0 ∧
      env = [(0, .ptr o 0), (12, .sl 2 0 (t.rules.map rlV)), (13, .int .i64 t.rules.length), (14, .int .i64 k)]) ?_
    ⟨0, by omega, by omega, FR.refl _ _ _, ho, hm1, hm3, by simpa [entS] using hm2, rfl⟩
  rintro mm env h' ⟨k, hk, rfl, fr, bo, bm1, bm3, bm2, rfl⟩
  unfold A.lower_lowerer_number.L0
  have nb := fr.nobj
  by_cases hlt : k < t.rules.length
  · have hlt' : (k : Int) < t.rules.length := by omega
    have hg : (t.rules.map rlV).getD k .undef = rlV t.rules[k] := Enc.getD hlt
    have hw1 : IntKind.i64.wrap ((k : Int) + 1) = ((k + 1 : Nat) : Int) := by rw [wrap_i64 (by omega) (by omega)]; rfl
    have hrl : (rnames t).length = t.rules.length := by simp [rnames]
    have htk : (rnames t).take (k + 1) = (rnames t).take k ++ [t.rules[k].name] := by
      rw [List.take_succ_eq_append_getElem (by omega)]; simp [rnames]
    have hnin : t.rules[k].name ∉ (rnames t).take k := by
      have hnd := rt.names
      rw [← List.take_append_drop (k + 1) (rnames t), htk] at hnd
      have := (List.nodup_append.1 (List.nodup_append.1 hnd).1).2.2
      intro he
      exact this _ he _ (by simp) rfl
    have hf := findE_entS t.rules[k].name ((rnames t).take k) 0 0
    rw [fndS_none.2 hnin] at hf
    simp only [Option.map_none] at hf
    have hea := entS_app ((rnames t).take k) t.rules[k].name 0
    rw [← htk] at hea
    have htl : ((rnames t).take k).length = k := by simp [hrl]; omega
    rw [htl, Nat.zero_add] at hea
    generalize t.rules[k] = r at *
    have hrc : rlC r = [.str r.name, .int .i64 r.body] := rfl
    have p1 : ¬ o = h'.nobj := by omega
    have p2 : ¬ m1 = h'.nobj := by omega
    have p3 : ¬ m2 = h'.nobj := by omega
    have p4 : ¬ m3 = h'.nobj := by omega
    have q0 : (h'.new (rlC r)).objs h'.nobj = rlC r := by simp
    have q1 : (h'.new (rlC r)).objs o = loC t 0 1 [] m1 m2 m3 (.sl 0 1 []) := by simp [p1, bo]
    have q2 : (h'.new (rlC r)).objs m1 = [] := by simp [p2, bm1]
    have q3 : (h'.new (rlC r)).objs m2 = entS ((rnames t).take k) 0 := by simp [p3, bm2]
    have q4 : (h'.new (rlC r)).objs m3 = [] := by simp [p4, bm3]
    have q5 := fr.new (rlC r)
    simp [hlt', hg, rlV, V.cells, V.good, hrc, setAt]
    rw [← hrc]
    generalize h'.new (rlC r) = h2 at *
    have g1 : ¬ o = m2 := e2
    have g2 : ¬ m3 = m2 := fun e => f3 e.symm
    simp [q1, loC, q0, hrc, q3, hf, mupF, hw1]
    exact ⟨t.rules.length - (k + 1), by omega, iv ⟨k + 1, by omega, rfl, q5.set (.inl (by simp)) _, by rw [set_objs_ne _ _ _ g1]; exact q1, by rw [set_objs_ne _ _ _ f1]; exact q2, by rw [set_objs_ne _ _ _ g2]; exact q4, by rw [set_objs_same, hea], rfl⟩⟩
  · have hlt' : ¬ (k : Int) < t.rules.length := by omega
    obtain rfl : k = t.rules.length := by omega
    rw [List.take_of_length_le (by simp [rnames])] at bm2
    simp [hlt']
    refine ecall (alone_spec L t rt (o := o) (by omega) (by rw [bo]; rfl) fun h3 g3 n3 a3 => ?_)
    have bo3 : h3.objs o = loC t 0 1 [] m1 m2 m3 (.sl 0 1 []) := (g3.objs _ (by omega)).trans bo
    have fr3 : FR h h3 [o, m1, m2, m3] 1 := ⟨Nat.le_trans fr.next g3.next, Nat.le_trans fr.nobj g3.nobj, fun x hx hn => (g3.objs _ (by omega)).trans (fr.objs x hx hn), fun s hs hn => (g3.tips s (by have := fr.next; omega)).trans (fr.tips s hs hn)⟩
    have g1' : h3.objs m1 = [] := (g3.objs _ (by omega)).trans bm1
    have g2' : h3.objs m2 = entS (rnames t) 0 := (g3.objs _ (by omega)).trans bm2
    have g3' : h3.objs m3 = [] := (g3.objs _ (by omega)).trans bm3
    simp [bo3, loC]
    refine loopI (n := t.nodes.length) (fun mm env h4 => ∃ k e sn, k ≤ t.nodes.length ∧ mm = t.nodes.length - k ∧ FR h h4 [o, m1, m2, m3] 1 ∧ h4.objs o = loC t e sn (termsF (t.nodes.take k) []) m1 m2 m3 (.sl 0 1 []) ∧ h4.objs m1 = entS (termsF (t.nodes.take k) []) 0 ∧ h4.objs m2 = entS (rnames t) 0 ∧ h4.objs m3 = entI (ownE t k) ∧
        May 1 h4 e sn (strs (termsF (t.nodes.take k) [])) ∧ (sn ≤ 2 ∨ h.next ≤ sn) ∧ h4.objs h'.nobj = entK (aloneK t) ∧ h'.nobj < h4.nobj ∧
        env = [(0, .ptr o 0), (4, .mapr h'.nobj), (5, .int .i64 ((t.rules.length + cntN t k : Nat) : Int)), (39, .sl 3 0 (t.nodes.map ndV)), (40, .int .i64 t.nodes.length), (41, .int .i64 k)]) ?_
      ⟨0, 0, 1, by omega, by omega, fr3, bo3, by simpa [termsF, entS] using g1', g2', by simpa [ownE, entI] using g3', ⟨.inl rfl, .inl rfl⟩, by omega, a3, n3, by simp [cntN]⟩
    clear fr bo bm1 bm2 bm3 fr3 g1' g2' g3' bo3 a3
    rintro mm env h4 ⟨k, e, sn, hk, rfl, fr, bo, bm1, bm2, bm3, my, hsn, ba, na, rfl⟩
    unfold A.lower_lowerer_number.L1
    by_cases hlt : k < t.nodes.length
    · have hlt' : (k : Int) < t.nodes.length := by omega
      have hg : (t.nodes.map ndV).getD k .undef = ndV t.nodes[k] := Enc.getD hlt
      have hw1 : IntKind.i64.wrap ((k : Int) + 1) = ((k + 1 : Nat) : Int) := by rw [wrap_i64 (by omega) (by omega)]; rfl
      have hts : termsF (t.nodes.take (k + 1)) [] = tstep (termsF (t.nodes.take k) []) t.nodes[k] := by
        rw [List.take_succ_eq_append_getElem hlt, termsF_snoc]
      have hah := alone_has hlt (kindR rt hlt).2
      have hoe := ownE_succ t k
      have hce := cntN_succ t k
      have hcl := cntN_le t k
      have hkk := kindR rt hlt
      have htl := (termsF_len (t.nodes.take k) []).1
      have htl2 : (termsF (t.nodes.take k) []).length ≤ 200 := by simp at htl; omega
      generalize hT : termsF (t.nodes.take k) [] = T at *
      generalize t.nodes[k] = x at *
      have hxc : ndC x = [.int .i64 x.kind, .str x.name, .sl 1 0 (ints x.kids)] := rfl
      have p1 : ¬ o = h4.nobj := by omega
      have p2 : ¬ m1 = h4.nobj := by omega
      have p3 : ¬ m2 = h4.nobj := by omega
      have p4 : ¬ m3 = h4.nobj := by omega
      have p5 : ¬ h'.nobj = h4.nobj := by omega
      have q0 : (h4.new (ndC x)).objs h4.nobj = ndC x := by simp
      have q1 : (h4.new (ndC x)).objs o = loC t e sn T m1 m2 m3 (.sl 0 1 []) := by simp [p1, bo]
      have q2 : (h4.new (ndC x)).objs m1 = entS T 0 := by simp [p2, bm1]
      have q3 : (h4.new (ndC x)).objs m2 = entS (rnames t) 0 := by simp [p3, bm2]
      have q4 : (h4.new (ndC x)).objs m3 = entI (ownE t k) := by simp [p4, bm3]
      have q5 : (h4.new (ndC x)).objs h'.nobj = entK (aloneK t) := by simp [p5, ba]
      have q6 := fr.new (ndC x)
      have q7 : (h4.new (ndC x)).nobj = h4.nobj + 1 := by simp
      have q8 : May 1 (h4.new (ndC x)) e sn (strs T) := ⟨my.el, my.st⟩
      have p6 : ¬ h'.nobj = o := by omega
      have p7 : ¬ h'.nobj = m1 := by omega
      have p8 : ¬ h'.nobj = m3 := by omega
      simp [hlt', hg, ndV, V.cells, V.good, hxc, setAt]
      rw [← hxc]
      generalize h4.new (ndC x) = h5 at *
      by_cases c7 : x.kind = 7
      · have hh : hasN t k = false := by rw [hah]; simp [c7]
        rw [hh, if_neg (by simp)] at hoe hce
        simp [q0, hxc, c7]
        refine ecall (term_spec L t (o := o) x.name q1 q2 e1 (by omega) q8 (fun hs => ?_) (fun hs => ?_))
        · have hte : tstep T x = T := by unfold tstep; rw [if_neg (fun e => hs ((plc_neg _ _).1 e.2))]
          rw [hte] at hts
          simp [hw1]
          exact ⟨t.nodes.length - (k + 1), by omega, iv ⟨k + 1, e, sn, by omega, rfl, q6, by rw [hts]; exact q1, by rw [hts]; exact q2, q3, by rw [hoe]; exact q4, by rw [hts]; exact q8, hsn, q5, by omega, by rw [hce]; simp⟩⟩
        · have hte : tstep T x = T ++ [x.name] := by unfold tstep; rw [if_pos ⟨c7, (plc_neg _ _).2 hs⟩]
          rw [hte] at hts
          have d1 : ¬ m1 = o := fun e => e1 e.symm
          have d2 : ¬ m2 = o := fun e => e2 e.symm
          have d3 : ¬ m3 = o := fun e => e3 e.symm
          have d4 : ¬ m2 = m1 := fun e => f1 e.symm
          have d5 : ¬ m3 = m1 := fun e => f2 e.symm
          simp [hw1]
          exact ⟨t.nodes.length - (k + 1), by omega, iv ⟨k + 1, 1, h5.next, by omega, rfl,
            ((q6.set (o := m1) (.inl (by simp)) _).push (s1 := sn) (by omega) 1).set (.inl (by simp)) _, by rw [set_objs_same, hts],
            by rw [set_objs_ne _ _ _ d1, push_objs, set_objs_same, hts], by rw [set_objs_ne _ _ _ d2, push_objs, set_objs_ne _ _ _ d4]; exact q3,
            by rw [set_objs_ne _ _ _ d3, push_objs, set_objs_ne _ _ _ d5, hoe]; exact q4, ⟨.inr rfl, .inr (.inr (by rw [set_tips]; exact push_new _ _ _))⟩, .inr q6.next,
            by rw [set_objs_ne _ _ _ p6, push_objs, set_objs_ne _ _ _ p7]; exact q5, by rw [set_nobj, push_nobj, set_nobj]; omega, by rw [hce]; simp⟩⟩
      · have hte : tstep T x = T := by unfold tstep; rw [if_neg (fun e => c7 e.1)]
        rw [hte] at hts
        by_cases c6 : x.kind = 6
        · have hh : hasN t k = false := by rw [hah]; simp [c6]
          rw [hh, if_neg (by simp)] at hoe hce
          simp [q0, hxc, c7, c6, hw1]
          exact ⟨t.nodes.length - (k + 1), by omega, iv ⟨k + 1, e, sn, by omega, rfl, q6, by rw [hts]; exact q1, by rw [hts]; exact q2, q3, by rw [hoe]; exact q4, by rw [hts]; exact q8, hsn, q5, by omega, by rw [hce]; simp⟩⟩
        · rcases findE_entK (k : Int) (aloneK t) 0 with ⟨a1, a2⟩ | ⟨a1, i, a2, a3, a4⟩
          · have hh : hasN t k = true := by rw [hah]; simp [c6, c7, a1]
            rw [hh, if_pos rfl] at hoe hce
            have hfi := findE_entI (k : Int) (ownE t k) 0
            rw [ownE_fresh] at hfi
            simp only [Option.map_none] at hfi
            have hw2 : IntKind.i64.wrap ((t.rules.length : Int) + (cntN t k : Int) + 1) = (t.rules.length : Int) + (cntN t k : Int) + 1 := wrap_i64 (by omega) (by omega)
            have how : ownN t k = ((t.rules.length + cntN t k : Nat) : Int) := by unfold ownN; rw [hh]; rfl
            have hen := entI_app (ownE t k) ((k : Int), ownN t k)
            rw [← hoe, how] at hen
            have d1 : ¬ m1 = m3 := f2
            have d2 : ¬ m2 = m3 := f3
            simp [q0, hxc, c7, c6, q5, a2, q1, loC, q4, hfi, mupF, hw1, hw2]
            exact ⟨t.nodes.length - (k + 1), by omega, iv ⟨k + 1, e, sn, by omega, rfl, q6.set (.inl (by simp)) _, by rw [set_objs_ne _ _ _ e3, hts]; exact q1, by rw [set_objs_ne _ _ _ d1, hts]; exact q2, by rw [set_objs_ne _ _ _ d2]; exact q3,
              by rw [set_objs_same, hen]; simp, by rw [hts]; exact ⟨q8.el, q8.st⟩, hsn, by rw [set_objs_ne _ _ _ p8]; exact q5, by rw [set_nobj]; omega, by rw [hce]; simp; omega⟩⟩
          · have hh : hasN t k = false := by rw [hah]; simp [a1]
            rw [hh, if_neg (by simp)] at hoe hce
            simp [q0, hxc, c7, c6, q5, a4, hw1]
            exact ⟨t.nodes.length - (k + 1), by omega, iv ⟨k + 1, e, sn, by omega, rfl, q6, by rw [hts]; exact q1, by rw [hts]; exact q2, q3, by rw [hoe]; exact q4, by rw [hts]; exact q8, hsn, q5, by omega, by rw [hce]; simp⟩⟩
    · have hlt' : ¬ (k : Int) < t.nodes.length := by omega
      obtain rfl : k = t.nodes.length := by omega
      rw [List.take_length] at *
      have nb4 := fr.nobj
      simp [hlt']
      exact hQ h4 e sn fr bo my.el ⟨⟨e, sn, _, bo⟩, bm1, bm2, bm3, by omega, ⟨e1, e2, e3⟩⟩
end
end Go.Proofs.Ytmobijebjkjnoaa.Al
namespace Go.Proofs.Ytmobijebjkjnoaa.Al
open Go Go.RowKit
set_option linter.unusedSimpArgs false
set_option linter.unusedVariables false
attribute [-simp] List.getD_eq_getElem?_getD Int.not_lt Int.not_le List.map_take List.map_map
/-- A lowerer that lays productions: its object, from h0 on. -/
structure NS (t : Te) (h0 h : AH) (o m1 m2 m3 e sn sp0 : Nat) (ps : List Pr) : Prop where
  ob : ∃ e1 sp, h.objs o = loC t e sn (termsT t) m1 m2 m3 (.sl e1 sp (ps.map prV)) ∧ May 2 h e1 sp (ps.map prV) ∧ (sp = sp0 ∨ h0.next ≤ sp)
  fr : FR h0 h [o] sp0
  lf : LoF h o m1 m2 m3 t
theorem prodsT_right {t : Te} (rt : RTe t) (n : Nat) (left : Int) : ∀ p ∈ prodsT t n left, p.right.length ≤ 200 := by
  unfold prodsT
  split
  · rename_i x hx
    obtain ⟨hn, rfl⟩ := List.getElem?_eq_some_iff.1 hx
    have := rt.kids_len hn
    repeat' split
    · simp
    · simp [symsT]; omega
    · intro p hp
      obtain ⟨k, hk, rfl⟩ := List.mem_map.1 hp
      unfold altP
      split
      · rename_i y hy
        obtain ⟨hm, rfl⟩ := List.getElem?_eq_some_iff.1 hy
        have := rt.kids_len hm
        split
        · simp [symsT]; omega
        · simp
      · simp
    all_goals simp
  · simp
theorem lowP_right {t : Te} (rt : RTe t) : ∀ p ∈ lowP t, p.right.length ≤ 200 := by
  intro p hp
  unfold lowP lowA lowB at hp
  simp only [List.mem_append, List.mem_flatMap] at hp
  rcases hp with ⟨i, _, hp⟩ | ⟨i, _, hp⟩
  · exact prodsT_right rt _ _ p hp
  · split at hp
    · exact prodsT_right rt _ _ p hp
    · simp at hp
theorem lowG_ok {t : Te} (rt : RTe t) : GmOk (lowG t) := by
  have h1 := lowA_len rt t.rules.length rt.r1
  have h2 := lowB_len rt t.nodes.length rt.n1
  refine ⟨?_, fun p hp => ?_⟩
  · simp only [lowG, lowP, List.length_append, maxLen]; omega
  · have := lowP_right rt p hp
    unfold maxLen; omega
section
variable {X : Cx} {h : AH} {Q : V → AH → Prop}
theorem NS.new {t : Te} {h0 h : AH} {o m1 m2 m3 e sn sp0 : Nat} {ps : List Pr} (n : NS t h0 h o m1 m2 m3 e sn sp0 ps) (z : List V) : NS t h0 (h.new z) o m1 m2 m3 e sn sp0 ps := by
  obtain ⟨e1, sp, b1, b2, b3⟩ := n.ob
  have := n.lf.lt.1
  exact ⟨⟨e1, sp, by rw [new_objs_ne _ _ (by omega)]; exact b1, ⟨b2.el, b2.st⟩, b3⟩, n.fr.new z, n.lf.gr ((Gr.refl h).new z)⟩
/-- One production more. -/
theorem NS.lay (L : LLo X) {t : Te} {h0 h : AH} {o m1 m2 m3 e sn sp0 : Nat} {ps : List Pr} (n : NS t h0 h o m1 m2 m3 e sn sp0 ps) (hl : ps.length ≤ 2 ^ 30) (p : Pr) {e2 st : Nat} {v : V} (hv : Wk v (.sl 2 0 (p.right.map symV))) :
    ∃ h', NS t h0 h' o m1 m2 m3 e sn sp0 (ps ++ [p]) ∧ h'.nobj = h.nobj ∧ (∀ x, x ≠ o → h'.objs x = h.objs x) ∧ ∀ {Q : V → AH → Prop}, Q (.tup []) h' → Ecx X K.lower_lowerer_lay [.ptr o 0, .int .i64 p.left, v] h Q := by
  obtain ⟨e1, sp, b1, b2, b3⟩ := n.ob
  have lt := n.lf.lt
  have ne := n.lf.ne
  refine ⟨_, ⟨⟨2, h.next, by rw [set_objs_same]; rfl, ⟨.inr rfl, .inr (.inr (by rw [set_tips]; exact push_new _ _ _))⟩, .inr n.fr.next⟩, ?_, ?_⟩, by rw [set_nobj, push_nobj], fun x hx => by rw [set_objs_ne _ _ _ hx, push_objs], fun {Q} hQ => Ecx.wkL (.cons (.same _) (.cons (.same _) (.cons hv .nil))) (lay_spec L p (by rw [b1]; rfl) b2 hl hQ)⟩
  · refine (n.fr.push (s1 := sp) ?_ 2).set (.inl (by simp)) _
    rcases b3 with b3 | b3
    · exact .inl b3
    · exact .inr (.inr b3)
  · exact ⟨⟨e, sn, _, by rw [set_objs_same]; rfl⟩, by rw [set_objs_ne _ _ _ (fun q => ne.1 q.symm), push_objs]; exact n.lf.o1, by rw [set_objs_ne _ _ _ (fun q => ne.2.1 q.symm), push_objs]; exact n.lf.o2, by rw [set_objs_ne _ _ _ (fun q => ne.2.2 q.symm), push_objs]; exact n.lf.o3, by rw [set_nobj, push_nobj]; exact lt, ne⟩
theorem nodeL0 (L : LLo X) (t : Te) (rt : RTe t) {h0 : AH} {o m1 m2 m3 e sn sp0 : Nat} {ps : List Pr} (ns : NS t h0 h o m1 m2 m3 e sn sp0 ps) (hps : ps.length ≤ 2 ^ 29) (left : Int) (ks : List Int) (hkl : ks.length ≤ 200) (hin : ∀ k ∈ ks, 0 ≤ k ∧ k < t.nodes.length)
    (hch : ∀ k : Nat, (k : Int) ∈ ks → (hkn : k < t.nodes.length) → t.nodes[k].kind ≠ 1 → t.nodes[k].kind ≤ 5 → hasN t k = true) {Q : Ex → Env → AH → Prop} {zQ : Lz Q} {z : Lz (AC.loop A.lower_lowerer_node.L0)}
    (hQ : ∀ h', NS t h0 h' o m1 m2 m3 e sn sp0 (ps ++ ks.map (altP t left)) → h.nobj ≤ h'.nobj → (∀ x, x < h.nobj → x ≠ o → h'.objs x = h.objs x) → Q (.exit 1) [(0, .ptr o 0), (1, .int .i64 left), (6, .fn K.lower_lowerer_symbol [.ptr o 0] []), (44, .sl 1 0 (ints ks)), (45, .int .i64 ks.length), (46, .int .i64 ks.length), (47, .bool false)] h') :
    acZ (Ecx X) [(0, .ptr o 0), (1, .int .i64 left), (6, .fn K.lower_lowerer_symbol [.ptr o 0] []), (44, .sl 1 0 (ints ks)), (45, .int .i64 ks.length), (46, .int .i64 0)] h z zQ := by
  have hil : (ints ks).length = ks.length := by simp [ints]
  refine loopI (n := ks.length) (fun mm env h' => ∃ k, k ≤ ks.length ∧ mm = ks.length - k ∧ NS t h0 h' o m1 m2 m3 e sn sp0 (ps ++ (ks.take k).map (altP t left)) ∧ h.nobj ≤ h'.nobj ∧ (∀ x, x < h.nobj → x ≠ o → h'.objs x = h.objs x) ∧
    env = [(0, .ptr o 0), (1, .int .i64 left), (6, .fn K.lower_lowerer_symbol [.ptr o 0] []), (44, .sl 1 0 (ints ks)), (45, .int .i64 ks.length), (46, .int .i64 k)]) ?_
    ⟨0, by omega, by omega, by simpa using ns, Nat.le_refl _, fun _ _ _ => rfl, rfl⟩
  rintro mm env h' ⟨k, hk, rfl, ns1, nb, ho, rfl⟩
  unfold A.lower_lowerer_node.L0
  by_cases hlt : k < ks.length
  · have hlt' : (k : Int) < ks.length := by omega
    have hgk := ints_get hlt
    have hw1 : IntKind.i64.wrap ((k : Int) + 1) = ((k + 1 : Nat) : Int) := by rw [wrap_i64 (by omega) (by omega)]; rfl
    have hts : (ks.take (k + 1)).map (altP t left) = (ks.take k).map (altP t left) ++ [altP t left ks[k]] := by
      rw [List.take_succ_eq_append_getElem hlt, List.map_append]; rfl
    have hink := hin _ (List.getElem_mem hlt)
    have hmem := List.getElem_mem hlt
    obtain ⟨c, hc⟩ : ∃ c : Nat, ks[k] = (c : Int) := ⟨ks[k].toNat, by omega⟩
    rw [hc] at hgk hts hink hmem
    have hcn : c < t.nodes.length := by omega
    have hcn' : (c : Int) < t.nodes.length := by omega
    have hgc : (t.nodes.map ndV).getD c .undef = ndV t.nodes[c] := Enc.getD hcn
    have hap : altP t left c = if t.nodes[c].kind = 1 then ⟨left, symsT t t.nodes[c].kids⟩ else ⟨left, [symT t c]⟩ := by
      unfold altP; rw [Int.toNat_natCast, List.getElem?_eq_getElem hcn]
    have hinc := rt.in hcn
    have hlc := rt.kids_len hcn
    have hcc := hch c hmem hcn
    have hgr : t.nodes[c].kind = 1 → ∀ m : Nat, (m : Int) ∈ t.nodes[c].kids → (hmn : m < t.nodes.length) → t.nodes[m].kind ≤ 5 → hasN t m = true := fun k1 m hm hmn h5 => kid_has rt hcn hm hmn h5 (fun e => by omega)
    obtain ⟨e1, sp, ob, my, hsp⟩ := ns1.ob
    have hpl : (ps ++ (ks.take k).map (altP t left)).length ≤ 2 ^ 30 := by simp; omega
    generalize hy : t.nodes[c] = y at *
    have hyc : ndC y = [.int .i64 y.kind, .str y.name, .sl 1 0 (ints y.kids)] := rfl
    by_cases c1 : y.kind = 1
    · rw [if_pos c1] at hap
      simp [hlt', hgk, hil, V.cells, ob, loC, hcn', hgc, ndV, hyc, c1]
      refine ecall (all_spec L y.kids (fun m => symT t m.toNat) (by omega) (fun k hk {h''} {Q'} g hq => ?_) ?_)
      · obtain ⟨m, rfl⟩ : ∃ m : Nat, k = (m : Int) := ⟨k.toNat, by have := hinc k hk; omega⟩
        have hmn : m < t.nodes.length := by have := hinc _ hk; omega
        exact symbol_spec L t rt (ns1.lf.gr g) m hmn (hgr c1 m hk hmn) (by simpa using hq)
      obtain ⟨h3, ns3, r1, r2, r3⟩ := NS.lay L ns1 hpl ⟨left, symsT t y.kids⟩ (e2 := 0) (st := 0) (v := .sl 2 0 ((y.kids.map fun m => symT t m.toNat).map symV)) (.same _)
      simp
      refine ecall (r3 ?_)
      simp [hw1]
      exact ⟨ks.length - (k + 1), by omega, iv ⟨k + 1, by omega, rfl, by rw [hts, hap, ← List.append_assoc]; exact ns3, by omega, fun x hx hxo => by rw [r2 _ hxo]; exact ho x hx hxo, rfl⟩⟩
    · rw [if_neg c1] at hap
      have hsc : ∀ y : Sy, symC y = [.bool y.non, .int .i64 y.n] := fun _ => rfl
      simp [hlt', hgk, hil, V.cells, ob, loC, hcn', hgc, ndV, hyc, c1]
      refine ecall (symbol_spec L t rt ns1.lf c hcn (by rw [hy]; exact hcc c1) ?_)
      obtain ⟨h3, ns3, r1, r2, r3⟩ := NS.lay L ns1 hpl ⟨left, [symT t c]⟩ (e2 := 0) (st := 0) (v := .sl 2 2 [symV (symT t c)]) (.sl _ _ _)
      simp [fillL, V.isAgg, symV, hsc]
      refine ecall (r3 ?_)
      simp [hw1]
      exact ⟨ks.length - (k + 1), by omega, iv ⟨k + 1, by omega, rfl, by rw [hts, hap, ← List.append_assoc]; exact ns3, by omega, fun x hx hxo => by rw [r2 _ hxo]; exact ho x hx hxo, rfl⟩⟩
  · have hlt' : ¬ (k : Int) < ks.length := by omega
    obtain rfl : k = ks.length := by omega
    rw [List.take_length] at ns1
    simp [hlt']
    exact hQ h' ns1 nb ho
theorem node_spec (L : LLo X) (t : Te) (rt : RTe t) {h0 : AH} {o m1 m2 m3 e sn sp0 : Nat} {ps : List Pr} (ns : NS t h0 h o m1 m2 m3 e sn sp0 ps) (hps : ps.length ≤ 2 ^ 29) (n : Nat) (hn : n < t.nodes.length) (left : Int)
    (hQ : ∀ h', NS t h0 h' o m1 m2 m3 e sn sp0 (ps ++ prodsT t n left) → h.nobj ≤ h'.nobj → (∀ x, x < h.nobj → x ≠ o → h'.objs x = h.objs x) → Q (.tup []) h') : Ecx X K.lower_lowerer_node [.ptr o 0, .int .i64 left, .int .i64 n] h Q := by
  refine fn_any L.node (by simp [A.lower_lowerer_node]) fun wf => ?_
  obtain ⟨e1, sp, ob, my, hsp⟩ := ns.ob
  have hii : (n : Int) < t.nodes.length := by omega
  have hg : (t.nodes.map ndV).getD n .undef = ndV t.nodes[n] := Enc.getD hn
  have hp : prodsT t n left = (if 6 ≤ t.nodes[n].kind then [⟨left, [symT t n]⟩] else if t.nodes[n].kind = 1 then [⟨left, symsT t t.nodes[n].kids⟩] else if t.nodes[n].kind = 2 then t.nodes[n].kids.map (altP t left)
    else if t.nodes[n].kind = 3 then [⟨left, [symT t (t.nodes[n].kids.headD 0).toNat, ⟨true, left⟩]⟩, ⟨left, []⟩]
    else if t.nodes[n].kind = 4 then [⟨left, [symT t (t.nodes[n].kids.headD 0).toNat, ⟨true, left⟩]⟩, ⟨left, [symT t (t.nodes[n].kids.headD 0).toNat]⟩]
    else [⟨left, [symT t (t.nodes[n].kids.headD 0).toNat]⟩, ⟨left, []⟩]) := by
    unfold prodsT; rw [List.getElem?_eq_getElem hn]
  have hfk := fineT_kind (rt.fine _ (List.getElem_mem hn))
  have hin := rt.in hn
  have hkl := rt.kids_len hn
  have hch : ∀ k : Nat, (k : Int) ∈ t.nodes[n].kids → (hkn : k < t.nodes.length) → ¬ (t.nodes[n].kind = 2 ∧ t.nodes[k].kind = 1) → t.nodes[k].kind ≤ 5 → hasN t k = true := fun k hk hkn hc h5 => kid_has rt hn hk hkn h5 hc
  have hself : t.nodes[n].kind = 6 ∨ t.nodes[n].kind = 7 → t.nodes[n].kind ≤ 5 → hasN t n = true := fun a b => by omega
  rw [hp] at hQ
  generalize hx : t.nodes[n] = x at *
  have hxc : ndC x = [.int .i64 x.kind, .str x.name, .sl 1 0 (ints x.kids)] := rfl
  have lt := ns.lf.lt
  have ns2 := (ns.new (ndC x)).new [.bool true, .int .i64 left]
  have b1 : ((h.new (ndC x)).new [.bool true, .int .i64 left]).objs h.nobj = ndC x := by simp
  have b2 : ((h.new (ndC x)).new [.bool true, .int .i64 left]).objs (h.nobj + 1) = [.bool true, .int .i64 left] := by simp
  have b3 : ((h.new (ndC x)).new [.bool true, .int .i64 left]).nobj = h.nobj + 2 := by simp
  have b4 : ∀ y, y < h.nobj → ((h.new (ndC x)).new [.bool true, .int .i64 left]).objs y = h.objs y := fun y hy => by simp [show ¬ y = h.nobj by omega, show ¬ y = h.nobj + 1 by omega]
  have n0 : ¬ h.nobj = h.nobj + 1 := by omega
  simp [A.lower_lowerer_node, ob, loC, hii, hg, ndV, hxc, V.cells, V.good, setAt, fillV]
  rw [← hxc]
  generalize ((h.new (ndC x)).new [.bool true, .int .i64 left]) = h2 at *
  have ne1 : ¬ h.nobj = o := by omega
  have ne2 : ¬ h.nobj + 1 = o := by omega
  by_cases k1 : x.kind = 1
  · rw [if_neg (by omega), if_pos k1] at hQ
    simp [b1, hxc, k1]
    refine ecall (all_spec L x.kids (fun m => symT t m.toNat) (by omega) (fun k hk {h'} {Q'} g hq => ?_) ?_)
    · obtain ⟨c, rfl⟩ : ∃ c : Nat, k = (c : Int) := ⟨k.toNat, by have := hin k hk; omega⟩
      have hcn : c < t.nodes.length := by have := hin _ hk; omega
      exact symbol_spec L t rt (ns2.lf.gr g) c hcn (hch c hk hcn (by omega)) (by simpa using hq)
    obtain ⟨h3, ns3, r1, r2, r3⟩ := NS.lay L ns2 (by omega) ⟨left, symsT t x.kids⟩ (e2 := 0) (st := 0) (v := .sl 2 0 ((x.kids.map fun m => symT t m.toNat).map symV)) (.same _)
    simp
    refine ecall (r3 ?_)
    simp
    exact hQ _ ns3 (by omega) (fun y hy hyo => by rw [r2 _ hyo]; exact b4 y hy)
  by_cases k2 : x.kind = 2
  · rw [if_neg (by omega), if_neg k1, if_pos k2] at hQ
    have hil : (ints x.kids).length = x.kids.length := by simp [ints]
    simp [b1, hxc, k1, k2, hil]
    refine nodeL0 L t rt ns2 (by omega) left x.kids (by omega) hin (fun k hk hkn hc h5 => hch k hk hkn (fun e => hc e.2) h5) (fun h3 ns3 r1 r2 => ?_)
    simp
    exact hQ _ ns3 (by omega) (fun y hy hyo => by rw [r2 _ (by omega) hyo]; exact b4 y hy)
  by_cases k67 : x.kind = 6 ∨ x.kind = 7
  · rw [if_pos (by omega)] at hQ
    have k3 : ¬ x.kind = 3 := by omega
    have k4 : ¬ x.kind = 4 := by omega
    have k5 : ¬ x.kind = 5 := by omega
    simp [b1, hxc, k1, k2, k3, k4, k5]
    refine ecall (symbol_spec L t rt ns2.lf n hn (by rw [hx]; exact hself k67) ?_)
    obtain ⟨h3, ns3, r1, r2, r3⟩ := NS.lay L ns2 (by omega) ⟨left, [symT t n]⟩ (e2 := 0) (st := 0) (v := .sl 2 2 [symV (symT t n)]) (.sl _ _ _)
    have hsc : ∀ y : Sy, symC y = [.bool y.non, .int .i64 y.n] := fun _ => rfl
    simp [fillL, V.isAgg, symV, hsc]
    refine ecall (r3 ?_)
    simp
    exact hQ _ ns3 (by omega) (fun y hy hyo => by rw [r2 _ hyo]; exact b4 y hy)
  rw [if_neg (by omega), if_neg k1, if_neg k2] at hQ
  have hk1 : x.kids.length = 1 := by omega
  obtain ⟨c, hc⟩ : ∃ c, x.kids = [c] := by
    match hx : x.kids, hk1 with
    | [c], _ => exact ⟨c, rfl⟩
  obtain ⟨c, rfl⟩ : ∃ c' : Nat, c = (c' : Int) := ⟨c.toNat, by have := hin c (by rw [hc]; simp); omega⟩
  have hcn : c < t.nodes.length := by have := hin c (by rw [hc]; simp); omega
  simp only [hc, List.headD_cons, Int.toNat_natCast] at hQ
  have hxc' : ndC x = [.int .i64 x.kind, .str x.name, .sl 1 0 [.int .i64 (c : Int)]] := by rw [hxc, hc]; rfl
  have hsc : ∀ y : Sy, symC y = [.bool y.non, .int .i64 y.n] := fun _ => rfl
  have hcs := hch c (by rw [hc]; simp) hcn (by omega)
  by_cases k3 : x.kind = 3
  · rw [if_pos k3] at hQ
    simp [b1, hxc', k1, k2, k3, V.cells]
    refine dcall (symV (symT t c)) (symbol_spec L t rt ns2.lf c hcn hcs ⟨rfl, rfl⟩) ?_
    obtain ⟨h3, ns3, r1, r2, r3⟩ := NS.lay L ns2 (by omega) ⟨left, [symT t c, ⟨true, left⟩]⟩ (e2 := 0) (st := 0) (v := .sl 2 2 [symV (symT t c), symV ⟨true, left⟩]) (.sl _ _ _)
    simp [fillL, V.isAgg, symV, hsc, b2]
    refine dcallE _ _ (r3 ⟨rfl, rfl⟩) ?_
    simp
    obtain ⟨h4, ns4, s1, s2, s3⟩ := NS.lay L ns3 (by simp; omega) ⟨left, []⟩ (e2 := 0) (st := 0) (v := .sl 0 1 []) (.nil _ _ _)
    refine ecall (s3 ?_)
    simp
    exact hQ _ (by simpa using ns4) (by omega) (fun y hy hyo => by rw [s2 _ hyo, r2 _ hyo]; exact b4 y hy)
  rw [if_neg k3] at hQ
  by_cases k4 : x.kind = 4
  · rw [if_pos k4] at hQ
    simp [b1, hxc', k1, k2, k4, V.cells]
    refine dcall (symV (symT t c)) (symbol_spec L t rt ns2.lf c hcn hcs ⟨rfl, rfl⟩) ?_
    obtain ⟨h3, ns3, r1, r2, r3⟩ := NS.lay L ns2 (by omega) ⟨left, [symT t c, ⟨true, left⟩]⟩ (e2 := 0) (st := 0) (v := .sl 2 2 [symV (symT t c), symV ⟨true, left⟩]) (.sl _ _ _)
    simp [fillL, V.isAgg, symV, hsc, b2]
    refine dcallE _ _ (r3 ⟨rfl, rfl⟩) ?_
    have b1' : h3.objs h.nobj = ndC x := by rw [r2 _ ne1]; exact b1
    simp [b1', hxc', V.cells]
    refine ecall (symbol_spec L t rt ns3.lf c hcn hcs ?_)
    obtain ⟨h4, ns4, s1, s2, s3⟩ := NS.lay L ns3 (by simp; omega) ⟨left, [symT t c]⟩ (e2 := 0) (st := 0) (v := .sl 2 2 [symV (symT t c)]) (.sl _ _ _)
    simp [fillL, V.isAgg, symV, hsc]
    refine ecall (s3 ?_)
    simp
    exact hQ _ (by simpa using ns4) (by omega) (fun y hy hyo => by rw [s2 _ hyo, r2 _ hyo]; exact b4 y hy)
  · rw [if_neg k4] at hQ
    have k5 : x.kind = 5 := by omega
    simp [b1, hxc', k1, k2, k3, k4, k5, V.cells]
    refine ecall (symbol_spec L t rt ns2.lf c hcn hcs ?_)
    obtain ⟨h3, ns3, r1, r2, r3⟩ := NS.lay L ns2 (by omega) ⟨left, [symT t c]⟩ (e2 := 0) (st := 0) (v := .sl 2 2 [symV (symT t c)]) (.sl _ _ _)
    simp [fillL, V.isAgg, symV, hsc]
    refine ecall (r3 ?_)
    simp
    obtain ⟨h4, ns4, s1, s2, s3⟩ := NS.lay L ns3 (by simp; omega) ⟨left, []⟩ (e2 := 0) (st := 0) (v := .sl 0 1 []) (.nil _ _ _)
    refine ecall (s3 ?_)
    simp
    exact hQ _ (by simpa using ns4) (by omega) (fun y hy hyo => by rw [s2 _ hyo, r2 _ hyo]; exact b4 y hy)
theorem lower_spec (L : LLo X) (t : Te) (hr : t.rules.length < 2 ^ 30) (hn : t.nodes.length < 2 ^ 30) (hrn : ∀ r ∈ t.rules, r.name.length ≤ 2 ^ 30) (hnn : ∀ n ∈ t.nodes, n.name.length ≤ 2 ^ 30) (hks : ∀ n ∈ t.nodes, n.kids.length ≤ 2 ^ 30)
    (hQ : Q (lowV (lowRes t)) h) : Ecx X K.lower_Lower [teV t] h Q := by
  refine fn_walk L.lower (by simp [A.lower_Lower]) fun wf => ?_
  have htc : teC t = [.sl 2 0 (t.rules.map rlV), .sl 3 0 (t.nodes.map ndV)] := rfl
  have z4 : (AH.new (h.new (teC t)) [V.int .i64 0, .int .i64 0, .int .i64 0, .sl 0 1 []]).nobj = h.nobj + 2 := by simp
  have gr := ((Gr.refl h).new (teC t)).new [V.int .i64 0, .int .i64 0, .int .i64 0, .sl 0 1 []]
  have b0 : (AH.new (h.new (teC t)) [V.int .i64 0, .int .i64 0, .int .i64 0, .sl 0 1 []]).objs h.nobj = teC t := by simp
  have b1 : (AH.new (h.new (teC t)) [V.int .i64 0, .int .i64 0, .int .i64 0, .sl 0 1 []]).objs (h.nobj + 1) = [V.int .i64 0, .int .i64 0, .int .i64 0, .sl 0 1 []] := by simp
  have hbd := Bdd_lowV h.next h.nobj (lowRes t)
  simp [A.lower_Lower, teV, V.cells, V.good]
  generalize AH.new (h.new (teC t)) [V.int .i64 0, .int .i64 0, .int .i64 0, .sl 0 1 []] = h1 at *
  simp [b0, htc]
  rw [← htc]
  refine ecall (ruRight_spec L.ru L.right t hr hn hrn hnn hks ?_)
  have m1 : ¬ h.nobj = h.nobj + 1 := by omega
  have hRe := right_eq t
  cases hR : rightP t with
  | false =>
    have hl : lowRes t = (⟨0, 0, 0, []⟩, [], 1) := by unfold lowRes; rw [← hRe, hR]; rfl
    rw [hl] at hQ hbd
    simp [fillV, setAt, V.cells, V.good, b1]
    refine fin_wk (gr.set (by omega) _) ?_ hbd hQ
    exact Wk.l3 (Wk.a4 (.nil _ 2 _) _ _ _) (.nil _ 1 _) (.same _)
  | true =>
  have rt : RTe t := rte_of hR
  have hN := rt.n1
  have hRu := rt.r1
  have htl : (termsT t).length ≤ 200 := by have := (termsF_len t.nodes []).1; unfold termsT; simp at this; omega
  simp [b0, htc, fillV, setAt, V.cells, V.good]
  obtain ⟨h5, hh5⟩ : ∃ h5, h5 = ((((h1.new []).new []).new []).new [.sl 2 0 (t.rules.map rlV), .sl 3 0 (t.nodes.map ndV), .sl 0 1 [], .mapr h1.nobj, .mapr (h1.nobj + 1), .mapr (h1.nobj + 2), .sl 0 1 []]) := ⟨_, rfl⟩
  rw [← hh5]
  have gr5 : Gr h h5 := by rw [hh5]; exact (((gr.new []).new []).new []).new _
  have w0 : h5.nobj = h1.nobj + 4 := by rw [hh5]; simp
  have w1 : h5.objs (h1.nobj + 3) = loC t 0 1 [] h1.nobj (h1.nobj + 1) (h1.nobj + 2) (.sl 0 1 []) := by rw [hh5]; simp [loC, strs]
  have w2 : h5.objs h1.nobj = [] := by rw [hh5]; simp [show ¬ h1.nobj = h1.nobj + 1 by omega, show ¬ h1.nobj = h1.nobj + 2 by omega, show ¬ h1.nobj = h1.nobj + 3 by omega]
  have w3 : h5.objs (h1.nobj + 1) = [] := by rw [hh5]; simp [show ¬ h1.nobj + 1 = h1.nobj + 2 by omega, show ¬ h1.nobj + 1 = h1.nobj + 3 by omega]
  have w4 : h5.objs (h1.nobj + 2) = [] := by rw [hh5]; simp [show ¬ h1.nobj + 2 = h1.nobj + 3 by omega]
  have w5 : h5.objs h.nobj = teC t := by rw [hh5]; simp [show ¬ h.nobj = h1.nobj by omega, show ¬ h.nobj = h1.nobj + 1 by omega, show ¬ h.nobj = h1.nobj + 2 by omega, show ¬ h.nobj = h1.nobj + 3 by omega, b0]
  have w6 : h5.objs (h.nobj + 1) = [V.int .i64 0, .int .i64 0, .int .i64 0, .sl 0 1 []] := by
    rw [hh5, new_objs_ne _ _ (by simp only [new_nobj]; omega), new_objs_ne _ _ (by simp only [new_nobj]; omega), new_objs_ne _ _ (by simp only [new_nobj]; omega), new_objs_ne _ _ (by omega)]; exact b1
  clear hh5
  rw [show h1.nobj + 1 + 2 = h1.nobj + 3 by omega]
  obtain ⟨o, ho⟩ : ∃ o, o = h1.nobj + 3 := ⟨_, rfl⟩
  obtain ⟨a1, ha1⟩ : ∃ a1, a1 = h1.nobj := ⟨_, rfl⟩
  obtain ⟨a2, ha2⟩ : ∃ a2, a2 = h1.nobj + 1 := ⟨_, rfl⟩
  obtain ⟨a3, ha3⟩ : ∃ a3, a3 = h1.nobj + 2 := ⟨_, rfl⟩
  rw [← ho, ← ha2, ← ha3] at w1
  rw [← ha1] at w1 w2
  rw [← ha2] at w3
  rw [← ha3] at w4
  rw [← ho]
  refine ecall (number_spec L t rt w1 w2 w3 w4 (by omega) (by omega) (by omega) fun h6 e sn fr6 ob6 el6 lf6 => ?_)
  have gr6 : Gr h h6 := gr5.fr fr6 (fun x hx => by simp at hx; omega) (by omega)
  have v5 : h6.objs h.nobj = teC t := by rw [fr6.objs _ (by omega) (by simp; omega)]; exact w5
  have v6 : h6.objs (h.nobj + 1) = [V.int .i64 0, .int .i64 0, .int .i64 0, .sl 0 1 []] := by rw [fr6.objs _ (by omega) (by simp; omega)]; exact w6
  have v0 := fr6.nobj
  have ns6 : NS t h6 h6 o a1 a2 a3 e sn 1 (lowA t 0) := ⟨⟨0, 1, by simpa [lowA] using ob6, ⟨.inl rfl, .inl rfl⟩, .inl rfl⟩, FR.refl _ _ _, lf6⟩
  have hbody : ∀ k (hk : k < t.rules.length), (t.rules.getD k ⟨[], 0⟩) = t.rules[k] := fun k hk => by simp [List.getD_eq_getElem?_getD, hk]
  have hon : h.nobj + 1 < o := by omega
  have ho6 : o < h6.nobj := by omega
  clear w0 w1 w2 w3 w4 w5 w6 gr5 fr6 ob6 b0 b1 gr lf6
  simp [v5, htc]
  refine loopI (n := t.rules.length) (fun mm env h' => ∃ k, k ≤ t.rules.length ∧ mm = t.rules.length - k ∧ NS t h6 h' o a1 a2 a3 e sn 1 (lowA t k) ∧ h'.objs h.nobj = teC t ∧ h'.objs (h.nobj + 1) = [V.int .i64 0, .int .i64 0, .int .i64 0, .sl 0 1 []] ∧ h6.nobj ≤ h'.nobj ∧
      env = [(1, .ptr h.nobj 0), (2, .ptr (h.nobj + 1) 0), (5, .ptr o 0), (25, .sl 2 0 (t.rules.map rlV)), (26, .int .i64 t.rules.length), (27, .int .i64 k)]) ?_
    ⟨0, by omega, by omega, ns6, v5, v6, Nat.le_refl _, rfl⟩
  rintro mm env h' ⟨k, hk, rfl, ns, u5, u6, nb, rfl⟩
  unfold A.lower_Lower.L0
  have hl1 := lowA_len rt k (by omega)
  by_cases hlt : k < t.rules.length
  · have hlt' : (k : Int) < t.rules.length := by omega
    have hg : (t.rules.map rlV).getD k .undef = rlV t.rules[k] := Enc.getD hlt
    have hw1 : IntKind.i64.wrap ((k : Int) + 1) = ((k + 1 : Nat) : Int) := by rw [wrap_i64 (by omega) (by omega)]; rfl
    have hbd1 := rt.body (List.getElem_mem hlt)
    have hsu := lowA_succ t k
    rw [hbody k hlt] at hsu
    obtain ⟨B, hB⟩ : ∃ B : Nat, t.rules[k].body = (B : Int) := ⟨t.rules[k].body.toNat, by omega⟩
    rw [hB, Int.toNat_natCast] at hsu
    have hrc : rlC t.rules[k] = [.str t.rules[k].name, .int .i64 (B : Int)] := by rw [← hB]; rfl
    generalize t.rules[k] = r at *
    have n0 : ¬ h.nobj = h'.nobj := by omega
    have n1 : ¬ h.nobj + 1 = h'.nobj := by omega
    have q0 : (h'.new (rlC r)).objs h'.nobj = rlC r := by simp
    have q1 : (h'.new (rlC r)).objs h.nobj = teC t := by simp [n0, u5]
    have q2 : (h'.new (rlC r)).objs (h.nobj + 1) = [V.int .i64 0, .int .i64 0, .int .i64 0, .sl 0 1 []] := by simp [n1, u6]
    have q3 : (h'.new (rlC r)).nobj = h'.nobj + 1 := by simp
    have ns2 := ns.new (rlC r)
    simp [hlt', hg, rlV, V.cells, V.good, hrc, setAt]
    rw [← hrc]
    generalize h'.new (rlC r) = h2 at *
    refine ecall (node_spec L t rt ns2 (by omega) B (by omega) k fun h3 ns3 r1 r2 => ?_)
    rw [← hsu] at ns3
    simp [hw1]
    exact ⟨t.rules.length - (k + 1), by omega, iv ⟨k + 1, by omega, rfl, ns3, by rw [r2 _ (by omega) (by omega)]; exact q1, by rw [r2 _ (by omega) (by omega)]; exact q2, by omega, rfl⟩⟩
  · have hlt' : ¬ (k : Int) < t.rules.length := by omega
    obtain rfl : k = t.rules.length := by omega
    simp [hlt', u5, htc]
    refine loopI (n := t.nodes.length) (fun mm env h2 => ∃ k, k ≤ t.nodes.length ∧ mm = t.nodes.length - k ∧ NS t h6 h2 o a1 a2 a3 e sn 1 (lowA t t.rules.length ++ lowB t k) ∧ h2.objs h.nobj = teC t ∧ h2.objs (h.nobj + 1) = [V.int .i64 0, .int .i64 0, .int .i64 0, .sl 0 1 []] ∧ h6.nobj ≤ h2.nobj ∧
        env = [(1, .ptr h.nobj 0), (2, .ptr (h.nobj + 1) 0), (5, .ptr o 0), (40, .int .i64 t.nodes.length), (41, .int .i64 k)]) ?_
      ⟨0, by omega, by omega, by simpa [lowB] using ns, u5, u6, nb, rfl⟩
    clear ns u5 u6 nb h'
    rintro mm env h' ⟨k, hk, rfl, ns, u5, u6, nb, rfl⟩
    unfold A.lower_Lower.L1
    have hl2 := lowB_len rt k (by omega)
    obtain ⟨e1, sp, ob, my, hsp⟩ := ns.ob
    have o3 := ns.lf.o3
    by_cases hlt : k < t.nodes.length
    · have hlt' : (k : Int) < t.nodes.length := by omega
      have hw1 : IntKind.i64.wrap ((k : Int) + 1) = ((k + 1 : Nat) : Int) := by rw [wrap_i64 (by omega) (by omega)]; rfl
      have hsu := lowB_succ t k
      have hf := findE_entI (k : Int) (ownE t t.nodes.length) 0
      cases hh : hasN t k with
      | false =>
        rw [hh, if_neg (by simp), List.append_nil] at hsu
        have hno : fndI (k : Int) (ownE t t.nodes.length) = none := fndI_none fun p hp => by
          unfold ownE at hp
          obtain ⟨i, hi, rfl⟩ := List.mem_map.1 hp
          have := (List.mem_filter.1 hi).2
          show (i : Int) ≠ k
          intro q
          rw [show i = k by omega, hh] at this
          cases this
        rw [hno] at hf
        simp only [Option.map_none] at hf
        simp [hlt', ob, loC, o3, hf, lkpV, hw1]
        exact ⟨t.nodes.length - (k + 1), by omega, iv ⟨k + 1, by omega, rfl, by rw [hsu]; exact ns, u5, u6, nb, rfl⟩⟩
      | true =>
        rw [hh, if_pos rfl] at hsu
        obtain ⟨i, hi⟩ := ownE_find t hh t.nodes.length hlt
        rw [hi] at hf
        simp only [Option.map_some] at hf
        simp [hlt', ob, loC, o3, hf, lkpV]
        refine ecall (node_spec L t rt ns (by simp; omega) k hlt (ownN t k) fun h3 ns3 r1 r2 => ?_)
        rw [List.append_assoc, ← hsu] at ns3
        simp [hw1]
        exact ⟨t.nodes.length - (k + 1), by omega, iv ⟨k + 1, by omega, rfl, ns3, by rw [r2 _ (by omega) (by omega)]; exact u5, by rw [r2 _ (by omega) (by omega)]; exact u6, by omega, rfl⟩⟩
    · have hlt' : ¬ (k : Int) < t.nodes.length := by omega
      obtain rfl : k = t.nodes.length := by omega
      have hgr : Gr h h' := gr6.fr ns.fr (fun x hx => by simp at hx; omega) (by omega)
      have hcl := cntN_le t t.nodes.length
      have hel : (entI (ownE t t.nodes.length)).length = cntN t t.nodes.length := by unfold entI; rw [List.length_map, ownE_len]
      have hw2 : IntKind.i64.wrap ((t.rules.length : Int) + (cntN t t.nodes.length : Int)) = (t.rules.length : Int) + (cntN t t.nodes.length : Int) := wrap_i64 (by omega) (by omega)
      have hgm : gmV (lowG t) = .agg [.int .i64 ((termsT t).length : Int), .int .i64 ((t.rules.length + cntN t t.nodes.length : Nat) : Int), .int .i64 0, .sl 2 0 ((lowA t t.rules.length ++ lowB t t.nodes.length).map prV)] := rfl
      have hsl : (strs (termsT t)).length = (termsT t).length := by simp [strs]
      rw [← show lowP t = lowA t t.rules.length ++ lowB t t.nodes.length from rfl] at *
      have n0 : ¬ h.nobj = h'.nobj := by omega
      have n1 : ¬ h.nobj + 1 = h'.nobj := by omega
      have n2 : ¬ o = h'.nobj := by omega
      have n3 : ¬ a3 = h'.nobj := by have := ns.lf.lt; omega
      simp [hlt', ob, loC, o3, hel, hw2, u5, htc, fillV, setAt, V.cells, V.good, hsl, n0, n2, n3]
      have gz : GmOk (lowG t) := lowG_ok rt
      have gr2 := hgr.new [.int .i64 ((termsT t).length : Int), .int .i64 ((t.rules.length : Int) + (cntN t t.nodes.length : Int)), .int .i64 0, .sl e1 sp ((lowP t).map prV)]
      refine ⟨by simp [flZ, AOp.wp, ev, mlenK, n3, o3, hel], ?_⟩
      refine ecall (Ecx.wkL (.cons (by rw [hgm]; simpa using Wk.a4 (Wk.sln my.el) _ _ _) .nil) (right3R L.gr (lowG t) gz ?_))
      have q1 : (h'.new [.int .i64 ((termsT t).length : Int), .int .i64 ((t.rules.length : Int) + (cntN t t.nodes.length : Int)), .int .i64 0, .sl e1 sp ((lowP t).map prV)]).objs (h.nobj + 1) = [V.int .i64 0, .int .i64 0, .int .i64 0, .sl 0 1 []] := by rw [new_objs_ne _ _ n1]; exact u6
      have q2 : (h'.new [.int .i64 ((termsT t).length : Int), .int .i64 ((t.rules.length : Int) + (cntN t t.nodes.length : Int)), .int .i64 0, .sl e1 sp ((lowP t).map prV)]).objs o = loC t e sn (termsT t) a1 a2 a3 (.sl e1 sp ((lowP t).map prV)) := by rw [new_objs_ne _ _ n2]; exact ob
      have q3 : (h'.new [.int .i64 ((termsT t).length : Int), .int .i64 ((t.rules.length : Int) + (cntN t t.nodes.length : Int)), .int .i64 0, .sl e1 sp ((lowP t).map prV)]).objs h'.nobj = [.int .i64 ((termsT t).length : Int), .int .i64 ((t.rules.length : Int) + (cntN t t.nodes.length : Int)), .int .i64 0, .sl e1 sp ((lowP t).map prV)] := by rw [new_objs_same]
      have q4 : ¬ o = h.nobj + 1 := by omega
      generalize (h'.new [.int .i64 ((termsT t).length : Int), .int .i64 ((t.rules.length : Int) + (cntN t t.nodes.length : Int)), .int .i64 0, .sl e1 sp ((lowP t).map prV)]) = h7 at *
      cases hrg : rightG (lowG t) with
      | false =>
        have hl : lowRes t = (⟨0, 0, 0, []⟩, [], 5) := by unfold lowRes; rw [← hRe, hR, hrg]; rfl
        rw [hl] at hQ hbd
        simp [fillV, setAt, V.cells, V.good, q1]
        refine fin_wk (gr2.set (by omega) _) ?_ hbd hQ
        exact Wk.l3 (Wk.a4 (.nil _ 2 _) _ _ _) (.nil _ 1 _) (.same _)
      | true =>
        have hl : lowRes t = (lowG t, termsT t, 0) := by unfold lowRes; rw [← hRe, hR, hrg]; rfl
        rw [hl] at hQ hbd
        simp [q1, q2, q3, loC, setAt, V.cells, V.good, q4]
        refine fin_wk (gr2.set (by omega) _) ?_ hbd hQ
        exact Wk.l3 (by rw [hgm]; simpa using Wk.a4 (Wk.sln my.el) _ _ _) (Wk.sln el6) (.same _)
end
end Go.Proofs.Ytmobijebjkjnoaa.Al
namespace Go.Proofs.Ytmobijebjkjnoaa.Al
open Go Go.RowKit
set_option linter.unusedSimpArgs false
set_option linter.unusedVariables false
attribute [-simp] List.getD_eq_getElem?_getD Int.not_lt Int.not_le List.map_take List.map_map
theorem Wk.sldL {e st : Nat} {l m : List V} (h : WkL (cellsOf l) (cellsOf m)) (hl : l.length = m.length) (hm : ∀ v ∈ m, v.cells.length = e) : Wk (.sl e st l) (.sl e 0 m) :=
  .sld _ _ _ _ hl hm h.get.1 h.get.2
structure L08 (X : Cx) : Prop where
  lo : LLo X
  rl : LRL X
  large : Has (Ecx X) K.probatelaw06_Large A.probatelaw06_Large
  own : Has (Ecx X) K.probatelaw06_Own A.probatelaw06_Own
  same : Has (Ecx X) K.probateref03_Same A.probateref03_Same
  names : Has (Ecx X) K.probatelaw08_names A.probatelaw08_names
  awake : Has (Ecx X) K.probatelaw08_awake A.probatelaw08_awake
section
variable {X : Cx} {h : AH} {Q : V → AH → Prop}
theorem names_spec (H : Has (Ecx X) K.probatelaw08_names A.probatelaw08_names) (a b : List Str) (s t : Nat) (ha : a.length < 2 ^ 62) (hQ : Q (.bool (decide (a = b))) h) : Ecx X K.probatelaw08_names [.sl 1 s (strs a), .sl 1 t (strs b)] h Q := by
  refine fn_walk H (by simp [A.probatelaw08_names]) fun wf => ?_
  have hal : (strs a).length = a.length := by simp [strs]
  have hbl : (strs b).length = b.length := by simp [strs]
  by_cases hl : a.length = b.length
  · have hl' : (a.length : Int) = b.length := by omega
    simp [A.probatelaw08_names, hl', hal, hbl]
    refine loopI (n := a.length) (fun m env h' => ∃ k, k ≤ a.length ∧ m = a.length - k ∧ h' = h ∧ env = [(0, .sl 1 s (strs a)), (1, .sl 1 t (strs b)), (12, .int .i64 b.length), (13, .int .i64 k)] ∧ a.take k = b.take k) ?_ ⟨0, by omega, by omega, rfl, by rfl, rfl⟩
    rintro m env h' ⟨k, hk, rfl, rfl, rfl, he⟩
    unfold A.probatelaw08_names.L0
    by_cases hlt : k < a.length
    · have hlt' : (k : Int) < b.length := by omega
      have hlb : k < b.length := by omega
      have hga : (strs a).getD k .undef = .str a[k] := by simp [strs, List.getD_eq_getElem?_getD, hlt]
      have hgb : (strs b).getD k .undef = .str b[k] := by simp [strs, List.getD_eq_getElem?_getD, hlb]
      have hw1 : IntKind.i64.wrap ((k : Int) + 1) = ((k + 1 : Nat) : Int) := by rw [wrap_i64 (by omega) (by omega)]; rfl
      by_cases e : a[k] = b[k]
      · simp [hl', hlt', hga, hgb, hal, hbl, V.cells, V.good, e, hw1]
        exact ⟨a.length - (k + 1), by omega, iv ⟨k + 1, by omega, rfl, rfl, rfl, take_ext2 hlt hlb he e⟩⟩
      · have hf : decide (a = b) = false := by
          simp only [decide_eq_false_iff_not]; rintro rfl; exact e rfl
        rw [hf] at hQ
        simp [hl', hlt', hga, hgb, hal, hbl, V.cells, e]
        exact fin (by simp) hQ
    · have hlt' : ¬ (k : Int) < b.length := by omega
      simp [hl', hlt']
      refine fin (by simp) ?_
      have hk : k = a.length := by omega
      rw [hk, List.take_length, hl, List.take_length] at he
      simpa [he] using hQ
  · have hl' : ¬ (a.length : Int) = b.length := by omega
    simp [A.probatelaw08_names, hl', hal, hbl, hl]
    refine fin (by simp) ?_
    have : decide (a = b) = false := by simp; intro h; exact hl (by rw [h])
    rw [this] at hQ; exact hQ
def awT : Te := ⟨[⟨[115], 3⟩], [⟨7, [97], []⟩, ⟨3, [], [0]⟩, ⟨7, [98], []⟩, ⟨1, [], [1, 2]⟩]⟩
def awG : Gm := ⟨2, 2, 0, [⟨0, [⟨true, 1⟩, ⟨false, 1⟩]⟩, ⟨1, [⟨false, 0⟩, ⟨true, 1⟩]⟩, ⟨1, []⟩]⟩
theorem awT_low : lowRes awT = (awG, [[97], [98]], 0) := by decide +kernel
theorem nilT_low : lowRes ⟨[], []⟩ = (⟨0, 0, 0, []⟩, [], 1) := by decide +kernel
theorem awake8_spec (L : L08 X) (hQ : Q (.bool true) h) : Ecx X K.probatelaw08_awake [] h Q := by
  refine fn_walk L.awake (by simp [A.probatelaw08_awake]) fun wf => ?_
  simp [A.probatelaw08_awake, fillL, fillV, setAt, V.cells, V.good, V.isAgg]
  have hT : WkL [V.agg [V.sl 2 2 [V.agg [V.str [115], V.int IntKind.i64 3]], V.sl 3 2 [V.agg [V.int IntKind.i64 7, V.str [97], V.sl 0 1 []], V.agg [V.int IntKind.i64 3, V.str [], V.sl 1 2 [V.int IntKind.i64 0]], V.agg [V.int IntKind.i64 7, V.str [98], V.sl 0 1 []], V.agg [V.int IntKind.i64 1, V.str [], V.sl 1 2 [V.int IntKind.i64 1, V.int IntKind.i64 2]]]]] [teV awT] := by
    refine .cons (Wk.l2 (.sl _ _ _) (Wk.sldL ?_ rfl ?_)) .nil
    · exact .cons (.same _) (.cons (.same _) (.cons (.nil _ _ _) (.cons (.same _) (.cons (.same _) (.cons (.sl _ _ _) (.cons (.same _) (.cons (.same _) (.cons (.nil _ _ _) (.cons (.same _) (.cons (.same _) (.cons (.sl _ _ _) .nil)))))))))))
    · intro v hv
      obtain ⟨x, _, rfl⟩ := List.mem_map.1 hv
      rfl
  refine ecall (Ecx.wkL hT (lower_spec L.lo awT (by decide) (by decide) (by decide) (by decide) (by decide) ?_))
  rw [awT_low]
  have hgA : gmV awG = .agg [.int .i64 2, .int .i64 2, .int .i64 0, .sl 2 0 (awG.prods.map prV)] := rfl
  simp [lowV, hgA, V.cells, V.good, setAt]
  have hN : WkL [V.agg [V.sl 0 1 [], V.sl 0 1 []]] [teV ⟨[], []⟩] := .cons (Wk.l2 (.nil _ _ _) (.nil _ _ _)) .nil
  refine ecall (Ecx.wkL hN (lower_spec L.lo ⟨[], []⟩ (by decide) (by decide) (by decide) (by decide) (by decide) ?_))
  rw [nilT_low]
  have hgZ : gmV ⟨0, 0, 0, []⟩ = .agg [.int .i64 0, .int .i64 0, .int .i64 0, .sl 2 0 []] := rfl
  simp [lowV, hgZ, V.cells, V.good, setAt]
  have hW : Wk (V.agg [V.int IntKind.i64 2, V.int IntKind.i64 2, V.int IntKind.i64 0, V.sl 2 2 [V.agg [V.int IntKind.i64 0, V.sl 2 2 [V.agg [V.bool true, V.int IntKind.i64 1], V.agg [V.bool false, V.int IntKind.i64 1]]],
      V.agg [V.int IntKind.i64 1, V.sl 2 2 [V.agg [V.bool false, V.int IntKind.i64 0], V.agg [V.bool true, V.int IntKind.i64 1]]], V.agg [V.int IntKind.i64 1, V.sl 0 1 []]]]) (gmV awG) :=
    Wk.a4 (PrWL.wk (show PrWL [V.agg [V.int IntKind.i64 0, V.sl 2 2 [V.agg [V.bool true, V.int IntKind.i64 1], V.agg [V.bool false, V.int IntKind.i64 1]]],
      V.agg [V.int IntKind.i64 1, V.sl 2 2 [V.agg [V.bool false, V.int IntKind.i64 0], V.agg [V.bool true, V.int IntKind.i64 1]]], V.agg [V.int IntKind.i64 1, V.sl 0 1 []]]
      [⟨0, [⟨true, 1⟩, ⟨false, 1⟩]⟩, ⟨1, [⟨false, 0⟩, ⟨true, 1⟩]⟩, ⟨1, []⟩] from ⟨⟨2, 2, rfl, .inr rfl⟩, ⟨2, 2, rfl, .inr rfl⟩, ⟨0, 1, rfl, .inl rfl⟩, trivial⟩) (.inr rfl)) _ _ _
  refine ecall (Ecx.wkL (.cons (.same _) (.cons hW .nil)) (same3R_spec L.same awG awG (by decide) (by decide) ?_))
  simp
  refine ecall (names_spec L.names [[97], [98]] [[97], [98]] 0 2 (by decide) ?_)
  simp
  exact fin_wk (((((Gr.refl h).new _).new _).new _).new _ |>.new _) (.same _) (by simp) hQ
structure TeSm (t : Te) : Prop where
  r : t.rules.length ≤ 30
  n : t.nodes.length ≤ 210
  rn : ∀ r ∈ t.rules, r.name.length ≤ 2 ^ 30
  nn : ∀ n ∈ t.nodes, n.name.length ≤ 2 ^ 30
  ks : ∀ n ∈ t.nodes, n.kids.length ≤ 2 ^ 30
theorem sm_of {t : Te} (h : largeT t = false) : TeSm t := by
  unfold largeT at h
  simp only [Bool.or_eq_false_iff, decide_eq_false_iff_not, List.any_eq_false] at h
  obtain ⟨⟨⟨h1, h2⟩, h3⟩, h4⟩ := h
  refine ⟨by omega, by omega, fun r hr => ?_, fun n hn => ?_, fun n hn => ?_⟩
  · have := h3 r hr; simp at this; omega
  · have := h4 n hn; simp at this; omega
  · have := h4 n hn; simp at this; omega
theorem lowRes_sm (t : Te) : (lowRes t).1.prods.length ≤ 2 ^ 40 ∧ (∀ p ∈ (lowRes t).1.prods, p.right.length ≤ 2 ^ 40) ∧ (lowRes t).2.1.length < 2 ^ 62 := by
  unfold lowRes
  cases h : rightD t with
  | false => simp
  | true =>
    have rt : RTe t := rte_of (by rw [right_eq]; exact h)
    simp only [if_true]
    split
    · have h1 := lowA_len rt t.rules.length rt.r1
      have h2 := lowB_len rt t.nodes.length rt.n1
      have h3 := (termsF_len t.nodes []).1
      have h4 := rt.n1
      refine ⟨by simp only [lowG, lowP, List.length_append]; omega, fun p hp => ?_, by show (termsF t.nodes []).length < 2 ^ 62; simp at h3; omega⟩
      have := lowP_right rt p hp; omega
    · simp
end
end Go.Proofs.Ytmobijebjkjnoaa.Al
namespace Go.Proofs.Ytmobijebjkjnoaa.Al
open Go
def yK : Keys := ⟨fun k => ([0, 0, 1, 2, 0, 0, 0, 0, 0, 0, 0, 0, 0, 0, 0, 0, 0, 0, 0, 0, 0, 0, 0, 0, 0, 0, 0, 0, 0, 0, 0, 0, 0, 0, 0, 0, 0, 0, 0, 0, 0, 0, 0, 0, 0, 0, 0, 0, 0, 52, 41, 0, 0, 0, 0, 0, 0, 0, 0, 0, 0, 0, 0, 0, 0, 0, 0, 0, 0, 0, 0, 0, 0, 16, 24, 0, 11, 0, 17, 0, 0, 0, 0, 0, 0, 0, 0, 64, 60, 61, 0, 0, 0, 0, 0, 0, 33, 34, 35, 0, 0, 0, 67, 68, 69, 70, 71, 72, 0, 0, 56, 57, 58, 59, 0, 73, 74, 66, 75, 76, 77, 78, 79, 80, 81, 82, 83, 84, 85, 86, 87, 88, 89, 90, 91, 92, 93, 94, 95, 96, 97, 0, 0, 0, 0, 0, 3, 4, 5, 0, 0, 0, 0, 0, 0, 0, 0, 0, 0, 0, 0, 0, 0, 0, 0, 0, 0, 0, 0, 0, 0, 0, 0, 0, 0, 0, 0, 0, 0, 0, 0, 0, 0, 13, 6, 7, 8, 9, 10, 12, 14, 15, 0, 0, 0, 0, 20, 0, 0, 0, 0, 0, 0, 0, 0, 0, 0, 0, 0, 0, 32, 0, 0, 0, 0, 0, 0, 0, 0, 0, 0, 0, 0, 0, 0, 0, 0, 0, 0, 0, 0, 0, 0, 0, 0, 0, 0, 0, 0, 0, 0, 0, 25, 18, 19, 21, 22, 23, 26, 27, 28, 29, 30, 31, 0, 0, 0, 0, 0, 42, 43, 0, 0, 0, 0, 0, 0, 0, 0, 0, 0, 0, 0, 0, 0, 0, 0, 0, 0, 0, 0, 0, 0, 0, 0, 0, 0, 0, 0, 47, 48, 36, 37, 38, 39, 40, 44, 45, 46, 49, 50, 51, 53, 54, 55, 0, 0, 0, 0, 0, 62, 63, 0, 0, 0, 0, 0, 0, 0, 0, 0, 0, 0, 0, 0, 0, 0, 0, 0, 0, 65, 0, 0, 0, 0, 0, 0, 0, 0, 0, 0, 0, 0, 0, 0, 0, 0, 0, 0, 0, 0] : List Nat).getD k 0, fun k => ([1, 2, 3, 146, 147, 148, 184, 185, 186, 187, 188, 76, 189, 183, 190, 191, 73, 78, 243, 244, 196, 245, 246, 247, 74, 242, 248, 249, 250, 251, 252, 253, 210, 96, 97, 98, 291, 292, 293, 294, 295, 50, 259, 260, 296, 297, 298, 289, 290, 299, 300, 301, 49, 302, 303, 304, 110, 111, 112, 113, 88, 89, 310, 311, 87, 330, 117, 102, 103, 104, 105, 106, 107, 115, 116, 118, 119, 120, 121, 122, 123, 124, 125, 126, 127, 128, 129, 130, 131, 132, 133, 134, 135, 136, 137, 138, 139, 140] : List Nat).getD k 0, fun k => ([33, 34, 35, 37, 38, 39, 40, 45, 81, 82, 83, 85, 94, 95, 108, 109, 243, 244, 259, 292, 294] : List Nat).contains k, fun _ => false⟩
noncomputable abbrev cxOf (W0 : World) : Cx := ⟨Try.prog, yK.tbl, W0⟩
end Go.Proofs.Ytmobijebjkjnoaa.Al
namespace Go.Proofs.Ytmobijebjkjnoaa.Al
open Go
theorem tie_probateref03_Same : compFn Try.prog yK Try.f11 = some A.probateref03_Same.strip := by kernel_rfl
theorem has_probateref03_Same (W0 : World) : Has (Ecx (cxOf W0)) K.probateref03_Same A.probateref03_Same := fn_sound Try.checked.mixed rfl (by exact Try.func11) (by kernel_rfl) tie_probateref03_Same
theorem tie_probateref03_Right : compFn Try.prog yK Try.f24 = some A.probateref03_Right.strip := by kernel_rfl
theorem has_probateref03_Right (W0 : World) : Has (Ecx (cxOf W0)) K.probateref03_Right A.probateref03_Right := fn_sound Try.checked.mixed rfl (by exact Try.func24) (by kernel_rfl) tie_probateref03_Right
end Go.Proofs.Ytmobijebjkjnoaa.Al
namespace Go.Proofs.Ytmobijebjkjnoaa.Al
open Go
theorem tie_gram_Right : compFn Try.prog yK Try.f16 = some A.gram_Right.strip := by kernel_rfl
theorem has_gram_Right (W0 : World) : Has (Ecx (cxOf W0)) K.gram_Right A.gram_Right := fn_sound Try.checked.mixed rfl (by exact Try.func16) (by kernel_rfl) tie_gram_Right
theorem tie_gram_Of : compFn Try.prog yK Try.f17 = some A.gram_Of.strip := by kernel_rfl
theorem has_gram_Of (W0 : World) : Has (Ecx (cxOf W0)) K.gram_Of A.gram_Of := fn_sound Try.checked.mixed rfl (by exact Try.func17) (by kernel_rfl) tie_gram_Of
theorem tie_gram_Right_1 : compFn Try.prog yK Try.f34 = some A.gram_Right_1.strip := by kernel_rfl
theorem has_gram_Right_1 (W0 : World) : Has (Ecx (cxOf W0)) K.gram_Right_1 A.gram_Right_1 := fn_sound Try.checked.mixed rfl (by exact Try.func34) (by kernel_rfl) tie_gram_Right_1
theorem tie_gram_fits : compFn Try.prog yK Try.f35 = some A.gram_fits.strip := by kernel_rfl
theorem has_gram_fits (W0 : World) : Has (Ecx (cxOf W0)) K.gram_fits A.gram_fits := fn_sound Try.checked.mixed rfl (by exact Try.func35) (by kernel_rfl) tie_gram_fits
theorem tie_gram_there : compFn Try.prog yK Try.f57 = some A.gram_there.strip := by kernel_rfl
theorem has_gram_there (W0 : World) : Has (Ecx (cxOf W0)) K.gram_there A.gram_there := fn_sound Try.checked.mixed rfl (by exact Try.func57) (by kernel_rfl) tie_gram_there
theorem tie_gram_fits_1 : compFn Try.prog yK Try.f59 = some A.gram_fits_1.strip := by kernel_rfl
theorem has_gram_fits_1 (W0 : World) : Has (Ecx (cxOf W0)) K.gram_fits_1 A.gram_fits_1 := fn_sound Try.checked.mixed rfl (by exact Try.func59) (by kernel_rfl) tie_gram_fits_1
end Go.Proofs.Ytmobijebjkjnoaa.Al
namespace Go.Proofs.Ytmobijebjkjnoaa.Al
open Go
theorem tie_probateref05_Scan : compFn Try.prog yK Try.f41 = some A.probateref05_Scan.strip := by kernel_rfl
theorem has_probateref05_Scan (W0 : World) : Has (Ecx (cxOf W0)) K.probateref05_Scan A.probateref05_Scan := fn_sound Try.checked.mixed rfl (by exact Try.func41) (by kernel_rfl) tie_probateref05_Scan
theorem tie_probateref05_letter : compFn Try.prog yK Try.f60 = some A.probateref05_letter.strip := by kernel_rfl
theorem has_probateref05_letter (W0 : World) : Has (Ecx (cxOf W0)) K.probateref05_letter A.probateref05_letter := fn_sound Try.checked.mixed rfl (by exact Try.func60) (by kernel_rfl) tie_probateref05_letter
theorem tie_probateref05_part : compFn Try.prog yK Try.f61 = some A.probateref05_part.strip := by kernel_rfl
theorem has_probateref05_part (W0 : World) : Has (Ecx (cxOf W0)) K.probateref05_part A.probateref05_part := fn_sound Try.checked.mixed rfl (by exact Try.func61) (by kernel_rfl) tie_probateref05_part
end Go.Proofs.Ytmobijebjkjnoaa.Al
namespace Go.Proofs.Ytmobijebjkjnoaa.Al
open Go
theorem tie_probatelaw06_Large : compFn Try.prog yK Try.f7 = some A.probatelaw06_Large.strip := by kernel_rfl
theorem has_probatelaw06_Large (W0 : World) : Has (Ecx (cxOf W0)) K.probatelaw06_Large A.probatelaw06_Large := fn_sound Try.checked.mixed rfl (by exact Try.func7) (by kernel_rfl) tie_probatelaw06_Large
theorem tie_probatelaw06_Own : compFn Try.prog yK Try.f10 = some A.probatelaw06_Own.strip := by kernel_rfl
theorem has_probatelaw06_Own (W0 : World) : Has (Ecx (cxOf W0)) K.probatelaw06_Own A.probatelaw06_Own := fn_sound Try.checked.mixed rfl (by exact Try.func10) (by kernel_rfl) tie_probatelaw06_Own
theorem tie_probateref06_Right : compFn Try.prog yK Try.f20 = some A.probateref06_Right.strip := by kernel_rfl
theorem has_probateref06_Right (W0 : World) : Has (Ecx (cxOf W0)) K.probateref06_Right A.probateref06_Right := fn_sound Try.checked.mixed rfl (by exact Try.func20) (by kernel_rfl) tie_probateref06_Right
theorem tie_probateref06_under : compFn Try.prog yK Try.f42 = some A.probateref06_under.strip := by kernel_rfl
theorem has_probateref06_under (W0 : World) : Has (Ecx (cxOf W0)) K.probateref06_under A.probateref06_under := fn_sound Try.checked.mixed rfl (by exact Try.func42) (by kernel_rfl) tie_probateref06_under
theorem tie_probateref06_Tree_fine : compFn Try.prog yK Try.f43 = some A.probateref06_Tree_fine.strip := by kernel_rfl
theorem has_probateref06_Tree_fine (W0 : World) : Has (Ecx (cxOf W0)) K.probateref06_Tree_fine A.probateref06_Tree_fine := fn_sound Try.checked.mixed rfl (by exact Try.func43) (by kernel_rfl) tie_probateref06_Tree_fine
theorem tie_probateref06_Tree_rule : compFn Try.prog yK Try.f62 = some A.probateref06_Tree_rule.strip := by kernel_rfl
theorem has_probateref06_Tree_rule (W0 : World) : Has (Ecx (cxOf W0)) K.probateref06_Tree_rule A.probateref06_Tree_rule := fn_sound Try.checked.mixed rfl (by exact Try.func62) (by kernel_rfl) tie_probateref06_Tree_rule
theorem tie_probateref06_quote : compFn Try.prog yK Try.f63 = some A.probateref06_quote.strip := by kernel_rfl
theorem has_probateref06_quote (W0 : World) : Has (Ecx (cxOf W0)) K.probateref06_quote A.probateref06_quote := fn_sound Try.checked.mixed rfl (by exact Try.func63) (by kernel_rfl) tie_probateref06_quote
end Go.Proofs.Ytmobijebjkjnoaa.Al
namespace Go.Proofs.Ytmobijebjkjnoaa.Al
open Go
theorem tie_probatelaw08_awake : compFn Try.prog yK Try.f6 = some A.probatelaw08_awake.strip := by kernel_rfl
theorem has_probatelaw08_awake (W0 : World) : Has (Ecx (cxOf W0)) K.probatelaw08_awake A.probatelaw08_awake := fn_sound Try.checked.mixed rfl (by exact Try.func6) (by kernel_rfl) tie_probatelaw08_awake
theorem tie_probateref08_Lower : compFn Try.prog yK Try.f9 = some A.probateref08_Lower.strip := by kernel_rfl
theorem has_probateref08_Lower (W0 : World) : Has (Ecx (cxOf W0)) K.probateref08_Lower A.probateref08_Lower := fn_sound Try.checked.mixed rfl (by exact Try.func9) (by kernel_rfl) tie_probateref08_Lower
theorem tie_probatelaw08_names : compFn Try.prog yK Try.f12 = some A.probatelaw08_names.strip := by kernel_rfl
theorem has_probatelaw08_names (W0 : World) : Has (Ecx (cxOf W0)) K.probatelaw08_names A.probatelaw08_names := fn_sound Try.checked.mixed rfl (by exact Try.func12) (by kernel_rfl) tie_probatelaw08_names
theorem tie_probateref08_Terms : compFn Try.prog yK Try.f21 = some A.probateref08_Terms.strip := by kernel_rfl
theorem has_probateref08_Terms (W0 : World) : Has (Ecx (cxOf W0)) K.probateref08_Terms A.probateref08_Terms := fn_sound Try.checked.mixed rfl (by exact Try.func21) (by kernel_rfl) tie_probateref08_Terms
theorem tie_probateref08_prods : compFn Try.prog yK Try.f22 = some A.probateref08_prods.strip := by kernel_rfl
theorem has_probateref08_prods (W0 : World) : Has (Ecx (cxOf W0)) K.probateref08_prods A.probateref08_prods := fn_sound Try.checked.mixed rfl (by exact Try.func22) (by kernel_rfl) tie_probateref08_prods
theorem tie_probateref08_own : compFn Try.prog yK Try.f23 = some A.probateref08_own.strip := by kernel_rfl
theorem has_probateref08_own (W0 : World) : Has (Ecx (cxOf W0)) K.probateref08_own A.probateref08_own := fn_sound Try.checked.mixed rfl (by exact Try.func23) (by kernel_rfl) tie_probateref08_own
theorem tie_probateref08_place : compFn Try.prog yK Try.f44 = some A.probateref08_place.strip := by kernel_rfl
theorem has_probateref08_place (W0 : World) : Has (Ecx (cxOf W0)) K.probateref08_place A.probateref08_place := fn_sound Try.checked.mixed rfl (by exact Try.func44) (by kernel_rfl) tie_probateref08_place
theorem tie_probateref08_symbol : compFn Try.prog yK Try.f45 = some A.probateref08_symbol.strip := by kernel_rfl
theorem has_probateref08_symbol (W0 : World) : Has (Ecx (cxOf W0)) K.probateref08_symbol A.probateref08_symbol := fn_sound Try.checked.mixed rfl (by exact Try.func45) (by kernel_rfl) tie_probateref08_symbol
theorem tie_probateref08_symbols : compFn Try.prog yK Try.f46 = some A.probateref08_symbols.strip := by kernel_rfl
theorem has_probateref08_symbols (W0 : World) : Has (Ecx (cxOf W0)) K.probateref08_symbols A.probateref08_symbols := fn_sound Try.checked.mixed rfl (by exact Try.func46) (by kernel_rfl) tie_probateref08_symbols
theorem tie_probateref08_rule : compFn Try.prog yK Try.f49 = some A.probateref08_rule.strip := by kernel_rfl
theorem has_probateref08_rule (W0 : World) : Has (Ecx (cxOf W0)) K.probateref08_rule A.probateref08_rule := fn_sound Try.checked.mixed rfl (by exact Try.func49) (by kernel_rfl) tie_probateref08_rule
end Go.Proofs.Ytmobijebjkjnoaa.Al
namespace Go.Proofs.Ytmobijebjkjnoaa.Al
open Go
theorem tie_slices_ContainsFunc_Rule : compFn Try.prog yK Try.f29 = some A.slices_ContainsFunc_Rule.strip := by kernel_rfl
theorem has_slices_ContainsFunc_Rule (W0 : World) : Has (Ecx (cxOf W0)) K.slices_ContainsFunc_Rule A.slices_ContainsFunc_Rule := fn_sound Try.checked.mixed rfl (by exact Try.func29) (by kernel_rfl) tie_slices_ContainsFunc_Rule
theorem tie_slices_Equal_int : compFn Try.prog yK Try.f32 = some A.slices_Equal_int.strip := by kernel_rfl
theorem has_slices_Equal_int (W0 : World) : Has (Ecx (cxOf W0)) K.slices_Equal_int A.slices_Equal_int := fn_sound Try.checked.mixed rfl (by exact Try.func32) (by kernel_rfl) tie_slices_Equal_int
theorem tie_slices_ContainsFunc_Prod : compFn Try.prog yK Try.f33 = some A.slices_ContainsFunc_Prod.strip := by kernel_rfl
theorem has_slices_ContainsFunc_Prod (W0 : World) : Has (Ecx (cxOf W0)) K.slices_ContainsFunc_Prod A.slices_ContainsFunc_Prod := fn_sound Try.checked.mixed rfl (by exact Try.func33) (by kernel_rfl) tie_slices_ContainsFunc_Prod
theorem tie_slices_IndexFunc_Rule : compFn Try.prog yK Try.f53 = some A.slices_IndexFunc_Rule.strip := by kernel_rfl
theorem has_slices_IndexFunc_Rule (W0 : World) : Has (Ecx (cxOf W0)) K.slices_IndexFunc_Rule A.slices_IndexFunc_Rule := fn_sound Try.checked.mixed rfl (by exact Try.func53) (by kernel_rfl) tie_slices_IndexFunc_Rule
theorem tie_slices_Contains_byte : compFn Try.prog yK Try.f55 = some A.slices_Contains_byte.strip := by kernel_rfl
theorem has_slices_Contains_byte (W0 : World) : Has (Ecx (cxOf W0)) K.slices_Contains_byte A.slices_Contains_byte := fn_sound Try.checked.mixed rfl (by exact Try.func55) (by kernel_rfl) tie_slices_Contains_byte
theorem tie_slices_IndexFunc_Prod : compFn Try.prog yK Try.f56 = some A.slices_IndexFunc_Prod.strip := by kernel_rfl
theorem has_slices_IndexFunc_Prod (W0 : World) : Has (Ecx (cxOf W0)) K.slices_IndexFunc_Prod A.slices_IndexFunc_Prod := fn_sound Try.checked.mixed rfl (by exact Try.func56) (by kernel_rfl) tie_slices_IndexFunc_Prod
theorem tie_slices_ContainsFunc_Sym : compFn Try.prog yK Try.f58 = some A.slices_ContainsFunc_Sym.strip := by kernel_rfl
theorem has_slices_ContainsFunc_Sym (W0 : World) : Has (Ecx (cxOf W0)) K.slices_ContainsFunc_Sym A.slices_ContainsFunc_Sym := fn_sound Try.checked.mixed rfl (by exact Try.func58) (by kernel_rfl) tie_slices_ContainsFunc_Sym
theorem tie_slices_Index_byte : compFn Try.prog yK Try.f65 = some A.slices_Index_byte.strip := by kernel_rfl
theorem has_slices_Index_byte (W0 : World) : Has (Ecx (cxOf W0)) K.slices_Index_byte A.slices_Index_byte := fn_sound Try.checked.mixed rfl (by exact Try.func65) (by kernel_rfl) tie_slices_Index_byte
theorem tie_slices_IndexFunc_Sym : compFn Try.prog yK Try.f66 = some A.slices_IndexFunc_Sym.strip := by kernel_rfl
theorem has_slices_IndexFunc_Sym (W0 : World) : Has (Ecx (cxOf W0)) K.slices_IndexFunc_Sym A.slices_IndexFunc_Sym := fn_sound Try.checked.mixed rfl (by exact Try.func66) (by kernel_rfl) tie_slices_IndexFunc_Sym
theorem tie_strings_Cut : compFn Try.prog yK Try.f67 = some A.strings_Cut.strip := by kernel_rfl
theorem has_strings_Cut (W0 : World) : Has (Ecx (cxOf W0)) K.strings_Cut A.strings_Cut := fn_sound Try.checked.mixed rfl (by exact Try.func67) (by kernel_rfl) tie_strings_Cut
theorem tie_strings_IndexByte : compFn Try.prog yK Try.f72 = some A.strings_IndexByte.strip := by kernel_rfl
theorem has_strings_IndexByte (W0 : World) : Has (Ecx (cxOf W0)) K.strings_IndexByte A.strings_IndexByte := fn_sound Try.checked.mixed rfl (by exact Try.func72) (by kernel_rfl) tie_strings_IndexByte
theorem tie_stringslite_Cut : compFn Try.prog yK Try.f73 = some A.stringslite_Cut.strip := by kernel_rfl
theorem has_stringslite_Cut (W0 : World) : Has (Ecx (cxOf W0)) K.stringslite_Cut A.stringslite_Cut := fn_sound Try.checked.mixed rfl (by exact Try.func73) (by kernel_rfl) tie_stringslite_Cut
theorem tie_stringslite_IndexByte : compFn Try.prog yK Try.f74 = some A.stringslite_IndexByte.strip := by kernel_rfl
theorem has_stringslite_IndexByte (W0 : World) : Has (Ecx (cxOf W0)) K.stringslite_IndexByte A.stringslite_IndexByte := fn_sound Try.checked.mixed rfl (by exact Try.func74) (by kernel_rfl) tie_stringslite_IndexByte
theorem tie_stringslite_Index : compFn Try.prog yK Try.f75 = some A.stringslite_Index.strip := by kernel_rfl
theorem has_stringslite_Index (W0 : World) : Has (Ecx (cxOf W0)) K.stringslite_Index A.stringslite_Index := fn_sound Try.checked.mixed rfl (by exact Try.func75) (by kernel_rfl) tie_stringslite_Index
end Go.Proofs.Ytmobijebjkjnoaa.Al
namespace Go.Proofs.Ytmobijebjkjnoaa.Al
open Go
theorem tie_lower_Lower : compFn Try.prog yK Try.f8 = some A.lower_Lower.strip := by kernel_rfl
theorem has_lower_Lower (W0 : World) : Has (Ecx (cxOf W0)) K.lower_Lower A.lower_Lower := fn_sound Try.checked.mixed rfl (by exact Try.func8) (by kernel_rfl) tie_lower_Lower
theorem tie_lower_lowerer_number : compFn Try.prog yK Try.f18 = some A.lower_lowerer_number.strip := by kernel_rfl
theorem has_lower_lowerer_number (W0 : World) : Has (Ecx (cxOf W0)) K.lower_lowerer_number A.lower_lowerer_number := fn_sound Try.checked.mixed rfl (by exact Try.func18) (by kernel_rfl) tie_lower_lowerer_number
theorem tie_lower_lowerer_node : compFn Try.prog yK Try.f19 = some A.lower_lowerer_node.strip := by kernel_rfl
theorem has_lower_lowerer_node (W0 : World) : Has (Ecx (cxOf W0)) K.lower_lowerer_node A.lower_lowerer_node := fn_sound Try.checked.mixed rfl (by exact Try.func19) (by kernel_rfl) tie_lower_lowerer_node
theorem tie_lower_lowerer_alone : compFn Try.prog yK Try.f36 = some A.lower_lowerer_alone.strip := by kernel_rfl
theorem has_lower_lowerer_alone (W0 : World) : Has (Ecx (cxOf W0)) K.lower_lowerer_alone A.lower_lowerer_alone := fn_sound Try.checked.mixed rfl (by exact Try.func36) (by kernel_rfl) tie_lower_lowerer_alone
theorem tie_lower_lowerer_term : compFn Try.prog yK Try.f37 = some A.lower_lowerer_term.strip := by kernel_rfl
theorem has_lower_lowerer_term (W0 : World) : Has (Ecx (cxOf W0)) K.lower_lowerer_term A.lower_lowerer_term := fn_sound Try.checked.mixed rfl (by exact Try.func37) (by kernel_rfl) tie_lower_lowerer_term
theorem tie_lower_lowerer_symbol : compFn Try.prog yK Try.f38 = some A.lower_lowerer_symbol.strip := by kernel_rfl
theorem has_lower_lowerer_symbol (W0 : World) : Has (Ecx (cxOf W0)) K.lower_lowerer_symbol A.lower_lowerer_symbol := fn_sound Try.checked.mixed rfl (by exact Try.func38) (by kernel_rfl) tie_lower_lowerer_symbol
theorem tie_lower_lowerer_lay : compFn Try.prog yK Try.f39 = some A.lower_lowerer_lay.strip := by kernel_rfl
theorem has_lower_lowerer_lay (W0 : World) : Has (Ecx (cxOf W0)) K.lower_lowerer_lay A.lower_lowerer_lay := fn_sound Try.checked.mixed rfl (by exact Try.func39) (by kernel_rfl) tie_lower_lowerer_lay
theorem tie_lower_all : compFn Try.prog yK Try.f40 = some A.lower_all.strip := by kernel_rfl
theorem has_lower_all (W0 : World) : Has (Ecx (cxOf W0)) K.lower_all A.lower_all := fn_sound Try.checked.mixed rfl (by exact Try.func40) (by kernel_rfl) tie_lower_all
end Go.Proofs.Ytmobijebjkjnoaa.Al
namespace Go.Proofs.Ytmobijebjkjnoaa.Al
open Go
theorem tie_rules_Right : compFn Try.prog yK Try.f15 = some A.rules_Right.strip := by kernel_rfl
theorem has_rules_Right (W0 : World) : Has (Ecx (cxOf W0)) K.rules_Right A.rules_Right := fn_sound Try.checked.mixed rfl (by exact Try.func15) (by kernel_rfl) tie_rules_Right
theorem tie_rules_token : compFn Try.prog yK Try.f28 = some A.rules_token.strip := by kernel_rfl
theorem has_rules_token (W0 : World) : Has (Ecx (cxOf W0)) K.rules_token A.rules_token := fn_sound Try.checked.mixed rfl (by exact Try.func28) (by kernel_rfl) tie_rules_token
theorem tie_rules_Right_1 : compFn Try.prog yK Try.f30 = some A.rules_Right_1.strip := by kernel_rfl
theorem has_rules_Right_1 (W0 : World) : Has (Ecx (cxOf W0)) K.rules_Right_1 A.rules_Right_1 := fn_sound Try.checked.mixed rfl (by exact Try.func30) (by kernel_rfl) tie_rules_Right_1
theorem tie_rules_Tree_fine : compFn Try.prog yK Try.f31 = some A.rules_Tree_fine.strip := by kernel_rfl
theorem has_rules_Tree_fine (W0 : World) : Has (Ecx (cxOf W0)) K.rules_Tree_fine A.rules_Tree_fine := fn_sound Try.checked.mixed rfl (by exact Try.func31) (by kernel_rfl) tie_rules_Tree_fine
theorem tie_rules_Tree_fine_1 : compFn Try.prog yK Try.f54 = some A.rules_Tree_fine_1.strip := by kernel_rfl
theorem has_rules_Tree_fine_1 (W0 : World) : Has (Ecx (cxOf W0)) K.rules_Tree_fine_1 A.rules_Tree_fine_1 := fn_sound Try.checked.mixed rfl (by exact Try.func54) (by kernel_rfl) tie_rules_Tree_fine_1
end Go.Proofs.Ytmobijebjkjnoaa.Al
namespace Go.Proofs.Ytmobijebjkjnoaa.Al
open Go
theorem tie_scan_Scan : compFn Try.prog yK Try.f52 = some A.scan_Scan.strip := by kernel_rfl
theorem has_scan_Scan (W0 : World) : Has (Ecx (cxOf W0)) K.scan_Scan A.scan_Scan := fn_sound Try.checked.mixed rfl (by exact Try.func52) (by kernel_rfl) tie_scan_Scan
theorem tie_scan_first : compFn Try.prog yK Try.f64 = some A.scan_first.strip := by kernel_rfl
theorem has_scan_first (W0 : World) : Has (Ecx (cxOf W0)) K.scan_first A.scan_first := fn_sound Try.checked.mixed rfl (by exact Try.func64) (by kernel_rfl) tie_scan_first
theorem tie_scan_letter : compFn Try.prog yK Try.f68 = some A.scan_letter.strip := by kernel_rfl
theorem has_scan_letter (W0 : World) : Has (Ecx (cxOf W0)) K.scan_letter A.scan_letter := fn_sound Try.checked.mixed rfl (by exact Try.func68) (by kernel_rfl) tie_scan_letter
theorem tie_scan_run : compFn Try.prog yK Try.f69 = some A.scan_run.strip := by kernel_rfl
theorem has_scan_run (W0 : World) : Has (Ecx (cxOf W0)) K.scan_run A.scan_run := fn_sound Try.checked.mixed rfl (by exact Try.func69) (by kernel_rfl) tie_scan_run
theorem tie_scan_part : compFn Try.prog yK Try.f70 = some A.scan_part.strip := by kernel_rfl
theorem has_scan_part (W0 : World) : Has (Ecx (cxOf W0)) K.scan_part A.scan_part := fn_sound Try.checked.mixed rfl (by exact Try.func70) (by kernel_rfl) tie_scan_part
theorem tie_scan_quoted : compFn Try.prog yK Try.f71 = some A.scan_quoted.strip := by kernel_rfl
theorem has_scan_quoted (W0 : World) : Has (Ecx (cxOf W0)) K.scan_quoted A.scan_quoted := fn_sound Try.checked.mixed rfl (by exact Try.func71) (by kernel_rfl) tie_scan_quoted
end Go.Proofs.Ytmobijebjkjnoaa.Al
namespace Go.Proofs.Ytmobijebjkjnoaa.Al
open Go
theorem tie_o_rules_Right : compFn Try.prog ({ yK with om := fun n => ([1000098] : List Nat).contains n }) Try.f15 = some A.rules_Right_o.strip := by kernel_rfl
theorem has_o_rules_Right (W0 : World) : Has (Ecx (cxOf W0)) K.rules_Right A.rules_Right_o := fn_sound (Y := ({ yK with om := fun n => ([1000098] : List Nat).contains n })) Try.checked.mixed rfl (by exact Try.func15) (by kernel_rfl) tie_o_rules_Right
end Go.Proofs.Ytmobijebjkjnoaa.Al
namespace Go.Proofs.Ytmobijebjkjnoaa.Al
open Go Go.RowKit
theorem ext_indexByte (W : World) (s : Str) (c : Int) (h : AH) (Q : V → AH → Prop) (hQ : Q (.int .i64 (idxB s c)) h) : Ecx (cxOf W) K.bytealg_IndexByteString [.str s, .int .u8 c] h Q :=
  indexByte_ext (X := cxOf W) (fn := Try.f76) (by exact Try.func76) (by kernel_rfl) (by kernel_rfl) (by kernel_rfl) (by kernel_rfl) s c hQ
theorem ls (W : World) : LS (cxOf W) := ⟨has_scan_letter W, has_scan_part W, has_scan_quoted W, has_scan_run W, has_scan_first W, has_scan_Scan W, has_strings_Cut W, has_strings_IndexByte W, has_stringslite_Cut W, has_stringslite_IndexByte W, has_stringslite_Index W, ext_indexByte W⟩
theorem lru (W : World) : LRu (cxOf W) := ⟨ls W, has_rules_token W, has_rules_Tree_fine W, has_rules_Tree_fine_1 W, has_rules_Right W, has_rules_Right_1 W, has_slices_ContainsFunc_Rule W, has_slices_IndexFunc_Rule W, has_slices_Contains_byte W, has_slices_Index_byte W, has_slices_Equal_int W⟩
theorem lgr8 (W : World) : LGr (cxOf W) := ⟨has_gram_there W, has_gram_fits W, has_gram_fits_1 W, has_gram_Right W, has_gram_Right_1 W, has_slices_ContainsFunc_Prod W, has_slices_ContainsFunc_Sym W, has_slices_IndexFunc_Prod W, has_slices_IndexFunc_Sym W⟩
theorem llo (W : World) : LLo (cxOf W) := ⟨lru W, has_o_rules_Right W, has_lower_lowerer_term W, has_lower_lowerer_alone W, has_lower_lowerer_number W, has_lower_lowerer_symbol W, has_lower_all W, has_lower_lowerer_lay W, has_lower_lowerer_node W, has_lower_Lower W, lgr8 W⟩
theorem arg_node {u : V} (a : Arg Try.prog 58 u) : ∃ x : Nd, u = ndV x ∧ (x.name.length ≤ maxLen ∧ x.kids.length ≤ maxLen) := by
  obtain ⟨l, rfl, t⟩ := arg_struct Try.underlying58 a
  obtain ⟨a0, r, rfl, y0, t⟩ := tys_cons t
  obtain ⟨a1, r, rfl, y1, t⟩ := tys_cons t
  obtain ⟨a2, r, rfl, y2, t⟩ := tys_cons t
  obtain rfl := tys_nil t
  obtain ⟨n, rfl, _, _⟩ := ty_i64 (by kernel_rfl) y0
  obtain ⟨s, rfl, hs⟩ := ty_str (by kernel_rfl) y1
  obtain ⟨m, rfl, hm, hl⟩ := ty_sl (e := 3) (by kernel_rfl) y2
  obtain ⟨l, rfl, _⟩ := list_form (f := .int .i64) (p := fun _ => True) (fun v hv => by obtain ⟨n, e, _, h2⟩ := arg_i64 Try.underlying3 hv; exact ⟨n, e, trivial⟩) m hl
  rw [show Try.prog.cellsOf 3 = 1 by kernel_rfl]
  exact ⟨⟨n, s, l⟩, rfl, hs, by simpa using hm⟩
theorem arg_rule {u : V} (a : Arg Try.prog 56 u) : ∃ x : Rl, u = rlV x ∧ x.name.length ≤ maxLen := by
  obtain ⟨l, rfl, t⟩ := arg_struct Try.underlying56 a
  obtain ⟨a0, r, rfl, y0, t⟩ := tys_cons t
  obtain ⟨a1, r, rfl, y1, t⟩ := tys_cons t
  obtain rfl := tys_nil t
  obtain ⟨s, rfl, hs⟩ := ty_str (by kernel_rfl) y0
  obtain ⟨n, rfl, _, _⟩ := ty_i64 (by kernel_rfl) y1
  exact ⟨⟨s, n⟩, rfl, hs⟩
theorem arg_tree {u : V} (a : Arg Try.prog 25 u) : ∃ t : Te, u = teV t ∧ TeOk t := by
  obtain ⟨l, rfl, t⟩ := arg_struct Try.underlying25 a
  obtain ⟨a0, r, rfl, y0, t⟩ := tys_cons t
  obtain ⟨a1, r, rfl, y1, t⟩ := tys_cons t
  obtain rfl := tys_nil t
  obtain ⟨m, rfl, hm, hl⟩ := ty_sl (e := 56) (by kernel_rfl) y0
  obtain ⟨rs, rfl, hr⟩ := list_form (f := rlV) (fun v hv => arg_rule hv) m hl
  obtain ⟨m2, rfl, hm2, hl2⟩ := ty_sl (e := 58) (by kernel_rfl) y1
  obtain ⟨ns, rfl, hn⟩ := list_form (f := ndV) (fun v hv => arg_node hv) m2 hl2
  rw [show Try.prog.cellsOf 56 = 2 by kernel_rfl, show Try.prog.cellsOf 58 = 3 by kernel_rfl]
  exact ⟨⟨rs, ns⟩, rfl, ⟨by simpa using hm, by simpa using hm2, hr, fun n h => (hn n h).1, fun n h => (hn n h).2⟩⟩
end Go.Proofs.Ytmobijebjkjnoaa.Al
namespace Go.Proofs.Ytmobijebjkjnoaa.Al
open Go Go.RowKit
theorem lsr (W : World) : LSR (cxOf W) := ⟨has_probateref05_letter W, has_probateref05_part W, has_probateref05_Scan W⟩
theorem lr6 (W : World) : LR6 (cxOf W) := ⟨lsr W, has_probateref06_under W, has_probateref06_Right W, has_probateref06_Tree_fine W, has_probateref06_Tree_rule W, has_probateref06_quote W⟩
theorem lr8 (W : World) : LR8 (cxOf W) := ⟨has_probateref08_Terms W, has_probateref08_place W, has_probateref08_rule W, has_probateref08_own W, has_probateref08_symbol W, has_probateref08_symbols W⟩
theorem lrl (W : World) : LRL (cxOf W) := ⟨lr8 W, lr6 W, has_probateref08_prods W, has_probateref08_Lower W, has_probateref03_Right W⟩
theorem l08 (W : World) : L08 (cxOf W) := ⟨llo W, lrl W, has_probatelaw06_Large W, has_probatelaw06_Own W, has_probateref03_Same W, has_probatelaw08_names W, has_probatelaw08_awake W⟩
end Go.Proofs.Ytmobijebjkjnoaa.Al
namespace Go.Proofs.Ytmobijebjkjnoaa.Al
open Go Go.RowKit
set_option linter.unusedSimpArgs false
set_option linter.unusedVariables false
/-- Lefts go on by one at most. -/
def stepsL : Int → List Pr → Option Int
  | last, [] => some last
  | last, p :: ps => if p.left < last ∨ last + 1 < p.left then none else stepsL p.left ps
theorem stepsL_app : ∀ (ps qs : List Pr) (last b : Int), stepsL last ps = some b → stepsL last (ps ++ qs) = stepsL b qs
  | [], qs, last, b, h => by simp [stepsL] at h; subst h; rfl
  | p :: ps, qs, last, b, h => by
    have e : stepsL last (p :: ps ++ qs) = if p.left < last ∨ last + 1 < p.left then none else stepsL p.left (ps ++ qs) := rfl
    rw [e]
    unfold stepsL at h
    split
    · rename_i c; rw [if_pos c] at h; cases h
    · rename_i c; rw [if_neg c] at h; exact stepsL_app ps qs _ b h
theorem stepsL_all : ∀ (ps : List Pr) (last L : Int), (∀ p ∈ ps, p.left = L) → ps ≠ [] → last ≤ L → L ≤ last + 1 → stepsL last ps = some L
  | [], _, _, _, h, _, _ => absurd rfl h
  | [p], last, L, h, _, h1, h2 => by
    have := h p (by simp)
    unfold stepsL; rw [if_neg (by omega), this]; rfl
  | p :: q :: ps, last, L, h, _, h1, h2 => by
    have := h p (by simp)
    unfold stepsL
    rw [if_neg (by omega), this]
    exact stepsL_all (q :: ps) L L (fun x hx => h x (by simp [hx])) (by simp) (by omega) (by omega)
theorem prodsT_left (t : Te) (n : Nat) (left : Int) : ∀ p ∈ prodsT t n left, p.left = left := by
  unfold prodsT
  split
  · rename_i x hx
    repeat' split
    all_goals first
      | (intro p hp; simp at hp; rcases hp with rfl | rfl <;> rfl)
      | (intro p hp; simp at hp; rw [hp])
      | (intro p hp
         obtain ⟨k, _, rfl⟩ := List.mem_map.1 hp
         unfold altP
         split
         · split <;> rfl
         · rfl)
  · simp
theorem prodsT_ne {t : Te} (rt : RTe t) {n : Nat} (hn : n < t.nodes.length) (left : Int) : prodsT t n left ≠ [] := by
  unfold prodsT
  rw [List.getElem?_eq_getElem hn]
  have hk := fineT_kind (rt.fine _ (List.getElem_mem hn))
  simp only
  repeat' split
  all_goals first
    | simp; done
    | (intro e
       have := congrArg List.length e
       simp at this
       have h0 : t.nodes[n].kids.length = 0 := by rw [this]; rfl
       omega)
theorem steps_lowA {t : Te} (rt : RTe t) : ∀ k, k < t.rules.length → stepsL 0 (lowA t (k + 1)) = some (k : Int)
  | 0, h => by
    rw [lowA_succ]
    simp only [lowA, List.range_zero, List.flatMap_nil, List.nil_append]
    have hb := rt.body (List.getElem_mem h)
    have hg : t.rules.getD 0 ⟨[], 0⟩ = t.rules[0] := by simp [List.getD_eq_getElem?_getD, h]
    rw [hg]
    exact stepsL_all _ _ _ (prodsT_left t _ _) (prodsT_ne rt (by omega) _) (by omega) (by omega)
  | k + 1, h => by
    rw [lowA_succ, stepsL_app _ _ _ _ (steps_lowA rt k (by omega))]
    have hb := rt.body (List.getElem_mem h)
    have hg : t.rules.getD (k + 1) ⟨[], 0⟩ = t.rules[k + 1] := by simp [List.getD_eq_getElem?_getD, h]
    rw [hg]
    exact stepsL_all _ _ _ (prodsT_left t _ _) (prodsT_ne rt (by omega) _) (by omega) (by omega)
theorem steps_lowB {t : Te} (rt : RTe t) : ∀ k, k ≤ t.nodes.length → stepsL 0 (lowA t t.rules.length ++ lowB t k) = some ((t.rules.length + cntN t k : Nat) - 1 : Int)
  | 0, h => by
    have h0 := rt.r0
    have := steps_lowA rt (t.rules.length - 1) (by omega)
    rw [show t.rules.length - 1 + 1 = t.rules.length by omega] at this
    simp only [lowB, List.range_zero, List.flatMap_nil, List.append_nil, this, cntN, List.countP_nil]
    congr 1; omega
  | k + 1, h => by
    rw [lowB_succ, cntN_succ]
    have ih := steps_lowB rt k (by omega)
    cases hh : hasN t k with
    | false => simpa [hh] using ih
    | true =>
      rw [if_pos rfl, if_pos rfl, ← List.append_assoc, stepsL_app _ _ _ _ ih]
      have how : ownN t k = ((t.rules.length + cntN t k : Nat) : Int) := by unfold ownN; rw [hh]; rfl
      have h0 := rt.r0
      rw [stepsL_all _ _ (ownN t k) (prodsT_left t _ _) (prodsT_ne rt (by omega) _) (by rw [how]; omega) (by rw [how]; omega), how]
      congr 1; omega
theorem steps_low {t : Te} (rt : RTe t) : stepsL 0 (lowP t) = some ((t.rules.length + cntN t t.nodes.length : Nat) - 1 : Int) := steps_lowB rt t.nodes.length (Nat.le_refl _)
/-- A node lies below a rule's body, or is one. -/
theorem RTe.where {t : Te} (rt : RTe t) {m : Nat} (hm : m < t.nodes.length) : (∃ i, ∃ h : i < t.rules.length, t.rules[i].body = m) ∨ ∃ n, ∃ h : n < t.nodes.length, (m : Int) ∈ t.nodes[n].kids := by
  have : (m : Int) ∈ iotaI t.nodes.length := by unfold iotaI; exact List.mem_map.2 ⟨m, by simpa using hm, rfl⟩
  rcases List.mem_append.1 (rt.perm.mem_iff.2 this) with h | h
  · obtain ⟨x, hx, hk⟩ := List.mem_flatMap.1 h
    obtain ⟨n, hn, rfl⟩ := List.getElem_of_mem hx
    exact .inr ⟨n, hn, hk⟩
  · obtain ⟨r, hr, he⟩ := List.mem_map.1 h
    obtain ⟨i, hi, rfl⟩ := List.getElem_of_mem hr
    exact .inl ⟨i, hi, he⟩
theorem in_lowA {t : Te} {i : Nat} (hi : i < t.rules.length) {n : Nat} (hb : t.rules[i].body = n) {p : Pr} (hp : p ∈ prodsT t n i) : p ∈ lowP t := by
  unfold lowP lowA
  refine List.mem_append.2 (.inl (List.mem_flatMap.2 ⟨i, by simpa using hi, ?_⟩))
  have hg : t.rules.getD i ⟨[], 0⟩ = t.rules[i] := by simp [List.getD_eq_getElem?_getD, hi]
  rw [hg, hb, Int.toNat_natCast]; exact hp
theorem in_lowB {t : Te} {n : Nat} (hn : n < t.nodes.length) (hh : hasN t n = true) {p : Pr} (hp : p ∈ prodsT t n (ownN t n)) : p ∈ lowP t := by
  unfold lowP lowB
  refine List.mem_append.2 (.inr (List.mem_flatMap.2 ⟨n, by simpa using hn, ?_⟩))
  rw [if_pos hh]; exact hp
/-- A node's productions are there, but for a Seq of an Alt. -/
theorem there_low {t : Te} (rt : RTe t) {n : Nat} (hn : n < t.nodes.length) (h5 : t.nodes[n].kind ≤ 5) : (∃ left, ∀ p ∈ prodsT t n left, p ∈ lowP t) ∨ (t.nodes[n].kind = 1 ∧ ∃ q, ∃ h : q < t.nodes.length, t.nodes[q].kind = 2 ∧ (n : Int) ∈ t.nodes[q].kids) := by
  cases hh : hasN t n with
  | true => exact .inl ⟨_, fun p hp => in_lowB hn hh hp⟩
  | false =>
    unfold hasN at hh
    rw [List.getElem?_eq_getElem hn] at hh
    simp only [decide_eq_true h5, Bool.true_and, Bool.and_eq_false_iff] at hh
    rcases hh with hh | hh
    · rw [List.all_eq_false] at hh
      obtain ⟨r, hr, he⟩ := hh
      obtain ⟨i, hi, rfl⟩ := List.getElem_of_mem hr
      simp at he
      exact .inl ⟨i, fun p hp => in_lowA hi he hp⟩
    · simp only [Bool.not_eq_false', List.any_eq_true] at hh
      obtain ⟨y, hy, hk⟩ := hh
      unfold kidT at hk
      rw [List.any_eq_true] at hk
      obtain ⟨m, hm, he⟩ := hk
      simp at he
      obtain ⟨q, hq, rfl⟩ := List.getElem_of_mem hy
      exact .inr ⟨he.2, q, hq, he.1.1, by rw [← he.1.2]; exact hm⟩
/-- A kid's symbol is said somewhere. -/
theorem sym_said {t : Te} (rt : RTe t) {n m : Nat} (hn : n < t.nodes.length) (hm : m < t.nodes.length) (hk : (m : Int) ∈ t.nodes[n].kids) (hc : ¬ (t.nodes[n].kind = 2 ∧ t.nodes[m].kind = 1)) : ∃ p ∈ lowP t, symT t m ∈ p.right := by
  have hkd := fineT_kind (rt.fine _ (List.getElem_mem hn))
  have h5 : t.nodes[n].kind ≤ 5 := by
    rcases hkd with h | h | h | h | h
    · omega
    · omega
    · omega
    · rw [h.2.1] at hk; simp at hk
    · rw [h.2] at hk; simp at hk
  have one : ∀ left, ∃ p ∈ prodsT t n left, symT t m ∈ p.right := fun left => by
    unfold prodsT
    rw [List.getElem?_eq_getElem hn]
    simp only
    rw [if_neg (by omega)]
    have hsy : symT t m ∈ symsT t t.nodes[n].kids := List.mem_map.2 ⟨m, hk, by rw [Int.toNat_natCast]⟩
    by_cases k1 : t.nodes[n].kind = 1
    · rw [if_pos k1]; exact ⟨_, List.mem_singleton.2 rfl, hsy⟩
    rw [if_neg k1]
    by_cases k2 : t.nodes[n].kind = 2
    · rw [if_pos k2]
      refine ⟨_, List.mem_map.2 ⟨m, hk, rfl⟩, ?_⟩
      unfold altP
      rw [Int.toNat_natCast, List.getElem?_eq_getElem hm]
      simp only
      rw [if_neg (fun e => hc ⟨k2, e⟩)]; simp
    rw [if_neg k2]
    have hl : t.nodes[n].kids.length = 1 := by omega
    have hh : t.nodes[n].kids.headD 0 = (m : Int) := by
      match hx : t.nodes[n].kids, hl with
      | [c], _ => rw [hx] at hk; simp at hk; simp [hk]
    rw [hh, Int.toNat_natCast]
    repeat' split
    all_goals exact ⟨_, List.mem_cons_self .., by simp⟩
  rcases there_low rt hn h5 with ⟨left, hl⟩ | ⟨k1, q, hq, k2, hqk⟩
  · obtain ⟨p, hp, hs⟩ := one left
    exact ⟨p, hl p hp, hs⟩
  · have hs : symT t m ∈ symsT t t.nodes[n].kids := List.mem_map.2 ⟨m, hk, by rw [Int.toNat_natCast]⟩
    rcases there_low rt hq (by omega) with ⟨left, hl⟩ | ⟨k, _⟩
    · refine ⟨altP t left n, hl _ ?_, ?_⟩
      · unfold prodsT
        rw [List.getElem?_eq_getElem hq]
        simp only
        rw [if_neg (by omega), if_neg (by omega), if_pos k2]
        exact List.mem_map.2 ⟨n, hqk, rfl⟩
      · unfold altP
        rw [Int.toNat_natCast, List.getElem?_eq_getElem hn]
        simp only
        rw [if_pos k1]; exact hs
    · omega
theorem termsF_from {s : Str} : ∀ (l : List Nd) (out : List Str), s ∈ termsF l out → s ∈ out ∨ ∃ n ∈ l, n.kind = 7 ∧ n.name = s
  | [], out, h => .inl h
  | n :: l, out, h => by
    unfold termsF at h
    rcases termsF_from l _ h with h | ⟨x, hx, h⟩
    · split at h
      · rename_i c
        rcases List.mem_append.1 h with h | h
        · exact .inl h
        · exact .inr ⟨n, by simp, c.1, (List.mem_singleton.1 h).symm⟩
      · exact .inl h
    · exact .inr ⟨x, by simp [hx], h⟩
theorem termsF_nodup : ∀ (l : List Nd) (out : List Str), out.Nodup → (termsF l out).Nodup
  | [], out, h => h
  | n :: l, out, h => by
    unfold termsF
    refine termsF_nodup l _ ?_
    split
    · rename_i c
      rw [List.nodup_append]
      refine ⟨h, by simp, fun a ha b hb e => ?_⟩
      simp at hb
      subst e; subst hb
      exact fndS_none.1 ((plc_neg _ _).1 c.2) ha
    · exact h
theorem terms_nodup (t : Te) : (termsT t).Nodup := termsF_nodup _ _ (by simp)
theorem fndS_at {s : Str} : ∀ {l : List Str} {j : Nat}, l.Nodup → l[j]? = some s → fndS s l = some j
  | [], j, _, h => by simp at h
  | a :: l, 0, _, h => by simp at h; unfold fndS; rw [if_pos h.symm]
  | a :: l, j + 1, hn, h => by
    simp at h
    unfold fndS
    have hm : s ∈ l := List.mem_of_getElem? h
    rw [if_neg (fun e => by subst e; exact (List.nodup_cons.1 hn).1 hm), fndS_at (List.nodup_cons.1 hn).2 h]; rfl
/-- Each terminal is said. -/
theorem term_said {t : Te} (rt : RTe t) {j : Nat} (hj : j < (termsT t).length) : ∃ p ∈ lowP t, (⟨false, (j : Int)⟩ : Sy) ∈ p.right := by
  have hmem : (termsT t)[j] ∈ termsT t := List.getElem_mem hj
  rcases termsF_from _ _ hmem with h | ⟨x, hx, h7, hnm⟩
  · simp at h
  · obtain ⟨m, hm, rfl⟩ := List.getElem_of_mem hx
    have hsy : symT t m = ⟨false, (j : Int)⟩ := by
      unfold symT
      rw [List.getElem?_eq_getElem hm]
      simp only
      rw [if_pos h7, plc_fnd, hnm, fndS_at (terms_nodup t) (List.getElem?_eq_getElem hj)]
      simp
    rw [← hsy]
    rcases rt.where hm with ⟨i, hi, hb⟩ | ⟨n, hn, hk⟩
    · refine ⟨⟨i, [symT t m]⟩, in_lowA hi hb ?_, by simp⟩
      unfold prodsT
      rw [List.getElem?_eq_getElem hm]
      simp only
      rw [if_pos (by omega)]; simp
    · exact sym_said rt hn hm hk (fun e => by omega)
/-- How often terminals are said. -/
def bumpS (u : List Int) (s : Sy) : List Int := if s.non then u else u.set s.n.toNat (u.getD s.n.toNat 0 + 1)
def bumpsS (u : List Int) (ss : List Sy) : List Int := ss.foldl bumpS u
@[simp] theorem bumpS_len (u : List Int) (s : Sy) : (bumpS u s).length = u.length := by unfold bumpS; split <;> simp
theorem bumpS_ge (u : List Int) (s : Sy) (j : Nat) : u.getD j 0 ≤ (bumpS u s).getD j 0 := by
  unfold bumpS
  split
  · exact Int.le_refl _
  · simp only [List.getD_eq_getElem?_getD, List.getElem?_set]
    split
    · rename_i c
      rw [c]
      split
      · simp; omega
      · rename_i h; rw [List.getElem?_eq_none (by omega)]; simp
    · exact Int.le_refl _
theorem bumpsS_ge : ∀ (ss : List Sy) (u : List Int) (j : Nat), u.getD j 0 ≤ (bumpsS u ss).getD j 0
  | [], u, j => Int.le_refl _
  | s :: ss, u, j => Int.le_trans (bumpS_ge u s j) (bumpsS_ge ss (bumpS u s) j)
theorem bumpsS_len : ∀ (ss : List Sy) (u : List Int), (bumpsS u ss).length = u.length
  | [], u => rfl
  | s :: ss, u => by unfold bumpsS; rw [List.foldl_cons]; have := bumpsS_len ss (bumpS u s); unfold bumpsS at this; rw [this]; simp
theorem bumpsS_pos : ∀ (ss : List Sy) (u : List Int) (j : Nat), (∀ i, 0 ≤ u.getD i 0) → j < u.length → (⟨false, (j : Int)⟩ : Sy) ∈ ss → 0 < (bumpsS u ss).getD j 0
  | s :: ss, u, j, h0, hj, hm => by
    have hs : ∀ i, 0 ≤ (bumpS u s).getD i 0 := fun i => Int.le_trans (h0 i) (bumpS_ge u s i)
    unfold bumpsS
    rw [List.foldl_cons]
    rcases List.mem_cons.1 hm with rfl | hm
    · refine Int.lt_of_lt_of_le ?_ (bumpsS_ge ss _ j)
      have := h0 j
      unfold bumpS
      simp only [Bool.false_eq_true, if_false, Int.toNat_natCast, List.getD_eq_getElem?_getD, List.getElem?_set_self hj, Option.getD_some] at this ⊢
      omega
    · have := bumpsS_pos ss (bumpS u s) j hs (by simpa using hj) hm
      unfold bumpsS at this; exact this
theorem bumpS_le {u : List Int} {c : Int} (h : ∀ i, 0 ≤ u.getD i 0 ∧ u.getD i 0 ≤ c) (s : Sy) : ∀ i, 0 ≤ (bumpS u s).getD i 0 ∧ (bumpS u s).getD i 0 ≤ c + 1 := fun i => by
  refine ⟨Int.le_trans (h i).1 (bumpS_ge u s i), ?_⟩
  have h1 := h i
  have h2 := h s.n.toNat
  unfold bumpS
  split
  · omega
  · simp only [List.getD_eq_getElem?_getD, List.getElem?_set] at h1 h2 ⊢
    split
    · split
      · simp; omega
      · simp; omega
    · omega
end Go.Proofs.Ytmobijebjkjnoaa.Al
namespace Go.Proofs.Ytmobijebjkjnoaa.Al
def A.probatelaw08_LowerShape_o.L1 : AC := .post (.seq (.reg [⟨(some 95), none, .bin .lss (.t 94) (.t 93)⟩])
  (.keep [3, 4, 6, 7, 72, 73, 74, 92, 93, 94, 95] (.seq (.cond (.t 95) .skip (.exit 2))
  (.keep [3, 4, 6, 7, 72, 73, 74, 92, 93, 94] (.seq (.block 3 (.seq (.reg [⟨(some 96), none, .ia 2 (.t 92) (.t 94)⟩, ⟨(some 97), none, .load true 2 (.t 96)⟩, ⟨(some 11), none, .alloc [(.bool false), (.int .i64 (0))]⟩, ⟨none, none, .store 2 (.t 11) (.t 97)⟩])
  (.keep [3, 4, 6, 7, 11, 72, 73, 74, 92, 93, 94] (.seq (.reg [⟨(some 98), none, .fa 0 (.t 11)⟩, ⟨(some 99), none, .load false 1 (.t 98)⟩, ⟨(some 100), none, .un .not (.t 99)⟩])
  (.keep [3, 4, 6, 7, 11, 72, 73, 74, 92, 93, 94, 100] (.cond (.t 100) (.reg [⟨(some 101), none, .mv (.t 6)⟩, ⟨(some 102), none, .fa 1 (.t 11)⟩, ⟨(some 103), none, .load false 1 (.t 102)⟩, ⟨(some 104), none, .ia 1 (.t 101) (.t 103)⟩, ⟨(some 105), none, .load false 1 (.t 104)⟩, ⟨(some 106), none, .bin .add (.t 105) (.c (.int .i64 (1)))⟩, ⟨(some 107), none, .ia 1 (.t 101) (.t 103)⟩, ⟨none, none, .store 1 (.t 107) (.t 106)⟩]) .skip))))))
  (.keep [3, 4, 6, 7, 72, 73, 74, 92, 93, 94] (.reg [⟨(some 108), none, .bin .add (.t 94) (.c (.int .i64 (1)))⟩, ⟨(some 94), none, .mv (.t 108)⟩]))))))) [3, 4, 6, 7, 72, 73, 74, 92, 93, 94]
def A.probatelaw08_LowerShape_o.L0 : AC := .post (.seq (.reg [⟨(some 75), none, .bin .lss (.t 74) (.t 73)⟩])
  (.keep [3, 4, 6, 7, 72, 73, 74, 75] (.seq (.cond (.t 75) .skip (.exit 0))
  (.keep [3, 4, 6, 7, 72, 73, 74] (.seq (.block 1 (.seq (.reg [⟨(some 76), none, .ia 2 (.t 72) (.t 74)⟩, ⟨(some 77), none, .load true 2 (.t 76)⟩, ⟨(some 9), none, .alloc [(.int .i64 (0)), (.sl 0 1 [])]⟩, ⟨none, none, .store 2 (.t 9) (.t 77)⟩])
  (.keep [3, 4, 6, 7, 9, 72, 73, 74] (.seq (.seq (.reg [⟨(some 78), none, .fa 0 (.t 9)⟩, ⟨(some 79), none, .load false 1 (.t 78)⟩, ⟨(some 80), none, .mv (.t 7)⟩, ⟨(some 81), none, .bin .lss (.t 79) (.t 80)⟩, ⟨(some 82), none, .mv (.t 81)⟩, ⟨(some 83), (some (82, false)), .fa 0 (.t 9)⟩, ⟨(some 84), (some (82, false)), .load false 1 (.t 83)⟩, ⟨(some 85), (some (82, false)), .mv (.t 7)⟩, ⟨(some 86), (some (82, false)), .bin .add (.t 85) (.c (.int .i64 (1)))⟩, ⟨(some 87), (some (82, false)), .bin .gtr (.t 84) (.t 86)⟩, ⟨(some 88), none, .pick (.t 82) (.c (.bool true)) (.t 87)⟩])
  (.keep [3, 4, 6, 9, 72, 73, 74, 88] (.cond (.t 88) (.seq (.reg [⟨(some 2), none, .mv (.c (.bool false))⟩]) .ret) .skip)))
  (.keep [3, 4, 6, 9, 72, 73, 74] (.seq (.reg [⟨(some 89), none, .fa 0 (.t 9)⟩, ⟨(some 90), none, .load false 1 (.t 89)⟩, ⟨(some 7), none, .mv (.t 90)⟩])
  (.keep [3, 4, 6, 7, 9, 72, 73, 74] (.seq (.reg [⟨(some 91), none, .fa 1 (.t 9)⟩, ⟨(some 92), none, .load false 1 (.t 91)⟩, ⟨(some 93), none, .len false (.t 92)⟩, ⟨(some 94), none, .mv (.c (.int .i64 (0)))⟩])
  (.keep [3, 4, 6, 7, 72, 73, 74, 92, 93, 94] (.block 2 (.loop A.probatelaw08_LowerShape_o.L1)))))))))))
  (.keep [3, 4, 6, 7, 72, 73, 74] (.reg [⟨(some 109), none, .bin .add (.t 74) (.c (.int .i64 (1)))⟩, ⟨(some 74), none, .mv (.t 109)⟩]))))))) [3, 4, 6, 7, 72, 73, 74]
def A.probatelaw08_LowerShape_o.L3 : AC := .post (.seq (.reg [⟨(some 124), none, .bin .lss (.t 123) (.t 122)⟩])
  (.keep [3, 4, 7, 12, 110, 111, 112, 121, 122, 123, 124] (.seq (.cond (.t 124) .skip (.exit 6))
  (.keep [3, 4, 7, 12, 110, 111, 112, 121, 122, 123] (.seq (.block 7 (.seq (.reg [⟨(some 125), none, .ia 1 (.t 121) (.t 123)⟩, ⟨(some 126), none, .load false 1 (.t 125)⟩, ⟨(some 15), none, .mv (.t 126)⟩])
  (.keep [3, 4, 7, 12, 15, 110, 111, 112, 121, 122, 123] (.seq (.reg [⟨(some 127), none, .mv (.t 15)⟩, ⟨(some 128), none, .mv (.t 4)⟩, ⟨(some 129), none, .mv (.t 12)⟩, ⟨(some 130), none, .ia 1 (.t 128) (.t 129)⟩, ⟨(some 131), none, .load false 1 (.t 130)⟩, ⟨(some 132), none, .bin .eql (.t 127) (.t 131)⟩])
  (.keep [3, 4, 7, 12, 110, 111, 112, 121, 122, 123, 132] (.cond (.t 132) (.seq (.reg [⟨(some 2), none, .mv (.c (.bool false))⟩]) .ret) .skip))))))
  (.keep [3, 4, 7, 12, 110, 111, 112, 121, 122, 123] (.reg [⟨(some 133), none, .bin .add (.t 123) (.c (.int .i64 (1)))⟩, ⟨(some 123), none, .mv (.t 133)⟩]))))))) [3, 4, 7, 12, 110, 111, 112, 121, 122, 123]
def A.probatelaw08_LowerShape_o.L2 : AC := .post (.seq (.reg [⟨(some 113), none, .bin .lss (.t 112) (.t 111)⟩])
  (.keep [3, 4, 7, 110, 111, 112, 113] (.seq (.cond (.t 113) .skip (.exit 4))
  (.keep [3, 4, 7, 110, 111, 112] (.seq (.block 5 (.seq (.reg [⟨(some 114), none, .mv (.t 112)⟩, ⟨(some 115), none, .ia 1 (.t 110) (.t 112)⟩, ⟨(some 116), none, .load false 1 (.t 115)⟩, ⟨(some 12), none, .mv (.t 114)⟩, ⟨(some 13), none, .mv (.t 116)⟩])
  (.keep [3, 4, 7, 12, 13, 110, 111, 112] (.seq (.seq (.reg [⟨(some 117), none, .mv (.t 13)⟩, ⟨(some 118), none, .bin .eql (.t 117) (.c (.int .i64 (0)))⟩])
  (.keep [3, 4, 7, 12, 110, 111, 112, 118] (.cond (.t 118) (.seq (.reg [⟨(some 2), none, .mv (.c (.bool false))⟩]) .ret) .skip)))
  (.keep [3, 4, 7, 12, 110, 111, 112] (.seq (.reg [⟨(some 119), none, .mv (.t 4)⟩, ⟨(some 120), none, .mv (.t 12)⟩, ⟨(some 121), none, .slc 1 (.t 119) none (some (.t 120))⟩, ⟨(some 122), none, .len false (.t 121)⟩, ⟨(some 123), none, .mv (.c (.int .i64 (0)))⟩])
  (.keep [3, 4, 7, 12, 110, 111, 112, 121, 122, 123] (.block 6 (.loop A.probatelaw08_LowerShape_o.L3)))))))))
  (.keep [3, 4, 7, 110, 111, 112] (.reg [⟨(some 134), none, .bin .add (.t 112) (.c (.int .i64 (1)))⟩, ⟨(some 112), none, .mv (.t 134)⟩]))))))) [3, 4, 7, 110, 111, 112]
def A.probatelaw08_LowerShape_o : AFn := ⟨146, [(2, none)], (.seq (.reg [⟨(some 1), none, .box (.t 0)⟩, ⟨(some 2), none, .mv (.c (.bool false))⟩])
  (.keep [1] (.seq (.seq (.reg [⟨(some 16), none, .call (.c (.fn K.probatelaw08_awake [] [])) []⟩, ⟨(some 17), none, .un .not (.t 16)⟩])
  (.keep [1, 17] (.cond (.t 17) (.seq (.reg [⟨(some 2), none, .mv (.c (.bool false))⟩]) .ret) .skip)))
  (.keep [1] (.seq (.seq (.reg [⟨(some 18), none, .load true 2 (.t 1)⟩, ⟨(some 19), none, .call (.c (.fn K.probatelaw06_Large [] [])) [(.t 18)]⟩])
  (.keep [1, 19] (.cond (.t 19) (.seq (.reg [⟨(some 2), none, .mv (.c (.bool true))⟩]) .ret) .skip)))
  (.keep [1] (.seq (.reg [⟨(some 21), none, .load true 2 (.t 1)⟩, ⟨(some 22), none, .call (.c (.fn K.lower_Lower [] [])) [(.t 21)]⟩, ⟨(some 20), none, .mv (.t 22)⟩, ⟨(some 23), none, .ext (.t 20) 0⟩, ⟨(some 24), none, .ext (.t 20) 1⟩, ⟨(some 25), none, .ext (.t 20) 2⟩, ⟨(some 3), none, .alloc [(.int .i64 (0)), (.int .i64 (0)), (.int .i64 (0)), (.sl 0 1 [])]⟩, ⟨none, none, .store 4 (.t 3) (.t 23)⟩, ⟨(some 4), none, .mv (.t 24)⟩, ⟨(some 5), none, .mv (.t 25)⟩])
  (.keep [1, 3, 4, 5] (.seq (.seq (.reg [⟨(some 26), none, .mv (.t 5)⟩, ⟨(some 27), none, .bin .neq (.t 26) (.c (.int .i64 (0)))⟩])
  (.keep [1, 3, 4, 5, 27] (.cond (.t 27) (.seq (.reg [⟨(some 28), none, .mv (.t 4)⟩, ⟨(some 29), none, .len false (.t 28)⟩, ⟨(some 30), none, .bin .eql (.t 29) (.c (.int .i64 (0)))⟩, ⟨(some 31), none, .mv (.t 30)⟩, ⟨(some 32), (some (31, true)), .fa 3 (.t 3)⟩, ⟨(some 33), (some (31, true)), .load false 1 (.t 32)⟩, ⟨(some 34), (some (31, true)), .len false (.t 33)⟩, ⟨(some 35), (some (31, true)), .bin .eql (.t 34) (.c (.int .i64 (0)))⟩, ⟨(some 36), none, .pick (.t 31) (.t 35) (.c (.bool false))⟩, ⟨(some 37), none, .mv (.t 36)⟩, ⟨(some 38), (some (37, true)), .mv (.t 5)⟩, ⟨(some 39), (some (37, true)), .bin .eql (.t 38) (.c (.int .i64 (1)))⟩, ⟨(some 40), (some (37, true)), .load true 2 (.t 1)⟩, ⟨(some 41), (some (37, true)), .call (.c (.fn K.rules_Right [] [])) [(.t 40)]⟩, ⟨(some 42), (some (37, true)), .un .not (.t 41)⟩, ⟨(some 43), (some (37, true)), .beq false (.t 39) (.t 42)⟩, ⟨(some 44), none, .pick (.t 37) (.t 43) (.c (.bool false))⟩, ⟨(some 2), none, .mv (.t 44)⟩]) .ret) .skip)))
  (.keep [1, 3, 4] (.seq (.seq (.reg [⟨(some 45), none, .load true 4 (.t 3)⟩, ⟨(some 46), none, .call (.c (.fn K.gram_Right [] [])) [(.t 45)]⟩, ⟨(some 47), none, .un .not (.t 46)⟩, ⟨(some 48), none, .mv (.t 47)⟩, ⟨(some 49), (some (48, false)), .fa 2 (.t 3)⟩, ⟨(some 50), (some (48, false)), .load false 1 (.t 49)⟩, ⟨(some 51), (some (48, false)), .bin .neq (.t 50) (.c (.int .i64 (0)))⟩, ⟨(some 52), none, .pick (.t 48) (.c (.bool true)) (.t 51)⟩, ⟨(some 53), none, .mv (.t 52)⟩, ⟨(some 54), (some (53, false)), .fa 0 (.t 3)⟩, ⟨(some 55), (some (53, false)), .load false 1 (.t 54)⟩, ⟨(some 56), (some (53, false)), .mv (.t 4)⟩, ⟨(some 57), (some (53, false)), .len false (.t 56)⟩, ⟨(some 58), (some (53, false)), .bin .neq (.t 55) (.t 57)⟩, ⟨(some 59), none, .pick (.t 53) (.c (.bool true)) (.t 58)⟩, ⟨(some 60), none, .mv (.t 59)⟩, ⟨(some 61), (some (60, false)), .fa 1 (.t 3)⟩, ⟨(some 62), (some (60, false)), .load false 1 (.t 61)⟩, ⟨(some 63), (some (60, false)), .fa 0 (.t 1)⟩, ⟨(some 64), (some (60, false)), .load false 1 (.t 63)⟩, ⟨(some 65), (some (60, false)), .len false (.t 64)⟩, ⟨(some 66), (some (60, false)), .bin .lss (.t 62) (.t 65)⟩, ⟨(some 67), none, .pick (.t 60) (.c (.bool true)) (.t 66)⟩])
  (.keep [3, 4, 67] (.cond (.t 67) (.seq (.reg [⟨(some 2), none, .mv (.c (.bool false))⟩]) .ret) .skip)))
  (.keep [3, 4] (.seq (.reg [⟨(some 68), none, .fa 0 (.t 3)⟩, ⟨(some 69), none, .load false 1 (.t 68)⟩, ⟨(some 70), none, .mkso 1 8 [(.int .i64 (0))] (.t 69) (.t 69)⟩, ⟨(some 6), none, .mv (.t 70)⟩])
  (.keep [3, 4, 6] (.seq (.reg [⟨(some 7), none, .mv (.c (.int .i64 (0)))⟩])
  (.keep [3, 4, 6, 7] (.seq (.seq (.reg [⟨(some 71), none, .fa 3 (.t 3)⟩, ⟨(some 72), none, .load false 1 (.t 71)⟩, ⟨(some 73), none, .len false (.t 72)⟩, ⟨(some 74), none, .mv (.c (.int .i64 (0)))⟩])
  (.keep [3, 4, 6, 7, 72, 73, 74] (.block 0 (.loop A.probatelaw08_LowerShape_o.L0))))
  (.keep [3, 4, 6, 7] (.seq (.seq (.reg [⟨(some 110), none, .mv (.t 6)⟩, ⟨(some 111), none, .len false (.t 110)⟩, ⟨(some 112), none, .mv (.c (.int .i64 (0)))⟩])
  (.keep [3, 4, 7, 110, 111, 112] (.block 4 (.loop A.probatelaw08_LowerShape_o.L2))))
  (.keep [3, 7] (.seq (.reg [⟨(some 135), none, .mv (.t 7)⟩, ⟨(some 136), none, .fa 1 (.t 3)⟩, ⟨(some 137), none, .load false 1 (.t 136)⟩, ⟨(some 138), none, .bin .sub (.t 137) (.c (.int .i64 (1)))⟩, ⟨(some 139), none, .bin .eql (.t 135) (.t 138)⟩, ⟨(some 140), none, .mv (.t 139)⟩, ⟨(some 141), (some (140, true)), .load true 4 (.t 3)⟩, ⟨(some 142), (some (140, true)), .call (.c (.fn K.gram_Of [] [])) [(.t 141), (.c (.int .i64 (0)))]⟩, ⟨(some 143), (some (140, true)), .len false (.t 142)⟩, ⟨(some 144), (some (140, true)), .bin .gtr (.t 143) (.c (.int .i64 (0)))⟩, ⟨(some 145), none, .pick (.t 140) (.t 144) (.c (.bool false))⟩, ⟨(some 2), none, .mv (.t 145)⟩]) .ret)))))))))))))))))))))⟩
end Go.Proofs.Ytmobijebjkjnoaa.Al
namespace Go.Proofs.Ytmobijebjkjnoaa.Al
open Go Go.RowKit
set_option linter.unusedSimpArgs false
set_option linter.unusedVariables false
attribute [-simp] List.getD_eq_getElem?_getD Int.not_lt Int.not_le List.map_take List.map_map
theorem repl_zero (n : Nat) : repl [.int .i64 0] n = ints (List.replicate n 0) := by
  unfold repl
  induction n with
  | zero => rfl
  | succ n ih => simp only [List.replicate_succ, cellsOf_cons, V.cells, ih, ints, List.map_cons, List.singleton_append]
theorem ints_set (l : List Int) (i : Nat) (x : Int) : (ints l).set i (.int .i64 x) = ints (l.set i x) := by simp [ints, List.map_set]
section
variable {X : Cx} {h : AH} {Q : V → AH → Prop}
/-- The symbols of a production are counted. -/
theorem shapeL1 {h0 : AH} {o3 o6 : Nat} {v4 v72 : V} {last n73 n74 : Int} {T : Nat} {u : List Int} {c : Int} (ss : List Sy) (hss : ss.length ≤ 8) (hin : ∀ s ∈ ss, s.non = false → 0 ≤ s.n ∧ s.n < T) (hu : u.length = T) (hc0 : 0 ≤ c) (hc : c ≤ 2 ^ 40) (hb : ∀ i, 0 ≤ u.getD i 0 ∧ u.getD i 0 ≤ c)
    (gr : Gr h0 h) (ho : h.objs o6 = ints u) (h06 : h0.nobj ≤ o6) (h6 : o6 < h.nobj) {Q : Ex → Env → AH → Prop} {zQ : Lz Q} {z : Lz (AC.loop A.probatelaw08_LowerShape_o.L1)}
    (hQ : ∀ h', Gr h0 h' → h.nobj ≤ h'.nobj → (∀ x, x < h.nobj → x ≠ o6 → h'.objs x = h.objs x) → h'.objs o6 = ints (bumpsS u ss) → (∀ i, 0 ≤ (bumpsS u ss).getD i 0 ∧ (bumpsS u ss).getD i 0 ≤ c + 8) →
      Q (.exit 2) [(3, .ptr o3 0), (4, v4), (6, .osl 1 o6 0 T T), (7, .int .i64 last), (72, v72), (73, .int .i64 n73), (74, .int .i64 n74), (92, .sl 2 0 (ss.map symV)), (93, .int .i64 ss.length), (94, .int .i64 ss.length), (95, .bool false)] h') :
    acZ (Ecx X) [(3, .ptr o3 0), (4, v4), (6, .osl 1 o6 0 T T), (7, .int .i64 last), (72, v72), (73, .int .i64 n73), (74, .int .i64 n74), (92, .sl 2 0 (ss.map symV)), (93, .int .i64 ss.length), (94, .int .i64 0)] h z zQ := by
  refine loopI (n := ss.length) (fun mm env h' => ∃ k, k ≤ ss.length ∧ mm = ss.length - k ∧ Gr h0 h' ∧ h.nobj ≤ h'.nobj ∧ (∀ x, x < h.nobj → x ≠ o6 → h'.objs x = h.objs x) ∧ h'.objs o6 = ints (bumpsS u (ss.take k)) ∧ (∀ i, 0 ≤ (bumpsS u (ss.take k)).getD i 0 ∧ (bumpsS u (ss.take k)).getD i 0 ≤ c + k) ∧
      env = [(3, .ptr o3 0), (4, v4), (6, .osl 1 o6 0 T T), (7, .int .i64 last), (72, v72), (73, .int .i64 n73), (74, .int .i64 n74), (92, .sl 2 0 (ss.map symV)), (93, .int .i64 ss.length), (94, .int .i64 k)]) ?_
    ⟨0, by omega, by omega, gr, Nat.le_refl _, fun _ _ _ => rfl, ho, fun i => by simpa [bumpsS] using hb i, rfl⟩
  rintro mm env h' ⟨k, hk, rfl, gr', nb, ob, o6', bd, rfl⟩
  unfold A.probatelaw08_LowerShape_o.L1
  by_cases hlt : k < ss.length
  · have hlt' : (k : Int) < ss.length := by omega
    have hg : (ss.map symV).getD k .undef = symV ss[k] := Enc.getD hlt
    have hw1 : IntKind.i64.wrap ((k : Int) + 1) = ((k + 1 : Nat) : Int) := by rw [wrap_i64 (by omega) (by omega)]; rfl
    have hsu : bumpsS u (ss.take (k + 1)) = bumpS (bumpsS u (ss.take k)) ss[k] := by
      unfold bumpsS; rw [List.take_succ_eq_append_getElem hlt, List.foldl_append]; rfl
    have hbd2 := bumpS_le bd ss[k]
    have hl : (bumpsS u (ss.take k)).length = T := by rw [bumpsS_len, hu]
    have hi := hin _ (List.getElem_mem hlt)
    generalize bumpsS u (ss.take k) = w at *
    generalize ss[k] = s at *
    have hsc : symC s = [.bool s.non, .int .i64 s.n] := rfl
    have n1 : ¬ o6 = h'.nobj := by omega
    have q0 : (h'.new (symC s)).objs h'.nobj = symC s := by simp
    have q1 : (h'.new (symC s)).objs o6 = ints w := by simp [n1, o6']
    have q2 : (h'.new (symC s)).nobj = h'.nobj + 1 := by simp
    have q3 := gr'.new (symC s)
    have q4 : ∀ x, x < h.nobj → x ≠ o6 → (h'.new (symC s)).objs x = h.objs x := fun x hx hx6 => by rw [new_objs_ne _ _ (by omega)]; exact ob x hx hx6
    simp [hlt', hg, symV, V.cells, V.good, hsc, setAt]
    rw [← hsc]
    generalize h'.new (symC s) = h2 at *
    cases hnon : s.non with
    | true =>
      have he : bumpS w s = w := by unfold bumpS; rw [hnon]; rfl
      rw [he] at hsu hbd2
      simp [q0, hsc, hnon, hw1]
      exact ⟨ss.length - (k + 1), by omega, iv ⟨k + 1, by omega, rfl, q3, by omega, q4, by rw [hsu]; exact q1, fun i => by rw [hsu]; have := hbd2 i; omega, rfl⟩⟩
    | false =>
      obtain ⟨i0, i1⟩ := hi hnon
      obtain ⟨m, hm⟩ : ∃ m : Nat, s.n = (m : Int) := ⟨s.n.toNat, by omega⟩
      have hmT : m < T := by omega
      have hmT' : (m : Int) < T := by omega
      have he : bumpS w s = w.set m (w.getD m 0 + 1) := by unfold bumpS; rw [hnon, hm]; rfl
      have hgm : (ints w).getD m .undef = .int .i64 (w.getD m 0) := by simp [ints, List.getD_eq_getElem?_getD, hl, hmT]
      have hbm := bd m
      have hw2 : IntKind.i64.wrap (w.getD m 0 + 1) = w.getD m 0 + 1 := wrap_i64 (by omega) (by omega)
      have hil : (ints w).length = T := by simp [ints, hl]
      have hset := ints_set w m (w.getD m 0 + 1)
      rw [← he, ← hsu] at hset
      simp [q0, hsc, hnon, hm, hmT', hmT, q1, hgm, hil, hw2, V.cells, V.good, setAt, hset, hw1]
      refine ⟨by omega, ?_⟩
      exact ⟨ss.length - (k + 1), by omega, iv ⟨k + 1, by omega, rfl, q3.set h06 _, by rw [set_nobj]; omega, fun x hx hx6 => by rw [set_objs_ne _ _ _ hx6]; exact q4 x hx hx6, by rw [set_objs_same], fun i => by rw [hsu]; have := hbd2 i; omega, rfl⟩⟩
  · have hlt' : ¬ (k : Int) < ss.length := by omega
    obtain rfl : k = ss.length := by omega
    rw [List.take_length] at o6' bd
    simp [hlt']
    exact hQ h' gr' nb ob o6' (fun i => by have := bd i; omega)
/-- No name is another one. -/
theorem shapeL3 {o3 : Nat} {last : Int} {v110 : V} {n111 n112 : Int} {T j : Nat} (l : List Str) (e4 s4 st : Nat) (he : e4 = 1) (hj : j < l.length) (hl : l.length ≤ 2 ^ 30) (hnd : l.Nodup) {Q : Ex → Env → AH → Prop} {zQ : Lz Q} {z : Lz (AC.loop A.probatelaw08_LowerShape_o.L3)}
    (hQ : Q (.exit 6) [(3, .ptr o3 0), (4, .sl e4 s4 (strs l)), (7, .int .i64 last), (12, .int .i64 j), (110, v110), (111, .int .i64 n111), (112, .int .i64 n112), (121, .sl 1 st (strs (l.take j))), (122, .int .i64 j), (123, .int .i64 j), (124, .bool false)] h) :
    acZ (Ecx X) [(3, .ptr o3 0), (4, .sl e4 s4 (strs l)), (7, .int .i64 last), (12, .int .i64 j), (110, v110), (111, .int .i64 n111), (112, .int .i64 n112), (121, .sl 1 st (strs (l.take j))), (122, .int .i64 j), (123, .int .i64 0)] h z zQ := by
  subst he
  refine loopI (n := j) (fun mm env h' => ∃ k, k ≤ j ∧ mm = j - k ∧ h' = h ∧ env = [(3, .ptr o3 0), (4, .sl 1 s4 (strs l)), (7, .int .i64 last), (12, .int .i64 j), (110, v110), (111, .int .i64 n111), (112, .int .i64 n112), (121, .sl 1 st (strs (l.take j))), (122, .int .i64 j), (123, .int .i64 k)]) ?_ ⟨0, by omega, by omega, rfl, rfl⟩
  rintro mm env h' ⟨k, hk, rfl, rfl, rfl⟩
  unfold A.probatelaw08_LowerShape_o.L3
  by_cases hlt : k < j
  · have hlt' : (k : Int) < j := by omega
    have hsl : (strs l).length = l.length := by simp [strs]
    have hsj : (strs (l.take j)).length = j := by simp [strs]; omega
    have hga : (strs (l.take j)).getD k .undef = .str (l[k]'(by omega)) := by simp [strs, List.getD_eq_getElem?_getD, hlt, List.getElem?_take, show k < l.length by omega]
    have hgb : (strs l).getD j .undef = .str l[j] := by simp [strs, List.getD_eq_getElem?_getD, hj]
    have hjl : (j : Int) < l.length := by omega
    have hw1 : IntKind.i64.wrap ((k : Int) + 1) = ((k + 1 : Nat) : Int) := by rw [wrap_i64 (by omega) (by omega)]; rfl
    have hne : ¬ l[k]'(by omega) = l[j] := List.pairwise_iff_getElem.1 hnd k j (by omega) hj hlt
    simp [hlt', hlt, hga, hgb, hsj, hsl, hjl, V.cells, hne, hw1]
    exact ⟨j - (k + 1), by omega, iv ⟨k + 1, by omega, rfl, rfl, rfl⟩⟩
  · have hlt' : ¬ (k : Int) < j := by omega
    obtain rfl : k = j := by omega
    simp [hlt']
    exact hQ
theorem shape8_spec (L : L08 X) (HO : Has (Ecx X) K.gram_Of A.gram_Of) (H : Has (Ecx X) K.probatelaw08_LowerShape A.probatelaw08_LowerShape_o) (t : Te) (ok : TeOk t) (hQ : Q (.bool true) h) : Ecx X K.probatelaw08_LowerShape [teV t] h Q := by
  refine fn_walk H (by simp [A.probatelaw08_LowerShape_o]) fun wf => ?_
  have htc : teC t = [.sl 2 0 (t.rules.map rlV), .sl 3 0 (t.nodes.map ndV)] := rfl
  have gr := (Gr.refl h).new (teC t)
  have b0 : (h.new (teC t)).objs h.nobj = teC t := by simp
  have b1 : (h.new (teC t)).nobj = h.nobj + 1 := by simp
  simp [A.probatelaw08_LowerShape_o, teV, V.cells, V.good]
  generalize h.new (teC t) = h1 at *
  refine ecall (awake8_spec L ?_)
  simp [b0, htc]
  rw [← htc]
  refine ecall (largeT_spec L.large t ok ?_)
  cases hl : largeT t with
  | true =>
    simp
    exact fin_wk gr (.same _) (by simp) hQ
  | false =>
  have sm := sm_of hl
  obtain ⟨s1, s2, s3⟩ := lowRes_sm t
  simp [b0, htc]
  rw [← htc]
  have smr := sm.r
  have smn := sm.n
  refine ecall (lower_spec L.lo t (by omega) (by omega) sm.rn sm.nn sm.ks ?_)
  have hrq := right_eq t
  have bad : ∀ e, (e = 1 ∧ rightP t = false) ∨ (e = 5 ∧ rightP t = true) → lowRes t = (⟨0, 0, 0, []⟩, [], e) → True := fun _ _ _ => trivial
  by_cases he : (lowRes t).2.2 = 0
  case neg =>
    have hcase : (lowRes t = (⟨0, 0, 0, []⟩, [], 1) ∧ rightP t = false) ∨ (lowRes t = (⟨0, 0, 0, []⟩, [], 5) ∧ rightP t = true) := by
      unfold lowRes at he ⊢
      cases hR : rightD t with
      | false => left; exact ⟨by simp, by rw [hrq]; exact hR⟩
      | true =>
        cases hG : rightG (lowG t) with
        | true => rw [hR, hG] at he; simp at he
        | false => right; exact ⟨by simp, by rw [hrq]; exact hR⟩
    have hgZ : gmV ⟨0, 0, 0, []⟩ = .agg [.int .i64 0, .int .i64 0, .int .i64 0, .sl 2 0 []] := rfl
    have gr2 := gr.new [.int .i64 0, .int .i64 0, .int .i64 0, .sl 2 0 []]
    have n0 : ¬ h.nobj = h1.nobj := by omega
    have c0 : (h1.new [.int .i64 0, .int .i64 0, .int .i64 0, .sl 2 0 []]).objs h.nobj = teC t := by rw [new_objs_ne _ _ n0]; exact b0
    have c1 : (h1.new [.int .i64 0, .int .i64 0, .int .i64 0, .sl 2 0 []]).objs h1.nobj = [.int .i64 0, .int .i64 0, .int .i64 0, .sl 2 0 []] := by simp
    rcases hcase with ⟨hR, hP⟩ | ⟨hR, hP⟩
    · rw [hR]
      simp [lowV, hgZ, V.cells, V.good, setAt, strs, n0, b0, htc]
      rw [← htc]
      refine ecall (ruRight_spec L.lo.ru L.lo.right t (by omega) (by omega) sm.rn sm.nn sm.ks ?_)
      rw [hP]
      simp
      exact fin_wk gr2 (.same _) (by simp) hQ
    · rw [hR]
      simp [lowV, hgZ, V.cells, V.good, setAt, strs, n0, b0, htc]
      rw [← htc]
      refine ecall (ruRight_spec L.lo.ru L.lo.right t (by omega) (by omega) sm.rn sm.nn sm.ks ?_)
      rw [hP]
      simp
      exact fin_wk gr2 (.same _) (by simp) hQ
  clear bad
  have hD : rightD t = true := by
    cases hR : rightD t with
    | true => rfl
    | false => unfold lowRes at he; rw [hR] at he; simp at he
  have hG : rightG (lowG t) = true := by
    cases hG : rightG (lowG t) with
    | true => rfl
    | false => unfold lowRes at he; rw [hD, hG] at he; simp at he
  have rt : RTe t := rte_of (by rw [hrq]; exact hD)
  have hR : lowRes t = (lowG t, termsT t, 0) := by unfold lowRes; rw [hD, hG]; rfl
  have gz : GmOk (lowG t) := lowG_ok rt
  have RG := rightG_iff.1 hG
  have hst := steps_low rt
  rw [hR] at s1 s2 s3 ⊢
  simp only at s1 s2 s3
  have hcl := cntN_le t t.nodes.length
  have hr0 := rt.r0
  have hr1 := rt.r1
  have hn1 := rt.n1
  have hpl : (lowP t).length ≤ 60 := by have := RG.head.2.2.2.2.2.2; simpa [lowG] using this
  have hps : ∀ p ∈ lowP t, p.left < 100 ∧ 0 ≤ p.left ∧ p.right.length ≤ 8 ∧ ∀ s ∈ p.right, s.non = false → 0 ≤ s.n ∧ s.n < ((termsT t).length : Nat) := fun p hp => by
    obtain ⟨a, b, c, d⟩ := RG.prods p (by simpa [lowG] using hp)
    have h4 := RG.head.2.2.2.1
    refine ⟨by omega, a, c, fun s hs hf => ?_⟩
    obtain ⟨e, f⟩ := d s hs
    rw [hf, if_neg (by simp)] at f
    exact ⟨e, by simpa [lowG] using f⟩
  have htl : (termsT t).length ≤ 16 := by have := RG.head.2.1; simp only [lowG] at this; omega
  have hgc : gmC (lowG t) = [.int .i64 ((termsT t).length : Int), .int .i64 ((t.rules.length : Int) + (cntN t t.nodes.length : Int)), .int .i64 0, .sl 2 0 ((lowP t).map prV)] := by
    rw [← Int.natCast_add]; rfl
  have hsl : (strs (termsT t)).length = (termsT t).length := by simp [strs]
  have n0 : ¬ h.nobj = h1.nobj := by omega
  have gr2 := gr.new (gmC (lowG t))
  have c1 : (h1.new (gmC (lowG t))).objs h1.nobj = gmC (lowG t) := by simp
  have c2 : (h1.new (gmC (lowG t))).nobj = h1.nobj + 1 := by simp
  have c0 : (h1.new (gmC (lowG t))).objs h.nobj = teC t := by rw [new_objs_ne _ _ n0]; exact b0
  have hge : ¬ ((t.rules.length : Int) + (cntN t t.nodes.length : Int) < t.rules.length) := by omega
  simp [lowV, gmV, V.cells, V.good, hgc, setAt, hsl]
  rw [← hgc]
  refine ecall (right3R L.lo.gr (lowG t) gz ?_)
  rw [hG]
  generalize h1.new (gmC (lowG t)) = h2 at *
  simp [c1, hgc, hsl, c0, htc, hge, n0, b0]
  obtain ⟨T, hT⟩ : ∃ T, (termsT t).length = T := ⟨_, rfl⟩
  rw [hT] at hps hgc hsl ⊢
  refine ⟨by omega, ?_⟩
  rw [repl_zero]
  have gr3 := gr2.new (ints (List.replicate T 0))
  have d1 : (h2.new (ints (List.replicate T 0))).objs h1.nobj = gmC (lowG t) := by rw [new_objs_ne _ _ (by omega)]; exact c1
  have d2 : (h2.new (ints (List.replicate T 0))).objs h2.nobj = ints (List.replicate T 0) := by simp
  have d3 : (h2.new (ints (List.replicate T 0))).nobj = h2.nobj + 1 := by simp
  have o6 : h.nobj ≤ h2.nobj := by omega
  have o36 : h1.nobj < h2.nobj := by omega
  generalize h2.new (ints (List.replicate T 0)) = h3 at *
  obtain ⟨q3, hq3⟩ : ∃ q3, q3 = h1.nobj := ⟨_, rfl⟩
  obtain ⟨q6, hq6⟩ : ∃ q6, q6 = h2.nobj := ⟨_, rfl⟩
  rw [← hq3] at d1 o36 ⊢
  rw [← hq6] at d2 d3 o6 o36 ⊢
  simp [d1, hgc]
  refine loopI (n := (lowP t).length) (fun mm env h' => ∃ k last u, k ≤ (lowP t).length ∧ mm = (lowP t).length - k ∧ stepsL 0 ((lowP t).take k) = some last ∧ 0 ≤ last ∧ last < 100 ∧ Gr h h' ∧ h'.objs q3 = gmC (lowG t) ∧ h'.objs q6 = ints u ∧ q6 < h'.nobj ∧ u.length = T ∧ (∀ i, 0 ≤ u.getD i 0 ∧ u.getD i 0 ≤ 8 * (k : Int)) ∧
      (∀ p ∈ (lowP t).take k, ∀ j : Nat, (⟨false, (j : Int)⟩ : Sy) ∈ p.right → 0 < u.getD j 0) ∧
      env = [(3, .ptr q3 0), (4, .sl 1 0 (strs (termsT t))), (6, .osl 1 q6 0 T T), (7, .int .i64 last), (72, .sl 2 0 ((lowP t).map prV)), (73, .int .i64 (lowP t).length), (74, .int .i64 k)]) ?_
    ⟨0, 0, List.replicate T 0, by omega, by omega, rfl, by omega, by omega, gr3, d1, d2, by omega, by simp, fun i => by
      by_cases c : i < T
      · simp [List.getD_eq_getElem?_getD, c]
      · simp [List.getD_eq_getElem?_getD, c], by simp, rfl⟩
  clear gr3 d1 d2 d3 c0 c1 c2 gr2
  rintro mm env h' ⟨k, last, u, hk, rfl, hsl2, hl0, hl1, gr4, u1, u2, u3, hul, hub, hup, rfl⟩
  unfold A.probatelaw08_LowerShape_o.L0
  by_cases hlt : k < (lowP t).length
  · have hlt' : (k : Int) < (lowP t).length := by omega
    have hg : ((lowP t).map prV).getD k .undef = prV (lowP t)[k] := Enc.getD hlt
    have hw1 : IntKind.i64.wrap ((k : Int) + 1) = ((k + 1 : Nat) : Int) := by rw [wrap_i64 (by omega) (by omega)]; rfl
    have hw2 : IntKind.i64.wrap (last + 1) = last + 1 := wrap_i64 (by omega) (by omega)
    have htk := List.take_succ_eq_append_getElem hlt
    obtain ⟨z1, z2, z3, z4⟩ := hps _ (List.getElem_mem hlt)
    have hstep : last ≤ (lowP t)[k].left ∧ (lowP t)[k].left ≤ last + 1 ∧ stepsL 0 ((lowP t).take (k + 1)) = some (lowP t)[k].left := by
      have h1 := stepsL_app ((lowP t).take k) ((lowP t).drop k) 0 last hsl2
      rw [List.take_append_drop, hst, List.drop_eq_getElem_cons hlt] at h1
      have h2 := stepsL_app ((lowP t).take k) [(lowP t)[k]] 0 last hsl2
      rw [← htk] at h2
      unfold stepsL at h1
      split at h1
      · cases h1
      · rename_i c
        refine ⟨by omega, by omega, ?_⟩
        rw [h2]
        unfold stepsL
        rw [if_neg c]; rfl
    rw [htk] at hstep
    generalize hp : (lowP t)[k] = p at *
    obtain ⟨w1, w2, w3⟩ := hstep
    have hpc : prC p = [.int .i64 p.left, .sl 2 0 (p.right.map symV)] := rfl
    have n3 : ¬ q3 = h'.nobj := by omega
    have n6 : ¬ q6 = h'.nobj := by omega
    have e0 : (h'.new (prC p)).objs h'.nobj = prC p := by simp
    have e1 : (h'.new (prC p)).objs q3 = gmC (lowG t) := by simp [n3, u1]
    have e2 : (h'.new (prC p)).objs q6 = ints u := by simp [n6, u2]
    have e3 : (h'.new (prC p)).nobj = h'.nobj + 1 := by simp
    have e4 := gr4.new (prC p)
    have c1 : ¬ p.left < last := by omega
    have c2 : ¬ last + 1 < p.left := by omega
    simp [hlt', hg, prV, V.cells, V.good, hpc, setAt]
    rw [← hpc]
    generalize h'.new (prC p) = h5 at *
    simp [e0, hpc, c1, c2, hw2]
    refine shapeL1 (T := T) (u := u) (c := 8 * (k : Int)) p.right z3 z4 hul (by omega) (by omega) hub e4 e2 o6 (by omega) (fun h6 g6 nb6 ob6 us6 bd6 => ?_)
    simp [hw1]
    exact ⟨(lowP t).length - (k + 1), by omega, iv ⟨k + 1, p.left, bumpsS u p.right, by omega, rfl, by rw [htk]; exact w3, by omega, by omega, g6, by rw [ob6 _ (by omega) (by omega)]; exact e1, us6, by omega, by rw [bumpsS_len, hul], fun i => by have := bd6 i; omega, fun p' hp' j hj => by
      rw [htk] at hp'
      rcases List.mem_append.1 hp' with hp' | hp'
      · exact Int.lt_of_lt_of_le (hup p' hp' j hj) (bumpsS_ge _ _ _)
      · simp at hp'
        subst hp'
        have := z4 _ hj rfl
        exact bumpsS_pos _ _ j (fun i => (hub i).1) (by simp at this; omega) hj, rfl⟩⟩
  · have hlt' : ¬ (k : Int) < (lowP t).length := by omega
    obtain rfl : k = (lowP t).length := by omega
    rw [List.take_length] at hsl2 hup
    rw [hst] at hsl2
    have hlast : last = ((t.rules.length + cntN t t.nodes.length : Nat) : Int) - 1 := (Option.some.inj hsl2).symm
    have hpos : ∀ j, j < T → 0 < u.getD j 0 := fun j hj => by
      obtain ⟨p, hp, hs⟩ := term_said rt (j := j) (by omega)
      exact hup p hp j hs
    simp [hlt']
    refine loopI (n := T) (fun mm env h2 => ∃ k, k ≤ T ∧ mm = T - k ∧ h2 = h' ∧ env = [(3, .ptr q3 0), (4, .sl 1 0 (strs (termsT t))), (7, .int .i64 last), (110, .osl 1 q6 0 T T), (111, .int .i64 T), (112, .int .i64 k)]) ?_ ⟨0, by omega, by omega, rfl, rfl⟩
    rintro mm env h2 ⟨k, hk, rfl, rfl, rfl⟩
    unfold A.probatelaw08_LowerShape_o.L2
    by_cases hlt : k < T
    · have hlt' : (k : Int) < T := by omega
      have hw1 : IntKind.i64.wrap ((k : Int) + 1) = ((k + 1 : Nat) : Int) := by rw [wrap_i64 (by omega) (by omega)]; rfl
      have hgu : (ints u).getD k .undef = .int .i64 (u.getD k 0) := by simp [ints, List.getD_eq_getElem?_getD, show k < u.length by omega]
      have hil : (ints u).length = T := by simp [ints, hul]
      have hne : ¬ u.getD k 0 = 0 := by have := hpos k hlt; omega
      have hkt : (k : Int) ≤ T := by omega
      have hst2 : (strs (termsT t)).take k = strs ((termsT t).take k) := by simp [strs, List.map_take]
      have hsk : (strs ((termsT t).take k)).length = k := by simp [strs]; omega
      simp [hlt', hlt, u2, hgu, hil, hne, hsl, hkt, hst2, hsk]
      refine shapeL3 (T := 0) (termsT t) 1 0 0 rfl (by omega) (by omega) (terms_nodup t) ?_
      simp [hw1]
      exact ⟨T - (k + 1), by omega, iv ⟨k + 1, by omega, rfl, rfl, rfl⟩⟩
    · have hlt' : ¬ (k : Int) < T := by omega
      obtain rfl : k = T := by omega
      have hw3 : IntKind.i64.wrap ((t.rules.length : Int) + (cntN t t.nodes.length : Int) - 1) = (t.rules.length : Int) + (cntN t t.nodes.length : Int) - 1 := wrap_i64 (by omega) (by omega)
      have hlast' : last = (t.rules.length : Int) + (cntN t t.nodes.length : Int) - 1 := by omega
      have hof : 0 < (ofG (lowG t) 0).length := by
        have hg0 : t.rules.getD 0 ⟨[], 0⟩ = t.rules[0] := by simp [List.getD_eq_getElem?_getD, hr0]
        have hb := rt.body (List.getElem_mem hr0)
        have hne := prodsT_ne rt (n := t.rules[0].body.toNat) (by omega) 0
        obtain ⟨p, hp⟩ := List.exists_mem_of_ne_nil _ hne
        have hm : p ∈ lowP t := in_lowA hr0 (n := t.rules[0].body.toNat) (by omega) (by simpa using hp)
        have hpl0 := prodsT_left t _ _ p hp
        have key : ∀ (l : List Pr) (i : Nat), p ∈ l → 0 < (ofF 0 l i).length := fun l => by
          induction l with
          | nil => intro i h; simp at h
          | cons a l ih =>
            intro i h
            unfold ofF
            rcases List.mem_cons.1 h with rfl | h
            · rw [if_pos hpl0]; simp
            · have := ih (i + 1) h; simp; omega
        exact key _ 0 hm
      simp [hlt', u1, hgc, hw3, hlast']
      rw [← hgc]
      refine ecall (ofP_spec HO (lowG t) 0 (by simp [lowG]; omega) ?_)
      have hil : (ints (ofG (lowG t) 0)).length = (ofG (lowG t) 0).length := by simp [ints]
      simp [hil, hof]
      exact fin_wk gr4 (.same _) (by simp) hQ
end
end Go.Proofs.Ytmobijebjkjnoaa.Al
namespace Go.Proofs.Ytmobijebjkjnoaa.Al
open Go
theorem tie_o_probatelaw08_LowerShape : compFn Try.prog ({ yK with om := fun n => ([70] : List Nat).contains n }) Try.f5 = some A.probatelaw08_LowerShape_o.strip := by kernel_rfl
theorem has_o_probatelaw08_LowerShape (W0 : World) : Has (Ecx (cxOf W0)) K.probatelaw08_LowerShape A.probatelaw08_LowerShape_o := fn_sound (Y := ({ yK with om := fun n => ([70] : List Nat).contains n })) Try.checked.mixed rfl (by exact Try.func5) (by kernel_rfl) tie_o_probatelaw08_LowerShape
end Go.Proofs.Ytmobijebjkjnoaa.Al
namespace Go.Proofs.Ytmobijebjkjnoaa.Al
open Go Go.RowKit
theorem law_LowerShape (W : World) {u0 : V} (a0 : Arg Try.prog 25 u0) : Ecx (cxOf W) K.probatelaw08_LowerShape [u0] iniH fun r _ => r = .bool true := by
  obtain ⟨t, rfl, ok⟩ := arg_tree a0
  exact shape8_spec (l08 W) (has_gram_Of W) (has_o_probatelaw08_LowerShape W) t ok rfl
end Go.Proofs.Ytmobijebjkjnoaa.Al
