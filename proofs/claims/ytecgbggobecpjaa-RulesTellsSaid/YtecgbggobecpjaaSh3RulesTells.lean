/-
  What the law RulesTells needs of this claim's texts (part 3). Conditions: each theorem's own.
-/
import Derived.Test.YtecgbggobecpjaaChecked
import Derived.Tactics
import Derived.Tactics2
import Derived.Defers
import Derived.Recover
import Derived.Laws.Pointers
import Derived.RegionTactic
import Derived.Test.YtecgbggobecpjaaAlC
import Derived.Test.YtecgbggobecpjaaAlA
import Derived.Test.YtecgbggobecpjaaAlB
import Derived.Test.YtecgbggobecpjaaAlKeys
import Derived.Test.YtecgbggobecpjaaSh1RulesTells
import Derived.Test.YtecgbggobecpjaaSh2RulesTells
namespace Go.Proofs.Ytecgbggobecpjaa.Al
open Go Go.RowKit
set_option linter.unusedSimpArgs false
set_option linter.unusedVariables false
attribute [-simp] List.getD_eq_getElem?_getD Int.not_lt Int.not_le List.map_take List.map_map
structure LRd (X : Cx) (wr : Int → Value) : Prop where
  fail : ∀ (toks : List Tok) (en a o : Nat) (rest : List V) (h : AH) (Q : V → AH → Prop), h.objs o = .sl 3 0 (toks.map tokV) :: .int .i64 (a : Nat) :: .int .i64 (en : Nat) :: rest → toks.length < 2 ^ 30 → a < 2 ^ 30 → X.Z (wr (plcP toks en a)) h →
    Ecx X K.rules_reader_fail [.ptr o 0] h Q
  ahead : Has (Ecx X) K.rules_reader_ahead A.rules_reader_ahead
  take : Has (Ecx X) K.rules_reader_take A.rules_reader_take
  must : Has (Ecx X) K.rules_reader_must A.rules_reader_must
  name : Has (Ecx X) K.rules_reader_name A.rules_reader_name
  node : Has (Ecx X) K.rules_reader_node A.rules_reader_node
  begins : Has (Ecx X) K.rules_reader_begins A.rules_reader_begins
  atom : Has (Ecx X) K.rules_reader_atom A.rules_reader_atom
  item : Has (Ecx X) K.rules_reader_item A.rules_reader_item
  one : Has (Ecx X) K.rules_reader_one A.rules_reader_one
  alts : Has (Ecx X) K.rules_reader_alternatives A.rules_reader_alternatives
  text : Has (Ecx X) K.rules_reader_text A.rules_reader_text
/-- The reader's object. -/
def RdP (toks : List Tok) (en : Nat) (h : AH) (o : Nat) (s : PS) (σ : S4) : Prop := ∃ N, WkE N (s.nodes.map ndV) ∧ RdO h o (.sl 3 0 (toks.map tokV)) (.int .i64 (en : Nat)) s.at' 2 (s.rules.map rlV) N (s.given.map useV) (s.used.map useV) σ
/-- What is told behind a call: of what was read, or of where it panics. -/
def Ans (X : Cx) (wr : Int → Value) (toks : List Tok) (en : Nat) (h : AH) (o : Nat) (σ : S4) (Q : V → AH → Prop) {α : Type} (enc : α → V) : PR α → Prop
  | .ok (s, n) => ∀ h1 σ1, RE h h1 o σ σ1 → RdP toks en h1 o s σ1 → Q (enc n) h1
  | .error p => ∀ h1 σ1, RE h h1 o σ σ1 → X.Z (wr (p : Nat)) h1
section
variable {X : Cx} {wr : Int → Value} {toks : List Tok} {en : Nat} {h : AH} {o : Nat} {σ : S4} {Q : V → AH → Prop}
theorem Ans.from {α : Type} {enc : α → V} {r : PR α} (a : Ans X wr toks en h o σ Q enc r) {h1 : AH} {σ1 : S4} (f : RE h h1 o σ σ1) : Ans X wr toks en h1 o σ1 Q enc r := by
  cases r with
  | error p => exact fun h2 σ2 g => a h2 σ2 (f.trans g)
  | ok x => exact fun h2 σ2 g => a h2 σ2 (f.trans g)
theorem Ans.pbnd {α β : Type} {enc : α → V} {r : PR α} {f : PS → α → PR β} {enc2 : β → V} (a : Ans X wr toks en h o σ Q enc2 (pbnd r f)) {Q' : V → AH → Prop}
    (hk : ∀ s n, r = .ok (s, n) → ∀ h1 σ1, RE h h1 o σ σ1 → RdP toks en h1 o s σ1 → Ans X wr toks en h1 o σ1 Q enc2 (f s n) → Q' (enc n) h1) : Ans X wr toks en h o σ Q' enc r := by
  cases r with
  | error p => exact a
  | ok x =>
    obtain ⟨s, n⟩ := x
    exact fun h1 σ1 g rd => hk s n rfl h1 σ1 g rd (Ans.from (show Ans X wr toks en h o σ Q enc2 (f s n) from a) g)
/-- The same, told from where the function began. -/
theorem Ans.pbnd0 {α β : Type} {enc : α → V} {r : PR α} {f : PS → α → PR β} {enc2 : β → V} (a : Ans X wr toks en h o σ Q enc2 (Al.pbnd r f)) {hn : AH} {σn : S4} (g0 : RE h hn o σ σn) {Q' : V → AH → Prop}
    (hk : ∀ s n, r = .ok (s, n) → ∀ h1 σ1, RE hn h1 o σn σ1 → RdP toks en h1 o s σ1 → Ans X wr toks en h o σ Q enc2 (f s n) → Q' (enc n) h1) : Ans X wr toks en hn o σn Q' enc r := by
  cases r with
  | error p => exact Ans.from (enc := enc2) (r := .error p) a g0
  | ok x =>
    obtain ⟨s, n⟩ := x
    exact fun h1 σ1 g rd => hk s n rfl h1 σ1 g rd a
theorem RdP.ob {s : PS} (r : RdP toks en h o s σ) : ∃ rest, h.objs o = .sl 3 0 (toks.map tokV) :: .int .i64 (s.at' : Nat) :: .int .i64 (en : Nat) :: rest := by
  obtain ⟨N, _, rd⟩ := r
  obtain ⟨e1, e2, e3, e4, ob, _⟩ := rd.ob
  exact ⟨_, ob⟩
theorem rdAhead (H : Has (Ecx X) K.rules_reader_ahead A.rules_reader_ahead) {a : Nat} {rest : List V} (ob : h.objs o = .sl 3 0 (toks.map tokV) :: .int .i64 (a : Nat) :: rest) (m : Str) (hQ : Q (.bool (aheadP toks a m)) h) : Ecx X K.rules_reader_ahead [.ptr o 0, .str m] h Q := by
  refine fn_walk H (by simp [A.rules_reader_ahead]) fun wf => ?_
  by_cases hlt : a < toks.length
  · have hlt' : (a : Int) < toks.length := by omega
    have hg : (toks.map tokV).getD a .undef = .agg (tokC toks[a]) := toks_getD hlt
    have hp : aheadP toks a m = (decide (toks[a].kind = 3) && decide (toks[a].text = m)) := by simp [aheadP, hlt]
    rw [hp] at hQ
    by_cases c1 : toks[a].kind = 3
    · have c1' : (toks[a].kind : Int) = 3 := by omega
      by_cases c2 : toks[a].text = m
      · simp [c1, c2] at hQ
        simp [A.rules_reader_ahead, ob, hlt', hg, tokC, V.cells, c1', c2]
        exact fin (by simp) hQ
      · simp [c1, c2] at hQ
        simp [A.rules_reader_ahead, ob, hlt', hg, tokC, V.cells, c1', c2]
        exact fin (by simp) hQ
    · have c1' : ¬ (toks[a].kind : Int) = 3 := by omega
      simp [c1] at hQ
      simp [A.rules_reader_ahead, ob, hlt', hg, tokC, V.cells, c1']
      exact fin (by simp) hQ
  · have hlt' : ¬ (a : Int) < toks.length := by omega
    have hp : aheadP toks a m = false := by simp [aheadP, hlt]
    rw [hp] at hQ
    simp [A.rules_reader_ahead, ob, hlt']
    exact fin (by simp) hQ
theorem RdP.to {s : PS} (r : RdP toks en h o s σ) {a : Nat} {e1 e2 e3 e4 : Nat} {N : List V} (hN : WkE N (s.nodes.map ndV)) (ob : h.objs o = [.sl 3 0 (toks.map tokV), .int .i64 (s.at' : Nat), .int .i64 (en : Nat), .sl e1 σ.a (s.rules.map rlV), .sl e2 σ.b N, .sl e3 σ.c (s.given.map useV), .sl e4 σ.d (s.used.map useV)]) :
    RdP toks en (h.set o [.sl 3 0 (toks.map tokV), .int .i64 (a : Nat), .int .i64 (en : Nat), .sl e1 σ.a (s.rules.map rlV), .sl e2 σ.b N, .sl e3 σ.c (s.given.map useV), .sl e4 σ.d (s.used.map useV)]) o { s with at' := a } σ := by
  obtain ⟨N', _, rd⟩ := r
  have : N' = N := by
    obtain ⟨f1, f2, f3, f4, ob', _⟩ := rd.ob
    rw [ob] at ob'; simp at ob'; exact ob'.2.1.2.symm
  subst this
  exact ⟨N', hN, rd.cells ob _ a _⟩
theorem rdTake (L : LRd X wr) {s : PS} (r : RdP toks en h o s σ) (hs : toks.length < 2 ^ 30) (m : Str) (hT : aheadP toks s.at' m = true → ∀ h1, RE h h1 o σ σ → RdP toks en h1 o s.adv σ → Q (.bool true) h1) (hF : aheadP toks s.at' m = false → Q (.bool false) h) :
    Ecx X K.rules_reader_take [.ptr o 0, .str m] h Q := by
  refine fn_any L.take (by simp [A.rules_reader_take]) fun wf => ?_
  have r0 := r
  obtain ⟨N, hN, rd⟩ := r
  obtain ⟨e1, e2, e3, e4, ob, _⟩ := rd.ob
  simp [A.rules_reader_take]
  refine ecall (rdAhead L.ahead ob m ?_)
  cases c : aheadP toks s.at' m with
  | false => simp; exact hF c
  | true =>
    have hl := aheadP_lt c
    have hw1 : IntKind.i64.wrap ((s.at' : Int) + 1) = ((s.at' + 1 : Nat) : Int) := by rw [wrap_i64 (by omega) (by omega)]; rfl
    simp [ob, setAt, V.cells, V.good, hw1]
    exact hT c _ ((RE.refl h o σ).set (.inl rfl) _) (RdP.to r0 hN ob)
theorem rdMust (L : LRd X wr) {s : PS} (r : RdP toks en h o s σ) (hs : toks.length < 2 ^ 30) (ha : s.at' ≤ toks.length) (m : Str) (hQ : Ans X wr toks en h o σ Q (fun _ : Unit => .tup []) (mustP toks en m s)) :
    Ecx X K.rules_reader_must [.ptr o 0, .str m] h Q := by
  refine fn_any L.must (by simp [A.rules_reader_must]) fun wf => ?_
  obtain ⟨rest, ob⟩ := r.ob
  simp [A.rules_reader_must]
  refine ecall (rdTake L r hs m (fun c h1 g r1 => ?_) (fun c => ?_))
  · simp
    unfold mustP at hQ
    rw [if_pos c] at hQ
    exact hQ h1 σ g r1
  · simp
    unfold mustP at hQ
    rw [if_neg (by simp [c])] at hQ
    exact ecall (L.fail toks en s.at' o rest h _ ob hs (by omega) (hQ h σ (RE.refl h o σ)))
theorem WkE.len {l m : List V} (w : WkE l m) : l.length = m.length := w.cells.1
theorem wk_kids {ek st : Nat} {kids : List Int} (hk : kids = [] ∨ ek = 1) : Wk (.sl ek st (ints kids)) (.sl 1 0 (ints kids)) := by
  rcases hk with rfl | rfl
  · exact .nil _ _ _
  · exact .sl _ _ _
theorem rdNode (L : LRd X wr) {s : PS} (r : RdP toks en h o s σ) (hp : s.nodes.length ≤ 2 ^ 38) (kind : Int) (name : Str) (kids : List Int) {ek st : Nat} (hk : kids = [] ∨ ek = 1)
    (hQ : ∀ h1 σ1, RE h h1 o σ σ1 → RdP toks en h1 o (s.lay kind name kids) σ1 → Q (.int .i64 s.nodes.length) h1) : Ecx X K.rules_reader_node [.ptr o 0, .int .i64 kind, .str name, .sl ek st (ints kids)] h Q := by
  refine fn_any L.node (by simp [A.rules_reader_node]) fun wf => ?_
  obtain ⟨N, hN, rd⟩ := r
  obtain ⟨e1, e2, e3, e4, ob, m1, m2, m3, m4⟩ := rd.ob
  have hl := hN.len
  simp only [List.length_map] at hl
  simp [A.rules_reader_node, ob, fillV, fillL, setAt, V.cells, V.good, V.isAgg]
  refine m2.app (by simp) rfl (by simp; omega) ?_
  have hw1 : IntKind.i64.wrap (N.length : Int) = (s.nodes.length : Int) := by rw [hl, wrap_i64 (by omega) (by omega)]
  simp [setAt, V.cells, V.good, push_objs, ob, hw1]
  obtain ⟨r1, g1⟩ := rd.pushN ob (.agg [.int .i64 kind, .str name, .sl ek st (ints kids)])
  refine hQ _ _ g1 ⟨_, ?_, r1⟩
  rw [PS.lay]
  simp only [List.map_append, List.map_cons, List.map_nil]
  exact hN.append (.cons (.cons (.same _) (.cons (.same _) (.cons (wk_kids hk) .nil))) .nil)
theorem rdOne (L : LRd X wr) {s : PS} (r : RdP toks en h o s σ) (hp : s.nodes.length ≤ 2 ^ 38) (kind : Int) (l : List Int) (hl : l.length ≤ 2 ^ 40) {e st : Nat} (he : l = [] ∨ e = 1)
    (hQ : ∀ h1 σ1, RE h h1 o σ σ1 → RdP toks en h1 o (oneP kind l s).1 σ1 → Q (.int .i64 (oneP kind l s).2) h1) : Ecx X K.rules_reader_one [.ptr o 0, .int .i64 kind, .sl e st (ints l)] h Q := by
  refine fn_any L.one (by simp [A.rules_reader_one]) fun wf => ?_
  have hil : (ints l).length = l.length := by simp [ints]
  by_cases c : l.length = 1
  · obtain ⟨n, rfl⟩ := List.length_eq_one_iff.1 c
    obtain rfl : e = 1 := he.resolve_left (by simp)
    simp [A.rules_reader_one, ints, V.cells]
    exact hQ h σ (RE.refl _ _ _) r
  · have c' : ¬ (l.length : Int) = 1 := by omega
    simp [A.rules_reader_one, hil, c']
    have ho : oneP kind l s = nodeP kind [] l s := by
      match l, c with
      | [], _ => rfl
      | [n], c => simp at c
      | _ :: _ :: _, _ => rfl
    rw [ho] at hQ
    refine ecall (rdNode L r hp kind [] l he fun h1 σ1 g r1 => ?_)
    simp
    exact hQ h1 σ1 g r1
theorem rdBegins (L : LRd X wr) {s : PS} (r : RdP toks en h o s σ) (hQ : Q (.bool (bgnP toks s.at')) h) : Ecx X K.rules_reader_begins [.ptr o 0] h Q := by
  refine fn_walk L.begins (by simp [A.rules_reader_begins]) fun wf => ?_
  obtain ⟨rest, ob⟩ := r.ob
  by_cases hlt : s.at' < toks.length
  · have hlt' : (s.at' : Int) < toks.length := by omega
    have hg : (toks.map tokV).getD s.at' .undef = .agg (tokC toks[s.at']) := toks_getD hlt
    have hp : bgnP toks s.at' = (decide (toks[s.at'].kind ≠ 3) || decide (toks[s.at'].text = [40])) := by simp [bgnP, hlt]
    rw [hp] at hQ
    by_cases c1 : toks[s.at'].kind = 3
    · have c1' : (toks[s.at'].kind : Int) = 3 := by omega
      simp [c1] at hQ
      simp [A.rules_reader_begins, ob, hlt', hg, tokC, V.cells, c1']
      refine dcall (.bool (decide (toks[s.at'].text = [40]))) (rdAhead L.ahead ob _ ?_) ?_
      · simp [aheadP, hlt, c1]
      · simp
        exact fin (by simp) hQ
    · have c1' : ¬ (toks[s.at'].kind : Int) = 3 := by omega
      simp [c1] at hQ
      simp [A.rules_reader_begins, ob, hlt', hg, tokC, V.cells, c1']
      exact fin (by simp) hQ
  · have hlt' : ¬ (s.at' : Int) < toks.length := by omega
    have hp : bgnP toks s.at' = false := by simp [bgnP, hlt]
    rw [hp] at hQ
    simp [A.rules_reader_begins, ob, hlt']
    exact fin (by simp) hQ
/-- Where a token stands. -/
theorem rdName (L : LRd X wr) {s : PS} (r : RdP toks en h o s σ) (hs : toks.length < 2 ^ 30) (ha : s.at' ≤ toks.length) (hQ : Ans X wr toks en h o σ Q useV (nameP toks en s)) :
    Ecx X K.rules_reader_name [.ptr o 0] h Q := by
  refine fn_any L.name (by simp [A.rules_reader_name]) fun wf => ?_
  have r0 := r
  obtain ⟨N, hN, rd⟩ := r
  obtain ⟨e1, e2, e3, e4, ob, _⟩ := rd.ob
  have hlt0 := rd.lt
  have n1 : ¬ o = h.nobj := by omega
  have n2 : ¬ o = h.nobj + 1 := by omega
  have n3 : ¬ h.nobj = o := by omega
  have n4 : ¬ h.nobj + 1 = o := by omega
  have ob1 := ob
  by_cases hlt : s.at' < toks.length
  · have hlt' : (s.at' : Int) < toks.length := by omega
    have hge' : ¬ (toks.length : Int) ≤ s.at' := by omega
    have hg : (toks.map tokV).getD s.at' .undef = .agg (tokC toks[s.at']) := toks_getD hlt
    have hn : nameP toks en s = if toks[s.at'].kind = 1 then .ok (s.adv, ⟨toks[s.at'].text, toks[s.at'].at'⟩) else .error toks[s.at'].at' := by simp [nameP, hlt]
    rw [hn] at hQ
    have hw1 : IntKind.i64.wrap ((s.at' : Int) + 1) = ((s.at' + 1 : Nat) : Int) := by rw [wrap_i64 (by omega) (by omega)]; rfl
    by_cases c1 : toks[s.at'].kind = 1
    · have c1' : (toks[s.at'].kind : Int) = 1 := by omega
      rw [if_pos c1] at hQ
      simp [A.rules_reader_name, ob, hlt', hge', hg, tokC, V.cells, V.good, setAt, c1', n1, n2, n3, n4]
      rw [hw1]
      exact hQ _ σ ((((RE.refl h o σ).set (.inl rfl) _).new _).new _) ⟨N, hN, ((rd.cells ob _ _ _).new _).new _⟩
    · have c1' : ¬ (toks[s.at'].kind : Int) = 1 := by omega
      rw [if_neg c1] at hQ
      simp [A.rules_reader_name, ob, hlt', hge', hg, tokC, V.cells, c1', n1]
      refine ecall (L.fail toks en s.at' o _ _ _ (by rw [new_objs_ne _ _ n1]; exact ob) hs (by omega) ?_)
      have := hQ (h.new [.str [], .int .i64 0]) σ ((RE.refl h o σ).new _)
      simpa [plcP, hlt] using this
  · have hlt' : ¬ (s.at' : Int) < toks.length := by omega
    have hge' : (toks.length : Int) ≤ s.at' := by omega
    have hn : nameP toks en s = .error en := by simp [nameP, hlt]
    rw [hn] at hQ
    simp [A.rules_reader_name, ob, hge', n1]
    refine ecall (L.fail toks en s.at' o _ _ _ (by rw [new_objs_ne _ _ n1]; exact ob) hs (by omega) ?_)
    have := hQ (h.new [.str [], .int .i64 0]) σ ((RE.refl h o σ).new _)
    simpa [plcP, hlt] using this
end
end Go.Proofs.Ytecgbggobecpjaa.Al
namespace Go.Proofs.Ytecgbggobecpjaa.Al
open Go Go.RowKit
set_option linter.unusedSimpArgs false
set_option linter.unusedVariables false
attribute [-simp] List.getD_eq_getElem?_getD Int.not_lt Int.not_le List.map_take List.map_map
def intV (n : Int) : V := .int .i64 n
section
variable {X : Cx} {wr : Int → Value} {toks : List Tok} {en : Nat}
/-- What alternatives are told to do. -/
def AltS (X : Cx) (wr : Int → Value) (toks : List Tok) (en f : Nat) : Prop := ∀ (s : PS) (h : AH) (o : Nat) (σ : S4) (Q : V → AH → Prop), s.at' ≤ toks.length → toks.length < f + s.at' → pot toks s + 2 ≤ 2 ^ 38 → RdP toks en h o s σ →
  Ans X wr toks en h o σ Q intV (altsP toks en f s) → Ecx X K.rules_reader_alternatives [.ptr o 0] h Q
variable {h : AH} {o : Nat} {σ : S4} {Q : V → AH → Prop}
theorem nodes_pot (s : PS) : s.nodes.length ≤ pot toks s ∧ s.used.length ≤ pot toks s ∧ s.given.length ≤ pot toks s ∧ s.rules.length ≤ pot toks s := by unfold pot; omega
theorem rdAtom (L : LRd X wr) (hs : toks.length < 2 ^ 30) (hk : ∀ t ∈ toks, t.kind = 1 ∨ t.kind = 2 ∨ t.kind = 3) {f : Nat} (hA : AltS X wr toks en f) {s : PS} (r : RdP toks en h o s σ) (hb : bgnP toks s.at' = true) (hf : toks.length < f + 1 + s.at') (hp : pot toks s ≤ 2 ^ 38)
    (hQ : Ans X wr toks en h o σ Q intV (atomP toks en (altsP toks en f) s)) : Ecx X K.rules_reader_atom [.ptr o 0] h Q := by
  refine fn_any L.atom (by simp [A.rules_reader_atom]) fun wf => ?_
  have hl := bgnP_lt hb
  have pa := pot_adv hl
  simp [A.rules_reader_atom]
  refine ecall (rdTake L r hs _ (fun c h1 g1 r1 => ?_) (fun c => ?_))
  · unfold atomP at hQ
    rw [if_pos c] at hQ
    simp
    refine ecall (hA _ _ _ _ _ (by simp [PS.adv]; omega) (by simp [PS.adv]; omega) (by omega) r1 ((hQ.from g1).pbnd fun s1 n e1 h2 σ2 g2 r2 hQ2 => ?_))
    have f1 := alts_fwd f _ _ _ (by simp [PS.adv]; omega) e1
    simp [intV]
    refine ecall (rdMust L r2 hs f1.at2 _ (hQ2.pbnd fun s2 u e2 h3 σ3 g3 r3 hQ3 => ?_))
    simp
    exact hQ3 h3 σ3 (RE.refl _ _ _) r3
  · unfold atomP at hQ
    rw [if_neg (by simp [c])] at hQ
    obtain ⟨N, hN, rd⟩ := id r
    obtain ⟨e1, e2, e3, e4, ob, m1, m2, m3, m4⟩ := rd.ob
    have hlt0 := rd.lt
    have n1 : ¬ o = h.nobj := by omega
    have n3 : ¬ h.nobj = o := by omega
    have hlt' : (s.at' : Int) < toks.length := by omega
    have hg : (toks.map tokV).getD s.at' .undef = .agg (tokC toks[s.at']) := toks_getD hl
    have hw1 : IntKind.i64.wrap ((s.at' : Int) + 1) = ((s.at' + 1 : Nat) : Int) := by rw [wrap_i64 (by omega) (by omega)]; rfl
    have ht : toks[s.at']? = some toks[s.at'] := List.getElem?_eq_getElem hl
    rw [ht] at hQ
    simp only at hQ
    have hm := hk _ (List.getElem_mem hl)
    by_cases c2 : toks[s.at'].kind = 2
    · have c2' : (toks[s.at'].kind : Int) = 2 := by omega
      rw [if_pos c2] at hQ
      simp [ob, hlt', hg, tokC, V.cells, V.good, setAt, c2', n1, n3, hw1]
      have np := nodes_pot (toks := toks) s
      refine ecall (rdNode L (toks := toks) (en := en) (σ := σ) (s := s.adv) ⟨N, hN, (rd.cells ob _ (s.at' + 1) _).new _⟩ (by simp [PS.adv]; omega) 7 _ [] (.inl rfl) fun h2 σ2 g2 r2 => ?_)
      simp
      exact hQ h2 σ2 ((((RE.refl h o σ).set (.inl rfl) _).new _).trans g2) r2
    · have c2' : ¬ (toks[s.at'].kind : Int) = 2 := by omega
      rw [if_neg c2] at hQ
      simp [ob, hlt', hg, tokC, V.cells, V.good, setAt, c2', n1, n3, hw1]
      have np := nodes_pot (toks := toks) s
      have c1 : toks[s.at'].kind = 1 := by
        rcases hm with e | e | e
        · exact e
        · exact absurd e c2
        · exfalso
          have : aheadP toks s.at' [40] = true := by
            simp [bgnP, hl, e] at hb
            simp [aheadP, hl, e, hb]
          rw [this] at c; cases c
      have hn : nameP toks en s = .ok (s.adv, ⟨toks[s.at'].text, toks[s.at'].at'⟩) := by simp [nameP, hl, c1]
      rw [hn] at hQ
      refine ecall (rdName L (toks := toks) (en := en) (s := s) (σ := σ) ⟨N, hN, rd.new _⟩ hs (by omega) ?_)
      rw [hn]
      intro h1 σ1 g1 r1
      obtain ⟨N1, hN1, rd1⟩ := r1
      obtain ⟨f1, f2, f3, f4, ob1, k1, k2, k3, k4⟩ := rd1.ob
      have hlt1 := rd1.lt
      have q1 : ¬ o = h1.nobj := by omega
      have q3 : ¬ h1.nobj = o := by omega
      have g1' := ((RE.refl h o σ).new _).trans g1
      have ob1' : h1.objs o = [V.sl 3 0 (toks.map tokV), .int .i64 ((s.at' + 1 : Nat) : Int), .int .i64 (en : Nat), .sl f1 σ1.a (s.rules.map rlV), .sl f2 σ1.b N1, .sl f3 σ1.c (s.given.map useV), .sl f4 σ1.d (s.used.map useV)] := ob1
      simp [useV, V.cells, V.good, setAt, ob1', q1, q3, fillL, V.isAgg]
      refine (show May 2 (h1.new [V.str toks[s.at'].text, V.int IntKind.i64 (toks[s.at'].at' : Nat)]) f4 σ1.d (s.used.map useV) from ⟨k4.el, k4.st⟩).app (by simp) rfl (by simp; omega) ?_
      simp [V.cells, V.good, setAt, push_objs, ob1', q1, q3]
      obtain ⟨r2, g2⟩ := (rd1.new [V.str toks[s.at'].text, V.int IntKind.i64 (toks[s.at'].at' : Nat)]).pushU (by rw [new_objs_ne _ _ q1]; exact ob1) (.agg [V.str toks[s.at'].text, V.int IntKind.i64 (toks[s.at'].at' : Nat)])
      have hu : (useP ⟨toks[s.at'].text, toks[s.at'].at'⟩ s.adv).used.map useV = s.used.map useV ++ [.agg [V.str toks[s.at'].text, V.int IntKind.i64 (toks[s.at'].at' : Nat)]] := by simp [useP, PS.adv, useV]
      have hu2 : s.adv.used.map useV = s.used.map useV := rfl
      refine ecall (rdNode L (toks := toks) (en := en) (s := useP ⟨toks[s.at'].text, toks[s.at'].at'⟩ s.adv) ⟨N1, hN1, by rw [hu]; exact r2⟩ (by simp [PS.adv, useP]; omega) 6 _ [] (.inl rfl) fun h2 σ2 g3 r3 => ?_)
      simp
      exact hQ h2 σ2 ((((g1'.new _)).trans g2).trans g3) r3
theorem rdItem (L : LRd X wr) (hs : toks.length < 2 ^ 30) (hk : ∀ t ∈ toks, t.kind = 1 ∨ t.kind = 2 ∨ t.kind = 3) {f : Nat} (hA : AltS X wr toks en f) {s : PS} (r : RdP toks en h o s σ) (hb : bgnP toks s.at' = true) (hf : toks.length < f + 1 + s.at') (hp : pot toks s ≤ 2 ^ 38)
    (hQ : Ans X wr toks en h o σ Q intV (itemP toks en (altsP toks en f) s)) : Ecx X K.rules_reader_item [.ptr o 0] h Q := by
  refine fn_any L.item (by simp [A.rules_reader_item]) fun wf => ?_
  simp [A.rules_reader_item]
  refine ecall (rdAtom L hs hk hA r hb hf hp (hQ.pbnd fun s1 n e1 h1 σ1 g1 r1 hQ1 => ?_))
  have f1 := (atom_fwd (alts_fwd f) e1).2
  have np := nodes_pot (toks := toks) s1
  have fp := f1.pot
  simp [intV]
  have key : ∀ (k : Int) (h2 : AH), (markP toks s1 n) = nodeP k [] [n] s1.adv → RE h1 h2 o σ1 σ1 → RdP toks en h2 o s1.adv σ1 → ∀ h3 σ3, RE h2 h3 o σ1 σ3 → RdP toks en h3 o (s1.adv.lay k [] [n]) σ3 → Q (.int .i64 s1.nodes.length) h3 := fun k h2 hm g2 r2 h3 σ3 g3 r3 => by
    rw [hm] at hQ1
    exact hQ1 h3 σ3 (g2.trans g3) r3
  refine ecall (rdTake L r1 hs _ (fun c h2 g2 r2 => ?_) (fun c => ?_))
  · have hm : markP toks s1 n = nodeP 3 [] [n] s1.adv := by unfold markP; rw [if_pos c]
    simp [fillL, V.isAgg]
    refine ecall (rdNode L r2 (by simp [PS.adv]; omega) 3 [] [n] (.inr rfl) fun h3 σ3 g3 r3 => ?_)
    simp
    exact key 3 h2 hm g2 r2 h3 σ3 g3 r3
  simp
  refine ecall (rdTake L r1 hs _ (fun c2 h2 g2 r2 => ?_) (fun c2 => ?_))
  · have hm : markP toks s1 n = nodeP 4 [] [n] s1.adv := by unfold markP; rw [if_neg (by simp [c]), if_pos c2]
    simp [fillL, V.isAgg]
    refine ecall (rdNode L r2 (by simp [PS.adv]; omega) 4 [] [n] (.inr rfl) fun h3 σ3 g3 r3 => ?_)
    simp
    exact key 4 h2 hm g2 r2 h3 σ3 g3 r3
  simp
  refine ecall (rdTake L r1 hs _ (fun c3 h2 g2 r2 => ?_) (fun c3 => ?_))
  · have hm : markP toks s1 n = nodeP 5 [] [n] s1.adv := by unfold markP; rw [if_neg (by simp [c]), if_neg (by simp [c2]), if_pos c3]
    simp [fillL, V.isAgg]
    refine ecall (rdNode L r2 (by simp [PS.adv]; omega) 5 [] [n] (.inr rfl) fun h3 σ3 g3 r3 => ?_)
    simp
    exact key 5 h2 hm g2 r2 h3 σ3 g3 r3
  have hm : markP toks s1 n = (s1, n) := by unfold markP; rw [if_neg (by simp [c]), if_neg (by simp [c2]), if_neg (by simp [c3])]
  rw [hm] at hQ1
  simp
  exact hQ1 h1 σ1 (RE.refl _ _ _) r1
/-- A slice of one's own beside the reader's. -/
structure Loc (h0 h : AH) (σ : S4) (e st : Nat) (l : List V) : Prop where
  may : May 1 h e st l
  lo : st ≤ 2 ∨ (h0.next ≤ st ∧ st < h.next ∧ ¬ σ.has st)
theorem Loc.nil (h0 h : AH) (σ : S4) : Loc h0 h σ 0 1 [] := ⟨⟨.inl rfl, .inl rfl⟩, .inl (by omega)⟩
theorem Loc.from {h0 h1 : AH} {σ1 : S4} {e st : Nat} {l : List V} (c : Loc h0 h σ e st l) (g : RE h h1 o σ σ1) (lo : ∀ s, s ≤ 2 → h.tips s = none) : Loc h0 h1 σ1 e st l := by
  refine ⟨c.may.keep ?_ (lo _), ?_⟩
  · rcases c.lo with d | ⟨d1, d2, d3⟩
    · exact .inl d
    · exact .inr (g.tips _ d2 (.inl d3))
  · rcases c.lo with d | ⟨d1, d2, d3⟩
    · exact .inl d
    · refine .inr ⟨d1, by have := g.next; omega, fun e => ?_⟩
      rcases g.st _ e with q | q
      · exact d3 q
      · omega
/-- It is pushed. -/
theorem Loc.app {h0 : AH} {s : PS} {e st : Nat} {l : List V} (c : Loc h0 h σ e st l) (hn : h0.next ≤ h.next) (r : RdP toks en h o s σ) {m : List V} (hm : m ≠ []) (hb : (l.length + m.length) * 8 ≤ 2 ^ 46) {K : V → AH → Prop} {zK : Lz K}
    (hk : RdP toks en (h.push st 1) o s σ → Loc h0 (h.push st 1) σ 1 h.next (l ++ m) → (∀ e2 s2 l2, Loc h0 h σ e2 s2 l2 → (s2 ≤ 2 ∨ s2 ≠ st) → Loc h0 (h.push st 1) σ e2 s2 l2 ∧ (s2 ≤ 2 ∨ s2 ≠ h.next)) → K (.sl 1 h.next (l ++ m)) (h.push st 1)) : App h 1 8 e st l 1 m zK := by
  refine c.may.app hm rfl hb (hk ?_ ?_ ?_)
  · obtain ⟨N, hN, rd⟩ := r
    exact ⟨N, hN, rd.push (by rcases c.lo with d | d; exact .inl d; exact .inr d.2.2) 1⟩
  · obtain ⟨N, hN, rd⟩ := r
    refine ⟨⟨.inr rfl, .inr (.inr (push_new _ _ _))⟩, .inr ⟨hn, by rw [push_next]; omega, fun q => ?_⟩⟩
    have := rd.sb _ q
    have := rd.lo.1
    omega
  · intro e2 s2 l2 c2 ne
    obtain ⟨N, hN, rd⟩ := r
    refine ⟨⟨c2.may.push rd.lo (by rcases c2.lo with d | d; exact .inl d; exact .inr d.2.1) ne 1, ?_⟩, ?_⟩
    · rcases c2.lo with d | ⟨d1, d2, d3⟩
      · exact .inl d
      · exact .inr ⟨d1, by rw [push_next]; omega, d3⟩
    · rcases c2.lo with d | ⟨d1, d2, d3⟩
      · exact .inl d
      · right; omega
theorem ints_el {l : List Int} {e : Nat} (h : ints l = [] ∨ e = 1) : l = [] ∨ e = 1 := h.imp (fun e => by cases l with | nil => rfl | cons a l => simp [ints] at e) id
theorem ans_eq {α : Type} {enc : α → V} {r r' : PR α} (e : r' = r) (a : Ans X wr toks en h o σ Q enc r') : Ans X wr toks en h o σ Q enc r := e ▸ a
theorem pbnd_assoc {α β γ : Type} (r : PR α) (f : PS → α → PR β) (g : PS → β → PR γ) : pbnd (pbnd r f) g = pbnd r fun s a => pbnd (f s a) g := by
  cases r <;> rfl
/-- What comes behind an alternative's items. -/
def restA (toks : List Tok) (en f k : Nat) (l : List Int) (s : PS) (l2 : List Int) : PR Int :=
  pbnd (if aheadP toks (oneP 1 l2 s).1.at' [124] then altsL toks en (altsP toks en f) k (oneP 1 l2 s).1.adv (l ++ [(oneP 1 l2 s).2]) else .ok ((oneP 1 l2 s).1, l ++ [(oneP 1 l2 s).2])) fun s1 l => .ok (oneP 2 l s1)
theorem rdAlts (L : LRd X wr) (hs : toks.length < 2 ^ 30) (hk : ∀ t ∈ toks, t.kind = 1 ∨ t.kind = 2 ∨ t.kind = 3) : ∀ f, AltS X wr toks en f
  | 0 => fun s h o σ Q h1 h2 hp r hQ => absurd h2 (by omega)
  | f + 1 => fun s h o σ Q h1 h2 hp r hQ => by
    have hA := rdAlts L hs hk f
    refine fn_any L.alts (by simp [A.rules_reader_alternatives]) fun wf => ?_
    simp [A.rules_reader_alternatives]
    unfold altsP at hQ
    refine loopI (n := toks.length + 2 - s.at') (fun m env h' => ∃ s' l e st more σ', env = [(0, .ptr o 0), (3, .sl e st (ints l)), (4, .bool more)] ∧ RE h h' o σ σ' ∧ RdP toks en h' o s' σ' ∧ Loc h h' σ' e st (ints l) ∧ s'.at' ≤ toks.length ∧ s.at' ≤ s'.at' ∧ l.length ≤ s'.at' - s.at' + 1 ∧
        (more = true → l.length ≤ s'.at' - s.at' ∧ pot toks s' + 2 ≤ 2 ^ 38 ∧ m = toks.length + 2 - s'.at' ∧ ∃ k, toks.length < k + s'.at' ∧ Ans X wr toks en h o σ Q intV (pbnd (altsL toks en (altsP toks en f) k s' l) fun s1 l => .ok (oneP 2 l s1))) ∧
        (more = false → pot toks s' ≤ 2 ^ 38 ∧ m = 0 ∧ Ans X wr toks en h o σ Q intV (.ok (oneP 2 l s')))) ?_
      ⟨s, [], 0, 1, true, σ, rfl, RE.refl _ _ _, r, Loc.nil _ _ _, h1, by omega, by simp, fun _ => ⟨by simp, by omega, rfl, toks.length + 1, by omega, hQ⟩, fun e => by cases e⟩
    rintro m env h' ⟨s', l, e, st, more, σ', rfl, g, r', lc, ha, hb, hll, hT, hF⟩
    unfold A.rules_reader_alternatives.L0
    cases more with
    | false =>
      obtain ⟨hp', rfl, hQ'⟩ := hF rfl
      have np := nodes_pot (toks := toks) s'
      simp
      refine ecall (rdOne L r' (by omega) 2 l (by omega) (ints_el lc.may.el) fun h3 σ3 g3 r3 => ?_)
      simp
      exact hQ' h3 σ3 (g.trans g3) r3
    | true =>
      obtain ⟨hll', hp', rfl, k, hk1, hQ'⟩ := hT rfl
      obtain ⟨k, rfl⟩ : ∃ k', k = k' + 1 := ⟨k - 1, by omega⟩
      simp
      refine loopI (n := toks.length - s'.at') (fun m env h2 => ∃ s2 l2 e2 st2 σ2, env = [(0, .ptr o 0), (3, .sl e st (ints l)), (5, .sl e2 st2 (ints l2))] ∧ RE h h2 o σ σ2 ∧ RdP toks en h2 o s2 σ2 ∧ Loc h h2 σ2 e st (ints l) ∧ Loc h h2 σ2 e2 st2 (ints l2) ∧ (st ≤ 2 ∨ st ≠ st2) ∧ s2.at' ≤ toks.length ∧ s'.at' ≤ s2.at' ∧ l2.length ≤ s2.at' - s'.at' ∧ pot toks s2 + 2 ≤ 2 ^ 38 ∧ m = toks.length - s2.at' ∧
          ∃ k2, toks.length < k2 + s2.at' ∧ Ans X wr toks en h o σ Q intV (pbnd (itemsP toks en (altsP toks en f) k2 s2 l2) (restA toks en f k l))) ?_
        ⟨s', [], 0, 1, σ', rfl, g, r', lc, Loc.nil _ _ _, by omega, ha, by omega, by simp, hp', rfl, toks.length + 1, by omega, ans_eq (by rw [altsL, seqP]; cases itemsP toks en (altsP toks en f) (toks.length + 1) s' [] <;> rfl) hQ'⟩
      rintro m env h2 ⟨s2, l2, e2, st2, σ2, rfl, g2, r2, lc1, lc2, ne, ha2, hb2, hl2, hp2, rfl, k2, hk2, hQ2⟩
      unfold A.rules_reader_alternatives.L1
      simp
      refine ecall (rdBegins L r2 ?_)
      have hlo2 : ∀ s, s ≤ 2 → h2.tips s = none := by obtain ⟨_, _, rd⟩ := r2; exact rd.lo.2
      have gn2 := g2.next
      cases c : bgnP toks s2.at' with
      | true =>
        have hlt := bgnP_lt c
        obtain ⟨k2, rfl⟩ : ∃ k', k2 = k' + 1 := ⟨k2 - 1, by omega⟩
        rw [itemsP, if_pos c, pbnd_assoc] at hQ2
        simp
        refine ecall (rdItem L hs hk hA r2 c (by omega) (by omega) (hQ2.pbnd0 g2 fun s3 n e3 h3 σ3 g3 r3 hQ3 => ?_))
        obtain ⟨q1, q2⟩ := item_fwd (alts_fwd f) e3
        have q3 := q2.pot
        have q4 := q2.at2
        have gn3 := g3.next
        simp [intV, fillL, V.isAgg]
        refine (lc2.from g3 hlo2).app (by omega) r3 (by simp) (by simp [ints]; omega) fun r4 lc4 oth => ?_
        obtain ⟨o1, o2⟩ := oth _ _ _ (lc1.from g3 hlo2) ne
        have hi : ints l2 ++ [V.int IntKind.i64 n] = ints (l2 ++ [n]) := by rw [ints_append]; rfl
        rw [hi] at lc4 ⊢
        simp
        exact ⟨toks.length - s3.at', by omega, iv ⟨s3, l2 ++ [n], 1, h3.next, σ3, rfl, (g2.trans g3).push (by have := lc2.lo; omega) 1, r4, o1, lc4, o2, q4, by omega, by simp; omega, by omega, rfl, k2, by omega, hQ3⟩⟩
      | false =>
        have hi : itemsP toks en (altsP toks en f) k2 s2 l2 = .ok (s2, l2) := by
          cases k2 with
          | zero => rfl
          | succ k2 => unfold itemsP; rw [if_neg (by simp [c])]
        rw [hi] at hQ2
        have np := nodes_pot (toks := toks) s2
        simp
        refine ecall (rdOne L r2 (by omega) 1 l2 (by omega) (ints_el lc2.may.el) fun h3 σ3 g3 r3 => ?_)
        have hlo3 : ∀ s, s ≤ 2 → h3.tips s = none := by obtain ⟨_, _, rd⟩ := r3; exact rd.lo.2
        have gn3 := g3.next
        obtain ⟨o1, o2⟩ := one_fwd (toks := toks) 1 l2 s2
        have hQ3 : Ans X wr toks en h o σ Q intV (restA toks en f k l s2 l2) := hQ2
        unfold restA at hQ3
        simp [fillL, V.isAgg]
        refine (lc1.from g3 hlo2).app (by omega) r3 (by simp) (by simp [ints]; omega) fun r4 lc4 oth => ?_
        have g4 := (g2.trans g3).push (s := st) (by have := lc1.lo; omega) 1
        have hi2 : ints l ++ [V.int IntKind.i64 (oneP 1 l2 s2).2] = ints (l ++ [(oneP 1 l2 s2).2]) := by rw [ints_append]; rfl
        rw [hi2] at lc4 ⊢
        simp
        refine ecall (rdTake L r4 hs _ (fun c h5 g5 r5 => ?_) (fun c => ?_))
        · rw [if_pos c] at hQ3
          have hl5 := aheadP_lt c
          have p5 := pot_adv hl5
          simp
          exact ⟨toks.length + 2 - (oneP 1 l2 s2).1.adv.at', by simp [PS.adv]; omega, iv ⟨_, l ++ [(oneP 1 l2 s2).2], 1, h3.next, true, σ3, rfl, g4.trans g5, r5, lc4.from g5 (by obtain ⟨_, _, rd⟩ := r4; exact rd.lo.2), by simp [PS.adv]; omega, by simp [PS.adv]; omega, by simp [PS.adv]; omega,
            fun _ => ⟨by simp [PS.adv]; omega, by omega, rfl, k, by simp [PS.adv]; omega, hQ3⟩, fun e => by cases e⟩⟩
        · rw [if_neg (by simp [c])] at hQ3
          simp
          exact ⟨0, by omega, iv ⟨_, l ++ [(oneP 1 l2 s2).2], 1, h3.next, false, σ3, rfl, g4, r4, lc4, by omega, by omega, by simp; omega,
            (fun e => by cases e), fun _ => ⟨by omega, rfl, hQ3⟩⟩⟩
theorem rdText (L : LRd X wr) (hs : toks.length < 2 ^ 30) (hk : ∀ t ∈ toks, t.kind = 1 ∨ t.kind = 2 ∨ t.kind = 3) (r : RdP toks en h o ⟨0, [], [], [], []⟩ σ) (hQ : Ans X wr toks en h o σ Q (fun _ => .tup []) (textP toks en)) :
    Ecx X K.rules_reader_text [.ptr o 0] h Q := by
  refine fn_any L.text (by simp [A.rules_reader_text]) fun wf => ?_
  simp [A.rules_reader_text]
  unfold textP at hQ
  refine loopI (n := toks.length + 2) (fun m env h' => ∃ s' more σ', env = [(0, .ptr o 0), (2, .bool more)] ∧ RE h h' o σ σ' ∧ RdP toks en h' o s' σ' ∧ s'.at' ≤ toks.length ∧ pot toks s' + 2 ≤ 2 ^ 38 ∧
      (more = true → m = toks.length + 2 - s'.at' ∧ ∃ k, toks.length < k + s'.at' ∧ Ans X wr toks en h o σ Q (fun _ => .tup []) (textL toks en k s')) ∧
      (more = false → m = 0 ∧ Ans X wr toks en h o σ Q (fun _ : Unit => .tup []) (.ok (s', ())))) ?_
    ⟨⟨0, [], [], [], []⟩, true, σ, rfl, RE.refl _ _ _, r, by simp, by simp [pot]; omega, fun _ => ⟨rfl, toks.length + 1, by simp, hQ⟩, fun e => by cases e⟩
  rintro m env h' ⟨s', more, σ', rfl, g, r', ha, hp, hT, hF⟩
  unfold A.rules_reader_text.L0
  cases more with
  | false =>
    obtain ⟨rfl, hQ'⟩ := hF rfl
    simp
    exact hQ' h' σ' g r'
  | true =>
    obtain ⟨rfl, k, hk1, hQ'⟩ := hT rfl
    obtain ⟨k, rfl⟩ : ∃ k', k = k' + 1 := ⟨k - 1, by omega⟩
    rw [textL] at hQ'
    have hQ0 := hQ'
    unfold ruleP at hQ'
    rw [pbnd_assoc] at hQ'
    simp
    refine ecall (rdName L r' hs ha (hQ'.pbnd0 g fun s1 u e1 h1 σ1 g1 r1 hQ1 => ?_))
    obtain ⟨rfl, hl1⟩ := name_fwd e1
    have p1 := pot_adv hl1
    obtain ⟨N, hN, rd⟩ := r1
    obtain ⟨e1, e2, e3, e4, ob, m1, m2, m3, m4⟩ := rd.ob
    have hlt1 := rd.lt
    have n1 : ¬ o = h1.nobj := by omega
    have n3 : ¬ h1.nobj = o := by omega
    have np := nodes_pot (toks := toks) s'
    have hgl : s'.adv.given.length = s'.given.length := rfl
    rw [pbnd_assoc] at hQ1
    simp [useV, V.cells, V.good, setAt, ob, n1, n3, fillL, V.isAgg]
    refine (show May 2 (h1.new [V.str u.name, V.int IntKind.i64 (u.at' : Nat)]) e3 σ1.c (s'.adv.given.map useV) from ⟨m3.el, m3.st⟩).app (by simp) rfl (by simp; omega) ?_
    simp [V.cells, V.good, setAt, push_objs, ob, n1, n3]
    obtain ⟨r2, g2⟩ := (rd.new [V.str u.name, V.int IntKind.i64 (u.at' : Nat)]).pushG (by rw [new_objs_ne _ _ n1]; exact ob) (.agg [V.str u.name, V.int IntKind.i64 (u.at' : Nat)])
    have hu : (giveP u s'.adv).given.map useV = s'.adv.given.map useV ++ [.agg [V.str u.name, V.int IntKind.i64 (u.at' : Nat)]] := by simp [giveP, useV]
    have g3 := (((g.trans g1).new [V.str u.name, V.int IntKind.i64 (u.at' : Nat)])).trans g2
    have hx : (((h1.new [V.str u.name, V.int IntKind.i64 (u.at' : Nat)]).push σ1.c 2).set o [V.sl 3 0 (List.map tokV toks), .int .i64 (s'.adv.at' : Nat), .int .i64 (en : Nat), .sl e1 σ1.a (s'.adv.rules.map rlV), .sl e2 σ1.b N, .sl 2 h1.next (s'.adv.given.map useV ++ [.agg [V.str u.name, V.int IntKind.i64 (u.at' : Nat)]]), .sl e4 σ1.d (s'.adv.used.map useV)]).objs h1.nobj = [V.str u.name, V.int IntKind.i64 (u.at' : Nat)] := by
      rw [set_objs_ne _ _ _ n3, push_objs]; exact new_objs_same _ _
    have hxn : h1.nobj < (((h1.new [V.str u.name, V.int IntKind.i64 (u.at' : Nat)]).push σ1.c 2).set o [V.sl 3 0 (List.map tokV toks), .int .i64 (s'.adv.at' : Nat), .int .i64 (en : Nat), .sl e1 σ1.a (s'.adv.rules.map rlV), .sl e2 σ1.b N, .sl 2 h1.next (s'.adv.given.map useV ++ [.agg [V.str u.name, V.int IntKind.i64 (u.at' : Nat)]]), .sl e4 σ1.d (s'.adv.used.map useV)]).nobj := by
      rw [set_nobj, push_nobj, new_nobj]; omega
    have r2' : RdP toks en _ o (giveP u s'.adv) _ := ⟨N, hN, by rw [hu]; exact r2⟩
    change RdP toks en (((h1.new [V.str u.name, V.int IntKind.i64 (u.at' : Nat)]).push σ1.c 2).set o [V.sl 3 0 (List.map tokV toks), .int .i64 (s'.adv.at' : Nat), .int .i64 (en : Nat), .sl e1 σ1.a (s'.adv.rules.map rlV), .sl e2 σ1.b N, .sl 2 h1.next (s'.adv.given.map useV ++ [.agg [V.str u.name, V.int IntKind.i64 (u.at' : Nat)]]), .sl e4 σ1.d (s'.adv.used.map useV)]) _ _ _ at r2'
    have q1 : ¬ h1.nobj = o := n3
    clear r2
    change RE h (((h1.new [V.str u.name, V.int IntKind.i64 (u.at' : Nat)]).push σ1.c 2).set o [V.sl 3 0 (List.map tokV toks), .int .i64 (s'.adv.at' : Nat), .int .i64 (en : Nat), .sl e1 σ1.a (s'.adv.rules.map rlV), .sl e2 σ1.b N, .sl 2 h1.next (s'.adv.given.map useV ++ [.agg [V.str u.name, V.int IntKind.i64 (u.at' : Nat)]]), .sl e4 σ1.d (s'.adv.used.map useV)]) _ _ _ at g3
    generalize (((h1.new [V.str u.name, V.int IntKind.i64 (u.at' : Nat)]).push σ1.c 2).set o [V.sl 3 0 (List.map tokV toks), .int .i64 (s'.adv.at' : Nat), .int .i64 (en : Nat), .sl e1 σ1.a (s'.adv.rules.map rlV), .sl e2 σ1.b N, .sl 2 h1.next (s'.adv.given.map useV ++ [.agg [V.str u.name, V.int IntKind.i64 (u.at' : Nat)]]), .sl e4 σ1.d (s'.adv.used.map useV)]) = h2 at *
    have hat : (giveP u s'.adv).at' = s'.at' + 1 := rfl
    refine ecall (rdMust L r2' hs (by omega) _ (hQ1.pbnd0 g3 fun s3 _ e3 h3 σ3 g4 r3 hQ3 => ?_))
    obtain ⟨rfl, hl3⟩ := must_fwd e3
    have hx3 := (g4.objs h1.nobj hxn q1).trans hx
    have hxn3 := g4.nobj
    have p3 := pot_adv hl3
    have pg : pot toks (giveP u s'.adv) = pot toks s'.adv + 1 := by simp [pot, giveP]; omega
    rw [pbnd_assoc] at hQ3
    simp
    refine ecall (rdAlts L hs hk _ _ _ _ _ _ (by simp [PS.adv, hat] at *; omega) (by omega) (by omega) r3 (hQ3.pbnd0 (g3.trans g4) fun s4 n e4 h4 σ4 g5 r4 hQ4 => ?_))
    have fw4 := alts_fwd _ _ _ _ (by simp [PS.adv, hat] at *; omega) e4
    have f4p := fw4.pot
    have hx4 := (g5.objs h1.nobj (by omega) q1).trans hx3
    have hxn4 := g5.nobj
    rw [pbnd_assoc] at hQ4
    simp [intV]
    refine ecall (rdMust L r4 hs fw4.at2 _ (hQ4.pbnd0 ((g3.trans g4).trans g5) fun s5 _ e5 h5 σ5 g6 r5 hQ5 => ?_))
    obtain ⟨rfl, hl5⟩ := must_fwd e5
    have p5 := pot_adv hl5
    have hx5 := (g6.objs h1.nobj (by omega) q1).trans hx4
    obtain ⟨N5, hN5, rd5⟩ := r5
    obtain ⟨f1, f2, f3, f4, ob5, k1, k2, k3, k4⟩ := rd5.ob
    have np5 := nodes_pot (toks := toks) s4
    have hrl : s4.adv.rules.length = s4.rules.length := rfl
    simp [ob5, hx5, V.cells, V.good, setAt, fillL, fillV, V.isAgg]
    refine k1.app (by simp) rfl (by simp; omega) ?_
    obtain ⟨r6, g7⟩ := rd5.pushR ob5 (.agg [V.str u.name, V.int IntKind.i64 n])
    simp [V.cells, V.good, setAt, push_objs, ob5]
    have hr6 : ({ s4.adv with rules := s4.adv.rules ++ [⟨u.name, n⟩] } : PS).rules.map rlV = s4.adv.rules.map rlV ++ [.agg [V.str u.name, V.int IntKind.i64 n]] := by simp [rlV, rlC]
    have r6' : RdP toks en _ o ({ s4.adv with rules := s4.adv.rules ++ [⟨u.name, n⟩] } : PS) _ := ⟨N5, hN5, by rw [hr6]; exact r6⟩
    have pr6 : pot toks ({ s4.adv with rules := s4.adv.rules ++ [⟨u.name, n⟩] } : PS) = pot toks s4.adv + 1 := by simp [pot]; omega
    have gA := (((g3.trans g4).trans g5).trans g6).trans g7
    have ha4 := fw4.at1
    have e4a : s4.adv.at' = s4.at' + 1 := rfl
    have e5a : (giveP u s'.adv).adv.at' = s'.at' + 2 := rfl
    by_cases cc : s4.at' + 1 < toks.length
    · have hQ6 : Ans X wr toks en h o σ Q (fun _ : Unit => .tup []) (if s4.at' + 1 < toks.length then textL toks en k ({ s4.adv with rules := s4.adv.rules ++ [⟨u.name, n⟩] } : PS) else .ok (({ s4.adv with rules := s4.adv.rules ++ [⟨u.name, n⟩] } : PS), ())) := hQ5
      rw [if_pos cc] at hQ6
      exact ⟨toks.length + 2 - (s4.at' + 1), by omega, iv ⟨_, true, _, by simp [e4a]; omega, gA, r6', by show s4.at' + 1 ≤ _; omega, by omega, fun _ => ⟨rfl, k, by show toks.length < k + (s4.at' + 1); omega, hQ6⟩, fun e => by cases e⟩⟩
    · have hQ6 : Ans X wr toks en h o σ Q (fun _ : Unit => .tup []) (if s4.at' + 1 < toks.length then textL toks en k ({ s4.adv with rules := s4.adv.rules ++ [⟨u.name, n⟩] } : PS) else .ok (({ s4.adv with rules := s4.adv.rules ++ [⟨u.name, n⟩] } : PS), ())) := hQ5
      rw [if_neg cc] at hQ6
      exact ⟨0, by omega, iv ⟨_, false, _, by simp [e4a]; omega, gA, r6', by show s4.at' + 1 ≤ _; omega, by omega, fun e => (by cases e), fun _ => ⟨rfl, hQ6⟩⟩⟩
end
end Go.Proofs.Ytecgbggobecpjaa.Al
namespace Go.Proofs.Ytecgbggobecpjaa.Al
open Go Go.RowKit
set_option linter.unusedSimpArgs false
set_option linter.unusedVariables false
attribute [-simp] List.getD_eq_getElem?_getD Int.not_lt Int.not_le List.map_take List.map_map
/-! ### What holds where calls panic may be another thing -/
theorem Rel.z {X X' : Cx} (ht : X'.tbl = X.tbl) {g : Gh} {w : World} {h : AH} {v : V} {x : Value} (r : Rel X g w h v x) : Rel X' g w h v x := by
  induction r with
  | bool b => exact .bool b
  | int k n => exact .int k n
  | str s => exact .str s
  | slnil e st hst => exact .slnil e st hst
  | slemp e a => exact .slemp e a
  | sl e st l b' off cap x h1 hs hcap he hc ho hp hr h2 h3 ih => exact .sl e st l b' off cap x h1 hs hcap he hc ho hp ih h2 h3
  | agg l cs hl ho hr ih => exact .agg l cs hl ho ih
  | ptr o off hn hm => exact .ptr o off hn hm
  | mapr o hn hm => exact .mapr o hn hm
  | mapn => exact .mapn
  | osl e o off len cap c hn hm hc hk => exact .osl e o off len cap c hn hm hc hk
  | rptr l off b' base x hc ho hp hr ih => exact .rptr l off b' base x hc ho hp ih
  | nilp => exact .nilp
  | fn f first cap fs cs h0 hf hcl hr1 hr2 ih1 ih2 => rw [← ht]; exact .fn f first cap fs cs h0 hf hcl ih1 ih2
  | nilf => exact .nilf
  | tup l cs hl hr ih => exact .tup l cs hl ih
  | cval c => exact .cval c
  | undef v => exact .undef v
theorem Inv.z {X X' : Cx} (ht : X'.tbl = X.tbl) (hw : X'.W0 = X.W0) {g : Gh} {w : World} {h : AH} (I : Inv X g w h) : Inv X' g w h where
  below := by rw [hw]; exact I.below
  next := I.next
  objs o ho hm hne := by
    obtain ⟨cs, t, a, b, c, d⟩ := I.objs o ho hm hne
    exact ⟨cs, t, a, b, c, fun i i1 i2 => (d i i1 i2).z ht⟩
  maps o ho hm := by
    obtain ⟨es, a, b, c, d⟩ := I.maps o ho hm
    exact ⟨es, a, b, c, fun i i1 i2 => (d i i1 i2).z ht⟩
  objL := I.objL
  objB := by rw [hw]; exact I.objB
  objI := I.objI
  tipB := by rw [hw]; exact I.tipB
  tipI := I.tipI
  tipO := I.tipO
  pubB := I.pubB
/-- An object's cell in the world. -/
theorem Inv.cell {X : Cx} {g : Gh} {w : World} {h : AH} (I : Inv X g w h) {o : Nat} (hn : o < h.nobj) (hm : g.mp o = false) {i : Nat} {v : V} (hv : (h.objs o)[i]? = some v) :
    ∃ x, w.cell? ⟨g.obj o, i, none⟩ = some x ∧ Rel X g w h v x ∧ w.frozen? ⟨g.obj o, i, none⟩ = false := by
  obtain ⟨hi, rfl⟩ := List.getElem?_eq_some_iff.1 hv
  obtain ⟨cs, t, c1, c2, c3, c4⟩ := I.objs o hn hm (fun e => by rw [e] at hi; simp at hi)
  have hci : i < cs.size := by omega
  refine ⟨cs[i], ?_, c4 i hi hci, ?_⟩
  · simp [World.cell?, c1, hci]
  · simp [World.frozen?, c1]
/-- The value with which a reader gives up. -/
def wrongV (n : Int) : Value := .iface 83 (.int .i64 n)
theorem fail_ok {X : Cx} (H : Has (Ecx X) K.rules_reader_fail A.rules_reader_fail) (toks : List Tok) (en a o : Nat) (rest : List V) (h : AH) (Q : V → AH → Prop) (ob : h.objs o = .sl 3 0 (toks.map tokV) :: .int .i64 (a : Nat) :: .int .i64 (en : Nat) :: rest)
    (hs : toks.length < 2 ^ 30) (ha : a < 2 ^ 30) (hZ : X.Z (wrongV (plcP toks en a : Nat)) h) : Ecx X K.rules_reader_fail [.ptr o 0] h Q := by
  refine fn_any H (by simp [A.rules_reader_fail]) fun wf => ?_
  by_cases hlt : a < toks.length
  · have hlt' : (a : Int) < toks.length := by omega
    have hg : (toks.map tokV).getD a .undef = .agg (tokC toks[a]) := toks_getD hlt
    have hp : plcP toks en a = toks[a].at' := by simp [plcP, hlt]
    rw [hp] at hZ
    simp [A.rules_reader_fail, ob, hlt', hg, tokC, V.cells]
    exact dcallE .undef h (ecx_pan hZ) ⟨by simp, by simp⟩
  · have hlt' : ¬ (a : Int) < toks.length := by omega
    have hp : plcP toks en a = en := by simp [plcP, hlt]
    rw [hp] at hZ
    simp [A.rules_reader_fail, ob, hlt']
    exact ecall (ecx_pan hZ)
theorem assert_wrong (n : Int) (w : World) : (Instr.typeAssert (.iface 83 (.int .i64 n)) 20 83 true).run Try.prog w = .ok (.tuple #[.int .i64 n, .bool true]) w := by
  simp [Instr.typeAssert, run_underlying Try.underlying83]
theorem assert_nil (w : World) : (Instr.typeAssert .nilIface 20 83 true).run Try.prog w = .ok (.tuple #[.int .i64 0, .bool false]) w := by
  have hz : (zeroValue 83).run Try.prog w = .ok (.int .i64 0) w := by
    have h0 : (Try.prog.info? 83).bind (fun i => i.zero) = some (Value.int .i64 0) := by kernel_rfl
    obtain ⟨i, h1, h2⟩ := Option.bind_eq_some_iff.1 h0
    exact run_zero h1 h2 w
  simp [Instr.typeAssert, run_underlying Try.underlying83, hz]
set_option maxRecDepth 10000 in
theorem catch_panicking (p : Addr) (n x : Int) (older : List PanicEntry) (w : World) (hc : w.cell? p = some (.int .i64 x)) (hz : w.frozen? p = false) :
    CallsD Try.prog 34 #[.pointer (some p)] (.panicking ({ v := wrongV n, recovered := false } :: older)) w fun e u' w' =>
      e = .returned (.tuple #[]) ∧ u' = .panicking ({ v := wrongV n, recovered := true } :: older) ∧ w' = w.setCell p (.int .i64 n) := by
  unfold wrongV
  have ha := assert_wrong n
  refine callsD_of_wpS Try.func34 rfl fun c₀ cs hu => ?_
  apply wpS_seq
  apply wpS_region
  simp [wpOpsS, go_sem, recoverD, hu, Try.ntmps34, Exit.thenS, ha]
  apply wpS_seq
  apply wpS_region
  simp [wpOpsS, go_sem, Exit.thenS]
  refine wpS_cond (t := true) (by simp [Act.eval, Array.replicate]) ?_
  simp only [if_true]
  apply wpS_region
  simp [wpOpsS, go_sem, hc, hz, bodyPostS, results, Try.results34]
set_option maxRecDepth 10000 in
theorem catch_idle (p : Addr) (w : World) :
    CallsD Try.prog 34 #[.pointer (some p)] .returning w fun e u' w' => e = .returned (.tuple #[]) ∧ u' = .returning ∧ w' = w := by
  have ha := assert_nil
  refine callsD_of_wpS Try.func34 rfl fun c₀ cs hu => ?_
  apply wpS_seq
  apply wpS_region
  simp [wpOpsS, go_sem, recoverD, hu, Try.ntmps34, Exit.thenS, ha]
  apply wpS_seq
  apply wpS_region
  simp [wpOpsS, go_sem, Exit.thenS]
  refine wpS_cond (t := false) (by simp [Act.eval, Array.replicate]) ?_
  simp only [Bool.false_eq_true, if_false]
  refine wpS_of_wp (wp_skip ?_)
  cases c₀
  simp_all [bodyPostS, results, Try.results34]
theorem Inv.toZ {W : World} {Z Z' : Value → AH → Prop} {g : Gh} {w : World} {h : AH} (I : Inv (cxZ W Z) g w h) : Inv (cxZ W Z') g w h := Inv.z (X := cxZ W Z) (X' := cxZ W Z') rfl rfl I
theorem Rel.toZ {W : World} {Z Z' : Value → AH → Prop} {g : Gh} {w : World} {h : AH} {v : V} {x : Value} (r : Rel (cxZ W Z) g w h v x) : Rel (cxZ W Z') g w h v x := Rel.z (X := cxZ W Z) (X' := cxZ W Z') rfl r
theorem parse_ok (W : World) (LR : ∀ Z, LRd (cxZ W Z) wrongV) {toks : List Tok} {en : Nat} {h : AH} {o : Nat} {σ : S4} {Q : V → AH → Prop} (r : RdP toks en h o ⟨0, [], [], [], []⟩ σ) (hs : toks.length < 2 ^ 30) (hk : ∀ t ∈ toks, t.kind = 1 ∨ t.kind = 2 ∨ t.kind = 3)
    (hT : ∀ s, textP toks en = .ok (s, ()) → ∀ h1 σ1, RE h h1 o σ σ1 → RdP toks en h1 o s σ1 → Q (.int .i64 (-1)) h1) (hF : ∀ p, textP toks en = .error p → ∀ h1 σ1, RE h h1 o σ σ1 → Q (.int .i64 (p : Nat)) h1) :
    Ecx (cxOf W) K.rules_reader_parse [.ptr o 0] h Q := by
  intro g w cargs I rl
  have hsz : cargs.size = 1 := by have := rl.1; simpa using this.symm
  have r0 := rl.2 0 (by simp) (by omega)
  simp only [List.getElem_cons_zero] at r0
  have hc : ∃ a, cargs = #[a] ∧ Rel (cxOf W) g w h (.ptr o 0) a := ⟨cargs[0], by
    refine Array.ext (by simp [hsz]) fun i h1 h2 => ?_
    have : i = 0 := by omega
    subst this; rfl, r0⟩
  obtain ⟨a0, rfl, r0⟩ := hc
  cases r0 with
  | ptr _ _ hn hm =>
  -- the result's cell
  obtain ⟨g1, I1, S1, b1, b2⟩ := new_obj I [.int .i64 0] #[.int .i64 0] 3 (by simp) (by simp [Value.oneCell']) (fun i i1 i2 => by
    have : i = 0 := by simpa using i1
    subst this; exact .int _ _)
  have g1o : g1.obj o = g.obj o := S1.obj o hn
  have g1m : g1.mp o = false := (S1.mp o hn).trans hm
  have n1 : ¬ h.nobj = o := by omega
  obtain ⟨N, hN, rd⟩ := id r
  have r1 : RdP toks en (h.new [.int .i64 0]) o ⟨0, [], [], [], []⟩ σ := ⟨N, hN, rd.new _⟩
  have g0 := (RE.refl h o σ).new [.int .i64 0]
  refine .inl ⟨_, by decide, by exact Try.func16, by kernel_rfl, by kernel_rfl, ?_⟩
  show Calls Try.prog 16 _ _ _
  have hmf : ∀ (fn : Fn) (first cap : Array Value) (w : World), (Instr.makeFunc fn first cap).run Try.prog w = .ok (.func fn first cap) w := fun _ _ _ _ => rfl
  go_enter_defers Try.func16, Try.ntmps16
  refine wp_seq (wp_region_list ?_)
  refine wpList_step fun K1 hK1 => ?_
  simp [Region.wanted, Oper.wp, go_sem]
  refine hK1 _ _ (wpList_nil ?_)
  refine wp_seq (wp_region_list ?_)
  refine wpList_step fun K2 hK2 => ?_
  simp [Region.wanted, Oper.wp, go_sem, hmf]
  refine hK2 _ _ ?_
  refine wpList_step fun K3 hK3 => ?_
  simp [Region.wanted, Oper.wp, go_sem]
  refine hK3 _ _ (wpList_nil ?_)
  refine wp_seq (wp_region_list ?_)
  refine wpList_step fun K4 hK4 => ?_
  simp [Region.wanted, Oper.wp, go_sem]
  refine hK4 _ _ ?_
  refine wpList_step fun K5 hK5 => ?_
  rw [if_pos (by simp [Region.wanted])]
  unfold Oper.wp
  have hrun : ∀ (a : Act) (w : World) (o : Oper), o.op = .call { callee := .value (.func 35), args := #[.tmp 4], argTypes := #[55] } → (execOp a.eval o : Sem Next).run Try.prog w = (callFunc 35 #[a.eval (.tmp 4)]).run Try.prog w := fun a w o ho => by
    obtain ⟨dst, op, type, pos, after, guard⟩ := o
    simp only at ho; subst ho
    simp [execOp, resolve, Deferred.ofValue, invoke, Act.eval]
  rw [hrun _ _ _ rfl]
  have rp1 : Rel (cxOf W) g1 (w.alloc (.cells #[.int .i64 0] 3)) (h.new [.int .i64 0]) (.ptr o 0) (.pointer (some ⟨g.obj o, 0, none⟩)) := by
    rw [← g1o]; exact .ptr o 0 (by simp; omega) g1m
  have c5 := rdText (X := cxZ W fun v h2 => ∃ p σ1, v = wrongV (p : Nat) ∧ textP toks en = .error p ∧ RE h h2 o σ σ1 ∧ RE (h.new [.int .i64 0]) h2 o σ σ1) (wr := wrongV) (LR _) hs hk r1
    (Q := fun v h2 => ∃ s σ1, textP toks en = .ok (s, ()) ∧ RE h h2 o σ σ1 ∧ RE (h.new [.int .i64 0]) h2 o σ σ1 ∧ RdP toks en h2 o s σ1) (by
      cases ht : textP toks en with
      | error p => exact fun h1 σ1 g => ⟨p, σ1, rfl, rfl, g0.trans g, g⟩
      | ok x => obtain ⟨s, u⟩ := x; exact fun h1 σ1 g rd => ⟨s, σ1, rfl, g0.trans g, g, rd⟩)
  have c6 := c5 g1 (w.alloc (.cells #[.int .i64 0] 3)) #[.pointer (some ⟨g.obj o, 0, none⟩)] I1.toZ ⟨rfl, fun i i1 i2 => by
    have : i = 0 := by simpa using i1
    subst this; exact rp1.toZ⟩
  have hnew : h.nobj < (h.new [V.int .i64 0]).nobj := by simp
  have hcell : ∀ (h2 : AH) (g2 : Gh) (w2 : World) (σ1 : S4), h2.objs h.nobj = [.int .i64 0] → (h.new [V.int .i64 0]).nobj ≤ h2.nobj → g2.obj h.nobj = w.heap.size → g2.mp h.nobj = false → Inv (cxOf W) g2 w2 h2 → ∀ n : Int,
      w2.cell? ⟨w.heap.size, 0, none⟩ = some (.int .i64 0) ∧ w2.frozen? ⟨w.heap.size, 0, none⟩ = false ∧ Inv (cxOf W) g2 (w2.setCell ⟨w.heap.size, 0, none⟩ (.int .i64 n)) (h2.set h.nobj [.int .i64 n]) ∧
      Stp g2 w2 h2 g2 (w2.setCell ⟨w.heap.size, 0, none⟩ (.int .i64 n)) (h2.set h.nobj [.int .i64 n]) := fun h2 g2 w2 σ1 ho hb hg hm2 I2 n => by
    obtain ⟨x, k1, k2, k3⟩ := I2.cell (o := h.nobj) (by simp at hb; omega) hm2 (i := 0) (v := .int .i64 0) (by rw [ho]; rfl)
    rw [hg] at k1 k3
    cases k2
    obtain ⟨w3, e3, I3, S3⟩ := store_obj I2 h.nobj 0 (by simp at hb; omega) hm2 (by rw [ho]; simp) [.int .i64 n] [.int .i64 n] rfl (by rw [ho]; simp) (fun i hi => by
      have : i = 0 := by simpa using hi
      subst this; rfl) (fun i i1 i2 => by
      have : i = 0 := by simpa using i1
      subst this; exact .int _ _)
    rw [hg] at e3
    have : w3 = w2.setCell ⟨w.heap.size, 0, none⟩ (.int .i64 n) := by
      simp [storeCells, go_sem, k1, k3] at e3
      exact e3.symm
    subst this
    rw [ho] at I3 S3
    exact ⟨k1, k3, I3, S3⟩
  refine call_upon (k := K.rules_reader_text) (by decide) c6 (fun x w2 z => ?_) (fun p w2 z => ?_)
  · obtain ⟨v, h2, g2, ⟨s, σ1, ht, q1, q2, q3⟩, I2, _, S2⟩ := z
    have I2' : Inv (cxOf W) g2 w2 h2 := I2.toZ
    obtain ⟨k1, k2, I3, S3⟩ := hcell h2 g2 w2 σ1 (by rw [q2.objs _ hnew n1]; simp) q2.nobj ((S2.obj _ hnew).trans b1) ((S2.mp _ hnew).trans b2) I2' (-1)
    refine hK5 _ _ (wpList_nil ?_)
    refine wp_seq (wp_region_list ?_)
    refine wpList_step fun K6 hK6 => ?_
    simp [Region.wanted, Oper.wp, go_sem, k1, k2]
    refine hK6 _ _ (wpList_nil ?_)
    refine wp_ret ?_
    have hr := hT s ht _ σ1 (q1.set (.inr (Nat.le_refl _)) [.int .i64 (-1)]) (by
      obtain ⟨N3, hN3, rd3⟩ := q3
      exact ⟨N3, hN3, rd3.other n1 _⟩)
    refine leaves_cons (f := 34) (args := #[.pointer (some ⟨w.heap.size, 0, none⟩)]) (by simp) (by simp [go_sem]) ?_
    refine (catch_idle ⟨w.heap.size, 0, none⟩ _).mono ?_
    rintro e u' w'' ⟨rfl, rfl, rfl⟩
    have hc3 : (w2.setCell ⟨w.heap.size, 0, none⟩ (.int .i64 (-1))).cell? ⟨w.heap.size, 0, none⟩ = some (.int .i64 (-1)) := by simp [go_sem, k1]
    simp [Leaves, settle, results, Try.results16, go_sem, hc3]
    exact ⟨_, _, hr, g2, I3, .int _ _, (S1.trans S2).trans S3⟩
  · obtain ⟨h2, g2, ⟨p, σ1, rfl, ht, q1, q2⟩, I2, S2⟩ := z
    have I2' : Inv (cxOf W) g2 w2 h2 := I2.toZ
    obtain ⟨k1, k2, I3, S3⟩ := hcell h2 g2 w2 σ1 (by rw [q2.objs _ hnew n1]; simp) q2.nobj ((S2.obj _ hnew).trans b1) ((S2.mp _ hnew).trans b2) I2' p
    have hr := hF p ht _ σ1 (q1.set (.inr (Nat.le_refl _)) [.int .i64 (p : Nat)])
    refine leaves_cons (f := 34) (args := #[.pointer (some ⟨w.heap.size, 0, none⟩)]) (by simp) (by simp [go_sem]) ?_
    refine (catch_panicking ⟨w.heap.size, 0, none⟩ p 0 [] _ k1 k2).mono ?_
    rintro e u' w'' ⟨rfl, rfl, rfl⟩
    have hc3 : (w2.setCell ⟨w.heap.size, 0, none⟩ (.int .i64 (p : Nat))).cell? ⟨w.heap.size, 0, none⟩ = some (.int .i64 (p : Nat)) := by simp [go_sem, k1]
    simp [Leaves, settle, results, Try.results16, go_sem, hc3]
    exact ⟨_, _, hr, g2, I3, .int _ _, (S1.trans S2).trans S3⟩
end Go.Proofs.Ytecgbggobecpjaa.Al
namespace Go.Proofs.Ytecgbggobecpjaa.Al
open Go Go.RowKit
set_option linter.unusedSimpArgs false
set_option linter.unusedVariables false
attribute [-simp] List.getD_eq_getElem?_getD Int.not_lt Int.not_le List.map_take
/-- What becomes of a word from a place on. -/
def appF (w : List Int) : List Ed → Nat → List Int
  | [], i => w.drop i
  | x :: l, i => (w.take x.at'.toNat).drop i ++ (if x.drop = true then appF w l (x.at'.toNat + 1) else x.tok :: appF w l x.at'.toNat)
end Go.Proofs.Ytecgbggobecpjaa.Al
namespace Go.Proofs.Ytecgbggobecpjaa.Al
open Go Go.RowKit
set_option linter.unusedSimpArgs false
set_option linter.unusedVariables false
attribute [-simp] List.getD_eq_getElem?_getD Int.not_lt Int.not_le List.map_take
/-- Objects of Apply: how many tokens were put (m), and the first 24 of them (o). -/
structure PO (h0 h : AH) (m o : Nat) (L : List Int) : Prop where
  own : ∃ e st, Own h0 h 1 e st (ints (L.take 24)) ∧ h.objs o = [.sl e st (ints (L.take 24))]
  many : h.objs m = [.int .i64 L.length]
  hm : h0.nobj ≤ m
  ho : h0.nobj ≤ o
  ne : ¬ m = o
  lm : m < h.nobj
  lo : o < h.nobj
theorem PO.new {h0 h : AH} {m o : Nat} {L : List Int} (p : PO h0 h m o L) (z : List V) : PO h0 (h.new z) m o L := by
  obtain ⟨e, st, ow, ob⟩ := p.own
  have := p.lm
  have := p.lo
  exact ⟨⟨e, st, ⟨ow.gr.new z, ow.el, ow.st⟩, by rw [new_objs_ne _ _ (by omega)]; exact ob⟩, by rw [new_objs_ne _ _ (by omega)]; exact p.many, p.hm, p.ho, p.ne, by simp; omega, by simp; omega⟩
theorem PO.set {h0 h : AH} {m o : Nat} {L : List Int} (p : PO h0 h m o L) {q : Nat} (hq : h0.nobj ≤ q) (h1 : ¬ m = q) (h2 : ¬ o = q) (z : List V) : PO h0 (h.set q z) m o L := by
  obtain ⟨e, st, ow, ob⟩ := p.own
  exact ⟨⟨e, st, ⟨ow.gr.set hq z, ow.el, ow.st⟩, by rw [set_objs_ne _ _ _ h2]; exact ob⟩, by rw [set_objs_ne _ _ _ h1]; exact p.many, p.hm, p.ho, p.ne, p.lm, p.lo⟩
theorem PO.gr {h0 h : AH} {m o : Nat} {L : List Int} (p : PO h0 h m o L) : Gr h0 h := by obtain ⟨e, st, ow, _⟩ := p.own; exact ow.gr
end Go.Proofs.Ytecgbggobecpjaa.Al
namespace Go.Proofs.Ytecgbggobecpjaa.Al
open Go Go.RowKit
set_option linter.unusedSimpArgs false
set_option linter.unusedVariables false
attribute [-simp] List.getD_eq_getElem?_getD Int.not_lt Int.not_le List.map_take
/-- A symbol, a production, a grammar. -/
structure Sy where
  non : Bool
  n : Int
  deriving DecidableEq
structure Pr where
  left : Int
  right : List Sy
  deriving DecidableEq
structure Gm where
  terms : Int
  nons : Int
  start : Int
  prods : List Pr
  deriving DecidableEq
def symC (s : Sy) : List V := [.bool s.non, .int .i64 s.n]
def symV (s : Sy) : V := .agg (symC s)
def prC (p : Pr) : List V := [.int .i64 p.left, .sl 2 0 (p.right.map symV)]
def prV (p : Pr) : V := .agg (prC p)
theorem Wk.a4 {d d' : V} (w : Wk d d') (a b c : V) : Wk (.agg [a, b, c, d]) (.agg [a, b, c, d']) := .agg _ _ rfl fun i h1 h2 => by
  match i with
  | 0 => exact .same _
  | 1 => exact .same _
  | 2 => exact .same _
  | 3 => exact w
  | n + 4 => simp at h1; omega
section
variable {X : Cx} {h : AH} {Q : V → AH → Prop}
/-! ### A nonterminal's productions -/
/-! ### A copy -/
end
end Go.Proofs.Ytecgbggobecpjaa.Al
namespace Go.Proofs.Ytecgbggobecpjaa.Al
open Go Go.RowKit
set_option linter.unusedSimpArgs false
set_option linter.unusedVariables false
attribute [-simp] List.getD_eq_getElem?_getD Int.not_lt Int.not_le List.map_take
section
variable {X : Cx} {h : AH} {Q : V → AH → Prop}
/-- Numbers that lie in an object, against numbers. -/
theorem eqO_spec (H : Has (Ecx X) K.slices_Equal_int A.slices_Equal_int) (a b : List Int) {o off c t n : Nat} {l : List V} (hn : a.length = n) (ho : h.objs o = l) (hoff : off + n ≤ l.length) (hl : (l.drop off).take n = ints a) (ha : n < 2 ^ 62)
    (hQ : Q (.bool (decide (a = b))) h) : Ecx X K.slices_Equal_int [.osl 1 o off n c, .sl 1 t (ints b)] h Q := by
  subst hn
  refine fn_walk H (by simp [A.slices_Equal_int]) fun wf => ?_
  by_cases hl' : (a.length : Int) = b.length
  · simp [A.slices_Equal_int, hl']
    refine loopI (n := a.length) (fun m env h' => ∃ k, k ≤ a.length ∧ m = a.length - k ∧ h' = h ∧ env = [(0, .osl 1 o off a.length c), (1, .sl 1 t (ints b)), (12, .int .i64 b.length), (13, .int .i64 k)] ∧ a.take k = b.take k) ?_ ⟨0, by omega, by omega, rfl, by rfl, rfl⟩
    rintro m env h' ⟨k, hk, rfl, rfl, rfl, he⟩
    unfold A.slices_Equal_int.L0
    by_cases hlt : k < a.length
    · have hlt' : (k : Int) < b.length := by omega
      have hlb : k < b.length := by omega
      have hga : l.getD (off + k) .undef = (V.int .i64) a[k] := by
        have : ((l.drop off).take a.length)[k]? = (ints a)[k]? := by rw [hl]
        rw [List.getElem?_take, if_pos hlt, List.getElem?_drop] at this
        simp only [List.getD_eq_getElem?_getD, this]
        simp [ints, hlt]
      have hgb := ints_get hlb
      have hr : off + k < l.length := by omega
      have hw1 : IntKind.i64.wrap ((k : Int) + 1) = ((k + 1 : Nat) : Int) := by rw [wrap_i64 (by omega) (by omega)]; rfl
      by_cases e : a[k] = b[k]
      · simp [hl', hlt', hlt, hga, hgb, V.cells, V.good, e, hw1, ho, hr]
        exact ⟨a.length - (k + 1), by omega, iv ⟨k + 1, by omega, rfl, rfl, rfl, take_ext2 hlt hlb he e⟩⟩
      · have hf : decide (a = b) = false := by
          simp only [decide_eq_false_iff_not]; rintro rfl; exact e rfl
        rw [hf] at hQ
        simp [hl', hlt', hlt, hga, hgb, V.cells, e, ho, hr]; exact fin (by simp) hQ
    · have hlt' : ¬ (k : Int) < b.length := by omega
      simp [hl', hlt']
      refine fin (by simp) ?_
      have hk : k = a.length := by omega
      rw [hk, List.take_length, show a.length = b.length by omega, List.take_length] at he
      simpa [he] using hQ
  · simp [A.slices_Equal_int, hl']
    refine fin (by simp) ?_
    have : decide (a = b) = false := by simp; intro h; exact hl' (by rw [h])
    rw [this] at hQ; exact hQ
theorem ruRight1_spec (L : LRu X) (r : Rl) {o : Nat} {n : Rl} (ho : h.objs o = rlC n) (hob : o < h.nobj) (hQ : Q (.bool (decide (r.name = n.name))) h) : Ecx X K.rules_Right_1 [rlV r, .ptr o 0] h Q := by
  refine fn_walk L.right1 (by simp [A.rules_Right_1]) fun wf => ?_
  have gr := (Gr.refl h).new (rlC r)
  have n1 : ¬ o = h.nobj := by omega
  have hnc : rlC n = [.str n.name, .int .i64 n.body] := rfl
  have hrc : rlC r = [.str r.name, .int .i64 r.body] := rfl
  simp [A.rules_Right_1, rlV, V.cells, V.good, n1, ho, hnc, hrc]
  exact fin_wk (by rw [← hrc]; exact gr) (.same _) (by simp) hQ
end
/-- One node: its kids are the last that are nobody's so far. -/
def stpS (t : Te) (a : Nat) (st : List Int) : Option (List Int) := match t.nodes[a]? with
  | some n => if fineP t n = true ∧ n.kids.length ≤ st.length ∧ st.drop (st.length - n.kids.length) = n.kids then some (st.take (st.length - n.kids.length) ++ [(a : Int)]) else none
  | none => none
def runS (t : Te) : Nat → Nat → List Int → Option (List Int)
  | 0, _, st => some st
  | k + 1, a, st => match stpS t a st with
    | some st' => runS t k (a + 1) st'
    | none => none
def rightS (t : Te) : List Rl → List Str → Nat → Option Nat
  | [], _, a => some a
  | r :: rs, seen, a => if tokenT r.name 1 = true ∧ r.name ∉ seen ∧ (a : Int) ≤ r.body ∧ r.body < t.nodes.length then (match runS t (r.body.toNat + 1 - a) a [] with
      | some [_] => rightS t rs (seen ++ [r.name]) (r.body.toNat + 1)
      | _ => none) else none
/-- As the program asks. -/
def rightP (t : Te) : Bool := decide (0 < t.rules.length) && decide (t.rules.length ≤ 24) && decide (t.nodes.length ≤ 200) && decide (rightS t t.rules [] 0 = some t.nodes.length)
/-- The open nodes, as they lie. -/
def StkV (lo : Nat) (h' : AH) (v : V) (st : List Int) : Prop := (st = [] ∧ v = .sl 0 1 []) ∨
  ∃ o cap, v = .osl 1 o 0 st.length cap ∧ cap ≠ 0 ∧ st.length ≤ cap ∧ lo < o ∧ o < h'.nobj ∧ cap ≤ (h'.objs o).length ∧ (h'.objs o).take st.length = ints st
section
variable {X : Cx} {h : AH} {Q : V → AH → Prop}
theorem appG_nil {K : V → AH → Prop} {zK : Lz K} {e sz e1 st st' : Nat} {m : List V} (hm : m ≠ []) (hst : st = 1 ∨ st = 2) (hb : m.length * sz ≤ 2 ^ 46)
    (hk : ∀ c, m.length ≤ c → K (.osl e h.nobj 0 m.length c) (h.new (cellsOf m ++ List.replicate ((c - m.length) * e) .undef))) : AppG h e sz (.sl e1 st []) (.sl e st' m) zK :=
  ⟨fun e => hm (List.eq_nil_of_length_eq_zero e), rfl, hst, rfl, hb, hk⟩
theorem appG_osl {K : V → AH → Prop} {zK : Lz K} {e sz o off len cap st' : Nat} {m : List V} (hm : m ≠ []) (hc : cap ≠ 0) (hf : off + cap * e ≤ (h.objs o).length) (hb : (len + m.length) * sz ≤ 2 ^ 46)
    (h1 : len + m.length ≤ cap → K (.osl e o off (len + m.length) cap) (h.set o (setAt (h.objs o) (off + len * e) (cellsOf m))))
    (h2 : cap < len + m.length → ∀ c, len + m.length ≤ c → K (.osl e h.nobj 0 (len + m.length) c) (h.new (((h.objs o).drop off).take (len * e) ++ cellsOf m ++ List.replicate ((c - (len + m.length)) * e) .undef))) : AppG h e sz (.osl e o off len cap) (.sl e st' m) zK :=
  ⟨fun e => hm (List.eq_nil_of_length_eq_zero e), rfl, rfl, hc, hf, hb, h1, h2⟩
theorem eqNil_spec (H : Has (Ecx X) K.slices_Equal_int A.slices_Equal_int) (b : List Int) {e s t : Nat} (hQ : Q (.bool (decide (b = []))) h) : Ecx X K.slices_Equal_int [.sl e s [], .sl 1 t (ints b)] h Q := by
  refine fn_walk H (by simp [A.slices_Equal_int]) fun wf => ?_
  have hb : (ints b).length = b.length := by simp [ints]
  by_cases c : b = []
  · subst c
    simp [A.slices_Equal_int, ints]
    refine loopI (n := 0) (fun m env h' => h' = h ∧ env = [(0, .sl e s []), (1, .sl 1 t []), (12, .int .i64 0), (13, .int .i64 0)]) ?_ ⟨rfl, rfl⟩
    rintro m env h' ⟨rfl, rfl⟩
    unfold A.slices_Equal_int.L0
    simp
    exact fin (by simp) (by simpa using hQ)
  · have c' : ¬ (0 : Int) = b.length := by have := List.length_pos_iff.2 c; omega
    have c2 : ¬ 0 = b.length := by have := List.length_pos_iff.2 c; omega
    simp [A.slices_Equal_int, hb, c', c2, c]
    exact fin (by simp) (by simpa [c] using hQ)
theorem take_set {l : List V} {st : List Int} {n r cap : Nat} {v : V} (hn : n = st.length) (ht : l.take n = ints st) (hr : r ≤ n) (hc : r < l.length) : (l.set r v).take (r + 1) = ints (st.take r) ++ [v] := by
  subst hn
  rw [List.take_succ_eq_append_getElem (by simpa using hc), List.getElem_set_self]
  congr 1
  rw [List.take_set_of_le (Nat.le_refl _)]
  have : (l.take st.length).take r = (ints st).take r := by rw [ht]
  rw [List.take_take, Nat.min_eq_left hr] at this
  rw [this]; simp [ints, List.map_take]
theorem StkV.to {lo : Nat} {h h' : AH} {v : V} {st : List Int} (s : StkV lo h v st) (hn : h.nobj ≤ h'.nobj) (ho : ∀ o, lo < o → o < h.nobj → h'.objs o = h.objs o) : StkV lo h' v st := by
  rcases s with s | ⟨o, cap, e1, e2, e3, e4, e5, e6, e7⟩
  · exact .inl s
  · exact .inr ⟨o, cap, e1, e2, e3, e4, by omega, by rw [ho o e4 e5]; exact e6, by rw [ho o e4 e5]; exact e7⟩
theorem rightL1 (L : LRu X) (t : Te) {h' h2 : AH} {r : Rl} {a B k : Nat} {Q : Ex → Env → AH → Prop} {zQ : Lz Q} {z : Lz (AC.loop A.rules_Right_o.L1)} (hr : t.rules.length < 2 ^ 30) (hn : t.nodes.length < 2 ^ 30) (hnn : ∀ n ∈ t.nodes, n.name.length ≤ 2 ^ 30) (hks : ∀ n ∈ t.nodes, n.kids.length ≤ 2 ^ 30)
    (q4 : Gr h h2) (q1 : h2.objs h.nobj = teC t) (q0 : h2.objs h'.nobj = rlC r) (nb : h.nobj < h'.nobj) (q5 : h'.nobj < h2.nobj) (hbod : (B : Int) = r.body) (hBl : B < t.nodes.length) (haB : a ≤ B)
    (hret : ∀ e h3, Gr h h3 → runS t (B + 1 - a) a [] = none → Q .ret ((2, .bool false) :: e) h3)
    (hex : ∀ h3 v st, Gr h h3 → h3.objs h.nobj = teC t → h.nobj < h3.nobj → StkV h'.nobj h3 v st → runS t (B + 1 - a) a [] = some st → Q (.exit 2) [(1, .ptr h.nobj 0), (3, .int .i64 ((B + 1 : Nat) : Int)), (5, .ptr h'.nobj 0), (6, v), (26, .sl 2 0 (t.rules.map rlV)), (27, .int .i64 t.rules.length), (28, .int .i64 k), (62, .bool false)] h3) :
    acZ (Ecx X) [(1, .ptr h.nobj 0), (3, .int .i64 (a : Int)), (5, .ptr h'.nobj 0), (6, .sl 0 1 []), (26, .sl 2 0 (t.rules.map rlV)), (27, .int .i64 t.rules.length), (28, .int .i64 k)] h2 z zQ := by
  have htc : teC t = [.sl 2 0 (t.rules.map rlV), .sl 3 0 (t.nodes.map ndV)] := rfl
  have hrc : rlC r = [.str r.name, .int .i64 r.body] := rfl
  refine loopI (n := B + 1 - a) (fun m env h3 => ∃ j st v, j ≤ B + 1 - a ∧ m = B + 1 - a - j ∧ Gr h h3 ∧ h3.objs h.nobj = teC t ∧ h3.objs h'.nobj = rlC r ∧ h'.nobj < h3.nobj ∧ env = [(1, .ptr h.nobj 0), (3, .int .i64 ((a + j : Nat) : Int)), (5, .ptr h'.nobj 0), (6, v), (26, .sl 2 0 (t.rules.map rlV)), (27, .int .i64 t.rules.length), (28, .int .i64 k)] ∧
    StkV h'.nobj h3 v st ∧ st.length ≤ j ∧ runS t (B + 1 - a - j) (a + j) st = runS t (B + 1 - a) a []) ?_ ⟨0, [], _, by omega, by omega, q4, q1, q0, q5, rfl, .inl ⟨rfl, rfl⟩, by simp, rfl⟩
  rintro m env h3 ⟨j, st, v, hj, rfl, gr3, ob3, or3, nb3, rfl, stk, hsl, hrun⟩
  unfold A.rules_Right_o.L1
  have n2 : ¬ h.nobj = h3.nobj := by omega
  have n3 : ¬ h'.nobj = h3.nobj := by omega
  by_cases hjl : j < B + 1 - a
  · have hle : ((a + j : Nat) : Int) ≤ r.body := by omega
    have hil : a + j < t.nodes.length := by omega
    have hil' : ((a + j : Nat) : Int) < t.nodes.length := by omega
    have hgn : (t.nodes.map ndV).getD (a + j) .undef = ndV t.nodes[a + j] := Enc.getD hil
    have hw2 : IntKind.i64.wrap (((a + j : Nat) : Int) + 1) = ((a + (j + 1) : Nat) : Int) := by rw [wrap_i64 (by omega) (by omega)]; rfl
    have hnk := hks _ (List.getElem_mem hil)
    have hnl := hnn _ (List.getElem_mem hil)
    have hst : stpS t (a + j) st = if fineP t t.nodes[a + j] = true ∧ t.nodes[a + j].kids.length ≤ st.length ∧ st.drop (st.length - t.nodes[a + j].kids.length) = t.nodes[a + j].kids then some (st.take (st.length - t.nodes[a + j].kids.length) ++ [((a + j : Nat) : Int)]) else none := by
      unfold stpS; rw [List.getElem?_eq_getElem hil]
    have hru := hrun
    rw [show B + 1 - a - j = (B + 1 - a - (j + 1)) + 1 by omega, runS, hst] at hru
    clear hst
    generalize t.nodes[a + j] = nd at *
    generalize haj : a + j = p at *
    have hnc : ndC nd = [.int .i64 nd.kind, .str nd.name, .sl 1 0 (ints nd.kids)] := rfl
    have u0 : (h3.new (ndC nd)).objs h3.nobj = ndC nd := by simp
    have u1 : (h3.new (ndC nd)).objs h.nobj = teC t := by simp [n2, ob3]
    have u2 : (h3.new (ndC nd)).objs h'.nobj = rlC r := by simp [n3, or3]
    have u3 : (h3.new (ndC nd)).nobj = h3.nobj + 1 := by simp
    have u4 := gr3.new (ndC nd)
    have u5 : ∀ o, o < h3.nobj → (h3.new (ndC nd)).objs o = h3.objs o := fun o ho => by rw [new_objs_ne _ _ (by omega)]
    have stk4 : StkV h'.nobj (h3.new (ndC nd)) v st := stk.to (by omega) fun o h1 h2 => u5 o h2
    simp [or3, hrc, hle, ob3, htc, hil', hgn, ndV, V.cells, V.good, hnc, setAt]
    rw [← hnc]
    generalize h3.new (ndC nd) = h4 at *
    rcases stk4 with ⟨rfl, rfl⟩ | ⟨o, cap, rfl, e2, e3, e4, e5, e6, e7⟩
    · cases hf : fineP t nd with
      | false =>
        rw [if_neg (fun e => by rw [hf] at e; exact absurd e.1 (by simp))] at hru
        simp [u0, hnc, u1, htc]
        rw [← hnc]
        refine dcall (.bool (fineP t nd)) (rufine_spec L t nd (by omega) hnl ⟨rfl, rfl⟩) ?_
        simp [hf]
        exact hret _ _ u4 hru.symm
      | true =>
      by_cases hz : nd.kids = []
      · rw [if_pos ⟨hf, by simp [hz], by simp [hz]⟩] at hru
        simp [u0, hnc, u1, htc]
        rw [← hnc]
        refine dcall (.bool (fineP t nd)) (rufine_spec L t nd (by omega) hnl ⟨rfl, rfl⟩) ?_
        have hw0 : IntKind.i64.wrap 0 = 0 := by rfl
        simp [hf, hz, u0, hnc, u1, htc, ints, hw0]
        refine dcall (.bool (decide (([] : List Int) = []))) (eqNil_spec (e := 0) (s := 1) (t := 0) L.eqI [] ⟨rfl, rfl⟩) ?_
        simp
        refine appG_nil (by simp) (.inl rfl) (by simp) fun c hc => ?_
        simp [hw2, V.cells]
        simp only [hz, List.length_nil, List.take_nil, List.nil_append] at hru
        exact ⟨B + 1 - a - (j + 1), by omega, iv ⟨j + 1, [(p : Int)], _, by omega, rfl, u4.new _, by rw [new_objs_ne _ _ (by omega)]; exact u1, by rw [new_objs_ne _ _ (by omega)]; exact u2, by simp; omega, by rw [← haj]; rfl,
          .inr ⟨h4.nobj, c, rfl, by simp at hc; omega, by simpa using hc, by omega, by simp, by simp at hc ⊢; omega, by simp [ints]⟩, by simp, by rw [show a + (j + 1) = p + 1 by omega]; exact hru⟩⟩
      · rw [if_neg (fun e => hz (List.eq_nil_of_length_eq_zero (by simpa using e.2.1)))] at hru
        have hzl : 0 < nd.kids.length := List.length_pos_iff.2 hz
        have hwr : IntKind.i64.wrap (0 - (nd.kids.length : Int)) = - (nd.kids.length : Int) := by rw [wrap_i64 (by omega) (by omega)]; omega
        simp [u0, hnc, u1, htc]
        rw [← hnc]
        refine dcall (.bool (fineP t nd)) (rufine_spec L t nd (by omega) hnl ⟨rfl, rfl⟩) ?_
        have hneg : -(nd.kids.length : Int) < 0 := by omega
        have hwr' : IntKind.i64.wrap (-(nd.kids.length : Int)) = -(nd.kids.length : Int) := wrap_i64 (by omega) (by omega)
        simp [hf, u0, hnc, u1, htc, ints, hwr', hneg, hzl, hz]
        exact hret _ _ u4 hru.symm
    · have hwr : IntKind.i64.wrap ((st.length : Int) - (nd.kids.length : Int)) = (st.length : Int) - (nd.kids.length : Int) := wrap_i64 (by omega) (by omega)
      cases hf : fineP t nd with
      | false =>
        rw [if_neg (fun e => by rw [hf] at e; exact absurd e.1 (by simp))] at hru
        simp [u0, hnc, u1, htc]
        rw [← hnc]
        refine dcall (.bool (fineP t nd)) (rufine_spec L t nd (by omega) hnl ⟨rfl, rfl⟩) ?_
        simp [hf]
        exact hret _ _ u4 hru.symm
      | true =>
      by_cases hz : nd.kids.length ≤ st.length
      · obtain ⟨r', hr'⟩ : ∃ r', r' = st.length - nd.kids.length := ⟨_, rfl⟩
        have hri : (st.length : Int) - (nd.kids.length : Int) = (r' : Int) := by omega
        rw [hri] at hwr
        have hneg : ¬ (r' : Int) < 0 := by omega
        have hrl : (r' : Int) ≤ st.length := by omega
        have hrc' : r' ≤ cap := by omega
        have hrc2 : (st.length : Int) ≤ cap := by omega
        have hrc3 : (r' : Int) ≤ cap := by omega
        rw [← hr'] at hru
        have hdrop : ((h4.objs o).drop r').take (st.length - r') = ints (st.drop r') := by
          rw [← List.drop_take, e7]; simp [ints]
        simp [u0, hnc, u1, htc, hri, hwr]
        rw [← hnc]
        refine dcall (.bool (fineP t nd)) (rufine_spec L t nd (by omega) hnl ⟨rfl, rfl⟩) ?_
        simp [hf, u0, hnc, u1, htc, hneg, hrl, hrc2, hrc3, ints, e3]
        refine dcall (.bool (decide (st.drop r' = nd.kids))) (eqO_spec L.eqI (st.drop r') nd.kids (l := h4.objs o) (by simp) rfl ?_ ?_ (by omega) ⟨rfl, rfl⟩) ?_
        · split <;> omega
        · by_cases hq : cap = r'
          · rw [if_pos hq]
            have : st.length - r' = 0 := by omega
            rw [this, show r' = st.length by omega]; simp [ints]
          · rw [if_neg hq]; exact hdrop
        by_cases hd : st.drop r' = nd.kids
        · rw [if_pos ⟨hf, hz, hd⟩] at hru
          simp only at hru
          simp [hd, hrc3]
          have hlen : (st.take r' ++ [(p : Int)]).length = r' + 1 := by simp; omega
          refine appG_osl (by simp) e2 (by omega) (by simp; omega) (fun hin => ?_) fun hout c hc => ?_
          · simp at hin
            simp [hw2, V.cells, setAt]
            have m1 : ¬ h.nobj = o := by omega
            have m2 : ¬ h'.nobj = o := by omega
            exact ⟨B + 1 - a - (j + 1), by omega, iv ⟨j + 1, _, _, by omega, rfl, u4.set (by omega) _, by rw [set_objs_ne _ _ _ m1]; exact u1, by rw [set_objs_ne _ _ _ m2]; exact u2, by rw [set_nobj]; omega, rfl,
              .inr ⟨o, cap, by rw [hlen], by omega, by omega, by omega, by rw [set_nobj]; exact e5, by rw [set_objs_same, List.length_set]; exact e6, by
                rw [set_objs_same, hlen, take_set (cap := cap) rfl e7 (by omega) (by omega)]; simp [ints]⟩, by omega, by rw [show a + (j + 1) = p + 1 by omega]; exact hru⟩⟩
          · simp at hout hc
            simp [hw2, V.cells, setAt]
            have htk : (h4.objs o).take r' = ints (st.take r') := by
              have : ((h4.objs o).take st.length).take r' = (ints st).take r' := by rw [e7]
              rw [List.take_take, Nat.min_eq_left (by omega)] at this
              rw [this]; simp [ints, List.map_take]
            have htl : (ints (st.take r')).length = r' := by simp [ints]; omega
            exact ⟨B + 1 - a - (j + 1), by omega, iv ⟨j + 1, _, _, by omega, rfl, u4.new _, by rw [new_objs_ne _ _ (by omega)]; exact u1, by rw [new_objs_ne _ _ (by omega)]; exact u2, by rw [new_nobj]; omega, rfl,
              .inr ⟨h4.nobj, c, by rw [hlen], by omega, by omega, by omega, by simp, by rw [new_objs_same, htk]; simp [htl]; omega, by
                rw [new_objs_same, htk, hlen, show ∀ R, ints (st.take r') ++ V.int .i64 (p : Int) :: R = (ints (st.take r') ++ [V.int .i64 (p : Int)]) ++ R from fun R => by simp, List.take_left' (by simp [htl])]; simp [ints]⟩, by omega, by rw [show a + (j + 1) = p + 1 by omega]; exact hru⟩⟩
        · rw [if_neg (fun e => hd e.2.2)] at hru
          simp [hd]
          exact hret _ _ u4 hru.symm
      · rw [if_neg (fun e => hz e.2.1)] at hru
        have hneg : (st.length : Int) - (nd.kids.length : Int) < 0 := by omega
        simp [u0, hnc, u1, htc, hwr]
        rw [← hnc]
        refine dcall (.bool (fineP t nd)) (rufine_spec L t nd (by omega) hnl ⟨rfl, rfl⟩) ?_
        simp [hf, hneg, show (st.length : Int) < nd.kids.length by omega, show st.length < nd.kids.length by omega]
        exact hret _ _ u4 hru.symm
  · have hle : ¬ ((a + j : Nat) : Int) ≤ r.body := by omega
    have hjj : B + 1 - a - j = 0 := by omega
    rw [hjj, runS] at hrun
    have hle2 : ¬ ((a : Int) + (j : Int) ≤ r.body) := by omega
    simp [or3, hrc, hle2]
    have := hex h3 v st gr3 ob3 (by omega) stk hrun.symm
    rw [show ((B + 1 : Nat) : Int) = (a : Int) + (j : Int) by omega] at this
    exact this
theorem ruRight_spec (L : LRu X) (HR : Has (Ecx X) K.rules_Right A.rules_Right_o) (t : Te) (hr : t.rules.length < 2 ^ 30) (hn : t.nodes.length < 2 ^ 30) (hrn : ∀ r ∈ t.rules, r.name.length ≤ 2 ^ 30) (hnn : ∀ n ∈ t.nodes, n.name.length ≤ 2 ^ 30) (hks : ∀ n ∈ t.nodes, n.kids.length ≤ 2 ^ 30)
    (hQ : Q (.bool (rightP t)) h) : Ecx X K.rules_Right [teV t] h Q := by
  refine fn_walk HR (by simp [A.rules_Right_o]) fun wf => ?_
  have htc : teC t = [.sl 2 0 (t.rules.map rlV), .sl 3 0 (t.nodes.map ndV)] := rfl
  have gr := (Gr.refl h).new (teC t)
  have hb0 : (h.new (teC t)).objs h.nobj = teC t := by simp
  have hb1 : (h.new (teC t)).nobj = h.nobj + 1 := by simp
  simp [A.rules_Right_o, teV, V.cells, V.good]
  generalize h.new (teC t) = h1 at *
  simp [hb0, htc]
  by_cases c0 : t.rules = []
  · have : rightP t = false := by simp [rightP, c0]
    rw [this] at hQ
    simp [c0]
    exact fin_wk gr (.same _) (by simp) hQ
  have c0' : 0 < t.rules.length := List.length_pos_iff.2 c0
  by_cases c1 : (24 : Int) < t.rules.length
  · have : rightP t = false := by
      have : ¬ t.rules.length ≤ 24 := by omega
      simp [rightP, this]
    rw [this] at hQ
    simp [c0, c1, hb0, htc]
    exact fin_wk gr (.same _) (by simp) hQ
  by_cases c2 : (200 : Int) < t.nodes.length
  · have : rightP t = false := by
      have : ¬ t.nodes.length ≤ 200 := by omega
      simp [rightP, this]
    rw [this] at hQ
    simp [c0, c1, c2, hb0, htc]
    exact fin_wk gr (.same _) (by simp) hQ
  have hrp : rightP t = decide (rightS t t.rules [] 0 = some t.nodes.length) := by
    unfold rightP
    rw [decide_eq_true c0', decide_eq_true (show t.rules.length ≤ 24 by omega), decide_eq_true (show t.nodes.length ≤ 200 by omega)]; simp
  rw [hrp] at hQ
  clear hrp
  simp [c0, c1, c2, hb0, htc]
  refine loopI (n := t.rules.length) (fun m env h' => ∃ k a, k ≤ t.rules.length ∧ m = t.rules.length - k ∧ a ≤ t.nodes.length ∧ Gr h h' ∧ h'.objs h.nobj = teC t ∧ h.nobj < h'.nobj ∧ env = [(1, .ptr h.nobj 0), (3, .int .i64 (a : Int)), (26, .sl 2 0 (t.rules.map rlV)), (27, .int .i64 t.rules.length), (28, .int .i64 k)] ∧
      rightS t (t.rules.drop k) ((rnames t).take k) a = rightS t t.rules [] 0) ?_ ⟨0, 0, by omega, by omega, by omega, gr, hb0, by omega, rfl, by simp⟩
  rintro m env h' ⟨k, a, hk, rfl, ha, gr', ob, nb, rfl, hS⟩
  unfold A.rules_Right_o.L0
  by_cases hlt : k < t.rules.length
  · have hlt' : (k : Int) < t.rules.length := by omega
    have hg : (t.rules.map rlV).getD k .undef = rlV t.rules[k] := Enc.getD hlt
    have hw1 : IntKind.i64.wrap ((k : Int) + 1) = ((k + 1 : Nat) : Int) := by rw [wrap_i64 (by omega) (by omega)]; rfl
    have hmem := hrn _ (List.getElem_mem hlt)
    have htk : (rnames t).take (k + 1) = (rnames t).take k ++ [t.rules[k].name] := by
      rw [List.take_succ_eq_append_getElem (by simp [rnames, hlt])]; simp [rnames]
    have hany : ((t.rules.take k).any fun r => decide (r.name = t.rules[k].name)) = decide (t.rules[k].name ∈ (rnames t).take k) := by
      apply Bool.eq_iff_iff.2
      simp [rnames, ← List.map_take]
    have hSd := hS
    rw [List.drop_eq_getElem_cons hlt, rightS] at hSd
    have hkl : (t.rules.map rlV).take k = (t.rules.take k).map rlV := List.map_take.symm
    generalize hrr : t.rules[k] = r at *
    have hrc : rlC r = [.str r.name, .int .i64 r.body] := rfl
    have n1 : ¬ h.nobj = h'.nobj := by omega
    have q0 : (h'.new (rlC r)).objs h'.nobj = rlC r := by simp
    have q1 : (h'.new (rlC r)).objs h.nobj = teC t := by simp [n1, ob]
    have q2 : (h'.new (rlC r)).nobj = h'.nobj + 1 := by simp
    have q3 : ∀ o, o < h'.nobj → (h'.new (rlC r)).objs o = h'.objs o := fun o ho => by rw [new_objs_ne _ _ (by omega)]
    have q4 := gr'.new (rlC r)
    simp [hlt', hg, rlV, V.cells, V.good, hrc, setAt]
    rw [← hrc]
    generalize h'.new (rlC r) = h2 at *
    refine ecall (token_spec L.s L.token r.name 1 (by omega) ?_)
    cases ht : tokenT r.name 1 with
    | false =>
      rw [if_neg (fun e => by rw [ht] at e; exact absurd e.1 (by simp))] at hSd
      rw [← hSd] at hQ
      simp
      exact fin_wk q4 (.same _) (by simp) (by simpa using hQ)
    | true =>
    have hct := L.ctR
    rw [show A.slices_ContainsFunc_Rule = ctfF K.slices_IndexFunc_Rule from rfl] at hct
    have hix := L.ixR
    rw [show A.slices_IndexFunc_Rule = ixfF 2 true from rfl] at hix
    simp [q1, htc, q0, hrc, hkl, show (k : Int) ≤ t.rules.length by omega]
    refine ecall (containsFunc encRl hct hix (t.rules.take k) _ _ [] _ (fun x => decide (x.name = r.name)) (by simp; omega) (fun x _ Q' h3 gr3 hQ' => ?_) ?_)
    · exact ruRight1_spec L x ((gr3.objs _ (by omega)).trans q0) (by have := gr3.nobj; omega) hQ'
    rw [hany]
    by_cases c3 : r.name ∈ (rnames t).take k
    · rw [if_neg (fun e => e.2.1 c3)] at hSd
      rw [← hSd] at hQ
      simp [c3]
      exact fin_wk q4 (.same _) (by simp) (by simpa using hQ)
    by_cases c4 : r.body < a
    · rw [if_neg (fun e => by omega)] at hSd
      rw [← hSd] at hQ
      simp [c3, c4, q0, hrc]
      exact fin_wk q4 (.same _) (by simp) (by simpa using hQ)
    by_cases c5 : (t.nodes.length : Int) ≤ r.body
    · rw [if_neg (fun e => by omega)] at hSd
      rw [← hSd] at hQ
      simp [c3, c4, c5, q0, q1, htc, hrc]
      exact fin_wk q4 (.same _) (by simp) (by simpa using hQ)
    rw [if_pos ⟨ht, c3, by omega, by omega⟩] at hSd
    simp [c3, c4, c5, q0, q1, htc, hrc]
    have q5 : h'.nobj < h2.nobj := by omega
    have hbod : ((r.body.toNat : Nat) : Int) = r.body := by omega
    generalize hB : r.body.toNat = B at *
    refine rightL1 L t hr hn hnn hks q4 q1 q0 nb q5 hbod (by omega) (by omega) (fun e h3 g3 he => ?_) (fun h3 v st g3 o3 n3 stk he => ?_)
    · rw [he] at hSd
      simp only at hSd
      rw [← hSd] at hQ
      simp
      exact fin_wk g3 (.same _) (by simp) (by simpa using hQ)
    · rw [he] at hSd
      have hnext : (st.length = 1 ∧ rightS t (t.rules.drop (k + 1)) ((rnames t).take k ++ [r.name]) (B + 1) = rightS t t.rules [] 0) ∨ (¬ st.length = 1 ∧ rightS t t.rules [] 0 = none) := by
        match st, hSd with
        | [x], hSd => exact .inl ⟨rfl, hSd⟩
        | [], hSd => exact .inr ⟨by simp, hSd.symm⟩
        | _ :: _ :: _, hSd => exact .inr ⟨by simp, hSd.symm⟩
      rw [← htk] at hnext
      have hvl : ∀ (env : Env) (K : V → AH → Prop) (zK : Lz K), K (.int .i64 st.length) h3 → lenZ (Ecx X) env h3 false v zK := fun env K zK hK => by
        rcases stk with ⟨rfl, rfl⟩ | ⟨o, cap, rfl, _⟩
        · simpa using hK
        · simpa using hK
      simp
      refine hvl _ _ _ ?_
      simp
      by_cases c6 : st.length = 1
      · have c6' : (st.length : Int) = 1 := by omega
        have hn2 := (hnext.resolve_right (fun e => e.1 c6)).2
        simp [c6', hw1]
        exact ⟨t.rules.length - (k + 1), by omega, iv ⟨k + 1, B + 1, by omega, rfl, by omega, g3, o3, n3, rfl, hn2⟩⟩
      · have c6' : ¬ (st.length : Int) = 1 := by omega
        rcases hnext with e | e
        · exact absurd e.1 c6
        · rw [e.2] at hQ
          simp [c6', c6]
          exact fin_wk g3 (.same _) (by simp) (by simpa using hQ)
  · have hlt' : ¬ (k : Int) < t.rules.length := by omega
    obtain rfl : k = t.rules.length := by omega
    rw [List.drop_length, rightS] at hS
    rw [← hS] at hQ
    simp [hlt', ob, htc]
    have : decide ((a : Int) = t.nodes.length) = decide (some a = some t.nodes.length) := by
      apply Bool.eq_iff_iff.2; simp; omega
    rw [this]
    exact fin_wk gr' (.same _) (by simp) hQ
end
end Go.Proofs.Ytecgbggobecpjaa.Al
namespace Go.Proofs.Ytecgbggobecpjaa.Al
open Go Go.RowKit
set_option linter.unusedSimpArgs false
set_option linter.unusedVariables false
attribute [-simp] List.getD_eq_getElem?_getD Int.not_lt Int.not_le List.map_take
/-- The numbers of a node, and of all below it. -/
def undK (L : Nat) (rec : Int → List Int → List Int) (n : Int) : List Int → List Int → List Int
  | [], out => out ++ [n]
  | k :: ks, out => if n ≤ k ∨ L < out.length then out ++ [-1] else undK L rec n ks (rec k out)
def undT (t : Te) : Nat → Int → List Int → List Int
  | 0, _, out => out ++ [-1]
  | f + 1, n, out => if n < 0 ∨ (t.nodes.length : Int) ≤ n ∨ t.nodes.length < out.length then out ++ [-1] else undK t.nodes.length (undT t f) n (match t.nodes[n.toNat]? with
    | some x => x.kids
    | none => []) out
theorem undK_len {L f : Nat} {rec : Int → List Int → List Int} (hr : ∀ k out, (rec k out).length ≤ max out.length L + f) (n : Int) : ∀ (ks out : List Int) (m : Nat), L ≤ m → out.length ≤ m + f → (undK L rec n ks out).length ≤ m + f + 1
  | [], out, m, hm, ho => by simp [undK]; omega
  | k :: ks, out, m, hm, ho => by
    unfold undK
    split
    · simp; omega
    · rename_i c
      refine undK_len hr n ks _ m hm ?_
      have := hr k out
      omega
theorem undT_len (t : Te) : ∀ (f : Nat) (n : Int) (out : List Int), (undT t f n out).length ≤ max out.length t.nodes.length + (f + 1)
  | 0, n, out => by simp [undT]; omega
  | f + 1, n, out => by
    unfold undT
    split
    · simp; omega
    · have := undK_len (L := t.nodes.length) (f := f + 1) (rec := undT t f) (fun k o => undT_len t f k o) n (match t.nodes[n.toNat]? with
        | some x => x.kids
        | none => []) out (max out.length t.nodes.length) (by omega) (by omega)
      omega
section
variable {X : Cx}
theorem under_spec (H : Has (Ecx X) K.probateref06_under A.probateref06_under) (t : Te) (hn : t.nodes.length < 2 ^ 30) (hks : ∀ n ∈ t.nodes, n.kids.length ≤ 2 ^ 30) : ∀ (f : Nat) (n : Int) (out : List Int), (n < f ∨ (t.nodes.length : Int) ≤ n) → max out.length t.nodes.length + (f + 1) ≤ 2 ^ 40 →
    ∀ {h : AH} {e1 st : Nat} {Q : V → AH → Prop}, May 1 h e1 st (ints out) → Q (.sl 1 h.next (ints (undT t f n out))) (h.push st 1) → Ecx X K.probateref06_under [teV t, .int .i64 n, .sl e1 st (ints out)] h Q := by
  intro f
  induction f with
  | zero =>
    intro n out hnf hb h e1 st Q my hQ
    refine Ecx.wf fun wf => Ecx.tip (st := st) (e := 1) ?_ ?_
    · rcases my.st with a | a | a
      · omega
      · omega
      · exact .inr (wf.tips _ _ a).2
    refine fn_any H (by simp [A.probateref06_under]) fun wf => ?_
    have hst : st ≤ 2 ∨ st < h.next := by
      rcases my.st with a | a | a
      · omega
      · omega
      · exact .inr (wf.tips _ _ a).2
    have htc : teC t = [.sl 2 0 (t.rules.map rlV), .sl 3 0 (t.nodes.map ndV)] := rfl
    have em : ints out ++ [V.int .i64 (-1)] = ints (undT t 0 n out) := by simp [undT, ints]
    have my1 : May 1 (h.new (teC t)) e1 st (ints out) := my.se ((SE.refl hst).new _) my.el
    have p0 : (h.new (teC t)).objs h.nobj = teC t := by simp
    have se1 : SE 1 h (h.new (teC t)) st st := (SE.refl hst).new _
    have pn : (h.new (teC t)).next = h.next := rfl
    have fin : ∀ {K : V → AH → Prop} (zK : Lz K), (K (.sl 1 h.next (ints (undT t 0 n out))) ((h.new (teC t)).push st 1)) → App (h.new (teC t)) 1 8 e1 st (ints out) 1 [.int .i64 (-1)] zK := fun zK hk =>
      my1.app (by simp) rfl (by simp [ints]; omega) (by rw [em]; exact hk)
    have fin2 := se1.push wf.next
    simp [A.probateref06_under, teV, V.cells, V.good]
    generalize h.new (teC t) = h1 at *
    by_cases c1 : n < 0
    · simp [c1, fillL, V.isAgg]
      refine fin _ ?_
      simp
      rw [← pn]
      exact ⟨h1.next, ints (undT t 0 n out), ⟨rfl, rfl⟩, fin2, by omega, Bdd_ints _ _ _, by rw [pn]; exact hQ⟩
    · have c2 : (t.nodes.length : Int) ≤ n := by omega
      simp [c1, c2, p0, htc, fillL, V.isAgg]
      refine fin _ ?_
      simp
      rw [← pn]
      exact ⟨h1.next, ints (undT t 0 n out), ⟨rfl, rfl⟩, fin2, by omega, Bdd_ints _ _ _, by rw [pn]; exact hQ⟩
  | succ f ih =>
    intro n out hnf hb h e1 st Q my hQ
    refine Ecx.wf fun wf => Ecx.tip (st := st) (e := 1) ?_ ?_
    · rcases my.st with a | a | a
      · omega
      · omega
      · exact .inr (wf.tips _ _ a).2
    refine fn_any H (by simp [A.probateref06_under]) fun wf => ?_
    have hst : st ≤ 2 ∨ st < h.next := by
      rcases my.st with a | a | a
      · omega
      · omega
      · exact .inr (wf.tips _ _ a).2
    have n3 := wf.next
    have htc : teC t = [.sl 2 0 (t.rules.map rlV), .sl 3 0 (t.nodes.map ndV)] := rfl
    have se1 : SE 1 h (h.new (teC t)) st st := (SE.refl hst).new _
    have p0 : (h.new (teC t)).objs h.nobj = teC t := by simp
    have p2 : (h.new (teC t)).nobj = h.nobj + 1 := by simp
    have hil : (ints out).length = out.length := by simp [ints]
    generalize hR : undT t (f + 1) n out = R at *
    -- one number more, and back
    have done : ∀ {h' : AH} {e2 st2 : Nat} {o2 : List Int} (v : Int), SE 1 h h' st st2 → (ints o2 = [] ∨ e2 = 1) → o2.length ≤ 2 ^ 40 → o2 ++ [v] = R → ∀ {K : V → AH → Prop} (zK : Lz K),
        ((∃ st1 l, V.sl 1 h'.next (ints R) = .sl 1 st1 l ∧ SE 1 h (h'.push st2 1) st st1 ∧ h.next ≤ st1 ∧ (∀ v ∈ cellsOf l, Bdd h.next h.nobj v) ∧ Q (.sl 1 h.next l) (h.push st 1)) → K (.sl 1 h'.next (ints R)) (h'.push st2 1)) →
        App h' 1 8 e2 st2 (ints o2) 1 [.int .i64 v] zK := fun {h' e2 st2 o2} v se el hl e K zK hk => by
      have em : ints o2 ++ [V.int .i64 v] = ints R := by rw [← e]; simp [ints]
      refine (my.se se el).app (by simp) rfl (by simp [ints]; omega) ?_
      rw [em]
      exact hk ⟨h'.next, ints R, rfl, se.push n3, se.next, Bdd_ints _ _ _, hQ⟩
    simp [A.probateref06_under, teV, V.cells, V.good]
    generalize h.new (teC t) = h1 at *
    by_cases c0 : n < 0 ∨ (t.nodes.length : Int) ≤ n ∨ t.nodes.length < out.length
    · rw [undT, if_pos c0] at hR
      by_cases c1 : n < 0
      · simp [c1, fillL, V.isAgg]
        refine done (-1) se1 my.el (by omega) hR _ fun hq => ?_
        simp
        simpa using hq
      by_cases c2 : (t.nodes.length : Int) ≤ n
      · simp [c1, c2, p0, htc, fillL, V.isAgg]
        refine done (-1) se1 my.el (by omega) hR _ fun hq => ?_
        simp
        simpa using hq
      · have c3 : (t.nodes.length : Int) < out.length := by omega
        simp [c1, c2, c3, p0, htc, fillL, V.isAgg, hil]
        refine done (-1) se1 my.el (by omega) hR _ fun hq => ?_
        simp
        simpa using hq
    rw [undT, if_neg c0] at hR
    have c1 : ¬ n < 0 := by omega
    have c2 : ¬ (t.nodes.length : Int) ≤ n := by omega
    have c3 : ¬ (t.nodes.length : Int) < out.length := by omega
    obtain ⟨m, rfl⟩ : ∃ m : Nat, n = (m : Int) := ⟨n.toNat, by omega⟩
    have hm : m < t.nodes.length := by omega
    have hm' : (m : Int) < t.nodes.length := by omega
    have hg : (t.nodes.map ndV).getD m .undef = ndV t.nodes[m] := Enc.getD hm
    have hkl := hks _ (List.getElem_mem hm)
    rw [Int.toNat_natCast, List.getElem?_eq_getElem hm] at hR
    simp only at hR
    generalize t.nodes[m] = nd at *
    obtain ⟨kind, name, ks⟩ := nd
    simp only at hkl hR
    have hnc : ndC ⟨kind, name, ks⟩ = [.int .i64 kind, .str name, .sl 1 0 (ints ks)] := rfl
    have hksl : (ints ks).length = ks.length := by simp [ints]
    simp [c1, c2, c3, p0, htc, hil]
    refine loopI (n := ks.length) (fun mm env h' => ∃ i e2 st2 o2, i ≤ ks.length ∧ mm = ks.length - i ∧ env = [(1, .int .i64 (m : Int)), (2, .sl e2 st2 (ints o2)), (3, .ptr h.nobj 0), (7, .int .i64 i)] ∧ SE 1 h h' st st2 ∧ (ints o2 = [] ∨ e2 = 1) ∧ h'.objs h.nobj = teC t ∧ h.nobj < h'.nobj ∧
      o2.length ≤ max out.length t.nodes.length + (f + 1) ∧ undK t.nodes.length (undT t f) m (ks.drop i) o2 = R) ?_
      ⟨0, e1, st, out, by omega, by omega, rfl, se1, my.el, p0, by omega, by omega, by simpa using hR⟩
    rintro mm env h' ⟨i, e2, st2, o2, hi, rfl, rfl, se2, el2, b0, nb, hol, hu⟩
    unfold A.probateref06_under.L0
    have hil2 : (ints o2).length = o2.length := by simp [ints]
    by_cases hlt : i < ks.length
    · have hlt' : (i : Int) < ks.length := by omega
      have hgk := ints_get hlt
      have hw1 : IntKind.i64.wrap ((i : Int) + 1) = ((i + 1 : Nat) : Int) := by rw [wrap_i64 (by omega) (by omega)]; rfl
      rw [List.drop_eq_getElem_cons hlt, undK] at hu
      by_cases c4 : (m : Int) ≤ ks[i] ∨ t.nodes.length < o2.length
      · rw [if_pos c4] at hu
        by_cases c5 : (m : Int) ≤ ks[i]
        · simp [b0, htc, hm', hg, ndV, hnc, V.cells, hksl, hlt', hgk, c5, fillL, V.isAgg]
          refine done (-1) se2 el2 (by omega) hu _ fun hq => ?_
          simp
          simpa using hq
        · have c6 : (t.nodes.length : Int) < o2.length := by omega
          simp [b0, htc, hm', hg, ndV, hnc, V.cells, hksl, hlt', hgk, c5, c6, hil2, fillL, V.isAgg]
          refine done (-1) se2 el2 (by omega) hu _ fun hq => ?_
          simp
          simpa using hq
      · rw [if_neg c4] at hu
        have c5 : ¬ (m : Int) ≤ ks[i] := fun e => c4 (.inl e)
        have c6 : ¬ (t.nodes.length : Int) < o2.length := fun e => c4 (.inr (by omega))
        have := undT_len t f ks[i] o2
        simp [b0, htc, hm', hg, ndV, hnc, V.cells, hksl, hlt', hgk, c5, c6, hil2]
        rw [← htc]
        refine ecall (ih ks[i] o2 (by omega) (by omega) (my.se se2 el2) ?_)
        simp [hw1]
        exact ⟨ks.length - (i + 1), by omega, iv ⟨i + 1, 1, _, _, by omega, rfl, rfl, se2.push n3, .inr rfl, by rw [push_objs]; exact b0, by rw [push_nobj]; exact nb, by omega, hu⟩⟩
    · have hlt' : ¬ (i : Int) < ks.length := by omega
      obtain rfl : i = ks.length := by omega
      rw [List.drop_length, undK] at hu
      simp [b0, htc, hm', hg, ndV, hnc, V.cells, hksl, hlt', fillL, V.isAgg]
      refine done _ se2 el2 (by omega) hu _ fun hq => ?_
      simp
      simpa using hq
end
/-- The numbers from 0 on. -/
def iotaI (n : Nat) : List Int := (List.range n).map fun i : Nat => (i : Int)
@[simp] theorem iotaI_len (n : Nat) : (iotaI n).length = n := by simp [iotaI]
theorem iotaI_succ (n : Nat) : iotaI (n + 1) = iotaI n ++ [(n : Int)] := by simp [iotaI, List.range_succ]
theorem iotaI_get {n i : Nat} (h : i < n) : (iotaI n)[i]? = some (i : Int) := by simp [iotaI, h]
/-- A name, as the reference asks. -/
def nameR (s : Str) : Bool := match scanR s with
  | ([a], _, e) => decide (e = 0) && decide (a.kind = 1) && decide (a.text = s)
  | _ => false
def rightR (t : Te) : List Rl → List Str → List Int → Option (List Int)
  | [], _, all => some all
  | r :: rs, seen, all => if nameR r.name = true ∧ r.name ∉ seen then rightR t rs (seen ++ [r.name]) (undT t t.nodes.length r.body all) else none
/-- As the reference asks. -/
def rightD (t : Te) : Bool := decide (0 < t.rules.length) && decide (t.rules.length ≤ 24) && decide (t.nodes.length ≤ 200) && (match rightR t t.rules [] [] with
  | some all => decide (all = iotaI t.nodes.length) && t.nodes.all (fineT t)
  | none => false)
structure LR6 (X : Cx) : Prop where
  s : LSR X
  under : Has (Ecx X) K.probateref06_under A.probateref06_under
  right : Has (Ecx X) K.probateref06_Right A.probateref06_Right
  fine : Has (Ecx X) K.probateref06_Tree_fine A.probateref06_Tree_fine
  rule : Has (Ecx X) K.probateref06_Tree_rule A.probateref06_Tree_rule
  quote : Has (Ecx X) K.probateref06_quote A.probateref06_quote
section
variable {X : Cx} {h : AH} {Q : V → AH → Prop}
theorem rRightL1 (t : Te) {o i : Nat} {v3 : V} {Q : Ex → Env → AH → Prop} {zQ : Lz Q} {z : Lz (AC.loop A.probateref06_Right.L1)} (hi : i < t.rules.length) (hr : t.rules.length < 2 ^ 30) (ho : h.objs o = teC t)
    (hret : ∀ e, t.rules[i].name ∈ (rnames t).take i → Q .ret ((2, .bool false) :: e) h)
    (hex : t.rules[i].name ∉ (rnames t).take i → Q (.exit 2) [(1, .ptr o 0), (3, v3), (4, .int .i64 i), (8, .int .i64 i), (74, .bool false)] h) :
    acZ (Ecx X) [(1, .ptr o 0), (3, v3), (4, .int .i64 i), (8, .int .i64 0)] h z zQ := by
  have htc : teC t = [.sl 2 0 (t.rules.map rlV), .sl 3 0 (t.nodes.map ndV)] := rfl
  have hgi : (t.rules.map rlV).getD i .undef = rlV t.rules[i] := Enc.getD hi
  have hii : (i : Int) < t.rules.length := by omega
  generalize t.rules[i] = r at *
  refine loopI (n := i) (fun m env h' => ∃ k, k ≤ i ∧ m = i - k ∧ h' = h ∧ env = [(1, .ptr o 0), (3, v3), (4, .int .i64 i), (8, .int .i64 k)] ∧ (r.name ∈ (rnames t).take i ↔ r.name ∈ ((rnames t).take i).drop k)) ?_ ⟨0, by omega, by omega, rfl, rfl, by simp⟩
  rintro m env h' ⟨k, hk, rfl, rfl, rfl, hm⟩
  unfold A.probateref06_Right.L1
  have hrl : ((rnames t).take i).length = i := by simp [rnames]; omega
  by_cases hlt : k < i
  · have hlt' : (k : Int) < i := by omega
    have hkl : (k : Int) < t.rules.length := by omega
    have hgk : (t.rules.map rlV).getD k .undef = rlV (t.rules[k]'(by omega)) := Enc.getD (by omega)
    have hw1 : IntKind.i64.wrap ((k : Int) + 1) = ((k + 1 : Nat) : Int) := by rw [wrap_i64 (by omega) (by omega)]; rfl
    rw [List.drop_eq_getElem_cons (by omega), show ((rnames t).take i)[k]'(by omega) = (t.rules[k]'(by omega)).name by simp [rnames], List.mem_cons] at hm
    generalize t.rules[k]'(by omega) = x at *
    by_cases c : x.name = r.name
    · simp [hlt', ho, htc, hkl, hii, hgk, hgi, rlV, rlC, V.cells, c]
      exact hret _ (hm.2 (.inl c.symm))
    · simp [hlt', ho, htc, hkl, hii, hgk, hgi, rlV, rlC, V.cells, c, hw1]
      exact ⟨i - (k + 1), by omega, iv ⟨k + 1, by omega, rfl, rfl, rfl, hm.trans ⟨fun h => h.resolve_left (fun e => c e.symm), .inr⟩⟩⟩
  · have hlt' : ¬ (k : Int) < i := by omega
    obtain rfl : k = i := by omega
    have hd : ((rnames t).take k).drop k = [] := List.drop_eq_nil_of_le (by omega)
    rw [hd] at hm
    simp [hlt']
    simpa using hex (fun e => by simpa using hm.1 e)
theorem rRight_spec (L : LR6 X) (t : Te) (hr : t.rules.length < 2 ^ 30) (hn : t.nodes.length < 2 ^ 30) (hrn : ∀ r ∈ t.rules, r.name.length ≤ 2 ^ 30) (hnn : ∀ n ∈ t.nodes, n.name.length ≤ 2 ^ 30) (hks : ∀ n ∈ t.nodes, n.kids.length ≤ 2 ^ 30)
    (hQ : Q (.bool (rightD t)) h) : Ecx X K.probateref06_Right [teV t] h Q := by
  refine fn_walk L.right (by simp [A.probateref06_Right]) fun wf => ?_
  have htc : teC t = [.sl 2 0 (t.rules.map rlV), .sl 3 0 (t.nodes.map ndV)] := rfl
  have gr := (Gr.refl h).new (teC t)
  have hb0 : (h.new (teC t)).objs h.nobj = teC t := by simp
  have hb1 : (h.new (teC t)).nobj = h.nobj + 1 := by simp
  simp [A.probateref06_Right, teV, V.cells, V.good]
  generalize h.new (teC t) = h1 at *
  simp [hb0, htc]
  by_cases c0 : (t.rules.length : Int) < 1
  · have : rightD t = false := by
      have : ¬ 0 < t.rules.length := by omega
      simp [rightD, this]
    rw [this] at hQ
    simp [c0, hb0, htc]
    exact fin_wk gr (.same _) (by simp) hQ
  by_cases c1 : (24 : Int) < t.rules.length
  · have : rightD t = false := by
      have : ¬ t.rules.length ≤ 24 := by omega
      simp [rightD, this]
    rw [this] at hQ
    simp [c0, c1, hb0, htc]
    exact fin_wk gr (.same _) (by simp) hQ
  by_cases c2 : (200 : Int) < t.nodes.length
  · have : rightD t = false := by
      have : ¬ t.nodes.length ≤ 200 := by omega
      simp [rightD, this]
    rw [this] at hQ
    simp [c0, c1, c2, hb0, htc]
    exact fin_wk gr (.same _) (by simp) hQ
  have hrp : rightD t = (match rightR t t.rules [] [] with
      | some all => decide (all = iotaI t.nodes.length) && t.nodes.all (fineT t)
      | none => false) := by
    unfold rightD
    rw [decide_eq_true (show 0 < t.rules.length by omega), decide_eq_true (show t.rules.length ≤ 24 by omega), decide_eq_true (show t.nodes.length ≤ 200 by omega)]; simp
  rw [hrp] at hQ
  clear hrp
  simp [c0, c1, c2, hb0, htc, fillL]
  refine loopI (n := t.rules.length) (fun m env h' => ∃ k e1 st all, k ≤ t.rules.length ∧ m = t.rules.length - k ∧ Own h h' 1 e1 st (ints all) ∧ h'.objs h.nobj = teC t ∧ h.nobj < h'.nobj ∧ env = [(1, .ptr h.nobj 0), (3, .sl e1 st (ints all)), (4, .int .i64 k)] ∧
      all.length ≤ t.nodes.length + k * (t.nodes.length + 1) ∧ rightR t (t.rules.drop k) ((rnames t).take k) all = rightR t t.rules [] []) ?_ ⟨0, 1, 2, [], by omega, by omega, Own.full gr 1 [], hb0, by omega, rfl, by simp, by simp⟩
  rintro m env h' ⟨k, e1, st, all, hk, rfl, ow, ob, nb, rfl, hal, hS⟩
  unfold A.probateref06_Right.L0
  by_cases hlt : k < t.rules.length
  · have hlt' : (k : Int) < t.rules.length := by omega
    have hg : (t.rules.map rlV).getD k .undef = rlV t.rules[k] := Enc.getD hlt
    have hw1 : IntKind.i64.wrap ((k : Int) + 1) = ((k + 1 : Nat) : Int) := by rw [wrap_i64 (by omega) (by omega)]; rfl
    have hmem := hrn _ (List.getElem_mem hlt)
    have htk : (rnames t).take (k + 1) = (rnames t).take k ++ [t.rules[k].name] := by
      rw [List.take_succ_eq_append_getElem (by simp [rnames, hlt])]; simp [rnames]
    have hSd := hS
    rw [List.drop_eq_getElem_cons hlt, rightR] at hSd
    generalize hrr : t.rules[k] = r at *
    have hrc : rlC r = [.str r.name, .int .i64 r.body] := rfl
    have fail : rightR t t.rules [] [] = none → Fin h (.bool false) h' (Lz.mk (a := Q)) := fun e => by
      rw [e] at hQ
      exact fin_wk ow.gr (.same _) (by simp) hQ
    simp [hlt', hg, rlV, V.cells, V.good, hrc, ob, htc]
    refine ecall (rscan_spec L.s r.name (by omega) ?_)
    have hnm : nameR r.name = (match scanR r.name with
      | ([a], _, e) => decide (e = 0) && decide (a.kind = 1) && decide (a.text = r.name)
      | _ => false) := rfl
    simp [scanV]
    generalize scanR r.name = R at *
    obtain ⟨l, p, e⟩ := R
    simp only at hnm ⊢
    by_cases ce : e = 0
    case neg =>
      have hf : nameR r.name = false := by
        rw [hnm]
        match l with
        | [] => rfl
        | [a] => simp [ce]
        | _ :: _ :: _ => rfl
      rw [if_neg (fun e => by rw [hf] at e; exact absurd e.1 (by simp))] at hSd
      simp [ce]
      exact fail hSd.symm
    subst ce
    match l, hnm with
    | [], hnm =>
      rw [if_neg (fun e => by rw [hnm] at e; exact absurd e.1 (by simp))] at hSd
      simp
      exact fail hSd.symm
    | a :: b :: rr, hnm =>
      rw [if_neg (fun e => by rw [hnm] at e; exact absurd e.1 (by simp))] at hSd
      have c' : ¬ (((a :: b :: rr).length : Nat) : Int) = 1 := by simp; omega
      simp at c' ⊢
      simp [c']
      exact fail hSd.symm
    | [a], hnm =>
      simp only [decide_true, Bool.true_and] at hnm
      by_cases k1 : a.kind = 1
      case neg =>
        have hf : nameR r.name = false := by rw [hnm]; simp [k1]
        rw [if_neg (fun e => by rw [hf] at e; exact absurd e.1 (by simp))] at hSd
        have k1' : ¬ (a.kind : Int) = 1 := by omega
        simp [tokV, tokC, V.cells, k1, k1']
        exact fail hSd.symm
      by_cases k2 : a.text = r.name
      case neg =>
        have hf : nameR r.name = false := by rw [hnm]; simp [k2]
        rw [if_neg (fun e => by rw [hf] at e; exact absurd e.1 (by simp))] at hSd
        simp [tokV, tokC, V.cells, k1, k2, ob, htc, hlt', hg, rlV, hrc]
        exact fail hSd.symm
      have hf : nameR r.name = true := by rw [hnm]; simp [k1, k2]
      simp [tokV, tokC, V.cells, k1, k2, ob, htc, hlt', hg, rlV, hrc]
      refine rRightL1 t hlt hr ob (fun e he => ?_) (fun he => ?_)
      · rw [hrr] at he
        rw [if_neg (fun e => e.2 he)] at hSd
        simp
        exact fail hSd.symm
      · rw [hrr] at he
        rw [if_pos ⟨hf, he⟩] at hSd
        rw [← htk] at hSd
        have hul := undT_len t t.nodes.length r.body all
        have hmul : k * (t.nodes.length + 1) ≤ 24 * 201 := Nat.mul_le_mul (by omega) (by omega)
        have hmul2 : (k + 1) * (t.nodes.length + 1) = k * (t.nodes.length + 1) + (t.nodes.length + 1) := by rw [Nat.add_mul]; omega
        have my : May 1 h' e1 st (ints all) := ⟨ow.el, by rcases ow.st with a | a | a <;> simp [a]⟩
        simp [ob, htc, hlt', hg, rlV, hrc, V.cells]
        rw [← htc]
        refine dcallE _ _ (under_spec L.under t hn hks t.nodes.length r.body all (by omega) (by omega) my ⟨rfl, rfl⟩) ?_
        simp [hw1]
        have gr2 : Gr h (h'.push st 1) := ow.gr.push (by rcases ow.st with a | a | a <;> omega) 1
        exact ⟨t.rules.length - (k + 1), by omega, iv ⟨k + 1, 1, h'.next, _, by omega, rfl, ⟨gr2, .inr rfl, .inr (.inr ⟨push_new h' st 1, ow.gr.next⟩)⟩, by rw [push_objs]; exact ob, by rw [push_nobj]; exact nb, rfl, by omega, hSd⟩⟩
  · have hlt' : ¬ (k : Int) < t.rules.length := by omega
    obtain rfl : k = t.rules.length := by omega
    rw [List.drop_length, rightR] at hS
    rw [← hS] at hQ
    simp only at hQ
    have hil : (ints all).length = all.length := by simp [ints]
    by_cases c3 : all.length = t.nodes.length
    case neg =>
      have hf : decide (all = iotaI t.nodes.length) = false := by
        simp only [decide_eq_false_iff_not]; intro e; rw [e] at c3; simp at c3
      rw [hf] at hQ
      have c3' : ¬ (all.length : Int) = t.nodes.length := by omega
      simp [hlt', ob, htc, hil, c3, c3']
      exact fin_wk ow.gr (.same _) (by simp) hQ
    have c3' : (all.length : Int) = t.nodes.length := by omega
    simp [hlt', ob, htc, hil, c3, c3']
    refine loopI (n := all.length) (fun m env h2 => ∃ j, j ≤ all.length ∧ m = all.length - j ∧ h2 = h' ∧ env = [(1, .ptr h.nobj 0), (3, .sl e1 st (ints all)), (9, .int .i64 j)] ∧ all.take j = iotaI j ∧ (t.nodes.take j).all (fineT t) = true) ?_ ⟨0, by omega, by omega, rfl, rfl, by simp [iotaI], by simp⟩
    rintro m env h2 ⟨j, hj, rfl, rfl, rfl, ha, hfi⟩
    unfold A.probateref06_Right.L2
    by_cases hjl : j < all.length
    · obtain rfl : e1 = 1 := ow.el.resolve_left (fun e => by rw [e] at hil; simp at hil; omega)
      have hjl' : (j : Int) < all.length := by omega
      have hjn : j < t.nodes.length := by omega
      have hjn' : (j : Int) < t.nodes.length := by omega
      have hga := ints_get hjl
      have hgn : (t.nodes.map ndV).getD j .undef = ndV t.nodes[j] := Enc.getD hjn
      have hw1 : IntKind.i64.wrap ((j : Int) + 1) = ((j + 1 : Nat) : Int) := by rw [wrap_i64 (by omega) (by omega)]; rfl
      have hnl := hnn _ (List.getElem_mem hjn)
      have hnc : ndC t.nodes[j] = [.int .i64 t.nodes[j].kind, .str t.nodes[j].name, .sl 1 0 (ints t.nodes[j].kids)] := rfl
      by_cases c4 : all[j] = j
      · cases c5 : fineT t t.nodes[j] with
        | false =>
          have hf : t.nodes.all (fineT t) = false := by
            apply Bool.eq_false_iff.2; intro e
            rw [List.all_eq_true] at e
            rw [e _ (List.getElem_mem hjn)] at c5; cases c5
          rw [hf, Bool.and_false] at hQ
          simp [hil, hjl', hjn', hga, V.cells, c4, ob, htc, hgn, ndV, hnc, c3']
          rw [← htc, ← hnc]
          refine dcall (.bool (fineT t t.nodes[j])) (rfine_spec L.fine L.rule L.quote t _ (by omega) (by omega) ⟨rfl, rfl⟩) ?_
          simp [c5]
          exact fin_wk ow.gr (.same _) (by simp) hQ
        | true =>
          simp [hil, hjl', hjn', hga, V.cells, c4, ob, htc, hgn, ndV, hnc, c3']
          rw [← htc, ← hnc]
          refine dcall (.bool (fineT t t.nodes[j])) (rfine_spec L.fine L.rule L.quote t _ (by omega) (by omega) ⟨rfl, rfl⟩) ?_
          simp [c5, hw1]
          exact ⟨all.length - (j + 1), by omega, iv ⟨j + 1, by omega, rfl, rfl, rfl, by rw [List.take_succ_eq_append_getElem hjl, ha, c4, iotaI_succ], by rw [List.take_succ_eq_append_getElem hjn, List.all_append, hfi]; simp [c5]⟩⟩
      · have hf : decide (all = iotaI t.nodes.length) = false := by
          simp only [decide_eq_false_iff_not]; intro e
          apply c4
          have : all[j]? = (iotaI t.nodes.length)[j]? := by rw [← e]
          rw [iotaI_get hjn, List.getElem?_eq_getElem hjl] at this
          exact Option.some.inj this
        rw [hf] at hQ
        simp [hil, hjl', hjn', hga, V.cells, c4, c3']
        exact fin_wk ow.gr (.same _) (by simp) hQ
    · have hjl' : ¬ (j : Int) < all.length := by omega
      obtain rfl : j = all.length := by omega
      rw [List.take_length, c3] at ha
      rw [List.take_of_length_le (by omega)] at hfi
      rw [ha, hfi] at hQ
      simp [hil, hjl', c3']
      exact fin_wk ow.gr (.same _) (by simp) (by simpa using hQ)
end
end Go.Proofs.Ytecgbggobecpjaa.Al
namespace Go.Proofs.Ytecgbggobecpjaa.Al
open Go Go.RowKit
set_option linter.unusedSimpArgs false
set_option linter.unusedVariables false
attribute [-simp] List.getD_eq_getElem?_getD Int.not_lt Int.not_le List.drop_one List.map_take
section
variable {X : Cx} {h : AH} {Q : V → AH → Prop}
theorem scanR_len (s : Str) : (scanR s).1.length ≤ s.length := by
  unfold scanR
  have := scanL_len s.length s 0
  split
  · simp
  · split
    · simp
    · exact this
end
end Go.Proofs.Ytecgbggobecpjaa.Al
namespace Go.Proofs.Ytecgbggobecpjaa.Al
open Go Go.RowKit
set_option linter.unusedSimpArgs false
set_option linter.unusedVariables false
attribute [-simp] List.getD_eq_getElem?_getD Int.not_lt Int.not_le List.drop_one List.map_take
theorem runN_all {p : UInt8 → Bool} {t : Str} (h : ∀ c ∈ t, p c = true) (r : Str) : runN p (t ++ r) = t.length + runN p r := by
  induction t with
  | nil => simp
  | cons c t ih => rw [List.cons_append, runN_cons, if_pos (h c (by simp)), ih fun d hd => h d (by simp [hd])]; simp; omega
theorem runN_stop {p : UInt8 → Bool} {c : UInt8} (h : p c = false) (r : Str) : runN p (c :: r) = 0 := by rw [runN_cons]; simp [h]
theorem take_run (p : UInt8 → Bool) (s : Str) : ∀ c ∈ s.take (runN p s), p c = true := by
  rw [take_runN]; intro c hc; exact List.all_eq_true.1 (List.all_takeWhile (p := p)) c hc |> fun h => by simpa using h
/-- As it is written. -/
def tokText (t : Tok) : Str := if t.kind = 2 then 39 :: (t.text ++ [39]) else t.text
def goodTok (t : Tok) : Prop := (t.kind = 1 ∧ (∃ c r, t.text = c :: r ∧ letterB c = true) ∧ ∀ c ∈ t.text, partB c = true) ∨ (t.kind = 2 ∧ t.text ≠ [] ∧ ∀ c ∈ t.text, quotedB c = true) ∨ (t.kind = 3 ∧ ∃ c, t.text = [c] ∧ c ∈ marksL)
theorem tokText_pos {t : Tok} (h : goodTok t) : 1 ≤ (tokText t).length := by
  rcases h with ⟨h1, ⟨c, r, e, _⟩, _⟩ | ⟨h1, _⟩ | ⟨h1, c, e, _⟩
  · simp [tokText, h1, e]
  · simp [tokText, h1]
  · simp [tokText, h1, e]
theorem sfirst_cons (c : UInt8) (s : Str) : sfirst (c :: s) =
    if bt c = 35 then (0, [], runN notLf (c :: s))
    else if bt c = 13 ∨ bt c = 32 ∨ bt c = 9 ∨ bt c = 10 then (0, [], 1)
    else if letterB c then (1, (c :: s).take (runN partB (c :: s)), runN partB (c :: s))
    else if bt c = 39 then
      if runN quotedB s = 0 ∨ runN quotedB s = s.length ∨ bt (s.getD (runN quotedB s) 0) ≠ 39 then (0, [], 0) else (2, s.take (runN quotedB s), runN quotedB s + 2)
    else if c ∈ marksL then (3, [c], 1)
    else (0, [], 0) := by
  unfold sfirst
  simp only [List.getD_cons_zero, List.drop_succ_cons, List.drop_zero, List.length_cons, List.getD_cons_succ, List.take_succ_cons, List.take_zero, Nat.add_right_cancel_iff]
  rfl
theorem sfirst_tok {s : Str} (k : Nat) (hne : s ≠ []) (h0 : (sfirst s).2.2 ≠ 0) (h1 : (sfirst s).1 ≠ 0) :
    goodTok ⟨(sfirst s).1, (sfirst s).2.1, k⟩ ∧ tokText ⟨(sfirst s).1, (sfirst s).2.1, k⟩ = s.take (sfirst s).2.2 := by
  cases s with
  | nil => exact absurd rfl hne
  | cons c s =>
    rw [sfirst_cons] at h0 h1 ⊢
    by_cases c1 : bt c = 35
    · rw [if_pos c1] at h1; exact absurd rfl h1
    rw [if_neg c1] at h0 h1 ⊢
    by_cases c2 : bt c = 13 ∨ bt c = 32 ∨ bt c = 9 ∨ bt c = 10
    · rw [if_pos c2] at h1; exact absurd rfl h1
    rw [if_neg c2] at h0 h1 ⊢
    by_cases c3 : letterB c = true
    · rw [if_pos c3] at h0 h1 ⊢
      have hp : partB c = true := by simp only [letterB] at c3; simp [partB, partI, c3]
      refine ⟨.inl ⟨rfl, ⟨c, s.take (runN partB s), ?_, c3⟩, take_run partB (c :: s)⟩, rfl⟩
      simp [runN_cons, hp]
    rw [if_neg c3] at h0 h1 ⊢
    by_cases c4 : bt c = 39
    · rw [if_pos c4] at h0 h1 ⊢
      by_cases c5 : runN quotedB s = 0 ∨ runN quotedB s = s.length ∨ bt (s.getD (runN quotedB s) 0) ≠ 39
      · rw [if_pos c5] at h1; exact absurd rfl h1
      rw [if_neg c5] at h0 h1 ⊢
      have hle := runN_le quotedB s
      have c6 : runN quotedB s < s.length := by omega
      have c7 : s.getD (runN quotedB s) 0 = 39 := bt_inj.1 ((show bt (s.getD (runN quotedB s) 0) = 39 by omega).trans rfl)
      have c8 : c = 39 := bt_inj.1 (c4.trans rfl)
      refine ⟨.inr (.inl ⟨rfl, ?_, take_run quotedB s⟩), ?_⟩
      · intro e; have e2 := congrArg List.length e; simp only [List.length_take, List.length_nil] at e2; omega
      · simp only [tokText, if_true, List.take_succ_cons, c8]
        rw [List.take_succ_eq_append_getElem c6]
        have : s[runN quotedB s] = 39 := by rw [← c7]; simp [List.getD, List.getElem?_eq_getElem c6]
        rw [this]
    rw [if_neg c4] at h0 h1 ⊢
    by_cases c5 : c ∈ marksL
    · rw [if_pos c5]
      exact ⟨.inr (.inr ⟨rfl, c, rfl, c5⟩), rfl⟩
    · rw [if_neg c5] at h1; exact absurd rfl h1
theorem letterB_ne {c : UInt8} (h : letterB c = true) : bt c ≠ 35 ∧ ¬ (bt c = 13 ∨ bt c = 32 ∨ bt c = 9 ∨ bt c = 10) := by
  have := letterI_ne (c := bt c) h; omega
/-- Each stands at its place. -/
def chain (s0 : Str) : Nat → List Tok → Prop
  | _, [] => True
  | k, t :: l => goodTok t ∧ k ≤ t.at' ∧ t.at' + (tokText t).length ≤ s0.length ∧ (s0.drop t.at').take (tokText t).length = tokText t ∧ chain s0 (t.at' + (tokText t).length) l
theorem chain_mono {s0 : Str} {k k' : Nat} (h : k ≤ k') : ∀ {l : List Tok}, chain s0 k' l → chain s0 k l
  | [], _ => trivial
  | t :: l, ⟨a, b, c⟩ => ⟨a, by omega, c⟩
theorem scanL_chain (s0 : Str) : ∀ (n k : Nat), k ≤ s0.length → chain s0 k (scanL n (s0.drop k) k).1
  | 0, k, h => trivial
  | n + 1, k, h => by
    by_cases hne : s0.drop k = []
    · rw [hne, scanL_nil]; trivial
    rw [scanL_step k hne]
    split
    · trivial
    · rename_i h0
      have hle := sfirst_le hne
      simp at hle
      have ih := scanL_chain s0 n (k + (sfirst (s0.drop k)).2.2) (by omega)
      rw [← List.drop_drop] at ih
      by_cases h1 : (sfirst (s0.drop k)).1 = 0
      · rw [if_pos h1]
        exact chain_mono (by omega) ih
      · rw [if_neg h1]
        obtain ⟨g, e⟩ := sfirst_tok k hne h0 h1
        have hlen : (tokText ⟨(sfirst (s0.drop k)).1, (sfirst (s0.drop k)).2.1, k⟩).length = (sfirst (s0.drop k)).2.2 := by rw [e]; simp; omega
        refine ⟨g, by simp, by rw [hlen]; simp; omega, by rw [hlen, e], ?_⟩
        rw [hlen]; exact ih
theorem scanR_chain (s : Str) : chain s 0 (scanR s).1 := by
  unfold scanR
  split
  · trivial
  · split
    · trivial
    · exact scanL_chain s s.length 0 (by omega)
theorem chain_good {s0 : Str} : ∀ {l : List Tok} {k : Nat}, chain s0 k l → ∀ t ∈ l, goodTok t
  | [], k, _, t, ht => by simp at ht
  | u :: l, k, ⟨g, _, _, _, c⟩, t, ht => by
    rcases List.mem_cons.1 ht with rfl | ht
    · exact g
    · exact chain_good c t ht
/-! ### Between -/
end Go.Proofs.Ytecgbggobecpjaa.Al
namespace Go.Proofs.Ytecgbggobecpjaa.Al
open Go Go.RowKit
set_option linter.unusedSimpArgs false
set_option linter.unusedVariables false
theorem iotaI_pre {u : List Int} {n : Nat} (h : u <+: iotaI n) : u = iotaI u.length ∧ u.length ≤ n := by
  have hl : u.length ≤ n := by simpa using h.length_le
  refine ⟨?_, hl⟩
  rw [List.prefix_iff_eq_take] at h
  rw [h]
  simp only [iotaI, ← List.map_take, List.take_range, List.length_map, List.length_range]
theorem iotaI_last {l : List Int} {v : Int} {n : Nat} (h : l ++ [v] = iotaI n) : n = l.length + 1 ∧ v = l.length ∧ l = iotaI l.length := by
  have hn : n = l.length + 1 := by have := congrArg List.length h; simp at this; omega
  subst hn
  rw [iotaI_succ] at h
  obtain ⟨a, b⟩ := List.append_inj' h rfl
  exact ⟨rfl, by simpa using b, a⟩
theorem undK_pre {L : Nat} {rec : Int → List Int → List Int} (hr : ∀ k out, out <+: rec k out) (n : Int) : ∀ (ks out : List Int), out <+: undK L rec n ks out
  | [], out => ⟨[n], rfl⟩
  | k :: ks, out => by
    unfold undK
    split
    · exact ⟨[-1], rfl⟩
    · exact (hr k out).trans (undK_pre hr n ks _)
theorem undT_pre (t : Te) : ∀ (f : Nat) (n : Int) (out : List Int), out <+: undT t f n out
  | 0, n, out => ⟨[-1], rfl⟩
  | f + 1, n, out => by
    unfold undT
    split
    · exact ⟨[-1], rfl⟩
    · exact undK_pre (undT_pre t f) n _ _
theorem rightR_pre (t : Te) : ∀ (rs : List Rl) (seen : List Str) (u v : List Int), rightR t rs seen u = some v → u <+: v
  | [], _, u, v, h => by simp [rightR] at h; subst h; exact List.prefix_refl _
  | r :: rs, seen, u, v, h => by
    unfold rightR at h
    split at h
    · exact (undT_pre t _ _ _).trans (rightR_pre t rs _ _ _ h)
    · cases h
theorem runS_add (t : Te) : ∀ (j k a : Nat) (st st1 : List Int), runS t j a st = some st1 → runS t (j + k) a st = runS t k (a + j) st1
  | 0, k, a, st, st1, h => by simp [runS] at h; subst h; simp
  | j + 1, k, a, st, st1, h => by
    rw [show j + 1 + k = (j + k) + 1 by omega, runS]
    rw [runS] at h
    cases hs : stpS t a st with
    | none => rw [hs] at h; cases h
    | some st2 =>
      rw [hs] at h
      simp only at h ⊢
      rw [runS_add t j k (a + 1) st2 st1 h, show a + 1 + j = a + (j + 1) by omega]
/-- What the reference lists in order, the stack takes. -/
theorem runS_und (t : Te) (hf : ∀ n ∈ t.nodes, fineP t n = true) : ∀ (f : Nat) (n : Int) (a b : Nat), undT t f n (iotaI a) = iotaI b → b ≤ t.nodes.length →
    ∃ m : Nat, n = m ∧ a ≤ m ∧ b = m + 1 ∧ ∀ st, runS t (b - a) a st = some (st ++ [n])
  | 0, n, a, b, h, hb => by
    have := iotaI_last h; omega
  | f + 1, n, a, b, h, hb => by
    unfold undT at h
    split at h
    · have := iotaI_last h; omega
    · rename_i c
      obtain ⟨m, rfl⟩ : ∃ m : Nat, n = (m : Int) := ⟨n.toNat, by omega⟩
      have hm : m < t.nodes.length := by omega
      rw [Int.toNat_natCast, List.getElem?_eq_getElem hm] at h
      simp only at h
      have key : ∀ (ks : List Int) (a' : Nat), undK t.nodes.length (undT t f) m ks (iotaI a') = iotaI b → a' ≤ m ∧ b = m + 1 ∧ ∀ st, runS t (m - a') a' st = some (st ++ ks) := by
        intro ks
        induction ks with
        | nil =>
          intro a' h
          have := iotaI_last h
          simp at this
          obtain ⟨h1, h2⟩ := this
          refine ⟨by omega, by omega, fun st => ?_⟩
          rw [show m - a' = 0 by omega]; simp [runS]
        | cons k ks ih =>
          intro a' h
          unfold undK at h
          split at h
          · have := iotaI_last h; omega
          · rename_i c2
            have hp := undK_pre (L := t.nodes.length) (undT_pre t f) m ks (undT t f k (iotaI a'))
            rw [h] at hp
            obtain ⟨e1, e2⟩ := iotaI_pre hp
            obtain ⟨q, hq, q1, q2, q3⟩ := runS_und t hf f k a' _ e1 (by omega)
            rw [e1] at h
            obtain ⟨r1, r2, r3⟩ := ih _ h
            refine ⟨by omega, r2, fun st => ?_⟩
            have := runS_add t ((undT t f k (iotaI a')).length - a') (m - (undT t f k (iotaI a')).length) a' st _ (q3 st)
            rw [show (undT t f k (iotaI a')).length - a' + (m - (undT t f k (iotaI a')).length) = m - a' by omega, show a' + ((undT t f k (iotaI a')).length - a') = (undT t f k (iotaI a')).length by omega, r3] at this
            rw [this]; simp
      obtain ⟨k1, k2, k3⟩ := key _ a h
      refine ⟨m, rfl, k1, k2, fun st => ?_⟩
      have hlast : runS t 1 m (st ++ t.nodes[m].kids) = some (st ++ [(m : Int)]) := by
        simp only [runS, stpS]
        rw [List.getElem?_eq_getElem hm]
        simp only
        rw [if_pos ⟨hf _ (List.getElem_mem hm), by simp, by simp⟩]
        simp
      have := runS_add t (m - a) 1 a st _ (k3 st)
      rw [show m - a + 1 = b - a by omega, show a + (m - a) = m by omega, hlast] at this
      exact this
/-- A stack covers what stands from a place to a place. -/
inductive Seg (t : Te) : Nat → List Int → Nat → Prop
  | nil (a : Nat) : Seg t a [] a
  | cons (a c b : Nat) (st : List Int) (h : ∀ f : Nat, c < f → undT t f c (iotaI a) = iotaI (c + 1)) (h1 : a ≤ c) (h2 : Seg t (c + 1) st b) : Seg t a ((c : Int) :: st) b
theorem Seg.le {t : Te} {a b : Nat} {st : List Int} (s : Seg t a st b) : a ≤ b := by
  induction s with
  | nil => exact Nat.le_refl _
  | cons a c b st h h1 h2 ih => omega
theorem Seg.app {t : Te} {a b c : Nat} {s1 s2 : List Int} (x : Seg t a s1 b) (y : Seg t b s2 c) : Seg t a (s1 ++ s2) c := by
  induction x with
  | nil => exact y
  | cons a c b st h h1 h2 ih => exact .cons _ _ _ _ h h1 (ih y)
theorem Seg.split {t : Te} {c : Nat} {s2 : List Int} : ∀ {s1 : List Int} {a : Nat}, Seg t a (s1 ++ s2) c → ∃ b, Seg t a s1 b ∧ Seg t b s2 c
  | [], a, x => ⟨a, .nil a, x⟩
  | v :: s1, a, x => by
    cases x with
    | cons a k b st h h1 h2 =>
      obtain ⟨m, y, z⟩ := Seg.split h2
      exact ⟨m, .cons _ _ _ _ h h1 y, z⟩
theorem undK_seg {t : Te} {f n : Nat} (hn : n < t.nodes.length) (hf : n ≤ f) : ∀ {ks : List Int} {a : Nat}, Seg t a ks n → undK t.nodes.length (undT t f) n ks (iotaI a) = iotaI (n + 1)
  | [], a, s => by cases s; simp [undK, iotaI_succ]
  | k :: ks, a, s => by
    cases s with
    | cons a c b st h h1 h2 =>
      have := h2.le
      unfold undK
      rw [if_neg (by simp; omega), h f (by omega)]
      exact undK_seg hn hf h2
theorem Seg.step {t : Te} {lo a : Nat} {st st' : List Int} (s : Seg t lo st a) (h : stpS t a st = some st') : Seg t lo st' (a + 1) ∧ ∃ h : a < t.nodes.length, fineP t t.nodes[a] = true := by
  unfold stpS at h
  split at h
  · rename_i nd hnd
    obtain ⟨hlt, rfl⟩ := List.getElem?_eq_some_iff.1 hnd
    split at h
    · rename_i c
      obtain ⟨c1, c2, c3⟩ := c
      obtain rfl := Option.some.inj h
      refine ⟨?_, hlt, c1⟩
      rw [← List.take_append_drop (st.length - t.nodes[a].kids.length) st, c3] at s
      obtain ⟨b, s1, s2⟩ := Seg.split s
      refine s1.app (.cons _ _ _ _ (fun f hf => ?_) s2.le (.nil _))
      obtain ⟨f, rfl⟩ : ∃ g, f = g + 1 := ⟨f - 1, by omega⟩
      unfold undT
      have := s2.le
      rw [if_neg (by simp; omega), Int.toNat_natCast, List.getElem?_eq_getElem hlt]
      exact undK_seg hlt (by omega) s2
    · cases h
  · cases h
theorem Seg.run {t : Te} {lo : Nat} : ∀ (k a : Nat) (st st' : List Int), Seg t lo st a → runS t k a st = some st' → Seg t lo st' (a + k) ∧ ∀ i, a ≤ i → i < a + k → ∃ h : i < t.nodes.length, fineP t t.nodes[i] = true
  | 0, a, st, st', s, h => by simp [runS] at h; subst h; exact ⟨s, fun i h1 h2 => by omega⟩
  | k + 1, a, st, st', s, h => by
    rw [runS] at h
    cases hs : stpS t a st with
    | none => rw [hs] at h; cases h
    | some st2 =>
      rw [hs] at h
      obtain ⟨s2, hlt, hf⟩ := s.step hs
      obtain ⟨s3, h3⟩ := Seg.run k (a + 1) st2 st' s2 h
      refine ⟨by rw [show a + (k + 1) = a + 1 + k by omega]; exact s3, fun i h1 h2 => ?_⟩
      by_cases e : i = a
      · subst e; exact ⟨hlt, hf⟩
      · exact h3 i (by omega) (by omega)
theorem name_eq (s : Str) : nameR s = tokenT s 1 := by
  have hch := scanR_chain s
  unfold nameR tokenT
  generalize scanR s = R at *
  obtain ⟨l, p, e⟩ := R
  match l, hch with
  | [], _ => rfl
  | _ :: _ :: _, _ => rfl
  | [a], hch =>
    obtain ⟨g, h1, h2, _⟩ := hch
    simp only at h2 ⊢
    by_cases k1 : a.kind = 1
    · by_cases k2 : a.text = s
      · have : tokText a = s := by unfold tokText; rw [k1, k2]; simp
        rw [this] at h2
        have h0 : a.at' = 0 := by omega
        simp [k1, k2, h0]
      · simp [k1, k2]
    · have : ¬ (a.kind : Int) = 1 := by omega
      simp [k1, this]
theorem right_fwd (t : Te) : ∀ (rs : List Rl) (seen : List Str) (a b : Nat), rightS t rs seen a = some b → rightR t rs seen (iotaI a) = some (iotaI b) ∧ ∀ i, a ≤ i → i < b → ∃ h : i < t.nodes.length, fineP t t.nodes[i] = true
  | [], seen, a, b, h => by simp [rightS] at h; subst h; exact ⟨rfl, fun i h1 h2 => by omega⟩
  | r :: rs, seen, a, b, h => by
    unfold rightS at h
    split at h
    · rename_i c
      obtain ⟨c1, c2, c3, c4⟩ := c
      split at h
      · rename_i x hx
        obtain ⟨B, hB⟩ : ∃ B : Nat, r.body = (B : Int) := ⟨r.body.toNat, by omega⟩
        rw [hB, Int.toNat_natCast] at hx h
        obtain ⟨s, hs⟩ := Seg.run _ _ _ _ (Seg.nil a) hx
        obtain ⟨k1, k2⟩ := right_fwd t rs _ _ _ h
        have hu : undT t t.nodes.length r.body (iotaI a) = iotaI (B + 1) := by
          rw [show a + (B + 1 - a) = B + 1 by omega] at s
          cases s with
          | cons a c b st h h1 h2 =>
            cases h2
            rw [hB]; exact h _ (by omega)
        refine ⟨?_, fun i h1 h2 => ?_⟩
        · unfold rightR
          rw [if_pos ⟨by rw [name_eq]; exact c1, c2⟩, hu]; exact k1
        · by_cases e : i < B + 1
          · exact hs i h1 (by omega)
          · exact k2 i (by omega) h2
      · cases h
    · cases h
theorem right_bwd (t : Te) (hf : ∀ n ∈ t.nodes, fineP t n = true) : ∀ (rs : List Rl) (seen : List Str) (a : Nat), rightR t rs seen (iotaI a) = some (iotaI t.nodes.length) → rightS t rs seen a = some t.nodes.length
  | [], seen, a, h => by
    simp [rightR] at h
    have := congrArg List.length h
    simp at this
    simp [rightS, this]
  | r :: rs, seen, a, h => by
    unfold rightR at h
    split at h
    · rename_i c
      obtain ⟨c1, c2⟩ := c
      obtain ⟨e1, e2⟩ := iotaI_pre (rightR_pre t _ _ _ _ h)
      obtain ⟨m, hm, q1, q2, q3⟩ := runS_und t hf _ _ _ _ e1 e2
      rw [e1, q2] at h
      have ih := right_bwd t hf rs _ _ h
      unfold rightS
      rw [q2] at q3
      rw [hm, Int.toNat_natCast, if_pos ⟨by rw [← name_eq]; exact c1, c2, by omega, by omega⟩, q3 []]
      exact ih
    · cases h
/-- The program's and the reference's answers are the same. -/
theorem right_eq (t : Te) : rightP t = rightD t := by
  have hfe : ∀ n, fineT t n = fineP t n := fun n => (fineP_eq t n).symm
  unfold rightP rightD
  congr 1
  apply Bool.eq_iff_iff.2
  simp only [decide_eq_true_eq]
  constructor
  · intro h
    obtain ⟨k1, k2⟩ := right_fwd t _ _ _ _ h
    rw [show iotaI 0 = [] from rfl] at k1
    rw [k1]
    simp only [decide_true, Bool.true_and, List.all_eq_true]
    intro n hn
    obtain ⟨i, hi, rfl⟩ := List.getElem_of_mem hn
    obtain ⟨_, hf⟩ := k2 i (by omega) hi
    rw [hfe]; exact hf
  · intro h
    split at h
    · rename_i all hall
      simp only [Bool.and_eq_true, decide_eq_true_eq, List.all_eq_true] at h
      rw [h.1] at hall
      exact right_bwd t (fun n hn => by rw [← hfe]; exact h.2 n hn) _ _ 0 hall
    · cases h
end Go.Proofs.Ytecgbggobecpjaa.Al
namespace Go.Proofs.Ytecgbggobecpjaa.Al
open Go Go.RowKit
set_option linter.unusedSimpArgs false
set_option linter.unusedVariables false
def iotaF (a k : Nat) : List Int := (List.range k).map fun i : Nat => ((a + i : Nat) : Int)
theorem iotaF_zero (k : Nat) : iotaF 0 k = iotaI k := by simp [iotaF, iotaI]
theorem iotaF_succ (a k : Nat) : iotaF a (k + 1) = (a : Int) :: iotaF (a + 1) k := by
  simp only [iotaF, List.range_succ_eq_map, List.map_cons, List.map_map, Nat.add_zero]
  congr 1
  apply List.map_congr_left
  intro i _
  simp only [Function.comp, Nat.succ_eq_add_one]; congr 1; omega
theorem iotaF_add (a j k : Nat) : iotaF a (j + k) = iotaF a j ++ iotaF (a + j) k := by
  induction j generalizing a with
  | zero => simp [iotaF]
  | succ j ih => rw [show j + 1 + k = (j + k) + 1 by omega, iotaF_succ, iotaF_succ, ih, show a + 1 + j = a + (j + 1) by omega]; simp
/-- What is known of a tree that may be. -/
structure RTe (t : Te) : Prop where
  r0 : 0 < t.rules.length
  r1 : t.rules.length ≤ 24
  n1 : t.nodes.length ≤ 200
  names : (rnames t).Nodup
  fine : ∀ n ∈ t.nodes, fineT t n = true
  perm : (t.nodes.flatMap (·.kids) ++ t.rules.map (·.body)).Perm (iotaI t.nodes.length)
  lt : ∀ i (h : i < t.nodes.length), ∀ k ∈ t.nodes[i].kids, 0 ≤ k ∧ k < i
  tok : ∀ r ∈ t.rules, tokenT r.name 1 = true
theorem stpS_perm {t : Te} {a : Nat} {st st' : List Int} (h : stpS t a st = some st') : ∃ hlt : a < t.nodes.length, (t.nodes[a].kids ++ st').Perm (st ++ [(a : Int)]) ∧ fineP t t.nodes[a] = true ∧ (∀ k ∈ t.nodes[a].kids, k ∈ st) ∧ ∀ x ∈ st', x ∈ st ∨ x = a := by
  unfold stpS at h
  split at h
  · rename_i nd hnd
    obtain ⟨hlt, rfl⟩ := List.getElem?_eq_some_iff.1 hnd
    split at h
    · rename_i c
      obtain ⟨c1, c2, c3⟩ := c
      obtain rfl := Option.some.inj h
      refine ⟨hlt, ?_, c1, fun k hk => ?_, fun x hx => ?_⟩
      · have e := List.take_append_drop (st.length - t.nodes[a].kids.length) st
        rw [c3] at e
        rw [← List.append_assoc]
        refine List.Perm.append_right _ ?_
        refine List.perm_append_comm.trans ?_
        rw [e]
      · rw [← c3] at hk; exact List.mem_of_mem_drop hk
      · simp only [List.mem_append, List.mem_singleton] at hx
        exact hx.imp List.mem_of_mem_take id
    · cases h
  · cases h
theorem runS_perm {t : Te} : ∀ (k a : Nat) (st st' : List Int), runS t k a st = some st' → (∀ x ∈ st, 0 ≤ x ∧ x < (a : Int)) →
    (((t.nodes.drop a).take k).flatMap (·.kids) ++ st').Perm (st ++ iotaF a k) ∧ (∀ x ∈ st', 0 ≤ x ∧ x < ((a + k : Nat) : Int)) ∧ ∀ i (h : i < t.nodes.length), a ≤ i → i < a + k → ∀ m ∈ t.nodes[i].kids, 0 ≤ m ∧ m < i
  | 0, a, st, st', h, hs => by
    simp [runS] at h; subst h
    exact ⟨by simp [iotaF], by simpa using hs, fun i _ h1 h2 => by omega⟩
  | k + 1, a, st, st', h, hs => by
    rw [runS] at h
    cases hst : stpS t a st with
    | none => rw [hst] at h; cases h
    | some st2 =>
      rw [hst] at h
      obtain ⟨hlt, p1, p2, p3, p4⟩ := stpS_perm hst
      have hs2 : ∀ x ∈ st2, 0 ≤ x ∧ x < ((a + 1 : Nat) : Int) := fun x hx => by
        rcases p4 x hx with e | e
        · have := hs x e; omega
        · omega
      obtain ⟨q1, q2, q3⟩ := runS_perm k (a + 1) st2 st' h hs2
      refine ⟨?_, by rw [show a + (k + 1) = a + 1 + k by omega]; exact q2, fun i hi h1 h2 m hm => ?_⟩
      · rw [List.drop_eq_getElem_cons hlt, List.take_succ_cons, List.flatMap_cons, List.append_assoc, iotaF_succ]
        refine (List.Perm.append_left _ q1).trans ?_
        rw [← List.append_assoc]
        refine (List.Perm.append_right _ p1).trans ?_
        simp
      · by_cases e : i = a
        · subst e; exact hs m (p3 m hm)
        · exact q3 i hi (by omega) (by omega) m hm
theorem rightS_all {t : Te} : ∀ (rs : List Rl) (seen : List Str) (a b : Nat), rightS t rs seen a = some b → seen.Nodup → a ≤ b ∧
    (seen ++ rs.map (·.name)).Nodup ∧ (((t.nodes.drop a).take (b - a)).flatMap (·.kids) ++ rs.map (·.body)).Perm (iotaF a (b - a)) ∧ (∀ i (h : i < t.nodes.length), a ≤ i → i < b → ∀ m ∈ t.nodes[i].kids, 0 ≤ m ∧ m < i) ∧ ∀ r ∈ rs, tokenT r.name 1 = true
  | [], seen, a, b, h, hs => by
    simp [rightS] at h; subst h
    exact ⟨Nat.le_refl _, by simpa using hs, by simp [iotaF], fun i _ h1 h2 => by omega, by simp⟩
  | r :: rs, seen, a, b, h, hs => by
    unfold rightS at h
    split at h
    · rename_i c
      obtain ⟨c1, c2, c3, c4⟩ := c
      split at h
      · rename_i x hx
        obtain ⟨B, hB⟩ : ∃ B : Nat, r.body = (B : Int) := ⟨r.body.toNat, by omega⟩
        rw [hB, Int.toNat_natCast] at hx h
        have hns : (seen ++ [r.name]).Nodup := by
          rw [List.nodup_append]
          exact ⟨hs, by simp, fun a ha b hb e => by simp at hb; subst e; subst hb; exact c2 ha⟩
        obtain ⟨k1, k2, k3, k4, k5⟩ := rightS_all rs _ _ _ h hns
        obtain ⟨p1, p2, p3⟩ := runS_perm _ _ _ _ hx (by simp)
        obtain ⟨s, hsf⟩ := Seg.run _ _ _ _ (Seg.nil a) hx
        have hxB : x = (B : Int) := by
          rw [show a + (B + 1 - a) = B + 1 by omega] at s
          cases s with
          | cons a c b st h h1 h2 => cases h2; rfl
        subst hxB
        refine ⟨by omega, by simpa using k2, ?_, fun i hi h1 h2 m hm => ?_, fun q hq => ?_⟩
        · have e1 : b - a = (B + 1 - a) + (b - (B + 1)) := by omega
          have e2 : (t.nodes.drop a).take (b - a) = (t.nodes.drop a).take (B + 1 - a) ++ (t.nodes.drop (B + 1)).take (b - (B + 1)) := by
            rw [e1, List.take_add, List.drop_drop, show a + (B + 1 - a) = B + 1 by omega]
          rw [e2, List.flatMap_append, e1, iotaF_add, show a + (B + 1 - a) = B + 1 by omega]
          simp only [List.map_cons, hB]
          simp only [List.nil_append] at p1
          refine List.Perm.trans ?_ (p1.append k3)
          simp only [List.append_assoc]
          refine List.Perm.append_left _ ?_
          refine List.Perm.trans (List.perm_middle) ?_
          simp
        · by_cases e : i < B + 1
          · exact p3 i hi h1 (by omega) m hm
          · exact k4 i hi (by omega) h2 m hm
        · rcases List.mem_cons.1 hq with rfl | hq
          · exact c1
          · exact k5 q hq
      · cases h
    · cases h
theorem rte_of {t : Te} (h : rightP t = true) : RTe t := by
  have hD := h
  rw [right_eq] at hD
  unfold rightP at h
  simp only [Bool.and_eq_true, decide_eq_true_eq] at h
  obtain ⟨⟨⟨h1, h2⟩, h3⟩, h4⟩ := h
  obtain ⟨k1, k2, k3, k4, k5⟩ := rightS_all _ _ _ _ h4 (by simp)
  obtain ⟨_, hfi⟩ := right_fwd t _ _ _ _ h4
  rw [iotaF_zero] at k3
  simp only [Nat.sub_zero, List.drop_zero, List.take_length] at k3
  exact ⟨h1, h2, h3, by simpa [rnames] using k2, fun n hn => by
    obtain ⟨i, hi, rfl⟩ := List.getElem_of_mem hn
    rw [← fineP_eq]; exact (hfi i (by omega) hi).2, k3, fun i hi m hm => k4 i hi (by omega) hi m hm, k5⟩
theorem iotaI_nodup (n : Nat) : (iotaI n).Nodup := by
  unfold iotaI
  refine List.Pairwise.map _ (fun a b h => ?_) List.nodup_range
  intro e; exact h (by omega)
theorem RTe.nodup {t : Te} (r : RTe t) : (t.nodes.flatMap (·.kids) ++ t.rules.map (·.body)).Nodup := r.perm.nodup_iff.2 (iotaI_nodup _)
theorem flat_at {α : Type} {f : α → List Int} : ∀ (l : List α) (i j : Nat) (hi : i < l.length) (hj : j < l.length) (m : Int), (l.flatMap f).Nodup → m ∈ f l[i] → m ∈ f l[j] → i = j
  | [], i, j, hi, hj, m, _, _, _ => by simp at hi
  | a :: l, i, j, hi, hj, m, h, h1, h2 => by
    rw [List.flatMap_cons, List.nodup_append] at h
    match i, j with
    | 0, 0 => rfl
    | 0, j + 1 =>
      exfalso
      simp at h1 h2 hj
      exact h.2.2 m h1 m (List.mem_flatMap.2 ⟨_, List.getElem_mem hj, h2⟩) rfl
    | i + 1, 0 =>
      exfalso
      simp at h1 h2 hi
      exact h.2.2 m h2 m (List.mem_flatMap.2 ⟨_, List.getElem_mem hi, h1⟩) rfl
    | i + 1, j + 1 =>
      simp at hi hj h1 h2
      rw [flat_at l i j hi hj m h.2.1 h1 h2]
/-- A node is one's kid. -/
theorem RTe.one {t : Te} (r : RTe t) {i j : Nat} (hi : i < t.nodes.length) (hj : j < t.nodes.length) {m : Int} (h1 : m ∈ t.nodes[i].kids) (h2 : m ∈ t.nodes[j].kids) : i = j :=
  flat_at (f := (·.kids)) t.nodes i j hi hj m (List.nodup_append.1 r.nodup).1 h1 h2
theorem RTe.body {t : Te} (r : RTe t) {q : Rl} (hq : q ∈ t.rules) : 0 ≤ q.body ∧ q.body < t.nodes.length := by
  have : q.body ∈ iotaI t.nodes.length := r.perm.mem_iff.1 (List.mem_append.2 (.inr (List.mem_map.2 ⟨q, hq, rfl⟩)))
  unfold iotaI at this
  obtain ⟨i, hi, e⟩ := List.mem_map.1 this
  simp at hi
  omega
end Go.Proofs.Ytecgbggobecpjaa.Al
namespace Go.Proofs.Ytecgbggobecpjaa.Al
open Go Go.RowKit
set_option linter.unusedSimpArgs false
set_option linter.unusedVariables false
attribute [-simp] List.getD_eq_getElem?_getD Int.not_lt Int.not_le List.map_take
structure RightG (g : Gm) : Prop where
  head : 0 ≤ g.terms ∧ g.terms ≤ 16 ∧ 1 ≤ g.nons ∧ g.nons ≤ 24 ∧ 0 ≤ g.start ∧ g.start < g.nons ∧ g.prods.length ≤ 60
  prods : ∀ p ∈ g.prods, 0 ≤ p.left ∧ p.left < g.nons ∧ p.right.length ≤ 8 ∧ ∀ s ∈ p.right, 0 ≤ s.n ∧ s.n < (if s.non = true then g.nons else g.terms)
theorem RightG.sym {g : Gm} (r : RightG g) {p : Pr} (hp : p ∈ g.prods) {s : Sy} (hs : s ∈ p.right) : 0 ≤ s.n ∧ s.n ≤ 23 := by
  have h1 := (r.prods p hp).2.2.2 s hs
  have h2 := r.head
  split at h1 <;> omega
end Go.Proofs.Ytecgbggobecpjaa.Al
namespace Go.Proofs.Ytecgbggobecpjaa.Al
open Go Go.RowKit
set_option linter.unusedSimpArgs false
set_option linter.unusedVariables false
attribute [-simp] List.getD_eq_getElem?_getD Int.not_lt Int.not_le List.map_take
/-! ### Steps -/
def okS (s : Sy) : Prop := 0 ≤ s.n ∧ s.n ≤ 23
def okP (p : Pr) : Prop := (0 ≤ p.left ∧ p.left ≤ 23) ∧ p.right.length ≤ 8 ∧ ∀ s ∈ p.right, okS s
def okG (g : Gm) : Prop := (0 ≤ g.terms ∧ g.terms ≤ 16) ∧ (0 ≤ g.nons ∧ g.nons ≤ 24) ∧ (0 ≤ g.start ∧ g.start ≤ 23) ∧ g.prods.length ≤ 60 ∧ ∀ p ∈ g.prods, okP p
theorem RightG.ok {g : Gm} (r : RightG g) : okG g := by
  obtain ⟨a, b, c, d, e, f, i⟩ := r.head
  refine ⟨⟨a, b⟩, ⟨by omega, d⟩, ⟨e, by omega⟩, i, fun p hp => ?_⟩
  obtain ⟨h1, h2, h3, h4⟩ := r.prods p hp
  exact ⟨⟨h1, by omega⟩, h3, fun s hs => r.sym hp hs⟩
/-! ### Readers that may be -/
end Go.Proofs.Ytecgbggobecpjaa.Al
namespace Go.Proofs.Ytecgbggobecpjaa.Al
open Go Go.RowKit
set_option linter.unusedSimpArgs false
set_option linter.unusedVariables false
attribute [-simp] List.getD_eq_getElem?_getD Int.not_lt Int.not_le List.map_take
structure TeSm (t : Te) : Prop where
  r : t.rules.length ≤ 30
  n : t.nodes.length ≤ 210
  rn : ∀ r ∈ t.rules, r.name.length ≤ 2 ^ 30
  nn : ∀ n ∈ t.nodes, n.name.length ≤ 2 ^ 30
  ks : ∀ n ∈ t.nodes, n.kids.length ≤ 2 ^ 30
theorem sm_of {t : Te} (h : largeT t = false) : TeSm t := by
  unfold largeT at h
  simp only [Bool.or_eq_false_iff, decide_eq_false_iff_not, List.any_eq_false] at h
  obtain ⟨⟨⟨h1, h2⟩, h3⟩, h4⟩ := h
  refine ⟨by omega, by omega, fun r hr => ?_, fun n hn => ?_, fun n hn => ?_⟩
  · have := h3 r hr; simp at this; omega
  · have := h4 n hn; simp at this; omega
  · have := h4 n hn; simp at this; omega
theorem Bdd_teV (n m : Nat) (t : Te) : Bdd n m (teV t) := by
  simp only [teV, teC, Bdd_agg]
  intro v hv
  simp at hv
  rcases hv with rfl | rfl
  · rw [Bdd_sl0]; exact ⟨by omega, encRl.cells _ _ _⟩
  · rw [Bdd_sl0]; exact ⟨by omega, encNd.cells _ _ _⟩
section
variable {X : Cx} {h : AH} {Q : V → AH → Prop}
theorem Wk.l2 {a b c d : V} (x : Wk a c) (y : Wk b d) : Wk (.agg [a, b]) (.agg [c, d]) := .agg _ _ rfl fun i h1 h2 => by
  match i with
  | 0 => exact x
  | 1 => exact y
  | n + 2 => simp at h1; omega
theorem Wk.sln {e e1 st : Nat} {l : List V} (h : l = [] ∨ e1 = e) : Wk (.sl e1 st l) (.sl e 0 l) := by
  rcases h with rfl | rfl
  · exact .nil _ _ _
  · exact .sl _ _ _
theorem own6_spec (H : Has (Ecx X) K.probatelaw06_Own A.probatelaw06_Own) (t : Te) (hr : t.rules.length ≤ 2 ^ 30) (hn : t.nodes.length ≤ 2 ^ 30) (hQ : Q (teV t) h) : Ecx X K.probatelaw06_Own [teV t] h Q := by
  refine fn_walk H (by simp [A.probatelaw06_Own]) fun wf => ?_
  have htc : teC t = [.sl 2 0 (t.rules.map rlV), .sl 3 0 (t.nodes.map ndV)] := rfl
  have gr := (((Gr.refl h).new (teC t)).new [.sl 0 1 [], .sl 0 1 []]).new [.sl 0 1 [], .sl 0 1 []]
  have hb0 : (((h.new (teC t)).new [.sl 0 1 [], .sl 0 1 []]).new [.sl 0 1 [], .sl 0 1 []]).objs h.nobj = teC t := by simp
  have hb1 : (((h.new (teC t)).new [.sl 0 1 [], .sl 0 1 []]).new [.sl 0 1 [], .sl 0 1 []]).objs (h.nobj + 1) = [.sl 0 1 [], .sl 0 1 []] := by simp
  have hb2 : (((h.new (teC t)).new [.sl 0 1 [], .sl 0 1 []]).new [.sl 0 1 [], .sl 0 1 []]).objs (h.nobj + 2) = [.sl 0 1 [], .sl 0 1 []] := by simp
  have hb3 : (((h.new (teC t)).new [.sl 0 1 [], .sl 0 1 []]).new [.sl 0 1 [], .sl 0 1 []]).nobj = h.nobj + 3 := by simp
  simp [A.probatelaw06_Own, teV, V.cells, V.good, fillV, setAt]
  generalize (((h.new (teC t)).new [.sl 0 1 [], .sl 0 1 []]).new [.sl 0 1 [], .sl 0 1 []]) = h1 at *
  simp [hb0, htc]
  refine loopI (n := t.rules.length) (fun m env h' => ∃ k e1 st, k ≤ t.rules.length ∧ m = t.rules.length - k ∧ Own h h' 2 e1 st ((t.rules.take k).map rlV) ∧ h'.objs h.nobj = teC t ∧ h'.objs (h.nobj + 1) = [.sl 0 1 [], .sl 0 1 []] ∧ h'.objs (h.nobj + 2) = [.sl e1 st ((t.rules.take k).map rlV), .sl 0 1 []] ∧ h.nobj + 3 ≤ h'.nobj ∧
      env = [(1, .ptr h.nobj 0), (2, .ptr (h.nobj + 1) 0), (3, .ptr (h.nobj + 2) 0), (10, .sl 2 0 (t.rules.map rlV)), (11, .int .i64 t.rules.length), (12, .int .i64 k)]) ?_
    ⟨0, 0, 1, by omega, by omega, ⟨gr, .inl rfl, .inl rfl⟩, hb0, hb1, by simpa using hb2, by omega, rfl⟩
  rintro m env h' ⟨k, e1, st, hk, rfl, ow, ob0, ob1, ob2, nb, rfl⟩
  unfold A.probatelaw06_Own.L0
  by_cases hlt : k < t.rules.length
  · have hlt' : (k : Int) < t.rules.length := by omega
    have hg : (t.rules.map rlV).getD k .undef = rlV t.rules[k] := Enc.getD hlt
    have hw1 : IntKind.i64.wrap ((k : Int) + 1) = ((k + 1 : Nat) : Int) := by rw [wrap_i64 (by omega) (by omega)]; rfl
    have hrc : rlC t.rules[k] = [.str t.rules[k].name, .int .i64 t.rules[k].body] := rfl
    have hts : (t.rules.take k).map rlV ++ [rlV t.rules[k]] = (t.rules.take (k + 1)).map rlV := by
      rw [List.take_succ_eq_append_getElem hlt, List.map_append]; rfl
    have hsn : (t.rules.take k).length = k := by simp; omega
    generalize t.rules[k] = r at *
    have n1 : ¬ h.nobj + 2 = h'.nobj := by omega
    have n0 : ¬ h.nobj = h'.nobj := by omega
    have n2 : ¬ h.nobj + 1 = h'.nobj := by omega
    have q0 : (h'.new (rlC r)).objs h'.nobj = rlC r := by simp
    have q1 : (h'.new (rlC r)).objs h.nobj = teC t := by simp [n0, ob0]
    have q2 : (h'.new (rlC r)).objs (h.nobj + 1) = [.sl 0 1 [], .sl 0 1 []] := by simp [n2, ob1]
    have q3 : (h'.new (rlC r)).objs (h.nobj + 2) = [.sl e1 st ((t.rules.take k).map rlV), .sl 0 1 []] := by simp [n1, ob2]
    have q4 : (h'.new (rlC r)).nobj = h'.nobj + 1 := by simp
    have ow2 := ow.new (rlC r)
    simp [hlt', hg, rlV, V.cells, V.good, hrc, setAt]
    rw [← hrc]
    generalize h'.new (rlC r) = h2 at *
    simp [q0, q3, hrc, fillL, V.isAgg]
    rw [← hrc, show V.agg (rlC r) = rlV r from rfl]
    refine ow2.appZ (fun _ => rfl) (by simp [hsn]; omega) fun e2 st2 h3 o3 ob3 no3 => ?_
    rw [hts] at o3 ⊢
    have m0 : ¬ h.nobj = h.nobj + 2 := by omega
    have m1 : ¬ h.nobj + 1 = h.nobj + 2 := by omega
    simp [hw1, V.cells, V.good, setAt, ob3, q3]
    exact ⟨t.rules.length - (k + 1), by omega, iv ⟨k + 1, e2, st2, by omega, rfl, o3.set (by omega) _, by rw [set_objs_ne _ _ _ m0, ob3]; exact q1, by rw [set_objs_ne _ _ _ m1, ob3]; exact q2, by rw [set_objs_same], by rw [set_nobj]; omega, rfl⟩⟩
  · have hlt' : ¬ (k : Int) < t.rules.length := by omega
    obtain rfl : k = t.rules.length := by omega
    rw [List.take_length] at ow ob2
    simp [hlt', ob0, htc]
    have hel := ow.el
    have gr2 := ow.gr
    refine loopI (n := t.nodes.length) (fun m env h2 => ∃ k e2 st2, k ≤ t.nodes.length ∧ m = t.nodes.length - k ∧ Own h h2 3 e2 st2 ((t.nodes.take k).map ndV) ∧ h2.objs (h.nobj + 1) = [.sl 0 1 [], .sl 0 1 []] ∧ h2.objs (h.nobj + 2) = [.sl e1 st (t.rules.map rlV), .sl e2 st2 ((t.nodes.take k).map ndV)] ∧ h.nobj + 3 ≤ h2.nobj ∧
      env = [(2, .ptr (h.nobj + 1) 0), (3, .ptr (h.nobj + 2) 0), (24, .sl 3 0 (t.nodes.map ndV)), (25, .int .i64 t.nodes.length), (26, .int .i64 k)]) ?_
      ⟨0, 0, 1, by omega, by omega, ⟨gr2, .inl rfl, .inl rfl⟩, ob1, by simpa using ob2, by omega, rfl⟩
    clear ow ob0 ob1 ob2 nb gr2 h'
    rintro m env h' ⟨k, e2, st2, hk, rfl, ow, ob1, ob2, nb, rfl⟩
    unfold A.probatelaw06_Own.L1
    by_cases hlt : k < t.nodes.length
    · have hlt' : (k : Int) < t.nodes.length := by omega
      have hg : (t.nodes.map ndV).getD k .undef = ndV t.nodes[k] := Enc.getD hlt
      have hw1 : IntKind.i64.wrap ((k : Int) + 1) = ((k + 1 : Nat) : Int) := by rw [wrap_i64 (by omega) (by omega)]; rfl
      have hnc : ndC t.nodes[k] = [.int .i64 t.nodes[k].kind, .str t.nodes[k].name, .sl 1 0 (ints t.nodes[k].kids)] := rfl
      have hts : (t.nodes.take k).map ndV ++ [ndV t.nodes[k]] = (t.nodes.take (k + 1)).map ndV := by
        rw [List.take_succ_eq_append_getElem hlt, List.map_append]; rfl
      have hsn : (t.nodes.take k).length = k := by simp; omega
      generalize t.nodes[k] = r at *
      have n1 : ¬ h.nobj + 2 = h'.nobj := by omega
      have n2 : ¬ h.nobj + 1 = h'.nobj := by omega
      have q0 : (h'.new (ndC r)).objs h'.nobj = ndC r := by simp
      have q2 : (h'.new (ndC r)).objs (h.nobj + 1) = [.sl 0 1 [], .sl 0 1 []] := by simp [n2, ob1]
      have q3 : (h'.new (ndC r)).objs (h.nobj + 2) = [.sl e1 st (t.rules.map rlV), .sl e2 st2 ((t.nodes.take k).map ndV)] := by simp [n1, ob2]
      have q4 : (h'.new (ndC r)).nobj = h'.nobj + 1 := by simp
      have ow2 := ow.new (ndC r)
      simp [hlt', hg, ndV, V.cells, V.good, hnc, setAt]
      rw [← hnc]
      generalize h'.new (ndC r) = h2 at *
      simp [q0, q3, hnc, fillL, V.isAgg]
      rw [← hnc, show V.agg (ndC r) = ndV r from rfl]
      refine ow2.appZ (fun _ => rfl) (by simp [hsn]; omega) fun e3 st3 h3 o3 ob3 no3 => ?_
      rw [hts] at o3 ⊢
      have m1 : ¬ h.nobj + 1 = h.nobj + 2 := by omega
      simp [hw1, V.cells, V.good, setAt, ob3, q3]
      exact ⟨t.nodes.length - (k + 1), by omega, iv ⟨k + 1, e3, st3, by omega, rfl, o3.set (by omega) _, by rw [set_objs_ne _ _ _ m1, ob3]; exact q2, by rw [set_objs_same], by rw [set_nobj]; omega, rfl⟩⟩
    · have hlt' : ¬ (k : Int) < t.nodes.length := by omega
      obtain rfl : k = t.nodes.length := by omega
      rw [List.take_length] at ow ob2
      have hb := Bdd_teV h.next h.nobj t
      have m1 : ¬ h.nobj + 1 = h.nobj + 2 := by omega
      simp [hlt', ob2, ob1, V.cells, V.good, setAt]
      exact fin_wk (ow.gr.set (by omega) _) (Wk.l2 (Wk.sln hel) (Wk.sln ow.el)) hb hQ
end
/-- Productions, as they lie: of their symbols less may be known. -/
def PrWL : List V → List Pr → Prop
  | [], [] => True
  | v :: vs, p :: ps => (∃ e st, v = .agg [.int .i64 p.left, .sl e st (p.right.map symV)] ∧ (p.right = [] ∨ e = 2)) ∧ PrWL vs ps
  | _, _ => False
theorem PrWL.app : ∀ {vs : List V} {ps : List Pr} {us : List V} {qs : List Pr}, PrWL vs ps → PrWL us qs → PrWL (vs ++ us) (ps ++ qs)
  | [], [], _, _, _, h => h
  | v :: vs, p :: ps, _, _, ⟨a, b⟩, h => ⟨a, PrWL.app b h⟩
theorem PrWL.len : ∀ {vs : List V} {ps : List Pr}, PrWL vs ps → vs.length = ps.length
  | [], [], _ => rfl
  | v :: vs, p :: ps, ⟨_, b⟩ => by simp [PrWL.len b]
theorem PrWL.wkl : ∀ {vs : List V} {ps : List Pr}, PrWL vs ps → WkL (cellsOf vs) (cellsOf (ps.map prV))
  | [], [], _ => .nil
  | v :: vs, p :: ps, ⟨⟨e, st, hv, h⟩, b⟩ => by
    subst hv
    simp only [List.map_cons, cellsOf_cons]
    refine .cons (.same _) (.cons (Wk.sln ?_) (PrWL.wkl b))
    rcases h with h | h
    · left; rw [h]; rfl
    · exact .inr h
theorem PrWL.wk {vs : List V} {ps : List Pr} (h : PrWL vs ps) {e st : Nat} (he : vs = [] ∨ e = 2) : Wk (.sl e st vs) (.sl 2 0 (ps.map prV)) := by
  obtain ⟨a, b⟩ := h.wkl.get
  rcases he with rfl | rfl
  · match ps, h with
    | [], _ => exact .nil _ _ _
  · exact .sld _ _ _ _ (by simp [h.len]) (fun v hv => by
      obtain ⟨p, _, rfl⟩ := List.mem_map.1 hv
      rfl) a b
theorem RTe.in {t : Te} (r : RTe t) {i : Nat} (hi : i < t.nodes.length) : ∀ m ∈ t.nodes[i].kids, 0 ≤ m ∧ m < t.nodes.length := fun m hm => by have := r.lt i hi m hm; omega
end Go.Proofs.Ytecgbggobecpjaa.Al
namespace Go.Proofs.Ytecgbggobecpjaa.Al
open Go Go.RowKit
set_option linter.unusedSimpArgs false
set_option linter.unusedVariables false
attribute [-simp] List.getD_eq_getElem?_getD Int.not_lt Int.not_le List.map_take
structure LSame6 (X : Cx) : Prop where
  same : Has (Ecx X) K.rules_Same A.rules_Same
  same1 : Has (Ecx X) K.rules_Same_1 A.rules_Same_1
  eqR : Has (Ecx X) K.slices_Equal_Rule A.slices_Equal_Rule
  eqN : Has (Ecx X) K.slices_EqualFunc_Node A.slices_EqualFunc_Node
  eqI : Has (Ecx X) K.slices_Equal_int A.slices_Equal_int
theorem eqfF_node : A.slices_EqualFunc_Node = eqfF 3 3 true true [.int .i64 0, .str [], .sl 0 1 []] [.int .i64 0, .str [], .sl 0 1 []] := rfl
section
variable {X : Cx} {h : AH} {Q : V → AH → Prop}
theorem eqI6_spec (H : Has (Ecx X) K.slices_Equal_int A.slices_Equal_int) (a b : List Int) (s t : Nat) (ha : a.length < 2 ^ 62) (hQ : Q (.bool (decide (a = b))) h) : Ecx X K.slices_Equal_int [.sl 1 s (a.map (V.int .i64)), .sl 1 t (b.map (V.int .i64))] h Q := by
  refine fn_walk H (by simp [A.slices_Equal_int]) fun wf => ?_
  by_cases hl : a.length = b.length
  · have hl' : (a.length : Int) = b.length := by omega
    simp [A.slices_Equal_int, hl']
    refine loopI (n := a.length) (fun m env h' => ∃ k, k ≤ a.length ∧ m = a.length - k ∧ h' = h ∧ env = [(0, .sl 1 s (a.map (V.int .i64))), (1, .sl 1 t (b.map (V.int .i64))), (12, .int .i64 b.length), (13, .int .i64 k)] ∧ a.take k = b.take k) ?_ ⟨0, by omega, by omega, rfl, by rfl, rfl⟩
    rintro m env h' ⟨k, hk, rfl, rfl, rfl, he⟩
    unfold A.slices_Equal_int.L0
    by_cases hlt : k < a.length
    · have hlt' : (k : Int) < b.length := by omega
      have hlb : k < b.length := by omega
      have hga : (a.map (V.int .i64)).getD k .undef = (V.int .i64) a[k] := Enc.getD (enc := (V.int .i64)) hlt
      have hgb : (b.map (V.int .i64)).getD k .undef = (V.int .i64) b[k] := Enc.getD (enc := (V.int .i64)) hlb
      have hw1 : IntKind.i64.wrap ((k : Int) + 1) = ((k + 1 : Nat) : Int) := by rw [wrap_i64 (by omega) (by omega)]; rfl
      by_cases e : a[k] = b[k]
      · simp [hl', hlt', hga, hgb, V.cells, V.good, e, hw1]
        exact ⟨a.length - (k + 1), by omega, iv ⟨k + 1, by omega, rfl, rfl, rfl, take_ext2 hlt hlb he e⟩⟩
      · have hf : decide (a = b) = false := by
          simp only [decide_eq_false_iff_not]; rintro rfl; exact e rfl
        rw [hf] at hQ
        simp [hl', hlt', hga, hgb, V.cells, e]; exact fin (by simp) hQ
    · have hlt' : ¬ (k : Int) < b.length := by omega
      simp [hl', hlt']
      refine fin (by simp) ?_
      have hk : k = a.length := by omega
      rw [hk, List.take_length, hl, List.take_length] at he
      simpa [he] using hQ
  · have hl' : ¬ (a.length : Int) = b.length := by omega
    simp [A.slices_Equal_int, hl']
    refine fin (by simp) ?_
    have : decide (a = b) = false := by simp; intro h; exact hl (by rw [h])
    rw [this] at hQ; exact hQ
theorem eqRl_spec (H : Has (Ecx X) K.slices_Equal_Rule A.slices_Equal_Rule) (a b : List Rl) (s t : Nat) (ha : a.length < 2 ^ 62) (hQ : Q (.bool (decide (a = b))) h) : Ecx X K.slices_Equal_Rule [.sl 2 s (a.map rlV), .sl 2 t (b.map rlV)] h Q := by
  refine fn_walk H (by simp [A.slices_Equal_Rule]) fun wf => ?_
  by_cases hl : a.length = b.length
  · have hl' : (a.length : Int) = b.length := by omega
    simp [A.slices_Equal_Rule, hl']
    refine loopI (n := a.length) (fun m env h' => ∃ k, k ≤ a.length ∧ m = a.length - k ∧ h' = h ∧ env = [(0, .sl 2 s (a.map rlV)), (1, .sl 2 t (b.map rlV)), (12, .int .i64 b.length), (13, .int .i64 k)] ∧ a.take k = b.take k) ?_ ⟨0, by omega, by omega, rfl, rfl, rfl⟩
    rintro m env h' ⟨k, hk, rfl, rfl, rfl, he⟩
    unfold A.slices_Equal_Rule.L0
    by_cases hlt : k < a.length
    · have hlt' : (k : Int) < b.length := by omega
      have hlb : k < b.length := by omega
      have hga : (a.map rlV).getD k .undef = rlV a[k] := Enc.getD hlt
      have hgb : (b.map rlV).getD k .undef = rlV b[k] := Enc.getD hlb
      have hw1 : IntKind.i64.wrap ((k : Int) + 1) = ((k + 1 : Nat) : Int) := by rw [wrap_i64 (by omega) (by omega)]; rfl
      by_cases e : a[k] = b[k]
      · simp [hl', hlt', hga, hgb, V.cells, rlV, rlC, e, hw1]
        exact ⟨a.length - (k + 1), by omega, iv ⟨k + 1, by omega, rfl, rfl, rfl, take_ext2 hlt hlb he e⟩⟩
      · have hne : (a[k].name = b[k].name → ¬ a[k].body = b[k].body) := by
          intro e1 e2; apply e; cases ha : a[k]; cases hb : b[k]; simp_all
        have hf : decide (a = b) = false := by
          simp only [decide_eq_false_iff_not]; rintro rfl; exact e rfl
        rw [hf] at hQ
        by_cases e1 : a[k].name = b[k].name <;> by_cases e2 : a[k].body = b[k].body <;> first | exact absurd e2 (hne e1) | (simp [hl', hlt', hga, hgb, V.cells, rlV, rlC, e1, e2]; exact fin (by simp) hQ)
    · have hlt' : ¬ (k : Int) < b.length := by omega
      simp [hl', hlt']
      refine fin (by simp) ?_
      have hk : k = a.length := by omega
      rw [hk, List.take_length, hl, List.take_length] at he
      simpa [he] using hQ
  · have hl' : ¬ (a.length : Int) = b.length := by omega
    simp [A.slices_Equal_Rule, hl']
    refine fin (by simp) ?_
    have : decide (a = b) = false := by simp; intro h; exact hl (by rw [h])
    rw [this] at hQ; exact hQ
theorem ruSame1_spec (L : LSame6 X) (a b : Nd) (ha : a.kids.length < 2 ^ 62) (hQ : Q (.bool (decide (a = b))) h) : Ecx X K.rules_Same_1 [ndV a, ndV b] h Q := by
  refine fn_walk L.same1 (by simp [A.rules_Same_1]) fun wf => ?_
  have gr := ((Gr.refl h).new (ndC a)).new (ndC b)
  simp [A.rules_Same_1, ndV, V.cells, V.good, ndC] at gr ⊢
  have hd : decide (a = b) = (decide (a.kind = b.kind) && decide (a.name = b.name) && decide (a.kids = b.kids)) := by
    obtain ⟨l1, r1, k1⟩ := a; obtain ⟨l2, r2, k2⟩ := b
    by_cases e1 : l1 = l2 <;> by_cases e2 : r1 = r2 <;> by_cases e3 : k1 = k2 <;> simp [e1, e2, e3]
  rw [hd] at hQ
  by_cases e1 : a.kind = b.kind
  case neg => simp [e1] at hQ ⊢; exact fin_wk gr (.same _) (by simp) hQ
  by_cases e2 : a.name = b.name
  case neg => simp [e1, e2] at hQ gr ⊢; exact fin_wk gr (.same _) (by simp) hQ
  simp [e1, e2] at hQ gr ⊢
  refine ecall (eqI6_spec L.eqI a.kids b.kids 0 0 ha ?_)
  simp
  exact fin_wk gr (.same _) (by simp) hQ
theorem ruSame_spec (L : LSame6 X) (a b : Te) (hr : a.rules.length < 2 ^ 62) (hn : a.nodes.length < 2 ^ 62) (hk : ∀ n ∈ a.nodes, n.kids.length < 2 ^ 62) (hQ : Q (.bool (decide (a = b))) h) : Ecx X K.rules_Same [teV a, teV b] h Q := by
  refine fn_walk L.same (by simp [A.rules_Same]) fun wf => ?_
  have gr := ((Gr.refl h).new (teC a)).new (teC b)
  simp [A.rules_Same, teV, V.cells, V.good, show ∀ t, teC t = [.sl 2 0 (t.rules.map rlV), .sl 3 0 (t.nodes.map ndV)] from fun _ => rfl] at gr ⊢
  have hd : decide (a = b) = (decide (a.rules = b.rules) && decide (a.nodes = b.nodes)) := by
    obtain ⟨r1, k1⟩ := a; obtain ⟨r2, k2⟩ := b
    by_cases e1 : r1 = r2 <;> by_cases e2 : k1 = k2 <;> simp [e1, e2]
  rw [hd] at hQ
  refine ecall (eqRl_spec L.eqR a.rules b.rules 0 0 hr ?_)
  by_cases e1 : a.rules = b.rules
  case neg => simp [e1] at hQ ⊢; exact fin_wk gr (.same _) (by simp) hQ
  simp [e1] at hQ gr ⊢
  have heq := L.eqN
  rw [eqfF_node] at heq
  refine ecall (equalFunc rfl rfl encNd encNd heq a.nodes b.nodes 0 0 _ [] [] (fun p q => decide (p = q)) hn (fun p hp q _ Q' h' _ hQ' => ruSame1_spec L p q (hk p hp) hQ') ?_)
  have : allEq (fun p q : Nd => decide (p = q)) a.nodes b.nodes = decide (a.nodes = b.nodes) := by
    by_cases e : a.nodes = b.nodes
    · simp [e, (allEq_iff (f := fun p q : Nd => decide (p = q)) (by simp) _ _).2 rfl]
    · cases h1 : allEq (fun p q : Nd => decide (p = q)) a.nodes b.nodes with
      | false => simp [e]
      | true => exact absurd ((allEq_iff (f := fun p q : Nd => decide (p = q)) (by simp) _ _).1 h1) e
  rw [this]
  simp
  exact fin_wk gr (.same _) (by simp) hQ
theorem ruSameR_spec (H : Has (Ecx X) K.probateref06_Same A.probateref06_Same) (H2 : Has (Ecx X) K.probateref02_Same A.probateref02_Same) (a b : Te) (hr : a.rules.length < 2 ^ 40) (hn : a.nodes.length < 2 ^ 40) (hk : ∀ n ∈ a.nodes, n.kids.length ≤ 2 ^ 40) (hQ : Q (.bool (decide (a = b))) h) :
    Ecx X K.probateref06_Same [teV a, teV b] h Q := by
  refine fn_walk H (by simp [A.probateref06_Same]) fun wf => ?_
  have gr := ((Gr.refl h).new [.sl 2 0 (a.rules.map rlV), .sl 3 0 (a.nodes.map ndV)]).new [.sl 2 0 (b.rules.map rlV), .sl 3 0 (b.nodes.map ndV)]
  have o1 : ((h.new [.sl 2 0 (a.rules.map rlV), .sl 3 0 (a.nodes.map ndV)]).new [.sl 2 0 (b.rules.map rlV), .sl 3 0 (b.nodes.map ndV)]).objs h.nobj = [.sl 2 0 (a.rules.map rlV), .sl 3 0 (a.nodes.map ndV)] := by simp
  have o2 : ((h.new [.sl 2 0 (a.rules.map rlV), .sl 3 0 (a.nodes.map ndV)]).new [.sl 2 0 (b.rules.map rlV), .sl 3 0 (b.nodes.map ndV)]).objs (h.nobj + 1) = [.sl 2 0 (b.rules.map rlV), .sl 3 0 (b.nodes.map ndV)] := by simp
  have hd : decide (a = b) = (decide (a.rules = b.rules) && decide (a.nodes = b.nodes)) := by
    obtain ⟨r1, k1⟩ := a; obtain ⟨r2, k2⟩ := b
    by_cases e1 : r1 = r2 <;> by_cases e2 : k1 = k2 <;> simp [e1, e2]
  rw [hd] at hQ
  simp [A.probateref06_Same, teV, V.cells, V.good, show ∀ t, teC t = [.sl 2 0 (t.rules.map rlV), .sl 3 0 (t.nodes.map ndV)] from fun _ => rfl]
  generalize (h.new [.sl 2 0 (a.rules.map rlV), .sl 3 0 (a.nodes.map ndV)]).new [.sl 2 0 (b.rules.map rlV), .sl 3 0 (b.nodes.map ndV)] = h1 at *
  by_cases l1 : a.rules.length = b.rules.length
  case neg =>
    have : ¬ a.rules = b.rules := fun e => l1 (by rw [e])
    have l1' : ¬ (a.rules.length : Int) = b.rules.length := by omega
    simp [this] at hQ
    simp [o1, o2, l1, l1']
    exact fin_wk gr (.same _) (by simp) hQ
  by_cases l2 : a.nodes.length = b.nodes.length
  case neg =>
    have : ¬ a.nodes = b.nodes := fun e => l2 (by rw [e])
    have l2' : ¬ (a.nodes.length : Int) = b.nodes.length := by omega
    simp [this] at hQ
    simp [o1, o2, l1, l2, l2']
    exact fin_wk gr (.same _) (by simp) hQ
  simp [o1, o2, l1, l2]
  refine loopI (n := a.rules.length) (fun m env h' => ∃ k, k ≤ a.rules.length ∧ m = a.rules.length - k ∧ h' = h1 ∧ env = [(2, .ptr h.nobj 0), (3, .ptr (h.nobj + 1) 0), (5, .int .i64 k)] ∧ a.rules.take k = b.rules.take k) ?_ ⟨0, by omega, by omega, rfl, rfl, rfl⟩
  rintro m env h' ⟨k, hk1, rfl, rfl, rfl, he⟩
  unfold A.probateref06_Same.L0
  by_cases hlt : k < a.rules.length
  · have hlb : k < b.rules.length := by omega
    have hlt' : (k : Int) < b.rules.length := by omega
    have hla' : (k : Int) < a.rules.length := by omega
    have hga : (a.rules.map rlV).getD k .undef = rlV a.rules[k] := Enc.getD hlt
    have hgb : (b.rules.map rlV).getD k .undef = rlV b.rules[k] := Enc.getD hlb
    have hw1 : IntKind.i64.wrap ((k : Int) + 1) = ((k + 1 : Nat) : Int) := by rw [wrap_i64 (by omega) (by omega)]; rfl
    by_cases e : a.rules[k] = b.rules[k]
    · simp [o1, o2, hlt, hlb, hlt', hla', hga, hgb, V.cells, rlV, rlC, e, hw1]
      exact ⟨a.rules.length - (k + 1), by omega, iv ⟨k + 1, by omega, rfl, rfl, rfl, take_ext2 hlt hlb he e⟩⟩
    · have hne : (a.rules[k].name = b.rules[k].name → ¬ a.rules[k].body = b.rules[k].body) := by
        intro e1 e2; apply e; cases ha : a.rules[k]; cases hb : b.rules[k]; simp_all
      have hf : ¬ a.rules = b.rules := by
        intro e2; apply e; simp only [e2]
      simp [hf] at hQ
      by_cases e1 : a.rules[k].name = b.rules[k].name <;> by_cases e2 : a.rules[k].body = b.rules[k].body <;> first | exact absurd e2 (hne e1) | (simp [o1, o2, hlt, hlb, hlt', hla', hga, hgb, V.cells, rlV, rlC, e1, e2]; exact fin_wk gr (.same _) (by simp) hQ)
  · have hla' : ¬ (k : Int) < a.rules.length := by omega
    have er : a.rules = b.rules := by
      have hk : k = a.rules.length := by omega
      rw [hk, List.take_length, l1, List.take_length] at he; exact he
    simp [er] at hQ
    simp [o1, hla', hlt]
    refine loopI (n := a.nodes.length) (fun m env h2 => ∃ k, k ≤ a.nodes.length ∧ m = a.nodes.length - k ∧ h2 = h' ∧ env = [(2, .ptr h.nobj 0), (3, .ptr (h.nobj + 1) 0), (6, .int .i64 k)] ∧ a.nodes.take k = b.nodes.take k) ?_ ⟨0, by omega, by omega, rfl, rfl, rfl⟩
    rintro m env h2 ⟨k, hk1, rfl, rfl, rfl, he⟩
    unfold A.probateref06_Same.L1
    by_cases hlt : k < a.nodes.length
    · have hlb : k < b.nodes.length := by omega
      have hlt' : (k : Int) < b.nodes.length := by omega
      have hla' : (k : Int) < a.nodes.length := by omega
      have hga : (a.nodes.map ndV).getD k .undef = ndV a.nodes[k] := Enc.getD hlt
      have hgb : (b.nodes.map ndV).getD k .undef = ndV b.nodes[k] := Enc.getD hlb
      have hw1 : IntKind.i64.wrap ((k : Int) + 1) = ((k + 1 : Nat) : Int) := by rw [wrap_i64 (by omega) (by omega)]; rfl
      have hno : a.nodes[k] ≠ b.nodes[k] → ¬ a.nodes = b.nodes := fun e e2 => e (by simp only [e2])
      by_cases e1 : a.nodes[k].kind = b.nodes[k].kind
      case neg =>
        have hf := hno (fun e => e1 (by rw [e]))
        simp [hf] at hQ
        simp [o1, o2, hlt, hlb, hlt', hla', hga, hgb, V.cells, ndV, ndC, e1]
        exact fin_wk gr (.same _) (by simp) hQ
      by_cases e2 : a.nodes[k].name = b.nodes[k].name
      case neg =>
        have hf := hno (fun e => e2 (by rw [e]))
        simp [hf] at hQ
        simp [o1, o2, hlt, hlb, hlt', hla', hga, hgb, V.cells, ndV, ndC, e1, e2]
        exact fin_wk gr (.same _) (by simp) hQ
      by_cases e3 : a.nodes[k].kids = b.nodes[k].kids
      · have e : a.nodes[k] = b.nodes[k] := by cases ha : a.nodes[k]; cases hb : b.nodes[k]; simp_all
        simp [o1, o2, hlt, hlb, hlt', hla', hga, hgb, V.cells, ndV, ndC, e1, e2]
        refine dcall (.bool true) (sameI_spec H2 a.nodes[k].kids b.nodes[k].kids 0 0 (hk _ (List.getElem_mem hlt)) ⟨by rw [decide_eq_true e3], rfl⟩) ?_
        simp [hw1]
        exact ⟨a.nodes.length - (k + 1), by omega, iv ⟨k + 1, by omega, rfl, rfl, rfl, take_ext2 hlt hlb he e⟩⟩
      · have hf := hno (fun e => e3 (by rw [e]))
        simp [hf] at hQ
        simp [o1, o2, hlt, hlb, hlt', hla', hga, hgb, V.cells, ndV, ndC, e1, e2]
        refine dcall (.bool false) (sameI_spec H2 a.nodes[k].kids b.nodes[k].kids 0 0 (hk _ (List.getElem_mem hlt)) ⟨by rw [decide_eq_false e3], rfl⟩) ?_
        simp
        exact fin_wk gr (.same _) (by simp) hQ
    · have hla' : ¬ (k : Int) < a.nodes.length := by omega
      have er : a.nodes = b.nodes := by
        have hk : k = a.nodes.length := by omega
        rw [hk, List.take_length, l2, List.take_length] at he; exact he
      simp [er] at hQ
      simp [o1, hla', hlt]
      exact fin_wk gr (.same _) (by simp) hQ
end
end Go.Proofs.Ytecgbggobecpjaa.Al
namespace Go.Proofs.Ytecgbggobecpjaa.Al
open Go Go.RowKit
set_option linter.unusedSimpArgs false
set_option linter.unusedVariables false
attribute [-simp] List.getD_eq_getElem?_getD Int.not_lt Int.not_le List.drop_one List.map_take
theorem scanL_at : ∀ (n : Nat) (s : Str) (k p : Nat), (scanL n s k).2 = some p → p ≤ k + s.length
  | 0, s, k, p, h => by simp [scanL] at h
  | n + 1, s, k, p, h => by
    by_cases hne : s = []
    · subst hne; simp [scanL_nil] at h
    rw [scanL_step k hne] at h
    split at h
    · simp at h; omega
    · have := scanL_at n _ _ p h
      have hle := sfirst_le hne
      simp at this; omega
theorem scanR_at (s : Str) : (scanR s).2.1 ≤ s.length := by
  unfold scanR
  split
  · simp
  · split
    · rename_i p h; have := scanL_at _ _ _ _ h; simp; omega
    · simp
theorem scanR_small {s : Str} (hs : s.length ≤ 4000) : scanR s = match (scanL s.length s 0).2 with
    | some p => ([], p, 2)
    | none => ((scanL s.length s 0).1, 0, 0) := by
  unfold scanR; rw [if_neg (by omega)]
  cases (scanL s.length s 0).2 <;> rfl
end Go.Proofs.Ytecgbggobecpjaa.Al
namespace Go.Proofs.Ytecgbggobecpjaa.Al
open Go Go.RowKit
set_option linter.unusedSimpArgs false
set_option linter.unusedVariables false
attribute [-simp] List.getD_eq_getElem?_getD Int.not_lt Int.not_le List.map_take List.map_map
/-! ### Names -/
/-- The first name that an earlier one has. -/
def twiceP : List Str → List Use → Option Nat
  | _, [] => none
  | seen, u :: l => if u.name ∈ seen then some u.at' else twiceP (seen ++ [u.name]) l
def missP (seen : List Str) : List Use → Option Nat
  | [] => none
  | u :: l => if u.name ∈ seen then missP seen l else some u.at'
def namesP (given used : List Use) : Nat × Int := match twiceP [] given with
  | some p => (p, 7)
  | none => match missP (given.map (·.name)) used with
    | some p => (p, 6)
    | none => (0, 0)
def entN (l : List Str) : List V := l.map fun s => .tup [.str s, .int .i64 1]
theorem findE_entN (s : Str) : ∀ (l : List Str) (j : Nat), (s ∉ l ∧ findE .s (.str s) (entN l) j = some none ∧ (∀ v, findE .s (.str s) (entN l ++ [.tup [.str s, v]]) j = some (some (j + l.length, v)))) ∨
    (s ∈ l ∧ ∃ i, i < l.length ∧ findE .s (.str s) (entN l) j = some (some (j + i, .int .i64 1)) ∧ ∀ v, findE .s (.str s) ((entN l).set i (.tup [.str s, v])) j = some (some (j + i, v)))
  | [], j => .inl ⟨by simp, rfl, fun v => by simp [entN, findE, eqKey, eqLeaf]⟩
  | a :: l, j => by
    by_cases c : s = a
    · exact .inr ⟨by simp [c], 0, by simp, by simp [c, entN, findE, eqKey, eqLeaf], fun v => by simp [entN, findE, eqKey, eqLeaf]⟩
    · have hs : ∀ r, findE .s (.str s) (.tup [.str a, .int .i64 1] :: r) j = findE .s (.str s) r (j + 1) := fun r => by simp [findE, eqKey, eqLeaf, c]
      have e : entN (a :: l) = .tup [.str a, .int .i64 1] :: entN l := rfl
      rw [e, hs]
      rcases findE_entN s l (j + 1) with ⟨h1, h2, h3⟩ | ⟨h1, i, h2, h3, h4⟩
      · refine .inl ⟨by simp [c, h1], h2, fun v => ?_⟩
        rw [List.cons_append, hs, h3]; simp; omega
      · refine .inr ⟨by simp [h1], i + 1, by simpa using h2, by rw [h3, show j + 1 + i = j + (i + 1) by omega], fun v => ?_⟩
        rw [List.set_cons_succ, hs, h4, show j + 1 + i = j + (i + 1) by omega]
section
variable {X : Cx} {h : AH} {Q : V → AH → Prop}
theorem uses_getD {l : List Use} {i : Nat} (h : i < l.length) : (l.map useV).getD i .undef = .agg [.str l[i].name, .int .i64 (l[i].at' : Nat)] := by
  simp [List.getD, h, useV]
theorem ruNames_spec (H : Has (Ecx X) K.rules_reader_names A.rules_reader_names) {o : Nat} {c0 c1 c2 c3 c4 : V} {e3 e4 s3 s4 : Nat} {G U : List Use} (ob : h.objs o = [c0, c1, c2, c3, c4, .sl e3 s3 (G.map useV), .sl e4 s4 (U.map useV)]) (ho : o < h.nobj) (hg : G.length < 2 ^ 60) (hu : U.length < 2 ^ 60)
    (he3 : G = [] ∨ e3 = 2) (he4 : U = [] ∨ e4 = 2) (hQ : Q (.tup [.int .i64 ((namesP G U).1 : Nat), .int .i64 (namesP G U).2]) h) : Ecx X K.rules_reader_names [.ptr o 0] h Q := by
  refine fn_walk H (by simp [A.rules_reader_names]) fun wf => ?_
  have n1 : ¬ o = h.nobj := by omega
  simp [A.rules_reader_names, ob, n1]
  refine loopI (n := G.length) (fun m env h' => ∃ k, k ≤ G.length ∧ m = G.length - k ∧ Gr h h' ∧ h'.objs h.nobj = entN ((G.take k).map (·.name)) ∧ h.nobj < h'.nobj ∧ env = [(0, .ptr o 0), (4, .mapr h.nobj), (13, .sl e3 s3 (G.map useV)), (14, .int .i64 G.length), (15, .int .i64 k)] ∧
      twiceP [] G = twiceP ((G.take k).map (·.name)) (G.drop k)) ?_ ⟨0, by omega, by omega, (Gr.refl h).new _, by simp [entN], by simp, rfl, rfl⟩
  rintro m env h' ⟨k, hk, rfl, gr, om, nb, rfl, ht⟩
  unfold A.rules_reader_names.L0
  by_cases hlt : k < G.length
  · obtain rfl : e3 = 2 := he3.resolve_left (by rintro rfl; simp at hlt)
    have hlt' : (k : Int) < G.length := by omega
    have hgd := uses_getD hlt
    have hw1 : IntKind.i64.wrap ((k : Int) + 1) = ((k + 1 : Nat) : Int) := by rw [wrap_i64 (by omega) (by omega)]; rfl
    have q1 : ¬ h'.nobj = h.nobj := by omega
    have q2 : ¬ h.nobj = h'.nobj := by omega
    have hd : G.drop k = G[k] :: G.drop (k + 1) := List.drop_eq_getElem_cons hlt
    rw [hd] at ht
    have htk : (G.take (k + 1)).map (·.name) = (G.take k).map (·.name) ++ [G[k].name] := by rw [List.take_succ_eq_append_getElem hlt, List.map_append]; rfl
    have w1 : IntKind.i64.wrap 1 = 1 := by decide
    have w2 : IntKind.i64.wrap 2 = 2 := by decide
    rcases findE_entN G[k].name ((G.take k).map (·.name)) 0 with ⟨f1, f2, f3⟩ | ⟨f1, i, f2, f3, f4⟩
    · have ht' : twiceP [] G = twiceP ((G.take (k + 1)).map (·.name)) (G.drop (k + 1)) := by rw [ht, twiceP, if_neg f1, htk]
      simp [hlt', hgd, V.cells, V.good, setAt, om, q1, q2, f2, f3, w1]
      exact ⟨G.length - (k + 1), by omega, iv ⟨k + 1, by omega, rfl, (gr.set (Nat.le_refl _) _).new _, by rw [htk]; simp [q2, entN], by simp; omega, by simp [hw1], ht'⟩⟩
    · have ht' : twiceP [] G = some G[k].at' := by rw [ht, twiceP, if_pos f1]
      simp [hlt', hgd, V.cells, V.good, setAt, om, q1, q2, f3, f4, w2]
      have hq : namesP G U = (G[k].at', 7) := by unfold namesP; rw [ht']
      rw [hq] at hQ
      exact fin_wk ((gr.set (Nat.le_refl _) _).new _) (.same _) (by simp) hQ
  · have hlt' : ¬ (k : Int) < G.length := by omega
    obtain rfl : k = G.length := by omega
    rw [List.take_length, List.drop_length] at ht
    rw [List.take_length] at om
    have ht' : twiceP [] G = none := ht
    have hq : namesP G U = match missP (G.map (·.name)) U with
      | some p => (p, 6)
      | none => (0, 0) := by unfold namesP; rw [ht']
    rw [hq] at hQ
    have q1 : ¬ o = h.nobj := n1
    have ob' : h'.objs o = [c0, c1, c2, c3, c4, .sl e3 s3 (G.map useV), .sl e4 s4 (U.map useV)] := (gr.objs o ho).trans ob
    simp [hlt', ob']
    refine loopI (n := U.length) (fun m env h2 => ∃ k, k ≤ U.length ∧ m = U.length - k ∧ Gr h h2 ∧ h2.objs h.nobj = entN (G.map (·.name)) ∧ h.nobj < h2.nobj ∧ env = [(4, .mapr h.nobj), (35, .sl e4 s4 (U.map useV)), (36, .int .i64 U.length), (37, .int .i64 k)] ∧
        missP (G.map (·.name)) U = missP (G.map (·.name)) (U.drop k)) ?_ ⟨0, by omega, by omega, gr, om, nb, rfl, rfl⟩
    rintro m env h2 ⟨k, hk, rfl, gr2, om2, nb2, rfl, hm⟩
    unfold A.rules_reader_names.L1
    by_cases hlt : k < U.length
    · obtain rfl : e4 = 2 := he4.resolve_left (by rintro rfl; simp at hlt)
      have hlt' : (k : Int) < U.length := by omega
      have hgd := uses_getD hlt
      have hw1 : IntKind.i64.wrap ((k : Int) + 1) = ((k + 1 : Nat) : Int) := by rw [wrap_i64 (by omega) (by omega)]; rfl
      have q1 : ¬ h2.nobj = h.nobj := by omega
      have q2 : ¬ h.nobj = h2.nobj := by omega
      have hd : U.drop k = U[k] :: U.drop (k + 1) := List.drop_eq_getElem_cons hlt
      rw [hd, missP] at hm
      rcases findE_entN U[k].name (G.map (·.name)) 0 with ⟨f1, f2, f3⟩ | ⟨f1, i, f2, f3, f4⟩
      · rw [if_neg f1] at hm
        rw [hm] at hQ
        simp [hlt', hgd, V.cells, V.good, setAt, om2, q1, q2, f2]
        exact fin_wk (gr2.new _) (.same _) (by simp) hQ
      · rw [if_pos f1] at hm
        simp [hlt', hgd, V.cells, V.good, setAt, om2, q1, q2, f3, hw1]
        exact ⟨U.length - (k + 1), by omega, iv ⟨k + 1, by omega, rfl, gr2.new _, by simp [q2, om2], by simp; omega, rfl, hm⟩⟩
    · have hlt' : ¬ (k : Int) < U.length := by omega
      obtain rfl : k = U.length := by omega
      rw [List.drop_length] at hm
      rw [hm] at hQ
      simp [hlt']
      exact fin_wk gr2 (.same _) (by simp) hQ
/-! ### Read -/
def noTe : Te := ⟨[], []⟩
def ruRd (s : Str) : Te × Nat × Int :=
  if (scanR s).2.2 ≠ 0 then (noTe, (scanR s).2.1, (scanR s).2.2)
  else match textP (scanR s).1 s.length with
    | .error p => (noTe, p, 2)
    | .ok (st, _) => if 24 < st.rules.length ∨ 200 < st.nodes.length then (noTe, 0, 5)
      else if (namesP st.given st.used).2 ≠ 0 then (noTe, (namesP st.given st.used).1, (namesP st.given st.used).2)
      else (⟨st.rules, st.nodes⟩, 0, 0)
def ruRdV (s : Str) : V := .tup [teV (ruRd s).1, .int .i64 ((ruRd s).2.1 : Nat), .int .i64 (ruRd s).2.2]
structure LRead (X : Cx) : Prop where
  ls : LS X
  parse : ∀ (toks : List Tok) (en : Nat) (h : AH) (o : Nat) (σ : S4) (Q : V → AH → Prop), RdP toks en h o ⟨0, [], [], [], []⟩ σ → toks.length < 2 ^ 30 → (∀ t ∈ toks, t.kind = 1 ∨ t.kind = 2 ∨ t.kind = 3) →
    (∀ s, textP toks en = .ok (s, ()) → ∀ h1 σ1, RE h h1 o σ σ1 → RdP toks en h1 o s σ1 → Q (.int .i64 (-1)) h1) → (∀ p, textP toks en = .error p → ∀ h1 σ1, RE h h1 o σ σ1 → Q (.int .i64 (p : Nat)) h1) → Ecx X K.rules_reader_parse [.ptr o 0] h Q
  names : Has (Ecx X) K.rules_reader_names A.rules_reader_names
  read : Has (Ecx X) K.rules_Read A.rules_Read
theorem RE.gr {h0 h h1 : AH} {o : Nat} {σ σ1 : S4} (G : Gr h0 h) (f : RE h h1 o σ σ1) (ho : h0.nobj ≤ o) (hs : ∀ s, σ.has s → s ≤ 2 ∨ h0.next ≤ s) : Gr h0 h1 := by
  have g1 := G.next
  have g2 := G.nobj
  exact ⟨Nat.le_trans g1 f.next, Nat.le_trans g2 f.nobj, fun o' h' => (f.objs o' (by omega) (by omega)).trans (G.objs o' h'), fun s h' => (f.tips s (by omega) (by
    by_cases c : σ.has s
    · rcases hs s c with d | d
      · exact .inr d
      · omega
    · exact .inl c)).trans (G.tips s h')⟩
theorem scan_kinds (s : Str) : ∀ t ∈ (scanR s).1, t.kind = 1 ∨ t.kind = 2 ∨ t.kind = 3 := fun t ht => by
  rcases chain_good (scanR_chain s) t ht with ⟨a, _⟩ | ⟨a, _⟩ | ⟨a, _⟩
  · exact .inl a
  · exact .inr (.inl a)
  · exact .inr (.inr a)
theorem wk_tree {e1 s1 e2 s2 : Nat} {R : List Rl} {N : List V} {l : List Nd} (h1 : R = [] ∨ e1 = 2) (h2 : l = [] ∨ e2 = 3) (hN : WkE N (l.map ndV)) : Wk (.agg [.sl e1 s1 (R.map rlV), .sl e2 s2 N]) (teV ⟨R, l⟩) := by
  have w1 : Wk (.sl e1 s1 (R.map rlV)) (.sl 2 0 (R.map rlV)) := by
    rcases h1 with rfl | rfl
    · exact .nil _ _ _
    · exact .sl _ _ _
  have w2 : Wk (.sl e2 s2 N) (.sl 3 0 (l.map ndV)) := by
    rcases h2 with rfl | rfl
    · cases hN; exact .nil _ _ _
    · exact hN.sl (fun v hv => by obtain ⟨n, _, rfl⟩ := List.mem_map.1 hv; rfl)
  refine .agg _ _ rfl fun i i1 i2 => ?_
  match i with
  | 0 => exact w1
  | 1 => exact w2
  | n + 2 => simp at i1; omega
theorem bdd_te (n m : Nat) (t : Te) : Bdd n m (teV t) := by
  rw [teV, Bdd_agg]
  intro v hv
  simp only [teC, List.mem_cons, List.not_mem_nil, or_false] at hv
  rcases hv with rfl | rfl
  · rw [Bdd_sl0]; exact ⟨.inl (by omega), encRl.cells _ _ _⟩
  · rw [Bdd_sl0]; exact ⟨.inl (by omega), encNd.cells _ _ _⟩
theorem ruRead_spec (L : LRead X) (s : Str) (hl : s.length ≤ 2 ^ 28) (hQ : Q (ruRdV s) h) : Ecx X K.rules_Read [.str s] h Q := by
  refine fn_walk L.read (by simp [A.rules_Read]) fun wf => ?_
  have n1 : ¬ h.nobj + 1 = h.nobj := by omega
  have hwl : (scanR s).1.length ≤ s.length := scanR_len s
  simp [A.rules_Read]
  refine ecall (scan_spec L.ls s (by omega) ?_)
  simp [scanV]
  have hem : ∀ (h1 : AH), Gr h h1 → ∀ (a : Nat) (e : Int), ruRdV s = .tup [teV noTe, .int .i64 (a : Nat), .int .i64 e] → Fin h (V.tup [V.agg [V.sl 0 1 [], V.sl 0 1 []], V.int IntKind.i64 a, V.int IntKind.i64 e]) h1 (Lz.mk (a := Q)) := fun h1 g a e hr => by
    refine fin_wk (r := .tup [teV noTe, .int .i64 (a : Nat), .int .i64 e]) g ((wk_tree (R := []) (l := []) (.inl rfl) (.inl rfl) .nil).t3 _ _) ?_ (by rw [← hr]; exact hQ)
    simp [teV, teC, noTe]
  by_cases c1 : (scanR s).2.2 = 0
  · simp [c1]
    refine ecall (L.parse (scanR s).1 s.length _ _ ⟨1, 1, 1, 1⟩ _ ⟨[], .nil, ⟨0, 0, 0, 0, by simp, ⟨.inl rfl, .inl rfl⟩, ⟨.inl rfl, .inl rfl⟩, ⟨.inl rfl, .inl rfl⟩, ⟨.inl rfl, .inl rfl⟩⟩, by simp, wf.lo, fun s hs => by
      rcases hs with e | e | e | e <;> exact .inl (by rw [e]; exact Nat.le_succ 1), by simp, by simp, by simp, by simp, by simp, by simp⟩ (by omega) (scan_kinds s) (fun st ht h1 σ1 f r => ?_) (fun p ht h1 σ1 f => ?_))
    · have gr : Gr h h1 := RE.gr (((Gr.refl h).new _).new _) f (by omega) (fun s hs => by
        rcases hs with e | e | e | e <;> exact .inl (by rw [e]; exact Nat.le_succ 1))
      have o2 : h1.objs h.nobj = [.sl 0 1 [], .sl 0 1 []] := (f.objs _ (by simp) (by omega)).trans (by simp)
      have hn := f.nobj
      simp at hn
      obtain ⟨N, hN, rd⟩ := r
      obtain ⟨e1, e2, e3, e4, ob, m1, m2, m3, m4⟩ := rd.ob
      have hNl := hN.len
      simp only [List.length_map] at hNl
      simp [ob]
      by_cases c2 : 24 < st.rules.length
      · have c2' : (24 : Int) < st.rules.length := by omega
        simp [c2', o2]
        exact hem _ (gr.set (Nat.le_refl _) _) 0 5 (by simp [ruRdV, ruRd, c1, ht, c2])
      have c2' : ¬ (24 : Int) < st.rules.length := by omega
      by_cases c3 : 200 < st.nodes.length
      · have c3' : (200 : Int) < N.length := by omega
        simp [c2', c3', ob, o2]
        exact hem _ (gr.set (Nat.le_refl _) _) 0 5 (by simp [ruRdV, ruRd, c1, ht, c2, c3])
      have c3' : ¬ (200 : Int) < N.length := by omega
      simp [c2', c3', ob]
      have gl : st.given.length < 2 ^ 60 ∧ st.used.length < 2 ^ 60 := by
        have := textP_pot ht
        unfold pot at this
        omega
      refine ecall (ruNames_spec L.names (h := h1) (o := h.nobj + 1) ob (by omega) gl.1 gl.2 ?_ ?_ ?_)
      · exact m3.el.imp (fun e => by simpa using e) id
      · exact m4.el.imp (fun e => by simpa using e) id
      simp
      by_cases c4 : (namesP st.given st.used).2 = 0
      · simp [c4, ob, o2]
        refine fin_wk (r := ruRdV s) (gr.set (Nat.le_refl _) _) ?_ ?_ hQ
        · have : ruRdV s = .tup [teV ⟨st.rules, st.nodes⟩, .int .i64 0, .int .i64 0] := by simp [ruRdV, ruRd, c1, ht, c2, c3, c4]
          rw [this]
          exact (wk_tree (m1.el.imp (fun e => by simpa using e) id) (by
            rcases m2.el with e | e
            · left; rw [e] at hN; simpa using hN.cells.1.symm
            · exact .inr e) hN).t3 _ _
        · simp only [ruRdV, Bdd_tup, List.mem_cons, List.not_mem_nil, or_false]
          rintro v (rfl | rfl | rfl)
          · exact bdd_te _ _ _
          · simp
          · simp
      · simp [c4, o2]
        exact hem _ (gr.set (Nat.le_refl _) _) _ _ (by simp [ruRdV, ruRd, c1, ht, c2, c3, c4])
    · have gr : Gr h h1 := RE.gr (((Gr.refl h).new _).new _) f (by omega) (fun s hs => by
        rcases hs with e | e | e | e <;> exact .inl (by rw [e]; exact Nat.le_succ 1))
      have o2 : h1.objs h.nobj = [.sl 0 1 [], .sl 0 1 []] := (f.objs _ (by simp) (by omega)).trans (by simp)
      simp [o2]
      exact hem _ (gr.set (Nat.le_refl _) _) p 2 (by simp [ruRdV, ruRd, c1, ht])
  · simp [c1]
    exact hem _ ((Gr.refl h).new _) _ _ (by simp [ruRdV, ruRd, c1])
end
end Go.Proofs.Ytecgbggobecpjaa.Al
namespace Go.Proofs.Ytecgbggobecpjaa.Al
open Go Go.RowKit
set_option linter.unusedSimpArgs false
set_option linter.unusedVariables false
/-- A node may be, but for what its name means. -/
def fineL (toks : List Tok) (U : List Use) (n : Nd) : Prop :=
  (n.kind = 6 ∧ n.kids = [] ∧ ∃ u ∈ U, u.name = n.name) ∨ (n.kind = 7 ∧ n.kids = [] ∧ ∃ t ∈ toks, t.kind = 2 ∧ t.text = n.name) ∨
  (n.name = [] ∧ ((n.kind = 1 ∧ n.kids.length ≠ 1) ∨ (n.kind = 2 ∧ 2 ≤ n.kids.length) ∨ (3 ≤ n.kind ∧ n.kind ≤ 5 ∧ n.kids.length = 1)))
/-- From s to s' nodes have been laid, which leave ks open. -/
structure Grow (toks : List Tok) (s s' : PS) (ks : List Int) : Prop where
  nodes : ∃ new, s'.nodes = s.nodes ++ new ∧ ∀ n ∈ new, fineL toks s'.used n
  used : ∃ us, s'.used = s.used ++ us ∧ ∀ u ∈ us, ∃ t ∈ toks, t.at' = u.at'
  given : s'.given = s.given
  rules : s'.rules = s.rules
  run : ∀ t : Te, s'.nodes <+: t.nodes → (∀ n ∈ t.nodes, fineP t n = true) → ∀ st, runS t (s'.nodes.length - s.nodes.length) s.nodes.length st = some (st ++ ks)
section
variable {toks : List Tok} {en : Nat}
theorem fineL.mono {U U' : List Use} {n : Nd} (h : fineL toks U n) (hU : ∀ u ∈ U, u ∈ U') : fineL toks U' n := by
  rcases h with ⟨a, b, u, c, d⟩ | h | h
  · exact .inl ⟨a, b, u, hU u c, d⟩
  · exact .inr (.inl h)
  · exact .inr (.inr h)
theorem Grow.refl (s : PS) : Grow toks s s [] := ⟨⟨[], by simp, by simp⟩, ⟨[], by simp, by simp⟩, rfl, rfl, fun t _ _ st => by simp [runS]⟩
theorem Grow.pre {s s' : PS} {ks : List Int} (g : Grow toks s s' ks) : s.nodes <+: s'.nodes := by
  obtain ⟨new, e, _⟩ := g.nodes
  exact ⟨new, e.symm⟩
theorem Grow.trans {s s1 s2 : PS} {k1 k2 : List Int} (a : Grow toks s s1 k1) (b : Grow toks s1 s2 k2) : Grow toks s s2 (k1 ++ k2) := by
  obtain ⟨n1, e1, f1⟩ := a.nodes
  obtain ⟨n2, e2, f2⟩ := b.nodes
  obtain ⟨u1, x1, y1⟩ := a.used
  obtain ⟨u2, x2, y2⟩ := b.used
  refine ⟨⟨n1 ++ n2, by rw [e2, e1, List.append_assoc], fun n hn => ?_⟩, ⟨u1 ++ u2, by rw [x2, x1, List.append_assoc], fun u hu => ?_⟩, b.given.trans a.given, b.rules.trans a.rules, fun t hp hf st => ?_⟩
  · rcases List.mem_append.1 hn with h | h
    · exact (f1 n h).mono (fun u hu => by rw [x2]; exact List.mem_append_left _ hu)
    · exact f2 n h
  · rcases List.mem_append.1 hu with h | h
    · exact y1 u h
    · exact y2 u h
  · have r1 := a.run t (b.pre.trans hp) hf st
    have r2 := b.run t hp hf (st ++ k1)
    have l1 : s1.nodes.length = s.nodes.length + n1.length := by rw [e1]; simp
    have l2 : s2.nodes.length = s1.nodes.length + n2.length := by rw [e2]; simp
    have := runS_add t (s1.nodes.length - s.nodes.length) (s2.nodes.length - s1.nodes.length) s.nodes.length st _ r1
    rw [show s.nodes.length + (s1.nodes.length - s.nodes.length) = s1.nodes.length by omega, r2, show s1.nodes.length - s.nodes.length + (s2.nodes.length - s1.nodes.length) = s2.nodes.length - s.nodes.length by omega] at this
    rw [this, List.append_assoc]
theorem Grow.at {s s' : PS} {ks : List Int} (g : Grow toks s s' ks) (a : Nat) : Grow toks s { s' with at' := a } ks := ⟨g.nodes, g.used, g.given, g.rules, g.run⟩
theorem Grow.adv {s s' : PS} {ks : List Int} (g : Grow toks s s' ks) : Grow toks s s'.adv ks := g.at _
/-- A node takes what is open. -/
theorem Grow.lay {s s' : PS} {ks : List Int} (g : Grow toks s s' ks) (kind : Int) (name : Str) (hf : fineL toks s'.used ⟨kind, name, ks⟩) : Grow toks s (s'.lay kind name ks) [(s'.nodes.length : Int)] := by
  obtain ⟨n1, e1, f1⟩ := g.nodes
  refine ⟨⟨n1 ++ [⟨kind, name, ks⟩], by simp [PS.lay, e1], fun n hn => ?_⟩, g.used, g.given, g.rules, fun t hp hfine st => ?_⟩
  · rcases List.mem_append.1 hn with h | h
    · exact f1 n h
    · rw [List.mem_singleton] at h; subst h; exact hf
  · have hpre : s'.nodes <+: (s'.lay kind name ks).nodes := ⟨_, rfl⟩
    have r1 := g.run t (hpre.trans hp) hfine st
    have l1 : s'.nodes.length = s.nodes.length + n1.length := by rw [e1]; simp
    have l2 : (s'.lay kind name ks).nodes.length = s'.nodes.length + 1 := by simp [PS.lay]
    have := runS_add t (s'.nodes.length - s.nodes.length) 1 s.nodes.length st _ r1
    rw [show s.nodes.length + (s'.nodes.length - s.nodes.length) = s'.nodes.length by omega, show s'.nodes.length - s.nodes.length + 1 = (s'.lay kind name ks).nodes.length - s.nodes.length by omega] at this
    rw [this]
    have hlt : s'.nodes.length < t.nodes.length := by have := hp.length_le; omega
    have hget : t.nodes[s'.nodes.length]? = some ⟨kind, name, ks⟩ := by
      obtain ⟨r, hr⟩ := hp
      rw [← hr, List.getElem?_append_left (by omega)]
      simp [PS.lay]
    have hmem : (⟨kind, name, ks⟩ : Nd) ∈ t.nodes := List.mem_of_getElem? hget
    simp only [runS, stpS, hget]
    rw [if_pos ⟨hfine _ hmem, by simp, by simp⟩]
    simp
/-- What comes back is the last node. -/
def Lst (s s' : PS) (n : Int) : Prop := s.nodes.length < s'.nodes.length ∧ n = (s'.nodes.length : Int) - 1
def AltG (toks : List Tok) (alt : PS → PR Int) : Prop := ∀ s s' n, alt s = .ok (s', n) → Grow toks s s' [n] ∧ Lst s s' n
theorem one_grow {s s' : PS} {kind : Int} {l : List Int} (g : Grow toks s s' l) (h1 : ∀ n, l = [n] → Lst s s' n) (hk : l.length ≠ 1 → kind = 1 ∨ (kind = 2 ∧ 2 ≤ l.length)) : Grow toks s (oneP kind l s').1 [(oneP kind l s').2] ∧ Lst s (oneP kind l s').1 (oneP kind l s').2 := by
  by_cases c : l.length = 1
  · obtain ⟨n, rfl⟩ := List.length_eq_one_iff.1 c
    exact ⟨g, h1 n rfl⟩
  · have ho : oneP kind l s' = nodeP kind [] l s' := by
      match l, c with
      | [], _ => rfl
      | [n], c => simp at c
      | _ :: _ :: _, _ => rfl
    rw [ho]
    have := g.pre.length_le
    refine ⟨g.lay kind [] (.inr (.inr ⟨rfl, ?_⟩)), by simp [Lst, nodeP, PS.lay]; omega⟩
    rcases hk c with e | e
    · exact .inl ⟨e, c⟩
    · exact .inr (.inl e)
theorem atom_grow {alt : PS → PR Int} (ha : AltG toks alt) {s s' : PS} {n : Int} (h : atomP toks en alt s = .ok (s', n)) : Grow toks s s' [n] ∧ Lst s s' n := by
  unfold atomP at h
  split at h
  · obtain ⟨s1, n1, h1, h2⟩ := pbnd_ok h
    obtain ⟨s2, u, h3, h4⟩ := pbnd_ok h2
    cases h4
    obtain ⟨rfl, _⟩ := must_fwd h3
    obtain ⟨g, l⟩ := ha _ _ _ h1
    exact ⟨(((Grow.refl s).adv).trans g).adv, l⟩
  · split at h
    · cases h
    · rename_i t e
      split at h
      · rename_i c2
        cases h
        refine ⟨((Grow.refl s).adv).lay 7 t.text (.inr (.inl ⟨rfl, rfl, t, List.mem_of_getElem? e, c2, rfl⟩)), by simp [Lst, PS.lay, PS.adv]⟩
      · obtain ⟨s1, u, h1, h2⟩ := pbnd_ok h
        cases h2
        have hu : ∃ t ∈ toks, t.at' = u.at' := by
          unfold nameP at h1
          rw [e] at h1
          simp only at h1
          split at h1
          · cases h1; exact ⟨t, List.mem_of_getElem? e, rfl⟩
          · cases h1
        obtain ⟨rfl, _⟩ := name_fwd h1
        have g : Grow toks s (useP u s.adv) [] := ⟨⟨[], by simp [useP, PS.adv], by simp⟩, ⟨[u], rfl, by simpa using hu⟩, rfl, rfl, fun t _ _ st => by simp [runS, useP, PS.adv]⟩
        exact ⟨g.lay 6 u.name (.inl ⟨rfl, rfl, u, by simp [useP], rfl⟩), by simp [Lst, PS.lay, PS.adv, useP]⟩
theorem item_grow {alt : PS → PR Int} (ha : AltG toks alt) {s s' : PS} {n : Int} (h : itemP toks en alt s = .ok (s', n)) : Grow toks s s' [n] ∧ Lst s s' n := by
  unfold itemP at h
  obtain ⟨s1, n1, h1, h2⟩ := pbnd_ok h
  obtain ⟨g, l⟩ := atom_grow ha h1
  have key : ∀ k : Int, 3 ≤ k → k ≤ 5 → (markP toks s1 n1) = nodeP k [] [n1] s1.adv → Grow toks s s' [n] ∧ Lst s s' n := fun k k1 k2 hm => by
    rw [hm] at h2
    cases h2
    have := g.pre.length_le
    exact ⟨g.adv.lay k [] (.inr (.inr ⟨rfl, .inr (.inr ⟨k1, k2, rfl⟩)⟩)), by simp [Lst, PS.lay, PS.adv]; omega⟩
  by_cases a1 : aheadP toks s1.at' [42] = true
  · exact key 3 (by omega) (by omega) (by unfold markP; rw [if_pos a1])
  by_cases a2 : aheadP toks s1.at' [43] = true
  · exact key 4 (by omega) (by omega) (by unfold markP; rw [if_neg a1, if_pos a2])
  by_cases a3 : aheadP toks s1.at' [63] = true
  · exact key 5 (by omega) (by omega) (by unfold markP; rw [if_neg a1, if_neg a2, if_pos a3])
  have hm : markP toks s1 n1 = (s1, n1) := by unfold markP; rw [if_neg a1, if_neg a2, if_neg a3]
  rw [hm] at h2
  cases h2
  exact ⟨g, l⟩
theorem items_grow {alt : PS → PR Int} (ha : AltG toks alt) {s0 : PS} : ∀ (k : Nat) {s s' : PS} {l l' : List Int}, itemsP toks en alt k s l = .ok (s', l') → Grow toks s0 s l → (∀ n, l = [n] → Lst s0 s n) → Grow toks s0 s' l' ∧ ∀ n, l' = [n] → Lst s0 s' n
  | 0, s, s', l, l', h, g, hl => by cases h; exact ⟨g, hl⟩
  | k + 1, s, s', l, l', h, g, hl => by
    unfold itemsP at h
    split at h
    · obtain ⟨s1, n, h1, h2⟩ := pbnd_ok h
      obtain ⟨g1, l1⟩ := item_grow ha h1
      refine items_grow ha k h2 (g.trans g1) fun m hm => ?_
      cases l with
      | nil =>
        simp at hm; subst hm
        have := g.pre.length_le
        exact ⟨by have := l1.1; omega, l1.2⟩
      | cons a l => simp at hm
    · cases h; exact ⟨g, hl⟩
theorem seq_grow {alt : PS → PR Int} (ha : AltG toks alt) {s s' : PS} {n : Int} (h : seqP toks en alt s = .ok (s', n)) : Grow toks s s' [n] ∧ Lst s s' n := by
  unfold seqP at h
  obtain ⟨s1, l, h1, h2⟩ := pbnd_ok h
  obtain ⟨g, hl⟩ := items_grow ha _ h1 (Grow.refl s) (fun n h => by simp at h)
  obtain ⟨o1, o2⟩ := one_grow (kind := 1) g hl (fun _ => .inl rfl)
  have e : s' = (oneP 1 l s1).1 ∧ n = (oneP 1 l s1).2 := by
    have := congrArg (fun x => x.toOption) h2
    simp [Except.toOption] at this
    rw [this]; exact ⟨rfl, rfl⟩
  obtain ⟨rfl, rfl⟩ := e
  exact ⟨o1, o2⟩
theorem altsL_grow {alt : PS → PR Int} (ha : AltG toks alt) {s0 : PS} : ∀ (k : Nat) {s s' : PS} {l l' : List Int}, altsL toks en alt (k + 1) s l = .ok (s', l') → Grow toks s0 s l → Grow toks s0 s' l' ∧ l' ≠ [] ∧ ∀ n, l' = [n] → Lst s0 s' n
  | k, s, s', l, l', h, g => by
    unfold altsL at h
    obtain ⟨s1, n, h1, h2⟩ := pbnd_ok h
    obtain ⟨g1, l1⟩ := seq_grow ha h1
    have hg := g.pre.length_le
    split at h2
    · cases k with
      | zero =>
        unfold altsL at h2
        cases h2
        refine ⟨(g.trans g1).adv, by simp, fun m hm => ?_⟩
        cases l with
        | nil => simp at hm; subst hm; exact ⟨by have := l1.1; simp only [PS.adv]; omega, l1.2⟩
        | cons a l => simp at hm
      | succ k =>
        obtain ⟨q1, q2, q3⟩ := altsL_grow ha k h2 (g.trans g1).adv
        exact ⟨q1, q2, q3⟩
    · cases h2
      refine ⟨g.trans g1, by simp, fun m hm => ?_⟩
      cases l with
      | nil => simp at hm; subst hm; exact ⟨by have := l1.1; omega, l1.2⟩
      | cons a l => simp at hm
theorem alts_grow : ∀ f, AltG toks (altsP toks en f)
  | 0, s, s', n, h => by cases h
  | f + 1, s, s', n, h => by
    unfold altsP at h
    obtain ⟨s1, l, h1, h2⟩ := pbnd_ok h
    obtain ⟨g, hne, hl⟩ := altsL_grow (alts_grow f) _ h1 (Grow.refl s)
    obtain ⟨o1, o2⟩ := one_grow (kind := 2) g hl (fun c => .inr ⟨rfl, by
      match l, hne, c with
      | [_], _, c => simp at c
      | _ :: _ :: _, _, _ => simp⟩)
    have e : s' = (oneP 2 l s1).1 ∧ n = (oneP 2 l s1).2 := by
      have := congrArg (fun x => x.toOption) h2
      simp [Except.toOption] at this
      rw [this]; exact ⟨rfl, rfl⟩
    obtain ⟨rfl, rfl⟩ := e
    exact ⟨o1, o2⟩
theorem rightS_snoc (t : Te) (r : Rl) (v : Int) (b : Nat) : ∀ (rs : List Rl) (seen : List Str) (a : Nat), rightS t rs seen a = some b → tokenT r.name 1 = true → r.name ∉ seen ++ rs.map (·.name) → (b : Int) ≤ r.body → r.body < t.nodes.length → runS t (r.body.toNat + 1 - b) b [] = some [v] →
    rightS t (rs ++ [r]) seen a = some (r.body.toNat + 1)
  | [], seen, a, h, h1, h2, h3, h4, h5 => by
    simp [rightS] at h; subst h
    simp at h2
    simp only [List.nil_append, rightS]
    rw [if_pos ⟨h1, h2, h3, h4⟩, h5]
  | q :: rs, seen, a, h, h1, h2, h3, h4, h5 => by
    simp only [List.cons_append, rightS] at h ⊢
    split at h
    · rename_i c
      rw [if_pos c]
      split at h
      · rename_i v2 hv
        first | rw [hv] | skip
        exact rightS_snoc t r v b rs _ _ h h1 (by simpa using h2) h3 h4 h5
      · cases h
    · cases h
/-- What holds behind some rules. -/
structure Tx (toks : List Tok) (s : PS) : Prop where
  fine : ∀ n ∈ s.nodes, fineL toks s.used n
  used : ∀ u ∈ s.used, ∃ t ∈ toks, t.at' = u.at'
  given : ∀ u ∈ s.given, ∃ t ∈ toks, t.at' = u.at' ∧ t.kind = 1 ∧ t.text = u.name
  names : s.given.map (·.name) = s.rules.map (·.name)
  last : s.rules = [] → s.nodes = []
  body : ∀ r, s.rules.getLast? = some r → r.body = (s.nodes.length : Int) - 1
  right : ∀ t : Te, s.nodes <+: t.nodes → (∀ n ∈ t.nodes, fineP t n = true) → (s.rules.map (·.name)).Nodup → (∀ r ∈ s.rules, tokenT r.name 1 = true) → rightS t s.rules [] 0 = some s.nodes.length
theorem Tx.init (toks : List Tok) : Tx toks ⟨0, [], [], [], []⟩ := ⟨by simp, by simp, by simp, by simp, by simp, by simp, fun t _ _ _ _ => rfl⟩
theorem rule_tx {s s' : PS} {u : Unit} (x : Tx toks s) (h : ruleP toks en s = .ok (s', u)) : Tx toks s' ∧ s'.rules ≠ [] := by
  unfold ruleP at h
  obtain ⟨s1, u1, h1, h⟩ := pbnd_ok h
  obtain ⟨s2, u2, h2, h⟩ := pbnd_ok h
  obtain ⟨s3, n, h3, h⟩ := pbnd_ok h
  obtain ⟨s4, u4, h4, h⟩ := pbnd_ok h
  cases h
  have hu1 : ∃ t ∈ toks, t.at' = u1.at' ∧ t.kind = 1 ∧ t.text = u1.name := by
    unfold nameP at h1
    split at h1
    · rename_i t e
      split at h1
      · rename_i c; cases h1; exact ⟨t, List.mem_of_getElem? e, rfl, c, rfl⟩
      · cases h1
    · cases h1
  obtain ⟨rfl, _⟩ := name_fwd h1
  obtain ⟨rfl, _⟩ := must_fwd h2
  obtain ⟨rfl, _⟩ := must_fwd h4
  obtain ⟨g, l1, l2⟩ := alts_grow _ _ _ _ h3
  obtain ⟨new, e1, f1⟩ := g.nodes
  obtain ⟨us, e2, f2⟩ := g.used
  have e3 : s3.given = s.given ++ [u1] := g.given
  have e4 : s3.rules = s.rules := g.rules
  have e1' : s3.nodes = s.nodes ++ new := e1
  have e2' : s3.used = s.used ++ us := e2
  have hl : s.nodes.length < s3.nodes.length := l1
  refine ⟨⟨fun m hm => ?_, fun u hu => ?_, fun u hu => ?_, ?_, fun e => by simp [PS.adv] at e, fun r hr => ?_, fun t hp hf hn ht => ?_⟩, by simp⟩
  · simp only [PS.adv] at hm ⊢
    rw [e1'] at hm
    rcases List.mem_append.1 hm with q | q
    · exact (x.fine m q).mono (fun u hu => by rw [e2']; exact List.mem_append_left _ hu)
    · exact f1 m q
  · simp only [PS.adv] at hu
    rw [e2'] at hu
    rcases List.mem_append.1 hu with q | q
    · exact x.used u q
    · exact f2 u q
  · simp only [PS.adv] at hu
    rw [e3] at hu
    rcases List.mem_append.1 hu with q | q
    · exact x.given u q
    · rw [List.mem_singleton] at q; subst q; exact hu1
  · simp only [PS.adv]
    rw [e3, e4, List.map_append, List.map_append, x.names]; rfl
  · simp only [PS.adv, List.getLast?_append, List.getLast?_singleton, Option.some_or] at hr
    cases hr
    exact l2
  · simp only [PS.adv] at hp hn ht ⊢
    rw [e4] at hn ht ⊢
    rw [List.map_append, List.nodup_append] at hn
    have r0 := x.right t ((show s.nodes <+: s3.nodes from ⟨new, e1'.symm⟩).trans hp) hf hn.1 (fun r hr => ht r (List.mem_append_left _ hr))
    have hrun := g.run t hp hf []
    have hpl := hp.length_le
    have hb : (n.toNat + 1) = s3.nodes.length := by omega
    rw [← hb]
    refine rightS_snoc t ⟨u1.name, n⟩ n s.nodes.length s.rules [] 0 r0 (ht _ (by simp)) ?_ ?_ ?_ ?_
    · simp only [List.nil_append]
      intro hm
      exact hn.2.2 u1.name hm u1.name (by simp) rfl
    · show (s.nodes.length : Int) ≤ n; omega
    · show n < _; omega
    · show runS t (n.toNat + 1 - s.nodes.length) s.nodes.length [] = some [n]
      rw [hb]
      exact hrun
theorem text_tx : ∀ (k : Nat) {s s' : PS} {u : Unit}, Tx toks s → textL toks en (k + 1) s = .ok (s', u) → Tx toks s' ∧ s'.rules ≠ []
  | k, s, s', u, x, h => by
    unfold textL at h
    obtain ⟨s1, u1, h1, h2⟩ := pbnd_ok h
    obtain ⟨x1, hne⟩ := rule_tx x h1
    split at h2
    · cases k with
      | zero => unfold textL at h2; cases h2; exact ⟨x1, hne⟩
      | succ k => exact text_tx k x1 h2
    · cases h2; exact ⟨x1, hne⟩
theorem textP_tx {s' : PS} {u : Unit} (h : textP toks en = .ok (s', u)) : Tx toks s' ∧ s'.rules ≠ [] := text_tx _ (Tx.init toks) h
theorem twiceP_none : ∀ {seen : List Str} {l : List Use}, twiceP seen l = none → seen.Nodup → (seen ++ l.map (·.name)).Nodup
  | seen, [], _, h => by simpa using h
  | seen, u :: l, h, hs => by
    unfold twiceP at h
    split at h
    · cases h
    · rename_i c
      have := twiceP_none h (by rw [List.nodup_append]; exact ⟨hs, by simp, fun a ha b hb => by rw [List.mem_singleton] at hb; subst hb; rintro rfl; exact c ha⟩)
      simpa using this
theorem missP_none : ∀ {seen : List Str} {l : List Use}, missP seen l = none → ∀ u ∈ l, u.name ∈ seen
  | seen, [], _, u, hu => by simp at hu
  | seen, v :: l, h, u, hu => by
    unfold missP at h
    split at h
    · rename_i c
      rcases List.mem_cons.1 hu with rfl | q
      · exact c
      · exact missP_none h u q
    · cases h
theorem twiceP_mem : ∀ {seen : List Str} {l : List Use} {p : Nat}, twiceP seen l = some p → ∃ u ∈ l, u.at' = p
  | seen, [], p, h => by simp [twiceP] at h
  | seen, u :: l, p, h => by
    unfold twiceP at h
    split at h
    · cases h; exact ⟨u, by simp, rfl⟩
    · obtain ⟨v, a, b⟩ := twiceP_mem h; exact ⟨v, by simp [a], b⟩
theorem missP_mem : ∀ {seen : List Str} {l : List Use} {p : Nat}, missP seen l = some p → ∃ u ∈ l, u.at' = p
  | seen, [], p, h => by simp [missP] at h
  | seen, u :: l, p, h => by
    unfold missP at h
    split at h
    · obtain ⟨v, a, b⟩ := missP_mem h; exact ⟨v, by simp [a], b⟩
    · cases h; exact ⟨u, by simp, rfl⟩
end
/-! ### Tokens alone -/
theorem sfirst_tokr {t : Tok} (g : goodTok t) (r : Str) (hr0 : t.kind = 1 → runN partB r = 0) : sfirst (tokText t ++ r) = (t.kind, t.text, (tokText t).length) := by
  obtain ⟨kd, tx, p⟩ := t
  rcases g with ⟨h1, ⟨c, q, e, hc⟩, hp⟩ | ⟨h1, hne, hq⟩ | ⟨h1, c, e, hm⟩
  · simp only at h1 e hp hr0
    have hr1 := hr0 h1
    clear hr0
    subst h1; subst e
    have hl := letterB_ne hc
    have hr : runN partB (c :: (q ++ r)) = (c :: q).length := by
      have := runN_all hp r
      rw [hr1] at this
      simpa using this
    show sfirst (c :: (q ++ r)) = _
    rw [sfirst_cons, if_neg hl.1, if_neg hl.2, if_pos hc, hr]
    simp [tokText]
  · simp only at h1 hne hq
    subst h1
    have hr : runN quotedB (tx ++ [39] ++ r) = tx.length := by
      rw [List.append_assoc, runN_all hq]
      show _ + runN quotedB (39 :: r) = _
      rw [runN_stop (p := quotedB) (by decide)]; omega
    show sfirst (39 :: (tx ++ [39] ++ r)) = _
    have hg : (tx ++ [39] ++ r).getD tx.length 0 = 39 := by simp [List.getD]
    have hl : ¬ tx.length = 0 := by simpa using hne
    rw [sfirst_cons, if_neg (by decide), if_neg (by decide), if_neg (by decide), if_pos (by decide), hr, if_neg (by rw [hg]; simp [hne]; decide)]
    simp [tokText]
  · simp only at h1 e
    subst h1; subst e
    show sfirst (c :: r) = _
    have hk := (marks_mem c).1 hm
    rw [sfirst_cons, if_neg (by omega), if_neg (by omega), if_neg (by simp only [letterB, letterI, Bool.or_eq_true, Bool.and_eq_true, decide_eq_true_eq]; omega), if_neg (by omega), if_pos hm]
    rfl
/-- A token ahead of something. -/
theorem scanL_tok {t : Tok} (g : goodTok t) (r : Str) (hr0 : t.kind = 1 → runN partB r = 0) (n k : Nat) : scanL (n + 1) (tokText t ++ r) k = (⟨t.kind, t.text, k⟩ :: (scanL n r (k + (tokText t).length)).1, (scanL n r (k + (tokText t).length)).2) := by
  have hp := tokText_pos g
  have hne : tokText t ++ r ≠ [] := by intro e; have := congrArg List.length e; simp only [List.length_append, List.length_nil] at this; omega
  have hk : t.kind ≠ 0 := by rcases g with ⟨h, _⟩ | ⟨h, _⟩ | ⟨h, _⟩ <;> omega
  rw [scanL_step k hne, sfirst_tokr g r hr0]
  simp only
  rw [if_neg (by omega), if_neg hk]
  simp
theorem tokenT_name {t : Tok} (g : goodTok t) (h : t.kind = 1) (hl : t.text.length ≤ 4000) : tokenT t.text 1 = true := by
  have ht : tokText t = t.text := by unfold tokText; rw [if_neg (by omega)]
  have hp := tokText_pos g
  rw [ht] at hp
  obtain ⟨n, hn⟩ : ∃ n, t.text.length = n + 1 := ⟨t.text.length - 1, by omega⟩
  have := scanL_tok g [] (fun _ => rfl) n 0
  rw [List.append_nil, ht, scanL_nil, ← hn] at this
  unfold tokenT
  rw [scanR_small hl, this]
  simp [h]
theorem fineP_of {t : Te} {toks : List Tok} {U : List Use} (hU : ∀ u ∈ U, u.name ∈ rnames t) (hg : ∀ t ∈ toks, goodTok t) (hq : ∀ t ∈ toks, t.kind = 2 → t.text.length ≤ 3998) {n : Nd} (h : fineL toks U n) : fineP t n = true := by
  rcases h with ⟨h1, h2, u, h3, h4⟩ | ⟨h1, h2, q, h3, h4, h5⟩ | ⟨h1, h2⟩
  · have := hU u h3
    rw [h4] at this
    unfold fineP
    rw [if_neg (by omega)]
    unfold fineT
    rw [if_pos h1]; simp [h2, this]
  · have hgq := hg q h3
    rcases hgq with ⟨k1, _⟩ | ⟨_, k2, k3⟩ | ⟨k1, _⟩
    · omega
    · rw [h5] at k2 k3
      have h39 : (n.name.any fun a => decide (39 = bt a)) = false := by
        cases hh : n.name.any fun a => decide (39 = bt a) with
        | false => rfl
        | true =>
          obtain ⟨a, ha, hb⟩ := List.any_eq_true.1 hh
          have := k3 a ha
          simp [quotedB, quotedI] at this hb
          exact absurd hb.symm this.2
      unfold fineP
      rw [if_pos h1, token_quote _ h39]
      have hlen := hq q h3 h4
      rw [h5] at hlen
      have hpos : 0 < n.name.length := List.length_pos_iff.2 k2
      simp [h2, h39]
      unfold quoteT
      simp only [Bool.and_eq_true, List.all_eq_true, decide_eq_true_eq]
      exact ⟨⟨k3, hpos⟩, hlen⟩
    · omega
  · unfold fineP
    rw [if_neg (by omega)]
    unfold fineT
    rw [if_neg (by omega), if_neg (by omega)]
    simp [h1]
    rcases h2 with ⟨a, b⟩ | ⟨a, b⟩ | ⟨a, b, c⟩
    · simp [a, b]
    · simp [a, b]
    · simp [a, b, c]
/-! ### What Read tells -/
theorem scanR_ok {s : Str} (h : (scanR s).2.2 = 0) : s.length ≤ 4000 := by
  unfold scanR at h
  split at h
  · cases h
  · omega
theorem chain_text {s0 : Str} : ∀ {l : List Tok} {k : Nat}, chain s0 k l → ∀ t ∈ l, t.at' + (tokText t).length ≤ s0.length
  | [], k, _, t, ht => by simp at ht
  | a :: l, k, ⟨g, h1, h2, h3, h4⟩, t, ht => by
    rcases List.mem_cons.1 ht with rfl | q
    · exact h2
    · exact chain_text h4 t q
theorem plcP_le {toks : List Tok} {en : Nat} (h : ∀ t ∈ toks, t.at' ≤ en) (a : Nat) : plcP toks en a ≤ en := by
  unfold plcP
  split
  · rename_i t e; exact h t (List.mem_of_getElem? e)
  · exact Nat.le_refl _
/-- Where it is wrong is within the text. -/
def ErrOk (en : Nat) {α : Type} (r : PR α) : Prop := ∀ p, r = .error p → p ≤ en
theorem ErrOk.ok {en : Nat} {α : Type} (x : PS × α) : ErrOk en (.ok x) := fun p h => by cases h
theorem ErrOk.pbnd {en : Nat} {α β : Type} {r : PR α} {f : PS → α → PR β} (h1 : ErrOk en r) (h2 : ∀ s a, ErrOk en (f s a)) : ErrOk en (pbnd r f) := by
  cases r with
  | error p => exact fun q h => by cases h; exact h1 p rfl
  | ok x => exact h2 _ _
section
variable {toks : List Tok} {en : Nat}
theorem must_err (h : ∀ t ∈ toks, t.at' ≤ en) (m : Str) (s : PS) : ErrOk en (mustP toks en m s) := by
  unfold mustP
  split
  · exact .ok _
  · intro p e; cases e; exact plcP_le h _
theorem name_err (h : ∀ t ∈ toks, t.at' ≤ en) (s : PS) : ErrOk en (nameP toks en s) := by
  unfold nameP
  split
  · rename_i t e
    split
    · exact .ok _
    · intro p q; cases q; exact h t (List.mem_of_getElem? e)
  · intro p q; cases q; exact Nat.le_refl _
theorem atom_err (h : ∀ t ∈ toks, t.at' ≤ en) {alt : PS → PR Int} (ha : ∀ s, ErrOk en (alt s)) (s : PS) : ErrOk en (atomP toks en alt s) := by
  unfold atomP
  split
  · exact (ha _).pbnd fun s a => (must_err h _ _).pbnd fun _ _ => .ok _
  · split
    · intro p q; cases q; exact Nat.le_refl _
    · split
      · exact .ok _
      · exact (name_err h _).pbnd fun _ _ => .ok _
theorem items_err (h : ∀ t ∈ toks, t.at' ≤ en) {alt : PS → PR Int} (ha : ∀ s, ErrOk en (alt s)) : ∀ (k : Nat) (s : PS) (l : List Int), ErrOk en (itemsP toks en alt k s l)
  | 0, s, l => .ok _
  | k + 1, s, l => by
    unfold itemsP
    split
    · exact ((atom_err h ha s).pbnd fun _ _ => .ok _ : ErrOk en (itemP toks en alt s)).pbnd fun s n => items_err h ha k s _
    · exact .ok _
theorem altsL_err (h : ∀ t ∈ toks, t.at' ≤ en) {alt : PS → PR Int} (ha : ∀ s, ErrOk en (alt s)) : ∀ (k : Nat) (s : PS) (l : List Int), ErrOk en (altsL toks en alt k s l)
  | 0, s, l => .ok _
  | k + 1, s, l => by
    unfold altsL
    refine ((items_err h ha _ _ _).pbnd fun _ _ => .ok _ : ErrOk en (seqP toks en alt s)).pbnd fun s n => ?_
    split
    · exact altsL_err h ha k _ _
    · exact .ok _
theorem alts_err (h : ∀ t ∈ toks, t.at' ≤ en) : ∀ (f : Nat) (s : PS), ErrOk en (altsP toks en f s)
  | 0, s => fun p e => by cases e; omega
  | f + 1, s => (altsL_err h (alts_err h f) _ _ _).pbnd fun _ _ => .ok _
theorem text_err (h : ∀ t ∈ toks, t.at' ≤ en) : ∀ (k : Nat) (s : PS), ErrOk en (textL toks en k s)
  | 0, s => .ok _
  | k + 1, s => by
    unfold textL ruleP
    refine ((name_err h _).pbnd fun s u => (must_err h _ _).pbnd fun s _ => (alts_err h _ _).pbnd fun s n => (must_err h _ _).pbnd fun s _ => .ok _).pbnd fun s _ => ?_
    split
    · exact text_err h k _
    · exact .ok _
end
theorem scan_at (s : Str) : ∀ t ∈ (scanR s).1, t.at' ≤ s.length := fun t ht => by have := chain_text (scanR_chain s) t ht; omega
theorem ruRd_bad {s : Str} (h : (ruRd s).2.2 ≠ 0) : (ruRd s).1 = noTe ∧ (ruRd s).2.1 ≤ s.length := by
  unfold ruRd at h ⊢
  split
  · exact ⟨rfl, scanR_at s⟩
  · rename_i c
    rw [if_neg c] at h
    cases ht : textP (scanR s).1 s.length with
    | error p =>
      exact ⟨rfl, text_err (scan_at s) _ _ p ht⟩
    | ok x =>
      obtain ⟨st, u⟩ := x
      rw [ht] at h
      simp only at h ⊢
      split
      · exact ⟨rfl, Nat.zero_le _⟩
      · rename_i c2
        rw [if_neg c2] at h
        split
        · obtain ⟨x, _⟩ := textP_tx ht
          refine ⟨rfl, ?_⟩
          simp only
          unfold namesP
          split
          · rename_i p hp
            obtain ⟨v, hv, rfl⟩ := twiceP_mem hp
            obtain ⟨t, ht, e, _⟩ := x.given v hv
            rw [← e]; exact scan_at s t ht
          · split
            · rename_i p hp
              obtain ⟨v, hv, rfl⟩ := missP_mem hp
              obtain ⟨t, ht, e⟩ := x.used v hv
              rw [← e]; exact scan_at s t ht
            · exact Nat.zero_le _
        · rename_i c3
          rw [if_neg c3] at h
          exact absurd rfl h
/-- What is read may be. -/
theorem ruRd_good {s : Str} (h : (ruRd s).2.2 = 0) : rightP (ruRd s).1 = true ∧ (ruRd s).2.1 = 0 ∧ ∃ r, (ruRd s).1.rules.getLast? = some r ∧ r.body = ((ruRd s).1.nodes.length : Int) - 1 := by
  unfold ruRd at h ⊢
  split
  · rename_i c; rw [if_pos c] at h; exact absurd h c
  · rename_i c
    rw [if_neg c] at h
    cases ht : textP (scanR s).1 s.length with
    | error p => rw [ht] at h; simp at h
    | ok x =>
      obtain ⟨st, u⟩ := x
      rw [ht] at h
      simp only at h ⊢
      split
      · rename_i c2; rw [if_pos c2] at h; simp at h
      · rename_i c2
        rw [if_neg c2] at h
        split
        · rename_i c3; rw [if_pos c3] at h; exact absurd h c3
        · rename_i c3
          obtain ⟨x, hne⟩ := textP_tx ht
          have hn : (namesP st.given st.used).2 = 0 := by simpa using c3
          have h1 : twiceP [] st.given = none := by
            cases hh : twiceP [] st.given with
            | none => rfl
            | some p => simp [namesP, hh] at hn
          have h2 : missP (st.given.map (·.name)) st.used = none := by
            cases hh : missP (st.given.map (·.name)) st.used with
            | none => rfl
            | some p => simp [namesP, h1, hh] at hn
          have nd := twiceP_none h1 (by simp)
          have ms := missP_none h2
          rw [List.nil_append, x.names] at nd
          rw [x.names] at ms
          have hlen : s.length ≤ 4000 := scanR_ok (by simpa using c)
          have hgood := chain_good (scanR_chain s)
          have hq : ∀ t ∈ (scanR s).1, t.text.length ≤ 4000 ∧ (t.kind = 2 → t.text.length ≤ 3998) := fun t ht => by
            have := chain_text (scanR_chain s) t ht
            unfold tokText at this
            split at this
            · simp at this; omega
            · omega
          have hfine : ∀ n ∈ st.nodes, fineP ⟨st.rules, st.nodes⟩ n = true := fun n hn => fineP_of (t := ⟨st.rules, st.nodes⟩) (U := st.used) ms hgood (fun t ht h2 => (hq t ht).2 h2) (x.fine n hn)
          have htok : ∀ r ∈ st.rules, tokenT r.name 1 = true := fun r hr => by
            have : r.name ∈ st.given.map (·.name) := by rw [x.names]; exact List.mem_map.2 ⟨r, hr, rfl⟩
            obtain ⟨u, hu, e⟩ := List.mem_map.1 this
            obtain ⟨t, ht, _, k, e2⟩ := x.given u hu
            rw [← e, ← e2]
            exact tokenT_name (hgood t ht) k (hq t ht).1
          have hr := x.right ⟨st.rules, st.nodes⟩ (List.prefix_refl _) hfine nd htok
          refine ⟨?_, rfl, ?_⟩
          · unfold rightP
            simp only [Bool.and_eq_true, decide_eq_true_eq]
            exact ⟨⟨⟨List.length_pos_iff.2 hne, by omega⟩, by omega⟩, hr⟩
          · cases hl : st.rules.getLast? with
            | none => rw [List.getLast?_eq_none_iff] at hl; exact absurd hl hne
            | some r => exact ⟨r, rfl, x.body r hl⟩
end Go.Proofs.Ytecgbggobecpjaa.Al
namespace Go.Proofs.Ytecgbggobecpjaa.Al
open Go Go.RowKit
set_option linter.unusedSimpArgs false
set_option linter.unusedVariables false
attribute [-simp] List.getD_eq_getElem?_getD Int.not_lt Int.not_le List.map_take List.map_map
def utokV (u : Use) : V := tokV ⟨1, u.name, u.at'⟩
structure LRdR (X : Cx) : Prop where
  mark : Has (Ecx X) K.probateref06_reader_mark A.probateref06_reader_mark
  must : Has (Ecx X) K.probateref06_reader_must A.probateref06_reader_must
  lay : Has (Ecx X) K.probateref06_reader_lay A.probateref06_reader_lay
  atom : Has (Ecx X) K.probateref06_reader_atom A.probateref06_reader_atom
  items : Has (Ecx X) K.probateref06_reader_items A.probateref06_reader_items
  alts : Has (Ecx X) K.probateref06_reader_alternatives A.probateref06_reader_alternatives
/-- The reference's reader: nothing is wrong so far. -/
def RdT (toks : List Tok) (h : AH) (o : Nat) (s : PS) (σ : S4) : Prop := ∃ N, WkE N (s.nodes.map ndV) ∧ RdO h o (.sl 3 0 (toks.map tokV)) (.bool false) s.at' 3 (s.rules.map rlV) N (s.given.map utokV) (s.used.map utokV) σ
/-- Something is wrong, at this place. -/
def RdW (toks : List Tok) (en : Nat) (h : AH) (o : Nat) (p c : Nat) (σ : S4) : Prop := ∃ (a : Nat) (R : List Rl) (N : List V) (G U : List Use), plcP toks en a = p ∧ a ≤ toks.length ∧ R.length + N.length + G.length + U.length ≤ c ∧ RdO h o (.sl 3 0 (toks.map tokV)) (.bool true) a 3 (R.map rlV) N (G.map utokV) (U.map utokV) σ
theorem RdW.mono {toks : List Tok} {en : Nat} {h : AH} {o p c c' : Nat} {σ : S4} (r : RdW toks en h o p c σ) (hc : c ≤ c') : RdW toks en h o p c' σ := by
  obtain ⟨a, R, N, G, U, h1, h2, h3, h4⟩ := r
  exact ⟨a, R, N, G, U, h1, h2, by omega, h4⟩
/-- What is told behind a call. -/
def AnsR (toks : List Tok) (en : Nat) (h : AH) (o : Nat) (σ : S4) (c : Nat) (Q : V → AH → Prop) : PR Int → Prop
  | .ok (s, n) => ∀ h1 σ1, RE h h1 o σ σ1 → RdT toks h1 o s σ1 → Q (.int .i64 n) h1
  | .error p => ∀ h1 σ1 n, RE h h1 o σ σ1 → RdW toks en h1 o p c σ1 → Q (.int .i64 n) h1
section
variable {X : Cx} {toks : List Tok} {en : Nat} {h : AH} {o : Nat} {σ : S4} {Q : V → AH → Prop}
theorem rMark (H : Has (Ecx X) K.probateref06_reader_mark A.probateref06_reader_mark) {a : Nat} {w : Bool} {rest : List V} (ob : h.objs o = .sl 3 0 (toks.map tokV) :: .int .i64 (a : Nat) :: .bool w :: rest) (m : Str) (hQ : Q (.bool (!w && aheadP toks a m)) h) :
    Ecx X K.probateref06_reader_mark [.ptr o 0, .str m] h Q := by
  refine fn_walk H (by simp [A.probateref06_reader_mark]) fun wf => ?_
  cases w with
  | true =>
    simp at hQ
    simp [A.probateref06_reader_mark, ob]
    exact fin (by simp) hQ
  | false =>
    simp at hQ
    by_cases hlt : a < toks.length
    · have hlt' : (a : Int) < toks.length := by omega
      have hg : (toks.map tokV).getD a .undef = .agg (tokC toks[a]) := toks_getD hlt
      have hp : aheadP toks a m = (decide (toks[a].kind = 3) && decide (toks[a].text = m)) := by simp [aheadP, hlt]
      rw [hp] at hQ
      by_cases c1 : toks[a].kind = 3
      · have c1' : (toks[a].kind : Int) = 3 := by omega
        by_cases c2 : toks[a].text = m
        · simp [c1, c2] at hQ
          simp [A.probateref06_reader_mark, ob, hlt', hg, tokC, V.cells, c1', c2]
          exact fin (by simp) hQ
        · simp [c1, c2] at hQ
          simp [A.probateref06_reader_mark, ob, hlt', hg, tokC, V.cells, c1', c2]
          exact fin (by simp) hQ
      · have c1' : ¬ (toks[a].kind : Int) = 3 := by omega
        simp [c1] at hQ
        simp [A.probateref06_reader_mark, ob, hlt', hg, tokC, V.cells, c1']
        exact fin (by simp) hQ
    · have hlt' : ¬ (a : Int) < toks.length := by omega
      have hp : aheadP toks a m = false := by simp [aheadP, hlt]
      rw [hp] at hQ
      simp [A.probateref06_reader_mark, ob, hlt']
      exact fin (by simp) hQ
theorem pot_lens (s : PS) : s.rules.length + s.nodes.length + s.given.length + s.used.length ≤ pot toks s := by unfold pot; omega
theorem rMust (L : LRdR X) (hs : toks.length < 2 ^ 30) {s : PS} (r : RdT toks h o s σ) (ha : s.at' ≤ toks.length) (m : Str) (hT : ∀ h1, aheadP toks s.at' m = true → RE h h1 o σ σ → RdT toks h1 o s.adv σ → Q (.tup []) h1)
    (hF : ∀ h1, aheadP toks s.at' m = false → RE h h1 o σ σ → RdW toks en h1 o (plcP toks en s.at') (pot toks s) σ → Q (.tup []) h1) : Ecx X K.probateref06_reader_must [.ptr o 0, .str m] h Q := by
  refine fn_any L.must (by simp [A.probateref06_reader_must]) fun wf => ?_
  obtain ⟨N, hN, rd⟩ := r
  obtain ⟨e1, e2, e3, e4, ob, _⟩ := rd.ob
  simp [A.probateref06_reader_must]
  refine ecall (rMark L.mark ob m ?_)
  cases c : aheadP toks s.at' m with
  | true =>
    have hl := aheadP_lt c
    have hw1 : IntKind.i64.wrap ((s.at' : Int) + 1) = ((s.at' + 1 : Nat) : Int) := by rw [wrap_i64 (by omega) (by omega)]; rfl
    simp [ob, setAt, V.cells, V.good, hw1]
    exact hT _ c ((RE.refl h o σ).set (.inl rfl) _) ⟨N, hN, rd.cells ob _ (s.at' + 1) _⟩
  | false =>
    have hl := hN.len
    have := pot_lens (toks := toks) s
    simp only [List.length_map] at hl
    simp [ob, setAt, V.cells, V.good]
    exact hF _ c ((RE.refl h o σ).set (.inl rfl) _) ⟨s.at', s.rules, N, s.given, s.used, rfl, ha, by omega, rd.cells ob _ s.at' _⟩
theorem rMustW (L : LRdR X) {p c : Nat} (r : RdW toks en h o p c σ) (m : Str) (hQ : ∀ h1, RE h h1 o σ σ → RdW toks en h1 o p c σ → Q (.tup []) h1) : Ecx X K.probateref06_reader_must [.ptr o 0, .str m] h Q := by
  refine fn_any L.must (by simp [A.probateref06_reader_must]) fun wf => ?_
  obtain ⟨a, R, N, G, U, k1, k2, k3, rd⟩ := r
  obtain ⟨e1, e2, e3, e4, ob, _⟩ := rd.ob
  simp [A.probateref06_reader_must]
  refine ecall (rMark L.mark ob m ?_)
  simp [ob, setAt, V.cells, V.good]
  exact hQ _ ((RE.refl h o σ).set (.inl rfl) _) ⟨a, R, N, G, U, k1, k2, k3, rd.cells ob _ a _⟩
/-- A node is laid. -/
theorem rLay (L : LRdR X) {v0 v2 : V} {a : Nat} {R N G U : List V} (rd : RdO h o v0 v2 a 3 R N G U σ) (hp : N.length ≤ 2 ^ 38) (kind : Int) (name : Str) {ek st : Nat} {ks : List V}
    (hQ : ∀ h1 σ1, RE h h1 o σ σ1 → RdO h1 o v0 v2 a 3 R (N ++ [.agg [.int .i64 kind, .str name, .sl ek st ks]]) G U σ1 → Q (.int .i64 N.length) h1) : Ecx X K.probateref06_reader_lay [.ptr o 0, .int .i64 kind, .str name, .sl ek st ks] h Q := by
  refine fn_any L.lay (by simp [A.probateref06_reader_lay]) fun wf => ?_
  obtain ⟨e1, e2, e3, e4, ob, m1, m2, m3, m4⟩ := rd.ob
  simp [A.probateref06_reader_lay, ob, fillV, fillL, setAt, V.cells, V.good, V.isAgg]
  refine m2.app (by simp) rfl (by simp; omega) ?_
  have hw1 : IntKind.i64.wrap (N.length : Int) = (N.length : Int) := by rw [wrap_i64 (by omega) (by omega)]
  simp [setAt, V.cells, V.good, push_objs, ob, hw1]
  obtain ⟨r1, g1⟩ := rd.pushN ob (.agg [.int .i64 kind, .str name, .sl ek st ks])
  exact hQ _ _ g1 r1
theorem rLayN (L : LRdR X) {s : PS} (r : RdT toks h o s σ) (hp : s.nodes.length ≤ 2 ^ 38) (kind : Int) (name : Str) (kids : List Int) {ek st : Nat} (hk : kids = [] ∨ ek = 1)
    (hQ : ∀ h1 σ1, RE h h1 o σ σ1 → RdT toks h1 o (s.lay kind name kids) σ1 → Q (.int .i64 s.nodes.length) h1) : Ecx X K.probateref06_reader_lay [.ptr o 0, .int .i64 kind, .str name, .sl ek st (ints kids)] h Q := by
  obtain ⟨N, hN, rd⟩ := r
  have hl := hN.len
  simp only [List.length_map] at hl
  refine rLay L rd (by omega) kind name fun h1 σ1 g rd1 => ?_
  rw [hl]
  refine hQ h1 σ1 g ⟨_, ?_, rd1⟩
  rw [PS.lay]
  simp only [List.map_append, List.map_cons, List.map_nil]
  exact hN.append (.cons (.cons (.same _) (.cons (.same _) (.cons (wk_kids hk) .nil))) .nil)
theorem rLayW (L : LRdR X) {p c : Nat} (r : RdW toks en h o p c σ) (hp : c ≤ 2 ^ 38) (kind : Int) (name : Str) {ek st : Nat} {ks : List V}
    (hQ : ∀ h1 σ1 n, RE h h1 o σ σ1 → RdW toks en h1 o p (c + 1) σ1 → Q (.int .i64 n) h1) : Ecx X K.probateref06_reader_lay [.ptr o 0, .int .i64 kind, .str name, .sl ek st ks] h Q := by
  obtain ⟨a, R, N, G, U, k1, k2, k3, rd⟩ := r
  exact rLay L rd (by omega) kind name fun h1 σ1 g rd1 => hQ h1 σ1 _ g ⟨a, R, _, G, U, k1, k2, by simp; omega, rd1⟩
end
end Go.Proofs.Ytecgbggobecpjaa.Al
