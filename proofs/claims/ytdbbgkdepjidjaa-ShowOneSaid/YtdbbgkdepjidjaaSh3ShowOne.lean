/-
  What the law ShowOne needs of this claim's texts (part 3). Conditions: each theorem's own.
-/
import Derived.Test.YtdbbgkdepjidjaaChecked
import Derived.KernelRfl
import Derived.Test.YtdbbgkdepjidjaaAlKeys
import Derived.Tactics
import Derived.Tactics2
import Derived.Defers
import Derived.Recover
import Derived.Laws.Pointers
import Derived.RegionTactic
import Derived.Ground.NamesProg
import Derived.Shelf.Lay
import Derived.Shelf.Strings.OnBuilder
import Derived.Shelf.Strings.Builder1
import Derived.Test.YtdbbgkdepjidjaaAlArg
import Derived.Test.YtdbbgkdepjidjaaAlA
import Derived.Test.YtdbbgkdepjidjaaAlB
import Derived.Test.YtdbbgkdepjidjaaAlC
import Derived.Test.YtdbbgkdepjidjaaSh1ShowOne
import Derived.Test.YtdbbgkdepjidjaaSh2ShowOne
namespace Go.Proofs.Ytdbbgkdepjidjaa.Al
open Go Go.RowKit
set_option linter.unusedSimpArgs false
set_option linter.unusedVariables false
attribute [-simp] List.getD_eq_getElem?_getD Int.not_lt Int.not_le List.map_take List.map_map
def intV (n : Int) : V := .int .i64 n
section
variable {X : Cx} {wr : Int → Value} {toks : List Tok} {en : Nat}
/-- What alternatives are told to do. -/
def AltS (X : Cx) (wr : Int → Value) (toks : List Tok) (en f : Nat) : Prop := ∀ (s : PS) (h : AH) (o : Nat) (σ : S4) (Q : V → AH → Prop), s.at' ≤ toks.length → toks.length < f + s.at' → pot toks s + 2 ≤ 2 ^ 38 → RdP toks en h o s σ →
  Ans X wr toks en h o σ Q intV (altsP toks en f s) → Ecx X K.rules_reader_alternatives [.ptr o 0] h Q
variable {h : AH} {o : Nat} {σ : S4} {Q : V → AH → Prop}
theorem nodes_pot (s : PS) : s.nodes.length ≤ pot toks s ∧ s.used.length ≤ pot toks s ∧ s.given.length ≤ pot toks s ∧ s.rules.length ≤ pot toks s := by unfold pot; omega
theorem rdAtom (L : LRd X wr) (hs : toks.length < 2 ^ 30) (hk : ∀ t ∈ toks, t.kind = 1 ∨ t.kind = 2 ∨ t.kind = 3) {f : Nat} (hA : AltS X wr toks en f) {s : PS} (r : RdP toks en h o s σ) (hb : bgnP toks s.at' = true) (hf : toks.length < f + 1 + s.at') (hp : pot toks s ≤ 2 ^ 38)
    (hQ : Ans X wr toks en h o σ Q intV (atomP toks en (altsP toks en f) s)) : Ecx X K.rules_reader_atom [.ptr o 0] h Q := by
  refine fn_any L.atom (by simp [A.rules_reader_atom]) fun wf => ?_
  have hl := bgnP_lt hb
  have pa := pot_adv hl
  simp [A.rules_reader_atom]
  refine ecall (rdTake L r hs _ (fun c h1 g1 r1 => ?_) (fun c => ?_))
  · unfold atomP at hQ
    rw [if_pos c] at hQ
    simp
    refine ecall (hA _ _ _ _ _ (by simp [PS.adv]; omega) (by simp [PS.adv]; omega) (by omega) r1 ((hQ.from g1).pbnd fun s1 n e1 h2 σ2 g2 r2 hQ2 => ?_))
    have f1 := alts_fwd f _ _ _ (by simp [PS.adv]; omega) e1
    simp [intV]
    refine ecall (rdMust L r2 hs f1.at2 _ (hQ2.pbnd fun s2 u e2 h3 σ3 g3 r3 hQ3 => ?_))
    simp
    exact hQ3 h3 σ3 (RE.refl _ _ _) r3
  · unfold atomP at hQ
    rw [if_neg (by simp [c])] at hQ
    obtain ⟨N, hN, rd⟩ := id r
    obtain ⟨e1, e2, e3, e4, ob, m1, m2, m3, m4⟩ := rd.ob
    have hlt0 := rd.lt
    have n1 : ¬ o = h.nobj := by omega
    have n3 : ¬ h.nobj = o := by omega
    have hlt' : (s.at' : Int) < toks.length := by omega
    have hg : (toks.map tokV).getD s.at' .undef = .agg (tokC toks[s.at']) := toks_getD hl
    have hw1 : IntKind.i64.wrap ((s.at' : Int) + 1) = ((s.at' + 1 : Nat) : Int) := by rw [wrap_i64 (by omega) (by omega)]; rfl
    have ht : toks[s.at']? = some toks[s.at'] := List.getElem?_eq_getElem hl
    rw [ht] at hQ
    simp only at hQ
    have hm := hk _ (List.getElem_mem hl)
    by_cases c2 : toks[s.at'].kind = 2
    · have c2' : (toks[s.at'].kind : Int) = 2 := by omega
      rw [if_pos c2] at hQ
      simp [ob, hlt', hg, tokC, V.cells, V.good, setAt, c2', n1, n3, hw1]
      have np := nodes_pot (toks := toks) s
      refine ecall (rdNode L (toks := toks) (en := en) (σ := σ) (s := s.adv) ⟨N, hN, (rd.cells ob _ (s.at' + 1) _).new _⟩ (by simp [PS.adv]; omega) 7 _ [] (.inl rfl) fun h2 σ2 g2 r2 => ?_)
      simp
      exact hQ h2 σ2 ((((RE.refl h o σ).set (.inl rfl) _).new _).trans g2) r2
    · have c2' : ¬ (toks[s.at'].kind : Int) = 2 := by omega
      rw [if_neg c2] at hQ
      simp [ob, hlt', hg, tokC, V.cells, V.good, setAt, c2', n1, n3, hw1]
      have np := nodes_pot (toks := toks) s
      have c1 : toks[s.at'].kind = 1 := by
        rcases hm with e | e | e
        · exact e
        · exact absurd e c2
        · exfalso
          have : aheadP toks s.at' [40] = true := by
            simp [bgnP, hl, e] at hb
            simp [aheadP, hl, e, hb]
          rw [this] at c; cases c
      have hn : nameP toks en s = .ok (s.adv, ⟨toks[s.at'].text, toks[s.at'].at'⟩) := by simp [nameP, hl, c1]
      rw [hn] at hQ
      refine ecall (rdName L (toks := toks) (en := en) (s := s) (σ := σ) ⟨N, hN, rd.new _⟩ hs (by omega) ?_)
      rw [hn]
      intro h1 σ1 g1 r1
      obtain ⟨N1, hN1, rd1⟩ := r1
      obtain ⟨f1, f2, f3, f4, ob1, k1, k2, k3, k4⟩ := rd1.ob
      have hlt1 := rd1.lt
      have q1 : ¬ o = h1.nobj := by omega
      have q3 : ¬ h1.nobj = o := by omega
      have g1' := ((RE.refl h o σ).new _).trans g1
      have ob1' : h1.objs o = [V.sl 3 0 (toks.map tokV), .int .i64 ((s.at' + 1 : Nat) : Int), .int .i64 (en : Nat), .sl f1 σ1.a (s.rules.map rlV), .sl f2 σ1.b N1, .sl f3 σ1.c (s.given.map useV), .sl f4 σ1.d (s.used.map useV)] := ob1
      simp [useV, V.cells, V.good, setAt, ob1', q1, q3, fillL, V.isAgg]
      refine (show May 2 (h1.new [V.str toks[s.at'].text, V.int IntKind.i64 (toks[s.at'].at' : Nat)]) f4 σ1.d (s.used.map useV) from ⟨k4.el, k4.st⟩).app (by simp) rfl (by simp; omega) ?_
      simp [V.cells, V.good, setAt, push_objs, ob1', q1, q3]
      obtain ⟨r2, g2⟩ := (rd1.new [V.str toks[s.at'].text, V.int IntKind.i64 (toks[s.at'].at' : Nat)]).pushU (by rw [new_objs_ne _ _ q1]; exact ob1) (.agg [V.str toks[s.at'].text, V.int IntKind.i64 (toks[s.at'].at' : Nat)])
      have hu : (useP ⟨toks[s.at'].text, toks[s.at'].at'⟩ s.adv).used.map useV = s.used.map useV ++ [.agg [V.str toks[s.at'].text, V.int IntKind.i64 (toks[s.at'].at' : Nat)]] := by simp [useP, PS.adv, useV]
      have hu2 : s.adv.used.map useV = s.used.map useV := rfl
      refine ecall (rdNode L (toks := toks) (en := en) (s := useP ⟨toks[s.at'].text, toks[s.at'].at'⟩ s.adv) ⟨N1, hN1, by rw [hu]; exact r2⟩ (by simp [PS.adv, useP]; omega) 6 _ [] (.inl rfl) fun h2 σ2 g3 r3 => ?_)
      simp
      exact hQ h2 σ2 ((((g1'.new _)).trans g2).trans g3) r3
theorem rdItem (L : LRd X wr) (hs : toks.length < 2 ^ 30) (hk : ∀ t ∈ toks, t.kind = 1 ∨ t.kind = 2 ∨ t.kind = 3) {f : Nat} (hA : AltS X wr toks en f) {s : PS} (r : RdP toks en h o s σ) (hb : bgnP toks s.at' = true) (hf : toks.length < f + 1 + s.at') (hp : pot toks s ≤ 2 ^ 38)
    (hQ : Ans X wr toks en h o σ Q intV (itemP toks en (altsP toks en f) s)) : Ecx X K.rules_reader_item [.ptr o 0] h Q := by
  refine fn_any L.item (by simp [A.rules_reader_item]) fun wf => ?_
  simp [A.rules_reader_item]
  refine ecall (rdAtom L hs hk hA r hb hf hp (hQ.pbnd fun s1 n e1 h1 σ1 g1 r1 hQ1 => ?_))
  have f1 := (atom_fwd (alts_fwd f) e1).2
  have np := nodes_pot (toks := toks) s1
  have fp := f1.pot
  simp [intV]
  have key : ∀ (k : Int) (h2 : AH), (markP toks s1 n) = nodeP k [] [n] s1.adv → RE h1 h2 o σ1 σ1 → RdP toks en h2 o s1.adv σ1 → ∀ h3 σ3, RE h2 h3 o σ1 σ3 → RdP toks en h3 o (s1.adv.lay k [] [n]) σ3 → Q (.int .i64 s1.nodes.length) h3 := fun k h2 hm g2 r2 h3 σ3 g3 r3 => by
    rw [hm] at hQ1
    exact hQ1 h3 σ3 (g2.trans g3) r3
  refine ecall (rdTake L r1 hs _ (fun c h2 g2 r2 => ?_) (fun c => ?_))
  · have hm : markP toks s1 n = nodeP 3 [] [n] s1.adv := by unfold markP; rw [if_pos c]
    simp [fillL, V.isAgg]
    refine ecall (rdNode L r2 (by simp [PS.adv]; omega) 3 [] [n] (.inr rfl) fun h3 σ3 g3 r3 => ?_)
    simp
    exact key 3 h2 hm g2 r2 h3 σ3 g3 r3
  simp
  refine ecall (rdTake L r1 hs _ (fun c2 h2 g2 r2 => ?_) (fun c2 => ?_))
  · have hm : markP toks s1 n = nodeP 4 [] [n] s1.adv := by unfold markP; rw [if_neg (by simp [c]), if_pos c2]
    simp [fillL, V.isAgg]
    refine ecall (rdNode L r2 (by simp [PS.adv]; omega) 4 [] [n] (.inr rfl) fun h3 σ3 g3 r3 => ?_)
    simp
    exact key 4 h2 hm g2 r2 h3 σ3 g3 r3
  simp
  refine ecall (rdTake L r1 hs _ (fun c3 h2 g2 r2 => ?_) (fun c3 => ?_))
  · have hm : markP toks s1 n = nodeP 5 [] [n] s1.adv := by unfold markP; rw [if_neg (by simp [c]), if_neg (by simp [c2]), if_pos c3]
    simp [fillL, V.isAgg]
    refine ecall (rdNode L r2 (by simp [PS.adv]; omega) 5 [] [n] (.inr rfl) fun h3 σ3 g3 r3 => ?_)
    simp
    exact key 5 h2 hm g2 r2 h3 σ3 g3 r3
  have hm : markP toks s1 n = (s1, n) := by unfold markP; rw [if_neg (by simp [c]), if_neg (by simp [c2]), if_neg (by simp [c3])]
  rw [hm] at hQ1
  simp
  exact hQ1 h1 σ1 (RE.refl _ _ _) r1
/-- A slice of one's own beside the reader's. -/
structure Loc (h0 h : AH) (σ : S4) (e st : Nat) (l : List V) : Prop where
  may : May 1 h e st l
  lo : st ≤ 2 ∨ (h0.next ≤ st ∧ st < h.next ∧ ¬ σ.has st)
theorem Loc.nil (h0 h : AH) (σ : S4) : Loc h0 h σ 0 1 [] := ⟨⟨.inl rfl, .inl rfl⟩, .inl (by omega)⟩
theorem Loc.from {h0 h1 : AH} {σ1 : S4} {e st : Nat} {l : List V} (c : Loc h0 h σ e st l) (g : RE h h1 o σ σ1) (lo : ∀ s, s ≤ 2 → h.tips s = none) : Loc h0 h1 σ1 e st l := by
  refine ⟨c.may.keep ?_ (lo _), ?_⟩
  · rcases c.lo with d | ⟨d1, d2, d3⟩
    · exact .inl d
    · exact .inr (g.tips _ d2 (.inl d3))
  · rcases c.lo with d | ⟨d1, d2, d3⟩
    · exact .inl d
    · refine .inr ⟨d1, by have := g.next; omega, fun e => ?_⟩
      rcases g.st _ e with q | q
      · exact d3 q
      · omega
/-- It is pushed. -/
theorem Loc.app {h0 : AH} {s : PS} {e st : Nat} {l : List V} (c : Loc h0 h σ e st l) (hn : h0.next ≤ h.next) (r : RdP toks en h o s σ) {m : List V} (hm : m ≠ []) (hb : (l.length + m.length) * 8 ≤ 2 ^ 46) {K : V → AH → Prop} {zK : Lz K}
    (hk : RdP toks en (h.push st 1) o s σ → Loc h0 (h.push st 1) σ 1 h.next (l ++ m) → (∀ e2 s2 l2, Loc h0 h σ e2 s2 l2 → (s2 ≤ 2 ∨ s2 ≠ st) → Loc h0 (h.push st 1) σ e2 s2 l2 ∧ (s2 ≤ 2 ∨ s2 ≠ h.next)) → K (.sl 1 h.next (l ++ m)) (h.push st 1)) : App h 1 8 e st l 1 m zK := by
  refine c.may.app hm rfl hb (hk ?_ ?_ ?_)
  · obtain ⟨N, hN, rd⟩ := r
    exact ⟨N, hN, rd.push (by rcases c.lo with d | d; exact .inl d; exact .inr d.2.2) 1⟩
  · obtain ⟨N, hN, rd⟩ := r
    refine ⟨⟨.inr rfl, .inr (.inr (push_new _ _ _))⟩, .inr ⟨hn, by rw [push_next]; omega, fun q => ?_⟩⟩
    have := rd.sb _ q
    have := rd.lo.1
    omega
  · intro e2 s2 l2 c2 ne
    obtain ⟨N, hN, rd⟩ := r
    refine ⟨⟨c2.may.push rd.lo (by rcases c2.lo with d | d; exact .inl d; exact .inr d.2.1) ne 1, ?_⟩, ?_⟩
    · rcases c2.lo with d | ⟨d1, d2, d3⟩
      · exact .inl d
      · exact .inr ⟨d1, by rw [push_next]; omega, d3⟩
    · rcases c2.lo with d | ⟨d1, d2, d3⟩
      · exact .inl d
      · right; omega
theorem ints_el {l : List Int} {e : Nat} (h : ints l = [] ∨ e = 1) : l = [] ∨ e = 1 := h.imp (fun e => by cases l with | nil => rfl | cons a l => simp [ints] at e) id
theorem ans_eq {α : Type} {enc : α → V} {r r' : PR α} (e : r' = r) (a : Ans X wr toks en h o σ Q enc r') : Ans X wr toks en h o σ Q enc r := e ▸ a
theorem pbnd_assoc {α β γ : Type} (r : PR α) (f : PS → α → PR β) (g : PS → β → PR γ) : pbnd (pbnd r f) g = pbnd r fun s a => pbnd (f s a) g := by
  cases r <;> rfl
/-- What comes behind an alternative's items. -/
def restA (toks : List Tok) (en f k : Nat) (l : List Int) (s : PS) (l2 : List Int) : PR Int :=
  pbnd (if aheadP toks (oneP 1 l2 s).1.at' [124] then altsL toks en (altsP toks en f) k (oneP 1 l2 s).1.adv (l ++ [(oneP 1 l2 s).2]) else .ok ((oneP 1 l2 s).1, l ++ [(oneP 1 l2 s).2])) fun s1 l => .ok (oneP 2 l s1)
theorem rdAlts (L : LRd X wr) (hs : toks.length < 2 ^ 30) (hk : ∀ t ∈ toks, t.kind = 1 ∨ t.kind = 2 ∨ t.kind = 3) : ∀ f, AltS X wr toks en f
  | 0 => fun s h o σ Q h1 h2 hp r hQ => absurd h2 (by omega)
  | f + 1 => fun s h o σ Q h1 h2 hp r hQ => by
    have hA := rdAlts L hs hk f
    refine fn_any L.alts (by simp [A.rules_reader_alternatives]) fun wf => ?_
    simp [A.rules_reader_alternatives]
    unfold altsP at hQ
    refine loopI (n := toks.length + 2 - s.at') (fun m env h' => ∃ s' l e st more σ', env = [(0, .ptr o 0), (3, .sl e st (ints l)), (4, .bool more)] ∧ RE h h' o σ σ' ∧ RdP toks en h' o s' σ' ∧ Loc h h' σ' e st (ints l) ∧ s'.at' ≤ toks.length ∧ s.at' ≤ s'.at' ∧ l.length ≤ s'.at' - s.at' + 1 ∧
        (more = true → l.length ≤ s'.at' - s.at' ∧ pot toks s' + 2 ≤ 2 ^ 38 ∧ m = toks.length + 2 - s'.at' ∧ ∃ k, toks.length < k + s'.at' ∧ Ans X wr toks en h o σ Q intV (pbnd (altsL toks en (altsP toks en f) k s' l) fun s1 l => .ok (oneP 2 l s1))) ∧
        (more = false → pot toks s' ≤ 2 ^ 38 ∧ m = 0 ∧ Ans X wr toks en h o σ Q intV (.ok (oneP 2 l s')))) ?_
      ⟨s, [], 0, 1, true, σ, rfl, RE.refl _ _ _, r, Loc.nil _ _ _, h1, by omega, by simp, fun _ => ⟨by simp, by omega, rfl, toks.length + 1, by omega, hQ⟩, fun e => by cases e⟩
    rintro m env h' ⟨s', l, e, st, more, σ', rfl, g, r', lc, ha, hb, hll, hT, hF⟩
    unfold A.rules_reader_alternatives.L0
    cases more with
    | false =>
      obtain ⟨hp', rfl, hQ'⟩ := hF rfl
      have np := nodes_pot (toks := toks) s'
      simp
      refine ecall (rdOne L r' (by omega) 2 l (by omega) (ints_el lc.may.el) fun h3 σ3 g3 r3 => ?_)
      simp
      exact hQ' h3 σ3 (g.trans g3) r3
    | true =>
      obtain ⟨hll', hp', rfl, k, hk1, hQ'⟩ := hT rfl
      obtain ⟨k, rfl⟩ : ∃ k', k = k' + 1 := ⟨k - 1, by omega⟩
      simp
      refine loopI (n := toks.length - s'.at') (fun m env h2 => ∃ s2 l2 e2 st2 σ2, env = [(0, .ptr o 0), (3, .sl e st (ints l)), (5, .sl e2 st2 (ints l2))] ∧ RE h h2 o σ σ2 ∧ RdP toks en h2 o s2 σ2 ∧ Loc h h2 σ2 e st (ints l) ∧ Loc h h2 σ2 e2 st2 (ints l2) ∧ (st ≤ 2 ∨ st ≠ st2) ∧ s2.at' ≤ toks.length ∧ s'.at' ≤ s2.at' ∧ l2.length ≤ s2.at' - s'.at' ∧ pot toks s2 + 2 ≤ 2 ^ 38 ∧ m = toks.length - s2.at' ∧
          ∃ k2, toks.length < k2 + s2.at' ∧ Ans X wr toks en h o σ Q intV (pbnd (itemsP toks en (altsP toks en f) k2 s2 l2) (restA toks en f k l))) ?_
        ⟨s', [], 0, 1, σ', rfl, g, r', lc, Loc.nil _ _ _, by omega, ha, by omega, by simp, hp', rfl, toks.length + 1, by omega, ans_eq (by rw [altsL, seqP]; cases itemsP toks en (altsP toks en f) (toks.length + 1) s' [] <;> rfl) hQ'⟩
      rintro m env h2 ⟨s2, l2, e2, st2, σ2, rfl, g2, r2, lc1, lc2, ne, ha2, hb2, hl2, hp2, rfl, k2, hk2, hQ2⟩
      unfold A.rules_reader_alternatives.L1
      simp
      refine ecall (rdBegins L r2 ?_)
      have hlo2 : ∀ s, s ≤ 2 → h2.tips s = none := by obtain ⟨_, _, rd⟩ := r2; exact rd.lo.2
      have gn2 := g2.next
      cases c : bgnP toks s2.at' with
      | true =>
        have hlt := bgnP_lt c
        obtain ⟨k2, rfl⟩ : ∃ k', k2 = k' + 1 := ⟨k2 - 1, by omega⟩
        rw [itemsP, if_pos c, pbnd_assoc] at hQ2
        simp
        refine ecall (rdItem L hs hk hA r2 c (by omega) (by omega) (hQ2.pbnd0 g2 fun s3 n e3 h3 σ3 g3 r3 hQ3 => ?_))
        obtain ⟨q1, q2⟩ := item_fwd (alts_fwd f) e3
        have q3 := q2.pot
        have q4 := q2.at2
        have gn3 := g3.next
        simp [intV, fillL, V.isAgg]
        refine (lc2.from g3 hlo2).app (by omega) r3 (by simp) (by simp [ints]; omega) fun r4 lc4 oth => ?_
        obtain ⟨o1, o2⟩ := oth _ _ _ (lc1.from g3 hlo2) ne
        have hi : ints l2 ++ [V.int IntKind.i64 n] = ints (l2 ++ [n]) := by rw [ints_append]; rfl
        rw [hi] at lc4 ⊢
        simp
        exact ⟨toks.length - s3.at', by omega, iv ⟨s3, l2 ++ [n], 1, h3.next, σ3, rfl, (g2.trans g3).push (by have := lc2.lo; omega) 1, r4, o1, lc4, o2, q4, by omega, by simp; omega, by omega, rfl, k2, by omega, hQ3⟩⟩
      | false =>
        have hi : itemsP toks en (altsP toks en f) k2 s2 l2 = .ok (s2, l2) := by
          cases k2 with
          | zero => rfl
          | succ k2 => unfold itemsP; rw [if_neg (by simp [c])]
        rw [hi] at hQ2
        have np := nodes_pot (toks := toks) s2
        simp
        refine ecall (rdOne L r2 (by omega) 1 l2 (by omega) (ints_el lc2.may.el) fun h3 σ3 g3 r3 => ?_)
        have hlo3 : ∀ s, s ≤ 2 → h3.tips s = none := by obtain ⟨_, _, rd⟩ := r3; exact rd.lo.2
        have gn3 := g3.next
        obtain ⟨o1, o2⟩ := one_fwd (toks := toks) 1 l2 s2
        have hQ3 : Ans X wr toks en h o σ Q intV (restA toks en f k l s2 l2) := hQ2
        unfold restA at hQ3
        simp [fillL, V.isAgg]
        refine (lc1.from g3 hlo2).app (by omega) r3 (by simp) (by simp [ints]; omega) fun r4 lc4 oth => ?_
        have g4 := (g2.trans g3).push (s := st) (by have := lc1.lo; omega) 1
        have hi2 : ints l ++ [V.int IntKind.i64 (oneP 1 l2 s2).2] = ints (l ++ [(oneP 1 l2 s2).2]) := by rw [ints_append]; rfl
        rw [hi2] at lc4 ⊢
        simp
        refine ecall (rdTake L r4 hs _ (fun c h5 g5 r5 => ?_) (fun c => ?_))
        · rw [if_pos c] at hQ3
          have hl5 := aheadP_lt c
          have p5 := pot_adv hl5
          simp
          exact ⟨toks.length + 2 - (oneP 1 l2 s2).1.adv.at', by simp [PS.adv]; omega, iv ⟨_, l ++ [(oneP 1 l2 s2).2], 1, h3.next, true, σ3, rfl, g4.trans g5, r5, lc4.from g5 (by obtain ⟨_, _, rd⟩ := r4; exact rd.lo.2), by simp [PS.adv]; omega, by simp [PS.adv]; omega, by simp [PS.adv]; omega,
            fun _ => ⟨by simp [PS.adv]; omega, by omega, rfl, k, by simp [PS.adv]; omega, hQ3⟩, fun e => by cases e⟩⟩
        · rw [if_neg (by simp [c])] at hQ3
          simp
          exact ⟨0, by omega, iv ⟨_, l ++ [(oneP 1 l2 s2).2], 1, h3.next, false, σ3, rfl, g4, r4, lc4, by omega, by omega, by simp; omega,
            (fun e => by cases e), fun _ => ⟨by omega, rfl, hQ3⟩⟩⟩
theorem rdText (L : LRd X wr) (hs : toks.length < 2 ^ 30) (hk : ∀ t ∈ toks, t.kind = 1 ∨ t.kind = 2 ∨ t.kind = 3) (r : RdP toks en h o ⟨0, [], [], [], []⟩ σ) (hQ : Ans X wr toks en h o σ Q (fun _ => .tup []) (textP toks en)) :
    Ecx X K.rules_reader_text [.ptr o 0] h Q := by
  refine fn_any L.text (by simp [A.rules_reader_text]) fun wf => ?_
  simp [A.rules_reader_text]
  unfold textP at hQ
  refine loopI (n := toks.length + 2) (fun m env h' => ∃ s' more σ', env = [(0, .ptr o 0), (2, .bool more)] ∧ RE h h' o σ σ' ∧ RdP toks en h' o s' σ' ∧ s'.at' ≤ toks.length ∧ pot toks s' + 2 ≤ 2 ^ 38 ∧
      (more = true → m = toks.length + 2 - s'.at' ∧ ∃ k, toks.length < k + s'.at' ∧ Ans X wr toks en h o σ Q (fun _ => .tup []) (textL toks en k s')) ∧
      (more = false → m = 0 ∧ Ans X wr toks en h o σ Q (fun _ : Unit => .tup []) (.ok (s', ())))) ?_
    ⟨⟨0, [], [], [], []⟩, true, σ, rfl, RE.refl _ _ _, r, by simp, by simp [pot]; omega, fun _ => ⟨rfl, toks.length + 1, by simp, hQ⟩, fun e => by cases e⟩
  rintro m env h' ⟨s', more, σ', rfl, g, r', ha, hp, hT, hF⟩
  unfold A.rules_reader_text.L0
  cases more with
  | false =>
    obtain ⟨rfl, hQ'⟩ := hF rfl
    simp
    exact hQ' h' σ' g r'
  | true =>
    obtain ⟨rfl, k, hk1, hQ'⟩ := hT rfl
    obtain ⟨k, rfl⟩ : ∃ k', k = k' + 1 := ⟨k - 1, by omega⟩
    rw [textL] at hQ'
    have hQ0 := hQ'
    unfold ruleP at hQ'
    rw [pbnd_assoc] at hQ'
    simp
    refine ecall (rdName L r' hs ha (hQ'.pbnd0 g fun s1 u e1 h1 σ1 g1 r1 hQ1 => ?_))
    obtain ⟨rfl, hl1⟩ := name_fwd e1
    have p1 := pot_adv hl1
    obtain ⟨N, hN, rd⟩ := r1
    obtain ⟨e1, e2, e3, e4, ob, m1, m2, m3, m4⟩ := rd.ob
    have hlt1 := rd.lt
    have n1 : ¬ o = h1.nobj := by omega
    have n3 : ¬ h1.nobj = o := by omega
    have np := nodes_pot (toks := toks) s'
    have hgl : s'.adv.given.length = s'.given.length := rfl
    rw [pbnd_assoc] at hQ1
    simp [useV, V.cells, V.good, setAt, ob, n1, n3, fillL, V.isAgg]
    refine (show May 2 (h1.new [V.str u.name, V.int IntKind.i64 (u.at' : Nat)]) e3 σ1.c (s'.adv.given.map useV) from ⟨m3.el, m3.st⟩).app (by simp) rfl (by simp; omega) ?_
    simp [V.cells, V.good, setAt, push_objs, ob, n1, n3]
    obtain ⟨r2, g2⟩ := (rd.new [V.str u.name, V.int IntKind.i64 (u.at' : Nat)]).pushG (by rw [new_objs_ne _ _ n1]; exact ob) (.agg [V.str u.name, V.int IntKind.i64 (u.at' : Nat)])
    have hu : (giveP u s'.adv).given.map useV = s'.adv.given.map useV ++ [.agg [V.str u.name, V.int IntKind.i64 (u.at' : Nat)]] := by simp [giveP, useV]
    have g3 := (((g.trans g1).new [V.str u.name, V.int IntKind.i64 (u.at' : Nat)])).trans g2
    have hx : (((h1.new [V.str u.name, V.int IntKind.i64 (u.at' : Nat)]).push σ1.c 2).set o [V.sl 3 0 (List.map tokV toks), .int .i64 (s'.adv.at' : Nat), .int .i64 (en : Nat), .sl e1 σ1.a (s'.adv.rules.map rlV), .sl e2 σ1.b N, .sl 2 h1.next (s'.adv.given.map useV ++ [.agg [V.str u.name, V.int IntKind.i64 (u.at' : Nat)]]), .sl e4 σ1.d (s'.adv.used.map useV)]).objs h1.nobj = [V.str u.name, V.int IntKind.i64 (u.at' : Nat)] := by
      rw [set_objs_ne _ _ _ n3, push_objs]; exact new_objs_same _ _
    have hxn : h1.nobj < (((h1.new [V.str u.name, V.int IntKind.i64 (u.at' : Nat)]).push σ1.c 2).set o [V.sl 3 0 (List.map tokV toks), .int .i64 (s'.adv.at' : Nat), .int .i64 (en : Nat), .sl e1 σ1.a (s'.adv.rules.map rlV), .sl e2 σ1.b N, .sl 2 h1.next (s'.adv.given.map useV ++ [.agg [V.str u.name, V.int IntKind.i64 (u.at' : Nat)]]), .sl e4 σ1.d (s'.adv.used.map useV)]).nobj := by
      rw [set_nobj, push_nobj, new_nobj]; omega
    have r2' : RdP toks en _ o (giveP u s'.adv) _ := ⟨N, hN, by rw [hu]; exact r2⟩
    change RdP toks en (((h1.new [V.str u.name, V.int IntKind.i64 (u.at' : Nat)]).push σ1.c 2).set o [V.sl 3 0 (List.map tokV toks), .int .i64 (s'.adv.at' : Nat), .int .i64 (en : Nat), .sl e1 σ1.a (s'.adv.rules.map rlV), .sl e2 σ1.b N, .sl 2 h1.next (s'.adv.given.map useV ++ [.agg [V.str u.name, V.int IntKind.i64 (u.at' : Nat)]]), .sl e4 σ1.d (s'.adv.used.map useV)]) _ _ _ at r2'
    have q1 : ¬ h1.nobj = o := n3
    clear r2
    change RE h (((h1.new [V.str u.name, V.int IntKind.i64 (u.at' : Nat)]).push σ1.c 2).set o [V.sl 3 0 (List.map tokV toks), .int .i64 (s'.adv.at' : Nat), .int .i64 (en : Nat), .sl e1 σ1.a (s'.adv.rules.map rlV), .sl e2 σ1.b N, .sl 2 h1.next (s'.adv.given.map useV ++ [.agg [V.str u.name, V.int IntKind.i64 (u.at' : Nat)]]), .sl e4 σ1.d (s'.adv.used.map useV)]) _ _ _ at g3
    generalize (((h1.new [V.str u.name, V.int IntKind.i64 (u.at' : Nat)]).push σ1.c 2).set o [V.sl 3 0 (List.map tokV toks), .int .i64 (s'.adv.at' : Nat), .int .i64 (en : Nat), .sl e1 σ1.a (s'.adv.rules.map rlV), .sl e2 σ1.b N, .sl 2 h1.next (s'.adv.given.map useV ++ [.agg [V.str u.name, V.int IntKind.i64 (u.at' : Nat)]]), .sl e4 σ1.d (s'.adv.used.map useV)]) = h2 at *
    have hat : (giveP u s'.adv).at' = s'.at' + 1 := rfl
    refine ecall (rdMust L r2' hs (by omega) _ (hQ1.pbnd0 g3 fun s3 _ e3 h3 σ3 g4 r3 hQ3 => ?_))
    obtain ⟨rfl, hl3⟩ := must_fwd e3
    have hx3 := (g4.objs h1.nobj hxn q1).trans hx
    have hxn3 := g4.nobj
    have p3 := pot_adv hl3
    have pg : pot toks (giveP u s'.adv) = pot toks s'.adv + 1 := by simp [pot, giveP]; omega
    rw [pbnd_assoc] at hQ3
    simp
    refine ecall (rdAlts L hs hk _ _ _ _ _ _ (by simp [PS.adv, hat] at *; omega) (by omega) (by omega) r3 (hQ3.pbnd0 (g3.trans g4) fun s4 n e4 h4 σ4 g5 r4 hQ4 => ?_))
    have fw4 := alts_fwd _ _ _ _ (by simp [PS.adv, hat] at *; omega) e4
    have f4p := fw4.pot
    have hx4 := (g5.objs h1.nobj (by omega) q1).trans hx3
    have hxn4 := g5.nobj
    rw [pbnd_assoc] at hQ4
    simp [intV]
    refine ecall (rdMust L r4 hs fw4.at2 _ (hQ4.pbnd0 ((g3.trans g4).trans g5) fun s5 _ e5 h5 σ5 g6 r5 hQ5 => ?_))
    obtain ⟨rfl, hl5⟩ := must_fwd e5
    have p5 := pot_adv hl5
    have hx5 := (g6.objs h1.nobj (by omega) q1).trans hx4
    obtain ⟨N5, hN5, rd5⟩ := r5
    obtain ⟨f1, f2, f3, f4, ob5, k1, k2, k3, k4⟩ := rd5.ob
    have np5 := nodes_pot (toks := toks) s4
    have hrl : s4.adv.rules.length = s4.rules.length := rfl
    simp [ob5, hx5, V.cells, V.good, setAt, fillL, fillV, V.isAgg]
    refine k1.app (by simp) rfl (by simp; omega) ?_
    obtain ⟨r6, g7⟩ := rd5.pushR ob5 (.agg [V.str u.name, V.int IntKind.i64 n])
    simp [V.cells, V.good, setAt, push_objs, ob5]
    have hr6 : ({ s4.adv with rules := s4.adv.rules ++ [⟨u.name, n⟩] } : PS).rules.map rlV = s4.adv.rules.map rlV ++ [.agg [V.str u.name, V.int IntKind.i64 n]] := by simp [rlV, rlC]
    have r6' : RdP toks en _ o ({ s4.adv with rules := s4.adv.rules ++ [⟨u.name, n⟩] } : PS) _ := ⟨N5, hN5, by rw [hr6]; exact r6⟩
    have pr6 : pot toks ({ s4.adv with rules := s4.adv.rules ++ [⟨u.name, n⟩] } : PS) = pot toks s4.adv + 1 := by simp [pot]; omega
    have gA := (((g3.trans g4).trans g5).trans g6).trans g7
    have ha4 := fw4.at1
    have e4a : s4.adv.at' = s4.at' + 1 := rfl
    have e5a : (giveP u s'.adv).adv.at' = s'.at' + 2 := rfl
    by_cases cc : s4.at' + 1 < toks.length
    · have hQ6 : Ans X wr toks en h o σ Q (fun _ : Unit => .tup []) (if s4.at' + 1 < toks.length then textL toks en k ({ s4.adv with rules := s4.adv.rules ++ [⟨u.name, n⟩] } : PS) else .ok (({ s4.adv with rules := s4.adv.rules ++ [⟨u.name, n⟩] } : PS), ())) := hQ5
      rw [if_pos cc] at hQ6
      exact ⟨toks.length + 2 - (s4.at' + 1), by omega, iv ⟨_, true, _, by simp [e4a]; omega, gA, r6', by show s4.at' + 1 ≤ _; omega, by omega, fun _ => ⟨rfl, k, by show toks.length < k + (s4.at' + 1); omega, hQ6⟩, fun e => by cases e⟩⟩
    · have hQ6 : Ans X wr toks en h o σ Q (fun _ : Unit => .tup []) (if s4.at' + 1 < toks.length then textL toks en k ({ s4.adv with rules := s4.adv.rules ++ [⟨u.name, n⟩] } : PS) else .ok (({ s4.adv with rules := s4.adv.rules ++ [⟨u.name, n⟩] } : PS), ())) := hQ5
      rw [if_neg cc] at hQ6
      exact ⟨0, by omega, iv ⟨_, false, _, by simp [e4a]; omega, gA, r6', by show s4.at' + 1 ≤ _; omega, by omega, fun e => (by cases e), fun _ => ⟨rfl, hQ6⟩⟩⟩
end
end Go.Proofs.Ytdbbgkdepjidjaa.Al
namespace Go.Proofs.Ytdbbgkdepjidjaa.Al
open Go Go.RowKit
set_option linter.unusedSimpArgs false
set_option linter.unusedVariables false
attribute [-simp] List.getD_eq_getElem?_getD Int.not_lt Int.not_le List.drop_one List.map_take
theorem scanL_at : ∀ (n : Nat) (s : Str) (k p : Nat), (scanL n s k).2 = some p → p ≤ k + s.length
  | 0, s, k, p, h => by simp [scanL] at h
  | n + 1, s, k, p, h => by
    by_cases hne : s = []
    · subst hne; simp [scanL_nil] at h
    rw [scanL_step k hne] at h
    split at h
    · simp at h; omega
    · have := scanL_at n _ _ p h
      have hle := sfirst_le hne
      simp at this; omega
theorem scanR_at (s : Str) : (scanR s).2.1 ≤ s.length := by
  unfold scanR
  split
  · simp
  · split
    · rename_i p h; have := scanL_at _ _ _ _ h; simp; omega
    · simp
theorem scanR_small {s : Str} (hs : s.length ≤ 4000) : scanR s = match (scanL s.length s 0).2 with
    | some p => ([], p, 2)
    | none => ((scanL s.length s 0).1, 0, 0) := by
  unfold scanR; rw [if_neg (by omega)]
  cases (scanL s.length s 0).2 <;> rfl
end Go.Proofs.Ytdbbgkdepjidjaa.Al
namespace Go.Proofs.Ytdbbgkdepjidjaa.Al
open Go Go.RowKit
set_option linter.unusedSimpArgs false
set_option linter.unusedVariables false
attribute [-simp] List.getD_eq_getElem?_getD Int.not_lt Int.not_le List.map_take List.map_map
/-! ### Names -/
/-- The first name that an earlier one has. -/
def twiceP : List Str → List Use → Option Nat
  | _, [] => none
  | seen, u :: l => if u.name ∈ seen then some u.at' else twiceP (seen ++ [u.name]) l
def missP (seen : List Str) : List Use → Option Nat
  | [] => none
  | u :: l => if u.name ∈ seen then missP seen l else some u.at'
def namesP (given used : List Use) : Nat × Int := match twiceP [] given with
  | some p => (p, 7)
  | none => match missP (given.map (·.name)) used with
    | some p => (p, 6)
    | none => (0, 0)
def entN (l : List Str) : List V := l.map fun s => .tup [.str s, .int .i64 1]
theorem findE_entN (s : Str) : ∀ (l : List Str) (j : Nat), (s ∉ l ∧ findE .s (.str s) (entN l) j = some none ∧ (∀ v, findE .s (.str s) (entN l ++ [.tup [.str s, v]]) j = some (some (j + l.length, v)))) ∨
    (s ∈ l ∧ ∃ i, i < l.length ∧ findE .s (.str s) (entN l) j = some (some (j + i, .int .i64 1)) ∧ ∀ v, findE .s (.str s) ((entN l).set i (.tup [.str s, v])) j = some (some (j + i, v)))
  | [], j => .inl ⟨by simp, rfl, fun v => by simp [entN, findE, eqKey, eqLeaf]⟩
  | a :: l, j => by
    by_cases c : s = a
    · exact .inr ⟨by simp [c], 0, by simp, by simp [c, entN, findE, eqKey, eqLeaf], fun v => by simp [entN, findE, eqKey, eqLeaf]⟩
    · have hs : ∀ r, findE .s (.str s) (.tup [.str a, .int .i64 1] :: r) j = findE .s (.str s) r (j + 1) := fun r => by simp [findE, eqKey, eqLeaf, c]
      have e : entN (a :: l) = .tup [.str a, .int .i64 1] :: entN l := rfl
      rw [e, hs]
      rcases findE_entN s l (j + 1) with ⟨h1, h2, h3⟩ | ⟨h1, i, h2, h3, h4⟩
      · refine .inl ⟨by simp [c, h1], h2, fun v => ?_⟩
        rw [List.cons_append, hs, h3]; simp; omega
      · refine .inr ⟨by simp [h1], i + 1, by simpa using h2, by rw [h3, show j + 1 + i = j + (i + 1) by omega], fun v => ?_⟩
        rw [List.set_cons_succ, hs, h4, show j + 1 + i = j + (i + 1) by omega]
section
variable {X : Cx} {h : AH} {Q : V → AH → Prop}
theorem uses_getD {l : List Use} {i : Nat} (h : i < l.length) : (l.map useV).getD i .undef = .agg [.str l[i].name, .int .i64 (l[i].at' : Nat)] := by
  simp [List.getD, h, useV]
theorem ruNames_spec (H : Has (Ecx X) K.rules_reader_names A.rules_reader_names) {o : Nat} {c0 c1 c2 c3 c4 : V} {e3 e4 s3 s4 : Nat} {G U : List Use} (ob : h.objs o = [c0, c1, c2, c3, c4, .sl e3 s3 (G.map useV), .sl e4 s4 (U.map useV)]) (ho : o < h.nobj) (hg : G.length < 2 ^ 60) (hu : U.length < 2 ^ 60)
    (he3 : G = [] ∨ e3 = 2) (he4 : U = [] ∨ e4 = 2) (hQ : Q (.tup [.int .i64 ((namesP G U).1 : Nat), .int .i64 (namesP G U).2]) h) : Ecx X K.rules_reader_names [.ptr o 0] h Q := by
  refine fn_walk H (by simp [A.rules_reader_names]) fun wf => ?_
  have n1 : ¬ o = h.nobj := by omega
  simp [A.rules_reader_names, ob, n1]
  refine loopI (n := G.length) (fun m env h' => ∃ k, k ≤ G.length ∧ m = G.length - k ∧ Gr h h' ∧ h'.objs h.nobj = entN ((G.take k).map (·.name)) ∧ h.nobj < h'.nobj ∧ env = [(0, .ptr o 0), (4, .mapr h.nobj), (13, .sl e3 s3 (G.map useV)), (14, .int .i64 G.length), (15, .int .i64 k)] ∧
      twiceP [] G = twiceP ((G.take k).map (·.name)) (G.drop k)) ?_ ⟨0, by omega, by omega, (Gr.refl h).new _, by simp [entN], by simp, rfl, rfl⟩
  rintro m env h' ⟨k, hk, rfl, gr, om, nb, rfl, ht⟩
  unfold A.rules_reader_names.L0
  by_cases hlt : k < G.length
  · obtain rfl : e3 = 2 := he3.resolve_left (by rintro rfl; simp at hlt)
    have hlt' : (k : Int) < G.length := by omega
    have hgd := uses_getD hlt
    have hw1 : IntKind.i64.wrap ((k : Int) + 1) = ((k + 1 : Nat) : Int) := by rw [wrap_i64 (by omega) (by omega)]; rfl
    have q1 : ¬ h'.nobj = h.nobj := by omega
    have q2 : ¬ h.nobj = h'.nobj := by omega
    have hd : G.drop k = G[k] :: G.drop (k + 1) := List.drop_eq_getElem_cons hlt
    rw [hd] at ht
    have htk : (G.take (k + 1)).map (·.name) = (G.take k).map (·.name) ++ [G[k].name] := by rw [List.take_succ_eq_append_getElem hlt, List.map_append]; rfl
    have w1 : IntKind.i64.wrap 1 = 1 := by decide
    have w2 : IntKind.i64.wrap 2 = 2 := by decide
    rcases findE_entN G[k].name ((G.take k).map (·.name)) 0 with ⟨f1, f2, f3⟩ | ⟨f1, i, f2, f3, f4⟩
    · have ht' : twiceP [] G = twiceP ((G.take (k + 1)).map (·.name)) (G.drop (k + 1)) := by rw [ht, twiceP, if_neg f1, htk]
      simp [hlt', hgd, V.cells, V.good, setAt, om, q1, q2, f2, f3, w1]
      exact ⟨G.length - (k + 1), by omega, iv ⟨k + 1, by omega, rfl, (gr.set (Nat.le_refl _) _).new _, by rw [htk]; simp [q2, entN], by simp; omega, by simp [hw1], ht'⟩⟩
    · have ht' : twiceP [] G = some G[k].at' := by rw [ht, twiceP, if_pos f1]
      simp [hlt', hgd, V.cells, V.good, setAt, om, q1, q2, f3, f4, w2]
      have hq : namesP G U = (G[k].at', 7) := by unfold namesP; rw [ht']
      rw [hq] at hQ
      exact fin_wk ((gr.set (Nat.le_refl _) _).new _) (.same _) (by simp) hQ
  · have hlt' : ¬ (k : Int) < G.length := by omega
    obtain rfl : k = G.length := by omega
    rw [List.take_length, List.drop_length] at ht
    rw [List.take_length] at om
    have ht' : twiceP [] G = none := ht
    have hq : namesP G U = match missP (G.map (·.name)) U with
      | some p => (p, 6)
      | none => (0, 0) := by unfold namesP; rw [ht']
    rw [hq] at hQ
    have q1 : ¬ o = h.nobj := n1
    have ob' : h'.objs o = [c0, c1, c2, c3, c4, .sl e3 s3 (G.map useV), .sl e4 s4 (U.map useV)] := (gr.objs o ho).trans ob
    simp [hlt', ob']
    refine loopI (n := U.length) (fun m env h2 => ∃ k, k ≤ U.length ∧ m = U.length - k ∧ Gr h h2 ∧ h2.objs h.nobj = entN (G.map (·.name)) ∧ h.nobj < h2.nobj ∧ env = [(4, .mapr h.nobj), (35, .sl e4 s4 (U.map useV)), (36, .int .i64 U.length), (37, .int .i64 k)] ∧
        missP (G.map (·.name)) U = missP (G.map (·.name)) (U.drop k)) ?_ ⟨0, by omega, by omega, gr, om, nb, rfl, rfl⟩
    rintro m env h2 ⟨k, hk, rfl, gr2, om2, nb2, rfl, hm⟩
    unfold A.rules_reader_names.L1
    by_cases hlt : k < U.length
    · obtain rfl : e4 = 2 := he4.resolve_left (by rintro rfl; simp at hlt)
      have hlt' : (k : Int) < U.length := by omega
      have hgd := uses_getD hlt
      have hw1 : IntKind.i64.wrap ((k : Int) + 1) = ((k + 1 : Nat) : Int) := by rw [wrap_i64 (by omega) (by omega)]; rfl
      have q1 : ¬ h2.nobj = h.nobj := by omega
      have q2 : ¬ h.nobj = h2.nobj := by omega
      have hd : U.drop k = U[k] :: U.drop (k + 1) := List.drop_eq_getElem_cons hlt
      rw [hd, missP] at hm
      rcases findE_entN U[k].name (G.map (·.name)) 0 with ⟨f1, f2, f3⟩ | ⟨f1, i, f2, f3, f4⟩
      · rw [if_neg f1] at hm
        rw [hm] at hQ
        simp [hlt', hgd, V.cells, V.good, setAt, om2, q1, q2, f2]
        exact fin_wk (gr2.new _) (.same _) (by simp) hQ
      · rw [if_pos f1] at hm
        simp [hlt', hgd, V.cells, V.good, setAt, om2, q1, q2, f3, hw1]
        exact ⟨U.length - (k + 1), by omega, iv ⟨k + 1, by omega, rfl, gr2.new _, by simp [q2, om2], by simp; omega, rfl, hm⟩⟩
    · have hlt' : ¬ (k : Int) < U.length := by omega
      obtain rfl : k = U.length := by omega
      rw [List.drop_length] at hm
      rw [hm] at hQ
      simp [hlt']
      exact fin_wk gr2 (.same _) (by simp) hQ
/-! ### Read -/
def noTe : Te := ⟨[], []⟩
def ruRd (s : Str) : Te × Nat × Int :=
  if (scanR s).2.2 ≠ 0 then (noTe, (scanR s).2.1, (scanR s).2.2)
  else match textP (scanR s).1 s.length with
    | .error p => (noTe, p, 2)
    | .ok (st, _) => if 24 < st.rules.length ∨ 200 < st.nodes.length then (noTe, 0, 5)
      else if (namesP st.given st.used).2 ≠ 0 then (noTe, (namesP st.given st.used).1, (namesP st.given st.used).2)
      else (⟨st.rules, st.nodes⟩, 0, 0)
def ruRdV (s : Str) : V := .tup [teV (ruRd s).1, .int .i64 ((ruRd s).2.1 : Nat), .int .i64 (ruRd s).2.2]
structure LRead (X : Cx) : Prop where
  ls : LS X
  parse : ∀ (toks : List Tok) (en : Nat) (h : AH) (o : Nat) (σ : S4) (Q : V → AH → Prop), RdP toks en h o ⟨0, [], [], [], []⟩ σ → toks.length < 2 ^ 30 → (∀ t ∈ toks, t.kind = 1 ∨ t.kind = 2 ∨ t.kind = 3) →
    (∀ s, textP toks en = .ok (s, ()) → ∀ h1 σ1, RE h h1 o σ σ1 → RdP toks en h1 o s σ1 → Q (.int .i64 (-1)) h1) → (∀ p, textP toks en = .error p → ∀ h1 σ1, RE h h1 o σ σ1 → Q (.int .i64 (p : Nat)) h1) → Ecx X K.rules_reader_parse [.ptr o 0] h Q
  names : Has (Ecx X) K.rules_reader_names A.rules_reader_names
  read : Has (Ecx X) K.rules_Read A.rules_Read
theorem RE.gr {h0 h h1 : AH} {o : Nat} {σ σ1 : S4} (G : Gr h0 h) (f : RE h h1 o σ σ1) (ho : h0.nobj ≤ o) (hs : ∀ s, σ.has s → s ≤ 2 ∨ h0.next ≤ s) : Gr h0 h1 := by
  have g1 := G.next
  have g2 := G.nobj
  exact ⟨Nat.le_trans g1 f.next, Nat.le_trans g2 f.nobj, fun o' h' => (f.objs o' (by omega) (by omega)).trans (G.objs o' h'), fun s h' => (f.tips s (by omega) (by
    by_cases c : σ.has s
    · rcases hs s c with d | d
      · exact .inr d
      · omega
    · exact .inl c)).trans (G.tips s h')⟩
theorem scan_kinds (s : Str) : ∀ t ∈ (scanR s).1, t.kind = 1 ∨ t.kind = 2 ∨ t.kind = 3 := fun t ht => by
  rcases chain_good (scanR_chain s) t ht with ⟨a, _⟩ | ⟨a, _⟩ | ⟨a, _⟩
  · exact .inl a
  · exact .inr (.inl a)
  · exact .inr (.inr a)
theorem wk_tree {e1 s1 e2 s2 : Nat} {R : List Rl} {N : List V} {l : List Nd} (h1 : R = [] ∨ e1 = 2) (h2 : l = [] ∨ e2 = 3) (hN : WkE N (l.map ndV)) : Wk (.agg [.sl e1 s1 (R.map rlV), .sl e2 s2 N]) (teV ⟨R, l⟩) := by
  have w1 : Wk (.sl e1 s1 (R.map rlV)) (.sl 2 0 (R.map rlV)) := by
    rcases h1 with rfl | rfl
    · exact .nil _ _ _
    · exact .sl _ _ _
  have w2 : Wk (.sl e2 s2 N) (.sl 3 0 (l.map ndV)) := by
    rcases h2 with rfl | rfl
    · cases hN; exact .nil _ _ _
    · exact hN.sl (fun v hv => by obtain ⟨n, _, rfl⟩ := List.mem_map.1 hv; rfl)
  refine .agg _ _ rfl fun i i1 i2 => ?_
  match i with
  | 0 => exact w1
  | 1 => exact w2
  | n + 2 => simp at i1; omega
theorem bdd_te (n m : Nat) (t : Te) : Bdd n m (teV t) := by
  rw [teV, Bdd_agg]
  intro v hv
  simp only [teC, List.mem_cons, List.not_mem_nil, or_false] at hv
  rcases hv with rfl | rfl
  · rw [Bdd_sl0]; exact ⟨.inl (by omega), encRl.cells _ _ _⟩
  · rw [Bdd_sl0]; exact ⟨.inl (by omega), encNd.cells _ _ _⟩
theorem ruRead_spec (L : LRead X) (s : Str) (hl : s.length ≤ 2 ^ 28) (hQ : Q (ruRdV s) h) : Ecx X K.rules_Read [.str s] h Q := by
  refine fn_walk L.read (by simp [A.rules_Read]) fun wf => ?_
  have n1 : ¬ h.nobj + 1 = h.nobj := by omega
  have hwl : (scanR s).1.length ≤ s.length := scanR_len s
  simp [A.rules_Read]
  refine ecall (scan_spec L.ls s (by omega) ?_)
  simp [scanV]
  have hem : ∀ (h1 : AH), Gr h h1 → ∀ (a : Nat) (e : Int), ruRdV s = .tup [teV noTe, .int .i64 (a : Nat), .int .i64 e] → Fin h (V.tup [V.agg [V.sl 0 1 [], V.sl 0 1 []], V.int IntKind.i64 a, V.int IntKind.i64 e]) h1 (Lz.mk (a := Q)) := fun h1 g a e hr => by
    refine fin_wk (r := .tup [teV noTe, .int .i64 (a : Nat), .int .i64 e]) g ((wk_tree (R := []) (l := []) (.inl rfl) (.inl rfl) .nil).t3 _ _) ?_ (by rw [← hr]; exact hQ)
    simp [teV, teC, noTe]
  by_cases c1 : (scanR s).2.2 = 0
  · simp [c1]
    refine ecall (L.parse (scanR s).1 s.length _ _ ⟨1, 1, 1, 1⟩ _ ⟨[], .nil, ⟨0, 0, 0, 0, by simp, ⟨.inl rfl, .inl rfl⟩, ⟨.inl rfl, .inl rfl⟩, ⟨.inl rfl, .inl rfl⟩, ⟨.inl rfl, .inl rfl⟩⟩, by simp, wf.lo, fun s hs => by
      rcases hs with e | e | e | e <;> exact .inl (by rw [e]; exact Nat.le_succ 1), by simp, by simp, by simp, by simp, by simp, by simp⟩ (by omega) (scan_kinds s) (fun st ht h1 σ1 f r => ?_) (fun p ht h1 σ1 f => ?_))
    · have gr : Gr h h1 := RE.gr (((Gr.refl h).new _).new _) f (by omega) (fun s hs => by
        rcases hs with e | e | e | e <;> exact .inl (by rw [e]; exact Nat.le_succ 1))
      have o2 : h1.objs h.nobj = [.sl 0 1 [], .sl 0 1 []] := (f.objs _ (by simp) (by omega)).trans (by simp)
      have hn := f.nobj
      simp at hn
      obtain ⟨N, hN, rd⟩ := r
      obtain ⟨e1, e2, e3, e4, ob, m1, m2, m3, m4⟩ := rd.ob
      have hNl := hN.len
      simp only [List.length_map] at hNl
      simp [ob]
      by_cases c2 : 24 < st.rules.length
      · have c2' : (24 : Int) < st.rules.length := by omega
        simp [c2', o2]
        exact hem _ (gr.set (Nat.le_refl _) _) 0 5 (by simp [ruRdV, ruRd, c1, ht, c2])
      have c2' : ¬ (24 : Int) < st.rules.length := by omega
      by_cases c3 : 200 < st.nodes.length
      · have c3' : (200 : Int) < N.length := by omega
        simp [c2', c3', ob, o2]
        exact hem _ (gr.set (Nat.le_refl _) _) 0 5 (by simp [ruRdV, ruRd, c1, ht, c2, c3])
      have c3' : ¬ (200 : Int) < N.length := by omega
      simp [c2', c3', ob]
      have gl : st.given.length < 2 ^ 60 ∧ st.used.length < 2 ^ 60 := by
        have := textP_pot ht
        unfold pot at this
        omega
      refine ecall (ruNames_spec L.names (h := h1) (o := h.nobj + 1) ob (by omega) gl.1 gl.2 ?_ ?_ ?_)
      · exact m3.el.imp (fun e => by simpa using e) id
      · exact m4.el.imp (fun e => by simpa using e) id
      simp
      by_cases c4 : (namesP st.given st.used).2 = 0
      · simp [c4, ob, o2]
        refine fin_wk (r := ruRdV s) (gr.set (Nat.le_refl _) _) ?_ ?_ hQ
        · have : ruRdV s = .tup [teV ⟨st.rules, st.nodes⟩, .int .i64 0, .int .i64 0] := by simp [ruRdV, ruRd, c1, ht, c2, c3, c4]
          rw [this]
          exact (wk_tree (m1.el.imp (fun e => by simpa using e) id) (by
            rcases m2.el with e | e
            · left; rw [e] at hN; simpa using hN.cells.1.symm
            · exact .inr e) hN).t3 _ _
        · simp only [ruRdV, Bdd_tup, List.mem_cons, List.not_mem_nil, or_false]
          rintro v (rfl | rfl | rfl)
          · exact bdd_te _ _ _
          · simp
          · simp
      · simp [c4, o2]
        exact hem _ (gr.set (Nat.le_refl _) _) _ _ (by simp [ruRdV, ruRd, c1, ht, c2, c3, c4])
    · have gr : Gr h h1 := RE.gr (((Gr.refl h).new _).new _) f (by omega) (fun s hs => by
        rcases hs with e | e | e | e <;> exact .inl (by rw [e]; exact Nat.le_succ 1))
      have o2 : h1.objs h.nobj = [.sl 0 1 [], .sl 0 1 []] := (f.objs _ (by simp) (by omega)).trans (by simp)
      simp [o2]
      exact hem _ (gr.set (Nat.le_refl _) _) p 2 (by simp [ruRdV, ruRd, c1, ht])
  · simp [c1]
    exact hem _ ((Gr.refl h).new _) _ _ (by simp [ruRdV, ruRd, c1])
end
end Go.Proofs.Ytdbbgkdepjidjaa.Al
namespace Go.Proofs.Ytdbbgkdepjidjaa.Al
open Go Go.RowKit
set_option linter.unusedSimpArgs false
set_option linter.unusedVariables false
/-- A node may be, but for what its name means. -/
def fineL (toks : List Tok) (U : List Use) (n : Nd) : Prop :=
  (n.kind = 6 ∧ n.kids = [] ∧ ∃ u ∈ U, u.name = n.name) ∨ (n.kind = 7 ∧ n.kids = [] ∧ ∃ t ∈ toks, t.kind = 2 ∧ t.text = n.name) ∨
  (n.name = [] ∧ ((n.kind = 1 ∧ n.kids.length ≠ 1) ∨ (n.kind = 2 ∧ 2 ≤ n.kids.length) ∨ (3 ≤ n.kind ∧ n.kind ≤ 5 ∧ n.kids.length = 1)))
/-- From s to s' nodes have been laid, which leave ks open. -/
structure Grow (toks : List Tok) (s s' : PS) (ks : List Int) : Prop where
  nodes : ∃ new, s'.nodes = s.nodes ++ new ∧ ∀ n ∈ new, fineL toks s'.used n
  used : ∃ us, s'.used = s.used ++ us ∧ ∀ u ∈ us, ∃ t ∈ toks, t.at' = u.at'
  given : s'.given = s.given
  rules : s'.rules = s.rules
  run : ∀ t : Te, s'.nodes <+: t.nodes → (∀ n ∈ t.nodes, fineP t n = true) → ∀ st, runS t (s'.nodes.length - s.nodes.length) s.nodes.length st = some (st ++ ks)
section
variable {toks : List Tok} {en : Nat}
theorem fineL.mono {U U' : List Use} {n : Nd} (h : fineL toks U n) (hU : ∀ u ∈ U, u ∈ U') : fineL toks U' n := by
  rcases h with ⟨a, b, u, c, d⟩ | h | h
  · exact .inl ⟨a, b, u, hU u c, d⟩
  · exact .inr (.inl h)
  · exact .inr (.inr h)
theorem Grow.refl (s : PS) : Grow toks s s [] := ⟨⟨[], by simp, by simp⟩, ⟨[], by simp, by simp⟩, rfl, rfl, fun t _ _ st => by simp [runS]⟩
theorem Grow.pre {s s' : PS} {ks : List Int} (g : Grow toks s s' ks) : s.nodes <+: s'.nodes := by
  obtain ⟨new, e, _⟩ := g.nodes
  exact ⟨new, e.symm⟩
theorem Grow.trans {s s1 s2 : PS} {k1 k2 : List Int} (a : Grow toks s s1 k1) (b : Grow toks s1 s2 k2) : Grow toks s s2 (k1 ++ k2) := by
  obtain ⟨n1, e1, f1⟩ := a.nodes
  obtain ⟨n2, e2, f2⟩ := b.nodes
  obtain ⟨u1, x1, y1⟩ := a.used
  obtain ⟨u2, x2, y2⟩ := b.used
  refine ⟨⟨n1 ++ n2, by rw [e2, e1, List.append_assoc], fun n hn => ?_⟩, ⟨u1 ++ u2, by rw [x2, x1, List.append_assoc], fun u hu => ?_⟩, b.given.trans a.given, b.rules.trans a.rules, fun t hp hf st => ?_⟩
  · rcases List.mem_append.1 hn with h | h
    · exact (f1 n h).mono (fun u hu => by rw [x2]; exact List.mem_append_left _ hu)
    · exact f2 n h
  · rcases List.mem_append.1 hu with h | h
    · exact y1 u h
    · exact y2 u h
  · have r1 := a.run t (b.pre.trans hp) hf st
    have r2 := b.run t hp hf (st ++ k1)
    have l1 : s1.nodes.length = s.nodes.length + n1.length := by rw [e1]; simp
    have l2 : s2.nodes.length = s1.nodes.length + n2.length := by rw [e2]; simp
    have := runS_add t (s1.nodes.length - s.nodes.length) (s2.nodes.length - s1.nodes.length) s.nodes.length st _ r1
    rw [show s.nodes.length + (s1.nodes.length - s.nodes.length) = s1.nodes.length by omega, r2, show s1.nodes.length - s.nodes.length + (s2.nodes.length - s1.nodes.length) = s2.nodes.length - s.nodes.length by omega] at this
    rw [this, List.append_assoc]
theorem Grow.at {s s' : PS} {ks : List Int} (g : Grow toks s s' ks) (a : Nat) : Grow toks s { s' with at' := a } ks := ⟨g.nodes, g.used, g.given, g.rules, g.run⟩
theorem Grow.adv {s s' : PS} {ks : List Int} (g : Grow toks s s' ks) : Grow toks s s'.adv ks := g.at _
/-- A node takes what is open. -/
theorem Grow.lay {s s' : PS} {ks : List Int} (g : Grow toks s s' ks) (kind : Int) (name : Str) (hf : fineL toks s'.used ⟨kind, name, ks⟩) : Grow toks s (s'.lay kind name ks) [(s'.nodes.length : Int)] := by
  obtain ⟨n1, e1, f1⟩ := g.nodes
  refine ⟨⟨n1 ++ [⟨kind, name, ks⟩], by simp [PS.lay, e1], fun n hn => ?_⟩, g.used, g.given, g.rules, fun t hp hfine st => ?_⟩
  · rcases List.mem_append.1 hn with h | h
    · exact f1 n h
    · rw [List.mem_singleton] at h; subst h; exact hf
  · have hpre : s'.nodes <+: (s'.lay kind name ks).nodes := ⟨_, rfl⟩
    have r1 := g.run t (hpre.trans hp) hfine st
    have l1 : s'.nodes.length = s.nodes.length + n1.length := by rw [e1]; simp
    have l2 : (s'.lay kind name ks).nodes.length = s'.nodes.length + 1 := by simp [PS.lay]
    have := runS_add t (s'.nodes.length - s.nodes.length) 1 s.nodes.length st _ r1
    rw [show s.nodes.length + (s'.nodes.length - s.nodes.length) = s'.nodes.length by omega, show s'.nodes.length - s.nodes.length + 1 = (s'.lay kind name ks).nodes.length - s.nodes.length by omega] at this
    rw [this]
    have hlt : s'.nodes.length < t.nodes.length := by have := hp.length_le; omega
    have hget : t.nodes[s'.nodes.length]? = some ⟨kind, name, ks⟩ := by
      obtain ⟨r, hr⟩ := hp
      rw [← hr, List.getElem?_append_left (by omega)]
      simp [PS.lay]
    have hmem : (⟨kind, name, ks⟩ : Nd) ∈ t.nodes := List.mem_of_getElem? hget
    simp only [runS, stpS, hget]
    rw [if_pos ⟨hfine _ hmem, by simp, by simp⟩]
    simp
/-- What comes back is the last node. -/
def Lst (s s' : PS) (n : Int) : Prop := s.nodes.length < s'.nodes.length ∧ n = (s'.nodes.length : Int) - 1
def AltG (toks : List Tok) (alt : PS → PR Int) : Prop := ∀ s s' n, alt s = .ok (s', n) → Grow toks s s' [n] ∧ Lst s s' n
theorem one_grow {s s' : PS} {kind : Int} {l : List Int} (g : Grow toks s s' l) (h1 : ∀ n, l = [n] → Lst s s' n) (hk : l.length ≠ 1 → kind = 1 ∨ (kind = 2 ∧ 2 ≤ l.length)) : Grow toks s (oneP kind l s').1 [(oneP kind l s').2] ∧ Lst s (oneP kind l s').1 (oneP kind l s').2 := by
  by_cases c : l.length = 1
  · obtain ⟨n, rfl⟩ := List.length_eq_one_iff.1 c
    exact ⟨g, h1 n rfl⟩
  · have ho : oneP kind l s' = nodeP kind [] l s' := by
      match l, c with
      | [], _ => rfl
      | [n], c => simp at c
      | _ :: _ :: _, _ => rfl
    rw [ho]
    have := g.pre.length_le
    refine ⟨g.lay kind [] (.inr (.inr ⟨rfl, ?_⟩)), by simp [Lst, nodeP, PS.lay]; omega⟩
    rcases hk c with e | e
    · exact .inl ⟨e, c⟩
    · exact .inr (.inl e)
theorem atom_grow {alt : PS → PR Int} (ha : AltG toks alt) {s s' : PS} {n : Int} (h : atomP toks en alt s = .ok (s', n)) : Grow toks s s' [n] ∧ Lst s s' n := by
  unfold atomP at h
  split at h
  · obtain ⟨s1, n1, h1, h2⟩ := pbnd_ok h
    obtain ⟨s2, u, h3, h4⟩ := pbnd_ok h2
    cases h4
    obtain ⟨rfl, _⟩ := must_fwd h3
    obtain ⟨g, l⟩ := ha _ _ _ h1
    exact ⟨(((Grow.refl s).adv).trans g).adv, l⟩
  · split at h
    · cases h
    · rename_i t e
      split at h
      · rename_i c2
        cases h
        refine ⟨((Grow.refl s).adv).lay 7 t.text (.inr (.inl ⟨rfl, rfl, t, List.mem_of_getElem? e, c2, rfl⟩)), by simp [Lst, PS.lay, PS.adv]⟩
      · obtain ⟨s1, u, h1, h2⟩ := pbnd_ok h
        cases h2
        have hu : ∃ t ∈ toks, t.at' = u.at' := by
          unfold nameP at h1
          rw [e] at h1
          simp only at h1
          split at h1
          · cases h1; exact ⟨t, List.mem_of_getElem? e, rfl⟩
          · cases h1
        obtain ⟨rfl, _⟩ := name_fwd h1
        have g : Grow toks s (useP u s.adv) [] := ⟨⟨[], by simp [useP, PS.adv], by simp⟩, ⟨[u], rfl, by simpa using hu⟩, rfl, rfl, fun t _ _ st => by simp [runS, useP, PS.adv]⟩
        exact ⟨g.lay 6 u.name (.inl ⟨rfl, rfl, u, by simp [useP], rfl⟩), by simp [Lst, PS.lay, PS.adv, useP]⟩
theorem item_grow {alt : PS → PR Int} (ha : AltG toks alt) {s s' : PS} {n : Int} (h : itemP toks en alt s = .ok (s', n)) : Grow toks s s' [n] ∧ Lst s s' n := by
  unfold itemP at h
  obtain ⟨s1, n1, h1, h2⟩ := pbnd_ok h
  obtain ⟨g, l⟩ := atom_grow ha h1
  have key : ∀ k : Int, 3 ≤ k → k ≤ 5 → (markP toks s1 n1) = nodeP k [] [n1] s1.adv → Grow toks s s' [n] ∧ Lst s s' n := fun k k1 k2 hm => by
    rw [hm] at h2
    cases h2
    have := g.pre.length_le
    exact ⟨g.adv.lay k [] (.inr (.inr ⟨rfl, .inr (.inr ⟨k1, k2, rfl⟩)⟩)), by simp [Lst, PS.lay, PS.adv]; omega⟩
  by_cases a1 : aheadP toks s1.at' [42] = true
  · exact key 3 (by omega) (by omega) (by unfold markP; rw [if_pos a1])
  by_cases a2 : aheadP toks s1.at' [43] = true
  · exact key 4 (by omega) (by omega) (by unfold markP; rw [if_neg a1, if_pos a2])
  by_cases a3 : aheadP toks s1.at' [63] = true
  · exact key 5 (by omega) (by omega) (by unfold markP; rw [if_neg a1, if_neg a2, if_pos a3])
  have hm : markP toks s1 n1 = (s1, n1) := by unfold markP; rw [if_neg a1, if_neg a2, if_neg a3]
  rw [hm] at h2
  cases h2
  exact ⟨g, l⟩
theorem items_grow {alt : PS → PR Int} (ha : AltG toks alt) {s0 : PS} : ∀ (k : Nat) {s s' : PS} {l l' : List Int}, itemsP toks en alt k s l = .ok (s', l') → Grow toks s0 s l → (∀ n, l = [n] → Lst s0 s n) → Grow toks s0 s' l' ∧ ∀ n, l' = [n] → Lst s0 s' n
  | 0, s, s', l, l', h, g, hl => by cases h; exact ⟨g, hl⟩
  | k + 1, s, s', l, l', h, g, hl => by
    unfold itemsP at h
    split at h
    · obtain ⟨s1, n, h1, h2⟩ := pbnd_ok h
      obtain ⟨g1, l1⟩ := item_grow ha h1
      refine items_grow ha k h2 (g.trans g1) fun m hm => ?_
      cases l with
      | nil =>
        simp at hm; subst hm
        have := g.pre.length_le
        exact ⟨by have := l1.1; omega, l1.2⟩
      | cons a l => simp at hm
    · cases h; exact ⟨g, hl⟩
theorem seq_grow {alt : PS → PR Int} (ha : AltG toks alt) {s s' : PS} {n : Int} (h : seqP toks en alt s = .ok (s', n)) : Grow toks s s' [n] ∧ Lst s s' n := by
  unfold seqP at h
  obtain ⟨s1, l, h1, h2⟩ := pbnd_ok h
  obtain ⟨g, hl⟩ := items_grow ha _ h1 (Grow.refl s) (fun n h => by simp at h)
  obtain ⟨o1, o2⟩ := one_grow (kind := 1) g hl (fun _ => .inl rfl)
  have e : s' = (oneP 1 l s1).1 ∧ n = (oneP 1 l s1).2 := by
    have := congrArg (fun x => x.toOption) h2
    simp [Except.toOption] at this
    rw [this]; exact ⟨rfl, rfl⟩
  obtain ⟨rfl, rfl⟩ := e
  exact ⟨o1, o2⟩
theorem altsL_grow {alt : PS → PR Int} (ha : AltG toks alt) {s0 : PS} : ∀ (k : Nat) {s s' : PS} {l l' : List Int}, altsL toks en alt (k + 1) s l = .ok (s', l') → Grow toks s0 s l → Grow toks s0 s' l' ∧ l' ≠ [] ∧ ∀ n, l' = [n] → Lst s0 s' n
  | k, s, s', l, l', h, g => by
    unfold altsL at h
    obtain ⟨s1, n, h1, h2⟩ := pbnd_ok h
    obtain ⟨g1, l1⟩ := seq_grow ha h1
    have hg := g.pre.length_le
    split at h2
    · cases k with
      | zero =>
        unfold altsL at h2
        cases h2
        refine ⟨(g.trans g1).adv, by simp, fun m hm => ?_⟩
        cases l with
        | nil => simp at hm; subst hm; exact ⟨by have := l1.1; simp only [PS.adv]; omega, l1.2⟩
        | cons a l => simp at hm
      | succ k =>
        obtain ⟨q1, q2, q3⟩ := altsL_grow ha k h2 (g.trans g1).adv
        exact ⟨q1, q2, q3⟩
    · cases h2
      refine ⟨g.trans g1, by simp, fun m hm => ?_⟩
      cases l with
      | nil => simp at hm; subst hm; exact ⟨by have := l1.1; omega, l1.2⟩
      | cons a l => simp at hm
theorem alts_grow : ∀ f, AltG toks (altsP toks en f)
  | 0, s, s', n, h => by cases h
  | f + 1, s, s', n, h => by
    unfold altsP at h
    obtain ⟨s1, l, h1, h2⟩ := pbnd_ok h
    obtain ⟨g, hne, hl⟩ := altsL_grow (alts_grow f) _ h1 (Grow.refl s)
    obtain ⟨o1, o2⟩ := one_grow (kind := 2) g hl (fun c => .inr ⟨rfl, by
      match l, hne, c with
      | [_], _, c => simp at c
      | _ :: _ :: _, _, _ => simp⟩)
    have e : s' = (oneP 2 l s1).1 ∧ n = (oneP 2 l s1).2 := by
      have := congrArg (fun x => x.toOption) h2
      simp [Except.toOption] at this
      rw [this]; exact ⟨rfl, rfl⟩
    obtain ⟨rfl, rfl⟩ := e
    exact ⟨o1, o2⟩
theorem rightS_snoc (t : Te) (r : Rl) (v : Int) (b : Nat) : ∀ (rs : List Rl) (seen : List Str) (a : Nat), rightS t rs seen a = some b → tokenT r.name 1 = true → r.name ∉ seen ++ rs.map (·.name) → (b : Int) ≤ r.body → r.body < t.nodes.length → runS t (r.body.toNat + 1 - b) b [] = some [v] →
    rightS t (rs ++ [r]) seen a = some (r.body.toNat + 1)
  | [], seen, a, h, h1, h2, h3, h4, h5 => by
    simp [rightS] at h; subst h
    simp at h2
    simp only [List.nil_append, rightS]
    rw [if_pos ⟨h1, h2, h3, h4⟩, h5]
  | q :: rs, seen, a, h, h1, h2, h3, h4, h5 => by
    simp only [List.cons_append, rightS] at h ⊢
    split at h
    · rename_i c
      rw [if_pos c]
      split at h
      · rename_i v2 hv
        first | rw [hv] | skip
        exact rightS_snoc t r v b rs _ _ h h1 (by simpa using h2) h3 h4 h5
      · cases h
    · cases h
/-- What holds behind some rules. -/
structure Tx (toks : List Tok) (s : PS) : Prop where
  fine : ∀ n ∈ s.nodes, fineL toks s.used n
  used : ∀ u ∈ s.used, ∃ t ∈ toks, t.at' = u.at'
  given : ∀ u ∈ s.given, ∃ t ∈ toks, t.at' = u.at' ∧ t.kind = 1 ∧ t.text = u.name
  names : s.given.map (·.name) = s.rules.map (·.name)
  last : s.rules = [] → s.nodes = []
  body : ∀ r, s.rules.getLast? = some r → r.body = (s.nodes.length : Int) - 1
  right : ∀ t : Te, s.nodes <+: t.nodes → (∀ n ∈ t.nodes, fineP t n = true) → (s.rules.map (·.name)).Nodup → (∀ r ∈ s.rules, tokenT r.name 1 = true) → rightS t s.rules [] 0 = some s.nodes.length
theorem Tx.init (toks : List Tok) : Tx toks ⟨0, [], [], [], []⟩ := ⟨by simp, by simp, by simp, by simp, by simp, by simp, fun t _ _ _ _ => rfl⟩
theorem rule_tx {s s' : PS} {u : Unit} (x : Tx toks s) (h : ruleP toks en s = .ok (s', u)) : Tx toks s' ∧ s'.rules ≠ [] := by
  unfold ruleP at h
  obtain ⟨s1, u1, h1, h⟩ := pbnd_ok h
  obtain ⟨s2, u2, h2, h⟩ := pbnd_ok h
  obtain ⟨s3, n, h3, h⟩ := pbnd_ok h
  obtain ⟨s4, u4, h4, h⟩ := pbnd_ok h
  cases h
  have hu1 : ∃ t ∈ toks, t.at' = u1.at' ∧ t.kind = 1 ∧ t.text = u1.name := by
    unfold nameP at h1
    split at h1
    · rename_i t e
      split at h1
      · rename_i c; cases h1; exact ⟨t, List.mem_of_getElem? e, rfl, c, rfl⟩
      · cases h1
    · cases h1
  obtain ⟨rfl, _⟩ := name_fwd h1
  obtain ⟨rfl, _⟩ := must_fwd h2
  obtain ⟨rfl, _⟩ := must_fwd h4
  obtain ⟨g, l1, l2⟩ := alts_grow _ _ _ _ h3
  obtain ⟨new, e1, f1⟩ := g.nodes
  obtain ⟨us, e2, f2⟩ := g.used
  have e3 : s3.given = s.given ++ [u1] := g.given
  have e4 : s3.rules = s.rules := g.rules
  have e1' : s3.nodes = s.nodes ++ new := e1
  have e2' : s3.used = s.used ++ us := e2
  have hl : s.nodes.length < s3.nodes.length := l1
  refine ⟨⟨fun m hm => ?_, fun u hu => ?_, fun u hu => ?_, ?_, fun e => by simp [PS.adv] at e, fun r hr => ?_, fun t hp hf hn ht => ?_⟩, by simp⟩
  · simp only [PS.adv] at hm ⊢
    rw [e1'] at hm
    rcases List.mem_append.1 hm with q | q
    · exact (x.fine m q).mono (fun u hu => by rw [e2']; exact List.mem_append_left _ hu)
    · exact f1 m q
  · simp only [PS.adv] at hu
    rw [e2'] at hu
    rcases List.mem_append.1 hu with q | q
    · exact x.used u q
    · exact f2 u q
  · simp only [PS.adv] at hu
    rw [e3] at hu
    rcases List.mem_append.1 hu with q | q
    · exact x.given u q
    · rw [List.mem_singleton] at q; subst q; exact hu1
  · simp only [PS.adv]
    rw [e3, e4, List.map_append, List.map_append, x.names]; rfl
  · simp only [PS.adv, List.getLast?_append, List.getLast?_singleton, Option.some_or] at hr
    cases hr
    exact l2
  · simp only [PS.adv] at hp hn ht ⊢
    rw [e4] at hn ht ⊢
    rw [List.map_append, List.nodup_append] at hn
    have r0 := x.right t ((show s.nodes <+: s3.nodes from ⟨new, e1'.symm⟩).trans hp) hf hn.1 (fun r hr => ht r (List.mem_append_left _ hr))
    have hrun := g.run t hp hf []
    have hpl := hp.length_le
    have hb : (n.toNat + 1) = s3.nodes.length := by omega
    rw [← hb]
    refine rightS_snoc t ⟨u1.name, n⟩ n s.nodes.length s.rules [] 0 r0 (ht _ (by simp)) ?_ ?_ ?_ ?_
    · simp only [List.nil_append]
      intro hm
      exact hn.2.2 u1.name hm u1.name (by simp) rfl
    · show (s.nodes.length : Int) ≤ n; omega
    · show n < _; omega
    · show runS t (n.toNat + 1 - s.nodes.length) s.nodes.length [] = some [n]
      rw [hb]
      exact hrun
theorem text_tx : ∀ (k : Nat) {s s' : PS} {u : Unit}, Tx toks s → textL toks en (k + 1) s = .ok (s', u) → Tx toks s' ∧ s'.rules ≠ []
  | k, s, s', u, x, h => by
    unfold textL at h
    obtain ⟨s1, u1, h1, h2⟩ := pbnd_ok h
    obtain ⟨x1, hne⟩ := rule_tx x h1
    split at h2
    · cases k with
      | zero => unfold textL at h2; cases h2; exact ⟨x1, hne⟩
      | succ k => exact text_tx k x1 h2
    · cases h2; exact ⟨x1, hne⟩
theorem textP_tx {s' : PS} {u : Unit} (h : textP toks en = .ok (s', u)) : Tx toks s' ∧ s'.rules ≠ [] := text_tx _ (Tx.init toks) h
theorem twiceP_none : ∀ {seen : List Str} {l : List Use}, twiceP seen l = none → seen.Nodup → (seen ++ l.map (·.name)).Nodup
  | seen, [], _, h => by simpa using h
  | seen, u :: l, h, hs => by
    unfold twiceP at h
    split at h
    · cases h
    · rename_i c
      have := twiceP_none h (by rw [List.nodup_append]; exact ⟨hs, by simp, fun a ha b hb => by rw [List.mem_singleton] at hb; subst hb; rintro rfl; exact c ha⟩)
      simpa using this
theorem missP_none : ∀ {seen : List Str} {l : List Use}, missP seen l = none → ∀ u ∈ l, u.name ∈ seen
  | seen, [], _, u, hu => by simp at hu
  | seen, v :: l, h, u, hu => by
    unfold missP at h
    split at h
    · rename_i c
      rcases List.mem_cons.1 hu with rfl | q
      · exact c
      · exact missP_none h u q
    · cases h
theorem twiceP_mem : ∀ {seen : List Str} {l : List Use} {p : Nat}, twiceP seen l = some p → ∃ u ∈ l, u.at' = p
  | seen, [], p, h => by simp [twiceP] at h
  | seen, u :: l, p, h => by
    unfold twiceP at h
    split at h
    · cases h; exact ⟨u, by simp, rfl⟩
    · obtain ⟨v, a, b⟩ := twiceP_mem h; exact ⟨v, by simp [a], b⟩
theorem missP_mem : ∀ {seen : List Str} {l : List Use} {p : Nat}, missP seen l = some p → ∃ u ∈ l, u.at' = p
  | seen, [], p, h => by simp [missP] at h
  | seen, u :: l, p, h => by
    unfold missP at h
    split at h
    · obtain ⟨v, a, b⟩ := missP_mem h; exact ⟨v, by simp [a], b⟩
    · cases h; exact ⟨u, by simp, rfl⟩
end
/-! ### Tokens alone -/
theorem sfirst_tokr {t : Tok} (g : goodTok t) (r : Str) (hr0 : t.kind = 1 → runN partB r = 0) : sfirst (tokText t ++ r) = (t.kind, t.text, (tokText t).length) := by
  obtain ⟨kd, tx, p⟩ := t
  rcases g with ⟨h1, ⟨c, q, e, hc⟩, hp⟩ | ⟨h1, hne, hq⟩ | ⟨h1, c, e, hm⟩
  · simp only at h1 e hp hr0
    have hr1 := hr0 h1
    clear hr0
    subst h1; subst e
    have hl := letterB_ne hc
    have hr : runN partB (c :: (q ++ r)) = (c :: q).length := by
      have := runN_all hp r
      rw [hr1] at this
      simpa using this
    show sfirst (c :: (q ++ r)) = _
    rw [sfirst_cons, if_neg hl.1, if_neg hl.2, if_pos hc, hr]
    simp [tokText]
  · simp only at h1 hne hq
    subst h1
    have hr : runN quotedB (tx ++ [39] ++ r) = tx.length := by
      rw [List.append_assoc, runN_all hq]
      show _ + runN quotedB (39 :: r) = _
      rw [runN_stop (p := quotedB) (by decide)]; omega
    show sfirst (39 :: (tx ++ [39] ++ r)) = _
    have hg : (tx ++ [39] ++ r).getD tx.length 0 = 39 := by simp [List.getD]
    have hl : ¬ tx.length = 0 := by simpa using hne
    rw [sfirst_cons, if_neg (by decide), if_neg (by decide), if_neg (by decide), if_pos (by decide), hr, if_neg (by rw [hg]; simp [hne]; decide)]
    simp [tokText]
  · simp only at h1 e
    subst h1; subst e
    show sfirst (c :: r) = _
    have hk := (marks_mem c).1 hm
    rw [sfirst_cons, if_neg (by omega), if_neg (by omega), if_neg (by simp only [letterB, letterI, Bool.or_eq_true, Bool.and_eq_true, decide_eq_true_eq]; omega), if_neg (by omega), if_pos hm]
    rfl
/-- A token ahead of something. -/
theorem scanL_tok {t : Tok} (g : goodTok t) (r : Str) (hr0 : t.kind = 1 → runN partB r = 0) (n k : Nat) : scanL (n + 1) (tokText t ++ r) k = (⟨t.kind, t.text, k⟩ :: (scanL n r (k + (tokText t).length)).1, (scanL n r (k + (tokText t).length)).2) := by
  have hp := tokText_pos g
  have hne : tokText t ++ r ≠ [] := by intro e; have := congrArg List.length e; simp only [List.length_append, List.length_nil] at this; omega
  have hk : t.kind ≠ 0 := by rcases g with ⟨h, _⟩ | ⟨h, _⟩ | ⟨h, _⟩ <;> omega
  rw [scanL_step k hne, sfirst_tokr g r hr0]
  simp only
  rw [if_neg (by omega), if_neg hk]
  simp
theorem tokenT_name {t : Tok} (g : goodTok t) (h : t.kind = 1) (hl : t.text.length ≤ 4000) : tokenT t.text 1 = true := by
  have ht : tokText t = t.text := by unfold tokText; rw [if_neg (by omega)]
  have hp := tokText_pos g
  rw [ht] at hp
  obtain ⟨n, hn⟩ : ∃ n, t.text.length = n + 1 := ⟨t.text.length - 1, by omega⟩
  have := scanL_tok g [] (fun _ => rfl) n 0
  rw [List.append_nil, ht, scanL_nil, ← hn] at this
  unfold tokenT
  rw [scanR_small hl, this]
  simp [h]
theorem fineP_of {t : Te} {toks : List Tok} {U : List Use} (hU : ∀ u ∈ U, u.name ∈ rnames t) (hg : ∀ t ∈ toks, goodTok t) (hq : ∀ t ∈ toks, t.kind = 2 → t.text.length ≤ 3998) {n : Nd} (h : fineL toks U n) : fineP t n = true := by
  rcases h with ⟨h1, h2, u, h3, h4⟩ | ⟨h1, h2, q, h3, h4, h5⟩ | ⟨h1, h2⟩
  · have := hU u h3
    rw [h4] at this
    unfold fineP
    rw [if_neg (by omega)]
    unfold fineT
    rw [if_pos h1]; simp [h2, this]
  · have hgq := hg q h3
    rcases hgq with ⟨k1, _⟩ | ⟨_, k2, k3⟩ | ⟨k1, _⟩
    · omega
    · rw [h5] at k2 k3
      have h39 : (n.name.any fun a => decide (39 = bt a)) = false := by
        cases hh : n.name.any fun a => decide (39 = bt a) with
        | false => rfl
        | true =>
          obtain ⟨a, ha, hb⟩ := List.any_eq_true.1 hh
          have := k3 a ha
          simp [quotedB, quotedI] at this hb
          exact absurd hb.symm this.2
      unfold fineP
      rw [if_pos h1, token_quote _ h39]
      have hlen := hq q h3 h4
      rw [h5] at hlen
      have hpos : 0 < n.name.length := List.length_pos_iff.2 k2
      simp [h2, h39]
      unfold quoteT
      simp only [Bool.and_eq_true, List.all_eq_true, decide_eq_true_eq]
      exact ⟨⟨k3, hpos⟩, hlen⟩
    · omega
  · unfold fineP
    rw [if_neg (by omega)]
    unfold fineT
    rw [if_neg (by omega), if_neg (by omega)]
    simp [h1]
    rcases h2 with ⟨a, b⟩ | ⟨a, b⟩ | ⟨a, b, c⟩
    · simp [a, b]
    · simp [a, b]
    · simp [a, b, c]
/-! ### What Read tells -/
theorem scanR_ok {s : Str} (h : (scanR s).2.2 = 0) : s.length ≤ 4000 := by
  unfold scanR at h
  split at h
  · cases h
  · omega
theorem chain_text {s0 : Str} : ∀ {l : List Tok} {k : Nat}, chain s0 k l → ∀ t ∈ l, t.at' + (tokText t).length ≤ s0.length
  | [], k, _, t, ht => by simp at ht
  | a :: l, k, ⟨g, h1, h2, h3, h4⟩, t, ht => by
    rcases List.mem_cons.1 ht with rfl | q
    · exact h2
    · exact chain_text h4 t q
theorem plcP_le {toks : List Tok} {en : Nat} (h : ∀ t ∈ toks, t.at' ≤ en) (a : Nat) : plcP toks en a ≤ en := by
  unfold plcP
  split
  · rename_i t e; exact h t (List.mem_of_getElem? e)
  · exact Nat.le_refl _
/-- Where it is wrong is within the text. -/
def ErrOk (en : Nat) {α : Type} (r : PR α) : Prop := ∀ p, r = .error p → p ≤ en
theorem ErrOk.ok {en : Nat} {α : Type} (x : PS × α) : ErrOk en (.ok x) := fun p h => by cases h
theorem ErrOk.pbnd {en : Nat} {α β : Type} {r : PR α} {f : PS → α → PR β} (h1 : ErrOk en r) (h2 : ∀ s a, ErrOk en (f s a)) : ErrOk en (pbnd r f) := by
  cases r with
  | error p => exact fun q h => by cases h; exact h1 p rfl
  | ok x => exact h2 _ _
section
variable {toks : List Tok} {en : Nat}
theorem must_err (h : ∀ t ∈ toks, t.at' ≤ en) (m : Str) (s : PS) : ErrOk en (mustP toks en m s) := by
  unfold mustP
  split
  · exact .ok _
  · intro p e; cases e; exact plcP_le h _
theorem name_err (h : ∀ t ∈ toks, t.at' ≤ en) (s : PS) : ErrOk en (nameP toks en s) := by
  unfold nameP
  split
  · rename_i t e
    split
    · exact .ok _
    · intro p q; cases q; exact h t (List.mem_of_getElem? e)
  · intro p q; cases q; exact Nat.le_refl _
theorem atom_err (h : ∀ t ∈ toks, t.at' ≤ en) {alt : PS → PR Int} (ha : ∀ s, ErrOk en (alt s)) (s : PS) : ErrOk en (atomP toks en alt s) := by
  unfold atomP
  split
  · exact (ha _).pbnd fun s a => (must_err h _ _).pbnd fun _ _ => .ok _
  · split
    · intro p q; cases q; exact Nat.le_refl _
    · split
      · exact .ok _
      · exact (name_err h _).pbnd fun _ _ => .ok _
theorem items_err (h : ∀ t ∈ toks, t.at' ≤ en) {alt : PS → PR Int} (ha : ∀ s, ErrOk en (alt s)) : ∀ (k : Nat) (s : PS) (l : List Int), ErrOk en (itemsP toks en alt k s l)
  | 0, s, l => .ok _
  | k + 1, s, l => by
    unfold itemsP
    split
    · exact ((atom_err h ha s).pbnd fun _ _ => .ok _ : ErrOk en (itemP toks en alt s)).pbnd fun s n => items_err h ha k s _
    · exact .ok _
theorem altsL_err (h : ∀ t ∈ toks, t.at' ≤ en) {alt : PS → PR Int} (ha : ∀ s, ErrOk en (alt s)) : ∀ (k : Nat) (s : PS) (l : List Int), ErrOk en (altsL toks en alt k s l)
  | 0, s, l => .ok _
  | k + 1, s, l => by
    unfold altsL
    refine ((items_err h ha _ _ _).pbnd fun _ _ => .ok _ : ErrOk en (seqP toks en alt s)).pbnd fun s n => ?_
    split
    · exact altsL_err h ha k _ _
    · exact .ok _
theorem alts_err (h : ∀ t ∈ toks, t.at' ≤ en) : ∀ (f : Nat) (s : PS), ErrOk en (altsP toks en f s)
  | 0, s => fun p e => by cases e; omega
  | f + 1, s => (altsL_err h (alts_err h f) _ _ _).pbnd fun _ _ => .ok _
theorem text_err (h : ∀ t ∈ toks, t.at' ≤ en) : ∀ (k : Nat) (s : PS), ErrOk en (textL toks en k s)
  | 0, s => .ok _
  | k + 1, s => by
    unfold textL ruleP
    refine ((name_err h _).pbnd fun s u => (must_err h _ _).pbnd fun s _ => (alts_err h _ _).pbnd fun s n => (must_err h _ _).pbnd fun s _ => .ok _).pbnd fun s _ => ?_
    split
    · exact text_err h k _
    · exact .ok _
end
theorem scan_at (s : Str) : ∀ t ∈ (scanR s).1, t.at' ≤ s.length := fun t ht => by have := chain_text (scanR_chain s) t ht; omega
theorem ruRd_bad {s : Str} (h : (ruRd s).2.2 ≠ 0) : (ruRd s).1 = noTe ∧ (ruRd s).2.1 ≤ s.length := by
  unfold ruRd at h ⊢
  split
  · exact ⟨rfl, scanR_at s⟩
  · rename_i c
    rw [if_neg c] at h
    cases ht : textP (scanR s).1 s.length with
    | error p =>
      exact ⟨rfl, text_err (scan_at s) _ _ p ht⟩
    | ok x =>
      obtain ⟨st, u⟩ := x
      rw [ht] at h
      simp only at h ⊢
      split
      · exact ⟨rfl, Nat.zero_le _⟩
      · rename_i c2
        rw [if_neg c2] at h
        split
        · obtain ⟨x, _⟩ := textP_tx ht
          refine ⟨rfl, ?_⟩
          simp only
          unfold namesP
          split
          · rename_i p hp
            obtain ⟨v, hv, rfl⟩ := twiceP_mem hp
            obtain ⟨t, ht, e, _⟩ := x.given v hv
            rw [← e]; exact scan_at s t ht
          · split
            · rename_i p hp
              obtain ⟨v, hv, rfl⟩ := missP_mem hp
              obtain ⟨t, ht, e⟩ := x.used v hv
              rw [← e]; exact scan_at s t ht
            · exact Nat.zero_le _
        · rename_i c3
          rw [if_neg c3] at h
          exact absurd rfl h
/-- What is read may be. -/
theorem ruRd_good {s : Str} (h : (ruRd s).2.2 = 0) : rightP (ruRd s).1 = true ∧ (ruRd s).2.1 = 0 ∧ ∃ r, (ruRd s).1.rules.getLast? = some r ∧ r.body = ((ruRd s).1.nodes.length : Int) - 1 := by
  unfold ruRd at h ⊢
  split
  · rename_i c; rw [if_pos c] at h; exact absurd h c
  · rename_i c
    rw [if_neg c] at h
    cases ht : textP (scanR s).1 s.length with
    | error p => rw [ht] at h; simp at h
    | ok x =>
      obtain ⟨st, u⟩ := x
      rw [ht] at h
      simp only at h ⊢
      split
      · rename_i c2; rw [if_pos c2] at h; simp at h
      · rename_i c2
        rw [if_neg c2] at h
        split
        · rename_i c3; rw [if_pos c3] at h; exact absurd h c3
        · rename_i c3
          obtain ⟨x, hne⟩ := textP_tx ht
          have hn : (namesP st.given st.used).2 = 0 := by simpa using c3
          have h1 : twiceP [] st.given = none := by
            cases hh : twiceP [] st.given with
            | none => rfl
            | some p => simp [namesP, hh] at hn
          have h2 : missP (st.given.map (·.name)) st.used = none := by
            cases hh : missP (st.given.map (·.name)) st.used with
            | none => rfl
            | some p => simp [namesP, h1, hh] at hn
          have nd := twiceP_none h1 (by simp)
          have ms := missP_none h2
          rw [List.nil_append, x.names] at nd
          rw [x.names] at ms
          have hlen : s.length ≤ 4000 := scanR_ok (by simpa using c)
          have hgood := chain_good (scanR_chain s)
          have hq : ∀ t ∈ (scanR s).1, t.text.length ≤ 4000 ∧ (t.kind = 2 → t.text.length ≤ 3998) := fun t ht => by
            have := chain_text (scanR_chain s) t ht
            unfold tokText at this
            split at this
            · simp at this; omega
            · omega
          have hfine : ∀ n ∈ st.nodes, fineP ⟨st.rules, st.nodes⟩ n = true := fun n hn => fineP_of (t := ⟨st.rules, st.nodes⟩) (U := st.used) ms hgood (fun t ht h2 => (hq t ht).2 h2) (x.fine n hn)
          have htok : ∀ r ∈ st.rules, tokenT r.name 1 = true := fun r hr => by
            have : r.name ∈ st.given.map (·.name) := by rw [x.names]; exact List.mem_map.2 ⟨r, hr, rfl⟩
            obtain ⟨u, hu, e⟩ := List.mem_map.1 this
            obtain ⟨t, ht, _, k, e2⟩ := x.given u hu
            rw [← e, ← e2]
            exact tokenT_name (hgood t ht) k (hq t ht).1
          have hr := x.right ⟨st.rules, st.nodes⟩ (List.prefix_refl _) hfine nd htok
          refine ⟨?_, rfl, ?_⟩
          · unfold rightP
            simp only [Bool.and_eq_true, decide_eq_true_eq]
            exact ⟨⟨⟨List.length_pos_iff.2 hne, by omega⟩, by omega⟩, hr⟩
          · cases hl : st.rules.getLast? with
            | none => rw [List.getLast?_eq_none_iff] at hl; exact absurd hl hne
            | some r => exact ⟨r, rfl, x.body r hl⟩
end Go.Proofs.Ytdbbgkdepjidjaa.Al
namespace Go.Proofs.Ytdbbgkdepjidjaa.Al
open Go Go.RowKit
set_option linter.unusedSimpArgs false
set_option linter.unusedVariables false
attribute [-simp] List.getD_eq_getElem?_getD Int.not_lt Int.not_le List.map_take List.map_map
def utokV (u : Use) : V := tokV ⟨1, u.name, u.at'⟩
/-- Something is wrong, at this place. -/
def RdW (toks : List Tok) (en : Nat) (h : AH) (o : Nat) (p c : Nat) (σ : S4) : Prop := ∃ (a : Nat) (R : List Rl) (N : List V) (G U : List Use), plcP toks en a = p ∧ a ≤ toks.length ∧ R.length + N.length + G.length + U.length ≤ c ∧ RdO h o (.sl 3 0 (toks.map tokV)) (.bool true) a 3 (R.map rlV) N (G.map utokV) (U.map utokV) σ
theorem RdW.mono {toks : List Tok} {en : Nat} {h : AH} {o p c c' : Nat} {σ : S4} (r : RdW toks en h o p c σ) (hc : c ≤ c') : RdW toks en h o p c' σ := by
  obtain ⟨a, R, N, G, U, h1, h2, h3, h4⟩ := r
  exact ⟨a, R, N, G, U, h1, h2, by omega, h4⟩
end Go.Proofs.Ytdbbgkdepjidjaa.Al
namespace Go.Proofs.Ytdbbgkdepjidjaa.Al
open Go Go.RowKit
set_option linter.unusedSimpArgs false
set_option linter.unusedVariables false
attribute [-simp] List.getD_eq_getElem?_getD Int.not_lt Int.not_le List.map_take
theorem ruRd_sm {s : Str} : TeSm (ruRd s).1 := by
  by_cases h : (ruRd s).2.2 = 0
  · have r := rte_of (ruRd_good h).1
    have hp := r.perm.length_eq
    simp only [List.length_append, List.length_map, iotaI, List.length_range] at hp
    have n1 := r.n1
    have hk : ∀ n ∈ (ruRd s).1.nodes, n.kids.length ≤ ((ruRd s).1.nodes.flatMap (·.kids)).length := fun n hn => by
      have : n.kids.Sublist ((ruRd s).1.nodes.flatMap (·.kids)) := by
        obtain ⟨a, b, e⟩ := List.append_of_mem hn
        rw [e, List.flatMap_append, List.flatMap_cons]
        exact (List.sublist_append_left n.kids _).trans (List.sublist_append_right _ _)
      exact this.length_le
    have htl : ∀ s : Str, tokenT s 1 = true → s.length ≤ 2 ^ 30 := fun s hs => by
      refine Classical.byContradiction fun c => ?_
      unfold tokenT scanR at hs
      rw [if_pos (by omega)] at hs
      simp at hs
    refine ⟨by have := r.r1; omega, by omega, fun q hq => ?_, fun n hn => ?_, fun n hn => by have := hk n hn; omega⟩
    · exact htl q.name (r.tok q hq)
    · have := r.fine n hn
      unfold fineT at this
      split at this
      · simp only [Bool.and_eq_true, decide_eq_true_eq, rnames, List.mem_map] at this
        obtain ⟨_, q, hq, e⟩ := this
        rw [← e]; exact htl q.name (r.tok q hq)
      · split at this
        · unfold quoteT at this
          simp only [Bool.and_eq_true, decide_eq_true_eq] at this
          have := this.2.2; omega
        · simp only [Bool.and_eq_true, decide_eq_true_eq] at this
          rw [this.1]; simp
  · rw [(ruRd_bad h).1]
    exact ⟨by simp [noTe], by simp [noTe], by simp [noTe], by simp [noTe], by simp [noTe]⟩
end Go.Proofs.Ytdbbgkdepjidjaa.Al
namespace Go.Proofs.Ytdbbgkdepjidjaa.Al
open Go Go.RowKit
set_option linter.unusedSimpArgs false
set_option linter.unusedVariables false
attribute [-simp] List.getD_eq_getElem?_getD Int.not_lt Int.not_le List.map_take List.map_map List.length_flatMap
/-! ### In plain Lean -/
/-- With spaces between. -/
def spJ (l : List Str) : Str := match l with
  | [] => []
  | x :: r => x ++ r.flatMap fun y => 32 :: y
def toksT (t : Te) (r : Rl) : List Str := tokW t t.nodes.length r.body
def lineT (t : Te) (r : Rl) : Str := spJ ([r.name, [58]] ++ toksT t r ++ [[59]]) ++ [10]
def textT (t : Te) : Str := t.rules.flatMap (lineT t)
def showP (t : Te) : Str × Int := if rightP t = true then (if 4000 < (textT t).length then ([], 5) else (textT t, 0)) else ([], 1)
def toksP (t : Te) (i : Int) : List Str × Int := if rightP t = true then (if i < 0 ∨ (t.rules.length : Int) ≤ i then ([], 11) else (match t.rules[i.toNat]? with
  | some r => (toksT t r, 0)
  | none => ([], 0))) else ([], 1)
theorem lineT_eq (t : Te) (r : Rl) : lineT t r = r.name ++ [32, 58] ++ (toksT t r).flatMap (fun y => 32 :: y) ++ [32, 59, 10] := by simp [lineT, spJ]
/-- A tree whose text can be told. -/
structure TBo (t : Te) : Prop where
  ok : TOk t
  rl : t.rules.length ≤ 24
  bd : ∀ r ∈ t.rules, ∃ m : Nat, r.body = (m : Int) ∧ m < t.nodes.length
  ln : ∀ r ∈ t.rules, (lineT t r).length ≤ 2 ^ 30
  tl : ∀ r ∈ t.rules, (toksT t r).length ≤ 2 ^ 20
theorem textT_len {t : Te} (T : TBo t) (i : Nat) : ((t.rules.take i).flatMap (lineT t)).length ≤ 2 ^ 35 := by
  have key : ∀ l : List Rl, (∀ r ∈ l, (lineT t r).length ≤ 2 ^ 30) → (l.flatMap (lineT t)).length ≤ l.length * 2 ^ 30 := fun l => by
    induction l with
    | nil => simp
    | cons a l ih =>
      intro h
      have h1 := h a (by simp)
      have h2 := ih fun r hr => h r (by simp [hr])
      simp only [List.flatMap_cons, List.length_append, List.length_cons]
      omega
  have h1 := key (t.rules.take i) fun r hr => T.ln r (List.mem_of_mem_take hr)
  have h2 : (t.rules.take i).length ≤ 24 := by rw [List.length_take]; have := T.rl; omega
  omega
/-- The kind of a strings.Builder. -/
abbrev tbT : Nat := 58
abbrev u8T : Nat := 5
structure L07 (X : Cx) : Prop where
  w : LWr X
  wr : LWrR X
  ru : LRu X
  right : Has (Ecx X) K.rules_Right A.rules_Right_o
  r6 : LR6 X
  tokens : Has (Ecx X) K.show_Tokens A.show_Tokens
  text : Has (Ecx X) K.show_Text (A.show_Text)
  textR : Has (Ecx X) K.probateref07_Text A.probateref07_Text
  wstr : Has (Ecx X) K.strings_Builder_WriteString A.strings_Builder_WriteString
  len : Has (Ecx X) K.strings_Builder_Len A.strings_Builder_Len
  join : ∀ (l : List Str) (e st : Nat) (h : AH) (Q : V → AH → Prop), (l = [] ∨ e = 1) → (spJ l).length ≤ 2 ^ 40 → l.length ≤ 2 ^ 40 → Q (.str (spJ l)) h → Ecx X K.strings_Join [.sl e st (strs l), .str [32]] h Q
  copy : ∀ (o : Nat) (h : AH) (a r : V) (Q : V → AH → Prop), h.objs o = [a, r] → (a = .nilp ∨ a = .ptr o 0) → Q (.tup []) (h.set o [.ptr o 0, r]) → Ecx X K.strings_Builder_copyCheck [.tp o tbT 2] h Q
  bstr : ∀ (o : Nat) (h : AH) (a : V) (st : Nat) (l : Str) (Q : V → AH → Prop), h.objs o = [a, .tys u8T (.sl 1 st (bytesV l))] → l ≠ [] → 3 ≤ st → h.tips st = some 1 → l.length ≤ 2 ^ 40 → Q (.str l) (h.drop st) → Ecx X K.strings_Builder_String [.tp o tbT 2] h Q
section
variable {X : Cx} {h : AH} {t : Te} {Q : V → AH → Prop}
/-- A builder that holds l. -/
structure BO (h : AH) (b st : Nat) (l : Str) : Prop where
  ob : ∃ a v, h.objs b = [a, v] ∧ (a = .nilp ∨ a = .ptr b 0) ∧ ((l = [] ∧ v = .sl 0 1 [] ∧ st = 1) ∨ (l ≠ [] ∧ v = .tys u8T (.sl 1 st (bytesV l)) ∧ 3 ≤ st ∧ st < h.next ∧ h.tips st = some 1))
  lt : b < h.nobj
  lo : 3 ≤ h.next ∧ ∀ s, s ≤ 2 → h.tips s = none
theorem BO.keep {h h1 : AH} {b st o so s1 : Nat} {l : Str} (r : BO h b st l) (g : SWE h h1 o so s1) (hb : b ≠ o) (hs : so ≤ 2 ∨ so ≠ st) (lo : 3 ≤ h1.next ∧ ∀ s, s ≤ 2 → h1.tips s = none) : BO h1 b st l := by
  obtain ⟨a, v, ob, ha, m⟩ := r.ob
  refine ⟨⟨a, v, by rw [g.objs b r.lt hb]; exact ob, ha, ?_⟩, Nat.lt_of_lt_of_le r.lt g.nobj, lo⟩
  rcases m with m | ⟨m1, m2, m3, m4, m5⟩
  · exact .inl m
  · have := g.next
    exact .inr ⟨m1, m2, m3, by omega, by rw [g.tips st m4 (by omega)]; exact m5⟩
theorem bytesV_app (a b : Str) : bytesV (a ++ b) = bytesV a ++ bytesV b := by simp [bytesV]
theorem bytesV_len (a : Str) : (bytesV a).length = a.length := by simp [bytesV]
theorem bWrite (L : L07 X) {b st : Nat} {l : Str} (r : BO h b st l) (s : Str) (hs : s ≠ []) (hl : l.length + s.length ≤ 2 ^ 40) :
    ∃ h1, Det X K.strings_Builder_WriteString [.tp b tbT 2, .str s] h (.tup [.int .i64 s.length, .cval .nilIface]) h1 ∧ SWE h h1 b st h.next ∧ BO h1 b h.next (l ++ s) := by
  obtain ⟨a, v, ob, ha, m⟩ := r.ob
  have hb0 : bytesV s ≠ [] := by simpa [bytesV] using hs
  have st2 : st ≤ 2 → st = 1 := by
    rcases m with ⟨_, _, q⟩ | ⟨_, _, q, _⟩
    · exact fun _ => q
    · omega
  refine ⟨(((h.set b [.ptr b 0, v]).push st 1).set b [.ptr b 0, .tys u8T (.sl 1 h.next (bytesV (l ++ s)))]), ?_, ?_, ?_⟩
  · refine fn_any L.wstr (by simp [A.strings_Builder_WriteString]) fun wf => ?_
    simp [A.strings_Builder_WriteString]
    refine ecall (L.copy b h a _ _ ob ha ?_)
    rcases m with ⟨rfl, rfl, rfl⟩ | ⟨m1, rfl, m3, m4, m5⟩
    · simp [V.cells, hs]
      refine ⟨by omega, ?_⟩
      simp [setAt, V.cells, V.good, push_objs]
    · simp [V.cells]
      have m1 : May 1 (h.set b [.ptr b 0, .tys u8T (.sl 1 st (bytesV l))]) 1 st (bytesV l) := ⟨.inr rfl, .inr (.inr m5)⟩
      refine m1.app hb0 rfl (by simp [bytesV_len]; omega) ?_
      simp [setAt, V.cells, V.good, push_objs, bytesV_app]
  · refine ⟨by rw [set_next, push_next]; simp, by rw [set_nobj, push_nobj]; simp, fun o' _ hn => by rw [set_objs_ne _ _ _ hn, push_objs, set_objs_ne _ _ _ hn], fun k hk hn => ?_, .inr (Nat.le_refl _)⟩
    rw [set_tips]
    by_cases c : st ≤ 2
    · unfold AH.push; rw [if_pos c]; exact updN_ne _ _ (by simp; omega)
    · exact push_tips_at (by simpa using hk) (by omega)
  · refine ⟨⟨.ptr b 0, _, set_objs_same _ _ _, .inr rfl, .inr ⟨by simp [hs], rfl, r.lo.1, by rw [set_next, push_next]; simp, by rw [set_tips]; exact push_new _ _ _⟩⟩, by rw [set_nobj, push_nobj]; exact r.lt, by rw [set_next, set_tips]; exact push_low (h := h.set b [.ptr b 0, v]) r.lo _ _⟩
theorem SWE.gr {h0 h h1 : AH} {o st st1 : Nat} (G : Gr h0 h) (f : SWE h h1 o st st1) (ho : h0.nobj ≤ o) (hs : st ≤ 2 ∨ h0.next ≤ st) : Gr h0 h1 := by
  have g1 := G.next
  have g2 := G.nobj
  exact ⟨Nat.le_trans g1 f.next, Nat.le_trans g2 f.nobj, fun o' h' => (f.objs o' (by omega) (by omega)).trans (G.objs o' h'), fun s h' => (f.tips s (by omega) (by omega)).trans (G.tips s h')⟩
theorem bLen (L : L07 X) {b st : Nat} {l : Str} (r : BO h b st l) (hl : l.length ≤ 2 ^ 40) (hQ : Q (.int .i64 l.length) h) : Ecx X K.strings_Builder_Len [.tp b tbT 2] h Q := by
  obtain ⟨a, v, ob, ha, m⟩ := r.ob
  refine fn_walk L.len (by simp [A.strings_Builder_Len]) fun wf => ?_
  rcases m with ⟨rfl, rfl, rfl⟩ | ⟨m1, rfl, m3, m4, m5⟩
  · simp [A.strings_Builder_Len, ob, V.cells]
    exact fin (by simp) (by simpa using hQ)
  · simp [A.strings_Builder_Len, ob, V.cells, bytesV_len]
    exact fin (by simp) hQ
theorem wText (L : L07 X) (S : TeSm t) (T : rightP t = true → TBo t) (hQ : Q (.tup [.str (showP t).1, .int .i64 (showP t).2]) h) : Ecx X K.show_Text [teV t] h Q := by
  refine fn_walk L.text (by simp [A.show_Text]) fun wf => ?_
  have htc : teC t = [.sl 2 0 (t.rules.map rlV), .sl 3 0 (t.nodes.map ndV)] := rfl
  have htv : V.agg [.sl 2 0 (t.rules.map rlV), .sl 3 0 (t.nodes.map ndV)] = teV t := rfl
  have sr := S.r; have sn := S.n
  simp [A.show_Text, teV, htc, V.cells, V.good]
  rw [htv]
  refine ecall (ruRight_spec L.ru L.right t (by omega) (by omega) S.rn S.nn S.ks ?_)
  by_cases hr : rightP t = true
  case neg =>
    simp [hr]
    exact fin_wk ((Gr.refl h).new _) (.same _) (by simp) (by simpa [showP, hr] using hQ)
  have T := T hr
  simp [hr, fillV, fillL, setAt, V.cells, V.isAgg]
  have gr := (((Gr.refl h).new [V.sl 2 0 (List.map rlV t.rules), V.sl 3 0 (List.map ndV t.nodes)]).new [V.sl 2 0 (List.map rlV t.rules), V.sl 3 0 (List.map ndV t.nodes), V.sl 0 1 []]).new [V.nilp, V.sl 0 1 []]
  have oW : (((h.new [V.sl 2 0 (List.map rlV t.rules), V.sl 3 0 (List.map ndV t.nodes)]).new [V.sl 2 0 (List.map rlV t.rules), V.sl 3 0 (List.map ndV t.nodes), V.sl 0 1 []]).new [V.nilp, V.sl 0 1 []]).objs (h.nobj + 1) = [V.sl 2 0 (List.map rlV t.rules), V.sl 3 0 (List.map ndV t.nodes), V.sl 0 1 []] := by simp
  have bo : BO (((h.new [V.sl 2 0 (List.map rlV t.rules), V.sl 3 0 (List.map ndV t.nodes)]).new [V.sl 2 0 (List.map rlV t.rules), V.sl 3 0 (List.map ndV t.nodes), V.sl 0 1 []]).new [V.nilp, V.sl 0 1 []]) (h.nobj + 2) 1 [] :=
    ⟨⟨.nilp, _, by simp, .inl rfl, .inl ⟨rfl, rfl, rfl⟩⟩, by simp, by simpa using wf.lo⟩
  have nb : (((h.new [V.sl 2 0 (List.map rlV t.rules), V.sl 3 0 (List.map ndV t.nodes)]).new [V.sl 2 0 (List.map rlV t.rules), V.sl 3 0 (List.map ndV t.nodes), V.sl 0 1 []]).new [V.nilp, V.sl 0 1 []]).nobj = h.nobj + 3 := by simp
  generalize (((h.new [V.sl 2 0 (List.map rlV t.rules), V.sl 3 0 (List.map ndV t.nodes)]).new [V.sl 2 0 (List.map rlV t.rules), V.sl 3 0 (List.map ndV t.nodes), V.sl 0 1 []]).new [V.nilp, V.sl 0 1 []]) = h1 at *
  have trl := T.rl
  refine loopI (n := t.rules.length) (fun m env h' => ∃ k st v, k ≤ t.rules.length ∧ m = t.rules.length - k ∧ Gr h h' ∧ BO h' (h.nobj + 2) st ((t.rules.take k).flatMap (lineT t)) ∧ (st ≤ 2 ∨ h.next ≤ st) ∧ h'.objs (h.nobj + 1) = [V.sl 2 0 (List.map rlV t.rules), V.sl 3 0 (List.map ndV t.nodes), v] ∧ h.nobj + 3 ≤ h'.nobj ∧
    env = [(4, .ptr (h.nobj + 1) 0), (5, .tp (h.nobj + 2) tbT 2), (15, .sl 2 0 (t.rules.map rlV)), (16, .int .i64 t.rules.length), (17, .int .i64 k)]) ?_ ⟨0, 1, _, by omega, by omega, gr, by simpa using bo, .inl (by omega), oW, by omega, rfl⟩
  rintro m env h2 ⟨k, st, v, hk, rfl, g2, bo2, hst, oW2, nb2, rfl⟩
  unfold A.show_Text.L0
  have hl1 := textT_len T k
  by_cases hlt : k < t.rules.length
  · have hlt' : (k : Int) < t.rules.length := by omega
    have hg : (t.rules.map rlV).getD k .undef = rlV t.rules[k] := Enc.getD hlt
    have hw1 : IntKind.i64.wrap ((k : Int) + 1) = ((k + 1 : Nat) : Int) := by rw [wrap_i64 (by omega) (by omega)]; rfl
    have hmem := List.getElem_mem hlt
    obtain ⟨b, e1, e2⟩ := T.bd _ hmem
    have hln := T.ln _ hmem
    have htl := T.tl _ hmem
    have htk : (t.rules.take (k + 1)).flatMap (lineT t) = (t.rules.take k).flatMap (lineT t) ++ lineT t t.rules[k] := by rw [List.take_succ_eq_append_getElem hlt, List.flatMap_append]; simp
    have htd : toksT t t.rules[k] = tokW t t.nodes.length b := by unfold toksT; rw [e1]
    have hrv : rlV t.rules[k] = .agg [.str t.rules[k].name, .int .i64 b] := by rw [← e1]; rfl
    rw [hrv] at hg
    have hlt2 : lineT t t.rules[k] = spJ ([t.rules[k].name, [58]] ++ tokW t t.nodes.length b ++ [[59]]) ++ [10] := by unfold lineT; rw [htd]
    rw [hlt2] at hln htk
    rw [htd] at htl
    generalize t.rules[k].name = name at *
    generalize hout : (t.rules.take k).flatMap (lineT t) = out at *
    have q1 : ¬ h.nobj + 1 = h2.nobj := by omega
    have q2 : ¬ h.nobj + 2 = h.nobj + 1 := by omega
    have q3 : ¬ h2.nobj = h.nobj + 1 := by omega
    -- the writer anew
    generalize hA : (h2.set (h.nobj + 1) [V.sl 2 0 (List.map rlV t.rules), V.sl 3 0 (List.map ndV t.nodes), V.sl 0 1 []]).new [.str name, .int .i64 b] = hA'
    have gA : SWE h2 hA' (h.nobj + 1) 1 1 := by rw [← hA]; exact ((SWE.refl h2 _ 1).set (.inl rfl) _).new _
    have loA : 3 ≤ hA'.next ∧ ∀ s, s ≤ 2 → hA'.tips s = none := by rw [← hA]; simpa using bo2.lo
    have wA : WrO hA' (h.nobj + 1) t 1 [] := ⟨⟨0, by rw [← hA]; simp [strs, q1], ⟨.inl rfl, .inl rfl⟩⟩, by rw [← hA]; simp; omega, loA, .inl (by omega)⟩
    have oR : hA'.objs h2.nobj = [.str name, .int .i64 b] := by rw [← hA]; simp
    have nA : hA'.nobj = h2.nobj + 1 := by rw [← hA]; simp
    obtain ⟨h3, d3, g3, w3⟩ := wPut L.w wA [name, [58]] (by simp) (by simp) (st2 := 2)
    obtain ⟨h4, st4, d4, g4, w4⟩ := wNode L.w T.ok t.nodes.length h3 _ _ _ b w3 e2 e2 (by simp; omega)
    obtain ⟨h5, d5, g5, w5⟩ := wPut L.w w4 [[59]] (by simp) (by simp; omega) (st2 := 2)
    have gall := gA.trans (g3.trans (g4.trans g5))
    have bo5 := bo2.keep gall q2 (.inl (by omega)) w5.lo
    obtain ⟨e5, ob5, m5⟩ := w5.ob
    simp only [List.nil_append] at ob5 m5
    generalize hline : [name, [58]] ++ tokW t t.nodes.length b ++ [[59]] = line at *
    have hll : line.length ≤ 2 ^ 40 := by rw [← hline]; simp; omega
    have hsl : (spJ line).length ≤ 2 ^ 30 := by rw [List.length_append] at hln; omega
    obtain ⟨h6, d6, g6, bo6⟩ := bWrite L bo5 (spJ line ++ [10]) (by simp) (by simp; omega)
    have nA5 := gall.nobj
    have oR3 : h3.objs h2.nobj = [.str name, .int .i64 b] := by rw [g3.objs _ (by omega) q3]; exact oR
    have G5 := SWE.gr g2 gall (by omega) (.inl (by omega))
    have G6 := SWE.gr G5 g6 (by omega) hst
    have oW6 : h6.objs (h.nobj + 1) = _ := (g6.objs _ w5.lt (by omega)).trans ob5
    have nA6 := g6.nobj
    simp [hlt', hg, V.cells, V.good, setAt, oW2, q1, q3]
    rw [hA]
    refine ecall (d3.to ?_)
    simp [oR3, V.cells]
    refine ecall (d4.to ?_)
    simp [fillL]
    refine ecall (d5.to ?_)
    simp [ob5, V.cells]
    refine ecall (L.join line e5 _ _ _ (by rcases m5.el with q | q
                                           · exact .inl (by simpa [strs] using q)
                                           · exact .inr q) (by omega) hll ?_)
    simp
    refine ⟨by omega, ?_⟩
    refine ecall (d6.to ?_)
    simp [hw1, -Int.natCast_add]
    refine ⟨t.rules.length - (k + 1), by omega, iv ⟨k + 1, h5.next, .sl e5 h4.next (strs line), by omega, rfl, G6, ?_, ?_, oW6, by omega, rfl⟩⟩
    · rw [htk]; exact bo6
    · have := G5.next; omega
  · have hlt' : ¬ (k : Int) < t.rules.length := by omega
    obtain rfl : k = t.rules.length := by omega
    rw [List.take_length] at *
    change BO h2 (h.nobj + 2) st (textT t) at bo2
    change (textT t).length ≤ 2 ^ 35 at hl1
    obtain ⟨a, v2, ob, ha, m⟩ := bo2.ob
    simp [hlt']
    refine ecall (bLen L bo2 (by omega) ?_)
    by_cases c : 4000 < (textT t).length
    · have c' : (4000 : Int) < (textT t).length := by omega
      simp [c', c]
      exact fin_wk g2 (.same _) (by simp) (by simpa [showP, hr, c] using hQ)
    · have c' : ¬ (4000 : Int) < (textT t).length := by omega
      simp [c', c]
      have hne : textT t ≠ [] := by
        intro q
        have h0 : 0 < t.rules.length := by
          have := hr
          unfold rightP at this
          simp only [Bool.and_eq_true, decide_eq_true_eq] at this
          exact this.1.1.1
        have h1 : lineT t t.rules[0] = [] := by
          have : ∀ r ∈ t.rules, lineT t r = [] := by simpa [textT] using q
          exact this _ (List.getElem_mem h0)
        simp [lineT] at h1
      rcases m with ⟨m1, _⟩ | ⟨m1, rfl, m3, m4, m5⟩
      · exact absurd m1 hne
      refine ecall (L.bstr (h.nobj + 2) h2 a st (textT t) _ ob hne m3 m5 (by omega) ?_)
      simp
      refine fin_wk (h1 := h2.drop st) ?_ (.same _) (by simp) (by simpa [showP, hr, c] using hQ)
      refine ⟨g2.next, g2.nobj, g2.objs, fun s hs => ?_⟩
      rw [← g2.tips s hs]
      exact updN_ne _ _ (by omega)
theorem wTokens (L : L07 X) (S : TeSm t) (T : rightP t = true → TBo t) (i : Int) (hQ : Q (.tup [.sl 1 0 (strs (toksP t i).1), .int .i64 (toksP t i).2]) h) : Ecx X K.show_Tokens [teV t, .int .i64 i] h Q := by
  refine fn_walk L.tokens (by simp [A.show_Tokens]) fun wf => ?_
  have htc : teC t = [.sl 2 0 (t.rules.map rlV), .sl 3 0 (t.nodes.map ndV)] := rfl
  have htv : V.agg [.sl 2 0 (t.rules.map rlV), .sl 3 0 (t.nodes.map ndV)] = teV t := rfl
  have sr := S.r; have sn := S.n
  have wk0 : Wk (.sl 0 1 []) (.sl 1 0 (strs [])) := .nil _ _ _
  simp [A.show_Tokens, teV, htc, V.cells, V.good]
  rw [htv]
  refine ecall (ruRight_spec L.ru L.right t (by omega) (by omega) S.rn S.nn S.ks ?_)
  by_cases hr : rightP t = true
  case neg =>
    simp [hr]
    exact fin_wk ((Gr.refl h).new _) (wk0.t2 _) (by simp [strs]) (by simpa [toksP, hr] using hQ)
  have T := T hr
  by_cases c1 : i < 0
  · simp [hr, c1]
    exact fin_wk ((Gr.refl h).new _) (wk0.t2 _) (by simp [strs]) (by simpa [toksP, hr, c1] using hQ)
  by_cases c2 : (t.rules.length : Int) ≤ i
  · simp [hr, c1, c2]
    exact fin_wk ((Gr.refl h).new _) (wk0.t2 _) (by simp [strs]) (by simpa [toksP, hr, c1, c2] using hQ)
  obtain ⟨k, rfl⟩ : ∃ k : Nat, i = (k : Int) := ⟨i.toNat, by omega⟩
  have hlt : k < t.rules.length := by omega
  have hlt' : (k : Int) < t.rules.length := by omega
  have hg : (t.rules.map rlV).getD k .undef = rlV t.rules[k] := Enc.getD hlt
  have hmem := List.getElem_mem hlt
  obtain ⟨b, e1, e2⟩ := T.bd _ hmem
  have htl := T.tl _ hmem
  have htd : toksT t t.rules[k] = tokW t t.nodes.length b := by unfold toksT; rw [e1]
  have hrv : rlV t.rules[k] = .agg [.str t.rules[k].name, .int .i64 b] := by rw [← e1]; rfl
  rw [hrv] at hg
  have hp : toksP t (k : Int) = (tokW t t.nodes.length b, 0) := by simp [toksP, hr, c1, c2, hlt, htd]
  rw [hp] at hQ
  rw [htd] at htl
  simp only at hQ
  generalize hA : (h.new [V.sl 2 0 (List.map rlV t.rules), V.sl 3 0 (List.map ndV t.nodes)]).new [V.sl 2 0 (List.map rlV t.rules), V.sl 3 0 (List.map ndV t.nodes), V.sl 0 1 []] = hA'
  have gA : Gr h hA' := by rw [← hA]; exact ((Gr.refl h).new _).new _
  have wA : WrO hA' (h.nobj + 1) t 1 [] := ⟨⟨0, by rw [← hA]; simp [strs], ⟨.inl rfl, .inl rfl⟩⟩, by rw [← hA]; simp, by rw [← hA]; simpa using wf.lo, .inl (by omega)⟩
  have oA : hA'.objs h.nobj = [V.sl 2 0 (List.map rlV t.rules), V.sl 3 0 (List.map ndV t.nodes)] := by rw [← hA]; simp
  obtain ⟨h4, st4, d4, g4, w4⟩ := wNode L.w T.ok t.nodes.length hA' _ _ _ b wA e2 e2 (by simp; omega)
  obtain ⟨e5, ob5, m5⟩ := w4.ob
  simp only [List.nil_append] at ob5 m5
  simp [hr, c1, c2, fillV, fillL, setAt, V.cells, V.isAgg, V.good, hlt', hg]
  rw [hA]
  refine ecall (d4.to ?_)
  simp [ob5, V.cells]
  refine fin_wk (SWE.gr gA g4 (by omega) (.inl (by omega))) (r := .tup [.sl 1 0 (strs (tokW t t.nodes.length b)), .int .i64 0]) (Wk.t2 ?_ _) ?_ hQ
  · rcases m5.el with q | q
    · have : tokW t t.nodes.length b = [] := by simpa [strs] using q
      rw [this]; exact .nil _ _ _
    · rw [q]; exact .sl _ _ _
  · simp only [Bdd_tup, List.mem_cons, List.not_mem_nil, or_false]
    rintro v (rfl | rfl)
    · exact .sl _ _ _ (by omega) (Bdd_strs _ _ _)
    · simp
end
end Go.Proofs.Ytdbbgkdepjidjaa.Al
namespace Go.Proofs.Ytdbbgkdepjidjaa.Al
open Go Go.RowKit
set_option linter.unusedSimpArgs false
set_option linter.unusedVariables false
attribute [-simp] List.length_flatMap
section
variable {t : Te}
theorem tokenT_len {s : Str} {k : Nat} (h : tokenT s k = true) : s.length ≤ 4000 := by
  unfold tokenT at h
  refine Classical.byContradiction fun c => ?_
  have : scanR s = ([], 0, 5) := by unfold scanR; rw [if_pos (by omega)]
  rw [this] at h
  simp at h
theorem name_len (R : RTe t) : ∀ x ∈ t.nodes, x.name.length ≤ 4000 := fun x hx => by
  have hf := R.fine x hx
  unfold fineT at hf
  split at hf
  · simp only [Bool.and_eq_true, decide_eq_true_eq] at hf
    obtain ⟨r, hr, e⟩ := List.mem_map.1 hf.2
    rw [← e]; exact tokenT_len (R.tok r hr)
  · split at hf
    · simp only [Bool.and_eq_true] at hf
      have := hf.2
      unfold quoteT at this
      simp only [Bool.and_eq_true, decide_eq_true_eq] at this
      omega
    · simp only [Bool.and_eq_true, decide_eq_true_eq] at hf
      rw [hf.1]; simp
theorem kind_fine (R : RTe t) : ∀ x ∈ t.nodes, x.kind = 6 ∨ x.kind = 7 ∨ x.kind = 1 ∨ x.kind = 2 ∨ (3 ≤ x.kind ∧ x.kind ≤ 5 ∧ x.kids.length = 1) := fun x hx => by
  have hf := R.fine x hx
  unfold fineT at hf
  split at hf
  · rename_i c; exact .inl c
  · split at hf
    · rename_i c; exact .inr (.inl c)
    · simp only [Bool.and_eq_true, Bool.or_eq_true, decide_eq_true_eq] at hf
      obtain ⟨_, (⟨h1, h2⟩ | ⟨h1, h2⟩) | ⟨⟨h1, h2⟩, h3⟩⟩ := hf
      · exact .inr (.inr (.inl h1))
      · exact .inr (.inr (.inr (.inl h1)))
      · exact .inr (.inr (.inr (.inr ⟨h1, h2, h3⟩)))
/-- Every token is short. -/
theorem brk_mem {l : List Str} {s : Str} (h : s ∈ brk l) : s ∈ l ∨ s.length = 1 := by
  simp only [brk, List.mem_cons, List.mem_append, List.not_mem_nil, or_false] at h
  rcases h with h | h | h
  · right; rw [h]; rfl
  · exact .inl h
  · right; rw [h]; rfl
theorem eachW_mem {sep : List Str} {one : Int → List Str} {l : List Int} {s : Str} (h : s ∈ eachW sep one l) : s ∈ sep ∨ ∃ k ∈ l, s ∈ one k := by
  cases l with
  | nil => simp [eachW] at h
  | cons a l =>
    simp only [eachW, List.mem_append, List.mem_flatMap] at h
    rcases h with h | ⟨k, hk, h | h⟩
    · exact .inr ⟨a, by simp, h⟩
    · exact .inl h
    · exact .inr ⟨k, by simp [hk], h⟩
theorem tokW_short (hn : ∀ x ∈ t.nodes, x.name.length ≤ 4000) : ∀ (f : Nat) (n : Int), ∀ s ∈ tokW t f n, s.length ≤ 4002
  | 0, n, s, h => by simp [tokW] at h
  | f + 1, n, s, h => by
    have ih := tokW_short hn f
    have ha : ∀ n, ∀ s ∈ atomW t (tokW t f) n, s.length ≤ 4002 := fun n s h => by
      unfold atomW at h
      split at h
      · exact ih n s h
      · rcases brk_mem h with h | h
        · exact ih n s h
        · omega
    have hi : ∀ n, ∀ s ∈ itemW t (tokW t f) n, s.length ≤ 4002 := fun n s h => by
      unfold itemW at h
      split at h
      · exact ih n s h
      · exact ha n s h
    have hl : ∀ n, ∀ s ∈ altW t (tokW t f) n, s.length ≤ 4002 := fun n s h => by
      unfold altW at h
      split at h
      · exact ih n s h
      · exact hi n s h
    rw [tokW] at h
    split at h
    · simp at h
    · rename_i x hx
      have hm := hn x (List.mem_of_getElem? hx)
      split at h
      · simp at h; rw [h]; omega
      split at h
      · simp at h; rw [h]; simp; omega
      split at h
      · rcases eachW_mem h with h | ⟨k, _, h⟩
        · simp at h
        · exact hi k s h
      split at h
      · rcases eachW_mem h with h | ⟨k, _, h⟩
        · simp at h; rw [h]; simp
        · exact hl k s h
      · rcases List.mem_append.1 h with h | h
        · exact ha _ s h
        · simp at h; rw [h]; unfold markW; repeat' split
          all_goals simp
/-- How many nodes lie below. -/
def szW (t : Te) : Nat → Int → Nat
  | 0, _ => 1
  | f + 1, n => match t.nodes[n.toNat]? with
    | none => 1
    | some x => 1 + (x.kids.map (szW t f)).sum
theorem szW_fuel (hlt : ∀ i (h : i < t.nodes.length), ∀ k ∈ t.nodes[i].kids, 0 ≤ k ∧ k < i) : ∀ (f f' n : Nat), n < f → n < f' → n < t.nodes.length → szW t f n = szW t f' n
  | 0, f', n, h, _, _ => by omega
  | f + 1, 0, n, _, h, _ => by omega
  | f + 1, f' + 1, n, h1, h2, h3 => by
    rw [szW, szW]
    simp only [Int.toNat_natCast, List.getElem?_eq_getElem h3]
    congr 2
    refine List.map_congr_left fun k hk => ?_
    obtain ⟨a, b⟩ := hlt n h3 k hk
    obtain ⟨m, rfl⟩ : ∃ m : Nat, k = (m : Int) := ⟨k.toNat, by omega⟩
    exact szW_fuel hlt f f' m (by omega) (by omega) (by omega)
theorem sum_le {α : Type} (g k : α → Nat) (c : Nat) : ∀ (l : List α), (∀ a ∈ l, g a ≤ k a + c) → (l.map g).sum ≤ (l.map k).sum + c * l.length
  | [], _ => by simp
  | a :: l, h => by
    have h1 := h a (by simp)
    have h2 := sum_le g k c l fun b hb => h b (by simp [hb])
    simp only [List.map_cons, List.sum_cons, List.length_cons, Nat.mul_add, Nat.mul_one]; omega
theorem eachW_sum (sep : List Str) (one : Int → List Str) (l : List Int) : (eachW sep one l).length + (if l = [] then 0 else sep.length) = (l.map fun k => (one k).length + sep.length).sum := by
  cases l with
  | nil => simp [eachW]
  | cons a l =>
    have : (l.flatMap fun k => sep ++ one k).length = (l.map fun k => (one k).length + sep.length).sum := by
      induction l with
      | nil => simp
      | cons b l ih => simp only [List.flatMap_cons, List.length_append, List.map_cons, List.sum_cons, ih]; omega
    simp only [eachW, List.length_append, this, List.map_cons, List.sum_cons]
    rw [if_neg (by simp)]; omega
theorem tokW_sz (T : ∀ x ∈ t.nodes, x.kind = 6 ∨ x.kind = 7 ∨ x.kind = 1 ∨ x.kind = 2 ∨ (3 ≤ x.kind ∧ x.kind ≤ 5 ∧ x.kids.length = 1)) : ∀ (f : Nat) (n : Int), (tokW t f n).length + 3 ≤ 4 * szW t f n
  | 0, n => by simp [tokW, szW]
  | f + 1, n => by
    have ih := tokW_sz T f
    have ha : ∀ n, (atomW t (tokW t f) n).length + 1 ≤ 4 * szW t f n := fun n => by
      have := ih n
      unfold atomW
      split
      · omega
      · rw [brk_len]; omega
    have hi : ∀ n, (itemW t (tokW t f) n).length + 1 ≤ 4 * szW t f n := fun n => by
      have := ih n
      unfold itemW
      split
      · omega
      · exact ha n
    have hl : ∀ n, (altW t (tokW t f) n).length + 1 ≤ 4 * szW t f n := fun n => by
      have := ih n
      unfold altW
      split
      · omega
      · exact hi n
    have h4 : ∀ l : List Int, (l.map fun k => 4 * szW t f k).sum = 4 * (l.map (szW t f)).sum := fun l => by
      induction l with
      | nil => simp
      | cons a l ih => simp only [List.map_cons, List.sum_cons, ih]; omega
    cases hx : t.nodes[n.toNat]? with
    | none => rw [tokW, szW, hx]; simp
    | some x =>
      rw [tokW, szW, hx]
      simp only
      have hk := T x (List.mem_of_getElem? hx)
      split
      · simp; omega
      split
      · simp; omega
      split
      · have e := eachW_sum [] (itemW t (tokW t f)) x.kids
        have s := sum_le (fun k => (itemW t (tokW t f) k).length + ([] : List Str).length) (fun k => 4 * szW t f k) 0 x.kids (fun a _ => by have := hi a; simp; omega)
        rw [h4] at s
        simp at e s ⊢
        omega
      split
      · have e := eachW_sum [[124]] (altW t (tokW t f)) x.kids
        have s := sum_le (fun k => (altW t (tokW t f) k).length + ([[124]] : List Str).length) (fun k => 4 * szW t f k) 0 x.kids (fun a _ => by have := hl a; simp; omega)
        rw [h4] at s
        have : (if x.kids = [] then 0 else ([[124]] : List Str).length) ≤ 1 := by split <;> simp
        simp only [Nat.zero_mul, Nat.add_zero] at s
        omega
      · obtain ⟨k1, k2, k3⟩ : 3 ≤ x.kind ∧ x.kind ≤ 5 ∧ x.kids.length = 1 := by omega
        obtain ⟨k, hk⟩ := List.length_eq_one_iff.1 k3
        rw [hk]
        have := ha k
        simp; omega
theorem runS_sz (hlt : ∀ i (h : i < t.nodes.length), ∀ k ∈ t.nodes[i].kids, 0 ≤ k ∧ k < i) : ∀ (k a : Nat) (st st' : List Int), runS t k a st = some st' → (∀ x ∈ st, 0 ≤ x ∧ x < (a : Int)) →
    (st'.map (szW t t.nodes.length)).sum = (st.map (szW t t.nodes.length)).sum + k ∧ (∀ x ∈ st', 0 ≤ x ∧ x < ((a + k : Nat) : Int)) ∧ (0 < k → st'.getLast? = some ((a + k - 1 : Nat) : Int))
  | 0, a, st, st', h, hb => by simp [runS] at h; subst h; exact ⟨by simp, by simpa using hb, fun q => by omega⟩
  | k + 1, a, st, st', h, hb => by
    rw [runS] at h
    cases hst : stpS t a st with
    | none => rw [hst] at h; cases h
    | some s2 =>
      rw [hst] at h
      unfold stpS at hst
      split at hst
      · rename_i nd hnd
        obtain ⟨ha, rfl⟩ := List.getElem?_eq_some_iff.1 hnd
        split at hst
        · rename_i c
          obtain ⟨c1, c2, c3⟩ := c
          obtain rfl := Option.some.inj hst
          obtain ⟨q1, q2, q3⟩ := runS_sz hlt k (a + 1) _ _ h (fun x hx => by
            rcases List.mem_append.1 hx with q | q
            · have := hb x (List.mem_of_mem_take q); omega
            · rw [List.mem_singleton] at q; omega)
          have e1 : (st.map (szW t t.nodes.length)).sum = ((st.take (st.length - t.nodes[a].kids.length)).map (szW t t.nodes.length)).sum + (t.nodes[a].kids.map (szW t t.nodes.length)).sum := by
            conv => lhs; rw [← List.take_append_drop (st.length - t.nodes[a].kids.length) st, c3]
            simp
          have e2 : szW t t.nodes.length a = 1 + (t.nodes[a].kids.map (szW t t.nodes.length)).sum := by
            rw [szW_fuel hlt t.nodes.length (t.nodes.length + 1) a ha (by omega) ha, szW]
            simp only [Int.toNat_natCast, List.getElem?_eq_getElem ha]
          refine ⟨?_, fun x hx => by have := q2 x hx; omega, fun _ => ?_⟩
          · rw [q1, e1]
            simp only [List.map_append, List.sum_append, List.map_cons, List.map_nil, List.sum_cons, List.sum_nil]
            omega
          · by_cases k0 : 0 < k
            · rw [q3 k0]; congr 2; omega
            · obtain rfl : k = 0 := by omega
              simp [runS] at h
              rw [← h]; simp
        · cases hst
      · cases hst
theorem rightS_sz (hlt : ∀ i (h : i < t.nodes.length), ∀ k ∈ t.nodes[i].kids, 0 ≤ k ∧ k < i) : ∀ (rs : List Rl) (seen : List Str) (a b : Nat), rightS t rs seen a = some b → ∀ r ∈ rs, ∃ m : Nat, r.body = (m : Int) ∧ m < t.nodes.length ∧ szW t t.nodes.length m ≤ t.nodes.length
  | [], seen, a, b, h, r, hr => by simp at hr
  | q :: rs, seen, a, b, h, r, hr => by
    unfold rightS at h
    split at h
    · rename_i c
      obtain ⟨c1, c2, c3, c4⟩ := c
      split at h
      · rename_i v hv
        rcases List.mem_cons.1 hr with rfl | hr
        · obtain ⟨s1, s2, s3⟩ := runS_sz hlt _ _ _ _ hv (by simp)
          have s3 := s3 (by omega)
          simp at s3 s1
          refine ⟨r.body.toNat, by omega, by omega, ?_⟩
          have e : v = ((r.body.toNat : Nat) : Int) := by omega
          rw [← e, s1]; omega
        · exact rightS_sz hlt rs _ _ _ h r hr
      · cases h
    · cases h
theorem spJ_len (B : Nat) : ∀ (l : List Str), (∀ s ∈ l, s.length ≤ B) → (l.flatMap fun y => (32 : UInt8) :: y).length ≤ (B + 1) * l.length
  | [], _ => by simp
  | a :: l, h => by
    have h1 := h a (by simp)
    have h2 := spJ_len B l fun s hs => h s (by simp [hs])
    simp only [List.flatMap_cons, List.length_append, List.length_cons, Nat.mul_add, Nat.mul_one]; omega
theorem tbo_of (h : rightP t = true) (S : TeSm t) : TBo t := by
  have R := rte_of h
  have hk := kind_fine R
  have hr := h
  unfold rightP at hr
  simp only [Bool.and_eq_true, decide_eq_true_eq] at hr
  have hb := rightS_sz R.lt _ _ _ _ hr.2
  have hn1 := R.n1
  have tl : ∀ r ∈ t.rules, (toksT t r).length ≤ 800 := fun r hr => by
    obtain ⟨m, e1, e2, e3⟩ := hb r hr
    unfold toksT
    rw [e1]
    have := tokW_sz hk t.nodes.length m
    omega
  refine ⟨⟨R.lt, fun x hx => by have := name_len R x hx; omega, fun x hx => S.ks x hx, hk, by omega⟩, R.r1, fun r hr => ?_, fun r hr => ?_, fun r hr => by have := tl r hr; omega⟩
  · obtain ⟨m, e1, e2, _⟩ := hb r hr
    exact ⟨m, e1, e2⟩
  · have h1 := tl r hr
    have h2 := spJ_len 4002 (toksT t r) (tokW_short (name_len R) _ _)
    have h3 := tokenT_len (R.tok r hr)
    rw [lineT_eq]
    simp only [List.length_append, List.length_cons, List.length_nil]
    have : 4003 * (toksT t r).length ≤ 4003 * 800 := Nat.mul_le_mul_left _ h1
    omega
end
end Go.Proofs.Ytdbbgkdepjidjaa.Al
namespace Go.Proofs.Ytdbbgkdepjidjaa.Al
open Go Go.RowKit
set_option linter.unusedSimpArgs false
set_option linter.unusedVariables false
attribute [-simp] List.getD_eq_getElem?_getD Int.not_lt Int.not_le List.map_take List.map_map
structure L07L (X : Cx) : Prop where
  l : L07 X
  large : Has (Ecx X) K.probatelaw06_Large A.probatelaw06_Large
  own : Has (Ecx X) K.probatelaw06_Own A.probatelaw06_Own
  awake : Has (Ecx X) K.probatelaw07_awake A.probatelaw07_awake
section
variable {X : Cx} {h : AH} {Q : V → AH → Prop}
def awTe7 : Te := ⟨[⟨[115], 5⟩], [⟨7, [97], []⟩, ⟨6, [115], []⟩, ⟨1, [], [0, 1]⟩, ⟨3, [], [2]⟩, ⟨1, [], []⟩, ⟨2, [], [3, 4]⟩]⟩
def awS7 : Str := [115, 32, 58, 32, 40, 32, 39, 97, 39, 32, 115, 32, 41, 32, 42, 32, 124, 32, 59, 10]
theorem aw7_show : showP awTe7 = (awS7, 0) := by decide +kernel
theorem aw7_toks : toksP awTe7 0 = ([[40], [39, 97, 39], [115], [41], [42], [124]], 0) := by decide +kernel
theorem aw7_toks1 : toksP awTe7 1 = ([], 11) := by decide +kernel
theorem aw7_none : showP noTe = ([], 1) := by decide +kernel
theorem aw7_sm : TeSm awTe7 := ⟨by decide, by decide, by decide, by decide, by decide⟩
theorem aw7_sm0 : TeSm noTe := ⟨by decide, by decide, by decide, by decide, by decide⟩
theorem wk_awTe7 : Wk (.agg [.sl 2 2 [.agg [.str [115], .int .i64 5]], .sl 3 2 [.agg [.int .i64 7, .str [97], .sl 0 1 []], .agg [.int .i64 6, .str [115], .sl 0 1 []], .agg [.int .i64 1, .str [], .sl 1 2 [.int .i64 0, .int .i64 1]], .agg [.int .i64 3, .str [], .sl 1 2 [.int .i64 2]], .agg [.int .i64 1, .str [], .sl 0 1 []], .agg [.int .i64 2, .str [], .sl 1 2 [.int .i64 3, .int .i64 4]]]]) (teV awTe7) :=
  wk_tree (R := awTe7.rules) (l := awTe7.nodes) (.inr rfl) (.inr rfl) (.cons (.cons (.same _) (.cons (.same _) (.cons (wk_kids (kids := []) (.inl rfl)) .nil))) (.cons (.cons (.same _) (.cons (.same _) (.cons (wk_kids (kids := []) (.inl rfl)) .nil)))
      (.cons (.cons (.same _) (.cons (.same _) (.cons (wk_kids (kids := [0, 1]) (.inr rfl)) .nil))) (.cons (.cons (.same _) (.cons (.same _) (.cons (wk_kids (kids := [2]) (.inr rfl)) .nil))) (.cons (.cons (.same _) (.cons (.same _) (.cons (wk_kids (kids := []) (.inl rfl)) .nil)))
      (.cons (.cons (.same _) (.cons (.same _) (.cons (wk_kids (kids := [3, 4]) (.inr rfl)) .nil))) .nil))))))
theorem awake7_spec (L : L07L X) (hQ : Q (.bool true) h) : Ecx X K.probatelaw07_awake [] h Q := by
  refine fn_walk L.awake (by simp [A.probatelaw07_awake]) fun wf => ?_
  simp [A.probatelaw07_awake, fillL, fillV, V.isAgg, V.cells, V.good, setAt]
  refine ecall (Ecx.wkL (.cons wk_awTe7 .nil) (wText L.l aw7_sm (fun hr => tbo_of hr aw7_sm) ?_))
  rw [aw7_show]
  simp
  refine ecall (Ecx.wkL (.cons wk_awTe7 (.cons (.same _) .nil)) (wTokens L.l aw7_sm (fun hr => tbo_of hr aw7_sm) 0 ?_))
  rw [aw7_toks]
  have hN : Wk (V.agg [V.sl 0 1 [], V.sl 0 1 []]) (teV noTe) := wk_tree (R := []) (l := []) (.inl rfl) (.inl rfl) .nil
  simp
  refine ecall (Ecx.wkL (.cons hN .nil) (wText L.l aw7_sm0 (fun hr => tbo_of hr aw7_sm0) ?_))
  rw [aw7_none]
  simp
  refine ecall (Ecx.wkL (.cons wk_awTe7 (.cons (.same _) .nil)) (wTokens L.l aw7_sm (fun hr => tbo_of hr aw7_sm) 1 ?_))
  rw [aw7_toks1]
  simp [awS7, strs, V.cells]
  exact fin_wk ((Gr.refl h).new _) (.same _) (by simp) hQ
end
end Go.Proofs.Ytdbbgkdepjidjaa.Al
namespace Go.Proofs.Ytdbbgkdepjidjaa.Al
open Go
def yK : Keys := ⟨fun k => ([0, 0, 1, 2, 0, 0, 0, 0, 0, 0, 0, 0, 0, 0, 0, 0, 0, 0, 0, 0, 0, 0, 0, 0, 0, 0, 0, 0, 0, 0, 0, 0, 0, 0, 0, 0, 0, 0, 0, 0, 0, 0, 0, 0, 0, 0, 0, 0, 0, 32, 23, 0, 0, 0, 0, 0, 0, 0, 0, 0, 0, 0, 0, 0, 0, 0, 0, 0, 0, 0, 0, 0, 0, 0, 0, 0, 0, 0, 0, 0, 0, 0, 0, 0, 0, 0, 0, 54, 46, 47, 0, 0, 0, 0, 0, 0, 0, 0, 0, 0, 0, 0, 61, 62, 63, 64, 65, 66, 0, 0, 0, 0, 0, 0, 0, 71, 72, 0, 78, 79, 83, 84, 85, 86, 87, 88, 89, 90, 91, 92, 93, 94, 95, 96, 97, 98, 99, 100, 101, 102, 104, 0, 0, 0, 0, 0, 0, 0, 0, 0, 0, 0, 3, 4, 5, 0, 0, 0, 0, 0, 0, 0, 0, 0, 0, 0, 0, 0, 0, 0, 0, 0, 0, 0, 0, 0, 0, 0, 0, 0, 0, 0, 0, 0, 0, 7, 0, 0, 10, 0, 0, 14, 0, 15, 0, 0, 12, 16, 6, 8, 9, 11, 13, 0, 0, 0, 0, 0, 0, 0, 31, 0, 0, 0, 0, 0, 0, 0, 0, 0, 0, 0, 0, 0, 0, 0, 0, 0, 0, 0, 0, 0, 0, 0, 0, 0, 0, 0, 0, 0, 0, 0, 0, 0, 0, 0, 0, 0, 0, 0, 27, 28, 29, 30, 33, 34, 0, 0, 0, 24, 25, 35, 36, 37, 17, 18, 19, 20, 21, 22, 26, 0, 0, 0, 0, 0, 0, 0, 0, 0, 0, 0, 0, 0, 0, 0, 0, 0, 0, 0, 0, 0, 0, 0, 0, 0, 0, 0, 0, 0, 0, 0, 51, 52, 53, 55, 56, 0, 0, 0, 48, 49, 38, 39, 40, 41, 42, 43, 44, 45, 50, 0, 0, 0, 0, 0, 0, 0, 0, 0, 60, 67, 68, 69, 0, 57, 58, 59, 0, 0, 0, 73, 74, 75, 76, 77, 70, 80, 81, 82, 103, 0, 0, 0, 0, 0, 0, 0, 0, 0, 0, 0, 0, 0, 0, 0, 0, 0, 0, 0, 0, 0, 0, 0, 0, 0, 0, 0, 0, 0, 0, 0, 0, 0, 0, 0, 0, 0, 0, 0, 0, 0, 0, 0, 0, 0, 0, 0, 0, 0, 0, 0, 0, 0, 0, 0, 0, 0, 0, 0, 0, 0, 0, 0, 0, 0, 0, 0] : List Nat).getD k 0, fun k => ([1, 2, 3, 152, 153, 154, 198, 185, 199, 200, 188, 201, 196, 202, 191, 193, 197, 264, 265, 266, 267, 268, 269, 50, 259, 260, 270, 250, 251, 252, 253, 210, 49, 254, 255, 261, 262, 263, 312, 313, 314, 315, 316, 317, 318, 319, 88, 89, 310, 311, 320, 302, 303, 304, 87, 305, 306, 335, 336, 337, 330, 102, 103, 104, 105, 106, 107, 331, 332, 333, 346, 115, 116, 341, 342, 343, 344, 345, 118, 119, 347, 348, 349, 120, 121, 122, 123, 124, 125, 126, 127, 128, 129, 130, 131, 132, 133, 134, 135, 136, 137, 138, 139, 350, 140] : List Nat).getD k 0, fun k => ([33, 34, 35, 37, 38, 39, 40, 45, 81, 82, 83, 85, 94, 95, 108, 109, 202, 242, 243, 244, 248, 249, 259, 270, 289, 290, 292, 294, 300, 301, 317, 320] : List Nat).contains k, fun _ => false⟩
noncomputable abbrev cxZ (W0 : World) (Z : Value → AH → Prop) : Cx := ⟨Try.prog, yK.tbl, W0, Z⟩
noncomputable abbrev cxOf (W0 : World) : Cx := cxZ W0 fun _ _ => False
end Go.Proofs.Ytdbbgkdepjidjaa.Al
namespace Go.Proofs.Ytdbbgkdepjidjaa.Al
open Go
theorem tie_rules_Right : compFn Try.prog yK Try.f14 = some A.rules_Right.strip := by kernel_rfl
theorem has_rules_Right (W0 : World) {Z : Value → AH → Prop} : Has (Ecx (cxZ W0 Z)) K.rules_Right A.rules_Right := fn_sound Try.checked.mixed rfl (by exact Try.func14) (by kernel_rfl) tie_rules_Right
theorem tie_rules_Read : compFn Try.prog yK Try.f15 = some A.rules_Read.strip := by kernel_rfl
theorem has_rules_Read (W0 : World) {Z : Value → AH → Prop} : Has (Ecx (cxZ W0 Z)) K.rules_Read A.rules_Read := fn_sound Try.checked.mixed rfl (by exact Try.func15) (by kernel_rfl) tie_rules_Read
theorem tie_rules_Same : compFn Try.prog yK Try.f16 = some A.rules_Same.strip := by kernel_rfl
theorem has_rules_Same (W0 : World) {Z : Value → AH → Prop} : Has (Ecx (cxZ W0 Z)) K.rules_Same A.rules_Same := fn_sound Try.checked.mixed rfl (by exact Try.func16) (by kernel_rfl) tie_rules_Same
theorem tie_rules_token : compFn Try.prog yK Try.f27 = some A.rules_token.strip := by kernel_rfl
theorem has_rules_token (W0 : World) {Z : Value → AH → Prop} : Has (Ecx (cxZ W0 Z)) K.rules_token A.rules_token := fn_sound Try.checked.mixed rfl (by exact Try.func27) (by kernel_rfl) tie_rules_token
theorem tie_rules_Right_1 : compFn Try.prog yK Try.f29 = some A.rules_Right_1.strip := by kernel_rfl
theorem has_rules_Right_1 (W0 : World) {Z : Value → AH → Prop} : Has (Ecx (cxZ W0 Z)) K.rules_Right_1 A.rules_Right_1 := fn_sound Try.checked.mixed rfl (by exact Try.func29) (by kernel_rfl) tie_rules_Right_1
theorem tie_rules_Tree_fine : compFn Try.prog yK Try.f30 = some A.rules_Tree_fine.strip := by kernel_rfl
theorem has_rules_Tree_fine (W0 : World) {Z : Value → AH → Prop} : Has (Ecx (cxZ W0 Z)) K.rules_Tree_fine A.rules_Tree_fine := fn_sound Try.checked.mixed rfl (by exact Try.func30) (by kernel_rfl) tie_rules_Tree_fine
theorem tie_rules_reader_names : compFn Try.prog yK Try.f34 = some A.rules_reader_names.strip := by kernel_rfl
theorem has_rules_reader_names (W0 : World) {Z : Value → AH → Prop} : Has (Ecx (cxZ W0 Z)) K.rules_reader_names A.rules_reader_names := fn_sound Try.checked.mixed rfl (by exact Try.func34) (by kernel_rfl) tie_rules_reader_names
theorem tie_rules_Same_1 : compFn Try.prog yK Try.f37 = some A.rules_Same_1.strip := by kernel_rfl
theorem has_rules_Same_1 (W0 : World) {Z : Value → AH → Prop} : Has (Ecx (cxZ W0 Z)) K.rules_Same_1 A.rules_Same_1 := fn_sound Try.checked.mixed rfl (by exact Try.func37) (by kernel_rfl) tie_rules_Same_1
theorem tie_rules_Tree_fine_1 : compFn Try.prog yK Try.f52 = some A.rules_Tree_fine_1.strip := by kernel_rfl
theorem has_rules_Tree_fine_1 (W0 : World) {Z : Value → AH → Prop} : Has (Ecx (cxZ W0 Z)) K.rules_Tree_fine_1 A.rules_Tree_fine_1 := fn_sound Try.checked.mixed rfl (by exact Try.func52) (by kernel_rfl) tie_rules_Tree_fine_1
theorem tie_rules_reader_text : compFn Try.prog yK Try.f56 = some A.rules_reader_text.strip := by kernel_rfl
theorem has_rules_reader_text (W0 : World) {Z : Value → AH → Prop} : Has (Ecx (cxZ W0 Z)) K.rules_reader_text A.rules_reader_text := fn_sound Try.checked.mixed rfl (by exact Try.func56) (by kernel_rfl) tie_rules_reader_text
theorem tie_rules_reader_name : compFn Try.prog yK Try.f67 = some A.rules_reader_name.strip := by kernel_rfl
theorem has_rules_reader_name (W0 : World) {Z : Value → AH → Prop} : Has (Ecx (cxZ W0 Z)) K.rules_reader_name A.rules_reader_name := fn_sound Try.checked.mixed rfl (by exact Try.func67) (by kernel_rfl) tie_rules_reader_name
theorem tie_rules_reader_must : compFn Try.prog yK Try.f68 = some A.rules_reader_must.strip := by kernel_rfl
theorem has_rules_reader_must (W0 : World) {Z : Value → AH → Prop} : Has (Ecx (cxZ W0 Z)) K.rules_reader_must A.rules_reader_must := fn_sound Try.checked.mixed rfl (by exact Try.func68) (by kernel_rfl) tie_rules_reader_must
theorem tie_rules_reader_alternatives : compFn Try.prog yK Try.f69 = some A.rules_reader_alternatives.strip := by kernel_rfl
theorem has_rules_reader_alternatives (W0 : World) {Z : Value → AH → Prop} : Has (Ecx (cxZ W0 Z)) K.rules_reader_alternatives A.rules_reader_alternatives := fn_sound Try.checked.mixed rfl (by exact Try.func69) (by kernel_rfl) tie_rules_reader_alternatives
theorem tie_rules_reader_fail : compFn Try.prog yK Try.f73 = some A.rules_reader_fail.strip := by kernel_rfl
theorem has_rules_reader_fail (W0 : World) {Z : Value → AH → Prop} : Has (Ecx (cxZ W0 Z)) K.rules_reader_fail A.rules_reader_fail := fn_sound Try.checked.mixed rfl (by exact Try.func73) (by kernel_rfl) tie_rules_reader_fail
theorem tie_rules_reader_take : compFn Try.prog yK Try.f74 = some A.rules_reader_take.strip := by kernel_rfl
theorem has_rules_reader_take (W0 : World) {Z : Value → AH → Prop} : Has (Ecx (cxZ W0 Z)) K.rules_reader_take A.rules_reader_take := fn_sound Try.checked.mixed rfl (by exact Try.func74) (by kernel_rfl) tie_rules_reader_take
theorem tie_rules_reader_begins : compFn Try.prog yK Try.f75 = some A.rules_reader_begins.strip := by kernel_rfl
theorem has_rules_reader_begins (W0 : World) {Z : Value → AH → Prop} : Has (Ecx (cxZ W0 Z)) K.rules_reader_begins A.rules_reader_begins := fn_sound Try.checked.mixed rfl (by exact Try.func75) (by kernel_rfl) tie_rules_reader_begins
theorem tie_rules_reader_item : compFn Try.prog yK Try.f76 = some A.rules_reader_item.strip := by kernel_rfl
theorem has_rules_reader_item (W0 : World) {Z : Value → AH → Prop} : Has (Ecx (cxZ W0 Z)) K.rules_reader_item A.rules_reader_item := fn_sound Try.checked.mixed rfl (by exact Try.func76) (by kernel_rfl) tie_rules_reader_item
theorem tie_rules_reader_one : compFn Try.prog yK Try.f77 = some A.rules_reader_one.strip := by kernel_rfl
theorem has_rules_reader_one (W0 : World) {Z : Value → AH → Prop} : Has (Ecx (cxZ W0 Z)) K.rules_reader_one A.rules_reader_one := fn_sound Try.checked.mixed rfl (by exact Try.func77) (by kernel_rfl) tie_rules_reader_one
theorem tie_rules_reader_ahead : compFn Try.prog yK Try.f80 = some A.rules_reader_ahead.strip := by kernel_rfl
theorem has_rules_reader_ahead (W0 : World) {Z : Value → AH → Prop} : Has (Ecx (cxZ W0 Z)) K.rules_reader_ahead A.rules_reader_ahead := fn_sound Try.checked.mixed rfl (by exact Try.func80) (by kernel_rfl) tie_rules_reader_ahead
theorem tie_rules_reader_atom : compFn Try.prog yK Try.f81 = some A.rules_reader_atom.strip := by kernel_rfl
theorem has_rules_reader_atom (W0 : World) {Z : Value → AH → Prop} : Has (Ecx (cxZ W0 Z)) K.rules_reader_atom A.rules_reader_atom := fn_sound Try.checked.mixed rfl (by exact Try.func81) (by kernel_rfl) tie_rules_reader_atom
theorem tie_rules_reader_node : compFn Try.prog yK Try.f82 = some A.rules_reader_node.strip := by kernel_rfl
theorem has_rules_reader_node (W0 : World) {Z : Value → AH → Prop} : Has (Ecx (cxZ W0 Z)) K.rules_reader_node A.rules_reader_node := fn_sound Try.checked.mixed rfl (by exact Try.func82) (by kernel_rfl) tie_rules_reader_node
end Go.Proofs.Ytdbbgkdepjidjaa.Al
namespace Go.Proofs.Ytdbbgkdepjidjaa.Al
open Go Go.RowKit
set_option linter.unusedSimpArgs false
set_option linter.unusedVariables false
attribute [-simp] List.getD_eq_getElem?_getD Int.not_lt Int.not_le List.map_take List.map_map
/-! ### What holds where calls panic may be another thing -/
theorem Rel.z {X X' : Cx} (ht : X'.tbl = X.tbl) {g : Gh} {w : World} {h : AH} {v : V} {x : Value} (r : Rel X g w h v x) : Rel X' g w h v x := by
  induction r with
  | bool b => exact .bool b
  | int k n => exact .int k n
  | str s => exact .str s
  | slnil e st hst => exact .slnil e st hst
  | slemp e a => exact .slemp e a
  | sl e st l b' off cap x h1 hs hcap he hc ho hp hr h2 h3 ih => exact .sl e st l b' off cap x h1 hs hcap he hc ho hp ih h2 h3
  | agg l cs hl ho hr ih => exact .agg l cs hl ho ih
  | ptr o off hn hm => exact .ptr o off hn hm
  | mapr o hn hm => exact .mapr o hn hm
  | mapn => exact .mapn
  | osl e o off len cap c hn hm hc hk => exact .osl e o off len cap c hn hm hc hk
  | rptr l off b' base x hc ho hp hr ih => exact .rptr l off b' base x hc ho hp ih
  | nilp => exact .nilp
  | fn f first cap fs cs h0 hf hcl hr1 hr2 ih1 ih2 => rw [← ht]; exact .fn f first cap fs cs h0 hf hcl ih1 ih2
  | nilf => exact .nilf
  | tup l cs hl hr ih => exact .tup l cs hl ih
  | cval c => exact .cval c
  | tp o t n hn hm hs => exact .tp o t n hn hm hs
  | tys t v a n c r ht ih => exact .tys t v a n c ih ht
  | undef v => exact .undef v
theorem Inv.z {X X' : Cx} (ht : X'.tbl = X.tbl) (hw : X'.W0 = X.W0) {g : Gh} {w : World} {h : AH} (I : Inv X g w h) : Inv X' g w h where
  below := by rw [hw]; exact I.below
  next := I.next
  objs o ho hm hne := by
    obtain ⟨cs, t, a, b, c, d⟩ := I.objs o ho hm hne
    exact ⟨cs, t, a, b, c, fun i i1 i2 => (d i i1 i2).z ht⟩
  maps o ho hm := by
    obtain ⟨es, a, b, c, d⟩ := I.maps o ho hm
    exact ⟨es, a, b, c, fun i i1 i2 => (d i i1 i2).z ht⟩
  objL := I.objL
  objB := by rw [hw]; exact I.objB
  objI := I.objI
  tipB := by rw [hw]; exact I.tipB
  tipI := I.tipI
  tipO := I.tipO
  pubB := I.pubB
/-- An object's cell in the world. -/
theorem Inv.cell {X : Cx} {g : Gh} {w : World} {h : AH} (I : Inv X g w h) {o : Nat} (hn : o < h.nobj) (hm : g.mp o = false) {i : Nat} {v : V} (hv : (h.objs o)[i]? = some v) :
    ∃ x, w.cell? ⟨g.obj o, i, none⟩ = some x ∧ Rel X g w h v x ∧ w.frozen? ⟨g.obj o, i, none⟩ = false := by
  obtain ⟨hi, rfl⟩ := List.getElem?_eq_some_iff.1 hv
  obtain ⟨cs, t, c1, c2, c3, c4⟩ := I.objs o hn hm (fun e => by rw [e] at hi; simp at hi)
  have hci : i < cs.size := by omega
  refine ⟨cs[i], ?_, c4 i hi hci, ?_⟩
  · simp [World.cell?, c1, hci]
  · simp [World.frozen?, c1]
/-- The value with which a reader gives up. -/
def wrongV (n : Int) : Value := .iface 107 (.int .i64 n)
theorem fail_ok {X : Cx} (H : Has (Ecx X) K.rules_reader_fail A.rules_reader_fail) (toks : List Tok) (en a o : Nat) (rest : List V) (h : AH) (Q : V → AH → Prop) (ob : h.objs o = .sl 3 0 (toks.map tokV) :: .int .i64 (a : Nat) :: .int .i64 (en : Nat) :: rest)
    (hs : toks.length < 2 ^ 30) (ha : a < 2 ^ 30) (hZ : X.Z (wrongV (plcP toks en a : Nat)) h) : Ecx X K.rules_reader_fail [.ptr o 0] h Q := by
  refine fn_any H (by simp [A.rules_reader_fail]) fun wf => ?_
  by_cases hlt : a < toks.length
  · have hlt' : (a : Int) < toks.length := by omega
    have hg : (toks.map tokV).getD a .undef = .agg (tokC toks[a]) := toks_getD hlt
    have hp : plcP toks en a = toks[a].at' := by simp [plcP, hlt]
    rw [hp] at hZ
    simp [A.rules_reader_fail, ob, hlt', hg, tokC, V.cells]
    exact dcallE .undef h (ecx_pan hZ) ⟨by simp, by simp⟩
  · have hlt' : ¬ (a : Int) < toks.length := by omega
    have hp : plcP toks en a = en := by simp [plcP, hlt]
    rw [hp] at hZ
    simp [A.rules_reader_fail, ob, hlt']
    exact ecall (ecx_pan hZ)
theorem assert_wrong (n : Int) (w : World) : (Instr.typeAssert (.iface 107 (.int .i64 n)) 20 107 true).run Try.prog w = .ok (.tuple #[.int .i64 n, .bool true]) w := by
  simp [Instr.typeAssert, run_underlying Try.underlying107]
theorem assert_nil (w : World) : (Instr.typeAssert .nilIface 20 107 true).run Try.prog w = .ok (.tuple #[.int .i64 0, .bool false]) w := by
  have hz : (zeroValue 107).run Try.prog w = .ok (.int .i64 0) w := by
    have h0 : (Try.prog.info? 107).bind (fun i => i.zero) = some (Value.int .i64 0) := by kernel_rfl
    obtain ⟨i, h1, h2⟩ := Option.bind_eq_some_iff.1 h0
    exact run_zero h1 h2 w
  simp [Instr.typeAssert, run_underlying Try.underlying107, hz]
set_option maxRecDepth 10000 in
theorem catch_panicking (p : Addr) (n x : Int) (older : List PanicEntry) (w : World) (hc : w.cell? p = some (.int .i64 x)) (hz : w.frozen? p = false) :
    CallsD Try.prog 55 #[.pointer (some p)] (.panicking ({ v := wrongV n, recovered := false } :: older)) w fun e u' w' =>
      e = .returned (.tuple #[]) ∧ u' = .panicking ({ v := wrongV n, recovered := true } :: older) ∧ w' = w.setCell p (.int .i64 n) := by
  unfold wrongV
  have ha := assert_wrong n
  refine callsD_of_wpS Try.func55 rfl fun c₀ cs hu => ?_
  apply wpS_seq
  apply wpS_region
  simp [wpOpsS, go_sem, recoverD, hu, Try.ntmps55, Exit.thenS, ha]
  apply wpS_seq
  apply wpS_region
  simp [wpOpsS, go_sem, Exit.thenS]
  refine wpS_cond (t := true) (by simp [Act.eval, Array.replicate]) ?_
  simp only [if_true]
  apply wpS_region
  simp [wpOpsS, go_sem, hc, hz, bodyPostS, results, Try.results55]
set_option maxRecDepth 10000 in
theorem catch_idle (p : Addr) (w : World) :
    CallsD Try.prog 55 #[.pointer (some p)] .returning w fun e u' w' => e = .returned (.tuple #[]) ∧ u' = .returning ∧ w' = w := by
  have ha := assert_nil
  refine callsD_of_wpS Try.func55 rfl fun c₀ cs hu => ?_
  apply wpS_seq
  apply wpS_region
  simp [wpOpsS, go_sem, recoverD, hu, Try.ntmps55, Exit.thenS, ha]
  apply wpS_seq
  apply wpS_region
  simp [wpOpsS, go_sem, Exit.thenS]
  refine wpS_cond (t := false) (by simp [Act.eval, Array.replicate]) ?_
  simp only [Bool.false_eq_true, if_false]
  refine wpS_of_wp (wp_skip ?_)
  cases c₀
  simp_all [bodyPostS, results, Try.results55]
theorem Inv.toZ {W : World} {Z Z' : Value → AH → Prop} {g : Gh} {w : World} {h : AH} (I : Inv (cxZ W Z) g w h) : Inv (cxZ W Z') g w h := Inv.z (X := cxZ W Z) (X' := cxZ W Z') rfl rfl I
theorem Rel.toZ {W : World} {Z Z' : Value → AH → Prop} {g : Gh} {w : World} {h : AH} {v : V} {x : Value} (r : Rel (cxZ W Z) g w h v x) : Rel (cxZ W Z') g w h v x := Rel.z (X := cxZ W Z) (X' := cxZ W Z') rfl r
theorem parse_ok (W : World) (LR : ∀ Z, LRd (cxZ W Z) wrongV) {toks : List Tok} {en : Nat} {h : AH} {o : Nat} {σ : S4} {Q : V → AH → Prop} (r : RdP toks en h o ⟨0, [], [], [], []⟩ σ) (hs : toks.length < 2 ^ 30) (hk : ∀ t ∈ toks, t.kind = 1 ∨ t.kind = 2 ∨ t.kind = 3)
    (hT : ∀ s, textP toks en = .ok (s, ()) → ∀ h1 σ1, RE h h1 o σ σ1 → RdP toks en h1 o s σ1 → Q (.int .i64 (-1)) h1) (hF : ∀ p, textP toks en = .error p → ∀ h1 σ1, RE h h1 o σ σ1 → Q (.int .i64 (p : Nat)) h1) :
    Ecx (cxOf W) K.rules_reader_parse [.ptr o 0] h Q := by
  intro g w cargs I rl
  have hsz : cargs.size = 1 := by have := rl.1; simpa using this.symm
  have r0 := rl.2 0 (by simp) (by omega)
  simp only [List.getElem_cons_zero] at r0
  have hc : ∃ a, cargs = #[a] ∧ Rel (cxOf W) g w h (.ptr o 0) a := ⟨cargs[0], by
    refine Array.ext (by simp [hsz]) fun i h1 h2 => ?_
    have : i = 0 := by omega
    subst this; rfl, r0⟩
  obtain ⟨a0, rfl, r0⟩ := hc
  cases r0 with
  | ptr _ _ hn hm =>
  -- the result's cell
  obtain ⟨g1, I1, S1, b1, b2⟩ := new_obj I [.int .i64 0] #[.int .i64 0] 3 (by simp) (by simp [Value.oneCell']) (fun i i1 i2 => by
    have : i = 0 := by simpa using i1
    subst this; exact .int _ _)
  have g1o : g1.obj o = g.obj o := S1.obj o hn
  have g1m : g1.mp o = false := (S1.mp o hn).trans hm
  have n1 : ¬ h.nobj = o := by omega
  obtain ⟨N, hN, rd⟩ := id r
  have r1 : RdP toks en (h.new [.int .i64 0]) o ⟨0, [], [], [], []⟩ σ := ⟨N, hN, rd.new _⟩
  have g0 := (RE.refl h o σ).new [.int .i64 0]
  refine .inl ⟨_, by decide, by exact Try.func33, by kernel_rfl, by kernel_rfl, ?_⟩
  show Calls Try.prog 33 _ _ _
  have hmf : ∀ (fn : Fn) (first cap : Array Value) (w : World), (Instr.makeFunc fn first cap).run Try.prog w = .ok (.func fn first cap) w := fun _ _ _ _ => rfl
  go_enter_defers Try.func33, Try.ntmps33
  refine wp_seq (wp_region_list ?_)
  refine wpList_step fun K1 hK1 => ?_
  simp [Region.wanted, Oper.wp, go_sem]
  refine hK1 _ _ (wpList_nil ?_)
  refine wp_seq (wp_region_list ?_)
  refine wpList_step fun K2 hK2 => ?_
  simp [Region.wanted, Oper.wp, go_sem, hmf]
  refine hK2 _ _ ?_
  refine wpList_step fun K3 hK3 => ?_
  simp [Region.wanted, Oper.wp, go_sem]
  refine hK3 _ _ (wpList_nil ?_)
  refine wp_seq (wp_region_list ?_)
  refine wpList_step fun K4 hK4 => ?_
  simp [Region.wanted, Oper.wp, go_sem]
  refine hK4 _ _ ?_
  refine wpList_step fun K5 hK5 => ?_
  rw [if_pos (by simp [Region.wanted])]
  unfold Oper.wp
  have hrun : ∀ (a : Act) (w : World) (o : Oper), o.op = .call { callee := .value (.func 56), args := #[.tmp 4], argTypes := #[86] } → (execOp a.eval o : Sem Next).run Try.prog w = (callFunc 56 #[a.eval (.tmp 4)]).run Try.prog w := fun a w o ho => by
    obtain ⟨dst, op, type, pos, after, guard⟩ := o
    simp only at ho; subst ho
    simp [execOp, resolve, Deferred.ofValue, invoke, Act.eval]
  rw [hrun _ _ _ rfl]
  have rp1 : Rel (cxOf W) g1 (w.alloc (.cells #[.int .i64 0] 3)) (h.new [.int .i64 0]) (.ptr o 0) (.pointer (some ⟨g.obj o, 0, none⟩)) := by
    rw [← g1o]; exact .ptr o 0 (by simp; omega) g1m
  have c5 := rdText (X := cxZ W fun v h2 => ∃ p σ1, v = wrongV (p : Nat) ∧ textP toks en = .error p ∧ RE h h2 o σ σ1 ∧ RE (h.new [.int .i64 0]) h2 o σ σ1) (wr := wrongV) (LR _) hs hk r1
    (Q := fun v h2 => ∃ s σ1, textP toks en = .ok (s, ()) ∧ RE h h2 o σ σ1 ∧ RE (h.new [.int .i64 0]) h2 o σ σ1 ∧ RdP toks en h2 o s σ1) (by
      cases ht : textP toks en with
      | error p => exact fun h1 σ1 g => ⟨p, σ1, rfl, rfl, g0.trans g, g⟩
      | ok x => obtain ⟨s, u⟩ := x; exact fun h1 σ1 g rd => ⟨s, σ1, rfl, g0.trans g, g, rd⟩)
  have c6 := c5 g1 (w.alloc (.cells #[.int .i64 0] 3)) #[.pointer (some ⟨g.obj o, 0, none⟩)] I1.toZ ⟨rfl, fun i i1 i2 => by
    have : i = 0 := by simpa using i1
    subst this; exact rp1.toZ⟩
  have hnew : h.nobj < (h.new [V.int .i64 0]).nobj := by simp
  have hcell : ∀ (h2 : AH) (g2 : Gh) (w2 : World) (σ1 : S4), h2.objs h.nobj = [.int .i64 0] → (h.new [V.int .i64 0]).nobj ≤ h2.nobj → g2.obj h.nobj = w.heap.size → g2.mp h.nobj = false → Inv (cxOf W) g2 w2 h2 → ∀ n : Int,
      w2.cell? ⟨w.heap.size, 0, none⟩ = some (.int .i64 0) ∧ w2.frozen? ⟨w.heap.size, 0, none⟩ = false ∧ Inv (cxOf W) g2 (w2.setCell ⟨w.heap.size, 0, none⟩ (.int .i64 n)) (h2.set h.nobj [.int .i64 n]) ∧
      Stp g2 w2 h2 g2 (w2.setCell ⟨w.heap.size, 0, none⟩ (.int .i64 n)) (h2.set h.nobj [.int .i64 n]) := fun h2 g2 w2 σ1 ho hb hg hm2 I2 n => by
    obtain ⟨x, k1, k2, k3⟩ := I2.cell (o := h.nobj) (by simp at hb; omega) hm2 (i := 0) (v := .int .i64 0) (by rw [ho]; rfl)
    rw [hg] at k1 k3
    cases k2
    obtain ⟨w3, e3, I3, S3⟩ := store_obj I2 h.nobj 0 (by simp at hb; omega) hm2 (by rw [ho]; simp) [.int .i64 n] [.int .i64 n] rfl (by rw [ho]; simp) (fun i hi => by
      have : i = 0 := by simpa using hi
      subst this; rfl) (fun i i1 i2 => by
      have : i = 0 := by simpa using i1
      subst this; exact .int _ _)
    rw [hg] at e3
    have : w3 = w2.setCell ⟨w.heap.size, 0, none⟩ (.int .i64 n) := by
      simp [storeCells, go_sem, k1, k3] at e3
      exact e3.symm
    subst this
    rw [ho] at I3 S3
    exact ⟨k1, k3, I3, S3⟩
  refine call_upon (k := K.rules_reader_text) (by decide) c6 (fun x w2 z => ?_) (fun p w2 z => ?_)
  · obtain ⟨v, h2, g2, ⟨s, σ1, ht, q1, q2, q3⟩, I2, _, S2⟩ := z
    have I2' : Inv (cxOf W) g2 w2 h2 := I2.toZ
    obtain ⟨k1, k2, I3, S3⟩ := hcell h2 g2 w2 σ1 (by rw [q2.objs _ hnew n1]; simp) q2.nobj ((S2.obj _ hnew).trans b1) ((S2.mp _ hnew).trans b2) I2' (-1)
    refine hK5 _ _ (wpList_nil ?_)
    refine wp_seq (wp_region_list ?_)
    refine wpList_step fun K6 hK6 => ?_
    simp [Region.wanted, Oper.wp, go_sem, k1, k2]
    refine hK6 _ _ (wpList_nil ?_)
    refine wp_ret ?_
    have hr := hT s ht _ σ1 (q1.set (.inr (Nat.le_refl _)) [.int .i64 (-1)]) (by
      obtain ⟨N3, hN3, rd3⟩ := q3
      exact ⟨N3, hN3, rd3.other n1 _⟩)
    refine leaves_cons (f := 55) (args := #[.pointer (some ⟨w.heap.size, 0, none⟩)]) (by simp) (by simp [go_sem]) ?_
    refine (catch_idle ⟨w.heap.size, 0, none⟩ _).mono ?_
    rintro e u' w'' ⟨rfl, rfl, rfl⟩
    have hc3 : (w2.setCell ⟨w.heap.size, 0, none⟩ (.int .i64 (-1))).cell? ⟨w.heap.size, 0, none⟩ = some (.int .i64 (-1)) := by simp [go_sem, k1]
    simp [Leaves, settle, results, Try.results33, go_sem, hc3]
    exact ⟨_, _, hr, g2, I3, .int _ _, (S1.trans S2).trans S3⟩
  · obtain ⟨h2, g2, ⟨p, σ1, rfl, ht, q1, q2⟩, I2, S2⟩ := z
    have I2' : Inv (cxOf W) g2 w2 h2 := I2.toZ
    obtain ⟨k1, k2, I3, S3⟩ := hcell h2 g2 w2 σ1 (by rw [q2.objs _ hnew n1]; simp) q2.nobj ((S2.obj _ hnew).trans b1) ((S2.mp _ hnew).trans b2) I2' p
    have hr := hF p ht _ σ1 (q1.set (.inr (Nat.le_refl _)) [.int .i64 (p : Nat)])
    refine leaves_cons (f := 55) (args := #[.pointer (some ⟨w.heap.size, 0, none⟩)]) (by simp) (by simp [go_sem]) ?_
    refine (catch_panicking ⟨w.heap.size, 0, none⟩ p 0 [] _ k1 k2).mono ?_
    rintro e u' w'' ⟨rfl, rfl, rfl⟩
    have hc3 : (w2.setCell ⟨w.heap.size, 0, none⟩ (.int .i64 (p : Nat))).cell? ⟨w.heap.size, 0, none⟩ = some (.int .i64 (p : Nat)) := by simp [go_sem, k1]
    simp [Leaves, settle, results, Try.results33, go_sem, hc3]
    exact ⟨_, _, hr, g2, I3, .int _ _, (S1.trans S2).trans S3⟩
end Go.Proofs.Ytdbbgkdepjidjaa.Al
namespace Go.Proofs
open Go.Shelf Go.RowKit
shelf_lay Lays.n156 Nm 156 at Try as Try.layJoin
theorem Try.bldExtra : Builder.Extra Try.prog Try.layJoin_ren where
  sizeBuilder := by kernel_rfl
  liesBuilder := by kernel_rfl
  t5 := Try.underlying5
  a5 := Try.isAgg5
  z5 := Try.sizeOf5
  v5 := Try.zeroValue5
  infoByte := by kernel_rfl
  cellsByte := by kernel_rfl
  sizeByte := by kernel_rfl
  neB5 := by decide
end Go.Proofs
namespace Go.Proofs.Ytdbbgkdepjidjaa.Al
open Go Go.RowKit Go.Shelf
set_option linter.unusedSimpArgs false
set_option linter.unusedVariables false
theorem arg1 {X : Cx} {g : Gh} {w : World} {h : AH} {v : V} {cargs : Array Value} (rl : RelL X g w h [v] cargs) : ∃ a, cargs = #[a] ∧ Rel X g w h v a := by
  have hsz : cargs.size = 1 := by have := rl.1; simpa using this.symm
  have r0 := rl.2 0 (by simp) (by omega)
  simp only [List.getElem_cons_zero] at r0
  exact ⟨cargs[0], by
    refine Array.ext (by simp [hsz]) fun i h1 h2 => ?_
    have : i = 0 := by omega
    subst this; rfl, r0⟩
theorem copy_ok (W : World) {Z : Value → AH → Prop} (o : Nat) (h : AH) (a r : V) (Q : V → AH → Prop) (ob : h.objs o = [a, r]) (ha : a = .nilp ∨ a = .ptr o 0) (hQ : Q (.tup []) (h.set o [.ptr o 0, r])) :
    Ecx (cxZ W Z) K.strings_Builder_copyCheck [.tp o tbT 2] h Q := by
  intro g w cargs I rl
  obtain ⟨a0, rfl, r0⟩ := arg1 rl
  cases r0 with
  | tp _ _ _ hn hm hs =>
  obtain ⟨x, k1, k2, k3⟩ := I.cell hn hm (i := 0) (v := a) (by rw [ob]; rfl)
  refine .inl ⟨_, by decide, by exact Try.func44, by kernel_rfl, by kernel_rfl, ?_⟩
  obtain ⟨w3, e3, I3, S3⟩ := store_obj I o 0 hn hm (by rw [ob]; simp) [.ptr o 0] [.pointer (some ⟨g.obj o, 0, none⟩)] rfl (by rw [ob]; simp) (fun i hi => by
    have : i = 0 := by simpa using hi
    subst this; rfl) (fun i i1 i2 => by
    have : i = 0 := by simpa using i1
    subst this; exact .ptr o 0 hn hm)
  rw [ob] at I3 S3
  have hw : w3 = w.setCell ⟨g.obj o, 0, none⟩ (.pointer (some ⟨g.obj o, 0, none⟩)) := by
    simp [storeCells, go_sem, k1, k3] at e3
    exact e3.symm
  subst hw
  rcases ha with rfl | rfl
  · cases k2
    refine (Any.Builder_copyCheck_fresh (P := Try.prog) (ρ := Try.layJoin_ren) { Try.layJoin with } Try.bldExtra.toX72 (g.obj o) w k1 hs k3).mono ?_
    rintro e w' ⟨rfl, rfl⟩
    exact .inl ⟨_, rfl, _, _, _, hQ, I3, .tup [] #[] rfl (by simp), S3⟩
  · cases k2
    refine (Any.Builder_copyCheck_used (P := Try.prog) (ρ := Try.layJoin_ren) { Try.layJoin with } Try.bldExtra.toX72 (g.obj o) w k1).mono ?_
    rintro e w' ⟨rfl, rfl⟩
    rw [set_self ob] at hQ
    exact .inl ⟨_, rfl, _, _, _, hQ, I, .tup [] #[] rfl (by simp), Stp.refl _ _ _⟩
/-- Only new blocks. -/
theorem below_inv {X : Cx} {g : Gh} {w w' : World} {h : AH} (I : Inv X g w h) (B : Below w.heap.size w w') : Inv X g w' h ∧ Stp g w h g w' h := by
  have hblk : ∀ k, k < w.heap.size → w'.heap[k]? = w.heap[k]? := fun k hk => B.block k hk
  have hsz : w.heap.size ≤ w'.heap.size := B.size
  have S : Stp g w h g w' h :=
    { next := Nat.le_refl _
      nobj := Nat.le_refl _
      obj := fun _ _ => rfl
      mp := fun _ _ => rfl
      pub := fun _ => Nat.le_refl _
      cell := fun b o hb => World.cell?_of_block (hblk b (I.pub_lt hb))
      tip := fun s _ e he => ⟨he, rfl, rfl⟩
      row := fun s _ e he off n r => by
        obtain ⟨c, t, hh, hl⟩ := r
        exact ⟨c, t, by rw [hblk _ (I.tipB s e he).2.2.2]; exact hh, hl⟩
      shape := fun b s hs => shape_blk hs (hblk b (shape_lt hs)) }
  refine ⟨?_, S⟩
  exact
    { below := I.below.trans ⟨B.1, B.2, B.3, hsz, fun k hk => hblk k (Nat.lt_of_lt_of_le hk I.size)⟩
      next := I.next
      objs := fun o ho hm hne => by
        obtain ⟨cs, t, h1, h2, h3, h4⟩ := I.objs o ho hm hne
        exact ⟨cs, t, by rw [hblk _ (I.objL ho)]; exact h1, h2, h3, fun i i1 i2 => (h4 i i1 i2).stp S⟩
      maps := fun o ho hm => (I.maps o ho hm).stp S rfl (fun _ _ e => by rw [hblk _ (I.objL ho)]; exact e) rfl
      objL := fun ho => Nat.lt_of_lt_of_le (I.objL ho) hsz
      objB := I.objB
      objI := I.objI
      tipB := fun s e he => by
        obtain ⟨a, b, c, d⟩ := I.tipB s e he
        exact ⟨a, b, c, Nat.lt_of_lt_of_le d hsz⟩
      tipI := I.tipI
      tipO := I.tipO
      pubB := fun b hb => I.pubB b (Nat.le_trans hsz hb) }
theorem spJ_join (l : List Str) : Go.Lib.join l [32] = spJ l := by
  cases l with
  | nil => rfl
  | cons a l =>
    rw [Go.Lib.join_cons, spJ]
    rfl
theorem join_ok (W : World) {Z : Value → AH → Prop} (l : List Str) (e st : Nat) (h : AH) (Q : V → AH → Prop) (he : l = [] ∨ e = 1) (hl : (spJ l).length ≤ 2 ^ 40) (hn : l.length ≤ 2 ^ 40) (hQ : Q (.str (spJ l)) h) :
    Ecx (cxZ W Z) K.strings_Join [.sl e st (strs l), .str [32]] h Q := by
  intro g w cargs I rl
  have hsz : cargs.size = 2 := by have := rl.1; simpa using this.symm
  have r0 := rl.2 0 (by simp) (by omega)
  have r1 := rl.2 1 (by simp) (by omega)
  simp only [List.getElem_cons_zero, List.getElem_cons_succ] at r0 r1
  obtain ⟨x, hc⟩ : ∃ x, cargs = #[x, .string ⟨#[32]⟩] := ⟨cargs[0], by
    refine Array.ext (by simp [hsz]) fun i h1 h2 => ?_
    match i with
    | 0 => rfl
    | 1 => generalize cargs[1] = u at r1 ⊢; cases r1; rfl
    | n + 2 => omega⟩
  subst hc
  simp only [List.getElem_toArray, List.getElem_cons_zero] at r0
  refine .inl ⟨_, by decide, by exact Try.func20, by kernel_rfl, by kernel_rfl, ?_⟩
  by_cases hl0 : l = []
  · subst hl0
    have hx : ∃ a c, x = .slice a 0 c := by
      cases r0 with
      | slnil => exact ⟨_, _, rfl⟩
      | slemp => exact ⟨_, _, rfl⟩
      | sl => exact ⟨_, _, rfl⟩
    obtain ⟨a, c, rfl⟩ := hx
    refine (Any.strings_Join_none (P := Try.prog) (ρ := Try.layJoin_ren) Try.layJoin Try.bldExtra a c ⟨#[32]⟩ w).mono ?_
    rintro e w' ⟨rfl, rfl⟩
    exact .inl ⟨_, rfl, _, _, _, hQ, I, .str [], Stp.refl _ _ _⟩
  · have he1 : e = 1 := he.resolve_left hl0
    subst he1
    have hcl : cellsOf (strs l) = strs l := by
      clear r0 r1 hl hn hQ rl he hl0
      induction l with
      | nil => rfl
      | cons a l ih => simp only [strs, List.map_cons, cellsOf_cons, V.cells, List.singleton_append] at *; rw [ih]
    have hsl : (strs l).length = l.length := by simp [strs]
    generalize hv : strs l = L at r0
    cases r0 with
    | slnil => exact absurd (by simpa [strs] using hv) hl0
    | slemp => exact absurd (by simpa [strs] using hv) hl0
    | sl _ _ _ b off cap xf k1 ks kcap ke kc ko kp kr k2 k3 =>
    subst hv
    have hcell : ∀ j s, l[j]? = some s → w.cell? ⟨b, off + j, none⟩ = some (.string ⟨s.toArray⟩) := fun j s hj => by
      obtain ⟨hj1, hj2⟩ := List.getElem?_eq_some_iff.1 hj
      have hjc : j < (cellsOf (strs l)).length := by rw [hcl, hsl]; exact hj1
      rw [kc j hjc]
      have r := kr j hjc
      have : (cellsOf (strs l))[j] = .str s := by
        have h1 : (cellsOf (strs l))[j]? = some (.str s) := by rw [hcl]; simp [strs, hj]
        exact (List.getElem_eq_iff hjc).2 h1
      rw [this] at r
      generalize xf j = u at r
      cases r; rfl
    have hb : b < w.heap.size := by
      have h0 : 0 < l.length := List.length_pos_iff.2 hl0
      have := hcell 0 l[0] (by simp [h0])
      exact World.block_lt_of_cell? _ _ this
    have key := Any.strings_Join (P := Try.prog) (ρ := Try.layJoin_ren) Try.layJoin Try.bldExtra b off cap (l.map fun s => (⟨s.toArray⟩ : ByteArray)) ⟨#[32]⟩ w (fun j x hx => by
      rw [List.getElem?_map] at hx
      cases hj : l[j]? with
      | none => rw [hj] at hx; cases hx
      | some s => rw [hj] at hx; cases hx; exact hcell j s hj) hb (by simp; omega) (by simp; rw [hsl] at kcap; exact kcap) (by
      have : (l.map fun s => (⟨s.toArray⟩ : ByteArray)).map (·.data.toList) = l := by rw [List.map_map]; exact (List.map_congr_left (fun _ _ => rfl)).trans (List.map_id l)
      rw [this]
      show (Go.Lib.join l [32]).length ≤ _
      rw [spJ_join]; omega)
    have hm : (l.map fun s => (⟨s.toArray⟩ : ByteArray)).map (·.data.toList) = l := by rw [List.map_map]; exact (List.map_congr_left (fun _ _ => rfl)).trans (List.map_id l)
    rw [hm, List.length_map] at key
    rw [hsl]
    refine key.mono ?_
    rintro e w' ⟨rfl, B⟩
    obtain ⟨I', S⟩ := below_inv I B
    refine .inl ⟨_, rfl, _, _, _, hQ, I', ?_, S⟩
    show Rel _ _ _ _ _ (.string ⟨(Go.Lib.join l [32]).toArray⟩)
    rw [spJ_join]; exact .str _
set_option maxHeartbeats 1000000 in
set_option maxRecDepth 100000 in
/-- What String tells, and what becomes of the world. -/
theorem str_walk {P : Program} {ρ : Ren} (L : Lays.n169 P ρ) (X : Builder.Extra P ρ) (b r k cap : Nat) (l : List UInt8) (w : World) (c0 : w.cell? ⟨b, 1, none⟩ = some (.slice (some ⟨r, 0, none⟩) l.length cap)) (hsh : w.shape? r = some (ρ.t 5, k))
    (h0 : l ≠ []) (hcap : l.length ≤ cap) (hk : cap ≤ k) (h63 : l.length ≤ 2 ^ 40) (hcell : ∀ j x, l[j]? = some x → w.cell? ⟨r, j, none⟩ = some (.int .u8 x.toNat)) :
    Calls P (ρ.f 169) #[.pointer (some ⟨b, 0, none⟩)] w fun e w' => e = .returned (.string ⟨l.toArray⟩) ∧ w' = w.drew.freeze ⟨r, 0, none⟩ l.length := by
  have hl0 : l.length ≠ 0 := by simpa using h0
  have c1 : w.drew.cell? ⟨b, 1, none⟩ = some (.slice (some ⟨r, 0, none⟩) l.length cap) := c0
  have hSD : (Builtin.unsafeSliceData_ #[(ρ.t 37)] (ρ.t 127) #[.slice (some ⟨r, 0, none⟩) l.length cap]).run P w.drew = .ok (.pointer (some ⟨r, 0, none⟩)) w.drew :=
    Go.Lib.run_unsafeSliceData_row _ _ _ _ _ _ (by omega)
  have hUS : (Builtin.unsafeString_ #[(ρ.t 127), (ρ.t 3)] (ρ.t 9) #[.pointer (some ⟨r, 0, none⟩), .int .i64 l.length]).run P w.drew = .ok (.string ⟨l.toArray⟩) (w.drew.freeze ⟨r, 0, none⟩ l.length) := by
    refine Go.Lib.run_unsafeString_row w.drew (ρ.t 127) (ρ.t 3) (ρ.t 9) (ρ.t 5) L.t127 X.cellsByte r k hsh l h0 (by omega) (by omega) ?_
    intro j x hx
    rw [Addr.add_lit, Nat.zero_add]
    exact hcell j x hx
  clear hcell hsh hcap hk c0
  have mixed := L.mixed
  have t72 := L.t72; have a72 := L.a72; have z72 := L.z72; have v72 := L.v72; have u72 := run_underlying L.t72
  have t70 := L.t70; have a70 := L.a70; have z70 := L.z70; have v70 := L.v70; have u70 := run_underlying L.t70
  have t37 := L.t37; have a37 := L.a37; have z37 := L.z37; have v37 := L.v37; have u37 := run_underlying L.t37
  have t127 := L.t127; have a127 := L.a127; have z127 := L.z127; have v127 := L.v127; have u127 := run_underlying L.t127
  have t3 := L.t3; have a3 := L.a3; have z3 := L.z3; have v3 := L.v3; have u3 := run_underlying L.t3
  have t9 := L.t9; have a9 := L.a9; have z9 := L.z9; have v9 := L.v9; have u9 := run_underlying L.t9
  have t5 := X.t5; have a5 := X.a5; have z5 := X.z5; have v5 := X.v5; have u5 := run_underlying X.t5
  go_enter L.f169, Body.n169_ntmps ρ
  go_wp2
  go_region_o
  all_goals (go_wp2; go_ret; exact ⟨rfl, rfl⟩)
theorem freeze_ne (w : World) (b n k : Nat) (hk : k ≠ b) : (w.freeze ⟨b, 0, none⟩ n).heap[k]? = w.heap[k]? := by
  unfold World.freeze
  split
  · rfl
  · rw [Array.getElem?_modify, if_neg (fun e => hk e.symm)]
theorem freeze_at (w : World) (b n : Nat) {cs : Array Value} {t : TypeId} {fz : Nat × Nat} (hb : w.heap[b]? = some (.cells cs t fz)) : ∃ fz', (w.freeze ⟨b, 0, none⟩ n).heap[b]? = some (.cells cs t fz') := by
  unfold World.freeze
  split
  · exact ⟨fz, hb⟩
  · obtain ⟨lo, hi⟩ := fz
    refine ⟨_, by rw [Array.getElem?_modify, if_pos rfl, hb]; rfl⟩
theorem freeze_size (w : World) (b n : Nat) : (w.freeze ⟨b, 0, none⟩ n).heap.size = w.heap.size := by
  unfold World.freeze; split <;> simp
theorem freeze_str (w : World) (b n : Nat) : (w.freeze ⟨b, 0, none⟩ n).os = w.os ∧ (w.freeze ⟨b, 0, none⟩ n).tape = w.tape ∧ (w.freeze ⟨b, 0, none⟩ n).output = w.output := by
  unfold World.freeze; split <;> exact ⟨rfl, rfl, rfl⟩
/-- A row that is frozen is no longer grown. -/
theorem freeze_inv {X : Cx} {g : Gh} {w : World} {h : AH} (I : Inv X g w h) {st e : Nat} (ht : h.tips st = some e) (n : Nat) {cs : Array Value} {t : TypeId} {fz : Nat × Nat} (hb : w.heap[g.tip st]? = some (.cells cs t fz)) :
    Inv X g (w.freeze ⟨g.tip st, 0, none⟩ n) (h.drop st) ∧ Stp g w h g (w.freeze ⟨g.tip st, 0, none⟩ n) (h.drop st) := by
  generalize hw : w.freeze ⟨g.tip st, 0, none⟩ n = w'
  have hne : ∀ k, k ≠ g.tip st → w'.heap[k]? = w.heap[k]? := fun k hk => by rw [← hw]; exact freeze_ne _ _ _ _ hk
  obtain ⟨fz', hat⟩ := freeze_at w (g.tip st) n hb
  rw [hw] at hat
  have hsz : w'.heap.size = w.heap.size := by rw [← hw]; exact freeze_size _ _ _
  obtain ⟨s1, s2, s3⟩ := freeze_str w (g.tip st) n
  rw [hw] at s1 s2 s3
  have hdt : ∀ s e', (h.drop st).tips s = some e' → s ≠ st ∧ h.tips s = some e' := fun s e' he => by
    by_cases c : s = st
    · subst c
      have : (h.drop s).tips s = none := updN_same _ _ _
      rw [this] at he; cases he
    · have : (h.drop st).tips s = h.tips s := updN_ne _ _ c
      rw [this] at he; exact ⟨c, he⟩
  have hcell : ∀ k o, w'.cell? ⟨k, o, none⟩ = w.cell? ⟨k, o, none⟩ := fun k o => by
    by_cases c : k = g.tip st
    · subst c; simp [World.cell?, hat, hb]
    · exact World.cell?_of_block (hne k c)
  have S : Stp g w h g w' (h.drop st) :=
    { next := Nat.le_refl _
      nobj := Nat.le_refl _
      obj := fun _ _ => rfl
      mp := fun _ _ => rfl
      pub := fun _ => Nat.le_refl _
      cell := fun b o _ => hcell b o
      tip := fun s _ e' he => ⟨(hdt s e' he).2, rfl, rfl⟩
      row := fun s _ e' he off k r => by
        obtain ⟨q1, q2⟩ := hdt s e' he
        obtain ⟨c, t, hh, hl⟩ := r
        exact ⟨c, t, by rw [hne _ (fun q => q1 (I.tipI _ _ _ _ q2 ht q))]; exact hh, hl⟩
      shape := fun b s hs => by
        by_cases c : b = g.tip st
        · subst c
          unfold World.shape? at hs ⊢
          rw [hb] at hs
          rw [hat]; exact hs
        · exact shape_blk hs (hne b c) }
  refine ⟨?_, S⟩
  exact
    { below := I.below.trans ⟨s1, s2, s3, Nat.le_of_eq hsz.symm, fun k hk => hne k (by have := (I.tipB st e ht).2.2.1; omega)⟩
      next := I.next
      objs := fun o ho hm hne' => by
        obtain ⟨cs, t, h1, h2, h3, h4⟩ := I.objs o ho hm hne'
        exact ⟨cs, t, by rw [hne _ (I.tipO o st e ho ht)]; exact h1, h2, h3, fun i i1 i2 => (h4 i i1 i2).stp S⟩
      maps := fun o ho hm => (I.maps o ho hm).stp S rfl (fun _ _ q => by rw [hne _ (I.tipO o st e ho ht)]; exact q) rfl
      objL := fun ho => by rw [hsz]; exact I.objL ho
      objB := I.objB
      objI := I.objI
      tipB := fun s e' he => by
        obtain ⟨q1, q2⟩ := hdt s e' he
        obtain ⟨a, b, c, d⟩ := I.tipB s e' q2
        exact ⟨a, b, c, by rw [hsz]; exact d⟩
      tipI := fun s e' s' e'' h1 h2 => I.tipI s e' s' e'' (hdt s e' h1).2 (hdt s' e'' h2).2
      tipO := fun o s e' ho he => I.tipO o s e' ho (hdt s e' he).2
      pubB := fun b hb' => I.pubB b (by rw [← hsz]; exact hb') }
theorem bstr_ok (W : World) {Z : Value → AH → Prop} (o : Nat) (h : AH) (a : V) (st : Nat) (l : Str) (Q : V → AH → Prop) (ob : h.objs o = [a, .tys u8T (.sl 1 st (bytesV l))]) (hl0 : l ≠ []) (h3 : 3 ≤ st) (ht : h.tips st = some 1) (hl : l.length ≤ 2 ^ 40) (hQ : Q (.str l) (h.drop st)) :
    Ecx (cxZ W Z) K.strings_Builder_String [.tp o tbT 2] h Q := by
  intro g w cargs I rl
  obtain ⟨a0, rfl, r0⟩ := arg1 rl
  cases r0 with
  | tp _ _ _ hn hm hs =>
  obtain ⟨x, k1, k2, k3⟩ := I.cell hn hm (i := 1) (v := .tys u8T (.sl 1 st (bytesV l))) (by rw [ob]; rfl)
  refine .inl ⟨_, by decide, by exact Try.func22, by kernel_rfl, by kernel_rfl, ?_⟩
  have hcl : cellsOf (bytesV l) = bytesV l := by
    clear hl0 ht hl hQ k1 k2 k3 ob rl
    induction l with
    | nil => rfl
    | cons a l ih => simp only [bytesV, List.map_cons, cellsOf_cons, V.cells, List.singleton_append] at *; rw [ih]
  have hbl : (bytesV l).length = l.length := bytesV_len l
  cases k2 with
  | tys _ _ ad n c r0 ht0 =>
  generalize hv : bytesV l = Lb at r0
  cases r0 with
  | slnil => omega
  | slemp => omega
  | sl _ _ _ b off cap xf q1 ks kcap ke kc ko kp kr q2 q3 =>
  subst hv
  obtain ⟨rfl, k, hsh, hck⟩ := ht0 b off none rfl
  obtain ⟨_, hbt, hpub, cs, t, hh, hlc⟩ := q3 1 ht
  have hcell : ∀ j s, l[j]? = some s → w.cell? ⟨b, j, none⟩ = some (.int .u8 s.toNat) := fun j s hj => by
    obtain ⟨hj1, hj2⟩ := List.getElem?_eq_some_iff.1 hj
    have hjc : j < (cellsOf (bytesV l)).length := by rw [hcl, hbl]; exact hj1
    have e0 := kc j hjc
    rw [Nat.zero_add] at e0
    rw [e0]
    have r := kr j hjc
    have : (cellsOf (bytesV l))[j] = .int .u8 s.toNat := by
      have h1 : (cellsOf (bytesV l))[j]? = some (.int .u8 s.toNat) := by rw [hcl]; simp [bytesV, hj]
      exact (List.getElem_eq_iff hjc).2 h1
    rw [this] at r
    generalize xf j = u at r
    cases r; rfl
  rw [hbl] at k1 kcap
  subst hbt
  refine (str_walk (P := Try.prog) (ρ := Try.layJoin_ren) { Try.layJoin with } Try.bldExtra (g.obj o) (g.tip st) k _ l w k1 hsh hl0 kcap hck hl hcell).mono ?_
  rintro e w' ⟨rfl, rfl⟩
  obtain ⟨I', S⟩ := freeze_inv I.drew ht l.length (cs := cs) (t := t) (fz := (0, 0)) hh
  exact .inl ⟨_, rfl, _, _, _, hQ, I', .str l, (Stp.drew g w h).trans S⟩
end Go.Proofs.Ytdbbgkdepjidjaa.Al
namespace Go.Proofs.Ytdbbgkdepjidjaa.Al
open Go
theorem tie_strings_Builder_WriteString : compFn Try.prog yK Try.f19 = some A.strings_Builder_WriteString.strip := by kernel_rfl
theorem has_strings_Builder_WriteString (W0 : World) {Z : Value → AH → Prop} : Has (Ecx (cxZ W0 Z)) K.strings_Builder_WriteString A.strings_Builder_WriteString := fn_sound Try.checked.mixed rfl (by exact Try.func19) (by kernel_rfl) tie_strings_Builder_WriteString
theorem tie_strings_Builder_Len : compFn Try.prog yK Try.f21 = some A.strings_Builder_Len.strip := by kernel_rfl
theorem has_strings_Builder_Len (W0 : World) {Z : Value → AH → Prop} : Has (Ecx (cxZ W0 Z)) K.strings_Builder_Len A.strings_Builder_Len := fn_sound Try.checked.mixed rfl (by exact Try.func21) (by kernel_rfl) tie_strings_Builder_Len
theorem tie_slices_ContainsFunc_Rule : compFn Try.prog yK Try.f28 = some A.slices_ContainsFunc_Rule.strip := by kernel_rfl
theorem has_slices_ContainsFunc_Rule (W0 : World) {Z : Value → AH → Prop} : Has (Ecx (cxZ W0 Z)) K.slices_ContainsFunc_Rule A.slices_ContainsFunc_Rule := fn_sound Try.checked.mixed rfl (by exact Try.func28) (by kernel_rfl) tie_slices_ContainsFunc_Rule
theorem tie_slices_Equal_int : compFn Try.prog yK Try.f31 = some A.slices_Equal_int.strip := by kernel_rfl
theorem has_slices_Equal_int (W0 : World) {Z : Value → AH → Prop} : Has (Ecx (cxZ W0 Z)) K.slices_Equal_int A.slices_Equal_int := fn_sound Try.checked.mixed rfl (by exact Try.func31) (by kernel_rfl) tie_slices_Equal_int
theorem tie_slices_Equal_Rule : compFn Try.prog yK Try.f35 = some A.slices_Equal_Rule.strip := by kernel_rfl
theorem has_slices_Equal_Rule (W0 : World) {Z : Value → AH → Prop} : Has (Ecx (cxZ W0 Z)) K.slices_Equal_Rule A.slices_Equal_Rule := fn_sound Try.checked.mixed rfl (by exact Try.func35) (by kernel_rfl) tie_slices_Equal_Rule
theorem tie_slices_EqualFunc_Node : compFn Try.prog yK Try.f36 = some A.slices_EqualFunc_Node.strip := by kernel_rfl
theorem has_slices_EqualFunc_Node (W0 : World) {Z : Value → AH → Prop} : Has (Ecx (cxZ W0 Z)) K.slices_EqualFunc_Node A.slices_EqualFunc_Node := fn_sound Try.checked.mixed rfl (by exact Try.func36) (by kernel_rfl) tie_slices_EqualFunc_Node
theorem tie_slices_IndexFunc_Rule : compFn Try.prog yK Try.f51 = some A.slices_IndexFunc_Rule.strip := by kernel_rfl
theorem has_slices_IndexFunc_Rule (W0 : World) {Z : Value → AH → Prop} : Has (Ecx (cxZ W0 Z)) K.slices_IndexFunc_Rule A.slices_IndexFunc_Rule := fn_sound Try.checked.mixed rfl (by exact Try.func51) (by kernel_rfl) tie_slices_IndexFunc_Rule
theorem tie_slices_Contains_byte : compFn Try.prog yK Try.f53 = some A.slices_Contains_byte.strip := by kernel_rfl
theorem has_slices_Contains_byte (W0 : World) {Z : Value → AH → Prop} : Has (Ecx (cxZ W0 Z)) K.slices_Contains_byte A.slices_Contains_byte := fn_sound Try.checked.mixed rfl (by exact Try.func53) (by kernel_rfl) tie_slices_Contains_byte
theorem tie_slices_Index_byte : compFn Try.prog yK Try.f60 = some A.slices_Index_byte.strip := by kernel_rfl
theorem has_slices_Index_byte (W0 : World) {Z : Value → AH → Prop} : Has (Ecx (cxZ W0 Z)) K.slices_Index_byte A.slices_Index_byte := fn_sound Try.checked.mixed rfl (by exact Try.func60) (by kernel_rfl) tie_slices_Index_byte
theorem tie_strings_Cut : compFn Try.prog yK Try.f61 = some A.strings_Cut.strip := by kernel_rfl
theorem has_strings_Cut (W0 : World) {Z : Value → AH → Prop} : Has (Ecx (cxZ W0 Z)) K.strings_Cut A.strings_Cut := fn_sound Try.checked.mixed rfl (by exact Try.func61) (by kernel_rfl) tie_strings_Cut
theorem tie_strings_IndexByte : compFn Try.prog yK Try.f66 = some A.strings_IndexByte.strip := by kernel_rfl
theorem has_strings_IndexByte (W0 : World) {Z : Value → AH → Prop} : Has (Ecx (cxZ W0 Z)) K.strings_IndexByte A.strings_IndexByte := fn_sound Try.checked.mixed rfl (by exact Try.func66) (by kernel_rfl) tie_strings_IndexByte
theorem tie_stringslite_Cut : compFn Try.prog yK Try.f71 = some A.stringslite_Cut.strip := by kernel_rfl
theorem has_stringslite_Cut (W0 : World) {Z : Value → AH → Prop} : Has (Ecx (cxZ W0 Z)) K.stringslite_Cut A.stringslite_Cut := fn_sound Try.checked.mixed rfl (by exact Try.func71) (by kernel_rfl) tie_stringslite_Cut
theorem tie_stringslite_IndexByte : compFn Try.prog yK Try.f72 = some A.stringslite_IndexByte.strip := by kernel_rfl
theorem has_stringslite_IndexByte (W0 : World) {Z : Value → AH → Prop} : Has (Ecx (cxZ W0 Z)) K.stringslite_IndexByte A.stringslite_IndexByte := fn_sound Try.checked.mixed rfl (by exact Try.func72) (by kernel_rfl) tie_stringslite_IndexByte
theorem tie_stringslite_Index : compFn Try.prog yK Try.f78 = some A.stringslite_Index.strip := by kernel_rfl
theorem has_stringslite_Index (W0 : World) {Z : Value → AH → Prop} : Has (Ecx (cxZ W0 Z)) K.stringslite_Index A.stringslite_Index := fn_sound Try.checked.mixed rfl (by exact Try.func78) (by kernel_rfl) tie_stringslite_Index
end Go.Proofs.Ytdbbgkdepjidjaa.Al
namespace Go.Proofs.Ytdbbgkdepjidjaa.Al
open Go
theorem tie_scan_Scan : compFn Try.prog yK Try.f32 = some A.scan_Scan.strip := by kernel_rfl
theorem has_scan_Scan (W0 : World) {Z : Value → AH → Prop} : Has (Ecx (cxZ W0 Z)) K.scan_Scan A.scan_Scan := fn_sound Try.checked.mixed rfl (by exact Try.func32) (by kernel_rfl) tie_scan_Scan
theorem tie_scan_first : compFn Try.prog yK Try.f54 = some A.scan_first.strip := by kernel_rfl
theorem has_scan_first (W0 : World) {Z : Value → AH → Prop} : Has (Ecx (cxZ W0 Z)) K.scan_first A.scan_first := fn_sound Try.checked.mixed rfl (by exact Try.func54) (by kernel_rfl) tie_scan_first
theorem tie_scan_letter : compFn Try.prog yK Try.f62 = some A.scan_letter.strip := by kernel_rfl
theorem has_scan_letter (W0 : World) {Z : Value → AH → Prop} : Has (Ecx (cxZ W0 Z)) K.scan_letter A.scan_letter := fn_sound Try.checked.mixed rfl (by exact Try.func62) (by kernel_rfl) tie_scan_letter
theorem tie_scan_run : compFn Try.prog yK Try.f63 = some A.scan_run.strip := by kernel_rfl
theorem has_scan_run (W0 : World) {Z : Value → AH → Prop} : Has (Ecx (cxZ W0 Z)) K.scan_run A.scan_run := fn_sound Try.checked.mixed rfl (by exact Try.func63) (by kernel_rfl) tie_scan_run
theorem tie_scan_part : compFn Try.prog yK Try.f64 = some A.scan_part.strip := by kernel_rfl
theorem has_scan_part (W0 : World) {Z : Value → AH → Prop} : Has (Ecx (cxZ W0 Z)) K.scan_part A.scan_part := fn_sound Try.checked.mixed rfl (by exact Try.func64) (by kernel_rfl) tie_scan_part
theorem tie_scan_quoted : compFn Try.prog yK Try.f65 = some A.scan_quoted.strip := by kernel_rfl
theorem has_scan_quoted (W0 : World) {Z : Value → AH → Prop} : Has (Ecx (cxZ W0 Z)) K.scan_quoted A.scan_quoted := fn_sound Try.checked.mixed rfl (by exact Try.func65) (by kernel_rfl) tie_scan_quoted
end Go.Proofs.Ytdbbgkdepjidjaa.Al
namespace Go.Proofs.Ytdbbgkdepjidjaa.Al
open Go
theorem tie_o_rules_Right : compFn Try.prog ({ yK with om := fun n => ([1000098] : List Nat).contains n }) Try.f14 = some A.rules_Right_o.strip := by kernel_rfl
theorem has_o_rules_Right (W0 : World) {Z : Value → AH → Prop} : Has (Ecx (cxZ W0 Z)) K.rules_Right A.rules_Right_o := fn_sound (Y := ({ yK with om := fun n => ([1000098] : List Nat).contains n })) Try.checked.mixed rfl (by exact Try.func14) (by kernel_rfl) tie_o_rules_Right
end Go.Proofs.Ytdbbgkdepjidjaa.Al
namespace Go.Proofs.Ytdbbgkdepjidjaa.Al
open Go Go.RowKit
theorem ext_indexByte (W : World) {Z : Value → AH → Prop} (s : Str) (c : Int) (h : AH) (Q : V → AH → Prop) (hQ : Q (.int .i64 (idxB s c)) h) : Ecx (cxZ W Z) K.bytealg_IndexByteString [.str s, .int .u8 c] h Q :=
  indexByte_ext (X := cxZ W Z) (fn := Try.f79) (by exact Try.func79) (by kernel_rfl) (by kernel_rfl) (by kernel_rfl) (by kernel_rfl) s c hQ
theorem ls (W : World) {Z : Value → AH → Prop} : LS (cxZ W Z) := ⟨has_scan_letter W, has_scan_part W, has_scan_quoted W, has_scan_run W, has_scan_first W, has_scan_Scan W, has_strings_Cut W, has_strings_IndexByte W, has_stringslite_Cut W, has_stringslite_IndexByte W, has_stringslite_Index W, ext_indexByte W⟩
theorem lru (W : World) {Z : Value → AH → Prop} : LRu (cxZ W Z) := ⟨ls W, has_rules_token W, has_rules_Tree_fine W, has_rules_Tree_fine_1 W, has_rules_Right W, has_rules_Right_1 W, has_slices_ContainsFunc_Rule W, has_slices_IndexFunc_Rule W, has_slices_Contains_byte W, has_slices_Index_byte W, has_slices_Equal_int W⟩
end Go.Proofs.Ytdbbgkdepjidjaa.Al
namespace Go.Proofs.Ytdbbgkdepjidjaa.Al
open Go
theorem tie_probateref05_Scan : compFn Try.prog yK Try.f23 = some A.probateref05_Scan.strip := by kernel_rfl
theorem has_probateref05_Scan (W0 : World) {Z : Value → AH → Prop} : Has (Ecx (cxZ W0 Z)) K.probateref05_Scan A.probateref05_Scan := fn_sound Try.checked.mixed rfl (by exact Try.func23) (by kernel_rfl) tie_probateref05_Scan
theorem tie_probateref05_letter : compFn Try.prog yK Try.f46 = some A.probateref05_letter.strip := by kernel_rfl
theorem has_probateref05_letter (W0 : World) {Z : Value → AH → Prop} : Has (Ecx (cxZ W0 Z)) K.probateref05_letter A.probateref05_letter := fn_sound Try.checked.mixed rfl (by exact Try.func46) (by kernel_rfl) tie_probateref05_letter
theorem tie_probateref05_part : compFn Try.prog yK Try.f47 = some A.probateref05_part.strip := by kernel_rfl
theorem has_probateref05_part (W0 : World) {Z : Value → AH → Prop} : Has (Ecx (cxZ W0 Z)) K.probateref05_part A.probateref05_part := fn_sound Try.checked.mixed rfl (by exact Try.func47) (by kernel_rfl) tie_probateref05_part
end Go.Proofs.Ytdbbgkdepjidjaa.Al
namespace Go.Proofs.Ytdbbgkdepjidjaa.Al
open Go
theorem tie_probatelaw06_Large : compFn Try.prog yK Try.f7 = some A.probatelaw06_Large.strip := by kernel_rfl
theorem has_probatelaw06_Large (W0 : World) {Z : Value → AH → Prop} : Has (Ecx (cxZ W0 Z)) K.probatelaw06_Large A.probatelaw06_Large := fn_sound Try.checked.mixed rfl (by exact Try.func7) (by kernel_rfl) tie_probatelaw06_Large
theorem tie_probatelaw06_Own : compFn Try.prog yK Try.f10 = some A.probatelaw06_Own.strip := by kernel_rfl
theorem has_probatelaw06_Own (W0 : World) {Z : Value → AH → Prop} : Has (Ecx (cxZ W0 Z)) K.probatelaw06_Own A.probatelaw06_Own := fn_sound Try.checked.mixed rfl (by exact Try.func10) (by kernel_rfl) tie_probatelaw06_Own
theorem tie_probateref06_Right : compFn Try.prog yK Try.f12 = some A.probateref06_Right.strip := by kernel_rfl
theorem has_probateref06_Right (W0 : World) {Z : Value → AH → Prop} : Has (Ecx (cxZ W0 Z)) K.probateref06_Right A.probateref06_Right := fn_sound Try.checked.mixed rfl (by exact Try.func12) (by kernel_rfl) tie_probateref06_Right
theorem tie_probateref06_under : compFn Try.prog yK Try.f24 = some A.probateref06_under.strip := by kernel_rfl
theorem has_probateref06_under (W0 : World) {Z : Value → AH → Prop} : Has (Ecx (cxZ W0 Z)) K.probateref06_under A.probateref06_under := fn_sound Try.checked.mixed rfl (by exact Try.func24) (by kernel_rfl) tie_probateref06_under
theorem tie_probateref06_Tree_fine : compFn Try.prog yK Try.f25 = some A.probateref06_Tree_fine.strip := by kernel_rfl
theorem has_probateref06_Tree_fine (W0 : World) {Z : Value → AH → Prop} : Has (Ecx (cxZ W0 Z)) K.probateref06_Tree_fine A.probateref06_Tree_fine := fn_sound Try.checked.mixed rfl (by exact Try.func25) (by kernel_rfl) tie_probateref06_Tree_fine
theorem tie_probateref06_Tree_rule : compFn Try.prog yK Try.f48 = some A.probateref06_Tree_rule.strip := by kernel_rfl
theorem has_probateref06_Tree_rule (W0 : World) {Z : Value → AH → Prop} : Has (Ecx (cxZ W0 Z)) K.probateref06_Tree_rule A.probateref06_Tree_rule := fn_sound Try.checked.mixed rfl (by exact Try.func48) (by kernel_rfl) tie_probateref06_Tree_rule
theorem tie_probateref06_quote : compFn Try.prog yK Try.f49 = some A.probateref06_quote.strip := by kernel_rfl
theorem has_probateref06_quote (W0 : World) {Z : Value → AH → Prop} : Has (Ecx (cxZ W0 Z)) K.probateref06_quote A.probateref06_quote := fn_sound Try.checked.mixed rfl (by exact Try.func49) (by kernel_rfl) tie_probateref06_quote
end Go.Proofs.Ytdbbgkdepjidjaa.Al
namespace Go.Proofs.Ytdbbgkdepjidjaa.Al
open Go
theorem tie_probatelaw07_ShowOne : compFn Try.prog yK Try.f5 = some A.probatelaw07_ShowOne.strip := by kernel_rfl
theorem has_probatelaw07_ShowOne (W0 : World) {Z : Value → AH → Prop} : Has (Ecx (cxZ W0 Z)) K.probatelaw07_ShowOne A.probatelaw07_ShowOne := fn_sound Try.checked.mixed rfl (by exact Try.func5) (by kernel_rfl) tie_probatelaw07_ShowOne
theorem tie_probatelaw07_awake : compFn Try.prog yK Try.f6 = some A.probatelaw07_awake.strip := by kernel_rfl
theorem has_probatelaw07_awake (W0 : World) {Z : Value → AH → Prop} : Has (Ecx (cxZ W0 Z)) K.probatelaw07_awake A.probatelaw07_awake := fn_sound Try.checked.mixed rfl (by exact Try.func6) (by kernel_rfl) tie_probatelaw07_awake
theorem tie_probateref07_Text : compFn Try.prog yK Try.f9 = some A.probateref07_Text.strip := by kernel_rfl
theorem has_probateref07_Text (W0 : World) {Z : Value → AH → Prop} : Has (Ecx (cxZ W0 Z)) K.probateref07_Text A.probateref07_Text := fn_sound Try.checked.mixed rfl (by exact Try.func9) (by kernel_rfl) tie_probateref07_Text
theorem tie_probateref07_Node : compFn Try.prog yK Try.f13 = some A.probateref07_Node.strip := by kernel_rfl
theorem has_probateref07_Node (W0 : World) {Z : Value → AH → Prop} : Has (Ecx (cxZ W0 Z)) K.probateref07_Node A.probateref07_Node := fn_sound Try.checked.mixed rfl (by exact Try.func13) (by kernel_rfl) tie_probateref07_Node
theorem tie_probateref07_item : compFn Try.prog yK Try.f26 = some A.probateref07_item.strip := by kernel_rfl
theorem has_probateref07_item (W0 : World) {Z : Value → AH → Prop} : Has (Ecx (cxZ W0 Z)) K.probateref07_item A.probateref07_item := fn_sound Try.checked.mixed rfl (by exact Try.func26) (by kernel_rfl) tie_probateref07_item
theorem tie_probateref07_brackets : compFn Try.prog yK Try.f50 = some A.probateref07_brackets.strip := by kernel_rfl
theorem has_probateref07_brackets (W0 : World) {Z : Value → AH → Prop} : Has (Ecx (cxZ W0 Z)) K.probateref07_brackets A.probateref07_brackets := fn_sound Try.checked.mixed rfl (by exact Try.func50) (by kernel_rfl) tie_probateref07_brackets
end Go.Proofs.Ytdbbgkdepjidjaa.Al
namespace Go.Proofs.Ytdbbgkdepjidjaa.Al
open Go
theorem tie_show_Text : compFn Try.prog yK Try.f8 = some A.show_Text.strip := by kernel_rfl
theorem has_show_Text (W0 : World) {Z : Value → AH → Prop} : Has (Ecx (cxZ W0 Z)) K.show_Text A.show_Text := fn_sound Try.checked.mixed rfl (by exact Try.func8) (by kernel_rfl) tie_show_Text
theorem tie_show_Tokens : compFn Try.prog yK Try.f11 = some A.show_Tokens.strip := by kernel_rfl
theorem has_show_Tokens (W0 : World) {Z : Value → AH → Prop} : Has (Ecx (cxZ W0 Z)) K.show_Tokens A.show_Tokens := fn_sound Try.checked.mixed rfl (by exact Try.func11) (by kernel_rfl) tie_show_Tokens
theorem tie_show_writer_put : compFn Try.prog yK Try.f17 = some A.show_writer_put.strip := by kernel_rfl
theorem has_show_writer_put (W0 : World) {Z : Value → AH → Prop} : Has (Ecx (cxZ W0 Z)) K.show_writer_put A.show_writer_put := fn_sound Try.checked.mixed rfl (by exact Try.func17) (by kernel_rfl) tie_show_writer_put
theorem tie_show_writer_node : compFn Try.prog yK Try.f18 = some A.show_writer_node.strip := by kernel_rfl
theorem has_show_writer_node (W0 : World) {Z : Value → AH → Prop} : Has (Ecx (cxZ W0 Z)) K.show_writer_node A.show_writer_node := fn_sound Try.checked.mixed rfl (by exact Try.func18) (by kernel_rfl) tie_show_writer_node
theorem tie_show_each : compFn Try.prog yK Try.f38 = some A.show_each.strip := by kernel_rfl
theorem has_show_each (W0 : World) {Z : Value → AH → Prop} : Has (Ecx (cxZ W0 Z)) K.show_each A.show_each := fn_sound Try.checked.mixed rfl (by exact Try.func38) (by kernel_rfl) tie_show_each
theorem tie_show_writer_item : compFn Try.prog yK Try.f39 = some A.show_writer_item.strip := by kernel_rfl
theorem has_show_writer_item (W0 : World) {Z : Value → AH → Prop} : Has (Ecx (cxZ W0 Z)) K.show_writer_item A.show_writer_item := fn_sound Try.checked.mixed rfl (by exact Try.func39) (by kernel_rfl) tie_show_writer_item
theorem tie_show_writer_alternative : compFn Try.prog yK Try.f40 = some A.show_writer_alternative.strip := by kernel_rfl
theorem has_show_writer_alternative (W0 : World) {Z : Value → AH → Prop} : Has (Ecx (cxZ W0 Z)) K.show_writer_alternative A.show_writer_alternative := fn_sound Try.checked.mixed rfl (by exact Try.func40) (by kernel_rfl) tie_show_writer_alternative
theorem tie_show_writer_node_1 : compFn Try.prog yK Try.f41 = some A.show_writer_node_1.strip := by kernel_rfl
theorem has_show_writer_node_1 (W0 : World) {Z : Value → AH → Prop} : Has (Ecx (cxZ W0 Z)) K.show_writer_node_1 A.show_writer_node_1 := fn_sound Try.checked.mixed rfl (by exact Try.func41) (by kernel_rfl) tie_show_writer_node_1
theorem tie_show_repeated : compFn Try.prog yK Try.f42 = some A.show_repeated.strip := by kernel_rfl
theorem has_show_repeated (W0 : World) {Z : Value → AH → Prop} : Has (Ecx (cxZ W0 Z)) K.show_repeated A.show_repeated := fn_sound Try.checked.mixed rfl (by exact Try.func42) (by kernel_rfl) tie_show_repeated
theorem tie_show_writer_atom : compFn Try.prog yK Try.f43 = some A.show_writer_atom.strip := by kernel_rfl
theorem has_show_writer_atom (W0 : World) {Z : Value → AH → Prop} : Has (Ecx (cxZ W0 Z)) K.show_writer_atom A.show_writer_atom := fn_sound Try.checked.mixed rfl (by exact Try.func43) (by kernel_rfl) tie_show_writer_atom
theorem tie_show_writer_bracketed : compFn Try.prog yK Try.f57 = some A.show_writer_bracketed.strip := by kernel_rfl
theorem has_show_writer_bracketed (W0 : World) {Z : Value → AH → Prop} : Has (Ecx (cxZ W0 Z)) K.show_writer_bracketed A.show_writer_bracketed := fn_sound Try.checked.mixed rfl (by exact Try.func57) (by kernel_rfl) tie_show_writer_bracketed
end Go.Proofs.Ytdbbgkdepjidjaa.Al
namespace Go.Proofs.Ytdbbgkdepjidjaa.Al
open Go Go.RowKit
set_option linter.unusedVariables false
theorem lwr (W : World) : LWr (cxOf W) := ⟨has_show_writer_put W, has_show_repeated W, has_show_writer_bracketed W, has_show_writer_atom W, has_show_writer_item W, has_show_each W, has_show_writer_alternative W, has_show_writer_node W, has_show_writer_node_1 W⟩
theorem lwrR (W : World) : LWrR (cxOf W) := ⟨has_probateref07_brackets W, has_probateref07_item W, has_probateref07_Node W⟩
theorem lr6s (W : World) : LR6 (cxOf W) := ⟨⟨has_probateref05_letter W, has_probateref05_part W, has_probateref05_Scan W⟩, has_probateref06_under W, has_probateref06_Right W, has_probateref06_Tree_fine W, has_probateref06_Tree_rule W, has_probateref06_quote W⟩
theorem l07 (W : World) : L07 (cxOf W) := ⟨lwr W, lwrR W, lru W, has_o_rules_Right W, lr6s W, has_show_Tokens W, has_show_Text W, has_probateref07_Text W, has_strings_Builder_WriteString W, has_strings_Builder_Len W, join_ok W, copy_ok W, bstr_ok W⟩
theorem l07L (W : World) : L07L (cxOf W) := ⟨l07 W, has_probatelaw06_Large W, has_probatelaw06_Own W, has_probatelaw07_awake W⟩
end Go.Proofs.Ytdbbgkdepjidjaa.Al
namespace Go.Proofs.Ytdbbgkdepjidjaa.Al
open Go Go.RowKit
set_option linter.unusedSimpArgs false
set_option linter.unusedVariables false
abbrev KT := Nat × Str
def kt (t : Tok) : KT := (t.kind, t.text)
def suf (toks : List Tok) (a : Nat) : List KT := (toks.drop a).map kt
/-- The same, in more brackets. -/
def brE : Bool → List KT → List KT
  | _, [] => []
  | inn, (k, x) :: l => if k = 3 ∧ x = [58] then (3, [58]) :: (3, [40]) :: brE true l
    else if k = 3 ∧ x = [59] then (3, [41]) :: (3, [59]) :: brE false l
    else if k ≠ 3 ∧ inn = true then (3, [40]) :: (k, x) :: (3, [41]) :: brE inn l
    else (k, x) :: brE inn l
theorem suf_cons {toks : List Tok} {a : Nat} {p : KT} {r : List KT} (h : suf toks a = p :: r) : ∃ hlt : a < toks.length, kt toks[a] = p ∧ suf toks (a + 1) = r := by
  unfold suf at h ⊢
  have hlt : a < toks.length := by
    refine Classical.byContradiction fun c => ?_
    rw [List.drop_eq_nil_of_le (by omega)] at h; cases h
  rw [List.drop_eq_getElem_cons hlt, List.map_cons] at h
  cases h
  exact ⟨hlt, rfl, rfl⟩
theorem suf_at {toks : List Tok} {a : Nat} (hlt : a < toks.length) : suf toks a = kt toks[a] :: suf toks (a + 1) := by
  unfold suf; rw [List.drop_eq_getElem_cons hlt, List.map_cons]
theorem suf_nil {toks : List Tok} {a : Nat} : suf toks a = [] ↔ toks.length ≤ a := by simp [suf]
theorem ahead_suf {toks : List Tok} {a : Nat} {m : Str} : aheadP toks a m = true ↔ ∃ r, suf toks a = (3, m) :: r := by
  constructor
  · intro h
    have hlt := aheadP_lt h
    rw [suf_at hlt]
    simp [aheadP, hlt] at h
    exact ⟨_, by rw [show kt toks[a] = (3, m) by simp [kt, h]]⟩
  · rintro ⟨r, h⟩
    obtain ⟨hlt, e, _⟩ := suf_cons h
    simp only [kt, Prod.mk.injEq] at e
    simp [aheadP, hlt, e]
theorem ahead_of {toks : List Tok} {a : Nat} {p : KT} {r : List KT} (h : suf toks a = p :: r) (m : Str) : aheadP toks a m = decide (p = (3, m)) := by
  cases hh : aheadP toks a m with
  | true => obtain ⟨r', e⟩ := ahead_suf.1 hh; rw [h] at e; cases e; simp
  | false =>
    symm; rw [decide_eq_false_iff_not]
    rintro rfl
    rw [ahead_suf.2 ⟨r, h⟩] at hh; cases hh
theorem ahead_nil {toks : List Tok} {a : Nat} (h : suf toks a = []) (m : Str) : aheadP toks a m = false := by
  cases hh : aheadP toks a m with
  | true => obtain ⟨r', e⟩ := ahead_suf.1 hh; rw [h] at e; cases e
  | false => rfl
theorem bgn_of {toks : List Tok} {a : Nat} {k : Nat} {x : Str} {r : List KT} (h : suf toks a = (k, x) :: r) : bgnP toks a = (decide (k ≠ 3) || decide (x = [40])) := by
  obtain ⟨hlt, e, _⟩ := suf_cons h
  simp only [kt, Prod.mk.injEq] at e
  simp [bgnP, hlt, e]
theorem bgn_nil {toks : List Tok} {a : Nat} (h : suf toks a = []) : bgnP toks a = false := by
  have := suf_nil.1 h
  simp [bgnP, this]
/-- Alike states: of the text, and of the one in more brackets. -/
structure BrR (T T' : List Tok) (inn : Bool) (s s' : PS) : Prop where
  suf : suf T' s'.at' = brE inn (Al.suf T s.at')
  le : s.at' ≤ T.length
  le' : s'.at' ≤ T'.length
  nodes : s'.nodes = s.nodes
  rules : s'.rules = s.rules
  given : s'.given.map (·.name) = s.given.map (·.name)
  used : s'.used.map (·.name) = s.used.map (·.name)
section
variable {T T' : List Tok} {en en' : Nat}
theorem suf_lt {toks : List Tok} {a : Nat} {p : KT} {r : List KT} (h : suf toks a = p :: r) : a < toks.length := (suf_cons h).1
theorem BrR.ahead {s s' : PS} (b : BrR T T' true s s') (m : Str) (h1 : m ≠ [40]) (h2 : m ≠ [41]) (h3 : m ≠ [59]) : aheadP T' s'.at' m = aheadP T s.at' m := by
  have e := b.suf
  cases hs : Al.suf T s.at' with
  | nil => rw [hs] at e; rw [ahead_nil hs, ahead_nil (by rw [e]; rfl)]
  | cons p l =>
    obtain ⟨k, x⟩ := p
    rw [hs] at e
    rw [ahead_of hs]
    simp only [brE] at e
    split at e
    · rename_i c; rw [ahead_of e, c.1, c.2]
    split at e
    · rename_i c; rw [ahead_of e, c.1, c.2]; simp [Ne.symm h2, Ne.symm h3]
    split at e
    · rename_i c; rw [ahead_of e]; simp [Ne.symm h1]; intro q; exact absurd q c.1
    · rw [ahead_of e]
theorem BrR.lay {inn : Bool} {s s' : PS} (b : BrR T T' inn s s') (k : Int) (n : Str) (l : List Int) : BrR T T' inn (s.lay k n l) (s'.lay k n l) :=
  ⟨b.suf, b.le, b.le', by simp [PS.lay, b.nodes], b.rules, b.given, b.used⟩
theorem BrR.node {inn : Bool} {s s' : PS} (b : BrR T T' inn s s') (k : Int) (n : Str) (l : List Int) : (nodeP k n l s').2 = (nodeP k n l s).2 ∧ BrR T T' inn (nodeP k n l s).1 (nodeP k n l s').1 :=
  ⟨by simp [nodeP, b.nodes], b.lay k n l⟩
theorem BrR.one {inn : Bool} {s s' : PS} (b : BrR T T' inn s s') (k : Int) (l : List Int) : (oneP k l s').2 = (oneP k l s).2 ∧ BrR T T' inn (oneP k l s).1 (oneP k l s').1 := by
  unfold oneP
  split
  · exact ⟨rfl, b⟩
  · exact b.node k [] _
/-- One token further in both. -/
theorem BrR.step {inn : Bool} {s s' : PS} (b : BrR T T' inn s s') {p : KT} {r : List KT} (h : Al.suf T s.at' = p :: r) (inn2 : Bool) (e : brE inn (p :: r) = p :: brE inn2 r) : BrR T T' inn2 s.adv s'.adv := by
  obtain ⟨l1, _, h2⟩ := suf_cons h
  have hs := b.suf
  rw [h, e] at hs
  obtain ⟨l2, _, h3⟩ := suf_cons hs
  exact ⟨by show Al.suf T' (s'.at' + 1) = _; rw [h3]; show _ = brE inn2 (Al.suf T (s.at' + 1)); rw [h2], l1, l2, b.nodes, b.rules, b.given, b.used⟩
end
/-! ### Names -/
/-! ### The text in brackets -/
def Sc (s : Str) (l : List KT) : Prop := ∀ n k, s.length ≤ n → (scanL n s k).2 = none ∧ (scanL n s k).1.map kt = l
theorem Sc.nil : Sc [] [] := fun n k _ => by rw [scanL_nil]; exact ⟨rfl, rfl⟩
theorem Sc.sp {s : Str} {l : List KT} (h : Sc s l) : Sc (32 :: s) l := fun n k hn => by
  obtain ⟨n, rfl⟩ : ∃ m, n = m + 1 := ⟨n - 1, by simp at hn; omega⟩
  have := h n (k + 1) (by simpa using hn)
  rw [scanL, if_neg (by simp), sfirst_space]
  simpa using this
theorem Sc.tok {s : Str} {l : List KT} (h : Sc s l) {t : Tok} (g : goodTok t) (hr : t.kind = 1 → runN partB s = 0) : Sc (tokText t ++ s) (kt t :: l) := fun n k hn => by
  have hp := tokText_pos g
  rw [List.length_append] at hn
  obtain ⟨n, rfl⟩ : ∃ m, n = m + 1 := ⟨n - 1, by omega⟩
  have := h n (k + (tokText t).length) (by omega)
  rw [scanL_tok g s hr]
  exact ⟨this.1, by simp [this.2, kt]⟩
theorem Sc.mk {s : Str} {l : List KT} (h : Sc s l) {c : UInt8} (hc : c ∈ marksL) : Sc (c :: s) ((3, [c]) :: l) := by
  have := h.tok (t := ⟨3, [c], 0⟩) (.inr (.inr ⟨rfl, c, rfl, hc⟩)) (fun e => by cases e)
  simpa [tokText, kt] using this
def ttx (p : KT) : Str := if p.1 = 2 then 39 :: (p.2 ++ [39]) else p.2
end Go.Proofs.Ytdbbgkdepjidjaa.Al
namespace Go.Proofs.Ytdbbgkdepjidjaa.Al
open Go Go.RowKit
set_option linter.unusedSimpArgs false
set_option linter.unusedVariables false
attribute [-simp] List.length_flatMap
section
variable (t : Te)
def mK (c : UInt8) : KT := (3, [c])
def brkK (l : List KT) : List KT := mK 40 :: (l ++ [mK 41])
def atomK (rec : Int → List KT) (n : Int) : List KT := if kindT t n = 6 ∨ kindT t n = 7 then rec n else brkK (rec n)
def itemK (rec : Int → List KT) (n : Int) : List KT := if 3 ≤ kindT t n ∧ kindT t n ≤ 5 then rec n else atomK t rec n
def altK (rec : Int → List KT) (n : Int) : List KT := if kindT t n = 1 then rec n else itemK t rec n
def eachK (sep : List KT) (one : Int → List KT) (l : List Int) : List KT := match l with
  | [] => []
  | k :: r => one k ++ r.flatMap fun k => sep ++ one k
/-- A node's tokens, with their kinds. -/
def tokK : Nat → Int → List KT
  | 0, _ => []
  | f + 1, n => match t.nodes[n.toNat]? with
    | none => []
    | some x => if x.kind = 6 then [(1, x.name)] else if x.kind = 7 then [(2, x.name)]
      else if x.kind = 1 then eachK [] (itemK t (tokK f)) x.kids
      else if x.kind = 2 then eachK [mK 124] (altK t (tokK f)) x.kids
      else atomK t (tokK f) (x.kids.getD 0 0) ++ [(3, markW x.kind)]
end
section
variable {t : Te}
theorem eachK_map {sep : List Str} {sepK : List KT} {one : Int → List Str} {oneK : Int → List KT} (h1 : sep = sepK.map ttx) (h2 : ∀ k, one k = (oneK k).map ttx) (l : List Int) : eachW sep one l = (eachK sepK oneK l).map ttx := by
  cases l with
  | nil => rfl
  | cons a l =>
    simp only [eachW, eachK, List.map_append, h2 a, h1]
    congr 1
    induction l with
    | nil => rfl
    | cons b l ih => simp only [List.flatMap_cons, List.map_append, ih, h2 b]
theorem tokW_map : ∀ (f : Nat) (n : Int), tokW t f n = (tokK t f n).map ttx
  | 0, n => rfl
  | f + 1, n => by
    have ih := tokW_map f
    have ha : ∀ n, atomW t (tokW t f) n = (atomK t (tokK t f) n).map ttx := fun n => by
      unfold atomW atomK
      split
      · exact ih n
      · simp [brk, brkK, ih n, mK, ttx]
    have hi : ∀ n, itemW t (tokW t f) n = (itemK t (tokK t f) n).map ttx := fun n => by
      unfold itemW itemK
      split
      · exact ih n
      · exact ha n
    have hl : ∀ n, altW t (tokW t f) n = (altK t (tokK t f) n).map ttx := fun n => by
      unfold altW altK
      split
      · exact ih n
      · exact hi n
    rw [tokW, tokK]
    cases hx : t.nodes[n.toNat]? with
    | none => rfl
    | some x =>
      simp only
      split
      · simp [ttx]
      split
      · simp [ttx]
      split
      · exact eachK_map (sep := []) (sepK := []) rfl hi _
      split
      · exact eachK_map (by simp [mK, ttx]) hl _
      · rw [ha]; simp [ttx]
def toksK (t : Te) (r : Rl) : List KT := tokK t t.nodes.length r.body
/-- The tokens of a text. -/
def ktT (t : Te) : List KT := t.rules.flatMap fun r => (1, r.name) :: mK 58 :: (toksK t r ++ [mK 59])
def goodK (p : KT) : Prop := goodTok ⟨p.1, p.2, 0⟩
theorem Sc.lf {s : Str} {l : List KT} (h : Sc s l) : Sc (10 :: s) l := fun n k hn => by
  obtain ⟨n, rfl⟩ : ∃ m, n = m + 1 := ⟨n - 1, by simp at hn; omega⟩
  have := h n (k + 1) (by simpa using hn)
  have e : sfirst (10 :: s) = (0, [], 1) := by rw [sfirst_cons, if_neg (by decide), if_pos (by decide)]
  rw [scanL, if_neg (by simp), e]
  simpa using this
theorem Sc.toks {s : Str} {L : List KT} (h : Sc (32 :: s) L) : ∀ (l : List KT), (∀ p ∈ l, goodK p) → Sc ((l.map ttx).flatMap (fun y => (32 : UInt8) :: y) ++ (32 :: s)) (l ++ L)
  | [], _ => h
  | p :: l, hg => by
    have ih := Sc.toks h l fun q hq => hg q (by simp [hq])
    have g := hg p (by simp)
    have hr : runN partB ((l.map ttx).flatMap (fun y => (32 : UInt8) :: y) ++ (32 :: s)) = 0 := by
      cases l with
      | nil => exact runN_stop (by decide) _
      | cons q l => exact runN_stop (by decide) _
    have := (ih.tok g fun _ => hr).sp
    simpa [kt, ttx, tokText] using this
theorem Sc.line {s : Str} {L : List KT} (h : Sc s L) {r : Rl} (hn : goodK (1, r.name)) (hg : ∀ p ∈ toksK t r, goodK p) : Sc (lineT t r ++ s) (((1, r.name) :: mK 58 :: (toksK t r ++ [mK 59])) ++ L) := by
  have h1 : Sc (32 :: 59 :: 10 :: s) (mK 59 :: L) := (h.lf.mk (c := 59) (by decide)).sp
  have h2 := Sc.toks h1 (toksK t r) hg
  have hr : runN partB ((((toksK t r).map ttx).flatMap (fun y => (32 : UInt8) :: y)) ++ (32 :: 59 :: 10 :: s)) = 0 := by
    cases toksK t r with
    | nil => exact runN_stop (by decide) _
    | cons q l => exact runN_stop (by decide) _
  have h3 := ((h2.mk (c := 58) (by decide)).sp).tok hn fun _ => runN_stop (by decide) _
  rw [lineT_eq]
  have e : toksT t r = (toksK t r).map ttx := tokW_map _ _
  rw [e]
  simpa [kt, tokText, mK] using h3
theorem text_sc (hn : ∀ r ∈ t.rules, goodK (1, r.name)) (hg : ∀ r ∈ t.rules, ∀ p ∈ toksK t r, goodK p) : Sc (textT t) (ktT t) := by
  have key : ∀ l : List Rl, (∀ r ∈ l, goodK (1, r.name)) → (∀ r ∈ l, ∀ p ∈ toksK t r, goodK p) → Sc (l.flatMap (lineT t)) (l.flatMap fun r => (1, r.name) :: mK 58 :: (toksK t r ++ [mK 59])) := fun l => by
    induction l with
    | nil => exact fun _ _ => Sc.nil
    | cons r l ih =>
      intro hn hg
      simp only [List.flatMap_cons]
      exact Sc.line (ih (fun q hq => hn q (by simp [hq])) (fun q hq => hg q (by simp [hq]))) (hn r (by simp)) (hg r (by simp))
  exact key t.rules hn hg
/-! ### They are tokens -/
theorem name_good {s : Str} (h : tokenT s 1 = true) : goodK (1, s) := by
  have hg := chain_good (scanR_chain s)
  unfold tokenT at h
  split at h
  · rename_i a e
    simp only [Bool.and_eq_true, Bool.or_eq_true, decide_eq_true_eq] at h
    obtain ⟨⟨⟨h1, h2⟩, h3⟩, h4⟩ := h
    have ga := hg a (by rw [e]; simp)
    have hk : a.kind = 1 := by omega
    have ht : a.text = s := by
      rcases h4 with h4 | h4
      · omega
      · exact h4
    rcases ga with ⟨_, g1, g2⟩ | ⟨g1, _⟩ | ⟨g1, _⟩
    · rw [ht] at g1 g2; exact .inl ⟨rfl, g1, g2⟩
    · omega
    · omega
  · cases h
theorem quote_good {s : Str} (h : quoteT s = true) : goodK (2, s) := by
  unfold quoteT at h
  simp only [Bool.and_eq_true, List.all_eq_true, decide_eq_true_eq] at h
  exact .inr (.inl ⟨rfl, List.length_pos_iff.1 h.1.2, h.1.1⟩)
theorem mark_good {c : UInt8} (h : c ∈ marksL) : goodK (mK c) := .inr (.inr ⟨rfl, c, rfl, h⟩)
theorem eachK_mem {sep : List KT} {one : Int → List KT} {l : List Int} {s : KT} (h : s ∈ eachK sep one l) : s ∈ sep ∨ ∃ k ∈ l, s ∈ one k := by
  cases l with
  | nil => simp [eachK] at h
  | cons a l =>
    simp only [eachK, List.mem_append, List.mem_flatMap] at h
    rcases h with h | ⟨k, hk, h | h⟩
    · exact .inr ⟨a, by simp, h⟩
    · exact .inl h
    · exact .inr ⟨k, by simp [hk], h⟩
theorem tokK_good (R : RTe t) : ∀ (f : Nat) (n : Int), ∀ p ∈ tokK t f n, goodK p
  | 0, n, s, h => by simp [tokK] at h
  | f + 1, n, s, h => by
    have ih := tokK_good R f
    have ha : ∀ n, ∀ s ∈ atomK t (tokK t f) n, goodK s := fun n s h => by
      unfold atomK at h
      split at h
      · exact ih n s h
      · simp only [brkK, List.mem_cons, List.mem_append, List.not_mem_nil, or_false] at h
        rcases h with rfl | h | rfl
        · exact mark_good (by decide)
        · exact ih n s h
        · exact mark_good (by decide)
    have hi : ∀ n, ∀ s ∈ itemK t (tokK t f) n, goodK s := fun n s h => by
      unfold itemK at h
      split at h
      · exact ih n s h
      · exact ha n s h
    have hl : ∀ n, ∀ s ∈ altK t (tokK t f) n, goodK s := fun n s h => by
      unfold altK at h
      split at h
      · exact ih n s h
      · exact hi n s h
    rw [tokK] at h
    split at h
    · simp at h
    · rename_i x hx
      have hx' := List.mem_of_getElem? hx
      have hf := R.fine x hx'
      have hk := kind_fine R x hx'
      unfold fineT at hf
      split at h
      · rename_i c
        rw [if_pos c] at hf
        simp only [Bool.and_eq_true, decide_eq_true_eq] at hf
        obtain ⟨r, hr, e⟩ := List.mem_map.1 hf.2
        simp at h; rw [h, ← e]; exact name_good (R.tok r hr)
      rename_i c6
      split at h
      · rename_i c
        rw [if_neg c6, if_pos c] at hf
        simp only [Bool.and_eq_true] at hf
        simp at h; rw [h]; exact quote_good hf.2
      split at h
      · rcases eachK_mem h with h | ⟨k, _, h⟩
        · simp at h
        · exact hi k s h
      split at h
      · rcases eachK_mem h with h | ⟨k, _, h⟩
        · simp at h; rw [h]; exact mark_good (by decide)
        · exact hl k s h
      · rcases List.mem_append.1 h with h | h
        · exact ha _ s h
        · simp at h
          have h3 : x.kind = 3 ∨ x.kind = 4 ∨ x.kind = 5 := by omega
          rw [h]
          rcases h3 with e | e | e <;> rw [e] <;> exact mark_good (by decide)
/-- What is scanned of a right tree's text. -/
theorem text_scan (h : rightP t = true) (hl : (textT t).length ≤ 4000) : (scanR (textT t)).2.2 = 0 ∧ (scanR (textT t)).1.map kt = ktT t := by
  have R := rte_of h
  obtain ⟨c1, c2⟩ := text_sc (fun r hr => name_good (R.tok r hr)) (fun r _ p hp => tokK_good R _ _ p hp) _ 0 (Nat.le_refl _)
  have hR : scanR (textT t) = ((scanL (textT t).length (textT t) 0).1, 0, 0) := by
    generalize textT t = S at *
    unfold scanR
    rw [if_neg (by omega), c1]
  rw [hR]
  exact ⟨rfl, c2⟩
end
end Go.Proofs.Ytdbbgkdepjidjaa.Al
namespace Go.Proofs.Ytdbbgkdepjidjaa.Al
open Go Go.RowKit
set_option linter.unusedSimpArgs false
set_option linter.unusedVariables false
section
variable {t : Te}
theorem runS_prev : ∀ (k a : Nat) (st r : List Int), runS t (k + 1) a st = some r → ∃ s1, runS t k a st = some s1 ∧ stpS t (a + k) s1 = some r
  | 0, a, st, r, h => by
    rw [runS] at h
    cases hs : stpS t a st with
    | none => rw [hs] at h; cases h
    | some s' => rw [hs] at h; simp only [runS] at h; exact ⟨st, rfl, by rw [Nat.add_zero, hs]; exact h⟩
  | k + 1, a, st, r, h => by
    rw [runS] at h
    cases hs : stpS t a st with
    | none => rw [hs] at h; cases h
    | some s' =>
      rw [hs] at h
      obtain ⟨s1, h1, h2⟩ := runS_prev k (a + 1) s' r h
      exact ⟨s1, by rw [runS, hs]; exact h1, by rw [show a + (k + 1) = a + 1 + k by omega]; exact h2⟩
/-- A step: what it takes, and what it leaves. -/
theorem stpS_inv {a : Nat} {st r : List Int} (h : stpS t a st = some r) : ∃ (ha : a < t.nodes.length) (p : List Int), st = p ++ t.nodes[a].kids ∧ r = p ++ [(a : Int)] ∧ fineP t t.nodes[a] = true := by
  unfold stpS at h
  split at h
  · rename_i nd hnd
    obtain ⟨ha, rfl⟩ := List.getElem?_eq_some_iff.1 hnd
    split at h
    · rename_i c
      obtain ⟨c1, c2, c3⟩ := c
      exact ⟨ha, st.take (st.length - t.nodes[a].kids.length), by conv => rhs; rw [← c3]
                                                                  rw [c3]; conv => lhs; rw [← List.take_append_drop (st.length - t.nodes[a].kids.length) st, c3], (Option.some.inj h).symm, c1⟩
    · cases h
  · cases h
theorem stpS_mk {a : Nat} (ha : a < t.nodes.length) (hf : fineP t t.nodes[a] = true) (p : List Int) : stpS t a (p ++ t.nodes[a].kids) = some (p ++ [(a : Int)]) := by
  unfold stpS
  rw [List.getElem?_eq_getElem ha]
  simp only
  rw [if_pos ⟨hf, by simp, by simp⟩]
  simp
theorem runS_split : ∀ (k a : Nat) (st ks : List Int), runS t k a [] = some (st ++ ks) → ∃ j, j ≤ k ∧ runS t j a [] = some st ∧ runS t (k - j) (a + j) [] = some ks
  | 0, a, st, ks, h => by
    simp only [runS, Option.some.injEq] at h
    have := congrArg List.length h
    simp at this
    obtain ⟨rfl, rfl⟩ : st = [] ∧ ks = [] := ⟨List.length_eq_zero_iff.1 (by omega), List.length_eq_zero_iff.1 (by omega)⟩
    exact ⟨0, Nat.le_refl _, rfl, rfl⟩
  | k + 1, a, st, ks, h => by
    rcases List.eq_nil_or_concat ks with rfl | ⟨ks', x, rfl⟩
    · rw [List.append_nil] at h
      exact ⟨k + 1, Nat.le_refl _, h, by rw [Nat.sub_self]; rfl⟩
    · rw [List.concat_eq_append] at h ⊢
      obtain ⟨s1, h1, h2⟩ := runS_prev k a [] _ h
      obtain ⟨ha, p, rfl, e, hf⟩ := stpS_inv h2
      rw [← List.append_assoc] at e
      obtain ⟨rfl, e2⟩ := List.append_inj' e rfl
      rw [List.append_assoc] at h1
      obtain ⟨j, j1, j2, j3⟩ := runS_split k a st (ks' ++ t.nodes[a + k].kids) h1
      refine ⟨j, by omega, j2, ?_⟩
      have := runS_add t (k - j) 1 (a + j) [] _ j3
      rw [show k + 1 - j = k - j + 1 by omega, this, show a + j + (k - j) = a + k by omega, runS, stpS_mk ha hf, e2]
      rfl
/-- The nodes from lo on are node n, and all below it. -/
def Sub (t : Te) (lo n : Nat) : Prop := lo ≤ n ∧ runS t (n + 1 - lo) lo [] = some [(n : Int)]
theorem Sub.kids {lo n : Nat} (s : Sub t lo n) : ∃ hn : n < t.nodes.length, runS t (n - lo) lo [] = some t.nodes[n].kids := by
  obtain ⟨h1, h2⟩ := s
  obtain ⟨s1, q1, q2⟩ := runS_prev (n - lo) lo [] [(n : Int)] (by rw [← h2]; congr 1; omega)
  rw [show lo + (n - lo) = n by omega] at q2
  obtain ⟨hn, p, rfl, e, _⟩ := stpS_inv q2
  have hp : p = [] := by
    have := congrArg List.length e
    simp at this
    exact this
  subst hp
  exact ⟨hn, by simpa using q1⟩
/-- The first kid, and the others. -/
theorem runS_first {k a : Nat} {x : Int} {ks : List Int} (hlt : ∀ i (h : i < t.nodes.length), ∀ k ∈ t.nodes[i].kids, 0 ≤ k ∧ k < i) (h : runS t k a [] = some (x :: ks)) : ∃ m : Nat, x = (m : Int) ∧ Sub t a m ∧ m < a + k ∧ runS t (a + k - (m + 1)) (m + 1) [] = some ks := by
  obtain ⟨j, j1, j2, j3⟩ := runS_split k a [x] ks h
  have j0 : 0 < j := by
    rcases Nat.eq_zero_or_pos j with e | e
    · subst e; simp [runS] at j2
    · exact e
  obtain ⟨q1, q2, q3⟩ := runS_sz hlt j a [] _ j2 (by simp)
  have q3 := q3 j0
  simp at q3
  refine ⟨a + j - 1, by omega, ⟨by omega, ?_⟩, by omega, ?_⟩
  · rw [show a + j - 1 + 1 - a = j by omega, j2]
    congr 2
  · rw [show a + k - (a + j - 1 + 1) = k - j by omega, show a + j - 1 + 1 = a + j by omega]; exact j3
end
end Go.Proofs.Ytdbbgkdepjidjaa.Al
namespace Go.Proofs.Ytdbbgkdepjidjaa.Al
open Go Go.RowKit
set_option linter.unusedSimpArgs false
set_option linter.unusedVariables false
attribute [-simp] List.length_flatMap
/-- What has been read from s to s': nodes below hi; rest is left. -/
structure Bk (T : List Tok) (t : Te) (s s' : PS) (hi : Nat) (rest : List KT) : Prop where
  suf : suf T s'.at' = rest
  nodes : s'.nodes = t.nodes.take hi
  rules : s'.rules = s.rules
  given : s'.given = s.given
  used : ∃ us, s'.used = s.used ++ us ∧ ∀ u ∈ us, u.name ∈ rnames t
  at1 : s.at' ≤ s'.at'
section
variable {T : List Tok} {t : Te} {en : Nat} {D : Int → Prop}
theorem Bk.trans {s s1 s2 : PS} {h1 h2 : Nat} {r1 r2 : List KT} (a : Bk T t s s1 h1 r1) (b : Bk T t s1 s2 h2 r2) : Bk T t s s2 h2 r2 := by
  obtain ⟨u1, e1, f1⟩ := a.used
  obtain ⟨u2, e2, f2⟩ := b.used
  exact ⟨b.suf, b.nodes, b.rules.trans a.rules, b.given.trans a.given, ⟨u1 ++ u2, by rw [e2, e1, List.append_assoc], fun u hu => (List.mem_append.1 hu).elim (f1 u) (f2 u)⟩, Nat.le_trans a.at1 b.at1⟩
/-- A token further. -/
theorem Bk.step {s : PS} {p : KT} {r : List KT} {hi : Nat} (h : Al.suf T s.at' = p :: r) (hn : s.nodes = t.nodes.take hi) : Bk T t s s.adv hi r := by
  obtain ⟨_, _, h2⟩ := suf_cons h
  exact ⟨h2, hn, rfl, rfl, ⟨[], by simp [PS.adv], by simp⟩, Nat.le_succ _⟩
theorem Bk.lay {s s' : PS} {n : Nat} {rest : List KT} (b : Bk T t s s' n rest) (hn : n < t.nodes.length) {k : Int} {nm : Str} {ks : List Int} (e : t.nodes[n] = ⟨k, nm, ks⟩) : Bk T t s (s'.lay k nm ks) (n + 1) rest :=
  ⟨b.suf, by rw [PS.lay, List.take_succ_eq_append_getElem hn, e, ← b.nodes], b.rules, b.given, b.used, b.at1⟩
theorem Bk.len {s s' : PS} {n : Nat} {rest : List KT} (b : Bk T t s s' n rest) (hn : n ≤ t.nodes.length) : s'.nodes.length = n := by rw [b.nodes, List.length_take]; omega
def hNe (rest : List KT) (c : UInt8) : Prop := ∀ r, rest ≠ mK c :: r
theorem ahead_ne {a : Nat} {rest : List KT} {c : UInt8} (h : suf T a = rest) (hn : hNe rest c) : aheadP T a [c] = false := by
  cases hh : aheadP T a [c] with
  | false => rfl
  | true => obtain ⟨r, e⟩ := ahead_suf.1 hh; exact absurd (h.symm.trans e) (hn r)
def noMk (rest : List KT) : Prop := hNe rest 42 ∧ hNe rest 43 ∧ hNe rest 63
def noBg (rest : List KT) : Prop := ∀ p r, rest = p :: r → p.1 = 3 ∧ p.2 ≠ [40]
def Bg (l : List KT) : Prop := ∃ p r, l = p :: r ∧ (p.1 ≠ 3 ∨ p = mK 40)
theorem Bg.noMk {l : List KT} (h : Bg l) (r : List KT) : noMk (l ++ r) := by
  obtain ⟨p, q, rfl, h⟩ := h
  have key : ∀ c : UInt8, c ≠ 40 → hNe (p :: q ++ r) c := fun c hc r' e => by
    simp only [List.cons_append, List.cons.injEq] at e
    rcases h with h | h
    · rw [e.1] at h; exact h rfl
    · rw [e.1] at h; simp [mK] at h; exact hc h
  exact ⟨key 42 (by decide), key 43 (by decide), key 63 (by decide)⟩
theorem bgn_bg {a : Nat} {l r : List KT} (hb : Bg l) (h : suf T a = l ++ r) : bgnP T a = true := by
  obtain ⟨⟨k, x⟩, q, rfl, hb⟩ := hb
  rw [bgn_of h]
  rcases hb with hb | hb
  · simp at hb; simp [hb]
  · simp [mK] at hb; simp [hb]
theorem bgn_no {a : Nat} {rest : List KT} (hb : noBg rest) (h : suf T a = rest) : bgnP T a = false := by
  cases rest with
  | nil => exact bgn_nil h
  | cons p r =>
    obtain ⟨k, x⟩ := p
    rw [bgn_of h]
    obtain ⟨h1, h2⟩ := hb _ _ rfl
    simp at h1 h2
    simp [h1, h2]
/-- A tree whose text is read back. -/
structure BkT (t : Te) : Prop where
  lt : ∀ i (h : i < t.nodes.length), ∀ k ∈ t.nodes[i].kids, 0 ≤ k ∧ k < i
  kd : ∀ x ∈ t.nodes, (x.kind = 6 ∧ x.kids = [] ∧ x.name ∈ rnames t) ∨ (x.kind = 7 ∧ x.kids = []) ∨ (x.name = [] ∧ ((x.kind = 1 ∧ x.kids.length ≠ 1) ∨ (x.kind = 2 ∧ 2 ≤ x.kids.length) ∨ (3 ≤ x.kind ∧ x.kind ≤ 5 ∧ x.kids.length = 1)))
theorem bkT_of (R : RTe t) : BkT t := ⟨R.lt, fun x hx => by
  have hf := R.fine x hx
  unfold fineT at hf
  split at hf
  · rename_i c
    simp only [Bool.and_eq_true, decide_eq_true_eq] at hf
    exact .inl ⟨c, List.length_eq_zero_iff.1 hf.1, hf.2⟩
  · split at hf
    · rename_i c
      simp only [Bool.and_eq_true, decide_eq_true_eq] at hf
      exact .inr (.inl ⟨c, List.length_eq_zero_iff.1 hf.1⟩)
    · simp only [Bool.and_eq_true, Bool.or_eq_true, decide_eq_true_eq] at hf
      obtain ⟨h0, (⟨h1, h2⟩ | ⟨h1, h2⟩) | ⟨⟨h1, h2⟩, h3⟩⟩ := hf
      · exact .inr (.inr ⟨h0, .inl ⟨h1, h2⟩⟩)
      · exact .inr (.inr ⟨h0, .inr (.inl ⟨h1, h2⟩)⟩)
      · exact .inr (.inr ⟨h0, .inr (.inr ⟨h1, h2, h3⟩)⟩)⟩
theorem tokK_at (f : Nat) {n : Nat} (hl : n < t.nodes.length) : tokK t (f + 1) n = if t.nodes[n].kind = 6 then [(1, t.nodes[n].name)] else if t.nodes[n].kind = 7 then [(2, t.nodes[n].name)]
      else if t.nodes[n].kind = 1 then eachK [] (itemK t (tokK t f)) t.nodes[n].kids
      else if t.nodes[n].kind = 2 then eachK [mK 124] (altK t (tokK t f)) t.nodes[n].kids
      else atomK t (tokK t f) (t.nodes[n].kids.getD 0 0) ++ [(3, markW t.nodes[n].kind)] := by
  rw [tokK]; simp [hl]
theorem Sub.leaf (B : BkT t) {lo n : Nat} (h : Sub t lo n) (hn : n < t.nodes.length) (hk : t.nodes[n].kids = []) : lo = n := by
  obtain ⟨_, q⟩ := h.kids
  rw [hk] at q
  have := (runS_sz B.lt _ _ _ _ q (by simp)).1
  simp at this
  have := h.1
  omega
def PAlts (D : Int → Prop) (T : List Tok) (en : Nat) (t : Te) (f : Nat) : Prop := ∀ (F : Nat) (s : PS) (lo n : Nat) (rest : List KT), n < f → n < t.nodes.length → D (kindT t n) → Sub t lo n → s.nodes = t.nodes.take lo → suf T s.at' = tokK t f n ++ rest → rest ≠ [] → noBg rest → noMk rest → hNe rest 124 → T.length < F + s.at' →
  ∃ s', altsP T en F s = .ok (s', (n : Int)) ∧ Bk T t s s' (n + 1) rest
def PAtom (D : Int → Prop) (T : List Tok) (en : Nat) (t : Te) (f : Nat) : Prop := ∀ (F : Nat) (s : PS) (lo n : Nat) (rest : List KT), n < f → n < t.nodes.length → (kindT t n = 6 ∨ kindT t n = 7 ∨ D (kindT t n)) → Sub t lo n → s.nodes = t.nodes.take lo → suf T s.at' = atomK t (tokK t f) n ++ rest → T.length < F + s.at' + 1 →
  ∃ s', atomP T en (altsP T en F) s = .ok (s', (n : Int)) ∧ Bk T t s s' (n + 1) rest ∧ s.at' < s'.at'
theorem pAtom (B : BkT t) {f : Nat} (pa : PAlts D T en t f) : PAtom D T en t f := fun F s lo n rest hf hn hD hS hN hs hF => by
  have hk := B.kd _ (List.getElem_mem hn)
  obtain ⟨f', rfl⟩ : ∃ f', f = f' + 1 := ⟨f - 1, by omega⟩
  have htk := tokK_at f' hn
  unfold atomK at hs
  rw [kindT_at hn] at hs
  by_cases c6 : t.nodes[n].kind = 6
  · obtain ⟨hk2, hk3⟩ : t.nodes[n].kids = [] ∧ t.nodes[n].name ∈ rnames t := by
      rcases hk with h | h | h
      · exact h.2
      · omega
      · omega
    rw [if_pos (.inl c6), htk, if_pos c6] at hs
    have hlo := hS.leaf B hn hk2
    subst hlo
    obtain ⟨hlt, ek, h2⟩ := suf_cons hs
    simp only [kt, Prod.mk.injEq] at ek
    have b0 := Bk.step (t := t) hs hN
    have ha0 : aheadP T s.at' [40] = false := by rw [ahead_of hs]; simp
    have hel : t.nodes[lo] = ⟨6, t.nodes[lo].name, []⟩ := by
      rw [← c6, ← hk2]
    have b1 : Bk T t s (useP ⟨t.nodes[lo].name, T[s.at'].at'⟩ s.adv) lo rest := ⟨b0.suf, b0.nodes, rfl, rfl, ⟨[⟨t.nodes[lo].name, T[s.at'].at'⟩], rfl, by simpa using hk3⟩, b0.at1⟩
    refine ⟨_, ?_, b1.lay hn hel, by simp [PS.lay, useP, PS.adv]⟩
    unfold atomP
    rw [if_neg (by simp [ha0])]
    have hl := b0.len (by omega)
    simp only [PS.adv] at hl
    simp [hlt, ek, nameP, pbnd, nodeP, useP, PS.adv, hl]
  by_cases c7 : t.nodes[n].kind = 7
  · have hk2 : t.nodes[n].kids = [] := by
      rcases hk with h | h | h
      · omega
      · exact h.2
      · omega
    rw [if_pos (.inr c7), htk, if_neg c6, if_pos c7] at hs
    have hlo := hS.leaf B hn hk2
    subst hlo
    obtain ⟨hlt, ek, h2⟩ := suf_cons hs
    simp only [kt, Prod.mk.injEq] at ek
    have b0 := Bk.step (t := t) hs hN
    have ha0 : aheadP T s.at' [40] = false := by rw [ahead_of hs]; simp
    have hel : t.nodes[lo] = ⟨7, t.nodes[lo].name, []⟩ := by
      rw [← c7, ← hk2]
    refine ⟨_, ?_, b0.lay hn hel, by simp [PS.lay, PS.adv]⟩
    unfold atomP
    rw [if_neg (by simp [ha0])]
    have hl := b0.len (by omega)
    simp only [PS.adv] at hl
    simp [hlt, ek, nodeP, PS.adv, hl]
  · have hD' : D (kindT t n) := by
      rw [kindT_at hn] at hD ⊢
      rcases hD with h | h | h
      · exact absurd h c6
      · exact absurd h c7
      · exact h
    rw [if_neg (by omega)] at hs
    simp only [brkK, List.cons_append, List.append_assoc, List.singleton_append] at hs
    have b0 := Bk.step (t := t) hs hN
    have stop : noBg (mK 41 :: rest) ∧ noMk (mK 41 :: rest) ∧ hNe (mK 41 :: rest) 124 := by
      refine ⟨fun p r e => ?_, ⟨fun r e => ?_, fun r e => ?_, fun r e => ?_⟩, fun r e => ?_⟩
      · cases e; exact ⟨rfl, by decide⟩
      all_goals simp [mK] at e
    obtain ⟨s1, g1, b1⟩ := pa F s.adv lo n (mK 41 :: rest) hf hn hD' hS b0.nodes b0.suf (by simp) stop.1 stop.2.1 stop.2.2 (by simp only [PS.adv]; omega)
    have b2 := Bk.step (t := t) b1.suf b1.nodes
    refine ⟨s1.adv, ?_, b0.trans (b1.trans b2), ?_⟩
    · unfold atomP
      rw [ahead_of hs, if_pos (by simp [mK]), g1]
      simp only [pbnd]
      unfold mustP
      rw [ahead_of b1.suf, if_pos (by simp [mK])]
    · have := b1.at1
      simp only [PS.adv] at this ⊢
      omega
def PItem (D : Int → Prop) (T : List Tok) (en : Nat) (t : Te) (f : Nat) : Prop := ∀ (F : Nat) (s : PS) (lo n : Nat) (rest : List KT), n < f → n < t.nodes.length → ((3 ≤ kindT t n ∧ kindT t n ≤ 7) ∨ D (kindT t n)) → Sub t lo n → s.nodes = t.nodes.take lo → suf T s.at' = itemK t (tokK t f) n ++ rest → noMk rest → T.length < F + s.at' + 1 →
  ∃ s', itemP T en (altsP T en F) s = .ok (s', (n : Int)) ∧ Bk T t s s' (n + 1) rest ∧ s.at' < s'.at'
theorem pItem (B : BkT t) {f : Nat} (pa : PAtom D T en t f) (pa1 : ∀ g, g + 1 = f → PAtom (fun _ => True) T en t g) : PItem D T en t f := fun F s lo n rest hf hn hD hS hN hs hm hF => by
  have hk := B.kd _ (List.getElem_mem hn)
  obtain ⟨f', rfl⟩ : ∃ f', f = f' + 1 := ⟨f - 1, by omega⟩
  have htk := tokK_at f' hn
  unfold itemK at hs
  rw [kindT_at hn] at hs
  by_cases c : 3 ≤ t.nodes[n].kind ∧ t.nodes[n].kind ≤ 5
  · obtain ⟨hk0, hk1⟩ : t.nodes[n].name = [] ∧ t.nodes[n].kids.length = 1 := by
      rcases hk with h | h | ⟨h0, h | h | h⟩
      · omega
      · omega
      · omega
      · omega
      · exact ⟨h0, h.2.2⟩
    obtain ⟨k, hkk⟩ := List.length_eq_one_iff.1 hk1
    rw [if_pos c, htk, if_neg (by omega), if_neg (by omega), if_neg (by omega), if_neg (by omega), hkk] at hs
    simp only [List.getD_cons_zero, List.append_assoc, List.singleton_append] at hs
    obtain ⟨_, q⟩ := hS.kids
    rw [hkk] at q
    obtain ⟨m, rfl, hSm, hm1, hm2⟩ := runS_first B.lt q
    have hmn : n = m + 1 := by
      have := (runS_sz B.lt _ _ _ _ hm2 (by simp)).1
      simp at this
      have := hS.1
      omega
    subst hmn
    obtain ⟨s1, g1, b1, p1⟩ := pa1 f' rfl F s lo m _ (by omega) (by omega) (.inr (.inr trivial)) hSm hN hs hF
    have b2 := Bk.step (t := t) b1.suf b1.nodes
    have hl := b2.len (by omega)
    simp only [PS.adv] at hl
    have h3 : t.nodes[m + 1].kind = 3 ∨ t.nodes[m + 1].kind = 4 ∨ t.nodes[m + 1].kind = 5 := by omega
    have hel : t.nodes[m + 1] = ⟨t.nodes[m + 1].kind, [], [(m : Int)]⟩ := by rw [← hk0, ← hkk]
    have b3 : Bk T t s1 s1.adv (m + 1) rest := b2
    refine ⟨s1.adv.lay t.nodes[m + 1].kind [] [(m : Int)], ?_, b1.trans (b3.lay hn hel), by simp only [PS.lay, PS.adv]; omega⟩
    unfold itemP
    rw [g1]
    simp only [pbnd]
    unfold markP
    rw [ahead_of b1.suf, ahead_of b1.suf, ahead_of b1.suf]
    rcases h3 with e | e | e
    · simp [e, markW, nodeP, PS.adv, PS.lay, hl]
    · simp [e, markW, nodeP, PS.adv, PS.lay, hl]
    · simp [e, markW, nodeP, PS.adv, PS.lay, hl]
  · rw [if_neg c] at hs
    have hD' : kindT t n = 6 ∨ kindT t n = 7 ∨ D (kindT t n) := by
      rcases hD with h | h
      · rw [kindT_at hn] at h ⊢; omega
      · exact .inr (.inr h)
    obtain ⟨s1, g1, b1, p1⟩ := pa F s lo n rest hf hn hD' hS hN hs hF
    refine ⟨s1, ?_, b1, p1⟩
    unfold itemP
    rw [g1]
    simp only [pbnd]
    unfold markP
    rw [ahead_ne b1.suf hm.1, ahead_ne b1.suf hm.2.1, ahead_ne b1.suf hm.2.2]
    simp
theorem atom_bg (B : BkT t) {f n : Nat} (hf : n < f) (hn : n < t.nodes.length) : Bg (atomK t (tokK t f) n) := by
  obtain ⟨f', rfl⟩ : ∃ f', f = f' + 1 := ⟨f - 1, by omega⟩
  unfold atomK
  rw [kindT_at hn, tokK_at f' hn]
  by_cases c6 : t.nodes[n].kind = 6
  · rw [if_pos (.inl c6), if_pos c6]; exact ⟨_, _, rfl, .inl (by simp)⟩
  by_cases c7 : t.nodes[n].kind = 7
  · rw [if_pos (.inr c7), if_neg c6, if_pos c7]; exact ⟨_, _, rfl, .inl (by simp)⟩
  · rw [if_neg (by omega)]; exact ⟨_, _, rfl, .inr rfl⟩
theorem item_bg (B : BkT t) {f n : Nat} (hf : n < f) (hn : n < t.nodes.length) : Bg (itemK t (tokK t f) n) := by
  unfold itemK
  rw [kindT_at hn]
  by_cases c : 3 ≤ t.nodes[n].kind ∧ t.nodes[n].kind ≤ 5
  · rw [if_pos c]
    obtain ⟨f', rfl⟩ : ∃ f', f = f' + 1 := ⟨f - 1, by omega⟩
    have hk := B.kd _ (List.getElem_mem hn)
    have hk1 : t.nodes[n].kids.length = 1 := by omega
    obtain ⟨k, hkk⟩ := List.length_eq_one_iff.1 hk1
    obtain ⟨q1, q2⟩ := B.lt n hn k (by rw [hkk]; simp)
    obtain ⟨m, rfl⟩ : ∃ m : Nat, k = (m : Int) := ⟨k.toNat, by omega⟩
    rw [tokK_at f' hn, if_neg (by omega), if_neg (by omega), if_neg (by omega), if_neg (by omega), hkk]
    obtain ⟨p, r, e, h⟩ := atom_bg B (f := f') (n := m) (by omega) (by omega)
    exact ⟨p, r ++ [(3, markW t.nodes[n].kind)], by simp [e], h⟩
  · rw [if_neg c]; exact atom_bg B hf hn
/-- Items, one behind the other. -/
theorem items_bk (B : BkT t) {f : Nat} (pi : PItem D T en t f) {rest : List KT} (hm : noMk rest) (hb : noBg rest) : ∀ (ks : List Int) (k F : Nat) (s : PS) (a K : Nat) (l : List Int), (∀ m : Nat, (m : Int) ∈ ks → (3 ≤ kindT t m ∧ kindT t m ≤ 7) ∨ D (kindT t m)) → runS t K a [] = some ks → a + K ≤ f → a + K ≤ t.nodes.length → s.nodes = t.nodes.take a →
    suf T s.at' = ks.flatMap (fun n => itemK t (tokK t f) n) ++ rest → T.length < k + s.at' → T.length < F + s.at' + 1 → ∃ s', itemsP T en (altsP T en F) k s l = .ok (s', l ++ ks) ∧ Bk T t s s' (a + K) rest
  | [], k, F, s, a, K, l, hD, hr, h1, h2, hN, hs, hk, hF => by
    have := (runS_sz B.lt _ _ _ _ hr (by simp)).1
    simp at this
    subst this
    simp only [List.flatMap_nil, List.nil_append] at hs
    refine ⟨s, ?_, ⟨hs, hN, rfl, rfl, ⟨[], by simp, by simp⟩, Nat.le_refl _⟩⟩
    cases k with
    | zero => simp [itemsP]
    | succ k => rw [itemsP, if_neg (by rw [bgn_no hb hs]; simp)]; simp
  | x :: ks, k, F, s, a, K, l, hD, hr, h1, h2, hN, hs, hk, hF => by
    obtain ⟨m, rfl, hS, hm1, hr2⟩ := runS_first B.lt hr
    simp only [List.flatMap_cons, List.append_assoc] at hs
    have bg := item_bg B (f := f) (n := m) (by omega) (by omega)
    have hbt := bgn_bg bg hs
    have hlt := bgnP_lt hbt
    obtain ⟨k, rfl⟩ : ∃ k', k = k' + 1 := ⟨k - 1, by omega⟩
    have hm2 : noMk (ks.flatMap (fun n => itemK t (tokK t f) n) ++ rest) := by
      cases ks with
      | nil => simpa using hm
      | cons y ks =>
        obtain ⟨m2, rfl, _, q2, _⟩ := runS_first B.lt hr2
        simp only [List.flatMap_cons, List.append_assoc]
        exact (item_bg B (f := f) (n := m2) (by omega) (by omega)).noMk _
    obtain ⟨s1, g1, b1, p1⟩ := pi F s a m _ (by omega) (by omega) (hD m (by simp)) hS hN hs hm2 hF
    obtain ⟨s2, g2, b2⟩ := items_bk B pi hm hb ks k F s1 (m + 1) (a + K - (m + 1)) (l ++ [(m : Int)]) (fun q hq => hD q (by simp [hq])) hr2 (by omega) (by omega) b1.nodes b1.suf (by omega) (by omega)
    refine ⟨s2, ?_, ?_⟩
    · rw [itemsP, if_pos hbt, g1]
      simp only [pbnd]
      rw [g2]; simp
    · have := b1.trans b2
      rw [show m + 1 + (a + K - (m + 1)) = a + K by omega] at this
      exact this
theorem eachK_nil (one : Int → List KT) (l : List Int) : eachK [] one l = l.flatMap one := by
  cases l with
  | nil => rfl
  | cons a l => simp [eachK]
def PSeq (D : Int → Prop) (T : List Tok) (en : Nat) (t : Te) (f : Nat) : Prop := ∀ (F : Nat) (s : PS) (lo n : Nat) (rest : List KT), n < f → n < t.nodes.length → (kindT t n = 1 ∨ (3 ≤ kindT t n ∧ kindT t n ≤ 7) ∨ D (kindT t n)) → Sub t lo n → s.nodes = t.nodes.take lo → suf T s.at' = altK t (tokK t f) n ++ rest → noMk rest → noBg rest → T.length < F + s.at' + 1 →
  ∃ s', seqP T en (altsP T en F) s = .ok (s', (n : Int)) ∧ Bk T t s s' (n + 1) rest
theorem pSeq (B : BkT t) {f : Nat} (pi : PItem D T en t f) (pi1 : ∀ g, g + 1 = f → PItem (fun _ => True) T en t g) : PSeq D T en t f := fun F s lo n rest hf hn hD hS hN hs hm hb hF => by
  have hk := B.kd _ (List.getElem_mem hn)
  obtain ⟨f', rfl⟩ : ∃ f', f = f' + 1 := ⟨f - 1, by omega⟩
  have htk := tokK_at f' hn
  have hlo := hS.1
  unfold altK at hs
  rw [kindT_at hn] at hs
  by_cases c : t.nodes[n].kind = 1
  · obtain ⟨hk0, hk1⟩ : t.nodes[n].name = [] ∧ t.nodes[n].kids.length ≠ 1 := by
      rcases hk with h | h | ⟨h0, h | h | h⟩
      · omega
      · omega
      · exact ⟨h0, h.2⟩
      · omega
      · omega
    rw [if_pos c, htk, if_neg (by omega), if_neg (by omega), if_pos c, eachK_nil] at hs
    obtain ⟨_, q⟩ := hS.kids
    obtain ⟨s1, g1, b1⟩ := items_bk B (pi1 f' rfl) hm hb _ (T.length + 1) F s lo (n - lo) [] (fun _ _ => .inr trivial) q (by omega) (by omega) hN hs (by omega) hF
    rw [show lo + (n - lo) = n by omega] at b1
    have hel : t.nodes[n] = ⟨1, [], t.nodes[n].kids⟩ := by rw [← c, ← hk0]
    have hl := b1.len (by omega)
    refine ⟨s1.lay 1 [] t.nodes[n].kids, ?_, b1.lay hn hel⟩
    unfold seqP
    rw [g1]
    simp only [pbnd, List.nil_append]
    have ho : oneP 1 t.nodes[n].kids s1 = nodeP 1 [] t.nodes[n].kids s1 := by
      generalize t.nodes[n].kids = kk at hk1
      match kk, hk1 with
      | [], _ => rfl
      | [n], c => simp at c
      | _ :: _ :: _, _ => rfl
    rw [ho, nodeP, hl]
  · rw [if_neg c] at hs
    obtain ⟨s1, g1, b1⟩ := items_bk B pi hm hb [(n : Int)] (T.length + 1) F s lo (n + 1 - lo) [] (fun m hq => by
      have hq : (m : Int) = n := by simpa using hq
      have hq : m = n := by omega
      subst hq
      rcases hD with h | h | h
      · rw [kindT_at hn] at h; exact absurd h c
      · exact .inl h
      · exact .inr h) hS.2 (by omega) (by omega) hN (by simpa using hs) (by omega) hF
    rw [show lo + (n + 1 - lo) = n + 1 by omega] at b1
    refine ⟨s1, ?_, b1⟩
    unfold seqP
    rw [g1]
    rfl
/-- Alternatives. -/
theorem alts_bk (B : BkT t) {f : Nat} (ps : PSeq D T en t f) {rest : List KT} (hm : noMk rest) (hb : noBg rest) (hv : hNe rest 124) : ∀ (ks : List Int) (x : Int) (k F : Nat) (s : PS) (a K : Nat) (l : List Int), (∀ m : Nat, (m : Int) ∈ x :: ks → kindT t m = 1 ∨ (3 ≤ kindT t m ∧ kindT t m ≤ 7) ∨ D (kindT t m)) →
    runS t K a [] = some (x :: ks) → a + K ≤ f → a + K ≤ t.nodes.length → s.nodes = t.nodes.take a →
    suf T s.at' = altK t (tokK t f) x ++ (ks.flatMap (fun n => [mK 124] ++ altK t (tokK t f) n) ++ rest) → s.at' ≤ T.length → T.length < k + s.at' → T.length < F + s.at' + 1 → ∃ s', altsL T en (altsP T en F) k s l = .ok (s', l ++ x :: ks) ∧ Bk T t s s' (a + K) rest
  | ks, x, 0, F, s, a, K, l, hD, hr, h1, h2, hN, hs, hle, hk, hF => by omega
  | ks, x, k + 1, F, s, a, K, l, hD, hr, h1, h2, hN, hs, hle, hk, hF => by
    obtain ⟨m, rfl, hS, hm1, hr2⟩ := runS_first B.lt hr
    have hrest : noMk (ks.flatMap (fun n => [mK 124] ++ altK t (tokK t f) n) ++ rest) ∧ noBg (ks.flatMap (fun n => [mK 124] ++ altK t (tokK t f) n) ++ rest) := by
      cases ks with
      | nil => exact ⟨by simpa using hm, by simpa using hb⟩
      | cons y ks =>
        refine ⟨⟨fun r e => ?_, fun r e => ?_, fun r e => ?_⟩, fun p r e => ?_⟩
        · simp [mK] at e
        · simp [mK] at e
        · simp [mK] at e
        · simp [mK] at e; rw [← e.1]; simp
    obtain ⟨s1, g1, b1⟩ := ps F s a m _ (by omega) (by omega) (hD m (by simp)) hS hN hs hrest.1 hrest.2 hF
    have e1 := b1.at1
    rw [altsL, g1]
    simp only [pbnd]
    cases ks with
    | nil =>
      have hK : a + K = m + 1 := by
        have := (runS_sz B.lt _ _ _ _ hr2 (by simp)).1
        simp at this
        omega
      have hs1 : suf T s1.at' = rest := by simpa using b1.suf
      rw [if_neg (by rw [ahead_ne hs1 hv]; simp), hK]
      exact ⟨s1, rfl, ⟨hs1, b1.nodes, b1.rules, b1.given, b1.used, b1.at1⟩⟩
    | cons y ks =>
      have hs1 := b1.suf
      simp only [List.flatMap_cons, List.append_assoc, List.cons_append, List.nil_append] at hs1
      have b2 := Bk.step (t := t) hs1 b1.nodes
      have hlt := suf_lt hs1
      rw [ahead_of hs1, if_pos (by simp [mK])]
      obtain ⟨s2, g2, b3⟩ := alts_bk B ps hm hb hv ks y k F s1.adv (m + 1) (a + K - (m + 1)) (l ++ [(m : Int)]) (fun q hq => hD q (by simp at hq ⊢; exact .inr hq)) hr2 (by omega) (by omega) b2.nodes b2.suf (by simp only [PS.adv]; omega) (by simp only [PS.adv]; omega) (by simp only [PS.adv]; omega)
      refine ⟨s2, by rw [g2]; simp, ?_⟩
      have := (b1.trans b2).trans b3
      rw [show m + 1 + (a + K - (m + 1)) = a + K by omega] at this
      exact this
theorem alt_not2 (B : BkT t) {f n : Nat} (hn : n < t.nodes.length) (h2 : t.nodes[n].kind ≠ 2) : altK t (tokK t f) n = tokK t f n := by
  have hk := B.kd _ (List.getElem_mem hn)
  unfold altK itemK atomK
  rw [kindT_at hn]
  by_cases c1 : t.nodes[n].kind = 1
  · rw [if_pos c1]
  rw [if_neg c1]
  by_cases c3 : 3 ≤ t.nodes[n].kind ∧ t.nodes[n].kind ≤ 5
  · rw [if_pos c3]
  rw [if_neg c3, if_pos (by omega)]
theorem pAlts (B : BkT t) {f : Nat} (psF : PSeq (fun _ => False) T en t f) (ps1 : ∀ g, g + 1 = f → PSeq (fun _ => True) T en t g) : PAlts (fun _ => True) T en t f := fun F s lo n rest hf hn _ hS hN hs hne hb hm hv hF => by
  have hk := B.kd _ (List.getElem_mem hn)
  obtain ⟨f', rfl⟩ : ∃ f', f = f' + 1 := ⟨f - 1, by omega⟩
  have htk := tokK_at f' hn
  have hlo := hS.1
  have hlt : s.at' < T.length := by
    refine Classical.byContradiction fun c => ?_
    have : suf T s.at' = [] := suf_nil.2 (by omega)
    rw [this] at hs
    have := congrArg List.length hs
    simp at this
    exact hne (List.length_eq_zero_iff.1 (by omega))
  obtain ⟨F, rfl⟩ : ∃ F', F = F' + 1 := ⟨F - 1, by omega⟩
  by_cases c2 : t.nodes[n].kind = 2
  · obtain ⟨hk0, hk1⟩ : t.nodes[n].name = [] ∧ 2 ≤ t.nodes[n].kids.length := by
      rcases hk with h | h | ⟨h0, h | h | h⟩
      · omega
      · omega
      · omega
      · exact ⟨h0, h.2⟩
      · omega
    rw [htk, if_neg (by omega), if_neg (by omega), if_neg (by omega), if_pos c2] at hs
    obtain ⟨_, q⟩ := hS.kids
    have hel : t.nodes[n] = ⟨2, [], t.nodes[n].kids⟩ := by rw [← c2, ← hk0]
    generalize t.nodes[n].kids = kk at *
    match kk, hk1 with
    | x :: ks, hk1 =>
    simp only [eachK, List.append_assoc] at hs
    obtain ⟨s1, g1, b1⟩ := alts_bk B (ps1 f' rfl) hm hb hv ks x (T.length + 1) F s lo (n - lo) [] (fun _ _ => .inr (.inr trivial)) q (by omega) (by omega) hN hs (by omega) (by omega) (by omega)
    rw [show lo + (n - lo) = n by omega] at b1
    have hl := b1.len (by omega)
    refine ⟨s1.lay 2 [] (x :: ks), ?_, b1.lay hn hel⟩
    rw [altsP, g1]
    simp only [pbnd, List.nil_append]
    have ho : oneP 2 (x :: ks) s1 = nodeP 2 [] (x :: ks) s1 := by
      match ks, hk1 with
      | _ :: _, _ => rfl
    rw [ho, nodeP, hl]
  · rw [← alt_not2 B hn c2] at hs
    obtain ⟨s1, g1, b1⟩ := alts_bk B psF hm hb hv [] (n : Int) (T.length + 1) F s lo (n + 1 - lo) [] (fun m hq => by
      have hq : (m : Int) = n := by simpa using hq
      have hq : m = n := by omega
      subst hq
      rw [kindT_at hn]
      have : t.nodes[m].kind = 1 ∨ (3 ≤ t.nodes[m].kind ∧ t.nodes[m].kind ≤ 7) := by omega
      rcases this with h | h
      · exact .inl h
      · exact .inr (.inl h)) hS.2 (by omega) (by omega) hN (by simpa using hs) (by omega) (by omega) (by omega)
    rw [show lo + (n + 1 - lo) = n + 1 by omega] at b1
    refine ⟨s1, ?_, b1⟩
    rw [altsP, g1]
    rfl
/-- A node's tokens are read back. -/
theorem pAll (B : BkT t) : ∀ f, PAlts (fun _ => True) T en t f ∧ PAtom (fun _ => True) T en t f ∧ PItem (fun _ => True) T en t f ∧ PSeq (fun _ => True) T en t f := fun f => by
  induction f with
  | zero => exact ⟨fun F s lo n rest h => by omega, fun F s lo n rest h => by omega, fun F s lo n rest h => by omega, fun F s lo n rest h => by omega⟩
  | succ f ih =>
    obtain ⟨i1, i2, i3, i4⟩ := ih
    have pa1 : ∀ g, g + 1 = f + 1 → PAtom (fun _ => True) T en t g := fun g hg => (Nat.succ.inj hg) ▸ i2
    have pi1 : ∀ g, g + 1 = f + 1 → PItem (fun _ => True) T en t g := fun g hg => (Nat.succ.inj hg) ▸ i3
    have ps1 : ∀ g, g + 1 = f + 1 → PSeq (fun _ => True) T en t g := fun g hg => (Nat.succ.inj hg) ▸ i4
    have a0 : PAlts (fun _ => False) T en t (f + 1) := fun F s lo n rest _ _ hD => hD.elim
    have a1 := pAlts B (pSeq B (pItem B (pAtom B a0) pa1) pi1) ps1
    have a2 := pAtom B a1
    have a3 := pItem B a2 pa1
    exact ⟨a1, a2, a3, pSeq B a3 pi1⟩
end
end Go.Proofs.Ytdbbgkdepjidjaa.Al
namespace Go.Proofs.Ytdbbgkdepjidjaa.Al
open Go Go.RowKit
set_option linter.unusedSimpArgs false
set_option linter.unusedVariables false
attribute [-simp] List.length_flatMap
section
variable {T : List Tok} {t : Te} {en : Nat}
/-- A rule is read back. -/
theorem rule_bk (B : BkT t) {s : PS} {r : Rl} {lo n : Nat} {rest : List KT} (hn : n < t.nodes.length) (hb : r.body = (n : Int)) (hS : Sub t lo n) (hN : s.nodes = t.nodes.take lo)
    (hs : suf T s.at' = (1, r.name) :: mK 58 :: (toksK t r ++ mK 59 :: rest)) : ∃ s', ruleP T en s = .ok (s', ()) ∧ suf T s'.at' = rest ∧ s'.nodes = t.nodes.take (n + 1) ∧ s'.rules = s.rules ++ [r] ∧
      s'.given.map (·.name) = s.given.map (·.name) ++ [r.name] ∧ (∃ us, s'.used = s.used ++ us ∧ ∀ u ∈ us, u.name ∈ rnames t) ∧ s.at' < s'.at' := by
  obtain ⟨hlt, ek, h2⟩ := suf_cons hs
  simp only [kt, Prod.mk.injEq] at ek
  have b1 := Bk.step (t := t) hs hN
  have h2' : suf T (giveP ⟨r.name, T[s.at'].at'⟩ s.adv).at' = mK 58 :: (toksK t r ++ mK 59 :: rest) := h2
  have b2 : Bk T t (giveP ⟨r.name, T[s.at'].at'⟩ s.adv) (giveP ⟨r.name, T[s.at'].at'⟩ s.adv).adv lo (toksK t r ++ mK 59 :: rest) := Bk.step h2' hN
  have stop : noBg (mK 59 :: rest) ∧ noMk (mK 59 :: rest) ∧ hNe (mK 59 :: rest) 124 := by
    refine ⟨fun p r e => ?_, ⟨fun r e => ?_, fun r e => ?_, fun r e => ?_⟩, fun r e => ?_⟩
    · cases e; exact ⟨rfl, by decide⟩
    all_goals simp [mK] at e
  have hsuf := b2.suf
  unfold toksK at hsuf
  rw [hb] at hsuf
  obtain ⟨s3, g3, b3⟩ := (pAll (T := T) (en := en) B t.nodes.length).1 (T.length + 1) _ lo n (mK 59 :: rest) hn hn trivial hS b2.nodes hsuf (by simp) stop.1 stop.2.1 stop.2.2 (by omega)
  have b4 := Bk.step (t := t) b3.suf b3.nodes
  obtain ⟨us, u1, u2⟩ := b3.used
  refine ⟨{ s3.adv with rules := s3.rules ++ [⟨r.name, (n : Int)⟩] }, ?_, b4.suf, b4.nodes, ?_, ?_, ⟨us, ?_, u2⟩, ?_⟩
  · unfold ruleP
    have g1 : nameP T en s = .ok (s.adv, ⟨r.name, T[s.at'].at'⟩) := by
      unfold nameP
      simp [hlt, ek]
    rw [g1]
    simp only [pbnd]
    have g2 : mustP T en [58] (giveP ⟨r.name, T[s.at'].at'⟩ s.adv) = .ok ((giveP ⟨r.name, T[s.at'].at'⟩ s.adv).adv, ()) := by
      unfold mustP
      rw [ahead_of h2', if_pos (by simp [mK])]
    rw [g2]
    simp only [pbnd]
    rw [g3]
    simp only [pbnd]
    have g5 : mustP T en [59] s3 = .ok (s3.adv, ()) := by
      unfold mustP
      rw [ahead_of b3.suf, if_pos (by simp [mK])]
    rw [g5]
    rfl
  · show s3.rules ++ [⟨r.name, (n : Int)⟩] = _
    rw [b3.rules, ← hb]; rfl
  · show s3.given.map (·.name) = _
    rw [b3.given]; simp [giveP, PS.adv]
  · show s3.used = _
    rw [u1]; rfl
  · have := b3.at1
    simp only [giveP, PS.adv] at this ⊢
    omega
theorem text_bk (B : BkT t) : ∀ (rs : List Rl) (k : Nat) (s : PS) (seen : List Str) (a b : Nat), rightS t rs seen a = some b → rs ≠ [] → s.nodes = t.nodes.take a →
    suf T s.at' = rs.flatMap (fun r => (1, r.name) :: mK 58 :: (toksK t r ++ [mK 59])) → T.length < k + s.at' → ∃ s', textL T en k s = .ok (s', ()) ∧ s'.nodes = t.nodes.take b ∧ s'.rules = s.rules ++ rs ∧
      s'.given.map (·.name) = s.given.map (·.name) ++ rs.map (·.name) ∧ (∃ us, s'.used = s.used ++ us ∧ ∀ u ∈ us, u.name ∈ rnames t)
  | [], k, s, seen, a, b, h, hne, hN, hs, hk => absurd rfl hne
  | r :: rs, k, s, seen, a, b, h, hne, hN, hs, hk => by
    unfold rightS at h
    split at h
    · rename_i c
      obtain ⟨c1, c2, c3, c4⟩ := c
      split at h
      · rename_i v hv
        obtain ⟨s1, s2, s3⟩ := runS_sz B.lt _ _ _ _ hv (by simp)
        have s3 := s3 (by omega)
        simp at s3
        have hv0 : v = ((r.body.toNat : Nat) : Int) := by omega
        rw [hv0] at hv
        have hS : Sub t a r.body.toNat := ⟨by omega, hv⟩
        simp only [List.flatMap_cons, List.cons_append, List.append_assoc, List.singleton_append] at hs
        have hlt := suf_lt hs
        obtain ⟨k, rfl⟩ : ∃ k', k = k' + 1 := ⟨k - 1, by omega⟩
        obtain ⟨q, g1, q1, q2, q3, q4, ⟨us, q5, q6⟩, q7⟩ := rule_bk (T := T) (en := en) B (r := r) (lo := a) (n := r.body.toNat) (by omega) (by omega) hS hN hs
        rw [textL, g1]
        simp only [pbnd]
        cases rs with
        | nil =>
          simp only [rightS, Option.some.injEq] at h
          have : T.length ≤ q.at' := suf_nil.1 (by simpa using q1)
          rw [if_neg (by omega)]
          exact ⟨q, rfl, by rw [q2, h], q3, by simpa using q4, us, q5, q6⟩
        | cons r2 rs =>
          have q1' := q1
          simp only [List.flatMap_cons, List.cons_append, List.nil_append] at q1'
          have hlt2 := suf_lt q1'
          rw [if_pos hlt2]
          obtain ⟨z, g2, z1, z2, z3, ⟨us2, z4, z5⟩⟩ := text_bk B (r2 :: rs) k q _ _ b h (by simp) q2 q1 (by omega)
          exact ⟨z, g2, z1, by rw [z2, q3]; simp, by rw [z3, q4]; simp, us ++ us2, by rw [z4, q5, List.append_assoc], fun u hu => (List.mem_append.1 hu).elim (q6 u) (z5 u)⟩
      · cases h
    · cases h
/-- A right tree comes back from its text. -/
theorem ruRd_text (h : rightP t = true) (hl : (textT t).length ≤ 4000) : ruRd (textT t) = (t, 0, 0) := by
  have R := rte_of h
  have hr := h
  unfold rightP at hr
  simp only [Bool.and_eq_true, decide_eq_true_eq] at hr
  obtain ⟨⟨⟨r1, r2⟩, r3⟩, r4⟩ := hr
  obtain ⟨c1, c2⟩ := text_scan h hl
  generalize textT t = S at *
  obtain ⟨z, g, z1, z2, z3, ⟨us, z4, z5⟩⟩ := text_bk (T := (scanR S).1) (en := S.length) (bkT_of R) t.rules ((scanR S).1.length + 1) ⟨0, [], [], [], []⟩ [] 0 t.nodes.length r4 (by intro e; rw [e] at r1; simp at r1) (by simp) (by simpa [suf, ktT] using c2) (by simp)
  have hg : textP (scanR S).1 S.length = .ok (z, ()) := g
  simp only [List.map_nil, List.nil_append, List.take_length] at z1 z2 z3 z4
  have hn : namesP z.given z.used = (0, 0) := by
    have h1 : twiceP [] z.given = none := by
      have key : ∀ (l : List Use) (seen : List Str), (seen ++ l.map (·.name)).Nodup → twiceP seen l = none := fun l => by
        induction l with
        | nil => exact fun _ _ => rfl
        | cons u l ih =>
          intro seen hd
          unfold twiceP
          have hd2 : (seen ++ [u.name] ++ l.map (·.name)).Nodup := by simpa using hd
          rw [if_neg (fun hm => by
            rw [List.nodup_append] at hd
            exact hd.2.2 u.name hm u.name (by simp) rfl)]
          exact ih _ hd2
      exact key _ _ (by rw [z3]; simpa [rnames] using R.names)
    have h2 : missP (z.given.map (·.name)) z.used = none := by
      have key : ∀ (l : List Use) (seen : List Str), (∀ u ∈ l, u.name ∈ seen) → missP seen l = none := fun l => by
        induction l with
        | nil => exact fun _ _ => rfl
        | cons u l ih =>
          intro seen hd
          unfold missP
          rw [if_pos (hd u (by simp))]
          exact ih _ fun v hv => hd v (by simp [hv])
      exact key _ _ (by rw [z3, z4]; exact fun u hu => by simpa [rnames] using z5 u hu)
    unfold namesP
    rw [h1]; simp only; rw [h2]
  unfold ruRd
  rw [if_neg (by rw [c1]; simp), hg]
  simp only
  rw [z1, z2, hn, if_neg (by omega), if_neg (by simp)]
end
end Go.Proofs.Ytdbbgkdepjidjaa.Al
namespace Go.Proofs.Ytdbbgkdepjidjaa.Al
open Go Go.RowKit
set_option linter.unusedSimpArgs false
set_option linter.unusedVariables false
attribute [-simp] List.getD_eq_getElem?_getD Int.not_lt Int.not_le List.map_take List.map_map
structure L07B (X : Cx) : Prop where
  l : L07L X
  rd : LRead X
  same : LSame6 X
theorem showP_or (t : Te) : (rightP t = true ∧ (textT t).length ≤ 4000 ∧ showP t = (textT t, 0)) ∨ (rightP t = true ∧ showP t = ([], 5)) ∨ (rightP t = false ∧ showP t = ([], 1)) := by
  unfold showP
  by_cases h : rightP t = true
  · rw [if_pos h]
    by_cases c : 4000 < (textT t).length
    · rw [if_pos c]; exact .inr (.inl ⟨h, rfl⟩)
    · rw [if_neg c]; exact .inl ⟨h, by omega, rfl⟩
  · rw [if_neg h]; exact .inr (.inr ⟨by simpa using h, rfl⟩)
theorem text_same {t u : Te} (h1 : rightP t = true) (h2 : (textT t).length ≤ 4000) (h3 : rightP u = true) (h4 : (textT u).length ≤ 4000) : textT t = textT u ↔ t = u := by
  constructor
  · intro e
    have a := ruRd_text h1 h2
    rw [e, ruRd_text h3 h4] at a
    exact (congrArg Prod.fst a).symm
  · rintro rfl; rfl
end Go.Proofs.Ytdbbgkdepjidjaa.Al
namespace Go.Proofs.Ytdbbgkdepjidjaa.Al
open Go Go.RowKit
set_option linter.unusedSimpArgs false
set_option linter.unusedVariables false
attribute [-simp] List.getD_eq_getElem?_getD Int.not_lt Int.not_le List.map_take List.map_map
section
variable {X : Cx} {h : AH} {Q : V → AH → Prop}
theorem show_one (L : L07B X) (H : Has (Ecx X) K.probatelaw07_ShowOne A.probatelaw07_ShowOne) (s r : Str) (hQ : Q (.bool true) h) : Ecx X K.probatelaw07_ShowOne [.str s, .str r] h Q := by
  refine fn_walk H (by simp [A.probatelaw07_ShowOne]) fun wf => ?_
  have htc : ∀ t : Te, teV t = .agg [.sl 2 0 (t.rules.map rlV), .sl 3 0 (t.nodes.map ndV)] := fun _ => rfl
  simp [A.probatelaw07_ShowOne]
  refine ecall (awake7_spec L.l ?_)
  by_cases c1 : (1000 : Int) < s.length
  · simp [c1]; exact fin (by simp) hQ
  by_cases c2 : (1000 : Int) < r.length
  · simp [c1, c2]; exact fin (by simp) hQ
  simp [c1, c2]
  refine ecall (ruRead_spec L.rd s (by omega) ?_)
  simp [ruRdV, htc, V.cells, V.good, setAt]
  refine ecall (ruRead_spec L.rd r (by omega) ?_)
  simp [ruRdV, htc, V.cells, V.good, setAt]
  have St := ruRd_sm (s := s)
  have Su := ruRd_sm (s := r)
  have Gt := ruRd_good (s := s)
  have Gu := ruRd_good (s := r)
  generalize (ruRd s).1 = t at *
  generalize (ruRd r).1 = u at *
  generalize (ruRd s).2.2 = e1 at *
  generalize (ruRd r).2.2 = e2 at *
  have gr := ((Gr.refl h).new [V.sl 2 0 (t.rules.map rlV), .sl 3 0 (t.nodes.map ndV)]).new [V.sl 2 0 (u.rules.map rlV), .sl 3 0 (u.nodes.map ndV)]
  have oA : ((h.new [V.sl 2 0 (t.rules.map rlV), .sl 3 0 (t.nodes.map ndV)]).new [V.sl 2 0 (u.rules.map rlV), .sl 3 0 (u.nodes.map ndV)]).objs h.nobj = [V.sl 2 0 (t.rules.map rlV), .sl 3 0 (t.nodes.map ndV)] := by simp
  have oB : ((h.new [V.sl 2 0 (t.rules.map rlV), .sl 3 0 (t.nodes.map ndV)]).new [V.sl 2 0 (u.rules.map rlV), .sl 3 0 (u.nodes.map ndV)]).objs (h.nobj + 1) = [V.sl 2 0 (u.rules.map rlV), .sl 3 0 (u.nodes.map ndV)] := by simp
  have nb : ((h.new [V.sl 2 0 (t.rules.map rlV), .sl 3 0 (t.nodes.map ndV)]).new [V.sl 2 0 (u.rules.map rlV), .sl 3 0 (u.nodes.map ndV)]).nobj = h.nobj + 2 := by simp
  generalize ((h.new [V.sl 2 0 (t.rules.map rlV), .sl 3 0 (t.nodes.map ndV)]).new [V.sl 2 0 (u.rules.map rlV), .sl 3 0 (u.nodes.map ndV)]) = h1 at *
  have q1 : ¬ h.nobj = h1.nobj := by omega
  have q2 : ¬ h.nobj + 1 = h1.nobj := by omega
  have tr := St.r; have tn := St.n; have ur := Su.r; have un := Su.n
  by_cases c3 : e1 = 0
  case neg =>
    simp [c3]
    exact fin_wk gr (.same _) (by simp) hQ
  obtain ⟨rt, _⟩ := Gt c3
  simp [c3, oA]
  rw [← htc]
  refine ecall (wText L.l.l St (fun hr => tbo_of hr St) ?_)
  rcases showP_or t with ⟨h1', h2', e⟩ | ⟨h1', e⟩ | ⟨h1', e⟩
  · have hrd := ruRd_text h1' h2'
    simp [e]
    refine ecall (ruRead_spec L.rd _ (by omega) ?_)
    simp [ruRdV, hrd, htc, V.cells, V.good, setAt]
    rw [← htc]
    refine ecall (wText L.l.l St (fun hr => tbo_of hr St) ?_)
    simp [e, oB, q2]
    rw [← htc]
    refine ecall (wText L.l.l Su (fun hr => tbo_of hr Su) ?_)
    by_cases c4 : e2 = 0
    case neg =>
      simp [c4]
      exact fin_wk (gr.new _) (.same _) (by simp) hQ
    rcases showP_or u with ⟨h3', h4', e2'⟩ | ⟨h3', e2'⟩ | ⟨h3', e2'⟩
    · have hs := text_same h1' h2' h3' h4'
      simp [c4, e2', oA, oB, q1, q2]
      rw [← htc, ← htc]
      refine ecall (ruSame_spec L.same t u (by omega) (by omega) (fun n hn => by have := St.ks n hn; omega) ?_)
      simp [hs]
      exact fin_wk (gr.new _) (.same _) (by simp) hQ
    · simp [c4, e2']
      exact fin_wk (gr.new _) (.same _) (by simp) hQ
    · simp [c4, e2']
      exact fin_wk (gr.new _) (.same _) (by simp) hQ
  · simp [e]
    exact fin_wk gr (.same _) (by simp) hQ
  · rw [h1'] at rt; cases rt
end
end Go.Proofs.Ytdbbgkdepjidjaa.Al
namespace Go.Proofs.Ytdbbgkdepjidjaa.Al
open Go Go.RowKit
set_option linter.unusedVariables false
theorem lrd7 (W : World) (Z : Value → AH → Prop) : LRd (cxZ W Z) wrongV := ⟨fun toks en a o rest h Q ob hs ha hZ => fail_ok (has_rules_reader_fail W) toks en a o rest h Q ob hs ha hZ, has_rules_reader_ahead W, has_rules_reader_take W, has_rules_reader_must W, has_rules_reader_name W, has_rules_reader_node W, has_rules_reader_begins W, has_rules_reader_atom W, has_rules_reader_item W, has_rules_reader_one W, has_rules_reader_alternatives W, has_rules_reader_text W⟩
theorem lread7 (W : World) : LRead (cxOf W) := ⟨ls W, fun toks en h o σ Q r hs hk hT hF => parse_ok W (lrd7 W) r hs hk hT hF, has_rules_reader_names W, has_rules_Read W⟩
theorem lsame7 (W : World) : LSame6 (cxOf W) := ⟨has_rules_Same W, has_rules_Same_1 W, has_slices_Equal_Rule W, has_slices_EqualFunc_Node W, has_slices_Equal_int W⟩
theorem l07B (W : World) : L07B (cxOf W) := ⟨l07L W, lread7 W, lsame7 W⟩
theorem law_ShowOne (W : World) {u0 u1 : V} (a0 : Arg Try.prog 9 u0) (a1 : Arg Try.prog 9 u1) : Ecx (cxOf W) K.probatelaw07_ShowOne [u0, u1] iniH fun r _ => r = .bool true := by
  obtain ⟨s, rfl, hs⟩ := arg_str Try.underlying9 a0
  obtain ⟨r, rfl, hr⟩ := arg_str Try.underlying9 a1
  exact show_one (l07B W) (has_probatelaw07_ShowOne W) s r rfl
end Go.Proofs.Ytdbbgkdepjidjaa.Al
