/-
  What the law RulesTells needs of this claim's texts (part 4). Conditions: each theorem's own.
-/
import Derived.Test.YtecgbggobecpjaaAlA
import Derived.Test.YtecgbggobecpjaaAlB
import Derived.Test.YtecgbggobecpjaaAlC
import Derived.Test.YtecgbggobecpjaaAlKeys
import Derived.Test.YtecgbggobecpjaaSh1RulesTells
import Derived.Test.YtecgbggobecpjaaSh2RulesTells
import Derived.Test.YtecgbggobecpjaaSh3RulesTells
namespace Go.Proofs.Ytecgbggobecpjaa.Al
open Go Go.RowKit
set_option linter.unusedSimpArgs false
set_option linter.unusedVariables false
attribute [-simp] List.getD_eq_getElem?_getD Int.not_lt Int.not_le List.map_take List.map_map
section
variable {X : Cx} {toks : List Tok} {en : Nat} {h : AH} {o : Nat} {σ : S4} {Q : V → AH → Prop}
theorem rItemsW (L : LRdR X) {p c : Nat} (r : RdW toks en h o p c σ) (hp : c ≤ 2 ^ 38) (hQ : ∀ h1 σ1 n, RE h h1 o σ σ1 → RdW toks en h1 o p (c + 1) σ1 → Q (.int .i64 n) h1) : Ecx X K.probateref06_reader_items [.ptr o 0] h Q := by
  refine fn_any L.items (by simp [A.probateref06_reader_items]) fun wf => ?_
  obtain ⟨a, R, N, G, U, k1, k2, k3, rd⟩ := id r
  obtain ⟨e1, e2, e3, e4, ob, _⟩ := rd.ob
  simp [A.probateref06_reader_items, fillL]
  refine loopI (n := 0) (fun m env h' => h' = h ∧ env = [(0, .ptr o 0), (3, .sl 1 2 [])]) ?_ ⟨rfl, rfl⟩
  rintro m env h' ⟨rfl, rfl⟩
  unfold A.probateref06_reader_items.L0
  simp [ob]
  exact ecall (rLayW L r hp 1 [] fun h1 σ1 n g r1 => by
    simp
    exact hQ h1 σ1 n g r1)
theorem rAltsW (L : LRdR X) {p c : Nat} (r : RdW toks en h o p c σ) (hp : c + 1 ≤ 2 ^ 38) (hQ : ∀ h1 σ1 n, RE h h1 o σ σ1 → RdW toks en h1 o p (c + 1) σ1 → Q (.int .i64 n) h1) : Ecx X K.probateref06_reader_alternatives [.ptr o 0] h Q := by
  refine fn_any L.alts (by simp [A.probateref06_reader_alternatives]) fun wf => ?_
  simp [A.probateref06_reader_alternatives]
  refine ecall (rItemsW L r (by omega) fun h1 σ1 n g r1 => ?_)
  obtain ⟨a, R, N, G, U, k1, k2, k3, rd⟩ := id r1
  obtain ⟨e1, e2, e3, e4, ob, _⟩ := rd.ob
  simp [fillL, V.isAgg]
  refine loopI (n := 0) (fun m env h' => h' = h1 ∧ env = [(0, .ptr o 0), (3, .sl 1 2 [.int .i64 n])]) ?_ ⟨rfl, rfl⟩
  rintro m env h' ⟨rfl, rfl⟩
  unfold A.probateref06_reader_alternatives.L0
  simp
  refine ecall (rMark L.mark ob _ ?_)
  simp [V.cells]
  exact hQ _ σ1 n g r1
def AltR (X : Cx) (toks : List Tok) (en f : Nat) : Prop := ∀ (s : PS) (h : AH) (o : Nat) (σ : S4) (Q : V → AH → Prop), s.at' ≤ toks.length → toks.length < f + s.at' → pot toks s + 2 ≤ 2 ^ 38 → RdT toks h o s σ →
  AnsR toks en h o σ (pot toks s + 2) Q (altsP toks en f s) → Ecx X K.probateref06_reader_alternatives [.ptr o 0] h Q
theorem rAtom (L : LRdR X) (hs : toks.length < 2 ^ 30) (hk : ∀ t ∈ toks, t.kind = 1 ∨ t.kind = 2 ∨ t.kind = 3) {f : Nat} (hA : AltR X toks en f) {s : PS} (r : RdT toks h o s σ) (hb : bgnP toks s.at' = true) (hf : toks.length < f + 1 + s.at') (hp : pot toks s ≤ 2 ^ 38)
    (hQ : AnsR toks en h o σ (pot toks s) Q (atomP toks en (altsP toks en f) s)) : Ecx X K.probateref06_reader_atom [.ptr o 0] h Q := by
  refine fn_any L.atom (by simp [A.probateref06_reader_atom]) fun wf => ?_
  have hl := bgnP_lt hb
  have pa := pot_adv hl
  have np := nodes_pot (toks := toks) s
  obtain ⟨N, hN, rd⟩ := id r
  obtain ⟨e1, e2, e3, e4, ob, m1, m2, m3, m4⟩ := rd.ob
  have hlt0 := rd.lt
  have n1 : ¬ o = h.nobj := by omega
  have n3 : ¬ h.nobj = o := by omega
  have hlt' : (s.at' : Int) < toks.length := by omega
  have hg : (toks.map tokV).getD s.at' .undef = .agg (tokC toks[s.at']) := toks_getD hl
  have hw1 : IntKind.i64.wrap ((s.at' : Int) + 1) = ((s.at' + 1 : Nat) : Int) := by rw [wrap_i64 (by omega) (by omega)]; rfl
  have ht : toks[s.at']? = some toks[s.at'] := List.getElem?_eq_getElem hl
  have hm := hk _ (List.getElem_mem hl)
  have key : ∀ KK : Int, RdO ((h.set o [V.sl 3 0 (toks.map tokV), .int .i64 ((s.at' : Int) + 1), .bool false, .sl e1 σ.a (s.rules.map rlV), .sl e2 σ.b N, .sl e3 σ.c (s.given.map utokV), .sl e4 σ.d (s.used.map utokV)]).new [.int .i64 KK, .str toks[s.at'].text, .int .i64 (toks[s.at'].at' : Nat)]) o (.sl 3 0 (toks.map tokV)) (.bool false) (s.at' + 1) 3 (s.rules.map rlV) N (s.given.map utokV) (s.used.map utokV) σ ∧ RE h ((h.set o [V.sl 3 0 (toks.map tokV), .int .i64 ((s.at' : Int) + 1), .bool false, .sl e1 σ.a (s.rules.map rlV), .sl e2 σ.b N, .sl e3 σ.c (s.given.map utokV), .sl e4 σ.d (s.used.map utokV)]).new [.int .i64 KK, .str toks[s.at'].text, .int .i64 (toks[s.at'].at' : Nat)]) o σ σ := fun KK =>
    ⟨(rd.cells ob _ (s.at' + 1) _).new _, ((RE.refl h o σ).set (.inl rfl) _).new _⟩
  by_cases c2 : toks[s.at'].kind = 2
  · have c2' : (toks[s.at'].kind : Int) = 2 := by omega
    have c3 : aheadP toks s.at' [40] = false := by simp [aheadP, hl, c2]
    have hq : atomP toks en (altsP toks en f) s = .ok (nodeP 7 toks[s.at'].text [] s.adv) := by unfold atomP; rw [if_neg (by simp [c3]), ht]; simp [c2]
    rw [hq] at hQ
    simp [A.probateref06_reader_atom, ob, hlt', hg, tokC, V.cells, V.good, setAt, c2', n1, n3, hw1]
    refine ecall (rLayN L (s := s.adv) (toks := toks) (σ := σ) ⟨N, hN, (key 2).1⟩ (by simp [PS.adv]; omega) 7 _ [] (.inl rfl) fun h2 σ2 g2 r2 => ?_)
    simp
    exact hQ h2 σ2 ((key 2).2.trans g2) r2
  by_cases c1 : toks[s.at'].kind = 1
  · have c1' : (toks[s.at'].kind : Int) = 1 := by omega
    have c3 : aheadP toks s.at' [40] = false := by simp [aheadP, hl, c1]
    have hn : nameP toks en s = .ok (s.adv, ⟨toks[s.at'].text, toks[s.at'].at'⟩) := by simp [nameP, hl, c1]
    have hq : atomP toks en (altsP toks en f) s = .ok (nodeP 6 toks[s.at'].text [] (useP ⟨toks[s.at'].text, toks[s.at'].at'⟩ s.adv)) := by
      unfold atomP; rw [if_neg (by simp [c3]), ht]; simp [c1, hn, pbnd]
    rw [hq] at hQ
    simp [A.probateref06_reader_atom, ob, hlt', hg, tokC, V.cells, V.good, setAt, c1', n1, n3, hw1, fillL, V.isAgg]
    have ms : May 3 ((h.set o [V.sl 3 0 (toks.map tokV), .int .i64 ((s.at' : Int) + 1), .bool false, .sl e1 σ.a (s.rules.map rlV), .sl e2 σ.b N, .sl e3 σ.c (s.given.map utokV), .sl e4 σ.d (s.used.map utokV)]).new [.int .i64 1, .str toks[s.at'].text, .int .i64 (toks[s.at'].at' : Nat)]) e4 σ.d (s.used.map utokV) := ⟨m4.el, m4.st⟩
    refine ms.app (by simp) rfl (by simp; omega) ?_
    have ob2 : ((h.set o [V.sl 3 0 (toks.map tokV), .int .i64 ((s.at' : Int) + 1), .bool false, .sl e1 σ.a (s.rules.map rlV), .sl e2 σ.b N, .sl e3 σ.c (s.given.map utokV), .sl e4 σ.d (s.used.map utokV)]).new [.int .i64 1, .str toks[s.at'].text, .int .i64 (toks[s.at'].at' : Nat)]).objs o = [V.sl 3 0 (toks.map tokV), .int .i64 ((s.at' : Int) + 1), .bool false, .sl e1 σ.a (s.rules.map rlV), .sl e2 σ.b N, .sl e3 σ.c (s.given.map utokV), .sl e4 σ.d (s.used.map utokV)] := by simp [n1]
    have hx : ((h.set o [V.sl 3 0 (toks.map tokV), .int .i64 ((s.at' : Int) + 1), .bool false, .sl e1 σ.a (s.rules.map rlV), .sl e2 σ.b N, .sl e3 σ.c (s.given.map utokV), .sl e4 σ.d (s.used.map utokV)]).new [.int .i64 1, .str toks[s.at'].text, .int .i64 (toks[s.at'].at' : Nat)]).objs h.nobj = [.int .i64 1, .str toks[s.at'].text, .int .i64 (toks[s.at'].at' : Nat)] := by simp
    obtain ⟨k1, k2⟩ := key 1
    obtain ⟨r2, g2⟩ := k1.pushU ob2 (.agg [.int .i64 1, .str toks[s.at'].text, .int .i64 (toks[s.at'].at' : Nat)])
    generalize ((h.set o [V.sl 3 0 (toks.map tokV), .int .i64 ((s.at' : Int) + 1), .bool false, .sl e1 σ.a (s.rules.map rlV), .sl e2 σ.b N, .sl e3 σ.c (s.given.map utokV), .sl e4 σ.d (s.used.map utokV)]).new [.int .i64 1, .str toks[s.at'].text, .int .i64 (toks[s.at'].at' : Nat)]) = hh at *
    simp [V.cells, V.good, setAt, push_objs, ob2, n3, hx]
    have hu : (useP ⟨toks[s.at'].text, toks[s.at'].at'⟩ s.adv).used.map utokV = s.used.map utokV ++ [.agg [.int .i64 1, .str toks[s.at'].text, .int .i64 (toks[s.at'].at' : Nat)]] := by simp [useP, PS.adv, utokV, tokV, tokC]
    refine ecall (rLayN L (toks := toks) (s := useP ⟨toks[s.at'].text, toks[s.at'].at'⟩ s.adv) ⟨N, hN, by rw [hu]; exact r2⟩ (by simp [PS.adv, useP]; omega) 6 _ [] (.inl rfl) fun h2 σ2 g3 r3 => ?_)
    simp
    exact hQ h2 σ2 ((k2.trans g2).trans g3) r3
  · have c3 : toks[s.at'].kind = 3 := by omega
    have c3' : (toks[s.at'].kind : Int) = 3 := by omega
    simp [A.probateref06_reader_atom, ob, hlt', hg, tokC, V.cells, V.good, setAt, c3', n1, n3, hw1]
    have hah : aheadP toks s.at' [40] = true := by
      simp [bgnP, hl, c3] at hb
      simp [aheadP, hl, c3, hb]
    unfold atomP at hQ
    rw [if_pos hah] at hQ
    have e0 : s.adv.at' = s.at' + 1 := rfl
    obtain ⟨k1, k2⟩ := key 3
    refine ecall (hA s.adv _ _ σ _ (by omega) (by omega) (by omega) ⟨N, hN, k1⟩ ?_)
    cases ha : altsP toks en f s.adv with
    | ok x =>
      obtain ⟨s1, n⟩ := x
      rw [ha] at hQ
      intro h1 σ1 g1 r1
      have f1 := alts_fwd f _ _ _ (by omega) ha
      have f1p := f1.pot
      simp
      refine ecall (rMust L (en := en) hs r1 f1.at2 _ (fun h2 c g2 r2 => ?_) (fun h2 c g2 r2 => ?_))
      · have hq : pbnd (.ok (s1, n)) (fun s1 n => pbnd (mustP toks en [41] s1) fun s2 _ => .ok (s2, n)) = .ok (s1.adv, n) := by simp [pbnd, mustP, c]
        rw [hq] at hQ
        simp
        exact hQ h2 σ1 ((k2.trans g1).trans g2) r2
      · have hq : pbnd (.ok (s1, n)) (fun s1 n => pbnd (mustP toks en [41] s1) fun s2 _ => .ok (s2, n)) = .error (plcP toks en s1.at') := by simp [pbnd, mustP, c]
        rw [hq] at hQ
        simp
        exact hQ h2 σ1 n ((k2.trans g1).trans g2) (r2.mono (by omega))
    | error p =>
      rw [ha] at hQ
      intro h1 σ1 n g1 r1
      simp
      refine ecall (rMustW L r1 _ fun h2 g2 r2 => ?_)
      simp
      exact hQ h2 σ1 n ((k2.trans g1).trans g2) (r2.mono (by omega))
/-- A slice of one's own is pushed. -/
theorem Loc.appO {h0 : AH} {e st : Nat} {l : List V} (c : Loc h0 h σ e st l) (hn : h0.next ≤ h.next) {v0 v2 : V} {a eg : Nat} {R N G U : List V} (rd : RdO h o v0 v2 a eg R N G U σ) {m : List V} (hm : m ≠ []) (hb : (l.length + m.length) * 8 ≤ 2 ^ 46) {K : V → AH → Prop} {zK : Lz K}
    (hk : RdO (h.push st 1) o v0 v2 a eg R N G U σ → Loc h0 (h.push st 1) σ 1 h.next (l ++ m) → K (.sl 1 h.next (l ++ m)) (h.push st 1)) : App h 1 8 e st l 1 m zK := by
  refine c.may.app hm rfl hb (hk ?_ ?_)
  · exact rd.push (by rcases c.lo with d | d; exact .inl d; exact .inr d.2.2) 1
  · refine ⟨⟨.inr rfl, .inr (.inr (push_new _ _ _))⟩, .inr ⟨hn, by rw [push_next]; omega, fun q => ?_⟩⟩
    have := rd.sb _ q
    have := rd.lo.1
    omega
theorem pbnd_pure {α β : Type} (x : PS × α) (f : PS → α → PR β) : pbnd (.ok x) f = f x.1 x.2 := rfl
theorem rItems (L : LRdR X) (hs : toks.length < 2 ^ 30) (hk : ∀ t ∈ toks, t.kind = 1 ∨ t.kind = 2 ∨ t.kind = 3) {f : Nat} (hA : AltR X toks en f) {s : PS} (r : RdT toks h o s σ) (ha : s.at' ≤ toks.length) (hf : toks.length < f + 1 + s.at') (hp : pot toks s + 1 ≤ 2 ^ 38)
    (hQ : AnsR toks en h o σ (pot toks s + 1) Q (seqP toks en (altsP toks en f) s)) : Ecx X K.probateref06_reader_items [.ptr o 0] h Q := by
  refine fn_any L.items (by simp [A.probateref06_reader_items]) fun wf => ?_
  simp [A.probateref06_reader_items, fillL]
  unfold seqP at hQ
  refine loopI (n := toks.length + 1 - s.at') (fun m env h' => ∃ l e st σ', env = [(0, .ptr o 0), (3, .sl e st (ints l))] ∧ RE h h' o σ σ' ∧ Loc h h' σ' e st (ints l) ∧ l.length ≤ 2 ^ 30 ∧
      ((∃ s', RdT toks h' o s' σ' ∧ s'.at' ≤ toks.length ∧ s.at' ≤ s'.at' ∧ l.length ≤ s'.at' - s.at' ∧ pot toks s' ≤ pot toks s ∧ m = toks.length + 1 - s'.at' ∧ ∃ k, toks.length < k + s'.at' ∧ AnsR toks en h o σ (pot toks s + 1) Q (pbnd (itemsP toks en (altsP toks en f) k s' l) fun s1 l => .ok (oneP 1 l s1))) ∨
       (∃ p, RdW toks en h' o p (pot toks s) σ' ∧ m = 0 ∧ l.length ≤ toks.length + 1 ∧ ∀ h1 σ1 n, RE h h1 o σ σ1 → RdW toks en h1 o p (pot toks s + 1) σ1 → Q (.int .i64 n) h1))) ?_
    ⟨[], 1, 2, σ, rfl, RE.refl _ _ _, ⟨⟨.inl rfl, .inr (.inl rfl)⟩, .inl (by omega)⟩, by simp, .inl ⟨s, r, ha, by omega, by simp, by omega, rfl, toks.length + 1, by omega, hQ⟩⟩
  rintro m env h' ⟨l, e, st, σ', rfl, g, lc, hl0, hcase⟩
  unfold A.probateref06_reader_items.L0
  have hil : (ints l).length = l.length := by simp [ints]
  rcases hcase with ⟨s', r', ha', hb', hl, hp', rfl, k, hk1, hQ'⟩ | ⟨p, r', rfl, hl, hW⟩
  · obtain ⟨N, hN, rd⟩ := id r'
    obtain ⟨e1, e2, e3, e4, ob, _⟩ := rd.ob
    have hlN := hN.len
    simp only [List.length_map] at hlN
    have np := nodes_pot (toks := toks) s'
    have lo := rd.lo.2
    cases c : bgnP toks s'.at' with
    | false =>
      have hi : itemsP toks en (altsP toks en f) k s' l = .ok (s', l) := by
        cases k with
        | zero => rfl
        | succ k => unfold itemsP; rw [if_neg (by simp [c])]
      rw [hi] at hQ'
      have hQ2 : AnsR toks en h o σ (pot toks s + 1) Q (.ok (oneP 1 l s')) := hQ'
      by_cases hlt : s'.at' < toks.length
      case' pos =>
        have hlt' : (s'.at' : Int) < toks.length := by omega
        have hg : (toks.map tokV).getD s'.at' .undef = .agg (tokC toks[s'.at']) := toks_getD hlt
        have c3 : toks[s'.at'].kind = 3 := by
          refine Classical.byContradiction fun cc => ?_
          simp [bgnP, hlt, cc] at c
        have c4 : ¬ toks[s'.at'].text = [40] := fun cc => by simp [bgnP, hlt, cc] at c
        have c3' : (toks[s'.at'].kind : Int) = 3 := by omega
        simp [ob, hlt', hg, tokC, V.cells, c3']
        refine dcall (.bool false) (rMark L.mark ob _ ⟨by simp [aheadP, hlt, c3, c4], rfl⟩) ?_
        simp
      case' neg =>
        have hlt' : ¬ (s'.at' : Int) < toks.length := by omega
        simp [ob, hlt']
      all_goals
        by_cases c1 : l.length = 1
        · obtain ⟨n, rfl⟩ := List.length_eq_one_iff.1 c1
          obtain rfl : e = 1 := (ints_el lc.may.el).resolve_left (by simp)
          simp [ints, V.cells]
          exact hQ2 _ _ g r'
        · have c1' : ¬ (l.length : Int) = 1 := by omega
          have ho : oneP 1 l s' = nodeP 1 [] l s' := by
            match l, c1 with
            | [], _ => rfl
            | [n], c => simp at c
            | _ :: _ :: _, _ => rfl
          rw [ho] at hQ2
          simp [c1']
          refine ecall (rLayN L r' (by omega) 1 [] l (ints_el lc.may.el) fun h1 σ1 g1 r1 => ?_)
          simp
          exact hQ2 _ _ (g.trans g1) r1
    | true =>
      have hlt := bgnP_lt c
      have hlt' : (s'.at' : Int) < toks.length := by omega
      have hg : (toks.map tokV).getD s'.at' .undef = .agg (tokC toks[s'.at']) := toks_getD hlt
      obtain ⟨k, rfl⟩ : ∃ k', k = k' + 1 := ⟨k - 1, by omega⟩
      rw [itemsP, if_pos c, itemP, pbnd_assoc, pbnd_assoc] at hQ'
      by_cases c3 : toks[s'.at'].kind = 3
      case' pos =>
        have c4 : toks[s'.at'].text = [40] := by simpa [bgnP, hlt, c3] using c
        have c3' : (toks[s'.at'].kind : Int) = 3 := by omega
        simp [ob, hlt', hg, tokC, V.cells, c3']
        refine dcall (.bool true) (rMark L.mark ob _ ⟨by simp [aheadP, hlt, c3, c4], rfl⟩) ?_
        simp
      case' neg =>
        have c3' : ¬ (toks[s'.at'].kind : Int) = 3 := by omega
        simp [ob, hlt', hg, tokC, V.cells, c3']
      all_goals
        refine ecall (rAtom L hs hk hA r' c (by omega) (by omega) ?_)
        cases hat : atomP toks en (altsP toks en f) s' with
        | error q =>
          rw [hat] at hQ'
          intro h1 σ1 n g1 r1
          obtain ⟨a1, R1, N1, G1, U1, k1, k2, k3, rd1⟩ := id r1
          obtain ⟨f1, f2, f3, f4, ob1, _⟩ := rd1.ob
          have gn := g.next
          have gn1 := g1.next
          simp
          refine ecall (rMark L.mark ob1 _ ?_)
          simp
          refine ecall (rMark L.mark ob1 _ ?_)
          simp
          refine ecall (rMark L.mark ob1 _ ?_)
          simp [fillL, V.isAgg]
          refine (lc.from g1 lo).appO (by omega) rd1 (by simp) (by simp [ints]; omega) fun rd2 lc2 => ?_
          have hi : ints l ++ [V.int IntKind.i64 n] = ints (l ++ [n]) := by rw [ints_append]; rfl
          rw [hi] at lc2 ⊢
          simp
          exact ⟨0, by omega, iv ⟨l ++ [n], 1, h1.next, σ1, rfl, (g.trans g1).push (by have := lc.lo; omega) 1, lc2, by simp; omega, .inr ⟨q, ⟨a1, R1, N1, G1, U1, k1, k2, by omega, rd2⟩, rfl, by simp; omega, hQ'⟩⟩⟩
        | ok x =>
          obtain ⟨s1, n⟩ := x
          rw [hat] at hQ'
          intro h1 σ1 g1 r1
          obtain ⟨b1, fw⟩ := atom_fwd (alts_fwd f) hat
          have fp := fw.pot
          have fa := fw.at2
          have fe := fw.at1
          obtain ⟨N1, hN1, rd1⟩ := id r1
          obtain ⟨f1, f2, f3, f4, ob1, _⟩ := rd1.ob
          have lo1 := rd1.lo.2
          have gn := g.next
          have gn1 := g1.next
          have np1 := nodes_pot (toks := toks) s1
          have hx : ∀ m m' : Str, m ≠ m' → aheadP toks s1.at' m = true → aheadP toks s1.at' m' = false := fun m m' hne h1 => by
            unfold aheadP at h1 ⊢
            split at h1
            · simp at h1
              simp [h1.1, h1.2, hne]
            · cases h1
          have stp : ∀ K : Int, s1.at' < toks.length → (markP toks s1 n) = nodeP K [] [n] s1.adv → pot toks (s1.adv.lay K [] [n]) ≤ pot toks s := fun K hl hm => by
            have := pot_adv hl
            unfold pot PS.lay at *; simp at *; omega
          simp
          cases a1 : aheadP toks s1.at' [42] with
          | true =>
            have a2 := hx _ [43] (by decide) a1
            have a3 := hx _ [63] (by decide) a1
            have hm : markP toks s1 n = nodeP 3 [] [n] s1.adv := by unfold markP; rw [if_pos a1]
            have hl1 := aheadP_lt a1
            have sp := stp 3 hl1 hm
            rw [pbnd_pure, hm, pbnd_pure] at hQ'
            have hw2 : IntKind.i64.wrap ((s1.at' : Int) + 1) = ((s1.at' + 1 : Nat) : Int) := by rw [wrap_i64 (by omega) (by omega)]; rfl
            refine ecall (rMark L.mark ob1 _ ?_)
            simp [a1]
            refine ecall (rMark L.mark ob1 _ ?_)
            simp [a2]
            refine ecall (rMark L.mark ob1 _ ?_)
            simp [a3, ob1, setAt, V.cells, V.good, hw2, fillL, V.isAgg]
            refine ecall (rLayN L (s := s1.adv) (toks := toks) (σ := σ1) ⟨N1, hN1, rd1.cells ob1 _ (s1.at' + 1) _⟩ (by simp [PS.adv]; omega) 3 [] [n] (.inr rfl) fun h2 σ2 g2' r2 => ?_)
            have g2 := ((RE.refl h1 o σ1).set (.inl rfl) _).trans g2'
            have gn2 := g2.next
            obtain ⟨N2, hN2, rd2⟩ := id r2
            simp [fillL, V.isAgg]
            refine ((lc.from g1 lo).from g2 lo1).appO (by omega) rd2 (by simp) (by simp [ints]; omega) fun rd3 lc3 => ?_
            have hi : ints l ++ [V.int IntKind.i64 (s1.adv.nodes.length : Int)] = ints (l ++ [(s1.adv.nodes.length : Int)]) := by rw [ints_append]; rfl
            rw [hi] at lc3 ⊢
            simp
            exact ⟨toks.length + 1 - (s1.adv.lay 3 [] [n]).at', by simp [PS.adv, PS.lay]; omega, iv ⟨l ++ [(s1.adv.nodes.length : Int)], 1, h2.next, σ2, rfl, ((g.trans g1).trans g2).push (by have := lc.lo; omega) 1, lc3, by simp; omega, .inl ⟨(s1.adv.lay 3 [] [n]), ⟨N2, hN2, rd3⟩, by simp [PS.adv, PS.lay]; omega, by simp [PS.adv, PS.lay]; omega, by simp [PS.adv, PS.lay]; omega, sp, rfl, k, by simp [PS.adv, PS.lay]; omega, hQ'⟩⟩⟩
          | false =>
            cases a2 : aheadP toks s1.at' [43] with
            | true =>
              have a3 := hx _ [63] (by decide) a2
              have hm : markP toks s1 n = nodeP 4 [] [n] s1.adv := by unfold markP; rw [if_neg (by simp [a1]), if_pos a2]
              have hl1 := aheadP_lt a2
              have sp := stp 4 hl1 hm
              rw [pbnd_pure, hm, pbnd_pure] at hQ'
              have hw2 : IntKind.i64.wrap ((s1.at' : Int) + 1) = ((s1.at' + 1 : Nat) : Int) := by rw [wrap_i64 (by omega) (by omega)]; rfl
              refine ecall (rMark L.mark ob1 _ ?_)
              simp [a1]
              refine ecall (rMark L.mark ob1 _ ?_)
              simp [a2]
              refine ecall (rMark L.mark ob1 _ ?_)
              simp [a3, ob1, setAt, V.cells, V.good, hw2, fillL, V.isAgg]
              refine ecall (rLayN L (s := s1.adv) (toks := toks) (σ := σ1) ⟨N1, hN1, rd1.cells ob1 _ (s1.at' + 1) _⟩ (by simp [PS.adv]; omega) 4 [] [n] (.inr rfl) fun h2 σ2 g2' r2 => ?_)
              have g2 := ((RE.refl h1 o σ1).set (.inl rfl) _).trans g2'
              have gn2 := g2.next
              obtain ⟨N2, hN2, rd2⟩ := id r2
              simp [fillL, V.isAgg]
              refine ((lc.from g1 lo).from g2 lo1).appO (by omega) rd2 (by simp) (by simp [ints]; omega) fun rd3 lc3 => ?_
              have hi : ints l ++ [V.int IntKind.i64 (s1.adv.nodes.length : Int)] = ints (l ++ [(s1.adv.nodes.length : Int)]) := by rw [ints_append]; rfl
              rw [hi] at lc3 ⊢
              simp
              exact ⟨toks.length + 1 - (s1.adv.lay 4 [] [n]).at', by simp [PS.adv, PS.lay]; omega, iv ⟨l ++ [(s1.adv.nodes.length : Int)], 1, h2.next, σ2, rfl, ((g.trans g1).trans g2).push (by have := lc.lo; omega) 1, lc3, by simp; omega, .inl ⟨(s1.adv.lay 4 [] [n]), ⟨N2, hN2, rd3⟩, by simp [PS.adv, PS.lay]; omega, by simp [PS.adv, PS.lay]; omega, by simp [PS.adv, PS.lay]; omega, sp, rfl, k, by simp [PS.adv, PS.lay]; omega, hQ'⟩⟩⟩
            | false =>
              cases a3 : aheadP toks s1.at' [63] with
              | true =>
                have hm : markP toks s1 n = nodeP 5 [] [n] s1.adv := by unfold markP; rw [if_neg (by simp [a1]), if_neg (by simp [a2]), if_pos a3]
                have hl1 := aheadP_lt a3
                have sp := stp 5 hl1 hm
                rw [pbnd_pure, hm, pbnd_pure] at hQ'
                have hw2 : IntKind.i64.wrap ((s1.at' : Int) + 1) = ((s1.at' + 1 : Nat) : Int) := by rw [wrap_i64 (by omega) (by omega)]; rfl
                refine ecall (rMark L.mark ob1 _ ?_)
                simp [a1]
                refine ecall (rMark L.mark ob1 _ ?_)
                simp [a2]
                refine ecall (rMark L.mark ob1 _ ?_)
                simp [a3, ob1, setAt, V.cells, V.good, hw2, fillL, V.isAgg]
                refine ecall (rLayN L (s := s1.adv) (toks := toks) (σ := σ1) ⟨N1, hN1, rd1.cells ob1 _ (s1.at' + 1) _⟩ (by simp [PS.adv]; omega) 5 [] [n] (.inr rfl) fun h2 σ2 g2' r2 => ?_)
                have g2 := ((RE.refl h1 o σ1).set (.inl rfl) _).trans g2'
                have gn2 := g2.next
                obtain ⟨N2, hN2, rd2⟩ := id r2
                simp [fillL, V.isAgg]
                refine ((lc.from g1 lo).from g2 lo1).appO (by omega) rd2 (by simp) (by simp [ints]; omega) fun rd3 lc3 => ?_
                have hi : ints l ++ [V.int IntKind.i64 (s1.adv.nodes.length : Int)] = ints (l ++ [(s1.adv.nodes.length : Int)]) := by rw [ints_append]; rfl
                rw [hi] at lc3 ⊢
                simp
                exact ⟨toks.length + 1 - (s1.adv.lay 5 [] [n]).at', by simp [PS.adv, PS.lay]; omega, iv ⟨l ++ [(s1.adv.nodes.length : Int)], 1, h2.next, σ2, rfl, ((g.trans g1).trans g2).push (by have := lc.lo; omega) 1, lc3, by simp; omega, .inl ⟨(s1.adv.lay 5 [] [n]), ⟨N2, hN2, rd3⟩, by simp [PS.adv, PS.lay]; omega, by simp [PS.adv, PS.lay]; omega, by simp [PS.adv, PS.lay]; omega, sp, rfl, k, by simp [PS.adv, PS.lay]; omega, hQ'⟩⟩⟩
              | false =>
                have hm : markP toks s1 n = (s1, n) := by unfold markP; rw [if_neg (by simp [a1]), if_neg (by simp [a2]), if_neg (by simp [a3])]
                rw [pbnd_pure, hm, pbnd_pure] at hQ'
                refine ecall (rMark L.mark ob1 _ ?_)
                simp [a1]
                refine ecall (rMark L.mark ob1 _ ?_)
                simp [a2]
                refine ecall (rMark L.mark ob1 _ ?_)
                simp [a3]
                obtain ⟨h2, σ2, g2, r2, gn2⟩ : ∃ h2 σ2, RE h1 h2 o σ1 σ2 ∧ RdT toks h2 o s1 σ2 ∧ h2 = h1 := ⟨h1, σ1, RE.refl _ _ _, r1, rfl⟩
                subst gn2
                obtain ⟨N2, hN2, rd2⟩ := id r2
                skip
                refine ((lc.from g1 lo).from g2 lo1).appO (by omega) rd2 (by simp) (by simp [ints]; omega) fun rd3 lc3 => ?_
                have hi : ints l ++ [V.int IntKind.i64 n] = ints (l ++ [n]) := by rw [ints_append]; rfl
                rw [hi] at lc3 ⊢
                simp
                exact ⟨toks.length + 1 - s1.at', by omega, iv ⟨l ++ [n], 1, h2.next, σ2, rfl, ((g.trans g1).trans g2).push (by have := lc.lo; omega) 1, lc3, by simp; omega, .inl ⟨s1, ⟨N2, hN2, rd3⟩, by omega, by omega, by rw [List.length_append, List.length_singleton]; omega, by omega, rfl, k, by omega, hQ'⟩⟩⟩
  · obtain ⟨a, R, N, G, U, k1, k2, k3, rd⟩ := id r'
    obtain ⟨e1, e2, e3, e4, ob, _⟩ := rd.ob
    simp [ob]
    by_cases c : l.length = 1
    · obtain ⟨n, rfl⟩ := List.length_eq_one_iff.1 c
      obtain rfl : e = 1 := (ints_el lc.may.el).resolve_left (by simp)
      simp [ints, V.cells]
      exact hW _ _ _ g (r'.mono (by omega))
    · have c' : ¬ (l.length : Int) = 1 := by omega
      simp [hil, c']
      refine ecall (rLayW L r' (by omega) 1 [] fun h1 σ1 n g1 r1 => ?_)
      simp
      exact hW _ _ _ (g.trans g1) r1
/-- What comes behind an alternative. -/
def restR (toks : List Tok) (en f k : Nat) (s : PS) (l : List Int) : PR Int := pbnd (if aheadP toks s.at' [124] then altsL toks en (altsP toks en f) k s.adv l else .ok (s, l)) fun s1 l => .ok (oneP 2 l s1)
theorem rAlts (L : LRdR X) (hs : toks.length < 2 ^ 30) (hk : ∀ t ∈ toks, t.kind = 1 ∨ t.kind = 2 ∨ t.kind = 3) : ∀ f, AltR X toks en f
  | 0 => fun s h o σ Q h1 h2 hp r hQ => absurd h2 (by omega)
  | f + 1 => fun s h o σ Q h1 h2 hp r hQ => by
    have hA := rAlts L hs hk f
    refine fn_any L.alts (by simp [A.probateref06_reader_alternatives]) fun wf => ?_
    simp [A.probateref06_reader_alternatives]
    rw [altsP, altsL, pbnd_assoc] at hQ
    refine ecall (rItems L hs hk hA r h1 (by omega) (by omega) ?_)
    rcases hseq : seqP toks en (altsP toks en f) s with p | ⟨s0, n⟩
    case' error =>
      rw [hseq] at hQ
      intro h2 σ1 n g1 r1
      have hinit : (∃ s1 k, RdT toks h2 o s1 σ1 ∧ s1.at' ≤ toks.length ∧ s.at' ≤ s1.at' ∧ pot toks s1 ≤ pot toks s + 1 ∧ toks.length ≤ k + s1.at' ∧ AnsR toks en h o σ (pot toks s + 2) Q (restR toks en f k s1 [n])) ∨ (∃ p, RdW toks en h2 o p (pot toks s + 1) σ1 ∧ ∀ h1 σ1 n, RE h h1 o σ σ1 → RdW toks en h1 o p (pot toks s + 2) σ1 → Q (.int .i64 n) h1) := .inr ⟨p, r1, hQ⟩
    case' ok =>
      rw [hseq] at hQ
      intro h2 σ1 g1 r1
      have fw := seq_fwd (alts_fwd f) h1 hseq
      have := fw.pot; have := fw.at1; have := fw.at2
      have hinit : (∃ s1 k, RdT toks h2 o s1 σ1 ∧ s1.at' ≤ toks.length ∧ s.at' ≤ s1.at' ∧ pot toks s1 ≤ pot toks s + 1 ∧ toks.length ≤ k + s1.at' ∧ AnsR toks en h o σ (pot toks s + 2) Q (restR toks en f k s1 [n])) ∨ (∃ p, RdW toks en h2 o p (pot toks s + 1) σ1 ∧ ∀ h1 σ1 n, RE h h1 o σ σ1 → RdW toks en h1 o p (pot toks s + 2) σ1 → Q (.int .i64 n) h1) := .inl ⟨s0, toks.length, r1, by omega, by omega, by omega, by omega, hQ⟩
    all_goals
      simp [fillL, V.isAgg]
      refine loopI (n := toks.length + 2) (fun m env h' => ∃ l e st σ', env = [(0, .ptr o 0), (3, .sl e st (ints l))] ∧ RE h h' o σ σ' ∧ Loc h h' σ' e st (ints l) ∧ l.length ≤ 2 ^ 31 ∧ l ≠ [] ∧
        ((∃ s1 k, RdT toks h' o s1 σ' ∧ s1.at' ≤ toks.length ∧ s.at' ≤ s1.at' ∧ l.length ≤ s1.at' - s.at' + 1 ∧ pot toks s1 ≤ pot toks s + 1 ∧ toks.length ≤ k + s1.at' ∧ toks.length + 2 - s1.at' ≤ m ∧ AnsR toks en h o σ (pot toks s + 2) Q (restR toks en f k s1 l)) ∨
         (∃ p, RdW toks en h' o p (pot toks s + 1) σ' ∧ 1 ≤ m ∧ ∀ h1 σ1 n, RE h h1 o σ σ1 → RdW toks en h1 o p (pot toks s + 2) σ1 → Q (.int .i64 n) h1))) ?_ ?_
      rintro m env h' ⟨l, e, st, σ', rfl, g, lc, hl0, hne, hcase⟩
      unfold A.probateref06_reader_alternatives.L0
      have hil : (ints l).length = l.length := by simp [ints]
      rcases hcase with ⟨s1, k, r1, ha, hb, hl, hp1, hk1, hm, hQ⟩ | ⟨p, r1, hm, hW⟩
      · obtain ⟨N, hN, rd⟩ := id r1
        obtain ⟨e1, e2, e3, e4, ob, _⟩ := rd.ob
        have lo := rd.lo.2
        have np := nodes_pot (toks := toks) s1
        simp
        refine ecall (rMark L.mark ob _ ?_)
        unfold restR at hQ
        cases c : aheadP toks s1.at' [124] with
        | false =>
          rw [if_neg (by simp [c])] at hQ
          have hQ2 : AnsR toks en h o σ (pot toks s + 2) Q (.ok (oneP 2 l s1)) := hQ
          simp
          by_cases c1 : l.length = 1
          · obtain ⟨n', rfl⟩ := List.length_eq_one_iff.1 c1
            obtain rfl : e = 1 := (ints_el lc.may.el).resolve_left (by simp)
            simp [ints, V.cells]
            exact hQ2 _ _ g r1
          · have c1' : ¬ (l.length : Int) = 1 := by omega
            have ho : oneP 2 l s1 = nodeP 2 [] l s1 := by
              match l, c1 with
              | [], _ => rfl
              | [n], c => simp at c
              | _ :: _ :: _, _ => rfl
            rw [ho] at hQ2
            simp [hil, c1']
            refine ecall (rLayN L r1 (by omega) 2 [] l (ints_el lc.may.el) fun h1 σ1 g1 r1 => ?_)
            simp
            exact hQ2 _ _ (g.trans g1) r1
        | true =>
          have hlt := aheadP_lt c
          have pa := pot_adv hlt
          rw [if_pos c] at hQ
          obtain ⟨k, rfl⟩ : ∃ k', k = k' + 1 := ⟨k - 1, by omega⟩
          have hw2 : IntKind.i64.wrap ((s1.at' : Int) + 1) = ((s1.at' + 1 : Nat) : Int) := by rw [wrap_i64 (by omega) (by omega)]; rfl
          rw [altsL, pbnd_assoc] at hQ
          simp [ob, setAt, V.cells, V.good, hw2]
          have r2 : RdT toks (h'.set o [.sl 3 0 (toks.map tokV), .int .i64 (s1.at' + 1 : Nat), .bool false, .sl e1 σ'.a (s1.rules.map rlV), .sl e2 σ'.b N, .sl e3 σ'.c (s1.given.map utokV), .sl e4 σ'.d (s1.used.map utokV)]) o s1.adv σ' := ⟨N, hN, rd.cells ob _ (s1.at' + 1) _⟩
          have g2 := (RE.refl h' o σ').set (.inl rfl) [.sl 3 0 (toks.map tokV), .int .i64 (s1.at' + 1 : Nat), .bool false, .sl e1 σ'.a (s1.rules.map rlV), .sl e2 σ'.b N, .sl e3 σ'.c (s1.given.map utokV), .sl e4 σ'.d (s1.used.map utokV)]
          have e0 : s1.adv.at' = s1.at' + 1 := rfl
          refine ecall (rItems L hs hk hA r2 (by omega) (by omega) (by omega) ?_)
          rcases hs2 : seqP toks en (altsP toks en f) s1.adv with p | ⟨s3, n3⟩
          · rw [hs2] at hQ
            intro h3 σ3 n3 g3 r3
            obtain ⟨a5, R5, N5, G5, U5, k1, k2, k3, rd5⟩ := id r3
            have gn := g.next
            have gn2 := g2.next
            have gn3 : h'.next ≤ h3.next := g3.next
            simp [fillL, V.isAgg]
            refine ((lc.from g2 lo).from g3 (by obtain ⟨_, _, q⟩ := r2; exact q.lo.2)).appO (by omega) rd5 (by simp) (by rw [hil, List.length_singleton]; omega) fun rd6 lc6 => ?_
            have hi : ints l ++ [V.int IntKind.i64 n3] = ints (l ++ [n3]) := by rw [ints_append]; rfl
            rw [hi] at lc6 ⊢
            simp
            exact ⟨1, by omega, iv ⟨l ++ [n3], 1, h3.next, σ3, rfl, ((g.trans g2).trans g3).push (by have := lc.lo; omega) 1, lc6, by simp; omega, by simp, .inr ⟨p, ⟨a5, R5, N5, G5, U5, k1, k2, by omega, rd6⟩, by omega, hQ⟩⟩⟩
          · rw [hs2] at hQ
            intro h3 σ3 g3 r3
            have fw := seq_fwd (alts_fwd f) (by omega) hs2
            have fp := fw.pot
            have fa1 := fw.at1
            have fa2 := fw.at2
            obtain ⟨N5, hN5, rd5⟩ := id r3
            have gn := g.next
            have gn2 := g2.next
            have gn3 : h'.next ≤ h3.next := g3.next
            simp [fillL, V.isAgg]
            refine ((lc.from g2 lo).from g3 (by obtain ⟨_, _, q⟩ := r2; exact q.lo.2)).appO (by omega) rd5 (by simp) (by rw [hil, List.length_singleton]; omega) fun rd6 lc6 => ?_
            have hi : ints l ++ [V.int IntKind.i64 n3] = ints (l ++ [n3]) := by rw [ints_append]; rfl
            rw [hi] at lc6 ⊢
            simp
            exact ⟨toks.length + 2 - s3.at', by omega, iv ⟨l ++ [n3], 1, h3.next, σ3, rfl, ((g.trans g2).trans g3).push (by have := lc.lo; omega) 1, lc6, by simp; omega, by simp, .inl ⟨s3, k, ⟨N5, hN5, rd6⟩, by omega, by omega, by rw [List.length_append, List.length_singleton]; omega, by omega, by omega, by omega, hQ⟩⟩⟩
      · obtain ⟨a, R, N, G, U, k1, k2, k3, rd⟩ := id r1
        obtain ⟨e1, e2, e3, e4, ob, _⟩ := rd.ob
        simp
        refine ecall (rMark L.mark ob _ ?_)
        simp
        by_cases c1 : l.length = 1
        · obtain ⟨n', rfl⟩ := List.length_eq_one_iff.1 c1
          obtain rfl : e = 1 := (ints_el lc.may.el).resolve_left (by simp)
          simp [ints, V.cells]
          exact hW _ _ _ g (r1.mono (by omega))
        · have c1' : ¬ (l.length : Int) = 1 := by omega
          simp [hil, c1']
          refine ecall (rLayW L r1 (by omega) 2 [] fun h1 σ1 n g1 r1 => ?_)
          simp
          exact hW _ _ _ (g.trans g1) r1
      refine ⟨[n], 1, 2, σ1, rfl, g1, ⟨⟨.inr rfl, .inr (.inl rfl)⟩, .inl (by omega)⟩, by simp, by simp, ?_⟩
      rcases hinit with ⟨s1, k, a1, a2, a3, a4, a5, a6⟩ | ⟨p, a1, a2⟩
      · exact .inl ⟨s1, k, a1, a2, a3, by simp, a4, a5, by omega, a6⟩
      · exact .inr ⟨p, a1, by omega, a2⟩
end
end Go.Proofs.Ytecgbggobecpjaa.Al
namespace Go.Proofs.Ytecgbggobecpjaa.Al
open Go Go.RowKit
set_option linter.unusedSimpArgs false
set_option linter.unusedVariables false
attribute [-simp] List.getD_eq_getElem?_getD Int.not_lt Int.not_le List.map_take List.map_map
structure LReadR (X : Cx) : Prop where
  lsr : LSR X
  rd : LRdR X
  has : Has (Ecx X) K.probateref06_has A.probateref06_has
  read : Has (Ecx X) K.probateref06_Read A.probateref06_Read
section
variable {X : Cx} {toks : List Tok} {en : Nat} {h : AH} {o : Nat} {σ : S4} {Q : V → AH → Prop}
theorem utoks_getD {l : List Use} {i : Nat} (h : i < l.length) : (l.map utokV).getD i .undef = .agg [.int .i64 1, .str l[i].name, .int .i64 (l[i].at' : Nat)] := by
  simp [List.getD, h, utokV, tokV, tokC]
theorem rHas (H : Has (Ecx X) K.probateref06_has A.probateref06_has) (l : List Use) {e st : Nat} (he : l = [] ∨ e = 3) (s : Str) (hl : l.length < 2 ^ 60) (hQ : Q (.bool (decide (s ∈ l.map (·.name)))) h) : Ecx X K.probateref06_has [.sl e st (l.map utokV), .str s] h Q := by
  refine fn_walk H (by simp [A.probateref06_has]) fun wf => ?_
  simp [A.probateref06_has]
  refine loopI (n := l.length) (fun m env h' => ∃ k, k ≤ l.length ∧ m = l.length - k ∧ h' = h ∧ env = [(0, .sl e st (l.map utokV)), (1, .str s), (5, .int .i64 k)] ∧ s ∉ (l.take k).map (·.name)) ?_ ⟨0, by omega, by omega, rfl, rfl, by simp⟩
  rintro m env h' ⟨k, hk, rfl, rfl, rfl, hn⟩
  unfold A.probateref06_has.L0
  by_cases hlt : k < l.length
  · obtain rfl : e = 3 := he.resolve_left (by rintro rfl; simp at hlt)
    have hlt' : (k : Int) < l.length := by omega
    have hg := utoks_getD hlt
    have hw1 : IntKind.i64.wrap ((k : Int) + 1) = ((k + 1 : Nat) : Int) := by rw [wrap_i64 (by omega) (by omega)]; rfl
    by_cases c : l[k].name = s
    · have : s ∈ l.map (·.name) := List.mem_map.2 ⟨_, List.getElem_mem hlt, c⟩
      rw [decide_eq_true this] at hQ
      simp [hlt', hg, V.cells, c]
      exact fin (by simp) hQ
    · simp [hlt', hg, V.cells, c, hw1]
      exact ⟨l.length - (k + 1), by omega, iv ⟨k + 1, by omega, rfl, rfl, rfl, by
        rw [List.take_succ_eq_append_getElem hlt, List.map_append]
        simp only [List.mem_append, List.map_cons, List.map_nil, List.mem_singleton]
        rintro (q | q)
        · exact hn q
        · exact c q.symm⟩⟩
  · have hlt' : ¬ (k : Int) < l.length := by omega
    obtain rfl : k = l.length := by omega
    rw [List.take_length] at hn
    rw [decide_eq_false hn] at hQ
    simp [hlt']
    exact fin (by simp) hQ
theorem rRead (L : LReadR X) (s : Str) (hl : s.length ≤ 2 ^ 28) (hQ : Q (ruRdV s) h) : Ecx X K.probateref06_Read [.str s] h Q := by
  refine fn_walk L.read (by simp [A.probateref06_Read]) fun wf => ?_
  have n1 : ¬ h.nobj + 1 = h.nobj := by omega
  have hwl : (scanR s).1.length ≤ s.length := scanR_len s
  have hkd := scan_kinds s
  have hem : ∀ (h1 : AH), Gr h h1 → ∀ (a : Nat) (e : Int), ruRdV s = .tup [teV noTe, .int .i64 (a : Nat), .int .i64 e] → Fin h (V.tup [V.agg [V.sl 0 1 [], V.sl 0 1 []], V.int IntKind.i64 a, V.int IntKind.i64 e]) h1 (Lz.mk (a := Q)) := fun h1 g a e hr => by
    refine fin_wk (r := .tup [teV noTe, .int .i64 (a : Nat), .int .i64 e]) g ((wk_tree (R := []) (l := []) (.inl rfl) (.inl rfl) .nil).t3 _ _) ?_ (by rw [← hr]; exact hQ)
    simp [teV, teC, noTe]
  simp [A.probateref06_Read]
  refine ecall (rscan_spec L.lsr s (by omega) ?_)
  simp [scanV]
  by_cases c1 : (scanR s).2.2 = 0
  · have hrd : ruRd s = match textP (scanR s).1 s.length with
      | .error p => (noTe, p, 2)
      | .ok (st, _) => if 24 < st.rules.length ∨ 200 < st.nodes.length then (noTe, 0, 5)
        else if (namesP st.given st.used).2 ≠ 0 then (noTe, (namesP st.given st.used).1, (namesP st.given st.used).2)
        else (⟨st.rules, st.nodes⟩, 0, 0) := by unfold ruRd; rw [if_neg (by simp [c1])]; rfl
    simp [c1]
    generalize (scanR s).1 = toks at *
    have hσ : ∀ s, S4.has ⟨1, 1, 1, 1⟩ s → s ≤ 2 ∨ h.next ≤ s := fun s hs => by
      rcases hs with e | e | e | e <;> exact .inl (by rw [e]; exact Nat.le_succ 1)
    have r0 : RdT toks ((h.new [V.sl 0 1 [], V.sl 0 1 []]).new [V.sl 3 0 (toks.map tokV), V.int IntKind.i64 0, V.bool false, V.sl 0 1 [], V.sl 0 1 [], V.sl 0 1 [], V.sl 0 1 []]) (h.nobj + 1) ⟨0, [], [], [], []⟩ ⟨1, 1, 1, 1⟩ :=
      ⟨[], .nil, ⟨0, 0, 0, 0, by simp, ⟨.inl rfl, .inl rfl⟩, ⟨.inl rfl, .inl rfl⟩, ⟨.inl rfl, .inl rfl⟩, ⟨.inl rfl, .inl rfl⟩⟩, by simp, wf.lo, fun s hs => by
        rcases hs with e | e | e | e <;> exact .inl (by rw [e]; exact Nat.le_succ 1), by simp, by simp, by simp, by simp, by simp, by simp⟩
    have hb0 : ((h.new [V.sl 0 1 [], V.sl 0 1 []]).new [V.sl 3 0 (toks.map tokV), V.int IntKind.i64 0, V.bool false, V.sl 0 1 [], V.sl 0 1 [], V.sl 0 1 [], V.sl 0 1 []]).objs h.nobj = [V.sl 0 1 [], V.sl 0 1 []] := by simp
    have hb1 : ((h.new [V.sl 0 1 [], V.sl 0 1 []]).new [V.sl 3 0 (toks.map tokV), V.int IntKind.i64 0, V.bool false, V.sl 0 1 [], V.sl 0 1 [], V.sl 0 1 [], V.sl 0 1 []]).nobj = h.nobj + 2 := by simp
    have gr0 : Gr h ((h.new [V.sl 0 1 [], V.sl 0 1 []]).new [V.sl 3 0 (toks.map tokV), V.int IntKind.i64 0, V.bool false, V.sl 0 1 [], V.sl 0 1 [], V.sl 0 1 [], V.sl 0 1 []]) := ((Gr.refl h).new _).new _
    generalize ((h.new [V.sl 0 1 [], V.sl 0 1 []]).new [V.sl 3 0 (toks.map tokV), V.int IntKind.i64 0, V.bool false, V.sl 0 1 [], V.sl 0 1 [], V.sl 0 1 [], V.sl 0 1 []]) = h0 at *
    refine loopI (n := toks.length + 2) (fun m env h' => ∃ σ', env = [(0, .str s), (2, .ptr h.nobj 0), (5, .sl 3 0 (toks.map tokV)), (8, .ptr (h.nobj + 1) 0)] ∧ RE h0 h' (h.nobj + 1) ⟨1, 1, 1, 1⟩ σ' ∧
        ((∃ s', RdT toks h' (h.nobj + 1) s' σ' ∧ s'.at' ≤ toks.length ∧ pot toks s' ≤ 8 * toks.length ∧ toks.length + 2 ≤ m + s'.at' ∧ ((s'.at' < toks.length ∨ s'.rules = []) → ∃ k, toks.length < k + s'.at' ∧ textP toks s.length = textL toks s.length k s') ∧ (¬ (s'.at' < toks.length ∨ s'.rules = []) → textP toks s.length = .ok (s', ()))) ∨
         (∃ p, RdW toks s.length h' (h.nobj + 1) p (8 * toks.length + 8) σ' ∧ textP toks s.length = .error p))) ?_
      ⟨_, rfl, RE.refl _ _ _, .inl ⟨⟨0, [], [], [], []⟩, r0, by simp, by simp [pot], by simp, fun _ => ⟨toks.length + 1, by simp, rfl⟩, by simp⟩⟩
    rintro m env h' ⟨σ', rfl, g, hcase⟩
    unfold A.probateref06_Read.L0
    have o2 : h'.objs h.nobj = [.sl 0 1 [], .sl 0 1 []] := (g.objs _ (by omega) (by omega)).trans hb0
    have gr : Gr h h' := RE.gr gr0 g (by omega) hσ
    have hnb := g.nobj
    rcases hcase with ⟨s', r1, ha, hp, hm, hT, hF⟩ | ⟨p, r1, ht⟩
    · obtain ⟨N, hN, rd⟩ := id r1
      obtain ⟨e1, e2, e3, e4, ob, m1, m2, m3, m4⟩ := rd.ob
      have hNl := hN.len
      simp only [List.length_map] at hNl
      by_cases cc : s'.at' < toks.length ∨ s'.rules = []
      · obtain ⟨k, hk1, ht⟩ := hT cc
        obtain ⟨k, rfl⟩ : ∃ k', k = k' + 1 := ⟨k - 1, by omega⟩
        by_cases hlt : s'.at' < toks.length
        · have hg : (toks.map tokV).getD s'.at' .undef = .agg (tokC toks[s'.at']) := toks_getD hlt
          have hge : ¬ toks.length ≤ s'.at' := by omega
          have hm0 : 0 < m := by omega
          by_cases c2 : toks[s'.at'].kind = 1
          · have q1 : ¬ h.nobj + 1 = h'.nobj := by omega
            have q2 : ¬ h'.nobj = h.nobj + 1 := by omega
            have np := nodes_pot (toks := toks) s'
            simp [ob, hlt, hge, hg, tokC, V.cells, V.good, setAt, c2, fillL, V.isAgg, q1, q2]
            have ms : May 3 (h'.new [V.int .i64 1, V.str toks[s'.at'].text, V.int .i64 (toks[s'.at'].at' : Nat)]) e3 σ'.c (s'.given.map utokV) := ⟨m3.el, m3.st⟩
            refine ms.app (by simp) rfl (by simp; omega) ?_
            have obn : (h'.new [V.int .i64 1, V.str toks[s'.at'].text, V.int .i64 (toks[s'.at'].at' : Nat)]).objs (h.nobj + 1) = [.sl 3 0 (toks.map tokV), .int .i64 (s'.at' : Nat), .bool false, .sl e1 σ'.a (s'.rules.map rlV), .sl e2 σ'.b N, .sl e3 σ'.c (s'.given.map utokV), .sl e4 σ'.d (s'.used.map utokV)] := by rw [new_objs_ne _ _ q1]; exact ob
            have hx : (h'.new [V.int .i64 1, V.str toks[s'.at'].text, V.int .i64 (toks[s'.at'].at' : Nat)]).objs h'.nobj = [V.int .i64 1, V.str toks[s'.at'].text, V.int .i64 (toks[s'.at'].at' : Nat)] := by simp
            have gn0 := (RE.refl h' (h.nobj + 1) σ').new [V.int .i64 1, V.str toks[s'.at'].text, V.int .i64 (toks[s'.at'].at' : Nat)]
            obtain ⟨r2, g2⟩ := (rd.new [V.int .i64 1, V.str toks[s'.at'].text, V.int .i64 (toks[s'.at'].at' : Nat)]).pushG obn (.agg [V.int .i64 1, V.str toks[s'.at'].text, V.int .i64 (toks[s'.at'].at' : Nat)])
            have hnx : (h'.new [V.int .i64 1, V.str toks[s'.at'].text, V.int .i64 (toks[s'.at'].at' : Nat)]).nobj = h'.nobj + 1 := by simp
            generalize (h'.new [V.int .i64 1, V.str toks[s'.at'].text, V.int .i64 (toks[s'.at'].at' : Nat)]) = hh at *
            simp [V.cells, V.good, setAt, push_objs, obn, q2, hx]
            have hw1 : IntKind.i64.wrap ((s'.at' : Int) + 1) = ((s'.at' + 1 : Nat) : Int) := by rw [wrap_i64 (by omega) (by omega)]; rfl
            rw [hw1]
            have r3 := r2.cells (set_objs_same _ _ _) (.sl 3 0 (toks.map tokV)) (s'.at' + 1) (.bool false)
            rw [set_set] at r3
            have hu : (giveP (⟨toks[s'.at'].text, toks[s'.at'].at'⟩ : Use) s'.adv).given.map utokV = s'.given.map utokV ++ [.agg [V.int .i64 1, V.str toks[s'.at'].text, V.int .i64 (toks[s'.at'].at' : Nat)]] := by simp [giveP, PS.adv, utokV, tokV, tokC]
            have r4 : RdT toks _ (h.nobj + 1) (giveP (⟨toks[s'.at'].text, toks[s'.at'].at'⟩ : Use) s'.adv) _ := ⟨N, hN, by rw [hu]; exact r3⟩
            have g4 : RE h0 _ (h.nobj + 1) ⟨1, 1, 1, 1⟩ _ := ((g.trans gn0).trans g2).set (.inl rfl) [.sl 3 0 (toks.map tokV), .int .i64 ((s'.at' + 1 : Nat) : Int), .bool false, .sl e1 σ'.a (s'.rules.map rlV), .sl e2 σ'.b N, .sl 3 hh.next (s'.given.map utokV ++ [.agg [V.int .i64 1, V.str toks[s'.at'].text, V.int .i64 (toks[s'.at'].at' : Nat)]]), .sl e4 σ'.d (s'.used.map utokV)]
            rw [set_set] at g4
            have hx4 : ((hh.push σ'.c 3).set (h.nobj + 1) [.sl 3 0 (toks.map tokV), .int .i64 ((s'.at' + 1 : Nat) : Int), .bool false, .sl e1 σ'.a (s'.rules.map rlV), .sl e2 σ'.b N, .sl 3 hh.next (s'.given.map utokV ++ [.agg [V.int .i64 1, V.str toks[s'.at'].text, V.int .i64 (toks[s'.at'].at' : Nat)]]), .sl e4 σ'.d (s'.used.map utokV)]).objs h'.nobj = [V.int .i64 1, V.str toks[s'.at'].text, V.int .i64 (toks[s'.at'].at' : Nat)] := by
              rw [set_objs_ne _ _ _ q2, push_objs]; exact hx
            have hn4 : ((hh.push σ'.c 3).set (h.nobj + 1) [.sl 3 0 (toks.map tokV), .int .i64 ((s'.at' + 1 : Nat) : Int), .bool false, .sl e1 σ'.a (s'.rules.map rlV), .sl e2 σ'.b N, .sl 3 hh.next (s'.given.map utokV ++ [.agg [V.int .i64 1, V.str toks[s'.at'].text, V.int .i64 (toks[s'.at'].at' : Nat)]]), .sl e4 σ'.d (s'.used.map utokV)]).nobj = h'.nobj + 1 := by
              rw [set_nobj, push_nobj]; exact hnx
            generalize ((hh.push σ'.c 3).set (h.nobj + 1) [.sl 3 0 (toks.map tokV), .int .i64 ((s'.at' + 1 : Nat) : Int), .bool false, .sl e1 σ'.a (s'.rules.map rlV), .sl e2 σ'.b N, .sl 3 hh.next (s'.given.map utokV ++ [.agg [V.int .i64 1, V.str toks[s'.at'].text, V.int .i64 (toks[s'.at'].at' : Nat)]]), .sl e4 σ'.d (s'.used.map utokV)]) = h4 at *
            have hna : nameP toks s.length s' = .ok (s'.adv, (⟨toks[s'.at'].text, toks[s'.at'].at'⟩ : Use)) := by simp [nameP, hlt, c2]
            have pa := pot_adv hlt
            have pg : pot toks (giveP (⟨toks[s'.at'].text, toks[s'.at'].at'⟩ : Use) s'.adv) = pot toks s'.adv + 1 := by simp [pot, giveP]; omega
            have e0 : (giveP (⟨toks[s'.at'].text, toks[s'.at'].at'⟩ : Use) s'.adv).at' = s'.at' + 1 := rfl
            rw [textL, ruleP, hna] at ht
            refine ecall (rMust L.rd (en := s.length) (by omega) r4 (by omega) _ (fun h5 c g5 r5 => ?_) (fun h5 c g5 r5 => ?_))
            · have hl5 := aheadP_lt c
              have p5 := pot_adv hl5
              have e5 : (giveP (⟨toks[s'.at'].text, toks[s'.at'].at'⟩ : Use) s'.adv).adv.at' = s'.at' + 2 := rfl
              have hx5 := (g5.objs h'.nobj (by omega) q2).trans hx4
              have hn5 := g5.nobj
              simp
              refine ecall (rAlts L.rd (en := s.length) (by omega) hkd (toks.length + 1) _ _ _ _ _ (by omega) (by omega) (by omega) r5 ?_)
              rcases hal : altsP toks s.length (toks.length + 1) (giveP (⟨toks[s'.at'].text, toks[s'.at'].at'⟩ : Use) s'.adv).adv with p | ⟨s6, n6⟩
              · intro h6 σ6 n6 g6 r6
                have hx6 := (g6.objs h'.nobj (by omega) q2).trans hx5
                have hn6 := g6.nobj
                have hte : textP toks s.length = .error p := by rw [ht]; simp [pbnd, mustP, c, hal]
                simp
                refine ecall (rMustW L.rd r6 _ fun h7 g7 r7 => ?_)
                have hx7 := (g7.objs h'.nobj (by omega) q2).trans hx6
                obtain ⟨a5, R5, N5, G5, U5, k1, k2, k3, rd5⟩ := r7
                obtain ⟨f1, f2, f3, f4, ob5, M1, M2, M3, M4⟩ := rd5.ob
                simp [ob5, hx7, V.cells, V.good, setAt, fillL, fillV, V.isAgg]
                refine M1.app (by simp) rfl (by simp; omega) ?_
                obtain ⟨r9, g9⟩ := rd5.pushR ob5 (.agg [.str toks[s'.at'].text, .int .i64 n6])
                simp [setAt, V.cells, V.good, push_objs, ob5]
                exact ⟨0, hm0, iv ⟨_, rfl, (((g4.trans g5).trans g6).trans g7).trans g9, .inr ⟨_, ⟨a5, R5 ++ [⟨toks[s'.at'].text, n6⟩], N5, G5, U5, k1, k2, by simp; omega, by rw [List.map_append]; exact r9⟩, hte⟩⟩⟩
              · intro h6 σ6 g6 r6
                have hx6 := (g6.objs h'.nobj (by omega) q2).trans hx5
                have hn6 := g6.nobj
                have fw := alts_fwd _ _ _ _ (by omega) hal
                have fp := fw.pot
                have fa := fw.at1
                have fb := fw.at2
                simp
                refine ecall (rMust L.rd (en := s.length) (by omega) r6 fb _ (fun h7 c7 g7 r7 => ?_) (fun h7 c7 g7 r7 => ?_))
                · have hx7 := (g7.objs h'.nobj (by omega) q2).trans hx6
                  have hl7 := aheadP_lt c7
                  have p7 := pot_adv hl7
                  have hte : textP toks s.length = (if s6.at' + 1 < toks.length then textL toks s.length k ({ s6.adv with rules := s6.adv.rules ++ [⟨toks[s'.at'].text, n6⟩] } : PS) else .ok (({ s6.adv with rules := s6.adv.rules ++ [⟨toks[s'.at'].text, n6⟩] } : PS), ())) := by rw [ht]; simp [pbnd, mustP, c, hal, c7]; rfl
                  obtain ⟨N7, hN7, rd7⟩ := r7
                  obtain ⟨f1, f2, f3, f4, ob7, M1, M2, M3, M4⟩ := rd7.ob
                  have np7 := nodes_pot (toks := toks) s6
                  have hrl : s6.adv.rules.length = s6.rules.length := rfl
                  simp [ob7, hx7, V.cells, V.good, setAt, fillL, fillV, V.isAgg]
                  refine M1.app (by simp) rfl (by simp; omega) ?_
                  obtain ⟨r8, g8⟩ := rd7.pushR ob7 (.agg [.str toks[s'.at'].text, .int .i64 n6])
                  simp [setAt, V.cells, V.good, push_objs, ob7]
                  have hr8 : ({ s6.adv with rules := s6.adv.rules ++ [⟨toks[s'.at'].text, n6⟩] } : PS).rules.map rlV = s6.adv.rules.map rlV ++ [.agg [V.str toks[s'.at'].text, V.int IntKind.i64 n6]] := by simp [rlV, rlC]
                  have p8 : pot toks ({ s6.adv with rules := s6.adv.rules ++ [⟨toks[s'.at'].text, n6⟩] } : PS) = pot toks s6.adv + 1 := by simp [pot]; omega
                  have hm1 : toks.length + 2 - (s6.at' + 1) < m := by omega
                  have hm2 : toks.length + 2 ≤ toks.length + 2 - (s6.at' + 1) + (s6.at' + 1) := by omega
                  have hk9 : toks.length < k + (s6.at' + 1) := by omega
                  have ha9 : s6.at' + 1 ≤ toks.length := by omega
                  have hp9 : pot toks ({ s6.adv with rules := s6.adv.rules ++ [⟨toks[s'.at'].text, n6⟩] } : PS) ≤ 8 * toks.length := by omega
                  exact ⟨toks.length + 2 - (s6.at' + 1), hm1, iv ⟨_, rfl, ((((g4.trans g5).trans g6).trans g7).trans g8), .inl ⟨({ s6.adv with rules := s6.adv.rules ++ [⟨toks[s'.at'].text, n6⟩] } : PS), ⟨N7, hN7, by rw [hr8]; exact r8⟩, ha9, hp9, hm2, fun e => ⟨k, hk9, by
                      have : s6.at' + 1 < toks.length := e.resolve_right (by simp)
                      rw [hte, if_pos this]⟩, fun e => by
                      have : ¬ s6.at' + 1 < toks.length := fun q => e (.inl q)
                      rw [hte, if_neg this]⟩⟩⟩
                · have hx7 := (g7.objs h'.nobj (by omega) q2).trans hx6
                  have hte : textP toks s.length = .error (plcP toks s.length s6.at') := by rw [ht]; simp [pbnd, mustP, c, hal, c7]
                  obtain ⟨a5, R5, N5, G5, U5, k1, k2, k3, rd5⟩ := r7
                  obtain ⟨f1, f2, f3, f4, ob5, M1, M2, M3, M4⟩ := rd5.ob
                  simp [ob5, hx7, V.cells, V.good, setAt, fillL, fillV, V.isAgg]
                  refine M1.app (by simp) rfl (by simp; omega) ?_
                  obtain ⟨r9, g9⟩ := rd5.pushR ob5 (.agg [.str toks[s'.at'].text, .int .i64 n6])
                  simp [setAt, V.cells, V.good, push_objs, ob5]
                  exact ⟨0, hm0, iv ⟨_, rfl, (((g4.trans g5).trans g6).trans g7).trans g9, .inr ⟨_, ⟨a5, R5 ++ [⟨toks[s'.at'].text, n6⟩], N5, G5, U5, k1, k2, by simp; omega, by rw [List.map_append]; exact r9⟩, hte⟩⟩⟩
            · have hx5 := (g5.objs h'.nobj (by omega) q2).trans hx4
              have hn5 := g5.nobj
              have hte : textP toks s.length = .error (plcP toks s.length (giveP (⟨toks[s'.at'].text, toks[s'.at'].at'⟩ : Use) s'.adv).at') := by rw [ht]; simp [pbnd, mustP, c]
              simp
              refine ecall (rAltsW L.rd r5 (by omega) fun h6 σ6 n6 g6 r6 => ?_)
              have hx6 := (g6.objs h'.nobj (by omega) q2).trans hx5
              have hn6 := g6.nobj
              simp
              refine ecall (rMustW L.rd r6 _ fun h7 g7 r7 => ?_)
              have hx7 := (g7.objs h'.nobj (by omega) q2).trans hx6
              obtain ⟨a5, R5, N5, G5, U5, k1, k2, k3, rd5⟩ := r7
              obtain ⟨f1, f2, f3, f4, ob5, M1, M2, M3, M4⟩ := rd5.ob
              simp [ob5, hx7, V.cells, V.good, setAt, fillL, fillV, V.isAgg]
              refine M1.app (by simp) rfl (by simp; omega) ?_
              obtain ⟨r9, g9⟩ := rd5.pushR ob5 (.agg [.str toks[s'.at'].text, .int .i64 n6])
              simp [setAt, V.cells, V.good, push_objs, ob5]
              exact ⟨0, hm0, iv ⟨_, rfl, (((g4.trans g5).trans g6).trans g7).trans g9, .inr ⟨_, ⟨a5, R5 ++ [⟨toks[s'.at'].text, n6⟩], N5, G5, U5, k1, k2, by simp; omega, by rw [List.map_append]; exact r9⟩, hte⟩⟩⟩
          · have c2' : ¬ (toks[s'.at'].kind : Int) = 1 := by omega
            have hn : nameP toks s.length s' = .error toks[s'.at'].at' := by simp [nameP, hlt, c2]
            have hp' : plcP toks s.length s'.at' = toks[s'.at'].at' := by simp [plcP, hlt]
            have hte : textP toks s.length = .error toks[s'.at'].at' := by rw [ht, textL, ruleP, hn]; rfl
            have pl := pot_lens (toks := toks) s'
            have hbd : s'.rules.length + N.length + s'.given.length + s'.used.length ≤ 8 * toks.length + 8 := by omega
            simp [ob, hlt, hge, hg, tokC, V.cells, V.good, setAt, c2', c2]
            exact ⟨0, hm0, iv ⟨_, rfl, g.set (.inl rfl) _, .inr ⟨_, ⟨s'.at', s'.rules, N, s'.given, s'.used, hp', ha, hbd, rd.cells ob _ s'.at' _⟩, hte⟩⟩⟩
        · have hr : s'.rules = [] := cc.resolve_left hlt
          have hge : toks.length ≤ s'.at' := by omega
          have hn : nameP toks s.length s' = .error s.length := by simp [nameP, hlt]
          have hp' : plcP toks s.length s'.at' = s.length := by simp [plcP, hlt]
          have hte : textP toks s.length = .error s.length := by rw [ht, textL, ruleP, hn]; rfl
          have pl := pot_lens (toks := toks) s'
          have hbd : s'.rules.length + N.length + s'.given.length + s'.used.length ≤ 8 * toks.length + 8 := by omega
          have hm0 : 0 < m := by omega
          simp [ob, hlt, hge, hr, V.cells, V.good, setAt]
          exact ⟨0, hm0, iv ⟨_, rfl, g.set (.inl rfl) _, .inr ⟨_, ⟨s'.at', s'.rules, N, s'.given, s'.used, hp', ha, hbd, by rw [hr] at rd ob ⊢; exact rd.cells ob _ s'.at' _⟩, hte⟩⟩⟩
      · have ht := hF cc
        have q1 : ¬ s'.at' < toks.length := fun e => cc (.inl e)
        have q2 : ¬ s'.rules = [] := fun e => cc (.inr e)
        rw [ht] at hrd
        simp only at hrd
        have np := nodes_pot (toks := toks) s'
        simp [ob, q1, q2]
        by_cases c2 : 24 < s'.rules.length
        · have c2' : (24 : Int) < s'.rules.length := by omega
          rw [if_pos (.inl c2)] at hrd
          simp [c2, c2', o2]
          exact hem _ (gr.set (Nat.le_refl _) _) 0 5 (by rw [ruRdV, hrd])
        have c2' : ¬ (24 : Int) < s'.rules.length := by omega
        by_cases c3 : 200 < s'.nodes.length
        · have c3' : (200 : Int) < N.length := by omega
          rw [if_pos (.inr c3)] at hrd
          simp [c2', c3', o2, ob]
          exact hem _ (gr.set (Nat.le_refl _) _) 0 5 (by rw [ruRdV, hrd])
        have c3' : ¬ (200 : Int) < N.length := by omega
        rw [if_neg (by rintro (q | q); exact c2 q; exact c3 q)] at hrd
        simp [c2', c3', ob]
        refine loopI (n := s'.given.length) (fun m env h2 => ∃ k, k ≤ s'.given.length ∧ m = s'.given.length - k ∧ h2 = h' ∧ env = [(2, .ptr h.nobj 0), (8, .ptr (h.nobj + 1) 0), (11, .int .i64 k)] ∧ twiceP [] s'.given = twiceP ((s'.given.take k).map (·.name)) (s'.given.drop k)) ?_ ⟨0, by omega, by omega, rfl, rfl, rfl⟩
        rintro m env h2 ⟨k, hk, rfl, rfl, rfl, htw⟩
        unfold A.probateref06_Read.L1
        by_cases hlt : k < s'.given.length
        · obtain rfl : e3 = 3 := (m3.el.imp (fun e => by simpa using e) id : s'.given = [] ∨ e3 = 3).resolve_left (by intro e; rw [e] at hlt; simp at hlt)
          have hlt' : (k : Int) < s'.given.length := by omega
          have hg := utoks_getD hlt
          have hw1 : IntKind.i64.wrap ((k : Int) + 1) = ((k + 1 : Nat) : Int) := by rw [wrap_i64 (by omega) (by omega)]; rfl
          simp [ob, hlt, hlt', hg, V.cells]
          have hd : s'.given.drop k = s'.given[k] :: s'.given.drop (k + 1) := List.drop_eq_getElem_cons hlt
          have htk : (s'.given.take (k + 1)).map (·.name) = (s'.given.take k).map (·.name) ++ [s'.given[k].name] := by rw [List.take_succ_eq_append_getElem hlt, List.map_append]; rfl
          rw [hd, twiceP] at htw
          refine ⟨by omega, ?_⟩
          rw [← List.map_take]
          by_cases c4 : s'.given[k].name ∈ (s'.given.take k).map (·.name)
          · rw [if_pos c4] at htw
            have hnm : namesP s'.given s'.used = (s'.given[k].at', 7) := by unfold namesP; rw [htw]
            rw [hnm, if_pos (by simp)] at hrd
            refine dcall (.bool true) (rHas L.has _ (.inr rfl) _ (by simp; omega) ⟨by rw [decide_eq_true c4], rfl⟩) ?_
            simp [o2, ob, hg, hlt, hlt', V.cells]
            exact hem _ (gr.set (Nat.le_refl _) _) s'.given[k].at' 7 (by rw [ruRdV, hrd])
          · rw [if_neg c4, ← htk] at htw
            refine dcall (.bool false) (rHas L.has _ (.inr rfl) _ (by simp; omega) ⟨by rw [decide_eq_false c4], rfl⟩) ?_
            simp [hw1]
            exact ⟨s'.given.length - (k + 1), by omega, iv ⟨k + 1, by omega, rfl, rfl, rfl, htw⟩⟩
        · have hlt' : ¬ (k : Int) < s'.given.length := by omega
          obtain rfl : k = s'.given.length := by omega
          rw [List.take_length, List.drop_length] at htw
          simp [ob, hlt']
          refine loopI (n := s'.used.length) (fun m env h3 => ∃ k, k ≤ s'.used.length ∧ m = s'.used.length - k ∧ h3 = h2 ∧ env = [(2, .ptr h.nobj 0), (8, .ptr (h.nobj + 1) 0), (12, .int .i64 k)] ∧ missP (s'.given.map (·.name)) s'.used = missP (s'.given.map (·.name)) (s'.used.drop k)) ?_ ⟨0, by omega, by omega, rfl, rfl, rfl⟩
          rintro m env h3 ⟨k, hk, rfl, rfl, rfl, hms⟩
          unfold A.probateref06_Read.L2
          by_cases hlt : k < s'.used.length
          · obtain rfl : e4 = 3 := (m4.el.imp (fun e => by simpa using e) id : s'.used = [] ∨ e4 = 3).resolve_left (by intro e; rw [e] at hlt; simp at hlt)
            have hlt' : (k : Int) < s'.used.length := by omega
            have hg := utoks_getD hlt
            have hw1 : IntKind.i64.wrap ((k : Int) + 1) = ((k + 1 : Nat) : Int) := by rw [wrap_i64 (by omega) (by omega)]; rfl
            have hd : s'.used.drop k = s'.used[k] :: s'.used.drop (k + 1) := List.drop_eq_getElem_cons hlt
            rw [hd, missP] at hms
            simp [ob, hlt, hlt', hg, V.cells]
            by_cases c4 : s'.used[k].name ∈ s'.given.map (·.name)
            · rw [if_pos c4] at hms
              refine dcall (.bool true) (rHas L.has _ (m3.el.imp (fun e => by simpa using e) id) _ (by omega) ⟨by rw [decide_eq_true c4], rfl⟩) ?_
              simp [hw1]
              exact ⟨s'.used.length - (k + 1), by omega, iv ⟨k + 1, by omega, rfl, rfl, rfl, hms⟩⟩
            · rw [if_neg c4] at hms
              have hnm : namesP s'.given s'.used = (s'.used[k].at', 6) := by unfold namesP; rw [show twiceP [] s'.given = none from htw]; simp only; rw [hms]
              rw [hnm, if_pos (by simp)] at hrd
              refine dcall (.bool false) (rHas L.has _ (m3.el.imp (fun e => by simpa using e) id) _ (by omega) ⟨by rw [decide_eq_false c4], rfl⟩) ?_
              simp [o2, ob, hg, hlt, hlt', V.cells]
              exact hem _ (gr.set (Nat.le_refl _) _) s'.used[k].at' 6 (by rw [ruRdV, hrd])
          · have hlt' : ¬ (k : Int) < s'.used.length := by omega
            obtain rfl : k = s'.used.length := by omega
            rw [List.drop_length] at hms
            have hnm : namesP s'.given s'.used = (0, 0) := by unfold namesP; rw [show twiceP [] s'.given = none from htw]; simp only; rw [show missP (s'.given.map (·.name)) s'.used = none from hms]
            rw [hnm, if_neg (by simp)] at hrd
            simp [ob, hlt', o2]
            have hv : ruRdV s = .tup [teV ⟨s'.rules, s'.nodes⟩, .int .i64 0, .int .i64 0] := by rw [ruRdV, hrd]; rfl
            refine fin_wk (r := ruRdV s) (gr.set (Nat.le_refl _) _) ?_ ?_ hQ
            · rw [hv]
              exact (wk_tree (m1.el.imp (fun e => by simpa using e) id) (by
                rcases m2.el with e | e
                · left; rw [e] at hN; simpa using hN.cells.1.symm
                · exact .inr e) hN).t3 _ _
            · simp only [ruRdV, Bdd_tup, List.mem_cons, List.not_mem_nil, or_false]
              rintro v (rfl | rfl | rfl)
              · exact bdd_te _ _ _
              · simp
              · simp
    · obtain ⟨a, R, N, G, U, k1, k2, k3, rd⟩ := id r1
      obtain ⟨e1, e2, e3, e4, ob, _⟩ := rd.ob
      rw [ht] at hrd
      simp [ob, o2]
      by_cases hlt : a < toks.length
      · have hlt' : (a : Int) < toks.length := by omega
        have hg : (toks.map tokV).getD a .undef = .agg (tokC toks[a]) := toks_getD hlt
        have hp : plcP toks s.length a = toks[a].at' := by simp [plcP, hlt]
        simp [hlt, hg, tokC, V.cells, o2, ob]
        exact hem _ (gr.set (Nat.le_refl _) _) toks[a].at' 2 (by rw [ruRdV, hrd, ← k1, hp])
      · have hlt' : ¬ (a : Int) < toks.length := by omega
        have hp : plcP toks s.length a = s.length := by simp [plcP, hlt]
        simp [hlt, o2]
        exact hem _ (gr.set (Nat.le_refl _) _) _ 2 (by rw [ruRdV, hrd, ← k1, hp])
  · simp [c1]
    exact hem _ ((Gr.refl h).new _) _ _ (by simp [ruRdV, ruRd, c1])
end
end Go.Proofs.Ytecgbggobecpjaa.Al
namespace Go.Proofs.Ytecgbggobecpjaa.Al
open Go Go.RowKit
set_option linter.unusedSimpArgs false
set_option linter.unusedVariables false
attribute [-simp] List.getD_eq_getElem?_getD Int.not_lt Int.not_le List.map_take
structure L06 (X : Cx) : Prop where
  rd : LRead X
  rr : LReadR X
  ru : LRu X
  right : Has (Ecx X) K.rules_Right A.rules_Right_o
  r6 : LR6 X
  same : LSame6 X
  sameR : Has (Ecx X) K.probateref06_Same A.probateref06_Same
  same2 : Has (Ecx X) K.probateref02_Same A.probateref02_Same
  large : Has (Ecx X) K.probatelaw06_Large A.probatelaw06_Large
  own : Has (Ecx X) K.probatelaw06_Own A.probatelaw06_Own
  awake : Has (Ecx X) K.probatelaw06_awake A.probatelaw06_awake
theorem ruRd_sm {s : Str} : TeSm (ruRd s).1 := by
  by_cases h : (ruRd s).2.2 = 0
  · have r := rte_of (ruRd_good h).1
    have hp := r.perm.length_eq
    simp only [List.length_append, List.length_map, iotaI, List.length_range] at hp
    have n1 := r.n1
    have hk : ∀ n ∈ (ruRd s).1.nodes, n.kids.length ≤ ((ruRd s).1.nodes.flatMap (·.kids)).length := fun n hn => by
      have : n.kids.Sublist ((ruRd s).1.nodes.flatMap (·.kids)) := by
        obtain ⟨a, b, e⟩ := List.append_of_mem hn
        rw [e, List.flatMap_append, List.flatMap_cons]
        exact (List.sublist_append_left n.kids _).trans (List.sublist_append_right _ _)
      exact this.length_le
    have htl : ∀ s : Str, tokenT s 1 = true → s.length ≤ 2 ^ 30 := fun s hs => by
      refine Classical.byContradiction fun c => ?_
      unfold tokenT scanR at hs
      rw [if_pos (by omega)] at hs
      simp at hs
    refine ⟨by have := r.r1; omega, by omega, fun q hq => ?_, fun n hn => ?_, fun n hn => by have := hk n hn; omega⟩
    · exact htl q.name (r.tok q hq)
    · have := r.fine n hn
      unfold fineT at this
      split at this
      · simp only [Bool.and_eq_true, decide_eq_true_eq, rnames, List.mem_map] at this
        obtain ⟨_, q, hq, e⟩ := this
        rw [← e]; exact htl q.name (r.tok q hq)
      · split at this
        · unfold quoteT at this
          simp only [Bool.and_eq_true, decide_eq_true_eq] at this
          have := this.2.2; omega
        · simp only [Bool.and_eq_true, decide_eq_true_eq] at this
          rw [this.1]; simp
  · rw [(ruRd_bad h).1]
    exact ⟨by simp [noTe], by simp [noTe], by simp [noTe], by simp [noTe], by simp [noTe]⟩
section
variable {X : Cx} {h : AH} {Q : V → AH → Prop}
def awS : Str := [115, 58, 32, 39, 97, 39, 32, 115, 32, 124, 32, 59]
def awTe : Te := ⟨[⟨[115], 4⟩], [⟨7, [97], []⟩, ⟨6, [115], []⟩, ⟨1, [], [0, 1]⟩, ⟨1, [], []⟩, ⟨2, [], [2, 3]⟩]⟩
theorem awS_rd : ruRd awS = (awTe, 0, 0) := by decide +kernel
theorem awS2_rd : ruRd [115, 58, 32, 39, 97, 39] = (noTe, 6, 2) := by decide +kernel
theorem awS3_rd : ruRd [115, 58, 32, 116, 32, 59] = (noTe, 3, 6) := by decide +kernel
theorem awTe_r : rightP awTe = true := by decide +kernel
theorem noTe_r : rightP noTe = false := by decide +kernel
theorem awake6_spec (L : L06 X) (hQ : Q (.bool true) h) : Ecx X K.probatelaw06_awake [] h Q := by
  refine fn_walk L.awake (by simp [A.probatelaw06_awake]) fun wf => ?_
  simp [A.probatelaw06_awake]
  refine ecall (ruRead_spec L.rd awS (by decide) ?_)
  rw [ruRdV, awS_rd]
  simp [V.cells, V.good, setAt, teV, teC, fillL, fillV, V.isAgg]
  have hn : teV noTe = .agg [.sl 2 0 [], .sl 3 0 []] := rfl
  have gr := ((Gr.refl h).new [V.sl 2 0 (List.map rlV awTe.rules), V.sl 3 0 (List.map ndV awTe.nodes)]).new [V.sl 2 2 [V.agg [V.str [115], V.int IntKind.i64 4]], V.sl 3 2 [V.agg [V.int IntKind.i64 7, V.str [97], V.sl 0 1 []], V.agg [V.int IntKind.i64 6, V.str [115], V.sl 0 1 []], V.agg [V.int IntKind.i64 1, V.str [], V.sl 1 2 [V.int IntKind.i64 0, V.int IntKind.i64 1]], V.agg [V.int IntKind.i64 1, V.str [], V.sl 0 1 []], V.agg [V.int IntKind.i64 2, V.str [], V.sl 1 2 [V.int IntKind.i64 2, V.int IntKind.i64 3]]]]
  have oA : ((h.new [V.sl 2 0 (List.map rlV awTe.rules), V.sl 3 0 (List.map ndV awTe.nodes)]).new [V.sl 2 2 [V.agg [V.str [115], V.int IntKind.i64 4]], V.sl 3 2 [V.agg [V.int IntKind.i64 7, V.str [97], V.sl 0 1 []], V.agg [V.int IntKind.i64 6, V.str [115], V.sl 0 1 []], V.agg [V.int IntKind.i64 1, V.str [], V.sl 1 2 [V.int IntKind.i64 0, V.int IntKind.i64 1]], V.agg [V.int IntKind.i64 1, V.str [], V.sl 0 1 []], V.agg [V.int IntKind.i64 2, V.str [], V.sl 1 2 [V.int IntKind.i64 2, V.int IntKind.i64 3]]]]).objs h.nobj = [V.sl 2 0 (List.map rlV awTe.rules), V.sl 3 0 (List.map ndV awTe.nodes)] := by simp
  have oB : ((h.new [V.sl 2 0 (List.map rlV awTe.rules), V.sl 3 0 (List.map ndV awTe.nodes)]).new [V.sl 2 2 [V.agg [V.str [115], V.int IntKind.i64 4]], V.sl 3 2 [V.agg [V.int IntKind.i64 7, V.str [97], V.sl 0 1 []], V.agg [V.int IntKind.i64 6, V.str [115], V.sl 0 1 []], V.agg [V.int IntKind.i64 1, V.str [], V.sl 1 2 [V.int IntKind.i64 0, V.int IntKind.i64 1]], V.agg [V.int IntKind.i64 1, V.str [], V.sl 0 1 []], V.agg [V.int IntKind.i64 2, V.str [], V.sl 1 2 [V.int IntKind.i64 2, V.int IntKind.i64 3]]]]).objs (h.nobj + 1) = [V.sl 2 2 [V.agg [V.str [115], V.int IntKind.i64 4]], V.sl 3 2 [V.agg [V.int IntKind.i64 7, V.str [97], V.sl 0 1 []], V.agg [V.int IntKind.i64 6, V.str [115], V.sl 0 1 []], V.agg [V.int IntKind.i64 1, V.str [], V.sl 1 2 [V.int IntKind.i64 0, V.int IntKind.i64 1]], V.agg [V.int IntKind.i64 1, V.str [], V.sl 0 1 []], V.agg [V.int IntKind.i64 2, V.str [], V.sl 1 2 [V.int IntKind.i64 2, V.int IntKind.i64 3]]]] := by simp
  have nb : ((h.new [V.sl 2 0 (List.map rlV awTe.rules), V.sl 3 0 (List.map ndV awTe.nodes)]).new [V.sl 2 2 [V.agg [V.str [115], V.int IntKind.i64 4]], V.sl 3 2 [V.agg [V.int IntKind.i64 7, V.str [97], V.sl 0 1 []], V.agg [V.int IntKind.i64 6, V.str [115], V.sl 0 1 []], V.agg [V.int IntKind.i64 1, V.str [], V.sl 1 2 [V.int IntKind.i64 0, V.int IntKind.i64 1]], V.agg [V.int IntKind.i64 1, V.str [], V.sl 0 1 []], V.agg [V.int IntKind.i64 2, V.str [], V.sl 1 2 [V.int IntKind.i64 2, V.int IntKind.i64 3]]]]).nobj = h.nobj + 2 := by simp
  generalize ((h.new [V.sl 2 0 (List.map rlV awTe.rules), V.sl 3 0 (List.map ndV awTe.nodes)]).new [V.sl 2 2 [V.agg [V.str [115], V.int IntKind.i64 4]], V.sl 3 2 [V.agg [V.int IntKind.i64 7, V.str [97], V.sl 0 1 []], V.agg [V.int IntKind.i64 6, V.str [115], V.sl 0 1 []], V.agg [V.int IntKind.i64 1, V.str [], V.sl 1 2 [V.int IntKind.i64 0, V.int IntKind.i64 1]], V.agg [V.int IntKind.i64 1, V.str [], V.sl 0 1 []], V.agg [V.int IntKind.i64 2, V.str [], V.sl 1 2 [V.int IntKind.i64 2, V.int IntKind.i64 3]]]]) = h1 at *
  have q1 : ¬ h.nobj = h1.nobj := by omega
  have q2 : ¬ h.nobj + 1 = h1.nobj := by omega
  have q3 : ¬ h.nobj = h1.nobj + 1 := by omega
  have q4 : ¬ h.nobj + 1 = h1.nobj + 1 := by omega
  refine ecall (ruRead_spec L.rd [115, 58, 32, 39, 97, 39] (by decide) ?_)
  rw [ruRdV, awS2_rd, hn]
  simp [V.cells, V.good, setAt]
  refine ecall (ruRead_spec L.rd [115, 58, 32, 116, 32, 59] (by decide) ?_)
  rw [ruRdV, awS3_rd, hn]
  simp [V.cells, V.good, setAt, oA, oB, q1, q2, q3, q4]
  have hA : V.agg [V.sl 2 0 (List.map rlV awTe.rules), V.sl 3 0 (List.map ndV awTe.nodes)] = teV awTe := rfl
  have hB : Wk (V.agg [V.sl 2 2 [V.agg [V.str [115], V.int IntKind.i64 4]],
        V.sl 3 2
          [V.agg [V.int IntKind.i64 7, V.str [97], V.sl 0 1 []], V.agg [V.int IntKind.i64 6, V.str [115], V.sl 0 1 []],
            V.agg [V.int IntKind.i64 1, V.str [], V.sl 1 2 [V.int IntKind.i64 0, V.int IntKind.i64 1]],
            V.agg [V.int IntKind.i64 1, V.str [], V.sl 0 1 []],
            V.agg [V.int IntKind.i64 2, V.str [], V.sl 1 2 [V.int IntKind.i64 2, V.int IntKind.i64 3]]]]) (teV awTe) :=
    wk_tree (R := awTe.rules) (l := awTe.nodes) (.inr rfl) (.inr rfl) (.cons (.cons (.same _) (.cons (.same _) (.cons (wk_kids (kids := []) (.inl rfl)) .nil))) (.cons (.cons (.same _) (.cons (.same _) (.cons (wk_kids (kids := []) (.inl rfl)) .nil)))
      (.cons (.cons (.same _) (.cons (.same _) (.cons (wk_kids (kids := [0, 1]) (.inr rfl)) .nil))) (.cons (.cons (.same _) (.cons (.same _) (.cons (wk_kids (kids := []) (.inl rfl)) .nil))) (.cons (.cons (.same _) (.cons (.same _) (.cons (wk_kids (kids := [2, 3]) (.inr rfl)) .nil))) .nil)))))
  have hN : Wk (V.agg [V.sl 0 1 [], V.sl 0 1 []]) (teV noTe) := wk_tree (R := []) (l := []) (.inl rfl) (.inl rfl) .nil
  rw [hA]
  refine dcall (teV awTe) (own6_spec L.own awTe (by decide) (by decide) ⟨rfl, rfl⟩) ?_
  simp [oA, oB, q1, q2, q3, q4]
  refine dcall (.bool true) (Ecx.wkL (.cons (.same _) (.cons hB .nil)) (ruSameR_spec L.sameR L.same2 awTe awTe (by decide) (by decide) (by decide) ⟨by simp, rfl⟩)) ?_
  simp [oA, oB, q1, q2, q3, q4, hA]
  refine dcall (.bool true) (ruRight_spec L.ru L.right awTe (by decide) (by decide) (by decide) (by decide) (by decide) ⟨by rw [awTe_r], rfl⟩) ?_
  simp
  refine dcall (.bool false) (Ecx.wkL (.cons hN .nil) (ruRight_spec L.ru L.right noTe (by decide) (by decide) (by decide) (by decide) (by decide) ⟨by rw [noTe_r], rfl⟩)) ?_
  simp [oA, oB, q1, q2, q3, q4, hA]
  refine dcall (.bool true) (ruSame_spec L.same awTe awTe (by decide) (by decide) (by decide) ⟨by simp, rfl⟩) ?_
  simp [oA, oB, q1, q2, q3, q4, hA]
  refine dcall (.bool false) (Ecx.wkL (.cons (.same _) (.cons hN .nil)) (ruSame_spec L.same awTe noTe (by decide) (by decide) (by decide) ⟨by rw [decide_eq_false (by decide)], rfl⟩)) ?_
  simp
  exact fin_wk ((gr.new _).new _) (.same _) (by simp) hQ
theorem rules_tells (L : L06 X) (H : Has (Ecx X) K.probatelaw06_RulesTells A.probatelaw06_RulesTells) (text : Str) (t u : Te) (ht : TeOk t) (hu : TeOk u) (hQ : Q (.bool true) h) : Ecx X K.probatelaw06_RulesTells [.str text, teV t, teV u] h Q := by
  refine fn_walk H (by simp [A.probatelaw06_RulesTells]) fun wf => ?_
  have htc : ∀ t : Te, teV t = .agg [.sl 2 0 (t.rules.map rlV), .sl 3 0 (t.nodes.map ndV)] := fun _ => rfl
  have gr := ((Gr.refl h).new [V.sl 2 0 (t.rules.map rlV), .sl 3 0 (t.nodes.map ndV)]).new [V.sl 2 0 (u.rules.map rlV), .sl 3 0 (u.nodes.map ndV)]
  have oA : ((h.new [V.sl 2 0 (t.rules.map rlV), .sl 3 0 (t.nodes.map ndV)]).new [V.sl 2 0 (u.rules.map rlV), .sl 3 0 (u.nodes.map ndV)]).objs h.nobj = [V.sl 2 0 (t.rules.map rlV), .sl 3 0 (t.nodes.map ndV)] := by simp
  have oB : ((h.new [V.sl 2 0 (t.rules.map rlV), .sl 3 0 (t.nodes.map ndV)]).new [V.sl 2 0 (u.rules.map rlV), .sl 3 0 (u.nodes.map ndV)]).objs (h.nobj + 1) = [V.sl 2 0 (u.rules.map rlV), .sl 3 0 (u.nodes.map ndV)] := by simp
  have nb : ((h.new [V.sl 2 0 (t.rules.map rlV), .sl 3 0 (t.nodes.map ndV)]).new [V.sl 2 0 (u.rules.map rlV), .sl 3 0 (u.nodes.map ndV)]).nobj = h.nobj + 2 := by simp
  simp [A.probatelaw06_RulesTells, htc, V.cells, V.good]
  generalize ((h.new [V.sl 2 0 (t.rules.map rlV), .sl 3 0 (t.nodes.map ndV)]).new [V.sl 2 0 (u.rules.map rlV), .sl 3 0 (u.nodes.map ndV)]) = h1 at *
  refine ecall (awake6_spec L ?_)
  simp
  by_cases c1 : (1000 : Int) < text.length
  · simp [c1]
    exact fin_wk gr (.same _) (by simp) hQ
  simp [c1, oA, oB]
  rw [← htc]
  refine ecall (largeT_spec L.large t ht ?_)
  by_cases c2 : largeT t = true
  · simp [c2]
    exact fin_wk gr (.same _) (by simp) hQ
  have c2' : largeT t = false := by simpa using c2
  simp [c2', oA, oB]
  rw [← htc]
  refine ecall (largeT_spec L.large u hu ?_)
  by_cases c3 : largeT u = true
  · simp [c3]
    exact fin_wk gr (.same _) (by simp) hQ
  have c3' : largeT u = false := by simpa using c3
  have st := sm_of c2'
  have su := sm_of c3'
  have sx := ruRd_sm (s := text)
  simp [c3']
  refine ecall (ruRead_spec L.rd text (by omega) ?_)
  simp [ruRdV, htc, V.cells, V.good, setAt]
  refine ecall (rRead L.rr text (by omega) ?_)
  have q1 : ¬ h.nobj = h1.nobj := by omega
  have q2 : ¬ h.nobj + 1 = h1.nobj := by omega
  have q3 : ¬ h.nobj = h1.nobj + 1 := by omega
  have q4 : ¬ h.nobj + 1 = h1.nobj + 1 := by omega
  simp [ruRdV, htc, V.cells, V.good, setAt, oA, oB, q1, q2, q3, q4]
  rw [← htc]
  have sr := st.r; have sn := st.n; have ur := su.r; have un := su.n; have xr := sx.r; have xn := sx.n
  refine dcall (teV (ruRd text).1) (own6_spec L.own _ (by omega) (by omega) ⟨rfl, rfl⟩) ?_
  simp
  refine dcall (.bool true) (ruSameR_spec L.sameR L.same2 _ _ (by omega) (by omega) (fun n hn => by have := sx.ks n hn; omega) ⟨by simp, rfl⟩) ?_
  have tr := right_eq t
  simp [oA, oB, q1, q2, q3, q4]
  rw [← htc]
  refine dcall (.bool (rightP t)) (ruRight_spec L.ru L.right t (by omega) (by omega) st.rn st.nn st.ks ⟨rfl, rfl⟩) ?_
  simp [oA, oB, q1, q2, q3, q4]
  rw [← htc]
  refine dcall (teV t) (own6_spec L.own _ (by omega) (by omega) ⟨rfl, rfl⟩) ?_
  simp
  refine dcall (.bool (rightD t)) (rRight_spec L.r6 t (by omega) (by omega) st.rn st.nn st.ks ⟨rfl, rfl⟩) ?_
  simp [tr, oA, oB, q1, q2, q3, q4]
  rw [← htc, ← htc]
  refine dcall (.bool (decide (t = u))) (ruSame_spec L.same t u (by omega) (by omega) (fun n hn => by have := st.ks n hn; omega) ⟨rfl, rfl⟩) ?_
  simp [oA, oB, q1, q2, q3, q4]
  rw [← htc]
  refine dcall (teV t) (own6_spec L.own _ (by omega) (by omega) ⟨rfl, rfl⟩) ?_
  simp [oA, oB, q1, q2, q3, q4]
  rw [← htc]
  refine dcall (teV u) (own6_spec L.own _ (by omega) (by omega) ⟨rfl, rfl⟩) ?_
  simp
  refine dcall (.bool (decide (t = u))) (ruSameR_spec L.sameR L.same2 _ _ (by omega) (by omega) (fun n hn => by have := st.ks n hn; omega) ⟨rfl, rfl⟩) ?_
  simp
  exact fin_wk ((gr.new _).new _) (.same _) (by simp) hQ
end
end Go.Proofs.Ytecgbggobecpjaa.Al
namespace Go.Proofs.Ytecgbggobecpjaa.Al
open Go
theorem tie_probateref05_Scan : compFn Try.prog yK Try.f18 = some A.probateref05_Scan.strip := by kernel_rfl
theorem has_probateref05_Scan (W0 : World) {Z : Value → AH → Prop} : Has (Ecx (cxZ W0 Z)) K.probateref05_Scan A.probateref05_Scan := fn_sound Try.checked.mixed rfl (by exact Try.func18) (by kernel_rfl) tie_probateref05_Scan
theorem tie_probateref05_letter : compFn Try.prog yK Try.f36 = some A.probateref05_letter.strip := by kernel_rfl
theorem has_probateref05_letter (W0 : World) {Z : Value → AH → Prop} : Has (Ecx (cxZ W0 Z)) K.probateref05_letter A.probateref05_letter := fn_sound Try.checked.mixed rfl (by exact Try.func36) (by kernel_rfl) tie_probateref05_letter
theorem tie_probateref05_part : compFn Try.prog yK Try.f37 = some A.probateref05_part.strip := by kernel_rfl
theorem has_probateref05_part (W0 : World) {Z : Value → AH → Prop} : Has (Ecx (cxZ W0 Z)) K.probateref05_part A.probateref05_part := fn_sound Try.checked.mixed rfl (by exact Try.func37) (by kernel_rfl) tie_probateref05_part
end Go.Proofs.Ytecgbggobecpjaa.Al
namespace Go.Proofs.Ytecgbggobecpjaa.Al
open Go
theorem tie_probatelaw06_RulesTells : compFn Try.prog yK Try.f3 = some A.probatelaw06_RulesTells.strip := by kernel_rfl
theorem has_probatelaw06_RulesTells (W0 : World) {Z : Value → AH → Prop} : Has (Ecx (cxZ W0 Z)) K.probatelaw06_RulesTells A.probatelaw06_RulesTells := fn_sound Try.checked.mixed rfl (by exact Try.func3) (by kernel_rfl) tie_probatelaw06_RulesTells
theorem tie_probatelaw06_awake : compFn Try.prog yK Try.f6 = some A.probatelaw06_awake.strip := by kernel_rfl
theorem has_probatelaw06_awake (W0 : World) {Z : Value → AH → Prop} : Has (Ecx (cxZ W0 Z)) K.probatelaw06_awake A.probatelaw06_awake := fn_sound Try.checked.mixed rfl (by exact Try.func6) (by kernel_rfl) tie_probatelaw06_awake
theorem tie_probatelaw06_Large : compFn Try.prog yK Try.f7 = some A.probatelaw06_Large.strip := by kernel_rfl
theorem has_probatelaw06_Large (W0 : World) {Z : Value → AH → Prop} : Has (Ecx (cxZ W0 Z)) K.probatelaw06_Large A.probatelaw06_Large := fn_sound Try.checked.mixed rfl (by exact Try.func7) (by kernel_rfl) tie_probatelaw06_Large
theorem tie_probateref06_Read : compFn Try.prog yK Try.f9 = some A.probateref06_Read.strip := by kernel_rfl
theorem has_probateref06_Read (W0 : World) {Z : Value → AH → Prop} : Has (Ecx (cxZ W0 Z)) K.probateref06_Read A.probateref06_Read := fn_sound Try.checked.mixed rfl (by exact Try.func9) (by kernel_rfl) tie_probateref06_Read
theorem tie_probateref06_Same : compFn Try.prog yK Try.f10 = some A.probateref06_Same.strip := by kernel_rfl
theorem has_probateref06_Same (W0 : World) {Z : Value → AH → Prop} : Has (Ecx (cxZ W0 Z)) K.probateref06_Same A.probateref06_Same := fn_sound Try.checked.mixed rfl (by exact Try.func10) (by kernel_rfl) tie_probateref06_Same
theorem tie_probatelaw06_Own : compFn Try.prog yK Try.f11 = some A.probatelaw06_Own.strip := by kernel_rfl
theorem has_probatelaw06_Own (W0 : World) {Z : Value → AH → Prop} : Has (Ecx (cxZ W0 Z)) K.probatelaw06_Own A.probatelaw06_Own := fn_sound Try.checked.mixed rfl (by exact Try.func11) (by kernel_rfl) tie_probatelaw06_Own
theorem tie_probateref06_Right : compFn Try.prog yK Try.f13 = some A.probateref06_Right.strip := by kernel_rfl
theorem has_probateref06_Right (W0 : World) {Z : Value → AH → Prop} : Has (Ecx (cxZ W0 Z)) K.probateref06_Right A.probateref06_Right := fn_sound Try.checked.mixed rfl (by exact Try.func13) (by kernel_rfl) tie_probateref06_Right
theorem tie_probateref06_reader_must : compFn Try.prog yK Try.f19 = some A.probateref06_reader_must.strip := by kernel_rfl
theorem has_probateref06_reader_must (W0 : World) {Z : Value → AH → Prop} : Has (Ecx (cxZ W0 Z)) K.probateref06_reader_must A.probateref06_reader_must := fn_sound Try.checked.mixed rfl (by exact Try.func19) (by kernel_rfl) tie_probateref06_reader_must
theorem tie_probateref06_reader_alternatives : compFn Try.prog yK Try.f20 = some A.probateref06_reader_alternatives.strip := by kernel_rfl
theorem has_probateref06_reader_alternatives (W0 : World) {Z : Value → AH → Prop} : Has (Ecx (cxZ W0 Z)) K.probateref06_reader_alternatives A.probateref06_reader_alternatives := fn_sound Try.checked.mixed rfl (by exact Try.func20) (by kernel_rfl) tie_probateref06_reader_alternatives
theorem tie_probateref06_has : compFn Try.prog yK Try.f21 = some A.probateref06_has.strip := by kernel_rfl
theorem has_probateref06_has (W0 : World) {Z : Value → AH → Prop} : Has (Ecx (cxZ W0 Z)) K.probateref06_has A.probateref06_has := fn_sound Try.checked.mixed rfl (by exact Try.func21) (by kernel_rfl) tie_probateref06_has
theorem tie_probateref06_under : compFn Try.prog yK Try.f28 = some A.probateref06_under.strip := by kernel_rfl
theorem has_probateref06_under (W0 : World) {Z : Value → AH → Prop} : Has (Ecx (cxZ W0 Z)) K.probateref06_under A.probateref06_under := fn_sound Try.checked.mixed rfl (by exact Try.func28) (by kernel_rfl) tie_probateref06_under
theorem tie_probateref06_Tree_fine : compFn Try.prog yK Try.f29 = some A.probateref06_Tree_fine.strip := by kernel_rfl
theorem has_probateref06_Tree_fine (W0 : World) {Z : Value → AH → Prop} : Has (Ecx (cxZ W0 Z)) K.probateref06_Tree_fine A.probateref06_Tree_fine := fn_sound Try.checked.mixed rfl (by exact Try.func29) (by kernel_rfl) tie_probateref06_Tree_fine
theorem tie_probateref06_reader_mark : compFn Try.prog yK Try.f38 = some A.probateref06_reader_mark.strip := by kernel_rfl
theorem has_probateref06_reader_mark (W0 : World) {Z : Value → AH → Prop} : Has (Ecx (cxZ W0 Z)) K.probateref06_reader_mark A.probateref06_reader_mark := fn_sound Try.checked.mixed rfl (by exact Try.func38) (by kernel_rfl) tie_probateref06_reader_mark
theorem tie_probateref06_reader_items : compFn Try.prog yK Try.f39 = some A.probateref06_reader_items.strip := by kernel_rfl
theorem has_probateref06_reader_items (W0 : World) {Z : Value → AH → Prop} : Has (Ecx (cxZ W0 Z)) K.probateref06_reader_items A.probateref06_reader_items := fn_sound Try.checked.mixed rfl (by exact Try.func39) (by kernel_rfl) tie_probateref06_reader_items
theorem tie_probateref06_reader_lay : compFn Try.prog yK Try.f40 = some A.probateref06_reader_lay.strip := by kernel_rfl
theorem has_probateref06_reader_lay (W0 : World) {Z : Value → AH → Prop} : Has (Ecx (cxZ W0 Z)) K.probateref06_reader_lay A.probateref06_reader_lay := fn_sound Try.checked.mixed rfl (by exact Try.func40) (by kernel_rfl) tie_probateref06_reader_lay
theorem tie_probateref06_Tree_rule : compFn Try.prog yK Try.f44 = some A.probateref06_Tree_rule.strip := by kernel_rfl
theorem has_probateref06_Tree_rule (W0 : World) {Z : Value → AH → Prop} : Has (Ecx (cxZ W0 Z)) K.probateref06_Tree_rule A.probateref06_Tree_rule := fn_sound Try.checked.mixed rfl (by exact Try.func44) (by kernel_rfl) tie_probateref06_Tree_rule
theorem tie_probateref06_quote : compFn Try.prog yK Try.f45 = some A.probateref06_quote.strip := by kernel_rfl
theorem has_probateref06_quote (W0 : World) {Z : Value → AH → Prop} : Has (Ecx (cxZ W0 Z)) K.probateref06_quote A.probateref06_quote := fn_sound Try.checked.mixed rfl (by exact Try.func45) (by kernel_rfl) tie_probateref06_quote
theorem tie_probateref06_reader_atom : compFn Try.prog yK Try.f55 = some A.probateref06_reader_atom.strip := by kernel_rfl
theorem has_probateref06_reader_atom (W0 : World) {Z : Value → AH → Prop} : Has (Ecx (cxZ W0 Z)) K.probateref06_reader_atom A.probateref06_reader_atom := fn_sound Try.checked.mixed rfl (by exact Try.func55) (by kernel_rfl) tie_probateref06_reader_atom
end Go.Proofs.Ytecgbggobecpjaa.Al
namespace Go.Proofs.Ytecgbggobecpjaa.Al
open Go
theorem tie_probateref02_Same : compFn Try.prog yK Try.f22 = some A.probateref02_Same.strip := by kernel_rfl
theorem has_probateref02_Same (W0 : World) {Z : Value → AH → Prop} : Has (Ecx (cxZ W0 Z)) K.probateref02_Same A.probateref02_Same := fn_sound Try.checked.mixed rfl (by exact Try.func22) (by kernel_rfl) tie_probateref02_Same
end Go.Proofs.Ytecgbggobecpjaa.Al
namespace Go.Proofs.Ytecgbggobecpjaa.Al
open Go Go.RowKit
set_option linter.unusedVariables false
theorem lrd (W : World) (Z : Value → AH → Prop) : LRd (cxZ W Z) wrongV := ⟨fun toks en a o rest h Q ob hs ha hZ => fail_ok (has_rules_reader_fail W) toks en a o rest h Q ob hs ha hZ, has_rules_reader_ahead W, has_rules_reader_take W, has_rules_reader_must W, has_rules_reader_name W, has_rules_reader_node W, has_rules_reader_begins W, has_rules_reader_atom W, has_rules_reader_item W, has_rules_reader_one W, has_rules_reader_alternatives W, has_rules_reader_text W⟩
theorem lread (W : World) : LRead (cxOf W) := ⟨ls W, fun toks en h o σ Q r hs hk hT hF => parse_ok W (lrd W) r hs hk hT hF, has_rules_reader_names W, has_rules_Read W⟩
theorem lreadR (W : World) : LReadR (cxOf W) := ⟨⟨has_probateref05_letter W, has_probateref05_part W, has_probateref05_Scan W⟩, ⟨has_probateref06_reader_mark W, has_probateref06_reader_must W, has_probateref06_reader_lay W, has_probateref06_reader_atom W, has_probateref06_reader_items W, has_probateref06_reader_alternatives W⟩, has_probateref06_has W, has_probateref06_Read W⟩
theorem lr6 (W : World) : LR6 (cxOf W) := ⟨⟨has_probateref05_letter W, has_probateref05_part W, has_probateref05_Scan W⟩, has_probateref06_under W, has_probateref06_Right W, has_probateref06_Tree_fine W, has_probateref06_Tree_rule W, has_probateref06_quote W⟩
theorem lsame6 (W : World) : LSame6 (cxOf W) := ⟨has_rules_Same W, has_rules_Same_1 W, has_slices_Equal_Rule W, has_slices_EqualFunc_Node W, has_slices_Equal_int W⟩
theorem l06 (W : World) : L06 (cxOf W) := ⟨lread W, lreadR W, lru W, has_o_rules_Right W, lr6 W, lsame6 W, has_probateref06_Same W, has_probateref02_Same W, has_probatelaw06_Large W, has_probatelaw06_Own W, has_probatelaw06_awake W⟩
theorem law_RulesTells (W : World) {u0 u1 u2 : V} (a0 : Arg Try.prog 9 u0) (a1 : Arg Try.prog 25 u1) (a2 : Arg Try.prog 25 u2) : Ecx (cxOf W) K.probatelaw06_RulesTells [u0, u1, u2] iniH fun r _ => r = .bool true := by
  obtain ⟨s, rfl, hs⟩ := arg_str Try.underlying9 a0
  obtain ⟨t, rfl, ht⟩ := arg_tree a1
  obtain ⟨u, rfl, hu⟩ := arg_tree a2
  exact rules_tells (l06 W) (has_probatelaw06_RulesTells W) s t u ht hu rfl
end Go.Proofs.Ytecgbggobecpjaa.Al
