/-
  Layer 3: the reference's Read, by the abstract layer. Conditions: each theorem's own.
-/
import Derived.Test.YtpnbdnmmfaomlaaGramR2
namespace Go.Proofs.Ytpnbdnmmfaomlaa.Al
open Go Go.RowKit
set_option linter.unusedSimpArgs false
set_option linter.unusedVariables false
attribute [-simp] List.getD_eq_getElem?_getD Int.not_lt Int.not_le List.map_take

/-- Two slices that this call has made, and may append to each without the other one. -/
structure Two (h0 h : AH) (e1 st1 : Nat) (l1 : List V) (e2 st2 : Nat) (l2 : List V) : Prop where
  a : Own h0 h 2 e1 st1 l1
  b : Own h0 h 2 e2 st2 l2
  ba : st1 ≤ 2 ∨ st1 < h.next
  ne : st1 ≤ 2 ∨ ¬ st1 = st2
theorem Two.set {h0 h : AH} {e1 st1 e2 st2 o : Nat} {l1 l2 : List V} (t : Two h0 h e1 st1 l1 e2 st2 l2) (ho : h0.nobj ≤ o) (z : List V) : Two h0 (h.set o z) e1 st1 l1 e2 st2 l2 :=
  ⟨⟨t.a.gr.set ho z, t.a.el, t.a.st⟩, ⟨t.b.gr.set ho z, t.b.el, t.b.st⟩, t.ba, t.ne⟩
theorem Own.set {h0 h : AH} {e e1 st1 o : Nat} {l1 : List V} (t : Own h0 h e e1 st1 l1) (ho : h0.nobj ≤ o) (z : List V) : Own h0 (h.set o z) e e1 st1 l1 := ⟨t.gr.set ho z, t.el, t.st⟩
theorem Own.new {h0 h : AH} {e e1 st1 : Nat} {l1 : List V} (t : Own h0 h e e1 st1 l1) (z : List V) : Own h0 (h.new z) e e1 st1 l1 := ⟨t.gr.new z, t.el, t.st⟩
theorem Own.keep {h0 h : AH} {e e1 st1 st2 : Nat} {l1 : List V} (t : Own h0 h e e1 st1 l1) (gr : Gr h0 (h.push st2 e)) (ba : st1 ≤ 2 ∨ st1 < h.next) (ne : st1 ≤ 2 ∨ ¬ st1 = st2) : Own h0 (h.push st2 e) e e1 st1 l1 := by
  refine ⟨gr, t.el, ?_⟩
  rcases t.st with h1 | h1 | ⟨h1, h2⟩
  · exact .inl h1
  · exact .inr (.inl h1)
  · by_cases hs : st1 ≤ 2
    · have := h0.next
      by_cases h1' : st1 = 1
      · exact .inl h1'
      by_cases h2' : st1 = 2
      · exact .inr (.inl h2')
      refine .inr (.inr ⟨?_, h2⟩)
      rcases ba with ba | ba
      · unfold AH.push
        by_cases hst : st2 ≤ 2
        · rw [if_pos hst]
          by_cases hx : st1 = h.next
          · rw [hx]; exact updN_same _ _ _
          · rw [show (h.grow e).tips st1 = h.tips st1 from updN_ne _ _ hx]; exact h1
        · rw [if_neg hst]
          by_cases hx : st1 = h.next
          · rw [hx]; exact updN_same _ _ _
          · rw [show ((h.drop st2).grow e).tips st1 = (h.drop st2).tips st1 from updN_ne _ _ hx, show (h.drop st2).tips st1 = h.tips st1 from updN_ne _ _ (by omega)]; exact h1
      · unfold AH.push
        by_cases hst : st2 ≤ 2
        · rw [if_pos hst, show (h.grow e).tips st1 = h.tips st1 from updN_ne _ _ (by omega)]; exact h1
        · rw [if_neg hst, show ((h.drop st2).grow e).tips st1 = (h.drop st2).tips st1 from updN_ne _ _ (by show st1 ≠ h.next; omega), show (h.drop st2).tips st1 = h.tips st1 from updN_ne _ _ (by omega)]; exact h1
    · refine .inr (.inr ⟨?_, h2⟩)
      unfold AH.push
      by_cases hst : st2 ≤ 2
      · rw [if_pos hst, show (h.grow e).tips st1 = h.tips st1 from updN_ne _ _ (by omega)]; exact h1
      · rw [if_neg hst, show ((h.drop st2).grow e).tips st1 = (h.drop st2).tips st1 from updN_ne _ _ (by show st1 ≠ h.next; omega), show (h.drop st2).tips st1 = h.tips st1 from updN_ne _ _ (by omega)]; exact h1
section
variable {X : Cx} {h : AH} {Q : V → AH → Prop}
theorem Own.push {h0 h : AH} {e e1 st : Nat} {l : List V} (o : Own h0 h e e1 st l) (m : List V) : Own h0 (h.push st e) e e h.next (l ++ m) := by
  refine ⟨o.gr.push ?_ e, .inr rfl, .inr (.inr ⟨push_new h st e, o.gr.next⟩)⟩
  rcases o.st with h1 | h1 | h1
  · omega
  · omega
  · exact .inr h1.2
/-- An append, with all that is known of the heap. -/
theorem Own.appF {h0 h : AH} {e e1 st : Nat} {l : List V} (o : Own h0 h e e1 st l) {sz e2 : Nat} {m : List V} (hm : m ≠ []) (he : e2 = e) (hb : (l.length + m.length) * sz ≤ 2 ^ 46) {K : V → AH → Prop} {zK : Lz K}
    (hk : Own h0 (h.push st e) e e h.next (l ++ m) → K (.sl e h.next (l ++ m)) (h.push st e)) : App h e sz e1 st l e2 m zK := by
  refine ⟨fun h1 => absurd h1 hm, fun _ => ⟨?_, o.el, he, hb, hk (o.push m)⟩⟩
  rcases o.st with h1 | h1 | h1
  · exact .inl h1
  · exact .inr (.inl h1)
  · exact .inr (.inr h1.1)
theorem Two.app {h0 h : AH} {e1 st1 e2 st2 : Nat} {l1 l2 : List V} (t : Two h0 h e1 st1 l1 e2 st2 l2) {sz e3 : Nat} {m : List V} (hm : m ≠ []) (he : e3 = 2) (hb : (l2.length + m.length) * sz ≤ 2 ^ 46) {K : V → AH → Prop} {zK : Lz K}
    (hk : ∀ st' h', Two h0 h' e1 st1 l1 2 st' (l2 ++ m) → h'.objs = h.objs → h'.nobj = h.nobj → K (.sl 2 st' (l2 ++ m)) h') : App h 2 sz e2 st2 l2 e3 m zK :=
  t.b.appF hm he hb fun o' => hk _ _ ⟨t.a.keep o'.gr t.ba t.ne, o', t.ba.imp id fun h1 => by rw [push_next]; omega, t.ba.imp id fun h1 => by omega⟩ (push_objs _ _ _) (push_nobj _ _ _)
theorem rread3_L1 (L : LQ X) {h0 h : AH} {o2 o o5 o8 n k m : Nat} {t0 t1 t2 left : Int} {vs : List V} {e1 st1 : Nat} {l : List Nat} {e : Int} (hm : m ≤ 8) (rd : RdR l) (hn5 : ¬ o = o5) (hn8 : ¬ o = o8) (hn58 : ¬ o5 = o8) (ho : h0.nobj ≤ o) (ho8 : h0.nobj ≤ o8)
    (b4 : h.objs o = robj l e) (b5 : h.objs o5 = [.int .i64 t0, .int .i64 t1, .int .i64 t2, .sl e1 st1 vs]) (b8 : h.objs o8 = [.int .i64 left, .sl 0 1 []]) (ow : Own h0 h 2 e1 st1 vs) (ba : st1 ≤ 2 ∨ st1 < h.next) {Q : Ex → Env → AH → Prop} {zQ : Lz Q} {z : Lz (AC.loop A.probateref03_Read.L1)}
    (hQ : ∀ h' e2 st2 v, RdR (wlst (stepMap nSym (fun l e => rnumR l e 47)) m l e).2.1 → h'.objs o = robj (wlst (stepMap nSym (fun l e => rnumR l e 47)) m l e).2.1 (wlst (stepMap nSym (fun l e => rnumR l e 47)) m l e).2.2 → h'.objs o5 = [.int .i64 t0, .int .i64 t1, .int .i64 t2, .sl e1 st1 vs] →
      h'.objs o8 = [.int .i64 left, .sl e2 st2 ((wlst (stepMap nSym (fun l e => rnumR l e 47)) m l e).1.map symV)] → Two h0 h' e1 st1 vs e2 st2 ((wlst (stepMap nSym (fun l e => rnumR l e 47)) m l e).1.map symV) → h.nobj ≤ h'.nobj → (∀ q, q < h.nobj → ¬ q = o → ¬ q = o8 → h'.objs q = h.objs q) →
      Q (.exit 2) [(2, .ptr o2 0), (4, .ptr o 0), (5, .ptr o5 0), (6, .int .i64 n), (7, .int .i64 k), (8, .ptr o8 0), (9, .int .i64 m), (10, .int .i64 m), (47, v)] h') :
    acZ (Ecx X) [(2, .ptr o2 0), (4, .ptr o 0), (5, .ptr o5 0), (6, .int .i64 n), (7, .int .i64 k), (8, .ptr o8 0), (9, .int .i64 m), (10, .int .i64 0)] h z zQ := by
  refine loopI (n := m) (fun r env h' => ∃ j us l' e' e2 st2, j ≤ m ∧ r = m - j ∧ env = [(2, .ptr o2 0), (4, .ptr o 0), (5, .ptr o5 0), (6, .int .i64 n), (7, .int .i64 k), (8, .ptr o8 0), (9, .int .i64 m), (10, .int .i64 (j : Nat))] ∧ RdR l' ∧ h'.objs o = robj l' e' ∧ h'.objs o5 = [.int .i64 t0, .int .i64 t1, .int .i64 t2, .sl e1 st1 vs] ∧ h'.objs o8 = [.int .i64 left, .sl e2 st2 (us.map symV)] ∧ Two h0 h' e1 st1 vs e2 st2 (us.map symV) ∧ h.nobj ≤ h'.nobj ∧ (∀ q, q < h.nobj → ¬ q = o → ¬ q = o8 → h'.objs q = h.objs q) ∧ us.length = j ∧
      wlst (stepMap nSym (fun l e => rnumR l e 47)) m l e = (us ++ (wlst (stepMap nSym (fun l e => rnumR l e 47)) (m - j) l' e').1, (wlst (stepMap nSym (fun l e => rnumR l e 47)) (m - j) l' e').2)) ?_
    ⟨0, [], l, e, 0, 1, by omega, by omega, rfl, rd, b4, b5, b8, ⟨ow, ⟨ow.gr, .inl rfl, .inl rfl⟩, ba, if hs : st1 = 1 then .inl (by omega) else .inr hs⟩, Nat.le_refl _, fun _ _ _ _ => rfl, rfl, rfl⟩
  rintro r env h' ⟨_, us, l', e', e2, st2, hj, rfl, rfl, rd', c4, c5, c8, tw, hnb, hso, rfl, hw⟩
  unfold A.probateref03_Read.L1
  by_cases hlt : us.length < m
  · have hlt' : (us.length : Int) < m := by omega
    have hw1 : IntKind.i64.wrap ((us.length : Int) + 1) = ((us.length + 1 : Nat) : Int) := by rw [wrap_i64 (by omega) (by omega)]; rfl
    have hle := rnumR_le (l := l') (e := e') 47
    rw [show m - us.length = (m - (us.length + 1)) + 1 by omega] at hw
    simp only [wlst, stepMap] at hw
    have rd2 := rnumR_rd (e := e') rd' 47
    have tw2 := tw.set ho (robj (rnumR l' e' 47).2.1 (rnumR l' e' 47).2.2)
    have n8' : ¬ o8 = o := fun e => hn8 e.symm
    have n5' : ¬ o5 = o := fun e => hn5 e.symm
    have d4 : (h'.set o (robj (rnumR l' e' 47).2.1 (rnumR l' e' 47).2.2)).objs o = robj (rnumR l' e' 47).2.1 (rnumR l' e' 47).2.2 := set_objs_same _ _ _
    have d5 : (h'.set o (robj (rnumR l' e' 47).2.1 (rnumR l' e' 47).2.2)).objs o5 = [.int .i64 t0, .int .i64 t1, .int .i64 t2, .sl e1 st1 vs] := by rw [set_objs_ne _ _ _ n5']; exact c5
    have d8 : (h'.set o (robj (rnumR l' e' 47).2.1 (rnumR l' e' 47).2.2)).objs o8 = [.int .i64 left, .sl e2 st2 (us.map symV)] := by rw [set_objs_ne _ _ _ n8']; exact c8
    have dn : (h'.set o (robj (rnumR l' e' 47).2.1 (rnumR l' e' 47).2.2)).nobj = h'.nobj := rfl
    have dq : ∀ q, ¬ q = o → (h'.set o (robj (rnumR l' e' 47).2.1 (rnumR l' e' 47).2.2)).objs q = h'.objs q := fun q hq => set_objs_ne _ _ _ hq
    have hsy : V.agg [.bool (decide ((rnumR l' e' 47).1 % 2 = 1)), .int .i64 (((rnumR l' e' 47).1 / 2 : Nat) : Int)] = symV (nSym (rnumR l' e' 47).1) := rfl
    simp [hlt']
    refine ecall (qnum L 47 rd' (by omega) c4 ?_)
    generalize h'.set o (robj (rnumR l' e' 47).2.1 (rnumR l' e' 47).2.2) = h2 at *
    generalize rnumR l' e' 47 = R at *
    obtain ⟨q, l2, e3⟩ := R
    simp only at *
    simp [d8, setAt, V.cells, V.good, fillV, fillL, V.isAgg]
    have hv : V.agg [V.bool (decide ((q : Int).tmod 2 = 1)), V.int .i64 (IntKind.i64.wrap ((q : Int) / 2))] = symV (nSym q) := by
      have a1 : (q : Int).tmod 2 = ((q % 2 : Nat) : Int) := rfl
      have a2 : IntKind.i64.wrap ((q : Int) / 2) = ((q / 2 : Nat) : Int) := by rw [wrap_i64 (by omega) (by omega)]; rfl
      have a3 : decide ((q : Int).tmod 2 = 1) = decide (q % 2 = 1) := by
        rw [a1]
        by_cases c : q % 2 = 1
        · simp [c]
        · have : ¬ ((q % 2 : Nat) : Int) = 1 := by omega
          simp only [c, this]
      rw [a2, a3]; rfl
    rw [hv]
    refine tw2.app (by simp) rfl (by simp; omega) fun st3 h3 tw3 ob3 nb3 => ?_
    have hus2 : us.map symV ++ [symV (nSym q)] = (us ++ [nSym q]).map symV := by simp
    rw [hus2] at tw3 ⊢
    have tw4 := tw3.set ho8 [.int .i64 left, .sl 2 st3 ((us ++ [nSym q]).map symV)]
    have f4 : (h3.set o8 [.int .i64 left, .sl 2 st3 ((us ++ [nSym q]).map symV)]).objs o = robj l2 e3 := by rw [set_objs_ne _ _ _ hn8, ob3]; exact d4
    have f5 : (h3.set o8 [.int .i64 left, .sl 2 st3 ((us ++ [nSym q]).map symV)]).objs o5 = [.int .i64 t0, .int .i64 t1, .int .i64 t2, .sl e1 st1 vs] := by rw [set_objs_ne _ _ _ hn58, ob3]; exact d5
    have f8 : (h3.set o8 [.int .i64 left, .sl 2 st3 ((us ++ [nSym q]).map symV)]).objs o8 = [.int .i64 left, .sl 2 st3 ((us ++ [nSym q]).map symV)] := set_objs_same _ _ _
    have fn : (h3.set o8 [.int .i64 left, .sl 2 st3 ((us ++ [nSym q]).map symV)]).nobj = h3.nobj := rfl
    simp [ob3, d8, setAt, V.cells, V.good, hw1]
    rw [List.map_append, List.map_cons, List.map_nil] at *
    exact ⟨m - (us.length + 1), by omega, iv ⟨us.length + 1, us ++ [nSym q], l2, e3, 2, st3, by omega, rfl, rfl, rd2, f4, f5, by rw [List.map_append]; exact f8, by rw [List.map_append]; exact tw4, by omega, fun q hq h1 h2 => by rw [set_objs_ne _ _ _ h2, ob3, dq q h1]; exact hso q hq h1 h2, by simp, by rw [hw]; simp⟩⟩
  · have hlt' : ¬ (us.length : Int) < m := by omega
    obtain rfl : m = us.length := by omega
    rw [Nat.sub_self] at hw
    simp only [wlst, List.append_nil] at hw
    rw [hw] at hQ
    simp
    exact hQ _ _ _ _ rd' c4 c5 c8 tw hnb hso
/-- Stored productions, of which the wanted ones are what is known. -/
theorem wkOwnE {h0 h : AH} {e1 st : Nat} {vs : List V} {ps : List Pr} (o : Own h0 h 2 e1 st vs) (w : WkE vs (ps.map prV)) : Wk (.sl e1 st vs) (.sl 2 0 (ps.map prV)) := by
  rcases o.el with h1 | rfl
  · subst h1
    cases ps with
    | nil => exact .nil _ _ _
    | cons p ps => cases w
  · exact w.sl fun v hv => by
      simp only [List.mem_map] at hv
      obtain ⟨p, _, rfl⟩ := hv
      rfl
theorem rread3_spec (L : LGR X) (b : List Nat) (hl : b.length ≤ maxLen) (hb : ∀ x ∈ b, x < 256) (hQ : Q (greadV b) h) : Ecx X K.probateref03_Read [.sl 1 0 (u8s b)] h Q := by
  refine fn_walk L.read (by simp [A.probateref03_Read]) fun wf => ?_
  have rd0 : RdR b := ⟨hl, hb⟩
  unfold greadV at hQ
  rw [← readR3_is] at hQ
  unfold readR3 at hQ
  have e1 : grG nmR b 0 = grG nmR b 0 := rfl
  conv at e1 => rhs; simp only [grG, grH, seq2, nmR]
  rw [e1] at hQ
  simp only at hQ
  clear e1
  simp [A.probateref03_Read, fillV, fillL, V.cells, V.good, V.isAgg, setAt]
  refine ecall (qnum (e := 0) L.q 16 rd0 (by omega) (by simp [robj]) ?_)
  have rd1 := rnumR_rd (e := 0) rd0 16
  generalize rnumR b 0 16 = r1 at *
  simp [setAt, V.cells, V.good]
  refine ecall (qnum (e := r1.2.2) L.q 24 rd1 (by omega) (by simp) ?_)
  have rd2 := rnumR_rd (e := r1.2.2) rd1 24
  generalize rnumR r1.2.1 r1.2.2 24 = r2 at *
  simp [setAt, V.cells, V.good]
  refine ecall (qnum (e := r2.2.2) L.q 23 rd2 (by omega) (by simp) ?_)
  have rd3 := rnumR_rd (e := r2.2.2) rd2 23
  generalize rnumR r2.2.1 r2.2.2 23 = r3 at *
  simp [setAt, V.cells, V.good]
  refine ecall (qnum (e := r3.2.2) L.q 60 rd3 (by omega) (by simp) ?_)
  have rd4 := rnumR_rd (e := r3.2.2) rd3 60
  have hle4 := rnumR_le (l := r3.2.1) (e := r3.2.2) 60
  generalize rnumR r3.2.1 r3.2.2 60 = r4 at *
  obtain ⟨t0, l1, x1⟩ := r1
  obtain ⟨t1, l2, x2⟩ := r2
  obtain ⟨t2, l3, x3⟩ := r3
  obtain ⟨n, l4, x4⟩ := r4
  simp [setAt, V.cells, V.good]
  simp only at hQ rd4 hle4
  clear rd1 rd2 rd3 l1 l2 l3 x1 x2 x3
  have gr0 : Gr h (((h.new [.int .i64 0, .int .i64 0, .int .i64 0, .sl 0 1 []]).new (robj l4 x4)).new [.int .i64 t0, .int .i64 t1, .int .i64 t2, .sl 0 1 []]) := (((Gr.refl h).new _).new _).new _
  have oa : (((h.new [.int .i64 0, .int .i64 0, .int .i64 0, .sl 0 1 []]).new (robj l4 x4)).new [.int .i64 t0, .int .i64 t1, .int .i64 t2, .sl 0 1 []]).objs h.nobj = [.int .i64 0, .int .i64 0, .int .i64 0, .sl 0 1 []] := by simp
  have ob : (((h.new [.int .i64 0, .int .i64 0, .int .i64 0, .sl 0 1 []]).new (robj l4 x4)).new [.int .i64 t0, .int .i64 t1, .int .i64 t2, .sl 0 1 []]).objs (h.nobj + 1) = robj l4 x4 := by simp
  have oc : (((h.new [.int .i64 0, .int .i64 0, .int .i64 0, .sl 0 1 []]).new (robj l4 x4)).new [.int .i64 t0, .int .i64 t1, .int .i64 t2, .sl 0 1 []]).objs (h.nobj + 2) = [.int .i64 t0, .int .i64 t1, .int .i64 t2, .sl 0 1 []] := by simp
  have on : (((h.new [.int .i64 0, .int .i64 0, .int .i64 0, .sl 0 1 []]).new (robj l4 x4)).new [.int .i64 t0, .int .i64 t1, .int .i64 t2, .sl 0 1 []]).nobj = h.nobj + 3 := by simp
  generalize ((h.new [.int .i64 0, .int .i64 0, .int .i64 0, .sl 0 1 []]).new (robj l4 x4)).new [.int .i64 t0, .int .i64 t1, .int .i64 t2, .sl 0 1 []] = h3 at *
  generalize hR : rlist (prG nmR) n l4 x4 = R at hQ
  refine loopI (n := n) (fun r env h' => ∃ ps vs e1 st1 l' e', ps.length ≤ n ∧ r = n - ps.length ∧ env = [(2, .ptr h.nobj 0), (4, .ptr (h.nobj + 1) 0), (5, .ptr (h.nobj + 2) 0), (6, .int .i64 n), (7, .int .i64 (ps.length : Nat))] ∧ RdR l' ∧ h'.objs h.nobj = [.int .i64 0, .int .i64 0, .int .i64 0, .sl 0 1 []] ∧ h'.objs (h.nobj + 1) = robj l' e' ∧ h'.objs (h.nobj + 2) = [.int .i64 t0, .int .i64 t1, .int .i64 t2, .sl e1 st1 vs] ∧
      Own h h' 2 e1 st1 vs ∧ (st1 ≤ 2 ∨ st1 < h'.next) ∧ WkE vs (ps.map prV) ∧ h.nobj + 3 ≤ h'.nobj ∧ (ps ++ (rlist (prG nmR) (n - ps.length) l' e').1, (rlist (prG nmR) (n - ps.length) l' e').2) = R) ?_
    ⟨[], [], 0, 1, l4, x4, by simp, by simp, rfl, rd4, oa, ob, oc, ⟨gr0, .inl rfl, .inl rfl⟩, .inl (by omega), .nil, by omega, hR⟩
  rintro r env h' ⟨ps, vs, e1, st1, l', e', hj, rfl, rfl, rd', ca, cb, cc, ow, ba, hvs, hnb, hw⟩
  have hvl : vs.length = ps.length := by have := hvs.cells.1; simpa using this
  have stop : (e' ≠ 0 ∨ ps.length = n) → R = (ps, l', e') := by
    intro e0
    rw [← hw]
    rcases e0 with e0 | e0
    · rw [rlist_e e0]; simp
    · rw [e0, Nat.sub_self]; simp [rlist]
  unfold A.probateref03_Read.L0
  by_cases hgo : ps.length < n ∧ e' = 0
  · obtain ⟨hlt, rfl⟩ := hgo
    have hlt' : (ps.length : Int) < n := by omega
    have hw1 : IntKind.i64.wrap ((ps.length : Int) + 1) = ((ps.length + 1 : Nat) : Int) := by rw [wrap_i64 (by omega) (by omega)]; rfl
    rw [show n - ps.length = (n - (ps.length + 1)) + 1 by omega, rlist_succ0] at hw
    have n1 : ¬ h.nobj + 1 = h'.nobj := by omega
    have n2 : ¬ h'.nobj = h.nobj + 1 := by omega
    have rd1 := rnumR_rd (e := 0) rd' 23
    have rd2 := rnumR_rd (e := (rnumR l' 0 23).2.2) rd1 8
    have hle := rnumR_le (l := (rnumR l' 0 23).2.1) (e := (rnumR l' 0 23).2.2) 8
    simp only [prG, nmR] at hw
    rw [show nmR 47 = (fun l e => rnumR l e 47) from rfl] at hw
    simp [hlt', cb, robj, fillV, setAt, V.cells, V.good]
    refine ecall (qnum (e := 0) L.q 23 rd' (by omega) (by simp [n1, cb]) ?_)
    simp [setAt, V.cells, V.good, n1, n2]
    refine ecall (qnum (e := (rnumR l' 0 23).2.2) L.q 8 rd1 (by omega) (by simp [n1, n2]) ?_)
    generalize rnumR l' 0 23 = r1 at *
    generalize rnumR r1.2.1 r1.2.2 8 = r2 at *
    simp
    have gA : ∀ z1 z2 z3, Gr h (((h'.set (h.nobj + 1) z1).new z2).set (h.nobj + 1) z3) := fun z1 z2 z3 => ((ow.gr.set (by omega) _).new _).set (by omega) _
    have owA : ∀ z1 z2 z3, Own h (((h'.set (h.nobj + 1) z1).new z2).set (h.nobj + 1) z3) 2 e1 st1 vs := fun z1 z2 z3 => ((ow.set (by omega) _).new _).set (by omega) _
    have dA : ∀ z1 z2 z3, (((h'.set (h.nobj + 1) z1).new z2).set (h.nobj + 1) z3).objs h.nobj = [.int .i64 0, .int .i64 0, .int .i64 0, .sl 0 1 []] := fun z1 z2 z3 => by
      rw [set_objs_ne _ _ _ (by omega), new_objs_ne _ _ (by simp; omega), set_objs_ne _ _ _ (by omega)]; exact ca
    have dB : ∀ z1 z2 z3, (((h'.set (h.nobj + 1) z1).new z2).set (h.nobj + 1) z3).objs (h.nobj + 1) = z3 := fun z1 z2 z3 => set_objs_same _ _ _
    have dC : ∀ z1 z2 z3, (((h'.set (h.nobj + 1) z1).new z2).set (h.nobj + 1) z3).objs (h.nobj + 2) = [.int .i64 t0, .int .i64 t1, .int .i64 t2, .sl e1 st1 vs] := fun z1 z2 z3 => by
      rw [set_objs_ne _ _ _ (by omega), new_objs_ne _ _ (by simp; omega), set_objs_ne _ _ _ (by omega)]; exact cc
    have dD : ∀ z1 z2 z3, (((h'.set (h.nobj + 1) z1).new z2).set (h.nobj + 1) z3).objs h'.nobj = z2 := fun z1 z2 z3 => by
      rw [set_objs_ne _ _ _ (by omega)]; exact new_objs_same _ _
    have dN : ∀ z1 z2 z3, (((h'.set (h.nobj + 1) z1).new z2).set (h.nobj + 1) z3).nobj = h'.nobj + 1 := fun z1 z2 z3 => by simp
    have dS : ∀ z1 z2 z3, (((h'.set (h.nobj + 1) z1).new z2).set (h.nobj + 1) z3).next = h'.next := fun z1 z2 z3 => rfl
    replace gA := gA (robj r1.2.1 r1.2.2) [.int .i64 r1.1, .sl 0 1 []] (robj r2.2.1 r2.2.2)
    replace owA := owA (robj r1.2.1 r1.2.2) [.int .i64 r1.1, .sl 0 1 []] (robj r2.2.1 r2.2.2)
    replace dA := dA (robj r1.2.1 r1.2.2) [.int .i64 r1.1, .sl 0 1 []] (robj r2.2.1 r2.2.2)
    replace dB := dB (robj r1.2.1 r1.2.2) [.int .i64 r1.1, .sl 0 1 []] (robj r2.2.1 r2.2.2)
    replace dC := dC (robj r1.2.1 r1.2.2) [.int .i64 r1.1, .sl 0 1 []] (robj r2.2.1 r2.2.2)
    replace dD := dD (robj r1.2.1 r1.2.2) [.int .i64 r1.1, .sl 0 1 []] (robj r2.2.1 r2.2.2)
    replace dN := dN (robj r1.2.1 r1.2.2) [.int .i64 r1.1, .sl 0 1 []] (robj r2.2.1 r2.2.2)
    replace dS := dS (robj r1.2.1 r1.2.2) [.int .i64 r1.1, .sl 0 1 []] (robj r2.2.1 r2.2.2)
    generalize ((h'.set (h.nobj + 1) (robj r1.2.1 r1.2.2)).new [.int .i64 r1.1, .sl 0 1 []]).set (h.nobj + 1) (robj r2.2.1 r2.2.2) = hA at *
    refine rread3_L1 L.q (h0 := h) hle rd2 (by omega) (by omega) (by omega) (by omega) (by have := ow.gr.nobj; omega) dB dC dD owA (by rw [dS]; exact ba) fun hB e2 st2 v rdB eB eC eD tw nB hso => ?_
    generalize wlst (stepMap nSym (fun l e => rnumR l e 47)) r2.1 r2.2.1 r2.2.2 = W at *
    have eA : hB.objs h.nobj = [.int .i64 0, .int .i64 0, .int .i64 0, .sl 0 1 []] := by rw [hso _ (by omega) (by omega) (by omega)]; exact dA
    have hcl : ∀ v ∈ W.1.map symV, v.good = true := fun v hv => by simp only [List.mem_map] at hv; obtain ⟨s, _, rfl⟩ := hv; rfl
    simp [eC, eD, setAt, V.cells, V.good, fillL, V.isAgg]
    refine tw.a.appF (by simp) rfl (by simp; omega) fun o6 => ?_
    have hvs2 : WkE (vs ++ [.agg [.int .i64 r1.1, .sl e2 st2 (W.1.map symV)]]) ((ps ++ [(⟨((r1.1 : Nat) : Int), W.1⟩ : Pr)]).map prV) := by
      rw [List.map_append]
      exact hvs.append (.cons (.cons (.same _) (.cons tw.b.wk .nil)) .nil)
    have o7 := o6.set (o := h.nobj + 2) (by omega) [.int .i64 t0, .int .i64 t1, .int .i64 t2, .sl 2 hB.next (vs ++ [.agg [.int .i64 r1.1, .sl e2 st2 (W.1.map symV)]])]
    simp [push_objs, eC, setAt, V.cells, V.good, hw1]
    exact ⟨n - (ps.length + 1), by omega, iv ⟨ps ++ [(⟨((r1.1 : Nat) : Int), W.1⟩ : Pr)], vs ++ [.agg [.int .i64 r1.1, .sl e2 st2 (W.1.map symV)]], 2, hB.next, W.2.1, W.2.2, by simp; omega, by simp, by simp, rdB, by rw [set_objs_ne _ _ _ (by omega), push_objs]; exact eA, by rw [set_objs_ne _ _ _ (by omega), push_objs]; exact eB, set_objs_same _ _ _, o7, .inr (by show hB.next < (hB.push st1 2).next; rw [push_next]; omega), hvs2, by show h.nobj + 3 ≤ (hB.push st1 2).nobj; rw [push_nobj]; omega, by rw [← hw]; simp⟩⟩
  · have hRp := stop (if he : e' = 0 then .inr (by have := fun hh => hgo ⟨hh, he⟩; omega) else .inl he)
    subst hRp
    simp only at hQ
    have hc : (e' = 0 ∧ ¬ (ps.length : Int) < n) ∨ (e' ≠ 0 ∧ (ps.length : Int) < n) ∨ (e' ≠ 0 ∧ ¬ (ps.length : Int) < n) := by
      by_cases he : e' = 0
      · exact .inl ⟨he, fun hh => hgo ⟨by omega, he⟩⟩
      · by_cases hl : (ps.length : Int) < n
        · exact .inr (.inl ⟨he, hl⟩)
        · exact .inr (.inr ⟨he, hl⟩)
    have hgr : ∀ z, Gr h (h'.set h.nobj z) := fun z => ow.gr.set (by omega) z
    have hzg : gmV zeroG = .agg [.int .i64 0, .int .i64 0, .int .i64 0, .sl 2 0 []] := rfl
    have hg5 : V.agg [V.int .i64 t0, .int .i64 t1, .int .i64 t2, .sl 2 0 (ps.map prV)] = gmV ⟨t0, t1, t2, ps⟩ := rfl
    have hwk := wkOwnE ow hvs
    rcases hc with ⟨he, hlt'⟩ | ⟨he, hlt'⟩ | ⟨he, hlt'⟩
    · simp [hlt']
      refine ecall (qend (e := e') L.q cb ?_)
      by_cases hr : rend (absR (l', e')).1 (absR (l', e')).2 = 0
      · rw [if_neg (by simp [hr])] at hQ
        simp [hr, cc]
        refine ecall (Ecx.wkL (.cons (Wk.a4 hwk _ _ _) .nil) (rright3_spec L.right ⟨t0, t1, t2, ps⟩ ?_))
        cases hg : rightG ⟨t0, t1, t2, ps⟩ with
        | false =>
          rw [hg] at hQ
          simp at hQ
          simp [ca, setAt, V.cells, V.good, fillV]
          exact fin_wk (hgr _) (Wk.t2 (Wk.a4 (.nil _ 2 _) _ _ _) _) (by simp) hQ
        | true =>
          rw [hg] at hQ
          simp at hQ
          simp [ca, cc, setAt, V.cells, V.good, fillV]
          exact fin_wk (hgr _) (Wk.t2 (Wk.a4 hwk _ _ _) _) (by simpa using encP.cells _ _ _) hQ
      · rw [if_pos hr] at hQ
        simp [hr, fillV, ca, setAt, V.cells, V.good]
        refine ecall (qend (e := e') L.q cb ?_)
        simp [ca, setAt, V.cells, V.good]
        exact fin_wk (hgr _) (Wk.t2 (Wk.a4 (.nil _ 2 _) _ _ _) _) (by simp) hQ
    · simp [hlt', cb, robj, he]
      refine ecall (qend (e := e') L.q cb ?_)
      by_cases hr : rend (absR (l', e')).1 (absR (l', e')).2 = 0
      · rw [if_neg (by simp [hr])] at hQ
        simp [hr, cc]
        refine ecall (Ecx.wkL (.cons (Wk.a4 hwk _ _ _) .nil) (rright3_spec L.right ⟨t0, t1, t2, ps⟩ ?_))
        cases hg : rightG ⟨t0, t1, t2, ps⟩ with
        | false =>
          rw [hg] at hQ
          simp at hQ
          simp [ca, setAt, V.cells, V.good, fillV]
          exact fin_wk (hgr _) (Wk.t2 (Wk.a4 (.nil _ 2 _) _ _ _) _) (by simp) hQ
        | true =>
          rw [hg] at hQ
          simp at hQ
          simp [ca, cc, setAt, V.cells, V.good, fillV]
          exact fin_wk (hgr _) (Wk.t2 (Wk.a4 hwk _ _ _) _) (by simpa using encP.cells _ _ _) hQ
      · rw [if_pos hr] at hQ
        simp [hr, fillV, ca, setAt, V.cells, V.good]
        refine ecall (qend (e := e') L.q cb ?_)
        simp [ca, setAt, V.cells, V.good]
        exact fin_wk (hgr _) (Wk.t2 (Wk.a4 (.nil _ 2 _) _ _ _) _) (by simp) hQ
    · simp [hlt']
      refine ecall (qend (e := e') L.q cb ?_)
      by_cases hr : rend (absR (l', e')).1 (absR (l', e')).2 = 0
      · rw [if_neg (by simp [hr])] at hQ
        simp [hr, cc]
        refine ecall (Ecx.wkL (.cons (Wk.a4 hwk _ _ _) .nil) (rright3_spec L.right ⟨t0, t1, t2, ps⟩ ?_))
        cases hg : rightG ⟨t0, t1, t2, ps⟩ with
        | false =>
          rw [hg] at hQ
          simp at hQ
          simp [ca, setAt, V.cells, V.good, fillV]
          exact fin_wk (hgr _) (Wk.t2 (Wk.a4 (.nil _ 2 _) _ _ _) _) (by simp) hQ
        | true =>
          rw [hg] at hQ
          simp at hQ
          simp [ca, cc, setAt, V.cells, V.good, fillV]
          exact fin_wk (hgr _) (Wk.t2 (Wk.a4 hwk _ _ _) _) (by simpa using encP.cells _ _ _) hQ
      · rw [if_pos hr] at hQ
        simp [hr, fillV, ca, setAt, V.cells, V.good]
        refine ecall (qend (e := e') L.q cb ?_)
        simp [ca, setAt, V.cells, V.good]
        exact fin_wk (hgr _) (Wk.t2 (Wk.a4 (.nil _ 2 _) _ _ _) _) (by simp) hQ
end
end Go.Proofs.Ytpnbdnmmfaomlaa.Al
