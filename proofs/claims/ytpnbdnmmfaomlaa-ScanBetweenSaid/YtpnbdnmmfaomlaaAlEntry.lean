/-
  The abstract layer, part 12: arguments that can be read as data, as abstract values. Conditions: their types are built of numbers, bools, strings, slices and structs.
-/
import Derived.Test.YtpnbdnmmfaomlaaAlProg
import Derived.ProofKit
namespace Go.Proofs.Ytpnbdnmmfaomlaa.Al
open Go Go.RowKit
set_option linter.unusedSimpArgs false
set_option linter.unusedVariables false

def iniH : AH := ⟨fun _ => [], 0, fun _ => none, 3⟩
def iniG (W : World) : Gh := ⟨fun _ => 0, fun _ => 0, fun b => match W.heap[b]? with
  | some (.cells cs _ _) => cs.size
  | _ => 0⟩

section
variable {X : Cx}
theorem iniInv : Inv X (iniG X.W0) X.W0 iniH where
  below := Below.refl _ _
  next := Nat.le_refl _
  objs o h := by simp [iniH] at h
  objB o h := by simp [iniH] at h
  objI o o' h := by simp [iniH] at h
  tipB s e h := by simp [iniH] at h
  tipI s e s' e' h := by simp [iniH] at h
  tipO o s e h := by simp [iniH] at h
  pubB b hb := by
    simp only [iniG]
    rw [Array.getElem?_eq_none hb]

def tiles (P : Program) : List Field → Nat → Option Nat
  | [], k => some k
  | f :: r, k => if f.offset = k then tiles P r (k + P.cellsOf f.type) else none
def okTy (P : Program) : Nat → TypeId → Bool
  | 0, _ => false
  | n + 1, t => match P.underlying t with
    | some .bool | some (.int _) | some .string => decide (P.cellsOf t = 1)
    | some (.slice e) => decide (P.cellsOf t = 1) && okTy P n e && decide (0 < P.cellsOf e)
    | some (.struct fs) => (match tiles P fs.toList 0 with | some k => decide (k = P.cellsOf t) | none => false) && fs.toList.all fun f => okTy P n f.type
    | _ => false

mutual
/-- Cells that are of a type. -/
inductive Ty (P : Program) : TypeId → List V → Prop
  | bool {t : TypeId} (h : P.underlying t = some .bool) (b : Bool) : Ty P t [.bool b]
  | int {t : TypeId} {k : IntKind} (h : P.underlying t = some (.int k)) (n : Int) (h1 : k.min ≤ n) (h2 : n ≤ k.max) : Ty P t [.int k n]
  | str {t : TypeId} (h : P.underlying t = some .string) (s : List UInt8) (h1 : s.length ≤ maxLen) : Ty P t [.str s]
  | sl {t e : TypeId} (h : P.underlying t = some (.slice e)) (l : List V) (h1 : l.length ≤ maxLen) (h2 : ∀ v ∈ l, Ty P e v.cells) (h3 : ∀ v ∈ l, tyAgg P e = some v.isAgg) : Ty P t [.sl (P.cellsOf e) 0 l]
  | struct {t : TypeId} {fs : Array Field} (h : P.underlying t = some (.struct fs)) (l : List V) (h1 : Tys P fs.toList l) : Ty P t l
inductive Tys (P : Program) : List Field → List V → Prop
  | nil : Tys P [] []
  | cons (f : Field) (r : List Field) (a b : List V) (ha : Ty P f.type a) (hb : Tys P r b) : Tys P (f :: r) (a ++ b)
end

theorem mapM_get {α β : Type} {f : α → Option β} : ∀ {l : List α} {ys : List β}, l.mapM f = some ys → ys.length = l.length ∧ ∀ i (h1 : i < l.length) (h2 : i < ys.length), f l[i] = some ys[i]
  | [], ys, e => by simp at e; subst e; simp
  | x :: l, ys, e => by
    simp only [List.mapM_cons, Option.bind_eq_bind, Option.pure_def] at e
    cases hx : f x with
    | none => simp [hx] at e
    | some y =>
      cases hl : l.mapM f with
      | none => simp [hx, hl] at e
      | some zs =>
        simp [hx, hl] at e
        subst e
        obtain ⟨k1, k2⟩ := mapM_get hl
        refine ⟨by simp [k1], fun i i1 i2 => ?_⟩
        cases i with
        | zero => exact hx
        | succ i => exact k2 i (by simpa using i1) (by simpa using i2)

theorem cells?_get {w : World} {a : Addr} {n : Nat} {cs : List Value} (h : w.cells? 0 a n = some cs) : cs.length = n ∧ ∀ i (h1 : i < cs.length), w.cell? (a.add i) = some cs[i] := by
  unfold World.cells? at h
  rw [if_pos (Nat.zero_le _)] at h
  obtain ⟨k1, k2⟩ := mapM_get h
  refine ⟨by simpa using k1, fun i h1 => ?_⟩
  have := k2 i (by rw [← k1]; exact h1) h1
  simpa using this
theorem cell?_pub {w : World} {a : Addr} {v : Value} (h : w.cell? a = some v) : a.spot = none ∧ a.off < (iniG w).pub a.block := by
  unfold World.cell? at h
  split at h
  · rename_i c e f hb
    cases hs : a.spot with
    | some _ => simp [hs] at h
    | none =>
      simp only [hs, Option.isSome_none, Bool.false_eq_true, if_false] at h
      refine ⟨rfl, ?_⟩
      simp only [iniG, hb]
      exact (Array.getElem?_eq_some_iff.1 h).1
  · simp at h

/-- Cells, and what they are. -/
def RelC (X : Cx) (g : Gh) (w : World) (h : AH) (l : List V) (cs : List Value) : Prop :=
  l.length = cs.length ∧ (∀ i (h2 : i < cs.length), (cs[i]).oneCell' = true) ∧ ∀ i (h1 : i < l.length) (h2 : i < cs.length), Rel X g w h (l[i]) (cs[i])
theorem RelC.one {g : Gh} {w : World} {h : AH} {v : V} {c : Value} (r : Rel X g w h v c) (o : c.oneCell' = true) : RelC X g w h [v] [c] :=
  ⟨rfl, fun i h2 => by simp at h2; subst h2; exact o, fun i h1 h2 => by simp at h1; subst h1; exact r⟩
theorem RelC.append {g : Gh} {w : World} {h : AH} {l m : List V} {cs ds : List Value} (r : RelC X g w h l cs) (s : RelC X g w h m ds) : RelC X g w h (l ++ m) (cs ++ ds) := by
  obtain ⟨r1, r2, r3⟩ := r
  obtain ⟨s1, s2, s3⟩ := s
  refine ⟨by simp [r1, s1], fun i h2 => ?_, fun i h1 h2 => ?_⟩
  · rw [List.getElem_append]
    split
    · exact r2 _ _
    · exact s2 _ _
  · by_cases c : i < l.length
    · rw [List.getElem_append_left c, List.getElem_append_left (by omega)]; exact r3 _ _ _
    · rw [List.getElem_append_right (by omega), List.getElem_append_right (by omega)]
      simp only [r1]; exact s3 _ _ _

theorem trod_rel {H : Type} {enc : TypeId × Value → H} (W : World) (hW : X.W0 = W) : ∀ (fuel n : Nat) (t : TypeId) (cs : List Value) (d : DataW H) (ps : List MemPlace), okTy X.P n t = true →
    DataW.trod enc X.P W 0 (fun _ => true) true fuel t cs = some (d, ps) → ∃ l, RelC X (iniG W) W iniH l cs ∧ Ty X.P t l
  | 0, _, _, _, _, _, _, h => by simp [DataW.trod] at h
  | _ + 1, 0, _, _, _, _, ho, _ => by simp [okTy] at ho
  | fuel + 1, n + 1, t, cs, d, ps, ho, h => by
    unfold okTy at ho
    unfold DataW.trod at h
    cases hu : X.P.underlying t with
    | none => simp [hu] at ho
    | some dd =>
      rw [hu] at ho h
      cases dd <;> simp only at ho h <;> first | (simp at ho; done) | skip
      case bool =>
        rcases cs with _ | ⟨c, _ | ⟨c2, r⟩⟩ <;> try (simp at h; done)
        cases c <;> simp at h
        exact ⟨[.bool _], RelC.one (.bool _) rfl, .bool hu _⟩
      case int k =>
        rcases cs with _ | ⟨c, _ | ⟨c2, r⟩⟩ <;> try (simp at h; done)
        cases c <;> simp at h
        rename_i k' m
        obtain ⟨⟨rfl, hw⟩, _⟩ := h
        simp [Lit.wf] at hw
        exact ⟨[.int k' m], RelC.one (.int _ _) rfl, .int hu m hw.1 hw.2⟩
      case string =>
        rcases cs with _ | ⟨c, _ | ⟨c2, r⟩⟩ <;> try (simp at h; done)
        cases c <;> simp at h
        rename_i s
        exact ⟨[.str s.data.toList], RelC.one (.str _) rfl, .str hu _ (by rw [Array.length_toList]; exact h.1)⟩
      case slice e =>
        simp only [Bool.and_eq_true, decide_eq_true_eq] at ho
        obtain ⟨⟨ho1, ho2⟩, ho3⟩ := ho
        rcases cs with _ | ⟨c, _ | ⟨c2, r⟩⟩ <;> try (simp at h; done)
        · cases c <;> try (simp at h; done)
          rename_i a len cap
          cases a with
          | none =>
            rcases len with _ | len <;> rcases cap with _ | cap <;> simp at h
            · exact ⟨[.sl (X.P.cellsOf e) 0 []], RelC.one (.slnil _ 0 (by omega)) rfl, .sl hu [] (by simp) (by simp) (by simp)⟩
          | some a =>
            simp only [if_true] at h
            split at h
            · rename_i hb
              obtain ⟨_, hlc, hcm⟩ := hb
              cases h1 : (List.range len).mapM (fun i => (W.cells? 0 (a.add (i * X.P.cellsOf e)) (X.P.cellsOf e)).bind (DataW.trod enc X.P W 0 (fun _ => true) true fuel e)) with
              | none => simp [h1] at h
              | some ys =>
                cases h2 : (List.range (cap - len)).mapM (fun j => (W.cells? 0 (a.add ((len + j) * X.P.cellsOf e)) (X.P.cellsOf e)).bind (DataW.trod enc X.P W 0 (fun _ => true) true fuel e)) with
                | none => simp [h1, h2] at h
                | some zs =>
                  obtain ⟨m1, m2⟩ := mapM_get h1
                  obtain ⟨m3, m4⟩ := mapM_get h2
                  simp at m1 m3
                  have hcell0 : 0 < cap → ∃ v, W.cell? a = some v := fun hc => by
                    by_cases hl : 0 < len
                    · have := m2 0 (by simpa using hl) (by omega)
                      simp only [List.getElem_range, Nat.zero_mul, Addr.add_zero'] at this
                      cases hq : W.cells? 0 a (X.P.cellsOf e) with
                      | none => rw [hq] at this; simp at this
                      | some c =>
                        obtain ⟨q1, q2⟩ := cells?_get hq
                        have := q2 0 (by omega)
                        rw [Addr.add_zero'] at this
                        exact ⟨_, this⟩
                    · have hl0 : len = 0 := by omega
                      have := m4 0 (by simp; omega) (by omega)
                      simp only [List.getElem_range, hl0, Nat.zero_add, Nat.zero_mul, Addr.add_zero'] at this
                      cases hq : W.cells? 0 a (X.P.cellsOf e) with
                      | none => rw [hq] at this; simp at this
                      | some c =>
                        obtain ⟨q1, q2⟩ := cells?_get hq
                        have := q2 0 (by omega)
                        rw [Addr.add_zero'] at this
                        exact ⟨_, this⟩
                  by_cases hc0 : cap = 0
                  · have hl0 : len = 0 := by omega
                    subst hc0; subst hl0
                    exact ⟨[.sl (X.P.cellsOf e) 0 []], RelC.one (.slemp _ _) rfl, .sl hu [] (by simp) (by simp) (by simp)⟩
                  · obtain ⟨v0, hv0⟩ := hcell0 (by omega)
                    obtain ⟨hsp, hoff⟩ := cell?_pub hv0
                    obtain ⟨b, off, spot⟩ := a
                    simp only at hsp hoff
                    subst hsp
                    -- each element's cells
                    have hel : ∀ i : Nat, ∃ u : V, i < len → u.cells.length = X.P.cellsOf e ∧ tyAgg X.P e = some u.isAgg ∧ Ty X.P e u.cells ∧
                        ∀ c, c < X.P.cellsOf e → ∃ y, W.cell? ⟨b, off + (i * X.P.cellsOf e + c), none⟩ = some y ∧ y.oneCell' = true ∧ ∀ hc : c < u.cells.length, Rel X (iniG W) W iniH (u.cells[c]) y := by
                      intro i
                      by_cases hi : i < len
                      · have := m2 i (by simpa using hi) (by omega)
                        simp only [List.getElem_range, Addr.add_lit] at this
                        cases hq : W.cells? 0 ⟨b, off + i * X.P.cellsOf e, none⟩ (X.P.cellsOf e) with
                        | none => rw [hq] at this; simp at this
                        | some c =>
                          rw [hq] at this
                          simp only [Option.bind_some] at this
                          obtain ⟨q1, q2⟩ := cells?_get hq
                          obtain ⟨l, ⟨l1, l2, l3⟩, lt⟩ := trod_rel W hW fuel n e c _ _ ho2 this
                          have hcells : ∀ cc, cc < X.P.cellsOf e → ∃ y, W.cell? ⟨b, off + (i * X.P.cellsOf e + cc), none⟩ = some y ∧ y.oneCell' = true ∧ ∀ hc : cc < l.length, Rel X (iniG W) W iniH (l[cc]) y := fun cc hcc => by
                            have hc2 : cc < c.length := by omega
                            have := q2 cc hc2
                            rw [Addr.add_lit, Nat.add_assoc] at this
                            exact ⟨c[cc], this, l2 cc hc2, fun hc => l3 cc hc hc2⟩
                          cases hag : tyAgg X.P e with
                          | none =>
                            exfalso
                            have : okTy X.P n e = true := ho2
                            cases n with
                            | zero => simp [okTy] at this
                            | succ n =>
                              unfold okTy at this
                              unfold tyAgg at hag
                              cases hue : X.P.underlying e with
                              | none => simp [hue] at this
                              | some de => cases de <;> simp [hue] at hag
                          | some bb =>
                            cases bb with
                            | true => exact ⟨.agg l, fun _ => ⟨by show l.length = _; omega, rfl, lt, hcells⟩⟩
                            | false =>
                              have hone : X.P.cellsOf e = 1 := by
                                have : okTy X.P n e = true := ho2
                                cases n with
                                | zero => simp [okTy] at this
                                | succ n =>
                                  unfold okTy at this
                                  unfold tyAgg at hag
                                  cases hue : X.P.underlying e with
                                  | none => simp [hue] at this
                                  | some de => cases de <;> simp [hue] at hag this <;> simp_all
                              obtain ⟨u, rfl⟩ : ∃ u, l = [u] := List.length_eq_one_iff.1 (by omega)
                              have hleaf : u.cells = [u] ∧ u.isAgg = false := by
                                cases lt with
                                | struct hs _ _ => unfold tyAgg at hag; simp [hs] at hag
                                | _ => exact ⟨rfl, rfl⟩
                              exact ⟨u, fun _ => ⟨by rw [hleaf.1, hone]; rfl, by rw [hleaf.2], by rw [hleaf.1]; exact lt, by rw [hleaf.1]; exact hcells⟩⟩
                      · exact ⟨.undef, fun h => absurd h hi⟩
                    obtain ⟨u, hu2⟩ := Classical.skolem.1 hel
                    have hmem : ∀ v ∈ (List.range len).map u, ∃ i, i < len ∧ v = u i := fun v hv => by
                      simp at hv; obtain ⟨i, hi, rfl⟩ := hv; exact ⟨i, hi, rfl⟩
                    have hce : ∀ v ∈ (List.range len).map u, v.cells.length = X.P.cellsOf e := fun v hv => by
                      obtain ⟨i, hi, rfl⟩ := hmem v hv; exact (hu2 i hi).1
                    have hF := cellsOf_length hce
                    simp only [List.length_map, List.length_range] at hF
                    have hcellF : ∀ i (hi : i < (cellsOf ((List.range len).map u)).length), ∃ y, W.cell? ⟨b, off + i, none⟩ = some y ∧ y.oneCell' = true ∧ Rel X (iniG W) W iniH ((cellsOf ((List.range len).map u))[i]) y := by
                      intro i hi
                      have hi' : i < len * X.P.cellsOf e := by omega
                      have hq : i / X.P.cellsOf e < len := Nat.div_lt_of_lt_mul (by rw [Nat.mul_comm]; exact hi')
                      have hcm2 : i % X.P.cellsOf e < X.P.cellsOf e := Nat.mod_lt _ ho3
                      have hdm : i / X.P.cellsOf e * X.P.cellsOf e + i % X.P.cellsOf e = i := by rw [Nat.mul_comm]; exact Nat.div_add_mod i _
                      have a1 := cellsOf_getElem hce (i / X.P.cellsOf e) (by simpa using hq) (i % X.P.cellsOf e) hcm2
                      rw [hdm] at a1
                      simp only [List.getElem_map, List.getElem_range] at a1
                      obtain ⟨k1, k2, k3, k4⟩ := hu2 _ hq
                      obtain ⟨y, y1, y2, y3⟩ := k4 _ hcm2
                      rw [hdm] at y1
                      refine ⟨y, y1, y2, ?_⟩
                      have hlt : i % X.P.cellsOf e < (u (i / X.P.cellsOf e)).cells.length := by rw [k1]; exact hcm2
                      rw [List.getElem?_eq_getElem hi, List.getElem?_eq_getElem hlt] at a1
                      rw [Option.some.inj a1]; exact y3 hlt
                    have hpub : off + (cellsOf ((List.range len).map u)).length ≤ (iniG W).pub b := by
                      by_cases hz : (cellsOf ((List.range len).map u)).length = 0
                      · omega
                      · obtain ⟨y, y1, _, _⟩ := hcellF ((cellsOf ((List.range len).map u)).length - 1) (by omega)
                        have := (cell?_pub y1).2
                        simp only at this
                        omega
                    refine ⟨[.sl (X.P.cellsOf e) 0 ((List.range len).map u)], RelC.one ?_ rfl, .sl hu _ (by simp; omega) (fun v hv => ?_) (fun v hv => ?_)⟩
                    · have := Rel.sl (X := X) (g := iniG W) (w := W) (h := iniH) (X.P.cellsOf e) 0 ((List.range len).map u) b off cap (fun i => (W.cell? ⟨b, off + i, none⟩).getD undef) (by omega) (by simp [iniH]) (by simpa using hlc) hce
                        (fun i hi => by obtain ⟨y, y1, _, _⟩ := hcellF i hi; rw [y1]; rfl) (fun i hi => by obtain ⟨y, y1, y2, _⟩ := hcellF i hi; rw [y1]; exact y2) hpub
                        (fun i hi => by obtain ⟨y, y1, _, y3⟩ := hcellF i hi; rw [y1]; exact y3) (by omega) (fun e' he' => by simp [iniH] at he')
                      simpa using this
                    · obtain ⟨i, hi, rfl⟩ := hmem v hv; exact (hu2 i hi).2.2.1
                    · obtain ⟨i, hi, rfl⟩ := hmem v hv; exact (hu2 i hi).2.1
            · simp at h
      case struct fs =>
        simp only [Bool.and_eq_true] at ho
        obtain ⟨ho1, ho2⟩ := ho
        cases ht : tiles X.P fs.toList 0 with
        | none => simp [ht] at ho1
        | some tot =>
          simp only [ht, decide_eq_true_eq] at ho1
          have hmain : ∀ (l : List Field) (k : Nat) (xs : List (DataW H × List MemPlace)), tiles X.P l k = some tot → tot = cs.length → (∀ f ∈ l, okTy X.P n f.type = true) →
              (l.mapM fun f => DataW.trod enc X.P W 0 (fun _ => true) true fuel f.type ((cs.drop f.offset).take (X.P.cellsOf f.type))) = some xs → ∃ u, RelC X (iniG W) W iniH u (cs.drop k) ∧ Tys X.P l u := by
            intro l
            induction l with
            | nil =>
              intro k xs h1 h2 h3 h4
              simp [tiles] at h1
              subst h1
              exact ⟨[], ⟨by simp [h2], fun i hi => by simp [h2] at hi, fun i hi => by simp at hi⟩, .nil⟩
            | cons f l ih =>
              intro k xs h1 h2 h3 h4
              unfold tiles at h1
              split at h1
              · rename_i hk
                simp only [List.mapM_cons, Option.bind_eq_bind, Option.pure_def] at h4
                cases hx : DataW.trod enc X.P W 0 (fun _ => true) true fuel f.type ((cs.drop f.offset).take (X.P.cellsOf f.type)) with
                | none => simp [hx] at h4
                | some y =>
                  cases hl : (l.mapM fun f => DataW.trod enc X.P W 0 (fun _ => true) true fuel f.type ((cs.drop f.offset).take (X.P.cellsOf f.type))) with
                  | none => simp [hx, hl] at h4
                  | some zs =>
                    obtain ⟨a, ra, ta⟩ := trod_rel W hW fuel n f.type _ y.1 y.2 (h3 f (by simp)) hx
                    obtain ⟨b, rb, tb⟩ := ih (k + X.P.cellsOf f.type) zs h1 h2 (fun g hg => h3 g (by simp [hg])) hl
                    refine ⟨a ++ b, ?_, .cons f l a b ta tb⟩
                    have e1 : cs.drop k = (cs.drop f.offset).take (X.P.cellsOf f.type) ++ cs.drop (k + X.P.cellsOf f.type) := by
                      rw [hk, ← List.drop_drop, List.take_append_drop]
                    rw [e1]
                    exact ra.append rb
              · simp at h1
          split at h
          · rename_i hlen
            cases hm : (fs.toList.mapM fun f => DataW.trod enc X.P W 0 (fun _ => true) true fuel f.type ((cs.drop f.offset).take (X.P.cellsOf f.type))) with
            | none => simp [hm] at h
            | some xs =>
              obtain ⟨u, ru, tu⟩ := hmain fs.toList 0 xs ht (by omega) (fun f hf => List.all_eq_true.1 ho2 f hf) hm
              exact ⟨u, by simpa using ru, .struct hu u tu⟩
          · simp at h
end
end Go.Proofs.Ytpnbdnmmfaomlaa.Al
