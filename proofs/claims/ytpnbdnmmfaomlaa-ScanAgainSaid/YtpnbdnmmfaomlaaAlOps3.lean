/-
  The abstract layer, part 6: operation by operation, the rest, and all together. Conditions: none.
-/
import Derived.Test.YtpnbdnmmfaomlaaAlOps2
namespace Go.Proofs.Ytpnbdnmmfaomlaa.Al
open Go Go.RowKit
set_option linter.unusedSimpArgs false
set_option linter.unusedVariables false

section
variable {X : Cx} {g : Gh} {w : World} {h : AH} {K : V → AH → Prop}

theorem out_fa {s : TypeId} {fields : Array Field} {f n : Nat} {fl : Field} (h1 : X.P.underlying s = some (.struct fields)) (h2 : fields[f]? = some fl) (h3 : tySize X.P fl.type = some n) (h4 : n ≠ 0)
    (I : Inv X g w h) {v : V} {x : Value} (r : Rel X g w h v x)
    (hk : match (generalizing := false) v with | .ptr o q => K (.ptr o (q + fl.offset)) h | .rptr l q => K (.rptr l (q + fl.offset)) h | _ => False) :
    Out X g w h K ((do pure (Next.value (← Instr.fieldAt s x f)) : Sem Next).run X.P w) := by
  have hrun : ∀ a : Addr, (Instr.fieldAt s (.pointer (some a)) f).run X.P w = .ok (.pointer (some (a.add fl.offset))) w := fun a => by
    simp [Instr.fieldAt, run_underlying h1, h2, Instr.sureAddr, fieldPlace, run_tySize h3, h4]
  cases r with
  | ptr o off hn => exact Out.same I (hrun _) hk (by rw [Addr.add_lit]; exact .ptr _ _ hn)
  | rptr l off b base xf kc ko kp kr => exact Out.same I (hrun _) hk (by rw [Addr.add_lit, Nat.add_assoc]; exact .rptr l _ b base xf kc ko kp kr)
  | _ => exact hk.elim

theorem out_fld {t : TypeId} {fields : Array Field} {f n : Nat} {gg : Bool} {fl : Field} (h1 : X.P.underlying t = some (.struct fields)) (h2 : fields[f]? = some fl) (h3 : tySize X.P fl.type = some n)
    (h4 : tyAgg X.P fl.type = some gg) (I : Inv X g w h) {v : V} {x : Value} (r : Rel X g w h v x) (hk : match (generalizing := false) v with | .agg l => loadC gg n l fl.offset (fun v => K v h) | _ => False) :
    Out X g w h K ((do pure (Next.value (← Instr.field t x f)) : Sem Next).run X.P w) := by
  cases r with
  | agg l cs hl ho hr =>
    cases gg with
    | true =>
      obtain ⟨hb, hk⟩ := hk
      refine Out.same I (x := .agg (cs.extract fl.offset (fl.offset + n))) ?_ hk ?_
      · simp [Instr.field, run_underlying h1, h2, part, asAgg, run_tyAgg h4, run_tySize h3]
      · refine .agg _ _ (by simp; omega) (fun i hi => ?_) (fun i i1 i2 => ?_)
        · simp at hi ⊢; exact ho _ (by omega)
        · simp at i1 i2 ⊢; exact hr _ (by omega) (by omega)
    | false =>
      obtain ⟨hb, hk⟩ := hk
      have hb2 : fl.offset < cs.size := by omega
      refine Out.same I (x := cs[fl.offset]) ?_ hk ?_
      · simp [Instr.field, run_underlying h1, h2, part, asAgg, run_tyAgg h4, hb2]
      · simp only [List.getD, List.getElem?_eq_getElem hb, Option.getD_some]; exact hr _ hb hb2
  | _ => exact hk.elim

theorem out_ia {t e : TypeId} {n : Nat} (h1 : X.P.underlying t = some (.slice e)) (h2 : tySize X.P e = some n) (I : Inv X g w h) {v u : V} {x y : Value} (r : Rel X g w h v x) (ru : Rel X g w h u y)
    (hk : match (generalizing := false) v, u with | .sl e' _ l, .int _ i => e' = n ∧ 0 ≤ i ∧ i < l.length ∧ K (.rptr (l.getD i.toNat .undef).cells 0) h | _, _ => False) :
    Out X g w h K ((do pure (Next.value (← Instr.indexAt t x y)) : Sem Next).run X.P w) := by
  cases r with
  | slnil e' st hst =>
    cases ru with
    | int k i => simp at hk; omega
    | _ => exact hk.elim
  | slemp e' a =>
    cases ru with
    | int k i => simp at hk; omega
    | _ => exact hk.elim
  | sl e' st l b off cap xf k1 ks kcap ke kc ko kp kr k2 k3 =>
    cases ru with
    | int k i =>
      obtain ⟨rfl, i0, i1, hk⟩ := hk
      have hi : i.toNat < l.length := by omega
      have hFl := cellsOf_length ke
      have hmem : l.getD i.toNat .undef = l[i.toNat] := by simp [List.getD, List.getElem?_eq_getElem hi]
      have hce : (l[i.toNat]).cells.length = e' := ke _ (List.getElem_mem hi)
      have hmul : i.toNat * e' + e' ≤ l.length * e' := by
        have := Nat.mul_le_mul_right e' (show i.toNat + 1 ≤ l.length by omega)
        rw [Nat.add_mul] at this; omega
      rw [hmem] at hk
      refine Out.same I (x := .pointer (some ⟨b, off + i.toNat * e' + 0, none⟩)) ?_ hk (.rptr _ 0 b (off + i.toNat * e') (fun j => xf (i.toNat * e' + j)) ?_ ?_ ?_ ?_)
      · simp [Instr.indexAt, asIntOf, run_underlying h1, run_tySize h2, i0, i1, Addr.add_lit]
      · intro j hj; rw [hce] at hj; rw [Nat.add_assoc]; exact kc _ (by omega)
      · intro j hj; rw [hce] at hj; exact ko _ (by omega)
      · rw [hce]; omega
      · intro j hj
        have hj' := hj
        rw [hce] at hj
        have e1 := cellsOf_getElem ke i.toNat hi j hj
        rw [List.getElem?_eq_getElem hj', List.getElem?_eq_getElem (by omega)] at e1
        rw [← Option.some.inj e1]; exact kr _ _
    | _ => exact hk.elim
  | _ => exact hk.elim

theorem out_ixs {t : TypeId} (h1 : X.P.underlying t = some .string) (I : Inv X g w h) {v u : V} {x y : Value} (r : Rel X g w h v x) (ru : Rel X g w h u y)
    (hk : match (generalizing := false) v, u with | .str s, .int _ n => 0 ≤ n ∧ n < s.length ∧ K (.int .u8 (s.getD n.toNat 0).toNat) h | _, _ => False) :
    Out X g w h K ((do pure (Next.value (← Instr.index t x y)) : Sem Next).run X.P w) := by
  cases r with
  | str s =>
    cases ru with
    | int k n =>
      obtain ⟨i0, i1, hk⟩ := hk
      have hi : n.toNat < s.length := by omega
      have hb : (⟨s.toArray⟩ : ByteArray)[n.toNat]? = some s[n.toNat] := by
        rw [getElem?_pos (⟨s.toArray⟩ : ByteArray) n.toNat (by simpa [ByteArray.size] using hi)]; rfl
      have hmem : s.getD n.toNat 0 = s[n.toNat] := by simp [List.getD, List.getElem?_eq_getElem hi]
      rw [hmem] at hk
      refine Out.same I ?_ hk (.int _ _)
      simp [Instr.index, asIntOf, run_underlying h1, i0, hb]
    | _ => exact hk.elim
  | _ => exact hk.elim

theorem out_ext (I : Inv X g w h) {v : V} {x : Value} (i : Nat) (r : Rel X g w h v x) (hk : match (generalizing := false) v with | .tup l => i < l.length ∧ K (l.getD i .undef) h | _ => False) :
    Out X g w h K ((do pure (Next.value (← Instr.extract x i)) : Sem Next).run X.P w) := by
  cases r with
  | tup l cs hl hr =>
    obtain ⟨i1, hk⟩ := hk
    have i2 : i < cs.size := by omega
    refine Out.same I (x := cs[i]) ?_ hk ?_
    · simp [Instr.extract, i2]
    · simp only [List.getD, List.getElem?_eq_getElem i1, Option.getD_some]; exact hr _ i1 i2
  | _ => exact hk.elim

theorem out_len {t ty : TypeId} (I : Inv X g w h) {v : V} {x : Value} (r : Rel X g w h v x)
    (hk : match (generalizing := false) v with | .sl _ _ l => (∃ e, X.P.underlying t = some (.slice e)) ∧ K (.int .i64 l.length) h | .str s => X.P.underlying t = some .string ∧ K (.int .i64 s.length) h | _ => False) :
    Out X g w h K ((do pure (Next.value (← Builtin.len_ #[t] ty #[x])) : Sem Next).run X.P w) := by
  cases r with
  | slnil e st hst =>
    obtain ⟨⟨e', he⟩, hk⟩ := hk
    exact Out.same I (by simp [Builtin.len_, run_underlying he, goInt]) hk (.int _ _)
  | slemp e a =>
    obtain ⟨⟨e', he⟩, hk⟩ := hk
    exact Out.same I (by simp [Builtin.len_, run_underlying he, goInt]) hk (.int _ _)
  | sl e' st l b off cap xf k1 ks kcap ke kc ko kp kr k2 k3 =>
    obtain ⟨⟨e', he⟩, hk⟩ := hk
    exact Out.same I (by simp [Builtin.len_, run_underlying he, goInt]) hk (.int _ _)
  | str s =>
    obtain ⟨he, hk⟩ := hk
    exact Out.same I (by simp [Builtin.len_, run_underlying he, goInt, mk_size]) hk (.int _ _)
  | _ => exact hk.elim

/-! ### slice expressions -/
def bndV (d : Int) : Option Value → Option Int
  | none => some d
  | some (.int _ n) => some n
  | some _ => none
theorem run_sliceBound {k : IntKind} {n : Int} {y : Nat} {f : BoundsCode} (h0 : 0 ≤ n) (h1 : n ≤ y) : (Instr.sliceBound (.int k n) y f).run X.P w = .ok n.toNat w := by
  simp [Instr.sliceBound, asIntOf, h0, h1]
theorem run_sliceBounds {sl : Bool} {len cap : Nat} {lo hi : Option Value} {a b : Int} (h1 : bndV 0 lo = some a) (h2 : bndV len hi = some b) (k0 : 0 ≤ a) (k1 : a ≤ b) (k2 : b ≤ len) (k3 : len ≤ cap) :
    (Instr.sliceBounds sl len cap lo hi none).run X.P w = .ok (a.toNat, b.toNat, cap) w := by
  have kb : 0 ≤ b := by omega
  have ka : a ≤ (b.toNat : Int) := by omega
  unfold Instr.sliceBounds
  cases hi with
  | none =>
    simp [bndV] at h2
    subst h2
    cases lo with
    | none => simp [bndV] at h1; subst h1; simp
    | some v =>
      cases v <;> simp [bndV] at h1
      subst h1
      simp [run_sliceBound k0 k1]
  | some u =>
    cases u <;> simp [bndV] at h2
    subst h2
    cases lo with
    | none => simp [bndV] at h1; subst h1; simp [run_sliceBound kb (show _ ≤ (cap : Int) by omega)]
    | some v =>
      cases v <;> simp [bndV] at h1
      subst h1
      simp [run_sliceBound kb (show _ ≤ (cap : Int) by omega), run_sliceBound k0 ka]

theorem out_slc_str {t : TypeId} (h1 : X.P.underlying t = some .string) (I : Inv X g w h) (s : List UInt8) {lo hi : Option Value} {a b : Int} (e1 : bndV 0 lo = some a) (e2 : bndV s.length hi = some b)
    (k0 : 0 ≤ a) (k1 : a ≤ b) (k2 : b ≤ s.length) (hk : K (.str ((s.take b.toNat).drop a.toNat)) h) :
    Out X g w h K ((do pure (Next.value (← Instr.sliceAt t (.string ⟨s.toArray⟩) lo hi none)) : Sem Next).run X.P w) := by
  refine Out.same I ?_ hk (.str _)
  have := run_sliceBounds (X := X) (w := w) (sl := false) (len := s.length) (cap := s.length) e1 e2 k0 k1 k2 (Nat.le_refl _)
  simp [Instr.sliceAt, run_underlying h1, Instr.slice, mk_size, this, mk_extract]

theorem out_slc {t e : TypeId} {n : Nat} (h1 : X.P.underlying t = some (.slice e)) (h2 : tySize X.P e = some n) (I : Inv X g w h) {e' st : Nat} {l : List V} {x : Value} (r : Rel X g w h (.sl e' st l) x) {lo hi : Option Value} {a b : Int}
    (e1 : bndV 0 lo = some a) (e2 : bndV l.length hi = some b) (he : l = [] ∨ e' = n) (hk : slcK l st a b (fun m st' => K (.sl e' st' m) h)) :
    Out X g w h K ((do pure (Next.value (← Instr.sliceAt t x lo hi none)) : Sem Next).run X.P w) := by
  obtain ⟨k0, k1, k2, hk⟩ := hk
  cases r with
  | slnil e' st hst =>
    have hs := run_sliceBounds (X := X) (w := w) (sl := true) (len := 0) (cap := 0) e1 e2 k0 k1 k2 (Nat.le_refl _)
    have ha : a = 0 := by simp at k2; omega
    have hb : b = 0 := by simp at k2; omega
    subst ha; subst hb
    simp at hs hk
    refine Out.same I (x := .slice none 0 0) ?_ hk (.slnil _ _ (by split <;> omega))
    simp [Instr.sliceAt, run_underlying h1, Instr.slice, hs, run_tySize h2]
  | slemp e ad =>
    have hs := run_sliceBounds (X := X) (w := w) (sl := true) (len := 0) (cap := 0) e1 e2 k0 k1 k2 (Nat.le_refl _)
    have ha : a = 0 := by simp at k2; omega
    have hb : b = 0 := by simp at k2; omega
    subst ha; subst hb
    simp at hs hk
    refine Out.same I (x := .slice (some ad) 0 0) ?_ hk (.slemp _ _)
    simp [Instr.sliceAt, run_underlying h1, Instr.slice, hs, run_tySize h2]
  | sl _ _ _ bb off cap xf j1 js jcap je jc jo jp jr j2 j3 =>
    have hs := run_sliceBounds (X := X) (w := w) (sl := true) (len := l.length) (cap := cap) e1 e2 k0 k1 k2 jcap
    rw [if_neg j1] at hk
    have hFl := cellsOf_length je
    have hlen : ((l.take b.toNat).drop a.toNat).length = b.toNat - a.toNat := by simp; omega
    have hne : ∀ v ∈ (l.take b.toNat).drop a.toNat, v.cells.length = e' := fun v hv => je v (List.mem_of_mem_take (List.mem_of_mem_drop hv))
    have hF2 := cellsOf_length hne
    rw [hlen] at hF2
    have hcell : ∀ i (hi : i < (cellsOf ((l.take b.toNat).drop a.toNat)).length), ∃ hq : a.toNat * e' + i < (cellsOf l).length, (cellsOf ((l.take b.toNat).drop a.toNat))[i] = (cellsOf l)[a.toNat * e' + i] := fun i hi => by
      have hq : a.toNat * e' + i < (cellsOf l).length := by
        rw [hF2, Nat.sub_mul] at hi
        have := Nat.mul_le_mul_right e' (show b.toNat ≤ l.length by omega)
        rw [hFl]; omega
      refine ⟨hq, ?_⟩
      have htk : ∀ v ∈ l.take b.toNat, v.cells.length = e' := fun v hv => je v (List.mem_of_mem_take hv)
      have q1 := cellsOf_take_drop htk a.toNat
      have q2 : (cellsOf (l.take b.toNat ++ l.drop b.toNat)) = cellsOf l := by rw [List.take_append_drop]
      rw [cellsOf_append] at q2
      have q3 : (cellsOf (l.take b.toNat)).length = b.toNat * e' := by rw [cellsOf_length htk, List.length_take, Nat.min_eq_left (by omega)]
      have : (cellsOf ((l.take b.toNat).drop a.toNat))[i]? = (cellsOf l)[a.toNat * e' + i]? := by
        rw [q1, List.getElem?_drop, ← q2, List.getElem?_append_left]
        rw [hF2, Nat.sub_mul] at hi; rw [q3]; omega
      rw [List.getElem?_eq_getElem hi, List.getElem?_eq_getElem hq] at this
      exact Option.some.inj this
    have hm : ∀ c, c ≤ l.length → off + c * e' ≤ g.pub bb := fun c hc => by
      have := Nat.mul_le_mul_right e' hc; omega
    by_cases hc : cap = a.toNat
    · -- nothing left: the address stays
      subst hc
      have hz : b.toNat - a.toNat = 0 := by omega
      have hnil : (l.take b.toNat).drop a.toNat = [] := List.eq_nil_of_length_eq_zero (by omega)
      rw [hnil] at hk
      refine Out.same I (x := .slice (some ⟨bb, off, none⟩) 0 (a.toNat - a.toNat)) ?_ hk ?_
      · simp [Instr.sliceAt, run_underlying h1, Instr.slice, hs, run_tySize h2, hz]
      · exact .sl e' 0 [] bb off _ xf (by omega) (by have := I.next; omega) (by simp) (by simp) (by simp) (by simp) (by have := hm 0 (by omega); simpa using this) (by simp) (by omega) (fun e'' h'' => by have := (I.tipB _ _ h'').1; omega)
    · by_cases hl : l = []
      · subst hl
        have hb0 : b = 0 := by simp at k2; omega
        have ha0 : a = 0 := by omega
        subst hb0; subst ha0
        simp at hk hs hc
        refine Out.same I (x := .slice (some ((⟨bb, off, none⟩ : Addr).add (0 * n))) 0 cap) ?_ hk ?_
        · simp [Instr.sliceAt, run_underlying h1, Instr.slice, hs, run_tySize h2, hc]
        · simp only [Nat.zero_mul, Addr.add_zero']
          exact .sl e' 0 [] bb off _ xf (by omega) (by have := I.next; omega) (by simp) (by simp) (by simp) (by simp) (by have := hm 0 (by simp); simpa using this) (by simp) (by omega) (fun e'' h'' => by have := (I.tipB _ _ h'').1; omega)
      · have hen : e' = n := he.resolve_left hl
        subst hen
        refine Out.same I (x := .slice (some ⟨bb, off + a.toNat * e', none⟩) ((l.take b.toNat).drop a.toNat).length (cap - a.toNat)) ?_ hk ?_
        · simp [Instr.sliceAt, run_underlying h1, Instr.slice, hs, run_tySize h2, hc, Addr.add_lit]
          omega
        · refine .sl e' 0 _ bb (off + a.toNat * e') _ (fun i => xf (a.toNat * e' + i)) (by omega) (by have := I.next; omega) (by rw [hlen]; omega) hne (fun i hi => ?_) (fun i hi => ?_) ?_ (fun i hi => ?_) (by omega)
            (fun e'' h'' => by have := (I.tipB _ _ h'').1; omega)
          · obtain ⟨hq, _⟩ := hcell i hi; rw [Nat.add_assoc]; exact jc _ hq
          · obtain ⟨hq, _⟩ := hcell i hi; exact jo _ hq
          · rw [hF2, Nat.sub_mul]
            have q := hm b.toNat (by omega)
            have := Nat.mul_le_mul_right e' (show a.toNat ≤ b.toNat by omega)
            omega
          · obtain ⟨hq, e4⟩ := hcell i hi; rw [e4]; exact jr _ hq

/-! ### build -/
def RelA (X : Cx) (g : Gh) (w : World) (h : AH) (zs : List V) (cs : Array Value) : Prop :=
  zs.length = cs.size ∧ (∀ i (h2 : i < cs.size), (cs[i]).oneCell' = true) ∧ ∀ i (h1 : i < zs.length) (h2 : i < cs.size), Rel X g w h (zs[i]) (cs[i])
def setAtA (cs : Array Value) (off : Nat) : List Value → Array Value
  | [] => cs
  | v :: r => setAtA (cs.setIfInBounds off v) (off + 1) r
theorem foldl_setAtA (off : Nat) : ∀ (l : List Value) (k : Nat) (cs : Array Value), (l.zipIdx k).foldl (fun cs p => cs.setIfInBounds (off + p.2) p.1) cs = setAtA cs (off + k) l
  | [], _, _ => rfl
  | v :: l, k, cs => by
    simp only [List.zipIdx_cons, List.foldl_cons]
    rw [foldl_setAtA off l (k + 1)]; rfl
theorem RelA.set {zs : List V} {cs : Array Value} (r : RelA X g w h zs cs) (i : Nat) {v : V} {x : Value} (rv : Rel X g w h v x) (ho : x.oneCell' = true) : RelA X g w h (zs.set i v) (cs.setIfInBounds i x) := by
  obtain ⟨h1, h2, h3⟩ := r
  refine ⟨by simpa using h1, fun j hj => ?_, fun j j1 j2 => ?_⟩
  · rw [Array.getElem_setIfInBounds (by simpa using hj)]
    split
    · exact ho
    · exact h2 _ _
  · rw [Array.getElem_setIfInBounds (by simpa using j2), List.getElem_set]
    split
    · exact rv
    · exact h3 _ _ _
theorem RelA.setAt : ∀ (vs : List V) (xs : List Value) {zs : List V} {cs : Array Value} (off : Nat), RelA X g w h zs cs → vs.length = xs.length → (∀ i (h2 : i < xs.length), (xs[i]).oneCell' = true) →
    (∀ i (h1 : i < vs.length) (h2 : i < xs.length), Rel X g w h (vs[i]) (xs[i])) → RelA X g w h (setAt zs off vs) (setAtA cs off xs)
  | [], [], _, _, _, r, _, _, _ => r
  | v :: vs, x :: xs, zs, cs, off, r, hl, ho, hr => by
    refine RelA.setAt vs xs (off + 1) (r.set off (hr 0 (by simp) (by simp)) (ho 0 (by simp))) (by simpa using hl) (fun i h2 => ?_) (fun i h1 h2 => ?_)
    · exact ho (i + 1) (by simpa using h2)
    · exact hr (i + 1) (by simpa using h1) (by simpa using h2)
  | [], _ :: _, _, _, _, _, hl, _, _ => by simp at hl
  | _ :: _, [], _, _, _, _, hl, _, _ => by simp at hl

/-- Parts of the model and abstract parts, one by one. -/
def RelParts (X : Cx) (g : Gh) (w : World) (h : AH) (place : Nat → Option (Nat × Nat)) : List (Nat × Value) → List (Nat × Nat × V) → Prop
  | [], [] => True
  | (i, x) :: ps, (off, size, v) :: qs => place i = some (off, size) ∧ Rel X g w h v x ∧ RelParts X g w h place ps qs
  | _, _ => False
theorem fill_rel {place : Nat → Option (Nat × Nat)} : ∀ (ps : List (Nat × Value)) (qs : List (Nat × Nat × V)) (zs : List V) (cs : Array Value) (out : List V),
    RelParts X g w h place ps qs → RelA X g w h zs cs → fillV zs qs = some out → ∃ cs', Instr.fill place cs ps = some cs' ∧ RelA X g w h out cs'
  | [], [], zs, cs, out, _, r, e => by simp [fillV] at e; subst e; exact ⟨cs, rfl, r⟩
  | (i, x) :: ps, (off, size, v) :: qs, zs, cs, out, hp, r, e => by
    obtain ⟨h1, h2, h3⟩ := hp
    unfold fillV at e
    split at e
    · rename_i hc
      obtain ⟨c1, c2, c3⟩ := hc
      obtain ⟨k1, k2, k3⟩ := h2.cells c3
      have r2 : RelA X g w h (Al.setAt zs off v.cells) (setAtA cs off x.cells.toList) :=
        RelA.setAt v.cells x.cells.toList off r (by simpa using k1) (fun j hj => by simp at hj ⊢; exact k2 j hj) (fun j j1 j2 => by simp at j2 ⊢; exact k3 j j1 j2)
      obtain ⟨cs', e1, e2⟩ := fill_rel ps qs _ _ out h3 r2 e
      refine ⟨cs', ?_, e2⟩
      have hf := foldl_setAtA off x.cells.toList 0 cs
      have hr1 := r.1
      simp only [Instr.fill, h1]
      rw [if_neg (by simp; omega), ← Array.foldl_toList, Array.toList_zipIdx]
      rw [Nat.add_zero] at hf
      rw [hf]; exact e1
    · simp at e
  | [], _ :: _, _, _, _, hp, _, _ => hp.elim
  | _ :: _, [], _, _, _, hp, _, _ => hp.elim

theorem out_bld {t : TypeId} {fields : Array Field} {z : List V} {places : List (Nat × Nat)} (h1 : X.P.underlying t = some (.struct fields)) (h2 : tyZero X.P t = some z)
    (h3 : fields.toList.mapM (fun f => (X.P.info? f.type).map fun i => (f.offset, i.size)) = some places) (I : Inv X g w h) {ps : Array (Nat × Value)} {qs : List (Nat × Nat × V)}
    (hp : RelParts X g w h (places[·]?) ps.toList qs) (hk : match (generalizing := false) fillV z qs with | some cs => K (.agg cs) h | none => False) :
    Out X g w h K ((do pure (Next.value (← Instr.build t ps)) : Sem Next).run X.P w) := by
  obtain ⟨i, zv, k1, k2, k3, k4⟩ := tyZero_spec h2
  obtain ⟨j1, j2⟩ := leafVs_rel (X := X) (g := g) (w := w) (h := h) k3
  cases hf : fillV z qs with
  | none => simp [hf] at hk
  | some out =>
    simp only [hf] at hk
    obtain ⟨cs', e1, e2⟩ := fill_rel ps.toList qs z zv.cells out hp ⟨j1, fun i hi => Array.all_eq_true.1 k4 i hi, j2⟩ hf
    refine Out.same I (run_build w t ps cs' ?_) hk (.agg out cs' e2.1 e2.2.1 e2.2.2)
    simp only [Program.built, k1, h1, k2, h3]
    simpa using e1

theorem cellsOf_set {e : Nat} (he0 : 0 < e) {l : List V} (he : ∀ v ∈ l, v.cells.length = e) {i : Nat} (hi : i < l.length) {v : V} (hv : v.cells.length = e) :
    cellsOf (l.set i v) = setAt (cellsOf l) (i * e) v.cells := by
  have he' : ∀ u ∈ l.set i v, u.cells.length = e := fun u hu => by
    rcases List.mem_or_eq_of_mem_set hu with hu | hu
    · exact he u hu
    · rw [hu]; exact hv
  have hF := cellsOf_length he
  have hmul : i * e + e ≤ l.length * e := by
    have := Nat.mul_le_mul_right e (show i + 1 ≤ l.length by omega)
    rw [Nat.add_mul] at this; omega
  apply List.ext_getElem?
  intro k
  rw [setAt_getElem? _ _ _ _ (by omega)]
  by_cases hk : k < l.length * e
  · have hq : k / e < l.length := Nat.div_lt_of_lt_mul (by rw [Nat.mul_comm]; exact hk)
    have hc : k % e < e := Nat.mod_lt _ he0
    have hd : k / e * e + k % e = k := by rw [Nat.mul_comm]; exact Nat.div_add_mod k e
    have a1 := cellsOf_getElem he' (k / e) (by simpa using hq) (k % e) hc
    have a2 := cellsOf_getElem he (k / e) hq (k % e) hc
    rw [hd] at a1 a2
    rw [a1, a2, List.getElem_set]
    by_cases hqi : i = k / e
    · rw [if_pos hqi]
      have : i * e ≤ k ∧ k < i * e + v.cells.length := by rw [hqi, hv]; omega
      rw [if_pos this]; congr 1; rw [hqi]; omega
    · rw [if_neg hqi, if_neg]
      intro hh
      apply hqi
      rw [hv] at hh
      have h1 : i ≤ k / e := (Nat.le_div_iff_mul_le he0).2 hh.1
      have h2 : k / e < i + 1 := (Nat.div_lt_iff_lt_mul he0).2 (by rw [Nat.add_mul]; omega)
      omega
  · rw [if_neg (by omega), List.getElem?_eq_none (by rw [cellsOf_length he', List.length_set]; omega), List.getElem?_eq_none (by omega)]

theorem fillL_fillV {e : Nat} {gg : Bool} (he0 : 0 < e) : ∀ (qs : List (Nat × V)) (l out : List V), (∀ v ∈ l, v.cells.length = e) → fillL e gg l qs = some out →
    (∀ v ∈ out, v.cells.length = e) ∧ out.length = l.length ∧ fillV (cellsOf l) (qs.map fun q => (q.1 * e, e, q.2)) = some (cellsOf out)
  | [], l, out, hl, h => by simp [fillL] at h; subst h; exact ⟨hl, rfl, rfl⟩
  | (i, v) :: qs, l, out, hl, h => by
    unfold fillL at h
    split at h
    · rename_i hc
      obtain ⟨c1, c2, c3, c4⟩ := hc
      have hl' : ∀ u ∈ l.set i v, u.cells.length = e := fun u hu => by
        rcases List.mem_or_eq_of_mem_set hu with hu | hu
        · exact hl u hu
        · rw [hu]; exact c1
      obtain ⟨d1, d2, d3⟩ := fillL_fillV he0 qs _ out hl' h
      refine ⟨d1, by simpa using d2, ?_⟩
      have hmul : i * e + e ≤ l.length * e := by
        have := Nat.mul_le_mul_right e (show i + 1 ≤ l.length by omega)
        rw [Nat.add_mul] at this; omega
      simp only [List.map_cons, fillV]
      rw [if_pos ⟨c1, by rw [cellsOf_length hl]; exact hmul, c3⟩, ← cellsOf_set he0 hl c2 c1]
      exact d3
    · simp at h

theorem out_bsl {t e : TypeId} {s n : Nat} {gg : Bool} {z : List V} (h1 : X.P.underlying t = some (.slice e)) (h2 : tySize X.P e = some s) (h3 : tyZero X.P e = some z) (h4 : 0 < s) (h5 : z.length = s)
    (h6 : n * s ≤ 2 ^ 24) (h7 : gg = false → s = 1) (I : Inv X g w h) {ps : Array (Nat × Value)} {qs : List (Nat × V)}
    (hp : RelParts X g w h (fun i => some (i * s, s)) ps.toList (qs.map fun q => (q.1 * s, s, q.2)))
    (hk : match (generalizing := false) fillL s gg (List.replicate n (if gg then .agg z else z.headD .undef)) qs with | some l => K (.sl s 2 l) h | none => False) :
    Out X g w h K ((do pure (Next.value (← Instr.buildSlice t n ps)) : Sem Next).run X.P w) := by
  obtain ⟨i, zv, k1, k2, k3, k4⟩ := tyZero_spec h3
  obtain ⟨j1, j2⟩ := leafVs_rel (X := X) (g := g) (w := w) (h := h) k3
  generalize hz0 : (if gg then V.agg z else z.headD .undef) = z0 at hk
  have hz1 : z0.cells = z := by
    rw [← hz0]
    cases gg with
    | true => rfl
    | false =>
      have := h7 rfl
      match z, h5 with
      | [u], _ =>
        have hu : leafVs zv.cells.toList = some [u] := k3
        simp only [List.headD, Bool.false_eq_true, if_false]
        have : ∃ x, leafV x = some u := by
          obtain ⟨q1, q2⟩ := leafVs_spec hu
          exact ⟨_, q2 0 (by simp) (by simp at q1; simp; omega)⟩
        obtain ⟨x, hx⟩ := this
        cases u <;> first | rfl | skip
        exfalso
        unfold leafV at hx
        split at hx <;> simp at hx
      | [], h5 => simp at h5; omega
      | _ :: _ :: _, h5 => simp at h5; omega
  cases hf : fillL s gg (List.replicate n z0) qs with
  | none => simp [hf] at hk
  | some out =>
    simp only [hf] at hk
    have hrep : ∀ v ∈ List.replicate n z0, v.cells.length = s := fun v hv => by rw [List.eq_of_mem_replicate hv, hz1, h5]
    obtain ⟨d1, d2, d3⟩ := fillL_fillV h4 qs _ out hrep hf
    have hzsz : zv.cells.size = s := by omega
    have r0 : RelA X g w h (cellsOf (List.replicate n z0)) ((Array.range (n * s)).map fun j => zv.cells[j % zv.cells.size]!) := by
      have hlen : (cellsOf (List.replicate n z0)).length = n * s := by rw [cellsOf_length hrep]; simp
      refine ⟨by rw [hlen]; simp, fun q hq => ?_, fun q q1 q2 => ?_⟩
      · simp at hq ⊢
        have : q % zv.cells.size < zv.cells.size := Nat.mod_lt _ (by omega)
        rw [getElem!_pos zv.cells _ this]
        exact Array.all_eq_true.1 k4 _ this
      · simp at q2 ⊢
        have hm : q % zv.cells.size < zv.cells.size := Nat.mod_lt _ (by omega)
        rw [getElem!_pos zv.cells _ hm]
        have hd : q / s * s + q % s = q := by rw [Nat.mul_comm]; exact Nat.div_add_mod q s
        have hqn : q / s < (List.replicate n z0).length := by simp; exact Nat.div_lt_of_lt_mul (by rw [Nat.mul_comm]; exact q2)
        have a1 := cellsOf_getElem hrep (q / s) hqn (q % s) (Nat.mod_lt _ h4)
        rw [hd] at a1
        have hzl : q % s < z.length := by rw [h5]; exact Nat.mod_lt _ h4
        simp only [List.getElem_replicate, hz1] at a1
        rw [List.getElem?_eq_getElem q1, List.getElem?_eq_getElem hzl] at a1
        rw [Option.some.inj a1]
        simp only [hzsz]
        exact j2 _ _ _
    obtain ⟨cs', e1, e2⟩ := fill_rel ps.toList _ _ _ (cellsOf out) hp r0 d3
    obtain ⟨g', I', S, hpub⟩ := new_row I cs' e (cellsOf out).length
    have hol : out.length = n := by rw [d2]; simp
    have hFo : (cellsOf out).length = n * s := by rw [cellsOf_length d1, hol]
    refine Out.of_run (x := .slice (some ⟨w.heap.size, 0, none⟩) out.length n) ?_ hk I' ?_ S
    · rw [hol]
      have hzz : n * s = 0 → n = 0 := fun hh => by
        rcases Nat.mul_eq_zero.1 hh with h | h
        · exact h
        · omega
      by_cases hn : n * s = 0
      · have hn0 := hzz hn
        subst hn0
        have hr0 : Array.range 0 = #[] := rfl
        simp [hr0] at e1
        simp [Instr.buildSlice, run_underlying h1, run_tySize h2, hr0, e1, newRow]
      · simp [Instr.buildSlice, run_underlying h1, run_tySize h2, hn, run_zero k1 k2, show ¬ 16777216 < n * s by omega, e1, newRow]
    · refine .sl s 2 out w.heap.size 0 n (fun i => cs'.getD i undef) (by omega) (by have := I'.next; omega) (by omega) d1 (fun i hi => ?_) (fun i hi => ?_) (by rw [hpub]; omega) (fun i hi => ?_) (fun _ => hol.symm)
        (fun e'' h'' => by have := (I'.tipB _ _ h'').1; omega)
      · have : i < cs'.size := by have := e2.1; omega
        simp [this, Array.getD]
      · have hi2 : i < cs'.size := by have := e2.1; omega
        simp only [Array.getD, dif_pos hi2]; exact e2.2.1 i hi2
      · have hi2 : i < cs'.size := by have := e2.1; omega
        simp only [Array.getD, dif_pos hi2]; exact (e2.2.2 i hi hi2).stp S

theorem out_mks {t e : TypeId} {n m : Nat} {z : List V} (h1 : X.P.underlying t = some (.slice e)) (h2 : tySize X.P e = some n) (h3 : tyBytes X.P e = some m) (h4 : tyZero X.P e = some z) (h5 : 0 < n) (h6 : 0 < m)
    (I : Inv X g w h) {v : V} {x : Value} (r : Rel X g w h v x) (hk : match (generalizing := false) v with | .int .i64 c => 0 ≤ c ∧ c * m ≤ 2 ^ 46 ∧ K (.sl n h.next []) (h.push 2 n) | _ => False) :
    Out X g w h K ((do pure (Next.value (← Instr.makeSlice t (.int .i64 0) x)) : Sem Next).run X.P w) := by
  cases r with
  | int k c =>
    cases k <;> first | exact hk.elim | skip
    obtain ⟨k0, k1, hk⟩ := hk
    obtain ⟨i, zv, q1, q2, q3, q4⟩ := tyZero_spec h4
    obtain ⟨i', q5, rfl⟩ := tySize_info h2
    rw [q1] at q5
    obtain rfl := Option.some.inj q5
    have hm : m = i.bytes := by
      unfold tyBytes at h3; rw [q1] at h3; exact (Option.some.inj h3).symm
    subst hm
    obtain ⟨c, rfl⟩ : ∃ c' : Nat, c = c' := ⟨c.toNat, by omega⟩
    have hcm : c * i.bytes ≤ 2 ^ 46 := by
      have : ((c * i.bytes : Nat) : Int) ≤ 2 ^ 46 := by rw [Int.natCast_mul]; exact k1
      omega
    have hc : c ≤ 2 ^ 46 := Nat.le_trans (Nat.le_mul_of_pos_right _ h6) hcm
    obtain ⟨w', e1, ow, gr⟩ := run_make_own (P := X.P) w w.heap.size t e i zv i.size h1 q1 q2 rfl .i64 .i64 c (by rw [Nat.mul_comm]; omega) (by unfold maxLen; omega) (Nat.le_refl _)
    obtain ⟨g', I', S, r⟩ := fresh_row I ow (.inr (by simp)) gr 2 [] rfl (by simp) (by simp) (by simp)
    exact Out.of_run e1 hk I' r S
  | _ => exact hk.elim

end
end Go.Proofs.Ytpnbdnmmfaomlaa.Al
