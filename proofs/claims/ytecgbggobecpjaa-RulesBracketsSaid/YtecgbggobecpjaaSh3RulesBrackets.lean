/-
  What the law RulesBrackets needs of this claim's texts (part 3). Conditions: each theorem's own.
-/
import Derived.Test.YtecgbggobecpjaaAlA
import Derived.Test.YtecgbggobecpjaaAlB
import Derived.Test.YtecgbggobecpjaaAlC
import Derived.Test.YtecgbggobecpjaaAlKeys
import Derived.Test.YtecgbggobecpjaaSh1RulesBrackets
import Derived.Test.YtecgbggobecpjaaSh2RulesBrackets
namespace Go.Proofs.Ytecgbggobecpjaa.Al
open Go Go.RowKit
set_option linter.unusedSimpArgs false
set_option linter.unusedVariables false
theorem iotaI_pre {u : List Int} {n : Nat} (h : u <+: iotaI n) : u = iotaI u.length ∧ u.length ≤ n := by
  have hl : u.length ≤ n := by simpa using h.length_le
  refine ⟨?_, hl⟩
  rw [List.prefix_iff_eq_take] at h
  rw [h]
  simp only [iotaI, ← List.map_take, List.take_range, List.length_map, List.length_range]
theorem iotaI_last {l : List Int} {v : Int} {n : Nat} (h : l ++ [v] = iotaI n) : n = l.length + 1 ∧ v = l.length ∧ l = iotaI l.length := by
  have hn : n = l.length + 1 := by have := congrArg List.length h; simp at this; omega
  subst hn
  rw [iotaI_succ] at h
  obtain ⟨a, b⟩ := List.append_inj' h rfl
  exact ⟨rfl, by simpa using b, a⟩
theorem undK_pre {L : Nat} {rec : Int → List Int → List Int} (hr : ∀ k out, out <+: rec k out) (n : Int) : ∀ (ks out : List Int), out <+: undK L rec n ks out
  | [], out => ⟨[n], rfl⟩
  | k :: ks, out => by
    unfold undK
    split
    · exact ⟨[-1], rfl⟩
    · exact (hr k out).trans (undK_pre hr n ks _)
theorem undT_pre (t : Te) : ∀ (f : Nat) (n : Int) (out : List Int), out <+: undT t f n out
  | 0, n, out => ⟨[-1], rfl⟩
  | f + 1, n, out => by
    unfold undT
    split
    · exact ⟨[-1], rfl⟩
    · exact undK_pre (undT_pre t f) n _ _
theorem rightR_pre (t : Te) : ∀ (rs : List Rl) (seen : List Str) (u v : List Int), rightR t rs seen u = some v → u <+: v
  | [], _, u, v, h => by simp [rightR] at h; subst h; exact List.prefix_refl _
  | r :: rs, seen, u, v, h => by
    unfold rightR at h
    split at h
    · exact (undT_pre t _ _ _).trans (rightR_pre t rs _ _ _ h)
    · cases h
theorem runS_add (t : Te) : ∀ (j k a : Nat) (st st1 : List Int), runS t j a st = some st1 → runS t (j + k) a st = runS t k (a + j) st1
  | 0, k, a, st, st1, h => by simp [runS] at h; subst h; simp
  | j + 1, k, a, st, st1, h => by
    rw [show j + 1 + k = (j + k) + 1 by omega, runS]
    rw [runS] at h
    cases hs : stpS t a st with
    | none => rw [hs] at h; cases h
    | some st2 =>
      rw [hs] at h
      simp only at h ⊢
      rw [runS_add t j k (a + 1) st2 st1 h, show a + 1 + j = a + (j + 1) by omega]
/-- What the reference lists in order, the stack takes. -/
theorem runS_und (t : Te) (hf : ∀ n ∈ t.nodes, fineP t n = true) : ∀ (f : Nat) (n : Int) (a b : Nat), undT t f n (iotaI a) = iotaI b → b ≤ t.nodes.length →
    ∃ m : Nat, n = m ∧ a ≤ m ∧ b = m + 1 ∧ ∀ st, runS t (b - a) a st = some (st ++ [n])
  | 0, n, a, b, h, hb => by
    have := iotaI_last h; omega
  | f + 1, n, a, b, h, hb => by
    unfold undT at h
    split at h
    · have := iotaI_last h; omega
    · rename_i c
      obtain ⟨m, rfl⟩ : ∃ m : Nat, n = (m : Int) := ⟨n.toNat, by omega⟩
      have hm : m < t.nodes.length := by omega
      rw [Int.toNat_natCast, List.getElem?_eq_getElem hm] at h
      simp only at h
      have key : ∀ (ks : List Int) (a' : Nat), undK t.nodes.length (undT t f) m ks (iotaI a') = iotaI b → a' ≤ m ∧ b = m + 1 ∧ ∀ st, runS t (m - a') a' st = some (st ++ ks) := by
        intro ks
        induction ks with
        | nil =>
          intro a' h
          have := iotaI_last h
          simp at this
          obtain ⟨h1, h2⟩ := this
          refine ⟨by omega, by omega, fun st => ?_⟩
          rw [show m - a' = 0 by omega]; simp [runS]
        | cons k ks ih =>
          intro a' h
          unfold undK at h
          split at h
          · have := iotaI_last h; omega
          · rename_i c2
            have hp := undK_pre (L := t.nodes.length) (undT_pre t f) m ks (undT t f k (iotaI a'))
            rw [h] at hp
            obtain ⟨e1, e2⟩ := iotaI_pre hp
            obtain ⟨q, hq, q1, q2, q3⟩ := runS_und t hf f k a' _ e1 (by omega)
            rw [e1] at h
            obtain ⟨r1, r2, r3⟩ := ih _ h
            refine ⟨by omega, r2, fun st => ?_⟩
            have := runS_add t ((undT t f k (iotaI a')).length - a') (m - (undT t f k (iotaI a')).length) a' st _ (q3 st)
            rw [show (undT t f k (iotaI a')).length - a' + (m - (undT t f k (iotaI a')).length) = m - a' by omega, show a' + ((undT t f k (iotaI a')).length - a') = (undT t f k (iotaI a')).length by omega, r3] at this
            rw [this]; simp
      obtain ⟨k1, k2, k3⟩ := key _ a h
      refine ⟨m, rfl, k1, k2, fun st => ?_⟩
      have hlast : runS t 1 m (st ++ t.nodes[m].kids) = some (st ++ [(m : Int)]) := by
        simp only [runS, stpS]
        rw [List.getElem?_eq_getElem hm]
        simp only
        rw [if_pos ⟨hf _ (List.getElem_mem hm), by simp, by simp⟩]
        simp
      have := runS_add t (m - a) 1 a st _ (k3 st)
      rw [show m - a + 1 = b - a by omega, show a + (m - a) = m by omega, hlast] at this
      exact this
/-- A stack covers what stands from a place to a place. -/
inductive Seg (t : Te) : Nat → List Int → Nat → Prop
  | nil (a : Nat) : Seg t a [] a
  | cons (a c b : Nat) (st : List Int) (h : ∀ f : Nat, c < f → undT t f c (iotaI a) = iotaI (c + 1)) (h1 : a ≤ c) (h2 : Seg t (c + 1) st b) : Seg t a ((c : Int) :: st) b
theorem Seg.le {t : Te} {a b : Nat} {st : List Int} (s : Seg t a st b) : a ≤ b := by
  induction s with
  | nil => exact Nat.le_refl _
  | cons a c b st h h1 h2 ih => omega
theorem Seg.app {t : Te} {a b c : Nat} {s1 s2 : List Int} (x : Seg t a s1 b) (y : Seg t b s2 c) : Seg t a (s1 ++ s2) c := by
  induction x with
  | nil => exact y
  | cons a c b st h h1 h2 ih => exact .cons _ _ _ _ h h1 (ih y)
theorem Seg.split {t : Te} {c : Nat} {s2 : List Int} : ∀ {s1 : List Int} {a : Nat}, Seg t a (s1 ++ s2) c → ∃ b, Seg t a s1 b ∧ Seg t b s2 c
  | [], a, x => ⟨a, .nil a, x⟩
  | v :: s1, a, x => by
    cases x with
    | cons a k b st h h1 h2 =>
      obtain ⟨m, y, z⟩ := Seg.split h2
      exact ⟨m, .cons _ _ _ _ h h1 y, z⟩
theorem undK_seg {t : Te} {f n : Nat} (hn : n < t.nodes.length) (hf : n ≤ f) : ∀ {ks : List Int} {a : Nat}, Seg t a ks n → undK t.nodes.length (undT t f) n ks (iotaI a) = iotaI (n + 1)
  | [], a, s => by cases s; simp [undK, iotaI_succ]
  | k :: ks, a, s => by
    cases s with
    | cons a c b st h h1 h2 =>
      have := h2.le
      unfold undK
      rw [if_neg (by simp; omega), h f (by omega)]
      exact undK_seg hn hf h2
theorem Seg.step {t : Te} {lo a : Nat} {st st' : List Int} (s : Seg t lo st a) (h : stpS t a st = some st') : Seg t lo st' (a + 1) ∧ ∃ h : a < t.nodes.length, fineP t t.nodes[a] = true := by
  unfold stpS at h
  split at h
  · rename_i nd hnd
    obtain ⟨hlt, rfl⟩ := List.getElem?_eq_some_iff.1 hnd
    split at h
    · rename_i c
      obtain ⟨c1, c2, c3⟩ := c
      obtain rfl := Option.some.inj h
      refine ⟨?_, hlt, c1⟩
      rw [← List.take_append_drop (st.length - t.nodes[a].kids.length) st, c3] at s
      obtain ⟨b, s1, s2⟩ := Seg.split s
      refine s1.app (.cons _ _ _ _ (fun f hf => ?_) s2.le (.nil _))
      obtain ⟨f, rfl⟩ : ∃ g, f = g + 1 := ⟨f - 1, by omega⟩
      unfold undT
      have := s2.le
      rw [if_neg (by simp; omega), Int.toNat_natCast, List.getElem?_eq_getElem hlt]
      exact undK_seg hlt (by omega) s2
    · cases h
  · cases h
theorem Seg.run {t : Te} {lo : Nat} : ∀ (k a : Nat) (st st' : List Int), Seg t lo st a → runS t k a st = some st' → Seg t lo st' (a + k) ∧ ∀ i, a ≤ i → i < a + k → ∃ h : i < t.nodes.length, fineP t t.nodes[i] = true
  | 0, a, st, st', s, h => by simp [runS] at h; subst h; exact ⟨s, fun i h1 h2 => by omega⟩
  | k + 1, a, st, st', s, h => by
    rw [runS] at h
    cases hs : stpS t a st with
    | none => rw [hs] at h; cases h
    | some st2 =>
      rw [hs] at h
      obtain ⟨s2, hlt, hf⟩ := s.step hs
      obtain ⟨s3, h3⟩ := Seg.run k (a + 1) st2 st' s2 h
      refine ⟨by rw [show a + (k + 1) = a + 1 + k by omega]; exact s3, fun i h1 h2 => ?_⟩
      by_cases e : i = a
      · subst e; exact ⟨hlt, hf⟩
      · exact h3 i (by omega) (by omega)
theorem name_eq (s : Str) : nameR s = tokenT s 1 := by
  have hch := scanR_chain s
  unfold nameR tokenT
  generalize scanR s = R at *
  obtain ⟨l, p, e⟩ := R
  match l, hch with
  | [], _ => rfl
  | _ :: _ :: _, _ => rfl
  | [a], hch =>
    obtain ⟨g, h1, h2, _⟩ := hch
    simp only at h2 ⊢
    by_cases k1 : a.kind = 1
    · by_cases k2 : a.text = s
      · have : tokText a = s := by unfold tokText; rw [k1, k2]; simp
        rw [this] at h2
        have h0 : a.at' = 0 := by omega
        simp [k1, k2, h0]
      · simp [k1, k2]
    · have : ¬ (a.kind : Int) = 1 := by omega
      simp [k1, this]
theorem right_fwd (t : Te) : ∀ (rs : List Rl) (seen : List Str) (a b : Nat), rightS t rs seen a = some b → rightR t rs seen (iotaI a) = some (iotaI b) ∧ ∀ i, a ≤ i → i < b → ∃ h : i < t.nodes.length, fineP t t.nodes[i] = true
  | [], seen, a, b, h => by simp [rightS] at h; subst h; exact ⟨rfl, fun i h1 h2 => by omega⟩
  | r :: rs, seen, a, b, h => by
    unfold rightS at h
    split at h
    · rename_i c
      obtain ⟨c1, c2, c3, c4⟩ := c
      split at h
      · rename_i x hx
        obtain ⟨B, hB⟩ : ∃ B : Nat, r.body = (B : Int) := ⟨r.body.toNat, by omega⟩
        rw [hB, Int.toNat_natCast] at hx h
        obtain ⟨s, hs⟩ := Seg.run _ _ _ _ (Seg.nil a) hx
        obtain ⟨k1, k2⟩ := right_fwd t rs _ _ _ h
        have hu : undT t t.nodes.length r.body (iotaI a) = iotaI (B + 1) := by
          rw [show a + (B + 1 - a) = B + 1 by omega] at s
          cases s with
          | cons a c b st h h1 h2 =>
            cases h2
            rw [hB]; exact h _ (by omega)
        refine ⟨?_, fun i h1 h2 => ?_⟩
        · unfold rightR
          rw [if_pos ⟨by rw [name_eq]; exact c1, c2⟩, hu]; exact k1
        · by_cases e : i < B + 1
          · exact hs i h1 (by omega)
          · exact k2 i (by omega) h2
      · cases h
    · cases h
theorem right_bwd (t : Te) (hf : ∀ n ∈ t.nodes, fineP t n = true) : ∀ (rs : List Rl) (seen : List Str) (a : Nat), rightR t rs seen (iotaI a) = some (iotaI t.nodes.length) → rightS t rs seen a = some t.nodes.length
  | [], seen, a, h => by
    simp [rightR] at h
    have := congrArg List.length h
    simp at this
    simp [rightS, this]
  | r :: rs, seen, a, h => by
    unfold rightR at h
    split at h
    · rename_i c
      obtain ⟨c1, c2⟩ := c
      obtain ⟨e1, e2⟩ := iotaI_pre (rightR_pre t _ _ _ _ h)
      obtain ⟨m, hm, q1, q2, q3⟩ := runS_und t hf _ _ _ _ e1 e2
      rw [e1, q2] at h
      have ih := right_bwd t hf rs _ _ h
      unfold rightS
      rw [q2] at q3
      rw [hm, Int.toNat_natCast, if_pos ⟨by rw [← name_eq]; exact c1, c2, by omega, by omega⟩, q3 []]
      exact ih
    · cases h
/-- The program's and the reference's answers are the same. -/
theorem right_eq (t : Te) : rightP t = rightD t := by
  have hfe : ∀ n, fineT t n = fineP t n := fun n => (fineP_eq t n).symm
  unfold rightP rightD
  congr 1
  apply Bool.eq_iff_iff.2
  simp only [decide_eq_true_eq]
  constructor
  · intro h
    obtain ⟨k1, k2⟩ := right_fwd t _ _ _ _ h
    rw [show iotaI 0 = [] from rfl] at k1
    rw [k1]
    simp only [decide_true, Bool.true_and, List.all_eq_true]
    intro n hn
    obtain ⟨i, hi, rfl⟩ := List.getElem_of_mem hn
    obtain ⟨_, hf⟩ := k2 i (by omega) hi
    rw [hfe]; exact hf
  · intro h
    split at h
    · rename_i all hall
      simp only [Bool.and_eq_true, decide_eq_true_eq, List.all_eq_true] at h
      rw [h.1] at hall
      exact right_bwd t (fun n hn => by rw [← hfe]; exact h.2 n hn) _ _ 0 hall
    · cases h
end Go.Proofs.Ytecgbggobecpjaa.Al
namespace Go.Proofs.Ytecgbggobecpjaa.Al
open Go Go.RowKit
set_option linter.unusedSimpArgs false
set_option linter.unusedVariables false
def iotaF (a k : Nat) : List Int := (List.range k).map fun i : Nat => ((a + i : Nat) : Int)
theorem iotaF_zero (k : Nat) : iotaF 0 k = iotaI k := by simp [iotaF, iotaI]
theorem iotaF_succ (a k : Nat) : iotaF a (k + 1) = (a : Int) :: iotaF (a + 1) k := by
  simp only [iotaF, List.range_succ_eq_map, List.map_cons, List.map_map, Nat.add_zero]
  congr 1
  apply List.map_congr_left
  intro i _
  simp only [Function.comp, Nat.succ_eq_add_one]; congr 1; omega
theorem iotaF_add (a j k : Nat) : iotaF a (j + k) = iotaF a j ++ iotaF (a + j) k := by
  induction j generalizing a with
  | zero => simp [iotaF]
  | succ j ih => rw [show j + 1 + k = (j + k) + 1 by omega, iotaF_succ, iotaF_succ, ih, show a + 1 + j = a + (j + 1) by omega]; simp
/-- What is known of a tree that may be. -/
structure RTe (t : Te) : Prop where
  r0 : 0 < t.rules.length
  r1 : t.rules.length ≤ 24
  n1 : t.nodes.length ≤ 200
  names : (rnames t).Nodup
  fine : ∀ n ∈ t.nodes, fineT t n = true
  perm : (t.nodes.flatMap (·.kids) ++ t.rules.map (·.body)).Perm (iotaI t.nodes.length)
  lt : ∀ i (h : i < t.nodes.length), ∀ k ∈ t.nodes[i].kids, 0 ≤ k ∧ k < i
  tok : ∀ r ∈ t.rules, tokenT r.name 1 = true
theorem stpS_perm {t : Te} {a : Nat} {st st' : List Int} (h : stpS t a st = some st') : ∃ hlt : a < t.nodes.length, (t.nodes[a].kids ++ st').Perm (st ++ [(a : Int)]) ∧ fineP t t.nodes[a] = true ∧ (∀ k ∈ t.nodes[a].kids, k ∈ st) ∧ ∀ x ∈ st', x ∈ st ∨ x = a := by
  unfold stpS at h
  split at h
  · rename_i nd hnd
    obtain ⟨hlt, rfl⟩ := List.getElem?_eq_some_iff.1 hnd
    split at h
    · rename_i c
      obtain ⟨c1, c2, c3⟩ := c
      obtain rfl := Option.some.inj h
      refine ⟨hlt, ?_, c1, fun k hk => ?_, fun x hx => ?_⟩
      · have e := List.take_append_drop (st.length - t.nodes[a].kids.length) st
        rw [c3] at e
        rw [← List.append_assoc]
        refine List.Perm.append_right _ ?_
        refine List.perm_append_comm.trans ?_
        rw [e]
      · rw [← c3] at hk; exact List.mem_of_mem_drop hk
      · simp only [List.mem_append, List.mem_singleton] at hx
        exact hx.imp List.mem_of_mem_take id
    · cases h
  · cases h
theorem runS_perm {t : Te} : ∀ (k a : Nat) (st st' : List Int), runS t k a st = some st' → (∀ x ∈ st, 0 ≤ x ∧ x < (a : Int)) →
    (((t.nodes.drop a).take k).flatMap (·.kids) ++ st').Perm (st ++ iotaF a k) ∧ (∀ x ∈ st', 0 ≤ x ∧ x < ((a + k : Nat) : Int)) ∧ ∀ i (h : i < t.nodes.length), a ≤ i → i < a + k → ∀ m ∈ t.nodes[i].kids, 0 ≤ m ∧ m < i
  | 0, a, st, st', h, hs => by
    simp [runS] at h; subst h
    exact ⟨by simp [iotaF], by simpa using hs, fun i _ h1 h2 => by omega⟩
  | k + 1, a, st, st', h, hs => by
    rw [runS] at h
    cases hst : stpS t a st with
    | none => rw [hst] at h; cases h
    | some st2 =>
      rw [hst] at h
      obtain ⟨hlt, p1, p2, p3, p4⟩ := stpS_perm hst
      have hs2 : ∀ x ∈ st2, 0 ≤ x ∧ x < ((a + 1 : Nat) : Int) := fun x hx => by
        rcases p4 x hx with e | e
        · have := hs x e; omega
        · omega
      obtain ⟨q1, q2, q3⟩ := runS_perm k (a + 1) st2 st' h hs2
      refine ⟨?_, by rw [show a + (k + 1) = a + 1 + k by omega]; exact q2, fun i hi h1 h2 m hm => ?_⟩
      · rw [List.drop_eq_getElem_cons hlt, List.take_succ_cons, List.flatMap_cons, List.append_assoc, iotaF_succ]
        refine (List.Perm.append_left _ q1).trans ?_
        rw [← List.append_assoc]
        refine (List.Perm.append_right _ p1).trans ?_
        simp
      · by_cases e : i = a
        · subst e; exact hs m (p3 m hm)
        · exact q3 i hi (by omega) (by omega) m hm
theorem rightS_all {t : Te} : ∀ (rs : List Rl) (seen : List Str) (a b : Nat), rightS t rs seen a = some b → seen.Nodup → a ≤ b ∧
    (seen ++ rs.map (·.name)).Nodup ∧ (((t.nodes.drop a).take (b - a)).flatMap (·.kids) ++ rs.map (·.body)).Perm (iotaF a (b - a)) ∧ (∀ i (h : i < t.nodes.length), a ≤ i → i < b → ∀ m ∈ t.nodes[i].kids, 0 ≤ m ∧ m < i) ∧ ∀ r ∈ rs, tokenT r.name 1 = true
  | [], seen, a, b, h, hs => by
    simp [rightS] at h; subst h
    exact ⟨Nat.le_refl _, by simpa using hs, by simp [iotaF], fun i _ h1 h2 => by omega, by simp⟩
  | r :: rs, seen, a, b, h, hs => by
    unfold rightS at h
    split at h
    · rename_i c
      obtain ⟨c1, c2, c3, c4⟩ := c
      split at h
      · rename_i x hx
        obtain ⟨B, hB⟩ : ∃ B : Nat, r.body = (B : Int) := ⟨r.body.toNat, by omega⟩
        rw [hB, Int.toNat_natCast] at hx h
        have hns : (seen ++ [r.name]).Nodup := by
          rw [List.nodup_append]
          exact ⟨hs, by simp, fun a ha b hb e => by simp at hb; subst e; subst hb; exact c2 ha⟩
        obtain ⟨k1, k2, k3, k4, k5⟩ := rightS_all rs _ _ _ h hns
        obtain ⟨p1, p2, p3⟩ := runS_perm _ _ _ _ hx (by simp)
        obtain ⟨s, hsf⟩ := Seg.run _ _ _ _ (Seg.nil a) hx
        have hxB : x = (B : Int) := by
          rw [show a + (B + 1 - a) = B + 1 by omega] at s
          cases s with
          | cons a c b st h h1 h2 => cases h2; rfl
        subst hxB
        refine ⟨by omega, by simpa using k2, ?_, fun i hi h1 h2 m hm => ?_, fun q hq => ?_⟩
        · have e1 : b - a = (B + 1 - a) + (b - (B + 1)) := by omega
          have e2 : (t.nodes.drop a).take (b - a) = (t.nodes.drop a).take (B + 1 - a) ++ (t.nodes.drop (B + 1)).take (b - (B + 1)) := by
            rw [e1, List.take_add, List.drop_drop, show a + (B + 1 - a) = B + 1 by omega]
          rw [e2, List.flatMap_append, e1, iotaF_add, show a + (B + 1 - a) = B + 1 by omega]
          simp only [List.map_cons, hB]
          simp only [List.nil_append] at p1
          refine List.Perm.trans ?_ (p1.append k3)
          simp only [List.append_assoc]
          refine List.Perm.append_left _ ?_
          refine List.Perm.trans (List.perm_middle) ?_
          simp
        · by_cases e : i < B + 1
          · exact p3 i hi h1 (by omega) m hm
          · exact k4 i hi (by omega) h2 m hm
        · rcases List.mem_cons.1 hq with rfl | hq
          · exact c1
          · exact k5 q hq
      · cases h
    · cases h
theorem rte_of {t : Te} (h : rightP t = true) : RTe t := by
  have hD := h
  rw [right_eq] at hD
  unfold rightP at h
  simp only [Bool.and_eq_true, decide_eq_true_eq] at h
  obtain ⟨⟨⟨h1, h2⟩, h3⟩, h4⟩ := h
  obtain ⟨k1, k2, k3, k4, k5⟩ := rightS_all _ _ _ _ h4 (by simp)
  obtain ⟨_, hfi⟩ := right_fwd t _ _ _ _ h4
  rw [iotaF_zero] at k3
  simp only [Nat.sub_zero, List.drop_zero, List.take_length] at k3
  exact ⟨h1, h2, h3, by simpa [rnames] using k2, fun n hn => by
    obtain ⟨i, hi, rfl⟩ := List.getElem_of_mem hn
    rw [← fineP_eq]; exact (hfi i (by omega) hi).2, k3, fun i hi m hm => k4 i hi (by omega) hi m hm, k5⟩
theorem iotaI_nodup (n : Nat) : (iotaI n).Nodup := by
  unfold iotaI
  refine List.Pairwise.map _ (fun a b h => ?_) List.nodup_range
  intro e; exact h (by omega)
theorem RTe.nodup {t : Te} (r : RTe t) : (t.nodes.flatMap (·.kids) ++ t.rules.map (·.body)).Nodup := r.perm.nodup_iff.2 (iotaI_nodup _)
theorem flat_at {α : Type} {f : α → List Int} : ∀ (l : List α) (i j : Nat) (hi : i < l.length) (hj : j < l.length) (m : Int), (l.flatMap f).Nodup → m ∈ f l[i] → m ∈ f l[j] → i = j
  | [], i, j, hi, hj, m, _, _, _ => by simp at hi
  | a :: l, i, j, hi, hj, m, h, h1, h2 => by
    rw [List.flatMap_cons, List.nodup_append] at h
    match i, j with
    | 0, 0 => rfl
    | 0, j + 1 =>
      exfalso
      simp at h1 h2 hj
      exact h.2.2 m h1 m (List.mem_flatMap.2 ⟨_, List.getElem_mem hj, h2⟩) rfl
    | i + 1, 0 =>
      exfalso
      simp at h1 h2 hi
      exact h.2.2 m h2 m (List.mem_flatMap.2 ⟨_, List.getElem_mem hi, h1⟩) rfl
    | i + 1, j + 1 =>
      simp at hi hj h1 h2
      rw [flat_at l i j hi hj m h.2.1 h1 h2]
/-- A node is one's kid. -/
theorem RTe.one {t : Te} (r : RTe t) {i j : Nat} (hi : i < t.nodes.length) (hj : j < t.nodes.length) {m : Int} (h1 : m ∈ t.nodes[i].kids) (h2 : m ∈ t.nodes[j].kids) : i = j :=
  flat_at (f := (·.kids)) t.nodes i j hi hj m (List.nodup_append.1 r.nodup).1 h1 h2
theorem RTe.body {t : Te} (r : RTe t) {q : Rl} (hq : q ∈ t.rules) : 0 ≤ q.body ∧ q.body < t.nodes.length := by
  have : q.body ∈ iotaI t.nodes.length := r.perm.mem_iff.1 (List.mem_append.2 (.inr (List.mem_map.2 ⟨q, hq, rfl⟩)))
  unfold iotaI at this
  obtain ⟨i, hi, e⟩ := List.mem_map.1 this
  simp at hi
  omega
end Go.Proofs.Ytecgbggobecpjaa.Al
namespace Go.Proofs.Ytecgbggobecpjaa.Al
open Go Go.RowKit
set_option linter.unusedSimpArgs false
set_option linter.unusedVariables false
attribute [-simp] List.getD_eq_getElem?_getD Int.not_lt Int.not_le List.map_take
structure RightG (g : Gm) : Prop where
  head : 0 ≤ g.terms ∧ g.terms ≤ 16 ∧ 1 ≤ g.nons ∧ g.nons ≤ 24 ∧ 0 ≤ g.start ∧ g.start < g.nons ∧ g.prods.length ≤ 60
  prods : ∀ p ∈ g.prods, 0 ≤ p.left ∧ p.left < g.nons ∧ p.right.length ≤ 8 ∧ ∀ s ∈ p.right, 0 ≤ s.n ∧ s.n < (if s.non = true then g.nons else g.terms)
theorem RightG.sym {g : Gm} (r : RightG g) {p : Pr} (hp : p ∈ g.prods) {s : Sy} (hs : s ∈ p.right) : 0 ≤ s.n ∧ s.n ≤ 23 := by
  have h1 := (r.prods p hp).2.2.2 s hs
  have h2 := r.head
  split at h1 <;> omega
end Go.Proofs.Ytecgbggobecpjaa.Al
namespace Go.Proofs.Ytecgbggobecpjaa.Al
open Go Go.RowKit
set_option linter.unusedSimpArgs false
set_option linter.unusedVariables false
attribute [-simp] List.getD_eq_getElem?_getD Int.not_lt Int.not_le List.map_take
/-! ### Steps -/
def okS (s : Sy) : Prop := 0 ≤ s.n ∧ s.n ≤ 23
def okP (p : Pr) : Prop := (0 ≤ p.left ∧ p.left ≤ 23) ∧ p.right.length ≤ 8 ∧ ∀ s ∈ p.right, okS s
def okG (g : Gm) : Prop := (0 ≤ g.terms ∧ g.terms ≤ 16) ∧ (0 ≤ g.nons ∧ g.nons ≤ 24) ∧ (0 ≤ g.start ∧ g.start ≤ 23) ∧ g.prods.length ≤ 60 ∧ ∀ p ∈ g.prods, okP p
theorem RightG.ok {g : Gm} (r : RightG g) : okG g := by
  obtain ⟨a, b, c, d, e, f, i⟩ := r.head
  refine ⟨⟨a, b⟩, ⟨by omega, d⟩, ⟨e, by omega⟩, i, fun p hp => ?_⟩
  obtain ⟨h1, h2, h3, h4⟩ := r.prods p hp
  exact ⟨⟨h1, by omega⟩, h3, fun s hs => r.sym hp hs⟩
/-! ### Readers that may be -/
end Go.Proofs.Ytecgbggobecpjaa.Al
namespace Go.Proofs.Ytecgbggobecpjaa.Al
open Go Go.RowKit
set_option linter.unusedSimpArgs false
set_option linter.unusedVariables false
attribute [-simp] List.getD_eq_getElem?_getD Int.not_lt Int.not_le List.map_take
structure TeSm (t : Te) : Prop where
  r : t.rules.length ≤ 30
  n : t.nodes.length ≤ 210
  rn : ∀ r ∈ t.rules, r.name.length ≤ 2 ^ 30
  nn : ∀ n ∈ t.nodes, n.name.length ≤ 2 ^ 30
  ks : ∀ n ∈ t.nodes, n.kids.length ≤ 2 ^ 30
theorem Bdd_teV (n m : Nat) (t : Te) : Bdd n m (teV t) := by
  simp only [teV, teC, Bdd_agg]
  intro v hv
  simp at hv
  rcases hv with rfl | rfl
  · rw [Bdd_sl0]; exact ⟨by omega, encRl.cells _ _ _⟩
  · rw [Bdd_sl0]; exact ⟨by omega, encNd.cells _ _ _⟩
section
variable {X : Cx} {h : AH} {Q : V → AH → Prop}
theorem Wk.l2 {a b c d : V} (x : Wk a c) (y : Wk b d) : Wk (.agg [a, b]) (.agg [c, d]) := .agg _ _ rfl fun i h1 h2 => by
  match i with
  | 0 => exact x
  | 1 => exact y
  | n + 2 => simp at h1; omega
theorem Wk.sln {e e1 st : Nat} {l : List V} (h : l = [] ∨ e1 = e) : Wk (.sl e1 st l) (.sl e 0 l) := by
  rcases h with rfl | rfl
  · exact .nil _ _ _
  · exact .sl _ _ _
theorem own6_spec (H : Has (Ecx X) K.probatelaw06_Own A.probatelaw06_Own) (t : Te) (hr : t.rules.length ≤ 2 ^ 30) (hn : t.nodes.length ≤ 2 ^ 30) (hQ : Q (teV t) h) : Ecx X K.probatelaw06_Own [teV t] h Q := by
  refine fn_walk H (by simp [A.probatelaw06_Own]) fun wf => ?_
  have htc : teC t = [.sl 2 0 (t.rules.map rlV), .sl 3 0 (t.nodes.map ndV)] := rfl
  have gr := (((Gr.refl h).new (teC t)).new [.sl 0 1 [], .sl 0 1 []]).new [.sl 0 1 [], .sl 0 1 []]
  have hb0 : (((h.new (teC t)).new [.sl 0 1 [], .sl 0 1 []]).new [.sl 0 1 [], .sl 0 1 []]).objs h.nobj = teC t := by simp
  have hb1 : (((h.new (teC t)).new [.sl 0 1 [], .sl 0 1 []]).new [.sl 0 1 [], .sl 0 1 []]).objs (h.nobj + 1) = [.sl 0 1 [], .sl 0 1 []] := by simp
  have hb2 : (((h.new (teC t)).new [.sl 0 1 [], .sl 0 1 []]).new [.sl 0 1 [], .sl 0 1 []]).objs (h.nobj + 2) = [.sl 0 1 [], .sl 0 1 []] := by simp
  have hb3 : (((h.new (teC t)).new [.sl 0 1 [], .sl 0 1 []]).new [.sl 0 1 [], .sl 0 1 []]).nobj = h.nobj + 3 := by simp
  simp [A.probatelaw06_Own, teV, V.cells, V.good, fillV, setAt]
  generalize (((h.new (teC t)).new [.sl 0 1 [], .sl 0 1 []]).new [.sl 0 1 [], .sl 0 1 []]) = h1 at *
  simp [hb0, htc]
  refine loopI (n := t.rules.length) (fun m env h' => ∃ k e1 st, k ≤ t.rules.length ∧ m = t.rules.length - k ∧ Own h h' 2 e1 st ((t.rules.take k).map rlV) ∧ h'.objs h.nobj = teC t ∧ h'.objs (h.nobj + 1) = [.sl 0 1 [], .sl 0 1 []] ∧ h'.objs (h.nobj + 2) = [.sl e1 st ((t.rules.take k).map rlV), .sl 0 1 []] ∧ h.nobj + 3 ≤ h'.nobj ∧
      env = [(1, .ptr h.nobj 0), (2, .ptr (h.nobj + 1) 0), (3, .ptr (h.nobj + 2) 0), (10, .sl 2 0 (t.rules.map rlV)), (11, .int .i64 t.rules.length), (12, .int .i64 k)]) ?_
    ⟨0, 0, 1, by omega, by omega, ⟨gr, .inl rfl, .inl rfl⟩, hb0, hb1, by simpa using hb2, by omega, rfl⟩
  rintro m env h' ⟨k, e1, st, hk, rfl, ow, ob0, ob1, ob2, nb, rfl⟩
  unfold A.probatelaw06_Own.L0
  by_cases hlt : k < t.rules.length
  · have hlt' : (k : Int) < t.rules.length := by omega
    have hg : (t.rules.map rlV).getD k .undef = rlV t.rules[k] := Enc.getD hlt
    have hw1 : IntKind.i64.wrap ((k : Int) + 1) = ((k + 1 : Nat) : Int) := by rw [wrap_i64 (by omega) (by omega)]; rfl
    have hrc : rlC t.rules[k] = [.str t.rules[k].name, .int .i64 t.rules[k].body] := rfl
    have hts : (t.rules.take k).map rlV ++ [rlV t.rules[k]] = (t.rules.take (k + 1)).map rlV := by
      rw [List.take_succ_eq_append_getElem hlt, List.map_append]; rfl
    have hsn : (t.rules.take k).length = k := by simp; omega
    generalize t.rules[k] = r at *
    have n1 : ¬ h.nobj + 2 = h'.nobj := by omega
    have n0 : ¬ h.nobj = h'.nobj := by omega
    have n2 : ¬ h.nobj + 1 = h'.nobj := by omega
    have q0 : (h'.new (rlC r)).objs h'.nobj = rlC r := by simp
    have q1 : (h'.new (rlC r)).objs h.nobj = teC t := by simp [n0, ob0]
    have q2 : (h'.new (rlC r)).objs (h.nobj + 1) = [.sl 0 1 [], .sl 0 1 []] := by simp [n2, ob1]
    have q3 : (h'.new (rlC r)).objs (h.nobj + 2) = [.sl e1 st ((t.rules.take k).map rlV), .sl 0 1 []] := by simp [n1, ob2]
    have q4 : (h'.new (rlC r)).nobj = h'.nobj + 1 := by simp
    have ow2 := ow.new (rlC r)
    simp [hlt', hg, rlV, V.cells, V.good, hrc, setAt]
    rw [← hrc]
    generalize h'.new (rlC r) = h2 at *
    simp [q0, q3, hrc, fillL, V.isAgg]
    rw [← hrc, show V.agg (rlC r) = rlV r from rfl]
    refine ow2.appZ (fun _ => rfl) (by simp [hsn]; omega) fun e2 st2 h3 o3 ob3 no3 => ?_
    rw [hts] at o3 ⊢
    have m0 : ¬ h.nobj = h.nobj + 2 := by omega
    have m1 : ¬ h.nobj + 1 = h.nobj + 2 := by omega
    simp [hw1, V.cells, V.good, setAt, ob3, q3]
    exact ⟨t.rules.length - (k + 1), by omega, iv ⟨k + 1, e2, st2, by omega, rfl, o3.set (by omega) _, by rw [set_objs_ne _ _ _ m0, ob3]; exact q1, by rw [set_objs_ne _ _ _ m1, ob3]; exact q2, by rw [set_objs_same], by rw [set_nobj]; omega, rfl⟩⟩
  · have hlt' : ¬ (k : Int) < t.rules.length := by omega
    obtain rfl : k = t.rules.length := by omega
    rw [List.take_length] at ow ob2
    simp [hlt', ob0, htc]
    have hel := ow.el
    have gr2 := ow.gr
    refine loopI (n := t.nodes.length) (fun m env h2 => ∃ k e2 st2, k ≤ t.nodes.length ∧ m = t.nodes.length - k ∧ Own h h2 3 e2 st2 ((t.nodes.take k).map ndV) ∧ h2.objs (h.nobj + 1) = [.sl 0 1 [], .sl 0 1 []] ∧ h2.objs (h.nobj + 2) = [.sl e1 st (t.rules.map rlV), .sl e2 st2 ((t.nodes.take k).map ndV)] ∧ h.nobj + 3 ≤ h2.nobj ∧
      env = [(2, .ptr (h.nobj + 1) 0), (3, .ptr (h.nobj + 2) 0), (24, .sl 3 0 (t.nodes.map ndV)), (25, .int .i64 t.nodes.length), (26, .int .i64 k)]) ?_
      ⟨0, 0, 1, by omega, by omega, ⟨gr2, .inl rfl, .inl rfl⟩, ob1, by simpa using ob2, by omega, rfl⟩
    clear ow ob0 ob1 ob2 nb gr2 h'
    rintro m env h' ⟨k, e2, st2, hk, rfl, ow, ob1, ob2, nb, rfl⟩
    unfold A.probatelaw06_Own.L1
    by_cases hlt : k < t.nodes.length
    · have hlt' : (k : Int) < t.nodes.length := by omega
      have hg : (t.nodes.map ndV).getD k .undef = ndV t.nodes[k] := Enc.getD hlt
      have hw1 : IntKind.i64.wrap ((k : Int) + 1) = ((k + 1 : Nat) : Int) := by rw [wrap_i64 (by omega) (by omega)]; rfl
      have hnc : ndC t.nodes[k] = [.int .i64 t.nodes[k].kind, .str t.nodes[k].name, .sl 1 0 (ints t.nodes[k].kids)] := rfl
      have hts : (t.nodes.take k).map ndV ++ [ndV t.nodes[k]] = (t.nodes.take (k + 1)).map ndV := by
        rw [List.take_succ_eq_append_getElem hlt, List.map_append]; rfl
      have hsn : (t.nodes.take k).length = k := by simp; omega
      generalize t.nodes[k] = r at *
      have n1 : ¬ h.nobj + 2 = h'.nobj := by omega
      have n2 : ¬ h.nobj + 1 = h'.nobj := by omega
      have q0 : (h'.new (ndC r)).objs h'.nobj = ndC r := by simp
      have q2 : (h'.new (ndC r)).objs (h.nobj + 1) = [.sl 0 1 [], .sl 0 1 []] := by simp [n2, ob1]
      have q3 : (h'.new (ndC r)).objs (h.nobj + 2) = [.sl e1 st (t.rules.map rlV), .sl e2 st2 ((t.nodes.take k).map ndV)] := by simp [n1, ob2]
      have q4 : (h'.new (ndC r)).nobj = h'.nobj + 1 := by simp
      have ow2 := ow.new (ndC r)
      simp [hlt', hg, ndV, V.cells, V.good, hnc, setAt]
      rw [← hnc]
      generalize h'.new (ndC r) = h2 at *
      simp [q0, q3, hnc, fillL, V.isAgg]
      rw [← hnc, show V.agg (ndC r) = ndV r from rfl]
      refine ow2.appZ (fun _ => rfl) (by simp [hsn]; omega) fun e3 st3 h3 o3 ob3 no3 => ?_
      rw [hts] at o3 ⊢
      have m1 : ¬ h.nobj + 1 = h.nobj + 2 := by omega
      simp [hw1, V.cells, V.good, setAt, ob3, q3]
      exact ⟨t.nodes.length - (k + 1), by omega, iv ⟨k + 1, e3, st3, by omega, rfl, o3.set (by omega) _, by rw [set_objs_ne _ _ _ m1, ob3]; exact q2, by rw [set_objs_same], by rw [set_nobj]; omega, rfl⟩⟩
    · have hlt' : ¬ (k : Int) < t.nodes.length := by omega
      obtain rfl : k = t.nodes.length := by omega
      rw [List.take_length] at ow ob2
      have hb := Bdd_teV h.next h.nobj t
      have m1 : ¬ h.nobj + 1 = h.nobj + 2 := by omega
      simp [hlt', ob2, ob1, V.cells, V.good, setAt]
      exact fin_wk (ow.gr.set (by omega) _) (Wk.l2 (Wk.sln hel) (Wk.sln ow.el)) hb hQ
end
/-- Productions, as they lie: of their symbols less may be known. -/
def PrWL : List V → List Pr → Prop
  | [], [] => True
  | v :: vs, p :: ps => (∃ e st, v = .agg [.int .i64 p.left, .sl e st (p.right.map symV)] ∧ (p.right = [] ∨ e = 2)) ∧ PrWL vs ps
  | _, _ => False
theorem PrWL.app : ∀ {vs : List V} {ps : List Pr} {us : List V} {qs : List Pr}, PrWL vs ps → PrWL us qs → PrWL (vs ++ us) (ps ++ qs)
  | [], [], _, _, _, h => h
  | v :: vs, p :: ps, _, _, ⟨a, b⟩, h => ⟨a, PrWL.app b h⟩
theorem PrWL.len : ∀ {vs : List V} {ps : List Pr}, PrWL vs ps → vs.length = ps.length
  | [], [], _ => rfl
  | v :: vs, p :: ps, ⟨_, b⟩ => by simp [PrWL.len b]
theorem PrWL.wkl : ∀ {vs : List V} {ps : List Pr}, PrWL vs ps → WkL (cellsOf vs) (cellsOf (ps.map prV))
  | [], [], _ => .nil
  | v :: vs, p :: ps, ⟨⟨e, st, hv, h⟩, b⟩ => by
    subst hv
    simp only [List.map_cons, cellsOf_cons]
    refine .cons (.same _) (.cons (Wk.sln ?_) (PrWL.wkl b))
    rcases h with h | h
    · left; rw [h]; rfl
    · exact .inr h
theorem PrWL.wk {vs : List V} {ps : List Pr} (h : PrWL vs ps) {e st : Nat} (he : vs = [] ∨ e = 2) : Wk (.sl e st vs) (.sl 2 0 (ps.map prV)) := by
  obtain ⟨a, b⟩ := h.wkl.get
  rcases he with rfl | rfl
  · match ps, h with
    | [], _ => exact .nil _ _ _
  · exact .sld _ _ _ _ (by simp [h.len]) (fun v hv => by
      obtain ⟨p, _, rfl⟩ := List.mem_map.1 hv
      rfl) a b
theorem RTe.in {t : Te} (r : RTe t) {i : Nat} (hi : i < t.nodes.length) : ∀ m ∈ t.nodes[i].kids, 0 ≤ m ∧ m < t.nodes.length := fun m hm => by have := r.lt i hi m hm; omega
end Go.Proofs.Ytecgbggobecpjaa.Al
namespace Go.Proofs.Ytecgbggobecpjaa.Al
open Go Go.RowKit
set_option linter.unusedSimpArgs false
set_option linter.unusedVariables false
attribute [-simp] List.getD_eq_getElem?_getD Int.not_lt Int.not_le List.map_take
structure LSame6 (X : Cx) : Prop where
  same : Has (Ecx X) K.rules_Same A.rules_Same
  same1 : Has (Ecx X) K.rules_Same_1 A.rules_Same_1
  eqR : Has (Ecx X) K.slices_Equal_Rule A.slices_Equal_Rule
  eqN : Has (Ecx X) K.slices_EqualFunc_Node A.slices_EqualFunc_Node
  eqI : Has (Ecx X) K.slices_Equal_int A.slices_Equal_int
theorem eqfF_node : A.slices_EqualFunc_Node = eqfF 3 3 true true [.int .i64 0, .str [], .sl 0 1 []] [.int .i64 0, .str [], .sl 0 1 []] := rfl
section
variable {X : Cx} {h : AH} {Q : V → AH → Prop}
theorem eqI6_spec (H : Has (Ecx X) K.slices_Equal_int A.slices_Equal_int) (a b : List Int) (s t : Nat) (ha : a.length < 2 ^ 62) (hQ : Q (.bool (decide (a = b))) h) : Ecx X K.slices_Equal_int [.sl 1 s (a.map (V.int .i64)), .sl 1 t (b.map (V.int .i64))] h Q := by
  refine fn_walk H (by simp [A.slices_Equal_int]) fun wf => ?_
  by_cases hl : a.length = b.length
  · have hl' : (a.length : Int) = b.length := by omega
    simp [A.slices_Equal_int, hl']
    refine loopI (n := a.length) (fun m env h' => ∃ k, k ≤ a.length ∧ m = a.length - k ∧ h' = h ∧ env = [(0, .sl 1 s (a.map (V.int .i64))), (1, .sl 1 t (b.map (V.int .i64))), (12, .int .i64 b.length), (13, .int .i64 k)] ∧ a.take k = b.take k) ?_ ⟨0, by omega, by omega, rfl, by rfl, rfl⟩
    rintro m env h' ⟨k, hk, rfl, rfl, rfl, he⟩
    unfold A.slices_Equal_int.L0
    by_cases hlt : k < a.length
    · have hlt' : (k : Int) < b.length := by omega
      have hlb : k < b.length := by omega
      have hga : (a.map (V.int .i64)).getD k .undef = (V.int .i64) a[k] := Enc.getD (enc := (V.int .i64)) hlt
      have hgb : (b.map (V.int .i64)).getD k .undef = (V.int .i64) b[k] := Enc.getD (enc := (V.int .i64)) hlb
      have hw1 : IntKind.i64.wrap ((k : Int) + 1) = ((k + 1 : Nat) : Int) := by rw [wrap_i64 (by omega) (by omega)]; rfl
      by_cases e : a[k] = b[k]
      · simp [hl', hlt', hga, hgb, V.cells, V.good, e, hw1]
        exact ⟨a.length - (k + 1), by omega, iv ⟨k + 1, by omega, rfl, rfl, rfl, take_ext2 hlt hlb he e⟩⟩
      · have hf : decide (a = b) = false := by
          simp only [decide_eq_false_iff_not]; rintro rfl; exact e rfl
        rw [hf] at hQ
        simp [hl', hlt', hga, hgb, V.cells, e]; exact fin (by simp) hQ
    · have hlt' : ¬ (k : Int) < b.length := by omega
      simp [hl', hlt']
      refine fin (by simp) ?_
      have hk : k = a.length := by omega
      rw [hk, List.take_length, hl, List.take_length] at he
      simpa [he] using hQ
  · have hl' : ¬ (a.length : Int) = b.length := by omega
    simp [A.slices_Equal_int, hl']
    refine fin (by simp) ?_
    have : decide (a = b) = false := by simp; intro h; exact hl (by rw [h])
    rw [this] at hQ; exact hQ
theorem eqRl_spec (H : Has (Ecx X) K.slices_Equal_Rule A.slices_Equal_Rule) (a b : List Rl) (s t : Nat) (ha : a.length < 2 ^ 62) (hQ : Q (.bool (decide (a = b))) h) : Ecx X K.slices_Equal_Rule [.sl 2 s (a.map rlV), .sl 2 t (b.map rlV)] h Q := by
  refine fn_walk H (by simp [A.slices_Equal_Rule]) fun wf => ?_
  by_cases hl : a.length = b.length
  · have hl' : (a.length : Int) = b.length := by omega
    simp [A.slices_Equal_Rule, hl']
    refine loopI (n := a.length) (fun m env h' => ∃ k, k ≤ a.length ∧ m = a.length - k ∧ h' = h ∧ env = [(0, .sl 2 s (a.map rlV)), (1, .sl 2 t (b.map rlV)), (12, .int .i64 b.length), (13, .int .i64 k)] ∧ a.take k = b.take k) ?_ ⟨0, by omega, by omega, rfl, rfl, rfl⟩
    rintro m env h' ⟨k, hk, rfl, rfl, rfl, he⟩
    unfold A.slices_Equal_Rule.L0
    by_cases hlt : k < a.length
    · have hlt' : (k : Int) < b.length := by omega
      have hlb : k < b.length := by omega
      have hga : (a.map rlV).getD k .undef = rlV a[k] := Enc.getD hlt
      have hgb : (b.map rlV).getD k .undef = rlV b[k] := Enc.getD hlb
      have hw1 : IntKind.i64.wrap ((k : Int) + 1) = ((k + 1 : Nat) : Int) := by rw [wrap_i64 (by omega) (by omega)]; rfl
      by_cases e : a[k] = b[k]
      · simp [hl', hlt', hga, hgb, V.cells, rlV, rlC, e, hw1]
        exact ⟨a.length - (k + 1), by omega, iv ⟨k + 1, by omega, rfl, rfl, rfl, take_ext2 hlt hlb he e⟩⟩
      · have hne : (a[k].name = b[k].name → ¬ a[k].body = b[k].body) := by
          intro e1 e2; apply e; cases ha : a[k]; cases hb : b[k]; simp_all
        have hf : decide (a = b) = false := by
          simp only [decide_eq_false_iff_not]; rintro rfl; exact e rfl
        rw [hf] at hQ
        by_cases e1 : a[k].name = b[k].name <;> by_cases e2 : a[k].body = b[k].body <;> first | exact absurd e2 (hne e1) | (simp [hl', hlt', hga, hgb, V.cells, rlV, rlC, e1, e2]; exact fin (by simp) hQ)
    · have hlt' : ¬ (k : Int) < b.length := by omega
      simp [hl', hlt']
      refine fin (by simp) ?_
      have hk : k = a.length := by omega
      rw [hk, List.take_length, hl, List.take_length] at he
      simpa [he] using hQ
  · have hl' : ¬ (a.length : Int) = b.length := by omega
    simp [A.slices_Equal_Rule, hl']
    refine fin (by simp) ?_
    have : decide (a = b) = false := by simp; intro h; exact hl (by rw [h])
    rw [this] at hQ; exact hQ
theorem ruSame1_spec (L : LSame6 X) (a b : Nd) (ha : a.kids.length < 2 ^ 62) (hQ : Q (.bool (decide (a = b))) h) : Ecx X K.rules_Same_1 [ndV a, ndV b] h Q := by
  refine fn_walk L.same1 (by simp [A.rules_Same_1]) fun wf => ?_
  have gr := ((Gr.refl h).new (ndC a)).new (ndC b)
  simp [A.rules_Same_1, ndV, V.cells, V.good, ndC] at gr ⊢
  have hd : decide (a = b) = (decide (a.kind = b.kind) && decide (a.name = b.name) && decide (a.kids = b.kids)) := by
    obtain ⟨l1, r1, k1⟩ := a; obtain ⟨l2, r2, k2⟩ := b
    by_cases e1 : l1 = l2 <;> by_cases e2 : r1 = r2 <;> by_cases e3 : k1 = k2 <;> simp [e1, e2, e3]
  rw [hd] at hQ
  by_cases e1 : a.kind = b.kind
  case neg => simp [e1] at hQ ⊢; exact fin_wk gr (.same _) (by simp) hQ
  by_cases e2 : a.name = b.name
  case neg => simp [e1, e2] at hQ gr ⊢; exact fin_wk gr (.same _) (by simp) hQ
  simp [e1, e2] at hQ gr ⊢
  refine ecall (eqI6_spec L.eqI a.kids b.kids 0 0 ha ?_)
  simp
  exact fin_wk gr (.same _) (by simp) hQ
theorem ruSame_spec (L : LSame6 X) (a b : Te) (hr : a.rules.length < 2 ^ 62) (hn : a.nodes.length < 2 ^ 62) (hk : ∀ n ∈ a.nodes, n.kids.length < 2 ^ 62) (hQ : Q (.bool (decide (a = b))) h) : Ecx X K.rules_Same [teV a, teV b] h Q := by
  refine fn_walk L.same (by simp [A.rules_Same]) fun wf => ?_
  have gr := ((Gr.refl h).new (teC a)).new (teC b)
  simp [A.rules_Same, teV, V.cells, V.good, show ∀ t, teC t = [.sl 2 0 (t.rules.map rlV), .sl 3 0 (t.nodes.map ndV)] from fun _ => rfl] at gr ⊢
  have hd : decide (a = b) = (decide (a.rules = b.rules) && decide (a.nodes = b.nodes)) := by
    obtain ⟨r1, k1⟩ := a; obtain ⟨r2, k2⟩ := b
    by_cases e1 : r1 = r2 <;> by_cases e2 : k1 = k2 <;> simp [e1, e2]
  rw [hd] at hQ
  refine ecall (eqRl_spec L.eqR a.rules b.rules 0 0 hr ?_)
  by_cases e1 : a.rules = b.rules
  case neg => simp [e1] at hQ ⊢; exact fin_wk gr (.same _) (by simp) hQ
  simp [e1] at hQ gr ⊢
  have heq := L.eqN
  rw [eqfF_node] at heq
  refine ecall (equalFunc rfl rfl encNd encNd heq a.nodes b.nodes 0 0 _ [] [] (fun p q => decide (p = q)) hn (fun p hp q _ Q' h' _ hQ' => ruSame1_spec L p q (hk p hp) hQ') ?_)
  have : allEq (fun p q : Nd => decide (p = q)) a.nodes b.nodes = decide (a.nodes = b.nodes) := by
    by_cases e : a.nodes = b.nodes
    · simp [e, (allEq_iff (f := fun p q : Nd => decide (p = q)) (by simp) _ _).2 rfl]
    · cases h1 : allEq (fun p q : Nd => decide (p = q)) a.nodes b.nodes with
      | false => simp [e]
      | true => exact absurd ((allEq_iff (f := fun p q : Nd => decide (p = q)) (by simp) _ _).1 h1) e
  rw [this]
  simp
  exact fin_wk gr (.same _) (by simp) hQ
theorem ruSameR_spec (H : Has (Ecx X) K.probateref06_Same A.probateref06_Same) (H2 : Has (Ecx X) K.probateref02_Same A.probateref02_Same) (a b : Te) (hr : a.rules.length < 2 ^ 40) (hn : a.nodes.length < 2 ^ 40) (hk : ∀ n ∈ a.nodes, n.kids.length ≤ 2 ^ 40) (hQ : Q (.bool (decide (a = b))) h) :
    Ecx X K.probateref06_Same [teV a, teV b] h Q := by
  refine fn_walk H (by simp [A.probateref06_Same]) fun wf => ?_
  have gr := ((Gr.refl h).new [.sl 2 0 (a.rules.map rlV), .sl 3 0 (a.nodes.map ndV)]).new [.sl 2 0 (b.rules.map rlV), .sl 3 0 (b.nodes.map ndV)]
  have o1 : ((h.new [.sl 2 0 (a.rules.map rlV), .sl 3 0 (a.nodes.map ndV)]).new [.sl 2 0 (b.rules.map rlV), .sl 3 0 (b.nodes.map ndV)]).objs h.nobj = [.sl 2 0 (a.rules.map rlV), .sl 3 0 (a.nodes.map ndV)] := by simp
  have o2 : ((h.new [.sl 2 0 (a.rules.map rlV), .sl 3 0 (a.nodes.map ndV)]).new [.sl 2 0 (b.rules.map rlV), .sl 3 0 (b.nodes.map ndV)]).objs (h.nobj + 1) = [.sl 2 0 (b.rules.map rlV), .sl 3 0 (b.nodes.map ndV)] := by simp
  have hd : decide (a = b) = (decide (a.rules = b.rules) && decide (a.nodes = b.nodes)) := by
    obtain ⟨r1, k1⟩ := a; obtain ⟨r2, k2⟩ := b
    by_cases e1 : r1 = r2 <;> by_cases e2 : k1 = k2 <;> simp [e1, e2]
  rw [hd] at hQ
  simp [A.probateref06_Same, teV, V.cells, V.good, show ∀ t, teC t = [.sl 2 0 (t.rules.map rlV), .sl 3 0 (t.nodes.map ndV)] from fun _ => rfl]
  generalize (h.new [.sl 2 0 (a.rules.map rlV), .sl 3 0 (a.nodes.map ndV)]).new [.sl 2 0 (b.rules.map rlV), .sl 3 0 (b.nodes.map ndV)] = h1 at *
  by_cases l1 : a.rules.length = b.rules.length
  case neg =>
    have : ¬ a.rules = b.rules := fun e => l1 (by rw [e])
    have l1' : ¬ (a.rules.length : Int) = b.rules.length := by omega
    simp [this] at hQ
    simp [o1, o2, l1, l1']
    exact fin_wk gr (.same _) (by simp) hQ
  by_cases l2 : a.nodes.length = b.nodes.length
  case neg =>
    have : ¬ a.nodes = b.nodes := fun e => l2 (by rw [e])
    have l2' : ¬ (a.nodes.length : Int) = b.nodes.length := by omega
    simp [this] at hQ
    simp [o1, o2, l1, l2, l2']
    exact fin_wk gr (.same _) (by simp) hQ
  simp [o1, o2, l1, l2]
  refine loopI (n := a.rules.length) (fun m env h' => ∃ k, k ≤ a.rules.length ∧ m = a.rules.length - k ∧ h' = h1 ∧ env = [(2, .ptr h.nobj 0), (3, .ptr (h.nobj + 1) 0), (5, .int .i64 k)] ∧ a.rules.take k = b.rules.take k) ?_ ⟨0, by omega, by omega, rfl, rfl, rfl⟩
  rintro m env h' ⟨k, hk1, rfl, rfl, rfl, he⟩
  unfold A.probateref06_Same.L0
  by_cases hlt : k < a.rules.length
  · have hlb : k < b.rules.length := by omega
    have hlt' : (k : Int) < b.rules.length := by omega
    have hla' : (k : Int) < a.rules.length := by omega
    have hga : (a.rules.map rlV).getD k .undef = rlV a.rules[k] := Enc.getD hlt
    have hgb : (b.rules.map rlV).getD k .undef = rlV b.rules[k] := Enc.getD hlb
    have hw1 : IntKind.i64.wrap ((k : Int) + 1) = ((k + 1 : Nat) : Int) := by rw [wrap_i64 (by omega) (by omega)]; rfl
    by_cases e : a.rules[k] = b.rules[k]
    · simp [o1, o2, hlt, hlb, hlt', hla', hga, hgb, V.cells, rlV, rlC, e, hw1]
      exact ⟨a.rules.length - (k + 1), by omega, iv ⟨k + 1, by omega, rfl, rfl, rfl, take_ext2 hlt hlb he e⟩⟩
    · have hne : (a.rules[k].name = b.rules[k].name → ¬ a.rules[k].body = b.rules[k].body) := by
        intro e1 e2; apply e; cases ha : a.rules[k]; cases hb : b.rules[k]; simp_all
      have hf : ¬ a.rules = b.rules := by
        intro e2; apply e; simp only [e2]
      simp [hf] at hQ
      by_cases e1 : a.rules[k].name = b.rules[k].name <;> by_cases e2 : a.rules[k].body = b.rules[k].body <;> first | exact absurd e2 (hne e1) | (simp [o1, o2, hlt, hlb, hlt', hla', hga, hgb, V.cells, rlV, rlC, e1, e2]; exact fin_wk gr (.same _) (by simp) hQ)
  · have hla' : ¬ (k : Int) < a.rules.length := by omega
    have er : a.rules = b.rules := by
      have hk : k = a.rules.length := by omega
      rw [hk, List.take_length, l1, List.take_length] at he; exact he
    simp [er] at hQ
    simp [o1, hla', hlt]
    refine loopI (n := a.nodes.length) (fun m env h2 => ∃ k, k ≤ a.nodes.length ∧ m = a.nodes.length - k ∧ h2 = h' ∧ env = [(2, .ptr h.nobj 0), (3, .ptr (h.nobj + 1) 0), (6, .int .i64 k)] ∧ a.nodes.take k = b.nodes.take k) ?_ ⟨0, by omega, by omega, rfl, rfl, rfl⟩
    rintro m env h2 ⟨k, hk1, rfl, rfl, rfl, he⟩
    unfold A.probateref06_Same.L1
    by_cases hlt : k < a.nodes.length
    · have hlb : k < b.nodes.length := by omega
      have hlt' : (k : Int) < b.nodes.length := by omega
      have hla' : (k : Int) < a.nodes.length := by omega
      have hga : (a.nodes.map ndV).getD k .undef = ndV a.nodes[k] := Enc.getD hlt
      have hgb : (b.nodes.map ndV).getD k .undef = ndV b.nodes[k] := Enc.getD hlb
      have hw1 : IntKind.i64.wrap ((k : Int) + 1) = ((k + 1 : Nat) : Int) := by rw [wrap_i64 (by omega) (by omega)]; rfl
      have hno : a.nodes[k] ≠ b.nodes[k] → ¬ a.nodes = b.nodes := fun e e2 => e (by simp only [e2])
      by_cases e1 : a.nodes[k].kind = b.nodes[k].kind
      case neg =>
        have hf := hno (fun e => e1 (by rw [e]))
        simp [hf] at hQ
        simp [o1, o2, hlt, hlb, hlt', hla', hga, hgb, V.cells, ndV, ndC, e1]
        exact fin_wk gr (.same _) (by simp) hQ
      by_cases e2 : a.nodes[k].name = b.nodes[k].name
      case neg =>
        have hf := hno (fun e => e2 (by rw [e]))
        simp [hf] at hQ
        simp [o1, o2, hlt, hlb, hlt', hla', hga, hgb, V.cells, ndV, ndC, e1, e2]
        exact fin_wk gr (.same _) (by simp) hQ
      by_cases e3 : a.nodes[k].kids = b.nodes[k].kids
      · have e : a.nodes[k] = b.nodes[k] := by cases ha : a.nodes[k]; cases hb : b.nodes[k]; simp_all
        simp [o1, o2, hlt, hlb, hlt', hla', hga, hgb, V.cells, ndV, ndC, e1, e2]
        refine dcall (.bool true) (sameI_spec H2 a.nodes[k].kids b.nodes[k].kids 0 0 (hk _ (List.getElem_mem hlt)) ⟨by rw [decide_eq_true e3], rfl⟩) ?_
        simp [hw1]
        exact ⟨a.nodes.length - (k + 1), by omega, iv ⟨k + 1, by omega, rfl, rfl, rfl, take_ext2 hlt hlb he e⟩⟩
      · have hf := hno (fun e => e3 (by rw [e]))
        simp [hf] at hQ
        simp [o1, o2, hlt, hlb, hlt', hla', hga, hgb, V.cells, ndV, ndC, e1, e2]
        refine dcall (.bool false) (sameI_spec H2 a.nodes[k].kids b.nodes[k].kids 0 0 (hk _ (List.getElem_mem hlt)) ⟨by rw [decide_eq_false e3], rfl⟩) ?_
        simp
        exact fin_wk gr (.same _) (by simp) hQ
    · have hla' : ¬ (k : Int) < a.nodes.length := by omega
      have er : a.nodes = b.nodes := by
        have hk : k = a.nodes.length := by omega
        rw [hk, List.take_length, l2, List.take_length] at he; exact he
      simp [er] at hQ
      simp [o1, hla', hlt]
      exact fin_wk gr (.same _) (by simp) hQ
end
end Go.Proofs.Ytecgbggobecpjaa.Al
namespace Go.Proofs.Ytecgbggobecpjaa.Al
open Go Go.RowKit
set_option linter.unusedSimpArgs false
set_option linter.unusedVariables false
attribute [-simp] List.getD_eq_getElem?_getD Int.not_lt Int.not_le List.drop_one List.map_take
theorem scanL_at : ∀ (n : Nat) (s : Str) (k p : Nat), (scanL n s k).2 = some p → p ≤ k + s.length
  | 0, s, k, p, h => by simp [scanL] at h
  | n + 1, s, k, p, h => by
    by_cases hne : s = []
    · subst hne; simp [scanL_nil] at h
    rw [scanL_step k hne] at h
    split at h
    · simp at h; omega
    · have := scanL_at n _ _ p h
      have hle := sfirst_le hne
      simp at this; omega
theorem scanR_at (s : Str) : (scanR s).2.1 ≤ s.length := by
  unfold scanR
  split
  · simp
  · split
    · rename_i p h; have := scanL_at _ _ _ _ h; simp; omega
    · simp
theorem scanR_small {s : Str} (hs : s.length ≤ 4000) : scanR s = match (scanL s.length s 0).2 with
    | some p => ([], p, 2)
    | none => ((scanL s.length s 0).1, 0, 0) := by
  unfold scanR; rw [if_neg (by omega)]
  cases (scanL s.length s 0).2 <;> rfl
end Go.Proofs.Ytecgbggobecpjaa.Al
namespace Go.Proofs.Ytecgbggobecpjaa.Al
open Go Go.RowKit
set_option linter.unusedSimpArgs false
set_option linter.unusedVariables false
attribute [-simp] List.getD_eq_getElem?_getD Int.not_lt Int.not_le List.map_take List.map_map
/-! ### Names -/
/-- The first name that an earlier one has. -/
def twiceP : List Str → List Use → Option Nat
  | _, [] => none
  | seen, u :: l => if u.name ∈ seen then some u.at' else twiceP (seen ++ [u.name]) l
def missP (seen : List Str) : List Use → Option Nat
  | [] => none
  | u :: l => if u.name ∈ seen then missP seen l else some u.at'
def namesP (given used : List Use) : Nat × Int := match twiceP [] given with
  | some p => (p, 7)
  | none => match missP (given.map (·.name)) used with
    | some p => (p, 6)
    | none => (0, 0)
def entN (l : List Str) : List V := l.map fun s => .tup [.str s, .int .i64 1]
theorem findE_entN (s : Str) : ∀ (l : List Str) (j : Nat), (s ∉ l ∧ findE .s (.str s) (entN l) j = some none ∧ (∀ v, findE .s (.str s) (entN l ++ [.tup [.str s, v]]) j = some (some (j + l.length, v)))) ∨
    (s ∈ l ∧ ∃ i, i < l.length ∧ findE .s (.str s) (entN l) j = some (some (j + i, .int .i64 1)) ∧ ∀ v, findE .s (.str s) ((entN l).set i (.tup [.str s, v])) j = some (some (j + i, v)))
  | [], j => .inl ⟨by simp, rfl, fun v => by simp [entN, findE, eqKey, eqLeaf]⟩
  | a :: l, j => by
    by_cases c : s = a
    · exact .inr ⟨by simp [c], 0, by simp, by simp [c, entN, findE, eqKey, eqLeaf], fun v => by simp [entN, findE, eqKey, eqLeaf]⟩
    · have hs : ∀ r, findE .s (.str s) (.tup [.str a, .int .i64 1] :: r) j = findE .s (.str s) r (j + 1) := fun r => by simp [findE, eqKey, eqLeaf, c]
      have e : entN (a :: l) = .tup [.str a, .int .i64 1] :: entN l := rfl
      rw [e, hs]
      rcases findE_entN s l (j + 1) with ⟨h1, h2, h3⟩ | ⟨h1, i, h2, h3, h4⟩
      · refine .inl ⟨by simp [c, h1], h2, fun v => ?_⟩
        rw [List.cons_append, hs, h3]; simp; omega
      · refine .inr ⟨by simp [h1], i + 1, by simpa using h2, by rw [h3, show j + 1 + i = j + (i + 1) by omega], fun v => ?_⟩
        rw [List.set_cons_succ, hs, h4, show j + 1 + i = j + (i + 1) by omega]
section
variable {X : Cx} {h : AH} {Q : V → AH → Prop}
theorem uses_getD {l : List Use} {i : Nat} (h : i < l.length) : (l.map useV).getD i .undef = .agg [.str l[i].name, .int .i64 (l[i].at' : Nat)] := by
  simp [List.getD, h, useV]
theorem ruNames_spec (H : Has (Ecx X) K.rules_reader_names A.rules_reader_names) {o : Nat} {c0 c1 c2 c3 c4 : V} {e3 e4 s3 s4 : Nat} {G U : List Use} (ob : h.objs o = [c0, c1, c2, c3, c4, .sl e3 s3 (G.map useV), .sl e4 s4 (U.map useV)]) (ho : o < h.nobj) (hg : G.length < 2 ^ 60) (hu : U.length < 2 ^ 60)
    (he3 : G = [] ∨ e3 = 2) (he4 : U = [] ∨ e4 = 2) (hQ : Q (.tup [.int .i64 ((namesP G U).1 : Nat), .int .i64 (namesP G U).2]) h) : Ecx X K.rules_reader_names [.ptr o 0] h Q := by
  refine fn_walk H (by simp [A.rules_reader_names]) fun wf => ?_
  have n1 : ¬ o = h.nobj := by omega
  simp [A.rules_reader_names, ob, n1]
  refine loopI (n := G.length) (fun m env h' => ∃ k, k ≤ G.length ∧ m = G.length - k ∧ Gr h h' ∧ h'.objs h.nobj = entN ((G.take k).map (·.name)) ∧ h.nobj < h'.nobj ∧ env = [(0, .ptr o 0), (4, .mapr h.nobj), (13, .sl e3 s3 (G.map useV)), (14, .int .i64 G.length), (15, .int .i64 k)] ∧
      twiceP [] G = twiceP ((G.take k).map (·.name)) (G.drop k)) ?_ ⟨0, by omega, by omega, (Gr.refl h).new _, by simp [entN], by simp, rfl, rfl⟩
  rintro m env h' ⟨k, hk, rfl, gr, om, nb, rfl, ht⟩
  unfold A.rules_reader_names.L0
  by_cases hlt : k < G.length
  · obtain rfl : e3 = 2 := he3.resolve_left (by rintro rfl; simp at hlt)
    have hlt' : (k : Int) < G.length := by omega
    have hgd := uses_getD hlt
    have hw1 : IntKind.i64.wrap ((k : Int) + 1) = ((k + 1 : Nat) : Int) := by rw [wrap_i64 (by omega) (by omega)]; rfl
    have q1 : ¬ h'.nobj = h.nobj := by omega
    have q2 : ¬ h.nobj = h'.nobj := by omega
    have hd : G.drop k = G[k] :: G.drop (k + 1) := List.drop_eq_getElem_cons hlt
    rw [hd] at ht
    have htk : (G.take (k + 1)).map (·.name) = (G.take k).map (·.name) ++ [G[k].name] := by rw [List.take_succ_eq_append_getElem hlt, List.map_append]; rfl
    have w1 : IntKind.i64.wrap 1 = 1 := by decide
    have w2 : IntKind.i64.wrap 2 = 2 := by decide
    rcases findE_entN G[k].name ((G.take k).map (·.name)) 0 with ⟨f1, f2, f3⟩ | ⟨f1, i, f2, f3, f4⟩
    · have ht' : twiceP [] G = twiceP ((G.take (k + 1)).map (·.name)) (G.drop (k + 1)) := by rw [ht, twiceP, if_neg f1, htk]
      simp [hlt', hgd, V.cells, V.good, setAt, om, q1, q2, f2, f3, w1]
      exact ⟨G.length - (k + 1), by omega, iv ⟨k + 1, by omega, rfl, (gr.set (Nat.le_refl _) _).new _, by rw [htk]; simp [q2, entN], by simp; omega, by simp [hw1], ht'⟩⟩
    · have ht' : twiceP [] G = some G[k].at' := by rw [ht, twiceP, if_pos f1]
      simp [hlt', hgd, V.cells, V.good, setAt, om, q1, q2, f3, f4, w2]
      have hq : namesP G U = (G[k].at', 7) := by unfold namesP; rw [ht']
      rw [hq] at hQ
      exact fin_wk ((gr.set (Nat.le_refl _) _).new _) (.same _) (by simp) hQ
  · have hlt' : ¬ (k : Int) < G.length := by omega
    obtain rfl : k = G.length := by omega
    rw [List.take_length, List.drop_length] at ht
    rw [List.take_length] at om
    have ht' : twiceP [] G = none := ht
    have hq : namesP G U = match missP (G.map (·.name)) U with
      | some p => (p, 6)
      | none => (0, 0) := by unfold namesP; rw [ht']
    rw [hq] at hQ
    have q1 : ¬ o = h.nobj := n1
    have ob' : h'.objs o = [c0, c1, c2, c3, c4, .sl e3 s3 (G.map useV), .sl e4 s4 (U.map useV)] := (gr.objs o ho).trans ob
    simp [hlt', ob']
    refine loopI (n := U.length) (fun m env h2 => ∃ k, k ≤ U.length ∧ m = U.length - k ∧ Gr h h2 ∧ h2.objs h.nobj = entN (G.map (·.name)) ∧ h.nobj < h2.nobj ∧ env = [(4, .mapr h.nobj), (35, .sl e4 s4 (U.map useV)), (36, .int .i64 U.length), (37, .int .i64 k)] ∧
        missP (G.map (·.name)) U = missP (G.map (·.name)) (U.drop k)) ?_ ⟨0, by omega, by omega, gr, om, nb, rfl, rfl⟩
    rintro m env h2 ⟨k, hk, rfl, gr2, om2, nb2, rfl, hm⟩
    unfold A.rules_reader_names.L1
    by_cases hlt : k < U.length
    · obtain rfl : e4 = 2 := he4.resolve_left (by rintro rfl; simp at hlt)
      have hlt' : (k : Int) < U.length := by omega
      have hgd := uses_getD hlt
      have hw1 : IntKind.i64.wrap ((k : Int) + 1) = ((k + 1 : Nat) : Int) := by rw [wrap_i64 (by omega) (by omega)]; rfl
      have q1 : ¬ h2.nobj = h.nobj := by omega
      have q2 : ¬ h.nobj = h2.nobj := by omega
      have hd : U.drop k = U[k] :: U.drop (k + 1) := List.drop_eq_getElem_cons hlt
      rw [hd, missP] at hm
      rcases findE_entN U[k].name (G.map (·.name)) 0 with ⟨f1, f2, f3⟩ | ⟨f1, i, f2, f3, f4⟩
      · rw [if_neg f1] at hm
        rw [hm] at hQ
        simp [hlt', hgd, V.cells, V.good, setAt, om2, q1, q2, f2]
        exact fin_wk (gr2.new _) (.same _) (by simp) hQ
      · rw [if_pos f1] at hm
        simp [hlt', hgd, V.cells, V.good, setAt, om2, q1, q2, f3, hw1]
        exact ⟨U.length - (k + 1), by omega, iv ⟨k + 1, by omega, rfl, gr2.new _, by simp [q2, om2], by simp; omega, rfl, hm⟩⟩
    · have hlt' : ¬ (k : Int) < U.length := by omega
      obtain rfl : k = U.length := by omega
      rw [List.drop_length] at hm
      rw [hm] at hQ
      simp [hlt']
      exact fin_wk gr2 (.same _) (by simp) hQ
/-! ### Read -/
def noTe : Te := ⟨[], []⟩
def ruRd (s : Str) : Te × Nat × Int :=
  if (scanR s).2.2 ≠ 0 then (noTe, (scanR s).2.1, (scanR s).2.2)
  else match textP (scanR s).1 s.length with
    | .error p => (noTe, p, 2)
    | .ok (st, _) => if 24 < st.rules.length ∨ 200 < st.nodes.length then (noTe, 0, 5)
      else if (namesP st.given st.used).2 ≠ 0 then (noTe, (namesP st.given st.used).1, (namesP st.given st.used).2)
      else (⟨st.rules, st.nodes⟩, 0, 0)
def ruRdV (s : Str) : V := .tup [teV (ruRd s).1, .int .i64 ((ruRd s).2.1 : Nat), .int .i64 (ruRd s).2.2]
structure LRead (X : Cx) : Prop where
  ls : LS X
  parse : ∀ (toks : List Tok) (en : Nat) (h : AH) (o : Nat) (σ : S4) (Q : V → AH → Prop), RdP toks en h o ⟨0, [], [], [], []⟩ σ → toks.length < 2 ^ 30 → (∀ t ∈ toks, t.kind = 1 ∨ t.kind = 2 ∨ t.kind = 3) →
    (∀ s, textP toks en = .ok (s, ()) → ∀ h1 σ1, RE h h1 o σ σ1 → RdP toks en h1 o s σ1 → Q (.int .i64 (-1)) h1) → (∀ p, textP toks en = .error p → ∀ h1 σ1, RE h h1 o σ σ1 → Q (.int .i64 (p : Nat)) h1) → Ecx X K.rules_reader_parse [.ptr o 0] h Q
  names : Has (Ecx X) K.rules_reader_names A.rules_reader_names
  read : Has (Ecx X) K.rules_Read A.rules_Read
theorem RE.gr {h0 h h1 : AH} {o : Nat} {σ σ1 : S4} (G : Gr h0 h) (f : RE h h1 o σ σ1) (ho : h0.nobj ≤ o) (hs : ∀ s, σ.has s → s ≤ 2 ∨ h0.next ≤ s) : Gr h0 h1 := by
  have g1 := G.next
  have g2 := G.nobj
  exact ⟨Nat.le_trans g1 f.next, Nat.le_trans g2 f.nobj, fun o' h' => (f.objs o' (by omega) (by omega)).trans (G.objs o' h'), fun s h' => (f.tips s (by omega) (by
    by_cases c : σ.has s
    · rcases hs s c with d | d
      · exact .inr d
      · omega
    · exact .inl c)).trans (G.tips s h')⟩
theorem scan_kinds (s : Str) : ∀ t ∈ (scanR s).1, t.kind = 1 ∨ t.kind = 2 ∨ t.kind = 3 := fun t ht => by
  rcases chain_good (scanR_chain s) t ht with ⟨a, _⟩ | ⟨a, _⟩ | ⟨a, _⟩
  · exact .inl a
  · exact .inr (.inl a)
  · exact .inr (.inr a)
theorem wk_tree {e1 s1 e2 s2 : Nat} {R : List Rl} {N : List V} {l : List Nd} (h1 : R = [] ∨ e1 = 2) (h2 : l = [] ∨ e2 = 3) (hN : WkE N (l.map ndV)) : Wk (.agg [.sl e1 s1 (R.map rlV), .sl e2 s2 N]) (teV ⟨R, l⟩) := by
  have w1 : Wk (.sl e1 s1 (R.map rlV)) (.sl 2 0 (R.map rlV)) := by
    rcases h1 with rfl | rfl
    · exact .nil _ _ _
    · exact .sl _ _ _
  have w2 : Wk (.sl e2 s2 N) (.sl 3 0 (l.map ndV)) := by
    rcases h2 with rfl | rfl
    · cases hN; exact .nil _ _ _
    · exact hN.sl (fun v hv => by obtain ⟨n, _, rfl⟩ := List.mem_map.1 hv; rfl)
  refine .agg _ _ rfl fun i i1 i2 => ?_
  match i with
  | 0 => exact w1
  | 1 => exact w2
  | n + 2 => simp at i1; omega
theorem bdd_te (n m : Nat) (t : Te) : Bdd n m (teV t) := by
  rw [teV, Bdd_agg]
  intro v hv
  simp only [teC, List.mem_cons, List.not_mem_nil, or_false] at hv
  rcases hv with rfl | rfl
  · rw [Bdd_sl0]; exact ⟨.inl (by omega), encRl.cells _ _ _⟩
  · rw [Bdd_sl0]; exact ⟨.inl (by omega), encNd.cells _ _ _⟩
theorem ruRead_spec (L : LRead X) (s : Str) (hl : s.length ≤ 2 ^ 28) (hQ : Q (ruRdV s) h) : Ecx X K.rules_Read [.str s] h Q := by
  refine fn_walk L.read (by simp [A.rules_Read]) fun wf => ?_
  have n1 : ¬ h.nobj + 1 = h.nobj := by omega
  have hwl : (scanR s).1.length ≤ s.length := scanR_len s
  simp [A.rules_Read]
  refine ecall (scan_spec L.ls s (by omega) ?_)
  simp [scanV]
  have hem : ∀ (h1 : AH), Gr h h1 → ∀ (a : Nat) (e : Int), ruRdV s = .tup [teV noTe, .int .i64 (a : Nat), .int .i64 e] → Fin h (V.tup [V.agg [V.sl 0 1 [], V.sl 0 1 []], V.int IntKind.i64 a, V.int IntKind.i64 e]) h1 (Lz.mk (a := Q)) := fun h1 g a e hr => by
    refine fin_wk (r := .tup [teV noTe, .int .i64 (a : Nat), .int .i64 e]) g ((wk_tree (R := []) (l := []) (.inl rfl) (.inl rfl) .nil).t3 _ _) ?_ (by rw [← hr]; exact hQ)
    simp [teV, teC, noTe]
  by_cases c1 : (scanR s).2.2 = 0
  · simp [c1]
    refine ecall (L.parse (scanR s).1 s.length _ _ ⟨1, 1, 1, 1⟩ _ ⟨[], .nil, ⟨0, 0, 0, 0, by simp, ⟨.inl rfl, .inl rfl⟩, ⟨.inl rfl, .inl rfl⟩, ⟨.inl rfl, .inl rfl⟩, ⟨.inl rfl, .inl rfl⟩⟩, by simp, wf.lo, fun s hs => by
      rcases hs with e | e | e | e <;> exact .inl (by rw [e]; exact Nat.le_succ 1), by simp, by simp, by simp, by simp, by simp, by simp⟩ (by omega) (scan_kinds s) (fun st ht h1 σ1 f r => ?_) (fun p ht h1 σ1 f => ?_))
    · have gr : Gr h h1 := RE.gr (((Gr.refl h).new _).new _) f (by omega) (fun s hs => by
        rcases hs with e | e | e | e <;> exact .inl (by rw [e]; exact Nat.le_succ 1))
      have o2 : h1.objs h.nobj = [.sl 0 1 [], .sl 0 1 []] := (f.objs _ (by simp) (by omega)).trans (by simp)
      have hn := f.nobj
      simp at hn
      obtain ⟨N, hN, rd⟩ := r
      obtain ⟨e1, e2, e3, e4, ob, m1, m2, m3, m4⟩ := rd.ob
      have hNl := hN.len
      simp only [List.length_map] at hNl
      simp [ob]
      by_cases c2 : 24 < st.rules.length
      · have c2' : (24 : Int) < st.rules.length := by omega
        simp [c2', o2]
        exact hem _ (gr.set (Nat.le_refl _) _) 0 5 (by simp [ruRdV, ruRd, c1, ht, c2])
      have c2' : ¬ (24 : Int) < st.rules.length := by omega
      by_cases c3 : 200 < st.nodes.length
      · have c3' : (200 : Int) < N.length := by omega
        simp [c2', c3', ob, o2]
        exact hem _ (gr.set (Nat.le_refl _) _) 0 5 (by simp [ruRdV, ruRd, c1, ht, c2, c3])
      have c3' : ¬ (200 : Int) < N.length := by omega
      simp [c2', c3', ob]
      have gl : st.given.length < 2 ^ 60 ∧ st.used.length < 2 ^ 60 := by
        have := textP_pot ht
        unfold pot at this
        omega
      refine ecall (ruNames_spec L.names (h := h1) (o := h.nobj + 1) ob (by omega) gl.1 gl.2 ?_ ?_ ?_)
      · exact m3.el.imp (fun e => by simpa using e) id
      · exact m4.el.imp (fun e => by simpa using e) id
      simp
      by_cases c4 : (namesP st.given st.used).2 = 0
      · simp [c4, ob, o2]
        refine fin_wk (r := ruRdV s) (gr.set (Nat.le_refl _) _) ?_ ?_ hQ
        · have : ruRdV s = .tup [teV ⟨st.rules, st.nodes⟩, .int .i64 0, .int .i64 0] := by simp [ruRdV, ruRd, c1, ht, c2, c3, c4]
          rw [this]
          exact (wk_tree (m1.el.imp (fun e => by simpa using e) id) (by
            rcases m2.el with e | e
            · left; rw [e] at hN; simpa using hN.cells.1.symm
            · exact .inr e) hN).t3 _ _
        · simp only [ruRdV, Bdd_tup, List.mem_cons, List.not_mem_nil, or_false]
          rintro v (rfl | rfl | rfl)
          · exact bdd_te _ _ _
          · simp
          · simp
      · simp [c4, o2]
        exact hem _ (gr.set (Nat.le_refl _) _) _ _ (by simp [ruRdV, ruRd, c1, ht, c2, c3, c4])
    · have gr : Gr h h1 := RE.gr (((Gr.refl h).new _).new _) f (by omega) (fun s hs => by
        rcases hs with e | e | e | e <;> exact .inl (by rw [e]; exact Nat.le_succ 1))
      have o2 : h1.objs h.nobj = [.sl 0 1 [], .sl 0 1 []] := (f.objs _ (by simp) (by omega)).trans (by simp)
      simp [o2]
      exact hem _ (gr.set (Nat.le_refl _) _) p 2 (by simp [ruRdV, ruRd, c1, ht])
  · simp [c1]
    exact hem _ ((Gr.refl h).new _) _ _ (by simp [ruRdV, ruRd, c1])
end
end Go.Proofs.Ytecgbggobecpjaa.Al
namespace Go.Proofs.Ytecgbggobecpjaa.Al
open Go Go.RowKit
set_option linter.unusedSimpArgs false
set_option linter.unusedVariables false
/-- A node may be, but for what its name means. -/
def fineL (toks : List Tok) (U : List Use) (n : Nd) : Prop :=
  (n.kind = 6 ∧ n.kids = [] ∧ ∃ u ∈ U, u.name = n.name) ∨ (n.kind = 7 ∧ n.kids = [] ∧ ∃ t ∈ toks, t.kind = 2 ∧ t.text = n.name) ∨
  (n.name = [] ∧ ((n.kind = 1 ∧ n.kids.length ≠ 1) ∨ (n.kind = 2 ∧ 2 ≤ n.kids.length) ∨ (3 ≤ n.kind ∧ n.kind ≤ 5 ∧ n.kids.length = 1)))
/-- From s to s' nodes have been laid, which leave ks open. -/
structure Grow (toks : List Tok) (s s' : PS) (ks : List Int) : Prop where
  nodes : ∃ new, s'.nodes = s.nodes ++ new ∧ ∀ n ∈ new, fineL toks s'.used n
  used : ∃ us, s'.used = s.used ++ us ∧ ∀ u ∈ us, ∃ t ∈ toks, t.at' = u.at'
  given : s'.given = s.given
  rules : s'.rules = s.rules
  run : ∀ t : Te, s'.nodes <+: t.nodes → (∀ n ∈ t.nodes, fineP t n = true) → ∀ st, runS t (s'.nodes.length - s.nodes.length) s.nodes.length st = some (st ++ ks)
section
variable {toks : List Tok} {en : Nat}
theorem fineL.mono {U U' : List Use} {n : Nd} (h : fineL toks U n) (hU : ∀ u ∈ U, u ∈ U') : fineL toks U' n := by
  rcases h with ⟨a, b, u, c, d⟩ | h | h
  · exact .inl ⟨a, b, u, hU u c, d⟩
  · exact .inr (.inl h)
  · exact .inr (.inr h)
theorem Grow.refl (s : PS) : Grow toks s s [] := ⟨⟨[], by simp, by simp⟩, ⟨[], by simp, by simp⟩, rfl, rfl, fun t _ _ st => by simp [runS]⟩
theorem Grow.pre {s s' : PS} {ks : List Int} (g : Grow toks s s' ks) : s.nodes <+: s'.nodes := by
  obtain ⟨new, e, _⟩ := g.nodes
  exact ⟨new, e.symm⟩
theorem Grow.trans {s s1 s2 : PS} {k1 k2 : List Int} (a : Grow toks s s1 k1) (b : Grow toks s1 s2 k2) : Grow toks s s2 (k1 ++ k2) := by
  obtain ⟨n1, e1, f1⟩ := a.nodes
  obtain ⟨n2, e2, f2⟩ := b.nodes
  obtain ⟨u1, x1, y1⟩ := a.used
  obtain ⟨u2, x2, y2⟩ := b.used
  refine ⟨⟨n1 ++ n2, by rw [e2, e1, List.append_assoc], fun n hn => ?_⟩, ⟨u1 ++ u2, by rw [x2, x1, List.append_assoc], fun u hu => ?_⟩, b.given.trans a.given, b.rules.trans a.rules, fun t hp hf st => ?_⟩
  · rcases List.mem_append.1 hn with h | h
    · exact (f1 n h).mono (fun u hu => by rw [x2]; exact List.mem_append_left _ hu)
    · exact f2 n h
  · rcases List.mem_append.1 hu with h | h
    · exact y1 u h
    · exact y2 u h
  · have r1 := a.run t (b.pre.trans hp) hf st
    have r2 := b.run t hp hf (st ++ k1)
    have l1 : s1.nodes.length = s.nodes.length + n1.length := by rw [e1]; simp
    have l2 : s2.nodes.length = s1.nodes.length + n2.length := by rw [e2]; simp
    have := runS_add t (s1.nodes.length - s.nodes.length) (s2.nodes.length - s1.nodes.length) s.nodes.length st _ r1
    rw [show s.nodes.length + (s1.nodes.length - s.nodes.length) = s1.nodes.length by omega, r2, show s1.nodes.length - s.nodes.length + (s2.nodes.length - s1.nodes.length) = s2.nodes.length - s.nodes.length by omega] at this
    rw [this, List.append_assoc]
theorem Grow.at {s s' : PS} {ks : List Int} (g : Grow toks s s' ks) (a : Nat) : Grow toks s { s' with at' := a } ks := ⟨g.nodes, g.used, g.given, g.rules, g.run⟩
theorem Grow.adv {s s' : PS} {ks : List Int} (g : Grow toks s s' ks) : Grow toks s s'.adv ks := g.at _
/-- A node takes what is open. -/
theorem Grow.lay {s s' : PS} {ks : List Int} (g : Grow toks s s' ks) (kind : Int) (name : Str) (hf : fineL toks s'.used ⟨kind, name, ks⟩) : Grow toks s (s'.lay kind name ks) [(s'.nodes.length : Int)] := by
  obtain ⟨n1, e1, f1⟩ := g.nodes
  refine ⟨⟨n1 ++ [⟨kind, name, ks⟩], by simp [PS.lay, e1], fun n hn => ?_⟩, g.used, g.given, g.rules, fun t hp hfine st => ?_⟩
  · rcases List.mem_append.1 hn with h | h
    · exact f1 n h
    · rw [List.mem_singleton] at h; subst h; exact hf
  · have hpre : s'.nodes <+: (s'.lay kind name ks).nodes := ⟨_, rfl⟩
    have r1 := g.run t (hpre.trans hp) hfine st
    have l1 : s'.nodes.length = s.nodes.length + n1.length := by rw [e1]; simp
    have l2 : (s'.lay kind name ks).nodes.length = s'.nodes.length + 1 := by simp [PS.lay]
    have := runS_add t (s'.nodes.length - s.nodes.length) 1 s.nodes.length st _ r1
    rw [show s.nodes.length + (s'.nodes.length - s.nodes.length) = s'.nodes.length by omega, show s'.nodes.length - s.nodes.length + 1 = (s'.lay kind name ks).nodes.length - s.nodes.length by omega] at this
    rw [this]
    have hlt : s'.nodes.length < t.nodes.length := by have := hp.length_le; omega
    have hget : t.nodes[s'.nodes.length]? = some ⟨kind, name, ks⟩ := by
      obtain ⟨r, hr⟩ := hp
      rw [← hr, List.getElem?_append_left (by omega)]
      simp [PS.lay]
    have hmem : (⟨kind, name, ks⟩ : Nd) ∈ t.nodes := List.mem_of_getElem? hget
    simp only [runS, stpS, hget]
    rw [if_pos ⟨hfine _ hmem, by simp, by simp⟩]
    simp
/-- What comes back is the last node. -/
def Lst (s s' : PS) (n : Int) : Prop := s.nodes.length < s'.nodes.length ∧ n = (s'.nodes.length : Int) - 1
def AltG (toks : List Tok) (alt : PS → PR Int) : Prop := ∀ s s' n, alt s = .ok (s', n) → Grow toks s s' [n] ∧ Lst s s' n
theorem one_grow {s s' : PS} {kind : Int} {l : List Int} (g : Grow toks s s' l) (h1 : ∀ n, l = [n] → Lst s s' n) (hk : l.length ≠ 1 → kind = 1 ∨ (kind = 2 ∧ 2 ≤ l.length)) : Grow toks s (oneP kind l s').1 [(oneP kind l s').2] ∧ Lst s (oneP kind l s').1 (oneP kind l s').2 := by
  by_cases c : l.length = 1
  · obtain ⟨n, rfl⟩ := List.length_eq_one_iff.1 c
    exact ⟨g, h1 n rfl⟩
  · have ho : oneP kind l s' = nodeP kind [] l s' := by
      match l, c with
      | [], _ => rfl
      | [n], c => simp at c
      | _ :: _ :: _, _ => rfl
    rw [ho]
    have := g.pre.length_le
    refine ⟨g.lay kind [] (.inr (.inr ⟨rfl, ?_⟩)), by simp [Lst, nodeP, PS.lay]; omega⟩
    rcases hk c with e | e
    · exact .inl ⟨e, c⟩
    · exact .inr (.inl e)
theorem atom_grow {alt : PS → PR Int} (ha : AltG toks alt) {s s' : PS} {n : Int} (h : atomP toks en alt s = .ok (s', n)) : Grow toks s s' [n] ∧ Lst s s' n := by
  unfold atomP at h
  split at h
  · obtain ⟨s1, n1, h1, h2⟩ := pbnd_ok h
    obtain ⟨s2, u, h3, h4⟩ := pbnd_ok h2
    cases h4
    obtain ⟨rfl, _⟩ := must_fwd h3
    obtain ⟨g, l⟩ := ha _ _ _ h1
    exact ⟨(((Grow.refl s).adv).trans g).adv, l⟩
  · split at h
    · cases h
    · rename_i t e
      split at h
      · rename_i c2
        cases h
        refine ⟨((Grow.refl s).adv).lay 7 t.text (.inr (.inl ⟨rfl, rfl, t, List.mem_of_getElem? e, c2, rfl⟩)), by simp [Lst, PS.lay, PS.adv]⟩
      · obtain ⟨s1, u, h1, h2⟩ := pbnd_ok h
        cases h2
        have hu : ∃ t ∈ toks, t.at' = u.at' := by
          unfold nameP at h1
          rw [e] at h1
          simp only at h1
          split at h1
          · cases h1; exact ⟨t, List.mem_of_getElem? e, rfl⟩
          · cases h1
        obtain ⟨rfl, _⟩ := name_fwd h1
        have g : Grow toks s (useP u s.adv) [] := ⟨⟨[], by simp [useP, PS.adv], by simp⟩, ⟨[u], rfl, by simpa using hu⟩, rfl, rfl, fun t _ _ st => by simp [runS, useP, PS.adv]⟩
        exact ⟨g.lay 6 u.name (.inl ⟨rfl, rfl, u, by simp [useP], rfl⟩), by simp [Lst, PS.lay, PS.adv, useP]⟩
theorem item_grow {alt : PS → PR Int} (ha : AltG toks alt) {s s' : PS} {n : Int} (h : itemP toks en alt s = .ok (s', n)) : Grow toks s s' [n] ∧ Lst s s' n := by
  unfold itemP at h
  obtain ⟨s1, n1, h1, h2⟩ := pbnd_ok h
  obtain ⟨g, l⟩ := atom_grow ha h1
  have key : ∀ k : Int, 3 ≤ k → k ≤ 5 → (markP toks s1 n1) = nodeP k [] [n1] s1.adv → Grow toks s s' [n] ∧ Lst s s' n := fun k k1 k2 hm => by
    rw [hm] at h2
    cases h2
    have := g.pre.length_le
    exact ⟨g.adv.lay k [] (.inr (.inr ⟨rfl, .inr (.inr ⟨k1, k2, rfl⟩)⟩)), by simp [Lst, PS.lay, PS.adv]; omega⟩
  by_cases a1 : aheadP toks s1.at' [42] = true
  · exact key 3 (by omega) (by omega) (by unfold markP; rw [if_pos a1])
  by_cases a2 : aheadP toks s1.at' [43] = true
  · exact key 4 (by omega) (by omega) (by unfold markP; rw [if_neg a1, if_pos a2])
  by_cases a3 : aheadP toks s1.at' [63] = true
  · exact key 5 (by omega) (by omega) (by unfold markP; rw [if_neg a1, if_neg a2, if_pos a3])
  have hm : markP toks s1 n1 = (s1, n1) := by unfold markP; rw [if_neg a1, if_neg a2, if_neg a3]
  rw [hm] at h2
  cases h2
  exact ⟨g, l⟩
theorem items_grow {alt : PS → PR Int} (ha : AltG toks alt) {s0 : PS} : ∀ (k : Nat) {s s' : PS} {l l' : List Int}, itemsP toks en alt k s l = .ok (s', l') → Grow toks s0 s l → (∀ n, l = [n] → Lst s0 s n) → Grow toks s0 s' l' ∧ ∀ n, l' = [n] → Lst s0 s' n
  | 0, s, s', l, l', h, g, hl => by cases h; exact ⟨g, hl⟩
  | k + 1, s, s', l, l', h, g, hl => by
    unfold itemsP at h
    split at h
    · obtain ⟨s1, n, h1, h2⟩ := pbnd_ok h
      obtain ⟨g1, l1⟩ := item_grow ha h1
      refine items_grow ha k h2 (g.trans g1) fun m hm => ?_
      cases l with
      | nil =>
        simp at hm; subst hm
        have := g.pre.length_le
        exact ⟨by have := l1.1; omega, l1.2⟩
      | cons a l => simp at hm
    · cases h; exact ⟨g, hl⟩
theorem seq_grow {alt : PS → PR Int} (ha : AltG toks alt) {s s' : PS} {n : Int} (h : seqP toks en alt s = .ok (s', n)) : Grow toks s s' [n] ∧ Lst s s' n := by
  unfold seqP at h
  obtain ⟨s1, l, h1, h2⟩ := pbnd_ok h
  obtain ⟨g, hl⟩ := items_grow ha _ h1 (Grow.refl s) (fun n h => by simp at h)
  obtain ⟨o1, o2⟩ := one_grow (kind := 1) g hl (fun _ => .inl rfl)
  have e : s' = (oneP 1 l s1).1 ∧ n = (oneP 1 l s1).2 := by
    have := congrArg (fun x => x.toOption) h2
    simp [Except.toOption] at this
    rw [this]; exact ⟨rfl, rfl⟩
  obtain ⟨rfl, rfl⟩ := e
  exact ⟨o1, o2⟩
theorem altsL_grow {alt : PS → PR Int} (ha : AltG toks alt) {s0 : PS} : ∀ (k : Nat) {s s' : PS} {l l' : List Int}, altsL toks en alt (k + 1) s l = .ok (s', l') → Grow toks s0 s l → Grow toks s0 s' l' ∧ l' ≠ [] ∧ ∀ n, l' = [n] → Lst s0 s' n
  | k, s, s', l, l', h, g => by
    unfold altsL at h
    obtain ⟨s1, n, h1, h2⟩ := pbnd_ok h
    obtain ⟨g1, l1⟩ := seq_grow ha h1
    have hg := g.pre.length_le
    split at h2
    · cases k with
      | zero =>
        unfold altsL at h2
        cases h2
        refine ⟨(g.trans g1).adv, by simp, fun m hm => ?_⟩
        cases l with
        | nil => simp at hm; subst hm; exact ⟨by have := l1.1; simp only [PS.adv]; omega, l1.2⟩
        | cons a l => simp at hm
      | succ k =>
        obtain ⟨q1, q2, q3⟩ := altsL_grow ha k h2 (g.trans g1).adv
        exact ⟨q1, q2, q3⟩
    · cases h2
      refine ⟨g.trans g1, by simp, fun m hm => ?_⟩
      cases l with
      | nil => simp at hm; subst hm; exact ⟨by have := l1.1; omega, l1.2⟩
      | cons a l => simp at hm
theorem alts_grow : ∀ f, AltG toks (altsP toks en f)
  | 0, s, s', n, h => by cases h
  | f + 1, s, s', n, h => by
    unfold altsP at h
    obtain ⟨s1, l, h1, h2⟩ := pbnd_ok h
    obtain ⟨g, hne, hl⟩ := altsL_grow (alts_grow f) _ h1 (Grow.refl s)
    obtain ⟨o1, o2⟩ := one_grow (kind := 2) g hl (fun c => .inr ⟨rfl, by
      match l, hne, c with
      | [_], _, c => simp at c
      | _ :: _ :: _, _, _ => simp⟩)
    have e : s' = (oneP 2 l s1).1 ∧ n = (oneP 2 l s1).2 := by
      have := congrArg (fun x => x.toOption) h2
      simp [Except.toOption] at this
      rw [this]; exact ⟨rfl, rfl⟩
    obtain ⟨rfl, rfl⟩ := e
    exact ⟨o1, o2⟩
theorem rightS_snoc (t : Te) (r : Rl) (v : Int) (b : Nat) : ∀ (rs : List Rl) (seen : List Str) (a : Nat), rightS t rs seen a = some b → tokenT r.name 1 = true → r.name ∉ seen ++ rs.map (·.name) → (b : Int) ≤ r.body → r.body < t.nodes.length → runS t (r.body.toNat + 1 - b) b [] = some [v] →
    rightS t (rs ++ [r]) seen a = some (r.body.toNat + 1)
  | [], seen, a, h, h1, h2, h3, h4, h5 => by
    simp [rightS] at h; subst h
    simp at h2
    simp only [List.nil_append, rightS]
    rw [if_pos ⟨h1, h2, h3, h4⟩, h5]
  | q :: rs, seen, a, h, h1, h2, h3, h4, h5 => by
    simp only [List.cons_append, rightS] at h ⊢
    split at h
    · rename_i c
      rw [if_pos c]
      split at h
      · rename_i v2 hv
        first | rw [hv] | skip
        exact rightS_snoc t r v b rs _ _ h h1 (by simpa using h2) h3 h4 h5
      · cases h
    · cases h
/-- What holds behind some rules. -/
structure Tx (toks : List Tok) (s : PS) : Prop where
  fine : ∀ n ∈ s.nodes, fineL toks s.used n
  used : ∀ u ∈ s.used, ∃ t ∈ toks, t.at' = u.at'
  given : ∀ u ∈ s.given, ∃ t ∈ toks, t.at' = u.at' ∧ t.kind = 1 ∧ t.text = u.name
  names : s.given.map (·.name) = s.rules.map (·.name)
  last : s.rules = [] → s.nodes = []
  body : ∀ r, s.rules.getLast? = some r → r.body = (s.nodes.length : Int) - 1
  right : ∀ t : Te, s.nodes <+: t.nodes → (∀ n ∈ t.nodes, fineP t n = true) → (s.rules.map (·.name)).Nodup → (∀ r ∈ s.rules, tokenT r.name 1 = true) → rightS t s.rules [] 0 = some s.nodes.length
theorem Tx.init (toks : List Tok) : Tx toks ⟨0, [], [], [], []⟩ := ⟨by simp, by simp, by simp, by simp, by simp, by simp, fun t _ _ _ _ => rfl⟩
theorem rule_tx {s s' : PS} {u : Unit} (x : Tx toks s) (h : ruleP toks en s = .ok (s', u)) : Tx toks s' ∧ s'.rules ≠ [] := by
  unfold ruleP at h
  obtain ⟨s1, u1, h1, h⟩ := pbnd_ok h
  obtain ⟨s2, u2, h2, h⟩ := pbnd_ok h
  obtain ⟨s3, n, h3, h⟩ := pbnd_ok h
  obtain ⟨s4, u4, h4, h⟩ := pbnd_ok h
  cases h
  have hu1 : ∃ t ∈ toks, t.at' = u1.at' ∧ t.kind = 1 ∧ t.text = u1.name := by
    unfold nameP at h1
    split at h1
    · rename_i t e
      split at h1
      · rename_i c; cases h1; exact ⟨t, List.mem_of_getElem? e, rfl, c, rfl⟩
      · cases h1
    · cases h1
  obtain ⟨rfl, _⟩ := name_fwd h1
  obtain ⟨rfl, _⟩ := must_fwd h2
  obtain ⟨rfl, _⟩ := must_fwd h4
  obtain ⟨g, l1, l2⟩ := alts_grow _ _ _ _ h3
  obtain ⟨new, e1, f1⟩ := g.nodes
  obtain ⟨us, e2, f2⟩ := g.used
  have e3 : s3.given = s.given ++ [u1] := g.given
  have e4 : s3.rules = s.rules := g.rules
  have e1' : s3.nodes = s.nodes ++ new := e1
  have e2' : s3.used = s.used ++ us := e2
  have hl : s.nodes.length < s3.nodes.length := l1
  refine ⟨⟨fun m hm => ?_, fun u hu => ?_, fun u hu => ?_, ?_, fun e => by simp [PS.adv] at e, fun r hr => ?_, fun t hp hf hn ht => ?_⟩, by simp⟩
  · simp only [PS.adv] at hm ⊢
    rw [e1'] at hm
    rcases List.mem_append.1 hm with q | q
    · exact (x.fine m q).mono (fun u hu => by rw [e2']; exact List.mem_append_left _ hu)
    · exact f1 m q
  · simp only [PS.adv] at hu
    rw [e2'] at hu
    rcases List.mem_append.1 hu with q | q
    · exact x.used u q
    · exact f2 u q
  · simp only [PS.adv] at hu
    rw [e3] at hu
    rcases List.mem_append.1 hu with q | q
    · exact x.given u q
    · rw [List.mem_singleton] at q; subst q; exact hu1
  · simp only [PS.adv]
    rw [e3, e4, List.map_append, List.map_append, x.names]; rfl
  · simp only [PS.adv, List.getLast?_append, List.getLast?_singleton, Option.some_or] at hr
    cases hr
    exact l2
  · simp only [PS.adv] at hp hn ht ⊢
    rw [e4] at hn ht ⊢
    rw [List.map_append, List.nodup_append] at hn
    have r0 := x.right t ((show s.nodes <+: s3.nodes from ⟨new, e1'.symm⟩).trans hp) hf hn.1 (fun r hr => ht r (List.mem_append_left _ hr))
    have hrun := g.run t hp hf []
    have hpl := hp.length_le
    have hb : (n.toNat + 1) = s3.nodes.length := by omega
    rw [← hb]
    refine rightS_snoc t ⟨u1.name, n⟩ n s.nodes.length s.rules [] 0 r0 (ht _ (by simp)) ?_ ?_ ?_ ?_
    · simp only [List.nil_append]
      intro hm
      exact hn.2.2 u1.name hm u1.name (by simp) rfl
    · show (s.nodes.length : Int) ≤ n; omega
    · show n < _; omega
    · show runS t (n.toNat + 1 - s.nodes.length) s.nodes.length [] = some [n]
      rw [hb]
      exact hrun
theorem text_tx : ∀ (k : Nat) {s s' : PS} {u : Unit}, Tx toks s → textL toks en (k + 1) s = .ok (s', u) → Tx toks s' ∧ s'.rules ≠ []
  | k, s, s', u, x, h => by
    unfold textL at h
    obtain ⟨s1, u1, h1, h2⟩ := pbnd_ok h
    obtain ⟨x1, hne⟩ := rule_tx x h1
    split at h2
    · cases k with
      | zero => unfold textL at h2; cases h2; exact ⟨x1, hne⟩
      | succ k => exact text_tx k x1 h2
    · cases h2; exact ⟨x1, hne⟩
theorem textP_tx {s' : PS} {u : Unit} (h : textP toks en = .ok (s', u)) : Tx toks s' ∧ s'.rules ≠ [] := text_tx _ (Tx.init toks) h
theorem twiceP_none : ∀ {seen : List Str} {l : List Use}, twiceP seen l = none → seen.Nodup → (seen ++ l.map (·.name)).Nodup
  | seen, [], _, h => by simpa using h
  | seen, u :: l, h, hs => by
    unfold twiceP at h
    split at h
    · cases h
    · rename_i c
      have := twiceP_none h (by rw [List.nodup_append]; exact ⟨hs, by simp, fun a ha b hb => by rw [List.mem_singleton] at hb; subst hb; rintro rfl; exact c ha⟩)
      simpa using this
theorem missP_none : ∀ {seen : List Str} {l : List Use}, missP seen l = none → ∀ u ∈ l, u.name ∈ seen
  | seen, [], _, u, hu => by simp at hu
  | seen, v :: l, h, u, hu => by
    unfold missP at h
    split at h
    · rename_i c
      rcases List.mem_cons.1 hu with rfl | q
      · exact c
      · exact missP_none h u q
    · cases h
theorem twiceP_mem : ∀ {seen : List Str} {l : List Use} {p : Nat}, twiceP seen l = some p → ∃ u ∈ l, u.at' = p
  | seen, [], p, h => by simp [twiceP] at h
  | seen, u :: l, p, h => by
    unfold twiceP at h
    split at h
    · cases h; exact ⟨u, by simp, rfl⟩
    · obtain ⟨v, a, b⟩ := twiceP_mem h; exact ⟨v, by simp [a], b⟩
theorem missP_mem : ∀ {seen : List Str} {l : List Use} {p : Nat}, missP seen l = some p → ∃ u ∈ l, u.at' = p
  | seen, [], p, h => by simp [missP] at h
  | seen, u :: l, p, h => by
    unfold missP at h
    split at h
    · obtain ⟨v, a, b⟩ := missP_mem h; exact ⟨v, by simp [a], b⟩
    · cases h; exact ⟨u, by simp, rfl⟩
end
/-! ### Tokens alone -/
theorem sfirst_tokr {t : Tok} (g : goodTok t) (r : Str) (hr0 : t.kind = 1 → runN partB r = 0) : sfirst (tokText t ++ r) = (t.kind, t.text, (tokText t).length) := by
  obtain ⟨kd, tx, p⟩ := t
  rcases g with ⟨h1, ⟨c, q, e, hc⟩, hp⟩ | ⟨h1, hne, hq⟩ | ⟨h1, c, e, hm⟩
  · simp only at h1 e hp hr0
    have hr1 := hr0 h1
    clear hr0
    subst h1; subst e
    have hl := letterB_ne hc
    have hr : runN partB (c :: (q ++ r)) = (c :: q).length := by
      have := runN_all hp r
      rw [hr1] at this
      simpa using this
    show sfirst (c :: (q ++ r)) = _
    rw [sfirst_cons, if_neg hl.1, if_neg hl.2, if_pos hc, hr]
    simp [tokText]
  · simp only at h1 hne hq
    subst h1
    have hr : runN quotedB (tx ++ [39] ++ r) = tx.length := by
      rw [List.append_assoc, runN_all hq]
      show _ + runN quotedB (39 :: r) = _
      rw [runN_stop (p := quotedB) (by decide)]; omega
    show sfirst (39 :: (tx ++ [39] ++ r)) = _
    have hg : (tx ++ [39] ++ r).getD tx.length 0 = 39 := by simp [List.getD]
    have hl : ¬ tx.length = 0 := by simpa using hne
    rw [sfirst_cons, if_neg (by decide), if_neg (by decide), if_neg (by decide), if_pos (by decide), hr, if_neg (by rw [hg]; simp [hne]; decide)]
    simp [tokText]
  · simp only at h1 e
    subst h1; subst e
    show sfirst (c :: r) = _
    have hk := (marks_mem c).1 hm
    rw [sfirst_cons, if_neg (by omega), if_neg (by omega), if_neg (by simp only [letterB, letterI, Bool.or_eq_true, Bool.and_eq_true, decide_eq_true_eq]; omega), if_neg (by omega), if_pos hm]
    rfl
/-- A token ahead of something. -/
theorem scanL_tok {t : Tok} (g : goodTok t) (r : Str) (hr0 : t.kind = 1 → runN partB r = 0) (n k : Nat) : scanL (n + 1) (tokText t ++ r) k = (⟨t.kind, t.text, k⟩ :: (scanL n r (k + (tokText t).length)).1, (scanL n r (k + (tokText t).length)).2) := by
  have hp := tokText_pos g
  have hne : tokText t ++ r ≠ [] := by intro e; have := congrArg List.length e; simp only [List.length_append, List.length_nil] at this; omega
  have hk : t.kind ≠ 0 := by rcases g with ⟨h, _⟩ | ⟨h, _⟩ | ⟨h, _⟩ <;> omega
  rw [scanL_step k hne, sfirst_tokr g r hr0]
  simp only
  rw [if_neg (by omega), if_neg hk]
  simp
theorem tokenT_name {t : Tok} (g : goodTok t) (h : t.kind = 1) (hl : t.text.length ≤ 4000) : tokenT t.text 1 = true := by
  have ht : tokText t = t.text := by unfold tokText; rw [if_neg (by omega)]
  have hp := tokText_pos g
  rw [ht] at hp
  obtain ⟨n, hn⟩ : ∃ n, t.text.length = n + 1 := ⟨t.text.length - 1, by omega⟩
  have := scanL_tok g [] (fun _ => rfl) n 0
  rw [List.append_nil, ht, scanL_nil, ← hn] at this
  unfold tokenT
  rw [scanR_small hl, this]
  simp [h]
theorem fineP_of {t : Te} {toks : List Tok} {U : List Use} (hU : ∀ u ∈ U, u.name ∈ rnames t) (hg : ∀ t ∈ toks, goodTok t) (hq : ∀ t ∈ toks, t.kind = 2 → t.text.length ≤ 3998) {n : Nd} (h : fineL toks U n) : fineP t n = true := by
  rcases h with ⟨h1, h2, u, h3, h4⟩ | ⟨h1, h2, q, h3, h4, h5⟩ | ⟨h1, h2⟩
  · have := hU u h3
    rw [h4] at this
    unfold fineP
    rw [if_neg (by omega)]
    unfold fineT
    rw [if_pos h1]; simp [h2, this]
  · have hgq := hg q h3
    rcases hgq with ⟨k1, _⟩ | ⟨_, k2, k3⟩ | ⟨k1, _⟩
    · omega
    · rw [h5] at k2 k3
      have h39 : (n.name.any fun a => decide (39 = bt a)) = false := by
        cases hh : n.name.any fun a => decide (39 = bt a) with
        | false => rfl
        | true =>
          obtain ⟨a, ha, hb⟩ := List.any_eq_true.1 hh
          have := k3 a ha
          simp [quotedB, quotedI] at this hb
          exact absurd hb.symm this.2
      unfold fineP
      rw [if_pos h1, token_quote _ h39]
      have hlen := hq q h3 h4
      rw [h5] at hlen
      have hpos : 0 < n.name.length := List.length_pos_iff.2 k2
      simp [h2, h39]
      unfold quoteT
      simp only [Bool.and_eq_true, List.all_eq_true, decide_eq_true_eq]
      exact ⟨⟨k3, hpos⟩, hlen⟩
    · omega
  · unfold fineP
    rw [if_neg (by omega)]
    unfold fineT
    rw [if_neg (by omega), if_neg (by omega)]
    simp [h1]
    rcases h2 with ⟨a, b⟩ | ⟨a, b⟩ | ⟨a, b, c⟩
    · simp [a, b]
    · simp [a, b]
    · simp [a, b, c]
/-! ### What Read tells -/
theorem scanR_ok {s : Str} (h : (scanR s).2.2 = 0) : s.length ≤ 4000 := by
  unfold scanR at h
  split at h
  · cases h
  · omega
theorem chain_text {s0 : Str} : ∀ {l : List Tok} {k : Nat}, chain s0 k l → ∀ t ∈ l, t.at' + (tokText t).length ≤ s0.length
  | [], k, _, t, ht => by simp at ht
  | a :: l, k, ⟨g, h1, h2, h3, h4⟩, t, ht => by
    rcases List.mem_cons.1 ht with rfl | q
    · exact h2
    · exact chain_text h4 t q
theorem plcP_le {toks : List Tok} {en : Nat} (h : ∀ t ∈ toks, t.at' ≤ en) (a : Nat) : plcP toks en a ≤ en := by
  unfold plcP
  split
  · rename_i t e; exact h t (List.mem_of_getElem? e)
  · exact Nat.le_refl _
/-- Where it is wrong is within the text. -/
def ErrOk (en : Nat) {α : Type} (r : PR α) : Prop := ∀ p, r = .error p → p ≤ en
theorem ErrOk.ok {en : Nat} {α : Type} (x : PS × α) : ErrOk en (.ok x) := fun p h => by cases h
theorem ErrOk.pbnd {en : Nat} {α β : Type} {r : PR α} {f : PS → α → PR β} (h1 : ErrOk en r) (h2 : ∀ s a, ErrOk en (f s a)) : ErrOk en (pbnd r f) := by
  cases r with
  | error p => exact fun q h => by cases h; exact h1 p rfl
  | ok x => exact h2 _ _
section
variable {toks : List Tok} {en : Nat}
theorem must_err (h : ∀ t ∈ toks, t.at' ≤ en) (m : Str) (s : PS) : ErrOk en (mustP toks en m s) := by
  unfold mustP
  split
  · exact .ok _
  · intro p e; cases e; exact plcP_le h _
theorem name_err (h : ∀ t ∈ toks, t.at' ≤ en) (s : PS) : ErrOk en (nameP toks en s) := by
  unfold nameP
  split
  · rename_i t e
    split
    · exact .ok _
    · intro p q; cases q; exact h t (List.mem_of_getElem? e)
  · intro p q; cases q; exact Nat.le_refl _
theorem atom_err (h : ∀ t ∈ toks, t.at' ≤ en) {alt : PS → PR Int} (ha : ∀ s, ErrOk en (alt s)) (s : PS) : ErrOk en (atomP toks en alt s) := by
  unfold atomP
  split
  · exact (ha _).pbnd fun s a => (must_err h _ _).pbnd fun _ _ => .ok _
  · split
    · intro p q; cases q; exact Nat.le_refl _
    · split
      · exact .ok _
      · exact (name_err h _).pbnd fun _ _ => .ok _
theorem items_err (h : ∀ t ∈ toks, t.at' ≤ en) {alt : PS → PR Int} (ha : ∀ s, ErrOk en (alt s)) : ∀ (k : Nat) (s : PS) (l : List Int), ErrOk en (itemsP toks en alt k s l)
  | 0, s, l => .ok _
  | k + 1, s, l => by
    unfold itemsP
    split
    · exact ((atom_err h ha s).pbnd fun _ _ => .ok _ : ErrOk en (itemP toks en alt s)).pbnd fun s n => items_err h ha k s _
    · exact .ok _
theorem altsL_err (h : ∀ t ∈ toks, t.at' ≤ en) {alt : PS → PR Int} (ha : ∀ s, ErrOk en (alt s)) : ∀ (k : Nat) (s : PS) (l : List Int), ErrOk en (altsL toks en alt k s l)
  | 0, s, l => .ok _
  | k + 1, s, l => by
    unfold altsL
    refine ((items_err h ha _ _ _).pbnd fun _ _ => .ok _ : ErrOk en (seqP toks en alt s)).pbnd fun s n => ?_
    split
    · exact altsL_err h ha k _ _
    · exact .ok _
theorem alts_err (h : ∀ t ∈ toks, t.at' ≤ en) : ∀ (f : Nat) (s : PS), ErrOk en (altsP toks en f s)
  | 0, s => fun p e => by cases e; omega
  | f + 1, s => (altsL_err h (alts_err h f) _ _ _).pbnd fun _ _ => .ok _
theorem text_err (h : ∀ t ∈ toks, t.at' ≤ en) : ∀ (k : Nat) (s : PS), ErrOk en (textL toks en k s)
  | 0, s => .ok _
  | k + 1, s => by
    unfold textL ruleP
    refine ((name_err h _).pbnd fun s u => (must_err h _ _).pbnd fun s _ => (alts_err h _ _).pbnd fun s n => (must_err h _ _).pbnd fun s _ => .ok _).pbnd fun s _ => ?_
    split
    · exact text_err h k _
    · exact .ok _
end
theorem scan_at (s : Str) : ∀ t ∈ (scanR s).1, t.at' ≤ s.length := fun t ht => by have := chain_text (scanR_chain s) t ht; omega
theorem ruRd_bad {s : Str} (h : (ruRd s).2.2 ≠ 0) : (ruRd s).1 = noTe ∧ (ruRd s).2.1 ≤ s.length := by
  unfold ruRd at h ⊢
  split
  · exact ⟨rfl, scanR_at s⟩
  · rename_i c
    rw [if_neg c] at h
    cases ht : textP (scanR s).1 s.length with
    | error p =>
      exact ⟨rfl, text_err (scan_at s) _ _ p ht⟩
    | ok x =>
      obtain ⟨st, u⟩ := x
      rw [ht] at h
      simp only at h ⊢
      split
      · exact ⟨rfl, Nat.zero_le _⟩
      · rename_i c2
        rw [if_neg c2] at h
        split
        · obtain ⟨x, _⟩ := textP_tx ht
          refine ⟨rfl, ?_⟩
          simp only
          unfold namesP
          split
          · rename_i p hp
            obtain ⟨v, hv, rfl⟩ := twiceP_mem hp
            obtain ⟨t, ht, e, _⟩ := x.given v hv
            rw [← e]; exact scan_at s t ht
          · split
            · rename_i p hp
              obtain ⟨v, hv, rfl⟩ := missP_mem hp
              obtain ⟨t, ht, e⟩ := x.used v hv
              rw [← e]; exact scan_at s t ht
            · exact Nat.zero_le _
        · rename_i c3
          rw [if_neg c3] at h
          exact absurd rfl h
/-- What is read may be. -/
theorem ruRd_good {s : Str} (h : (ruRd s).2.2 = 0) : rightP (ruRd s).1 = true ∧ (ruRd s).2.1 = 0 ∧ ∃ r, (ruRd s).1.rules.getLast? = some r ∧ r.body = ((ruRd s).1.nodes.length : Int) - 1 := by
  unfold ruRd at h ⊢
  split
  · rename_i c; rw [if_pos c] at h; exact absurd h c
  · rename_i c
    rw [if_neg c] at h
    cases ht : textP (scanR s).1 s.length with
    | error p => rw [ht] at h; simp at h
    | ok x =>
      obtain ⟨st, u⟩ := x
      rw [ht] at h
      simp only at h ⊢
      split
      · rename_i c2; rw [if_pos c2] at h; simp at h
      · rename_i c2
        rw [if_neg c2] at h
        split
        · rename_i c3; rw [if_pos c3] at h; exact absurd h c3
        · rename_i c3
          obtain ⟨x, hne⟩ := textP_tx ht
          have hn : (namesP st.given st.used).2 = 0 := by simpa using c3
          have h1 : twiceP [] st.given = none := by
            cases hh : twiceP [] st.given with
            | none => rfl
            | some p => simp [namesP, hh] at hn
          have h2 : missP (st.given.map (·.name)) st.used = none := by
            cases hh : missP (st.given.map (·.name)) st.used with
            | none => rfl
            | some p => simp [namesP, h1, hh] at hn
          have nd := twiceP_none h1 (by simp)
          have ms := missP_none h2
          rw [List.nil_append, x.names] at nd
          rw [x.names] at ms
          have hlen : s.length ≤ 4000 := scanR_ok (by simpa using c)
          have hgood := chain_good (scanR_chain s)
          have hq : ∀ t ∈ (scanR s).1, t.text.length ≤ 4000 ∧ (t.kind = 2 → t.text.length ≤ 3998) := fun t ht => by
            have := chain_text (scanR_chain s) t ht
            unfold tokText at this
            split at this
            · simp at this; omega
            · omega
          have hfine : ∀ n ∈ st.nodes, fineP ⟨st.rules, st.nodes⟩ n = true := fun n hn => fineP_of (t := ⟨st.rules, st.nodes⟩) (U := st.used) ms hgood (fun t ht h2 => (hq t ht).2 h2) (x.fine n hn)
          have htok : ∀ r ∈ st.rules, tokenT r.name 1 = true := fun r hr => by
            have : r.name ∈ st.given.map (·.name) := by rw [x.names]; exact List.mem_map.2 ⟨r, hr, rfl⟩
            obtain ⟨u, hu, e⟩ := List.mem_map.1 this
            obtain ⟨t, ht, _, k, e2⟩ := x.given u hu
            rw [← e, ← e2]
            exact tokenT_name (hgood t ht) k (hq t ht).1
          have hr := x.right ⟨st.rules, st.nodes⟩ (List.prefix_refl _) hfine nd htok
          refine ⟨?_, rfl, ?_⟩
          · unfold rightP
            simp only [Bool.and_eq_true, decide_eq_true_eq]
            exact ⟨⟨⟨List.length_pos_iff.2 hne, by omega⟩, by omega⟩, hr⟩
          · cases hl : st.rules.getLast? with
            | none => rw [List.getLast?_eq_none_iff] at hl; exact absurd hl hne
            | some r => exact ⟨r, rfl, x.body r hl⟩
end Go.Proofs.Ytecgbggobecpjaa.Al
namespace Go.Proofs.Ytecgbggobecpjaa.Al
open Go Go.RowKit
set_option linter.unusedSimpArgs false
set_option linter.unusedVariables false
attribute [-simp] List.getD_eq_getElem?_getD Int.not_lt Int.not_le List.map_take List.map_map
def utokV (u : Use) : V := tokV ⟨1, u.name, u.at'⟩
structure LRdR (X : Cx) : Prop where
  mark : Has (Ecx X) K.probateref06_reader_mark A.probateref06_reader_mark
  must : Has (Ecx X) K.probateref06_reader_must A.probateref06_reader_must
  lay : Has (Ecx X) K.probateref06_reader_lay A.probateref06_reader_lay
  atom : Has (Ecx X) K.probateref06_reader_atom A.probateref06_reader_atom
  items : Has (Ecx X) K.probateref06_reader_items A.probateref06_reader_items
  alts : Has (Ecx X) K.probateref06_reader_alternatives A.probateref06_reader_alternatives
/-- Something is wrong, at this place. -/
def RdW (toks : List Tok) (en : Nat) (h : AH) (o : Nat) (p c : Nat) (σ : S4) : Prop := ∃ (a : Nat) (R : List Rl) (N : List V) (G U : List Use), plcP toks en a = p ∧ a ≤ toks.length ∧ R.length + N.length + G.length + U.length ≤ c ∧ RdO h o (.sl 3 0 (toks.map tokV)) (.bool true) a 3 (R.map rlV) N (G.map utokV) (U.map utokV) σ
theorem RdW.mono {toks : List Tok} {en : Nat} {h : AH} {o p c c' : Nat} {σ : S4} (r : RdW toks en h o p c σ) (hc : c ≤ c') : RdW toks en h o p c' σ := by
  obtain ⟨a, R, N, G, U, h1, h2, h3, h4⟩ := r
  exact ⟨a, R, N, G, U, h1, h2, by omega, h4⟩
end Go.Proofs.Ytecgbggobecpjaa.Al
namespace Go.Proofs.Ytecgbggobecpjaa.Al
open Go Go.RowKit
set_option linter.unusedSimpArgs false
set_option linter.unusedVariables false
attribute [-simp] List.getD_eq_getElem?_getD Int.not_lt Int.not_le List.map_take List.map_map
structure LReadR (X : Cx) : Prop where
  lsr : LSR X
  rd : LRdR X
  has : Has (Ecx X) K.probateref06_has A.probateref06_has
  read : Has (Ecx X) K.probateref06_Read A.probateref06_Read
end Go.Proofs.Ytecgbggobecpjaa.Al
namespace Go.Proofs.Ytecgbggobecpjaa.Al
open Go Go.RowKit
set_option linter.unusedSimpArgs false
set_option linter.unusedVariables false
attribute [-simp] List.getD_eq_getElem?_getD Int.not_lt Int.not_le List.map_take
structure L06 (X : Cx) : Prop where
  rd : LRead X
  rr : LReadR X
  ru : LRu X
  right : Has (Ecx X) K.rules_Right A.rules_Right_o
  r6 : LR6 X
  same : LSame6 X
  sameR : Has (Ecx X) K.probateref06_Same A.probateref06_Same
  same2 : Has (Ecx X) K.probateref02_Same A.probateref02_Same
  large : Has (Ecx X) K.probatelaw06_Large A.probatelaw06_Large
  own : Has (Ecx X) K.probatelaw06_Own A.probatelaw06_Own
  awake : Has (Ecx X) K.probatelaw06_awake A.probatelaw06_awake
theorem ruRd_sm {s : Str} : TeSm (ruRd s).1 := by
  by_cases h : (ruRd s).2.2 = 0
  · have r := rte_of (ruRd_good h).1
    have hp := r.perm.length_eq
    simp only [List.length_append, List.length_map, iotaI, List.length_range] at hp
    have n1 := r.n1
    have hk : ∀ n ∈ (ruRd s).1.nodes, n.kids.length ≤ ((ruRd s).1.nodes.flatMap (·.kids)).length := fun n hn => by
      have : n.kids.Sublist ((ruRd s).1.nodes.flatMap (·.kids)) := by
        obtain ⟨a, b, e⟩ := List.append_of_mem hn
        rw [e, List.flatMap_append, List.flatMap_cons]
        exact (List.sublist_append_left n.kids _).trans (List.sublist_append_right _ _)
      exact this.length_le
    have htl : ∀ s : Str, tokenT s 1 = true → s.length ≤ 2 ^ 30 := fun s hs => by
      refine Classical.byContradiction fun c => ?_
      unfold tokenT scanR at hs
      rw [if_pos (by omega)] at hs
      simp at hs
    refine ⟨by have := r.r1; omega, by omega, fun q hq => ?_, fun n hn => ?_, fun n hn => by have := hk n hn; omega⟩
    · exact htl q.name (r.tok q hq)
    · have := r.fine n hn
      unfold fineT at this
      split at this
      · simp only [Bool.and_eq_true, decide_eq_true_eq, rnames, List.mem_map] at this
        obtain ⟨_, q, hq, e⟩ := this
        rw [← e]; exact htl q.name (r.tok q hq)
      · split at this
        · unfold quoteT at this
          simp only [Bool.and_eq_true, decide_eq_true_eq] at this
          have := this.2.2; omega
        · simp only [Bool.and_eq_true, decide_eq_true_eq] at this
          rw [this.1]; simp
  · rw [(ruRd_bad h).1]
    exact ⟨by simp [noTe], by simp [noTe], by simp [noTe], by simp [noTe], by simp [noTe]⟩
section
variable {X : Cx} {h : AH} {Q : V → AH → Prop}
def awS : Str := [115, 58, 32, 39, 97, 39, 32, 115, 32, 124, 32, 59]
def awTe : Te := ⟨[⟨[115], 4⟩], [⟨7, [97], []⟩, ⟨6, [115], []⟩, ⟨1, [], [0, 1]⟩, ⟨1, [], []⟩, ⟨2, [], [2, 3]⟩]⟩
theorem awS_rd : ruRd awS = (awTe, 0, 0) := by decide +kernel
theorem awS2_rd : ruRd [115, 58, 32, 39, 97, 39] = (noTe, 6, 2) := by decide +kernel
theorem awS3_rd : ruRd [115, 58, 32, 116, 32, 59] = (noTe, 3, 6) := by decide +kernel
theorem awTe_r : rightP awTe = true := by decide +kernel
theorem noTe_r : rightP noTe = false := by decide +kernel
theorem awake6_spec (L : L06 X) (hQ : Q (.bool true) h) : Ecx X K.probatelaw06_awake [] h Q := by
  refine fn_walk L.awake (by simp [A.probatelaw06_awake]) fun wf => ?_
  simp [A.probatelaw06_awake]
  refine ecall (ruRead_spec L.rd awS (by decide) ?_)
  rw [ruRdV, awS_rd]
  simp [V.cells, V.good, setAt, teV, teC, fillL, fillV, V.isAgg]
  have hn : teV noTe = .agg [.sl 2 0 [], .sl 3 0 []] := rfl
  have gr := ((Gr.refl h).new [V.sl 2 0 (List.map rlV awTe.rules), V.sl 3 0 (List.map ndV awTe.nodes)]).new [V.sl 2 2 [V.agg [V.str [115], V.int IntKind.i64 4]], V.sl 3 2 [V.agg [V.int IntKind.i64 7, V.str [97], V.sl 0 1 []], V.agg [V.int IntKind.i64 6, V.str [115], V.sl 0 1 []], V.agg [V.int IntKind.i64 1, V.str [], V.sl 1 2 [V.int IntKind.i64 0, V.int IntKind.i64 1]], V.agg [V.int IntKind.i64 1, V.str [], V.sl 0 1 []], V.agg [V.int IntKind.i64 2, V.str [], V.sl 1 2 [V.int IntKind.i64 2, V.int IntKind.i64 3]]]]
  have oA : ((h.new [V.sl 2 0 (List.map rlV awTe.rules), V.sl 3 0 (List.map ndV awTe.nodes)]).new [V.sl 2 2 [V.agg [V.str [115], V.int IntKind.i64 4]], V.sl 3 2 [V.agg [V.int IntKind.i64 7, V.str [97], V.sl 0 1 []], V.agg [V.int IntKind.i64 6, V.str [115], V.sl 0 1 []], V.agg [V.int IntKind.i64 1, V.str [], V.sl 1 2 [V.int IntKind.i64 0, V.int IntKind.i64 1]], V.agg [V.int IntKind.i64 1, V.str [], V.sl 0 1 []], V.agg [V.int IntKind.i64 2, V.str [], V.sl 1 2 [V.int IntKind.i64 2, V.int IntKind.i64 3]]]]).objs h.nobj = [V.sl 2 0 (List.map rlV awTe.rules), V.sl 3 0 (List.map ndV awTe.nodes)] := by simp
  have oB : ((h.new [V.sl 2 0 (List.map rlV awTe.rules), V.sl 3 0 (List.map ndV awTe.nodes)]).new [V.sl 2 2 [V.agg [V.str [115], V.int IntKind.i64 4]], V.sl 3 2 [V.agg [V.int IntKind.i64 7, V.str [97], V.sl 0 1 []], V.agg [V.int IntKind.i64 6, V.str [115], V.sl 0 1 []], V.agg [V.int IntKind.i64 1, V.str [], V.sl 1 2 [V.int IntKind.i64 0, V.int IntKind.i64 1]], V.agg [V.int IntKind.i64 1, V.str [], V.sl 0 1 []], V.agg [V.int IntKind.i64 2, V.str [], V.sl 1 2 [V.int IntKind.i64 2, V.int IntKind.i64 3]]]]).objs (h.nobj + 1) = [V.sl 2 2 [V.agg [V.str [115], V.int IntKind.i64 4]], V.sl 3 2 [V.agg [V.int IntKind.i64 7, V.str [97], V.sl 0 1 []], V.agg [V.int IntKind.i64 6, V.str [115], V.sl 0 1 []], V.agg [V.int IntKind.i64 1, V.str [], V.sl 1 2 [V.int IntKind.i64 0, V.int IntKind.i64 1]], V.agg [V.int IntKind.i64 1, V.str [], V.sl 0 1 []], V.agg [V.int IntKind.i64 2, V.str [], V.sl 1 2 [V.int IntKind.i64 2, V.int IntKind.i64 3]]]] := by simp
  have nb : ((h.new [V.sl 2 0 (List.map rlV awTe.rules), V.sl 3 0 (List.map ndV awTe.nodes)]).new [V.sl 2 2 [V.agg [V.str [115], V.int IntKind.i64 4]], V.sl 3 2 [V.agg [V.int IntKind.i64 7, V.str [97], V.sl 0 1 []], V.agg [V.int IntKind.i64 6, V.str [115], V.sl 0 1 []], V.agg [V.int IntKind.i64 1, V.str [], V.sl 1 2 [V.int IntKind.i64 0, V.int IntKind.i64 1]], V.agg [V.int IntKind.i64 1, V.str [], V.sl 0 1 []], V.agg [V.int IntKind.i64 2, V.str [], V.sl 1 2 [V.int IntKind.i64 2, V.int IntKind.i64 3]]]]).nobj = h.nobj + 2 := by simp
  generalize ((h.new [V.sl 2 0 (List.map rlV awTe.rules), V.sl 3 0 (List.map ndV awTe.nodes)]).new [V.sl 2 2 [V.agg [V.str [115], V.int IntKind.i64 4]], V.sl 3 2 [V.agg [V.int IntKind.i64 7, V.str [97], V.sl 0 1 []], V.agg [V.int IntKind.i64 6, V.str [115], V.sl 0 1 []], V.agg [V.int IntKind.i64 1, V.str [], V.sl 1 2 [V.int IntKind.i64 0, V.int IntKind.i64 1]], V.agg [V.int IntKind.i64 1, V.str [], V.sl 0 1 []], V.agg [V.int IntKind.i64 2, V.str [], V.sl 1 2 [V.int IntKind.i64 2, V.int IntKind.i64 3]]]]) = h1 at *
  have q1 : ¬ h.nobj = h1.nobj := by omega
  have q2 : ¬ h.nobj + 1 = h1.nobj := by omega
  have q3 : ¬ h.nobj = h1.nobj + 1 := by omega
  have q4 : ¬ h.nobj + 1 = h1.nobj + 1 := by omega
  refine ecall (ruRead_spec L.rd [115, 58, 32, 39, 97, 39] (by decide) ?_)
  rw [ruRdV, awS2_rd, hn]
  simp [V.cells, V.good, setAt]
  refine ecall (ruRead_spec L.rd [115, 58, 32, 116, 32, 59] (by decide) ?_)
  rw [ruRdV, awS3_rd, hn]
  simp [V.cells, V.good, setAt, oA, oB, q1, q2, q3, q4]
  have hA : V.agg [V.sl 2 0 (List.map rlV awTe.rules), V.sl 3 0 (List.map ndV awTe.nodes)] = teV awTe := rfl
  have hB : Wk (V.agg [V.sl 2 2 [V.agg [V.str [115], V.int IntKind.i64 4]],
        V.sl 3 2
          [V.agg [V.int IntKind.i64 7, V.str [97], V.sl 0 1 []], V.agg [V.int IntKind.i64 6, V.str [115], V.sl 0 1 []],
            V.agg [V.int IntKind.i64 1, V.str [], V.sl 1 2 [V.int IntKind.i64 0, V.int IntKind.i64 1]],
            V.agg [V.int IntKind.i64 1, V.str [], V.sl 0 1 []],
            V.agg [V.int IntKind.i64 2, V.str [], V.sl 1 2 [V.int IntKind.i64 2, V.int IntKind.i64 3]]]]) (teV awTe) :=
    wk_tree (R := awTe.rules) (l := awTe.nodes) (.inr rfl) (.inr rfl) (.cons (.cons (.same _) (.cons (.same _) (.cons (wk_kids (kids := []) (.inl rfl)) .nil))) (.cons (.cons (.same _) (.cons (.same _) (.cons (wk_kids (kids := []) (.inl rfl)) .nil)))
      (.cons (.cons (.same _) (.cons (.same _) (.cons (wk_kids (kids := [0, 1]) (.inr rfl)) .nil))) (.cons (.cons (.same _) (.cons (.same _) (.cons (wk_kids (kids := []) (.inl rfl)) .nil))) (.cons (.cons (.same _) (.cons (.same _) (.cons (wk_kids (kids := [2, 3]) (.inr rfl)) .nil))) .nil)))))
  have hN : Wk (V.agg [V.sl 0 1 [], V.sl 0 1 []]) (teV noTe) := wk_tree (R := []) (l := []) (.inl rfl) (.inl rfl) .nil
  rw [hA]
  refine dcall (teV awTe) (own6_spec L.own awTe (by decide) (by decide) ⟨rfl, rfl⟩) ?_
  simp [oA, oB, q1, q2, q3, q4]
  refine dcall (.bool true) (Ecx.wkL (.cons (.same _) (.cons hB .nil)) (ruSameR_spec L.sameR L.same2 awTe awTe (by decide) (by decide) (by decide) ⟨by simp, rfl⟩)) ?_
  simp [oA, oB, q1, q2, q3, q4, hA]
  refine dcall (.bool true) (ruRight_spec L.ru L.right awTe (by decide) (by decide) (by decide) (by decide) (by decide) ⟨by rw [awTe_r], rfl⟩) ?_
  simp
  refine dcall (.bool false) (Ecx.wkL (.cons hN .nil) (ruRight_spec L.ru L.right noTe (by decide) (by decide) (by decide) (by decide) (by decide) ⟨by rw [noTe_r], rfl⟩)) ?_
  simp [oA, oB, q1, q2, q3, q4, hA]
  refine dcall (.bool true) (ruSame_spec L.same awTe awTe (by decide) (by decide) (by decide) ⟨by simp, rfl⟩) ?_
  simp [oA, oB, q1, q2, q3, q4, hA]
  refine dcall (.bool false) (Ecx.wkL (.cons (.same _) (.cons hN .nil)) (ruSame_spec L.same awTe noTe (by decide) (by decide) (by decide) ⟨by rw [decide_eq_false (by decide)], rfl⟩)) ?_
  simp
  exact fin_wk ((gr.new _).new _) (.same _) (by simp) hQ
end
end Go.Proofs.Ytecgbggobecpjaa.Al
namespace Go.Proofs.Ytecgbggobecpjaa.Al
open Go
theorem tie_probateref05_Scan : compFn Try.prog yK Try.f18 = some A.probateref05_Scan.strip := by kernel_rfl
theorem has_probateref05_Scan (W0 : World) {Z : Value → AH → Prop} : Has (Ecx (cxZ W0 Z)) K.probateref05_Scan A.probateref05_Scan := fn_sound Try.checked.mixed rfl (by exact Try.func18) (by kernel_rfl) tie_probateref05_Scan
theorem tie_probateref05_letter : compFn Try.prog yK Try.f36 = some A.probateref05_letter.strip := by kernel_rfl
theorem has_probateref05_letter (W0 : World) {Z : Value → AH → Prop} : Has (Ecx (cxZ W0 Z)) K.probateref05_letter A.probateref05_letter := fn_sound Try.checked.mixed rfl (by exact Try.func36) (by kernel_rfl) tie_probateref05_letter
theorem tie_probateref05_part : compFn Try.prog yK Try.f37 = some A.probateref05_part.strip := by kernel_rfl
theorem has_probateref05_part (W0 : World) {Z : Value → AH → Prop} : Has (Ecx (cxZ W0 Z)) K.probateref05_part A.probateref05_part := fn_sound Try.checked.mixed rfl (by exact Try.func37) (by kernel_rfl) tie_probateref05_part
end Go.Proofs.Ytecgbggobecpjaa.Al
namespace Go.Proofs.Ytecgbggobecpjaa.Al
open Go
theorem tie_probatelaw06_RulesBrackets : compFn Try.prog yK Try.f5 = some A.probatelaw06_RulesBrackets.strip := by kernel_rfl
theorem has_probatelaw06_RulesBrackets (W0 : World) {Z : Value → AH → Prop} : Has (Ecx (cxZ W0 Z)) K.probatelaw06_RulesBrackets A.probatelaw06_RulesBrackets := fn_sound Try.checked.mixed rfl (by exact Try.func5) (by kernel_rfl) tie_probatelaw06_RulesBrackets
theorem tie_probatelaw06_awake : compFn Try.prog yK Try.f6 = some A.probatelaw06_awake.strip := by kernel_rfl
theorem has_probatelaw06_awake (W0 : World) {Z : Value → AH → Prop} : Has (Ecx (cxZ W0 Z)) K.probatelaw06_awake A.probatelaw06_awake := fn_sound Try.checked.mixed rfl (by exact Try.func6) (by kernel_rfl) tie_probatelaw06_awake
theorem tie_probatelaw06_Large : compFn Try.prog yK Try.f7 = some A.probatelaw06_Large.strip := by kernel_rfl
theorem has_probatelaw06_Large (W0 : World) {Z : Value → AH → Prop} : Has (Ecx (cxZ W0 Z)) K.probatelaw06_Large A.probatelaw06_Large := fn_sound Try.checked.mixed rfl (by exact Try.func7) (by kernel_rfl) tie_probatelaw06_Large
theorem tie_probateref06_Read : compFn Try.prog yK Try.f9 = some A.probateref06_Read.strip := by kernel_rfl
theorem has_probateref06_Read (W0 : World) {Z : Value → AH → Prop} : Has (Ecx (cxZ W0 Z)) K.probateref06_Read A.probateref06_Read := fn_sound Try.checked.mixed rfl (by exact Try.func9) (by kernel_rfl) tie_probateref06_Read
theorem tie_probateref06_Same : compFn Try.prog yK Try.f10 = some A.probateref06_Same.strip := by kernel_rfl
theorem has_probateref06_Same (W0 : World) {Z : Value → AH → Prop} : Has (Ecx (cxZ W0 Z)) K.probateref06_Same A.probateref06_Same := fn_sound Try.checked.mixed rfl (by exact Try.func10) (by kernel_rfl) tie_probateref06_Same
theorem tie_probatelaw06_Own : compFn Try.prog yK Try.f11 = some A.probatelaw06_Own.strip := by kernel_rfl
theorem has_probatelaw06_Own (W0 : World) {Z : Value → AH → Prop} : Has (Ecx (cxZ W0 Z)) K.probatelaw06_Own A.probatelaw06_Own := fn_sound Try.checked.mixed rfl (by exact Try.func11) (by kernel_rfl) tie_probatelaw06_Own
theorem tie_probateref06_Right : compFn Try.prog yK Try.f13 = some A.probateref06_Right.strip := by kernel_rfl
theorem has_probateref06_Right (W0 : World) {Z : Value → AH → Prop} : Has (Ecx (cxZ W0 Z)) K.probateref06_Right A.probateref06_Right := fn_sound Try.checked.mixed rfl (by exact Try.func13) (by kernel_rfl) tie_probateref06_Right
theorem tie_probateref06_reader_must : compFn Try.prog yK Try.f19 = some A.probateref06_reader_must.strip := by kernel_rfl
theorem has_probateref06_reader_must (W0 : World) {Z : Value → AH → Prop} : Has (Ecx (cxZ W0 Z)) K.probateref06_reader_must A.probateref06_reader_must := fn_sound Try.checked.mixed rfl (by exact Try.func19) (by kernel_rfl) tie_probateref06_reader_must
theorem tie_probateref06_reader_alternatives : compFn Try.prog yK Try.f20 = some A.probateref06_reader_alternatives.strip := by kernel_rfl
theorem has_probateref06_reader_alternatives (W0 : World) {Z : Value → AH → Prop} : Has (Ecx (cxZ W0 Z)) K.probateref06_reader_alternatives A.probateref06_reader_alternatives := fn_sound Try.checked.mixed rfl (by exact Try.func20) (by kernel_rfl) tie_probateref06_reader_alternatives
theorem tie_probateref06_has : compFn Try.prog yK Try.f21 = some A.probateref06_has.strip := by kernel_rfl
theorem has_probateref06_has (W0 : World) {Z : Value → AH → Prop} : Has (Ecx (cxZ W0 Z)) K.probateref06_has A.probateref06_has := fn_sound Try.checked.mixed rfl (by exact Try.func21) (by kernel_rfl) tie_probateref06_has
theorem tie_probateref06_under : compFn Try.prog yK Try.f28 = some A.probateref06_under.strip := by kernel_rfl
theorem has_probateref06_under (W0 : World) {Z : Value → AH → Prop} : Has (Ecx (cxZ W0 Z)) K.probateref06_under A.probateref06_under := fn_sound Try.checked.mixed rfl (by exact Try.func28) (by kernel_rfl) tie_probateref06_under
theorem tie_probateref06_Tree_fine : compFn Try.prog yK Try.f29 = some A.probateref06_Tree_fine.strip := by kernel_rfl
theorem has_probateref06_Tree_fine (W0 : World) {Z : Value → AH → Prop} : Has (Ecx (cxZ W0 Z)) K.probateref06_Tree_fine A.probateref06_Tree_fine := fn_sound Try.checked.mixed rfl (by exact Try.func29) (by kernel_rfl) tie_probateref06_Tree_fine
theorem tie_probateref06_reader_mark : compFn Try.prog yK Try.f38 = some A.probateref06_reader_mark.strip := by kernel_rfl
theorem has_probateref06_reader_mark (W0 : World) {Z : Value → AH → Prop} : Has (Ecx (cxZ W0 Z)) K.probateref06_reader_mark A.probateref06_reader_mark := fn_sound Try.checked.mixed rfl (by exact Try.func38) (by kernel_rfl) tie_probateref06_reader_mark
theorem tie_probateref06_reader_items : compFn Try.prog yK Try.f39 = some A.probateref06_reader_items.strip := by kernel_rfl
theorem has_probateref06_reader_items (W0 : World) {Z : Value → AH → Prop} : Has (Ecx (cxZ W0 Z)) K.probateref06_reader_items A.probateref06_reader_items := fn_sound Try.checked.mixed rfl (by exact Try.func39) (by kernel_rfl) tie_probateref06_reader_items
theorem tie_probateref06_reader_lay : compFn Try.prog yK Try.f40 = some A.probateref06_reader_lay.strip := by kernel_rfl
theorem has_probateref06_reader_lay (W0 : World) {Z : Value → AH → Prop} : Has (Ecx (cxZ W0 Z)) K.probateref06_reader_lay A.probateref06_reader_lay := fn_sound Try.checked.mixed rfl (by exact Try.func40) (by kernel_rfl) tie_probateref06_reader_lay
theorem tie_probateref06_Tree_rule : compFn Try.prog yK Try.f44 = some A.probateref06_Tree_rule.strip := by kernel_rfl
theorem has_probateref06_Tree_rule (W0 : World) {Z : Value → AH → Prop} : Has (Ecx (cxZ W0 Z)) K.probateref06_Tree_rule A.probateref06_Tree_rule := fn_sound Try.checked.mixed rfl (by exact Try.func44) (by kernel_rfl) tie_probateref06_Tree_rule
theorem tie_probateref06_quote : compFn Try.prog yK Try.f45 = some A.probateref06_quote.strip := by kernel_rfl
theorem has_probateref06_quote (W0 : World) {Z : Value → AH → Prop} : Has (Ecx (cxZ W0 Z)) K.probateref06_quote A.probateref06_quote := fn_sound Try.checked.mixed rfl (by exact Try.func45) (by kernel_rfl) tie_probateref06_quote
theorem tie_probateref06_reader_atom : compFn Try.prog yK Try.f55 = some A.probateref06_reader_atom.strip := by kernel_rfl
theorem has_probateref06_reader_atom (W0 : World) {Z : Value → AH → Prop} : Has (Ecx (cxZ W0 Z)) K.probateref06_reader_atom A.probateref06_reader_atom := fn_sound Try.checked.mixed rfl (by exact Try.func55) (by kernel_rfl) tie_probateref06_reader_atom
end Go.Proofs.Ytecgbggobecpjaa.Al
namespace Go.Proofs.Ytecgbggobecpjaa.Al
open Go
theorem tie_probateref02_Same : compFn Try.prog yK Try.f22 = some A.probateref02_Same.strip := by kernel_rfl
theorem has_probateref02_Same (W0 : World) {Z : Value → AH → Prop} : Has (Ecx (cxZ W0 Z)) K.probateref02_Same A.probateref02_Same := fn_sound Try.checked.mixed rfl (by exact Try.func22) (by kernel_rfl) tie_probateref02_Same
end Go.Proofs.Ytecgbggobecpjaa.Al
namespace Go.Proofs.Ytecgbggobecpjaa.Al
open Go Go.RowKit
set_option linter.unusedVariables false
theorem lrd (W : World) (Z : Value → AH → Prop) : LRd (cxZ W Z) wrongV := ⟨fun toks en a o rest h Q ob hs ha hZ => fail_ok (has_rules_reader_fail W) toks en a o rest h Q ob hs ha hZ, has_rules_reader_ahead W, has_rules_reader_take W, has_rules_reader_must W, has_rules_reader_name W, has_rules_reader_node W, has_rules_reader_begins W, has_rules_reader_atom W, has_rules_reader_item W, has_rules_reader_one W, has_rules_reader_alternatives W, has_rules_reader_text W⟩
theorem lread (W : World) : LRead (cxOf W) := ⟨ls W, fun toks en h o σ Q r hs hk hT hF => parse_ok W (lrd W) r hs hk hT hF, has_rules_reader_names W, has_rules_Read W⟩
theorem lreadR (W : World) : LReadR (cxOf W) := ⟨⟨has_probateref05_letter W, has_probateref05_part W, has_probateref05_Scan W⟩, ⟨has_probateref06_reader_mark W, has_probateref06_reader_must W, has_probateref06_reader_lay W, has_probateref06_reader_atom W, has_probateref06_reader_items W, has_probateref06_reader_alternatives W⟩, has_probateref06_has W, has_probateref06_Read W⟩
theorem lr6 (W : World) : LR6 (cxOf W) := ⟨⟨has_probateref05_letter W, has_probateref05_part W, has_probateref05_Scan W⟩, has_probateref06_under W, has_probateref06_Right W, has_probateref06_Tree_fine W, has_probateref06_Tree_rule W, has_probateref06_quote W⟩
theorem lsame6 (W : World) : LSame6 (cxOf W) := ⟨has_rules_Same W, has_rules_Same_1 W, has_slices_Equal_Rule W, has_slices_EqualFunc_Node W, has_slices_Equal_int W⟩
theorem l06 (W : World) : L06 (cxOf W) := ⟨lread W, lreadR W, lru W, has_o_rules_Right W, lr6 W, lsame6 W, has_probateref06_Same W, has_probateref02_Same W, has_probatelaw06_Large W, has_probatelaw06_Own W, has_probatelaw06_awake W⟩
end Go.Proofs.Ytecgbggobecpjaa.Al
namespace Go.Proofs.Ytecgbggobecpjaa.Al
open Go Go.RowKit
set_option linter.unusedSimpArgs false
set_option linter.unusedVariables false
abbrev KT := Nat × Str
def kt (t : Tok) : KT := (t.kind, t.text)
def suf (toks : List Tok) (a : Nat) : List KT := (toks.drop a).map kt
/-- The same, in more brackets. -/
def brE : Bool → List KT → List KT
  | _, [] => []
  | inn, (k, x) :: l => if k = 3 ∧ x = [58] then (3, [58]) :: (3, [40]) :: brE true l
    else if k = 3 ∧ x = [59] then (3, [41]) :: (3, [59]) :: brE false l
    else if k ≠ 3 ∧ inn = true then (3, [40]) :: (k, x) :: (3, [41]) :: brE inn l
    else (k, x) :: brE inn l
theorem suf_cons {toks : List Tok} {a : Nat} {p : KT} {r : List KT} (h : suf toks a = p :: r) : ∃ hlt : a < toks.length, kt toks[a] = p ∧ suf toks (a + 1) = r := by
  unfold suf at h ⊢
  have hlt : a < toks.length := by
    refine Classical.byContradiction fun c => ?_
    rw [List.drop_eq_nil_of_le (by omega)] at h; cases h
  rw [List.drop_eq_getElem_cons hlt, List.map_cons] at h
  cases h
  exact ⟨hlt, rfl, rfl⟩
theorem suf_at {toks : List Tok} {a : Nat} (hlt : a < toks.length) : suf toks a = kt toks[a] :: suf toks (a + 1) := by
  unfold suf; rw [List.drop_eq_getElem_cons hlt, List.map_cons]
theorem suf_nil {toks : List Tok} {a : Nat} : suf toks a = [] ↔ toks.length ≤ a := by simp [suf]
theorem ahead_suf {toks : List Tok} {a : Nat} {m : Str} : aheadP toks a m = true ↔ ∃ r, suf toks a = (3, m) :: r := by
  constructor
  · intro h
    have hlt := aheadP_lt h
    rw [suf_at hlt]
    simp [aheadP, hlt] at h
    exact ⟨_, by rw [show kt toks[a] = (3, m) by simp [kt, h]]⟩
  · rintro ⟨r, h⟩
    obtain ⟨hlt, e, _⟩ := suf_cons h
    simp only [kt, Prod.mk.injEq] at e
    simp [aheadP, hlt, e]
theorem ahead_of {toks : List Tok} {a : Nat} {p : KT} {r : List KT} (h : suf toks a = p :: r) (m : Str) : aheadP toks a m = decide (p = (3, m)) := by
  cases hh : aheadP toks a m with
  | true => obtain ⟨r', e⟩ := ahead_suf.1 hh; rw [h] at e; cases e; simp
  | false =>
    symm; rw [decide_eq_false_iff_not]
    rintro rfl
    rw [ahead_suf.2 ⟨r, h⟩] at hh; cases hh
theorem ahead_nil {toks : List Tok} {a : Nat} (h : suf toks a = []) (m : Str) : aheadP toks a m = false := by
  cases hh : aheadP toks a m with
  | true => obtain ⟨r', e⟩ := ahead_suf.1 hh; rw [h] at e; cases e
  | false => rfl
theorem bgn_of {toks : List Tok} {a : Nat} {k : Nat} {x : Str} {r : List KT} (h : suf toks a = (k, x) :: r) : bgnP toks a = (decide (k ≠ 3) || decide (x = [40])) := by
  obtain ⟨hlt, e, _⟩ := suf_cons h
  simp only [kt, Prod.mk.injEq] at e
  simp [bgnP, hlt, e]
theorem bgn_nil {toks : List Tok} {a : Nat} (h : suf toks a = []) : bgnP toks a = false := by
  have := suf_nil.1 h
  simp [bgnP, this]
/-- Alike states: of the text, and of the one in more brackets. -/
structure BrR (T T' : List Tok) (inn : Bool) (s s' : PS) : Prop where
  suf : suf T' s'.at' = brE inn (Al.suf T s.at')
  le : s.at' ≤ T.length
  le' : s'.at' ≤ T'.length
  nodes : s'.nodes = s.nodes
  rules : s'.rules = s.rules
  given : s'.given.map (·.name) = s.given.map (·.name)
  used : s'.used.map (·.name) = s.used.map (·.name)
section
variable {T T' : List Tok} {en en' : Nat}
theorem suf_lt {toks : List Tok} {a : Nat} {p : KT} {r : List KT} (h : suf toks a = p :: r) : a < toks.length := (suf_cons h).1
/-- One name, or quote, in brackets. -/
theorem single_br {s : PS} {k : Nat} {x : Str} {r : List KT} (h : suf T' s.at' = (k, x) :: (3, [41]) :: r) (hk : k = 1 ∨ k = 2) {f : Nat} (hf : T'.length < f + s.at') :
    ∃ s1 n, altsP T' en' f s = .ok (s1, n) ∧ suf T' s1.at' = (3, [41]) :: r ∧ s1.rules = s.rules ∧ s1.given = s.given ∧ n = (s.nodes.length : Int) ∧
      ((k = 2 ∧ s1.nodes = s.nodes ++ [⟨7, x, []⟩] ∧ s1.used = s.used) ∨ (k = 1 ∧ s1.nodes = s.nodes ++ [⟨6, x, []⟩] ∧ ∃ u, u.name = x ∧ s1.used = s.used ++ [u])) := by
  obtain ⟨hlt, e, h2⟩ := suf_cons h
  obtain ⟨f, rfl⟩ : ∃ f', f = f' + 1 := ⟨f - 1, by omega⟩
  have hlt2 := suf_lt h2
  simp only [kt, Prod.mk.injEq] at e
  have ha : ∀ m, aheadP T' (s.at' + 1) m = decide (m = [41]) := fun m => by rw [ahead_of h2]; by_cases c : m = [41] <;> simp [c]; exact fun q => c q.symm
  have ha0 : ∀ m, aheadP T' s.at' m = false := fun m => by rw [ahead_of h]; simp; omega
  have hb0 : bgnP T' s.at' = true := by rw [bgn_of h]; simp; omega
  have hb1 : bgnP T' (s.at' + 1) = false := by rw [bgn_of h2]; simp
  -- the atom
  obtain ⟨s1, hat, hs1, hs2⟩ : ∃ s1, atomP T' en' (altsP T' en' f) s = .ok (s1, (s.nodes.length : Int)) ∧ (s1.at' = s.at' + 1 ∧ s1.rules = s.rules ∧ s1.given = s.given) ∧
      ((k = 2 ∧ s1.nodes = s.nodes ++ [⟨7, x, []⟩] ∧ s1.used = s.used) ∨ (k = 1 ∧ s1.nodes = s.nodes ++ [⟨6, x, []⟩] ∧ ∃ u, u.name = x ∧ s1.used = s.used ++ [u])) := by
    rcases hk with rfl | rfl
    · refine ⟨(useP ⟨x, T'[s.at'].at'⟩ s.adv).lay 6 x [], ?_, ⟨rfl, rfl, rfl⟩, .inr ⟨rfl, rfl, _, rfl, rfl⟩⟩
      unfold atomP
      rw [if_neg (by simp [ha0])]
      simp [hlt, e, nameP, pbnd, nodeP, useP, PS.adv]
    · refine ⟨s.adv.lay 7 x [], ?_, ⟨rfl, rfl, rfl⟩, .inl ⟨rfl, rfl, rfl⟩⟩
      unfold atomP
      rw [if_neg (by simp [ha0])]
      simp [hlt, e, nodeP, PS.adv]
  obtain ⟨a1, a2, a3⟩ := hs1
  have hit : itemP T' en' (altsP T' en' f) s = .ok (s1, (s.nodes.length : Int)) := by
    unfold itemP
    rw [hat]
    simp only [pbnd]
    unfold markP
    rw [a1]
    simp [ha]
  obtain ⟨m, hm⟩ : ∃ m, T'.length + 1 = m + 2 := ⟨T'.length - 1, by omega⟩
  have hits : itemsP T' en' (altsP T' en' f) (T'.length + 1) s [] = .ok (s1, [(s.nodes.length : Int)]) := by
    rw [hm, itemsP, if_pos hb0, hit]
    simp only [pbnd]
    rw [itemsP, a1, if_neg (by simp [hb1])]
    rfl
  have hseq : seqP T' en' (altsP T' en' f) s = .ok (s1, (s.nodes.length : Int)) := by
    unfold seqP
    rw [hits]; rfl
  have hal : altsL T' en' (altsP T' en' f) (T'.length + 1) s [] = .ok (s1, [(s.nodes.length : Int)]) := by
    rw [altsL, hseq]
    simp only [pbnd]
    rw [a1, if_neg (by simp [ha])]
    rfl
  refine ⟨s1, (s.nodes.length : Int), ?_, by rw [a1]; exact h2, a2, a3, rfl, hs2⟩
  rw [altsP, hal]; rfl
theorem brE_nil {inn : Bool} {l : List KT} : brE inn l = [] ↔ l = [] := by
  cases l with
  | nil => simp [brE]
  | cons p l =>
    obtain ⟨k, x⟩ := p
    simp only [brE]
    repeat' split
    all_goals simp
theorem BrR.at_end {inn : Bool} {s s' : PS} (b : BrR T T' inn s s') : T.length ≤ s.at' ↔ T'.length ≤ s'.at' := by
  rw [← suf_nil, ← suf_nil, b.suf, brE_nil]
theorem BrR.ahead {s s' : PS} (b : BrR T T' true s s') (m : Str) (h1 : m ≠ [40]) (h2 : m ≠ [41]) (h3 : m ≠ [59]) : aheadP T' s'.at' m = aheadP T s.at' m := by
  have e := b.suf
  cases hs : Al.suf T s.at' with
  | nil => rw [hs] at e; rw [ahead_nil hs, ahead_nil (by rw [e]; rfl)]
  | cons p l =>
    obtain ⟨k, x⟩ := p
    rw [hs] at e
    rw [ahead_of hs]
    simp only [brE] at e
    split at e
    · rename_i c; rw [ahead_of e, c.1, c.2]
    split at e
    · rename_i c; rw [ahead_of e, c.1, c.2]; simp [Ne.symm h2, Ne.symm h3]
    split at e
    · rename_i c; rw [ahead_of e]; simp [Ne.symm h1]; intro q; exact absurd q c.1
    · rw [ahead_of e]
theorem BrR.bgn {s s' : PS} (b : BrR T T' true s s') : bgnP T' s'.at' = bgnP T s.at' := by
  have e := b.suf
  cases hs : Al.suf T s.at' with
  | nil => rw [hs] at e; rw [bgn_nil hs, bgn_nil (by rw [e]; rfl)]
  | cons p l =>
    obtain ⟨k, x⟩ := p
    rw [hs] at e
    rw [bgn_of hs]
    simp only [brE] at e
    split at e
    · rename_i c; rw [bgn_of e, c.1, c.2]
    split at e
    · rename_i c; rw [bgn_of e, c.1, c.2]; simp
    split at e
    · rename_i c; rw [bgn_of e]; simp [c.1]
    · rw [bgn_of e]
theorem BrR.lay {inn : Bool} {s s' : PS} (b : BrR T T' inn s s') (k : Int) (n : Str) (l : List Int) : BrR T T' inn (s.lay k n l) (s'.lay k n l) :=
  ⟨b.suf, b.le, b.le', by simp [PS.lay, b.nodes], b.rules, b.given, b.used⟩
theorem BrR.node {inn : Bool} {s s' : PS} (b : BrR T T' inn s s') (k : Int) (n : Str) (l : List Int) : (nodeP k n l s').2 = (nodeP k n l s).2 ∧ BrR T T' inn (nodeP k n l s).1 (nodeP k n l s').1 :=
  ⟨by simp [nodeP, b.nodes], b.lay k n l⟩
theorem BrR.one {inn : Bool} {s s' : PS} (b : BrR T T' inn s s') (k : Int) (l : List Int) : (oneP k l s').2 = (oneP k l s).2 ∧ BrR T T' inn (oneP k l s).1 (oneP k l s').1 := by
  unfold oneP
  split
  · exact ⟨rfl, b⟩
  · exact b.node k [] _
/-- One token further in both. -/
theorem BrR.step {inn : Bool} {s s' : PS} (b : BrR T T' inn s s') {p : KT} {r : List KT} (h : Al.suf T s.at' = p :: r) (inn2 : Bool) (e : brE inn (p :: r) = p :: brE inn2 r) : BrR T T' inn2 s.adv s'.adv := by
  obtain ⟨l1, _, h2⟩ := suf_cons h
  have hs := b.suf
  rw [h, e] at hs
  obtain ⟨l2, _, h3⟩ := suf_cons hs
  exact ⟨by show Al.suf T' (s'.at' + 1) = _; rw [h3]; show _ = brE inn2 (Al.suf T (s.at' + 1)); rw [h2], l1, l2, b.nodes, b.rules, b.given, b.used⟩
theorem BrR.mark {s s' : PS} (b : BrR T T' true s s') (n : Int) : (markP T' s' n).2 = (markP T s n).2 ∧ BrR T T' true (markP T s n).1 (markP T' s' n).1 := by
  have key : ∀ (k : Int) (c : UInt8), c ≠ 58 → c ≠ 59 → aheadP T s.at' [c] = true → (nodeP k [] [n] s'.adv).2 = (nodeP k [] [n] s.adv).2 ∧ BrR T T' true (nodeP k [] [n] s.adv).1 (nodeP k [] [n] s'.adv).1 := fun k c c1 c2 ha => by
    obtain ⟨r, hr⟩ := ahead_suf.1 ha
    exact (b.step hr true (by simp [brE, c1, c2])).node k [] [n]
  unfold markP
  rw [b.ahead [42] (by decide) (by decide) (by decide), b.ahead [43] (by decide) (by decide) (by decide), b.ahead [63] (by decide) (by decide) (by decide)]
  split
  · rename_i c; exact key 3 _ (by decide) (by decide) c
  split
  · rename_i c; exact key 4 _ (by decide) (by decide) c
  split
  · rename_i c; exact key 5 _ (by decide) (by decide) c
  · exact ⟨rfl, b⟩
/-- What is read alike. -/
def AltB (T T' : List Tok) (alt : PS → PR Int) (alt' : PS → PR Int) (f' : Nat) : Prop :=
  ∀ s s' s1 n, BrR T T' true s s' → T'.length < f' + s'.at' → alt s = .ok (s1, n) → ∃ s1', alt' s' = .ok (s1', n) ∧ BrR T T' true s1 s1'
theorem atom_br {alt : PS → PR Int} {f' : Nat} (ha : AltB T T' alt (altsP T' en' f') f') {s s' s1 : PS} {n : Int} (b : BrR T T' true s s') (hf : T'.length < f' + 1 + s'.at') (h : atomP T en alt s = .ok (s1, n)) :
    ∃ s1', atomP T' en' (altsP T' en' f') s' = .ok (s1', n) ∧ BrR T T' true s1 s1' := by
  cases hs : Al.suf T s.at' with
  | nil =>
    have := suf_nil.1 hs
    unfold atomP at h
    rw [ahead_nil hs, if_neg (by simp), List.getElem?_eq_none this] at h
    cases h
  | cons p r =>
    obtain ⟨k, x⟩ := p
    have e := b.suf
    rw [hs] at e
    obtain ⟨hlt, ek, hs2⟩ := suf_cons hs
    have ek' := ek
    simp only [kt, Prod.mk.injEq] at ek'
    obtain ⟨e1, e2⟩ := ek'
    by_cases c0 : k = 3 ∧ x = [40]
    · obtain ⟨rfl, rfl⟩ := c0
      have hb := b.step hs true (by simp [brE])
      unfold atomP at h ⊢
      rw [ahead_of hs, if_pos (by simp)] at h
      rw [ahead_of (p := (3, [40])) (r := brE true r) (by rw [e]; simp [brE]), if_pos (by simp)]
      obtain ⟨s2, n2, h1, h2⟩ := pbnd_ok h
      obtain ⟨s3, u, h3, h4⟩ := pbnd_ok h2
      cases h4
      obtain ⟨s2', g1, b2⟩ := ha _ _ _ _ hb (by simp only [PS.adv]; omega) h1
      rw [g1]
      simp only [pbnd]
      unfold mustP at h3 ⊢
      split at h3
      · rename_i c
        cases h3
        obtain ⟨r2, hr2⟩ := ahead_suf.1 c
        have e3 := b2.suf
        rw [hr2] at e3
        rw [ahead_of (p := (3, [41])) (r := brE true r2) (by rw [e3]; simp [brE])]
        exact ⟨_, rfl, b2.step hr2 true (by simp [brE])⟩
      · cases h3
    · unfold atomP at h
      rw [ahead_of hs, if_neg (by simpa using c0)] at h
      simp only [List.getElem?_eq_getElem hlt] at h
      have hk : k = 1 ∨ k = 2 := by
        by_cases q : k = 2
        · exact .inr q
        left
        rw [if_neg (by rw [e1]; exact q)] at h
        obtain ⟨s2, u, h1, h2⟩ := pbnd_ok h
        unfold nameP at h1
        simp only [List.getElem?_eq_getElem hlt] at h1
        split at h1
        · rename_i c; rw [← e1]; exact c
        · cases h1
      have e4 : Al.suf T' s'.at' = (3, [40]) :: (k, x) :: (3, [41]) :: brE true r := by rw [e, brE, if_neg (by omega), if_neg (by omega), if_pos ⟨by omega, rfl⟩]
      obtain ⟨l1, _, e5⟩ := suf_cons e4
      obtain ⟨s2', n', g1, g2, g3, g4, g5, g6⟩ := single_br (T' := T') (en' := en') (s := s'.adv) (f := f') e5 hk (by simp only [PS.adv]; omega)
      unfold atomP
      rw [ahead_of e4, if_pos (by simp), g1]
      simp only [pbnd]
      unfold mustP
      rw [ahead_of g2, if_pos (by simp)]
      obtain ⟨l5, _, g7⟩ := suf_cons g2
      have hn : n' = (s.nodes.length : Int) := by rw [g5]; simp [PS.adv, b.nodes]
      refine ⟨s2'.adv, ?_, ?_⟩
      · rcases hk with rfl | rfl
        · rw [if_neg (by omega)] at h
          unfold nameP at h
          simp only [List.getElem?_eq_getElem hlt] at h
          rw [if_pos e1] at h
          simp [pbnd, nodeP] at h
          simp [hn, ← h.2, useP, PS.adv]
        · rw [if_pos e1] at h
          simp [nodeP] at h
          simp [hn, ← h.2, PS.adv]
      · have key : s1.at' = s.at' + 1 ∧ s1.rules = s.rules ∧ s1.given = s.given ∧ s2'.nodes = s1.nodes ∧ s2'.used.map (·.name) = s1.used.map (·.name) := by
          rcases hk with rfl | rfl
          · rw [if_neg (by omega)] at h
            unfold nameP at h
            simp only [List.getElem?_eq_getElem hlt] at h
            rw [if_pos e1] at h
            simp [pbnd, nodeP] at h
            obtain ⟨rfl, _⟩ := h
            rcases g6 with ⟨q, _⟩ | ⟨_, q1, u, q2, q3⟩
            · omega
            · refine ⟨rfl, rfl, rfl, ?_, ?_⟩
              · rw [q1]; simp [PS.lay, PS.adv, useP, b.nodes, e2]
              · rw [q3]; simp [PS.lay, PS.adv, useP, b.used, q2, e2]
          · rw [if_pos e1] at h
            simp [nodeP] at h
            obtain ⟨rfl, _⟩ := h
            rcases g6 with ⟨_, q1, q3⟩ | ⟨q, _⟩
            · refine ⟨rfl, rfl, rfl, ?_, ?_⟩
              · rw [q1]; simp [PS.lay, PS.adv, b.nodes, e2]
              · rw [q3]; simp [PS.lay, PS.adv, b.used]
            · omega
        obtain ⟨k1, k2, k3, k4, k5⟩ := key
        exact ⟨by show Al.suf T' (s2'.at' + 1) = _; rw [g7, k1, hs2], by omega, l5, k4, by rw [k2]; show s2'.rules = _; rw [g3]; exact b.rules, by rw [k3]; show s2'.given.map _ = _; rw [g4]; exact b.given, k5⟩
theorem item_br {alt : PS → PR Int} {f' : Nat} (ha : AltB T T' alt (altsP T' en' f') f') {s s' s1 : PS} {n : Int} (b : BrR T T' true s s') (hf : T'.length < f' + 1 + s'.at') (h : itemP T en alt s = .ok (s1, n)) :
    ∃ s1', itemP T' en' (altsP T' en' f') s' = .ok (s1', n) ∧ BrR T T' true s1 s1' := by
  unfold itemP at h ⊢
  obtain ⟨s2, n2, h1, h2⟩ := pbnd_ok h
  obtain ⟨s2', g1, b2⟩ := atom_br (en := en) (en' := en') ha b hf h1
  obtain ⟨m1, m2⟩ := b2.mark n2
  rw [g1]
  simp only [pbnd]
  have e : s1 = (markP T s2 n2).1 ∧ n = (markP T s2 n2).2 := by
    have := congrArg (fun x => x.toOption) h2
    simp [Except.toOption] at this
    rw [this]; exact ⟨rfl, rfl⟩
  obtain ⟨rfl, rfl⟩ := e
  exact ⟨_, by rw [← m1], m2⟩
theorem items_br {alt : PS → PR Int} {f' : Nat} (ha : AltB T T' alt (altsP T' en' f') f') (hw : AltFwd T alt) : ∀ (k k' : Nat) {s s' s1 : PS} {l l1 : List Int}, BrR T T' true s s' → T'.length < f' + 1 + s'.at' → T.length < k + s.at' → T'.length < k' + s'.at' →
    itemsP T en alt k s l = .ok (s1, l1) → ∃ s1', itemsP T' en' (altsP T' en' f') k' s' l = .ok (s1', l1) ∧ BrR T T' true s1 s1' ∧ s'.at' ≤ s1'.at'
  | 0, k', s, s', s1, l, l1, b, hf, hk, hk', h => by have := b.le; omega
  | k + 1, 0, s, s', s1, l, l1, b, hf, hk, hk', h => by have := b.le'; omega
  | k + 1, k' + 1, s, s', s1, l, l1, b, hf, hk, hk', h => by
    rw [itemsP] at h ⊢
    rw [b.bgn]
    split at h
    · rename_i c
      rw [if_pos c]
      obtain ⟨s2, n2, h1, h2⟩ := pbnd_ok h
      obtain ⟨s2', g1, b2⟩ := item_br (en := en) (en' := en') ha b hf h1
      have p1 := (item_fwd hw h1).1
      have p2 := (item_fwd (alts_fwd f') g1).1
      rw [g1]
      simp only [pbnd]
      obtain ⟨s3', g2, b3, p3⟩ := items_br ha hw k k' b2 (by omega) (by omega) (by omega) h2
      exact ⟨s3', g2, b3, by omega⟩
    · rename_i c
      rw [if_neg c]
      cases h
      exact ⟨s', rfl, b, Nat.le_refl _⟩
theorem seq_br {alt : PS → PR Int} {f' : Nat} (ha : AltB T T' alt (altsP T' en' f') f') (hw : AltFwd T alt) {s s' s1 : PS} {n : Int} (b : BrR T T' true s s') (hf : T'.length < f' + 1 + s'.at') (h : seqP T en alt s = .ok (s1, n)) :
    ∃ s1', seqP T' en' (altsP T' en' f') s' = .ok (s1', n) ∧ BrR T T' true s1 s1' ∧ s'.at' ≤ s1'.at' := by
  unfold seqP at h ⊢
  obtain ⟨s2, l2, h1, h2⟩ := pbnd_ok h
  obtain ⟨s2', g1, b2, p⟩ := items_br (en := en) (en' := en') ha hw _ (T'.length + 1) b hf (by omega) (by omega) h1
  rw [g1]
  simp only [pbnd]
  obtain ⟨m1, m2⟩ := b2.one 1 l2
  have e : s1 = (oneP 1 l2 s2).1 ∧ n = (oneP 1 l2 s2).2 := by
    have := congrArg (fun x => x.toOption) h2
    simp [Except.toOption] at this
    rw [this]; exact ⟨rfl, rfl⟩
  obtain ⟨rfl, rfl⟩ := e
  exact ⟨_, by rw [← m1], m2, by rw [(one_fwd (toks := T') 1 l2 s2').1]; exact p⟩
theorem altsL_br {alt : PS → PR Int} {f' : Nat} (ha : AltB T T' alt (altsP T' en' f') f') (hw : AltFwd T alt) : ∀ (k k' : Nat) {s s' s1 : PS} {l l1 : List Int}, BrR T T' true s s' → T'.length < f' + 1 + s'.at' → T.length < k + s.at' → T'.length < k' + s'.at' →
    altsL T en alt k s l = .ok (s1, l1) → ∃ s1', altsL T' en' (altsP T' en' f') k' s' l = .ok (s1', l1) ∧ BrR T T' true s1 s1'
  | 0, k', s, s', s1, l, l1, b, hf, hk, hk', h => by have := b.le; omega
  | k + 1, 0, s, s', s1, l, l1, b, hf, hk, hk', h => by have := b.le'; omega
  | k + 1, k' + 1, s, s', s1, l, l1, b, hf, hk, hk', h => by
    rw [altsL] at h ⊢
    obtain ⟨s2, n2, h1, h2⟩ := pbnd_ok h
    obtain ⟨s2', g1, b2, p⟩ := seq_br (en := en) (en' := en') ha hw b hf h1
    have p1 := (seq_fwd hw b.le h1).at1
    rw [g1]
    simp only [pbnd]
    rw [b2.ahead [124] (by decide) (by decide) (by decide)]
    split at h2
    · rename_i c
      rw [if_pos c]
      obtain ⟨r, hr⟩ := ahead_suf.1 c
      exact altsL_br ha hw k k' (b2.step hr true (by simp [brE])) (by simp only [PS.adv]; omega) (by simp only [PS.adv]; omega) (by simp only [PS.adv]; omega) h2
    · rename_i c
      rw [if_neg c]
      cases h2
      exact ⟨s2', rfl, b2⟩
theorem alts_br : ∀ f f', AltB T T' (altsP T en f) (altsP T' en' f') f'
  | 0, f', s, s', s1, n, b, hf, h => by cases h
  | f + 1, 0, s, s', s1, n, b, hf, h => by have := b.le'; omega
  | f + 1, f' + 1, s, s', s1, n, b, hf, h => by
    rw [altsP] at h ⊢
    obtain ⟨s2, l2, h1, h2⟩ := pbnd_ok h
    obtain ⟨s2', g1, b2⟩ := altsL_br (en := en) (en' := en') (alts_br f f') (alts_fwd f) _ (T'.length + 1) b hf (by omega) (by omega) h1
    rw [g1]
    simp only [pbnd]
    obtain ⟨m1, m2⟩ := b2.one 2 l2
    have e : s1 = (oneP 2 l2 s2).1 ∧ n = (oneP 2 l2 s2).2 := by
      have := congrArg (fun x => x.toOption) h2
      simp [Except.toOption] at this
      rw [this]; exact ⟨rfl, rfl⟩
    obtain ⟨rfl, rfl⟩ := e
    exact ⟨_, by rw [← m1], m2⟩
/-- All of it in brackets. -/
theorem wrap_br {s s1 : PS} {n : Int} {r r1 : List KT} {f : Nat} (h : suf T' s.at' = (3, [40]) :: r) (h1 : altsP T' en' f s.adv = .ok (s1, n)) (h2 : suf T' s1.at' = (3, [41]) :: (3, [59]) :: r1) : altsP T' en' (f + 1) s = .ok (s1.adv, n) := by
  obtain ⟨_, _, h3⟩ := suf_cons h2
  have ha : ∀ c, c ≠ 59 → aheadP T' (s1.at' + 1) [c] = false := fun c hc => by rw [ahead_of h3]; simp [Ne.symm hc]
  have hb : bgnP T' (s1.at' + 1) = false := by rw [bgn_of h3]; simp
  have hat : atomP T' en' (altsP T' en' f) s = .ok (s1.adv, n) := by
    unfold atomP
    rw [ahead_of h, if_pos (by simp), h1]
    simp only [pbnd]
    unfold mustP
    rw [ahead_of h2, if_pos (by simp)]
  have hit : itemP T' en' (altsP T' en' f) s = .ok (s1.adv, n) := by
    unfold itemP
    rw [hat]
    simp only [pbnd]
    unfold markP
    simp [PS.adv, ha]
  have hlt := suf_lt h
  obtain ⟨m, hm⟩ : ∃ m, T'.length + 1 = m + 2 := ⟨T'.length - 1, by omega⟩
  have hits : itemsP T' en' (altsP T' en' f) (T'.length + 1) s [] = .ok (s1.adv, [n]) := by
    rw [hm, itemsP, if_pos (by rw [bgn_of h]; simp), hit]
    simp only [pbnd]
    rw [itemsP, if_neg (by show ¬ bgnP T' (s1.at' + 1) = true; simp [hb])]
    rfl
  have hseq : seqP T' en' (altsP T' en' f) s = .ok (s1.adv, n) := by
    unfold seqP
    rw [hits]; rfl
  have hal : altsL T' en' (altsP T' en' f) (T'.length + 1) s [] = .ok (s1.adv, [n]) := by
    rw [altsL, hseq]
    simp only [pbnd]
    rw [if_neg (by show ¬ aheadP T' (s1.at' + 1) [124] = true; simp [ha])]
    rfl
  rw [altsP, hal]; rfl
theorem rule_br {s s' s1 : PS} {u : Unit} (b : BrR T T' false s s') (h : ruleP T en s = .ok (s1, u)) : ∃ s1', ruleP T' en' s' = .ok (s1', ()) ∧ BrR T T' false s1 s1' := by
  unfold ruleP at h
  obtain ⟨s2, w, h1, h⟩ := pbnd_ok h
  obtain ⟨s3, u3, h2, h⟩ := pbnd_ok h
  obtain ⟨s4, n, h3, h⟩ := pbnd_ok h
  obtain ⟨s5, u5, h4, h⟩ := pbnd_ok h
  cases h
  -- its name
  obtain ⟨x, r, hs, hw⟩ : ∃ x r, Al.suf T s.at' = (1, x) :: r ∧ w.name = x := by
    unfold nameP at h1
    split at h1
    · rename_i t e
      obtain ⟨hlt, rfl⟩ := List.getElem?_eq_some_iff.1 e
      split at h1
      · rename_i c
        cases h1
        exact ⟨_, _, by rw [suf_at hlt, kt, c], rfl⟩
      · cases h1
    · cases h1
  obtain ⟨rfl, _⟩ := name_fwd h1
  have b2 := b.step hs false (by simp [brE])
  have e := b.suf
  rw [hs] at e
  obtain ⟨l1, ek, _⟩ := suf_cons (p := (1, x)) (r := brE false r) (by rw [e]; simp [brE])
  simp only [kt, Prod.mk.injEq] at ek
  have g1 : nameP T' en' s' = .ok (s'.adv, ⟨x, T'[s'.at'].at'⟩) := by
    unfold nameP
    simp [l1, ek]
  -- its sign
  obtain ⟨rfl, hl2⟩ := must_fwd h2
  have hs2 : ∃ r2, Al.suf T s.adv.at' = (3, [58]) :: r2 := by
    unfold mustP at h2
    split at h2
    · rename_i c; exact ahead_suf.1 c
    · cases h2
  obtain ⟨r2, hs2⟩ := hs2
  have e2 := b2.suf
  rw [hs2] at e2
  simp only [brE, true_and, if_true] at e2
  obtain ⟨l2, _, e3⟩ := suf_cons e2
  obtain ⟨l3, _, e4⟩ := suf_cons e3
  obtain ⟨l4, _, hs3⟩ := suf_cons hs2
  have g2 : mustP T' en' [58] (giveP ⟨x, T'[s'.at'].at'⟩ s'.adv) = .ok ((giveP ⟨x, T'[s'.at'].at'⟩ s'.adv).adv, ()) := by
    unfold mustP
    rw [if_pos (by show aheadP T' s'.adv.at' [58] = true; rw [ahead_of e2]; simp)]
  have b3 : BrR T T' true (giveP w s.adv).adv (giveP ⟨x, T'[s'.at'].at'⟩ s'.adv).adv.adv :=
    ⟨by show Al.suf T' (s'.adv.at' + 1 + 1) = brE true (Al.suf T (s.adv.at' + 1)); rw [e4, hs3], l4, l3, b.nodes, b.rules, by simp [giveP, PS.adv, b.given, hw], b.used⟩
  have hl : 0 < T'.length := by omega
  obtain ⟨F, hF⟩ : ∃ F, T'.length + 1 = F + 1 := ⟨T'.length, rfl⟩
  obtain ⟨s4', g3, b4⟩ := alts_br (en := en) (en' := en') _ F _ _ _ _ b3 (by simp only [PS.adv, giveP]; omega) h3
  obtain ⟨rfl, hl5⟩ := must_fwd h4
  have hs5 : ∃ r5, Al.suf T s4.at' = (3, [59]) :: r5 := by
    unfold mustP at h4
    split at h4
    · rename_i c; exact ahead_suf.1 c
    · cases h4
  obtain ⟨r5, hs5⟩ := hs5
  have e5 := b4.suf
  rw [hs5] at e5
  have e5' : Al.suf T' s4'.at' = (3, [41]) :: (3, [59]) :: brE false r5 := by rw [e5]; simp [brE]
  obtain ⟨l6, _, e6⟩ := suf_cons e5'
  obtain ⟨l7, _, e7⟩ := suf_cons e6
  obtain ⟨l8, _, hs6⟩ := suf_cons hs5
  have g4 := wrap_br (T' := T') (en' := en') (s := (giveP ⟨x, T'[s'.at'].at'⟩ s'.adv).adv) (f := F) e3 g3 e5'
  refine ⟨{ s4'.adv.adv with rules := s4'.rules ++ [⟨x, n⟩] }, ?_, ?_⟩
  · unfold ruleP
    rw [g1]
    simp only [pbnd]
    rw [g2]
    simp only [pbnd]
    rw [hF, g4]
    simp only [pbnd]
    have g5 : mustP T' en' [59] s4'.adv = .ok (s4'.adv.adv, ()) := by
      unfold mustP
      rw [if_pos (by show aheadP T' (s4'.at' + 1) [59] = true; rw [ahead_of e6]; simp)]
    rw [g5]
    rfl
  · exact ⟨by show Al.suf T' (s4'.at' + 1 + 1) = brE false (Al.suf T (s4.at' + 1)); rw [e7, hs6], l8, l7, b4.nodes, by simp [PS.adv, b4.rules, hw], b4.given, b4.used⟩
theorem textL_br : ∀ (k k' : Nat) {s s' s1 : PS} {u : Unit}, BrR T T' false s s' → T.length < k + s.at' → T'.length < k' + s'.at' → textL T en k s = .ok (s1, u) → ∃ s1', textL T' en' k' s' = .ok (s1', ()) ∧ BrR T T' false s1 s1'
  | 0, k', s, s', s1, u, b, hk, hk', h => by have := b.le; omega
  | k + 1, 0, s, s', s1, u, b, hk, hk', h => by have := b.le'; omega
  | k + 1, k' + 1, s, s', s1, u, b, hk, hk', h => by
    rw [textL] at h ⊢
    obtain ⟨s2, u2, h1, h2⟩ := pbnd_ok h
    obtain ⟨s2', g1, b2⟩ := rule_br (en := en) (en' := en') b h1
    have p1 := (rule_fwd b.le h1).1
    have p2 := (rule_fwd b.le' g1).1
    rw [g1]
    simp only [pbnd]
    have q := b2.at_end
    split at h2
    · rename_i c
      rw [if_pos (by omega)]
      exact textL_br k k' b2 (by omega) (by omega) h2
    · rename_i c
      rw [if_neg (by omega)]
      cases h2
      exact ⟨s2', rfl, b2⟩
theorem textP_br {s1 : PS} {u : Unit} (hT : T'.map kt = brE false (T.map kt)) (h : textP T en = .ok (s1, u)) : ∃ s1', textP T' en' = .ok (s1', ()) ∧ BrR T T' false s1 s1' :=
  textL_br _ _ ⟨by simpa [suf] using hT, Nat.zero_le _, Nat.zero_le _, rfl, rfl, rfl, rfl⟩ (by simp) (by simp) h
end
/-! ### Names -/
theorem twiceP_map : ∀ {seen : List Str} {l l' : List Use}, l'.map (·.name) = l.map (·.name) → twiceP seen l = none → twiceP seen l' = none
  | seen, [], l', e, h => by simp at e; subst e; rfl
  | seen, u :: l, [], e, h => by simp at e
  | seen, u :: l, u' :: l', e, h => by
    simp only [List.map_cons, List.cons.injEq] at e
    unfold twiceP at h ⊢
    rw [e.1]
    split at h
    · cases h
    · rename_i c; rw [if_neg c]; exact twiceP_map e.2 h
theorem missP_map : ∀ {seen : List Str} {l l' : List Use}, l'.map (·.name) = l.map (·.name) → missP seen l = none → missP seen l' = none
  | seen, [], l', e, h => by simp at e; subst e; rfl
  | seen, u :: l, [], e, h => by simp at e
  | seen, u :: l, u' :: l', e, h => by
    simp only [List.map_cons, List.cons.injEq] at e
    unfold missP at h ⊢
    rw [e.1]
    split at h
    · rename_i c; rw [if_pos c]; exact missP_map e.2 h
    · cases h
theorem namesP_map {g g' u u' : List Use} (hg : g'.map (·.name) = g.map (·.name)) (hu : u'.map (·.name) = u.map (·.name)) (h : (namesP g u).2 = 0) : namesP g' u' = (0, 0) := by
  unfold namesP at h ⊢
  cases h1 : twiceP [] g with
  | some p => simp [h1] at h
  | none =>
    cases h2 : missP (g.map (·.name)) u with
    | some p => simp [h1, h2] at h
    | none => rw [twiceP_map hg h1, hg]; simp only; rw [missP_map hu h2]
/-! ### The text in brackets -/
def Sc (s : Str) (l : List KT) : Prop := ∀ n k, s.length ≤ n → (scanL n s k).2 = none ∧ (scanL n s k).1.map kt = l
theorem Sc.nil : Sc [] [] := fun n k _ => by rw [scanL_nil]; exact ⟨rfl, rfl⟩
theorem Sc.sp {s : Str} {l : List KT} (h : Sc s l) : Sc (32 :: s) l := fun n k hn => by
  obtain ⟨n, rfl⟩ : ∃ m, n = m + 1 := ⟨n - 1, by simp at hn; omega⟩
  have := h n (k + 1) (by simpa using hn)
  rw [scanL, if_neg (by simp), sfirst_space]
  simpa using this
theorem Sc.tok {s : Str} {l : List KT} (h : Sc s l) {t : Tok} (g : goodTok t) (hr : t.kind = 1 → runN partB s = 0) : Sc (tokText t ++ s) (kt t :: l) := fun n k hn => by
  have hp := tokText_pos g
  rw [List.length_append] at hn
  obtain ⟨n, rfl⟩ : ∃ m, n = m + 1 := ⟨n - 1, by omega⟩
  have := h n (k + (tokText t).length) (by omega)
  rw [scanL_tok g s hr]
  exact ⟨this.1, by simp [this.2, kt]⟩
theorem Sc.mk {s : Str} {l : List KT} (h : Sc s l) {c : UInt8} (hc : c ∈ marksL) : Sc (c :: s) ((3, [c]) :: l) := by
  have := h.tok (t := ⟨3, [c], 0⟩) (.inr (.inr ⟨rfl, c, rfl, hc⟩)) (fun e => by cases e)
  simpa [tokText, kt] using this
def ttx (p : KT) : Str := if p.1 = 2 then 39 :: (p.2 ++ [39]) else p.2
def brS : Bool → List KT → Str
  | _, [] => []
  | inn, (k, x) :: l => if k = 3 ∧ x = [58] then [58, 32, 40, 32] ++ brS true l
    else if k = 3 ∧ x = [59] then [41, 32, 59, 32] ++ brS false l
    else if k ≠ 3 ∧ inn = true then [40] ++ (ttx (k, x) ++ ([41, 32] ++ brS inn l))
    else ttx (k, x) ++ ([32] ++ brS inn l)
theorem brS_sc : ∀ (l : List Tok) (inn : Bool), (∀ t ∈ l, goodTok t) → Sc (brS inn (l.map kt)) (brE inn (l.map kt))
  | [], inn, _ => Sc.nil
  | t :: l, inn, hg => by
    have g := hg t (by simp)
    have ih := fun inn => brS_sc l inn fun t ht => hg t (by simp [ht])
    have m1 : (40 : UInt8) ∈ marksL := by decide
    have m2 : (41 : UInt8) ∈ marksL := by decide
    have m3 : (58 : UInt8) ∈ marksL := by decide
    have m4 : (59 : UInt8) ∈ marksL := by decide
    obtain ⟨kd, tx, p⟩ := t
    simp only [List.map_cons, kt, brE, brS]
    by_cases c1 : kd = 3 ∧ tx = [58]
    · rw [if_pos c1, if_pos c1]; exact (((ih true).sp.mk m1).sp).mk m3
    rw [if_neg c1, if_neg c1]
    by_cases c2 : kd = 3 ∧ tx = [59]
    · rw [if_pos c2, if_pos c2]; exact (((ih false).sp.mk m4).sp).mk m2
    rw [if_neg c2, if_neg c2]
    by_cases c3 : kd ≠ 3 ∧ inn = true
    · rw [if_pos c3, if_pos c3]; exact ((((ih inn).sp).mk m2).tok g fun _ => runN_stop (by decide) _).mk m1
    · rw [if_neg c3, if_neg c3]; exact ((ih inn).sp).tok g fun _ => runN_stop (by decide) _
theorem brS_len : ∀ (l : List Tok) (inn : Bool), (∀ t ∈ l, goodTok t) → (brS inn (l.map kt)).length ≤ 2 * (joined l).length
  | [], inn, _ => by simp [brS]
  | t :: l, inn, hg => by
    have g := tokText_pos (hg t (by simp))
    have ih := fun inn => brS_len l inn fun t ht => hg t (by simp [ht])
    have ht := ih true
    have hf := ih false
    have hi := ih inn
    simp only [List.map_cons, kt, brS]
    simp only [joined, List.flatMap_cons, List.length_append, List.length_singleton]
    simp only [joined] at ht hf hi
    repeat' split
    all_goals simp only [show ttx (t.kind, t.text) = tokText t from rfl, List.length_append, List.length_cons, List.length_nil]; omega
theorem brS_rd {s : Str} (h : (ruRd s).2.2 = 0) (hl : s.length ≤ 400) : (brS false ((scanR s).1.map kt)).length ≤ 1600 ∧ ruRd (brS false ((scanR s).1.map kt)) = ((ruRd s).1, 0, 0) := by
  have hc := scanR_chain s
  have hg := chain_good hc
  have l1 := brS_len (scanR s).1 false hg
  have l2 := joined_len (Nat.zero_le _) hc
  have hl2 : (brS false ((scanR s).1.map kt)).length ≤ 1600 := by omega
  refine ⟨hl2, ?_⟩
  obtain ⟨c1, c2⟩ := brS_sc (scanR s).1 false hg _ 0 (Nat.le_refl _)
  have hR : scanR (brS false ((scanR s).1.map kt)) = ((scanL (brS false ((scanR s).1.map kt)).length (brS false ((scanR s).1.map kt)) 0).1, 0, 0) := by
    unfold scanR
    rw [if_neg (by unfold scanR at hl2; omega)]
    unfold scanR at c1
    rw [c1]
  generalize hS : brS false ((scanR s).1.map kt) = S at *
  unfold ruRd at h ⊢
  split at h
  · rename_i c; exact absurd h c
  rename_i c
  rw [hR, if_neg (by simp)]
  rw [if_neg c]
  cases ht : textP (scanR s).1 s.length with
  | error p => rw [ht] at h; simp at h
  | ok x =>
    obtain ⟨st, u⟩ := x
    obtain ⟨st', g, b⟩ := textP_br (en' := S.length) c2 ht
    rw [ht] at h
    simp only at h ⊢
    rw [g]
    simp only
    rw [b.rules, b.nodes]
    split at h
    · simp at h
    · rename_i q
      rw [if_neg q, if_neg q]
      split at h
      · rename_i q2; exact absurd h q2
      · rename_i q2
        rw [namesP_map b.given b.used (by simpa using q2), if_neg (by simp), if_neg q2]
end Go.Proofs.Ytecgbggobecpjaa.Al
namespace Go.Proofs.Ytecgbggobecpjaa.Al
open Go Go.RowKit
set_option linter.unusedSimpArgs false
set_option linter.unusedVariables false
attribute [-simp] List.getD_eq_getElem?_getD Int.not_lt Int.not_le List.map_take
theorem scanR_err {s : Str} (h : (ruRd s).2.2 = 0) : (scanR s).2.2 = 0 := by
  unfold ruRd at h
  split at h
  · rename_i c; exact absurd h c
  · rename_i c; simpa using c
section
variable {X : Cx} {h : AH} {Q : V → AH → Prop}
theorem rules_brackets (L : L06 X) (H : Has (Ecx X) K.probatelaw06_RulesBrackets A.probatelaw06_RulesBrackets) (text : Str) (hQ : Q (.bool true) h) : Ecx X K.probatelaw06_RulesBrackets [.str text] h Q := by
  refine fn_walk H (by simp [A.probatelaw06_RulesBrackets]) fun wf => ?_
  have htc : ∀ t : Te, teV t = .agg [.sl 2 0 (t.rules.map rlV), .sl 3 0 (t.nodes.map ndV)] := fun _ => rfl
  simp [A.probatelaw06_RulesBrackets]
  refine ecall (awake6_spec L ?_)
  simp
  by_cases c1 : (400 : Int) < text.length
  · simp [c1]
    exact fin (by simp) hQ
  simp [c1]
  refine ecall (ruRead_spec L.rd text (by omega) ?_)
  simp [ruRdV, htc, V.cells, V.good, setAt]
  refine ecall (scan_spec L.rd.ls text (by omega) ?_)
  simp [scanV]
  by_cases c2 : (ruRd text).2.2 = 0
  case neg =>
    simp [c2]
    exact fin_wk ((Gr.refl h).new _) (.same _) (by simp) hQ
  have c3 := scanR_err c2
  obtain ⟨hlS, hrd⟩ := brS_rd c2 (by omega)
  have sm := ruRd_sm (s := text)
  have hlen := scanR_len text
  have hkind := scan_kinds text
  simp [c2, c3]
  generalize (scanR text).1 = T at *
  generalize hS : brS false (T.map kt) = S at *
  generalize (ruRd text).1 = t at *
  have sr := sm.r; have sn := sm.n
  have gr := (Gr.refl h).new [V.sl 2 0 (t.rules.map rlV), .sl 3 0 (t.nodes.map ndV)]
  have oT : (h.new [V.sl 2 0 (t.rules.map rlV), .sl 3 0 (t.nodes.map ndV)]).objs h.nobj = [V.sl 2 0 (t.rules.map rlV), .sl 3 0 (t.nodes.map ndV)] := by simp
  have nb : (h.new [V.sl 2 0 (t.rules.map rlV), .sl 3 0 (t.nodes.map ndV)]).nobj = h.nobj + 1 := by simp
  generalize (h.new [V.sl 2 0 (t.rules.map rlV), .sl 3 0 (t.nodes.map ndV)]) = h1 at *
  refine loopI (n := T.length) (fun m env h' => ∃ k out inn, k ≤ T.length ∧ m = T.length - k ∧ Gr h h' ∧ h'.objs h.nobj = [V.sl 2 0 (t.rules.map rlV), .sl 3 0 (t.nodes.map ndV)] ∧ h.nobj + 1 ≤ h'.nobj ∧ out ++ brS inn ((T.drop k).map kt) = S ∧
      env = [(3, .ptr h.nobj 0), (9, .str out), (10, .bool inn), (40, .sl 3 0 (T.map tokV)), (41, .int .i64 T.length), (42, .int .i64 k)]) ?_ ⟨0, [], false, by omega, by omega, gr, oT, by omega, by simpa using hS, rfl⟩
  rintro m env h2 ⟨k, out, inn, hk, rfl, gr2, oT2, nb2, ho, rfl⟩
  unfold A.probatelaw06_RulesBrackets.L0
  by_cases hlt : k < T.length
  · have hlt' : (k : Int) < T.length := by omega
    have hga := toks_getD hlt
    have hw1 : IntKind.i64.wrap ((k : Int) + 1) = ((k + 1 : Nat) : Int) := by rw [wrap_i64 (by omega) (by omega)]; rfl
    have hkd := hkind _ (List.getElem_mem hlt)
    rw [List.drop_eq_getElem_cons hlt, List.map_cons] at ho
    generalize T[k] = tk at *
    obtain ⟨kd, tx, pl⟩ := tk
    simp only [kt, brS] at ho
    simp only at hkd
    have q2 : ¬ h.nobj = h2.nobj := by omega
    have fin1 : ∀ (P : Str) (inn2 : Bool) (z : List V), out ++ (P ++ brS inn2 ((T.drop (k + 1)).map kt)) = S → ∀ env, env = [(3, V.ptr h.nobj 0), (9, .str (out ++ P)), (10, .bool inn2), (40, .sl 3 0 (T.map tokV)), (41, .int .i64 T.length), (42, .int .i64 ((k + 1 : Nat) : Int))] →
        ∃ k' out' inn', k' ≤ T.length ∧ T.length - (k + 1) = T.length - k' ∧ Gr h (h2.new z) ∧ (h2.new z).objs h.nobj = [V.sl 2 0 (t.rules.map rlV), .sl 3 0 (t.nodes.map ndV)] ∧ h.nobj + 1 ≤ (h2.new z).nobj ∧ out' ++ brS inn' ((T.drop k').map kt) = S ∧
          env = [(3, .ptr h.nobj 0), (9, .str out'), (10, .bool inn'), (40, .sl 3 0 (T.map tokV)), (41, .int .i64 T.length), (42, .int .i64 (k' : Nat))] := fun P inn2 z hP env he =>
      ⟨k + 1, out ++ P, inn2, by omega, rfl, gr2.new _, by rw [new_objs_ne _ _ q2]; exact oT2, by simp; omega, by rw [List.append_assoc]; exact hP, he⟩
    have lo : ∀ (P : Str) (inn2 : Bool), out ++ (P ++ brS inn2 ((T.drop (k + 1)).map kt)) = S → out.length + P.length ≤ 1600 := fun P inn2 e => by
      have := congrArg List.length e
      simp at this
      omega
    by_cases d1 : kd = 2
    · subst d1
      cases inn
      · have e : out ++ ((39 :: (tx ++ [39, 32])) ++ brS false ((T.drop (k + 1)).map kt)) = S := by simpa [ttx] using ho
        have := lo _ _ e
        simp at this
        simp [hlt', hga, V.cells, V.good, setAt, tokC, hw1, -Int.natCast_add]
        exact ⟨by omega, by omega, by omega, by omega, T.length - (k + 1), by omega, iv (fin1 _ _ _ e _ (by simp))⟩
      · have e : out ++ ((40 :: 39 :: (tx ++ [39, 41, 32])) ++ brS true ((T.drop (k + 1)).map kt)) = S := by simpa [ttx] using ho
        have := lo _ _ e
        simp at this
        simp [hlt', hga, V.cells, V.good, setAt, tokC, hw1, -Int.natCast_add]
        exact ⟨by omega, by omega, by omega, by omega, by omega, by omega, T.length - (k + 1), by omega, iv (fin1 _ _ _ e _ (by simp))⟩
    by_cases d2 : kd = 1
    · subst d2
      cases inn
      · have e : out ++ ((tx ++ [32]) ++ brS false ((T.drop (k + 1)).map kt)) = S := by simpa [ttx] using ho
        have := lo _ _ e
        simp at this
        simp [hlt', hga, V.cells, V.good, setAt, tokC, hw1, -Int.natCast_add]
        exact ⟨by omega, by omega, T.length - (k + 1), by omega, iv (fin1 _ _ _ e _ (by simp))⟩
      · have e : out ++ ((40 :: (tx ++ [41, 32])) ++ brS true ((T.drop (k + 1)).map kt)) = S := by simpa [ttx] using ho
        have := lo _ _ e
        simp at this
        simp [hlt', hga, V.cells, V.good, setAt, tokC, hw1, -Int.natCast_add]
        exact ⟨by omega, by omega, by omega, by omega, T.length - (k + 1), by omega, iv (fin1 _ _ _ e _ (by simp))⟩
    obtain rfl : kd = 3 := by omega
    by_cases d3 : tx = [58]
    · subst d3
      have e : out ++ ([58, 32, 40, 32] ++ brS true ((T.drop (k + 1)).map kt)) = S := by simpa [ttx] using ho
      have := lo _ _ e
      simp at this
      simp [hlt', hga, V.cells, V.good, setAt, tokC, hw1, -Int.natCast_add]
      exact ⟨by omega, T.length - (k + 1), by omega, iv (fin1 _ _ _ e _ (by simp))⟩
    by_cases d4 : tx = [59]
    · subst d4
      have e : out ++ ([41, 32, 59, 32] ++ brS false ((T.drop (k + 1)).map kt)) = S := by simpa [ttx] using ho
      have := lo _ _ e
      simp at this
      simp [hlt', hga, V.cells, V.good, setAt, tokC, hw1, -Int.natCast_add]
      exact ⟨by omega, T.length - (k + 1), by omega, iv (fin1 _ _ _ e _ (by simp))⟩
    · have e : out ++ ((tx ++ [32]) ++ brS inn ((T.drop (k + 1)).map kt)) = S := by simpa [ttx, d3, d4] using ho
      have := lo _ _ e
      simp at this
      simp [hlt', hga, V.cells, V.good, setAt, tokC, hw1, d3, d4, -Int.natCast_add]
      exact ⟨by omega, by omega, T.length - (k + 1), by omega, iv (fin1 _ _ _ e _ (by simp))⟩
  · have hlt' : ¬ (k : Int) < T.length := by omega
    obtain rfl : k = T.length := by omega
    simp [brS] at ho
    subst ho
    simp [hlt']
    refine ecall (ruRead_spec L.rd out (by omega) ?_)
    simp [ruRdV, hrd, htc, V.cells, V.good, setAt, oT2, show ¬ h.nobj = h2.nobj by omega]
    rw [← htc]
    refine ecall (ruSame_spec L.same t t (by omega) (by omega) (fun n hn => by have := sm.ks n hn; omega) ?_)
    simp
    exact fin_wk (gr2.new _) (.same _) (by simp) hQ
end
end Go.Proofs.Ytecgbggobecpjaa.Al
namespace Go.Proofs.Ytecgbggobecpjaa.Al
open Go Go.RowKit
theorem law_RulesBrackets (W : World) {u0 : V} (a0 : Arg Try.prog 9 u0) : Ecx (cxOf W) K.probatelaw06_RulesBrackets [u0] iniH fun r _ => r = .bool true := by
  obtain ⟨s, rfl, hs⟩ := arg_str Try.underlying9 a0
  exact rules_brackets (l06 W) (has_probatelaw06_RulesBrackets W) s rfl
end Go.Proofs.Ytecgbggobecpjaa.Al
