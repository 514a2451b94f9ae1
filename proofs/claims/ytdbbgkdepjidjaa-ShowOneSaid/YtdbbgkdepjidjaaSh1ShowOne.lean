/-
  What the law ShowOne needs of this claim's texts (part 1). Conditions: each theorem's own.
-/
import Derived.Test.YtdbbgkdepjidjaaAlC
import Derived.Test.YtdbbgkdepjidjaaAlKeys
import Derived.Test.YtdbbgkdepjidjaaAlA
import Derived.Test.YtdbbgkdepjidjaaAlB
namespace Go.Proofs.Ytdbbgkdepjidjaa.Al
open Go Go.RowKit
set_option linter.unusedSimpArgs false
set_option linter.unusedVariables false
attribute [-simp] List.getD_eq_getElem?_getD Int.not_lt Int.not_le List.map_take
/-- How things lie in a slice: e cells each; g: they are structs. -/
structure Enc {α : Type} (enc : α → V) (e : Nat) (g : Bool) : Prop where
  len : ∀ a, (enc a).cells.length = e
  agg : ∀ a, (enc a).isAgg = g
  good : ∀ a, (enc a).good = true
  bdd : ∀ a n m, ∀ v ∈ (enc a).cells, Bdd n m v
theorem Enc.getD {α : Type} {enc : α → V} {l : List α} {i : Nat} (h : i < l.length) : (l.map enc).getD i .undef = enc l[i] := by
  simp [List.getD, List.getElem?_eq_getElem h]
theorem Enc.ld {α : Type} {enc : α → V} {e : Nat} {g : Bool} (E : Enc enc e g) (a : α) {S : Sig} {env : Env} {h : AH} {K : V → AH → Prop} {zK : Lz K} (hk : K (enc a) h) : ldZ S env h g e (.rptr (enc a).cells 0) zK := by
  have h1 := E.len a
  have h2 := E.agg a
  cases g with
  | true =>
    generalize enc a = v at *
    cases v <;> simp [V.isAgg] at h2
    rename_i l
    simp only [V.cells] at h1
    simp [V.cells, h1]
    rw [← h1, List.take_length]; exact hk
  | false =>
    have h3 := E.good a
    generalize enc a = v at *
    cases v <;> simp [V.isAgg, V.good] at h2 h3 <;> simp [V.cells] at h1 <;> subst h1 <;> simpa [V.cells] using hk
theorem Enc.cells {α : Type} {enc : α → V} {e : Nat} {g : Bool} (E : Enc enc e g) (n m : Nat) : ∀ l : List α, ∀ v ∈ cellsOf (l.map enc), Bdd n m v
  | [], v, hv => by simp [cellsOf] at hv
  | a :: l, v, hv => by
    have hv : v ∈ (enc a).cells ++ cellsOf (l.map enc) := hv
    rcases List.mem_append.1 hv with hv | hv
    · exact E.bdd a n m v hv
    · exact E.cells n m l v hv
/-! ### IndexFunc, ContainsFunc -/
def ixfL (e : Nat) (g : Bool) : AC := .post (.seq (.reg [⟨(some 9), none, .bin .lss (.t 8) (.t 7)⟩])
  (.keep [0, 1, 7, 8, 9] (.seq (.cond (.t 9) .skip (.exit 0))
  (.keep [0, 1, 7, 8] (.seq (.block 1 (.seq (.reg [⟨(some 10), none, .mv (.t 8)⟩, ⟨(some 5), none, .mv (.t 10)⟩])
  (.keep [0, 1, 5, 7, 8] (.seq (.reg [⟨(some 11), none, .mv (.t 1)⟩, ⟨(some 12), none, .mv (.t 0)⟩, ⟨(some 13), none, .mv (.t 5)⟩, ⟨(some 14), none, .ia e (.t 12) (.t 13)⟩, ⟨(some 15), none, .load g e (.t 14)⟩, ⟨(some 16), none, .call (.t 11) [(.t 15)]⟩])
  (.keep [0, 1, 5, 7, 8, 16] (.cond (.t 16) (.seq (.reg [⟨(some 17), none, .mv (.t 5)⟩, ⟨(some 4), none, .mv (.t 17)⟩]) .ret) .skip))))))
  (.keep [0, 1, 7, 8] (.reg [⟨(some 18), none, .bin .add (.t 8) (.c (.int .i64 (1)))⟩, ⟨(some 8), none, .mv (.t 18)⟩]))))))) [0, 1, 7, 8]
def ixfF (e : Nat) (g : Bool) : AFn := ⟨19, [(4, none)], (.seq (.reg [⟨(some 4), none, .mv (.c (.int .i64 (0)))⟩])
  (.keep [0, 1] (.seq (.seq (.reg [⟨(some 6), none, .mv (.t 0)⟩, ⟨(some 7), none, .len false (.t 6)⟩, ⟨(some 8), none, .mv (.c (.int .i64 (0)))⟩])
  (.keep [0, 1, 7, 8] (.block 0 (.loop (ixfL e g)))))
  (.keep [] (.seq (.reg [⟨(some 4), none, .mv (.c (.int .i64 (-1)))⟩]) .ret)))))⟩
def ctfF (k : Nat) : AFn := ⟨9, [(4, none)], (.seq (.reg [⟨(some 4), none, .mv (.c (.bool false))⟩])
  (.keep [0, 1] (.seq (.reg [⟨(some 5), none, .mv (.t 0)⟩, ⟨(some 6), none, .mv (.t 1)⟩, ⟨(some 7), none, .call (.c (.fn k [] [])) [(.t 5), (.t 6)]⟩, ⟨(some 8), none, .bin .geq (.t 7) (.c (.int .i64 (0)))⟩, ⟨(some 4), none, .mv (.t 8)⟩]) .ret)))⟩
def idxP {α : Type} (p : α → Bool) : List α → Int
  | [] => -1
  | a :: l => if p a = true then 0 else if idxP p l = -1 then -1 else idxP p l + 1
theorem idxP_any {α : Type} (p : α → Bool) : ∀ l : List α, -1 ≤ idxP p l ∧ (0 ≤ idxP p l ↔ l.any p = true)
  | [] => by simp [idxP]
  | a :: l => by
    obtain ⟨h1, h2⟩ := idxP_any p l
    unfold idxP
    cases hp : p a
    · simp only [Bool.false_eq_true, if_false, List.any_cons, hp, Bool.false_or, ← h2]
      split <;> omega
    · simp [hp]
theorem idxP_drop {α : Type} (p : α → Bool) : ∀ (l : List α) (k : Nat), k ≤ l.length → (l.take k).any p = false → idxP p l = if idxP p (l.drop k) = -1 then -1 else idxP p (l.drop k) + k
  | l, 0, _, _ => by simp
  | [], k + 1, h, _ => by simp at h
  | a :: l, k + 1, h, ha => by
    simp only [List.take_succ_cons, List.any_cons, Bool.or_eq_false_iff] at ha
    have ih := idxP_drop p l k (by simpa using h) ha.2
    have h1 := (idxP_any p (l.drop k)).1
    rw [idxP, ha.1, ih]
    simp only [Bool.false_eq_true, if_false, List.drop_succ_cons]
    split
    · simp
    · rw [if_neg (by omega)]; omega
section
variable {X : Cx} {h : AH} {Q : V → AH → Prop}
theorem indexFunc {α : Type} {enc : α → V} {e : Nat} {g : Bool} (E : Enc enc e g) {k : Nat} (H : Has (Ecx X) k (ixfF e g)) (l : List α) (s kf : Nat) (first cap : List V) (p : α → Bool) (hl : l.length < 2 ^ 62)
    (hp : ∀ a ∈ l, ∀ (Q : V → AH → Prop) (h' : AH), Gr h h' → Q (.bool (p a)) h' → Ecx X kf (first ++ enc a :: cap) h' Q) (hQ : Q (.int .i64 (idxP p l)) h) : Ecx X k [.sl e s (l.map enc), .fn kf first cap] h Q := by
  refine fn_walk H (by simp [ixfF]) fun wf => ?_
  simp [ixfF]
  refine loopI (n := l.length) (fun n env h' => ∃ k, k ≤ l.length ∧ n = l.length - k ∧ Gr h h' ∧ env = [(0, .sl e s (l.map enc)), (1, .fn kf first cap), (7, .int .i64 l.length), (8, .int .i64 k)] ∧ (l.take k).any p = false) ?_ ⟨0, by omega, by omega, Gr.refl h, rfl, by simp⟩
  rintro n env h' ⟨j, hj, rfl, gr, rfl, ha⟩
  unfold ixfL
  have hd := idxP_drop p l j hj ha
  by_cases hlt : j < l.length
  · have hlt' : (j : Int) < l.length := by omega
    have hg := Enc.getD (enc := enc) hlt
    have hw1 : IntKind.i64.wrap ((j : Int) + 1) = ((j + 1 : Nat) : Int) := by rw [wrap_i64 (by omega) (by omega)]; rfl
    simp [hlt', hg]
    refine E.ld _ ?_
    simp
    refine ecall ?_
    refine hp _ (List.getElem_mem hlt) _ _ gr ?_
    rw [List.drop_eq_getElem_cons hlt, idxP] at hd
    cases hpa : p l[j] with
    | true =>
      rw [hpa] at hd
      simp at hd ⊢
      rw [hd] at hQ
      exact fin_wk gr (.same _) (by simp) hQ
    | false =>
      simp [hw1]
      exact ⟨l.length - (j + 1), by omega, iv ⟨j + 1, by omega, rfl, gr, rfl, by
        rw [List.take_succ_eq_append_getElem hlt, List.any_append, ha]; simp [hpa]⟩⟩
  · have hlt' : ¬ (j : Int) < l.length := by omega
    obtain rfl : j = l.length := by omega
    rw [List.drop_length, idxP] at hd
    simp at hd
    simp [hlt']
    rw [hd] at hQ
    exact fin_wk gr (.same _) (by simp) hQ
theorem containsFunc {α : Type} {enc : α → V} {e : Nat} {g : Bool} (E : Enc enc e g) {k k2 : Nat} (H : Has (Ecx X) k (ctfF k2)) (H2 : Has (Ecx X) k2 (ixfF e g)) (l : List α) (s kf : Nat) (first cap : List V) (p : α → Bool) (hl : l.length < 2 ^ 62)
    (hp : ∀ a ∈ l, ∀ (Q : V → AH → Prop) (h' : AH), Gr h h' → Q (.bool (p a)) h' → Ecx X kf (first ++ enc a :: cap) h' Q) (hQ : Q (.bool (l.any p)) h) : Ecx X k [.sl e s (l.map enc), .fn kf first cap] h Q := by
  refine fn_walk H (by simp [ctfF]) fun wf => ?_
  simp [ctfF]
  refine ecall (indexFunc E H2 l s kf first cap p hl hp ?_)
  simp
  obtain ⟨h1, h2⟩ := idxP_any p l
  have : decide (0 ≤ idxP p l) = l.any p := by
    cases h3 : l.any p
    · simp; intro h4; have := h2.1 h4; rw [h3] at this; cases this
    · simp; exact h2.2 h3
  rw [this]
  exact fin (by simp) hQ
end
/-! ### EqualFunc -/
def eqfL (e e2 : Nat) (g g2 : Bool) (z z2 : List V) : AC := .post (.seq (.reg [⟨(some 18), none, .bin .lss (.t 17) (.t 16)⟩])
  (.keep [1, 2, 15, 16, 17, 18] (.seq (.cond (.t 18) .skip (.exit 0))
  (.keep [1, 2, 15, 16, 17] (.seq (.block 1 (.seq (.reg [⟨(some 19), none, .mv (.t 17)⟩, ⟨(some 20), none, .ia e (.t 15) (.t 17)⟩, ⟨(some 21), none, .load g e (.t 20)⟩, ⟨(some 8), none, .alloc z⟩, ⟨(some 7), none, .mv (.t 19)⟩, ⟨none, none, .store e (.t 8) (.t 21)⟩])
  (.keep [1, 2, 7, 8, 15, 16, 17] (.seq (.reg [⟨(some 22), none, .mv (.t 1)⟩, ⟨(some 23), none, .mv (.t 7)⟩, ⟨(some 24), none, .ia e2 (.t 22) (.t 23)⟩, ⟨(some 25), none, .load g2 e2 (.t 24)⟩, ⟨(some 9), none, .alloc z2⟩, ⟨none, none, .store e2 (.t 9) (.t 25)⟩])
  (.keep [1, 2, 8, 9, 15, 16, 17] (.seq (.reg [⟨(some 26), none, .mv (.t 2)⟩, ⟨(some 27), none, .load g e (.t 8)⟩, ⟨(some 28), none, .load g2 e2 (.t 9)⟩, ⟨(some 29), none, .call (.t 26) [(.t 27), (.t 28)]⟩, ⟨(some 30), none, .un .not (.t 29)⟩])
  (.keep [1, 2, 15, 16, 17, 30] (.cond (.t 30) (.seq (.reg [⟨(some 6), none, .mv (.c (.bool false))⟩]) .ret) .skip))))))))
  (.keep [1, 2, 15, 16, 17] (.reg [⟨(some 31), none, .bin .add (.t 17) (.c (.int .i64 (1)))⟩, ⟨(some 17), none, .mv (.t 31)⟩]))))))) [1, 2, 15, 16, 17]
def eqfF (e e2 : Nat) (g g2 : Bool) (z z2 : List V) : AFn := ⟨32, [(6, none)], (.seq (.reg [⟨(some 6), none, .mv (.c (.bool false))⟩])
  (.keep [0, 1, 2] (.seq (.seq (.reg [⟨(some 10), none, .mv (.t 0)⟩, ⟨(some 11), none, .len false (.t 10)⟩, ⟨(some 12), none, .mv (.t 1)⟩, ⟨(some 13), none, .len false (.t 12)⟩, ⟨(some 14), none, .bin .neq (.t 11) (.t 13)⟩])
  (.keep [0, 1, 2, 14] (.cond (.t 14) (.seq (.reg [⟨(some 6), none, .mv (.c (.bool false))⟩]) .ret) .skip)))
  (.keep [0, 1, 2] (.seq (.seq (.reg [⟨(some 15), none, .mv (.t 0)⟩, ⟨(some 16), none, .len false (.t 15)⟩, ⟨(some 17), none, .mv (.c (.int .i64 (0)))⟩])
  (.keep [1, 2, 15, 16, 17] (.block 0 (.loop (eqfL e e2 g g2 z z2)))))
  (.keep [] (.seq (.reg [⟨(some 6), none, .mv (.c (.bool true))⟩]) .ret)))))))⟩
/-- Alike, thing by thing. -/
def allEq {α β : Type} (f : α → β → Bool) : List α → List β → Bool
  | [], [] => true
  | a :: l, b :: m => f a b && allEq f l m
  | _, _ => false
theorem allEq_len {α β : Type} {f : α → β → Bool} : ∀ {l : List α} {m : List β}, allEq f l m = true → l.length = m.length
  | [], [], _ => rfl
  | a :: l, b :: m, h => by simp [allEq] at h; simp [allEq_len h.2]
  | [], b :: m, h => by simp [allEq] at h
  | a :: l, [], h => by simp [allEq] at h
theorem allEq_iff {α : Type} {f : α → α → Bool} (hf : ∀ a b, f a b = true ↔ a = b) : ∀ (l m : List α), allEq f l m = true ↔ l = m
  | [], [] => by simp [allEq]
  | a :: l, b :: m => by simp [allEq, hf, allEq_iff hf l m]
  | [], b :: m => by simp [allEq]
  | a :: l, [] => by simp [allEq]
theorem Enc.sets {α : Type} {enc : α → V} {e : Nat} {g : Bool} (E : Enc enc e g) (a : α) {z : List V} (hz : z.length = e) : setAt z 0 (enc a).cells = (enc a).cells := by
  have h1 := E.len a
  have key : ∀ (c z : List V) (n : Nat) (p : List V), p.length = n → z.length = c.length → setAt (p ++ z) n c = p ++ c := by
    intro c
    induction c with
    | nil => intro z n p _ hz; have : z = [] := List.eq_nil_of_length_eq_zero (by simpa using hz); simp [setAt, this]
    | cons v c ih =>
      intro z n p hp hz
      cases z with
      | nil => simp at hz
      | cons y z =>
        have : (p ++ y :: z).set n v = (p ++ [v]) ++ z := by
          rw [List.set_append_right _ _ (by omega), hp]; simp
        show setAt ((p ++ y :: z).set n v) (n + 1) c = p ++ v :: c
        rw [this, ih z (n + 1) (p ++ [v]) (by simp [hp]) (by simpa using hz)]; simp
  exact key _ z 0 [] rfl (by omega)
theorem Enc.ldp {α : Type} {enc : α → V} {e : Nat} {g : Bool} (E : Enc enc e g) (a : α) {S : Sig} {env : Env} {h : AH} {o : Nat} (ho : h.objs o = (enc a).cells) {K : V → AH → Prop} {zK : Lz K} (hk : K (enc a) h) : ldZ S env h g e (.ptr o 0) zK := by
  have h1 := E.len a
  have h2 := E.agg a
  cases g with
  | true =>
    generalize enc a = v at *
    cases v <;> simp [V.isAgg] at h2
    rename_i l
    simp only [V.cells] at h1 ho
    simp [ho, h1]
    rw [← h1, List.take_length]; exact hk
  | false =>
    have h3 := E.good a
    generalize enc a = v at *
    cases v <;> simp [V.isAgg, V.good] at h2 h3 <;> simp [V.cells] at h1 ho <;> subst h1 <;> simpa [ho] using hk
section
variable {X : Cx} {h : AH} {Q : V → AH → Prop}
theorem equalFunc {α β : Type} {enc : α → V} {enc2 : β → V} {e e2 : Nat} {g g2 : Bool} {z z2 : List V} (hz : z.length = e) (hz2 : z2.length = e2) (E : Enc enc e g) (E2 : Enc enc2 e2 g2) {k : Nat} (H : Has (Ecx X) k (eqfF e e2 g g2 z z2)) (l : List α) (m : List β) (s t kf : Nat) (first cap : List V) (f : α → β → Bool) (hl : l.length < 2 ^ 62)
    (hf : ∀ a ∈ l, ∀ b ∈ m, ∀ (Q : V → AH → Prop) (h' : AH), Gr h h' → Q (.bool (f a b)) h' → Ecx X kf (first ++ enc a :: enc2 b :: cap) h' Q) (hQ : Q (.bool (allEq f l m)) h) : Ecx X k [.sl e s (l.map enc), .sl e2 t (m.map enc2), .fn kf first cap] h Q := by
  refine fn_walk H (by simp [eqfF]) fun wf => ?_
  by_cases hlm : l.length = m.length
  · have hlm' : (l.length : Int) = m.length := by omega
    simp [eqfF, hlm']
    refine loopI (n := l.length) (fun n env h' => ∃ k, k ≤ l.length ∧ n = l.length - k ∧ Gr h h' ∧ env = [(1, .sl e2 t (m.map enc2)), (2, .fn kf first cap), (15, .sl e s (l.map enc)), (16, .int .i64 l.length), (17, .int .i64 k)] ∧ allEq f (l.drop k) (m.drop k) = allEq f l m) ?_ ⟨0, by omega, by omega, Gr.refl h, by simp [hlm'], rfl⟩
    rintro n env h' ⟨j, hj, rfl, gr, rfl, ha⟩
    unfold eqfL
    by_cases hlt : j < l.length
    · have hlt' : (j : Int) < l.length := by omega
      have hltm : j < m.length := by omega
      have hltm' : (j : Int) < m.length := by omega
      have hg := Enc.getD (enc := enc) hlt
      have hg2 := Enc.getD (enc := enc2) hltm
      have hw1 : IntKind.i64.wrap ((j : Int) + 1) = ((j + 1 : Nat) : Int) := by rw [wrap_i64 (by omega) (by omega)]; rfl
      rw [List.drop_eq_getElem_cons hlt, List.drop_eq_getElem_cons hltm, allEq] at ha
      have ma := List.getElem_mem hlt
      have mb := List.getElem_mem hltm
      generalize l[j] = a at *
      generalize m[j] = b at *
      have sa := E.sets a hz
      have sb := E2.sets b hz2
      have la := E.len a
      have lb := E2.len b
      have ga := E.good a
      have gb := E2.good b
      simp [hlt', hg, -V.cells, -V.good]
      refine E.ld _ ?_
      simp [-V.cells, -V.good, la, ga, hz, sa]
      simp [hltm, hltm', hg2, -V.cells, -V.good]
      refine E2.ld _ ?_
      simp [-V.cells, -V.good, lb, gb, hz2, sb]
      refine E.ldp a (by simp) ?_
      simp [-V.cells, -V.good]
      refine E2.ldp b (by simp) ?_
      simp [-V.cells, -V.good]
      refine ecall ?_
      have gr2 := (gr.new (enc a).cells).new (enc2 b).cells
      refine hf a ma b mb _ _ gr2 ?_
      cases hfab : f a b with
      | false =>
        rw [hfab] at ha
        simp at ha ⊢
        rw [ha] at hQ
        exact fin_wk gr2 (.same _) (by simp) hQ
      | true =>
        rw [hfab] at ha
        simp [hw1] at ha ⊢
        exact ⟨l.length - (j + 1), by omega, iv ⟨j + 1, by omega, rfl, gr2, rfl, ha⟩⟩
    · have hlt' : ¬ (j : Int) < l.length := by omega
      obtain rfl : j = l.length := by omega
      rw [List.drop_length, hlm, List.drop_length] at ha
      simp [hlt']
      rw [← ha] at hQ
      exact fin_wk gr (.same _) (by simp) (by simpa [allEq] using hQ)
  · have hlm' : ¬ (l.length : Int) = m.length := by omega
    have hf : allEq f l m = false := by
      cases h1 : allEq f l m with
      | false => rfl
      | true => exact absurd (allEq_len h1) hlm
    rw [hf] at hQ
    simp [eqfF, hlm']
    exact fin (by simp) hQ
end
/-! ### Clone -/
end Go.Proofs.Ytdbbgkdepjidjaa.Al
namespace Go.Proofs.Ytdbbgkdepjidjaa.Al
def A.vary_Take.L0 : AC := .post (.seq (.seq (.reg [⟨(some 41), none, .mv (.t 7)⟩, ⟨(some 42), none, .bin .geq (.t 41) (.c (.int .i64 (0)))⟩])
  (.keep [0, 5, 6, 7, 42] (.cond (.t 42) .skip (.exit 1))))
  (.keep [0, 5, 6, 7] (.seq (.block 2 (.reg [⟨(some 45), none, .mv (.t 6)⟩, ⟨(some 46), none, .bin .shl (.t 45) (.c (.int .u64 (7)))⟩, ⟨(some 47), none, .mv (.t 0)⟩, ⟨(some 48), none, .mv (.t 7)⟩, ⟨(some 49), none, .ia 1 (.t 47) (.t 48)⟩, ⟨(some 50), none, .load false 1 (.t 49)⟩, ⟨(some 51), none, .bin .andNot (.t 50) (.c (.int .u8 (128)))⟩, ⟨(some 52), none, .conv .u64 (.t 51)⟩, ⟨(some 53), none, .bin .or (.t 46) (.t 52)⟩, ⟨(some 6), none, .mv (.t 53)⟩]))
  (.keep [0, 5, 6, 7] (.reg [⟨(some 43), none, .mv (.t 7)⟩, ⟨(some 44), none, .bin .sub (.t 43) (.c (.int .i64 (1)))⟩, ⟨(some 7), none, .mv (.t 44)⟩]))))) [0, 5, 6, 7]
def A.vary_Take : AFn := ⟨57, [(2, none), (3, none), (4, none)], (.seq (.reg [⟨(some 2), none, .mv (.c (.int .u64 (0)))⟩, ⟨(some 3), none, .mv (.c (.int .i64 (0)))⟩, ⟨(some 4), none, .mv (.c (.int .i64 (0)))⟩])
  (.keep [0] (.seq (.reg [⟨(some 8), none, .mv (.t 0)⟩, ⟨(some 9), none, .call (.c (.fn K.vary_end [] [])) [(.t 8)]⟩, ⟨(some 5), none, .mv (.t 9)⟩])
  (.keep [0, 5] (.seq (.block 0 (.seq (.reg [⟨(some 11), none, .mv (.t 5)⟩, ⟨(some 12), none, .bin .lss (.t 11) (.c (.int .i64 (0)))⟩, ⟨(some 13), none, .mv (.t 12)⟩, ⟨(some 14), (some (13, true)), .mv (.t 0)⟩, ⟨(some 15), (some (13, true)), .len false (.t 14)⟩, ⟨(some 16), (some (13, true)), .bin .lss (.t 15) (.c (.int .i64 (10)))⟩, ⟨(some 17), none, .pick (.t 13) (.t 16) (.c (.bool false))⟩, ⟨(some 10), none, .mv (.t 17)⟩])
  (.keep [0, 5, 10] (.cond (.t 10) (.seq (.reg [⟨(some 2), none, .mv (.c (.int .u64 (0)))⟩, ⟨(some 3), none, .mv (.c (.int .i64 (0)))⟩, ⟨(some 4), none, .mv (.c (.int .i64 (3)))⟩]) .ret) (.seq (.seq (.reg [⟨(some 19), none, .mv (.t 5)⟩, ⟨(some 20), none, .bin .lss (.t 19) (.c (.int .i64 (0)))⟩, ⟨(some 18), none, .mv (.t 20)⟩])
  (.keep [0, 5, 18] (.cond (.t 18) .skip (.reg [⟨(some 21), none, .mv (.t 5)⟩, ⟨(some 22), none, .bin .eql (.t 21) (.c (.int .i64 (9)))⟩, ⟨(some 23), none, .mv (.t 22)⟩, ⟨(some 24), (some (23, true)), .mv (.t 0)⟩, ⟨(some 25), (some (23, true)), .mv (.t 5)⟩, ⟨(some 26), (some (23, true)), .ia 1 (.t 24) (.t 25)⟩, ⟨(some 27), (some (23, true)), .load false 1 (.t 26)⟩, ⟨(some 28), (some (23, true)), .bin .gtr (.t 27) (.c (.int .u8 (1)))⟩, ⟨(some 29), none, .pick (.t 23) (.t 28) (.c (.bool false))⟩, ⟨(some 18), none, .mv (.t 29)⟩]))))
  (.keep [0, 5, 18] (.cond (.t 18) (.seq (.reg [⟨(some 2), none, .mv (.c (.int .u64 (0)))⟩, ⟨(some 3), none, .mv (.c (.int .i64 (0)))⟩, ⟨(some 4), none, .mv (.c (.int .i64 (4)))⟩]) .ret) (.seq (.reg [⟨(some 31), none, .mv (.t 5)⟩, ⟨(some 32), none, .bin .gtr (.t 31) (.c (.int .i64 (0)))⟩, ⟨(some 33), none, .mv (.t 32)⟩, ⟨(some 34), (some (33, true)), .mv (.t 0)⟩, ⟨(some 35), (some (33, true)), .mv (.t 5)⟩, ⟨(some 36), (some (33, true)), .ia 1 (.t 34) (.t 35)⟩, ⟨(some 37), (some (33, true)), .load false 1 (.t 36)⟩, ⟨(some 38), (some (33, true)), .bin .eql (.t 37) (.c (.int .u8 (0)))⟩, ⟨(some 39), none, .pick (.t 33) (.t 38) (.c (.bool false))⟩, ⟨(some 30), none, .mv (.t 39)⟩])
  (.keep [0, 5, 30] (.cond (.t 30) (.seq (.reg [⟨(some 2), none, .mv (.c (.int .u64 (0)))⟩, ⟨(some 3), none, .mv (.c (.int .i64 (0)))⟩, ⟨(some 4), none, .mv (.c (.int .i64 (2)))⟩]) .ret) .skip))))))))))
  (.keep [0, 5] (.seq (.reg [⟨(some 6), none, .mv (.c (.int .u64 (0)))⟩])
  (.keep [0, 5, 6] (.seq (.seq (.reg [⟨(some 40), none, .mv (.t 5)⟩, ⟨(some 7), none, .mv (.t 40)⟩])
  (.keep [0, 5, 6, 7] (.block 1 (.loop A.vary_Take.L0))))
  (.keep [5, 6] (.seq (.reg [⟨(some 54), none, .mv (.t 6)⟩, ⟨(some 55), none, .mv (.t 5)⟩, ⟨(some 56), none, .bin .add (.t 55) (.c (.int .i64 (1)))⟩, ⟨(some 2), none, .mv (.t 54)⟩, ⟨(some 3), none, .mv (.t 56)⟩, ⟨(some 4), none, .mv (.c (.int .i64 (0)))⟩]) .ret)))))))))))⟩
def A.vary_end.L0 : AC := .post (.seq (.reg [⟨(some 9), none, .bin .lss (.t 8) (.t 7)⟩])
  (.keep [3, 6, 7, 8, 9] (.seq (.cond (.t 9) .skip (.exit 0))
  (.keep [3, 6, 7, 8] (.seq (.block 1 (.seq (.reg [⟨(some 10), none, .mv (.t 8)⟩, ⟨(some 11), none, .ia 1 (.t 6) (.t 8)⟩, ⟨(some 12), none, .load false 1 (.t 11)⟩, ⟨(some 4), none, .mv (.t 10)⟩, ⟨(some 5), none, .mv (.t 12)⟩])
  (.keep [3, 4, 5, 6, 7, 8] (.block 2 (.seq (.reg [⟨(some 14), none, .mv (.t 4)⟩, ⟨(some 15), none, .bin .eql (.t 14) (.c (.int .i64 (10)))⟩, ⟨(some 13), none, .mv (.t 15)⟩])
  (.keep [3, 4, 5, 6, 7, 8, 13] (.cond (.t 13) (.exit 0) (.seq (.reg [⟨(some 17), none, .mv (.t 5)⟩, ⟨(some 18), none, .bin .lss (.t 17) (.c (.int .u8 (128)))⟩, ⟨(some 16), none, .mv (.t 18)⟩])
  (.keep [3, 4, 6, 7, 8, 16] (.cond (.t 16) (.seq (.reg [⟨(some 19), none, .mv (.t 4)⟩, ⟨(some 3), none, .mv (.t 19)⟩]) (.exit 0)) .skip))))))))))
  (.keep [3, 6, 7, 8] (.reg [⟨(some 20), none, .bin .add (.t 8) (.c (.int .i64 (1)))⟩, ⟨(some 8), none, .mv (.t 20)⟩]))))))) [3, 6, 7, 8]
def A.vary_end : AFn := ⟨22, [(2, none)], (.seq (.reg [⟨(some 2), none, .mv (.c (.int .i64 (0)))⟩])
  (.keep [0] (.scope (.seq (.reg [⟨(some 3), none, .mv (.c (.int .i64 (-1)))⟩])
  (.keep [0, 3] (.seq .skip
  (.keep [0, 3] (.seq (.seq (.reg [⟨(some 6), none, .mv (.t 0)⟩, ⟨(some 7), none, .len false (.t 6)⟩, ⟨(some 8), none, .mv (.c (.int .i64 (0)))⟩])
  (.keep [3, 6, 7, 8] (.block 0 (.loop A.vary_end.L0))))
  (.keep [3] (.seq (.reg [⟨(some 21), none, .mv (.t 3)⟩, ⟨(some 2), none, .mv (.t 21)⟩]) .ret))))))))))⟩
end Go.Proofs.Ytdbbgkdepjidjaa.Al
namespace Go.Proofs.Ytdbbgkdepjidjaa.Al
open Go Go.RowKit
set_option linter.unusedSimpArgs false
set_option linter.unusedVariables false
attribute [-simp] List.getD_eq_getElem?_getD Int.not_lt Int.not_le
def u8 (b : Nat) : V := .int .u8 b
def u8s (l : List Nat) : List V := l.map u8
@[simp] theorem u8s_nil : u8s [] = [] := rfl
@[simp] theorem u8s_length (l : List Nat) : (u8s l).length = l.length := by simp [u8s]
theorem u8s_append (l m : List Nat) : u8s (l ++ m) = u8s l ++ u8s m := by simp [u8s]
/-! ### Taking -/
/-- How many bytes ahead are not the last one of a number. -/
def ld : List Nat → Nat
  | [] => 0
  | c :: r => if c < 128 then 0 else ld r + 1
end Go.Proofs.Ytdbbgkdepjidjaa.Al
namespace Go.Proofs.Ytdbbgkdepjidjaa.Al
def A.wire_New : AFn := ⟨7, [(2, none)], (.seq (.reg [⟨(some 2), none, .mv (.c .nilp)⟩])
  (.keep [0] (.seq (.reg [⟨(some 3), none, .mv (.t 0)⟩, ⟨(some 4), none, .call (.c (.fn K.slices_Clone_byte [] [])) [(.t 3)]⟩, ⟨(some 5), none, .bld [(.sl 0 1 []), (.int .i64 (0))] [(0, 1, (.t 4))]⟩, ⟨(some 6), none, .box (.t 5)⟩, ⟨(some 2), none, .mv (.t 6)⟩]) .ret)))⟩
def A.wire_Reader_Num : AFn := ⟨41, [(4, none)], (.seq (.reg [⟨(some 4), none, .mv (.c (.int .i64 (0)))⟩])
  (.keep [0, 1] (.seq (.reg [⟨(some 9), none, .mv (.t 0)⟩, ⟨(some 10), none, .nilchk (.t 9)⟩, ⟨(some 11), none, .fa 0 (.t 10)⟩, ⟨(some 12), none, .load false 1 (.t 11)⟩, ⟨(some 13), none, .call (.c (.fn K.vary_Take [] [])) [(.t 12)]⟩, ⟨(some 8), none, .mv (.t 13)⟩, ⟨(some 14), none, .ext (.t 8) 0⟩, ⟨(some 15), none, .ext (.t 8) 1⟩, ⟨(some 16), none, .ext (.t 8) 2⟩, ⟨(some 5), none, .mv (.t 14)⟩, ⟨(some 6), none, .mv (.t 15)⟩, ⟨(some 7), none, .mv (.t 16)⟩])
  (.keep [0, 1, 5, 6, 7] (.seq (.seq (.reg [⟨(some 17), none, .mv (.t 7)⟩, ⟨(some 18), none, .bin .eql (.t 17) (.c (.int .i64 (0)))⟩, ⟨(some 19), none, .mv (.t 18)⟩, ⟨(some 20), (some (19, true)), .mv (.t 5)⟩, ⟨(some 21), (some (19, true)), .mv (.t 1)⟩, ⟨(some 22), (some (19, true)), .conv .u64 (.t 21)⟩, ⟨(some 23), (some (19, true)), .bin .gtr (.t 20) (.t 22)⟩, ⟨(some 24), none, .pick (.t 19) (.t 23) (.c (.bool false))⟩])
  (.keep [0, 5, 6, 7, 24] (.cond (.t 24) (.reg [⟨(some 7), none, .mv (.c (.int .i64 (5)))⟩]) .skip)))
  (.keep [0, 5, 6, 7] (.seq (.seq (.reg [⟨(some 25), none, .mv (.t 7)⟩, ⟨(some 26), none, .bin .neq (.t 25) (.c (.int .i64 (0)))⟩])
  (.keep [0, 5, 6, 7, 26] (.cond (.t 26) (.seq (.reg [⟨(some 27), none, .mv (.t 0)⟩, ⟨(some 28), none, .mv (.t 7)⟩, ⟨(some 29), none, .call (.c (.fn K.wire_Reader_Wrong [] [])) [(.t 27), (.t 28)]⟩])
  (.keep [] (.seq (.reg [⟨(some 4), none, .mv (.c (.int .i64 (0)))⟩]) .ret))) .skip)))
  (.keep [0, 5, 6] (.seq (.reg [⟨(some 30), none, .mv (.t 0)⟩, ⟨(some 31), none, .mv (.t 0)⟩, ⟨(some 32), none, .nilchk (.t 31)⟩, ⟨(some 33), none, .fa 0 (.t 32)⟩, ⟨(some 34), none, .load false 1 (.t 33)⟩, ⟨(some 35), none, .mv (.t 6)⟩, ⟨(some 36), none, .slc 1 (.t 34) (some (.t 35)) none⟩, ⟨(some 37), none, .nilchk (.t 30)⟩, ⟨(some 38), none, .fa 0 (.t 37)⟩, ⟨none, none, .store 1 (.t 38) (.t 36)⟩])
  (.keep [5] (.seq (.reg [⟨(some 39), none, .mv (.t 5)⟩, ⟨(some 40), none, .conv .i64 (.t 39)⟩, ⟨(some 4), none, .mv (.t 40)⟩]) .ret)))))))))))⟩
def A.wire_Reader_Bool : AFn := ⟨6, [(2, none)], (.seq (.reg [⟨(some 2), none, .mv (.c (.bool false))⟩])
  (.keep [0] (.seq (.reg [⟨(some 3), none, .mv (.t 0)⟩, ⟨(some 4), none, .call (.c (.fn K.wire_Reader_Num [] [])) [(.t 3), (.c (.int .i64 (1)))]⟩, ⟨(some 5), none, .bin .eql (.t 4) (.c (.int .i64 (1)))⟩, ⟨(some 2), none, .mv (.t 5)⟩]) .ret)))⟩
def A.wire_Reader_Nums : AFn := ⟨14, [(6, none)], (.seq (.reg [⟨(some 5), none, .box (.t 2)⟩, ⟨(some 6), none, .mv (.c (.sl 0 1 []))⟩])
  (.keep [0, 1, 5] (.seq (.reg [⟨(some 8), none, .mv (.t 0)⟩, ⟨(some 9), none, .mkfn K.wire_Reader_Num [(.t 8)] []⟩, ⟨(some 7), none, .alloc [.nilf]⟩, ⟨none, none, .store 1 (.t 7) (.t 9)⟩])
  (.keep [0, 1, 5, 7] (.seq (.reg [⟨(some 10), none, .mv (.t 0)⟩, ⟨(some 11), none, .mv (.t 1)⟩, ⟨(some 12), none, .mkfn K.wire_Reader_Nums_1 [] [(.t 7), (.t 5)]⟩, ⟨(some 13), none, .call (.c (.fn K.wire_List_int [] [])) [(.t 10), (.t 11), (.t 12)]⟩, ⟨(some 6), none, .mv (.t 13)⟩]) .ret)))))⟩
def A.wire_Reader_Wrong : AFn := ⟨20, [], (.seq (.reg [⟨(some 4), none, .mv (.t 0)⟩, ⟨(some 5), none, .nilchk (.t 4)⟩, ⟨(some 6), none, .fa 1 (.t 5)⟩, ⟨(some 7), none, .load false 1 (.t 6)⟩, ⟨(some 8), none, .bin .eql (.t 7) (.c (.int .i64 (0)))⟩, ⟨(some 9), none, .mv (.t 8)⟩, ⟨(some 10), (some (9, true)), .mv (.t 1)⟩, ⟨(some 11), (some (9, true)), .bin .neq (.t 10) (.c (.int .i64 (0)))⟩, ⟨(some 12), none, .pick (.t 9) (.t 11) (.c (.bool false))⟩])
  (.keep [0, 1, 12] (.cond (.t 12) (.reg [⟨(some 13), none, .mv (.t 0)⟩, ⟨(some 14), none, .mv (.t 0)⟩, ⟨(some 15), none, .mv (.t 1)⟩, ⟨(some 16), none, .nilchk (.t 13)⟩, ⟨(some 17), none, .fa 0 (.t 16)⟩, ⟨none, none, .store 1 (.t 17) (.c (.sl 0 1 []))⟩, ⟨(some 18), none, .nilchk (.t 14)⟩, ⟨(some 19), none, .fa 1 (.t 18)⟩, ⟨none, none, .store 1 (.t 19) (.t 15)⟩]) .skip)))⟩
def A.wire_Reader_End : AFn := ⟨20, [(2, none)], (.seq (.reg [⟨(some 2), none, .mv (.c (.int .i64 (0)))⟩])
  (.keep [0] (.seq (.seq (.reg [⟨(some 3), none, .mv (.t 0)⟩, ⟨(some 4), none, .nilchk (.t 3)⟩, ⟨(some 5), none, .fa 1 (.t 4)⟩, ⟨(some 6), none, .load false 1 (.t 5)⟩, ⟨(some 7), none, .bin .eql (.t 6) (.c (.int .i64 (0)))⟩, ⟨(some 8), none, .mv (.t 7)⟩, ⟨(some 9), (some (8, true)), .mv (.t 0)⟩, ⟨(some 10), (some (8, true)), .nilchk (.t 9)⟩, ⟨(some 11), (some (8, true)), .fa 0 (.t 10)⟩, ⟨(some 12), (some (8, true)), .load false 1 (.t 11)⟩, ⟨(some 13), (some (8, true)), .len false (.t 12)⟩, ⟨(some 14), (some (8, true)), .bin .gtr (.t 13) (.c (.int .i64 (0)))⟩, ⟨(some 15), none, .pick (.t 8) (.t 14) (.c (.bool false))⟩])
  (.keep [0, 15] (.cond (.t 15) (.seq (.reg [⟨(some 2), none, .mv (.c (.int .i64 (4)))⟩]) .ret) .skip)))
  (.keep [0] (.seq (.reg [⟨(some 16), none, .mv (.t 0)⟩, ⟨(some 17), none, .nilchk (.t 16)⟩, ⟨(some 18), none, .fa 1 (.t 17)⟩, ⟨(some 19), none, .load false 1 (.t 18)⟩, ⟨(some 2), none, .mv (.t 19)⟩]) .ret)))))⟩
def A.wire_List_int.L0 : AC := .post (.seq (.reg [⟨(some 12), none, .bin .lss (.t 11) (.t 10)⟩])
  (.keep [0, 2, 7, 10, 11, 12] (.seq (.cond (.t 12) .skip (.exit 0))
  (.keep [0, 2, 7, 10, 11] (.seq (.block 1 (.seq (.seq (.reg [⟨(some 13), none, .mv (.t 0)⟩, ⟨(some 14), none, .nilchk (.t 13)⟩, ⟨(some 15), none, .fa 1 (.t 14)⟩, ⟨(some 16), none, .load false 1 (.t 15)⟩, ⟨(some 17), none, .bin .neq (.t 16) (.c (.int .i64 (0)))⟩])
  (.keep [0, 2, 7, 10, 11, 17] (.cond (.t 17) (.exit 0) .skip)))
  (.keep [0, 2, 7, 10, 11] (.reg [⟨(some 18), none, .mv (.t 7)⟩, ⟨(some 19), none, .mv (.t 2)⟩, ⟨(some 20), none, .mv (.t 0)⟩, ⟨(some 21), none, .call (.t 19) [(.t 20)]⟩, ⟨(some 22), none, .bsl 1 false [(.int .i64 (0))] 1 [(0, (.t 21))]⟩, ⟨(some 23), none, .app 1 8 (.t 18) (.t 22)⟩, ⟨(some 7), none, .mv (.t 23)⟩]))))
  (.keep [0, 2, 7, 10, 11] (.reg [⟨(some 24), none, .bin .add (.t 11) (.c (.int .i64 (1)))⟩, ⟨(some 11), none, .mv (.t 24)⟩]))))))) [0, 2, 7, 10, 11]
def A.wire_List_int : AFn := ⟨31, [(6, none)], (.seq (.reg [⟨(some 6), none, .mv (.c (.sl 0 1 []))⟩])
  (.keep [0, 1, 2] (.seq (.reg [⟨(some 7), none, .mv (.c (.sl 0 1 []))⟩])
  (.keep [0, 1, 2, 7] (.seq (.seq (.reg [⟨(some 8), none, .mv (.t 0)⟩, ⟨(some 9), none, .mv (.t 1)⟩, ⟨(some 10), none, .call (.c (.fn K.wire_Reader_Num [] [])) [(.t 8), (.t 9)]⟩, ⟨(some 11), none, .mv (.c (.int .i64 (0)))⟩])
  (.keep [0, 2, 7, 10, 11] (.block 0 (.loop A.wire_List_int.L0))))
  (.keep [0, 7] (.seq (.seq (.reg [⟨(some 25), none, .mv (.t 0)⟩, ⟨(some 26), none, .nilchk (.t 25)⟩, ⟨(some 27), none, .fa 1 (.t 26)⟩, ⟨(some 28), none, .load false 1 (.t 27)⟩, ⟨(some 29), none, .bin .neq (.t 28) (.c (.int .i64 (0)))⟩])
  (.keep [7, 29] (.cond (.t 29) (.seq (.reg [⟨(some 6), none, .mv (.c (.sl 0 1 []))⟩]) .ret) .skip)))
  (.keep [7] (.seq (.reg [⟨(some 30), none, .mv (.t 7)⟩, ⟨(some 6), none, .mv (.t 30)⟩]) .ret)))))))))⟩
def A.wire_Reader_Nums_1 : AFn := ⟨8, [(4, none)], (.seq (.reg [⟨(some 4), none, .mv (.c (.int .i64 (0)))⟩])
  (.keep [1, 2] (.seq (.reg [⟨(some 5), none, .load false 1 (.t 1)⟩, ⟨(some 6), none, .load false 1 (.t 2)⟩, ⟨(some 7), none, .call (.t 5) [(.t 6)]⟩, ⟨(some 4), none, .mv (.t 7)⟩]) .ret)))⟩
end Go.Proofs.Ytdbbgkdepjidjaa.Al
namespace Go.Proofs.Ytdbbgkdepjidjaa.Al
def A.slices_Clone_byte : AFn := ⟨8, [(2, none)], (.seq (.reg [⟨(some 2), none, .mv (.c (.sl 0 1 []))⟩])
  (.keep [0] (.seq (.seq (.reg [⟨(some 3), none, .mv (.t 0)⟩, ⟨(some 4), none, .isnil false false (.t 3)⟩])
  (.keep [0, 4] (.cond (.t 4) (.seq (.reg [⟨(some 2), none, .mv (.c (.sl 0 1 []))⟩]) .ret) .skip)))
  (.keep [0] (.seq (.reg [⟨(some 5), none, .bsl 1 false [(.int .u8 (0))] 0 []⟩, ⟨(some 6), none, .mv (.t 0)⟩, ⟨(some 7), none, .app 1 1 (.t 5) (.t 6)⟩, ⟨(some 2), none, .mv (.t 7)⟩]) .ret)))))⟩
def A.strings_Cut : AFn := ⟨13, [(4, none), (5, none), (6, none)], (.seq (.reg [⟨(some 4), none, .mv (.c (.str []))⟩, ⟨(some 5), none, .mv (.c (.str []))⟩, ⟨(some 6), none, .mv (.c (.bool false))⟩])
  (.keep [0, 1] (.seq (.reg [⟨(some 7), none, .mv (.t 0)⟩, ⟨(some 8), none, .mv (.t 1)⟩, ⟨(some 9), none, .call (.c (.fn K.stringslite_Cut [] [])) [(.t 7), (.t 8)]⟩, ⟨(some 10), none, .ext (.t 9) 0⟩, ⟨(some 11), none, .ext (.t 9) 1⟩, ⟨(some 12), none, .ext (.t 9) 2⟩, ⟨(some 4), none, .mv (.t 10)⟩, ⟨(some 5), none, .mv (.t 11)⟩, ⟨(some 6), none, .mv (.t 12)⟩]) .ret)))⟩
def A.strings_IndexByte : AFn := ⟨8, [(4, none)], (.seq (.reg [⟨(some 4), none, .mv (.c (.int .i64 (0)))⟩])
  (.keep [0, 1] (.seq (.reg [⟨(some 5), none, .mv (.t 0)⟩, ⟨(some 6), none, .mv (.t 1)⟩, ⟨(some 7), none, .call (.c (.fn K.stringslite_IndexByte [] [])) [(.t 5), (.t 6)]⟩, ⟨(some 4), none, .mv (.t 7)⟩]) .ret)))⟩
def A.stringslite_Cut : AFn := ⟨23, [(4, none), (5, none), (6, none)], (.seq (.reg [⟨(some 4), none, .mv (.c (.str []))⟩, ⟨(some 5), none, .mv (.c (.str []))⟩, ⟨(some 6), none, .mv (.c (.bool false))⟩])
  (.keep [0, 1] (.seq (.seq (.reg [⟨(some 8), none, .mv (.t 0)⟩, ⟨(some 9), none, .mv (.t 1)⟩, ⟨(some 10), none, .call (.c (.fn K.stringslite_Index [] [])) [(.t 8), (.t 9)]⟩, ⟨(some 7), none, .mv (.t 10)⟩])
  (.keep [0, 1, 7] (.seq (.reg [⟨(some 11), none, .mv (.t 7)⟩, ⟨(some 12), none, .bin .geq (.t 11) (.c (.int .i64 (0)))⟩])
  (.keep [0, 1, 7, 12] (.cond (.t 12) (.seq (.draw [(.pl, ⟨(some 13), none, .mv (.t 0)⟩), (.pl, ⟨(some 14), none, .mv (.t 7)⟩), (.pl, ⟨(some 15), none, .slcs (.t 13) none (some (.t 14))⟩), (.pl, ⟨(some 16), none, .mv (.t 0)⟩), (.pl, ⟨(some 17), none, .mv (.t 7)⟩), (.pl, ⟨(some 18), none, .mv (.t 1)⟩), (.pl, ⟨(some 19), none, .len true (.t 18)⟩), (.pl, ⟨(some 20), none, .bin .add (.t 17) (.t 19)⟩), (.pl, ⟨(some 21), none, .slcs (.t 16) (some (.t 20)) none⟩), (.pl, ⟨(some 4), none, .mv (.t 15)⟩), (.pl, ⟨(some 5), none, .mv (.t 21)⟩), (.pl, ⟨(some 6), none, .mv (.c (.bool true))⟩)]) .ret) .skip)))))
  (.keep [0] (.seq (.reg [⟨(some 22), none, .mv (.t 0)⟩, ⟨(some 4), none, .mv (.t 22)⟩, ⟨(some 5), none, .mv (.c (.str []))⟩, ⟨(some 6), none, .mv (.c (.bool false))⟩]) .ret)))))⟩
def A.stringslite_IndexByte : AFn := ⟨8, [(4, none)], (.seq (.reg [⟨(some 4), none, .mv (.c (.int .i64 (0)))⟩])
  (.keep [0, 1] (.seq (.reg [⟨(some 5), none, .mv (.t 0)⟩, ⟨(some 6), none, .mv (.t 1)⟩, ⟨(some 7), none, .call (.c (.fn K.bytealg_IndexByteString [] [])) [(.t 5), (.t 6)]⟩, ⟨(some 4), none, .mv (.t 7)⟩]) .ret)))⟩
def A.stringslite_Index.L0 : AC := .post (.seq (.seq (.reg [⟨(some 57), none, .mv (.t 8)⟩, ⟨(some 58), none, .mv (.t 9)⟩, ⟨(some 59), none, .bin .lss (.t 57) (.t 58)⟩])
  (.keep [0, 1, 5, 6, 7, 8, 9, 10, 59] (.cond (.t 59) .skip (.exit 1))))
  (.keep [0, 1, 5, 6, 7, 8, 9, 10] (.block 2 (.seq (.seq (.reg [⟨(some 60), none, .mv (.t 0)⟩, ⟨(some 61), none, .mv (.t 8)⟩, ⟨(some 62), none, .ixs (.t 60) (.t 61)⟩, ⟨(some 63), none, .mv (.t 6)⟩, ⟨(some 64), none, .bin .neq (.t 62) (.t 63)⟩])
  (.keep [0, 1, 5, 6, 7, 8, 9, 10, 64] (.cond (.t 64) (.seq (.reg [⟨(some 65), none, .mv (.t 0)⟩, ⟨(some 66), none, .mv (.t 8)⟩, ⟨(some 67), none, .bin .add (.t 66) (.c (.int .i64 (1)))⟩, ⟨(some 68), none, .mv (.t 9)⟩, ⟨(some 69), none, .slcs (.t 65) (some (.t 67)) (some (.t 68))⟩, ⟨(some 70), none, .mv (.t 6)⟩, ⟨(some 71), none, .call (.c (.fn K.stringslite_IndexByte [] [])) [(.t 69), (.t 70)]⟩, ⟨(some 11), none, .mv (.t 71)⟩])
  (.keep [0, 1, 5, 6, 7, 8, 9, 10, 11] (.seq (.seq (.reg [⟨(some 72), none, .mv (.t 11)⟩, ⟨(some 73), none, .bin .lss (.t 72) (.c (.int .i64 (0)))⟩])
  (.keep [0, 1, 5, 6, 7, 8, 9, 10, 11, 73] (.cond (.t 73) (.seq (.reg [⟨(some 4), none, .mv (.c (.int .i64 (-1)))⟩]) .ret) .skip)))
  (.keep [0, 1, 5, 6, 7, 8, 9, 10, 11] (.reg [⟨(some 74), none, .mv (.t 8)⟩, ⟨(some 75), none, .mv (.t 11)⟩, ⟨(some 76), none, .bin .add (.t 75) (.c (.int .i64 (1)))⟩, ⟨(some 77), none, .bin .add (.t 74) (.t 76)⟩, ⟨(some 8), none, .mv (.t 77)⟩]))))) .skip)))
  (.keep [0, 1, 5, 6, 7, 8, 9, 10] (.seq (.seq (.reg [⟨(some 78), none, .mv (.t 0)⟩, ⟨(some 79), none, .mv (.t 8)⟩, ⟨(some 80), none, .bin .add (.t 79) (.c (.int .i64 (1)))⟩, ⟨(some 81), none, .ixs (.t 78) (.t 80)⟩, ⟨(some 82), none, .mv (.t 7)⟩, ⟨(some 83), none, .bin .eql (.t 81) (.t 82)⟩, ⟨(some 84), none, .mv (.t 83)⟩, ⟨(some 85), (some (84, true)), .mv (.t 0)⟩, ⟨(some 86), (some (84, true)), .mv (.t 8)⟩, ⟨(some 87), (some (84, true)), .mv (.t 8)⟩, ⟨(some 88), (some (84, true)), .mv (.t 5)⟩, ⟨(some 89), (some (84, true)), .bin .add (.t 87) (.t 88)⟩, ⟨(some 90), (some (84, true)), .slcs (.t 85) (some (.t 86)) (some (.t 89))⟩, ⟨(some 91), (some (84, true)), .mv (.t 1)⟩, ⟨(some 92), (some (84, true)), .bin .eql (.t 90) (.t 91)⟩, ⟨(some 93), none, .pick (.t 84) (.t 92) (.c (.bool false))⟩])
  (.keep [0, 1, 5, 6, 7, 8, 9, 10, 93] (.cond (.t 93) (.seq (.reg [⟨(some 94), none, .mv (.t 8)⟩, ⟨(some 4), none, .mv (.t 94)⟩]) .ret) .skip)))
  (.keep [0, 1, 5, 6, 7, 8, 9, 10] (.seq (.reg [⟨(some 95), none, .mv (.t 8)⟩, ⟨(some 96), none, .bin .add (.t 95) (.c (.int .i64 (1)))⟩, ⟨(some 8), none, .mv (.t 96)⟩])
  (.keep [0, 1, 5, 6, 7, 8, 9, 10] (.seq (.reg [⟨(some 97), none, .mv (.t 10)⟩, ⟨(some 98), none, .bin .add (.t 97) (.c (.int .i64 (1)))⟩, ⟨(some 10), none, .mv (.t 98)⟩])
  (.keep [0, 1, 5, 6, 7, 8, 9, 10] (.seq (.reg [⟨(some 99), none, .mv (.t 5)⟩, ⟨(some 100), none, .load false 1 (.c .undef)⟩, ⟨(some 101), none, .bin .leq (.t 99) (.t 100)⟩, ⟨(some 102), none, .mv (.t 101)⟩, ⟨(some 103), (some (102, true)), .mv (.t 10)⟩, ⟨(some 104), (some (102, true)), .mv (.t 8)⟩, ⟨(some 105), (some (102, true)), .call (.c (.fn K.bytealg_Cutover [] [])) [(.t 104)]⟩, ⟨(some 106), (some (102, true)), .bin .gtr (.t 103) (.t 105)⟩, ⟨(some 107), none, .pick (.t 102) (.t 106) (.c (.bool false))⟩])
  (.keep [0, 1, 5, 6, 7, 8, 9, 10, 107] (.cond (.t 107) (.seq (.reg [⟨(some 108), none, .mv (.t 0)⟩, ⟨(some 109), none, .mv (.t 8)⟩, ⟨(some 110), none, .slcs (.t 108) (some (.t 109)) none⟩, ⟨(some 111), none, .mv (.t 1)⟩, ⟨(some 112), none, .call (.c (.fn K.bytealg_IndexString [] [])) [(.t 110), (.t 111)]⟩, ⟨(some 12), none, .mv (.t 112)⟩])
  (.keep [8, 12] (.seq (.seq (.reg [⟨(some 113), none, .mv (.t 12)⟩, ⟨(some 114), none, .bin .geq (.t 113) (.c (.int .i64 (0)))⟩])
  (.keep [8, 12, 114] (.cond (.t 114) (.seq (.reg [⟨(some 115), none, .mv (.t 12)⟩, ⟨(some 116), none, .mv (.t 8)⟩, ⟨(some 117), none, .bin .add (.t 115) (.t 116)⟩, ⟨(some 4), none, .mv (.t 117)⟩]) .ret) .skip)))
  (.keep [] (.seq (.reg [⟨(some 4), none, .mv (.c (.int .i64 (-1)))⟩]) .ret))))) (.seq (.reg [⟨(some 118), none, .mv (.t 5)⟩, ⟨(some 119), none, .load false 1 (.c .undef)⟩, ⟨(some 120), none, .bin .gtr (.t 118) (.t 119)⟩, ⟨(some 121), none, .mv (.t 120)⟩, ⟨(some 122), (some (121, true)), .mv (.t 10)⟩, ⟨(some 123), (some (121, true)), .mv (.t 8)⟩, ⟨(some 124), (some (121, true)), .bin .shr (.t 123) (.c (.int .u64 (4)))⟩, ⟨(some 125), (some (121, true)), .bin .add (.c (.int .i64 (4))) (.t 124)⟩, ⟨(some 126), (some (121, true)), .bin .geq (.t 122) (.t 125)⟩, ⟨(some 127), none, .pick (.t 121) (.t 126) (.c (.bool false))⟩, ⟨(some 128), none, .mv (.t 127)⟩, ⟨(some 129), (some (128, true)), .mv (.t 8)⟩, ⟨(some 130), (some (128, true)), .mv (.t 9)⟩, ⟨(some 131), (some (128, true)), .bin .lss (.t 129) (.t 130)⟩, ⟨(some 132), none, .pick (.t 128) (.t 131) (.c (.bool false))⟩])
  (.keep [0, 1, 5, 6, 7, 8, 9, 10, 132] (.cond (.t 132) (.seq (.reg [⟨(some 133), none, .mv (.t 0)⟩, ⟨(some 134), none, .mv (.t 8)⟩, ⟨(some 135), none, .slcs (.t 133) (some (.t 134)) none⟩, ⟨(some 136), none, .mv (.t 1)⟩, ⟨(some 137), none, .call (.c (.fn K.bytealg_IndexRabinKarp_string [] [])) [(.t 135), (.t 136)]⟩, ⟨(some 13), none, .mv (.t 137)⟩])
  (.keep [8, 13] (.seq (.seq (.reg [⟨(some 138), none, .mv (.t 13)⟩, ⟨(some 139), none, .bin .lss (.t 138) (.c (.int .i64 (0)))⟩])
  (.keep [8, 13, 139] (.cond (.t 139) (.seq (.reg [⟨(some 4), none, .mv (.c (.int .i64 (-1)))⟩]) .ret) .skip)))
  (.keep [8, 13] (.seq (.reg [⟨(some 140), none, .mv (.t 8)⟩, ⟨(some 141), none, .mv (.t 13)⟩, ⟨(some 142), none, .bin .add (.t 140) (.t 141)⟩, ⟨(some 4), none, .mv (.t 142)⟩]) .ret))))) .skip))))))))))))))))) [0, 1, 5, 6, 7, 8, 9, 10]
def A.stringslite_Index : AFn := ⟨143, [(4, none)], (.seq (.reg [⟨(some 4), none, .mv (.c (.int .i64 (0)))⟩])
  (.keep [0, 1] (.seq (.reg [⟨(some 14), none, .mv (.t 1)⟩, ⟨(some 15), none, .len true (.t 14)⟩, ⟨(some 5), none, .mv (.t 15)⟩])
  (.keep [0, 1, 5] (.seq (.block 0 (.seq (.reg [⟨(some 17), none, .mv (.t 5)⟩, ⟨(some 18), none, .bin .eql (.t 17) (.c (.int .i64 (0)))⟩, ⟨(some 19), none, .mv (.t 18)⟩, ⟨(some 20), (some (19, false)), .mv (.t 1)⟩, ⟨(some 21), (some (19, false)), .mv (.t 0)⟩, ⟨(some 22), (some (19, false)), .bin .eql (.t 20) (.t 21)⟩, ⟨(some 23), none, .pick (.t 19) (.c (.bool true)) (.t 22)⟩, ⟨(some 16), none, .mv (.t 23)⟩])
  (.keep [0, 1, 5, 16] (.cond (.t 16) (.seq (.reg [⟨(some 4), none, .mv (.c (.int .i64 (0)))⟩]) .ret) (.seq (.reg [⟨(some 25), none, .mv (.t 5)⟩, ⟨(some 26), none, .bin .eql (.t 25) (.c (.int .i64 (1)))⟩, ⟨(some 24), none, .mv (.t 26)⟩])
  (.keep [0, 1, 5, 24] (.cond (.t 24) (.seq (.reg [⟨(some 27), none, .mv (.t 0)⟩, ⟨(some 28), none, .mv (.t 1)⟩, ⟨(some 29), none, .ixs (.t 28) (.c (.int .i64 (0)))⟩, ⟨(some 30), none, .call (.c (.fn K.stringslite_IndexByte [] [])) [(.t 27), (.t 29)]⟩, ⟨(some 4), none, .mv (.t 30)⟩]) .ret) (.seq (.reg [⟨(some 32), none, .mv (.t 5)⟩, ⟨(some 33), none, .mv (.t 0)⟩, ⟨(some 34), none, .len true (.t 33)⟩, ⟨(some 35), none, .bin .geq (.t 32) (.t 34)⟩, ⟨(some 31), none, .mv (.t 35)⟩])
  (.keep [0, 1, 5, 31] (.cond (.t 31) (.seq (.reg [⟨(some 4), none, .mv (.c (.int .i64 (-1)))⟩]) .ret) (.seq (.reg [⟨(some 37), none, .mv (.t 5)⟩, ⟨(some 38), none, .load false 1 (.c .undef)⟩, ⟨(some 39), none, .bin .leq (.t 37) (.t 38)⟩, ⟨(some 40), none, .mv (.t 39)⟩, ⟨(some 41), (some (40, true)), .mv (.t 0)⟩, ⟨(some 42), (some (40, true)), .len true (.t 41)⟩, ⟨(some 43), (some (40, true)), .bin .leq (.t 42) (.c (.int .i64 (64)))⟩, ⟨(some 44), none, .pick (.t 40) (.t 43) (.c (.bool false))⟩, ⟨(some 36), none, .mv (.t 44)⟩])
  (.keep [0, 1, 5, 36] (.cond (.t 36) (.seq (.reg [⟨(some 45), none, .mv (.t 0)⟩, ⟨(some 46), none, .mv (.t 1)⟩, ⟨(some 47), none, .call (.c (.fn K.bytealg_IndexString [] [])) [(.t 45), (.t 46)]⟩, ⟨(some 4), none, .mv (.t 47)⟩]) .ret) .skip)))))))))))))
  (.keep [0, 1, 5] (.seq (.reg [⟨(some 48), none, .mv (.t 1)⟩, ⟨(some 49), none, .ixs (.t 48) (.c (.int .i64 (0)))⟩, ⟨(some 6), none, .mv (.t 49)⟩])
  (.keep [0, 1, 5, 6] (.seq (.reg [⟨(some 50), none, .mv (.t 1)⟩, ⟨(some 51), none, .ixs (.t 50) (.c (.int .i64 (1)))⟩, ⟨(some 7), none, .mv (.t 51)⟩])
  (.keep [0, 1, 5, 6, 7] (.seq (.reg [⟨(some 8), none, .mv (.c (.int .i64 (0)))⟩])
  (.keep [0, 1, 5, 6, 7, 8] (.seq (.reg [⟨(some 52), none, .mv (.t 0)⟩, ⟨(some 53), none, .len true (.t 52)⟩, ⟨(some 54), none, .mv (.t 5)⟩, ⟨(some 55), none, .bin .sub (.t 53) (.t 54)⟩, ⟨(some 56), none, .bin .add (.t 55) (.c (.int .i64 (1)))⟩, ⟨(some 9), none, .mv (.t 56)⟩])
  (.keep [0, 1, 5, 6, 7, 8, 9] (.seq (.reg [⟨(some 10), none, .mv (.c (.int .i64 (0)))⟩])
  (.keep [0, 1, 5, 6, 7, 8, 9, 10] (.seq (.block 1 (.loop A.stringslite_Index.L0))
  (.keep [] (.seq (.reg [⟨(some 4), none, .mv (.c (.int .i64 (-1)))⟩]) .ret)))))))))))))))))))⟩
def A.bytealg_Cutover : AFn := ⟨6, [(2, none)], (.seq (.reg [⟨(some 2), none, .mv (.c (.int .i64 (0)))⟩])
  (.keep [0] (.seq (.reg [⟨(some 3), none, .mv (.t 0)⟩, ⟨(some 4), none, .bin .add (.t 3) (.c (.int .i64 (16)))⟩, ⟨(some 5), none, .bin .quo (.t 4) (.c (.int .i64 (8)))⟩, ⟨(some 2), none, .mv (.t 5)⟩]) .ret)))⟩
def A.bytealg_IndexRabinKarp_string.L0 : AC := .post (.seq (.seq (.reg [⟨(some 18), none, .mv (.t 9)⟩, ⟨(some 19), none, .mv (.t 7)⟩, ⟨(some 20), none, .bin .lss (.t 18) (.t 19)⟩])
  (.keep [0, 1, 5, 6, 7, 8, 9, 20] (.cond (.t 20) .skip (.exit 0))))
  (.keep [0, 1, 5, 6, 7, 8, 9] (.seq (.block 1 (.reg [⟨(some 23), none, .mv (.t 8)⟩, ⟨(some 24), none, .bin .mul (.t 23) (.c (.int .u32 (16777619)))⟩, ⟨(some 25), none, .mv (.t 0)⟩, ⟨(some 26), none, .mv (.t 9)⟩, ⟨(some 27), none, .ixs (.t 25) (.t 26)⟩, ⟨(some 28), none, .conv .u32 (.t 27)⟩, ⟨(some 29), none, .bin .add (.t 24) (.t 28)⟩, ⟨(some 8), none, .mv (.t 29)⟩]))
  (.keep [0, 1, 5, 6, 7, 8, 9] (.reg [⟨(some 21), none, .mv (.t 9)⟩, ⟨(some 22), none, .bin .add (.t 21) (.c (.int .i64 (1)))⟩, ⟨(some 9), none, .mv (.t 22)⟩]))))) [0, 1, 5, 6, 7, 8, 9]
def A.bytealg_IndexRabinKarp_string.L1 : AC := .post (.seq (.seq (.reg [⟨(some 41), none, .mv (.t 10)⟩, ⟨(some 42), none, .mv (.t 0)⟩, ⟨(some 43), none, .len true (.t 42)⟩, ⟨(some 44), none, .bin .lss (.t 41) (.t 43)⟩])
  (.keep [0, 1, 5, 6, 7, 8, 10, 44] (.cond (.t 44) .skip (.exit 2))))
  (.keep [0, 1, 5, 6, 7, 8, 10] (.block 3 (.seq (.reg [⟨(some 45), none, .mv (.t 8)⟩, ⟨(some 46), none, .bin .mul (.t 45) (.c (.int .u32 (16777619)))⟩, ⟨(some 8), none, .mv (.t 46)⟩])
  (.keep [0, 1, 5, 6, 7, 8, 10] (.seq (.reg [⟨(some 47), none, .mv (.t 8)⟩, ⟨(some 48), none, .mv (.t 0)⟩, ⟨(some 49), none, .mv (.t 10)⟩, ⟨(some 50), none, .ixs (.t 48) (.t 49)⟩, ⟨(some 51), none, .conv .u32 (.t 50)⟩, ⟨(some 52), none, .bin .add (.t 47) (.t 51)⟩, ⟨(some 8), none, .mv (.t 52)⟩])
  (.keep [0, 1, 5, 6, 7, 8, 10] (.seq (.reg [⟨(some 53), none, .mv (.t 8)⟩, ⟨(some 54), none, .mv (.t 6)⟩, ⟨(some 55), none, .mv (.t 0)⟩, ⟨(some 56), none, .mv (.t 10)⟩, ⟨(some 57), none, .mv (.t 7)⟩, ⟨(some 58), none, .bin .sub (.t 56) (.t 57)⟩, ⟨(some 59), none, .ixs (.t 55) (.t 58)⟩, ⟨(some 60), none, .conv .u32 (.t 59)⟩, ⟨(some 61), none, .bin .mul (.t 54) (.t 60)⟩, ⟨(some 62), none, .bin .sub (.t 53) (.t 61)⟩, ⟨(some 8), none, .mv (.t 62)⟩])
  (.keep [0, 1, 5, 6, 7, 8, 10] (.seq (.reg [⟨(some 63), none, .mv (.t 10)⟩, ⟨(some 64), none, .bin .add (.t 63) (.c (.int .i64 (1)))⟩, ⟨(some 10), none, .mv (.t 64)⟩])
  (.keep [0, 1, 5, 6, 7, 8, 10] (.seq (.reg [⟨(some 65), none, .mv (.t 8)⟩, ⟨(some 66), none, .mv (.t 5)⟩, ⟨(some 67), none, .bin .eql (.t 65) (.t 66)⟩, ⟨(some 68), none, .mv (.t 67)⟩, ⟨(some 69), (some (68, true)), .mv (.t 0)⟩, ⟨(some 70), (some (68, true)), .mv (.t 10)⟩, ⟨(some 71), (some (68, true)), .mv (.t 7)⟩, ⟨(some 72), (some (68, true)), .bin .sub (.t 70) (.t 71)⟩, ⟨(some 73), (some (68, true)), .mv (.t 10)⟩, ⟨(some 74), (some (68, true)), .slcs (.t 69) (some (.t 72)) (some (.t 73))⟩, ⟨(some 75), (some (68, true)), .mv (.t 1)⟩, ⟨(some 76), (some (68, true)), .bin .eql (.t 74) (.t 75)⟩, ⟨(some 77), none, .pick (.t 68) (.t 76) (.c (.bool false))⟩])
  (.keep [0, 1, 5, 6, 7, 8, 10, 77] (.cond (.t 77) (.seq (.reg [⟨(some 78), none, .mv (.t 10)⟩, ⟨(some 79), none, .mv (.t 7)⟩, ⟨(some 80), none, .bin .sub (.t 78) (.t 79)⟩, ⟨(some 4), none, .mv (.t 80)⟩]) .ret) .skip)))))))))))))) [0, 1, 5, 6, 7, 8, 10]
def A.bytealg_IndexRabinKarp_string : AFn := ⟨81, [(4, none)], (.seq (.reg [⟨(some 4), none, .mv (.c (.int .i64 (0)))⟩])
  (.keep [0, 1] (.seq (.reg [⟨(some 12), none, .mv (.t 1)⟩, ⟨(some 13), none, .call (.c (.fn K.bytealg_hashStr_string [] [])) [(.t 12)]⟩, ⟨(some 11), none, .mv (.t 13)⟩, ⟨(some 14), none, .ext (.t 11) 0⟩, ⟨(some 15), none, .ext (.t 11) 1⟩, ⟨(some 5), none, .mv (.t 14)⟩, ⟨(some 6), none, .mv (.t 15)⟩])
  (.keep [0, 1, 5, 6] (.seq (.reg [⟨(some 16), none, .mv (.t 1)⟩, ⟨(some 17), none, .len true (.t 16)⟩, ⟨(some 7), none, .mv (.t 17)⟩])
  (.keep [0, 1, 5, 6, 7] (.seq (.reg [⟨(some 8), none, .mv (.c (.int .u32 (0)))⟩])
  (.keep [0, 1, 5, 6, 7, 8] (.seq (.seq (.reg [⟨(some 9), none, .mv (.c (.int .i64 (0)))⟩])
  (.keep [0, 1, 5, 6, 7, 8, 9] (.block 0 (.loop A.bytealg_IndexRabinKarp_string.L0))))
  (.keep [0, 1, 5, 6, 7, 8] (.seq (.seq (.reg [⟨(some 30), none, .mv (.t 8)⟩, ⟨(some 31), none, .mv (.t 5)⟩, ⟨(some 32), none, .bin .eql (.t 30) (.t 31)⟩, ⟨(some 33), none, .mv (.t 32)⟩, ⟨(some 34), (some (33, true)), .mv (.t 0)⟩, ⟨(some 35), (some (33, true)), .mv (.t 7)⟩, ⟨(some 36), (some (33, true)), .slcs (.t 34) none (some (.t 35))⟩, ⟨(some 37), (some (33, true)), .mv (.t 1)⟩, ⟨(some 38), (some (33, true)), .bin .eql (.t 36) (.t 37)⟩, ⟨(some 39), none, .pick (.t 33) (.t 38) (.c (.bool false))⟩])
  (.keep [0, 1, 5, 6, 7, 8, 39] (.cond (.t 39) (.seq (.reg [⟨(some 4), none, .mv (.c (.int .i64 (0)))⟩]) .ret) .skip)))
  (.keep [0, 1, 5, 6, 7, 8] (.seq (.seq (.reg [⟨(some 40), none, .mv (.t 7)⟩, ⟨(some 10), none, .mv (.t 40)⟩])
  (.keep [0, 1, 5, 6, 7, 8, 10] (.block 2 (.loop A.bytealg_IndexRabinKarp_string.L1))))
  (.keep [] (.seq (.reg [⟨(some 4), none, .mv (.c (.int .i64 (-1)))⟩]) .ret)))))))))))))))⟩
def A.bytealg_hashStr_string.L0 : AC := .post (.seq (.seq (.reg [⟨(some 9), none, .mv (.t 5)⟩, ⟨(some 10), none, .mv (.t 0)⟩, ⟨(some 11), none, .len true (.t 10)⟩, ⟨(some 12), none, .bin .lss (.t 9) (.t 11)⟩])
  (.keep [0, 4, 5, 12] (.cond (.t 12) .skip (.exit 0))))
  (.keep [0, 4, 5] (.seq (.block 1 (.reg [⟨(some 15), none, .mv (.t 4)⟩, ⟨(some 16), none, .bin .mul (.t 15) (.c (.int .u32 (16777619)))⟩, ⟨(some 17), none, .mv (.t 0)⟩, ⟨(some 18), none, .mv (.t 5)⟩, ⟨(some 19), none, .ixs (.t 17) (.t 18)⟩, ⟨(some 20), none, .conv .u32 (.t 19)⟩, ⟨(some 21), none, .bin .add (.t 16) (.t 20)⟩, ⟨(some 4), none, .mv (.t 21)⟩]))
  (.keep [0, 4, 5] (.reg [⟨(some 13), none, .mv (.t 5)⟩, ⟨(some 14), none, .bin .add (.t 13) (.c (.int .i64 (1)))⟩, ⟨(some 5), none, .mv (.t 14)⟩]))))) [0, 4, 5]
def A.bytealg_hashStr_string.L1 : AC := .post (.seq (.seq (.reg [⟨(some 24), none, .mv (.t 8)⟩, ⟨(some 25), none, .bin .gtr (.t 24) (.c (.int .i64 (0)))⟩])
  (.keep [4, 6, 7, 8, 25] (.cond (.t 25) .skip (.exit 2))))
  (.keep [4, 6, 7, 8] (.seq (.block 3 (.seq (.seq (.reg [⟨(some 28), none, .mv (.t 8)⟩, ⟨(some 29), none, .bin .and (.t 28) (.c (.int .i64 (1)))⟩, ⟨(some 30), none, .bin .neq (.t 29) (.c (.int .i64 (0)))⟩])
  (.keep [4, 6, 7, 8, 30] (.cond (.t 30) (.reg [⟨(some 31), none, .mv (.t 6)⟩, ⟨(some 32), none, .mv (.t 7)⟩, ⟨(some 33), none, .bin .mul (.t 31) (.t 32)⟩, ⟨(some 6), none, .mv (.t 33)⟩]) .skip)))
  (.keep [4, 6, 7, 8] (.reg [⟨(some 34), none, .mv (.t 7)⟩, ⟨(some 35), none, .mv (.t 7)⟩, ⟨(some 36), none, .bin .mul (.t 34) (.t 35)⟩, ⟨(some 7), none, .mv (.t 36)⟩]))))
  (.keep [4, 6, 7, 8] (.reg [⟨(some 26), none, .mv (.t 8)⟩, ⟨(some 27), none, .bin .shr (.t 26) (.c (.int .u64 (1)))⟩, ⟨(some 8), none, .mv (.t 27)⟩]))))) [4, 6, 7, 8]
def A.bytealg_hashStr_string : AFn := ⟨39, [(2, none), (3, none)], (.seq (.reg [⟨(some 2), none, .mv (.c (.int .u32 (0)))⟩, ⟨(some 3), none, .mv (.c (.int .u32 (0)))⟩])
  (.keep [0] (.seq (.reg [⟨(some 4), none, .mv (.c (.int .u32 (0)))⟩])
  (.keep [0, 4] (.seq (.seq (.reg [⟨(some 5), none, .mv (.c (.int .i64 (0)))⟩])
  (.keep [0, 4, 5] (.block 0 (.loop A.bytealg_hashStr_string.L0))))
  (.keep [0, 4] (.seq (.reg [⟨(some 6), none, .mv (.c (.int .u32 (1)))⟩, ⟨(some 7), none, .mv (.c (.int .u32 (16777619)))⟩])
  (.keep [0, 4, 6, 7] (.seq (.seq (.reg [⟨(some 22), none, .mv (.t 0)⟩, ⟨(some 23), none, .len true (.t 22)⟩, ⟨(some 8), none, .mv (.t 23)⟩])
  (.keep [4, 6, 7, 8] (.block 2 (.loop A.bytealg_hashStr_string.L1))))
  (.keep [4, 6] (.seq (.reg [⟨(some 37), none, .mv (.t 4)⟩, ⟨(some 38), none, .mv (.t 6)⟩, ⟨(some 2), none, .mv (.t 37)⟩, ⟨(some 3), none, .mv (.t 38)⟩]) .ret)))))))))))⟩
def A.slices_Equal_int.L0 : AC := .post (.seq (.reg [⟨(some 14), none, .bin .lss (.t 13) (.t 12)⟩])
  (.keep [0, 1, 12, 13, 14] (.seq (.cond (.t 14) .skip (.exit 0))
  (.keep [0, 1, 12, 13] (.seq (.block 1 (.seq (.reg [⟨(some 15), none, .mv (.t 13)⟩, ⟨(some 5), none, .mv (.t 15)⟩])
  (.keep [0, 1, 5, 12, 13] (.seq (.draw [(.pl, ⟨(some 16), none, .mv (.t 0)⟩), (.pl, ⟨(some 17), none, .mv (.t 5)⟩), (.pl, ⟨(some 18), none, .ia 1 (.t 16) (.t 17)⟩), (.pl, ⟨(some 19), none, .load false 1 (.t 18)⟩), (.pl, ⟨(some 20), none, .mv (.t 1)⟩), (.pl, ⟨(some 21), none, .mv (.t 5)⟩), (.pl, ⟨(some 22), none, .ia 1 (.t 20) (.t 21)⟩), (.pl, ⟨(some 23), none, .load false 1 (.t 22)⟩), (.pl, ⟨(some 24), none, .bin .neq (.t 19) (.t 23)⟩)])
  (.keep [0, 1, 12, 13, 24] (.cond (.t 24) (.seq (.reg [⟨(some 4), none, .mv (.c (.bool false))⟩]) .ret) .skip))))))
  (.keep [0, 1, 12, 13] (.reg [⟨(some 25), none, .bin .add (.t 13) (.c (.int .i64 (1)))⟩, ⟨(some 13), none, .mv (.t 25)⟩]))))))) [0, 1, 12, 13]
def A.slices_Equal_int : AFn := ⟨26, [(4, none)], (.seq (.reg [⟨(some 4), none, .mv (.c (.bool false))⟩])
  (.keep [0, 1] (.seq (.seq (.reg [⟨(some 6), none, .mv (.t 0)⟩, ⟨(some 7), none, .len false (.t 6)⟩, ⟨(some 8), none, .mv (.t 1)⟩, ⟨(some 9), none, .len false (.t 8)⟩, ⟨(some 10), none, .bin .neq (.t 7) (.t 9)⟩])
  (.keep [0, 1, 10] (.cond (.t 10) (.seq (.reg [⟨(some 4), none, .mv (.c (.bool false))⟩]) .ret) .skip)))
  (.keep [0, 1] (.seq (.seq (.reg [⟨(some 11), none, .mv (.t 0)⟩, ⟨(some 12), none, .len false (.t 11)⟩, ⟨(some 13), none, .mv (.c (.int .i64 (0)))⟩])
  (.keep [0, 1, 12, 13] (.block 0 (.loop A.slices_Equal_int.L0))))
  (.keep [] (.seq (.reg [⟨(some 4), none, .mv (.c (.bool true))⟩]) .ret)))))))⟩
def A.slices_ContainsFunc_Rule : AFn := ⟨9, [(4, none)], (.seq (.reg [⟨(some 4), none, .mv (.c (.bool false))⟩])
  (.keep [0, 1] (.seq (.reg [⟨(some 5), none, .mv (.t 0)⟩, ⟨(some 6), none, .mv (.t 1)⟩, ⟨(some 7), none, .call (.c (.fn K.slices_IndexFunc_Rule [] [])) [(.t 5), (.t 6)]⟩, ⟨(some 8), none, .bin .geq (.t 7) (.c (.int .i64 (0)))⟩, ⟨(some 4), none, .mv (.t 8)⟩]) .ret)))⟩
def A.slices_Equal_Rule.L0 : AC := .post (.seq (.reg [⟨(some 14), none, .bin .lss (.t 13) (.t 12)⟩])
  (.keep [0, 1, 12, 13, 14] (.seq (.cond (.t 14) .skip (.exit 0))
  (.keep [0, 1, 12, 13] (.seq (.block 1 (.seq (.reg [⟨(some 15), none, .mv (.t 13)⟩, ⟨(some 5), none, .mv (.t 15)⟩])
  (.keep [0, 1, 5, 12, 13] (.seq (.draw [(.pl, ⟨(some 16), none, .mv (.t 0)⟩), (.pl, ⟨(some 17), none, .mv (.t 5)⟩), (.pl, ⟨(some 18), none, .ia 2 (.t 16) (.t 17)⟩), (.pl, ⟨(some 19), none, .load true 2 (.t 18)⟩), (.pl, ⟨(some 20), none, .mv (.t 1)⟩), (.pl, ⟨(some 21), none, .mv (.t 5)⟩), (.pl, ⟨(some 22), none, .ia 2 (.t 20) (.t 21)⟩), (.pl, ⟨(some 23), none, .load true 2 (.t 22)⟩), (.pl, ⟨(some 24), none, .eqs true [(.s, 0), (.i, 1)] (.t 19) (.t 23)⟩)])
  (.keep [0, 1, 12, 13, 24] (.cond (.t 24) (.seq (.reg [⟨(some 4), none, .mv (.c (.bool false))⟩]) .ret) .skip))))))
  (.keep [0, 1, 12, 13] (.reg [⟨(some 25), none, .bin .add (.t 13) (.c (.int .i64 (1)))⟩, ⟨(some 13), none, .mv (.t 25)⟩]))))))) [0, 1, 12, 13]
def A.slices_Equal_Rule : AFn := ⟨26, [(4, none)], (.seq (.reg [⟨(some 4), none, .mv (.c (.bool false))⟩])
  (.keep [0, 1] (.seq (.seq (.reg [⟨(some 6), none, .mv (.t 0)⟩, ⟨(some 7), none, .len false (.t 6)⟩, ⟨(some 8), none, .mv (.t 1)⟩, ⟨(some 9), none, .len false (.t 8)⟩, ⟨(some 10), none, .bin .neq (.t 7) (.t 9)⟩])
  (.keep [0, 1, 10] (.cond (.t 10) (.seq (.reg [⟨(some 4), none, .mv (.c (.bool false))⟩]) .ret) .skip)))
  (.keep [0, 1] (.seq (.seq (.reg [⟨(some 11), none, .mv (.t 0)⟩, ⟨(some 12), none, .len false (.t 11)⟩, ⟨(some 13), none, .mv (.c (.int .i64 (0)))⟩])
  (.keep [0, 1, 12, 13] (.block 0 (.loop A.slices_Equal_Rule.L0))))
  (.keep [] (.seq (.reg [⟨(some 4), none, .mv (.c (.bool true))⟩]) .ret)))))))⟩
def A.slices_EqualFunc_Node.L0 : AC := .post (.seq (.reg [⟨(some 18), none, .bin .lss (.t 17) (.t 16)⟩])
  (.keep [1, 2, 15, 16, 17, 18] (.seq (.cond (.t 18) .skip (.exit 0))
  (.keep [1, 2, 15, 16, 17] (.seq (.block 1 (.seq (.reg [⟨(some 19), none, .mv (.t 17)⟩, ⟨(some 20), none, .ia 3 (.t 15) (.t 17)⟩, ⟨(some 21), none, .load true 3 (.t 20)⟩, ⟨(some 8), none, .alloc [(.int .i64 (0)), (.str []), (.sl 0 1 [])]⟩, ⟨(some 7), none, .mv (.t 19)⟩, ⟨none, none, .store 3 (.t 8) (.t 21)⟩])
  (.keep [1, 2, 7, 8, 15, 16, 17] (.seq (.reg [⟨(some 22), none, .mv (.t 1)⟩, ⟨(some 23), none, .mv (.t 7)⟩, ⟨(some 24), none, .ia 3 (.t 22) (.t 23)⟩, ⟨(some 25), none, .load true 3 (.t 24)⟩, ⟨(some 9), none, .alloc [(.int .i64 (0)), (.str []), (.sl 0 1 [])]⟩, ⟨none, none, .store 3 (.t 9) (.t 25)⟩])
  (.keep [1, 2, 8, 9, 15, 16, 17] (.seq (.reg [⟨(some 26), none, .mv (.t 2)⟩, ⟨(some 27), none, .load true 3 (.t 8)⟩, ⟨(some 28), none, .load true 3 (.t 9)⟩, ⟨(some 29), none, .call (.t 26) [(.t 27), (.t 28)]⟩, ⟨(some 30), none, .un .not (.t 29)⟩])
  (.keep [1, 2, 15, 16, 17, 30] (.cond (.t 30) (.seq (.reg [⟨(some 6), none, .mv (.c (.bool false))⟩]) .ret) .skip))))))))
  (.keep [1, 2, 15, 16, 17] (.reg [⟨(some 31), none, .bin .add (.t 17) (.c (.int .i64 (1)))⟩, ⟨(some 17), none, .mv (.t 31)⟩]))))))) [1, 2, 15, 16, 17]
def A.slices_EqualFunc_Node : AFn := ⟨32, [(6, none)], (.seq (.reg [⟨(some 6), none, .mv (.c (.bool false))⟩])
  (.keep [0, 1, 2] (.seq (.seq (.reg [⟨(some 10), none, .mv (.t 0)⟩, ⟨(some 11), none, .len false (.t 10)⟩, ⟨(some 12), none, .mv (.t 1)⟩, ⟨(some 13), none, .len false (.t 12)⟩, ⟨(some 14), none, .bin .neq (.t 11) (.t 13)⟩])
  (.keep [0, 1, 2, 14] (.cond (.t 14) (.seq (.reg [⟨(some 6), none, .mv (.c (.bool false))⟩]) .ret) .skip)))
  (.keep [0, 1, 2] (.seq (.seq (.reg [⟨(some 15), none, .mv (.t 0)⟩, ⟨(some 16), none, .len false (.t 15)⟩, ⟨(some 17), none, .mv (.c (.int .i64 (0)))⟩])
  (.keep [1, 2, 15, 16, 17] (.block 0 (.loop A.slices_EqualFunc_Node.L0))))
  (.keep [] (.seq (.reg [⟨(some 6), none, .mv (.c (.bool true))⟩]) .ret)))))))⟩
def A.strings_Builder_Len : AFn := ⟨8, [(2, none)], (.seq (.reg [⟨(some 2), none, .mv (.c (.int .i64 (0)))⟩])
  (.keep [0] (.seq (.reg [⟨(some 3), none, .mv (.t 0)⟩, ⟨(some 4), none, .nilchk (.t 3)⟩, ⟨(some 5), none, .fa 1 (.t 4)⟩, ⟨(some 6), none, .load false 1 (.t 5)⟩, ⟨(some 7), none, .len false (.t 6)⟩, ⟨(some 2), none, .mv (.t 7)⟩]) .ret)))⟩
def A.slices_IndexFunc_Rule.L0 : AC := .post (.seq (.reg [⟨(some 9), none, .bin .lss (.t 8) (.t 7)⟩])
  (.keep [0, 1, 7, 8, 9] (.seq (.cond (.t 9) .skip (.exit 0))
  (.keep [0, 1, 7, 8] (.seq (.block 1 (.seq (.reg [⟨(some 10), none, .mv (.t 8)⟩, ⟨(some 5), none, .mv (.t 10)⟩])
  (.keep [0, 1, 5, 7, 8] (.seq (.reg [⟨(some 11), none, .mv (.t 1)⟩, ⟨(some 12), none, .mv (.t 0)⟩, ⟨(some 13), none, .mv (.t 5)⟩, ⟨(some 14), none, .ia 2 (.t 12) (.t 13)⟩, ⟨(some 15), none, .load true 2 (.t 14)⟩, ⟨(some 16), none, .call (.t 11) [(.t 15)]⟩])
  (.keep [0, 1, 5, 7, 8, 16] (.cond (.t 16) (.seq (.reg [⟨(some 17), none, .mv (.t 5)⟩, ⟨(some 4), none, .mv (.t 17)⟩]) .ret) .skip))))))
  (.keep [0, 1, 7, 8] (.reg [⟨(some 18), none, .bin .add (.t 8) (.c (.int .i64 (1)))⟩, ⟨(some 8), none, .mv (.t 18)⟩]))))))) [0, 1, 7, 8]
def A.slices_IndexFunc_Rule : AFn := ⟨19, [(4, none)], (.seq (.reg [⟨(some 4), none, .mv (.c (.int .i64 (0)))⟩])
  (.keep [0, 1] (.seq (.seq (.reg [⟨(some 6), none, .mv (.t 0)⟩, ⟨(some 7), none, .len false (.t 6)⟩, ⟨(some 8), none, .mv (.c (.int .i64 (0)))⟩])
  (.keep [0, 1, 7, 8] (.block 0 (.loop A.slices_IndexFunc_Rule.L0))))
  (.keep [] (.seq (.reg [⟨(some 4), none, .mv (.c (.int .i64 (-1)))⟩]) .ret)))))⟩
def A.slices_Contains_byte : AFn := ⟨9, [(4, none)], (.seq (.reg [⟨(some 4), none, .mv (.c (.bool false))⟩])
  (.keep [0, 1] (.seq (.reg [⟨(some 5), none, .mv (.t 0)⟩, ⟨(some 6), none, .mv (.t 1)⟩, ⟨(some 7), none, .call (.c (.fn K.slices_Index_byte [] [])) [(.t 5), (.t 6)]⟩, ⟨(some 8), none, .bin .geq (.t 7) (.c (.int .i64 (0)))⟩, ⟨(some 4), none, .mv (.t 8)⟩]) .ret)))⟩
def A.slices_Index_byte.L0 : AC := .post (.seq (.reg [⟨(some 9), none, .bin .lss (.t 8) (.t 7)⟩])
  (.keep [0, 1, 7, 8, 9] (.seq (.cond (.t 9) .skip (.exit 0))
  (.keep [0, 1, 7, 8] (.seq (.block 1 (.seq (.reg [⟨(some 10), none, .mv (.t 8)⟩, ⟨(some 5), none, .mv (.t 10)⟩])
  (.keep [0, 1, 5, 7, 8] (.seq (.reg [⟨(some 11), none, .mv (.t 1)⟩, ⟨(some 12), none, .mv (.t 0)⟩, ⟨(some 13), none, .mv (.t 5)⟩, ⟨(some 14), none, .ia 1 (.t 12) (.t 13)⟩, ⟨(some 15), none, .load false 1 (.t 14)⟩, ⟨(some 16), none, .bin .eql (.t 11) (.t 15)⟩])
  (.keep [0, 1, 5, 7, 8, 16] (.cond (.t 16) (.seq (.reg [⟨(some 17), none, .mv (.t 5)⟩, ⟨(some 4), none, .mv (.t 17)⟩]) .ret) .skip))))))
  (.keep [0, 1, 7, 8] (.reg [⟨(some 18), none, .bin .add (.t 8) (.c (.int .i64 (1)))⟩, ⟨(some 8), none, .mv (.t 18)⟩]))))))) [0, 1, 7, 8]
def A.slices_Index_byte : AFn := ⟨19, [(4, none)], (.seq (.reg [⟨(some 4), none, .mv (.c (.int .i64 (0)))⟩])
  (.keep [0, 1] (.seq (.seq (.reg [⟨(some 6), none, .mv (.t 0)⟩, ⟨(some 7), none, .len false (.t 6)⟩, ⟨(some 8), none, .mv (.c (.int .i64 (0)))⟩])
  (.keep [0, 1, 7, 8] (.block 0 (.loop A.slices_Index_byte.L0))))
  (.keep [] (.seq (.reg [⟨(some 4), none, .mv (.c (.int .i64 (-1)))⟩]) .ret)))))⟩
def A.strings_Builder_WriteString : AFn := ⟨19, [(4, none), (5, none)], (.seq (.reg [⟨(some 4), none, .mv (.c (.int .i64 (0)))⟩, ⟨(some 5), none, .mv (.c (.cval .nilIface))⟩])
  (.keep [0, 1] (.seq (.reg [⟨(some 6), none, .mv (.t 0)⟩, ⟨(some 7), none, .call (.c (.fn K.strings_Builder_copyCheck [] [])) [(.t 6)]⟩])
  (.keep [0, 1] (.seq (.reg [⟨(some 8), none, .mv (.t 0)⟩, ⟨(some 9), none, .mv (.t 0)⟩, ⟨(some 10), none, .nilchk (.t 9)⟩, ⟨(some 11), none, .fa 1 (.t 10)⟩, ⟨(some 12), none, .load false 1 (.t 11)⟩, ⟨(some 13), none, .mv (.t 1)⟩, ⟨(some 14), none, .apps 5 (.t 12) (.t 13)⟩, ⟨(some 15), none, .nilchk (.t 8)⟩, ⟨(some 16), none, .fa 1 (.t 15)⟩, ⟨none, none, .store 1 (.t 16) (.t 14)⟩])
  (.keep [1] (.seq (.reg [⟨(some 17), none, .mv (.t 1)⟩, ⟨(some 18), none, .len true (.t 17)⟩, ⟨(some 4), none, .mv (.t 18)⟩, ⟨(some 5), none, .mv (.c (.cval .nilIface))⟩]) .ret)))))))⟩
end Go.Proofs.Ytdbbgkdepjidjaa.Al
namespace Go.Proofs.Ytdbbgkdepjidjaa.Al
open Go Go.RowKit
set_option linter.unusedSimpArgs false
set_option linter.unusedVariables false
attribute [-simp] List.getD_eq_getElem?_getD Int.not_lt Int.not_le
section
variable {X : Cx} {h : AH} {Q : V → AH → Prop}
/-- What a call of a reader of layer 2 uses. -/
structure LR (X : Cx) : Prop where
  take : Has (Ecx X) K.vary_Take A.vary_Take
  en : Has (Ecx X) K.vary_end A.vary_end
  wrong : Has (Ecx X) K.wire_Reader_Wrong A.wire_Reader_Wrong
  num : Has (Ecx X) K.wire_Reader_Num A.wire_Reader_Num
  bool : Has (Ecx X) K.wire_Reader_Bool A.wire_Reader_Bool
  fin : Has (Ecx X) K.wire_Reader_End A.wire_Reader_End
  nums : Has (Ecx X) K.wire_Reader_Nums A.wire_Reader_Nums
  nums1 : Has (Ecx X) K.wire_Reader_Nums_1 A.wire_Reader_Nums_1
  list : Has (Ecx X) K.wire_List_int A.wire_List_int
  new : Has (Ecx X) K.wire_New A.wire_New
  clone : Has (Ecx X) K.slices_Clone_byte A.slices_Clone_byte
end
/-! ### Lists -/
/-- Things are read one by one, as long as nothing is wrong. -/
def rlist {α : Type} (step : List Nat → Int → α × List Nat × Int) : Nat → List Nat → Int → List α × List Nat × Int
  | 0, l, e => ([], l, e)
  | n + 1, l, e => if e ≠ 0 then ([], l, e) else ((step l e).1 :: (rlist step n (step l e).2.1 (step l e).2.2).1, (rlist step n (step l e).2.1 (step l e).2.2).2)
section
variable {X : Cx} {h : AH} {Q : V → AH → Prop}
def i64 (n : Nat) : V := .int .i64 n
/-! ### The reference's reader -/
/-- The reader of layer 2 that the reference's is. -/
def absR (s : List Nat × Int) : List Nat × Int := (if s.2 = 0 then s.1 else [], s.2)
end
end Go.Proofs.Ytdbbgkdepjidjaa.Al
namespace Go.Proofs.Ytdbbgkdepjidjaa.Al
def A.scan_Scan.L0 : AC := .post (.seq (.seq (.reg [⟨(some 13), none, .mv (.t 6)⟩, ⟨(some 14), none, .mv (.t 0)⟩, ⟨(some 15), none, .len true (.t 14)⟩, ⟨(some 16), none, .bin .lss (.t 13) (.t 15)⟩])
  (.keep [0, 5, 6, 16] (.cond (.t 16) .skip (.exit 0))))
  (.keep [0, 5, 6] (.block 1 (.seq (.reg [⟨(some 18), none, .mv (.t 0)⟩, ⟨(some 19), none, .mv (.t 6)⟩, ⟨(some 20), none, .slcs (.t 18) (some (.t 19)) none⟩, ⟨(some 21), none, .call (.c (.fn K.scan_first [] [])) [(.t 20)]⟩, ⟨(some 17), none, .mv (.t 21)⟩, ⟨(some 22), none, .ext (.t 17) 0⟩, ⟨(some 23), none, .ext (.t 17) 1⟩, ⟨(some 24), none, .ext (.t 17) 2⟩, ⟨(some 7), none, .mv (.t 22)⟩, ⟨(some 8), none, .mv (.t 23)⟩, ⟨(some 9), none, .mv (.t 24)⟩])
  (.keep [0, 5, 6, 7, 8, 9] (.seq (.seq (.reg [⟨(some 25), none, .mv (.t 9)⟩, ⟨(some 26), none, .bin .eql (.t 25) (.c (.int .i64 (0)))⟩])
  (.keep [0, 5, 6, 7, 8, 9, 26] (.cond (.t 26) (.seq (.reg [⟨(some 27), none, .mv (.t 6)⟩, ⟨(some 2), none, .mv (.c (.sl 0 1 []))⟩, ⟨(some 3), none, .mv (.t 27)⟩, ⟨(some 4), none, .mv (.c (.int .i64 (2)))⟩]) .ret) .skip)))
  (.keep [0, 5, 6, 7, 8, 9] (.seq (.seq (.reg [⟨(some 28), none, .mv (.t 7)⟩, ⟨(some 29), none, .bin .gtr (.t 28) (.c (.int .i64 (0)))⟩])
  (.keep [0, 5, 6, 7, 8, 9, 29] (.cond (.t 29) (.reg [⟨(some 30), none, .mv (.t 5)⟩, ⟨(some 31), none, .mv (.t 7)⟩, ⟨(some 32), none, .mv (.t 8)⟩, ⟨(some 33), none, .mv (.t 6)⟩, ⟨(some 34), none, .bld [(.int .i64 (0)), (.str []), (.int .i64 (0))] [(0, 1, (.t 31)), (1, 1, (.t 32)), (2, 1, (.t 33))]⟩, ⟨(some 35), none, .bsl 3 true [(.int .i64 (0)), (.str []), (.int .i64 (0))] 1 [(0, (.t 34))]⟩, ⟨(some 36), none, .app 3 32 (.t 30) (.t 35)⟩, ⟨(some 5), none, .mv (.t 36)⟩]) .skip)))
  (.keep [0, 5, 6, 9] (.reg [⟨(some 37), none, .mv (.t 6)⟩, ⟨(some 38), none, .mv (.t 9)⟩, ⟨(some 39), none, .bin .add (.t 37) (.t 38)⟩, ⟨(some 6), none, .mv (.t 39)⟩])))))))))) [0, 5, 6]
def A.scan_Scan : AFn := ⟨41, [(2, none), (3, none), (4, none)], (.seq (.reg [⟨(some 2), none, .mv (.c (.sl 0 1 []))⟩, ⟨(some 3), none, .mv (.c (.int .i64 (0)))⟩, ⟨(some 4), none, .mv (.c (.int .i64 (0)))⟩])
  (.keep [0] (.seq (.seq (.reg [⟨(some 10), none, .mv (.t 0)⟩, ⟨(some 11), none, .len true (.t 10)⟩, ⟨(some 12), none, .bin .gtr (.t 11) (.c (.int .i64 (4000)))⟩])
  (.keep [0, 12] (.cond (.t 12) (.seq (.reg [⟨(some 2), none, .mv (.c (.sl 0 1 []))⟩, ⟨(some 3), none, .mv (.c (.int .i64 (0)))⟩, ⟨(some 4), none, .mv (.c (.int .i64 (5)))⟩]) .ret) .skip)))
  (.keep [0] (.seq (.reg [⟨(some 5), none, .mv (.c (.sl 0 1 []))⟩])
  (.keep [0, 5] (.seq (.seq (.reg [⟨(some 6), none, .mv (.c (.int .i64 (0)))⟩])
  (.keep [0, 5, 6] (.block 0 (.loop A.scan_Scan.L0))))
  (.keep [5] (.seq (.reg [⟨(some 40), none, .mv (.t 5)⟩, ⟨(some 2), none, .mv (.t 40)⟩, ⟨(some 3), none, .mv (.c (.int .i64 (0)))⟩, ⟨(some 4), none, .mv (.c (.int .i64 (0)))⟩]) .ret)))))))))⟩
def A.scan_first : AFn := ⟨77, [(2, none), (3, none), (4, none)], (.seq (.reg [⟨(some 2), none, .mv (.c (.int .i64 (0)))⟩, ⟨(some 3), none, .mv (.c (.str []))⟩, ⟨(some 4), none, .mv (.c (.int .i64 (0)))⟩])
  (.keep [0] (.seq (.seq (.reg [⟨(some 11), none, .mv (.t 0)⟩, ⟨(some 12), none, .ixs (.t 11) (.c (.int .i64 (0)))⟩, ⟨(some 5), none, .mv (.t 12)⟩])
  (.keep [0, 5] (.block 0 (.seq (.block 6 (.seq (.block 5 (.seq (.block 4 (.seq (.block 3 (.block 2 (.seq (.block 1 (.seq (.seq (.seq (.reg [⟨(some 14), none, .mv (.t 5)⟩, ⟨(some 15), none, .bin .eql (.t 14) (.c (.int .u8 (35)))⟩, ⟨(some 13), none, .mv (.t 15)⟩])
  (.keep [0, 5, 13] (.cond (.t 13) (.exit 1) .skip)))
  (.keep [0, 5] (.seq (.seq (.reg [⟨(some 17), none, .mv (.t 5)⟩, ⟨(some 18), none, .bin .eql (.t 17) (.c (.int .u8 (13)))⟩, ⟨(some 16), none, .mv (.t 18)⟩])
  (.keep [0, 5, 16] (.cond (.t 16) (.exit 2) .skip)))
  (.keep [0, 5] (.seq (.seq (.seq (.reg [⟨(some 20), none, .mv (.t 5)⟩, ⟨(some 21), none, .bin .eql (.t 20) (.c (.int .u8 (32)))⟩, ⟨(some 19), none, .mv (.t 21)⟩])
  (.keep [0, 5, 19] (.cond (.t 19) .skip (.seq (.reg [⟨(some 22), none, .mv (.t 5)⟩, ⟨(some 23), none, .bin .eql (.t 22) (.c (.int .u8 (9)))⟩, ⟨(some 19), none, .mv (.t 23)⟩])
  (.keep [0, 5, 19] (.cond (.t 19) .skip (.reg [⟨(some 24), none, .mv (.t 5)⟩, ⟨(some 25), none, .bin .eql (.t 24) (.c (.int .u8 (10)))⟩, ⟨(some 19), none, .mv (.t 25)⟩])))))))
  (.keep [0, 5, 19] (.cond (.t 19) (.exit 3) .skip)))
  (.keep [0, 5] (.seq (.seq (.reg [⟨(some 27), none, .mv (.t 5)⟩, ⟨(some 28), none, .call (.c (.fn K.scan_letter [] [])) [(.t 27)]⟩, ⟨(some 26), none, .mv (.t 28)⟩])
  (.keep [0, 5, 26] (.cond (.t 26) (.exit 4) .skip)))
  (.keep [0, 5] (.seq (.seq (.reg [⟨(some 30), none, .mv (.t 5)⟩, ⟨(some 31), none, .bin .eql (.t 30) (.c (.int .u8 (39)))⟩, ⟨(some 29), none, .mv (.t 31)⟩])
  (.keep [0, 5, 29] (.cond (.t 29) (.exit 5) .skip)))
  (.keep [0, 5] (.seq (.reg [⟨(some 33), none, .mv (.t 5)⟩, ⟨(some 34), none, .call (.c (.fn K.strings_IndexByte [] [])) [(.c (.str [58, 59, 124, 40, 41, 42, 43, 63])), (.t 33)]⟩, ⟨(some 35), none, .bin .geq (.t 34) (.c (.int .i64 (0)))⟩, ⟨(some 32), none, .mv (.t 35)⟩])
  (.keep [0, 32] (.cond (.t 32) (.exit 6) .skip))))))))))))) (.exit 0)))
  (.keep [0] (.seq (.seq (.reg [⟨(some 37), none, .mv (.t 0)⟩, ⟨(some 38), none, .call (.c (.fn K.strings_Cut [] [])) [(.t 37), (.c (.str [10]))]⟩, ⟨(some 36), none, .mv (.t 38)⟩, ⟨(some 39), none, .ext (.t 36) 0⟩, ⟨(some 40), none, .ext (.t 36) 1⟩, ⟨(some 41), none, .ext (.t 36) 2⟩, ⟨(some 6), none, .mv (.t 39)⟩, ⟨(some 7), none, .mv (.t 40)⟩, ⟨(some 8), none, .mv (.t 41)⟩])
  (.keep [6] (.seq (.reg [⟨(some 42), none, .mv (.t 6)⟩, ⟨(some 43), none, .len true (.t 42)⟩, ⟨(some 2), none, .mv (.c (.int .i64 (0)))⟩, ⟨(some 3), none, .mv (.c (.str []))⟩, ⟨(some 4), none, .mv (.t 43)⟩]) .ret))) (.exit 0))))))
  (.keep [] (.seq (.seq (.reg [⟨(some 2), none, .mv (.c (.int .i64 (0)))⟩, ⟨(some 3), none, .mv (.c (.str []))⟩, ⟨(some 4), none, .mv (.c (.int .i64 (1)))⟩]) .ret) (.exit 0)))))
  (.keep [0] (.seq (.seq (.reg [⟨(some 44), none, .mv (.t 0)⟩, ⟨(some 45), none, .call (.c (.fn K.scan_run [] [])) [(.t 44), (.c (.fn K.scan_part [] []))]⟩, ⟨(some 9), none, .mv (.t 45)⟩])
  (.keep [0, 9] (.seq (.draw [(.pl, ⟨(some 46), none, .mv (.t 0)⟩), (.pl, ⟨(some 47), none, .mv (.t 9)⟩), (.pl, ⟨(some 48), none, .slcs (.t 46) none (some (.t 47))⟩), (.pl, ⟨(some 49), none, .mv (.t 9)⟩), (.pl, ⟨(some 2), none, .mv (.c (.int .i64 (1)))⟩), (.pl, ⟨(some 3), none, .mv (.t 48)⟩), (.pl, ⟨(some 4), none, .mv (.t 49)⟩)]) .ret))) (.exit 0)))))
  (.keep [0] (.seq (.seq (.reg [⟨(some 50), none, .mv (.t 0)⟩, ⟨(some 51), none, .slcs (.t 50) (some (.c (.int .i64 (1)))) none⟩, ⟨(some 52), none, .call (.c (.fn K.scan_run [] [])) [(.t 51), (.c (.fn K.scan_quoted [] []))]⟩, ⟨(some 10), none, .mv (.t 52)⟩])
  (.keep [0, 10] (.seq (.seq (.reg [⟨(some 53), none, .mv (.t 10)⟩, ⟨(some 54), none, .bin .eql (.t 53) (.c (.int .i64 (0)))⟩, ⟨(some 55), none, .mv (.t 54)⟩, ⟨(some 56), (some (55, false)), .mv (.t 10)⟩, ⟨(some 57), (some (55, false)), .bin .add (.t 56) (.c (.int .i64 (1)))⟩, ⟨(some 58), (some (55, false)), .mv (.t 0)⟩, ⟨(some 59), (some (55, false)), .len true (.t 58)⟩, ⟨(some 60), (some (55, false)), .bin .eql (.t 57) (.t 59)⟩, ⟨(some 61), none, .pick (.t 55) (.c (.bool true)) (.t 60)⟩, ⟨(some 62), none, .mv (.t 61)⟩, ⟨(some 63), (some (62, false)), .mv (.t 0)⟩, ⟨(some 64), (some (62, false)), .mv (.t 10)⟩, ⟨(some 65), (some (62, false)), .bin .add (.t 64) (.c (.int .i64 (1)))⟩, ⟨(some 66), (some (62, false)), .ixs (.t 63) (.t 65)⟩, ⟨(some 67), (some (62, false)), .bin .neq (.t 66) (.c (.int .u8 (39)))⟩, ⟨(some 68), none, .pick (.t 62) (.c (.bool true)) (.t 67)⟩])
  (.keep [0, 10, 68] (.cond (.t 68) (.seq (.reg [⟨(some 2), none, .mv (.c (.int .i64 (0)))⟩, ⟨(some 3), none, .mv (.c (.str []))⟩, ⟨(some 4), none, .mv (.c (.int .i64 (0)))⟩]) .ret) .skip)))
  (.keep [0, 10] (.seq (.draw [(.pl, ⟨(some 69), none, .mv (.t 0)⟩), (.pl, ⟨(some 70), none, .mv (.t 10)⟩), (.pl, ⟨(some 71), none, .bin .add (.t 70) (.c (.int .i64 (1)))⟩), (.pl, ⟨(some 72), none, .slcs (.t 69) (some (.c (.int .i64 (1)))) (some (.t 71))⟩), (.pl, ⟨(some 73), none, .mv (.t 10)⟩), (.pl, ⟨(some 74), none, .bin .add (.t 73) (.c (.int .i64 (2)))⟩), (.pl, ⟨(some 2), none, .mv (.c (.int .i64 (2)))⟩), (.pl, ⟨(some 3), none, .mv (.t 72)⟩), (.pl, ⟨(some 4), none, .mv (.t 74)⟩)]) .ret))))) (.exit 0)))))
  (.keep [0] (.seq (.seq (.draw [(.pl, ⟨(some 75), none, .mv (.t 0)⟩), (.pl, ⟨(some 76), none, .slcs (.t 75) none (some (.c (.int .i64 (1))))⟩), (.pl, ⟨(some 2), none, .mv (.c (.int .i64 (3)))⟩), (.pl, ⟨(some 3), none, .mv (.t 76)⟩), (.pl, ⟨(some 4), none, .mv (.c (.int .i64 (1)))⟩)]) .ret) (.exit 0)))))))
  (.keep [] (.seq (.reg [⟨(some 2), none, .mv (.c (.int .i64 (0)))⟩, ⟨(some 3), none, .mv (.c (.str []))⟩, ⟨(some 4), none, .mv (.c (.int .i64 (0)))⟩]) .ret)))))⟩
def A.scan_letter : AFn := ⟨17, [(2, none)], (.seq (.reg [⟨(some 2), none, .mv (.c (.bool false))⟩])
  (.keep [0] (.seq (.reg [⟨(some 3), none, .mv (.t 0)⟩, ⟨(some 4), none, .bin .geq (.t 3) (.c (.int .u8 (97)))⟩, ⟨(some 5), none, .mv (.t 4)⟩, ⟨(some 6), (some (5, true)), .mv (.t 0)⟩, ⟨(some 7), (some (5, true)), .bin .leq (.t 6) (.c (.int .u8 (122)))⟩, ⟨(some 8), none, .pick (.t 5) (.t 7) (.c (.bool false))⟩, ⟨(some 9), none, .mv (.t 8)⟩, ⟨(some 10), (some (9, false)), .mv (.t 0)⟩, ⟨(some 11), (some (9, false)), .bin .geq (.t 10) (.c (.int .u8 (65)))⟩, ⟨(some 12), (some (9, false)), .mv (.t 11)⟩, ⟨(some 13), (some (12, true)), .mv (.t 0)⟩, ⟨(some 14), (some (12, true)), .bin .leq (.t 13) (.c (.int .u8 (90)))⟩, ⟨(some 15), (some (9, false)), .pick (.t 12) (.t 14) (.c (.bool false))⟩, ⟨(some 16), none, .pick (.t 9) (.c (.bool true)) (.t 15)⟩, ⟨(some 2), none, .mv (.t 16)⟩]) .ret)))⟩
def A.scan_run.L0 : AC := .post (.seq (.seq (.reg [⟨(some 6), none, .mv (.t 5)⟩, ⟨(some 7), none, .mv (.t 0)⟩, ⟨(some 8), none, .len true (.t 7)⟩, ⟨(some 9), none, .bin .lss (.t 6) (.t 8)⟩, ⟨(some 10), none, .mv (.t 9)⟩, ⟨(some 11), (some (10, true)), .mv (.t 1)⟩, ⟨(some 12), (some (10, true)), .mv (.t 0)⟩, ⟨(some 13), (some (10, true)), .mv (.t 5)⟩, ⟨(some 14), (some (10, true)), .ixs (.t 12) (.t 13)⟩, ⟨(some 15), (some (10, true)), .call (.t 11) [(.t 14)]⟩, ⟨(some 16), none, .pick (.t 10) (.t 15) (.c (.bool false))⟩])
  (.keep [0, 1, 5, 16] (.cond (.t 16) .skip (.exit 0))))
  (.keep [0, 1, 5] (.block 1 (.reg [⟨(some 17), none, .mv (.t 5)⟩, ⟨(some 18), none, .bin .add (.t 17) (.c (.int .i64 (1)))⟩, ⟨(some 5), none, .mv (.t 18)⟩])))) [0, 1, 5]
def A.scan_run : AFn := ⟨20, [(4, none)], (.seq (.reg [⟨(some 4), none, .mv (.c (.int .i64 (0)))⟩])
  (.keep [0, 1] (.seq (.reg [⟨(some 5), none, .mv (.c (.int .i64 (0)))⟩])
  (.keep [0, 1, 5] (.seq (.block 0 (.loop A.scan_run.L0))
  (.keep [5] (.seq (.reg [⟨(some 19), none, .mv (.t 5)⟩, ⟨(some 4), none, .mv (.t 19)⟩]) .ret)))))))⟩
def A.scan_part : AFn := ⟨17, [(2, none)], (.seq (.reg [⟨(some 2), none, .mv (.c (.bool false))⟩])
  (.keep [0] (.seq (.reg [⟨(some 3), none, .mv (.t 0)⟩, ⟨(some 4), none, .call (.c (.fn K.scan_letter [] [])) [(.t 3)]⟩, ⟨(some 5), none, .mv (.t 4)⟩, ⟨(some 6), (some (5, false)), .mv (.t 0)⟩, ⟨(some 7), (some (5, false)), .bin .geq (.t 6) (.c (.int .u8 (48)))⟩, ⟨(some 8), (some (5, false)), .mv (.t 7)⟩, ⟨(some 9), (some (8, true)), .mv (.t 0)⟩, ⟨(some 10), (some (8, true)), .bin .leq (.t 9) (.c (.int .u8 (57)))⟩, ⟨(some 11), (some (5, false)), .pick (.t 8) (.t 10) (.c (.bool false))⟩, ⟨(some 12), none, .pick (.t 5) (.c (.bool true)) (.t 11)⟩, ⟨(some 13), none, .mv (.t 12)⟩, ⟨(some 14), (some (13, false)), .mv (.t 0)⟩, ⟨(some 15), (some (13, false)), .bin .eql (.t 14) (.c (.int .u8 (95)))⟩, ⟨(some 16), none, .pick (.t 13) (.c (.bool true)) (.t 15)⟩, ⟨(some 2), none, .mv (.t 16)⟩]) .ret)))⟩
def A.scan_quoted : AFn := ⟨13, [(2, none)], (.seq (.reg [⟨(some 2), none, .mv (.c (.bool false))⟩])
  (.keep [0] (.seq (.reg [⟨(some 3), none, .mv (.t 0)⟩, ⟨(some 4), none, .bin .geq (.t 3) (.c (.int .u8 (32)))⟩, ⟨(some 5), none, .mv (.t 4)⟩, ⟨(some 6), (some (5, true)), .mv (.t 0)⟩, ⟨(some 7), (some (5, true)), .bin .leq (.t 6) (.c (.int .u8 (126)))⟩, ⟨(some 8), none, .pick (.t 5) (.t 7) (.c (.bool false))⟩, ⟨(some 9), none, .mv (.t 8)⟩, ⟨(some 10), (some (9, true)), .mv (.t 0)⟩, ⟨(some 11), (some (9, true)), .bin .neq (.t 10) (.c (.int .u8 (39)))⟩, ⟨(some 12), none, .pick (.t 9) (.t 11) (.c (.bool false))⟩, ⟨(some 2), none, .mv (.t 12)⟩]) .ret)))⟩
end Go.Proofs.Ytdbbgkdepjidjaa.Al
namespace Go.Proofs.Ytdbbgkdepjidjaa.Al
def A.probateref05_Scan.L1 : AC := .post (.seq (.seq (.reg [⟨(some 42), none, .mv (.t 6)⟩, ⟨(some 43), none, .mv (.t 0)⟩, ⟨(some 44), none, .len true (.t 43)⟩, ⟨(some 45), none, .bin .lss (.t 42) (.t 44)⟩, ⟨(some 46), none, .mv (.t 45)⟩, ⟨(some 47), (some (46, true)), .mv (.t 0)⟩, ⟨(some 48), (some (46, true)), .mv (.t 6)⟩, ⟨(some 49), (some (46, true)), .ixs (.t 47) (.t 48)⟩, ⟨(some 50), (some (46, true)), .bin .neq (.t 49) (.c (.int .u8 (10)))⟩, ⟨(some 51), none, .pick (.t 46) (.t 50) (.c (.bool false))⟩])
  (.keep [0, 5, 6, 51] (.cond (.t 51) .skip (.exit 3))))
  (.keep [0, 5, 6] (.block 4 (.reg [⟨(some 52), none, .mv (.t 6)⟩, ⟨(some 53), none, .bin .add (.t 52) (.c (.int .i64 (1)))⟩, ⟨(some 6), none, .mv (.t 53)⟩])))) [0, 5, 6]
def A.probateref05_Scan.L2 : AC := .post (.seq (.seq (.reg [⟨(some 57), none, .mv (.t 6)⟩, ⟨(some 58), none, .mv (.t 0)⟩, ⟨(some 59), none, .len true (.t 58)⟩, ⟨(some 60), none, .bin .lss (.t 57) (.t 59)⟩, ⟨(some 61), none, .mv (.t 60)⟩, ⟨(some 62), (some (61, true)), .mv (.t 0)⟩, ⟨(some 63), (some (61, true)), .mv (.t 6)⟩, ⟨(some 64), (some (61, true)), .ixs (.t 62) (.t 63)⟩, ⟨(some 65), (some (61, true)), .call (.c (.fn K.probateref05_part [] [])) [(.t 64)]⟩, ⟨(some 66), none, .pick (.t 61) (.t 65) (.c (.bool false))⟩])
  (.keep [0, 5, 6, 8, 66] (.cond (.t 66) .skip (.exit 5))))
  (.keep [0, 5, 6, 8] (.block 6 (.reg [⟨(some 67), none, .mv (.t 6)⟩, ⟨(some 68), none, .bin .add (.t 67) (.c (.int .i64 (1)))⟩, ⟨(some 6), none, .mv (.t 68)⟩])))) [0, 5, 6, 8]
def A.probateref05_Scan.L3 : AC := .post (.seq (.seq (.reg [⟨(some 83), none, .mv (.t 6)⟩, ⟨(some 84), none, .mv (.t 0)⟩, ⟨(some 85), none, .len true (.t 84)⟩, ⟨(some 86), none, .bin .lss (.t 83) (.t 85)⟩, ⟨(some 87), none, .mv (.t 86)⟩, ⟨(some 88), (some (87, true)), .mv (.t 0)⟩, ⟨(some 89), (some (87, true)), .mv (.t 6)⟩, ⟨(some 90), (some (87, true)), .ixs (.t 88) (.t 89)⟩, ⟨(some 91), (some (87, true)), .bin .geq (.t 90) (.c (.int .u8 (32)))⟩, ⟨(some 92), none, .pick (.t 87) (.t 91) (.c (.bool false))⟩, ⟨(some 93), none, .mv (.t 92)⟩, ⟨(some 94), (some (93, true)), .mv (.t 0)⟩, ⟨(some 95), (some (93, true)), .mv (.t 6)⟩, ⟨(some 96), (some (93, true)), .ixs (.t 94) (.t 95)⟩, ⟨(some 97), (some (93, true)), .bin .leq (.t 96) (.c (.int .u8 (126)))⟩, ⟨(some 98), none, .pick (.t 93) (.t 97) (.c (.bool false))⟩, ⟨(some 99), none, .mv (.t 98)⟩, ⟨(some 100), (some (99, true)), .mv (.t 0)⟩, ⟨(some 101), (some (99, true)), .mv (.t 6)⟩, ⟨(some 102), (some (99, true)), .ixs (.t 100) (.t 101)⟩, ⟨(some 103), (some (99, true)), .bin .neq (.t 102) (.c (.int .u8 (39)))⟩, ⟨(some 104), none, .pick (.t 99) (.t 103) (.c (.bool false))⟩])
  (.keep [0, 5, 6, 8, 104] (.cond (.t 104) .skip (.exit 7))))
  (.keep [0, 5, 6, 8] (.block 8 (.reg [⟨(some 105), none, .mv (.t 6)⟩, ⟨(some 106), none, .bin .add (.t 105) (.c (.int .i64 (1)))⟩, ⟨(some 6), none, .mv (.t 106)⟩])))) [0, 5, 6, 8]
def A.probateref05_Scan.L0 : AC := .post (.seq (.seq (.reg [⟨(some 13), none, .mv (.t 6)⟩, ⟨(some 14), none, .mv (.t 0)⟩, ⟨(some 15), none, .len true (.t 14)⟩, ⟨(some 16), none, .bin .lss (.t 13) (.t 15)⟩])
  (.keep [0, 5, 6, 16] (.cond (.t 16) .skip (.exit 0))))
  (.keep [0, 5, 6] (.block 1 (.seq (.reg [⟨(some 17), none, .mv (.t 0)⟩, ⟨(some 18), none, .mv (.t 6)⟩, ⟨(some 19), none, .ixs (.t 17) (.t 18)⟩, ⟨(some 7), none, .mv (.t 19)⟩])
  (.keep [0, 5, 6, 7] (.seq (.reg [⟨(some 20), none, .mv (.t 6)⟩, ⟨(some 8), none, .mv (.t 20)⟩])
  (.keep [0, 5, 6, 7, 8] (.block 2 (.seq (.reg [⟨(some 23), none, .mv (.t 7)⟩, ⟨(some 24), none, .bin .eql (.t 23) (.c (.int .u8 (32)))⟩, ⟨(some 25), none, .mv (.t 24)⟩, ⟨(some 26), (some (25, false)), .mv (.t 7)⟩, ⟨(some 27), (some (25, false)), .bin .eql (.t 26) (.c (.int .u8 (9)))⟩, ⟨(some 28), none, .pick (.t 25) (.c (.bool true)) (.t 27)⟩, ⟨(some 29), none, .mv (.t 28)⟩, ⟨(some 30), (some (29, false)), .mv (.t 7)⟩, ⟨(some 31), (some (29, false)), .bin .eql (.t 30) (.c (.int .u8 (10)))⟩, ⟨(some 32), none, .pick (.t 29) (.c (.bool true)) (.t 31)⟩, ⟨(some 33), none, .mv (.t 32)⟩, ⟨(some 34), (some (33, false)), .mv (.t 7)⟩, ⟨(some 35), (some (33, false)), .bin .eql (.t 34) (.c (.int .u8 (13)))⟩, ⟨(some 36), none, .pick (.t 33) (.c (.bool true)) (.t 35)⟩, ⟨(some 22), none, .mv (.t 36)⟩])
  (.keep [0, 5, 6, 7, 8, 22] (.cond (.t 22) (.reg [⟨(some 37), none, .mv (.t 6)⟩, ⟨(some 38), none, .bin .add (.t 37) (.c (.int .i64 (1)))⟩, ⟨(some 6), none, .mv (.t 38)⟩]) (.seq (.reg [⟨(some 40), none, .mv (.t 7)⟩, ⟨(some 41), none, .bin .eql (.t 40) (.c (.int .u8 (35)))⟩, ⟨(some 39), none, .mv (.t 41)⟩])
  (.keep [0, 5, 6, 7, 8, 39] (.cond (.t 39) (.keep [0, 5, 6] (.block 3 (.loop A.probateref05_Scan.L1))) (.seq (.reg [⟨(some 55), none, .mv (.t 7)⟩, ⟨(some 56), none, .call (.c (.fn K.probateref05_letter [] [])) [(.t 55)]⟩, ⟨(some 54), none, .mv (.t 56)⟩])
  (.keep [0, 5, 6, 7, 8, 54] (.cond (.t 54) (.keep [0, 5, 6, 8] (.seq (.block 5 (.loop A.probateref05_Scan.L2))
  (.keep [0, 5, 6, 8] (.reg [⟨(some 69), none, .mv (.t 5)⟩, ⟨(some 70), none, .mv (.t 0)⟩, ⟨(some 71), none, .mv (.t 8)⟩, ⟨(some 72), none, .mv (.t 6)⟩, ⟨(some 73), none, .slcs (.t 70) (some (.t 71)) (some (.t 72))⟩, ⟨(some 74), none, .mv (.t 8)⟩, ⟨(some 75), none, .bld [(.int .i64 (0)), (.str []), (.int .i64 (0))] [(0, 1, (.c (.int .i64 (1)))), (1, 1, (.t 73)), (2, 1, (.t 74))]⟩, ⟨(some 76), none, .bsl 3 true [(.int .i64 (0)), (.str []), (.int .i64 (0))] 1 [(0, (.t 75))]⟩, ⟨(some 77), none, .app 3 32 (.t 69) (.t 76)⟩, ⟨(some 5), none, .mv (.t 77)⟩])))) (.seq (.reg [⟨(some 79), none, .mv (.t 7)⟩, ⟨(some 80), none, .bin .eql (.t 79) (.c (.int .u8 (39)))⟩, ⟨(some 78), none, .mv (.t 80)⟩])
  (.keep [0, 5, 6, 7, 8, 78] (.cond (.t 78) (.seq (.reg [⟨(some 81), none, .mv (.t 6)⟩, ⟨(some 82), none, .bin .add (.t 81) (.c (.int .i64 (1)))⟩, ⟨(some 6), none, .mv (.t 82)⟩])
  (.keep [0, 5, 6, 8] (.seq (.block 7 (.loop A.probateref05_Scan.L3))
  (.keep [0, 5, 6, 8] (.seq (.seq (.reg [⟨(some 107), none, .mv (.t 6)⟩, ⟨(some 108), none, .mv (.t 8)⟩, ⟨(some 109), none, .bin .add (.t 108) (.c (.int .i64 (1)))⟩, ⟨(some 110), none, .bin .eql (.t 107) (.t 109)⟩, ⟨(some 111), none, .mv (.t 110)⟩, ⟨(some 112), (some (111, false)), .mv (.t 6)⟩, ⟨(some 113), (some (111, false)), .mv (.t 0)⟩, ⟨(some 114), (some (111, false)), .len true (.t 113)⟩, ⟨(some 115), (some (111, false)), .bin .eql (.t 112) (.t 114)⟩, ⟨(some 116), none, .pick (.t 111) (.c (.bool true)) (.t 115)⟩, ⟨(some 117), none, .mv (.t 116)⟩, ⟨(some 118), (some (117, false)), .mv (.t 0)⟩, ⟨(some 119), (some (117, false)), .mv (.t 6)⟩, ⟨(some 120), (some (117, false)), .ixs (.t 118) (.t 119)⟩, ⟨(some 121), (some (117, false)), .bin .neq (.t 120) (.c (.int .u8 (39)))⟩, ⟨(some 122), none, .pick (.t 117) (.c (.bool true)) (.t 121)⟩])
  (.keep [0, 5, 6, 8, 122] (.cond (.t 122) (.seq (.reg [⟨(some 123), none, .mv (.t 8)⟩, ⟨(some 2), none, .mv (.c (.sl 0 1 []))⟩, ⟨(some 3), none, .mv (.t 123)⟩, ⟨(some 4), none, .mv (.c (.int .i64 (2)))⟩]) .ret) .skip)))
  (.keep [0, 5, 6, 8] (.seq (.reg [⟨(some 124), none, .mv (.t 6)⟩, ⟨(some 125), none, .bin .add (.t 124) (.c (.int .i64 (1)))⟩, ⟨(some 6), none, .mv (.t 125)⟩])
  (.keep [0, 5, 6, 8] (.reg [⟨(some 126), none, .mv (.t 5)⟩, ⟨(some 127), none, .mv (.t 0)⟩, ⟨(some 128), none, .mv (.t 8)⟩, ⟨(some 129), none, .bin .add (.t 128) (.c (.int .i64 (1)))⟩, ⟨(some 130), none, .mv (.t 6)⟩, ⟨(some 131), none, .bin .sub (.t 130) (.c (.int .i64 (1)))⟩, ⟨(some 132), none, .slcs (.t 127) (some (.t 129)) (some (.t 131))⟩, ⟨(some 133), none, .mv (.t 8)⟩, ⟨(some 134), none, .bld [(.int .i64 (0)), (.str []), (.int .i64 (0))] [(0, 1, (.c (.int .i64 (2)))), (1, 1, (.t 132)), (2, 1, (.t 133))]⟩, ⟨(some 135), none, .bsl 3 true [(.int .i64 (0)), (.str []), (.int .i64 (0))] 1 [(0, (.t 134))]⟩, ⟨(some 136), none, .app 3 32 (.t 126) (.t 135)⟩, ⟨(some 5), none, .mv (.t 136)⟩]))))))))) (.seq (.reg [⟨(some 138), none, .mv (.t 7)⟩, ⟨(some 139), none, .bin .eql (.t 138) (.c (.int .u8 (58)))⟩, ⟨(some 140), none, .mv (.t 139)⟩, ⟨(some 141), (some (140, false)), .mv (.t 7)⟩, ⟨(some 142), (some (140, false)), .bin .eql (.t 141) (.c (.int .u8 (59)))⟩, ⟨(some 143), none, .pick (.t 140) (.c (.bool true)) (.t 142)⟩, ⟨(some 144), none, .mv (.t 143)⟩, ⟨(some 145), (some (144, false)), .mv (.t 7)⟩, ⟨(some 146), (some (144, false)), .bin .eql (.t 145) (.c (.int .u8 (124)))⟩, ⟨(some 147), none, .pick (.t 144) (.c (.bool true)) (.t 146)⟩, ⟨(some 148), none, .mv (.t 147)⟩, ⟨(some 149), (some (148, false)), .mv (.t 7)⟩, ⟨(some 150), (some (148, false)), .bin .eql (.t 149) (.c (.int .u8 (40)))⟩, ⟨(some 151), none, .pick (.t 148) (.c (.bool true)) (.t 150)⟩, ⟨(some 152), none, .mv (.t 151)⟩, ⟨(some 153), (some (152, false)), .mv (.t 7)⟩, ⟨(some 154), (some (152, false)), .bin .eql (.t 153) (.c (.int .u8 (41)))⟩, ⟨(some 155), none, .pick (.t 152) (.c (.bool true)) (.t 154)⟩, ⟨(some 156), none, .mv (.t 155)⟩, ⟨(some 157), (some (156, false)), .mv (.t 7)⟩, ⟨(some 158), (some (156, false)), .bin .eql (.t 157) (.c (.int .u8 (42)))⟩, ⟨(some 159), none, .pick (.t 156) (.c (.bool true)) (.t 158)⟩, ⟨(some 160), none, .mv (.t 159)⟩, ⟨(some 161), (some (160, false)), .mv (.t 7)⟩, ⟨(some 162), (some (160, false)), .bin .eql (.t 161) (.c (.int .u8 (43)))⟩, ⟨(some 163), none, .pick (.t 160) (.c (.bool true)) (.t 162)⟩, ⟨(some 164), none, .mv (.t 163)⟩, ⟨(some 165), (some (164, false)), .mv (.t 7)⟩, ⟨(some 166), (some (164, false)), .bin .eql (.t 165) (.c (.int .u8 (63)))⟩, ⟨(some 167), none, .pick (.t 164) (.c (.bool true)) (.t 166)⟩, ⟨(some 137), none, .mv (.t 167)⟩])
  (.keep [0, 5, 6, 8, 137] (.cond (.t 137) (.seq (.reg [⟨(some 168), none, .mv (.t 6)⟩, ⟨(some 169), none, .bin .add (.t 168) (.c (.int .i64 (1)))⟩, ⟨(some 6), none, .mv (.t 169)⟩])
  (.keep [0, 5, 6, 8] (.reg [⟨(some 170), none, .mv (.t 5)⟩, ⟨(some 171), none, .mv (.t 0)⟩, ⟨(some 172), none, .mv (.t 8)⟩, ⟨(some 173), none, .mv (.t 6)⟩, ⟨(some 174), none, .slcs (.t 171) (some (.t 172)) (some (.t 173))⟩, ⟨(some 175), none, .mv (.t 8)⟩, ⟨(some 176), none, .bld [(.int .i64 (0)), (.str []), (.int .i64 (0))] [(0, 1, (.c (.int .i64 (3)))), (1, 1, (.t 174)), (2, 1, (.t 175))]⟩, ⟨(some 177), none, .bsl 3 true [(.int .i64 (0)), (.str []), (.int .i64 (0))] 1 [(0, (.t 176))]⟩, ⟨(some 178), none, .app 3 32 (.t 170) (.t 177)⟩, ⟨(some 5), none, .mv (.t 178)⟩]))) (.seq (.reg [⟨(some 21), none, .mv (.t 8)⟩, ⟨(some 2), none, .mv (.c (.sl 0 1 []))⟩, ⟨(some 3), none, .mv (.t 21)⟩, ⟨(some 4), none, .mv (.c (.int .i64 (2)))⟩]) .ret)))))))))))))))))))))))) [0, 5, 6]
def A.probateref05_Scan : AFn := ⟨180, [(2, none), (3, none), (4, none)], (.seq (.reg [⟨(some 2), none, .mv (.c (.sl 0 1 []))⟩, ⟨(some 3), none, .mv (.c (.int .i64 (0)))⟩, ⟨(some 4), none, .mv (.c (.int .i64 (0)))⟩])
  (.keep [0] (.seq (.seq (.reg [⟨(some 9), none, .mv (.t 0)⟩, ⟨(some 10), none, .len true (.t 9)⟩, ⟨(some 11), none, .bin .gtr (.t 10) (.c (.int .i64 (4000)))⟩])
  (.keep [0, 11] (.cond (.t 11) (.seq (.reg [⟨(some 2), none, .mv (.c (.sl 0 1 []))⟩, ⟨(some 3), none, .mv (.c (.int .i64 (0)))⟩, ⟨(some 4), none, .mv (.c (.int .i64 (5)))⟩]) .ret) .skip)))
  (.keep [0] (.seq (.reg [⟨(some 12), none, .bsl 3 true [(.int .i64 (0)), (.str []), (.int .i64 (0))] 0 []⟩, ⟨(some 5), none, .mv (.t 12)⟩])
  (.keep [0, 5] (.seq (.reg [⟨(some 6), none, .mv (.c (.int .i64 (0)))⟩])
  (.keep [0, 5, 6] (.seq (.block 0 (.loop A.probateref05_Scan.L0))
  (.keep [5] (.seq (.reg [⟨(some 179), none, .mv (.t 5)⟩, ⟨(some 2), none, .mv (.t 179)⟩, ⟨(some 3), none, .mv (.c (.int .i64 (0)))⟩, ⟨(some 4), none, .mv (.c (.int .i64 (0)))⟩]) .ret)))))))))))⟩
def A.probateref05_letter : AFn := ⟨17, [(2, none)], (.seq (.reg [⟨(some 2), none, .mv (.c (.bool false))⟩])
  (.keep [0] (.seq (.reg [⟨(some 3), none, .mv (.t 0)⟩, ⟨(some 4), none, .bin .geq (.t 3) (.c (.int .u8 (65)))⟩, ⟨(some 5), none, .mv (.t 4)⟩, ⟨(some 6), (some (5, true)), .mv (.t 0)⟩, ⟨(some 7), (some (5, true)), .bin .leq (.t 6) (.c (.int .u8 (90)))⟩, ⟨(some 8), none, .pick (.t 5) (.t 7) (.c (.bool false))⟩, ⟨(some 9), none, .mv (.t 8)⟩, ⟨(some 10), (some (9, false)), .mv (.t 0)⟩, ⟨(some 11), (some (9, false)), .bin .geq (.t 10) (.c (.int .u8 (97)))⟩, ⟨(some 12), (some (9, false)), .mv (.t 11)⟩, ⟨(some 13), (some (12, true)), .mv (.t 0)⟩, ⟨(some 14), (some (12, true)), .bin .leq (.t 13) (.c (.int .u8 (122)))⟩, ⟨(some 15), (some (9, false)), .pick (.t 12) (.t 14) (.c (.bool false))⟩, ⟨(some 16), none, .pick (.t 9) (.c (.bool true)) (.t 15)⟩, ⟨(some 2), none, .mv (.t 16)⟩]) .ret)))⟩
def A.probateref05_part : AFn := ⟨17, [(2, none)], (.seq (.reg [⟨(some 2), none, .mv (.c (.bool false))⟩])
  (.keep [0] (.seq (.reg [⟨(some 3), none, .mv (.t 0)⟩, ⟨(some 4), none, .call (.c (.fn K.probateref05_letter [] [])) [(.t 3)]⟩, ⟨(some 5), none, .mv (.t 4)⟩, ⟨(some 6), (some (5, false)), .mv (.t 0)⟩, ⟨(some 7), (some (5, false)), .bin .geq (.t 6) (.c (.int .u8 (48)))⟩, ⟨(some 8), (some (5, false)), .mv (.t 7)⟩, ⟨(some 9), (some (8, true)), .mv (.t 0)⟩, ⟨(some 10), (some (8, true)), .bin .leq (.t 9) (.c (.int .u8 (57)))⟩, ⟨(some 11), (some (5, false)), .pick (.t 8) (.t 10) (.c (.bool false))⟩, ⟨(some 12), none, .pick (.t 5) (.c (.bool true)) (.t 11)⟩, ⟨(some 13), none, .mv (.t 12)⟩, ⟨(some 14), (some (13, false)), .mv (.t 0)⟩, ⟨(some 15), (some (13, false)), .bin .eql (.t 14) (.c (.int .u8 (95)))⟩, ⟨(some 16), none, .pick (.t 13) (.c (.bool true)) (.t 15)⟩, ⟨(some 2), none, .mv (.t 16)⟩]) .ret)))⟩
end Go.Proofs.Ytdbbgkdepjidjaa.Al
namespace Go.Proofs.Ytdbbgkdepjidjaa.Al
open Go Go.RowKit
set_option linter.unusedSimpArgs false
set_option linter.unusedVariables false
attribute [-simp] List.getD_eq_getElem?_getD Int.not_lt Int.not_le
abbrev Str := List UInt8
def bt (c : UInt8) : Int := (c.toNat : Nat)
def letterI (c : Int) : Bool := (decide (97 ≤ c) && decide (c ≤ 122)) || (decide (65 ≤ c) && decide (c ≤ 90))
def partI (c : Int) : Bool := letterI c || (decide (48 ≤ c) && decide (c ≤ 57)) || decide (c = 95)
def quotedI (c : Int) : Bool := decide (32 ≤ c) && decide (c ≤ 126) && decide (c ≠ 39)
def letterB (c : UInt8) : Bool := letterI (bt c)
def partB (c : UInt8) : Bool := partI (bt c)
def quotedB (c : UInt8) : Bool := quotedI (bt c)
def notLf (c : UInt8) : Bool := decide (bt c ≠ 10)
def marksL : Str := [58, 59, 124, 40, 41, 42, 43, 63]
/-- How many bytes ahead are such. -/
def runN (p : UInt8 → Bool) (s : Str) : Nat := (s.takeWhile p).length
theorem runN_le (p : UInt8 → Bool) (s : Str) : runN p s ≤ s.length := (List.takeWhile_prefix p).length_le
theorem runN_true : ∀ {p : UInt8 → Bool} {s : Str} {k : Nat}, k < runN p s → p (s.getD k 0) = true
  | p, [], k, h => by simp [runN] at h
  | p, c :: s, k, h => by
    unfold runN at h
    rw [List.takeWhile_cons] at h
    split at h
    · rename_i hc
      cases k with
      | zero => simpa using hc
      | succ k => simpa using runN_true (p := p) (s := s) (k := k) (by unfold runN; simpa using h)
    · simp at h
theorem runN_false : ∀ {p : UInt8 → Bool} {s : Str}, runN p s < s.length → p (s.getD (runN p s) 0) = false
  | p, [], h => by simp at h
  | p, c :: s, h => by
    have e : runN p (c :: s) = if p c = true then runN p s + 1 else 0 := by unfold runN; rw [List.takeWhile_cons]; split <;> simp
    by_cases hc : p c = true
    · rw [if_pos hc] at e; rw [e] at h ⊢
      simpa using runN_false (p := p) (s := s) (by simpa using h)
    · rw [if_neg hc] at e; rw [e]; simpa using hc
/-- A token: kind, text, place. -/
structure Tok where
  kind : Nat
  text : Str
  at' : Nat
  deriving DecidableEq
def tokC (t : Tok) : List V := [.int .i64 t.kind, .str t.text, .int .i64 t.at']
def tokV (t : Tok) : V := .agg (tokC t)
/-- The first token's kind (0: what stands between tokens), its text, how many bytes it takes. -/
def sfirst (s : Str) : Nat × Str × Nat :=
  let c := bt (s.getD 0 0)
  if c = 35 then (0, [], runN notLf s)
  else if c = 13 ∨ c = 32 ∨ c = 9 ∨ c = 10 then (0, [], 1)
  else if letterI c then (1, s.take (runN partB s), runN partB s)
  else if c = 39 then
    let n := runN quotedB (s.drop 1)
    if n = 0 ∨ n + 1 = s.length ∨ bt (s.getD (n + 1) 0) ≠ 39 then (0, [], 0) else (2, (s.take (n + 1)).drop 1, n + 2)
  else if (s.getD 0 0) ∈ marksL then (3, s.take 1, 1)
  else (0, [], 0)
/-- The tokens of a text from a place on, and where it is none. -/
def scanL : Nat → Str → Nat → List Tok × Option Nat
  | 0, _, _ => ([], none)
  | n + 1, s, k =>
    if s = [] then ([], none)
    else if (sfirst s).2.2 = 0 then ([], some k)
    else ((if (sfirst s).1 = 0 then [] else [⟨(sfirst s).1, (sfirst s).2.1, k⟩]) ++ (scanL n (s.drop (sfirst s).2.2) (k + (sfirst s).2.2)).1, (scanL n (s.drop (sfirst s).2.2) (k + (sfirst s).2.2)).2)
/-- What Scan tells. -/
def scanR (s : Str) : List Tok × Nat × Int :=
  if 4000 < s.length then ([], 0, 5) else match (scanL s.length s 0).2 with
    | some p => ([], p, 2)
    | none => ((scanL s.length s 0).1, 0, 0)
def scanV (s : Str) : V := .tup [.sl 3 0 ((scanR s).1.map tokV), .int .i64 (scanR s).2.1, .int .i64 (scanR s).2.2]
section
variable {X : Cx} {h : AH} {Q : V → AH → Prop}
/-- What layer 5's program calls. -/
structure LS (X : Cx) : Prop where
  letter : Has (Ecx X) K.scan_letter A.scan_letter
  part : Has (Ecx X) K.scan_part A.scan_part
  quoted : Has (Ecx X) K.scan_quoted A.scan_quoted
  run : Has (Ecx X) K.scan_run A.scan_run
  first : Has (Ecx X) K.scan_first A.scan_first
  scan : Has (Ecx X) K.scan_Scan A.scan_Scan
  cut : Has (Ecx X) K.strings_Cut A.strings_Cut
  indexByte : Has (Ecx X) K.strings_IndexByte A.strings_IndexByte
  lcut : Has (Ecx X) K.stringslite_Cut A.stringslite_Cut
  lindexByte : Has (Ecx X) K.stringslite_IndexByte A.stringslite_IndexByte
  lindex : Has (Ecx X) K.stringslite_Index A.stringslite_Index
  ext : ∀ (s : Str) (c : Int) (h : AH) (Q : V → AH → Prop), Q (.int .i64 (idxB s c)) h → Ecx X K.bytealg_IndexByteString [.str s, .int .u8 c] h Q
theorem letter_spec (H : Has (Ecx X) K.scan_letter A.scan_letter) (c : Int) (hQ : Q (.bool (letterI c)) h) : Ecx X K.scan_letter [.int .u8 c] h Q := by
  refine fn_walk H (by simp [A.scan_letter]) fun wf => ?_
  by_cases h1 : 97 ≤ c <;> by_cases h2 : c ≤ 122 <;> by_cases h3 : 65 ≤ c <;> by_cases h4 : c ≤ 90 <;> first | omega | (simp [A.scan_letter, h1, h2, h3, h4]; exact fin (by simp) (by simpa [letterI, h1, h2, h3, h4] using hQ))
theorem part_spec (L : LS X) (c : Int) (hQ : Q (.bool (partI c)) h) : Ecx X K.scan_part [.int .u8 c] h Q := by
  refine fn_walk L.part (by simp [A.scan_part]) fun wf => ?_
  simp [A.scan_part]
  refine ecall (letter_spec L.letter c ?_)
  unfold partI at hQ
  generalize letterI c = b at *
  cases b <;> by_cases h1 : 48 ≤ c <;> by_cases h2 : c ≤ 57 <;> by_cases h3 : c = 95 <;> first | omega | (simp [h1, h2, h3]; exact fin (by simp) (by simpa [h1, h2, h3] using hQ))
theorem quoted_spec (L : LS X) (c : Int) (hQ : Q (.bool (quotedI c)) h) : Ecx X K.scan_quoted [.int .u8 c] h Q := by
  refine fn_walk L.quoted (by simp [A.scan_quoted]) fun wf => ?_
  by_cases h1 : 32 ≤ c <;> by_cases h2 : c ≤ 126 <;> by_cases h3 : c = 39 <;> first | omega | (simp [A.scan_quoted, h1, h2, h3]; exact fin (by simp) (by simpa [quotedI, h1, h2, h3] using hQ))
theorem run_spec (L : LS X) (s : Str) (kf : Nat) (p : UInt8 → Bool) (hp : ∀ (c : UInt8) (h : AH) (Q : V → AH → Prop), Q (.bool (p c)) h → Ecx X kf [.int .u8 (bt c)] h Q) (hl : s.length < 2 ^ 62)
    (hQ : Q (.int .i64 (runN p s)) h) : Ecx X K.scan_run [.str s, .fn kf [] []] h Q := by
  refine fn_walk L.run (by simp [A.scan_run]) fun wf => ?_
  simp [A.scan_run]
  refine loopZ (n := s.length) (fun m env h' => ∃ k, k ≤ runN p s ∧ m = s.length - k ∧ h' = h ∧ env = [(0, .str s), (1, .fn kf [] []), (5, .int .i64 k)]) ?_ ⟨0, by omega, by omega, rfl, rfl⟩
  rintro m env h' ⟨k, hk, rfl, rfl, rfl⟩
  have hle := runN_le p s
  unfold A.scan_run.L0
  by_cases hlt : k < s.length
  · have hlt' : (k : Int) < s.length := by omega
    simp [hlt']
    refine ecall (hp (s.getD k 0) _ _ ?_)
    by_cases hk2 : k < runN p s
    · have := runN_true hk2
      simp [this]
      exact ⟨s.length - (k + 1), by omega, k + 1, by omega, rfl, by rw [wrap_i64 (by omega) (by omega)]; rfl⟩
    · have hk3 : k = runN p s := by omega
      have := runN_false (p := p) (s := s) (by omega)
      rw [← hk3] at this hQ
      simp [this]
      exact fin (by simp) hQ
  · have hlt' : ¬ (k : Int) < s.length := by omega
    have hk3 : k = runN p s := by omega
    rw [← hk3] at hQ
    simp [hlt']
    exact fin (by simp) hQ
end
end Go.Proofs.Ytdbbgkdepjidjaa.Al
namespace Go.Proofs.Ytdbbgkdepjidjaa.Al
open Go Go.RowKit
set_option linter.unusedSimpArgs false
set_option linter.unusedVariables false
attribute [-simp] List.getD_eq_getElem?_getD Int.not_lt Int.not_le List.drop_one
theorem bt_inj {a b : UInt8} : bt a = bt b ↔ a = b := by
  unfold bt
  constructor
  · intro h; exact UInt8.toNat_inj.1 (by omega)
  · intro h; rw [h]
theorem bt_toUInt8 (c : UInt8) : (bt c).toNat.toUInt8 = c := by unfold bt; simp
theorem idxB_mem : ∀ (l : Str) (c : UInt8), 0 ≤ idxB l (bt c) ↔ c ∈ l
  | [], c => by simp [idxB, Go.Lib.indexByte]
  | b :: l, c => by
    have ih := idxB_mem l c
    unfold idxB at ih ⊢
    rw [bt_toUInt8] at ih ⊢
    have hg := Go.Lib.indexByte_ge l c
    unfold Go.Lib.indexByte
    by_cases hb : (b == c) = true
    · have : b = c := by simpa using hb
      subst this
      rw [if_pos hb]; simp
    · have : ¬ c = b := by intro e; apply hb; simp [e]
      rw [if_neg hb]
      simp only [List.mem_cons, this, false_or]
      rw [← ih]
      by_cases h1 : (Go.Lib.indexByte l c == -1) = true
      · rw [if_pos h1]
        have : Go.Lib.indexByte l c = -1 := by simpa using h1
        rw [this]
      · rw [if_neg h1]
        have : ¬ Go.Lib.indexByte l c = -1 := by simpa using h1
        omega
theorem runN_cons (p : UInt8 → Bool) (c : UInt8) (s : Str) : runN p (c :: s) = if p c = true then runN p s + 1 else 0 := by unfold runN; rw [List.takeWhile_cons]; split <;> simp
theorem idxB_lf : ∀ (s : Str), idxB s 10 = if runN notLf s < s.length then (runN notLf s : Int) else -1
  | [] => rfl
  | b :: l => by
    have ih := idxB_lf l
    have hle := runN_le notLf l
    unfold idxB at ih ⊢
    unfold Go.Lib.indexByte
    rw [runN_cons]
    have e10 : (10 : Int).toNat.toUInt8 = 10 := rfl
    rw [e10] at ih ⊢
    by_cases hb : (b == 10) = true
    · have : b = 10 := by simpa using hb
      subst this
      rw [if_pos hb]
      simp [notLf, bt]
    · have hb' : ¬ b = 10 := by simpa using hb
      have : notLf b = true := by
        simp only [notLf, decide_eq_true_eq]
        intro e; apply hb'; rw [← bt_inj, e]; rfl
      rw [if_neg hb, ih, this]
      simp only [if_true, List.length_cons]
      by_cases h1 : runN notLf l < l.length
      · rw [if_pos h1, if_neg (by simp), if_pos (by omega)]; omega
      · simp [h1]
theorem take_runN (p : UInt8 → Bool) (s : Str) : s.take (runN p s) = s.takeWhile p := by
  unfold runN; exact (List.prefix_iff_eq_take.1 (List.takeWhile_prefix p)).symm
section
variable {X : Cx} {h : AH} {Q : V → AH → Prop}
theorem indexByte_spec (L : LS X) (s : Str) (c : Int) (hQ : Q (.int .i64 (idxB s c)) h) : Ecx X K.strings_IndexByte [.str s, .int .u8 c] h Q := by
  refine fn_walk L.indexByte (by simp [A.strings_IndexByte]) fun wf => ?_
  simp [A.strings_IndexByte]
  refine ecall (fn_walk L.lindexByte (by simp [A.stringslite_IndexByte]) fun wf => ?_)
  simp [A.stringslite_IndexByte]
  refine ecall (L.ext s c _ _ ?_)
  simp
  refine fin (by simp) ?_
  simp
  exact fin (by simp) hQ
theorem indexlf_spec (L : LS X) (s : Str) (hQ : Q (.int .i64 (idxB s 10)) h) : Ecx X K.stringslite_Index [.str s, .str [10]] h Q := by
  refine fn_walk L.lindex (by simp [A.stringslite_Index]) fun wf => ?_
  by_cases h1 : s = [10]
  · subst h1
    simp [A.stringslite_Index]
    refine fin (by simp) ?_
    simpa [idxB_lf, runN, notLf, bt] using hQ
  · have h1' : ¬ [10] = s := fun e => h1 e.symm
    simp [A.stringslite_Index, h1']
    refine ecall (fn_walk L.lindexByte (by simp [A.stringslite_IndexByte]) fun wf => ?_)
    simp [A.stringslite_IndexByte]
    refine ecall (L.ext s 10 _ _ ?_)
    simp
    refine fin (by simp) ?_
    simp
    exact fin (by simp) hQ
theorem cutlf_spec (L : LS X) (s : Str) (hl : s.length < 2 ^ 62) (hQ : ∀ a b, Q (.tup [.str (s.take (runN notLf s)), .str a, .bool b]) h) : Ecx X K.strings_Cut [.str s, .str [10]] h Q := by
  refine fn_walk L.cut (by simp [A.strings_Cut]) fun wf => ?_
  simp [A.strings_Cut]
  refine ecall (fn_walk L.lcut (by simp [A.stringslite_Cut]) fun wf => ?_)
  simp [A.stringslite_Cut]
  have hle := runN_le notLf s
  have hb := idxB_lf s
  refine ecall (indexlf_spec L s ?_)
  rw [hb]
  by_cases h1 : runN notLf s < s.length
  · have h2 : (0 : Int) ≤ (runN notLf s : Nat) := by omega
    have h3 : ((runN notLf s : Nat) : Int) ≤ s.length := by omega
    have h4 : IntKind.i64.wrap (((runN notLf s : Nat) : Int) + 1) = ((runN notLf s + 1 : Nat) : Int) := by rw [wrap_i64 (by omega) (by omega)]; rfl
    have h5 : ((runN notLf s + 1 : Nat) : Int) ≤ s.length := by omega
    have h6 : (0 : Int) ≤ ((runN notLf s + 1 : Nat) : Int) := by omega
    rw [if_pos h1]
    simp [h2, h3, h4, h5, h6]
    refine ⟨by omega, by omega, fin (by simp) ?_⟩
    simp
    exact fin (by simp) (hQ _ _)
  · rw [if_neg h1]
    simp
    refine fin (by simp) ?_
    simp
    have : s.take (runN notLf s) = s := List.take_of_length_le (by omega)
    refine fin (by simp) ?_
    have := hQ [] false
    rw [List.take_of_length_le (by omega)] at this
    exact this
def sfirstV (s : Str) : V := .tup [.int .i64 (sfirst s).1, .str (sfirst s).2.1, .int .i64 (sfirst s).2.2]
theorem first_spec' (L : LS X) (s : Str) (c : Int) (n : Nat) (hc : bt (s.getD 0 0) = c) (hn : runN quotedB (s.drop 1) = n) (hne : s ≠ []) (hl : s.length < 2 ^ 62) (hQ : Q (sfirstV s) h) : Ecx X K.scan_first [.str s] h Q := by
  refine fn_walk L.first (by simp [A.scan_first]) fun wf => ?_
  have hpos : 0 < s.length := List.length_pos_iff.2 hne
  have hpos' : (0 : Int) < s.length := by omega
  have hmk := idxB_mem marksL (s.getD 0 0)
  unfold sfirstV sfirst at hQ
  simp only at hQ
  have hc0 : ((s.getD 0 0).toNat : Int) = bt (s.getD 0 0) := rfl
  simp [A.scan_first, hc0]
  rw [hc] at hmk
  simp only [hc] at hQ ⊢
  by_cases h1 : c = 35
  · rw [if_pos h1] at hQ
    simp [h1, hc0, hc, hpos]
    refine ecall (cutlf_spec L s hl fun a b => ?_)
    have := runN_le notLf s
    have e : min (runN notLf s) s.length = runN notLf s := by omega
    simp [e]
    exact fin (by simp) hQ
  rw [if_neg h1] at hQ
  by_cases h2 : c = 13
  · rw [if_pos (.inl h2)] at hQ
    simp [h1, h2, hc0, hc, hpos]
    exact fin (by simp) hQ
  by_cases h3 : c = 32
  · rw [if_pos (.inr (.inl h3))] at hQ
    simp [h1, h2, h3, hc0, hc, hpos]
    exact fin (by simp) hQ
  by_cases h4 : c = 9
  · rw [if_pos (.inr (.inr (.inl h4)))] at hQ
    simp [h1, h2, h3, h4, hc0, hc, hpos]
    exact fin (by simp) hQ
  by_cases h5 : c = 10
  · rw [if_pos (.inr (.inr (.inr h5)))] at hQ
    simp [h1, h2, h3, h4, h5, hc0, hc, hpos]
    exact fin (by simp) hQ
  rw [if_neg (by omega)] at hQ
  simp [h1, h2, h3, h4, h5, hc0, hc, hpos]
  refine ecall (letter_spec L.letter c ?_)
  by_cases h6 : letterI c = true
  · rw [if_pos h6] at hQ
    have hr := runN_le partB s
    have hr0 : (0 : Int) ≤ (runN partB s : Nat) := by omega
    have hr1 : ((runN partB s : Nat) : Int) ≤ s.length := by omega
    simp [h6, hc0, hc]
    refine ecall (run_spec L s K.scan_part partB (fun c h Q hq => part_spec L _ hq) hl ?_)
    simp [hr0, hr1]
    exact fin (by simp) hQ
  rw [if_neg h6] at hQ
  simp [h6, hc0, hc]
  by_cases h7 : c = 39
  · rw [if_pos h7] at hQ
    have hr := runN_le quotedB (s.drop 1)
    have hp1 : (1 : Int) ≤ s.length := by omega
    simp at hr
    simp [h7, hp1]
    refine ecall (run_spec L (s.drop 1) K.scan_quoted quotedB (fun c h Q hq => quoted_spec L _ hq) (by simp; omega) ?_)
    simp
    rw [hn] at hr
    simp only [hn] at hQ
    simp [hn]
    have hw : IntKind.i64.wrap ((n : Int) + 1) = ((n + 1 : Nat) : Int) := by rw [wrap_i64 (by omega) (by omega)]; rfl
    have hw2 : IntKind.i64.wrap ((n : Int) + 2) = ((n + 2 : Nat) : Int) := by rw [wrap_i64 (by omega) (by omega)]; rfl
    by_cases k1 : n = 0
    · rw [if_pos (.inl k1)] at hQ
      subst k1
      simp [hn]
      exact fin (by simp) hQ
    by_cases k2 : n + 1 = s.length
    · rw [if_pos (.inr (.inl k2))] at hQ
      have k2' : ((n + 1 : Nat) : Int) = s.length := by omega
      simp [hn, hw, k1, k2', -Int.natCast_add]
      exact fin (by simp) hQ
    have k2' : ¬ ((n + 1 : Nat) : Int) = s.length := by omega
    have k3 : ((n + 1 : Nat) : Int) < s.length := by omega
    have k4 : (0 : Int) ≤ ((n + 1 : Nat) : Int) := by omega
    have hc1 : ((s.getD (n + 1) 0).toNat : Int) = bt (s.getD (n + 1) 0) := rfl
    by_cases k5 : bt (s.getD (n + 1) 0) = 39
    · rw [if_neg (by omega)] at hQ
      have k6 : ((n + 1 : Nat) : Int) ≤ s.length := by omega
      have k7 : (1 : Int) ≤ ((n + 1 : Nat) : Int) := by omega
      simp [hn, hw, k1, k2', k3, k4, hc1, k5, hw, k6, k7, hw2, -Int.natCast_add]
      exact fin (by simp) hQ
    · rw [if_pos (.inr (.inr k5))] at hQ
      simp [hn, hw, k1, k2', k3, k4, hc1, k5, -Int.natCast_add]
      exact fin (by simp) hQ
  rw [if_neg h7] at hQ
  simp [h7]
  refine ecall (indexByte_spec L marksL c ?_)
  by_cases h8 : (s.getD 0 0) ∈ marksL
  · rw [if_pos h8] at hQ
    have hm := hmk.2 h8
    have hp1 : (1 : Int) ≤ s.length := by omega
    simp [hm, hp1]
    exact fin (by simp) hQ
  · rw [if_neg h8] at hQ
    have hm : ¬ 0 ≤ idxB marksL c := fun e => h8 (hmk.1 e)
    simp [hm]
    exact fin (by simp) hQ
theorem first_spec (L : LS X) (s : Str) (hne : s ≠ []) (hl : s.length < 2 ^ 62) (hQ : Q (sfirstV s) h) : Ecx X K.scan_first [.str s] h Q := first_spec' L s _ _ rfl rfl hne hl hQ
end
end Go.Proofs.Ytdbbgkdepjidjaa.Al
namespace Go.Proofs.Ytdbbgkdepjidjaa.Al
open Go Go.RowKit
set_option linter.unusedSimpArgs false
set_option linter.unusedVariables false
attribute [-simp] List.getD_eq_getElem?_getD Int.not_lt Int.not_le List.drop_one
theorem toks_getD {l : List Tok} {i : Nat} (h : i < l.length) : (l.map tokV).getD i .undef = .agg (tokC l[i]) := by
  simp [List.getD, List.getElem?_eq_getElem h, tokV]
theorem toks_cells (l : List Tok) (n m : Nat) : ∀ v ∈ cellsOf (l.map tokV), Bdd n m v := by
  induction l with
  | nil => simp [cellsOf]
  | cons a as ih =>
    intro v hv
    have hv : v ∈ tokC a ++ cellsOf (as.map tokV) := hv
    rcases List.mem_append.1 hv with hv | hv
    · simp [tokC] at hv; rcases hv with rfl | rfl | rfl <;> simp
    · exact ih v hv
theorem sfirst_le {s : Str} (hne : s ≠ []) : (sfirst s).2.2 ≤ s.length := by
  have hpos : 0 < s.length := List.length_pos_iff.2 hne
  unfold sfirst
  simp only
  have h1 := runN_le notLf s
  have h2 := runN_le partB s
  have h3 := runN_le quotedB (s.drop 1)
  simp at h3
  split
  · exact h1
  · split
    · simp; omega
    · split
      · exact h2
      · split
        · split
          · simp
          · rename_i h; simp; omega
        · split
          · simp; omega
          · simp
theorem scanL_nil (n k : Nat) : scanL n [] k = ([], none) := by cases n <;> simp [scanL]
theorem scanL_step {n : Nat} {s : Str} (k : Nat) (hne : s ≠ []) : scanL (n + 1) s k = if (sfirst s).2.2 = 0 then ([], some k) else
    ((if (sfirst s).1 = 0 then [] else [⟨(sfirst s).1, (sfirst s).2.1, k⟩]) ++ (scanL n (s.drop (sfirst s).2.2) (k + (sfirst s).2.2)).1, (scanL n (s.drop (sfirst s).2.2) (k + (sfirst s).2.2)).2) := by
  show (if s = [] then _ else _) = _
  rw [if_neg hne]
theorem scanL_len : ∀ (n : Nat) (s : Str) (k : Nat), (scanL n s k).1.length ≤ n
  | 0, s, k => by simp [scanL]
  | n + 1, s, k => by
    by_cases hne : s = []
    · subst hne; simp [scanL_nil]
    · rw [scanL_step k hne]
      split
      · simp
      · have := scanL_len n (s.drop (sfirst s).2.2) (k + (sfirst s).2.2)
        simp only [List.length_append]
        split
        · simp; omega
        · simp; omega
section
variable {X : Cx} {h : AH} {Q : V → AH → Prop}
theorem scan_spec (L : LS X) (s : Str) (hl : s.length ≤ 2 ^ 40) (hQ : Q (scanV s) h) : Ecx X K.scan_Scan [.str s] h Q := by
  refine fn_walk L.scan (by simp [A.scan_Scan]) fun wf => ?_
  unfold scanV scanR at hQ
  by_cases hbig : 4000 < s.length
  · have hbig' : (4000 : Int) < s.length := by omega
    rw [if_pos hbig] at hQ
    simp [A.scan_Scan, hbig']
    exact fin_wk (Gr.refl h) (Wk.t3 (.nil _ 3 _) _ _) (by simp) hQ
  have hbig' : ¬ (4000 : Int) < s.length := by omega
  rw [if_neg hbig] at hQ
  simp [A.scan_Scan, hbig']
  have hlen := scanL_len s.length s 0
  generalize hT : scanL s.length s 0 = T at *
  refine loopI (n := s.length) (fun m env h' => ∃ k acc e1 st, k ≤ s.length ∧ s.length ≤ m + k ∧ env = [(0, .str s), (5, .sl e1 st (acc.map tokV)), (6, .int .i64 (k : Nat))] ∧ Own h h' 3 e1 st (acc.map tokV) ∧
    acc ++ (scanL m (s.drop k) k).1 = T.1 ∧ (scanL m (s.drop k) k).2 = T.2) ?_ ⟨0, [], 0, 1, by omega, by simp, rfl, Own.nil h 3, by rw [← hT]; simp, by rw [← hT]; simp⟩
  rintro m env h' ⟨k, acc, e1, st, hk, hm, rfl, ow, hac, hfl⟩
  unfold A.scan_Scan.L0
  by_cases hlt : k < s.length
  · have hlt' : (k : Int) < s.length := by omega
    have hle' : (k : Int) ≤ s.length := by omega
    have hne : s.drop k ≠ [] := by intro e; have := congrArg List.length e; simp at this; omega
    obtain ⟨m, rfl⟩ : ∃ m', m = m' + 1 := ⟨m - 1, by omega⟩
    have hsl := sfirst_le hne
    rw [scanL_step k hne] at hac hfl
    simp at hsl
    simp [hlt', hle']
    refine ecall (first_spec L (s.drop k) hne (by simp; omega) ?_)
    unfold sfirstV
    generalize sfirst (s.drop k) = F at *
    simp
    by_cases h0 : F.2.2 = 0
    · rw [if_pos h0] at hac hfl
      simp at hfl
      rw [← hfl] at hQ
      simp [h0]
      exact fin_wk ow.gr (Wk.t3 (.nil _ 3 _) _ _) (by simp) hQ
    rw [if_neg h0] at hac hfl
    have hw : IntKind.i64.wrap ((k : Int) + (F.2.2 : Nat)) = ((k + F.2.2 : Nat) : Int) := by rw [wrap_i64 (by omega) (by omega)]; omega
    by_cases h1 : F.1 = 0
    · simp [h0, h1, hw]
      rw [if_pos h1] at hac
      simp only [List.drop_drop] at hac hfl
      exact ⟨m, by omega, iv ⟨k + F.2.2, acc, e1, st, by omega, by omega, by simp, ow, hac, hfl⟩⟩
    · have h1' : 0 < F.1 := by omega
      simp [h0, h1', fillV, fillL, V.cells, V.good, V.isAgg, setAt]
      rw [if_neg h1] at hac
      have hacl : acc.length ≤ s.length := by have := congrArg List.length hac; simp at this; omega
      refine ow.appZ (fun _ => rfl) (by simp; omega) fun e2 st2 h2 o2 _ _ => ?_
      have em : acc.map tokV ++ [V.agg [.int .i64 F.1, .str F.2.1, .int .i64 k]] = (acc ++ [(⟨F.1, F.2.1, k⟩ : Tok)]).map tokV := by simp [tokV, tokC]
      rw [em] at o2 ⊢
      simp [hw]
      simp only [List.drop_drop] at hac hfl
      exact ⟨m, by omega, iv ⟨k + F.2.2, acc ++ [(⟨F.1, F.2.1, k⟩ : Tok)], e2, st2, by omega, by omega, by simp, o2, by rw [← hac]; simp, hfl⟩⟩
  · have hlt' : ¬ (k : Int) < s.length := by omega
    have e : s.drop k = [] := List.drop_eq_nil_of_le (by omega)
    rw [e, scanL_nil] at hac hfl
    simp at hac hfl
    rw [← hfl] at hQ
    simp [hlt']
    rw [hac] at ow ⊢
    exact fin_wk ow.gr (Wk.t3 ow.wk _ _) (by simpa using toks_cells _ _ _) hQ
end
end Go.Proofs.Ytdbbgkdepjidjaa.Al
namespace Go.Proofs.Ytdbbgkdepjidjaa.Al
open Go Go.RowKit
set_option linter.unusedSimpArgs false
set_option linter.unusedVariables false
attribute [-simp] List.getD_eq_getElem?_getD Int.not_lt Int.not_le List.drop_one
section
variable {X : Cx} {h : AH} {Q : V → AH → Prop}
structure LSR (X : Cx) : Prop where
  letter : Has (Ecx X) K.probateref05_letter A.probateref05_letter
  part : Has (Ecx X) K.probateref05_part A.probateref05_part
  scan : Has (Ecx X) K.probateref05_Scan A.probateref05_Scan
theorem marks_mem (b : UInt8) : b ∈ marksL ↔ bt b = 58 ∨ bt b = 59 ∨ bt b = 124 ∨ bt b = 40 ∨ bt b = 41 ∨ bt b = 42 ∨ bt b = 43 ∨ bt b = 63 := by
  have e : ∀ c : UInt8, b = c ↔ bt b = bt c := fun c => bt_inj.symm
  simp only [marksL, List.mem_cons, List.not_mem_nil, or_false, e]
  rfl
theorem letterI_ne {c : Int} (h : letterI c = true) : c ≠ 35 ∧ c ≠ 13 ∧ c ≠ 32 ∧ c ≠ 9 ∧ c ≠ 10 := by
  simp [letterI] at h; omega
end
end Go.Proofs.Ytdbbgkdepjidjaa.Al
namespace Go.Proofs.Ytdbbgkdepjidjaa.Al
open Go Go.RowKit
set_option linter.unusedSimpArgs false
set_option linter.unusedVariables false
attribute [-simp] List.getD_eq_getElem?_getD Int.not_lt Int.not_le
theorem push_tips_ne {h : AH} {st e s : Nat} (h1 : s < h.next) (h2 : s ≠ st) : (h.push st e).tips s = h.tips s := by
  have hne : s ≠ h.next := by omega
  unfold AH.push
  split
  · exact updN_ne _ _ hne
  · have e1 : ((h.drop st).grow e).tips s = (h.drop st).tips s := updN_ne _ _ hne
    rw [e1]; exact updN_ne _ _ h2
theorem push_tips_le {h : AH} {st e s : Nat} (h1 : s < h.next) (h2 : st ≤ 2) : (h.push st e).tips s = h.tips s := by
  unfold AH.push
  rw [if_pos h2]
  exact updN_ne _ _ (by omega)
/-- A writer's object: its bytes, to which it may append. -/
structure WO (h : AH) (o : Nat) (l : List Nat) (st : Nat) : Prop where
  ob : ∃ e, h.objs o = [.sl e st (u8s l)] ∧ (u8s l = [] ∨ e = 1)
  st : (st = 1 ∧ l = []) ∨ st = 2 ∨ (h.tips st = some 1 ∧ st < h.next)
/-- From h to h1 a writer has written. -/
structure WE (h h1 : AH) (o st st1 : Nat) : Prop where
  next : h.next ≤ h1.next
  nobj : h.nobj ≤ h1.nobj
  objs : ∀ o', o' < h.nobj → o' ≠ o → h1.objs o' = h.objs o'
  tips : ∀ s, s < h.next → (s ≠ st ∨ s ≤ 2) → h1.tips s = h.tips s
  st : st1 = st ∨ h.next ≤ st1
theorem WE.refl (h : AH) (o st : Nat) : WE h h o st st := ⟨Nat.le_refl _, Nat.le_refl _, fun _ _ _ => rfl, fun _ _ _ => rfl, .inl rfl⟩
theorem WE.trans {h h1 h2 : AH} {o st st1 st2 : Nat} (a : WE h h1 o st st1) (b : WE h1 h2 o st1 st2) : WE h h2 o st st2 where
  next := Nat.le_trans a.next b.next
  nobj := Nat.le_trans a.nobj b.nobj
  objs o' h' hn := (b.objs o' (Nat.lt_of_lt_of_le h' a.nobj) hn).trans (a.objs o' h' hn)
  tips s hs hn := by
    have : s ≠ st1 ∨ s ≤ 2 := by rcases a.st with e | e <;> omega
    exact (b.tips s (Nat.lt_of_lt_of_le hs a.next) this).trans (a.tips s hs hn)
  st := by
    rcases b.st with e | e
    · rw [e]; exact a.st
    · exact .inr (Nat.le_trans a.next e)
theorem WO.new (h : AH) : WO (h.new [.sl 0 1 []]) h.nobj [] 1 := ⟨⟨0, by simp, .inl rfl⟩, .inl ⟨rfl, rfl⟩⟩
/-- A writer of which nothing is written stays. -/
theorem WO.keep {h h1 : AH} {o st : Nat} {l : List Nat} (w : WO h o l st) (ho : h1.objs o = h.objs o) (hn : h.next ≤ h1.next) (ht : h1.tips st = h.tips st) : WO h1 o l st := by
  obtain ⟨e, ob, el⟩ := w.ob
  refine ⟨⟨e, by rw [ho]; exact ob, el⟩, ?_⟩
  rcases w.st with a | a | a
  · exact .inl a
  · exact .inr (.inl a)
  · exact .inr (.inr ⟨by rw [ht]; exact a.1, by omega⟩)
theorem WO.app {h : AH} {o st : Nat} {l : List Nat} (w : WO h o l st) {m : List Nat} (hm : m ≠ []) (hb : l.length + m.length ≤ 2 ^ 46) {e : Nat} (he : h.objs o = [.sl e st (u8s l)]) {K : V → AH → Prop} {zK : Lz K}
    (hk : K (.sl 1 h.next (u8s (l ++ m))) (h.push st 1)) : App h 1 1 e st (u8s l) 1 (u8s m) zK := by
  obtain ⟨e', ob, el⟩ := w.ob
  rw [he] at ob
  obtain rfl : e = e' := by simpa using ob
  refine ⟨fun h0 => absurd h0 (by intro e; apply hm; cases m with | nil => rfl | cons a b => simp [u8s] at e), fun _ => ⟨?_, el, rfl, by simp; omega, by rw [← u8s_append]; exact hk⟩⟩
  rcases w.st with a | a | a
  · exact .inl a.1
  · exact .inr (.inl a)
  · exact .inr (.inr a.1)
theorem WO.push {h : AH} (wf : Wf h) {o st : Nat} {l : List Nat} (w : WO h o l st) (m : List Nat) : WO ((h.push st 1).set o [.sl 1 h.next (u8s m)]) o m h.next ∧ WE h ((h.push st 1).set o [.sl 1 h.next (u8s m)]) o st h.next :=
  ⟨⟨⟨1, by simp, .inr rfl⟩, .inr (.inr ⟨push_new h st 1, by rw [set_next, push_next]; omega⟩)⟩,
   ⟨by rw [set_next, push_next]; omega, by rw [set_nobj, push_nobj]; exact Nat.le_refl _, fun o' _ hn => by rw [set_objs_ne _ _ _ hn, push_objs], fun s hs hn => by
      rw [set_tips]
      by_cases h2 : st ≤ 2
      · exact push_tips_le hs h2
      · exact push_tips_ne hs (by omega), .inr (Nat.le_refl _)⟩⟩
end Go.Proofs.Ytdbbgkdepjidjaa.Al
namespace Go.Proofs.Ytdbbgkdepjidjaa.Al
open Go Go.RowKit
set_option linter.unusedSimpArgs false
set_option linter.unusedVariables false
attribute [-simp] List.getD_eq_getElem?_getD Int.not_lt Int.not_le
/-- A thing. -/
structure Th where
  kind : Int
  n : Int
  l : List Int
  e : Int
def ints (l : List Int) : List V := l.map (.int .i64)
@[simp] theorem ints_length (l : List Int) : (ints l).length = l.length := by simp [ints]
section
variable {X : Cx} {h : AH} {Q : V → AH → Prop}
/-- A thing that is not too large, its numbers as such. -/
def tn (x : Th) : Nat := x.n.toNat
def tl (x : Th) : List Nat := x.l.map Int.toNat
theorem WE.new (h : AH) (o st : Nat) (z : List V) : WE h (h.new z) o st st :=
  ⟨Nat.le_refl _, by simp, fun o' h' _ => by simp [show ¬ o' = h.nobj by omega], fun _ _ _ => rfl, .inl rfl⟩
end
end Go.Proofs.Ytdbbgkdepjidjaa.Al
namespace Go.Proofs.Ytdbbgkdepjidjaa.Al
open Go Go.RowKit
set_option linter.unusedSimpArgs false
set_option linter.unusedVariables false
attribute [-simp] List.getD_eq_getElem?_getD Int.not_lt Int.not_le
section
variable {X : Cx} {h : AH} {Q : V → AH → Prop}
/-- A writer, and beside it bytes that one appends to. -/
structure WS (h h1 : AH) (o sw ce st : Nat) (W1 W2 : List Nat) : Prop where
  n3 : 3 ≤ h.next
  gr : Gr h h1
  ho : h.nobj ≤ o
  wo : WO h1 o W1 sw
  fw : sw ≤ 2 ∨ h.next ≤ sw
  el : ce = 1
  tip : st = 2 ∨ (h1.tips st = some 1 ∧ st < h1.next)
  fs : st ≤ 2 ∨ h.next ≤ st
  ne : st ≤ 2 ∨ st ≠ sw
theorem WS.app {h h1 : AH} {o sw ce st : Nat} {W1 W2 : List Nat} (s : WS h h1 o sw ce st W1 W2) {m : List Nat} {e2 : Nat} (hm : m ≠ []) (he : e2 = 1) (hb : W2.length + m.length ≤ 2 ^ 46) {K : V → AH → Prop} {zK : Lz K}
    (hk : ∀ st' h2, WS h h2 o sw 1 st' W1 (W2 ++ m) → h2.objs = h1.objs → h2.nobj = h1.nobj → K (.sl 1 st' (u8s (W2 ++ m))) h2) : App h1 1 1 ce st (u8s W2) e2 (u8s m) zK := by
  have hnx := s.gr.next
  have n3 := s.n3
  refine ⟨fun h0 => absurd h0 (by intro e; apply hm; cases m with | nil => rfl | cons a b => simp [u8s] at e), fun _ => ⟨?_, .inr s.el, he, by simp; omega, ?_⟩⟩
  · rcases s.tip with a | a
    · exact .inr (.inl a)
    · exact .inr (.inr a.1)
  · rw [← u8s_append]
    have hne : sw < h1.next := by
      rcases s.wo.st with a | a | a
      · omega
      · omega
      · exact a.2
    refine hk _ _ ⟨n3, s.gr.push (by have := s.fs; omega) 1, s.ho, s.wo.keep (by rw [push_objs]) (by rw [push_next]; omega) ?_, s.fw, rfl, .inr ⟨push_new h1 st 1, by rw [push_next]; omega⟩, .inr hnx, .inr (by omega)⟩ (push_objs h1 st 1) (push_nobj h1 st 1)
    by_cases h2 : st ≤ 2
    · exact push_tips_le hne h2
    · exact push_tips_ne hne (by have := s.ne; omega)
end
end Go.Proofs.Ytdbbgkdepjidjaa.Al
namespace Go.Proofs.Ytdbbgkdepjidjaa.Al
open Go Go.RowKit
set_option linter.unusedSimpArgs false
set_option linter.unusedVariables false
attribute [-simp] List.getD_eq_getElem?_getD Int.not_lt Int.not_le
theorem rlist_succ0 {α : Type} (step : List Nat → Int → α × List Nat × Int) (n : Nat) (l : List Nat) : rlist step (n + 1) l 0 = ((step l 0).1 :: (rlist step n (step l 0).2.1 (step l 0).2.2).1, (rlist step n (step l 0).2.1 (step l 0).2.2).2) := by simp [rlist]
end Go.Proofs.Ytdbbgkdepjidjaa.Al
namespace Go.Proofs.Ytdbbgkdepjidjaa.Al
open Go Go.RowKit
set_option linter.unusedSimpArgs false
set_option linter.unusedVariables false
abbrev Step (α : Type) := List Nat → Int → α × List Nat × Int
/-- A step that reads things as they are written, and only such. -/
structure Canon {α : Type} (step : Step α) (bytes : α → List Nat) (ok : α → Prop) : Prop where
  back : ∀ l a l', (∀ x ∈ l, x < 256) → step l 0 = (a, l', 0) → l = bytes a ++ l' ∧ ok a
  read : ∀ a r, ok a → step (bytes a ++ r) 0 = (a, r, 0)
  err : ∀ l e, e ≠ 0 → (step l e).2 = (l, e)
/-- One step, then another one. -/
def seq2 {α β : Type} (f : Step α) (g : Step β) : Step (α × β) := fun l e => (((f l e).1, (g (f l e).2.1 (f l e).2.2).1), (g (f l e).2.1 (f l e).2.2).2)
theorem Canon.seq {α β : Type} {f : Step α} {g : Step β} {bf : α → List Nat} {bg : β → List Nat} {pf : α → Prop} {pg : β → Prop} (F : Canon f bf pf) (G : Canon g bg pg) : Canon (seq2 f g) (fun p => bf p.1 ++ bg p.2) (fun p => pf p.1 ∧ pg p.2) where
  back l p l' hb h := by
    have h1 := congrArg Prod.fst h
    have h2 := congrArg Prod.snd h
    simp only [seq2] at h1 h2
    have he : (f l 0).2.2 = 0 := by
      by_cases he : (f l 0).2.2 = 0
      · exact he
      · rw [G.err _ _ he] at h2; exact absurd (congrArg Prod.snd h2) he
    obtain ⟨a1, a2⟩ := F.back l (f l 0).1 (f l 0).2.1 hb (Prod.ext rfl (Prod.ext rfl he))
    rw [he] at h1 h2
    have hb' : ∀ x ∈ (f l 0).2.1, x < 256 := fun x hx => hb x (by rw [a1]; exact List.mem_append_right _ hx)
    obtain ⟨b1, b2⟩ := G.back _ (g (f l 0).2.1 0).1 l' hb' (Prod.ext rfl h2)
    rw [← h1]
    exact ⟨by simp only [List.append_assoc, ← b1]; exact a1, a2, b2⟩
  read p r hp := by
    simp only [seq2, List.append_assoc, F.read p.1 _ hp.1, G.read p.2 r hp.2]
  err l e he := by simp only [seq2, F.err l e he, G.err l e he]
/-- The same, told in other words. -/
def stepMap {α β : Type} (φ : α → β) (f : Step α) : Step β := fun l e => (φ (f l e).1, (f l e).2)
theorem Canon.map {α β : Type} {f : Step α} {bf : α → List Nat} {pf : α → Prop} (F : Canon f bf pf) (φ : α → β) (ψ : β → α) (q : β → Prop) (h1 : ∀ a, pf a → q (φ a) ∧ ψ (φ a) = a) (h2 : ∀ b, q b → pf (ψ b) ∧ φ (ψ b) = b) : Canon (stepMap φ f) (fun b => bf (ψ b)) q where
  back l b l' hb h := by
    have e1 := congrArg Prod.fst h
    have e2 := congrArg Prod.snd h
    simp only [stepMap] at e1 e2
    obtain ⟨a1, a2⟩ := F.back l (f l 0).1 l' hb (Prod.ext rfl e2)
    rw [← e1, (h1 _ a2).2]
    exact ⟨a1, (h1 _ a2).1⟩
  read b r hb := by
    simp only [stepMap, F.read (ψ b) r (h2 b hb).1, (h2 b hb).2]
  err l e he := F.err l e he
theorem Canon.list {α : Type} {f : Step α} {bf : α → List Nat} {pf : α → Prop} (F : Canon f bf pf) : ∀ (n : Nat),
    (∀ l u l', (∀ x ∈ l, x < 256) → rlist f n l 0 = (u, l', 0) → l = u.flatMap bf ++ l' ∧ u.length = n ∧ ∀ a ∈ u, pf a) ∧
    (∀ u r, u.length = n → (∀ a ∈ u, pf a) → rlist f n (u.flatMap bf ++ r) 0 = (u, r, 0))
  | 0 => by
    refine ⟨fun l u l' hb h => ?_, fun u r hu hp => ?_⟩
    · simp [rlist] at h; obtain ⟨rfl, rfl⟩ := h; simp
    · have : u = [] := List.eq_nil_of_length_eq_zero hu
      subst this; simp [rlist]
  | n + 1 => by
    obtain ⟨i1, i2⟩ := F.list n
    refine ⟨fun l u l' hb h => ?_, fun u r hu hp => ?_⟩
    · rw [rlist_succ0] at h
      have h1 := congrArg Prod.fst h
      have h2 := congrArg Prod.snd h
      simp only at h1 h2
      have he : (f l 0).2.2 = 0 := by
        by_cases he : (f l 0).2.2 = 0
        · exact he
        · have : (rlist f n (f l 0).2.1 (f l 0).2.2).2 = ((f l 0).2.1, (f l 0).2.2) := by
            cases n with
            | zero => rfl
            | succ n => simp [rlist, he]
          rw [this] at h2
          exact absurd (congrArg Prod.snd h2) he
      obtain ⟨a1, a2⟩ := F.back l (f l 0).1 (f l 0).2.1 hb (Prod.ext rfl (Prod.ext rfl he))
      rw [he] at h1 h2
      have hb' : ∀ x ∈ (f l 0).2.1, x < 256 := fun x hx => hb x (by rw [a1]; exact List.mem_append_right _ hx)
      obtain ⟨b1, b2, b3⟩ := i1 _ (rlist f n (f l 0).2.1 0).1 l' hb' (Prod.ext rfl h2)
      subst h1
      refine ⟨by simp only [List.flatMap_cons, List.append_assoc, ← b1]; exact a1, by simp [b2], fun a ha => ?_⟩
      rcases List.mem_cons.1 ha with rfl | ha
      · exact a2
      · exact b3 a ha
    · cases u with
      | nil => simp at hu
      | cons a u =>
        simp only [List.flatMap_cons, List.append_assoc]
        rw [rlist_succ0, F.read a _ (hp a (by simp))]
        simp only
        rw [i2 u r (by simpa using hu) fun b hb => hp b (by simp [hb])]
theorem Canon.inj {α : Type} {f : Step α} {bf : α → List Nat} {pf : α → Prop} (F : Canon f bf pf) {a b : α} (ha : pf a) (hb : pf b) (h : bf a = bf b) : a = b := by
  have h1 := F.read a [] ha
  have h2 := F.read b [] hb
  rw [h, h2] at h1
  exact (congrArg Prod.fst h1).symm
/-! ### Read on, whatever is wrong -/
theorem rlist_e {α : Type} {step : Step α} {n : Nat} {l : List Nat} {e : Int} (he : e ≠ 0) : rlist step n l e = ([], l, e) := by
  cases n with
  | zero => rfl
  | succ n => simp [rlist, he]
/-- Two steps that agree in what is left, and in what is read where nothing is wrong behind it. -/
structure Alike {α : Type} (f g : Step α) : Prop where
  state : ∀ l e, (f l e).2 = (g l e).2
  val : ∀ l e, (f l e).2.2 = 0 → (f l e).1 = (g l e).1
theorem Alike.rlist {α : Type} {f g : Step α} (A : Alike f g) (hs : ∀ l e, e ≠ 0 → (f l e).2 = (l, e)) : ∀ (n : Nat), Alike (rlist f n) (rlist g n)
  | 0 => ⟨fun l e => rfl, fun l e _ => rfl⟩
  | n + 1 => by
    have ih := A.rlist hs n
    refine ⟨fun l e => ?_, fun l e h => ?_⟩
    · by_cases he : e = 0
      · subst he
        rw [rlist_succ0, rlist_succ0]
        simp only
        rw [ih.state, A.state]
      · rw [rlist_e he, rlist_e he]
    · by_cases he : e = 0
      · subst he
        rw [rlist_succ0] at h ⊢
        rw [rlist_succ0]
        simp only at h ⊢
        have h0 : (f l 0).2.2 = 0 := by
          by_cases h0 : (f l 0).2.2 = 0
          · exact h0
          · rw [rlist_e h0] at h; exact absurd h h0
        rw [ih.val _ _ h, A.val l 0 h0, A.state]
      · rw [rlist_e he, rlist_e he]
end Go.Proofs.Ytdbbgkdepjidjaa.Al
namespace Go.Proofs.Ytdbbgkdepjidjaa.Al
open Go Go.RowKit
set_option linter.unusedSimpArgs false
set_option linter.unusedVariables false
attribute [-simp] List.getD_eq_getElem?_getD Int.not_lt Int.not_le List.map_take
/-- A writer o, made since h0, that holds these bytes. -/
structure WC (h0 h : AH) (o : Nat) (L : List Nat) : Prop where
  wo : ∃ st, WO h o L st ∧ (st ≤ 2 ∨ h0.next ≤ st)
  gr : Gr h0 h
  ho : h0.nobj ≤ o
  lo : o < h.nobj
theorem WC.new {h0 h : AH} {o : Nat} {L : List Nat} (w : WC h0 h o L) (z : List V) : WC h0 (h.new z) o L := by
  obtain ⟨st, wo, fs⟩ := w.wo
  have := w.lo
  exact ⟨⟨st, wo.keep (new_objs_ne _ _ (by omega)) (Nat.le_refl _) rfl, fs⟩, w.gr.new z, w.ho, by simp; omega⟩
theorem WC.set {h0 h : AH} {o q : Nat} {L : List Nat} (w : WC h0 h o L) (hq : h0.nobj ≤ q) (hne : ¬ o = q) (z : List V) : WC h0 (h.set q z) o L := by
  obtain ⟨st, wo, fs⟩ := w.wo
  exact ⟨⟨st, wo.keep (set_objs_ne _ _ _ hne) (Nat.le_refl _) rfl, fs⟩, w.gr.set hq z, w.ho, w.lo⟩
end Go.Proofs.Ytdbbgkdepjidjaa.Al
namespace Go.Proofs.Ytdbbgkdepjidjaa.Al
open Go Go.RowKit
set_option linter.unusedSimpArgs false
set_option linter.unusedVariables false
attribute [-simp] List.getD_eq_getElem?_getD Int.not_lt Int.not_le List.map_take
theorem ints_get {l : List Int} {i : Nat} (h : i < l.length) : (ints l).getD i .undef = .int .i64 l[i] := by
  simp [ints, List.getD, List.getElem?_eq_getElem h]
theorem ints_cells (l : List Int) : cellsOf (ints l) = ints l := by
  induction l with
  | nil => rfl
  | cons a as ih => show V.cells (.int .i64 a) ++ cellsOf (ints as) = _; rw [ih]; rfl
theorem Bdd_ints (n m : Nat) (l : List Int) : ∀ v ∈ cellsOf (ints l), Bdd n m v := by
  intro v hv
  rw [ints_cells] at hv
  simp [ints] at hv; obtain ⟨b, _, rfl⟩ := hv; exact .int _ _
theorem ints_append (l m : List Int) : ints (l ++ m) = ints l ++ ints m := by simp [ints]
/-- Lists that are compared item by item. -/
theorem take_ext2 {α : Type} {a b : List α} {k : Nat} (ha : k < a.length) (hb : k < b.length) (h : a.take k = b.take k) (e : a[k] = b[k]) : a.take (k + 1) = b.take (k + 1) := by
  rw [List.take_succ_eq_append_getElem ha, List.take_succ_eq_append_getElem hb, h, e]
/-- An edit. -/
structure Ed where
  at' : Int
  drop : Bool
  tok : Int
  deriving DecidableEq
/-! ### Structs in a slice, of which less is known -/
theorem WkL.append {a b c d : List V} (x : WkL a b) (y : WkL c d) : WkL (a ++ c) (b ++ d) := by
  induction x with
  | nil => exact y
  | cons h t ih => exact .cons h ih
inductive WkE : List V → List V → Prop
  | nil : WkE [] []
  | cons {a b l m : List V} (h : WkL a b) (t : WkE l m) : WkE (.agg a :: l) (.agg b :: m)
theorem WkE.cells {l m : List V} (w : WkE l m) : l.length = m.length ∧ WkL (cellsOf l) (cellsOf m) := by
  induction w with
  | nil => exact ⟨rfl, .nil⟩
  | cons h t ih => exact ⟨by simp [ih.1], h.append ih.2⟩
theorem WkE.append {a b c d : List V} (x : WkE a b) (y : WkE c d) : WkE (a ++ c) (b ++ d) := by
  induction x with
  | nil => exact y
  | cons h t ih => exact .cons h ih
theorem WkE.sl {e st : Nat} {l m : List V} (w : WkE l m) (hm : ∀ v ∈ m, v.cells.length = e) : Wk (.sl e st l) (.sl e 0 m) := by
  obtain ⟨a, b⟩ := w.cells
  obtain ⟨c, d⟩ := b.get
  exact .sld e st l m a hm c d
/-- A step of the reference's reader, and the program's that it is. -/
structure SimR {α : Type} (f g : Step α) : Prop where
  val : ∀ b e, (f b e).1 = (g (absR (b, e)).1 (absR (b, e)).2).1
  st : ∀ b e, absR (f b e).2 = (g (absR (b, e)).1 (absR (b, e)).2).2
theorem SimR.step {α : Type} {f g : Step α} (S : SimR f g) (b : List Nat) (e : Int) : g (absR (b, e)).1 (absR (b, e)).2 = ((f b e).1, absR ((f b e).2.1, (f b e).2.2)) := by
  rw [S.val b e, show ((f b e).2.1, (f b e).2.2) = (f b e).2 from rfl, S.st b e]
theorem SimR.map {α β : Type} {f g : Step α} (S : SimR f g) (φ : α → β) : SimR (stepMap φ f) (stepMap φ g) := ⟨fun b e => by simp only [stepMap, S.val b e], fun b e => by simp only [stepMap, S.st b e]⟩
theorem SimR.rl {α : Type} {f g : Step α} (S : SimR f g) : ∀ n, SimR (rlist f n) (rlist g n)
  | 0 => ⟨fun b e => rfl, fun b e => rfl⟩
  | n + 1 => by
    have ih := S.rl n
    have key : ∀ b e, rlist g (n + 1) (absR (b, e)).1 (absR (b, e)).2 = ((rlist f (n + 1) b e).1, absR (rlist f (n + 1) b e).2) := fun b e => by
      by_cases he : e = 0
      · subst he
        rw [show (absR (b, (0 : Int))).2 = 0 from rfl, rlist_succ0, rlist_succ0]
        have h1 := S.step b 0
        rw [show (absR (b, (0 : Int))).2 = 0 from rfl] at h1
        rw [h1]
        simp only
        rw [ih.val, ← ih.st]
      · rw [rlist_e he, rlist_e (e := (absR (b, e)).2) he]
    exact ⟨fun b e => by rw [key], fun b e => by rw [key]⟩
theorem SimR.seq {α β : Type} {f g : Step α} {f2 g2 : Step β} (S : SimR f g) (T : SimR f2 g2) : SimR (seq2 f f2) (seq2 g g2) := by
  refine ⟨fun b e => ?_, fun b e => ?_⟩
  · simp only [seq2, S.step b e]; rw [T.val]
  · simp only [seq2, S.step b e]; rw [T.st]
/-- Two slices that this call has made, and may append to each without the other one. -/
structure Two (h0 h : AH) (e1 st1 : Nat) (l1 : List V) (e2 st2 : Nat) (l2 : List V) : Prop where
  a : Own h0 h 2 e1 st1 l1
  b : Own h0 h 2 e2 st2 l2
  ba : st1 ≤ 2 ∨ st1 < h.next
  ne : st1 ≤ 2 ∨ ¬ st1 = st2
theorem Two.set {h0 h : AH} {e1 st1 e2 st2 o : Nat} {l1 l2 : List V} (t : Two h0 h e1 st1 l1 e2 st2 l2) (ho : h0.nobj ≤ o) (z : List V) : Two h0 (h.set o z) e1 st1 l1 e2 st2 l2 :=
  ⟨⟨t.a.gr.set ho z, t.a.el, t.a.st⟩, ⟨t.b.gr.set ho z, t.b.el, t.b.st⟩, t.ba, t.ne⟩
theorem Own.set {h0 h : AH} {e e1 st1 o : Nat} {l1 : List V} (t : Own h0 h e e1 st1 l1) (ho : h0.nobj ≤ o) (z : List V) : Own h0 (h.set o z) e e1 st1 l1 := ⟨t.gr.set ho z, t.el, t.st⟩
theorem Own.new {h0 h : AH} {e e1 st1 : Nat} {l1 : List V} (t : Own h0 h e e1 st1 l1) (z : List V) : Own h0 (h.new z) e e1 st1 l1 := ⟨t.gr.new z, t.el, t.st⟩
theorem Own.keep {h0 h : AH} {e e1 st1 st2 : Nat} {l1 : List V} (t : Own h0 h e e1 st1 l1) (gr : Gr h0 (h.push st2 e)) (ba : st1 ≤ 2 ∨ st1 < h.next) (ne : st1 ≤ 2 ∨ ¬ st1 = st2) : Own h0 (h.push st2 e) e e1 st1 l1 := by
  refine ⟨gr, t.el, ?_⟩
  rcases t.st with h1 | h1 | ⟨h1, h2⟩
  · exact .inl h1
  · exact .inr (.inl h1)
  · by_cases hs : st1 ≤ 2
    · have := h0.next
      by_cases h1' : st1 = 1
      · exact .inl h1'
      by_cases h2' : st1 = 2
      · exact .inr (.inl h2')
      refine .inr (.inr ⟨?_, h2⟩)
      rcases ba with ba | ba
      · unfold AH.push
        by_cases hst : st2 ≤ 2
        · rw [if_pos hst]
          by_cases hx : st1 = h.next
          · rw [hx]; exact updN_same _ _ _
          · rw [show (h.grow e).tips st1 = h.tips st1 from updN_ne _ _ hx]; exact h1
        · rw [if_neg hst]
          by_cases hx : st1 = h.next
          · rw [hx]; exact updN_same _ _ _
          · rw [show ((h.drop st2).grow e).tips st1 = (h.drop st2).tips st1 from updN_ne _ _ hx, show (h.drop st2).tips st1 = h.tips st1 from updN_ne _ _ (by omega)]; exact h1
      · unfold AH.push
        by_cases hst : st2 ≤ 2
        · rw [if_pos hst, show (h.grow e).tips st1 = h.tips st1 from updN_ne _ _ (by omega)]; exact h1
        · rw [if_neg hst, show ((h.drop st2).grow e).tips st1 = (h.drop st2).tips st1 from updN_ne _ _ (by show st1 ≠ h.next; omega), show (h.drop st2).tips st1 = h.tips st1 from updN_ne _ _ (by omega)]; exact h1
    · refine .inr (.inr ⟨?_, h2⟩)
      unfold AH.push
      by_cases hst : st2 ≤ 2
      · rw [if_pos hst, show (h.grow e).tips st1 = h.tips st1 from updN_ne _ _ (by omega)]; exact h1
      · rw [if_neg hst, show ((h.drop st2).grow e).tips st1 = (h.drop st2).tips st1 from updN_ne _ _ (by show st1 ≠ h.next; omega), show (h.drop st2).tips st1 = h.tips st1 from updN_ne _ _ (by omega)]; exact h1
section
variable {X : Cx} {h : AH} {Q : V → AH → Prop}
theorem Own.push {h0 h : AH} {e e1 st : Nat} {l : List V} (o : Own h0 h e e1 st l) (m : List V) : Own h0 (h.push st e) e e h.next (l ++ m) := by
  refine ⟨o.gr.push ?_ e, .inr rfl, .inr (.inr ⟨push_new h st e, o.gr.next⟩)⟩
  rcases o.st with h1 | h1 | h1
  · omega
  · omega
  · exact .inr h1.2
/-- An append, with all that is known of the heap. -/
theorem Own.appF {h0 h : AH} {e e1 st : Nat} {l : List V} (o : Own h0 h e e1 st l) {sz e2 : Nat} {m : List V} (hm : m ≠ []) (he : e2 = e) (hb : (l.length + m.length) * sz ≤ 2 ^ 46) {K : V → AH → Prop} {zK : Lz K}
    (hk : Own h0 (h.push st e) e e h.next (l ++ m) → K (.sl e h.next (l ++ m)) (h.push st e)) : App h e sz e1 st l e2 m zK := by
  refine ⟨fun h1 => absurd h1 hm, fun _ => ⟨?_, o.el, he, hb, hk (o.push m)⟩⟩
  rcases o.st with h1 | h1 | h1
  · exact .inl h1
  · exact .inr (.inl h1)
  · exact .inr (.inr h1.1)
theorem Two.app {h0 h : AH} {e1 st1 e2 st2 : Nat} {l1 l2 : List V} (t : Two h0 h e1 st1 l1 e2 st2 l2) {sz e3 : Nat} {m : List V} (hm : m ≠ []) (he : e3 = 2) (hb : (l2.length + m.length) * sz ≤ 2 ^ 46) {K : V → AH → Prop} {zK : Lz K}
    (hk : ∀ st' h', Two h0 h' e1 st1 l1 2 st' (l2 ++ m) → h'.objs = h.objs → h'.nobj = h.nobj → K (.sl 2 st' (l2 ++ m)) h') : App h 2 sz e2 st2 l2 e3 m zK :=
  t.b.appF hm he hb fun o' => hk _ _ ⟨t.a.keep o'.gr t.ba t.ne, o', t.ba.imp id fun h1 => by rw [push_next]; omega, t.ba.imp id fun h1 => by omega⟩ (push_objs _ _ _) (push_nobj _ _ _)
end
end Go.Proofs.Ytdbbgkdepjidjaa.Al
namespace Go.Proofs.Ytdbbgkdepjidjaa.Al
def A.probatelaw06_Large.L0 : AC := .post (.seq (.reg [⟨(some 21), none, .bin .lss (.t 20) (.t 19)⟩])
  (.keep [1, 18, 19, 20, 21] (.seq (.cond (.t 21) .skip (.exit 0))
  (.keep [1, 18, 19, 20] (.seq (.block 1 (.seq (.reg [⟨(some 22), none, .ia 2 (.t 18) (.t 20)⟩, ⟨(some 23), none, .load true 2 (.t 22)⟩, ⟨(some 4), none, .alloc [(.str []), (.int .i64 (0))]⟩, ⟨none, none, .store 2 (.t 4) (.t 23)⟩])
  (.keep [1, 4, 18, 19, 20] (.seq (.reg [⟨(some 24), none, .fa 0 (.t 4)⟩, ⟨(some 25), none, .load false 1 (.t 24)⟩, ⟨(some 26), none, .len true (.t 25)⟩, ⟨(some 27), none, .bin .gtr (.t 26) (.c (.int .i64 (100)))⟩])
  (.keep [1, 18, 19, 20, 27] (.cond (.t 27) (.seq (.reg [⟨(some 2), none, .mv (.c (.bool true))⟩]) .ret) .skip))))))
  (.keep [1, 18, 19, 20] (.reg [⟨(some 28), none, .bin .add (.t 20) (.c (.int .i64 (1)))⟩, ⟨(some 20), none, .mv (.t 28)⟩]))))))) [1, 18, 19, 20]
def A.probatelaw06_Large.L1 : AC := .post (.seq (.reg [⟨(some 33), none, .bin .lss (.t 32) (.t 31)⟩])
  (.keep [30, 31, 32, 33] (.seq (.cond (.t 33) .skip (.exit 2))
  (.keep [30, 31, 32] (.seq (.block 3 (.seq (.reg [⟨(some 34), none, .ia 3 (.t 30) (.t 32)⟩, ⟨(some 35), none, .load true 3 (.t 34)⟩, ⟨(some 6), none, .alloc [(.int .i64 (0)), (.str []), (.sl 0 1 [])]⟩, ⟨none, none, .store 3 (.t 6) (.t 35)⟩])
  (.keep [6, 30, 31, 32] (.seq (.reg [⟨(some 36), none, .fa 1 (.t 6)⟩, ⟨(some 37), none, .load false 1 (.t 36)⟩, ⟨(some 38), none, .len true (.t 37)⟩, ⟨(some 39), none, .bin .gtr (.t 38) (.c (.int .i64 (100)))⟩, ⟨(some 40), none, .mv (.t 39)⟩, ⟨(some 41), (some (40, false)), .fa 2 (.t 6)⟩, ⟨(some 42), (some (40, false)), .load false 1 (.t 41)⟩, ⟨(some 43), (some (40, false)), .len false (.t 42)⟩, ⟨(some 44), (some (40, false)), .bin .gtr (.t 43) (.c (.int .i64 (210)))⟩, ⟨(some 45), none, .pick (.t 40) (.c (.bool true)) (.t 44)⟩])
  (.keep [30, 31, 32, 45] (.cond (.t 45) (.seq (.reg [⟨(some 2), none, .mv (.c (.bool true))⟩]) .ret) .skip))))))
  (.keep [30, 31, 32] (.reg [⟨(some 46), none, .bin .add (.t 32) (.c (.int .i64 (1)))⟩, ⟨(some 32), none, .mv (.t 46)⟩]))))))) [30, 31, 32]
def A.probatelaw06_Large : AFn := ⟨47, [(2, none)], (.seq (.reg [⟨(some 1), none, .box (.t 0)⟩, ⟨(some 2), none, .mv (.c (.bool false))⟩])
  (.keep [1] (.seq (.seq (.reg [⟨(some 7), none, .fa 0 (.t 1)⟩, ⟨(some 8), none, .load false 1 (.t 7)⟩, ⟨(some 9), none, .len false (.t 8)⟩, ⟨(some 10), none, .bin .gtr (.t 9) (.c (.int .i64 (30)))⟩, ⟨(some 11), none, .mv (.t 10)⟩, ⟨(some 12), (some (11, false)), .fa 1 (.t 1)⟩, ⟨(some 13), (some (11, false)), .load false 1 (.t 12)⟩, ⟨(some 14), (some (11, false)), .len false (.t 13)⟩, ⟨(some 15), (some (11, false)), .bin .gtr (.t 14) (.c (.int .i64 (210)))⟩, ⟨(some 16), none, .pick (.t 11) (.c (.bool true)) (.t 15)⟩])
  (.keep [1, 16] (.cond (.t 16) (.seq (.reg [⟨(some 2), none, .mv (.c (.bool true))⟩]) .ret) .skip)))
  (.keep [1] (.seq (.seq (.reg [⟨(some 17), none, .fa 0 (.t 1)⟩, ⟨(some 18), none, .load false 1 (.t 17)⟩, ⟨(some 19), none, .len false (.t 18)⟩, ⟨(some 20), none, .mv (.c (.int .i64 (0)))⟩])
  (.keep [1, 18, 19, 20] (.block 0 (.loop A.probatelaw06_Large.L0))))
  (.keep [1] (.seq (.seq (.reg [⟨(some 29), none, .fa 1 (.t 1)⟩, ⟨(some 30), none, .load false 1 (.t 29)⟩, ⟨(some 31), none, .len false (.t 30)⟩, ⟨(some 32), none, .mv (.c (.int .i64 (0)))⟩])
  (.keep [30, 31, 32] (.block 2 (.loop A.probatelaw06_Large.L1))))
  (.keep [] (.seq (.reg [⟨(some 2), none, .mv (.c (.bool false))⟩]) .ret)))))))))⟩
def A.probatelaw06_Own.L0 : AC := .post (.seq (.reg [⟨(some 13), none, .bin .lss (.t 12) (.t 11)⟩])
  (.keep [1, 2, 3, 10, 11, 12, 13] (.seq (.cond (.t 13) .skip (.exit 0))
  (.keep [1, 2, 3, 10, 11, 12] (.seq (.block 1 (.seq (.reg [⟨(some 14), none, .ia 2 (.t 10) (.t 12)⟩, ⟨(some 15), none, .load true 2 (.t 14)⟩, ⟨(some 5), none, .alloc [(.str []), (.int .i64 (0))]⟩, ⟨none, none, .store 2 (.t 5) (.t 15)⟩])
  (.keep [1, 2, 3, 5, 10, 11, 12] (.reg [⟨(some 16), none, .fa 0 (.t 3)⟩, ⟨(some 17), none, .load false 1 (.t 16)⟩, ⟨(some 18), none, .load true 2 (.t 5)⟩, ⟨(some 19), none, .bsl 2 true [(.str []), (.int .i64 (0))] 1 [(0, (.t 18))]⟩, ⟨(some 20), none, .app 2 24 (.t 17) (.t 19)⟩, ⟨(some 21), none, .fa 0 (.t 3)⟩, ⟨none, none, .store 1 (.t 21) (.t 20)⟩]))))
  (.keep [1, 2, 3, 10, 11, 12] (.reg [⟨(some 22), none, .bin .add (.t 12) (.c (.int .i64 (1)))⟩, ⟨(some 12), none, .mv (.t 22)⟩]))))))) [1, 2, 3, 10, 11, 12]
def A.probatelaw06_Own.L1 : AC := .post (.seq (.reg [⟨(some 27), none, .bin .lss (.t 26) (.t 25)⟩])
  (.keep [2, 3, 24, 25, 26, 27] (.seq (.cond (.t 27) .skip (.exit 2))
  (.keep [2, 3, 24, 25, 26] (.seq (.block 3 (.seq (.reg [⟨(some 28), none, .ia 3 (.t 24) (.t 26)⟩, ⟨(some 29), none, .load true 3 (.t 28)⟩, ⟨(some 7), none, .alloc [(.int .i64 (0)), (.str []), (.sl 0 1 [])]⟩, ⟨none, none, .store 3 (.t 7) (.t 29)⟩])
  (.keep [2, 3, 7, 24, 25, 26] (.reg [⟨(some 30), none, .fa 1 (.t 3)⟩, ⟨(some 31), none, .load false 1 (.t 30)⟩, ⟨(some 32), none, .load true 3 (.t 7)⟩, ⟨(some 33), none, .bsl 3 true [(.int .i64 (0)), (.str []), (.sl 0 1 [])] 1 [(0, (.t 32))]⟩, ⟨(some 34), none, .app 3 48 (.t 31) (.t 33)⟩, ⟨(some 35), none, .fa 1 (.t 3)⟩, ⟨none, none, .store 1 (.t 35) (.t 34)⟩]))))
  (.keep [2, 3, 24, 25, 26] (.reg [⟨(some 36), none, .bin .add (.t 26) (.c (.int .i64 (1)))⟩, ⟨(some 26), none, .mv (.t 36)⟩]))))))) [2, 3, 24, 25, 26]
def A.probatelaw06_Own : AFn := ⟨38, [(2, (some (true, 2)))], (.seq (.reg [⟨(some 1), none, .box (.t 0)⟩, ⟨(some 2), none, .alloc [(.sl 0 1 []), (.sl 0 1 [])]⟩])
  (.keep [1, 2] (.seq (.reg [⟨(some 8), none, .bld [(.sl 0 1 []), (.sl 0 1 [])] []⟩, ⟨(some 3), none, .alloc [(.sl 0 1 []), (.sl 0 1 [])]⟩, ⟨none, none, .store 2 (.t 3) (.t 8)⟩])
  (.keep [1, 2, 3] (.seq (.seq (.reg [⟨(some 9), none, .fa 0 (.t 1)⟩, ⟨(some 10), none, .load false 1 (.t 9)⟩, ⟨(some 11), none, .len false (.t 10)⟩, ⟨(some 12), none, .mv (.c (.int .i64 (0)))⟩])
  (.keep [1, 2, 3, 10, 11, 12] (.block 0 (.loop A.probatelaw06_Own.L0))))
  (.keep [1, 2, 3] (.seq (.seq (.reg [⟨(some 23), none, .fa 1 (.t 1)⟩, ⟨(some 24), none, .load false 1 (.t 23)⟩, ⟨(some 25), none, .len false (.t 24)⟩, ⟨(some 26), none, .mv (.c (.int .i64 (0)))⟩])
  (.keep [2, 3, 24, 25, 26] (.block 2 (.loop A.probatelaw06_Own.L1))))
  (.keep [2, 3] (.seq (.reg [⟨(some 37), none, .load true 2 (.t 3)⟩, ⟨none, none, .store 2 (.t 2) (.t 37)⟩]) .ret)))))))))⟩
def A.probateref06_Right.L1 : AC := .post (.seq (.seq (.reg [⟨(some 72), none, .mv (.t 8)⟩, ⟨(some 73), none, .mv (.t 4)⟩, ⟨(some 74), none, .bin .lss (.t 72) (.t 73)⟩])
  (.keep [1, 3, 4, 8, 74] (.cond (.t 74) .skip (.exit 2))))
  (.keep [1, 3, 4, 8] (.seq (.block 3 (.seq (.draw [(.pl, ⟨(some 77), none, .fa 0 (.t 1)⟩), (.pl, ⟨(some 78), none, .load false 1 (.t 77)⟩), (.pl, ⟨(some 79), none, .mv (.t 8)⟩), (.pl, ⟨(some 80), none, .ia 2 (.t 78) (.t 79)⟩), (.pl, ⟨(some 81), none, .fa 0 (.t 80)⟩), (.pl, ⟨(some 82), none, .load false 1 (.t 81)⟩), (.pl, ⟨(some 83), none, .fa 0 (.t 1)⟩), (.pl, ⟨(some 84), none, .load false 1 (.t 83)⟩), (.pl, ⟨(some 85), none, .mv (.t 4)⟩), (.pl, ⟨(some 86), none, .ia 2 (.t 84) (.t 85)⟩), (.pl, ⟨(some 87), none, .fa 0 (.t 86)⟩), (.pl, ⟨(some 88), none, .load false 1 (.t 87)⟩), (.pl, ⟨(some 89), none, .bin .eql (.t 82) (.t 88)⟩)])
  (.keep [1, 3, 4, 8, 89] (.cond (.t 89) (.seq (.reg [⟨(some 2), none, .mv (.c (.bool false))⟩]) .ret) .skip))))
  (.keep [1, 3, 4, 8] (.reg [⟨(some 75), none, .mv (.t 8)⟩, ⟨(some 76), none, .bin .add (.t 75) (.c (.int .i64 (1)))⟩, ⟨(some 8), none, .mv (.t 76)⟩]))))) [1, 3, 4, 8]
def A.probateref06_Right.L0 : AC := .post (.seq (.seq (.reg [⟨(some 27), none, .mv (.t 4)⟩, ⟨(some 28), none, .fa 0 (.t 1)⟩, ⟨(some 29), none, .load false 1 (.t 28)⟩, ⟨(some 30), none, .len false (.t 29)⟩, ⟨(some 31), none, .bin .lss (.t 27) (.t 30)⟩])
  (.keep [1, 3, 4, 31] (.cond (.t 31) .skip (.exit 0))))
  (.keep [1, 3, 4] (.seq (.block 1 (.seq (.reg [⟨(some 35), none, .fa 0 (.t 1)⟩, ⟨(some 36), none, .load false 1 (.t 35)⟩, ⟨(some 37), none, .mv (.t 4)⟩, ⟨(some 38), none, .ia 2 (.t 36) (.t 37)⟩, ⟨(some 39), none, .fa 0 (.t 38)⟩, ⟨(some 40), none, .load false 1 (.t 39)⟩, ⟨(some 41), none, .call (.c (.fn K.probateref05_Scan [] [])) [(.t 40)]⟩, ⟨(some 34), none, .mv (.t 41)⟩, ⟨(some 42), none, .ext (.t 34) 0⟩, ⟨(some 43), none, .ext (.t 34) 1⟩, ⟨(some 44), none, .ext (.t 34) 2⟩, ⟨(some 5), none, .mv (.t 42)⟩, ⟨(some 6), none, .mv (.t 43)⟩, ⟨(some 7), none, .mv (.t 44)⟩])
  (.keep [1, 3, 4, 5, 7] (.seq (.seq (.draw [(.pl, ⟨(some 45), none, .mv (.t 7)⟩), (.pl, ⟨(some 46), none, .bin .neq (.t 45) (.c (.int .i64 (0)))⟩), (.pl, ⟨(some 47), none, .mv (.t 46)⟩), (.pl, ⟨(some 48), (some (47, false)), .mv (.t 5)⟩), (.pl, ⟨(some 49), (some (47, false)), .len false (.t 48)⟩), (.pl, ⟨(some 50), (some (47, false)), .bin .neq (.t 49) (.c (.int .i64 (1)))⟩), (.pl, ⟨(some 51), none, .pick (.t 47) (.c (.bool true)) (.t 50)⟩), (.pl, ⟨(some 52), none, .mv (.t 51)⟩), (.pl, ⟨(some 53), (some (52, false)), .mv (.t 5)⟩), (.pl, ⟨(some 54), (some (52, false)), .ia 3 (.t 53) (.c (.int .i64 (0)))⟩), (.pl, ⟨(some 55), (some (52, false)), .fa 0 (.t 54)⟩), (.pl, ⟨(some 56), (some (52, false)), .load false 1 (.t 55)⟩), (.pl, ⟨(some 57), (some (52, false)), .bin .neq (.t 56) (.c (.int .i64 (1)))⟩), (.pl, ⟨(some 58), none, .pick (.t 52) (.c (.bool true)) (.t 57)⟩), (.pl, ⟨(some 59), none, .mv (.t 58)⟩), (.pl, ⟨(some 60), (some (59, false)), .mv (.t 5)⟩), (.pl, ⟨(some 61), (some (59, false)), .ia 3 (.t 60) (.c (.int .i64 (0)))⟩), (.pl, ⟨(some 62), (some (59, false)), .fa 1 (.t 61)⟩), (.pl, ⟨(some 63), (some (59, false)), .load false 1 (.t 62)⟩), (.pl, ⟨(some 64), (some (59, false)), .fa 0 (.t 1)⟩), (.pl, ⟨(some 65), (some (59, false)), .load false 1 (.t 64)⟩), (.pl, ⟨(some 66), (some (59, false)), .mv (.t 4)⟩), (.pl, ⟨(some 67), (some (59, false)), .ia 2 (.t 65) (.t 66)⟩), (.pl, ⟨(some 68), (some (59, false)), .fa 0 (.t 67)⟩), (.pl, ⟨(some 69), (some (59, false)), .load false 1 (.t 68)⟩), (.pl, ⟨(some 70), (some (59, false)), .bin .neq (.t 63) (.t 69)⟩), (.pl, ⟨(some 71), none, .pick (.t 59) (.c (.bool true)) (.t 70)⟩)])
  (.keep [1, 3, 4, 71] (.cond (.t 71) (.seq (.reg [⟨(some 2), none, .mv (.c (.bool false))⟩]) .ret) .skip)))
  (.keep [1, 3, 4] (.seq (.seq (.reg [⟨(some 8), none, .mv (.c (.int .i64 (0)))⟩])
  (.keep [1, 3, 4, 8] (.block 2 (.loop A.probateref06_Right.L1))))
  (.keep [1, 3, 4] (.draw [(.pl, ⟨(some 90), none, .load true 2 (.t 1)⟩), (.pl, ⟨(some 91), none, .fa 0 (.t 1)⟩), (.pl, ⟨(some 92), none, .load false 1 (.t 91)⟩), (.pl, ⟨(some 93), none, .mv (.t 4)⟩), (.pl, ⟨(some 94), none, .ia 2 (.t 92) (.t 93)⟩), (.pl, ⟨(some 95), none, .fa 1 (.t 94)⟩), (.pl, ⟨(some 96), none, .load false 1 (.t 95)⟩), (.pl, ⟨(some 97), none, .mv (.t 3)⟩), (.eff, ⟨(some 98), none, .call (.c (.fn K.probateref06_under [] [])) [(.t 90), (.t 96), (.t 97)]⟩), (.pl, ⟨(some 3), none, .mv (.t 98)⟩)]))))))))
  (.keep [1, 3, 4] (.reg [⟨(some 32), none, .mv (.t 4)⟩, ⟨(some 33), none, .bin .add (.t 32) (.c (.int .i64 (1)))⟩, ⟨(some 4), none, .mv (.t 33)⟩]))))) [1, 3, 4]
def A.probateref06_Right.L2 : AC := .post (.seq (.seq (.reg [⟨(some 105), none, .mv (.t 9)⟩, ⟨(some 106), none, .mv (.t 3)⟩, ⟨(some 107), none, .len false (.t 106)⟩, ⟨(some 108), none, .bin .lss (.t 105) (.t 107)⟩])
  (.keep [1, 3, 9, 108] (.cond (.t 108) .skip (.exit 4))))
  (.keep [1, 3, 9] (.seq (.block 5 (.seq (.draw [(.pl, ⟨(some 111), none, .mv (.t 3)⟩), (.pl, ⟨(some 112), none, .mv (.t 9)⟩), (.pl, ⟨(some 113), none, .ia 1 (.t 111) (.t 112)⟩), (.pl, ⟨(some 114), none, .load false 1 (.t 113)⟩), (.pl, ⟨(some 115), none, .mv (.t 9)⟩), (.pl, ⟨(some 116), none, .bin .neq (.t 114) (.t 115)⟩), (.pl, ⟨(some 117), none, .mv (.t 116)⟩), (.pl, ⟨(some 118), (some (117, false)), .load true 2 (.t 1)⟩), (.pl, ⟨(some 119), (some (117, false)), .fa 1 (.t 1)⟩), (.pl, ⟨(some 120), (some (117, false)), .load false 1 (.t 119)⟩), (.pl, ⟨(some 121), (some (117, false)), .mv (.t 9)⟩), (.pl, ⟨(some 122), (some (117, false)), .ia 3 (.t 120) (.t 121)⟩), (.pl, ⟨(some 123), (some (117, false)), .load true 3 (.t 122)⟩), (.pl, ⟨(some 124), (some (117, false)), .call (.c (.fn K.probateref06_Tree_fine [] [])) [(.t 118), (.t 123)]⟩), (.pl, ⟨(some 125), (some (117, false)), .un .not (.t 124)⟩), (.pl, ⟨(some 126), none, .pick (.t 117) (.c (.bool true)) (.t 125)⟩)])
  (.keep [1, 3, 9, 126] (.cond (.t 126) (.seq (.reg [⟨(some 2), none, .mv (.c (.bool false))⟩]) .ret) .skip))))
  (.keep [1, 3, 9] (.reg [⟨(some 109), none, .mv (.t 9)⟩, ⟨(some 110), none, .bin .add (.t 109) (.c (.int .i64 (1)))⟩, ⟨(some 9), none, .mv (.t 110)⟩]))))) [1, 3, 9]
def A.probateref06_Right : AFn := ⟨127, [(2, none)], (.seq (.reg [⟨(some 1), none, .box (.t 0)⟩, ⟨(some 2), none, .mv (.c (.bool false))⟩])
  (.keep [1] (.seq (.seq (.reg [⟨(some 10), none, .fa 0 (.t 1)⟩, ⟨(some 11), none, .load false 1 (.t 10)⟩, ⟨(some 12), none, .len false (.t 11)⟩, ⟨(some 13), none, .bin .lss (.t 12) (.c (.int .i64 (1)))⟩, ⟨(some 14), none, .mv (.t 13)⟩, ⟨(some 15), (some (14, false)), .fa 0 (.t 1)⟩, ⟨(some 16), (some (14, false)), .load false 1 (.t 15)⟩, ⟨(some 17), (some (14, false)), .len false (.t 16)⟩, ⟨(some 18), (some (14, false)), .bin .gtr (.t 17) (.c (.int .i64 (24)))⟩, ⟨(some 19), none, .pick (.t 14) (.c (.bool true)) (.t 18)⟩, ⟨(some 20), none, .mv (.t 19)⟩, ⟨(some 21), (some (20, false)), .fa 1 (.t 1)⟩, ⟨(some 22), (some (20, false)), .load false 1 (.t 21)⟩, ⟨(some 23), (some (20, false)), .len false (.t 22)⟩, ⟨(some 24), (some (20, false)), .bin .gtr (.t 23) (.c (.int .i64 (200)))⟩, ⟨(some 25), none, .pick (.t 20) (.c (.bool true)) (.t 24)⟩])
  (.keep [1, 25] (.cond (.t 25) (.seq (.reg [⟨(some 2), none, .mv (.c (.bool false))⟩]) .ret) .skip)))
  (.keep [1] (.seq (.reg [⟨(some 26), none, .bsl 1 false [(.int .i64 (0))] 0 []⟩, ⟨(some 3), none, .mv (.t 26)⟩])
  (.keep [1, 3] (.seq (.seq (.reg [⟨(some 4), none, .mv (.c (.int .i64 (0)))⟩])
  (.keep [1, 3, 4] (.block 0 (.loop A.probateref06_Right.L0))))
  (.keep [1, 3] (.seq (.seq (.reg [⟨(some 99), none, .mv (.t 3)⟩, ⟨(some 100), none, .len false (.t 99)⟩, ⟨(some 101), none, .fa 1 (.t 1)⟩, ⟨(some 102), none, .load false 1 (.t 101)⟩, ⟨(some 103), none, .len false (.t 102)⟩, ⟨(some 104), none, .bin .neq (.t 100) (.t 103)⟩])
  (.keep [1, 3, 104] (.cond (.t 104) (.seq (.reg [⟨(some 2), none, .mv (.c (.bool false))⟩]) .ret) .skip)))
  (.keep [1, 3] (.seq (.seq (.reg [⟨(some 9), none, .mv (.c (.int .i64 (0)))⟩])
  (.keep [1, 3, 9] (.block 4 (.loop A.probateref06_Right.L2))))
  (.keep [] (.seq (.reg [⟨(some 2), none, .mv (.c (.bool true))⟩]) .ret)))))))))))))⟩
def A.probateref06_under.L0 : AC := .post (.seq (.seq (.reg [⟨(some 29), none, .mv (.t 7)⟩, ⟨(some 30), none, .fa 1 (.t 3)⟩, ⟨(some 31), none, .load false 1 (.t 30)⟩, ⟨(some 32), none, .mv (.t 1)⟩, ⟨(some 33), none, .ia 3 (.t 31) (.t 32)⟩, ⟨(some 34), none, .fa 2 (.t 33)⟩, ⟨(some 35), none, .load false 1 (.t 34)⟩, ⟨(some 36), none, .len false (.t 35)⟩, ⟨(some 37), none, .bin .lss (.t 29) (.t 36)⟩])
  (.keep [1, 2, 3, 7, 37] (.cond (.t 37) .skip (.exit 0))))
  (.keep [1, 2, 3, 7] (.seq (.block 1 (.seq (.reg [⟨(some 40), none, .fa 1 (.t 3)⟩, ⟨(some 41), none, .load false 1 (.t 40)⟩, ⟨(some 42), none, .mv (.t 1)⟩, ⟨(some 43), none, .ia 3 (.t 41) (.t 42)⟩, ⟨(some 44), none, .fa 2 (.t 43)⟩, ⟨(some 45), none, .load false 1 (.t 44)⟩, ⟨(some 46), none, .mv (.t 7)⟩, ⟨(some 47), none, .ia 1 (.t 45) (.t 46)⟩, ⟨(some 48), none, .load false 1 (.t 47)⟩, ⟨(some 8), none, .mv (.t 48)⟩])
  (.keep [1, 2, 3, 7, 8] (.seq (.seq (.reg [⟨(some 49), none, .mv (.t 8)⟩, ⟨(some 50), none, .mv (.t 1)⟩, ⟨(some 51), none, .bin .geq (.t 49) (.t 50)⟩, ⟨(some 52), none, .mv (.t 51)⟩, ⟨(some 53), (some (52, false)), .mv (.t 2)⟩, ⟨(some 54), (some (52, false)), .len false (.t 53)⟩, ⟨(some 55), (some (52, false)), .fa 1 (.t 3)⟩, ⟨(some 56), (some (52, false)), .load false 1 (.t 55)⟩, ⟨(some 57), (some (52, false)), .len false (.t 56)⟩, ⟨(some 58), (some (52, false)), .bin .gtr (.t 54) (.t 57)⟩, ⟨(some 59), none, .pick (.t 52) (.c (.bool true)) (.t 58)⟩])
  (.keep [1, 2, 3, 7, 8, 59] (.cond (.t 59) (.seq (.reg [⟨(some 60), none, .mv (.t 2)⟩, ⟨(some 61), none, .bsl 1 false [(.int .i64 (0))] 1 [(0, (.c (.int .i64 (-1))))]⟩, ⟨(some 62), none, .app 1 8 (.t 60) (.t 61)⟩, ⟨(some 6), none, .mv (.t 62)⟩]) .ret) .skip)))
  (.keep [1, 2, 3, 7, 8] (.reg [⟨(some 63), none, .load true 2 (.t 3)⟩, ⟨(some 64), none, .mv (.t 8)⟩, ⟨(some 65), none, .mv (.t 2)⟩, ⟨(some 66), none, .call (.c (.fn K.probateref06_under [] [])) [(.t 63), (.t 64), (.t 65)]⟩, ⟨(some 2), none, .mv (.t 66)⟩]))))))
  (.keep [1, 2, 3, 7] (.reg [⟨(some 38), none, .mv (.t 7)⟩, ⟨(some 39), none, .bin .add (.t 38) (.c (.int .i64 (1)))⟩, ⟨(some 7), none, .mv (.t 39)⟩]))))) [1, 2, 3, 7]
def A.probateref06_under : AFn := ⟨71, [(6, none)], (.seq (.reg [⟨(some 3), none, .box (.t 0)⟩, ⟨(some 6), none, .mv (.c (.sl 0 1 []))⟩])
  (.keep [1, 2, 3] (.seq (.seq (.reg [⟨(some 9), none, .mv (.t 1)⟩, ⟨(some 10), none, .bin .lss (.t 9) (.c (.int .i64 (0)))⟩, ⟨(some 11), none, .mv (.t 10)⟩, ⟨(some 12), (some (11, false)), .mv (.t 1)⟩, ⟨(some 13), (some (11, false)), .fa 1 (.t 3)⟩, ⟨(some 14), (some (11, false)), .load false 1 (.t 13)⟩, ⟨(some 15), (some (11, false)), .len false (.t 14)⟩, ⟨(some 16), (some (11, false)), .bin .geq (.t 12) (.t 15)⟩, ⟨(some 17), none, .pick (.t 11) (.c (.bool true)) (.t 16)⟩, ⟨(some 18), none, .mv (.t 17)⟩, ⟨(some 19), (some (18, false)), .mv (.t 2)⟩, ⟨(some 20), (some (18, false)), .len false (.t 19)⟩, ⟨(some 21), (some (18, false)), .fa 1 (.t 3)⟩, ⟨(some 22), (some (18, false)), .load false 1 (.t 21)⟩, ⟨(some 23), (some (18, false)), .len false (.t 22)⟩, ⟨(some 24), (some (18, false)), .bin .gtr (.t 20) (.t 23)⟩, ⟨(some 25), none, .pick (.t 18) (.c (.bool true)) (.t 24)⟩])
  (.keep [1, 2, 3, 25] (.cond (.t 25) (.seq (.reg [⟨(some 26), none, .mv (.t 2)⟩, ⟨(some 27), none, .bsl 1 false [(.int .i64 (0))] 1 [(0, (.c (.int .i64 (-1))))]⟩, ⟨(some 28), none, .app 1 8 (.t 26) (.t 27)⟩, ⟨(some 6), none, .mv (.t 28)⟩]) .ret) .skip)))
  (.keep [1, 2, 3] (.seq (.seq (.reg [⟨(some 7), none, .mv (.c (.int .i64 (0)))⟩])
  (.keep [1, 2, 3, 7] (.block 0 (.loop A.probateref06_under.L0))))
  (.keep [1, 2] (.seq (.reg [⟨(some 67), none, .mv (.t 2)⟩, ⟨(some 68), none, .mv (.t 1)⟩, ⟨(some 69), none, .bsl 1 false [(.int .i64 (0))] 1 [(0, (.t 68))]⟩, ⟨(some 70), none, .app 1 8 (.t 67) (.t 69)⟩, ⟨(some 6), none, .mv (.t 70)⟩]) .ret)))))))⟩
def A.probateref06_Tree_fine : AFn := ⟨65, [(4, none)], (.seq (.reg [⟨(some 2), none, .box (.t 0)⟩, ⟨(some 3), none, .box (.t 1)⟩, ⟨(some 4), none, .mv (.c (.bool false))⟩])
  (.keep [2, 3] (.seq (.reg [⟨(some 6), none, .fa 2 (.t 3)⟩, ⟨(some 7), none, .load false 1 (.t 6)⟩, ⟨(some 8), none, .len false (.t 7)⟩, ⟨(some 5), none, .mv (.t 8)⟩])
  (.keep [2, 3, 5] (.seq (.seq (.reg [⟨(some 9), none, .fa 0 (.t 3)⟩, ⟨(some 10), none, .load false 1 (.t 9)⟩, ⟨(some 11), none, .bin .eql (.t 10) (.c (.int .i64 (6)))⟩])
  (.keep [2, 3, 5, 11] (.cond (.t 11) (.seq (.reg [⟨(some 12), none, .mv (.t 5)⟩, ⟨(some 13), none, .bin .eql (.t 12) (.c (.int .i64 (0)))⟩, ⟨(some 14), none, .mv (.t 13)⟩, ⟨(some 15), (some (14, true)), .load true 2 (.t 2)⟩, ⟨(some 16), (some (14, true)), .fa 1 (.t 3)⟩, ⟨(some 17), (some (14, true)), .load false 1 (.t 16)⟩, ⟨(some 18), (some (14, true)), .call (.c (.fn K.probateref06_Tree_rule [] [])) [(.t 15), (.t 17)]⟩, ⟨(some 19), none, .pick (.t 14) (.t 18) (.c (.bool false))⟩, ⟨(some 4), none, .mv (.t 19)⟩]) .ret) .skip)))
  (.keep [3, 5] (.seq (.seq (.reg [⟨(some 20), none, .fa 0 (.t 3)⟩, ⟨(some 21), none, .load false 1 (.t 20)⟩, ⟨(some 22), none, .bin .eql (.t 21) (.c (.int .i64 (7)))⟩])
  (.keep [3, 5, 22] (.cond (.t 22) (.seq (.reg [⟨(some 23), none, .mv (.t 5)⟩, ⟨(some 24), none, .bin .eql (.t 23) (.c (.int .i64 (0)))⟩, ⟨(some 25), none, .mv (.t 24)⟩, ⟨(some 26), (some (25, true)), .fa 1 (.t 3)⟩, ⟨(some 27), (some (25, true)), .load false 1 (.t 26)⟩, ⟨(some 28), (some (25, true)), .call (.c (.fn K.probateref06_quote [] [])) [(.t 27)]⟩, ⟨(some 29), none, .pick (.t 25) (.t 28) (.c (.bool false))⟩, ⟨(some 4), none, .mv (.t 29)⟩]) .ret) .skip)))
  (.keep [3, 5] (.seq (.reg [⟨(some 30), none, .fa 1 (.t 3)⟩, ⟨(some 31), none, .load false 1 (.t 30)⟩, ⟨(some 32), none, .bin .eql (.t 31) (.c (.str []))⟩, ⟨(some 33), none, .mv (.t 32)⟩, ⟨(some 34), (some (33, true)), .fa 0 (.t 3)⟩, ⟨(some 35), (some (33, true)), .load false 1 (.t 34)⟩, ⟨(some 36), (some (33, true)), .bin .eql (.t 35) (.c (.int .i64 (1)))⟩, ⟨(some 37), (some (33, true)), .mv (.t 36)⟩, ⟨(some 38), (some (37, true)), .mv (.t 5)⟩, ⟨(some 39), (some (37, true)), .bin .neq (.t 38) (.c (.int .i64 (1)))⟩, ⟨(some 40), (some (33, true)), .pick (.t 37) (.t 39) (.c (.bool false))⟩, ⟨(some 41), (some (33, true)), .mv (.t 40)⟩, ⟨(some 42), (some (41, false)), .fa 0 (.t 3)⟩, ⟨(some 43), (some (41, false)), .load false 1 (.t 42)⟩, ⟨(some 44), (some (41, false)), .bin .eql (.t 43) (.c (.int .i64 (2)))⟩, ⟨(some 45), (some (41, false)), .mv (.t 44)⟩, ⟨(some 46), (some (45, true)), .mv (.t 5)⟩, ⟨(some 47), (some (45, true)), .bin .geq (.t 46) (.c (.int .i64 (2)))⟩, ⟨(some 48), (some (41, false)), .pick (.t 45) (.t 47) (.c (.bool false))⟩, ⟨(some 49), (some (33, true)), .pick (.t 41) (.c (.bool true)) (.t 48)⟩, ⟨(some 50), (some (33, true)), .mv (.t 49)⟩, ⟨(some 51), (some (50, false)), .fa 0 (.t 3)⟩, ⟨(some 52), (some (50, false)), .load false 1 (.t 51)⟩, ⟨(some 53), (some (50, false)), .bin .geq (.t 52) (.c (.int .i64 (3)))⟩, ⟨(some 54), (some (50, false)), .mv (.t 53)⟩, ⟨(some 55), (some (54, true)), .fa 0 (.t 3)⟩, ⟨(some 56), (some (54, true)), .load false 1 (.t 55)⟩, ⟨(some 57), (some (54, true)), .bin .leq (.t 56) (.c (.int .i64 (5)))⟩, ⟨(some 58), (some (50, false)), .pick (.t 54) (.t 57) (.c (.bool false))⟩, ⟨(some 59), (some (50, false)), .mv (.t 58)⟩, ⟨(some 60), (some (59, true)), .mv (.t 5)⟩, ⟨(some 61), (some (59, true)), .bin .eql (.t 60) (.c (.int .i64 (1)))⟩, ⟨(some 62), (some (50, false)), .pick (.t 59) (.t 61) (.c (.bool false))⟩, ⟨(some 63), (some (33, true)), .pick (.t 50) (.c (.bool true)) (.t 62)⟩, ⟨(some 64), none, .pick (.t 33) (.t 63) (.c (.bool false))⟩, ⟨(some 4), none, .mv (.t 64)⟩]) .ret)))))))))⟩
def A.probateref06_Tree_rule.L0 : AC := .post (.seq (.seq (.reg [⟨(some 6), none, .mv (.t 5)⟩, ⟨(some 7), none, .fa 0 (.t 2)⟩, ⟨(some 8), none, .load false 1 (.t 7)⟩, ⟨(some 9), none, .len false (.t 8)⟩, ⟨(some 10), none, .bin .lss (.t 6) (.t 9)⟩])
  (.keep [1, 2, 5, 10] (.cond (.t 10) .skip (.exit 0))))
  (.keep [1, 2, 5] (.seq (.block 1 (.seq (.reg [⟨(some 13), none, .fa 0 (.t 2)⟩, ⟨(some 14), none, .load false 1 (.t 13)⟩, ⟨(some 15), none, .mv (.t 5)⟩, ⟨(some 16), none, .ia 2 (.t 14) (.t 15)⟩, ⟨(some 17), none, .fa 0 (.t 16)⟩, ⟨(some 18), none, .load false 1 (.t 17)⟩, ⟨(some 19), none, .mv (.t 1)⟩, ⟨(some 20), none, .bin .eql (.t 18) (.t 19)⟩])
  (.keep [1, 2, 5, 20] (.cond (.t 20) (.seq (.reg [⟨(some 4), none, .mv (.c (.bool true))⟩]) .ret) .skip))))
  (.keep [1, 2, 5] (.reg [⟨(some 11), none, .mv (.t 5)⟩, ⟨(some 12), none, .bin .add (.t 11) (.c (.int .i64 (1)))⟩, ⟨(some 5), none, .mv (.t 12)⟩]))))) [1, 2, 5]
def A.probateref06_Tree_rule : AFn := ⟨21, [(4, none)], (.seq (.reg [⟨(some 2), none, .box (.t 0)⟩, ⟨(some 4), none, .mv (.c (.bool false))⟩])
  (.keep [1, 2] (.seq (.seq (.reg [⟨(some 5), none, .mv (.c (.int .i64 (0)))⟩])
  (.keep [1, 2, 5] (.block 0 (.loop A.probateref06_Tree_rule.L0))))
  (.keep [] (.seq (.reg [⟨(some 4), none, .mv (.c (.bool false))⟩]) .ret)))))⟩
def A.probateref06_quote.L0 : AC := .post (.seq (.seq (.reg [⟨(some 4), none, .mv (.t 3)⟩, ⟨(some 5), none, .mv (.t 0)⟩, ⟨(some 6), none, .len true (.t 5)⟩, ⟨(some 7), none, .bin .lss (.t 4) (.t 6)⟩])
  (.keep [0, 3, 7] (.cond (.t 7) .skip (.exit 0))))
  (.keep [0, 3] (.seq (.block 1 (.seq (.reg [⟨(some 10), none, .mv (.t 0)⟩, ⟨(some 11), none, .mv (.t 3)⟩, ⟨(some 12), none, .ixs (.t 10) (.t 11)⟩, ⟨(some 13), none, .bin .lss (.t 12) (.c (.int .u8 (32)))⟩, ⟨(some 14), none, .mv (.t 13)⟩, ⟨(some 15), (some (14, false)), .mv (.t 0)⟩, ⟨(some 16), (some (14, false)), .mv (.t 3)⟩, ⟨(some 17), (some (14, false)), .ixs (.t 15) (.t 16)⟩, ⟨(some 18), (some (14, false)), .bin .gtr (.t 17) (.c (.int .u8 (126)))⟩, ⟨(some 19), none, .pick (.t 14) (.c (.bool true)) (.t 18)⟩, ⟨(some 20), none, .mv (.t 19)⟩, ⟨(some 21), (some (20, false)), .mv (.t 0)⟩, ⟨(some 22), (some (20, false)), .mv (.t 3)⟩, ⟨(some 23), (some (20, false)), .ixs (.t 21) (.t 22)⟩, ⟨(some 24), (some (20, false)), .bin .eql (.t 23) (.c (.int .u8 (39)))⟩, ⟨(some 25), none, .pick (.t 20) (.c (.bool true)) (.t 24)⟩])
  (.keep [0, 3, 25] (.cond (.t 25) (.seq (.reg [⟨(some 2), none, .mv (.c (.bool false))⟩]) .ret) .skip))))
  (.keep [0, 3] (.reg [⟨(some 8), none, .mv (.t 3)⟩, ⟨(some 9), none, .bin .add (.t 8) (.c (.int .i64 (1)))⟩, ⟨(some 3), none, .mv (.t 9)⟩]))))) [0, 3]
def A.probateref06_quote : AFn := ⟨34, [(2, none)], (.seq (.reg [⟨(some 2), none, .mv (.c (.bool false))⟩])
  (.keep [0] (.seq (.seq (.reg [⟨(some 3), none, .mv (.c (.int .i64 (0)))⟩])
  (.keep [0, 3] (.block 0 (.loop A.probateref06_quote.L0))))
  (.keep [0] (.seq (.reg [⟨(some 26), none, .mv (.t 0)⟩, ⟨(some 27), none, .len true (.t 26)⟩, ⟨(some 28), none, .bin .gtr (.t 27) (.c (.int .i64 (0)))⟩, ⟨(some 29), none, .mv (.t 28)⟩, ⟨(some 30), (some (29, true)), .mv (.t 0)⟩, ⟨(some 31), (some (29, true)), .len true (.t 30)⟩, ⟨(some 32), (some (29, true)), .bin .leq (.t 31) (.c (.int .i64 (3998)))⟩, ⟨(some 33), none, .pick (.t 29) (.t 32) (.c (.bool false))⟩, ⟨(some 2), none, .mv (.t 33)⟩]) .ret)))))⟩
end Go.Proofs.Ytdbbgkdepjidjaa.Al
namespace Go.Proofs.Ytdbbgkdepjidjaa.Al
def A.rules_Right.L1 : AC := .post (.seq (.seq (.reg [⟨(some 59), none, .mv (.t 3)⟩, ⟨(some 60), none, .fa 1 (.t 5)⟩, ⟨(some 61), none, .load false 1 (.t 60)⟩, ⟨(some 62), none, .bin .leq (.t 59) (.t 61)⟩])
  (.keep [1, 3, 5, 6, 26, 27, 28, 62] (.cond (.t 62) .skip (.exit 2))))
  (.keep [1, 3, 5, 6, 26, 27, 28] (.seq (.block 3 (.seq (.reg [⟨(some 65), none, .fa 1 (.t 1)⟩, ⟨(some 66), none, .load false 1 (.t 65)⟩, ⟨(some 67), none, .mv (.t 3)⟩, ⟨(some 68), none, .ia 3 (.t 66) (.t 67)⟩, ⟨(some 69), none, .load true 3 (.t 68)⟩, ⟨(some 7), none, .alloc [(.int .i64 (0)), (.str []), (.sl 0 1 [])]⟩, ⟨none, none, .store 3 (.t 7) (.t 69)⟩])
  (.keep [1, 3, 5, 6, 7, 26, 27, 28] (.seq (.reg [⟨(some 70), none, .mv (.t 6)⟩, ⟨(some 71), none, .len false (.t 70)⟩, ⟨(some 72), none, .fa 2 (.t 7)⟩, ⟨(some 73), none, .load false 1 (.t 72)⟩, ⟨(some 74), none, .len false (.t 73)⟩, ⟨(some 75), none, .bin .sub (.t 71) (.t 74)⟩, ⟨(some 8), none, .mv (.t 75)⟩])
  (.keep [1, 3, 5, 6, 7, 8, 26, 27, 28] (.seq (.seq (.draw [(.pl, ⟨(some 76), none, .load true 2 (.t 1)⟩), (.pl, ⟨(some 77), none, .load true 3 (.t 7)⟩), (.pl, ⟨(some 78), none, .call (.c (.fn K.rules_Tree_fine [] [])) [(.t 76), (.t 77)]⟩), (.pl, ⟨(some 79), none, .un .not (.t 78)⟩), (.pl, ⟨(some 80), none, .mv (.t 79)⟩), (.pl, ⟨(some 81), (some (80, false)), .mv (.t 8)⟩), (.pl, ⟨(some 82), (some (80, false)), .bin .lss (.t 81) (.c (.int .i64 (0)))⟩), (.pl, ⟨(some 83), none, .pick (.t 80) (.c (.bool true)) (.t 82)⟩), (.pl, ⟨(some 84), none, .mv (.t 83)⟩), (.pl, ⟨(some 85), (some (84, false)), .mv (.t 6)⟩), (.pl, ⟨(some 86), (some (84, false)), .mv (.t 8)⟩), (.pl, ⟨(some 87), (some (84, false)), .slc 1 (.t 85) (some (.t 86)) none⟩), (.pl, ⟨(some 88), (some (84, false)), .fa 2 (.t 7)⟩), (.pl, ⟨(some 89), (some (84, false)), .load false 1 (.t 88)⟩), (.pl, ⟨(some 90), (some (84, false)), .call (.c (.fn K.slices_Equal_int [] [])) [(.t 87), (.t 89)]⟩), (.pl, ⟨(some 91), (some (84, false)), .un .not (.t 90)⟩), (.pl, ⟨(some 92), none, .pick (.t 84) (.c (.bool true)) (.t 91)⟩)])
  (.keep [1, 3, 5, 6, 8, 26, 27, 28, 92] (.cond (.t 92) (.seq (.reg [⟨(some 2), none, .mv (.c (.bool false))⟩]) .ret) .skip)))
  (.keep [1, 3, 5, 6, 8, 26, 27, 28] (.reg [⟨(some 93), none, .mv (.t 6)⟩, ⟨(some 94), none, .mv (.t 8)⟩, ⟨(some 95), none, .slc 1 (.t 93) none (some (.t 94))⟩, ⟨(some 96), none, .mv (.t 3)⟩, ⟨(some 97), none, .bsl 1 false [(.int .i64 (0))] 1 [(0, (.t 96))]⟩, ⟨(some 98), none, .app 1 8 (.t 95) (.t 97)⟩, ⟨(some 6), none, .mv (.t 98)⟩]))))))))
  (.keep [1, 3, 5, 6, 26, 27, 28] (.reg [⟨(some 63), none, .mv (.t 3)⟩, ⟨(some 64), none, .bin .add (.t 63) (.c (.int .i64 (1)))⟩, ⟨(some 3), none, .mv (.t 64)⟩]))))) [1, 3, 5, 6, 26, 27, 28]
def A.rules_Right.L0 : AC := .post (.seq (.reg [⟨(some 29), none, .bin .lss (.t 28) (.t 27)⟩])
  (.keep [1, 3, 26, 27, 28, 29] (.seq (.cond (.t 29) .skip (.exit 0))
  (.keep [1, 3, 26, 27, 28] (.seq (.block 1 (.seq (.reg [⟨(some 30), none, .mv (.t 28)⟩, ⟨(some 31), none, .ia 2 (.t 26) (.t 28)⟩, ⟨(some 32), none, .load true 2 (.t 31)⟩, ⟨(some 5), none, .alloc [(.str []), (.int .i64 (0))]⟩, ⟨(some 4), none, .mv (.t 30)⟩, ⟨none, none, .store 2 (.t 5) (.t 32)⟩])
  (.keep [1, 3, 4, 5, 26, 27, 28] (.seq (.seq (.reg [⟨(some 33), none, .fa 0 (.t 5)⟩, ⟨(some 34), none, .load false 1 (.t 33)⟩, ⟨(some 35), none, .call (.c (.fn K.rules_token [] [])) [(.t 34), (.c (.int .i64 (1)))]⟩, ⟨(some 36), none, .un .not (.t 35)⟩, ⟨(some 37), none, .mv (.t 36)⟩, ⟨(some 38), (some (37, false)), .fa 0 (.t 1)⟩, ⟨(some 39), (some (37, false)), .load false 1 (.t 38)⟩, ⟨(some 40), (some (37, false)), .mv (.t 4)⟩, ⟨(some 41), (some (37, false)), .slc 2 (.t 39) none (some (.t 40))⟩, ⟨(some 42), (some (37, false)), .mkfn K.rules_Right_1 [] [(.t 5)]⟩, ⟨(some 43), (some (37, false)), .call (.c (.fn K.slices_ContainsFunc_Rule [] [])) [(.t 41), (.t 42)]⟩, ⟨(some 44), none, .pick (.t 37) (.c (.bool true)) (.t 43)⟩, ⟨(some 45), none, .mv (.t 44)⟩, ⟨(some 46), (some (45, false)), .fa 1 (.t 5)⟩, ⟨(some 47), (some (45, false)), .load false 1 (.t 46)⟩, ⟨(some 48), (some (45, false)), .mv (.t 3)⟩, ⟨(some 49), (some (45, false)), .bin .lss (.t 47) (.t 48)⟩, ⟨(some 50), none, .pick (.t 45) (.c (.bool true)) (.t 49)⟩, ⟨(some 51), none, .mv (.t 50)⟩, ⟨(some 52), (some (51, false)), .fa 1 (.t 5)⟩, ⟨(some 53), (some (51, false)), .load false 1 (.t 52)⟩, ⟨(some 54), (some (51, false)), .fa 1 (.t 1)⟩, ⟨(some 55), (some (51, false)), .load false 1 (.t 54)⟩, ⟨(some 56), (some (51, false)), .len false (.t 55)⟩, ⟨(some 57), (some (51, false)), .bin .geq (.t 53) (.t 56)⟩, ⟨(some 58), none, .pick (.t 51) (.c (.bool true)) (.t 57)⟩])
  (.keep [1, 3, 5, 26, 27, 28, 58] (.cond (.t 58) (.seq (.reg [⟨(some 2), none, .mv (.c (.bool false))⟩]) .ret) .skip)))
  (.keep [1, 3, 5, 26, 27, 28] (.seq (.reg [⟨(some 6), none, .mv (.c (.sl 0 1 []))⟩])
  (.keep [1, 3, 5, 6, 26, 27, 28] (.seq (.block 2 (.loop A.rules_Right.L1))
  (.keep [1, 3, 6, 26, 27, 28] (.seq (.reg [⟨(some 99), none, .mv (.t 6)⟩, ⟨(some 100), none, .len false (.t 99)⟩, ⟨(some 101), none, .bin .neq (.t 100) (.c (.int .i64 (1)))⟩])
  (.keep [1, 3, 26, 27, 28, 101] (.cond (.t 101) (.seq (.reg [⟨(some 2), none, .mv (.c (.bool false))⟩]) .ret) .skip))))))))))))
  (.keep [1, 3, 26, 27, 28] (.reg [⟨(some 102), none, .bin .add (.t 28) (.c (.int .i64 (1)))⟩, ⟨(some 28), none, .mv (.t 102)⟩]))))))) [1, 3, 26, 27, 28]
def A.rules_Right : AFn := ⟨108, [(2, none)], (.seq (.reg [⟨(some 1), none, .box (.t 0)⟩, ⟨(some 2), none, .mv (.c (.bool false))⟩])
  (.keep [1] (.seq (.seq (.reg [⟨(some 9), none, .fa 0 (.t 1)⟩, ⟨(some 10), none, .load false 1 (.t 9)⟩, ⟨(some 11), none, .len false (.t 10)⟩, ⟨(some 12), none, .bin .eql (.t 11) (.c (.int .i64 (0)))⟩, ⟨(some 13), none, .mv (.t 12)⟩, ⟨(some 14), (some (13, false)), .fa 0 (.t 1)⟩, ⟨(some 15), (some (13, false)), .load false 1 (.t 14)⟩, ⟨(some 16), (some (13, false)), .len false (.t 15)⟩, ⟨(some 17), (some (13, false)), .bin .gtr (.t 16) (.c (.int .i64 (24)))⟩, ⟨(some 18), none, .pick (.t 13) (.c (.bool true)) (.t 17)⟩, ⟨(some 19), none, .mv (.t 18)⟩, ⟨(some 20), (some (19, false)), .fa 1 (.t 1)⟩, ⟨(some 21), (some (19, false)), .load false 1 (.t 20)⟩, ⟨(some 22), (some (19, false)), .len false (.t 21)⟩, ⟨(some 23), (some (19, false)), .bin .gtr (.t 22) (.c (.int .i64 (200)))⟩, ⟨(some 24), none, .pick (.t 19) (.c (.bool true)) (.t 23)⟩])
  (.keep [1, 24] (.cond (.t 24) (.seq (.reg [⟨(some 2), none, .mv (.c (.bool false))⟩]) .ret) .skip)))
  (.keep [1] (.seq (.reg [⟨(some 3), none, .mv (.c (.int .i64 (0)))⟩])
  (.keep [1, 3] (.seq (.seq (.reg [⟨(some 25), none, .fa 0 (.t 1)⟩, ⟨(some 26), none, .load false 1 (.t 25)⟩, ⟨(some 27), none, .len false (.t 26)⟩, ⟨(some 28), none, .mv (.c (.int .i64 (0)))⟩])
  (.keep [1, 3, 26, 27, 28] (.block 0 (.loop A.rules_Right.L0))))
  (.keep [1, 3] (.seq (.reg [⟨(some 103), none, .mv (.t 3)⟩, ⟨(some 104), none, .fa 1 (.t 1)⟩, ⟨(some 105), none, .load false 1 (.t 104)⟩, ⟨(some 106), none, .len false (.t 105)⟩, ⟨(some 107), none, .bin .eql (.t 103) (.t 106)⟩, ⟨(some 2), none, .mv (.t 107)⟩]) .ret)))))))))⟩
def A.rules_Read : AFn := ⟨65, [(2, (some (true, 2))), (3, none), (4, none)], (.seq (.reg [⟨(some 2), none, .alloc [(.sl 0 1 []), (.sl 0 1 [])]⟩, ⟨(some 3), none, .mv (.c (.int .i64 (0)))⟩, ⟨(some 4), none, .mv (.c (.int .i64 (0)))⟩])
  (.keep [0, 2] (.seq (.reg [⟨(some 13), none, .mv (.t 0)⟩, ⟨(some 14), none, .call (.c (.fn K.scan_Scan [] [])) [(.t 13)]⟩, ⟨(some 12), none, .mv (.t 14)⟩, ⟨(some 15), none, .ext (.t 12) 0⟩, ⟨(some 16), none, .ext (.t 12) 1⟩, ⟨(some 17), none, .ext (.t 12) 2⟩, ⟨(some 5), none, .mv (.t 15)⟩, ⟨(some 6), none, .mv (.t 16)⟩, ⟨(some 7), none, .mv (.t 17)⟩])
  (.keep [0, 2, 5, 6, 7] (.seq (.seq (.reg [⟨(some 18), none, .mv (.t 7)⟩, ⟨(some 19), none, .bin .neq (.t 18) (.c (.int .i64 (0)))⟩])
  (.keep [0, 2, 5, 6, 7, 19] (.cond (.t 19) (.seq (.reg [⟨(some 20), none, .bld [(.sl 0 1 []), (.sl 0 1 [])] []⟩, ⟨(some 21), none, .mv (.t 6)⟩, ⟨(some 22), none, .mv (.t 7)⟩, ⟨none, none, .store 2 (.t 2) (.t 20)⟩, ⟨(some 3), none, .mv (.t 21)⟩, ⟨(some 4), none, .mv (.t 22)⟩]) .ret) .skip)))
  (.keep [0, 2, 5] (.seq (.reg [⟨(some 23), none, .mv (.t 5)⟩, ⟨(some 24), none, .mv (.t 0)⟩, ⟨(some 25), none, .len true (.t 24)⟩, ⟨(some 26), none, .bld [(.sl 0 1 []), (.int .i64 (0)), (.int .i64 (0)), (.sl 0 1 []), (.sl 0 1 []), (.sl 0 1 []), (.sl 0 1 [])] [(0, 1, (.t 23)), (2, 1, (.t 25))]⟩, ⟨(some 27), none, .box (.t 26)⟩, ⟨(some 8), none, .mv (.t 27)⟩])
  (.keep [2, 8] (.seq (.seq (.reg [⟨(some 28), none, .mv (.t 8)⟩, ⟨(some 29), none, .call (.c (.fn K.rules_reader_parse [] [])) [(.t 28)]⟩, ⟨(some 9), none, .mv (.t 29)⟩])
  (.keep [2, 8, 9] (.seq (.reg [⟨(some 30), none, .mv (.t 9)⟩, ⟨(some 31), none, .bin .geq (.t 30) (.c (.int .i64 (0)))⟩])
  (.keep [2, 8, 9, 31] (.cond (.t 31) (.seq (.reg [⟨(some 32), none, .bld [(.sl 0 1 []), (.sl 0 1 [])] []⟩, ⟨(some 33), none, .mv (.t 9)⟩, ⟨none, none, .store 2 (.t 2) (.t 32)⟩, ⟨(some 3), none, .mv (.t 33)⟩, ⟨(some 4), none, .mv (.c (.int .i64 (2)))⟩]) .ret) .skip)))))
  (.keep [2, 8] (.seq (.seq (.reg [⟨(some 34), none, .mv (.t 8)⟩, ⟨(some 35), none, .nilchk (.t 34)⟩, ⟨(some 36), none, .fa 3 (.t 35)⟩, ⟨(some 37), none, .fa 0 (.t 36)⟩, ⟨(some 38), none, .load false 1 (.t 37)⟩, ⟨(some 39), none, .len false (.t 38)⟩, ⟨(some 40), none, .bin .gtr (.t 39) (.c (.int .i64 (24)))⟩, ⟨(some 41), none, .mv (.t 40)⟩, ⟨(some 42), (some (41, false)), .mv (.t 8)⟩, ⟨(some 43), (some (41, false)), .nilchk (.t 42)⟩, ⟨(some 44), (some (41, false)), .fa 3 (.t 43)⟩, ⟨(some 45), (some (41, false)), .fa 1 (.t 44)⟩, ⟨(some 46), (some (41, false)), .load false 1 (.t 45)⟩, ⟨(some 47), (some (41, false)), .len false (.t 46)⟩, ⟨(some 48), (some (41, false)), .bin .gtr (.t 47) (.c (.int .i64 (200)))⟩, ⟨(some 49), none, .pick (.t 41) (.c (.bool true)) (.t 48)⟩])
  (.keep [2, 8, 49] (.cond (.t 49) (.seq (.reg [⟨(some 50), none, .bld [(.sl 0 1 []), (.sl 0 1 [])] []⟩, ⟨none, none, .store 2 (.t 2) (.t 50)⟩, ⟨(some 3), none, .mv (.c (.int .i64 (0)))⟩, ⟨(some 4), none, .mv (.c (.int .i64 (5)))⟩]) .ret) .skip)))
  (.keep [2, 8] (.seq (.seq (.reg [⟨(some 52), none, .mv (.t 8)⟩, ⟨(some 53), none, .call (.c (.fn K.rules_reader_names [] [])) [(.t 52)]⟩, ⟨(some 51), none, .mv (.t 53)⟩, ⟨(some 54), none, .ext (.t 51) 0⟩, ⟨(some 55), none, .ext (.t 51) 1⟩, ⟨(some 10), none, .mv (.t 54)⟩, ⟨(some 11), none, .mv (.t 55)⟩])
  (.keep [2, 8, 10, 11] (.seq (.reg [⟨(some 56), none, .mv (.t 11)⟩, ⟨(some 57), none, .bin .neq (.t 56) (.c (.int .i64 (0)))⟩])
  (.keep [2, 8, 10, 11, 57] (.cond (.t 57) (.seq (.reg [⟨(some 58), none, .bld [(.sl 0 1 []), (.sl 0 1 [])] []⟩, ⟨(some 59), none, .mv (.t 10)⟩, ⟨(some 60), none, .mv (.t 11)⟩, ⟨none, none, .store 2 (.t 2) (.t 58)⟩, ⟨(some 3), none, .mv (.t 59)⟩, ⟨(some 4), none, .mv (.t 60)⟩]) .ret) .skip)))))
  (.keep [2, 8] (.seq (.reg [⟨(some 61), none, .mv (.t 8)⟩, ⟨(some 62), none, .nilchk (.t 61)⟩, ⟨(some 63), none, .fa 3 (.t 62)⟩, ⟨(some 64), none, .load true 2 (.t 63)⟩, ⟨none, none, .store 2 (.t 2) (.t 64)⟩, ⟨(some 3), none, .mv (.c (.int .i64 (0)))⟩, ⟨(some 4), none, .mv (.c (.int .i64 (0)))⟩]) .ret)))))))))))))))⟩
def A.rules_Same : AFn := ⟨17, [(4, none)], (.seq (.reg [⟨(some 2), none, .box (.t 0)⟩, ⟨(some 3), none, .box (.t 1)⟩, ⟨(some 4), none, .mv (.c (.bool false))⟩])
  (.keep [2, 3] (.seq (.reg [⟨(some 5), none, .fa 0 (.t 2)⟩, ⟨(some 6), none, .load false 1 (.t 5)⟩, ⟨(some 7), none, .fa 0 (.t 3)⟩, ⟨(some 8), none, .load false 1 (.t 7)⟩, ⟨(some 9), none, .call (.c (.fn K.slices_Equal_Rule [] [])) [(.t 6), (.t 8)]⟩, ⟨(some 10), none, .mv (.t 9)⟩, ⟨(some 11), (some (10, true)), .fa 1 (.t 2)⟩, ⟨(some 12), (some (10, true)), .load false 1 (.t 11)⟩, ⟨(some 13), (some (10, true)), .fa 1 (.t 3)⟩, ⟨(some 14), (some (10, true)), .load false 1 (.t 13)⟩, ⟨(some 15), (some (10, true)), .call (.c (.fn K.slices_EqualFunc_Node [] [])) [(.t 12), (.t 14), (.c (.fn K.rules_Same_1 [] []))]⟩, ⟨(some 16), none, .pick (.t 10) (.t 15) (.c (.bool false))⟩, ⟨(some 4), none, .mv (.t 16)⟩]) .ret)))⟩
def A.rules_token : AFn := ⟨48, [(4, none)], (.seq (.reg [⟨(some 4), none, .mv (.c (.bool false))⟩])
  (.keep [0, 1] (.seq (.reg [⟨(some 9), none, .mv (.t 0)⟩, ⟨(some 10), none, .call (.c (.fn K.scan_Scan [] [])) [(.t 9)]⟩, ⟨(some 8), none, .mv (.t 10)⟩, ⟨(some 11), none, .ext (.t 8) 0⟩, ⟨(some 12), none, .ext (.t 8) 1⟩, ⟨(some 13), none, .ext (.t 8) 2⟩, ⟨(some 5), none, .mv (.t 11)⟩, ⟨(some 6), none, .mv (.t 12)⟩, ⟨(some 7), none, .mv (.t 13)⟩])
  (.keep [0, 1, 5, 7] (.seq (.reg [⟨(some 14), none, .mv (.t 7)⟩, ⟨(some 15), none, .bin .eql (.t 14) (.c (.int .i64 (0)))⟩, ⟨(some 16), none, .mv (.t 15)⟩, ⟨(some 17), (some (16, true)), .mv (.t 5)⟩, ⟨(some 18), (some (16, true)), .len false (.t 17)⟩, ⟨(some 19), (some (16, true)), .bin .eql (.t 18) (.c (.int .i64 (1)))⟩, ⟨(some 20), none, .pick (.t 16) (.t 19) (.c (.bool false))⟩, ⟨(some 21), none, .mv (.t 20)⟩, ⟨(some 22), (some (21, true)), .mv (.t 5)⟩, ⟨(some 23), (some (21, true)), .ia 3 (.t 22) (.c (.int .i64 (0)))⟩, ⟨(some 24), (some (21, true)), .fa 0 (.t 23)⟩, ⟨(some 25), (some (21, true)), .load false 1 (.t 24)⟩, ⟨(some 26), (some (21, true)), .mv (.t 1)⟩, ⟨(some 27), (some (21, true)), .bin .eql (.t 25) (.t 26)⟩, ⟨(some 28), none, .pick (.t 21) (.t 27) (.c (.bool false))⟩, ⟨(some 29), none, .mv (.t 28)⟩, ⟨(some 30), (some (29, true)), .mv (.t 5)⟩, ⟨(some 31), (some (29, true)), .ia 3 (.t 30) (.c (.int .i64 (0)))⟩, ⟨(some 32), (some (29, true)), .fa 2 (.t 31)⟩, ⟨(some 33), (some (29, true)), .load false 1 (.t 32)⟩, ⟨(some 34), (some (29, true)), .bin .eql (.t 33) (.c (.int .i64 (0)))⟩, ⟨(some 35), none, .pick (.t 29) (.t 34) (.c (.bool false))⟩, ⟨(some 36), none, .mv (.t 35)⟩, ⟨(some 37), (some (36, true)), .mv (.t 1)⟩, ⟨(some 38), (some (36, true)), .bin .eql (.t 37) (.c (.int .i64 (2)))⟩, ⟨(some 39), (some (36, true)), .mv (.t 38)⟩, ⟨(some 40), (some (39, false)), .mv (.t 5)⟩, ⟨(some 41), (some (39, false)), .ia 3 (.t 40) (.c (.int .i64 (0)))⟩, ⟨(some 42), (some (39, false)), .fa 1 (.t 41)⟩, ⟨(some 43), (some (39, false)), .load false 1 (.t 42)⟩, ⟨(some 44), (some (39, false)), .mv (.t 0)⟩, ⟨(some 45), (some (39, false)), .bin .eql (.t 43) (.t 44)⟩, ⟨(some 46), (some (36, true)), .pick (.t 39) (.c (.bool true)) (.t 45)⟩, ⟨(some 47), none, .pick (.t 36) (.t 46) (.c (.bool false))⟩, ⟨(some 4), none, .mv (.t 47)⟩]) .ret)))))⟩
def A.rules_Right_1 : AFn := ⟨9, [(3, none)], (.seq (.reg [⟨(some 2), none, .box (.t 0)⟩, ⟨(some 3), none, .mv (.c (.bool false))⟩])
  (.keep [1, 2] (.seq (.reg [⟨(some 4), none, .fa 0 (.t 2)⟩, ⟨(some 5), none, .load false 1 (.t 4)⟩, ⟨(some 6), none, .fa 0 (.t 1)⟩, ⟨(some 7), none, .load false 1 (.t 6)⟩, ⟨(some 8), none, .bin .eql (.t 5) (.t 7)⟩, ⟨(some 3), none, .mv (.t 8)⟩]) .ret)))⟩
def A.rules_Same_1 : AFn := ⟨24, [(4, none)], (.seq (.reg [⟨(some 2), none, .box (.t 0)⟩, ⟨(some 3), none, .box (.t 1)⟩, ⟨(some 4), none, .mv (.c (.bool false))⟩])
  (.keep [2, 3] (.seq (.reg [⟨(some 5), none, .fa 0 (.t 2)⟩, ⟨(some 6), none, .load false 1 (.t 5)⟩, ⟨(some 7), none, .fa 0 (.t 3)⟩, ⟨(some 8), none, .load false 1 (.t 7)⟩, ⟨(some 9), none, .bin .eql (.t 6) (.t 8)⟩, ⟨(some 10), none, .mv (.t 9)⟩, ⟨(some 11), (some (10, true)), .fa 1 (.t 2)⟩, ⟨(some 12), (some (10, true)), .load false 1 (.t 11)⟩, ⟨(some 13), (some (10, true)), .fa 1 (.t 3)⟩, ⟨(some 14), (some (10, true)), .load false 1 (.t 13)⟩, ⟨(some 15), (some (10, true)), .bin .eql (.t 12) (.t 14)⟩, ⟨(some 16), none, .pick (.t 10) (.t 15) (.c (.bool false))⟩, ⟨(some 17), none, .mv (.t 16)⟩, ⟨(some 18), (some (17, true)), .fa 2 (.t 2)⟩, ⟨(some 19), (some (17, true)), .load false 1 (.t 18)⟩, ⟨(some 20), (some (17, true)), .fa 2 (.t 3)⟩, ⟨(some 21), (some (17, true)), .load false 1 (.t 20)⟩, ⟨(some 22), (some (17, true)), .call (.c (.fn K.slices_Equal_int [] [])) [(.t 19), (.t 21)]⟩, ⟨(some 23), none, .pick (.t 17) (.t 22) (.c (.bool false))⟩, ⟨(some 4), none, .mv (.t 23)⟩]) .ret)))⟩
def A.rules_Tree_fine_1 : AFn := ⟨9, [(3, none)], (.seq (.reg [⟨(some 2), none, .box (.t 0)⟩, ⟨(some 3), none, .mv (.c (.bool false))⟩])
  (.keep [1, 2] (.seq (.reg [⟨(some 4), none, .fa 0 (.t 2)⟩, ⟨(some 5), none, .load false 1 (.t 4)⟩, ⟨(some 6), none, .fa 1 (.t 1)⟩, ⟨(some 7), none, .load false 1 (.t 6)⟩, ⟨(some 8), none, .bin .eql (.t 5) (.t 7)⟩, ⟨(some 3), none, .mv (.t 8)⟩]) .ret)))⟩
def A.rules_reader_text.L0 : AC := .post (.seq (.seq (.reg [⟨(some 5), none, .mv (.t 2)⟩])
  (.keep [0, 5] (.cond (.t 5) .skip (.exit 0))))
  (.keep [0] (.seq (.block 1 (.seq (.reg [⟨(some 16), none, .mv (.t 0)⟩, ⟨(some 17), none, .call (.c (.fn K.rules_reader_name [] [])) [(.t 16)]⟩, ⟨(some 3), none, .alloc [(.str []), (.int .i64 (0))]⟩, ⟨none, none, .store 2 (.t 3) (.t 17)⟩])
  (.keep [0, 3] (.seq (.draw [(.pl, ⟨(some 18), none, .mv (.t 0)⟩), (.pl, ⟨(some 19), none, .mv (.t 0)⟩), (.pl, ⟨(some 20), none, .nilchk (.t 19)⟩), (.pl, ⟨(some 21), none, .fa 5 (.t 20)⟩), (.pl, ⟨(some 22), none, .load false 1 (.t 21)⟩), (.pl, ⟨(some 23), none, .load true 2 (.t 3)⟩), (.pl, ⟨(some 24), none, .bsl 2 true [(.str []), (.int .i64 (0))] 1 [(0, (.t 23))]⟩), (.eff, ⟨(some 25), none, .app 2 24 (.t 22) (.t 24)⟩), (.pl, ⟨(some 26), none, .nilchk (.t 18)⟩), (.pl, ⟨(some 27), none, .fa 5 (.t 26)⟩), (.eff, ⟨none, none, .store 1 (.t 27) (.t 25)⟩)])
  (.keep [0, 3] (.seq (.reg [⟨(some 28), none, .mv (.t 0)⟩, ⟨(some 29), none, .call (.c (.fn K.rules_reader_must [] [])) [(.t 28), (.c (.str [58]))]⟩])
  (.keep [0, 3] (.seq (.reg [⟨(some 30), none, .mv (.t 0)⟩, ⟨(some 31), none, .call (.c (.fn K.rules_reader_alternatives [] [])) [(.t 30)]⟩, ⟨(some 4), none, .mv (.t 31)⟩])
  (.keep [0, 3, 4] (.seq (.reg [⟨(some 32), none, .mv (.t 0)⟩, ⟨(some 33), none, .call (.c (.fn K.rules_reader_must [] [])) [(.t 32), (.c (.str [59]))]⟩])
  (.keep [0, 3, 4] (.draw [(.pl, ⟨(some 34), none, .mv (.t 0)⟩), (.pl, ⟨(some 35), none, .mv (.t 0)⟩), (.pl, ⟨(some 36), none, .nilchk (.t 35)⟩), (.pl, ⟨(some 37), none, .fa 3 (.t 36)⟩), (.pl, ⟨(some 38), none, .fa 0 (.t 37)⟩), (.pl, ⟨(some 39), none, .load false 1 (.t 38)⟩), (.pl, ⟨(some 40), none, .fa 0 (.t 3)⟩), (.pl, ⟨(some 41), none, .load false 1 (.t 40)⟩), (.pl, ⟨(some 42), none, .mv (.t 4)⟩), (.pl, ⟨(some 43), none, .bld [(.str []), (.int .i64 (0))] [(0, 1, (.t 41)), (1, 1, (.t 42))]⟩), (.pl, ⟨(some 44), none, .bsl 2 true [(.str []), (.int .i64 (0))] 1 [(0, (.t 43))]⟩), (.eff, ⟨(some 45), none, .app 2 24 (.t 39) (.t 44)⟩), (.pl, ⟨(some 46), none, .nilchk (.t 34)⟩), (.pl, ⟨(some 47), none, .fa 3 (.t 46)⟩), (.pl, ⟨(some 48), none, .fa 0 (.t 47)⟩), (.eff, ⟨none, none, .store 1 (.t 48) (.t 45)⟩)]))))))))))))
  (.keep [0] (.draw [(.pl, ⟨(some 6), none, .mv (.t 0)⟩), (.pl, ⟨(some 7), none, .nilchk (.t 6)⟩), (.pl, ⟨(some 8), none, .fa 1 (.t 7)⟩), (.pl, ⟨(some 9), none, .load false 1 (.t 8)⟩), (.pl, ⟨(some 10), none, .mv (.t 0)⟩), (.pl, ⟨(some 11), none, .nilchk (.t 10)⟩), (.pl, ⟨(some 12), none, .fa 0 (.t 11)⟩), (.pl, ⟨(some 13), none, .load false 1 (.t 12)⟩), (.pl, ⟨(some 14), none, .len false (.t 13)⟩), (.pl, ⟨(some 15), none, .bin .lss (.t 9) (.t 14)⟩), (.pl, ⟨(some 2), none, .mv (.t 15)⟩)]))))) [0, 2]
def A.rules_reader_text : AFn := ⟨49, [], (.seq (.reg [⟨(some 2), none, .mv (.c (.bool true))⟩])
  (.keep [0, 2] (.block 0 (.loop A.rules_reader_text.L0))))⟩
def A.rules_reader_name : AFn := ⟨52, [(2, (some (true, 2)))], (.seq (.reg [⟨(some 2), none, .alloc [(.str []), (.int .i64 (0))]⟩])
  (.keep [0, 2] (.seq (.seq (.draw [(.pl, ⟨(some 4), none, .mv (.t 0)⟩), (.pl, ⟨(some 5), none, .nilchk (.t 4)⟩), (.pl, ⟨(some 6), none, .fa 1 (.t 5)⟩), (.pl, ⟨(some 7), none, .load false 1 (.t 6)⟩), (.pl, ⟨(some 8), none, .mv (.t 0)⟩), (.pl, ⟨(some 9), none, .nilchk (.t 8)⟩), (.pl, ⟨(some 10), none, .fa 0 (.t 9)⟩), (.pl, ⟨(some 11), none, .load false 1 (.t 10)⟩), (.pl, ⟨(some 12), none, .len false (.t 11)⟩), (.pl, ⟨(some 13), none, .bin .geq (.t 7) (.t 12)⟩), (.pl, ⟨(some 14), none, .mv (.t 13)⟩), (.pl, ⟨(some 15), (some (14, false)), .mv (.t 0)⟩), (.pl, ⟨(some 16), (some (14, false)), .nilchk (.t 15)⟩), (.pl, ⟨(some 17), (some (14, false)), .fa 0 (.t 16)⟩), (.pl, ⟨(some 18), (some (14, false)), .load false 1 (.t 17)⟩), (.pl, ⟨(some 19), (some (14, false)), .mv (.t 0)⟩), (.pl, ⟨(some 20), (some (14, false)), .nilchk (.t 19)⟩), (.pl, ⟨(some 21), (some (14, false)), .fa 1 (.t 20)⟩), (.pl, ⟨(some 22), (some (14, false)), .load false 1 (.t 21)⟩), (.pl, ⟨(some 23), (some (14, false)), .ia 3 (.t 18) (.t 22)⟩), (.pl, ⟨(some 24), (some (14, false)), .fa 0 (.t 23)⟩), (.pl, ⟨(some 25), (some (14, false)), .load false 1 (.t 24)⟩), (.pl, ⟨(some 26), (some (14, false)), .bin .neq (.t 25) (.c (.int .i64 (1)))⟩), (.pl, ⟨(some 27), none, .pick (.t 14) (.c (.bool true)) (.t 26)⟩)])
  (.keep [0, 2, 27] (.cond (.t 27) (.reg [⟨(some 28), none, .mv (.t 0)⟩, ⟨(some 29), none, .call (.c (.fn K.rules_reader_fail [] [])) [(.t 28)]⟩]) .skip)))
  (.keep [0, 2] (.seq (.draw [(.pl, ⟨(some 30), none, .mv (.t 0)⟩), (.pl, ⟨(some 31), none, .nilchk (.t 30)⟩), (.pl, ⟨(some 32), none, .fa 0 (.t 31)⟩), (.fl, ⟨(some 33), none, .load false 1 (.t 32)⟩), (.pl, ⟨(some 34), none, .mv (.t 0)⟩), (.pl, ⟨(some 35), none, .nilchk (.t 34)⟩), (.pl, ⟨(some 36), none, .fa 1 (.t 35)⟩), (.fl, ⟨(some 37), none, .load false 1 (.t 36)⟩), (.pl, ⟨(some 38), none, .ia 3 (.t 33) (.t 37)⟩), (.fl, ⟨(some 39), none, .load true 3 (.t 38)⟩), (.eff, ⟨(some 3), none, .alloc [(.int .i64 (0)), (.str []), (.int .i64 (0))]⟩), (.efo, ⟨none, none, .store 3 (.t 3) (.t 39)⟩)])
  (.keep [0, 2, 3] (.seq (.reg [⟨(some 40), none, .mv (.t 0)⟩, ⟨(some 41), none, .nilchk (.t 40)⟩, ⟨(some 42), none, .fa 1 (.t 41)⟩, ⟨(some 43), none, .load false 1 (.t 42)⟩, ⟨(some 44), none, .bin .add (.t 43) (.c (.int .i64 (1)))⟩, ⟨(some 45), none, .nilchk (.t 40)⟩, ⟨(some 46), none, .fa 1 (.t 45)⟩, ⟨none, none, .store 1 (.t 46) (.t 44)⟩])
  (.keep [2, 3] (.seq (.reg [⟨(some 47), none, .fa 1 (.t 3)⟩, ⟨(some 48), none, .load false 1 (.t 47)⟩, ⟨(some 49), none, .fa 2 (.t 3)⟩, ⟨(some 50), none, .load false 1 (.t 49)⟩, ⟨(some 51), none, .bld [(.str []), (.int .i64 (0))] [(0, 1, (.t 48)), (1, 1, (.t 50))]⟩, ⟨none, none, .store 2 (.t 2) (.t 51)⟩]) .ret)))))))))⟩
def A.rules_reader_must : AFn := ⟨10, [], (.seq (.reg [⟨(some 4), none, .mv (.t 0)⟩, ⟨(some 5), none, .mv (.t 1)⟩, ⟨(some 6), none, .call (.c (.fn K.rules_reader_take [] [])) [(.t 4), (.t 5)]⟩, ⟨(some 7), none, .un .not (.t 6)⟩])
  (.keep [0, 7] (.cond (.t 7) (.reg [⟨(some 8), none, .mv (.t 0)⟩, ⟨(some 9), none, .call (.c (.fn K.rules_reader_fail [] [])) [(.t 8)]⟩]) .skip)))⟩
def A.rules_reader_alternatives.L1 : AC := .post (.seq (.seq (.reg [⟨(some 9), none, .mv (.t 0)⟩, ⟨(some 10), none, .call (.c (.fn K.rules_reader_begins [] [])) [(.t 9)]⟩])
  (.keep [0, 3, 5, 10] (.cond (.t 10) .skip (.exit 2))))
  (.keep [0, 3, 5] (.block 3 (.reg [⟨(some 11), none, .mv (.t 5)⟩, ⟨(some 12), none, .mv (.t 0)⟩, ⟨(some 13), none, .call (.c (.fn K.rules_reader_item [] [])) [(.t 12)]⟩, ⟨(some 14), none, .bsl 1 false [(.int .i64 (0))] 1 [(0, (.t 13))]⟩, ⟨(some 15), none, .app 1 8 (.t 11) (.t 14)⟩, ⟨(some 5), none, .mv (.t 15)⟩])))) [0, 3, 5]
def A.rules_reader_alternatives.L0 : AC := .post (.seq (.seq (.reg [⟨(some 6), none, .mv (.t 4)⟩])
  (.keep [0, 3, 6] (.cond (.t 6) .skip (.exit 0))))
  (.keep [0, 3] (.seq (.block 1 (.seq (.reg [⟨(some 5), none, .mv (.c (.sl 0 1 []))⟩])
  (.keep [0, 3, 5] (.seq (.block 2 (.loop A.rules_reader_alternatives.L1))
  (.keep [0, 3, 5] (.reg [⟨(some 16), none, .mv (.t 3)⟩, ⟨(some 17), none, .mv (.t 0)⟩, ⟨(some 18), none, .mv (.t 5)⟩, ⟨(some 19), none, .call (.c (.fn K.rules_reader_one [] [])) [(.t 17), (.c (.int .i64 (1))), (.t 18)]⟩, ⟨(some 20), none, .bsl 1 false [(.int .i64 (0))] 1 [(0, (.t 19))]⟩, ⟨(some 21), none, .app 1 8 (.t 16) (.t 20)⟩, ⟨(some 3), none, .mv (.t 21)⟩]))))))
  (.keep [0, 3] (.reg [⟨(some 7), none, .mv (.t 0)⟩, ⟨(some 8), none, .call (.c (.fn K.rules_reader_take [] [])) [(.t 7), (.c (.str [124]))]⟩, ⟨(some 4), none, .mv (.t 8)⟩]))))) [0, 3, 4]
def A.rules_reader_alternatives : AFn := ⟨25, [(2, none)], (.seq (.reg [⟨(some 2), none, .mv (.c (.int .i64 (0)))⟩])
  (.keep [0] (.seq (.reg [⟨(some 3), none, .mv (.c (.sl 0 1 []))⟩])
  (.keep [0, 3] (.seq (.seq (.reg [⟨(some 4), none, .mv (.c (.bool true))⟩])
  (.keep [0, 3, 4] (.block 0 (.loop A.rules_reader_alternatives.L0))))
  (.keep [0, 3] (.seq (.reg [⟨(some 22), none, .mv (.t 0)⟩, ⟨(some 23), none, .mv (.t 3)⟩, ⟨(some 24), none, .call (.c (.fn K.rules_reader_one [] [])) [(.t 22), (.c (.int .i64 (2))), (.t 23)]⟩, ⟨(some 2), none, .mv (.t 24)⟩]) .ret)))))))⟩
def A.rules_reader_take : AFn := ⟨18, [(4, none)], (.seq (.reg [⟨(some 4), none, .mv (.c (.bool false))⟩])
  (.keep [0, 1] (.seq (.reg [⟨(some 6), none, .mv (.t 0)⟩, ⟨(some 7), none, .mv (.t 1)⟩, ⟨(some 8), none, .call (.c (.fn K.rules_reader_ahead [] [])) [(.t 6), (.t 7)]⟩, ⟨(some 5), none, .mv (.t 8)⟩])
  (.keep [0, 5] (.seq (.seq (.reg [⟨(some 9), none, .mv (.t 5)⟩])
  (.keep [0, 5, 9] (.cond (.t 9) (.reg [⟨(some 10), none, .mv (.t 0)⟩, ⟨(some 11), none, .nilchk (.t 10)⟩, ⟨(some 12), none, .fa 1 (.t 11)⟩, ⟨(some 13), none, .load false 1 (.t 12)⟩, ⟨(some 14), none, .bin .add (.t 13) (.c (.int .i64 (1)))⟩, ⟨(some 15), none, .nilchk (.t 10)⟩, ⟨(some 16), none, .fa 1 (.t 15)⟩, ⟨none, none, .store 1 (.t 16) (.t 14)⟩]) .skip)))
  (.keep [5] (.seq (.reg [⟨(some 17), none, .mv (.t 5)⟩, ⟨(some 4), none, .mv (.t 17)⟩]) .ret)))))))⟩
def A.rules_reader_begins : AFn := ⟨31, [(2, none)], (.seq (.reg [⟨(some 2), none, .mv (.c (.bool false))⟩])
  (.keep [0] (.seq (.draw [(.pl, ⟨(some 3), none, .mv (.t 0)⟩), (.pl, ⟨(some 4), none, .nilchk (.t 3)⟩), (.pl, ⟨(some 5), none, .fa 1 (.t 4)⟩), (.pl, ⟨(some 6), none, .load false 1 (.t 5)⟩), (.pl, ⟨(some 7), none, .mv (.t 0)⟩), (.pl, ⟨(some 8), none, .nilchk (.t 7)⟩), (.pl, ⟨(some 9), none, .fa 0 (.t 8)⟩), (.pl, ⟨(some 10), none, .load false 1 (.t 9)⟩), (.pl, ⟨(some 11), none, .len false (.t 10)⟩), (.pl, ⟨(some 12), none, .bin .lss (.t 6) (.t 11)⟩), (.pl, ⟨(some 13), none, .mv (.t 12)⟩), (.pl, ⟨(some 14), (some (13, true)), .mv (.t 0)⟩), (.pl, ⟨(some 15), (some (13, true)), .nilchk (.t 14)⟩), (.pl, ⟨(some 16), (some (13, true)), .fa 0 (.t 15)⟩), (.pl, ⟨(some 17), (some (13, true)), .load false 1 (.t 16)⟩), (.pl, ⟨(some 18), (some (13, true)), .mv (.t 0)⟩), (.pl, ⟨(some 19), (some (13, true)), .nilchk (.t 18)⟩), (.pl, ⟨(some 20), (some (13, true)), .fa 1 (.t 19)⟩), (.pl, ⟨(some 21), (some (13, true)), .load false 1 (.t 20)⟩), (.pl, ⟨(some 22), (some (13, true)), .ia 3 (.t 17) (.t 21)⟩), (.pl, ⟨(some 23), (some (13, true)), .fa 0 (.t 22)⟩), (.pl, ⟨(some 24), (some (13, true)), .load false 1 (.t 23)⟩), (.pl, ⟨(some 25), (some (13, true)), .bin .neq (.t 24) (.c (.int .i64 (3)))⟩), (.pl, ⟨(some 26), (some (13, true)), .mv (.t 25)⟩), (.pl, ⟨(some 27), (some (26, false)), .mv (.t 0)⟩), (.pl, ⟨(some 28), (some (26, false)), .call (.c (.fn K.rules_reader_ahead [] [])) [(.t 27), (.c (.str [40]))]⟩), (.pl, ⟨(some 29), (some (13, true)), .pick (.t 26) (.c (.bool true)) (.t 28)⟩), (.pl, ⟨(some 30), none, .pick (.t 13) (.t 29) (.c (.bool false))⟩), (.pl, ⟨(some 2), none, .mv (.t 30)⟩)]) .ret)))⟩
def A.rules_reader_item : AFn := ⟨28, [(2, none)], (.seq (.reg [⟨(some 2), none, .mv (.c (.int .i64 (0)))⟩])
  (.keep [0] (.seq (.reg [⟨(some 4), none, .mv (.t 0)⟩, ⟨(some 5), none, .call (.c (.fn K.rules_reader_atom [] [])) [(.t 4)]⟩, ⟨(some 3), none, .mv (.t 5)⟩])
  (.keep [0, 3] (.seq (.block 0 (.seq (.reg [⟨(some 7), none, .mv (.t 0)⟩, ⟨(some 8), none, .call (.c (.fn K.rules_reader_take [] [])) [(.t 7), (.c (.str [42]))]⟩, ⟨(some 6), none, .mv (.t 8)⟩])
  (.keep [0, 3, 6] (.cond (.t 6) (.seq (.reg [⟨(some 9), none, .mv (.t 0)⟩, ⟨(some 10), none, .mv (.t 3)⟩, ⟨(some 11), none, .bsl 1 false [(.int .i64 (0))] 1 [(0, (.t 10))]⟩, ⟨(some 12), none, .call (.c (.fn K.rules_reader_node [] [])) [(.t 9), (.c (.int .i64 (3))), (.c (.str [])), (.t 11)]⟩, ⟨(some 2), none, .mv (.t 12)⟩]) .ret) (.seq (.reg [⟨(some 14), none, .mv (.t 0)⟩, ⟨(some 15), none, .call (.c (.fn K.rules_reader_take [] [])) [(.t 14), (.c (.str [43]))]⟩, ⟨(some 13), none, .mv (.t 15)⟩])
  (.keep [0, 3, 13] (.cond (.t 13) (.seq (.reg [⟨(some 16), none, .mv (.t 0)⟩, ⟨(some 17), none, .mv (.t 3)⟩, ⟨(some 18), none, .bsl 1 false [(.int .i64 (0))] 1 [(0, (.t 17))]⟩, ⟨(some 19), none, .call (.c (.fn K.rules_reader_node [] [])) [(.t 16), (.c (.int .i64 (4))), (.c (.str [])), (.t 18)]⟩, ⟨(some 2), none, .mv (.t 19)⟩]) .ret) (.seq (.reg [⟨(some 21), none, .mv (.t 0)⟩, ⟨(some 22), none, .call (.c (.fn K.rules_reader_take [] [])) [(.t 21), (.c (.str [63]))]⟩, ⟨(some 20), none, .mv (.t 22)⟩])
  (.keep [0, 3, 20] (.cond (.t 20) (.seq (.reg [⟨(some 23), none, .mv (.t 0)⟩, ⟨(some 24), none, .mv (.t 3)⟩, ⟨(some 25), none, .bsl 1 false [(.int .i64 (0))] 1 [(0, (.t 24))]⟩, ⟨(some 26), none, .call (.c (.fn K.rules_reader_node [] [])) [(.t 23), (.c (.int .i64 (5))), (.c (.str [])), (.t 25)]⟩, ⟨(some 2), none, .mv (.t 26)⟩]) .ret) .skip))))))))))
  (.keep [3] (.seq (.reg [⟨(some 27), none, .mv (.t 3)⟩, ⟨(some 2), none, .mv (.t 27)⟩]) .ret)))))))⟩
def A.rules_reader_one : AFn := ⟨17, [(6, none)], (.seq (.reg [⟨(some 6), none, .mv (.c (.int .i64 (0)))⟩])
  (.keep [0, 1, 2] (.seq (.seq (.reg [⟨(some 7), none, .mv (.t 2)⟩, ⟨(some 8), none, .len false (.t 7)⟩, ⟨(some 9), none, .bin .eql (.t 8) (.c (.int .i64 (1)))⟩])
  (.keep [0, 1, 2, 9] (.cond (.t 9) (.seq (.reg [⟨(some 10), none, .mv (.t 2)⟩, ⟨(some 11), none, .ia 1 (.t 10) (.c (.int .i64 (0)))⟩, ⟨(some 12), none, .load false 1 (.t 11)⟩, ⟨(some 6), none, .mv (.t 12)⟩]) .ret) .skip)))
  (.keep [0, 1, 2] (.seq (.reg [⟨(some 13), none, .mv (.t 0)⟩, ⟨(some 14), none, .mv (.t 1)⟩, ⟨(some 15), none, .mv (.t 2)⟩, ⟨(some 16), none, .call (.c (.fn K.rules_reader_node [] [])) [(.t 13), (.t 14), (.c (.str [])), (.t 15)]⟩, ⟨(some 6), none, .mv (.t 16)⟩]) .ret)))))⟩
def A.rules_reader_ahead : AFn := ⟨44, [(4, none)], (.seq (.reg [⟨(some 4), none, .mv (.c (.bool false))⟩])
  (.keep [0, 1] (.seq (.draw [(.pl, ⟨(some 5), none, .mv (.t 0)⟩), (.pl, ⟨(some 6), none, .nilchk (.t 5)⟩), (.pl, ⟨(some 7), none, .fa 1 (.t 6)⟩), (.pl, ⟨(some 8), none, .load false 1 (.t 7)⟩), (.pl, ⟨(some 9), none, .mv (.t 0)⟩), (.pl, ⟨(some 10), none, .nilchk (.t 9)⟩), (.pl, ⟨(some 11), none, .fa 0 (.t 10)⟩), (.pl, ⟨(some 12), none, .load false 1 (.t 11)⟩), (.pl, ⟨(some 13), none, .len false (.t 12)⟩), (.pl, ⟨(some 14), none, .bin .lss (.t 8) (.t 13)⟩), (.pl, ⟨(some 15), none, .mv (.t 14)⟩), (.pl, ⟨(some 16), (some (15, true)), .mv (.t 0)⟩), (.pl, ⟨(some 17), (some (15, true)), .nilchk (.t 16)⟩), (.pl, ⟨(some 18), (some (15, true)), .fa 0 (.t 17)⟩), (.pl, ⟨(some 19), (some (15, true)), .load false 1 (.t 18)⟩), (.pl, ⟨(some 20), (some (15, true)), .mv (.t 0)⟩), (.pl, ⟨(some 21), (some (15, true)), .nilchk (.t 20)⟩), (.pl, ⟨(some 22), (some (15, true)), .fa 1 (.t 21)⟩), (.pl, ⟨(some 23), (some (15, true)), .load false 1 (.t 22)⟩), (.pl, ⟨(some 24), (some (15, true)), .ia 3 (.t 19) (.t 23)⟩), (.pl, ⟨(some 25), (some (15, true)), .fa 0 (.t 24)⟩), (.pl, ⟨(some 26), (some (15, true)), .load false 1 (.t 25)⟩), (.pl, ⟨(some 27), (some (15, true)), .bin .eql (.t 26) (.c (.int .i64 (3)))⟩), (.pl, ⟨(some 28), none, .pick (.t 15) (.t 27) (.c (.bool false))⟩), (.pl, ⟨(some 29), none, .mv (.t 28)⟩), (.pl, ⟨(some 30), (some (29, true)), .mv (.t 0)⟩), (.pl, ⟨(some 31), (some (29, true)), .nilchk (.t 30)⟩), (.pl, ⟨(some 32), (some (29, true)), .fa 0 (.t 31)⟩), (.pl, ⟨(some 33), (some (29, true)), .load false 1 (.t 32)⟩), (.pl, ⟨(some 34), (some (29, true)), .mv (.t 0)⟩), (.pl, ⟨(some 35), (some (29, true)), .nilchk (.t 34)⟩), (.pl, ⟨(some 36), (some (29, true)), .fa 1 (.t 35)⟩), (.pl, ⟨(some 37), (some (29, true)), .load false 1 (.t 36)⟩), (.pl, ⟨(some 38), (some (29, true)), .ia 3 (.t 33) (.t 37)⟩), (.pl, ⟨(some 39), (some (29, true)), .fa 1 (.t 38)⟩), (.pl, ⟨(some 40), (some (29, true)), .load false 1 (.t 39)⟩), (.pl, ⟨(some 41), (some (29, true)), .mv (.t 1)⟩), (.pl, ⟨(some 42), (some (29, true)), .bin .eql (.t 40) (.t 41)⟩), (.pl, ⟨(some 43), none, .pick (.t 29) (.t 42) (.c (.bool false))⟩), (.pl, ⟨(some 4), none, .mv (.t 43)⟩)]) .ret)))⟩
def A.rules_reader_atom : AFn := ⟨53, [(2, none)], (.seq (.reg [⟨(some 2), none, .mv (.c (.int .i64 (0)))⟩])
  (.keep [0] (.seq (.seq (.reg [⟨(some 6), none, .mv (.t 0)⟩, ⟨(some 7), none, .call (.c (.fn K.rules_reader_take [] [])) [(.t 6), (.c (.str [40]))]⟩])
  (.keep [0, 7] (.cond (.t 7) (.seq (.reg [⟨(some 8), none, .mv (.t 0)⟩, ⟨(some 9), none, .call (.c (.fn K.rules_reader_alternatives [] [])) [(.t 8)]⟩, ⟨(some 3), none, .mv (.t 9)⟩])
  (.keep [0, 3] (.seq (.reg [⟨(some 10), none, .mv (.t 0)⟩, ⟨(some 11), none, .call (.c (.fn K.rules_reader_must [] [])) [(.t 10), (.c (.str [41]))]⟩])
  (.keep [3] (.seq (.reg [⟨(some 12), none, .mv (.t 3)⟩, ⟨(some 2), none, .mv (.t 12)⟩]) .ret))))) .skip)))
  (.keep [0] (.seq (.seq (.draw [(.pl, ⟨(some 13), none, .mv (.t 0)⟩), (.pl, ⟨(some 14), none, .nilchk (.t 13)⟩), (.pl, ⟨(some 15), none, .fa 0 (.t 14)⟩), (.fl, ⟨(some 16), none, .load false 1 (.t 15)⟩), (.pl, ⟨(some 17), none, .mv (.t 0)⟩), (.pl, ⟨(some 18), none, .nilchk (.t 17)⟩), (.pl, ⟨(some 19), none, .fa 1 (.t 18)⟩), (.fl, ⟨(some 20), none, .load false 1 (.t 19)⟩), (.pl, ⟨(some 21), none, .ia 3 (.t 16) (.t 20)⟩), (.fl, ⟨(some 22), none, .load true 3 (.t 21)⟩), (.eff, ⟨(some 4), none, .alloc [(.int .i64 (0)), (.str []), (.int .i64 (0))]⟩), (.efo, ⟨none, none, .store 3 (.t 4) (.t 22)⟩)])
  (.keep [0, 4] (.seq (.reg [⟨(some 23), none, .fa 0 (.t 4)⟩, ⟨(some 24), none, .load false 1 (.t 23)⟩, ⟨(some 25), none, .bin .eql (.t 24) (.c (.int .i64 (2)))⟩])
  (.keep [0, 4, 25] (.cond (.t 25) (.seq (.reg [⟨(some 26), none, .mv (.t 0)⟩, ⟨(some 27), none, .nilchk (.t 26)⟩, ⟨(some 28), none, .fa 1 (.t 27)⟩, ⟨(some 29), none, .load false 1 (.t 28)⟩, ⟨(some 30), none, .bin .add (.t 29) (.c (.int .i64 (1)))⟩, ⟨(some 31), none, .nilchk (.t 26)⟩, ⟨(some 32), none, .fa 1 (.t 31)⟩, ⟨none, none, .store 1 (.t 32) (.t 30)⟩])
  (.keep [0, 4] (.seq (.reg [⟨(some 33), none, .mv (.t 0)⟩, ⟨(some 34), none, .fa 1 (.t 4)⟩, ⟨(some 35), none, .load false 1 (.t 34)⟩, ⟨(some 36), none, .call (.c (.fn K.rules_reader_node [] [])) [(.t 33), (.c (.int .i64 (7))), (.t 35), (.c (.sl 0 1 []))]⟩, ⟨(some 2), none, .mv (.t 36)⟩]) .ret))) .skip)))))
  (.keep [0] (.seq (.reg [⟨(some 37), none, .mv (.t 0)⟩, ⟨(some 38), none, .call (.c (.fn K.rules_reader_name [] [])) [(.t 37)]⟩, ⟨(some 5), none, .alloc [(.str []), (.int .i64 (0))]⟩, ⟨none, none, .store 2 (.t 5) (.t 38)⟩])
  (.keep [0, 5] (.seq (.draw [(.pl, ⟨(some 39), none, .mv (.t 0)⟩), (.pl, ⟨(some 40), none, .mv (.t 0)⟩), (.pl, ⟨(some 41), none, .nilchk (.t 40)⟩), (.pl, ⟨(some 42), none, .fa 6 (.t 41)⟩), (.pl, ⟨(some 43), none, .load false 1 (.t 42)⟩), (.pl, ⟨(some 44), none, .load true 2 (.t 5)⟩), (.pl, ⟨(some 45), none, .bsl 2 true [(.str []), (.int .i64 (0))] 1 [(0, (.t 44))]⟩), (.eff, ⟨(some 46), none, .app 2 24 (.t 43) (.t 45)⟩), (.pl, ⟨(some 47), none, .nilchk (.t 39)⟩), (.pl, ⟨(some 48), none, .fa 6 (.t 47)⟩), (.eff, ⟨none, none, .store 1 (.t 48) (.t 46)⟩)])
  (.keep [0, 5] (.seq (.reg [⟨(some 49), none, .mv (.t 0)⟩, ⟨(some 50), none, .fa 0 (.t 5)⟩, ⟨(some 51), none, .load false 1 (.t 50)⟩, ⟨(some 52), none, .call (.c (.fn K.rules_reader_node [] [])) [(.t 49), (.c (.int .i64 (6))), (.t 51), (.c (.sl 0 1 []))]⟩, ⟨(some 2), none, .mv (.t 52)⟩]) .ret)))))))))))⟩
def A.rules_reader_node : AFn := ⟨31, [(8, none)], (.seq (.reg [⟨(some 8), none, .mv (.c (.int .i64 (0)))⟩])
  (.keep [0, 1, 2, 3] (.seq (.reg [⟨(some 9), none, .mv (.t 0)⟩, ⟨(some 10), none, .mv (.t 0)⟩, ⟨(some 11), none, .nilchk (.t 10)⟩, ⟨(some 12), none, .fa 3 (.t 11)⟩, ⟨(some 13), none, .fa 1 (.t 12)⟩, ⟨(some 14), none, .load false 1 (.t 13)⟩, ⟨(some 15), none, .mv (.t 1)⟩, ⟨(some 16), none, .mv (.t 2)⟩, ⟨(some 17), none, .mv (.t 3)⟩, ⟨(some 18), none, .bld [(.int .i64 (0)), (.str []), (.sl 0 1 [])] [(0, 1, (.t 15)), (1, 1, (.t 16)), (2, 1, (.t 17))]⟩, ⟨(some 19), none, .bsl 3 true [(.int .i64 (0)), (.str []), (.sl 0 1 [])] 1 [(0, (.t 18))]⟩, ⟨(some 20), none, .app 3 48 (.t 14) (.t 19)⟩, ⟨(some 21), none, .nilchk (.t 9)⟩, ⟨(some 22), none, .fa 3 (.t 21)⟩, ⟨(some 23), none, .fa 1 (.t 22)⟩, ⟨none, none, .store 1 (.t 23) (.t 20)⟩])
  (.keep [0] (.seq (.reg [⟨(some 24), none, .mv (.t 0)⟩, ⟨(some 25), none, .nilchk (.t 24)⟩, ⟨(some 26), none, .fa 3 (.t 25)⟩, ⟨(some 27), none, .fa 1 (.t 26)⟩, ⟨(some 28), none, .load false 1 (.t 27)⟩, ⟨(some 29), none, .len false (.t 28)⟩, ⟨(some 30), none, .bin .sub (.t 29) (.c (.int .i64 (1)))⟩, ⟨(some 8), none, .mv (.t 30)⟩]) .ret)))))⟩
def A.rules_Tree_fine : AFn := ⟨68, [(4, none)], (.seq (.reg [⟨(some 2), none, .box (.t 0)⟩, ⟨(some 3), none, .box (.t 1)⟩, ⟨(some 4), none, .mv (.c (.bool false))⟩])
  (.keep [2, 3] (.seq (.reg [⟨(some 6), none, .fa 2 (.t 3)⟩, ⟨(some 7), none, .load false 1 (.t 6)⟩, ⟨(some 8), none, .len false (.t 7)⟩, ⟨(some 5), none, .mv (.t 8)⟩])
  (.keep [2, 3, 5] (.seq (.seq (.reg [⟨(some 9), none, .fa 0 (.t 3)⟩, ⟨(some 10), none, .load false 1 (.t 9)⟩])
  (.keep [2, 3, 5, 10] (.block 0 (.seq (.reg [⟨(some 12), none, .bin .eql (.t 10) (.c (.int .i64 (1)))⟩, ⟨(some 11), none, .mv (.t 12)⟩])
  (.keep [2, 3, 5, 10, 11] (.cond (.t 11) (.seq (.reg [⟨(some 13), none, .fa 1 (.t 3)⟩, ⟨(some 14), none, .load false 1 (.t 13)⟩, ⟨(some 15), none, .bin .eql (.t 14) (.c (.str []))⟩, ⟨(some 16), none, .mv (.t 15)⟩, ⟨(some 17), (some (16, true)), .mv (.t 5)⟩, ⟨(some 18), (some (16, true)), .bin .neq (.t 17) (.c (.int .i64 (1)))⟩, ⟨(some 19), none, .pick (.t 16) (.t 18) (.c (.bool false))⟩, ⟨(some 4), none, .mv (.t 19)⟩]) .ret) (.seq (.reg [⟨(some 21), none, .bin .eql (.t 10) (.c (.int .i64 (2)))⟩, ⟨(some 20), none, .mv (.t 21)⟩])
  (.keep [2, 3, 5, 10, 20] (.cond (.t 20) (.seq (.reg [⟨(some 22), none, .fa 1 (.t 3)⟩, ⟨(some 23), none, .load false 1 (.t 22)⟩, ⟨(some 24), none, .bin .eql (.t 23) (.c (.str []))⟩, ⟨(some 25), none, .mv (.t 24)⟩, ⟨(some 26), (some (25, true)), .mv (.t 5)⟩, ⟨(some 27), (some (25, true)), .bin .gtr (.t 26) (.c (.int .i64 (1)))⟩, ⟨(some 28), none, .pick (.t 25) (.t 27) (.c (.bool false))⟩, ⟨(some 4), none, .mv (.t 28)⟩]) .ret) (.seq (.seq (.reg [⟨(some 30), none, .bin .eql (.t 10) (.c (.int .i64 (3)))⟩, ⟨(some 29), none, .mv (.t 30)⟩])
  (.keep [2, 3, 5, 10, 29] (.cond (.t 29) .skip (.seq (.reg [⟨(some 31), none, .bin .eql (.t 10) (.c (.int .i64 (4)))⟩, ⟨(some 29), none, .mv (.t 31)⟩])
  (.keep [2, 3, 5, 10, 29] (.cond (.t 29) .skip (.reg [⟨(some 32), none, .bin .eql (.t 10) (.c (.int .i64 (5)))⟩, ⟨(some 29), none, .mv (.t 32)⟩])))))))
  (.keep [2, 3, 5, 10, 29] (.cond (.t 29) (.seq (.reg [⟨(some 33), none, .fa 1 (.t 3)⟩, ⟨(some 34), none, .load false 1 (.t 33)⟩, ⟨(some 35), none, .bin .eql (.t 34) (.c (.str []))⟩, ⟨(some 36), none, .mv (.t 35)⟩, ⟨(some 37), (some (36, true)), .mv (.t 5)⟩, ⟨(some 38), (some (36, true)), .bin .eql (.t 37) (.c (.int .i64 (1)))⟩, ⟨(some 39), none, .pick (.t 36) (.t 38) (.c (.bool false))⟩, ⟨(some 4), none, .mv (.t 39)⟩]) .ret) (.seq (.reg [⟨(some 41), none, .bin .eql (.t 10) (.c (.int .i64 (6)))⟩, ⟨(some 40), none, .mv (.t 41)⟩])
  (.keep [2, 3, 5, 10, 40] (.cond (.t 40) (.seq (.reg [⟨(some 42), none, .mv (.t 5)⟩, ⟨(some 43), none, .bin .eql (.t 42) (.c (.int .i64 (0)))⟩, ⟨(some 44), none, .mv (.t 43)⟩, ⟨(some 45), (some (44, true)), .fa 0 (.t 2)⟩, ⟨(some 46), (some (44, true)), .load false 1 (.t 45)⟩, ⟨(some 47), (some (44, true)), .mkfn K.rules_Tree_fine_1 [] [(.t 3)]⟩, ⟨(some 48), (some (44, true)), .call (.c (.fn K.slices_ContainsFunc_Rule [] [])) [(.t 46), (.t 47)]⟩, ⟨(some 49), none, .pick (.t 44) (.t 48) (.c (.bool false))⟩, ⟨(some 4), none, .mv (.t 49)⟩]) .ret) (.seq (.reg [⟨(some 51), none, .bin .eql (.t 10) (.c (.int .i64 (7)))⟩, ⟨(some 50), none, .mv (.t 51)⟩])
  (.keep [3, 5, 50] (.cond (.t 50) (.seq (.reg [⟨(some 52), none, .mv (.t 5)⟩, ⟨(some 53), none, .bin .eql (.t 52) (.c (.int .i64 (0)))⟩, ⟨(some 54), none, .mv (.t 53)⟩, ⟨(some 55), (some (54, true)), .fa 1 (.t 3)⟩, ⟨(some 56), (some (54, true)), .load false 1 (.t 55)⟩, ⟨(some 57), (some (54, true)), .s2b (.t 56)⟩, ⟨(some 58), (some (54, true)), .call (.c (.fn K.slices_Contains_byte [] [])) [(.t 57), (.c (.int .u8 (39)))]⟩, ⟨(some 59), (some (54, true)), .un .not (.t 58)⟩, ⟨(some 60), none, .pick (.t 54) (.t 59) (.c (.bool false))⟩, ⟨(some 61), none, .mv (.t 60)⟩, ⟨(some 62), (some (61, true)), .fa 1 (.t 3)⟩, ⟨(some 63), (some (61, true)), .load false 1 (.t 62)⟩, ⟨(some 64), (some (61, true)), .bin .add (.c (.str [39])) (.t 63)⟩, ⟨(some 65), (some (61, true)), .bin .add (.t 64) (.c (.str [39]))⟩, ⟨(some 66), (some (61, true)), .call (.c (.fn K.rules_token [] [])) [(.t 65), (.c (.int .i64 (2)))]⟩, ⟨(some 67), none, .pick (.t 61) (.t 66) (.c (.bool false))⟩, ⟨(some 4), none, .mv (.t 67)⟩]) .ret) .skip))))))))))))))))))
  (.keep [] (.seq (.reg [⟨(some 4), none, .mv (.c (.bool false))⟩]) .ret)))))))⟩
def A.rules_reader_names.L0 : AC := .post (.seq (.reg [⟨(some 16), none, .bin .lss (.t 15) (.t 14)⟩])
  (.keep [0, 4, 13, 14, 15, 16] (.seq (.cond (.t 16) .skip (.exit 0))
  (.keep [0, 4, 13, 14, 15] (.seq (.block 1 (.seq (.reg [⟨(some 17), none, .ia 2 (.t 13) (.t 15)⟩, ⟨(some 18), none, .load true 2 (.t 17)⟩, ⟨(some 6), none, .alloc [(.str []), (.int .i64 (0))]⟩, ⟨none, none, .store 2 (.t 6) (.t 18)⟩])
  (.keep [0, 4, 6, 13, 14, 15] (.seq (.reg [⟨(some 19), none, .mv (.t 4)⟩, ⟨(some 20), none, .fa 0 (.t 6)⟩, ⟨(some 21), none, .load false 1 (.t 20)⟩, ⟨(some 22), none, .lkp .s (.int .i64 (0)) false (.t 19) (.t 21)⟩, ⟨(some 23), none, .bin .add (.t 22) (.c (.int .i64 (1)))⟩, ⟨none, none, .mupd .s (.t 19) (.t 21) (.t 23)⟩])
  (.keep [0, 4, 6, 13, 14, 15] (.seq (.reg [⟨(some 24), none, .mv (.t 4)⟩, ⟨(some 25), none, .fa 0 (.t 6)⟩, ⟨(some 26), none, .load false 1 (.t 25)⟩, ⟨(some 27), none, .lkp .s (.int .i64 (0)) false (.t 24) (.t 26)⟩, ⟨(some 28), none, .bin .gtr (.t 27) (.c (.int .i64 (1)))⟩])
  (.keep [0, 4, 6, 13, 14, 15, 28] (.cond (.t 28) (.seq (.reg [⟨(some 29), none, .fa 1 (.t 6)⟩, ⟨(some 30), none, .load false 1 (.t 29)⟩, ⟨(some 2), none, .mv (.t 30)⟩, ⟨(some 3), none, .mv (.c (.int .i64 (7)))⟩]) .ret) .skip))))))))
  (.keep [0, 4, 13, 14, 15] (.reg [⟨(some 31), none, .bin .add (.t 15) (.c (.int .i64 (1)))⟩, ⟨(some 15), none, .mv (.t 31)⟩]))))))) [0, 4, 13, 14, 15]
def A.rules_reader_names.L1 : AC := .post (.seq (.reg [⟨(some 38), none, .bin .lss (.t 37) (.t 36)⟩])
  (.keep [4, 35, 36, 37, 38] (.seq (.cond (.t 38) .skip (.exit 2))
  (.keep [4, 35, 36, 37] (.seq (.block 3 (.seq (.reg [⟨(some 39), none, .ia 2 (.t 35) (.t 37)⟩, ⟨(some 40), none, .load true 2 (.t 39)⟩, ⟨(some 8), none, .alloc [(.str []), (.int .i64 (0))]⟩, ⟨none, none, .store 2 (.t 8) (.t 40)⟩])
  (.keep [4, 8, 35, 36, 37] (.seq (.reg [⟨(some 41), none, .mv (.t 4)⟩, ⟨(some 42), none, .fa 0 (.t 8)⟩, ⟨(some 43), none, .load false 1 (.t 42)⟩, ⟨(some 44), none, .lkp .s (.int .i64 (0)) false (.t 41) (.t 43)⟩, ⟨(some 45), none, .bin .eql (.t 44) (.c (.int .i64 (0)))⟩])
  (.keep [4, 8, 35, 36, 37, 45] (.cond (.t 45) (.seq (.reg [⟨(some 46), none, .fa 1 (.t 8)⟩, ⟨(some 47), none, .load false 1 (.t 46)⟩, ⟨(some 2), none, .mv (.t 47)⟩, ⟨(some 3), none, .mv (.c (.int .i64 (6)))⟩]) .ret) .skip))))))
  (.keep [4, 35, 36, 37] (.reg [⟨(some 48), none, .bin .add (.t 37) (.c (.int .i64 (1)))⟩, ⟨(some 37), none, .mv (.t 48)⟩]))))))) [4, 35, 36, 37]
def A.rules_reader_names : AFn := ⟨49, [(2, none), (3, none)], (.seq (.reg [⟨(some 2), none, .mv (.c (.int .i64 (0)))⟩, ⟨(some 3), none, .mv (.c (.int .i64 (0)))⟩])
  (.keep [0] (.seq (.reg [⟨(some 9), none, .mkm⟩, ⟨(some 4), none, .mv (.t 9)⟩])
  (.keep [0, 4] (.seq (.seq (.reg [⟨(some 10), none, .mv (.t 0)⟩, ⟨(some 11), none, .nilchk (.t 10)⟩, ⟨(some 12), none, .fa 5 (.t 11)⟩, ⟨(some 13), none, .load false 1 (.t 12)⟩, ⟨(some 14), none, .len false (.t 13)⟩, ⟨(some 15), none, .mv (.c (.int .i64 (0)))⟩])
  (.keep [0, 4, 13, 14, 15] (.block 0 (.loop A.rules_reader_names.L0))))
  (.keep [0, 4] (.seq (.seq (.reg [⟨(some 32), none, .mv (.t 0)⟩, ⟨(some 33), none, .nilchk (.t 32)⟩, ⟨(some 34), none, .fa 6 (.t 33)⟩, ⟨(some 35), none, .load false 1 (.t 34)⟩, ⟨(some 36), none, .len false (.t 35)⟩, ⟨(some 37), none, .mv (.c (.int .i64 (0)))⟩])
  (.keep [4, 35, 36, 37] (.block 2 (.loop A.rules_reader_names.L1))))
  (.keep [] (.seq (.reg [⟨(some 2), none, .mv (.c (.int .i64 (0)))⟩, ⟨(some 3), none, .mv (.c (.int .i64 (0)))⟩]) .ret)))))))))⟩
def A.rules_reader_fail : AFn := ⟨29, [], (.seq (.seq (.draw [(.pl, ⟨(some 2), none, .mv (.t 0)⟩), (.pl, ⟨(some 3), none, .nilchk (.t 2)⟩), (.pl, ⟨(some 4), none, .fa 1 (.t 3)⟩), (.pl, ⟨(some 5), none, .load false 1 (.t 4)⟩), (.pl, ⟨(some 6), none, .mv (.t 0)⟩), (.pl, ⟨(some 7), none, .nilchk (.t 6)⟩), (.pl, ⟨(some 8), none, .fa 0 (.t 7)⟩), (.pl, ⟨(some 9), none, .load false 1 (.t 8)⟩), (.pl, ⟨(some 10), none, .len false (.t 9)⟩), (.pl, ⟨(some 11), none, .bin .lss (.t 5) (.t 10)⟩)])
  (.keep [0, 11] (.cond (.t 11) (.drawP [(.pl, ⟨(some 12), none, .mv (.t 0)⟩), (.pl, ⟨(some 13), none, .nilchk (.t 12)⟩), (.pl, ⟨(some 14), none, .fa 0 (.t 13)⟩), (.pl, ⟨(some 15), none, .load false 1 (.t 14)⟩), (.pl, ⟨(some 16), none, .mv (.t 0)⟩), (.pl, ⟨(some 17), none, .nilchk (.t 16)⟩), (.pl, ⟨(some 18), none, .fa 1 (.t 17)⟩), (.pl, ⟨(some 19), none, .load false 1 (.t 18)⟩), (.pl, ⟨(some 20), none, .ia 3 (.t 15) (.t 19)⟩), (.pl, ⟨(some 21), none, .fa 2 (.t 20)⟩), (.pl, ⟨(some 22), none, .load false 1 (.t 21)⟩), (.pl, ⟨(some 23), none, .mkif 107 (.t 22)⟩), (.eff, ⟨none, none, .call (.c (.fn 0 [] [])) [(.t 23)]⟩)]) .skip)))
  (.keep [0] (.reg [⟨(some 24), none, .mv (.t 0)⟩, ⟨(some 25), none, .nilchk (.t 24)⟩, ⟨(some 26), none, .fa 2 (.t 25)⟩, ⟨(some 27), none, .load false 1 (.t 26)⟩, ⟨(some 28), none, .mkif 107 (.t 27)⟩, ⟨none, none, .call (.c (.fn 0 [] [])) [(.t 28)]⟩])))⟩
end Go.Proofs.Ytdbbgkdepjidjaa.Al
namespace Go.Proofs.Ytdbbgkdepjidjaa.Al
open Go Go.RowKit
set_option linter.unusedSimpArgs false
set_option linter.unusedVariables false
attribute [-simp] List.getD_eq_getElem?_getD Int.not_lt Int.not_le List.map_take
/-- A node, a rule, a tree. -/
structure Nd where
  kind : Int
  name : Str
  kids : List Int
  deriving DecidableEq
structure Rl where
  name : Str
  body : Int
  deriving DecidableEq
structure Te where
  rules : List Rl
  nodes : List Nd
  deriving DecidableEq
def ndC (n : Nd) : List V := [.int .i64 n.kind, .str n.name, .sl 1 0 (ints n.kids)]
def ndV (n : Nd) : V := .agg (ndC n)
def rlC (r : Rl) : List V := [.str r.name, .int .i64 r.body]
def rlV (r : Rl) : V := .agg (rlC r)
def teC (t : Te) : List V := [.sl 2 0 (t.rules.map rlV), .sl 3 0 (t.nodes.map ndV)]
def teV (t : Te) : V := .agg (teC t)
theorem encRl : Enc rlV 2 true := ⟨fun _ => rfl, fun _ => rfl, fun _ => rfl, fun a n m v hv => by simp [rlV, rlC, V.cells] at hv; rcases hv with rfl | rfl <;> simp⟩
theorem encNd : Enc ndV 3 true := ⟨fun _ => rfl, fun _ => rfl, fun _ => rfl, fun a n m v hv => by
  simp [ndV, ndC, V.cells] at hv
  rcases hv with rfl | rfl | rfl
  · simp
  · simp
  · rw [Bdd_sl0]; exact ⟨by omega, Bdd_ints _ _ _⟩⟩
section
variable {X : Cx} {h : AH} {Q : V → AH → Prop}
def strs (l : List Str) : List V := l.map .str
def rnames (t : Te) : List Str := t.rules.map (·.name)
/-- May a text stand between quotes? -/
def quoteT (s : Str) : Bool := s.all quotedB && decide (0 < s.length) && decide (s.length ≤ 3998)
/-- May a node be, but for its kids' places? -/
def fineT (t : Te) (n : Nd) : Bool :=
  if n.kind = 6 then decide (n.kids.length = 0) && decide (n.name ∈ rnames t)
  else if n.kind = 7 then decide (n.kids.length = 0) && quoteT n.name
  else decide (n.name = []) && ((decide (n.kind = 1) && decide (n.kids.length ≠ 1)) || (decide (n.kind = 2) && decide (2 ≤ n.kids.length)) || (decide (3 ≤ n.kind) && decide (n.kind ≤ 5) && decide (n.kids.length = 1)))
/-- Is a text just one token of a kind? -/
def tokenT (s : Str) (kind : Int) : Bool := match (scanR s).1 with
  | [a] => decide ((scanR s).2.2 = 0) && decide ((a.kind : Int) = kind) && decide (a.at' = 0) && (decide (kind = 2) || decide (a.text = s))
  | _ => false
theorem token_spec (L : LS X) (H : Has (Ecx X) K.rules_token A.rules_token) (s : Str) (kind : Int) (hl : s.length ≤ 2 ^ 40) (hQ : Q (.bool (tokenT s kind)) h) : Ecx X K.rules_token [.str s, .int .i64 kind] h Q := by
  refine fn_walk H (by simp [A.rules_token]) fun wf => ?_
  simp [A.rules_token]
  refine ecall (scan_spec L s hl ?_)
  simp [scanV]
  unfold tokenT at hQ
  generalize scanR s = R at *
  obtain ⟨l, p, e⟩ := R
  simp only at hQ ⊢
  by_cases c : e = 0
  case neg =>
    have hq : Q (.bool false) h := by
      match l, hQ with
      | [], hQ => exact hQ
      | [a], hQ => simpa [c] using hQ
      | _ :: _ :: _, hQ => exact hQ
    simp [c]
    exact fin (by simp) hq
  subst c
  match l, hQ with
  | [], hQ => simp at hQ ⊢; exact fin (by simp) hQ
  | a :: b :: r, hQ =>
    have c' : ¬ (((a :: b :: r).length : Nat) : Int) = 1 := by simp; omega
    simp at hQ c' ⊢
    simp [c']
    exact fin (by simp) hQ
  | [a], hQ =>
    simp [tokV, tokC, V.cells] at hQ ⊢
    by_cases k1 : (a.kind : Int) = kind
    case neg =>
      simp [k1] at hQ ⊢
      exact fin (by simp) hQ
    by_cases k2 : a.at' = 0
    case neg =>
      simp [k1, k2] at hQ ⊢
      exact fin (by simp) hQ
    by_cases k3 : kind = 2
    · simp [k1, k2, k3, tokC] at hQ ⊢
      exact fin (by simp) hQ
    by_cases k4 : a.text = s
    · simp [k1, k2, k3, k4, tokC] at hQ ⊢
      exact fin (by simp) hQ
    · simp [k1, k2, k3, k4, tokC] at hQ ⊢
      exact fin (by simp) hQ
def plcB (c : Int) : Str → Nat → Int
  | [], _ => -1
  | a :: l, i => if c = bt a then (i : Int) else plcB c l (i + 1)
theorem plcB_any (c : Int) : ∀ (l : Str) (i : Nat), decide (0 ≤ plcB c l i) = l.any fun a => decide (c = bt a)
  | [], i => by simp [plcB]
  | a :: l, i => by
    unfold plcB
    by_cases e : c = bt a
    · simp [e]
    · simp only [if_neg e, List.any_cons, decide_eq_false e, Bool.false_or]; exact plcB_any c l (i + 1)
theorem indexB_spec (H : Has (Ecx X) K.slices_Index_byte A.slices_Index_byte) (s : Str) (st : Nat) (c : Int) (hl : s.length < 2 ^ 62) (hQ : Q (.int .i64 (plcB c s 0)) h) : Ecx X K.slices_Index_byte [.sl 1 st (bytesV s), .int .u8 c] h Q := by
  refine fn_walk H (by simp [A.slices_Index_byte]) fun wf => ?_
  have hsl : (bytesV s).length = s.length := by simp [bytesV]
  simp [A.slices_Index_byte, hsl]
  refine loopI (n := s.length) (fun m env h' => ∃ k, k ≤ s.length ∧ m = s.length - k ∧ h' = h ∧ env = [(0, .sl 1 st (bytesV s)), (1, .int .u8 c), (7, .int .i64 s.length), (8, .int .i64 k)] ∧ plcB c s 0 = plcB c (s.drop k) k) ?_ ⟨0, by omega, by omega, rfl, rfl, rfl⟩
  rintro m env h' ⟨k, hk, rfl, rfl, rfl, hp⟩
  unfold A.slices_Index_byte.L0
  by_cases hlt : k < s.length
  · have hlt' : (k : Int) < s.length := by omega
    have hg : (bytesV s).getD k .undef = .int .u8 (bt s[k]) := by simp [bytesV, bt, List.getD_eq_getElem?_getD, hlt]
    have hw1 : IntKind.i64.wrap ((k : Int) + 1) = ((k + 1 : Nat) : Int) := by rw [wrap_i64 (by omega) (by omega)]; rfl
    rw [List.drop_eq_getElem_cons hlt, plcB] at hp
    by_cases e : c = bt s[k]
    · rw [if_pos e] at hp
      rw [hp] at hQ
      simp [hlt', hg, hsl, V.cells, ← e]
      exact fin (by simp) hQ
    · rw [if_neg e] at hp
      simp [hlt', hg, hsl, V.cells, e, hw1]
      exact ⟨s.length - (k + 1), by omega, iv ⟨k + 1, by omega, rfl, rfl, rfl, hp⟩⟩
  · have hlt' : ¬ (k : Int) < s.length := by omega
    obtain rfl : k = s.length := by omega
    rw [List.drop_length, plcB] at hp
    rw [hp] at hQ
    simp [hlt', hsl]
    exact fin (by simp) hQ
theorem containsB_spec (H : Has (Ecx X) K.slices_Contains_byte A.slices_Contains_byte) (H2 : Has (Ecx X) K.slices_Index_byte A.slices_Index_byte) (s : Str) (st : Nat) (c : Int) (hl : s.length < 2 ^ 62) (hQ : Q (.bool (s.any fun a => decide (c = bt a))) h) :
    Ecx X K.slices_Contains_byte [.sl 1 st (bytesV s), .int .u8 c] h Q := by
  refine fn_walk H (by simp [A.slices_Contains_byte]) fun wf => ?_
  simp [A.slices_Contains_byte]
  refine ecall (indexB_spec H2 s st c hl ?_)
  have := plcB_any c s 0
  simp [this]
  exact fin (by simp) hQ
/-- As the program asks. -/
def fineP (t : Te) (n : Nd) : Bool :=
  if n.kind = 7 then decide (n.kids.length = 0) && (!(n.name.any fun a => decide (39 = bt a))) && tokenT (39 :: n.name ++ [39]) 2 else fineT t n
structure LRu (X : Cx) : Prop where
  s : LS X
  token : Has (Ecx X) K.rules_token A.rules_token
  fine : Has (Ecx X) K.rules_Tree_fine A.rules_Tree_fine
  fine1 : Has (Ecx X) K.rules_Tree_fine_1 A.rules_Tree_fine_1
  right : Has (Ecx X) K.rules_Right A.rules_Right
  right1 : Has (Ecx X) K.rules_Right_1 A.rules_Right_1
  ctR : Has (Ecx X) K.slices_ContainsFunc_Rule A.slices_ContainsFunc_Rule
  ixR : Has (Ecx X) K.slices_IndexFunc_Rule A.slices_IndexFunc_Rule
  ctB : Has (Ecx X) K.slices_Contains_byte A.slices_Contains_byte
  ixB : Has (Ecx X) K.slices_Index_byte A.slices_Index_byte
  eqI : Has (Ecx X) K.slices_Equal_int A.slices_Equal_int
theorem fine1_spec (L : LRu X) (r : Rl) {o : Nat} {n : Nd} (ho : h.objs o = ndC n) (hob : o < h.nobj) (hQ : Q (.bool (decide (r.name = n.name))) h) : Ecx X K.rules_Tree_fine_1 [rlV r, .ptr o 0] h Q := by
  refine fn_walk L.fine1 (by simp [A.rules_Tree_fine_1]) fun wf => ?_
  have gr := (Gr.refl h).new (rlC r)
  have n1 : ¬ o = h.nobj := by omega
  obtain ⟨kind, name, kids⟩ := n
  have hnc : ndC ⟨kind, name, kids⟩ = [.int .i64 kind, .str name, .sl 1 0 (ints kids)] := rfl
  have hrc : rlC r = [.str r.name, .int .i64 r.body] := rfl
  simp [A.rules_Tree_fine_1, rlV, V.cells, V.good, n1, ho, hnc, hrc]
  exact fin_wk (by rw [← hrc]; exact gr) (.same _) (by simp) hQ
theorem rufine_spec (L : LRu X) (t : Te) (n : Nd) (hl : t.rules.length < 2 ^ 62) (hn : n.name.length ≤ 2 ^ 30) (hQ : Q (.bool (fineP t n)) h) : Ecx X K.rules_Tree_fine [teV t, ndV n] h Q := by
  refine fn_walk L.fine (by simp [A.rules_Tree_fine]) fun wf => ?_
  have htc : teC t = [.sl 2 0 (t.rules.map rlV), .sl 3 0 (t.nodes.map ndV)] := rfl
  have gr := ((Gr.refl h).new (teC t)).new (ndC n)
  have n1 : ¬ h.nobj = h.nobj + 1 := by omega
  have hb0 : ((h.new (teC t)).new (ndC n)).objs h.nobj = teC t := by simp [n1]
  have hb1 : ((h.new (teC t)).new (ndC n)).objs (h.nobj + 1) = ndC n := by simp
  have hb2 : ((h.new (teC t)).new (ndC n)).nobj = h.nobj + 2 := by simp
  obtain ⟨kind, name, kids⟩ := n
  simp [A.rules_Tree_fine, teV, ndV, V.cells, V.good]
  have hnc : ∀ a b c, ndC ⟨a, b, c⟩ = [.int .i64 a, .str b, .sl 1 0 (c.map (.int .i64))] := fun _ _ _ => rfl
  generalize (h.new (teC t)).new (ndC ⟨kind, name, kids⟩) = h1 at *
  simp [hb1, hnc]
  unfold fineP fineT at hQ
  simp only at hQ hn
  by_cases k1 : kind = 1
  · subst k1
    by_cases c0 : name = []
    · by_cases c : kids.length = 1
      · have c' : ((kids.length : Nat) : Int) = 1 := by omega
        simp [hb1, hnc, c0, c, c'] at hQ ⊢
        exact fin_wk gr (.same _) (by simp) hQ
      · have c' : ¬ ((kids.length : Nat) : Int) = 1 := by omega
        simp [hb1, hnc, c0, c, c'] at hQ ⊢
        exact fin_wk gr (.same _) (by simp) hQ
    · simp [hb1, hnc, c0] at hQ ⊢
      exact fin_wk gr (.same _) (by simp) hQ
  by_cases k2 : kind = 2
  · subst k2
    by_cases c0 : name = []
    · by_cases c : 2 ≤ kids.length
      · have c' : (1 : Int) < (kids.length : Nat) := by omega
        simp [hb1, hnc, c0, c, c'] at hQ ⊢
        exact fin_wk gr (.same _) (by simp) hQ
      · have c' : ¬ (1 : Int) < (kids.length : Nat) := by omega
        simp [hb1, hnc, c0, c, c'] at hQ ⊢
        exact fin_wk gr (.same _) (by simp) hQ
    · simp [hb1, hnc, c0] at hQ ⊢
      exact fin_wk gr (.same _) (by simp) hQ
  have three : ∀ k : Int, (k = 3 ∨ k = 4 ∨ k = 5) → kind = k → (Q (.bool (decide (name = []) && decide (kids.length = 1))) h) := fun k hk e => by
    subst e
    rcases hk with rfl | rfl | rfl <;> simpa using hQ
  by_cases k3 : kind = 3 ∨ kind = 4 ∨ kind = 5
  · have q := three kind k3 rfl
    clear three
    have fin3 : ∀ b, Q (.bool b) h → Fin h (.bool b) h1 (Lz.mk (a := Q)) := fun b hb => fin_wk gr (.same _) (by simp) hb
    by_cases c0 : name = [] <;> by_cases c : kids.length = 1
    all_goals
      first
        | (have c' : ((kids.length : Nat) : Int) = 1 := by omega
           rcases k3 with rfl | rfl | rfl <;> simp [hb1, hnc, c0, c, c'] at q ⊢ <;> exact fin3 _ q)
        | (have c' : ¬ ((kids.length : Nat) : Int) = 1 := by omega
           rcases k3 with rfl | rfl | rfl <;> simp [hb1, hnc, c0, c, c'] at q ⊢ <;> exact fin3 _ q)
  clear three
  have k3' : ¬ kind = 3 := fun e => k3 (.inl e)
  have k4' : ¬ kind = 4 := fun e => k3 (.inr (.inl e))
  have k5' : ¬ kind = 5 := fun e => k3 (.inr (.inr e))
  by_cases k6 : kind = 6
  · subst k6
    by_cases c : kids = []
    · subst c
      simp [hb0, htc, hb1, hnc] at hQ ⊢
      have hct := L.ctR
      rw [show A.slices_ContainsFunc_Rule = ctfF K.slices_IndexFunc_Rule from rfl] at hct
      have hix := L.ixR
      rw [show A.slices_IndexFunc_Rule = ixfF 2 true from rfl] at hix
      refine ecall (containsFunc encRl hct hix t.rules 0 _ [] _ (fun r => decide (r.name = name)) hl (fun r _ Q' h' gr' hQ' => ?_) ?_)
      · exact fine1_spec L r ((gr'.objs _ (by omega)).trans hb1) (by have := gr'.nobj; omega) hQ'
      have : (t.rules.any fun r => decide (r.name = name)) = decide (name ∈ rnames t) := by
        apply Bool.eq_iff_iff.2
        simp [rnames]
      simp [this]
      exact fin_wk gr (.same _) (by simp) hQ
    · simp [hb0, htc, hb1, hnc, c] at hQ ⊢
      exact fin_wk gr (.same _) (by simp) hQ
  by_cases k7 : kind = 7
  · subst k7
    by_cases c : kids = []
    · subst c
      simp [hb0, htc, hb1, hnc] at hQ ⊢
      refine ecall (containsB_spec L.ctB L.ixB name 0 39 (by omega) ?_)
      cases hb : name.any fun a => decide (39 = bt a) with
      | true =>
        rw [hb] at hQ
        simp at hQ ⊢
        exact fin_wk gr (.same _) (by simp) hQ
      | false =>
        rw [hb] at hQ
        simp [hb1, hnc] at hQ ⊢
        refine ⟨by omega, by omega, ecall (token_spec L.s L.token (39 :: (name ++ [39])) 2 (by simp; omega) ?_)⟩
        simp
        exact fin_wk gr (.same _) (by simp) hQ
    · simp [hb0, htc, hb1, hnc, c] at hQ ⊢
      exact fin_wk gr (.same _) (by simp) hQ
  have hf : Q (.bool false) h := by
    have e2 : (decide (3 ≤ kind) && decide (kind ≤ 5)) = false := by simp; omega
    simpa only [if_neg k7, if_neg k6, decide_eq_false k1, decide_eq_false k2, e2, Bool.false_and, Bool.false_or, Bool.or_false, Bool.and_false] using hQ
  simp [k1, k2, k3', k4', k5', k6, k7]
  exact fin_wk gr (.same _) (by simp) hf
end
theorem runN_allT {p : UInt8 → Bool} : ∀ {l r : Str}, l.all p = true → runN p (l ++ r) = l.length + runN p r
  | [], r, _ => by simp
  | a :: l, r, h => by
    simp only [List.all_cons, Bool.and_eq_true] at h
    have := runN_allT (p := p) (l := l) (r := r) h.2
    unfold runN at this ⊢
    simp only [List.cons_append, List.takeWhile_cons, h.1, if_true, List.length_cons, this]; omega
theorem runN_bad {p : UInt8 → Bool} : ∀ {l r : Str}, l.all p = false → ∃ h : runN p (l ++ r) < l.length, p (l[runN p (l ++ r)]) = false
  | [], r, h => by simp at h
  | a :: l, r, h => by
    cases ha : p a with
    | false => 
      have : runN p (a :: l ++ r) = 0 := by simp [runN, List.takeWhile_cons, ha]
      exact ⟨by rw [this]; simp, by simp only [this]; exact ha⟩
    | true =>
      simp only [List.all_cons, ha, Bool.true_and] at h
      obtain ⟨h1, h2⟩ := runN_bad (p := p) (l := l) (r := r) h
      have : runN p (a :: l ++ r) = runN p (l ++ r) + 1 := by simp [runN, List.takeWhile_cons, ha]
      exact ⟨by rw [this]; simpa using h1, by simp only [this, List.getElem_cons_succ]; exact h2⟩
theorem sfirst_quote (name : Str) (h39 : (name.any fun a => decide (39 = bt a)) = false) : sfirst (39 :: name ++ [39]) = if name.all quotedB && decide (0 < name.length) then (2, name, name.length + 2) else (0, [], 0) := by
  have hb : bt 39 = 39 := rfl
  have hl : letterI 39 = false := by decide
  have hd : (39 :: name ++ [39]).drop 1 = name ++ [39] := rfl
  have h0 : (39 :: name ++ [39] : Str).getD 0 0 = 39 := rfl
  have hlen : (39 :: name ++ [39] : Str).length = name.length + 2 := by simp
  unfold sfirst
  simp only [h0, hb, hd, hlen, hl]
  rw [if_neg (by omega), if_neg (by omega), if_neg (by simp), if_pos trivial]
  cases ha : name.all quotedB with
  | true =>
    have hr : runN quotedB (name ++ [39]) = name.length := by
      rw [runN_allT ha]; simp [runN, List.takeWhile_cons, show quotedB 39 = false from by decide]
    generalize runN quotedB (name ++ [39]) = k at *
    subst hr
    by_cases h1 : 0 < name.length
    · have hg : (39 :: name ++ [39] : Str).getD (name.length + 1) 0 = 39 := by simp [List.getD_eq_getElem?_getD]
      rw [if_neg (by rintro (h | h | h) <;> first | omega | exact h (by rw [hg]; rfl))]
      simp [h1]
    · rw [if_pos (Or.inl (show name.length = 0 by omega))]
      simp [h1]
  | false =>
    obtain ⟨h1, h2⟩ := runN_bad (r := [39]) ha
    generalize hk : runN quotedB (name ++ [39]) = k at *
    have hg : (39 :: name ++ [39] : Str).getD (k + 1) 0 = name[k] := by
      simp [List.getD_eq_getElem?_getD, List.getElem?_append_left h1, h1]
    have hne : bt name[k] ≠ 39 := fun e => by
      have := List.any_eq_false.1 h39 _ (List.getElem_mem h1)
      simp [e] at this
    rw [if_pos (.inr (.inr (by rw [hg]; exact hne)))]
    simp
theorem token_quote (name : Str) (h39 : (name.any fun a => decide (39 = bt a)) = false) : tokenT (39 :: name ++ [39]) 2 = quoteT name := by
  have hs := sfirst_quote name h39
  have hlen : (39 :: name ++ [39] : Str).length = name.length + 2 := by simp
  have hne : (39 :: name ++ [39] : Str) ≠ [] := by simp
  unfold tokenT scanR
  rw [hlen]
  by_cases hb : 4000 < name.length + 2
  · rw [if_pos hb]
    simp [quoteT]; omega
  rw [if_neg hb, scanL_step 0 hne, hs]
  cases ha : name.all quotedB && decide (0 < name.length) with
  | true =>
    simp only [if_true]
    have hd : (39 :: name ++ [39] : Str).drop (name.length + 2) = [] := by simp
    rw [if_neg (by omega), hd, scanL_nil]
    simp only [Bool.and_eq_true, decide_eq_true_eq] at ha
    simp [quoteT, ha.1]; omega
  | false =>
    simp only [Bool.false_eq_true, if_false, if_true]
    have : quoteT name = false := by unfold quoteT; rw [ha]; rfl
    rw [this]
theorem fineP_eq (t : Te) (n : Nd) : fineP t n = fineT t n := by
  unfold fineP
  split
  · rename_i h7
    unfold fineT
    rw [if_neg (by omega), if_pos h7]
    cases h39 : n.name.any fun a => decide (39 = bt a) with
    | false => rw [token_quote _ h39]; simp
    | true =>
      have : quoteT n.name = false := by
        unfold quoteT
        have : n.name.all quotedB = false := by
          obtain ⟨a, ha, hb⟩ := List.any_eq_true.1 h39
          apply Bool.eq_false_iff.2
          intro hall
          have := List.all_eq_true.1 hall a ha
          simp [quotedB, quotedI] at this
          simp at hb
          omega
        rw [this]; rfl
      rw [this]; simp
  · rfl
end Go.Proofs.Ytdbbgkdepjidjaa.Al
