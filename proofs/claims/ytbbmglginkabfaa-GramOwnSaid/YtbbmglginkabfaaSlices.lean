/-
  Functions of the package slices, for elements of any form, by the abstract layer. Conditions: each theorem's own.
-/
import Derived.Test.YtbbmglginkabfaaAlC
namespace Go.Proofs.Ytbbmglginkabfaa.Al
open Go Go.RowKit
set_option linter.unusedSimpArgs false
set_option linter.unusedVariables false
attribute [-simp] List.getD_eq_getElem?_getD Int.not_lt Int.not_le List.map_take

/-- How things lie in a slice: e cells each; g: they are structs. -/
structure Enc {α : Type} (enc : α → V) (e : Nat) (g : Bool) : Prop where
  len : ∀ a, (enc a).cells.length = e
  agg : ∀ a, (enc a).isAgg = g
  good : ∀ a, (enc a).good = true
  bdd : ∀ a n m, ∀ v ∈ (enc a).cells, Bdd n m v
theorem Enc.getD {α : Type} {enc : α → V} {l : List α} {i : Nat} (h : i < l.length) : (l.map enc).getD i .undef = enc l[i] := by
  simp [List.getD, List.getElem?_eq_getElem h]
theorem Enc.ld {α : Type} {enc : α → V} {e : Nat} {g : Bool} (E : Enc enc e g) (a : α) {S : Sig} {env : Env} {h : AH} {K : V → AH → Prop} {zK : Lz K} (hk : K (enc a) h) : ldZ S env h g e (.rptr (enc a).cells 0) zK := by
  have h1 := E.len a
  have h2 := E.agg a
  cases g with
  | true =>
    generalize enc a = v at *
    cases v <;> simp [V.isAgg] at h2
    rename_i l
    simp only [V.cells] at h1
    simp [V.cells, h1]
    rw [← h1, List.take_length]; exact hk
  | false =>
    have h3 := E.good a
    generalize enc a = v at *
    cases v <;> simp [V.isAgg, V.good] at h2 h3 <;> simp [V.cells] at h1 <;> subst h1 <;> simpa [V.cells] using hk
theorem Enc.cells {α : Type} {enc : α → V} {e : Nat} {g : Bool} (E : Enc enc e g) (n m : Nat) : ∀ l : List α, ∀ v ∈ cellsOf (l.map enc), Bdd n m v
  | [], v, hv => by simp [cellsOf] at hv
  | a :: l, v, hv => by
    have hv : v ∈ (enc a).cells ++ cellsOf (l.map enc) := hv
    rcases List.mem_append.1 hv with hv | hv
    · exact E.bdd a n m v hv
    · exact E.cells n m l v hv

/-! ### IndexFunc, ContainsFunc -/
def ixfL (e : Nat) (g : Bool) : AC := .post (.seq (.reg [⟨(some 9), none, .bin .lss (.t 8) (.t 7)⟩])
  (.keep [0, 1, 7, 8, 9] (.seq (.cond (.t 9) .skip (.exit 0))
  (.keep [0, 1, 7, 8] (.seq (.block 1 (.seq (.reg [⟨(some 10), none, .mv (.t 8)⟩, ⟨(some 5), none, .mv (.t 10)⟩])
  (.keep [0, 1, 5, 7, 8] (.seq (.reg [⟨(some 11), none, .mv (.t 1)⟩, ⟨(some 12), none, .mv (.t 0)⟩, ⟨(some 13), none, .mv (.t 5)⟩, ⟨(some 14), none, .ia e (.t 12) (.t 13)⟩, ⟨(some 15), none, .load g e (.t 14)⟩, ⟨(some 16), none, .call (.t 11) [(.t 15)]⟩])
  (.keep [0, 1, 5, 7, 8, 16] (.cond (.t 16) (.seq (.reg [⟨(some 17), none, .mv (.t 5)⟩, ⟨(some 4), none, .mv (.t 17)⟩]) .ret) .skip))))))
  (.keep [0, 1, 7, 8] (.reg [⟨(some 18), none, .bin .add (.t 8) (.c (.int .i64 (1)))⟩, ⟨(some 8), none, .mv (.t 18)⟩]))))))) [0, 1, 7, 8]
def ixfF (e : Nat) (g : Bool) : AFn := ⟨19, [(4, none)], (.seq (.reg [⟨(some 4), none, .mv (.c (.int .i64 (0)))⟩])
  (.keep [0, 1] (.seq (.seq (.reg [⟨(some 6), none, .mv (.t 0)⟩, ⟨(some 7), none, .len false (.t 6)⟩, ⟨(some 8), none, .mv (.c (.int .i64 (0)))⟩])
  (.keep [0, 1, 7, 8] (.block 0 (.loop (ixfL e g)))))
  (.keep [] (.seq (.reg [⟨(some 4), none, .mv (.c (.int .i64 (-1)))⟩]) .ret)))))⟩
def ctfF (k : Nat) : AFn := ⟨9, [(4, none)], (.seq (.reg [⟨(some 4), none, .mv (.c (.bool false))⟩])
  (.keep [0, 1] (.seq (.reg [⟨(some 5), none, .mv (.t 0)⟩, ⟨(some 6), none, .mv (.t 1)⟩, ⟨(some 7), none, .call (.c (.fn k [] [])) [(.t 5), (.t 6)]⟩, ⟨(some 8), none, .bin .geq (.t 7) (.c (.int .i64 (0)))⟩, ⟨(some 4), none, .mv (.t 8)⟩]) .ret)))⟩
def idxP {α : Type} (p : α → Bool) : List α → Int
  | [] => -1
  | a :: l => if p a = true then 0 else if idxP p l = -1 then -1 else idxP p l + 1
theorem idxP_any {α : Type} (p : α → Bool) : ∀ l : List α, -1 ≤ idxP p l ∧ (0 ≤ idxP p l ↔ l.any p = true)
  | [] => by simp [idxP]
  | a :: l => by
    obtain ⟨h1, h2⟩ := idxP_any p l
    unfold idxP
    cases hp : p a
    · simp only [Bool.false_eq_true, if_false, List.any_cons, hp, Bool.false_or, ← h2]
      split <;> omega
    · simp [hp]
theorem idxP_drop {α : Type} (p : α → Bool) : ∀ (l : List α) (k : Nat), k ≤ l.length → (l.take k).any p = false → idxP p l = if idxP p (l.drop k) = -1 then -1 else idxP p (l.drop k) + k
  | l, 0, _, _ => by simp
  | [], k + 1, h, _ => by simp at h
  | a :: l, k + 1, h, ha => by
    simp only [List.take_succ_cons, List.any_cons, Bool.or_eq_false_iff] at ha
    have ih := idxP_drop p l k (by simpa using h) ha.2
    have h1 := (idxP_any p (l.drop k)).1
    rw [idxP, ha.1, ih]
    simp only [Bool.false_eq_true, if_false, List.drop_succ_cons]
    split
    · simp
    · rw [if_neg (by omega)]; omega
section
variable {X : Cx} {h : AH} {Q : V → AH → Prop}
theorem indexFunc {α : Type} {enc : α → V} {e : Nat} {g : Bool} (E : Enc enc e g) {k : Nat} (H : Has (Ecx X) k (ixfF e g)) (l : List α) (s kf : Nat) (first cap : List V) (p : α → Bool) (hl : l.length < 2 ^ 62)
    (hp : ∀ a ∈ l, ∀ (Q : V → AH → Prop) (h' : AH), Gr h h' → Q (.bool (p a)) h' → Ecx X kf (first ++ enc a :: cap) h' Q) (hQ : Q (.int .i64 (idxP p l)) h) : Ecx X k [.sl e s (l.map enc), .fn kf first cap] h Q := by
  refine fn_walk H (by simp [ixfF]) fun wf => ?_
  simp [ixfF]
  refine loopI (n := l.length) (fun n env h' => ∃ k, k ≤ l.length ∧ n = l.length - k ∧ Gr h h' ∧ env = [(0, .sl e s (l.map enc)), (1, .fn kf first cap), (7, .int .i64 l.length), (8, .int .i64 k)] ∧ (l.take k).any p = false) ?_ ⟨0, by omega, by omega, Gr.refl h, rfl, by simp⟩
  rintro n env h' ⟨j, hj, rfl, gr, rfl, ha⟩
  unfold ixfL
  have hd := idxP_drop p l j hj ha
  by_cases hlt : j < l.length
  · have hlt' : (j : Int) < l.length := by omega
    have hg := Enc.getD (enc := enc) hlt
    have hw1 : IntKind.i64.wrap ((j : Int) + 1) = ((j + 1 : Nat) : Int) := by rw [wrap_i64 (by omega) (by omega)]; rfl
    simp [hlt', hg]
    refine E.ld _ ?_
    simp
    refine ecall ?_
    refine hp _ (List.getElem_mem hlt) _ _ gr ?_
    rw [List.drop_eq_getElem_cons hlt, idxP] at hd
    cases hpa : p l[j] with
    | true =>
      rw [hpa] at hd
      simp at hd ⊢
      rw [hd] at hQ
      exact fin_wk gr (.same _) (by simp) hQ
    | false =>
      simp [hw1]
      exact ⟨l.length - (j + 1), by omega, iv ⟨j + 1, by omega, rfl, gr, rfl, by
        rw [List.take_succ_eq_append_getElem hlt, List.any_append, ha]; simp [hpa]⟩⟩
  · have hlt' : ¬ (j : Int) < l.length := by omega
    obtain rfl : j = l.length := by omega
    rw [List.drop_length, idxP] at hd
    simp at hd
    simp [hlt']
    rw [hd] at hQ
    exact fin_wk gr (.same _) (by simp) hQ
theorem containsFunc {α : Type} {enc : α → V} {e : Nat} {g : Bool} (E : Enc enc e g) {k k2 : Nat} (H : Has (Ecx X) k (ctfF k2)) (H2 : Has (Ecx X) k2 (ixfF e g)) (l : List α) (s kf : Nat) (first cap : List V) (p : α → Bool) (hl : l.length < 2 ^ 62)
    (hp : ∀ a ∈ l, ∀ (Q : V → AH → Prop) (h' : AH), Gr h h' → Q (.bool (p a)) h' → Ecx X kf (first ++ enc a :: cap) h' Q) (hQ : Q (.bool (l.any p)) h) : Ecx X k [.sl e s (l.map enc), .fn kf first cap] h Q := by
  refine fn_walk H (by simp [ctfF]) fun wf => ?_
  simp [ctfF]
  refine ecall (indexFunc E H2 l s kf first cap p hl hp ?_)
  simp
  obtain ⟨h1, h2⟩ := idxP_any p l
  have : decide (0 ≤ idxP p l) = l.any p := by
    cases h3 : l.any p
    · simp; intro h4; have := h2.1 h4; rw [h3] at this; cases this
    · simp; exact h2.2 h3
  rw [this]
  exact fin (by simp) hQ
end

/-! ### EqualFunc -/
def eqfL (e e2 : Nat) (g g2 : Bool) (z z2 : List V) : AC := .post (.seq (.reg [⟨(some 18), none, .bin .lss (.t 17) (.t 16)⟩])
  (.keep [1, 2, 15, 16, 17, 18] (.seq (.cond (.t 18) .skip (.exit 0))
  (.keep [1, 2, 15, 16, 17] (.seq (.block 1 (.seq (.reg [⟨(some 19), none, .mv (.t 17)⟩, ⟨(some 20), none, .ia e (.t 15) (.t 17)⟩, ⟨(some 21), none, .load g e (.t 20)⟩, ⟨(some 8), none, .alloc z⟩, ⟨(some 7), none, .mv (.t 19)⟩, ⟨none, none, .store e (.t 8) (.t 21)⟩])
  (.keep [1, 2, 7, 8, 15, 16, 17] (.seq (.reg [⟨(some 22), none, .mv (.t 1)⟩, ⟨(some 23), none, .mv (.t 7)⟩, ⟨(some 24), none, .ia e2 (.t 22) (.t 23)⟩, ⟨(some 25), none, .load g2 e2 (.t 24)⟩, ⟨(some 9), none, .alloc z2⟩, ⟨none, none, .store e2 (.t 9) (.t 25)⟩])
  (.keep [1, 2, 8, 9, 15, 16, 17] (.seq (.reg [⟨(some 26), none, .mv (.t 2)⟩, ⟨(some 27), none, .load g e (.t 8)⟩, ⟨(some 28), none, .load g2 e2 (.t 9)⟩, ⟨(some 29), none, .call (.t 26) [(.t 27), (.t 28)]⟩, ⟨(some 30), none, .un .not (.t 29)⟩])
  (.keep [1, 2, 15, 16, 17, 30] (.cond (.t 30) (.seq (.reg [⟨(some 6), none, .mv (.c (.bool false))⟩]) .ret) .skip))))))))
  (.keep [1, 2, 15, 16, 17] (.reg [⟨(some 31), none, .bin .add (.t 17) (.c (.int .i64 (1)))⟩, ⟨(some 17), none, .mv (.t 31)⟩]))))))) [1, 2, 15, 16, 17]
def eqfF (e e2 : Nat) (g g2 : Bool) (z z2 : List V) : AFn := ⟨32, [(6, none)], (.seq (.reg [⟨(some 6), none, .mv (.c (.bool false))⟩])
  (.keep [0, 1, 2] (.seq (.seq (.reg [⟨(some 10), none, .mv (.t 0)⟩, ⟨(some 11), none, .len false (.t 10)⟩, ⟨(some 12), none, .mv (.t 1)⟩, ⟨(some 13), none, .len false (.t 12)⟩, ⟨(some 14), none, .bin .neq (.t 11) (.t 13)⟩])
  (.keep [0, 1, 2, 14] (.cond (.t 14) (.seq (.reg [⟨(some 6), none, .mv (.c (.bool false))⟩]) .ret) .skip)))
  (.keep [0, 1, 2] (.seq (.seq (.reg [⟨(some 15), none, .mv (.t 0)⟩, ⟨(some 16), none, .len false (.t 15)⟩, ⟨(some 17), none, .mv (.c (.int .i64 (0)))⟩])
  (.keep [1, 2, 15, 16, 17] (.block 0 (.loop (eqfL e e2 g g2 z z2)))))
  (.keep [] (.seq (.reg [⟨(some 6), none, .mv (.c (.bool true))⟩]) .ret)))))))⟩
/-- Alike, thing by thing. -/
def allEq {α β : Type} (f : α → β → Bool) : List α → List β → Bool
  | [], [] => true
  | a :: l, b :: m => f a b && allEq f l m
  | _, _ => false
theorem allEq_len {α β : Type} {f : α → β → Bool} : ∀ {l : List α} {m : List β}, allEq f l m = true → l.length = m.length
  | [], [], _ => rfl
  | a :: l, b :: m, h => by simp [allEq] at h; simp [allEq_len h.2]
  | [], b :: m, h => by simp [allEq] at h
  | a :: l, [], h => by simp [allEq] at h
theorem allEq_iff {α : Type} {f : α → α → Bool} (hf : ∀ a b, f a b = true ↔ a = b) : ∀ (l m : List α), allEq f l m = true ↔ l = m
  | [], [] => by simp [allEq]
  | a :: l, b :: m => by simp [allEq, hf, allEq_iff hf l m]
  | [], b :: m => by simp [allEq]
  | a :: l, [] => by simp [allEq]
theorem Enc.sets {α : Type} {enc : α → V} {e : Nat} {g : Bool} (E : Enc enc e g) (a : α) {z : List V} (hz : z.length = e) : setAt z 0 (enc a).cells = (enc a).cells := by
  have h1 := E.len a
  have key : ∀ (c z : List V) (n : Nat) (p : List V), p.length = n → z.length = c.length → setAt (p ++ z) n c = p ++ c := by
    intro c
    induction c with
    | nil => intro z n p _ hz; have : z = [] := List.eq_nil_of_length_eq_zero (by simpa using hz); simp [setAt, this]
    | cons v c ih =>
      intro z n p hp hz
      cases z with
      | nil => simp at hz
      | cons y z =>
        have : (p ++ y :: z).set n v = (p ++ [v]) ++ z := by
          rw [List.set_append_right _ _ (by omega), hp]; simp
        show setAt ((p ++ y :: z).set n v) (n + 1) c = p ++ v :: c
        rw [this, ih z (n + 1) (p ++ [v]) (by simp [hp]) (by simpa using hz)]; simp
  exact key _ z 0 [] rfl (by omega)
theorem Enc.ldp {α : Type} {enc : α → V} {e : Nat} {g : Bool} (E : Enc enc e g) (a : α) {S : Sig} {env : Env} {h : AH} {o : Nat} (ho : h.objs o = (enc a).cells) {K : V → AH → Prop} {zK : Lz K} (hk : K (enc a) h) : ldZ S env h g e (.ptr o 0) zK := by
  have h1 := E.len a
  have h2 := E.agg a
  cases g with
  | true =>
    generalize enc a = v at *
    cases v <;> simp [V.isAgg] at h2
    rename_i l
    simp only [V.cells] at h1 ho
    simp [ho, h1]
    rw [← h1, List.take_length]; exact hk
  | false =>
    have h3 := E.good a
    generalize enc a = v at *
    cases v <;> simp [V.isAgg, V.good] at h2 h3 <;> simp [V.cells] at h1 ho <;> subst h1 <;> simpa [ho] using hk
section
variable {X : Cx} {h : AH} {Q : V → AH → Prop}
theorem equalFunc {α β : Type} {enc : α → V} {enc2 : β → V} {e e2 : Nat} {g g2 : Bool} {z z2 : List V} (hz : z.length = e) (hz2 : z2.length = e2) (E : Enc enc e g) (E2 : Enc enc2 e2 g2) {k : Nat} (H : Has (Ecx X) k (eqfF e e2 g g2 z z2)) (l : List α) (m : List β) (s t kf : Nat) (first cap : List V) (f : α → β → Bool) (hl : l.length < 2 ^ 62)
    (hf : ∀ a ∈ l, ∀ b ∈ m, ∀ (Q : V → AH → Prop) (h' : AH), Gr h h' → Q (.bool (f a b)) h' → Ecx X kf (first ++ enc a :: enc2 b :: cap) h' Q) (hQ : Q (.bool (allEq f l m)) h) : Ecx X k [.sl e s (l.map enc), .sl e2 t (m.map enc2), .fn kf first cap] h Q := by
  refine fn_walk H (by simp [eqfF]) fun wf => ?_
  by_cases hlm : l.length = m.length
  · have hlm' : (l.length : Int) = m.length := by omega
    simp [eqfF, hlm']
    refine loopI (n := l.length) (fun n env h' => ∃ k, k ≤ l.length ∧ n = l.length - k ∧ Gr h h' ∧ env = [(1, .sl e2 t (m.map enc2)), (2, .fn kf first cap), (15, .sl e s (l.map enc)), (16, .int .i64 l.length), (17, .int .i64 k)] ∧ allEq f (l.drop k) (m.drop k) = allEq f l m) ?_ ⟨0, by omega, by omega, Gr.refl h, by simp [hlm'], rfl⟩
    rintro n env h' ⟨j, hj, rfl, gr, rfl, ha⟩
    unfold eqfL
    by_cases hlt : j < l.length
    · have hlt' : (j : Int) < l.length := by omega
      have hltm : j < m.length := by omega
      have hltm' : (j : Int) < m.length := by omega
      have hg := Enc.getD (enc := enc) hlt
      have hg2 := Enc.getD (enc := enc2) hltm
      have hw1 : IntKind.i64.wrap ((j : Int) + 1) = ((j + 1 : Nat) : Int) := by rw [wrap_i64 (by omega) (by omega)]; rfl
      rw [List.drop_eq_getElem_cons hlt, List.drop_eq_getElem_cons hltm, allEq] at ha
      have ma := List.getElem_mem hlt
      have mb := List.getElem_mem hltm
      generalize l[j] = a at *
      generalize m[j] = b at *
      have sa := E.sets a hz
      have sb := E2.sets b hz2
      have la := E.len a
      have lb := E2.len b
      have ga := E.good a
      have gb := E2.good b
      simp [hlt', hg, -V.cells, -V.good]
      refine E.ld _ ?_
      simp [-V.cells, -V.good, la, ga, hz, sa]
      simp [hltm, hltm', hg2, -V.cells, -V.good]
      refine E2.ld _ ?_
      simp [-V.cells, -V.good, lb, gb, hz2, sb]
      refine E.ldp a (by simp) ?_
      simp [-V.cells, -V.good]
      refine E2.ldp b (by simp) ?_
      simp [-V.cells, -V.good]
      refine ecall ?_
      have gr2 := (gr.new (enc a).cells).new (enc2 b).cells
      refine hf a ma b mb _ _ gr2 ?_
      cases hfab : f a b with
      | false =>
        rw [hfab] at ha
        simp at ha ⊢
        rw [ha] at hQ
        exact fin_wk gr2 (.same _) (by simp) hQ
      | true =>
        rw [hfab] at ha
        simp [hw1] at ha ⊢
        exact ⟨l.length - (j + 1), by omega, iv ⟨j + 1, by omega, rfl, gr2, rfl, ha⟩⟩
    · have hlt' : ¬ (j : Int) < l.length := by omega
      obtain rfl : j = l.length := by omega
      rw [List.drop_length, hlm, List.drop_length] at ha
      simp [hlt']
      rw [← ha] at hQ
      exact fin_wk gr (.same _) (by simp) (by simpa [allEq] using hQ)
  · have hlm' : ¬ (l.length : Int) = m.length := by omega
    have hf : allEq f l m = false := by
      cases h1 : allEq f l m with
      | false => rfl
      | true => exact absurd (allEq_len h1) hlm
    rw [hf] at hQ
    simp [eqfF, hlm']
    exact fin (by simp) hQ
end

/-! ### Clone -/
def clnF (e sz : Nat) (g : Bool) (z : List V) : AFn := ⟨8, [(2, none)], (.seq (.reg [⟨(some 2), none, .mv (.c (.sl 0 1 []))⟩])
  (.keep [0] (.seq (.seq (.reg [⟨(some 3), none, .mv (.t 0)⟩, ⟨(some 4), none, .isnil false false (.t 3)⟩])
  (.keep [0, 4] (.cond (.t 4) (.seq (.reg [⟨(some 2), none, .mv (.c (.sl 0 1 []))⟩]) .ret) .skip)))
  (.keep [0] (.seq (.reg [⟨(some 5), none, .bsl e g z 0 []⟩, ⟨(some 6), none, .mv (.t 0)⟩, ⟨(some 7), none, .app e sz (.t 5) (.t 6)⟩, ⟨(some 2), none, .mv (.t 7)⟩]) .ret)))))⟩
section
variable {X : Cx} {h : AH} {Q : V → AH → Prop}
theorem clone_spec {e sz : Nat} {g : Bool} {z : List V} {k : Nat} (H : Has (Ecx X) k (clnF e sz g z)) (l : List V) (hb : l.length * sz ≤ 2 ^ 46) (hc : ∀ v ∈ cellsOf l, Bdd h.next h.nobj v) (hQ : Q (.sl e 0 l) h) : Ecx X k [.sl e 0 l] h Q := by
  refine fn_walk H (by simp [clnF]) fun wf => ?_
  have go : App h e sz e 2 ([] : List V) e l (Lz.mk (a := fun v h' => opsZ (Ecx X) [(7, v), (5, .sl e 2 []), (6, .sl e 0 l), (0, .sl e 0 l)] h' (Lz.mk (a := [⟨(some 2), none, AOp.mv (.t 7)⟩])) (Lz.mk (a := fun env h1 => True)))) → True := fun _ => trivial
  by_cases hl : l = []
  · subst hl
    simp [clnF, fillL]
    refine ⟨?_, ?_⟩
    · exact fin_wk (Gr.refl h) (.nil _ _ _) (by simp) hQ
    · refine (Own.full (Gr.refl h) e []).appZ (fun h => absurd rfl h) (by simp) fun e2 st2 h2 o2 _ _ => ?_
      simp at o2 ⊢
      exact fin_own o2 (by simp [cellsOf]) hQ
  · simp [clnF, fillL, hl]
    refine (Own.full (Gr.refl h) e []).appZ (fun _ => rfl) (by simpa using hb) fun e2 st2 h2 o2 _ _ => ?_
    simp at o2 ⊢
    exact fin_own o2 hc hQ
end
end Go.Proofs.Ytbbmglginkabfaa.Al
