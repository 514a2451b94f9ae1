/-
  What the law LowerShape needs of this claim's texts (part 1). Conditions: each theorem's own.
-/
import Derived.Test.YtmobijebjkjnoaaAlC
import Derived.Test.YtmobijebjkjnoaaAlKeys
import Derived.Test.YtmobijebjkjnoaaAlA
import Derived.Test.YtmobijebjkjnoaaAlB
namespace Go.Proofs.Ytmobijebjkjnoaa.Al
open Go Go.RowKit
set_option linter.unusedSimpArgs false
set_option linter.unusedVariables false
attribute [-simp] List.getD_eq_getElem?_getD Int.not_lt Int.not_le List.map_take
/-- How things lie in a slice: e cells each; g: they are structs. -/
structure Enc {α : Type} (enc : α → V) (e : Nat) (g : Bool) : Prop where
  len : ∀ a, (enc a).cells.length = e
  agg : ∀ a, (enc a).isAgg = g
  good : ∀ a, (enc a).good = true
  bdd : ∀ a n m, ∀ v ∈ (enc a).cells, Bdd n m v
theorem Enc.getD {α : Type} {enc : α → V} {l : List α} {i : Nat} (h : i < l.length) : (l.map enc).getD i .undef = enc l[i] := by
  simp [List.getD, List.getElem?_eq_getElem h]
theorem Enc.ld {α : Type} {enc : α → V} {e : Nat} {g : Bool} (E : Enc enc e g) (a : α) {S : Sig} {env : Env} {h : AH} {K : V → AH → Prop} {zK : Lz K} (hk : K (enc a) h) : ldZ S env h g e (.rptr (enc a).cells 0) zK := by
  have h1 := E.len a
  have h2 := E.agg a
  cases g with
  | true =>
    generalize enc a = v at *
    cases v <;> simp [V.isAgg] at h2
    rename_i l
    simp only [V.cells] at h1
    simp [V.cells, h1]
    rw [← h1, List.take_length]; exact hk
  | false =>
    have h3 := E.good a
    generalize enc a = v at *
    cases v <;> simp [V.isAgg, V.good] at h2 h3 <;> simp [V.cells] at h1 <;> subst h1 <;> simpa [V.cells] using hk
theorem Enc.cells {α : Type} {enc : α → V} {e : Nat} {g : Bool} (E : Enc enc e g) (n m : Nat) : ∀ l : List α, ∀ v ∈ cellsOf (l.map enc), Bdd n m v
  | [], v, hv => by simp [cellsOf] at hv
  | a :: l, v, hv => by
    have hv : v ∈ (enc a).cells ++ cellsOf (l.map enc) := hv
    rcases List.mem_append.1 hv with hv | hv
    · exact E.bdd a n m v hv
    · exact E.cells n m l v hv
/-! ### IndexFunc, ContainsFunc -/
def ixfL (e : Nat) (g : Bool) : AC := .post (.seq (.reg [⟨(some 9), none, .bin .lss (.t 8) (.t 7)⟩])
  (.keep [0, 1, 7, 8, 9] (.seq (.cond (.t 9) .skip (.exit 0))
  (.keep [0, 1, 7, 8] (.seq (.block 1 (.seq (.reg [⟨(some 10), none, .mv (.t 8)⟩, ⟨(some 5), none, .mv (.t 10)⟩])
  (.keep [0, 1, 5, 7, 8] (.seq (.reg [⟨(some 11), none, .mv (.t 1)⟩, ⟨(some 12), none, .mv (.t 0)⟩, ⟨(some 13), none, .mv (.t 5)⟩, ⟨(some 14), none, .ia e (.t 12) (.t 13)⟩, ⟨(some 15), none, .load g e (.t 14)⟩, ⟨(some 16), none, .call (.t 11) [(.t 15)]⟩])
  (.keep [0, 1, 5, 7, 8, 16] (.cond (.t 16) (.seq (.reg [⟨(some 17), none, .mv (.t 5)⟩, ⟨(some 4), none, .mv (.t 17)⟩]) .ret) .skip))))))
  (.keep [0, 1, 7, 8] (.reg [⟨(some 18), none, .bin .add (.t 8) (.c (.int .i64 (1)))⟩, ⟨(some 8), none, .mv (.t 18)⟩]))))))) [0, 1, 7, 8]
def ixfF (e : Nat) (g : Bool) : AFn := ⟨19, [(4, none)], (.seq (.reg [⟨(some 4), none, .mv (.c (.int .i64 (0)))⟩])
  (.keep [0, 1] (.seq (.seq (.reg [⟨(some 6), none, .mv (.t 0)⟩, ⟨(some 7), none, .len false (.t 6)⟩, ⟨(some 8), none, .mv (.c (.int .i64 (0)))⟩])
  (.keep [0, 1, 7, 8] (.block 0 (.loop (ixfL e g)))))
  (.keep [] (.seq (.reg [⟨(some 4), none, .mv (.c (.int .i64 (-1)))⟩]) .ret)))))⟩
def ctfF (k : Nat) : AFn := ⟨9, [(4, none)], (.seq (.reg [⟨(some 4), none, .mv (.c (.bool false))⟩])
  (.keep [0, 1] (.seq (.reg [⟨(some 5), none, .mv (.t 0)⟩, ⟨(some 6), none, .mv (.t 1)⟩, ⟨(some 7), none, .call (.c (.fn k [] [])) [(.t 5), (.t 6)]⟩, ⟨(some 8), none, .bin .geq (.t 7) (.c (.int .i64 (0)))⟩, ⟨(some 4), none, .mv (.t 8)⟩]) .ret)))⟩
def idxP {α : Type} (p : α → Bool) : List α → Int
  | [] => -1
  | a :: l => if p a = true then 0 else if idxP p l = -1 then -1 else idxP p l + 1
theorem idxP_any {α : Type} (p : α → Bool) : ∀ l : List α, -1 ≤ idxP p l ∧ (0 ≤ idxP p l ↔ l.any p = true)
  | [] => by simp [idxP]
  | a :: l => by
    obtain ⟨h1, h2⟩ := idxP_any p l
    unfold idxP
    cases hp : p a
    · simp only [Bool.false_eq_true, if_false, List.any_cons, hp, Bool.false_or, ← h2]
      split <;> omega
    · simp [hp]
theorem idxP_drop {α : Type} (p : α → Bool) : ∀ (l : List α) (k : Nat), k ≤ l.length → (l.take k).any p = false → idxP p l = if idxP p (l.drop k) = -1 then -1 else idxP p (l.drop k) + k
  | l, 0, _, _ => by simp
  | [], k + 1, h, _ => by simp at h
  | a :: l, k + 1, h, ha => by
    simp only [List.take_succ_cons, List.any_cons, Bool.or_eq_false_iff] at ha
    have ih := idxP_drop p l k (by simpa using h) ha.2
    have h1 := (idxP_any p (l.drop k)).1
    rw [idxP, ha.1, ih]
    simp only [Bool.false_eq_true, if_false, List.drop_succ_cons]
    split
    · simp
    · rw [if_neg (by omega)]; omega
section
variable {X : Cx} {h : AH} {Q : V → AH → Prop}
theorem indexFunc {α : Type} {enc : α → V} {e : Nat} {g : Bool} (E : Enc enc e g) {k : Nat} (H : Has (Ecx X) k (ixfF e g)) (l : List α) (s kf : Nat) (first cap : List V) (p : α → Bool) (hl : l.length < 2 ^ 62)
    (hp : ∀ a ∈ l, ∀ (Q : V → AH → Prop) (h' : AH), Gr h h' → Q (.bool (p a)) h' → Ecx X kf (first ++ enc a :: cap) h' Q) (hQ : Q (.int .i64 (idxP p l)) h) : Ecx X k [.sl e s (l.map enc), .fn kf first cap] h Q := by
  refine fn_walk H (by simp [ixfF]) fun wf => ?_
  simp [ixfF]
  refine loopI (n := l.length) (fun n env h' => ∃ k, k ≤ l.length ∧ n = l.length - k ∧ Gr h h' ∧ env = [(0, .sl e s (l.map enc)), (1, .fn kf first cap), (7, .int .i64 l.length), (8, .int .i64 k)] ∧ (l.take k).any p = false) ?_ ⟨0, by omega, by omega, Gr.refl h, rfl, by simp⟩
  rintro n env h' ⟨j, hj, rfl, gr, rfl, ha⟩
  unfold ixfL
  have hd := idxP_drop p l j hj ha
  by_cases hlt : j < l.length
  · have hlt' : (j : Int) < l.length := by omega
    have hg := Enc.getD (enc := enc) hlt
    have hw1 : IntKind.i64.wrap ((j : Int) + 1) = ((j + 1 : Nat) : Int) := by rw [wrap_i64 (by omega) (by omega)]; rfl
    simp [hlt', hg]
    refine E.ld _ ?_
    simp
    refine ecall ?_
    refine hp _ (List.getElem_mem hlt) _ _ gr ?_
    rw [List.drop_eq_getElem_cons hlt, idxP] at hd
    cases hpa : p l[j] with
    | true =>
      rw [hpa] at hd
      simp at hd ⊢
      rw [hd] at hQ
      exact fin_wk gr (.same _) (by simp) hQ
    | false =>
      simp [hw1]
      exact ⟨l.length - (j + 1), by omega, iv ⟨j + 1, by omega, rfl, gr, rfl, by
        rw [List.take_succ_eq_append_getElem hlt, List.any_append, ha]; simp [hpa]⟩⟩
  · have hlt' : ¬ (j : Int) < l.length := by omega
    obtain rfl : j = l.length := by omega
    rw [List.drop_length, idxP] at hd
    simp at hd
    simp [hlt']
    rw [hd] at hQ
    exact fin_wk gr (.same _) (by simp) hQ
theorem containsFunc {α : Type} {enc : α → V} {e : Nat} {g : Bool} (E : Enc enc e g) {k k2 : Nat} (H : Has (Ecx X) k (ctfF k2)) (H2 : Has (Ecx X) k2 (ixfF e g)) (l : List α) (s kf : Nat) (first cap : List V) (p : α → Bool) (hl : l.length < 2 ^ 62)
    (hp : ∀ a ∈ l, ∀ (Q : V → AH → Prop) (h' : AH), Gr h h' → Q (.bool (p a)) h' → Ecx X kf (first ++ enc a :: cap) h' Q) (hQ : Q (.bool (l.any p)) h) : Ecx X k [.sl e s (l.map enc), .fn kf first cap] h Q := by
  refine fn_walk H (by simp [ctfF]) fun wf => ?_
  simp [ctfF]
  refine ecall (indexFunc E H2 l s kf first cap p hl hp ?_)
  simp
  obtain ⟨h1, h2⟩ := idxP_any p l
  have : decide (0 ≤ idxP p l) = l.any p := by
    cases h3 : l.any p
    · simp; intro h4; have := h2.1 h4; rw [h3] at this; cases this
    · simp; exact h2.2 h3
  rw [this]
  exact fin (by simp) hQ
end
/-! ### EqualFunc -/
/-! ### Clone -/
end Go.Proofs.Ytmobijebjkjnoaa.Al
namespace Go.Proofs.Ytmobijebjkjnoaa.Al
def A.vary_Take.L0 : AC := .post (.seq (.seq (.reg [⟨(some 41), none, .mv (.t 7)⟩, ⟨(some 42), none, .bin .geq (.t 41) (.c (.int .i64 (0)))⟩])
  (.keep [0, 5, 6, 7, 42] (.cond (.t 42) .skip (.exit 1))))
  (.keep [0, 5, 6, 7] (.seq (.block 2 (.reg [⟨(some 45), none, .mv (.t 6)⟩, ⟨(some 46), none, .bin .shl (.t 45) (.c (.int .u64 (7)))⟩, ⟨(some 47), none, .mv (.t 0)⟩, ⟨(some 48), none, .mv (.t 7)⟩, ⟨(some 49), none, .ia 1 (.t 47) (.t 48)⟩, ⟨(some 50), none, .load false 1 (.t 49)⟩, ⟨(some 51), none, .bin .andNot (.t 50) (.c (.int .u8 (128)))⟩, ⟨(some 52), none, .conv .u64 (.t 51)⟩, ⟨(some 53), none, .bin .or (.t 46) (.t 52)⟩, ⟨(some 6), none, .mv (.t 53)⟩]))
  (.keep [0, 5, 6, 7] (.reg [⟨(some 43), none, .mv (.t 7)⟩, ⟨(some 44), none, .bin .sub (.t 43) (.c (.int .i64 (1)))⟩, ⟨(some 7), none, .mv (.t 44)⟩]))))) [0, 5, 6, 7]
def A.vary_Take : AFn := ⟨57, [(2, none), (3, none), (4, none)], (.seq (.reg [⟨(some 2), none, .mv (.c (.int .u64 (0)))⟩, ⟨(some 3), none, .mv (.c (.int .i64 (0)))⟩, ⟨(some 4), none, .mv (.c (.int .i64 (0)))⟩])
  (.keep [0] (.seq (.reg [⟨(some 8), none, .mv (.t 0)⟩, ⟨(some 9), none, .call (.c (.fn K.vary_end [] [])) [(.t 8)]⟩, ⟨(some 5), none, .mv (.t 9)⟩])
  (.keep [0, 5] (.seq (.block 0 (.seq (.reg [⟨(some 11), none, .mv (.t 5)⟩, ⟨(some 12), none, .bin .lss (.t 11) (.c (.int .i64 (0)))⟩, ⟨(some 13), none, .mv (.t 12)⟩, ⟨(some 14), (some (13, true)), .mv (.t 0)⟩, ⟨(some 15), (some (13, true)), .len false (.t 14)⟩, ⟨(some 16), (some (13, true)), .bin .lss (.t 15) (.c (.int .i64 (10)))⟩, ⟨(some 17), none, .pick (.t 13) (.t 16) (.c (.bool false))⟩, ⟨(some 10), none, .mv (.t 17)⟩])
  (.keep [0, 5, 10] (.cond (.t 10) (.seq (.reg [⟨(some 2), none, .mv (.c (.int .u64 (0)))⟩, ⟨(some 3), none, .mv (.c (.int .i64 (0)))⟩, ⟨(some 4), none, .mv (.c (.int .i64 (3)))⟩]) .ret) (.seq (.seq (.reg [⟨(some 19), none, .mv (.t 5)⟩, ⟨(some 20), none, .bin .lss (.t 19) (.c (.int .i64 (0)))⟩, ⟨(some 18), none, .mv (.t 20)⟩])
  (.keep [0, 5, 18] (.cond (.t 18) .skip (.reg [⟨(some 21), none, .mv (.t 5)⟩, ⟨(some 22), none, .bin .eql (.t 21) (.c (.int .i64 (9)))⟩, ⟨(some 23), none, .mv (.t 22)⟩, ⟨(some 24), (some (23, true)), .mv (.t 0)⟩, ⟨(some 25), (some (23, true)), .mv (.t 5)⟩, ⟨(some 26), (some (23, true)), .ia 1 (.t 24) (.t 25)⟩, ⟨(some 27), (some (23, true)), .load false 1 (.t 26)⟩, ⟨(some 28), (some (23, true)), .bin .gtr (.t 27) (.c (.int .u8 (1)))⟩, ⟨(some 29), none, .pick (.t 23) (.t 28) (.c (.bool false))⟩, ⟨(some 18), none, .mv (.t 29)⟩]))))
  (.keep [0, 5, 18] (.cond (.t 18) (.seq (.reg [⟨(some 2), none, .mv (.c (.int .u64 (0)))⟩, ⟨(some 3), none, .mv (.c (.int .i64 (0)))⟩, ⟨(some 4), none, .mv (.c (.int .i64 (4)))⟩]) .ret) (.seq (.reg [⟨(some 31), none, .mv (.t 5)⟩, ⟨(some 32), none, .bin .gtr (.t 31) (.c (.int .i64 (0)))⟩, ⟨(some 33), none, .mv (.t 32)⟩, ⟨(some 34), (some (33, true)), .mv (.t 0)⟩, ⟨(some 35), (some (33, true)), .mv (.t 5)⟩, ⟨(some 36), (some (33, true)), .ia 1 (.t 34) (.t 35)⟩, ⟨(some 37), (some (33, true)), .load false 1 (.t 36)⟩, ⟨(some 38), (some (33, true)), .bin .eql (.t 37) (.c (.int .u8 (0)))⟩, ⟨(some 39), none, .pick (.t 33) (.t 38) (.c (.bool false))⟩, ⟨(some 30), none, .mv (.t 39)⟩])
  (.keep [0, 5, 30] (.cond (.t 30) (.seq (.reg [⟨(some 2), none, .mv (.c (.int .u64 (0)))⟩, ⟨(some 3), none, .mv (.c (.int .i64 (0)))⟩, ⟨(some 4), none, .mv (.c (.int .i64 (2)))⟩]) .ret) .skip))))))))))
  (.keep [0, 5] (.seq (.reg [⟨(some 6), none, .mv (.c (.int .u64 (0)))⟩])
  (.keep [0, 5, 6] (.seq (.seq (.reg [⟨(some 40), none, .mv (.t 5)⟩, ⟨(some 7), none, .mv (.t 40)⟩])
  (.keep [0, 5, 6, 7] (.block 1 (.loop A.vary_Take.L0))))
  (.keep [5, 6] (.seq (.reg [⟨(some 54), none, .mv (.t 6)⟩, ⟨(some 55), none, .mv (.t 5)⟩, ⟨(some 56), none, .bin .add (.t 55) (.c (.int .i64 (1)))⟩, ⟨(some 2), none, .mv (.t 54)⟩, ⟨(some 3), none, .mv (.t 56)⟩, ⟨(some 4), none, .mv (.c (.int .i64 (0)))⟩]) .ret)))))))))))⟩
def A.vary_Put.L0 : AC := .post (.seq (.seq (.reg [⟨(some 4), none, .mv (.t 0)⟩, ⟨(some 5), none, .bin .geq (.t 4) (.c (.int .u64 (128)))⟩])
  (.keep [0, 3, 5] (.cond (.t 5) .skip (.exit 0))))
  (.keep [0, 3] (.seq (.block 1 (.reg [⟨(some 8), none, .mv (.t 3)⟩, ⟨(some 9), none, .mv (.t 0)⟩, ⟨(some 10), none, .conv .u8 (.t 9)⟩, ⟨(some 11), none, .bin .or (.t 10) (.c (.int .u8 (128)))⟩, ⟨(some 12), none, .bsl 1 false [(.int .u8 (0))] 1 [(0, (.t 11))]⟩, ⟨(some 13), none, .app 1 1 (.t 8) (.t 12)⟩, ⟨(some 3), none, .mv (.t 13)⟩]))
  (.keep [0, 3] (.reg [⟨(some 6), none, .mv (.t 0)⟩, ⟨(some 7), none, .bin .shr (.t 6) (.c (.int .u64 (7)))⟩, ⟨(some 0), none, .mv (.t 7)⟩]))))) [0, 3]
def A.vary_Put : AFn := ⟨19, [(2, none)], (.seq (.reg [⟨(some 2), none, .mv (.c (.sl 0 1 []))⟩])
  (.keep [0] (.seq (.reg [⟨(some 3), none, .mv (.c (.sl 0 1 []))⟩])
  (.keep [0, 3] (.seq (.block 0 (.loop A.vary_Put.L0))
  (.keep [0, 3] (.seq (.reg [⟨(some 14), none, .mv (.t 3)⟩, ⟨(some 15), none, .mv (.t 0)⟩, ⟨(some 16), none, .conv .u8 (.t 15)⟩, ⟨(some 17), none, .bsl 1 false [(.int .u8 (0))] 1 [(0, (.t 16))]⟩, ⟨(some 18), none, .app 1 1 (.t 14) (.t 17)⟩, ⟨(some 2), none, .mv (.t 18)⟩]) .ret)))))))⟩
def A.vary_end.L0 : AC := .post (.seq (.reg [⟨(some 9), none, .bin .lss (.t 8) (.t 7)⟩])
  (.keep [3, 6, 7, 8, 9] (.seq (.cond (.t 9) .skip (.exit 0))
  (.keep [3, 6, 7, 8] (.seq (.block 1 (.seq (.reg [⟨(some 10), none, .mv (.t 8)⟩, ⟨(some 11), none, .ia 1 (.t 6) (.t 8)⟩, ⟨(some 12), none, .load false 1 (.t 11)⟩, ⟨(some 4), none, .mv (.t 10)⟩, ⟨(some 5), none, .mv (.t 12)⟩])
  (.keep [3, 4, 5, 6, 7, 8] (.block 2 (.seq (.reg [⟨(some 14), none, .mv (.t 4)⟩, ⟨(some 15), none, .bin .eql (.t 14) (.c (.int .i64 (10)))⟩, ⟨(some 13), none, .mv (.t 15)⟩])
  (.keep [3, 4, 5, 6, 7, 8, 13] (.cond (.t 13) (.exit 0) (.seq (.reg [⟨(some 17), none, .mv (.t 5)⟩, ⟨(some 18), none, .bin .lss (.t 17) (.c (.int .u8 (128)))⟩, ⟨(some 16), none, .mv (.t 18)⟩])
  (.keep [3, 4, 6, 7, 8, 16] (.cond (.t 16) (.seq (.reg [⟨(some 19), none, .mv (.t 4)⟩, ⟨(some 3), none, .mv (.t 19)⟩]) (.exit 0)) .skip))))))))))
  (.keep [3, 6, 7, 8] (.reg [⟨(some 20), none, .bin .add (.t 8) (.c (.int .i64 (1)))⟩, ⟨(some 8), none, .mv (.t 20)⟩]))))))) [3, 6, 7, 8]
def A.vary_end : AFn := ⟨22, [(2, none)], (.seq (.reg [⟨(some 2), none, .mv (.c (.int .i64 (0)))⟩])
  (.keep [0] (.scope (.seq (.reg [⟨(some 3), none, .mv (.c (.int .i64 (-1)))⟩])
  (.keep [0, 3] (.seq .skip
  (.keep [0, 3] (.seq (.seq (.reg [⟨(some 6), none, .mv (.t 0)⟩, ⟨(some 7), none, .len false (.t 6)⟩, ⟨(some 8), none, .mv (.c (.int .i64 (0)))⟩])
  (.keep [3, 6, 7, 8] (.block 0 (.loop A.vary_end.L0))))
  (.keep [3] (.seq (.reg [⟨(some 21), none, .mv (.t 3)⟩, ⟨(some 2), none, .mv (.t 21)⟩]) .ret))))))))))⟩
end Go.Proofs.Ytmobijebjkjnoaa.Al
namespace Go.Proofs.Ytmobijebjkjnoaa.Al
def A.probateref01_Take.L0 : AC := .post (.seq (.seq (.reg [⟨(some 8), none, .mv (.t 5)⟩, ⟨(some 9), none, .mv (.t 0)⟩, ⟨(some 10), none, .len false (.t 9)⟩, ⟨(some 11), none, .bin .lss (.t 8) (.t 10)⟩, ⟨(some 12), none, .mv (.t 11)⟩, ⟨(some 13), (some (12, true)), .mv (.t 0)⟩, ⟨(some 14), (some (12, true)), .mv (.t 5)⟩, ⟨(some 15), (some (12, true)), .ia 1 (.t 13) (.t 14)⟩, ⟨(some 16), (some (12, true)), .load false 1 (.t 15)⟩, ⟨(some 17), (some (12, true)), .bin .geq (.t 16) (.c (.int .u8 (128)))⟩, ⟨(some 18), none, .pick (.t 12) (.t 17) (.c (.bool false))⟩])
  (.keep [0, 5, 18] (.cond (.t 18) .skip (.exit 0))))
  (.keep [0, 5] (.block 1 (.reg [⟨(some 19), none, .mv (.t 5)⟩, ⟨(some 20), none, .bin .add (.t 19) (.c (.int .i64 (1)))⟩, ⟨(some 5), none, .mv (.t 20)⟩])))) [0, 5]
def A.probateref01_Take.L1 : AC := .post (.seq (.seq (.reg [⟨(some 45), none, .mv (.t 7)⟩, ⟨(some 46), none, .bin .geq (.t 45) (.c (.int .i64 (0)))⟩])
  (.keep [0, 5, 6, 7, 46] (.cond (.t 46) .skip (.exit 2))))
  (.keep [0, 5, 6, 7] (.seq (.block 3 (.reg [⟨(some 49), none, .mv (.t 6)⟩, ⟨(some 50), none, .bin .mul (.c (.int .u64 (128))) (.t 49)⟩, ⟨(some 51), none, .mv (.t 0)⟩, ⟨(some 52), none, .mv (.t 7)⟩, ⟨(some 53), none, .ia 1 (.t 51) (.t 52)⟩, ⟨(some 54), none, .load false 1 (.t 53)⟩, ⟨(some 55), none, .conv .u64 (.t 54)⟩, ⟨(some 56), none, .bin .rem (.t 55) (.c (.int .u64 (128)))⟩, ⟨(some 57), none, .bin .add (.t 50) (.t 56)⟩, ⟨(some 6), none, .mv (.t 57)⟩]))
  (.keep [0, 5, 6, 7] (.reg [⟨(some 47), none, .mv (.t 7)⟩, ⟨(some 48), none, .bin .sub (.t 47) (.c (.int .i64 (1)))⟩, ⟨(some 7), none, .mv (.t 48)⟩]))))) [0, 5, 6, 7]
def A.probateref01_Take : AFn := ⟨61, [(2, none), (3, none), (4, none)], (.seq (.reg [⟨(some 2), none, .mv (.c (.int .u64 (0)))⟩, ⟨(some 3), none, .mv (.c (.int .i64 (0)))⟩, ⟨(some 4), none, .mv (.c (.int .i64 (0)))⟩])
  (.keep [0] (.seq (.reg [⟨(some 5), none, .mv (.c (.int .i64 (0)))⟩])
  (.keep [0, 5] (.seq (.block 0 (.loop A.probateref01_Take.L0))
  (.keep [0, 5] (.seq (.seq (.reg [⟨(some 21), none, .mv (.t 5)⟩, ⟨(some 22), none, .bin .geq (.t 21) (.c (.int .i64 (10)))⟩])
  (.keep [0, 5, 22] (.cond (.t 22) (.seq (.reg [⟨(some 2), none, .mv (.c (.int .u64 (0)))⟩, ⟨(some 3), none, .mv (.c (.int .i64 (0)))⟩, ⟨(some 4), none, .mv (.c (.int .i64 (4)))⟩]) .ret) .skip)))
  (.keep [0, 5] (.seq (.seq (.reg [⟨(some 23), none, .mv (.t 5)⟩, ⟨(some 24), none, .mv (.t 0)⟩, ⟨(some 25), none, .len false (.t 24)⟩, ⟨(some 26), none, .bin .eql (.t 23) (.t 25)⟩])
  (.keep [0, 5, 26] (.cond (.t 26) (.seq (.reg [⟨(some 2), none, .mv (.c (.int .u64 (0)))⟩, ⟨(some 3), none, .mv (.c (.int .i64 (0)))⟩, ⟨(some 4), none, .mv (.c (.int .i64 (3)))⟩]) .ret) .skip)))
  (.keep [0, 5] (.seq (.seq (.reg [⟨(some 27), none, .mv (.t 5)⟩, ⟨(some 28), none, .bin .eql (.t 27) (.c (.int .i64 (9)))⟩, ⟨(some 29), none, .mv (.t 28)⟩, ⟨(some 30), (some (29, true)), .mv (.t 0)⟩, ⟨(some 31), (some (29, true)), .ia 1 (.t 30) (.c (.int .i64 (9)))⟩, ⟨(some 32), (some (29, true)), .load false 1 (.t 31)⟩, ⟨(some 33), (some (29, true)), .bin .gtr (.t 32) (.c (.int .u8 (1)))⟩, ⟨(some 34), none, .pick (.t 29) (.t 33) (.c (.bool false))⟩])
  (.keep [0, 5, 34] (.cond (.t 34) (.seq (.reg [⟨(some 2), none, .mv (.c (.int .u64 (0)))⟩, ⟨(some 3), none, .mv (.c (.int .i64 (0)))⟩, ⟨(some 4), none, .mv (.c (.int .i64 (4)))⟩]) .ret) .skip)))
  (.keep [0, 5] (.seq (.seq (.reg [⟨(some 35), none, .mv (.t 5)⟩, ⟨(some 36), none, .bin .gtr (.t 35) (.c (.int .i64 (0)))⟩, ⟨(some 37), none, .mv (.t 36)⟩, ⟨(some 38), (some (37, true)), .mv (.t 0)⟩, ⟨(some 39), (some (37, true)), .mv (.t 5)⟩, ⟨(some 40), (some (37, true)), .ia 1 (.t 38) (.t 39)⟩, ⟨(some 41), (some (37, true)), .load false 1 (.t 40)⟩, ⟨(some 42), (some (37, true)), .bin .eql (.t 41) (.c (.int .u8 (0)))⟩, ⟨(some 43), none, .pick (.t 37) (.t 42) (.c (.bool false))⟩])
  (.keep [0, 5, 43] (.cond (.t 43) (.seq (.reg [⟨(some 2), none, .mv (.c (.int .u64 (0)))⟩, ⟨(some 3), none, .mv (.c (.int .i64 (0)))⟩, ⟨(some 4), none, .mv (.c (.int .i64 (2)))⟩]) .ret) .skip)))
  (.keep [0, 5] (.seq (.reg [⟨(some 6), none, .mv (.c (.int .u64 (0)))⟩])
  (.keep [0, 5, 6] (.seq (.seq (.reg [⟨(some 44), none, .mv (.t 5)⟩, ⟨(some 7), none, .mv (.t 44)⟩])
  (.keep [0, 5, 6, 7] (.block 2 (.loop A.probateref01_Take.L1))))
  (.keep [5, 6] (.seq (.reg [⟨(some 58), none, .mv (.t 6)⟩, ⟨(some 59), none, .mv (.t 5)⟩, ⟨(some 60), none, .bin .add (.t 59) (.c (.int .i64 (1)))⟩, ⟨(some 2), none, .mv (.t 58)⟩, ⟨(some 3), none, .mv (.t 60)⟩, ⟨(some 4), none, .mv (.c (.int .i64 (0)))⟩]) .ret)))))))))))))))))))⟩
def A.probateref01_Same.L0 : AC := .post (.seq (.seq (.reg [⟨(some 11), none, .mv (.t 5)⟩, ⟨(some 12), none, .mv (.t 0)⟩, ⟨(some 13), none, .len false (.t 12)⟩, ⟨(some 14), none, .bin .lss (.t 11) (.t 13)⟩])
  (.keep [0, 1, 5, 14] (.cond (.t 14) .skip (.exit 0))))
  (.keep [0, 1, 5] (.seq (.block 1 (.seq (.draw [(.pl, ⟨(some 17), none, .mv (.t 0)⟩), (.pl, ⟨(some 18), none, .mv (.t 5)⟩), (.pl, ⟨(some 19), none, .ia 1 (.t 17) (.t 18)⟩), (.pl, ⟨(some 20), none, .load false 1 (.t 19)⟩), (.pl, ⟨(some 21), none, .mv (.t 1)⟩), (.pl, ⟨(some 22), none, .mv (.t 5)⟩), (.pl, ⟨(some 23), none, .ia 1 (.t 21) (.t 22)⟩), (.pl, ⟨(some 24), none, .load false 1 (.t 23)⟩), (.pl, ⟨(some 25), none, .bin .neq (.t 20) (.t 24)⟩)])
  (.keep [0, 1, 5, 25] (.cond (.t 25) (.seq (.reg [⟨(some 4), none, .mv (.c (.bool false))⟩]) .ret) .skip))))
  (.keep [0, 1, 5] (.reg [⟨(some 15), none, .mv (.t 5)⟩, ⟨(some 16), none, .bin .add (.t 15) (.c (.int .i64 (1)))⟩, ⟨(some 5), none, .mv (.t 16)⟩]))))) [0, 1, 5]
def A.probateref01_Same : AFn := ⟨26, [(4, none)], (.seq (.reg [⟨(some 4), none, .mv (.c (.bool false))⟩])
  (.keep [0, 1] (.seq (.seq (.reg [⟨(some 6), none, .mv (.t 0)⟩, ⟨(some 7), none, .len false (.t 6)⟩, ⟨(some 8), none, .mv (.t 1)⟩, ⟨(some 9), none, .len false (.t 8)⟩, ⟨(some 10), none, .bin .neq (.t 7) (.t 9)⟩])
  (.keep [0, 1, 10] (.cond (.t 10) (.seq (.reg [⟨(some 4), none, .mv (.c (.bool false))⟩]) .ret) .skip)))
  (.keep [0, 1] (.seq (.seq (.reg [⟨(some 5), none, .mv (.c (.int .i64 (0)))⟩])
  (.keep [0, 1, 5] (.block 0 (.loop A.probateref01_Same.L0))))
  (.keep [] (.seq (.reg [⟨(some 4), none, .mv (.c (.bool true))⟩]) .ret)))))))⟩
def A.probateref01_Put : AFn := ⟨17, [(2, none)], (.seq (.reg [⟨(some 2), none, .mv (.c (.sl 0 1 []))⟩])
  (.keep [0] (.seq (.seq (.reg [⟨(some 3), none, .mv (.t 0)⟩, ⟨(some 4), none, .bin .lss (.t 3) (.c (.int .u64 (128)))⟩])
  (.keep [0, 4] (.cond (.t 4) (.seq (.reg [⟨(some 5), none, .mv (.t 0)⟩, ⟨(some 6), none, .conv .u8 (.t 5)⟩, ⟨(some 7), none, .bsl 1 false [(.int .u8 (0))] 1 [(0, (.t 6))]⟩, ⟨(some 2), none, .mv (.t 7)⟩]) .ret) .skip)))
  (.keep [0] (.seq (.reg [⟨(some 8), none, .mv (.t 0)⟩, ⟨(some 9), none, .bin .rem (.t 8) (.c (.int .u64 (128)))⟩, ⟨(some 10), none, .conv .u8 (.t 9)⟩, ⟨(some 11), none, .bin .add (.t 10) (.c (.int .u8 (128)))⟩, ⟨(some 12), none, .bsl 1 false [(.int .u8 (0))] 1 [(0, (.t 11))]⟩, ⟨(some 13), none, .mv (.t 0)⟩, ⟨(some 14), none, .bin .quo (.t 13) (.c (.int .u64 (128)))⟩, ⟨(some 15), none, .call (.c (.fn K.probateref01_Put [] [])) [(.t 14)]⟩, ⟨(some 16), none, .app 1 1 (.t 12) (.t 15)⟩, ⟨(some 2), none, .mv (.t 16)⟩]) .ret)))))⟩
end Go.Proofs.Ytmobijebjkjnoaa.Al
namespace Go.Proofs.Ytmobijebjkjnoaa.Al
open Go Go.RowKit
set_option linter.unusedSimpArgs false
set_option linter.unusedVariables false
attribute [-simp] List.getD_eq_getElem?_getD Int.not_lt Int.not_le
def u8 (b : Nat) : V := .int .u8 b
def u8s (l : List Nat) : List V := l.map u8
@[simp] theorem u8s_nil : u8s [] = [] := rfl
@[simp] theorem u8s_length (l : List Nat) : (u8s l).length = l.length := by simp [u8s]
theorem u8s_append (l m : List Nat) : u8s (l ++ m) = u8s l ++ u8s m := by simp [u8s]
/-! ### Taking -/
/-- How many bytes ahead are not the last one of a number. -/
def ld : List Nat → Nat
  | [] => 0
  | c :: r => if c < 128 then 0 else ld r + 1
end Go.Proofs.Ytmobijebjkjnoaa.Al
namespace Go.Proofs.Ytmobijebjkjnoaa.Al
def A.wire_Writer_Bytes : AFn := ⟨8, [(2, none)], (.seq (.reg [⟨(some 2), none, .mv (.c (.sl 0 1 []))⟩])
  (.keep [0] (.seq (.reg [⟨(some 3), none, .mv (.t 0)⟩, ⟨(some 4), none, .nilchk (.t 3)⟩, ⟨(some 5), none, .fa 0 (.t 4)⟩, ⟨(some 6), none, .load false 1 (.t 5)⟩, ⟨(some 7), none, .call (.c (.fn K.slices_Clone_byte [] [])) [(.t 6)]⟩, ⟨(some 2), none, .mv (.t 7)⟩]) .ret)))⟩
def A.wire_New : AFn := ⟨7, [(2, none)], (.seq (.reg [⟨(some 2), none, .mv (.c .nilp)⟩])
  (.keep [0] (.seq (.reg [⟨(some 3), none, .mv (.t 0)⟩, ⟨(some 4), none, .call (.c (.fn K.slices_Clone_byte [] [])) [(.t 3)]⟩, ⟨(some 5), none, .bld [(.sl 0 1 []), (.int .i64 (0))] [(0, 1, (.t 4))]⟩, ⟨(some 6), none, .box (.t 5)⟩, ⟨(some 2), none, .mv (.t 6)⟩]) .ret)))⟩
def A.wire_Reader_Num : AFn := ⟨41, [(4, none)], (.seq (.reg [⟨(some 4), none, .mv (.c (.int .i64 (0)))⟩])
  (.keep [0, 1] (.seq (.reg [⟨(some 9), none, .mv (.t 0)⟩, ⟨(some 10), none, .nilchk (.t 9)⟩, ⟨(some 11), none, .fa 0 (.t 10)⟩, ⟨(some 12), none, .load false 1 (.t 11)⟩, ⟨(some 13), none, .call (.c (.fn K.vary_Take [] [])) [(.t 12)]⟩, ⟨(some 8), none, .mv (.t 13)⟩, ⟨(some 14), none, .ext (.t 8) 0⟩, ⟨(some 15), none, .ext (.t 8) 1⟩, ⟨(some 16), none, .ext (.t 8) 2⟩, ⟨(some 5), none, .mv (.t 14)⟩, ⟨(some 6), none, .mv (.t 15)⟩, ⟨(some 7), none, .mv (.t 16)⟩])
  (.keep [0, 1, 5, 6, 7] (.seq (.seq (.reg [⟨(some 17), none, .mv (.t 7)⟩, ⟨(some 18), none, .bin .eql (.t 17) (.c (.int .i64 (0)))⟩, ⟨(some 19), none, .mv (.t 18)⟩, ⟨(some 20), (some (19, true)), .mv (.t 5)⟩, ⟨(some 21), (some (19, true)), .mv (.t 1)⟩, ⟨(some 22), (some (19, true)), .conv .u64 (.t 21)⟩, ⟨(some 23), (some (19, true)), .bin .gtr (.t 20) (.t 22)⟩, ⟨(some 24), none, .pick (.t 19) (.t 23) (.c (.bool false))⟩])
  (.keep [0, 5, 6, 7, 24] (.cond (.t 24) (.reg [⟨(some 7), none, .mv (.c (.int .i64 (5)))⟩]) .skip)))
  (.keep [0, 5, 6, 7] (.seq (.seq (.reg [⟨(some 25), none, .mv (.t 7)⟩, ⟨(some 26), none, .bin .neq (.t 25) (.c (.int .i64 (0)))⟩])
  (.keep [0, 5, 6, 7, 26] (.cond (.t 26) (.seq (.reg [⟨(some 27), none, .mv (.t 0)⟩, ⟨(some 28), none, .mv (.t 7)⟩, ⟨(some 29), none, .call (.c (.fn K.wire_Reader_Wrong [] [])) [(.t 27), (.t 28)]⟩])
  (.keep [] (.seq (.reg [⟨(some 4), none, .mv (.c (.int .i64 (0)))⟩]) .ret))) .skip)))
  (.keep [0, 5, 6] (.seq (.reg [⟨(some 30), none, .mv (.t 0)⟩, ⟨(some 31), none, .mv (.t 0)⟩, ⟨(some 32), none, .nilchk (.t 31)⟩, ⟨(some 33), none, .fa 0 (.t 32)⟩, ⟨(some 34), none, .load false 1 (.t 33)⟩, ⟨(some 35), none, .mv (.t 6)⟩, ⟨(some 36), none, .slc 1 (.t 34) (some (.t 35)) none⟩, ⟨(some 37), none, .nilchk (.t 30)⟩, ⟨(some 38), none, .fa 0 (.t 37)⟩, ⟨none, none, .store 1 (.t 38) (.t 36)⟩])
  (.keep [5] (.seq (.reg [⟨(some 39), none, .mv (.t 5)⟩, ⟨(some 40), none, .conv .i64 (.t 39)⟩, ⟨(some 4), none, .mv (.t 40)⟩]) .ret)))))))))))⟩
def A.wire_Reader_Bool : AFn := ⟨6, [(2, none)], (.seq (.reg [⟨(some 2), none, .mv (.c (.bool false))⟩])
  (.keep [0] (.seq (.reg [⟨(some 3), none, .mv (.t 0)⟩, ⟨(some 4), none, .call (.c (.fn K.wire_Reader_Num [] [])) [(.t 3), (.c (.int .i64 (1)))]⟩, ⟨(some 5), none, .bin .eql (.t 4) (.c (.int .i64 (1)))⟩, ⟨(some 2), none, .mv (.t 5)⟩]) .ret)))⟩
def A.wire_Reader_Nums : AFn := ⟨14, [(6, none)], (.seq (.reg [⟨(some 5), none, .box (.t 2)⟩, ⟨(some 6), none, .mv (.c (.sl 0 1 []))⟩])
  (.keep [0, 1, 5] (.seq (.reg [⟨(some 8), none, .mv (.t 0)⟩, ⟨(some 9), none, .mkfn K.wire_Reader_Num [(.t 8)] []⟩, ⟨(some 7), none, .alloc [.nilf]⟩, ⟨none, none, .store 1 (.t 7) (.t 9)⟩])
  (.keep [0, 1, 5, 7] (.seq (.reg [⟨(some 10), none, .mv (.t 0)⟩, ⟨(some 11), none, .mv (.t 1)⟩, ⟨(some 12), none, .mkfn K.wire_Reader_Nums_1 [] [(.t 7), (.t 5)]⟩, ⟨(some 13), none, .call (.c (.fn K.wire_List_int [] [])) [(.t 10), (.t 11), (.t 12)]⟩, ⟨(some 6), none, .mv (.t 13)⟩]) .ret)))))⟩
def A.wire_Reader_Wrong : AFn := ⟨20, [], (.seq (.reg [⟨(some 4), none, .mv (.t 0)⟩, ⟨(some 5), none, .nilchk (.t 4)⟩, ⟨(some 6), none, .fa 1 (.t 5)⟩, ⟨(some 7), none, .load false 1 (.t 6)⟩, ⟨(some 8), none, .bin .eql (.t 7) (.c (.int .i64 (0)))⟩, ⟨(some 9), none, .mv (.t 8)⟩, ⟨(some 10), (some (9, true)), .mv (.t 1)⟩, ⟨(some 11), (some (9, true)), .bin .neq (.t 10) (.c (.int .i64 (0)))⟩, ⟨(some 12), none, .pick (.t 9) (.t 11) (.c (.bool false))⟩])
  (.keep [0, 1, 12] (.cond (.t 12) (.reg [⟨(some 13), none, .mv (.t 0)⟩, ⟨(some 14), none, .mv (.t 0)⟩, ⟨(some 15), none, .mv (.t 1)⟩, ⟨(some 16), none, .nilchk (.t 13)⟩, ⟨(some 17), none, .fa 0 (.t 16)⟩, ⟨none, none, .store 1 (.t 17) (.c (.sl 0 1 []))⟩, ⟨(some 18), none, .nilchk (.t 14)⟩, ⟨(some 19), none, .fa 1 (.t 18)⟩, ⟨none, none, .store 1 (.t 19) (.t 15)⟩]) .skip)))⟩
def A.wire_Reader_Left : AFn := ⟨8, [(2, none)], (.seq (.reg [⟨(some 2), none, .mv (.c (.int .i64 (0)))⟩])
  (.keep [0] (.seq (.reg [⟨(some 3), none, .mv (.t 0)⟩, ⟨(some 4), none, .nilchk (.t 3)⟩, ⟨(some 5), none, .fa 0 (.t 4)⟩, ⟨(some 6), none, .load false 1 (.t 5)⟩, ⟨(some 7), none, .len false (.t 6)⟩, ⟨(some 2), none, .mv (.t 7)⟩]) .ret)))⟩
def A.wire_Reader_End : AFn := ⟨20, [(2, none)], (.seq (.reg [⟨(some 2), none, .mv (.c (.int .i64 (0)))⟩])
  (.keep [0] (.seq (.seq (.reg [⟨(some 3), none, .mv (.t 0)⟩, ⟨(some 4), none, .nilchk (.t 3)⟩, ⟨(some 5), none, .fa 1 (.t 4)⟩, ⟨(some 6), none, .load false 1 (.t 5)⟩, ⟨(some 7), none, .bin .eql (.t 6) (.c (.int .i64 (0)))⟩, ⟨(some 8), none, .mv (.t 7)⟩, ⟨(some 9), (some (8, true)), .mv (.t 0)⟩, ⟨(some 10), (some (8, true)), .nilchk (.t 9)⟩, ⟨(some 11), (some (8, true)), .fa 0 (.t 10)⟩, ⟨(some 12), (some (8, true)), .load false 1 (.t 11)⟩, ⟨(some 13), (some (8, true)), .len false (.t 12)⟩, ⟨(some 14), (some (8, true)), .bin .gtr (.t 13) (.c (.int .i64 (0)))⟩, ⟨(some 15), none, .pick (.t 8) (.t 14) (.c (.bool false))⟩])
  (.keep [0, 15] (.cond (.t 15) (.seq (.reg [⟨(some 2), none, .mv (.c (.int .i64 (4)))⟩]) .ret) .skip)))
  (.keep [0] (.seq (.reg [⟨(some 16), none, .mv (.t 0)⟩, ⟨(some 17), none, .nilchk (.t 16)⟩, ⟨(some 18), none, .fa 1 (.t 17)⟩, ⟨(some 19), none, .load false 1 (.t 18)⟩, ⟨(some 2), none, .mv (.t 19)⟩]) .ret)))))⟩
def A.wire_List_Thing.L0 : AC := .post (.seq (.reg [⟨(some 12), none, .bin .lss (.t 11) (.t 10)⟩])
  (.keep [0, 2, 7, 10, 11, 12] (.seq (.cond (.t 12) .skip (.exit 0))
  (.keep [0, 2, 7, 10, 11] (.seq (.block 1 (.seq (.seq (.reg [⟨(some 13), none, .mv (.t 0)⟩, ⟨(some 14), none, .nilchk (.t 13)⟩, ⟨(some 15), none, .fa 1 (.t 14)⟩, ⟨(some 16), none, .load false 1 (.t 15)⟩, ⟨(some 17), none, .bin .neq (.t 16) (.c (.int .i64 (0)))⟩])
  (.keep [0, 2, 7, 10, 11, 17] (.cond (.t 17) (.exit 0) .skip)))
  (.keep [0, 2, 7, 10, 11] (.reg [⟨(some 18), none, .mv (.t 7)⟩, ⟨(some 19), none, .mv (.t 2)⟩, ⟨(some 20), none, .mv (.t 0)⟩, ⟨(some 21), none, .call (.t 19) [(.t 20)]⟩, ⟨(some 22), none, .bsl 4 true [(.int .i64 (0)), (.int .i64 (0)), (.sl 0 1 []), (.int .i64 (0))] 1 [(0, (.t 21))]⟩, ⟨(some 23), none, .app 4 48 (.t 18) (.t 22)⟩, ⟨(some 7), none, .mv (.t 23)⟩]))))
  (.keep [0, 2, 7, 10, 11] (.reg [⟨(some 24), none, .bin .add (.t 11) (.c (.int .i64 (1)))⟩, ⟨(some 11), none, .mv (.t 24)⟩]))))))) [0, 2, 7, 10, 11]
def A.wire_List_Thing : AFn := ⟨31, [(6, none)], (.seq (.reg [⟨(some 6), none, .mv (.c (.sl 0 1 []))⟩])
  (.keep [0, 1, 2] (.seq (.reg [⟨(some 7), none, .mv (.c (.sl 0 1 []))⟩])
  (.keep [0, 1, 2, 7] (.seq (.seq (.reg [⟨(some 8), none, .mv (.t 0)⟩, ⟨(some 9), none, .mv (.t 1)⟩, ⟨(some 10), none, .call (.c (.fn K.wire_Reader_Num [] [])) [(.t 8), (.t 9)]⟩, ⟨(some 11), none, .mv (.c (.int .i64 (0)))⟩])
  (.keep [0, 2, 7, 10, 11] (.block 0 (.loop A.wire_List_Thing.L0))))
  (.keep [0, 7] (.seq (.seq (.reg [⟨(some 25), none, .mv (.t 0)⟩, ⟨(some 26), none, .nilchk (.t 25)⟩, ⟨(some 27), none, .fa 1 (.t 26)⟩, ⟨(some 28), none, .load false 1 (.t 27)⟩, ⟨(some 29), none, .bin .neq (.t 28) (.c (.int .i64 (0)))⟩])
  (.keep [7, 29] (.cond (.t 29) (.seq (.reg [⟨(some 6), none, .mv (.c (.sl 0 1 []))⟩]) .ret) .skip)))
  (.keep [7] (.seq (.reg [⟨(some 30), none, .mv (.t 7)⟩, ⟨(some 6), none, .mv (.t 30)⟩]) .ret)))))))))⟩
def A.wire_Writer_Nums.L0 : AC := .post (.seq (.reg [⟨(some 16), none, .bin .lss (.t 15) (.t 14)⟩])
  (.keep [4, 13, 14, 15, 16] (.seq (.cond (.t 16) .skip (.exit 0))
  (.keep [4, 13, 14, 15] (.seq (.block 1 (.seq (.reg [⟨(some 17), none, .ia 1 (.t 13) (.t 15)⟩, ⟨(some 18), none, .load false 1 (.t 17)⟩, ⟨(some 6), none, .mv (.t 18)⟩])
  (.keep [4, 6, 13, 14, 15] (.reg [⟨(some 19), none, .mv (.t 4)⟩, ⟨(some 20), none, .mv (.t 6)⟩, ⟨(some 21), none, .call (.t 19) [(.t 20)]⟩]))))
  (.keep [4, 13, 14, 15] (.reg [⟨(some 22), none, .bin .add (.t 15) (.c (.int .i64 (1)))⟩, ⟨(some 15), none, .mv (.t 22)⟩]))))))) [4, 13, 14, 15]
def A.wire_Writer_Nums : AFn := ⟨23, [], (.seq (.reg [⟨(some 7), none, .mv (.t 0)⟩, ⟨(some 8), none, .mv (.t 1)⟩, ⟨(some 9), none, .len false (.t 8)⟩, ⟨(some 10), none, .call (.c (.fn K.wire_Writer_Num [] [])) [(.t 7), (.t 9)]⟩])
  (.keep [0, 1] (.seq (.reg [⟨(some 11), none, .mv (.t 0)⟩, ⟨(some 12), none, .mkfn K.wire_Writer_Num [(.t 11)] []⟩, ⟨(some 4), none, .mv (.t 12)⟩])
  (.keep [1, 4] (.seq (.reg [⟨(some 13), none, .mv (.t 1)⟩, ⟨(some 14), none, .len false (.t 13)⟩, ⟨(some 15), none, .mv (.c (.int .i64 (0)))⟩])
  (.keep [4, 13, 14, 15] (.block 0 (.loop A.wire_Writer_Nums.L0))))))))⟩
def A.wire_Writer_Bool : AFn := ⟨9, [], (.seq (.reg [⟨(some 4), none, .mv (.c (.int .i64 (0)))⟩])
  (.keep [0, 1, 4] (.seq (.seq (.reg [⟨(some 5), none, .mv (.t 1)⟩])
  (.keep [0, 4, 5] (.cond (.t 5) (.reg [⟨(some 4), none, .mv (.c (.int .i64 (1)))⟩]) .skip)))
  (.keep [0, 4] (.reg [⟨(some 6), none, .mv (.t 0)⟩, ⟨(some 7), none, .mv (.t 4)⟩, ⟨(some 8), none, .call (.c (.fn K.wire_Writer_Num [] [])) [(.t 6), (.t 7)]⟩])))))⟩
def A.wire_Writer_Num : AFn := ⟨15, [], (.draw [(.pl, ⟨(some 4), none, .mv (.t 0)⟩), (.pl, ⟨(some 5), none, .mv (.t 0)⟩), (.pl, ⟨(some 6), none, .nilchk (.t 5)⟩), (.pl, ⟨(some 7), none, .fa 0 (.t 6)⟩), (.pl, ⟨(some 8), none, .load false 1 (.t 7)⟩), (.pl, ⟨(some 9), none, .mv (.t 1)⟩), (.pl, ⟨(some 10), none, .conv .u64 (.t 9)⟩), (.pl, ⟨(some 11), none, .call (.c (.fn K.vary_Put [] [])) [(.t 10)]⟩), (.eff, ⟨(some 12), none, .app 1 1 (.t 8) (.t 11)⟩), (.pl, ⟨(some 13), none, .nilchk (.t 4)⟩), (.pl, ⟨(some 14), none, .fa 0 (.t 13)⟩), (.eff, ⟨none, none, .store 1 (.t 14) (.t 12)⟩)])⟩
def A.wire_List_int.L0 : AC := .post (.seq (.reg [⟨(some 12), none, .bin .lss (.t 11) (.t 10)⟩])
  (.keep [0, 2, 7, 10, 11, 12] (.seq (.cond (.t 12) .skip (.exit 0))
  (.keep [0, 2, 7, 10, 11] (.seq (.block 1 (.seq (.seq (.reg [⟨(some 13), none, .mv (.t 0)⟩, ⟨(some 14), none, .nilchk (.t 13)⟩, ⟨(some 15), none, .fa 1 (.t 14)⟩, ⟨(some 16), none, .load false 1 (.t 15)⟩, ⟨(some 17), none, .bin .neq (.t 16) (.c (.int .i64 (0)))⟩])
  (.keep [0, 2, 7, 10, 11, 17] (.cond (.t 17) (.exit 0) .skip)))
  (.keep [0, 2, 7, 10, 11] (.reg [⟨(some 18), none, .mv (.t 7)⟩, ⟨(some 19), none, .mv (.t 2)⟩, ⟨(some 20), none, .mv (.t 0)⟩, ⟨(some 21), none, .call (.t 19) [(.t 20)]⟩, ⟨(some 22), none, .bsl 1 false [(.int .i64 (0))] 1 [(0, (.t 21))]⟩, ⟨(some 23), none, .app 1 8 (.t 18) (.t 22)⟩, ⟨(some 7), none, .mv (.t 23)⟩]))))
  (.keep [0, 2, 7, 10, 11] (.reg [⟨(some 24), none, .bin .add (.t 11) (.c (.int .i64 (1)))⟩, ⟨(some 11), none, .mv (.t 24)⟩]))))))) [0, 2, 7, 10, 11]
def A.wire_List_int : AFn := ⟨31, [(6, none)], (.seq (.reg [⟨(some 6), none, .mv (.c (.sl 0 1 []))⟩])
  (.keep [0, 1, 2] (.seq (.reg [⟨(some 7), none, .mv (.c (.sl 0 1 []))⟩])
  (.keep [0, 1, 2, 7] (.seq (.seq (.reg [⟨(some 8), none, .mv (.t 0)⟩, ⟨(some 9), none, .mv (.t 1)⟩, ⟨(some 10), none, .call (.c (.fn K.wire_Reader_Num [] [])) [(.t 8), (.t 9)]⟩, ⟨(some 11), none, .mv (.c (.int .i64 (0)))⟩])
  (.keep [0, 2, 7, 10, 11] (.block 0 (.loop A.wire_List_int.L0))))
  (.keep [0, 7] (.seq (.seq (.reg [⟨(some 25), none, .mv (.t 0)⟩, ⟨(some 26), none, .nilchk (.t 25)⟩, ⟨(some 27), none, .fa 1 (.t 26)⟩, ⟨(some 28), none, .load false 1 (.t 27)⟩, ⟨(some 29), none, .bin .neq (.t 28) (.c (.int .i64 (0)))⟩])
  (.keep [7, 29] (.cond (.t 29) (.seq (.reg [⟨(some 6), none, .mv (.c (.sl 0 1 []))⟩]) .ret) .skip)))
  (.keep [7] (.seq (.reg [⟨(some 30), none, .mv (.t 7)⟩, ⟨(some 6), none, .mv (.t 30)⟩]) .ret)))))))))⟩
def A.wire_Reader_Nums_1 : AFn := ⟨8, [(4, none)], (.seq (.reg [⟨(some 4), none, .mv (.c (.int .i64 (0)))⟩])
  (.keep [1, 2] (.seq (.reg [⟨(some 5), none, .load false 1 (.t 1)⟩, ⟨(some 6), none, .load false 1 (.t 2)⟩, ⟨(some 7), none, .call (.t 5) [(.t 6)]⟩, ⟨(some 4), none, .mv (.t 7)⟩]) .ret)))⟩
def A.wire_List_Prod.L0 : AC := .post (.seq (.reg [⟨(some 12), none, .bin .lss (.t 11) (.t 10)⟩])
  (.keep [0, 2, 7, 10, 11, 12] (.seq (.cond (.t 12) .skip (.exit 0))
  (.keep [0, 2, 7, 10, 11] (.seq (.block 1 (.seq (.seq (.reg [⟨(some 13), none, .mv (.t 0)⟩, ⟨(some 14), none, .nilchk (.t 13)⟩, ⟨(some 15), none, .fa 1 (.t 14)⟩, ⟨(some 16), none, .load false 1 (.t 15)⟩, ⟨(some 17), none, .bin .neq (.t 16) (.c (.int .i64 (0)))⟩])
  (.keep [0, 2, 7, 10, 11, 17] (.cond (.t 17) (.exit 0) .skip)))
  (.keep [0, 2, 7, 10, 11] (.reg [⟨(some 18), none, .mv (.t 7)⟩, ⟨(some 19), none, .mv (.t 2)⟩, ⟨(some 20), none, .mv (.t 0)⟩, ⟨(some 21), none, .call (.t 19) [(.t 20)]⟩, ⟨(some 22), none, .bsl 2 true [(.int .i64 (0)), (.sl 0 1 [])] 1 [(0, (.t 21))]⟩, ⟨(some 23), none, .app 2 32 (.t 18) (.t 22)⟩, ⟨(some 7), none, .mv (.t 23)⟩]))))
  (.keep [0, 2, 7, 10, 11] (.reg [⟨(some 24), none, .bin .add (.t 11) (.c (.int .i64 (1)))⟩, ⟨(some 11), none, .mv (.t 24)⟩]))))))) [0, 2, 7, 10, 11]
def A.wire_List_Prod : AFn := ⟨31, [(6, none)], (.seq (.reg [⟨(some 6), none, .mv (.c (.sl 0 1 []))⟩])
  (.keep [0, 1, 2] (.seq (.reg [⟨(some 7), none, .mv (.c (.sl 0 1 []))⟩])
  (.keep [0, 1, 2, 7] (.seq (.seq (.reg [⟨(some 8), none, .mv (.t 0)⟩, ⟨(some 9), none, .mv (.t 1)⟩, ⟨(some 10), none, .call (.c (.fn K.wire_Reader_Num [] [])) [(.t 8), (.t 9)]⟩, ⟨(some 11), none, .mv (.c (.int .i64 (0)))⟩])
  (.keep [0, 2, 7, 10, 11] (.block 0 (.loop A.wire_List_Prod.L0))))
  (.keep [0, 7] (.seq (.seq (.reg [⟨(some 25), none, .mv (.t 0)⟩, ⟨(some 26), none, .nilchk (.t 25)⟩, ⟨(some 27), none, .fa 1 (.t 26)⟩, ⟨(some 28), none, .load false 1 (.t 27)⟩, ⟨(some 29), none, .bin .neq (.t 28) (.c (.int .i64 (0)))⟩])
  (.keep [7, 29] (.cond (.t 29) (.seq (.reg [⟨(some 6), none, .mv (.c (.sl 0 1 []))⟩]) .ret) .skip)))
  (.keep [7] (.seq (.reg [⟨(some 30), none, .mv (.t 7)⟩, ⟨(some 6), none, .mv (.t 30)⟩]) .ret)))))))))⟩
def A.wire_List_Sym.L0 : AC := .post (.seq (.reg [⟨(some 12), none, .bin .lss (.t 11) (.t 10)⟩])
  (.keep [0, 2, 7, 10, 11, 12] (.seq (.cond (.t 12) .skip (.exit 0))
  (.keep [0, 2, 7, 10, 11] (.seq (.block 1 (.seq (.seq (.reg [⟨(some 13), none, .mv (.t 0)⟩, ⟨(some 14), none, .nilchk (.t 13)⟩, ⟨(some 15), none, .fa 1 (.t 14)⟩, ⟨(some 16), none, .load false 1 (.t 15)⟩, ⟨(some 17), none, .bin .neq (.t 16) (.c (.int .i64 (0)))⟩])
  (.keep [0, 2, 7, 10, 11, 17] (.cond (.t 17) (.exit 0) .skip)))
  (.keep [0, 2, 7, 10, 11] (.reg [⟨(some 18), none, .mv (.t 7)⟩, ⟨(some 19), none, .mv (.t 2)⟩, ⟨(some 20), none, .mv (.t 0)⟩, ⟨(some 21), none, .call (.t 19) [(.t 20)]⟩, ⟨(some 22), none, .bsl 2 true [(.bool false), (.int .i64 (0))] 1 [(0, (.t 21))]⟩, ⟨(some 23), none, .app 2 16 (.t 18) (.t 22)⟩, ⟨(some 7), none, .mv (.t 23)⟩]))))
  (.keep [0, 2, 7, 10, 11] (.reg [⟨(some 24), none, .bin .add (.t 11) (.c (.int .i64 (1)))⟩, ⟨(some 11), none, .mv (.t 24)⟩]))))))) [0, 2, 7, 10, 11]
def A.wire_List_Sym : AFn := ⟨31, [(6, none)], (.seq (.reg [⟨(some 6), none, .mv (.c (.sl 0 1 []))⟩])
  (.keep [0, 1, 2] (.seq (.reg [⟨(some 7), none, .mv (.c (.sl 0 1 []))⟩])
  (.keep [0, 1, 2, 7] (.seq (.seq (.reg [⟨(some 8), none, .mv (.t 0)⟩, ⟨(some 9), none, .mv (.t 1)⟩, ⟨(some 10), none, .call (.c (.fn K.wire_Reader_Num [] [])) [(.t 8), (.t 9)]⟩, ⟨(some 11), none, .mv (.c (.int .i64 (0)))⟩])
  (.keep [0, 2, 7, 10, 11] (.block 0 (.loop A.wire_List_Sym.L0))))
  (.keep [0, 7] (.seq (.seq (.reg [⟨(some 25), none, .mv (.t 0)⟩, ⟨(some 26), none, .nilchk (.t 25)⟩, ⟨(some 27), none, .fa 1 (.t 26)⟩, ⟨(some 28), none, .load false 1 (.t 27)⟩, ⟨(some 29), none, .bin .neq (.t 28) (.c (.int .i64 (0)))⟩])
  (.keep [7, 29] (.cond (.t 29) (.seq (.reg [⟨(some 6), none, .mv (.c (.sl 0 1 []))⟩]) .ret) .skip)))
  (.keep [7] (.seq (.reg [⟨(some 30), none, .mv (.t 7)⟩, ⟨(some 6), none, .mv (.t 30)⟩]) .ret)))))))))⟩
def A.wire_List_Edit.L0 : AC := .post (.seq (.reg [⟨(some 12), none, .bin .lss (.t 11) (.t 10)⟩])
  (.keep [0, 2, 7, 10, 11, 12] (.seq (.cond (.t 12) .skip (.exit 0))
  (.keep [0, 2, 7, 10, 11] (.seq (.block 1 (.seq (.seq (.reg [⟨(some 13), none, .mv (.t 0)⟩, ⟨(some 14), none, .nilchk (.t 13)⟩, ⟨(some 15), none, .fa 1 (.t 14)⟩, ⟨(some 16), none, .load false 1 (.t 15)⟩, ⟨(some 17), none, .bin .neq (.t 16) (.c (.int .i64 (0)))⟩])
  (.keep [0, 2, 7, 10, 11, 17] (.cond (.t 17) (.exit 0) .skip)))
  (.keep [0, 2, 7, 10, 11] (.reg [⟨(some 18), none, .mv (.t 7)⟩, ⟨(some 19), none, .mv (.t 2)⟩, ⟨(some 20), none, .mv (.t 0)⟩, ⟨(some 21), none, .call (.t 19) [(.t 20)]⟩, ⟨(some 22), none, .bsl 3 true [(.int .i64 (0)), (.bool false), (.int .i64 (0))] 1 [(0, (.t 21))]⟩, ⟨(some 23), none, .app 3 24 (.t 18) (.t 22)⟩, ⟨(some 7), none, .mv (.t 23)⟩]))))
  (.keep [0, 2, 7, 10, 11] (.reg [⟨(some 24), none, .bin .add (.t 11) (.c (.int .i64 (1)))⟩, ⟨(some 11), none, .mv (.t 24)⟩]))))))) [0, 2, 7, 10, 11]
def A.wire_List_Edit : AFn := ⟨31, [(6, none)], (.seq (.reg [⟨(some 6), none, .mv (.c (.sl 0 1 []))⟩])
  (.keep [0, 1, 2] (.seq (.reg [⟨(some 7), none, .mv (.c (.sl 0 1 []))⟩])
  (.keep [0, 1, 2, 7] (.seq (.seq (.reg [⟨(some 8), none, .mv (.t 0)⟩, ⟨(some 9), none, .mv (.t 1)⟩, ⟨(some 10), none, .call (.c (.fn K.wire_Reader_Num [] [])) [(.t 8), (.t 9)]⟩, ⟨(some 11), none, .mv (.c (.int .i64 (0)))⟩])
  (.keep [0, 2, 7, 10, 11] (.block 0 (.loop A.wire_List_Edit.L0))))
  (.keep [0, 7] (.seq (.seq (.reg [⟨(some 25), none, .mv (.t 0)⟩, ⟨(some 26), none, .nilchk (.t 25)⟩, ⟨(some 27), none, .fa 1 (.t 26)⟩, ⟨(some 28), none, .load false 1 (.t 27)⟩, ⟨(some 29), none, .bin .neq (.t 28) (.c (.int .i64 (0)))⟩])
  (.keep [7, 29] (.cond (.t 29) (.seq (.reg [⟨(some 6), none, .mv (.c (.sl 0 1 []))⟩]) .ret) .skip)))
  (.keep [7] (.seq (.reg [⟨(some 30), none, .mv (.t 7)⟩, ⟨(some 6), none, .mv (.t 30)⟩]) .ret)))))))))⟩
def A.wire_List_Item.L0 : AC := .post (.seq (.reg [⟨(some 12), none, .bin .lss (.t 11) (.t 10)⟩])
  (.keep [0, 2, 7, 10, 11, 12] (.seq (.cond (.t 12) .skip (.exit 0))
  (.keep [0, 2, 7, 10, 11] (.seq (.block 1 (.seq (.seq (.reg [⟨(some 13), none, .mv (.t 0)⟩, ⟨(some 14), none, .nilchk (.t 13)⟩, ⟨(some 15), none, .fa 1 (.t 14)⟩, ⟨(some 16), none, .load false 1 (.t 15)⟩, ⟨(some 17), none, .bin .neq (.t 16) (.c (.int .i64 (0)))⟩])
  (.keep [0, 2, 7, 10, 11, 17] (.cond (.t 17) (.exit 0) .skip)))
  (.keep [0, 2, 7, 10, 11] (.reg [⟨(some 18), none, .mv (.t 7)⟩, ⟨(some 19), none, .mv (.t 2)⟩, ⟨(some 20), none, .mv (.t 0)⟩, ⟨(some 21), none, .call (.t 19) [(.t 20)]⟩, ⟨(some 22), none, .bsl 1 false [(.sl 0 1 [])] 1 [(0, (.t 21))]⟩, ⟨(some 23), none, .app 1 24 (.t 18) (.t 22)⟩, ⟨(some 7), none, .mv (.t 23)⟩]))))
  (.keep [0, 2, 7, 10, 11] (.reg [⟨(some 24), none, .bin .add (.t 11) (.c (.int .i64 (1)))⟩, ⟨(some 11), none, .mv (.t 24)⟩]))))))) [0, 2, 7, 10, 11]
def A.wire_List_Item : AFn := ⟨31, [(6, none)], (.seq (.reg [⟨(some 6), none, .mv (.c (.sl 0 1 []))⟩])
  (.keep [0, 1, 2] (.seq (.reg [⟨(some 7), none, .mv (.c (.sl 0 1 []))⟩])
  (.keep [0, 1, 2, 7] (.seq (.seq (.reg [⟨(some 8), none, .mv (.t 0)⟩, ⟨(some 9), none, .mv (.t 1)⟩, ⟨(some 10), none, .call (.c (.fn K.wire_Reader_Num [] [])) [(.t 8), (.t 9)]⟩, ⟨(some 11), none, .mv (.c (.int .i64 (0)))⟩])
  (.keep [0, 2, 7, 10, 11] (.block 0 (.loop A.wire_List_Item.L0))))
  (.keep [0, 7] (.seq (.seq (.reg [⟨(some 25), none, .mv (.t 0)⟩, ⟨(some 26), none, .nilchk (.t 25)⟩, ⟨(some 27), none, .fa 1 (.t 26)⟩, ⟨(some 28), none, .load false 1 (.t 27)⟩, ⟨(some 29), none, .bin .neq (.t 28) (.c (.int .i64 (0)))⟩])
  (.keep [7, 29] (.cond (.t 29) (.seq (.reg [⟨(some 6), none, .mv (.c (.sl 0 1 []))⟩]) .ret) .skip)))
  (.keep [7] (.seq (.reg [⟨(some 30), none, .mv (.t 7)⟩, ⟨(some 6), none, .mv (.t 30)⟩]) .ret)))))))))⟩
def A.wire_List_int_2.L0 : AC := .post (.seq (.reg [⟨(some 12), none, .bin .lss (.t 11) (.t 10)⟩])
  (.keep [0, 2, 7, 10, 11, 12] (.seq (.cond (.t 12) .skip (.exit 0))
  (.keep [0, 2, 7, 10, 11] (.seq (.block 1 (.seq (.seq (.reg [⟨(some 13), none, .mv (.t 0)⟩, ⟨(some 14), none, .nilchk (.t 13)⟩, ⟨(some 15), none, .fa 1 (.t 14)⟩, ⟨(some 16), none, .load false 1 (.t 15)⟩, ⟨(some 17), none, .bin .neq (.t 16) (.c (.int .i64 (0)))⟩])
  (.keep [0, 2, 7, 10, 11, 17] (.cond (.t 17) (.exit 0) .skip)))
  (.keep [0, 2, 7, 10, 11] (.reg [⟨(some 18), none, .mv (.t 7)⟩, ⟨(some 19), none, .mv (.t 2)⟩, ⟨(some 20), none, .mv (.t 0)⟩, ⟨(some 21), none, .call (.t 19) [(.t 20)]⟩, ⟨(some 22), none, .bsl 1 false [(.sl 0 1 [])] 1 [(0, (.t 21))]⟩, ⟨(some 23), none, .app 1 24 (.t 18) (.t 22)⟩, ⟨(some 7), none, .mv (.t 23)⟩]))))
  (.keep [0, 2, 7, 10, 11] (.reg [⟨(some 24), none, .bin .add (.t 11) (.c (.int .i64 (1)))⟩, ⟨(some 11), none, .mv (.t 24)⟩]))))))) [0, 2, 7, 10, 11]
def A.wire_List_int_2 : AFn := ⟨31, [(6, none)], (.seq (.reg [⟨(some 6), none, .mv (.c (.sl 0 1 []))⟩])
  (.keep [0, 1, 2] (.seq (.reg [⟨(some 7), none, .mv (.c (.sl 0 1 []))⟩])
  (.keep [0, 1, 2, 7] (.seq (.seq (.reg [⟨(some 8), none, .mv (.t 0)⟩, ⟨(some 9), none, .mv (.t 1)⟩, ⟨(some 10), none, .call (.c (.fn K.wire_Reader_Num [] [])) [(.t 8), (.t 9)]⟩, ⟨(some 11), none, .mv (.c (.int .i64 (0)))⟩])
  (.keep [0, 2, 7, 10, 11] (.block 0 (.loop A.wire_List_int_2.L0))))
  (.keep [0, 7] (.seq (.seq (.reg [⟨(some 25), none, .mv (.t 0)⟩, ⟨(some 26), none, .nilchk (.t 25)⟩, ⟨(some 27), none, .fa 1 (.t 26)⟩, ⟨(some 28), none, .load false 1 (.t 27)⟩, ⟨(some 29), none, .bin .neq (.t 28) (.c (.int .i64 (0)))⟩])
  (.keep [7, 29] (.cond (.t 29) (.seq (.reg [⟨(some 6), none, .mv (.c (.sl 0 1 []))⟩]) .ret) .skip)))
  (.keep [7] (.seq (.reg [⟨(some 30), none, .mv (.t 7)⟩, ⟨(some 6), none, .mv (.t 30)⟩]) .ret)))))))))⟩
def A.wire_List_Item_2.L0 : AC := .post (.seq (.reg [⟨(some 12), none, .bin .lss (.t 11) (.t 10)⟩])
  (.keep [0, 2, 7, 10, 11, 12] (.seq (.cond (.t 12) .skip (.exit 0))
  (.keep [0, 2, 7, 10, 11] (.seq (.block 1 (.seq (.seq (.reg [⟨(some 13), none, .mv (.t 0)⟩, ⟨(some 14), none, .nilchk (.t 13)⟩, ⟨(some 15), none, .fa 1 (.t 14)⟩, ⟨(some 16), none, .load false 1 (.t 15)⟩, ⟨(some 17), none, .bin .neq (.t 16) (.c (.int .i64 (0)))⟩])
  (.keep [0, 2, 7, 10, 11, 17] (.cond (.t 17) (.exit 0) .skip)))
  (.keep [0, 2, 7, 10, 11] (.reg [⟨(some 18), none, .mv (.t 7)⟩, ⟨(some 19), none, .mv (.t 2)⟩, ⟨(some 20), none, .mv (.t 0)⟩, ⟨(some 21), none, .call (.t 19) [(.t 20)]⟩, ⟨(some 22), none, .bsl 3 true [(.int .i64 (0)), (.int .i64 (0)), (.int .i64 (0))] 1 [(0, (.t 21))]⟩, ⟨(some 23), none, .app 3 24 (.t 18) (.t 22)⟩, ⟨(some 7), none, .mv (.t 23)⟩]))))
  (.keep [0, 2, 7, 10, 11] (.reg [⟨(some 24), none, .bin .add (.t 11) (.c (.int .i64 (1)))⟩, ⟨(some 11), none, .mv (.t 24)⟩]))))))) [0, 2, 7, 10, 11]
def A.wire_List_Item_2 : AFn := ⟨31, [(6, none)], (.seq (.reg [⟨(some 6), none, .mv (.c (.sl 0 1 []))⟩])
  (.keep [0, 1, 2] (.seq (.reg [⟨(some 7), none, .mv (.c (.sl 0 1 []))⟩])
  (.keep [0, 1, 2, 7] (.seq (.seq (.reg [⟨(some 8), none, .mv (.t 0)⟩, ⟨(some 9), none, .mv (.t 1)⟩, ⟨(some 10), none, .call (.c (.fn K.wire_Reader_Num [] [])) [(.t 8), (.t 9)]⟩, ⟨(some 11), none, .mv (.c (.int .i64 (0)))⟩])
  (.keep [0, 2, 7, 10, 11] (.block 0 (.loop A.wire_List_Item_2.L0))))
  (.keep [0, 7] (.seq (.seq (.reg [⟨(some 25), none, .mv (.t 0)⟩, ⟨(some 26), none, .nilchk (.t 25)⟩, ⟨(some 27), none, .fa 1 (.t 26)⟩, ⟨(some 28), none, .load false 1 (.t 27)⟩, ⟨(some 29), none, .bin .neq (.t 28) (.c (.int .i64 (0)))⟩])
  (.keep [7, 29] (.cond (.t 29) (.seq (.reg [⟨(some 6), none, .mv (.c (.sl 0 1 []))⟩]) .ret) .skip)))
  (.keep [7] (.seq (.reg [⟨(some 30), none, .mv (.t 7)⟩, ⟨(some 6), none, .mv (.t 30)⟩]) .ret)))))))))⟩
end Go.Proofs.Ytmobijebjkjnoaa.Al
namespace Go.Proofs.Ytmobijebjkjnoaa.Al
def A.probatelaw02_WireWrites.L0 : AC := .post (.seq (.reg [⟨(some 17), none, .bin .lss (.t 16) (.t 15)⟩])
  (.keep [3, 4, 14, 15, 16, 17] (.seq (.cond (.t 17) .skip (.exit 0))
  (.keep [3, 4, 14, 15, 16] (.seq (.block 1 (.seq (.reg [⟨(some 18), none, .ia 4 (.t 14) (.t 16)⟩, ⟨(some 19), none, .load true 4 (.t 18)⟩, ⟨(some 6), none, .alloc [(.int .i64 (0)), (.int .i64 (0)), (.sl 0 1 []), (.int .i64 (0))]⟩, ⟨none, none, .store 4 (.t 6) (.t 19)⟩])
  (.keep [3, 4, 6, 14, 15, 16] (.seq (.reg [⟨(some 20), none, .mv (.t 3)⟩, ⟨(some 21), none, .load true 4 (.t 6)⟩, ⟨(some 22), none, .call (.c (.fn K.probatelaw02_write [] [])) [(.t 20), (.t 21)]⟩])
  (.keep [3, 4, 6, 14, 15, 16] (.seq (.block 2 (.seq (.reg [⟨(some 24), none, .fa 0 (.t 6)⟩, ⟨(some 25), none, .load false 1 (.t 24)⟩, ⟨(some 26), none, .bin .eql (.t 25) (.c (.int .i64 (1)))⟩, ⟨(some 23), none, .mv (.t 26)⟩])
  (.keep [3, 4, 6, 14, 15, 16, 23] (.cond (.t 23) (.reg [⟨(some 27), none, .mv (.t 4)⟩, ⟨(some 28), none, .fa 1 (.t 6)⟩, ⟨(some 29), none, .load false 1 (.t 28)⟩, ⟨(some 30), none, .conv .u64 (.t 29)⟩, ⟨(some 31), none, .call (.c (.fn K.probateref01_Put [] [])) [(.t 30)]⟩, ⟨(some 32), none, .app 1 1 (.t 27) (.t 31)⟩, ⟨(some 4), none, .mv (.t 32)⟩]) (.seq (.reg [⟨(some 34), none, .fa 0 (.t 6)⟩, ⟨(some 35), none, .load false 1 (.t 34)⟩, ⟨(some 36), none, .bin .eql (.t 35) (.c (.int .i64 (2)))⟩, ⟨(some 37), none, .mv (.t 36)⟩, ⟨(some 38), (some (37, true)), .fa 1 (.t 6)⟩, ⟨(some 39), (some (37, true)), .load false 1 (.t 38)⟩, ⟨(some 40), (some (37, true)), .bin .eql (.t 39) (.c (.int .i64 (1)))⟩, ⟨(some 41), none, .pick (.t 37) (.t 40) (.c (.bool false))⟩, ⟨(some 33), none, .mv (.t 41)⟩])
  (.keep [3, 4, 6, 14, 15, 16, 33] (.cond (.t 33) (.reg [⟨(some 42), none, .mv (.t 4)⟩, ⟨(some 43), none, .bsl 1 false [(.int .u8 (0))] 1 [(0, (.c (.int .u8 (1))))]⟩, ⟨(some 44), none, .app 1 1 (.t 42) (.t 43)⟩, ⟨(some 4), none, .mv (.t 44)⟩]) (.seq (.reg [⟨(some 46), none, .fa 0 (.t 6)⟩, ⟨(some 47), none, .load false 1 (.t 46)⟩, ⟨(some 48), none, .bin .eql (.t 47) (.c (.int .i64 (2)))⟩, ⟨(some 45), none, .mv (.t 48)⟩])
  (.keep [3, 4, 6, 14, 15, 16, 45] (.cond (.t 45) (.reg [⟨(some 49), none, .mv (.t 4)⟩, ⟨(some 50), none, .bsl 1 false [(.int .u8 (0))] 1 [(0, (.c (.int .u8 (0))))]⟩, ⟨(some 51), none, .app 1 1 (.t 49) (.t 50)⟩, ⟨(some 4), none, .mv (.t 51)⟩]) (.seq (.reg [⟨(some 53), none, .fa 0 (.t 6)⟩, ⟨(some 54), none, .load false 1 (.t 53)⟩, ⟨(some 55), none, .bin .eql (.t 54) (.c (.int .i64 (3)))⟩, ⟨(some 52), none, .mv (.t 55)⟩])
  (.keep [3, 4, 6, 14, 15, 16, 52] (.cond (.t 52) (.reg [⟨(some 56), none, .mv (.t 4)⟩, ⟨(some 57), none, .fa 2 (.t 6)⟩, ⟨(some 58), none, .load false 1 (.t 57)⟩, ⟨(some 59), none, .call (.c (.fn K.probateref02_Nums [] [])) [(.t 58)]⟩, ⟨(some 60), none, .app 1 1 (.t 56) (.t 59)⟩, ⟨(some 4), none, .mv (.t 60)⟩]) .skip)))))))))))))
  (.keep [3, 4, 14, 15, 16] (.seq (.reg [⟨(some 61), none, .mv (.t 3)⟩, ⟨(some 62), none, .call (.c (.fn K.wire_Writer_Bytes [] [])) [(.t 61)]⟩, ⟨(some 63), none, .mv (.t 4)⟩, ⟨(some 64), none, .call (.c (.fn K.probateref01_Same [] [])) [(.t 62), (.t 63)]⟩, ⟨(some 65), none, .un .not (.t 64)⟩])
  (.keep [3, 4, 14, 15, 16, 65] (.cond (.t 65) (.seq (.reg [⟨(some 2), none, .mv (.c (.bool false))⟩]) .ret) .skip))))))))))
  (.keep [3, 4, 14, 15, 16] (.reg [⟨(some 66), none, .bin .add (.t 16) (.c (.int .i64 (1)))⟩, ⟨(some 16), none, .mv (.t 66)⟩]))))))) [3, 4, 14, 15, 16]
def A.probatelaw02_WireWrites : AFn := ⟨67, [(2, none)], (.seq (.reg [⟨(some 2), none, .mv (.c (.bool false))⟩])
  (.keep [0] (.seq (.seq (.reg [⟨(some 7), none, .call (.c (.fn K.probatelaw02_awake [] [])) []⟩, ⟨(some 8), none, .un .not (.t 7)⟩])
  (.keep [0, 8] (.cond (.t 8) (.seq (.reg [⟨(some 2), none, .mv (.c (.bool false))⟩]) .ret) .skip)))
  (.keep [0] (.seq (.seq (.reg [⟨(some 9), none, .mv (.t 0)⟩, ⟨(some 10), none, .call (.c (.fn K.probatelaw02_large [] [])) [(.t 9)]⟩])
  (.keep [0, 10] (.cond (.t 10) (.seq (.reg [⟨(some 2), none, .mv (.c (.bool true))⟩]) .ret) .skip)))
  (.keep [0] (.seq (.reg [⟨(some 11), none, .bld [(.sl 0 1 [])] []⟩, ⟨(some 12), none, .box (.t 11)⟩, ⟨(some 3), none, .mv (.t 12)⟩])
  (.keep [0, 3] (.seq (.reg [⟨(some 13), none, .bsl 1 false [(.int .u8 (0))] 0 []⟩, ⟨(some 4), none, .mv (.t 13)⟩])
  (.keep [0, 3, 4] (.seq (.seq (.reg [⟨(some 14), none, .mv (.t 0)⟩, ⟨(some 15), none, .len false (.t 14)⟩, ⟨(some 16), none, .mv (.c (.int .i64 (0)))⟩])
  (.keep [3, 4, 14, 15, 16] (.block 0 (.loop A.probatelaw02_WireWrites.L0))))
  (.keep [] (.seq (.reg [⟨(some 2), none, .mv (.c (.bool true))⟩]) .ret)))))))))))))⟩
def A.probatelaw02_WireReads.L0 : AC := .post (.seq (.reg [⟨(some 27), none, .bin .lss (.t 26) (.t 25)⟩])
  (.keep [5, 6, 24, 25, 26, 27] (.seq (.cond (.t 27) .skip (.exit 0))
  (.keep [5, 6, 24, 25, 26] (.seq (.block 1 (.seq (.reg [⟨(some 28), none, .ia 4 (.t 24) (.t 26)⟩, ⟨(some 29), none, .load true 4 (.t 28)⟩, ⟨(some 8), none, .alloc [(.int .i64 (0)), (.int .i64 (0)), (.sl 0 1 []), (.int .i64 (0))]⟩, ⟨none, none, .store 4 (.t 8) (.t 29)⟩])
  (.keep [5, 6, 8, 24, 25, 26] (.seq (.reg [⟨(some 9), none, .mv (.c (.bool true))⟩])
  (.keep [5, 6, 8, 9, 24, 25, 26] (.seq (.seq (.reg [⟨(some 30), none, .fa 0 (.t 8)⟩, ⟨(some 31), none, .load false 1 (.t 30)⟩])
  (.keep [5, 6, 8, 9, 24, 25, 26, 31] (.block 2 (.seq (.reg [⟨(some 33), none, .bin .eql (.t 31) (.c (.int .i64 (1)))⟩, ⟨(some 32), none, .mv (.t 33)⟩])
  (.keep [5, 6, 8, 9, 24, 25, 26, 31, 32] (.cond (.t 32) (.draw [(.pl, ⟨(some 34), none, .mv (.t 5)⟩), (.pl, ⟨(some 35), none, .fa 1 (.t 8)⟩), (.pl, ⟨(some 36), none, .load false 1 (.t 35)⟩), (.eff, ⟨(some 37), none, .call (.c (.fn K.wire_Reader_Num [] [])) [(.t 34), (.t 36)]⟩), (.pl, ⟨(some 38), none, .mv (.t 6)⟩), (.pl, ⟨(some 39), none, .fa 1 (.t 8)⟩), (.fl, ⟨(some 40), none, .load false 1 (.t 39)⟩), (.eff, ⟨(some 41), none, .call (.c (.fn K.probateref02_Reader_Num [] [])) [(.t 38), (.t 40)]⟩), (.pl, ⟨(some 42), none, .bin .eql (.t 37) (.t 41)⟩), (.pl, ⟨(some 9), none, .mv (.t 42)⟩)]) (.seq (.reg [⟨(some 44), none, .bin .eql (.t 31) (.c (.int .i64 (2)))⟩, ⟨(some 43), none, .mv (.t 44)⟩])
  (.keep [5, 6, 8, 9, 24, 25, 26, 31, 43] (.cond (.t 43) (.reg [⟨(some 45), none, .mv (.t 5)⟩, ⟨(some 46), none, .call (.c (.fn K.wire_Reader_Bool [] [])) [(.t 45)]⟩, ⟨(some 47), none, .mv (.t 6)⟩, ⟨(some 48), none, .call (.c (.fn K.probateref02_Reader_Num [] [])) [(.t 47), (.c (.int .i64 (1)))]⟩, ⟨(some 49), none, .bin .eql (.t 48) (.c (.int .i64 (1)))⟩, ⟨(some 50), none, .beq false (.t 46) (.t 49)⟩, ⟨(some 9), none, .mv (.t 50)⟩]) (.seq (.reg [⟨(some 52), none, .bin .eql (.t 31) (.c (.int .i64 (3)))⟩, ⟨(some 51), none, .mv (.t 52)⟩])
  (.keep [5, 6, 8, 9, 24, 25, 26, 31, 51] (.cond (.t 51) (.draw [(.pl, ⟨(some 53), none, .mv (.t 5)⟩), (.pl, ⟨(some 54), none, .fa 2 (.t 8)⟩), (.pl, ⟨(some 55), none, .load false 1 (.t 54)⟩), (.pl, ⟨(some 56), none, .len false (.t 55)⟩), (.pl, ⟨(some 57), none, .fa 1 (.t 8)⟩), (.pl, ⟨(some 58), none, .load false 1 (.t 57)⟩), (.eff, ⟨(some 59), none, .call (.c (.fn K.wire_Reader_Nums [] [])) [(.t 53), (.t 56), (.t 58)]⟩), (.pl, ⟨(some 60), none, .mv (.t 6)⟩), (.pl, ⟨(some 61), none, .fa 2 (.t 8)⟩), (.fl, ⟨(some 62), none, .load false 1 (.t 61)⟩), (.pl, ⟨(some 63), none, .len false (.t 62)⟩), (.pl, ⟨(some 64), none, .fa 1 (.t 8)⟩), (.fl, ⟨(some 65), none, .load false 1 (.t 64)⟩), (.eff, ⟨(some 66), none, .call (.c (.fn K.probateref02_Reader_Nums [] [])) [(.t 60), (.t 63), (.t 65)]⟩), (.pl, ⟨(some 67), none, .call (.c (.fn K.probateref02_Same [] [])) [(.t 59), (.t 66)]⟩), (.pl, ⟨(some 9), none, .mv (.t 67)⟩)]) (.seq (.reg [⟨(some 69), none, .bin .eql (.t 31) (.c (.int .i64 (4)))⟩, ⟨(some 68), none, .mv (.t 69)⟩])
  (.keep [5, 6, 8, 9, 24, 25, 26, 68] (.cond (.t 68) (.seq (.reg [⟨(some 70), none, .mv (.t 5)⟩, ⟨(some 71), none, .fa 3 (.t 8)⟩, ⟨(some 72), none, .load false 1 (.t 71)⟩, ⟨(some 73), none, .call (.c (.fn K.wire_Reader_Wrong [] [])) [(.t 70), (.t 72)]⟩])
  (.keep [5, 6, 8, 9, 24, 25, 26] (.reg [⟨(some 74), none, .mv (.t 6)⟩, ⟨(some 75), none, .fa 3 (.t 8)⟩, ⟨(some 76), none, .load false 1 (.t 75)⟩, ⟨(some 77), none, .call (.c (.fn K.probateref02_Reader_Wrong [] [])) [(.t 74), (.t 76)]⟩]))) .skip)))))))))))))))
  (.keep [5, 6, 9, 24, 25, 26] (.seq (.reg [⟨(some 78), none, .mv (.t 9)⟩, ⟨(some 79), none, .un .not (.t 78)⟩, ⟨(some 80), none, .mv (.t 79)⟩, ⟨(some 81), (some (80, false)), .mv (.t 5)⟩, ⟨(some 82), (some (80, false)), .call (.c (.fn K.wire_Reader_Left [] [])) [(.t 81)]⟩, ⟨(some 83), (some (80, false)), .mv (.t 6)⟩, ⟨(some 84), (some (80, false)), .call (.c (.fn K.probateref02_Reader_Left [] [])) [(.t 83)]⟩, ⟨(some 85), (some (80, false)), .bin .neq (.t 82) (.t 84)⟩, ⟨(some 86), none, .pick (.t 80) (.c (.bool true)) (.t 85)⟩, ⟨(some 87), none, .mv (.t 86)⟩, ⟨(some 88), (some (87, false)), .mv (.t 5)⟩, ⟨(some 89), (some (87, false)), .call (.c (.fn K.wire_Reader_End [] [])) [(.t 88)]⟩, ⟨(some 90), (some (87, false)), .mv (.t 6)⟩, ⟨(some 91), (some (87, false)), .call (.c (.fn K.probateref02_Reader_End [] [])) [(.t 90)]⟩, ⟨(some 92), (some (87, false)), .bin .neq (.t 89) (.t 91)⟩, ⟨(some 93), none, .pick (.t 87) (.c (.bool true)) (.t 92)⟩])
  (.keep [5, 6, 24, 25, 26, 93] (.cond (.t 93) (.seq (.reg [⟨(some 4), none, .mv (.c (.bool false))⟩]) .ret) .skip))))))))))
  (.keep [5, 6, 24, 25, 26] (.reg [⟨(some 94), none, .bin .add (.t 26) (.c (.int .i64 (1)))⟩, ⟨(some 26), none, .mv (.t 94)⟩]))))))) [5, 6, 24, 25, 26]
def A.probatelaw02_WireReads : AFn := ⟨95, [(4, none)], (.seq (.reg [⟨(some 4), none, .mv (.c (.bool false))⟩])
  (.keep [0, 1] (.seq (.seq (.reg [⟨(some 10), none, .call (.c (.fn K.probatelaw02_awake [] [])) []⟩, ⟨(some 11), none, .un .not (.t 10)⟩])
  (.keep [0, 1, 11] (.cond (.t 11) (.seq (.reg [⟨(some 4), none, .mv (.c (.bool false))⟩]) .ret) .skip)))
  (.keep [0, 1] (.seq (.seq (.reg [⟨(some 12), none, .mv (.t 0)⟩, ⟨(some 13), none, .len false (.t 12)⟩, ⟨(some 14), none, .bin .gtr (.t 13) (.c (.int .i64 (500)))⟩, ⟨(some 15), none, .mv (.t 14)⟩, ⟨(some 16), (some (15, false)), .mv (.t 1)⟩, ⟨(some 17), (some (15, false)), .call (.c (.fn K.probatelaw02_large [] [])) [(.t 16)]⟩, ⟨(some 18), none, .pick (.t 15) (.c (.bool true)) (.t 17)⟩])
  (.keep [0, 1, 18] (.cond (.t 18) (.seq (.reg [⟨(some 4), none, .mv (.c (.bool true))⟩]) .ret) .skip)))
  (.keep [0, 1] (.seq (.reg [⟨(some 19), none, .mv (.t 0)⟩, ⟨(some 20), none, .call (.c (.fn K.wire_New [] [])) [(.t 19)]⟩, ⟨(some 21), none, .mv (.t 0)⟩, ⟨(some 22), none, .bld [(.sl 0 1 []), (.int .i64 (0))] [(0, 1, (.t 21))]⟩, ⟨(some 23), none, .box (.t 22)⟩, ⟨(some 5), none, .mv (.t 20)⟩, ⟨(some 6), none, .mv (.t 23)⟩])
  (.keep [1, 5, 6] (.seq (.seq (.reg [⟨(some 24), none, .mv (.t 1)⟩, ⟨(some 25), none, .len false (.t 24)⟩, ⟨(some 26), none, .mv (.c (.int .i64 (0)))⟩])
  (.keep [5, 6, 24, 25, 26] (.block 0 (.loop A.probatelaw02_WireReads.L0))))
  (.keep [] (.seq (.reg [⟨(some 4), none, .mv (.c (.bool true))⟩]) .ret)))))))))))⟩
def A.probatelaw02_WireBack.L0 : AC := .post (.seq (.reg [⟨(some 25), none, .bin .lss (.t 24) (.t 23)⟩])
  (.keep [0, 1, 5, 22, 23, 24, 25] (.seq (.cond (.t 25) .skip (.exit 0))
  (.keep [0, 1, 5, 22, 23, 24] (.seq (.block 1 (.seq (.reg [⟨(some 26), none, .ia 4 (.t 22) (.t 24)⟩, ⟨(some 27), none, .load true 4 (.t 26)⟩, ⟨(some 7), none, .alloc [(.int .i64 (0)), (.int .i64 (0)), (.sl 0 1 []), (.int .i64 (0))]⟩, ⟨none, none, .store 4 (.t 7) (.t 27)⟩])
  (.keep [0, 1, 5, 7, 22, 23, 24] (.reg [⟨(some 28), none, .mv (.t 5)⟩, ⟨(some 29), none, .load true 4 (.t 7)⟩, ⟨(some 30), none, .call (.c (.fn K.probatelaw02_write [] [])) [(.t 28), (.t 29)]⟩]))))
  (.keep [0, 1, 5, 22, 23, 24] (.reg [⟨(some 31), none, .bin .add (.t 24) (.c (.int .i64 (1)))⟩, ⟨(some 24), none, .mv (.t 31)⟩]))))))) [0, 1, 5, 22, 23, 24]
def A.probatelaw02_WireBack.L1 : AC := .post (.seq (.reg [⟨(some 45), none, .bin .lss (.t 44) (.t 43)⟩])
  (.keep [0, 1, 8, 9, 10, 42, 43, 44, 45] (.seq (.cond (.t 45) .skip (.exit 2))
  (.keep [0, 1, 8, 9, 10, 42, 43, 44] (.seq (.block 3 (.seq (.reg [⟨(some 46), none, .ia 4 (.t 42) (.t 44)⟩, ⟨(some 47), none, .load true 4 (.t 46)⟩, ⟨(some 12), none, .alloc [(.int .i64 (0)), (.int .i64 (0)), (.sl 0 1 []), (.int .i64 (0))]⟩, ⟨none, none, .store 4 (.t 12) (.t 47)⟩])
  (.keep [0, 1, 8, 9, 10, 12, 42, 43, 44] (.seq (.reg [⟨(some 48), none, .mv (.t 9)⟩, ⟨(some 49), none, .load true 4 (.t 12)⟩, ⟨(some 50), none, .call (.c (.fn K.probatelaw02_read [] [])) [(.t 48), (.t 49)]⟩, ⟨(some 51), none, .un .not (.t 50)⟩, ⟨(some 52), none, .mv (.t 51)⟩, ⟨(some 53), (some (52, false)), .mv (.t 10)⟩, ⟨(some 54), (some (52, false)), .load true 4 (.t 12)⟩, ⟨(some 55), (some (52, false)), .call (.c (.fn K.probatelaw02_read [] [])) [(.t 53), (.t 54)]⟩, ⟨(some 56), (some (52, false)), .un .not (.t 55)⟩, ⟨(some 57), none, .pick (.t 52) (.c (.bool true)) (.t 56)⟩])
  (.keep [0, 1, 8, 9, 10, 42, 43, 44, 57] (.cond (.t 57) (.seq (.reg [⟨(some 4), none, .mv (.c (.bool false))⟩]) .ret) .skip))))))
  (.keep [0, 1, 8, 9, 10, 42, 43, 44] (.reg [⟨(some 58), none, .bin .add (.t 44) (.c (.int .i64 (1)))⟩, ⟨(some 44), none, .mv (.t 58)⟩]))))))) [0, 1, 8, 9, 10, 42, 43, 44]
def A.probatelaw02_WireBack.L2 : AC := .post (.seq (.reg [⟨(some 92), none, .bin .lss (.t 91) (.t 90)⟩])
  (.keep [13, 89, 90, 91, 92] (.seq (.cond (.t 92) .skip (.exit 4))
  (.keep [13, 89, 90, 91] (.seq (.block 5 (.seq (.reg [⟨(some 93), none, .ia 4 (.t 89) (.t 91)⟩, ⟨(some 94), none, .load true 4 (.t 93)⟩, ⟨(some 15), none, .alloc [(.int .i64 (0)), (.int .i64 (0)), (.sl 0 1 []), (.int .i64 (0))]⟩, ⟨none, none, .store 4 (.t 15) (.t 94)⟩])
  (.keep [13, 15, 89, 90, 91] (.reg [⟨(some 95), none, .mv (.t 13)⟩, ⟨(some 96), none, .load true 4 (.t 15)⟩, ⟨(some 97), none, .call (.c (.fn K.probatelaw02_read [] [])) [(.t 95), (.t 96)]⟩]))))
  (.keep [13, 89, 90, 91] (.reg [⟨(some 98), none, .bin .add (.t 91) (.c (.int .i64 (1)))⟩, ⟨(some 91), none, .mv (.t 98)⟩]))))))) [13, 89, 90, 91]
def A.probatelaw02_WireBack : AFn := ⟨107, [(4, none)], (.seq (.reg [⟨(some 4), none, .mv (.c (.bool false))⟩])
  (.keep [0, 1] (.seq (.seq (.reg [⟨(some 16), none, .call (.c (.fn K.probatelaw02_awake [] [])) []⟩, ⟨(some 17), none, .un .not (.t 16)⟩])
  (.keep [0, 1, 17] (.cond (.t 17) (.seq (.reg [⟨(some 4), none, .mv (.c (.bool false))⟩]) .ret) .skip)))
  (.keep [0, 1] (.seq (.seq (.reg [⟨(some 18), none, .mv (.t 0)⟩, ⟨(some 19), none, .call (.c (.fn K.probatelaw02_large [] [])) [(.t 18)]⟩])
  (.keep [0, 1, 19] (.cond (.t 19) (.seq (.reg [⟨(some 4), none, .mv (.c (.bool true))⟩]) .ret) .skip)))
  (.keep [0, 1] (.seq (.reg [⟨(some 20), none, .bld [(.sl 0 1 [])] []⟩, ⟨(some 21), none, .box (.t 20)⟩, ⟨(some 5), none, .mv (.t 21)⟩])
  (.keep [0, 1, 5] (.seq (.seq (.reg [⟨(some 22), none, .mv (.t 0)⟩, ⟨(some 23), none, .len false (.t 22)⟩, ⟨(some 24), none, .mv (.c (.int .i64 (0)))⟩])
  (.keep [0, 1, 5, 22, 23, 24] (.block 0 (.loop A.probatelaw02_WireBack.L0))))
  (.keep [0, 1, 5] (.seq (.reg [⟨(some 32), none, .mv (.t 5)⟩, ⟨(some 33), none, .call (.c (.fn K.wire_Writer_Bytes [] [])) [(.t 32)]⟩, ⟨(some 8), none, .mv (.t 33)⟩])
  (.keep [0, 1, 8] (.seq (.reg [⟨(some 34), none, .mv (.t 8)⟩, ⟨(some 35), none, .call (.c (.fn K.wire_New [] [])) [(.t 34)]⟩, ⟨(some 9), none, .mv (.t 35)⟩])
  (.keep [0, 1, 8, 9] (.seq (.reg [⟨(some 36), none, .bsl 1 false [(.int .u8 (0))] 0 []⟩, ⟨(some 37), none, .mv (.t 8)⟩, ⟨(some 38), none, .app 1 1 (.t 36) (.t 37)⟩, ⟨(some 39), none, .bsl 1 false [(.int .u8 (0))] 1 [(0, (.c (.int .u8 (0))))]⟩, ⟨(some 40), none, .app 1 1 (.t 38) (.t 39)⟩, ⟨(some 41), none, .call (.c (.fn K.wire_New [] [])) [(.t 40)]⟩, ⟨(some 10), none, .mv (.t 41)⟩])
  (.keep [0, 1, 8, 9, 10] (.seq (.seq (.reg [⟨(some 42), none, .mv (.t 0)⟩, ⟨(some 43), none, .len false (.t 42)⟩, ⟨(some 44), none, .mv (.c (.int .i64 (0)))⟩])
  (.keep [0, 1, 8, 9, 10, 42, 43, 44] (.block 2 (.loop A.probatelaw02_WireBack.L1))))
  (.keep [0, 1, 8, 9, 10] (.seq (.seq (.reg [⟨(some 59), none, .mv (.t 9)⟩, ⟨(some 60), none, .call (.c (.fn K.wire_Reader_End [] [])) [(.t 59)]⟩, ⟨(some 61), none, .bin .neq (.t 60) (.c (.int .i64 (0)))⟩, ⟨(some 62), none, .mv (.t 61)⟩, ⟨(some 63), (some (62, false)), .mv (.t 9)⟩, ⟨(some 64), (some (62, false)), .call (.c (.fn K.wire_Reader_Left [] [])) [(.t 63)]⟩, ⟨(some 65), (some (62, false)), .bin .neq (.t 64) (.c (.int .i64 (0)))⟩, ⟨(some 66), none, .pick (.t 62) (.c (.bool true)) (.t 65)⟩, ⟨(some 67), none, .mv (.t 66)⟩, ⟨(some 68), (some (67, false)), .mv (.t 10)⟩, ⟨(some 69), (some (67, false)), .call (.c (.fn K.wire_Reader_End [] [])) [(.t 68)]⟩, ⟨(some 70), (some (67, false)), .bin .neq (.t 69) (.c (.int .i64 (4)))⟩, ⟨(some 71), none, .pick (.t 67) (.c (.bool true)) (.t 70)⟩, ⟨(some 72), none, .mv (.t 71)⟩, ⟨(some 73), (some (72, false)), .mv (.t 10)⟩, ⟨(some 74), (some (72, false)), .call (.c (.fn K.wire_Reader_Left [] [])) [(.t 73)]⟩, ⟨(some 75), (some (72, false)), .bin .neq (.t 74) (.c (.int .i64 (1)))⟩, ⟨(some 76), none, .pick (.t 72) (.c (.bool true)) (.t 75)⟩])
  (.keep [0, 1, 8, 76] (.cond (.t 76) (.seq (.reg [⟨(some 4), none, .mv (.c (.bool false))⟩]) .ret) .skip)))
  (.keep [0, 1, 8] (.seq (.seq (.reg [⟨(some 77), none, .mv (.t 1)⟩, ⟨(some 78), none, .bin .lss (.t 77) (.c (.int .i64 (0)))⟩, ⟨(some 79), none, .mv (.t 78)⟩, ⟨(some 80), (some (79, false)), .mv (.t 1)⟩, ⟨(some 81), (some (79, false)), .mv (.t 8)⟩, ⟨(some 82), (some (79, false)), .len false (.t 81)⟩, ⟨(some 83), (some (79, false)), .bin .geq (.t 80) (.t 82)⟩, ⟨(some 84), none, .pick (.t 79) (.c (.bool true)) (.t 83)⟩])
  (.keep [0, 1, 8, 84] (.cond (.t 84) (.seq (.reg [⟨(some 4), none, .mv (.c (.bool true))⟩]) .ret) .skip)))
  (.keep [0, 1, 8] (.seq (.reg [⟨(some 85), none, .mv (.t 8)⟩, ⟨(some 86), none, .mv (.t 1)⟩, ⟨(some 87), none, .slc 1 (.t 85) none (some (.t 86))⟩, ⟨(some 88), none, .call (.c (.fn K.wire_New [] [])) [(.t 87)]⟩, ⟨(some 13), none, .mv (.t 88)⟩])
  (.keep [0, 13] (.seq (.seq (.reg [⟨(some 89), none, .mv (.t 0)⟩, ⟨(some 90), none, .len false (.t 89)⟩, ⟨(some 91), none, .mv (.c (.int .i64 (0)))⟩])
  (.keep [13, 89, 90, 91] (.block 4 (.loop A.probatelaw02_WireBack.L2))))
  (.keep [13] (.seq (.reg [⟨(some 99), none, .mv (.t 13)⟩, ⟨(some 100), none, .call (.c (.fn K.wire_Reader_End [] [])) [(.t 99)]⟩, ⟨(some 101), none, .bin .eql (.t 100) (.c (.int .i64 (3)))⟩, ⟨(some 102), none, .mv (.t 101)⟩, ⟨(some 103), (some (102, true)), .mv (.t 13)⟩, ⟨(some 104), (some (102, true)), .call (.c (.fn K.wire_Reader_Left [] [])) [(.t 103)]⟩, ⟨(some 105), (some (102, true)), .bin .eql (.t 104) (.c (.int .i64 (0)))⟩, ⟨(some 106), none, .pick (.t 102) (.t 105) (.c (.bool false))⟩, ⟨(some 4), none, .mv (.t 106)⟩]) .ret)))))))))))))))))))))))))))⟩
def A.probatelaw02_WireList.L0 : AC := .post (.seq (.reg [⟨(some 45), none, .bin .lss (.t 44) (.t 43)⟩])
  (.keep [5, 7, 8, 9, 10, 11, 43, 44, 45] (.seq (.cond (.t 45) .skip (.exit 0))
  (.keep [5, 7, 8, 9, 10, 11, 43, 44] (.seq (.block 1 (.seq (.reg [⟨(some 46), none, .mv (.t 8)⟩, ⟨(some 47), none, .load false 1 (.t 5)⟩, ⟨(some 48), none, .call (.c (.fn K.wire_Reader_Num [] [])) [(.t 46), (.t 47)]⟩, ⟨(some 49), none, .bld [(.int .i64 (0)), (.int .i64 (0)), (.sl 0 1 []), (.int .i64 (0))] [(1, 1, (.t 48))]⟩, ⟨(some 12), none, .alloc [(.int .i64 (0)), (.int .i64 (0)), (.sl 0 1 []), (.int .i64 (0))]⟩, ⟨none, none, .store 4 (.t 12) (.t 49)⟩])
  (.keep [5, 7, 8, 9, 10, 11, 12, 43, 44] (.seq (.seq (.reg [⟨(some 50), none, .mv (.t 8)⟩, ⟨(some 51), none, .call (.c (.fn K.wire_Reader_Bool [] [])) [(.t 50)]⟩])
  (.keep [5, 7, 8, 9, 10, 11, 12, 43, 44, 51] (.cond (.t 51) (.reg [⟨(some 52), none, .fa 0 (.t 12)⟩, ⟨none, none, .store 1 (.t 52) (.c (.int .i64 (1)))⟩]) .skip)))
  (.keep [5, 7, 8, 9, 10, 11, 12, 43, 44] (.reg [⟨(some 53), none, .mv (.t 11)⟩, ⟨(some 54), none, .load true 4 (.t 12)⟩, ⟨(some 55), none, .bsl 4 true [(.int .i64 (0)), (.int .i64 (0)), (.sl 0 1 []), (.int .i64 (0))] 1 [(0, (.t 54))]⟩, ⟨(some 56), none, .app 4 48 (.t 53) (.t 55)⟩, ⟨(some 11), none, .mv (.t 56)⟩]))))))
  (.keep [5, 7, 8, 9, 10, 11, 43, 44] (.reg [⟨(some 57), none, .bin .add (.t 44) (.c (.int .i64 (1)))⟩, ⟨(some 44), none, .mv (.t 57)⟩]))))))) [5, 7, 8, 9, 10, 11, 43, 44]
def A.probatelaw02_WireList.L1 : AC := .post (.seq (.reg [⟨(some 88), none, .bin .lss (.t 87) (.t 86)⟩])
  (.keep [9, 11, 86, 87, 88] (.seq (.cond (.t 88) .skip (.exit 2))
  (.keep [9, 11, 86, 87] (.seq (.block 3 (.seq (.reg [⟨(some 89), none, .mv (.t 87)⟩, ⟨(some 14), none, .mv (.t 89)⟩])
  (.keep [9, 11, 14, 86, 87] (.seq (.draw [(.pl, ⟨(some 90), none, .mv (.t 9)⟩), (.pl, ⟨(some 91), none, .mv (.t 14)⟩), (.pl, ⟨(some 92), none, .ia 4 (.t 90) (.t 91)⟩), (.pl, ⟨(some 93), none, .fa 1 (.t 92)⟩), (.pl, ⟨(some 94), none, .load false 1 (.t 93)⟩), (.pl, ⟨(some 95), none, .mv (.t 11)⟩), (.pl, ⟨(some 96), none, .mv (.t 14)⟩), (.pl, ⟨(some 97), none, .ia 4 (.t 95) (.t 96)⟩), (.pl, ⟨(some 98), none, .fa 1 (.t 97)⟩), (.pl, ⟨(some 99), none, .load false 1 (.t 98)⟩), (.pl, ⟨(some 100), none, .bin .neq (.t 94) (.t 99)⟩), (.pl, ⟨(some 101), none, .mv (.t 100)⟩), (.pl, ⟨(some 102), (some (101, false)), .mv (.t 9)⟩), (.pl, ⟨(some 103), (some (101, false)), .mv (.t 14)⟩), (.pl, ⟨(some 104), (some (101, false)), .ia 4 (.t 102) (.t 103)⟩), (.pl, ⟨(some 105), (some (101, false)), .fa 0 (.t 104)⟩), (.pl, ⟨(some 106), (some (101, false)), .load false 1 (.t 105)⟩), (.pl, ⟨(some 107), (some (101, false)), .mv (.t 11)⟩), (.pl, ⟨(some 108), (some (101, false)), .mv (.t 14)⟩), (.pl, ⟨(some 109), (some (101, false)), .ia 4 (.t 107) (.t 108)⟩), (.pl, ⟨(some 110), (some (101, false)), .fa 0 (.t 109)⟩), (.pl, ⟨(some 111), (some (101, false)), .load false 1 (.t 110)⟩), (.pl, ⟨(some 112), (some (101, false)), .bin .neq (.t 106) (.t 111)⟩), (.pl, ⟨(some 113), none, .pick (.t 101) (.c (.bool true)) (.t 112)⟩)])
  (.keep [9, 11, 86, 87, 113] (.cond (.t 113) (.seq (.reg [⟨(some 6), none, .mv (.c (.bool false))⟩]) .ret) .skip))))))
  (.keep [9, 11, 86, 87] (.reg [⟨(some 114), none, .bin .add (.t 87) (.c (.int .i64 (1)))⟩, ⟨(some 87), none, .mv (.t 114)⟩]))))))) [9, 11, 86, 87]
def A.probatelaw02_WireList : AFn := ⟨115, [(6, none)], (.seq (.reg [⟨(some 5), none, .box (.t 2)⟩, ⟨(some 6), none, .mv (.c (.bool false))⟩])
  (.keep [0, 1, 5] (.seq (.seq (.reg [⟨(some 15), none, .call (.c (.fn K.probatelaw02_awake [] [])) []⟩, ⟨(some 16), none, .un .not (.t 15)⟩])
  (.keep [0, 1, 5, 16] (.cond (.t 16) (.seq (.reg [⟨(some 6), none, .mv (.c (.bool false))⟩]) .ret) .skip)))
  (.keep [0, 1, 5] (.seq (.seq (.reg [⟨(some 17), none, .mv (.t 0)⟩, ⟨(some 18), none, .len false (.t 17)⟩, ⟨(some 19), none, .bin .gtr (.t 18) (.c (.int .i64 (500)))⟩, ⟨(some 20), none, .mv (.t 19)⟩, ⟨(some 21), (some (20, false)), .mv (.t 1)⟩, ⟨(some 22), (some (20, false)), .bin .lss (.t 21) (.c (.int .i64 (0)))⟩, ⟨(some 23), none, .pick (.t 20) (.c (.bool true)) (.t 22)⟩, ⟨(some 24), none, .mv (.t 23)⟩, ⟨(some 25), (some (24, false)), .mv (.t 1)⟩, ⟨(some 26), (some (24, false)), .bin .gtr (.t 25) (.c (.int .i64 (100)))⟩, ⟨(some 27), none, .pick (.t 24) (.c (.bool true)) (.t 26)⟩, ⟨(some 28), none, .mv (.t 27)⟩, ⟨(some 29), (some (28, false)), .load false 1 (.t 5)⟩, ⟨(some 30), (some (28, false)), .bin .lss (.t 29) (.c (.int .i64 (0)))⟩, ⟨(some 31), none, .pick (.t 28) (.c (.bool true)) (.t 30)⟩])
  (.keep [0, 1, 5, 31] (.cond (.t 31) (.seq (.reg [⟨(some 6), none, .mv (.c (.bool true))⟩]) .ret) .skip)))
  (.keep [0, 1, 5] (.seq (.reg [⟨(some 32), none, .mv (.t 0)⟩, ⟨(some 33), none, .call (.c (.fn K.wire_New [] [])) [(.t 32)]⟩, ⟨(some 34), none, .mv (.t 0)⟩, ⟨(some 35), none, .call (.c (.fn K.wire_New [] [])) [(.t 34)]⟩, ⟨(some 7), none, .mv (.t 33)⟩, ⟨(some 8), none, .mv (.t 35)⟩])
  (.keep [1, 5, 7, 8] (.seq (.reg [⟨(some 36), none, .mv (.t 7)⟩, ⟨(some 37), none, .mv (.t 1)⟩, ⟨(some 38), none, .mkfn K.probatelaw02_WireList_1 [] [(.t 5)]⟩, ⟨(some 39), none, .call (.c (.fn K.wire_List_Thing [] [])) [(.t 36), (.t 37), (.t 38)]⟩, ⟨(some 9), none, .mv (.t 39)⟩])
  (.keep [1, 5, 7, 8, 9] (.seq (.reg [⟨(some 40), none, .mv (.t 8)⟩, ⟨(some 41), none, .mv (.t 1)⟩, ⟨(some 42), none, .call (.c (.fn K.wire_Reader_Num [] [])) [(.t 40), (.t 41)]⟩, ⟨(some 10), none, .mv (.t 42)⟩])
  (.keep [5, 7, 8, 9, 10] (.seq (.reg [⟨(some 11), none, .mv (.c (.sl 0 1 []))⟩])
  (.keep [5, 7, 8, 9, 10, 11] (.seq (.seq (.reg [⟨(some 43), none, .mv (.t 10)⟩, ⟨(some 44), none, .mv (.c (.int .i64 (0)))⟩])
  (.keep [5, 7, 8, 9, 10, 11, 43, 44] (.block 0 (.loop A.probatelaw02_WireList.L0))))
  (.keep [7, 8, 9, 10, 11] (.seq (.reg [⟨(some 58), none, .mv (.t 8)⟩, ⟨(some 59), none, .call (.c (.fn K.wire_Reader_End [] [])) [(.t 58)]⟩, ⟨(some 13), none, .mv (.t 59)⟩])
  (.keep [7, 8, 9, 10, 11, 13] (.seq (.seq (.reg [⟨(some 60), none, .mv (.t 7)⟩, ⟨(some 61), none, .call (.c (.fn K.wire_Reader_End [] [])) [(.t 60)]⟩, ⟨(some 62), none, .mv (.t 13)⟩, ⟨(some 63), none, .bin .neq (.t 61) (.t 62)⟩, ⟨(some 64), none, .mv (.t 63)⟩, ⟨(some 65), (some (64, false)), .mv (.t 7)⟩, ⟨(some 66), (some (64, false)), .call (.c (.fn K.wire_Reader_Left [] [])) [(.t 65)]⟩, ⟨(some 67), (some (64, false)), .mv (.t 8)⟩, ⟨(some 68), (some (64, false)), .call (.c (.fn K.wire_Reader_Left [] [])) [(.t 67)]⟩, ⟨(some 69), (some (64, false)), .bin .neq (.t 66) (.t 68)⟩, ⟨(some 70), none, .pick (.t 64) (.c (.bool true)) (.t 69)⟩])
  (.keep [8, 9, 10, 11, 13, 70] (.cond (.t 70) (.seq (.reg [⟨(some 6), none, .mv (.c (.bool false))⟩]) .ret) .skip)))
  (.keep [8, 9, 10, 11, 13] (.seq (.seq (.reg [⟨(some 71), none, .mv (.t 13)⟩, ⟨(some 72), none, .bin .neq (.t 71) (.c (.int .i64 (0)))⟩, ⟨(some 73), none, .mv (.t 72)⟩, ⟨(some 74), (some (73, true)), .mv (.t 8)⟩, ⟨(some 75), (some (73, true)), .call (.c (.fn K.wire_Reader_Left [] [])) [(.t 74)]⟩, ⟨(some 76), (some (73, true)), .bin .eql (.t 75) (.c (.int .i64 (0)))⟩, ⟨(some 77), none, .pick (.t 73) (.t 76) (.c (.bool false))⟩])
  (.keep [9, 10, 11, 77] (.cond (.t 77) (.seq (.reg [⟨(some 78), none, .mv (.t 9)⟩, ⟨(some 79), none, .len false (.t 78)⟩, ⟨(some 80), none, .bin .eql (.t 79) (.c (.int .i64 (0)))⟩, ⟨(some 6), none, .mv (.t 80)⟩]) .ret) .skip)))
  (.keep [9, 10, 11] (.seq (.seq (.reg [⟨(some 81), none, .mv (.t 9)⟩, ⟨(some 82), none, .len false (.t 81)⟩, ⟨(some 83), none, .mv (.t 10)⟩, ⟨(some 84), none, .bin .neq (.t 82) (.t 83)⟩])
  (.keep [9, 11, 84] (.cond (.t 84) (.seq (.reg [⟨(some 6), none, .mv (.c (.bool false))⟩]) .ret) .skip)))
  (.keep [9, 11] (.seq (.seq (.reg [⟨(some 85), none, .mv (.t 9)⟩, ⟨(some 86), none, .len false (.t 85)⟩, ⟨(some 87), none, .mv (.c (.int .i64 (0)))⟩])
  (.keep [9, 11, 86, 87] (.block 2 (.loop A.probatelaw02_WireList.L1))))
  (.keep [] (.seq (.reg [⟨(some 6), none, .mv (.c (.bool true))⟩]) .ret)))))))))))))))))))))))))))⟩
def A.probatelaw02_awake : AFn := ⟨60, [(0, none)], (.seq (.reg [⟨(some 0), none, .mv (.c (.bool false))⟩])
  (.keep [] (.seq (.reg [⟨(some 9), none, .bld [(.sl 0 1 [])] []⟩, ⟨(some 10), none, .box (.t 9)⟩, ⟨(some 1), none, .mv (.t 10)⟩])
  (.keep [1] (.seq (.reg [⟨(some 11), none, .mv (.t 1)⟩, ⟨(some 12), none, .bsl 1 false [(.int .i64 (0))] 2 [(0, (.c (.int .i64 (300)))), (1, (.c (.int .i64 (1))))]⟩, ⟨(some 13), none, .call (.c (.fn K.wire_Writer_Nums [] [])) [(.t 11), (.t 12)]⟩])
  (.keep [1] (.seq (.reg [⟨(some 14), none, .mv (.t 1)⟩, ⟨(some 15), none, .call (.c (.fn K.wire_Writer_Bool [] [])) [(.t 14), (.c (.bool true))]⟩])
  (.keep [1] (.seq (.reg [⟨(some 16), none, .mv (.t 1)⟩, ⟨(some 17), none, .call (.c (.fn K.wire_Writer_Bytes [] [])) [(.t 16)]⟩, ⟨(some 2), none, .mv (.t 17)⟩])
  (.keep [2] (.seq (.reg [⟨(some 18), none, .mv (.t 2)⟩, ⟨(some 19), none, .call (.c (.fn K.wire_New [] [])) [(.t 18)]⟩, ⟨(some 3), none, .mv (.t 19)⟩])
  (.keep [2, 3] (.seq (.seq (.reg [⟨(some 20), none, .mv (.t 3)⟩, ⟨(some 21), none, .isnil false true (.t 20)⟩])
  (.keep [2, 3, 21] (.cond (.t 21) (.seq (.reg [⟨(some 0), none, .mv (.c (.bool false))⟩]) .ret) .skip)))
  (.keep [2, 3] (.seq (.reg [⟨(some 22), none, .mv (.t 3)⟩, ⟨(some 23), none, .call (.c (.fn K.wire_Reader_Nums [] [])) [(.t 22), (.c (.int .i64 (2))), (.c (.int .i64 (300)))]⟩, ⟨(some 4), none, .mv (.t 23)⟩])
  (.keep [2, 3, 4] (.seq (.reg [⟨(some 24), none, .mv (.t 3)⟩, ⟨(some 25), none, .call (.c (.fn K.wire_Reader_Left [] [])) [(.t 24)]⟩, ⟨(some 5), none, .mv (.t 25)⟩])
  (.keep [2, 3, 4, 5] (.seq (.reg [⟨(some 26), none, .mv (.t 3)⟩, ⟨(some 27), none, .call (.c (.fn K.wire_Reader_Bool [] [])) [(.t 26)]⟩, ⟨(some 6), none, .mv (.t 27)⟩])
  (.keep [2, 3, 4, 5, 6] (.seq (.reg [⟨(some 28), none, .mv (.t 3)⟩, ⟨(some 29), none, .call (.c (.fn K.wire_Reader_End [] [])) [(.t 28)]⟩, ⟨(some 7), none, .mv (.t 29)⟩])
  (.keep [2, 3, 4, 5, 6, 7] (.seq (.reg [⟨(some 30), none, .mv (.t 3)⟩, ⟨(some 31), none, .call (.c (.fn K.wire_Reader_Num [] [])) [(.t 30), (.c (.int .i64 (9)))]⟩, ⟨(some 8), none, .mv (.t 31)⟩])
  (.keep [2, 3, 4, 5, 6, 7, 8] (.seq (.reg [⟨(some 32), none, .mv (.t 2)⟩, ⟨(some 33), none, .bsl 1 false [(.int .u8 (0))] 5 [(0, (.c (.int .u8 (2)))), (1, (.c (.int .u8 (172)))), (2, (.c (.int .u8 (2)))), (3, (.c (.int .u8 (1)))), (4, (.c (.int .u8 (1))))]⟩, ⟨(some 34), none, .call (.c (.fn K.probateref01_Same [] [])) [(.t 32), (.t 33)]⟩, ⟨(some 35), none, .mv (.t 34)⟩, ⟨(some 36), (some (35, true)), .mv (.t 4)⟩, ⟨(some 37), (some (35, true)), .bsl 1 false [(.int .i64 (0))] 2 [(0, (.c (.int .i64 (300)))), (1, (.c (.int .i64 (1))))]⟩, ⟨(some 38), (some (35, true)), .call (.c (.fn K.probateref02_Same [] [])) [(.t 36), (.t 37)]⟩, ⟨(some 39), none, .pick (.t 35) (.t 38) (.c (.bool false))⟩, ⟨(some 40), none, .mv (.t 39)⟩, ⟨(some 41), (some (40, true)), .mv (.t 5)⟩, ⟨(some 42), (some (40, true)), .bin .eql (.t 41) (.c (.int .i64 (1)))⟩, ⟨(some 43), none, .pick (.t 40) (.t 42) (.c (.bool false))⟩, ⟨(some 44), none, .mv (.t 43)⟩, ⟨(some 45), (some (44, true)), .mv (.t 6)⟩, ⟨(some 46), none, .pick (.t 44) (.t 45) (.c (.bool false))⟩, ⟨(some 47), none, .mv (.t 46)⟩, ⟨(some 48), (some (47, true)), .mv (.t 7)⟩, ⟨(some 49), (some (47, true)), .bin .eql (.t 48) (.c (.int .i64 (0)))⟩, ⟨(some 50), none, .pick (.t 47) (.t 49) (.c (.bool false))⟩, ⟨(some 51), none, .mv (.t 50)⟩, ⟨(some 52), (some (51, true)), .mv (.t 8)⟩, ⟨(some 53), (some (51, true)), .bin .eql (.t 52) (.c (.int .i64 (0)))⟩, ⟨(some 54), none, .pick (.t 51) (.t 53) (.c (.bool false))⟩, ⟨(some 55), none, .mv (.t 54)⟩, ⟨(some 56), (some (55, true)), .mv (.t 3)⟩, ⟨(some 57), (some (55, true)), .call (.c (.fn K.wire_Reader_End [] [])) [(.t 56)]⟩, ⟨(some 58), (some (55, true)), .bin .eql (.t 57) (.c (.int .i64 (3)))⟩, ⟨(some 59), none, .pick (.t 55) (.t 58) (.c (.bool false))⟩, ⟨(some 0), none, .mv (.t 59)⟩]) .ret)))))))))))))))))))))))))⟩
def A.probatelaw02_large.L1 : AC := .post (.seq (.reg [⟨(some 29), none, .bin .lss (.t 28) (.t 27)⟩])
  (.keep [10, 11, 12, 26, 27, 28, 29] (.seq (.cond (.t 29) .skip (.exit 2))
  (.keep [10, 11, 12, 26, 27, 28] (.seq (.block 3 (.seq (.reg [⟨(some 30), none, .ia 1 (.t 26) (.t 28)⟩, ⟨(some 31), none, .load false 1 (.t 30)⟩, ⟨(some 6), none, .mv (.t 31)⟩])
  (.keep [6, 10, 11, 12, 26, 27, 28] (.seq (.reg [⟨(some 32), none, .mv (.t 6)⟩, ⟨(some 33), none, .bin .lss (.t 32) (.c (.int .i64 (0)))⟩])
  (.keep [10, 11, 12, 26, 27, 28, 33] (.cond (.t 33) (.seq (.reg [⟨(some 2), none, .mv (.c (.bool true))⟩]) .ret) .skip))))))
  (.keep [10, 11, 12, 26, 27, 28] (.reg [⟨(some 34), none, .bin .add (.t 28) (.c (.int .i64 (1)))⟩, ⟨(some 28), none, .mv (.t 34)⟩]))))))) [10, 11, 12, 26, 27, 28]
def A.probatelaw02_large.L0 : AC := .post (.seq (.reg [⟨(some 13), none, .bin .lss (.t 12) (.t 11)⟩])
  (.keep [10, 11, 12, 13] (.seq (.cond (.t 13) .skip (.exit 0))
  (.keep [10, 11, 12] (.seq (.block 1 (.seq (.reg [⟨(some 14), none, .ia 4 (.t 10) (.t 12)⟩, ⟨(some 15), none, .load true 4 (.t 14)⟩, ⟨(some 4), none, .alloc [(.int .i64 (0)), (.int .i64 (0)), (.sl 0 1 []), (.int .i64 (0))]⟩, ⟨none, none, .store 4 (.t 4) (.t 15)⟩])
  (.keep [4, 10, 11, 12] (.seq (.seq (.reg [⟨(some 16), none, .fa 1 (.t 4)⟩, ⟨(some 17), none, .load false 1 (.t 16)⟩, ⟨(some 18), none, .bin .lss (.t 17) (.c (.int .i64 (0)))⟩, ⟨(some 19), none, .mv (.t 18)⟩, ⟨(some 20), (some (19, false)), .fa 2 (.t 4)⟩, ⟨(some 21), (some (19, false)), .load false 1 (.t 20)⟩, ⟨(some 22), (some (19, false)), .len false (.t 21)⟩, ⟨(some 23), (some (19, false)), .bin .gtr (.t 22) (.c (.int .i64 (40)))⟩, ⟨(some 24), none, .pick (.t 19) (.c (.bool true)) (.t 23)⟩])
  (.keep [4, 10, 11, 12, 24] (.cond (.t 24) (.seq (.reg [⟨(some 2), none, .mv (.c (.bool true))⟩]) .ret) .skip)))
  (.keep [4, 10, 11, 12] (.seq (.reg [⟨(some 25), none, .fa 2 (.t 4)⟩, ⟨(some 26), none, .load false 1 (.t 25)⟩, ⟨(some 27), none, .len false (.t 26)⟩, ⟨(some 28), none, .mv (.c (.int .i64 (0)))⟩])
  (.keep [10, 11, 12, 26, 27, 28] (.block 2 (.loop A.probatelaw02_large.L1)))))))))
  (.keep [10, 11, 12] (.reg [⟨(some 35), none, .bin .add (.t 12) (.c (.int .i64 (1)))⟩, ⟨(some 12), none, .mv (.t 35)⟩]))))))) [10, 11, 12]
def A.probatelaw02_large : AFn := ⟨36, [(2, none)], (.seq (.reg [⟨(some 2), none, .mv (.c (.bool false))⟩])
  (.keep [0] (.seq (.seq (.reg [⟨(some 7), none, .mv (.t 0)⟩, ⟨(some 8), none, .len false (.t 7)⟩, ⟨(some 9), none, .bin .gtr (.t 8) (.c (.int .i64 (40)))⟩])
  (.keep [0, 9] (.cond (.t 9) (.seq (.reg [⟨(some 2), none, .mv (.c (.bool true))⟩]) .ret) .skip)))
  (.keep [0] (.seq (.seq (.reg [⟨(some 10), none, .mv (.t 0)⟩, ⟨(some 11), none, .len false (.t 10)⟩, ⟨(some 12), none, .mv (.c (.int .i64 (0)))⟩])
  (.keep [10, 11, 12] (.block 0 (.loop A.probatelaw02_large.L0))))
  (.keep [] (.seq (.reg [⟨(some 2), none, .mv (.c (.bool false))⟩]) .ret)))))))⟩
def A.probatelaw02_write : AFn := ⟨25, [], (.seq (.reg [⟨(some 3), none, .box (.t 1)⟩])
  (.keep [0, 3] (.seq (.reg [⟨(some 4), none, .fa 0 (.t 3)⟩, ⟨(some 5), none, .load false 1 (.t 4)⟩])
  (.keep [0, 3, 5] (.block 0 (.seq (.reg [⟨(some 7), none, .bin .eql (.t 5) (.c (.int .i64 (1)))⟩, ⟨(some 6), none, .mv (.t 7)⟩])
  (.keep [0, 3, 5, 6] (.cond (.t 6) (.reg [⟨(some 8), none, .mv (.t 0)⟩, ⟨(some 9), none, .fa 1 (.t 3)⟩, ⟨(some 10), none, .load false 1 (.t 9)⟩, ⟨(some 11), none, .call (.c (.fn K.wire_Writer_Num [] [])) [(.t 8), (.t 10)]⟩]) (.seq (.reg [⟨(some 13), none, .bin .eql (.t 5) (.c (.int .i64 (2)))⟩, ⟨(some 12), none, .mv (.t 13)⟩])
  (.keep [0, 3, 5, 12] (.cond (.t 12) (.reg [⟨(some 14), none, .mv (.t 0)⟩, ⟨(some 15), none, .fa 1 (.t 3)⟩, ⟨(some 16), none, .load false 1 (.t 15)⟩, ⟨(some 17), none, .bin .eql (.t 16) (.c (.int .i64 (1)))⟩, ⟨(some 18), none, .call (.c (.fn K.wire_Writer_Bool [] [])) [(.t 14), (.t 17)]⟩]) (.seq (.reg [⟨(some 20), none, .bin .eql (.t 5) (.c (.int .i64 (3)))⟩, ⟨(some 19), none, .mv (.t 20)⟩])
  (.keep [0, 3, 19] (.cond (.t 19) (.reg [⟨(some 21), none, .mv (.t 0)⟩, ⟨(some 22), none, .fa 2 (.t 3)⟩, ⟨(some 23), none, .load false 1 (.t 22)⟩, ⟨(some 24), none, .call (.c (.fn K.wire_Writer_Nums [] [])) [(.t 21), (.t 23)]⟩]) .skip))))))))))))))⟩
def A.probateref02_Nums.L0 : AC := .post (.seq (.seq (.reg [⟨(some 9), none, .mv (.t 4)⟩, ⟨(some 10), none, .mv (.t 0)⟩, ⟨(some 11), none, .len false (.t 10)⟩, ⟨(some 12), none, .bin .lss (.t 9) (.t 11)⟩])
  (.keep [0, 3, 4, 12] (.cond (.t 12) .skip (.exit 0))))
  (.keep [0, 3, 4] (.seq (.block 1 (.reg [⟨(some 15), none, .mv (.t 3)⟩, ⟨(some 16), none, .mv (.t 0)⟩, ⟨(some 17), none, .mv (.t 4)⟩, ⟨(some 18), none, .ia 1 (.t 16) (.t 17)⟩, ⟨(some 19), none, .load false 1 (.t 18)⟩, ⟨(some 20), none, .conv .u64 (.t 19)⟩, ⟨(some 21), none, .call (.c (.fn K.probateref01_Put [] [])) [(.t 20)]⟩, ⟨(some 22), none, .app 1 1 (.t 15) (.t 21)⟩, ⟨(some 3), none, .mv (.t 22)⟩]))
  (.keep [0, 3, 4] (.reg [⟨(some 13), none, .mv (.t 4)⟩, ⟨(some 14), none, .bin .add (.t 13) (.c (.int .i64 (1)))⟩, ⟨(some 4), none, .mv (.t 14)⟩]))))) [0, 3, 4]
def A.probateref02_Nums : AFn := ⟨24, [(2, none)], (.seq (.reg [⟨(some 2), none, .mv (.c (.sl 0 1 []))⟩])
  (.keep [0] (.seq (.reg [⟨(some 5), none, .mv (.t 0)⟩, ⟨(some 6), none, .len false (.t 5)⟩, ⟨(some 7), none, .conv .u64 (.t 6)⟩, ⟨(some 8), none, .call (.c (.fn K.probateref01_Put [] [])) [(.t 7)]⟩, ⟨(some 3), none, .mv (.t 8)⟩])
  (.keep [0, 3] (.seq (.seq (.reg [⟨(some 4), none, .mv (.c (.int .i64 (0)))⟩])
  (.keep [0, 3, 4] (.block 0 (.loop A.probateref02_Nums.L0))))
  (.keep [3] (.seq (.reg [⟨(some 23), none, .mv (.t 3)⟩, ⟨(some 2), none, .mv (.t 23)⟩]) .ret)))))))⟩
def A.probateref02_Reader_Num : AFn := ⟨46, [(4, none)], (.seq (.reg [⟨(some 4), none, .mv (.c (.int .i64 (0)))⟩])
  (.keep [0, 1] (.seq (.seq (.reg [⟨(some 8), none, .mv (.t 0)⟩, ⟨(some 9), none, .nilchk (.t 8)⟩, ⟨(some 10), none, .fa 1 (.t 9)⟩, ⟨(some 11), none, .load false 1 (.t 10)⟩, ⟨(some 12), none, .bin .neq (.t 11) (.c (.int .i64 (0)))⟩])
  (.keep [0, 1, 12] (.cond (.t 12) (.seq (.reg [⟨(some 4), none, .mv (.c (.int .i64 (0)))⟩]) .ret) .skip)))
  (.keep [0, 1] (.seq (.reg [⟨(some 14), none, .mv (.t 0)⟩, ⟨(some 15), none, .nilchk (.t 14)⟩, ⟨(some 16), none, .fa 0 (.t 15)⟩, ⟨(some 17), none, .load false 1 (.t 16)⟩, ⟨(some 18), none, .call (.c (.fn K.probateref01_Take [] [])) [(.t 17)]⟩, ⟨(some 13), none, .mv (.t 18)⟩, ⟨(some 19), none, .ext (.t 13) 0⟩, ⟨(some 20), none, .ext (.t 13) 1⟩, ⟨(some 21), none, .ext (.t 13) 2⟩, ⟨(some 5), none, .mv (.t 19)⟩, ⟨(some 6), none, .mv (.t 20)⟩, ⟨(some 7), none, .mv (.t 21)⟩])
  (.keep [0, 1, 5, 6, 7] (.seq (.seq (.reg [⟨(some 22), none, .mv (.t 7)⟩, ⟨(some 23), none, .bin .neq (.t 22) (.c (.int .i64 (0)))⟩])
  (.keep [0, 1, 5, 6, 7, 23] (.cond (.t 23) (.seq (.reg [⟨(some 24), none, .mv (.t 0)⟩, ⟨(some 25), none, .mv (.t 7)⟩, ⟨(some 26), none, .nilchk (.t 24)⟩, ⟨(some 27), none, .fa 1 (.t 26)⟩, ⟨none, none, .store 1 (.t 27) (.t 25)⟩])
  (.keep [] (.seq (.reg [⟨(some 4), none, .mv (.c (.int .i64 (0)))⟩]) .ret))) .skip)))
  (.keep [0, 1, 5, 6] (.seq (.seq (.reg [⟨(some 28), none, .mv (.t 5)⟩, ⟨(some 29), none, .mv (.t 1)⟩, ⟨(some 30), none, .conv .u64 (.t 29)⟩, ⟨(some 31), none, .bin .gtr (.t 28) (.t 30)⟩])
  (.keep [0, 5, 6, 31] (.cond (.t 31) (.seq (.reg [⟨(some 32), none, .mv (.t 0)⟩, ⟨(some 33), none, .nilchk (.t 32)⟩, ⟨(some 34), none, .fa 1 (.t 33)⟩, ⟨none, none, .store 1 (.t 34) (.c (.int .i64 (5)))⟩])
  (.keep [] (.seq (.reg [⟨(some 4), none, .mv (.c (.int .i64 (0)))⟩]) .ret))) .skip)))
  (.keep [0, 5, 6] (.seq (.reg [⟨(some 35), none, .mv (.t 0)⟩, ⟨(some 36), none, .mv (.t 0)⟩, ⟨(some 37), none, .nilchk (.t 36)⟩, ⟨(some 38), none, .fa 0 (.t 37)⟩, ⟨(some 39), none, .load false 1 (.t 38)⟩, ⟨(some 40), none, .mv (.t 6)⟩, ⟨(some 41), none, .slc 1 (.t 39) (some (.t 40)) none⟩, ⟨(some 42), none, .nilchk (.t 35)⟩, ⟨(some 43), none, .fa 0 (.t 42)⟩, ⟨none, none, .store 1 (.t 43) (.t 41)⟩])
  (.keep [5] (.seq (.reg [⟨(some 44), none, .mv (.t 5)⟩, ⟨(some 45), none, .conv .i64 (.t 44)⟩, ⟨(some 4), none, .mv (.t 45)⟩]) .ret)))))))))))))⟩
def A.probateref02_Same.L0 : AC := .post (.seq (.seq (.reg [⟨(some 11), none, .mv (.t 5)⟩, ⟨(some 12), none, .mv (.t 0)⟩, ⟨(some 13), none, .len false (.t 12)⟩, ⟨(some 14), none, .bin .lss (.t 11) (.t 13)⟩])
  (.keep [0, 1, 5, 14] (.cond (.t 14) .skip (.exit 0))))
  (.keep [0, 1, 5] (.seq (.block 1 (.seq (.draw [(.pl, ⟨(some 17), none, .mv (.t 0)⟩), (.pl, ⟨(some 18), none, .mv (.t 5)⟩), (.pl, ⟨(some 19), none, .ia 1 (.t 17) (.t 18)⟩), (.pl, ⟨(some 20), none, .load false 1 (.t 19)⟩), (.pl, ⟨(some 21), none, .mv (.t 1)⟩), (.pl, ⟨(some 22), none, .mv (.t 5)⟩), (.pl, ⟨(some 23), none, .ia 1 (.t 21) (.t 22)⟩), (.pl, ⟨(some 24), none, .load false 1 (.t 23)⟩), (.pl, ⟨(some 25), none, .bin .neq (.t 20) (.t 24)⟩)])
  (.keep [0, 1, 5, 25] (.cond (.t 25) (.seq (.reg [⟨(some 4), none, .mv (.c (.bool false))⟩]) .ret) .skip))))
  (.keep [0, 1, 5] (.reg [⟨(some 15), none, .mv (.t 5)⟩, ⟨(some 16), none, .bin .add (.t 15) (.c (.int .i64 (1)))⟩, ⟨(some 5), none, .mv (.t 16)⟩]))))) [0, 1, 5]
def A.probateref02_Same : AFn := ⟨26, [(4, none)], (.seq (.reg [⟨(some 4), none, .mv (.c (.bool false))⟩])
  (.keep [0, 1] (.seq (.seq (.reg [⟨(some 6), none, .mv (.t 0)⟩, ⟨(some 7), none, .len false (.t 6)⟩, ⟨(some 8), none, .mv (.t 1)⟩, ⟨(some 9), none, .len false (.t 8)⟩, ⟨(some 10), none, .bin .neq (.t 7) (.t 9)⟩])
  (.keep [0, 1, 10] (.cond (.t 10) (.seq (.reg [⟨(some 4), none, .mv (.c (.bool false))⟩]) .ret) .skip)))
  (.keep [0, 1] (.seq (.seq (.reg [⟨(some 5), none, .mv (.c (.int .i64 (0)))⟩])
  (.keep [0, 1, 5] (.block 0 (.loop A.probateref02_Same.L0))))
  (.keep [] (.seq (.reg [⟨(some 4), none, .mv (.c (.bool true))⟩]) .ret)))))))⟩
def A.probateref02_Reader_Nums.L0 : AC := .post (.seq (.seq (.reg [⟨(some 14), none, .mv (.t 9)⟩, ⟨(some 15), none, .mv (.t 8)⟩, ⟨(some 16), none, .bin .lss (.t 14) (.t 15)⟩, ⟨(some 17), none, .mv (.t 16)⟩, ⟨(some 18), (some (17, true)), .mv (.t 0)⟩, ⟨(some 19), (some (17, true)), .nilchk (.t 18)⟩, ⟨(some 20), (some (17, true)), .fa 1 (.t 19)⟩, ⟨(some 21), (some (17, true)), .load false 1 (.t 20)⟩, ⟨(some 22), (some (17, true)), .bin .eql (.t 21) (.c (.int .i64 (0)))⟩, ⟨(some 23), none, .pick (.t 17) (.t 22) (.c (.bool false))⟩])
  (.keep [0, 2, 7, 8, 9, 23] (.cond (.t 23) .skip (.exit 0))))
  (.keep [0, 2, 7, 8, 9] (.seq (.block 1 (.reg [⟨(some 26), none, .mv (.t 7)⟩, ⟨(some 27), none, .mv (.t 0)⟩, ⟨(some 28), none, .mv (.t 2)⟩, ⟨(some 29), none, .call (.c (.fn K.probateref02_Reader_Num [] [])) [(.t 27), (.t 28)]⟩, ⟨(some 30), none, .bsl 1 false [(.int .i64 (0))] 1 [(0, (.t 29))]⟩, ⟨(some 31), none, .app 1 8 (.t 26) (.t 30)⟩, ⟨(some 7), none, .mv (.t 31)⟩]))
  (.keep [0, 2, 7, 8, 9] (.reg [⟨(some 24), none, .mv (.t 9)⟩, ⟨(some 25), none, .bin .add (.t 24) (.c (.int .i64 (1)))⟩, ⟨(some 9), none, .mv (.t 25)⟩]))))) [0, 2, 7, 8, 9]
def A.probateref02_Reader_Nums : AFn := ⟨38, [(6, none)], (.seq (.reg [⟨(some 6), none, .mv (.c (.sl 0 1 []))⟩])
  (.keep [0, 1, 2] (.seq (.reg [⟨(some 10), none, .bsl 1 false [(.int .i64 (0))] 0 []⟩, ⟨(some 7), none, .mv (.t 10)⟩])
  (.keep [0, 1, 2, 7] (.seq (.reg [⟨(some 11), none, .mv (.t 0)⟩, ⟨(some 12), none, .mv (.t 1)⟩, ⟨(some 13), none, .call (.c (.fn K.probateref02_Reader_Num [] [])) [(.t 11), (.t 12)]⟩, ⟨(some 8), none, .mv (.t 13)⟩])
  (.keep [0, 2, 7, 8] (.seq (.seq (.reg [⟨(some 9), none, .mv (.c (.int .i64 (0)))⟩])
  (.keep [0, 2, 7, 8, 9] (.block 0 (.loop A.probateref02_Reader_Nums.L0))))
  (.keep [0, 7] (.seq (.seq (.reg [⟨(some 32), none, .mv (.t 0)⟩, ⟨(some 33), none, .nilchk (.t 32)⟩, ⟨(some 34), none, .fa 1 (.t 33)⟩, ⟨(some 35), none, .load false 1 (.t 34)⟩, ⟨(some 36), none, .bin .neq (.t 35) (.c (.int .i64 (0)))⟩])
  (.keep [7, 36] (.cond (.t 36) (.seq (.reg [⟨(some 6), none, .mv (.c (.sl 0 1 []))⟩]) .ret) .skip)))
  (.keep [7] (.seq (.reg [⟨(some 37), none, .mv (.t 7)⟩, ⟨(some 6), none, .mv (.t 37)⟩]) .ret)))))))))))⟩
def A.probateref02_Reader_Wrong : AFn := ⟨13, [], (.seq (.reg [⟨(some 4), none, .mv (.t 0)⟩, ⟨(some 5), none, .nilchk (.t 4)⟩, ⟨(some 6), none, .fa 1 (.t 5)⟩, ⟨(some 7), none, .load false 1 (.t 6)⟩, ⟨(some 8), none, .bin .eql (.t 7) (.c (.int .i64 (0)))⟩])
  (.keep [0, 1, 8] (.cond (.t 8) (.reg [⟨(some 9), none, .mv (.t 0)⟩, ⟨(some 10), none, .mv (.t 1)⟩, ⟨(some 11), none, .nilchk (.t 9)⟩, ⟨(some 12), none, .fa 1 (.t 11)⟩, ⟨none, none, .store 1 (.t 12) (.t 10)⟩]) .skip)))⟩
def A.probateref02_Reader_Left : AFn := ⟨13, [(2, none)], (.seq (.reg [⟨(some 2), none, .mv (.c (.int .i64 (0)))⟩])
  (.keep [0] (.seq (.seq (.reg [⟨(some 3), none, .mv (.t 0)⟩, ⟨(some 4), none, .nilchk (.t 3)⟩, ⟨(some 5), none, .fa 1 (.t 4)⟩, ⟨(some 6), none, .load false 1 (.t 5)⟩, ⟨(some 7), none, .bin .neq (.t 6) (.c (.int .i64 (0)))⟩])
  (.keep [0, 7] (.cond (.t 7) (.seq (.reg [⟨(some 2), none, .mv (.c (.int .i64 (0)))⟩]) .ret) .skip)))
  (.keep [0] (.seq (.reg [⟨(some 8), none, .mv (.t 0)⟩, ⟨(some 9), none, .nilchk (.t 8)⟩, ⟨(some 10), none, .fa 0 (.t 9)⟩, ⟨(some 11), none, .load false 1 (.t 10)⟩, ⟨(some 12), none, .len false (.t 11)⟩, ⟨(some 2), none, .mv (.t 12)⟩]) .ret)))))⟩
def A.probateref02_Reader_End : AFn := ⟨20, [(2, none)], (.seq (.reg [⟨(some 2), none, .mv (.c (.int .i64 (0)))⟩])
  (.keep [0] (.seq (.seq (.reg [⟨(some 3), none, .mv (.t 0)⟩, ⟨(some 4), none, .nilchk (.t 3)⟩, ⟨(some 5), none, .fa 1 (.t 4)⟩, ⟨(some 6), none, .load false 1 (.t 5)⟩, ⟨(some 7), none, .bin .eql (.t 6) (.c (.int .i64 (0)))⟩, ⟨(some 8), none, .mv (.t 7)⟩, ⟨(some 9), (some (8, true)), .mv (.t 0)⟩, ⟨(some 10), (some (8, true)), .nilchk (.t 9)⟩, ⟨(some 11), (some (8, true)), .fa 0 (.t 10)⟩, ⟨(some 12), (some (8, true)), .load false 1 (.t 11)⟩, ⟨(some 13), (some (8, true)), .len false (.t 12)⟩, ⟨(some 14), (some (8, true)), .bin .gtr (.t 13) (.c (.int .i64 (0)))⟩, ⟨(some 15), none, .pick (.t 8) (.t 14) (.c (.bool false))⟩])
  (.keep [0, 15] (.cond (.t 15) (.seq (.reg [⟨(some 2), none, .mv (.c (.int .i64 (4)))⟩]) .ret) .skip)))
  (.keep [0] (.seq (.reg [⟨(some 16), none, .mv (.t 0)⟩, ⟨(some 17), none, .nilchk (.t 16)⟩, ⟨(some 18), none, .fa 1 (.t 17)⟩, ⟨(some 19), none, .load false 1 (.t 18)⟩, ⟨(some 2), none, .mv (.t 19)⟩]) .ret)))))⟩
def A.probatelaw02_read.L0 : AC := .post (.seq (.reg [⟨(some 33), none, .bin .lss (.t 32) (.t 31)⟩])
  (.keep [0, 3, 5, 30, 31, 32, 33] (.seq (.cond (.t 33) .skip (.exit 1))
  (.keep [0, 3, 5, 30, 31, 32] (.seq (.block 2 (.seq (.reg [⟨(some 34), none, .ia 1 (.t 30) (.t 32)⟩, ⟨(some 35), none, .load false 1 (.t 34)⟩, ⟨(some 7), none, .mv (.t 35)⟩])
  (.keep [0, 3, 5, 7, 30, 31, 32] (.reg [⟨(some 36), none, .mv (.t 5)⟩, ⟨(some 37), none, .mv (.t 7)⟩, ⟨(some 38), none, .mm true (.t 36) (.t 37)⟩, ⟨(some 5), none, .mv (.t 38)⟩]))))
  (.keep [0, 3, 5, 30, 31, 32] (.reg [⟨(some 39), none, .bin .add (.t 32) (.c (.int .i64 (1)))⟩, ⟨(some 32), none, .mv (.t 39)⟩]))))))) [0, 3, 5, 30, 31, 32]
def A.probatelaw02_read : AFn := ⟨49, [(4, none)], (.seq (.reg [⟨(some 3), none, .box (.t 1)⟩, ⟨(some 4), none, .mv (.c (.bool false))⟩])
  (.keep [0, 3] (.seq (.seq (.reg [⟨(some 8), none, .fa 0 (.t 3)⟩, ⟨(some 9), none, .load false 1 (.t 8)⟩])
  (.keep [0, 3, 9] (.block 0 (.seq (.reg [⟨(some 11), none, .bin .eql (.t 9) (.c (.int .i64 (1)))⟩, ⟨(some 10), none, .mv (.t 11)⟩])
  (.keep [0, 3, 9, 10] (.cond (.t 10) (.seq (.draw [(.pl, ⟨(some 12), none, .mv (.t 0)⟩), (.pl, ⟨(some 13), none, .fa 1 (.t 3)⟩), (.pl, ⟨(some 14), none, .load false 1 (.t 13)⟩), (.eff, ⟨(some 15), none, .call (.c (.fn K.wire_Reader_Num [] [])) [(.t 12), (.t 14)]⟩), (.pl, ⟨(some 16), none, .fa 1 (.t 3)⟩), (.fl, ⟨(some 17), none, .load false 1 (.t 16)⟩), (.pl, ⟨(some 18), none, .bin .eql (.t 15) (.t 17)⟩), (.pl, ⟨(some 4), none, .mv (.t 18)⟩)]) .ret) (.seq (.reg [⟨(some 20), none, .bin .eql (.t 9) (.c (.int .i64 (2)))⟩, ⟨(some 19), none, .mv (.t 20)⟩])
  (.keep [0, 3, 9, 19] (.cond (.t 19) (.seq (.draw [(.pl, ⟨(some 21), none, .mv (.t 0)⟩), (.eff, ⟨(some 22), none, .call (.c (.fn K.wire_Reader_Bool [] [])) [(.t 21)]⟩), (.pl, ⟨(some 23), none, .fa 1 (.t 3)⟩), (.fl, ⟨(some 24), none, .load false 1 (.t 23)⟩), (.pl, ⟨(some 25), none, .bin .eql (.t 24) (.c (.int .i64 (1)))⟩), (.pl, ⟨(some 26), none, .beq false (.t 22) (.t 25)⟩), (.pl, ⟨(some 4), none, .mv (.t 26)⟩)]) .ret) (.seq (.reg [⟨(some 28), none, .bin .eql (.t 9) (.c (.int .i64 (3)))⟩, ⟨(some 27), none, .mv (.t 28)⟩])
  (.keep [0, 3, 27] (.cond (.t 27) (.seq (.reg [⟨(some 5), none, .mv (.c (.int .i64 (0)))⟩])
  (.keep [0, 3, 5] (.seq (.seq (.reg [⟨(some 29), none, .fa 2 (.t 3)⟩, ⟨(some 30), none, .load false 1 (.t 29)⟩, ⟨(some 31), none, .len false (.t 30)⟩, ⟨(some 32), none, .mv (.c (.int .i64 (0)))⟩])
  (.keep [0, 3, 5, 30, 31, 32] (.block 1 (.loop A.probatelaw02_read.L0))))
  (.keep [0, 3, 5] (.seq (.draw [(.pl, ⟨(some 40), none, .mv (.t 0)⟩), (.pl, ⟨(some 41), none, .fa 2 (.t 3)⟩), (.pl, ⟨(some 42), none, .load false 1 (.t 41)⟩), (.pl, ⟨(some 43), none, .len false (.t 42)⟩), (.pl, ⟨(some 44), none, .mv (.t 5)⟩), (.eff, ⟨(some 45), none, .call (.c (.fn K.wire_Reader_Nums [] [])) [(.t 40), (.t 43), (.t 44)]⟩), (.pl, ⟨(some 46), none, .fa 2 (.t 3)⟩), (.fl, ⟨(some 47), none, .load false 1 (.t 46)⟩), (.pl, ⟨(some 48), none, .call (.c (.fn K.probateref02_Same [] [])) [(.t 45), (.t 47)]⟩), (.pl, ⟨(some 4), none, .mv (.t 48)⟩)]) .ret))))) .skip))))))))))))
  (.keep [] (.seq (.reg [⟨(some 4), none, .mv (.c (.bool true))⟩]) .ret)))))⟩
def A.probatelaw02_WireList_1 : AFn := ⟨13, [(3, (some (true, 4)))], (.seq (.reg [⟨(some 3), none, .alloc [(.int .i64 (0)), (.int .i64 (0)), (.sl 0 1 []), (.int .i64 (0))]⟩])
  (.keep [0, 1, 3] (.seq (.reg [⟨(some 5), none, .mv (.t 0)⟩, ⟨(some 6), none, .load false 1 (.t 1)⟩, ⟨(some 7), none, .call (.c (.fn K.wire_Reader_Num [] [])) [(.t 5), (.t 6)]⟩, ⟨(some 8), none, .bld [(.int .i64 (0)), (.int .i64 (0)), (.sl 0 1 []), (.int .i64 (0))] [(1, 1, (.t 7))]⟩, ⟨(some 4), none, .alloc [(.int .i64 (0)), (.int .i64 (0)), (.sl 0 1 []), (.int .i64 (0))]⟩, ⟨none, none, .store 4 (.t 4) (.t 8)⟩])
  (.keep [0, 3, 4] (.seq (.seq (.reg [⟨(some 9), none, .mv (.t 0)⟩, ⟨(some 10), none, .call (.c (.fn K.wire_Reader_Bool [] [])) [(.t 9)]⟩])
  (.keep [3, 4, 10] (.cond (.t 10) (.reg [⟨(some 11), none, .fa 0 (.t 4)⟩, ⟨none, none, .store 1 (.t 11) (.c (.int .i64 (1)))⟩]) .skip)))
  (.keep [3, 4] (.seq (.reg [⟨(some 12), none, .load true 4 (.t 4)⟩, ⟨none, none, .store 4 (.t 3) (.t 12)⟩]) .ret)))))))⟩
end Go.Proofs.Ytmobijebjkjnoaa.Al
namespace Go.Proofs.Ytmobijebjkjnoaa.Al
def A.slices_Clone_byte : AFn := ⟨8, [(2, none)], (.seq (.reg [⟨(some 2), none, .mv (.c (.sl 0 1 []))⟩])
  (.keep [0] (.seq (.seq (.reg [⟨(some 3), none, .mv (.t 0)⟩, ⟨(some 4), none, .isnil false false (.t 3)⟩])
  (.keep [0, 4] (.cond (.t 4) (.seq (.reg [⟨(some 2), none, .mv (.c (.sl 0 1 []))⟩]) .ret) .skip)))
  (.keep [0] (.seq (.reg [⟨(some 5), none, .bsl 1 false [(.int .u8 (0))] 0 []⟩, ⟨(some 6), none, .mv (.t 0)⟩, ⟨(some 7), none, .app 1 1 (.t 5) (.t 6)⟩, ⟨(some 2), none, .mv (.t 7)⟩]) .ret)))))⟩
def A.slices_ContainsFunc_Prod : AFn := ⟨9, [(4, none)], (.seq (.reg [⟨(some 4), none, .mv (.c (.bool false))⟩])
  (.keep [0, 1] (.seq (.reg [⟨(some 5), none, .mv (.t 0)⟩, ⟨(some 6), none, .mv (.t 1)⟩, ⟨(some 7), none, .call (.c (.fn K.slices_IndexFunc_Prod [] [])) [(.t 5), (.t 6)]⟩, ⟨(some 8), none, .bin .geq (.t 7) (.c (.int .i64 (0)))⟩, ⟨(some 4), none, .mv (.t 8)⟩]) .ret)))⟩
def A.slices_EqualFunc_Prod.L0 : AC := .post (.seq (.reg [⟨(some 18), none, .bin .lss (.t 17) (.t 16)⟩])
  (.keep [1, 2, 15, 16, 17, 18] (.seq (.cond (.t 18) .skip (.exit 0))
  (.keep [1, 2, 15, 16, 17] (.seq (.block 1 (.seq (.reg [⟨(some 19), none, .mv (.t 17)⟩, ⟨(some 20), none, .ia 2 (.t 15) (.t 17)⟩, ⟨(some 21), none, .load true 2 (.t 20)⟩, ⟨(some 8), none, .alloc [(.int .i64 (0)), (.sl 0 1 [])]⟩, ⟨(some 7), none, .mv (.t 19)⟩, ⟨none, none, .store 2 (.t 8) (.t 21)⟩])
  (.keep [1, 2, 7, 8, 15, 16, 17] (.seq (.reg [⟨(some 22), none, .mv (.t 1)⟩, ⟨(some 23), none, .mv (.t 7)⟩, ⟨(some 24), none, .ia 2 (.t 22) (.t 23)⟩, ⟨(some 25), none, .load true 2 (.t 24)⟩, ⟨(some 9), none, .alloc [(.int .i64 (0)), (.sl 0 1 [])]⟩, ⟨none, none, .store 2 (.t 9) (.t 25)⟩])
  (.keep [1, 2, 8, 9, 15, 16, 17] (.seq (.reg [⟨(some 26), none, .mv (.t 2)⟩, ⟨(some 27), none, .load true 2 (.t 8)⟩, ⟨(some 28), none, .load true 2 (.t 9)⟩, ⟨(some 29), none, .call (.t 26) [(.t 27), (.t 28)]⟩, ⟨(some 30), none, .un .not (.t 29)⟩])
  (.keep [1, 2, 15, 16, 17, 30] (.cond (.t 30) (.seq (.reg [⟨(some 6), none, .mv (.c (.bool false))⟩]) .ret) .skip))))))))
  (.keep [1, 2, 15, 16, 17] (.reg [⟨(some 31), none, .bin .add (.t 17) (.c (.int .i64 (1)))⟩, ⟨(some 17), none, .mv (.t 31)⟩]))))))) [1, 2, 15, 16, 17]
def A.slices_EqualFunc_Prod : AFn := ⟨32, [(6, none)], (.seq (.reg [⟨(some 6), none, .mv (.c (.bool false))⟩])
  (.keep [0, 1, 2] (.seq (.seq (.reg [⟨(some 10), none, .mv (.t 0)⟩, ⟨(some 11), none, .len false (.t 10)⟩, ⟨(some 12), none, .mv (.t 1)⟩, ⟨(some 13), none, .len false (.t 12)⟩, ⟨(some 14), none, .bin .neq (.t 11) (.t 13)⟩])
  (.keep [0, 1, 2, 14] (.cond (.t 14) (.seq (.reg [⟨(some 6), none, .mv (.c (.bool false))⟩]) .ret) .skip)))
  (.keep [0, 1, 2] (.seq (.seq (.reg [⟨(some 15), none, .mv (.t 0)⟩, ⟨(some 16), none, .len false (.t 15)⟩, ⟨(some 17), none, .mv (.c (.int .i64 (0)))⟩])
  (.keep [1, 2, 15, 16, 17] (.block 0 (.loop A.slices_EqualFunc_Prod.L0))))
  (.keep [] (.seq (.reg [⟨(some 6), none, .mv (.c (.bool true))⟩]) .ret)))))))⟩
def A.slices_Clone_Sym : AFn := ⟨8, [(2, none)], (.seq (.reg [⟨(some 2), none, .mv (.c (.sl 0 1 []))⟩])
  (.keep [0] (.seq (.seq (.reg [⟨(some 3), none, .mv (.t 0)⟩, ⟨(some 4), none, .isnil false false (.t 3)⟩])
  (.keep [0, 4] (.cond (.t 4) (.seq (.reg [⟨(some 2), none, .mv (.c (.sl 0 1 []))⟩]) .ret) .skip)))
  (.keep [0] (.seq (.reg [⟨(some 5), none, .bsl 2 true [(.bool false), (.int .i64 (0))] 0 []⟩, ⟨(some 6), none, .mv (.t 0)⟩, ⟨(some 7), none, .app 2 16 (.t 5) (.t 6)⟩, ⟨(some 2), none, .mv (.t 7)⟩]) .ret)))))⟩
def A.strings_Cut : AFn := ⟨13, [(4, none), (5, none), (6, none)], (.seq (.reg [⟨(some 4), none, .mv (.c (.str []))⟩, ⟨(some 5), none, .mv (.c (.str []))⟩, ⟨(some 6), none, .mv (.c (.bool false))⟩])
  (.keep [0, 1] (.seq (.reg [⟨(some 7), none, .mv (.t 0)⟩, ⟨(some 8), none, .mv (.t 1)⟩, ⟨(some 9), none, .call (.c (.fn K.stringslite_Cut [] [])) [(.t 7), (.t 8)]⟩, ⟨(some 10), none, .ext (.t 9) 0⟩, ⟨(some 11), none, .ext (.t 9) 1⟩, ⟨(some 12), none, .ext (.t 9) 2⟩, ⟨(some 4), none, .mv (.t 10)⟩, ⟨(some 5), none, .mv (.t 11)⟩, ⟨(some 6), none, .mv (.t 12)⟩]) .ret)))⟩
def A.strings_IndexByte : AFn := ⟨8, [(4, none)], (.seq (.reg [⟨(some 4), none, .mv (.c (.int .i64 (0)))⟩])
  (.keep [0, 1] (.seq (.reg [⟨(some 5), none, .mv (.t 0)⟩, ⟨(some 6), none, .mv (.t 1)⟩, ⟨(some 7), none, .call (.c (.fn K.stringslite_IndexByte [] [])) [(.t 5), (.t 6)]⟩, ⟨(some 4), none, .mv (.t 7)⟩]) .ret)))⟩
def A.slices_IndexFunc_Prod.L0 : AC := .post (.seq (.reg [⟨(some 9), none, .bin .lss (.t 8) (.t 7)⟩])
  (.keep [0, 1, 7, 8, 9] (.seq (.cond (.t 9) .skip (.exit 0))
  (.keep [0, 1, 7, 8] (.seq (.block 1 (.seq (.reg [⟨(some 10), none, .mv (.t 8)⟩, ⟨(some 5), none, .mv (.t 10)⟩])
  (.keep [0, 1, 5, 7, 8] (.seq (.reg [⟨(some 11), none, .mv (.t 1)⟩, ⟨(some 12), none, .mv (.t 0)⟩, ⟨(some 13), none, .mv (.t 5)⟩, ⟨(some 14), none, .ia 2 (.t 12) (.t 13)⟩, ⟨(some 15), none, .load true 2 (.t 14)⟩, ⟨(some 16), none, .call (.t 11) [(.t 15)]⟩])
  (.keep [0, 1, 5, 7, 8, 16] (.cond (.t 16) (.seq (.reg [⟨(some 17), none, .mv (.t 5)⟩, ⟨(some 4), none, .mv (.t 17)⟩]) .ret) .skip))))))
  (.keep [0, 1, 7, 8] (.reg [⟨(some 18), none, .bin .add (.t 8) (.c (.int .i64 (1)))⟩, ⟨(some 8), none, .mv (.t 18)⟩]))))))) [0, 1, 7, 8]
def A.slices_IndexFunc_Prod : AFn := ⟨19, [(4, none)], (.seq (.reg [⟨(some 4), none, .mv (.c (.int .i64 (0)))⟩])
  (.keep [0, 1] (.seq (.seq (.reg [⟨(some 6), none, .mv (.t 0)⟩, ⟨(some 7), none, .len false (.t 6)⟩, ⟨(some 8), none, .mv (.c (.int .i64 (0)))⟩])
  (.keep [0, 1, 7, 8] (.block 0 (.loop A.slices_IndexFunc_Prod.L0))))
  (.keep [] (.seq (.reg [⟨(some 4), none, .mv (.c (.int .i64 (-1)))⟩]) .ret)))))⟩
def A.slices_ContainsFunc_Sym : AFn := ⟨9, [(4, none)], (.seq (.reg [⟨(some 4), none, .mv (.c (.bool false))⟩])
  (.keep [0, 1] (.seq (.reg [⟨(some 5), none, .mv (.t 0)⟩, ⟨(some 6), none, .mv (.t 1)⟩, ⟨(some 7), none, .call (.c (.fn K.slices_IndexFunc_Sym [] [])) [(.t 5), (.t 6)]⟩, ⟨(some 8), none, .bin .geq (.t 7) (.c (.int .i64 (0)))⟩, ⟨(some 4), none, .mv (.t 8)⟩]) .ret)))⟩
def A.slices_Equal_Sym.L0 : AC := .post (.seq (.reg [⟨(some 14), none, .bin .lss (.t 13) (.t 12)⟩])
  (.keep [0, 1, 12, 13, 14] (.seq (.cond (.t 14) .skip (.exit 0))
  (.keep [0, 1, 12, 13] (.seq (.block 1 (.seq (.reg [⟨(some 15), none, .mv (.t 13)⟩, ⟨(some 5), none, .mv (.t 15)⟩])
  (.keep [0, 1, 5, 12, 13] (.seq (.draw [(.pl, ⟨(some 16), none, .mv (.t 0)⟩), (.pl, ⟨(some 17), none, .mv (.t 5)⟩), (.pl, ⟨(some 18), none, .ia 2 (.t 16) (.t 17)⟩), (.pl, ⟨(some 19), none, .load true 2 (.t 18)⟩), (.pl, ⟨(some 20), none, .mv (.t 1)⟩), (.pl, ⟨(some 21), none, .mv (.t 5)⟩), (.pl, ⟨(some 22), none, .ia 2 (.t 20) (.t 21)⟩), (.pl, ⟨(some 23), none, .load true 2 (.t 22)⟩), (.pl, ⟨(some 24), none, .eqs true [(.b, 0), (.i, 1)] (.t 19) (.t 23)⟩)])
  (.keep [0, 1, 12, 13, 24] (.cond (.t 24) (.seq (.reg [⟨(some 4), none, .mv (.c (.bool false))⟩]) .ret) .skip))))))
  (.keep [0, 1, 12, 13] (.reg [⟨(some 25), none, .bin .add (.t 13) (.c (.int .i64 (1)))⟩, ⟨(some 13), none, .mv (.t 25)⟩]))))))) [0, 1, 12, 13]
def A.slices_Equal_Sym : AFn := ⟨26, [(4, none)], (.seq (.reg [⟨(some 4), none, .mv (.c (.bool false))⟩])
  (.keep [0, 1] (.seq (.seq (.reg [⟨(some 6), none, .mv (.t 0)⟩, ⟨(some 7), none, .len false (.t 6)⟩, ⟨(some 8), none, .mv (.t 1)⟩, ⟨(some 9), none, .len false (.t 8)⟩, ⟨(some 10), none, .bin .neq (.t 7) (.t 9)⟩])
  (.keep [0, 1, 10] (.cond (.t 10) (.seq (.reg [⟨(some 4), none, .mv (.c (.bool false))⟩]) .ret) .skip)))
  (.keep [0, 1] (.seq (.seq (.reg [⟨(some 11), none, .mv (.t 0)⟩, ⟨(some 12), none, .len false (.t 11)⟩, ⟨(some 13), none, .mv (.c (.int .i64 (0)))⟩])
  (.keep [0, 1, 12, 13] (.block 0 (.loop A.slices_Equal_Sym.L0))))
  (.keep [] (.seq (.reg [⟨(some 4), none, .mv (.c (.bool true))⟩]) .ret)))))))⟩
def A.stringslite_Cut : AFn := ⟨23, [(4, none), (5, none), (6, none)], (.seq (.reg [⟨(some 4), none, .mv (.c (.str []))⟩, ⟨(some 5), none, .mv (.c (.str []))⟩, ⟨(some 6), none, .mv (.c (.bool false))⟩])
  (.keep [0, 1] (.seq (.seq (.reg [⟨(some 8), none, .mv (.t 0)⟩, ⟨(some 9), none, .mv (.t 1)⟩, ⟨(some 10), none, .call (.c (.fn K.stringslite_Index [] [])) [(.t 8), (.t 9)]⟩, ⟨(some 7), none, .mv (.t 10)⟩])
  (.keep [0, 1, 7] (.seq (.reg [⟨(some 11), none, .mv (.t 7)⟩, ⟨(some 12), none, .bin .geq (.t 11) (.c (.int .i64 (0)))⟩])
  (.keep [0, 1, 7, 12] (.cond (.t 12) (.seq (.draw [(.pl, ⟨(some 13), none, .mv (.t 0)⟩), (.pl, ⟨(some 14), none, .mv (.t 7)⟩), (.pl, ⟨(some 15), none, .slcs (.t 13) none (some (.t 14))⟩), (.pl, ⟨(some 16), none, .mv (.t 0)⟩), (.pl, ⟨(some 17), none, .mv (.t 7)⟩), (.pl, ⟨(some 18), none, .mv (.t 1)⟩), (.pl, ⟨(some 19), none, .len true (.t 18)⟩), (.pl, ⟨(some 20), none, .bin .add (.t 17) (.t 19)⟩), (.pl, ⟨(some 21), none, .slcs (.t 16) (some (.t 20)) none⟩), (.pl, ⟨(some 4), none, .mv (.t 15)⟩), (.pl, ⟨(some 5), none, .mv (.t 21)⟩), (.pl, ⟨(some 6), none, .mv (.c (.bool true))⟩)]) .ret) .skip)))))
  (.keep [0] (.seq (.reg [⟨(some 22), none, .mv (.t 0)⟩, ⟨(some 4), none, .mv (.t 22)⟩, ⟨(some 5), none, .mv (.c (.str []))⟩, ⟨(some 6), none, .mv (.c (.bool false))⟩]) .ret)))))⟩
def A.stringslite_IndexByte : AFn := ⟨8, [(4, none)], (.seq (.reg [⟨(some 4), none, .mv (.c (.int .i64 (0)))⟩])
  (.keep [0, 1] (.seq (.reg [⟨(some 5), none, .mv (.t 0)⟩, ⟨(some 6), none, .mv (.t 1)⟩, ⟨(some 7), none, .call (.c (.fn K.bytealg_IndexByteString [] [])) [(.t 5), (.t 6)]⟩, ⟨(some 4), none, .mv (.t 7)⟩]) .ret)))⟩
def A.slices_IndexFunc_Sym.L0 : AC := .post (.seq (.reg [⟨(some 9), none, .bin .lss (.t 8) (.t 7)⟩])
  (.keep [0, 1, 7, 8, 9] (.seq (.cond (.t 9) .skip (.exit 0))
  (.keep [0, 1, 7, 8] (.seq (.block 1 (.seq (.reg [⟨(some 10), none, .mv (.t 8)⟩, ⟨(some 5), none, .mv (.t 10)⟩])
  (.keep [0, 1, 5, 7, 8] (.seq (.reg [⟨(some 11), none, .mv (.t 1)⟩, ⟨(some 12), none, .mv (.t 0)⟩, ⟨(some 13), none, .mv (.t 5)⟩, ⟨(some 14), none, .ia 2 (.t 12) (.t 13)⟩, ⟨(some 15), none, .load true 2 (.t 14)⟩, ⟨(some 16), none, .call (.t 11) [(.t 15)]⟩])
  (.keep [0, 1, 5, 7, 8, 16] (.cond (.t 16) (.seq (.reg [⟨(some 17), none, .mv (.t 5)⟩, ⟨(some 4), none, .mv (.t 17)⟩]) .ret) .skip))))))
  (.keep [0, 1, 7, 8] (.reg [⟨(some 18), none, .bin .add (.t 8) (.c (.int .i64 (1)))⟩, ⟨(some 8), none, .mv (.t 18)⟩]))))))) [0, 1, 7, 8]
def A.slices_IndexFunc_Sym : AFn := ⟨19, [(4, none)], (.seq (.reg [⟨(some 4), none, .mv (.c (.int .i64 (0)))⟩])
  (.keep [0, 1] (.seq (.seq (.reg [⟨(some 6), none, .mv (.t 0)⟩, ⟨(some 7), none, .len false (.t 6)⟩, ⟨(some 8), none, .mv (.c (.int .i64 (0)))⟩])
  (.keep [0, 1, 7, 8] (.block 0 (.loop A.slices_IndexFunc_Sym.L0))))
  (.keep [] (.seq (.reg [⟨(some 4), none, .mv (.c (.int .i64 (-1)))⟩]) .ret)))))⟩
def A.stringslite_Index.L0 : AC := .post (.seq (.seq (.reg [⟨(some 57), none, .mv (.t 8)⟩, ⟨(some 58), none, .mv (.t 9)⟩, ⟨(some 59), none, .bin .lss (.t 57) (.t 58)⟩])
  (.keep [0, 1, 5, 6, 7, 8, 9, 10, 59] (.cond (.t 59) .skip (.exit 1))))
  (.keep [0, 1, 5, 6, 7, 8, 9, 10] (.block 2 (.seq (.seq (.reg [⟨(some 60), none, .mv (.t 0)⟩, ⟨(some 61), none, .mv (.t 8)⟩, ⟨(some 62), none, .ixs (.t 60) (.t 61)⟩, ⟨(some 63), none, .mv (.t 6)⟩, ⟨(some 64), none, .bin .neq (.t 62) (.t 63)⟩])
  (.keep [0, 1, 5, 6, 7, 8, 9, 10, 64] (.cond (.t 64) (.seq (.reg [⟨(some 65), none, .mv (.t 0)⟩, ⟨(some 66), none, .mv (.t 8)⟩, ⟨(some 67), none, .bin .add (.t 66) (.c (.int .i64 (1)))⟩, ⟨(some 68), none, .mv (.t 9)⟩, ⟨(some 69), none, .slcs (.t 65) (some (.t 67)) (some (.t 68))⟩, ⟨(some 70), none, .mv (.t 6)⟩, ⟨(some 71), none, .call (.c (.fn K.stringslite_IndexByte [] [])) [(.t 69), (.t 70)]⟩, ⟨(some 11), none, .mv (.t 71)⟩])
  (.keep [0, 1, 5, 6, 7, 8, 9, 10, 11] (.seq (.seq (.reg [⟨(some 72), none, .mv (.t 11)⟩, ⟨(some 73), none, .bin .lss (.t 72) (.c (.int .i64 (0)))⟩])
  (.keep [0, 1, 5, 6, 7, 8, 9, 10, 11, 73] (.cond (.t 73) (.seq (.reg [⟨(some 4), none, .mv (.c (.int .i64 (-1)))⟩]) .ret) .skip)))
  (.keep [0, 1, 5, 6, 7, 8, 9, 10, 11] (.reg [⟨(some 74), none, .mv (.t 8)⟩, ⟨(some 75), none, .mv (.t 11)⟩, ⟨(some 76), none, .bin .add (.t 75) (.c (.int .i64 (1)))⟩, ⟨(some 77), none, .bin .add (.t 74) (.t 76)⟩, ⟨(some 8), none, .mv (.t 77)⟩]))))) .skip)))
  (.keep [0, 1, 5, 6, 7, 8, 9, 10] (.seq (.seq (.reg [⟨(some 78), none, .mv (.t 0)⟩, ⟨(some 79), none, .mv (.t 8)⟩, ⟨(some 80), none, .bin .add (.t 79) (.c (.int .i64 (1)))⟩, ⟨(some 81), none, .ixs (.t 78) (.t 80)⟩, ⟨(some 82), none, .mv (.t 7)⟩, ⟨(some 83), none, .bin .eql (.t 81) (.t 82)⟩, ⟨(some 84), none, .mv (.t 83)⟩, ⟨(some 85), (some (84, true)), .mv (.t 0)⟩, ⟨(some 86), (some (84, true)), .mv (.t 8)⟩, ⟨(some 87), (some (84, true)), .mv (.t 8)⟩, ⟨(some 88), (some (84, true)), .mv (.t 5)⟩, ⟨(some 89), (some (84, true)), .bin .add (.t 87) (.t 88)⟩, ⟨(some 90), (some (84, true)), .slcs (.t 85) (some (.t 86)) (some (.t 89))⟩, ⟨(some 91), (some (84, true)), .mv (.t 1)⟩, ⟨(some 92), (some (84, true)), .bin .eql (.t 90) (.t 91)⟩, ⟨(some 93), none, .pick (.t 84) (.t 92) (.c (.bool false))⟩])
  (.keep [0, 1, 5, 6, 7, 8, 9, 10, 93] (.cond (.t 93) (.seq (.reg [⟨(some 94), none, .mv (.t 8)⟩, ⟨(some 4), none, .mv (.t 94)⟩]) .ret) .skip)))
  (.keep [0, 1, 5, 6, 7, 8, 9, 10] (.seq (.reg [⟨(some 95), none, .mv (.t 8)⟩, ⟨(some 96), none, .bin .add (.t 95) (.c (.int .i64 (1)))⟩, ⟨(some 8), none, .mv (.t 96)⟩])
  (.keep [0, 1, 5, 6, 7, 8, 9, 10] (.seq (.reg [⟨(some 97), none, .mv (.t 10)⟩, ⟨(some 98), none, .bin .add (.t 97) (.c (.int .i64 (1)))⟩, ⟨(some 10), none, .mv (.t 98)⟩])
  (.keep [0, 1, 5, 6, 7, 8, 9, 10] (.seq (.reg [⟨(some 99), none, .mv (.t 5)⟩, ⟨(some 100), none, .load false 1 (.c .undef)⟩, ⟨(some 101), none, .bin .leq (.t 99) (.t 100)⟩, ⟨(some 102), none, .mv (.t 101)⟩, ⟨(some 103), (some (102, true)), .mv (.t 10)⟩, ⟨(some 104), (some (102, true)), .mv (.t 8)⟩, ⟨(some 105), (some (102, true)), .call (.c (.fn K.bytealg_Cutover [] [])) [(.t 104)]⟩, ⟨(some 106), (some (102, true)), .bin .gtr (.t 103) (.t 105)⟩, ⟨(some 107), none, .pick (.t 102) (.t 106) (.c (.bool false))⟩])
  (.keep [0, 1, 5, 6, 7, 8, 9, 10, 107] (.cond (.t 107) (.seq (.reg [⟨(some 108), none, .mv (.t 0)⟩, ⟨(some 109), none, .mv (.t 8)⟩, ⟨(some 110), none, .slcs (.t 108) (some (.t 109)) none⟩, ⟨(some 111), none, .mv (.t 1)⟩, ⟨(some 112), none, .call (.c (.fn K.bytealg_IndexString [] [])) [(.t 110), (.t 111)]⟩, ⟨(some 12), none, .mv (.t 112)⟩])
  (.keep [8, 12] (.seq (.seq (.reg [⟨(some 113), none, .mv (.t 12)⟩, ⟨(some 114), none, .bin .geq (.t 113) (.c (.int .i64 (0)))⟩])
  (.keep [8, 12, 114] (.cond (.t 114) (.seq (.reg [⟨(some 115), none, .mv (.t 12)⟩, ⟨(some 116), none, .mv (.t 8)⟩, ⟨(some 117), none, .bin .add (.t 115) (.t 116)⟩, ⟨(some 4), none, .mv (.t 117)⟩]) .ret) .skip)))
  (.keep [] (.seq (.reg [⟨(some 4), none, .mv (.c (.int .i64 (-1)))⟩]) .ret))))) (.seq (.reg [⟨(some 118), none, .mv (.t 5)⟩, ⟨(some 119), none, .load false 1 (.c .undef)⟩, ⟨(some 120), none, .bin .gtr (.t 118) (.t 119)⟩, ⟨(some 121), none, .mv (.t 120)⟩, ⟨(some 122), (some (121, true)), .mv (.t 10)⟩, ⟨(some 123), (some (121, true)), .mv (.t 8)⟩, ⟨(some 124), (some (121, true)), .bin .shr (.t 123) (.c (.int .u64 (4)))⟩, ⟨(some 125), (some (121, true)), .bin .add (.c (.int .i64 (4))) (.t 124)⟩, ⟨(some 126), (some (121, true)), .bin .geq (.t 122) (.t 125)⟩, ⟨(some 127), none, .pick (.t 121) (.t 126) (.c (.bool false))⟩, ⟨(some 128), none, .mv (.t 127)⟩, ⟨(some 129), (some (128, true)), .mv (.t 8)⟩, ⟨(some 130), (some (128, true)), .mv (.t 9)⟩, ⟨(some 131), (some (128, true)), .bin .lss (.t 129) (.t 130)⟩, ⟨(some 132), none, .pick (.t 128) (.t 131) (.c (.bool false))⟩])
  (.keep [0, 1, 5, 6, 7, 8, 9, 10, 132] (.cond (.t 132) (.seq (.reg [⟨(some 133), none, .mv (.t 0)⟩, ⟨(some 134), none, .mv (.t 8)⟩, ⟨(some 135), none, .slcs (.t 133) (some (.t 134)) none⟩, ⟨(some 136), none, .mv (.t 1)⟩, ⟨(some 137), none, .call (.c (.fn K.bytealg_IndexRabinKarp_string [] [])) [(.t 135), (.t 136)]⟩, ⟨(some 13), none, .mv (.t 137)⟩])
  (.keep [8, 13] (.seq (.seq (.reg [⟨(some 138), none, .mv (.t 13)⟩, ⟨(some 139), none, .bin .lss (.t 138) (.c (.int .i64 (0)))⟩])
  (.keep [8, 13, 139] (.cond (.t 139) (.seq (.reg [⟨(some 4), none, .mv (.c (.int .i64 (-1)))⟩]) .ret) .skip)))
  (.keep [8, 13] (.seq (.reg [⟨(some 140), none, .mv (.t 8)⟩, ⟨(some 141), none, .mv (.t 13)⟩, ⟨(some 142), none, .bin .add (.t 140) (.t 141)⟩, ⟨(some 4), none, .mv (.t 142)⟩]) .ret))))) .skip))))))))))))))))) [0, 1, 5, 6, 7, 8, 9, 10]
def A.stringslite_Index : AFn := ⟨143, [(4, none)], (.seq (.reg [⟨(some 4), none, .mv (.c (.int .i64 (0)))⟩])
  (.keep [0, 1] (.seq (.reg [⟨(some 14), none, .mv (.t 1)⟩, ⟨(some 15), none, .len true (.t 14)⟩, ⟨(some 5), none, .mv (.t 15)⟩])
  (.keep [0, 1, 5] (.seq (.block 0 (.seq (.reg [⟨(some 17), none, .mv (.t 5)⟩, ⟨(some 18), none, .bin .eql (.t 17) (.c (.int .i64 (0)))⟩, ⟨(some 19), none, .mv (.t 18)⟩, ⟨(some 20), (some (19, false)), .mv (.t 1)⟩, ⟨(some 21), (some (19, false)), .mv (.t 0)⟩, ⟨(some 22), (some (19, false)), .bin .eql (.t 20) (.t 21)⟩, ⟨(some 23), none, .pick (.t 19) (.c (.bool true)) (.t 22)⟩, ⟨(some 16), none, .mv (.t 23)⟩])
  (.keep [0, 1, 5, 16] (.cond (.t 16) (.seq (.reg [⟨(some 4), none, .mv (.c (.int .i64 (0)))⟩]) .ret) (.seq (.reg [⟨(some 25), none, .mv (.t 5)⟩, ⟨(some 26), none, .bin .eql (.t 25) (.c (.int .i64 (1)))⟩, ⟨(some 24), none, .mv (.t 26)⟩])
  (.keep [0, 1, 5, 24] (.cond (.t 24) (.seq (.reg [⟨(some 27), none, .mv (.t 0)⟩, ⟨(some 28), none, .mv (.t 1)⟩, ⟨(some 29), none, .ixs (.t 28) (.c (.int .i64 (0)))⟩, ⟨(some 30), none, .call (.c (.fn K.stringslite_IndexByte [] [])) [(.t 27), (.t 29)]⟩, ⟨(some 4), none, .mv (.t 30)⟩]) .ret) (.seq (.reg [⟨(some 32), none, .mv (.t 5)⟩, ⟨(some 33), none, .mv (.t 0)⟩, ⟨(some 34), none, .len true (.t 33)⟩, ⟨(some 35), none, .bin .geq (.t 32) (.t 34)⟩, ⟨(some 31), none, .mv (.t 35)⟩])
  (.keep [0, 1, 5, 31] (.cond (.t 31) (.seq (.reg [⟨(some 4), none, .mv (.c (.int .i64 (-1)))⟩]) .ret) (.seq (.reg [⟨(some 37), none, .mv (.t 5)⟩, ⟨(some 38), none, .load false 1 (.c .undef)⟩, ⟨(some 39), none, .bin .leq (.t 37) (.t 38)⟩, ⟨(some 40), none, .mv (.t 39)⟩, ⟨(some 41), (some (40, true)), .mv (.t 0)⟩, ⟨(some 42), (some (40, true)), .len true (.t 41)⟩, ⟨(some 43), (some (40, true)), .bin .leq (.t 42) (.c (.int .i64 (64)))⟩, ⟨(some 44), none, .pick (.t 40) (.t 43) (.c (.bool false))⟩, ⟨(some 36), none, .mv (.t 44)⟩])
  (.keep [0, 1, 5, 36] (.cond (.t 36) (.seq (.reg [⟨(some 45), none, .mv (.t 0)⟩, ⟨(some 46), none, .mv (.t 1)⟩, ⟨(some 47), none, .call (.c (.fn K.bytealg_IndexString [] [])) [(.t 45), (.t 46)]⟩, ⟨(some 4), none, .mv (.t 47)⟩]) .ret) .skip)))))))))))))
  (.keep [0, 1, 5] (.seq (.reg [⟨(some 48), none, .mv (.t 1)⟩, ⟨(some 49), none, .ixs (.t 48) (.c (.int .i64 (0)))⟩, ⟨(some 6), none, .mv (.t 49)⟩])
  (.keep [0, 1, 5, 6] (.seq (.reg [⟨(some 50), none, .mv (.t 1)⟩, ⟨(some 51), none, .ixs (.t 50) (.c (.int .i64 (1)))⟩, ⟨(some 7), none, .mv (.t 51)⟩])
  (.keep [0, 1, 5, 6, 7] (.seq (.reg [⟨(some 8), none, .mv (.c (.int .i64 (0)))⟩])
  (.keep [0, 1, 5, 6, 7, 8] (.seq (.reg [⟨(some 52), none, .mv (.t 0)⟩, ⟨(some 53), none, .len true (.t 52)⟩, ⟨(some 54), none, .mv (.t 5)⟩, ⟨(some 55), none, .bin .sub (.t 53) (.t 54)⟩, ⟨(some 56), none, .bin .add (.t 55) (.c (.int .i64 (1)))⟩, ⟨(some 9), none, .mv (.t 56)⟩])
  (.keep [0, 1, 5, 6, 7, 8, 9] (.seq (.reg [⟨(some 10), none, .mv (.c (.int .i64 (0)))⟩])
  (.keep [0, 1, 5, 6, 7, 8, 9, 10] (.seq (.block 1 (.loop A.stringslite_Index.L0))
  (.keep [] (.seq (.reg [⟨(some 4), none, .mv (.c (.int .i64 (-1)))⟩]) .ret)))))))))))))))))))⟩
def A.bytealg_Cutover : AFn := ⟨6, [(2, none)], (.seq (.reg [⟨(some 2), none, .mv (.c (.int .i64 (0)))⟩])
  (.keep [0] (.seq (.reg [⟨(some 3), none, .mv (.t 0)⟩, ⟨(some 4), none, .bin .add (.t 3) (.c (.int .i64 (16)))⟩, ⟨(some 5), none, .bin .quo (.t 4) (.c (.int .i64 (8)))⟩, ⟨(some 2), none, .mv (.t 5)⟩]) .ret)))⟩
def A.bytealg_IndexRabinKarp_string.L0 : AC := .post (.seq (.seq (.reg [⟨(some 18), none, .mv (.t 9)⟩, ⟨(some 19), none, .mv (.t 7)⟩, ⟨(some 20), none, .bin .lss (.t 18) (.t 19)⟩])
  (.keep [0, 1, 5, 6, 7, 8, 9, 20] (.cond (.t 20) .skip (.exit 0))))
  (.keep [0, 1, 5, 6, 7, 8, 9] (.seq (.block 1 (.reg [⟨(some 23), none, .mv (.t 8)⟩, ⟨(some 24), none, .bin .mul (.t 23) (.c (.int .u32 (16777619)))⟩, ⟨(some 25), none, .mv (.t 0)⟩, ⟨(some 26), none, .mv (.t 9)⟩, ⟨(some 27), none, .ixs (.t 25) (.t 26)⟩, ⟨(some 28), none, .conv .u32 (.t 27)⟩, ⟨(some 29), none, .bin .add (.t 24) (.t 28)⟩, ⟨(some 8), none, .mv (.t 29)⟩]))
  (.keep [0, 1, 5, 6, 7, 8, 9] (.reg [⟨(some 21), none, .mv (.t 9)⟩, ⟨(some 22), none, .bin .add (.t 21) (.c (.int .i64 (1)))⟩, ⟨(some 9), none, .mv (.t 22)⟩]))))) [0, 1, 5, 6, 7, 8, 9]
def A.bytealg_IndexRabinKarp_string.L1 : AC := .post (.seq (.seq (.reg [⟨(some 41), none, .mv (.t 10)⟩, ⟨(some 42), none, .mv (.t 0)⟩, ⟨(some 43), none, .len true (.t 42)⟩, ⟨(some 44), none, .bin .lss (.t 41) (.t 43)⟩])
  (.keep [0, 1, 5, 6, 7, 8, 10, 44] (.cond (.t 44) .skip (.exit 2))))
  (.keep [0, 1, 5, 6, 7, 8, 10] (.block 3 (.seq (.reg [⟨(some 45), none, .mv (.t 8)⟩, ⟨(some 46), none, .bin .mul (.t 45) (.c (.int .u32 (16777619)))⟩, ⟨(some 8), none, .mv (.t 46)⟩])
  (.keep [0, 1, 5, 6, 7, 8, 10] (.seq (.reg [⟨(some 47), none, .mv (.t 8)⟩, ⟨(some 48), none, .mv (.t 0)⟩, ⟨(some 49), none, .mv (.t 10)⟩, ⟨(some 50), none, .ixs (.t 48) (.t 49)⟩, ⟨(some 51), none, .conv .u32 (.t 50)⟩, ⟨(some 52), none, .bin .add (.t 47) (.t 51)⟩, ⟨(some 8), none, .mv (.t 52)⟩])
  (.keep [0, 1, 5, 6, 7, 8, 10] (.seq (.reg [⟨(some 53), none, .mv (.t 8)⟩, ⟨(some 54), none, .mv (.t 6)⟩, ⟨(some 55), none, .mv (.t 0)⟩, ⟨(some 56), none, .mv (.t 10)⟩, ⟨(some 57), none, .mv (.t 7)⟩, ⟨(some 58), none, .bin .sub (.t 56) (.t 57)⟩, ⟨(some 59), none, .ixs (.t 55) (.t 58)⟩, ⟨(some 60), none, .conv .u32 (.t 59)⟩, ⟨(some 61), none, .bin .mul (.t 54) (.t 60)⟩, ⟨(some 62), none, .bin .sub (.t 53) (.t 61)⟩, ⟨(some 8), none, .mv (.t 62)⟩])
  (.keep [0, 1, 5, 6, 7, 8, 10] (.seq (.reg [⟨(some 63), none, .mv (.t 10)⟩, ⟨(some 64), none, .bin .add (.t 63) (.c (.int .i64 (1)))⟩, ⟨(some 10), none, .mv (.t 64)⟩])
  (.keep [0, 1, 5, 6, 7, 8, 10] (.seq (.reg [⟨(some 65), none, .mv (.t 8)⟩, ⟨(some 66), none, .mv (.t 5)⟩, ⟨(some 67), none, .bin .eql (.t 65) (.t 66)⟩, ⟨(some 68), none, .mv (.t 67)⟩, ⟨(some 69), (some (68, true)), .mv (.t 0)⟩, ⟨(some 70), (some (68, true)), .mv (.t 10)⟩, ⟨(some 71), (some (68, true)), .mv (.t 7)⟩, ⟨(some 72), (some (68, true)), .bin .sub (.t 70) (.t 71)⟩, ⟨(some 73), (some (68, true)), .mv (.t 10)⟩, ⟨(some 74), (some (68, true)), .slcs (.t 69) (some (.t 72)) (some (.t 73))⟩, ⟨(some 75), (some (68, true)), .mv (.t 1)⟩, ⟨(some 76), (some (68, true)), .bin .eql (.t 74) (.t 75)⟩, ⟨(some 77), none, .pick (.t 68) (.t 76) (.c (.bool false))⟩])
  (.keep [0, 1, 5, 6, 7, 8, 10, 77] (.cond (.t 77) (.seq (.reg [⟨(some 78), none, .mv (.t 10)⟩, ⟨(some 79), none, .mv (.t 7)⟩, ⟨(some 80), none, .bin .sub (.t 78) (.t 79)⟩, ⟨(some 4), none, .mv (.t 80)⟩]) .ret) .skip)))))))))))))) [0, 1, 5, 6, 7, 8, 10]
def A.bytealg_IndexRabinKarp_string : AFn := ⟨81, [(4, none)], (.seq (.reg [⟨(some 4), none, .mv (.c (.int .i64 (0)))⟩])
  (.keep [0, 1] (.seq (.reg [⟨(some 12), none, .mv (.t 1)⟩, ⟨(some 13), none, .call (.c (.fn K.bytealg_hashStr_string [] [])) [(.t 12)]⟩, ⟨(some 11), none, .mv (.t 13)⟩, ⟨(some 14), none, .ext (.t 11) 0⟩, ⟨(some 15), none, .ext (.t 11) 1⟩, ⟨(some 5), none, .mv (.t 14)⟩, ⟨(some 6), none, .mv (.t 15)⟩])
  (.keep [0, 1, 5, 6] (.seq (.reg [⟨(some 16), none, .mv (.t 1)⟩, ⟨(some 17), none, .len true (.t 16)⟩, ⟨(some 7), none, .mv (.t 17)⟩])
  (.keep [0, 1, 5, 6, 7] (.seq (.reg [⟨(some 8), none, .mv (.c (.int .u32 (0)))⟩])
  (.keep [0, 1, 5, 6, 7, 8] (.seq (.seq (.reg [⟨(some 9), none, .mv (.c (.int .i64 (0)))⟩])
  (.keep [0, 1, 5, 6, 7, 8, 9] (.block 0 (.loop A.bytealg_IndexRabinKarp_string.L0))))
  (.keep [0, 1, 5, 6, 7, 8] (.seq (.seq (.reg [⟨(some 30), none, .mv (.t 8)⟩, ⟨(some 31), none, .mv (.t 5)⟩, ⟨(some 32), none, .bin .eql (.t 30) (.t 31)⟩, ⟨(some 33), none, .mv (.t 32)⟩, ⟨(some 34), (some (33, true)), .mv (.t 0)⟩, ⟨(some 35), (some (33, true)), .mv (.t 7)⟩, ⟨(some 36), (some (33, true)), .slcs (.t 34) none (some (.t 35))⟩, ⟨(some 37), (some (33, true)), .mv (.t 1)⟩, ⟨(some 38), (some (33, true)), .bin .eql (.t 36) (.t 37)⟩, ⟨(some 39), none, .pick (.t 33) (.t 38) (.c (.bool false))⟩])
  (.keep [0, 1, 5, 6, 7, 8, 39] (.cond (.t 39) (.seq (.reg [⟨(some 4), none, .mv (.c (.int .i64 (0)))⟩]) .ret) .skip)))
  (.keep [0, 1, 5, 6, 7, 8] (.seq (.seq (.reg [⟨(some 40), none, .mv (.t 7)⟩, ⟨(some 10), none, .mv (.t 40)⟩])
  (.keep [0, 1, 5, 6, 7, 8, 10] (.block 2 (.loop A.bytealg_IndexRabinKarp_string.L1))))
  (.keep [] (.seq (.reg [⟨(some 4), none, .mv (.c (.int .i64 (-1)))⟩]) .ret)))))))))))))))⟩
def A.bytealg_hashStr_string.L0 : AC := .post (.seq (.seq (.reg [⟨(some 9), none, .mv (.t 5)⟩, ⟨(some 10), none, .mv (.t 0)⟩, ⟨(some 11), none, .len true (.t 10)⟩, ⟨(some 12), none, .bin .lss (.t 9) (.t 11)⟩])
  (.keep [0, 4, 5, 12] (.cond (.t 12) .skip (.exit 0))))
  (.keep [0, 4, 5] (.seq (.block 1 (.reg [⟨(some 15), none, .mv (.t 4)⟩, ⟨(some 16), none, .bin .mul (.t 15) (.c (.int .u32 (16777619)))⟩, ⟨(some 17), none, .mv (.t 0)⟩, ⟨(some 18), none, .mv (.t 5)⟩, ⟨(some 19), none, .ixs (.t 17) (.t 18)⟩, ⟨(some 20), none, .conv .u32 (.t 19)⟩, ⟨(some 21), none, .bin .add (.t 16) (.t 20)⟩, ⟨(some 4), none, .mv (.t 21)⟩]))
  (.keep [0, 4, 5] (.reg [⟨(some 13), none, .mv (.t 5)⟩, ⟨(some 14), none, .bin .add (.t 13) (.c (.int .i64 (1)))⟩, ⟨(some 5), none, .mv (.t 14)⟩]))))) [0, 4, 5]
def A.bytealg_hashStr_string.L1 : AC := .post (.seq (.seq (.reg [⟨(some 24), none, .mv (.t 8)⟩, ⟨(some 25), none, .bin .gtr (.t 24) (.c (.int .i64 (0)))⟩])
  (.keep [4, 6, 7, 8, 25] (.cond (.t 25) .skip (.exit 2))))
  (.keep [4, 6, 7, 8] (.seq (.block 3 (.seq (.seq (.reg [⟨(some 28), none, .mv (.t 8)⟩, ⟨(some 29), none, .bin .and (.t 28) (.c (.int .i64 (1)))⟩, ⟨(some 30), none, .bin .neq (.t 29) (.c (.int .i64 (0)))⟩])
  (.keep [4, 6, 7, 8, 30] (.cond (.t 30) (.reg [⟨(some 31), none, .mv (.t 6)⟩, ⟨(some 32), none, .mv (.t 7)⟩, ⟨(some 33), none, .bin .mul (.t 31) (.t 32)⟩, ⟨(some 6), none, .mv (.t 33)⟩]) .skip)))
  (.keep [4, 6, 7, 8] (.reg [⟨(some 34), none, .mv (.t 7)⟩, ⟨(some 35), none, .mv (.t 7)⟩, ⟨(some 36), none, .bin .mul (.t 34) (.t 35)⟩, ⟨(some 7), none, .mv (.t 36)⟩]))))
  (.keep [4, 6, 7, 8] (.reg [⟨(some 26), none, .mv (.t 8)⟩, ⟨(some 27), none, .bin .shr (.t 26) (.c (.int .u64 (1)))⟩, ⟨(some 8), none, .mv (.t 27)⟩]))))) [4, 6, 7, 8]
def A.bytealg_hashStr_string : AFn := ⟨39, [(2, none), (3, none)], (.seq (.reg [⟨(some 2), none, .mv (.c (.int .u32 (0)))⟩, ⟨(some 3), none, .mv (.c (.int .u32 (0)))⟩])
  (.keep [0] (.seq (.reg [⟨(some 4), none, .mv (.c (.int .u32 (0)))⟩])
  (.keep [0, 4] (.seq (.seq (.reg [⟨(some 5), none, .mv (.c (.int .i64 (0)))⟩])
  (.keep [0, 4, 5] (.block 0 (.loop A.bytealg_hashStr_string.L0))))
  (.keep [0, 4] (.seq (.reg [⟨(some 6), none, .mv (.c (.int .u32 (1)))⟩, ⟨(some 7), none, .mv (.c (.int .u32 (16777619)))⟩])
  (.keep [0, 4, 6, 7] (.seq (.seq (.reg [⟨(some 22), none, .mv (.t 0)⟩, ⟨(some 23), none, .len true (.t 22)⟩, ⟨(some 8), none, .mv (.t 23)⟩])
  (.keep [4, 6, 7, 8] (.block 2 (.loop A.bytealg_hashStr_string.L1))))
  (.keep [4, 6] (.seq (.reg [⟨(some 37), none, .mv (.t 4)⟩, ⟨(some 38), none, .mv (.t 6)⟩, ⟨(some 2), none, .mv (.t 37)⟩, ⟨(some 3), none, .mv (.t 38)⟩]) .ret)))))))))))⟩
def A.slices_Equal_int.L0 : AC := .post (.seq (.reg [⟨(some 14), none, .bin .lss (.t 13) (.t 12)⟩])
  (.keep [0, 1, 12, 13, 14] (.seq (.cond (.t 14) .skip (.exit 0))
  (.keep [0, 1, 12, 13] (.seq (.block 1 (.seq (.reg [⟨(some 15), none, .mv (.t 13)⟩, ⟨(some 5), none, .mv (.t 15)⟩])
  (.keep [0, 1, 5, 12, 13] (.seq (.draw [(.pl, ⟨(some 16), none, .mv (.t 0)⟩), (.pl, ⟨(some 17), none, .mv (.t 5)⟩), (.pl, ⟨(some 18), none, .ia 1 (.t 16) (.t 17)⟩), (.pl, ⟨(some 19), none, .load false 1 (.t 18)⟩), (.pl, ⟨(some 20), none, .mv (.t 1)⟩), (.pl, ⟨(some 21), none, .mv (.t 5)⟩), (.pl, ⟨(some 22), none, .ia 1 (.t 20) (.t 21)⟩), (.pl, ⟨(some 23), none, .load false 1 (.t 22)⟩), (.pl, ⟨(some 24), none, .bin .neq (.t 19) (.t 23)⟩)])
  (.keep [0, 1, 12, 13, 24] (.cond (.t 24) (.seq (.reg [⟨(some 4), none, .mv (.c (.bool false))⟩]) .ret) .skip))))))
  (.keep [0, 1, 12, 13] (.reg [⟨(some 25), none, .bin .add (.t 13) (.c (.int .i64 (1)))⟩, ⟨(some 13), none, .mv (.t 25)⟩]))))))) [0, 1, 12, 13]
def A.slices_Equal_int : AFn := ⟨26, [(4, none)], (.seq (.reg [⟨(some 4), none, .mv (.c (.bool false))⟩])
  (.keep [0, 1] (.seq (.seq (.reg [⟨(some 6), none, .mv (.t 0)⟩, ⟨(some 7), none, .len false (.t 6)⟩, ⟨(some 8), none, .mv (.t 1)⟩, ⟨(some 9), none, .len false (.t 8)⟩, ⟨(some 10), none, .bin .neq (.t 7) (.t 9)⟩])
  (.keep [0, 1, 10] (.cond (.t 10) (.seq (.reg [⟨(some 4), none, .mv (.c (.bool false))⟩]) .ret) .skip)))
  (.keep [0, 1] (.seq (.seq (.reg [⟨(some 11), none, .mv (.t 0)⟩, ⟨(some 12), none, .len false (.t 11)⟩, ⟨(some 13), none, .mv (.c (.int .i64 (0)))⟩])
  (.keep [0, 1, 12, 13] (.block 0 (.loop A.slices_Equal_int.L0))))
  (.keep [] (.seq (.reg [⟨(some 4), none, .mv (.c (.bool true))⟩]) .ret)))))))⟩
def A.slices_Equal_Edit.L0 : AC := .post (.seq (.reg [⟨(some 14), none, .bin .lss (.t 13) (.t 12)⟩])
  (.keep [0, 1, 12, 13, 14] (.seq (.cond (.t 14) .skip (.exit 0))
  (.keep [0, 1, 12, 13] (.seq (.block 1 (.seq (.reg [⟨(some 15), none, .mv (.t 13)⟩, ⟨(some 5), none, .mv (.t 15)⟩])
  (.keep [0, 1, 5, 12, 13] (.seq (.draw [(.pl, ⟨(some 16), none, .mv (.t 0)⟩), (.pl, ⟨(some 17), none, .mv (.t 5)⟩), (.pl, ⟨(some 18), none, .ia 3 (.t 16) (.t 17)⟩), (.pl, ⟨(some 19), none, .load true 3 (.t 18)⟩), (.pl, ⟨(some 20), none, .mv (.t 1)⟩), (.pl, ⟨(some 21), none, .mv (.t 5)⟩), (.pl, ⟨(some 22), none, .ia 3 (.t 20) (.t 21)⟩), (.pl, ⟨(some 23), none, .load true 3 (.t 22)⟩), (.pl, ⟨(some 24), none, .eqs true [(.i, 0), (.b, 1), (.i, 2)] (.t 19) (.t 23)⟩)])
  (.keep [0, 1, 12, 13, 24] (.cond (.t 24) (.seq (.reg [⟨(some 4), none, .mv (.c (.bool false))⟩]) .ret) .skip))))))
  (.keep [0, 1, 12, 13] (.reg [⟨(some 25), none, .bin .add (.t 13) (.c (.int .i64 (1)))⟩, ⟨(some 13), none, .mv (.t 25)⟩]))))))) [0, 1, 12, 13]
def A.slices_Equal_Edit : AFn := ⟨26, [(4, none)], (.seq (.reg [⟨(some 4), none, .mv (.c (.bool false))⟩])
  (.keep [0, 1] (.seq (.seq (.reg [⟨(some 6), none, .mv (.t 0)⟩, ⟨(some 7), none, .len false (.t 6)⟩, ⟨(some 8), none, .mv (.t 1)⟩, ⟨(some 9), none, .len false (.t 8)⟩, ⟨(some 10), none, .bin .neq (.t 7) (.t 9)⟩])
  (.keep [0, 1, 10] (.cond (.t 10) (.seq (.reg [⟨(some 4), none, .mv (.c (.bool false))⟩]) .ret) .skip)))
  (.keep [0, 1] (.seq (.seq (.reg [⟨(some 11), none, .mv (.t 0)⟩, ⟨(some 12), none, .len false (.t 11)⟩, ⟨(some 13), none, .mv (.c (.int .i64 (0)))⟩])
  (.keep [0, 1, 12, 13] (.block 0 (.loop A.slices_Equal_Edit.L0))))
  (.keep [] (.seq (.reg [⟨(some 4), none, .mv (.c (.bool true))⟩]) .ret)))))))⟩
def A.slices_EqualFunc_Item.L0 : AC := .post (.seq (.reg [⟨(some 18), none, .bin .lss (.t 17) (.t 16)⟩])
  (.keep [1, 2, 15, 16, 17, 18] (.seq (.cond (.t 18) .skip (.exit 0))
  (.keep [1, 2, 15, 16, 17] (.seq (.block 1 (.seq (.reg [⟨(some 19), none, .mv (.t 17)⟩, ⟨(some 20), none, .ia 1 (.t 15) (.t 17)⟩, ⟨(some 21), none, .load false 1 (.t 20)⟩, ⟨(some 7), none, .mv (.t 19)⟩, ⟨(some 8), none, .mv (.t 21)⟩])
  (.keep [1, 2, 7, 8, 15, 16, 17] (.seq (.reg [⟨(some 22), none, .mv (.t 1)⟩, ⟨(some 23), none, .mv (.t 7)⟩, ⟨(some 24), none, .ia 1 (.t 22) (.t 23)⟩, ⟨(some 25), none, .load false 1 (.t 24)⟩, ⟨(some 9), none, .mv (.t 25)⟩])
  (.keep [1, 2, 8, 9, 15, 16, 17] (.seq (.reg [⟨(some 26), none, .mv (.t 2)⟩, ⟨(some 27), none, .mv (.t 8)⟩, ⟨(some 28), none, .mv (.t 9)⟩, ⟨(some 29), none, .call (.t 26) [(.t 27), (.t 28)]⟩, ⟨(some 30), none, .un .not (.t 29)⟩])
  (.keep [1, 2, 15, 16, 17, 30] (.cond (.t 30) (.seq (.reg [⟨(some 6), none, .mv (.c (.bool false))⟩]) .ret) .skip))))))))
  (.keep [1, 2, 15, 16, 17] (.reg [⟨(some 31), none, .bin .add (.t 17) (.c (.int .i64 (1)))⟩, ⟨(some 17), none, .mv (.t 31)⟩]))))))) [1, 2, 15, 16, 17]
def A.slices_EqualFunc_Item : AFn := ⟨32, [(6, none)], (.seq (.reg [⟨(some 6), none, .mv (.c (.bool false))⟩])
  (.keep [0, 1, 2] (.seq (.seq (.reg [⟨(some 10), none, .mv (.t 0)⟩, ⟨(some 11), none, .len false (.t 10)⟩, ⟨(some 12), none, .mv (.t 1)⟩, ⟨(some 13), none, .len false (.t 12)⟩, ⟨(some 14), none, .bin .neq (.t 11) (.t 13)⟩])
  (.keep [0, 1, 2, 14] (.cond (.t 14) (.seq (.reg [⟨(some 6), none, .mv (.c (.bool false))⟩]) .ret) .skip)))
  (.keep [0, 1, 2] (.seq (.seq (.reg [⟨(some 15), none, .mv (.t 0)⟩, ⟨(some 16), none, .len false (.t 15)⟩, ⟨(some 17), none, .mv (.c (.int .i64 (0)))⟩])
  (.keep [1, 2, 15, 16, 17] (.block 0 (.loop A.slices_EqualFunc_Item.L0))))
  (.keep [] (.seq (.reg [⟨(some 6), none, .mv (.c (.bool true))⟩]) .ret)))))))⟩
def A.slices_Equal_Item.L0 : AC := .post (.seq (.reg [⟨(some 14), none, .bin .lss (.t 13) (.t 12)⟩])
  (.keep [0, 1, 12, 13, 14] (.seq (.cond (.t 14) .skip (.exit 0))
  (.keep [0, 1, 12, 13] (.seq (.block 1 (.seq (.reg [⟨(some 15), none, .mv (.t 13)⟩, ⟨(some 5), none, .mv (.t 15)⟩])
  (.keep [0, 1, 5, 12, 13] (.seq (.draw [(.pl, ⟨(some 16), none, .mv (.t 0)⟩), (.pl, ⟨(some 17), none, .mv (.t 5)⟩), (.pl, ⟨(some 18), none, .ia 3 (.t 16) (.t 17)⟩), (.pl, ⟨(some 19), none, .load true 3 (.t 18)⟩), (.pl, ⟨(some 20), none, .mv (.t 1)⟩), (.pl, ⟨(some 21), none, .mv (.t 5)⟩), (.pl, ⟨(some 22), none, .ia 3 (.t 20) (.t 21)⟩), (.pl, ⟨(some 23), none, .load true 3 (.t 22)⟩), (.pl, ⟨(some 24), none, .eqs true [(.i, 0), (.i, 1), (.i, 2)] (.t 19) (.t 23)⟩)])
  (.keep [0, 1, 12, 13, 24] (.cond (.t 24) (.seq (.reg [⟨(some 4), none, .mv (.c (.bool false))⟩]) .ret) .skip))))))
  (.keep [0, 1, 12, 13] (.reg [⟨(some 25), none, .bin .add (.t 13) (.c (.int .i64 (1)))⟩, ⟨(some 13), none, .mv (.t 25)⟩]))))))) [0, 1, 12, 13]
def A.slices_Equal_Item : AFn := ⟨26, [(4, none)], (.seq (.reg [⟨(some 4), none, .mv (.c (.bool false))⟩])
  (.keep [0, 1] (.seq (.seq (.reg [⟨(some 6), none, .mv (.t 0)⟩, ⟨(some 7), none, .len false (.t 6)⟩, ⟨(some 8), none, .mv (.t 1)⟩, ⟨(some 9), none, .len false (.t 8)⟩, ⟨(some 10), none, .bin .neq (.t 7) (.t 9)⟩])
  (.keep [0, 1, 10] (.cond (.t 10) (.seq (.reg [⟨(some 4), none, .mv (.c (.bool false))⟩]) .ret) .skip)))
  (.keep [0, 1] (.seq (.seq (.reg [⟨(some 11), none, .mv (.t 0)⟩, ⟨(some 12), none, .len false (.t 11)⟩, ⟨(some 13), none, .mv (.c (.int .i64 (0)))⟩])
  (.keep [0, 1, 12, 13] (.block 0 (.loop A.slices_Equal_Item.L0))))
  (.keep [] (.seq (.reg [⟨(some 4), none, .mv (.c (.bool true))⟩]) .ret)))))))⟩
def A.slices_EqualFunc_int.L0 : AC := .post (.seq (.reg [⟨(some 18), none, .bin .lss (.t 17) (.t 16)⟩])
  (.keep [1, 2, 15, 16, 17, 18] (.seq (.cond (.t 18) .skip (.exit 0))
  (.keep [1, 2, 15, 16, 17] (.seq (.block 1 (.seq (.reg [⟨(some 19), none, .mv (.t 17)⟩, ⟨(some 20), none, .ia 1 (.t 15) (.t 17)⟩, ⟨(some 21), none, .load false 1 (.t 20)⟩, ⟨(some 7), none, .mv (.t 19)⟩, ⟨(some 8), none, .mv (.t 21)⟩])
  (.keep [1, 2, 7, 8, 15, 16, 17] (.seq (.reg [⟨(some 22), none, .mv (.t 1)⟩, ⟨(some 23), none, .mv (.t 7)⟩, ⟨(some 24), none, .ia 1 (.t 22) (.t 23)⟩, ⟨(some 25), none, .load false 1 (.t 24)⟩, ⟨(some 9), none, .mv (.t 25)⟩])
  (.keep [1, 2, 8, 9, 15, 16, 17] (.seq (.reg [⟨(some 26), none, .mv (.t 2)⟩, ⟨(some 27), none, .mv (.t 8)⟩, ⟨(some 28), none, .mv (.t 9)⟩, ⟨(some 29), none, .call (.t 26) [(.t 27), (.t 28)]⟩, ⟨(some 30), none, .un .not (.t 29)⟩])
  (.keep [1, 2, 15, 16, 17, 30] (.cond (.t 30) (.seq (.reg [⟨(some 6), none, .mv (.c (.bool false))⟩]) .ret) .skip))))))))
  (.keep [1, 2, 15, 16, 17] (.reg [⟨(some 31), none, .bin .add (.t 17) (.c (.int .i64 (1)))⟩, ⟨(some 17), none, .mv (.t 31)⟩]))))))) [1, 2, 15, 16, 17]
def A.slices_EqualFunc_int : AFn := ⟨32, [(6, none)], (.seq (.reg [⟨(some 6), none, .mv (.c (.bool false))⟩])
  (.keep [0, 1, 2] (.seq (.seq (.reg [⟨(some 10), none, .mv (.t 0)⟩, ⟨(some 11), none, .len false (.t 10)⟩, ⟨(some 12), none, .mv (.t 1)⟩, ⟨(some 13), none, .len false (.t 12)⟩, ⟨(some 14), none, .bin .neq (.t 11) (.t 13)⟩])
  (.keep [0, 1, 2, 14] (.cond (.t 14) (.seq (.reg [⟨(some 6), none, .mv (.c (.bool false))⟩]) .ret) .skip)))
  (.keep [0, 1, 2] (.seq (.seq (.reg [⟨(some 15), none, .mv (.t 0)⟩, ⟨(some 16), none, .len false (.t 15)⟩, ⟨(some 17), none, .mv (.c (.int .i64 (0)))⟩])
  (.keep [1, 2, 15, 16, 17] (.block 0 (.loop A.slices_EqualFunc_int.L0))))
  (.keep [] (.seq (.reg [⟨(some 6), none, .mv (.c (.bool true))⟩]) .ret)))))))⟩
def A.slices_ContainsFunc_Rule : AFn := ⟨9, [(4, none)], (.seq (.reg [⟨(some 4), none, .mv (.c (.bool false))⟩])
  (.keep [0, 1] (.seq (.reg [⟨(some 5), none, .mv (.t 0)⟩, ⟨(some 6), none, .mv (.t 1)⟩, ⟨(some 7), none, .call (.c (.fn K.slices_IndexFunc_Rule [] [])) [(.t 5), (.t 6)]⟩, ⟨(some 8), none, .bin .geq (.t 7) (.c (.int .i64 (0)))⟩, ⟨(some 4), none, .mv (.t 8)⟩]) .ret)))⟩
def A.slices_Equal_Rule.L0 : AC := .post (.seq (.reg [⟨(some 14), none, .bin .lss (.t 13) (.t 12)⟩])
  (.keep [0, 1, 12, 13, 14] (.seq (.cond (.t 14) .skip (.exit 0))
  (.keep [0, 1, 12, 13] (.seq (.block 1 (.seq (.reg [⟨(some 15), none, .mv (.t 13)⟩, ⟨(some 5), none, .mv (.t 15)⟩])
  (.keep [0, 1, 5, 12, 13] (.seq (.draw [(.pl, ⟨(some 16), none, .mv (.t 0)⟩), (.pl, ⟨(some 17), none, .mv (.t 5)⟩), (.pl, ⟨(some 18), none, .ia 2 (.t 16) (.t 17)⟩), (.pl, ⟨(some 19), none, .load true 2 (.t 18)⟩), (.pl, ⟨(some 20), none, .mv (.t 1)⟩), (.pl, ⟨(some 21), none, .mv (.t 5)⟩), (.pl, ⟨(some 22), none, .ia 2 (.t 20) (.t 21)⟩), (.pl, ⟨(some 23), none, .load true 2 (.t 22)⟩), (.pl, ⟨(some 24), none, .eqs true [(.s, 0), (.i, 1)] (.t 19) (.t 23)⟩)])
  (.keep [0, 1, 12, 13, 24] (.cond (.t 24) (.seq (.reg [⟨(some 4), none, .mv (.c (.bool false))⟩]) .ret) .skip))))))
  (.keep [0, 1, 12, 13] (.reg [⟨(some 25), none, .bin .add (.t 13) (.c (.int .i64 (1)))⟩, ⟨(some 13), none, .mv (.t 25)⟩]))))))) [0, 1, 12, 13]
def A.slices_Equal_Rule : AFn := ⟨26, [(4, none)], (.seq (.reg [⟨(some 4), none, .mv (.c (.bool false))⟩])
  (.keep [0, 1] (.seq (.seq (.reg [⟨(some 6), none, .mv (.t 0)⟩, ⟨(some 7), none, .len false (.t 6)⟩, ⟨(some 8), none, .mv (.t 1)⟩, ⟨(some 9), none, .len false (.t 8)⟩, ⟨(some 10), none, .bin .neq (.t 7) (.t 9)⟩])
  (.keep [0, 1, 10] (.cond (.t 10) (.seq (.reg [⟨(some 4), none, .mv (.c (.bool false))⟩]) .ret) .skip)))
  (.keep [0, 1] (.seq (.seq (.reg [⟨(some 11), none, .mv (.t 0)⟩, ⟨(some 12), none, .len false (.t 11)⟩, ⟨(some 13), none, .mv (.c (.int .i64 (0)))⟩])
  (.keep [0, 1, 12, 13] (.block 0 (.loop A.slices_Equal_Rule.L0))))
  (.keep [] (.seq (.reg [⟨(some 4), none, .mv (.c (.bool true))⟩]) .ret)))))))⟩
def A.slices_EqualFunc_Node.L0 : AC := .post (.seq (.reg [⟨(some 18), none, .bin .lss (.t 17) (.t 16)⟩])
  (.keep [1, 2, 15, 16, 17, 18] (.seq (.cond (.t 18) .skip (.exit 0))
  (.keep [1, 2, 15, 16, 17] (.seq (.block 1 (.seq (.reg [⟨(some 19), none, .mv (.t 17)⟩, ⟨(some 20), none, .ia 3 (.t 15) (.t 17)⟩, ⟨(some 21), none, .load true 3 (.t 20)⟩, ⟨(some 8), none, .alloc [(.int .i64 (0)), (.str []), (.sl 0 1 [])]⟩, ⟨(some 7), none, .mv (.t 19)⟩, ⟨none, none, .store 3 (.t 8) (.t 21)⟩])
  (.keep [1, 2, 7, 8, 15, 16, 17] (.seq (.reg [⟨(some 22), none, .mv (.t 1)⟩, ⟨(some 23), none, .mv (.t 7)⟩, ⟨(some 24), none, .ia 3 (.t 22) (.t 23)⟩, ⟨(some 25), none, .load true 3 (.t 24)⟩, ⟨(some 9), none, .alloc [(.int .i64 (0)), (.str []), (.sl 0 1 [])]⟩, ⟨none, none, .store 3 (.t 9) (.t 25)⟩])
  (.keep [1, 2, 8, 9, 15, 16, 17] (.seq (.reg [⟨(some 26), none, .mv (.t 2)⟩, ⟨(some 27), none, .load true 3 (.t 8)⟩, ⟨(some 28), none, .load true 3 (.t 9)⟩, ⟨(some 29), none, .call (.t 26) [(.t 27), (.t 28)]⟩, ⟨(some 30), none, .un .not (.t 29)⟩])
  (.keep [1, 2, 15, 16, 17, 30] (.cond (.t 30) (.seq (.reg [⟨(some 6), none, .mv (.c (.bool false))⟩]) .ret) .skip))))))))
  (.keep [1, 2, 15, 16, 17] (.reg [⟨(some 31), none, .bin .add (.t 17) (.c (.int .i64 (1)))⟩, ⟨(some 17), none, .mv (.t 31)⟩]))))))) [1, 2, 15, 16, 17]
def A.slices_EqualFunc_Node : AFn := ⟨32, [(6, none)], (.seq (.reg [⟨(some 6), none, .mv (.c (.bool false))⟩])
  (.keep [0, 1, 2] (.seq (.seq (.reg [⟨(some 10), none, .mv (.t 0)⟩, ⟨(some 11), none, .len false (.t 10)⟩, ⟨(some 12), none, .mv (.t 1)⟩, ⟨(some 13), none, .len false (.t 12)⟩, ⟨(some 14), none, .bin .neq (.t 11) (.t 13)⟩])
  (.keep [0, 1, 2, 14] (.cond (.t 14) (.seq (.reg [⟨(some 6), none, .mv (.c (.bool false))⟩]) .ret) .skip)))
  (.keep [0, 1, 2] (.seq (.seq (.reg [⟨(some 15), none, .mv (.t 0)⟩, ⟨(some 16), none, .len false (.t 15)⟩, ⟨(some 17), none, .mv (.c (.int .i64 (0)))⟩])
  (.keep [1, 2, 15, 16, 17] (.block 0 (.loop A.slices_EqualFunc_Node.L0))))
  (.keep [] (.seq (.reg [⟨(some 6), none, .mv (.c (.bool true))⟩]) .ret)))))))⟩
def A.slices_IndexFunc_Node.L0 : AC := .post (.seq (.reg [⟨(some 9), none, .bin .lss (.t 8) (.t 7)⟩])
  (.keep [0, 1, 7, 8, 9] (.seq (.cond (.t 9) .skip (.exit 0))
  (.keep [0, 1, 7, 8] (.seq (.block 1 (.seq (.reg [⟨(some 10), none, .mv (.t 8)⟩, ⟨(some 5), none, .mv (.t 10)⟩])
  (.keep [0, 1, 5, 7, 8] (.seq (.reg [⟨(some 11), none, .mv (.t 1)⟩, ⟨(some 12), none, .mv (.t 0)⟩, ⟨(some 13), none, .mv (.t 5)⟩, ⟨(some 14), none, .ia 2 (.t 12) (.t 13)⟩, ⟨(some 15), none, .load true 2 (.t 14)⟩, ⟨(some 16), none, .call (.t 11) [(.t 15)]⟩])
  (.keep [0, 1, 5, 7, 8, 16] (.cond (.t 16) (.seq (.reg [⟨(some 17), none, .mv (.t 5)⟩, ⟨(some 4), none, .mv (.t 17)⟩]) .ret) .skip))))))
  (.keep [0, 1, 7, 8] (.reg [⟨(some 18), none, .bin .add (.t 8) (.c (.int .i64 (1)))⟩, ⟨(some 8), none, .mv (.t 18)⟩]))))))) [0, 1, 7, 8]
def A.slices_IndexFunc_Node : AFn := ⟨19, [(4, none)], (.seq (.reg [⟨(some 4), none, .mv (.c (.int .i64 (0)))⟩])
  (.keep [0, 1] (.seq (.seq (.reg [⟨(some 6), none, .mv (.t 0)⟩, ⟨(some 7), none, .len false (.t 6)⟩, ⟨(some 8), none, .mv (.c (.int .i64 (0)))⟩])
  (.keep [0, 1, 7, 8] (.block 0 (.loop A.slices_IndexFunc_Node.L0))))
  (.keep [] (.seq (.reg [⟨(some 4), none, .mv (.c (.int .i64 (-1)))⟩]) .ret)))))⟩
def A.slices_IndexFunc_Edit.L0 : AC := .post (.seq (.reg [⟨(some 9), none, .bin .lss (.t 8) (.t 7)⟩])
  (.keep [0, 1, 7, 8, 9] (.seq (.cond (.t 9) .skip (.exit 0))
  (.keep [0, 1, 7, 8] (.seq (.block 1 (.seq (.reg [⟨(some 10), none, .mv (.t 8)⟩, ⟨(some 5), none, .mv (.t 10)⟩])
  (.keep [0, 1, 5, 7, 8] (.seq (.reg [⟨(some 11), none, .mv (.t 1)⟩, ⟨(some 12), none, .mv (.t 0)⟩, ⟨(some 13), none, .mv (.t 5)⟩, ⟨(some 14), none, .ia 3 (.t 12) (.t 13)⟩, ⟨(some 15), none, .load true 3 (.t 14)⟩, ⟨(some 16), none, .call (.t 11) [(.t 15)]⟩])
  (.keep [0, 1, 5, 7, 8, 16] (.cond (.t 16) (.seq (.reg [⟨(some 17), none, .mv (.t 5)⟩, ⟨(some 4), none, .mv (.t 17)⟩]) .ret) .skip))))))
  (.keep [0, 1, 7, 8] (.reg [⟨(some 18), none, .bin .add (.t 8) (.c (.int .i64 (1)))⟩, ⟨(some 8), none, .mv (.t 18)⟩]))))))) [0, 1, 7, 8]
def A.slices_IndexFunc_Edit : AFn := ⟨19, [(4, none)], (.seq (.reg [⟨(some 4), none, .mv (.c (.int .i64 (0)))⟩])
  (.keep [0, 1] (.seq (.seq (.reg [⟨(some 6), none, .mv (.t 0)⟩, ⟨(some 7), none, .len false (.t 6)⟩, ⟨(some 8), none, .mv (.c (.int .i64 (0)))⟩])
  (.keep [0, 1, 7, 8] (.block 0 (.loop A.slices_IndexFunc_Edit.L0))))
  (.keep [] (.seq (.reg [⟨(some 4), none, .mv (.c (.int .i64 (-1)))⟩]) .ret)))))⟩
def A.slices_IndexFunc_Item.L0 : AC := .post (.seq (.reg [⟨(some 9), none, .bin .lss (.t 8) (.t 7)⟩])
  (.keep [0, 1, 7, 8, 9] (.seq (.cond (.t 9) .skip (.exit 0))
  (.keep [0, 1, 7, 8] (.seq (.block 1 (.seq (.reg [⟨(some 10), none, .mv (.t 8)⟩, ⟨(some 5), none, .mv (.t 10)⟩])
  (.keep [0, 1, 5, 7, 8] (.seq (.reg [⟨(some 11), none, .mv (.t 1)⟩, ⟨(some 12), none, .mv (.t 0)⟩, ⟨(some 13), none, .mv (.t 5)⟩, ⟨(some 14), none, .ia 3 (.t 12) (.t 13)⟩, ⟨(some 15), none, .load true 3 (.t 14)⟩, ⟨(some 16), none, .call (.t 11) [(.t 15)]⟩])
  (.keep [0, 1, 5, 7, 8, 16] (.cond (.t 16) (.seq (.reg [⟨(some 17), none, .mv (.t 5)⟩, ⟨(some 4), none, .mv (.t 17)⟩]) .ret) .skip))))))
  (.keep [0, 1, 7, 8] (.reg [⟨(some 18), none, .bin .add (.t 8) (.c (.int .i64 (1)))⟩, ⟨(some 8), none, .mv (.t 18)⟩]))))))) [0, 1, 7, 8]
def A.slices_IndexFunc_Item : AFn := ⟨19, [(4, none)], (.seq (.reg [⟨(some 4), none, .mv (.c (.int .i64 (0)))⟩])
  (.keep [0, 1] (.seq (.seq (.reg [⟨(some 6), none, .mv (.t 0)⟩, ⟨(some 7), none, .len false (.t 6)⟩, ⟨(some 8), none, .mv (.c (.int .i64 (0)))⟩])
  (.keep [0, 1, 7, 8] (.block 0 (.loop A.slices_IndexFunc_Item.L0))))
  (.keep [] (.seq (.reg [⟨(some 4), none, .mv (.c (.int .i64 (-1)))⟩]) .ret)))))⟩
def A.slices_IndexFunc_Item_2.L0 : AC := .post (.seq (.reg [⟨(some 9), none, .bin .lss (.t 8) (.t 7)⟩])
  (.keep [0, 1, 7, 8, 9] (.seq (.cond (.t 9) .skip (.exit 0))
  (.keep [0, 1, 7, 8] (.seq (.block 1 (.seq (.reg [⟨(some 10), none, .mv (.t 8)⟩, ⟨(some 5), none, .mv (.t 10)⟩])
  (.keep [0, 1, 5, 7, 8] (.seq (.reg [⟨(some 11), none, .mv (.t 1)⟩, ⟨(some 12), none, .mv (.t 0)⟩, ⟨(some 13), none, .mv (.t 5)⟩, ⟨(some 14), none, .ia 1 (.t 12) (.t 13)⟩, ⟨(some 15), none, .load false 1 (.t 14)⟩, ⟨(some 16), none, .call (.t 11) [(.t 15)]⟩])
  (.keep [0, 1, 5, 7, 8, 16] (.cond (.t 16) (.seq (.reg [⟨(some 17), none, .mv (.t 5)⟩, ⟨(some 4), none, .mv (.t 17)⟩]) .ret) .skip))))))
  (.keep [0, 1, 7, 8] (.reg [⟨(some 18), none, .bin .add (.t 8) (.c (.int .i64 (1)))⟩, ⟨(some 8), none, .mv (.t 18)⟩]))))))) [0, 1, 7, 8]
def A.slices_IndexFunc_Item_2 : AFn := ⟨19, [(4, none)], (.seq (.reg [⟨(some 4), none, .mv (.c (.int .i64 (0)))⟩])
  (.keep [0, 1] (.seq (.seq (.reg [⟨(some 6), none, .mv (.t 0)⟩, ⟨(some 7), none, .len false (.t 6)⟩, ⟨(some 8), none, .mv (.c (.int .i64 (0)))⟩])
  (.keep [0, 1, 7, 8] (.block 0 (.loop A.slices_IndexFunc_Item_2.L0))))
  (.keep [] (.seq (.reg [⟨(some 4), none, .mv (.c (.int .i64 (-1)))⟩]) .ret)))))⟩
def A.slices_IndexFunc_int.L0 : AC := .post (.seq (.reg [⟨(some 9), none, .bin .lss (.t 8) (.t 7)⟩])
  (.keep [0, 1, 7, 8, 9] (.seq (.cond (.t 9) .skip (.exit 0))
  (.keep [0, 1, 7, 8] (.seq (.block 1 (.seq (.reg [⟨(some 10), none, .mv (.t 8)⟩, ⟨(some 5), none, .mv (.t 10)⟩])
  (.keep [0, 1, 5, 7, 8] (.seq (.reg [⟨(some 11), none, .mv (.t 1)⟩, ⟨(some 12), none, .mv (.t 0)⟩, ⟨(some 13), none, .mv (.t 5)⟩, ⟨(some 14), none, .ia 1 (.t 12) (.t 13)⟩, ⟨(some 15), none, .load false 1 (.t 14)⟩, ⟨(some 16), none, .call (.t 11) [(.t 15)]⟩])
  (.keep [0, 1, 5, 7, 8, 16] (.cond (.t 16) (.seq (.reg [⟨(some 17), none, .mv (.t 5)⟩, ⟨(some 4), none, .mv (.t 17)⟩]) .ret) .skip))))))
  (.keep [0, 1, 7, 8] (.reg [⟨(some 18), none, .bin .add (.t 8) (.c (.int .i64 (1)))⟩, ⟨(some 8), none, .mv (.t 18)⟩]))))))) [0, 1, 7, 8]
def A.slices_IndexFunc_int : AFn := ⟨19, [(4, none)], (.seq (.reg [⟨(some 4), none, .mv (.c (.int .i64 (0)))⟩])
  (.keep [0, 1] (.seq (.seq (.reg [⟨(some 6), none, .mv (.t 0)⟩, ⟨(some 7), none, .len false (.t 6)⟩, ⟨(some 8), none, .mv (.c (.int .i64 (0)))⟩])
  (.keep [0, 1, 7, 8] (.block 0 (.loop A.slices_IndexFunc_int.L0))))
  (.keep [] (.seq (.reg [⟨(some 4), none, .mv (.c (.int .i64 (-1)))⟩]) .ret)))))⟩
def A.slices_IndexFunc_Rule.L0 : AC := .post (.seq (.reg [⟨(some 9), none, .bin .lss (.t 8) (.t 7)⟩])
  (.keep [0, 1, 7, 8, 9] (.seq (.cond (.t 9) .skip (.exit 0))
  (.keep [0, 1, 7, 8] (.seq (.block 1 (.seq (.reg [⟨(some 10), none, .mv (.t 8)⟩, ⟨(some 5), none, .mv (.t 10)⟩])
  (.keep [0, 1, 5, 7, 8] (.seq (.reg [⟨(some 11), none, .mv (.t 1)⟩, ⟨(some 12), none, .mv (.t 0)⟩, ⟨(some 13), none, .mv (.t 5)⟩, ⟨(some 14), none, .ia 2 (.t 12) (.t 13)⟩, ⟨(some 15), none, .load true 2 (.t 14)⟩, ⟨(some 16), none, .call (.t 11) [(.t 15)]⟩])
  (.keep [0, 1, 5, 7, 8, 16] (.cond (.t 16) (.seq (.reg [⟨(some 17), none, .mv (.t 5)⟩, ⟨(some 4), none, .mv (.t 17)⟩]) .ret) .skip))))))
  (.keep [0, 1, 7, 8] (.reg [⟨(some 18), none, .bin .add (.t 8) (.c (.int .i64 (1)))⟩, ⟨(some 8), none, .mv (.t 18)⟩]))))))) [0, 1, 7, 8]
def A.slices_IndexFunc_Rule : AFn := ⟨19, [(4, none)], (.seq (.reg [⟨(some 4), none, .mv (.c (.int .i64 (0)))⟩])
  (.keep [0, 1] (.seq (.seq (.reg [⟨(some 6), none, .mv (.t 0)⟩, ⟨(some 7), none, .len false (.t 6)⟩, ⟨(some 8), none, .mv (.c (.int .i64 (0)))⟩])
  (.keep [0, 1, 7, 8] (.block 0 (.loop A.slices_IndexFunc_Rule.L0))))
  (.keep [] (.seq (.reg [⟨(some 4), none, .mv (.c (.int .i64 (-1)))⟩]) .ret)))))⟩
def A.slices_Contains_byte : AFn := ⟨9, [(4, none)], (.seq (.reg [⟨(some 4), none, .mv (.c (.bool false))⟩])
  (.keep [0, 1] (.seq (.reg [⟨(some 5), none, .mv (.t 0)⟩, ⟨(some 6), none, .mv (.t 1)⟩, ⟨(some 7), none, .call (.c (.fn K.slices_Index_byte [] [])) [(.t 5), (.t 6)]⟩, ⟨(some 8), none, .bin .geq (.t 7) (.c (.int .i64 (0)))⟩, ⟨(some 4), none, .mv (.t 8)⟩]) .ret)))⟩
def A.slices_IndexFunc_int_2.L0 : AC := .post (.seq (.reg [⟨(some 9), none, .bin .lss (.t 8) (.t 7)⟩])
  (.keep [0, 1, 7, 8, 9] (.seq (.cond (.t 9) .skip (.exit 0))
  (.keep [0, 1, 7, 8] (.seq (.block 1 (.seq (.reg [⟨(some 10), none, .mv (.t 8)⟩, ⟨(some 5), none, .mv (.t 10)⟩])
  (.keep [0, 1, 5, 7, 8] (.seq (.reg [⟨(some 11), none, .mv (.t 1)⟩, ⟨(some 12), none, .mv (.t 0)⟩, ⟨(some 13), none, .mv (.t 5)⟩, ⟨(some 14), none, .ia 1 (.t 12) (.t 13)⟩, ⟨(some 15), none, .load false 1 (.t 14)⟩, ⟨(some 16), none, .call (.t 11) [(.t 15)]⟩])
  (.keep [0, 1, 5, 7, 8, 16] (.cond (.t 16) (.seq (.reg [⟨(some 17), none, .mv (.t 5)⟩, ⟨(some 4), none, .mv (.t 17)⟩]) .ret) .skip))))))
  (.keep [0, 1, 7, 8] (.reg [⟨(some 18), none, .bin .add (.t 8) (.c (.int .i64 (1)))⟩, ⟨(some 8), none, .mv (.t 18)⟩]))))))) [0, 1, 7, 8]
def A.slices_IndexFunc_int_2 : AFn := ⟨19, [(4, none)], (.seq (.reg [⟨(some 4), none, .mv (.c (.int .i64 (0)))⟩])
  (.keep [0, 1] (.seq (.seq (.reg [⟨(some 6), none, .mv (.t 0)⟩, ⟨(some 7), none, .len false (.t 6)⟩, ⟨(some 8), none, .mv (.c (.int .i64 (0)))⟩])
  (.keep [0, 1, 7, 8] (.block 0 (.loop A.slices_IndexFunc_int_2.L0))))
  (.keep [] (.seq (.reg [⟨(some 4), none, .mv (.c (.int .i64 (-1)))⟩]) .ret)))))⟩
def A.slices_Index_byte.L0 : AC := .post (.seq (.reg [⟨(some 9), none, .bin .lss (.t 8) (.t 7)⟩])
  (.keep [0, 1, 7, 8, 9] (.seq (.cond (.t 9) .skip (.exit 0))
  (.keep [0, 1, 7, 8] (.seq (.block 1 (.seq (.reg [⟨(some 10), none, .mv (.t 8)⟩, ⟨(some 5), none, .mv (.t 10)⟩])
  (.keep [0, 1, 5, 7, 8] (.seq (.reg [⟨(some 11), none, .mv (.t 1)⟩, ⟨(some 12), none, .mv (.t 0)⟩, ⟨(some 13), none, .mv (.t 5)⟩, ⟨(some 14), none, .ia 1 (.t 12) (.t 13)⟩, ⟨(some 15), none, .load false 1 (.t 14)⟩, ⟨(some 16), none, .bin .eql (.t 11) (.t 15)⟩])
  (.keep [0, 1, 5, 7, 8, 16] (.cond (.t 16) (.seq (.reg [⟨(some 17), none, .mv (.t 5)⟩, ⟨(some 4), none, .mv (.t 17)⟩]) .ret) .skip))))))
  (.keep [0, 1, 7, 8] (.reg [⟨(some 18), none, .bin .add (.t 8) (.c (.int .i64 (1)))⟩, ⟨(some 8), none, .mv (.t 18)⟩]))))))) [0, 1, 7, 8]
def A.slices_Index_byte : AFn := ⟨19, [(4, none)], (.seq (.reg [⟨(some 4), none, .mv (.c (.int .i64 (0)))⟩])
  (.keep [0, 1] (.seq (.seq (.reg [⟨(some 6), none, .mv (.t 0)⟩, ⟨(some 7), none, .len false (.t 6)⟩, ⟨(some 8), none, .mv (.c (.int .i64 (0)))⟩])
  (.keep [0, 1, 7, 8] (.block 0 (.loop A.slices_Index_byte.L0))))
  (.keep [] (.seq (.reg [⟨(some 4), none, .mv (.c (.int .i64 (-1)))⟩]) .ret)))))⟩
end Go.Proofs.Ytmobijebjkjnoaa.Al
namespace Go.Proofs.Ytmobijebjkjnoaa.Al
open Go Go.RowKit
set_option linter.unusedSimpArgs false
set_option linter.unusedVariables false
attribute [-simp] List.getD_eq_getElem?_getD Int.not_lt Int.not_le
/-! ### Lists -/
/-- Things are read one by one, as long as nothing is wrong. -/
def rlist {α : Type} (step : List Nat → Int → α × List Nat × Int) : Nat → List Nat → Int → List α × List Nat × Int
  | 0, l, e => ([], l, e)
  | n + 1, l, e => if e ≠ 0 then ([], l, e) else ((step l e).1 :: (rlist step n (step l e).2.1 (step l e).2.2).1, (rlist step n (step l e).2.1 (step l e).2.2).2)
section
variable {X : Cx} {h : AH} {Q : V → AH → Prop}
def i64 (n : Nat) : V := .int .i64 n
/-! ### The reference's reader -/
/-- The reader of layer 2 that the reference's is. -/
def absR (s : List Nat × Int) : List Nat × Int := (if s.2 = 0 then s.1 else [], s.2)
end
end Go.Proofs.Ytmobijebjkjnoaa.Al
namespace Go.Proofs.Ytmobijebjkjnoaa.Al
def A.scan_Scan.L0 : AC := .post (.seq (.seq (.reg [⟨(some 13), none, .mv (.t 6)⟩, ⟨(some 14), none, .mv (.t 0)⟩, ⟨(some 15), none, .len true (.t 14)⟩, ⟨(some 16), none, .bin .lss (.t 13) (.t 15)⟩])
  (.keep [0, 5, 6, 16] (.cond (.t 16) .skip (.exit 0))))
  (.keep [0, 5, 6] (.block 1 (.seq (.reg [⟨(some 18), none, .mv (.t 0)⟩, ⟨(some 19), none, .mv (.t 6)⟩, ⟨(some 20), none, .slcs (.t 18) (some (.t 19)) none⟩, ⟨(some 21), none, .call (.c (.fn K.scan_first [] [])) [(.t 20)]⟩, ⟨(some 17), none, .mv (.t 21)⟩, ⟨(some 22), none, .ext (.t 17) 0⟩, ⟨(some 23), none, .ext (.t 17) 1⟩, ⟨(some 24), none, .ext (.t 17) 2⟩, ⟨(some 7), none, .mv (.t 22)⟩, ⟨(some 8), none, .mv (.t 23)⟩, ⟨(some 9), none, .mv (.t 24)⟩])
  (.keep [0, 5, 6, 7, 8, 9] (.seq (.seq (.reg [⟨(some 25), none, .mv (.t 9)⟩, ⟨(some 26), none, .bin .eql (.t 25) (.c (.int .i64 (0)))⟩])
  (.keep [0, 5, 6, 7, 8, 9, 26] (.cond (.t 26) (.seq (.reg [⟨(some 27), none, .mv (.t 6)⟩, ⟨(some 2), none, .mv (.c (.sl 0 1 []))⟩, ⟨(some 3), none, .mv (.t 27)⟩, ⟨(some 4), none, .mv (.c (.int .i64 (2)))⟩]) .ret) .skip)))
  (.keep [0, 5, 6, 7, 8, 9] (.seq (.seq (.reg [⟨(some 28), none, .mv (.t 7)⟩, ⟨(some 29), none, .bin .gtr (.t 28) (.c (.int .i64 (0)))⟩])
  (.keep [0, 5, 6, 7, 8, 9, 29] (.cond (.t 29) (.reg [⟨(some 30), none, .mv (.t 5)⟩, ⟨(some 31), none, .mv (.t 7)⟩, ⟨(some 32), none, .mv (.t 8)⟩, ⟨(some 33), none, .mv (.t 6)⟩, ⟨(some 34), none, .bld [(.int .i64 (0)), (.str []), (.int .i64 (0))] [(0, 1, (.t 31)), (1, 1, (.t 32)), (2, 1, (.t 33))]⟩, ⟨(some 35), none, .bsl 3 true [(.int .i64 (0)), (.str []), (.int .i64 (0))] 1 [(0, (.t 34))]⟩, ⟨(some 36), none, .app 3 32 (.t 30) (.t 35)⟩, ⟨(some 5), none, .mv (.t 36)⟩]) .skip)))
  (.keep [0, 5, 6, 9] (.reg [⟨(some 37), none, .mv (.t 6)⟩, ⟨(some 38), none, .mv (.t 9)⟩, ⟨(some 39), none, .bin .add (.t 37) (.t 38)⟩, ⟨(some 6), none, .mv (.t 39)⟩])))))))))) [0, 5, 6]
def A.scan_Scan : AFn := ⟨41, [(2, none), (3, none), (4, none)], (.seq (.reg [⟨(some 2), none, .mv (.c (.sl 0 1 []))⟩, ⟨(some 3), none, .mv (.c (.int .i64 (0)))⟩, ⟨(some 4), none, .mv (.c (.int .i64 (0)))⟩])
  (.keep [0] (.seq (.seq (.reg [⟨(some 10), none, .mv (.t 0)⟩, ⟨(some 11), none, .len true (.t 10)⟩, ⟨(some 12), none, .bin .gtr (.t 11) (.c (.int .i64 (4000)))⟩])
  (.keep [0, 12] (.cond (.t 12) (.seq (.reg [⟨(some 2), none, .mv (.c (.sl 0 1 []))⟩, ⟨(some 3), none, .mv (.c (.int .i64 (0)))⟩, ⟨(some 4), none, .mv (.c (.int .i64 (5)))⟩]) .ret) .skip)))
  (.keep [0] (.seq (.reg [⟨(some 5), none, .mv (.c (.sl 0 1 []))⟩])
  (.keep [0, 5] (.seq (.seq (.reg [⟨(some 6), none, .mv (.c (.int .i64 (0)))⟩])
  (.keep [0, 5, 6] (.block 0 (.loop A.scan_Scan.L0))))
  (.keep [5] (.seq (.reg [⟨(some 40), none, .mv (.t 5)⟩, ⟨(some 2), none, .mv (.t 40)⟩, ⟨(some 3), none, .mv (.c (.int .i64 (0)))⟩, ⟨(some 4), none, .mv (.c (.int .i64 (0)))⟩]) .ret)))))))))⟩
def A.scan_first : AFn := ⟨77, [(2, none), (3, none), (4, none)], (.seq (.reg [⟨(some 2), none, .mv (.c (.int .i64 (0)))⟩, ⟨(some 3), none, .mv (.c (.str []))⟩, ⟨(some 4), none, .mv (.c (.int .i64 (0)))⟩])
  (.keep [0] (.seq (.seq (.reg [⟨(some 11), none, .mv (.t 0)⟩, ⟨(some 12), none, .ixs (.t 11) (.c (.int .i64 (0)))⟩, ⟨(some 5), none, .mv (.t 12)⟩])
  (.keep [0, 5] (.block 0 (.seq (.block 6 (.seq (.block 5 (.seq (.block 4 (.seq (.block 3 (.block 2 (.seq (.block 1 (.seq (.seq (.seq (.reg [⟨(some 14), none, .mv (.t 5)⟩, ⟨(some 15), none, .bin .eql (.t 14) (.c (.int .u8 (35)))⟩, ⟨(some 13), none, .mv (.t 15)⟩])
  (.keep [0, 5, 13] (.cond (.t 13) (.exit 1) .skip)))
  (.keep [0, 5] (.seq (.seq (.reg [⟨(some 17), none, .mv (.t 5)⟩, ⟨(some 18), none, .bin .eql (.t 17) (.c (.int .u8 (13)))⟩, ⟨(some 16), none, .mv (.t 18)⟩])
  (.keep [0, 5, 16] (.cond (.t 16) (.exit 2) .skip)))
  (.keep [0, 5] (.seq (.seq (.seq (.reg [⟨(some 20), none, .mv (.t 5)⟩, ⟨(some 21), none, .bin .eql (.t 20) (.c (.int .u8 (32)))⟩, ⟨(some 19), none, .mv (.t 21)⟩])
  (.keep [0, 5, 19] (.cond (.t 19) .skip (.seq (.reg [⟨(some 22), none, .mv (.t 5)⟩, ⟨(some 23), none, .bin .eql (.t 22) (.c (.int .u8 (9)))⟩, ⟨(some 19), none, .mv (.t 23)⟩])
  (.keep [0, 5, 19] (.cond (.t 19) .skip (.reg [⟨(some 24), none, .mv (.t 5)⟩, ⟨(some 25), none, .bin .eql (.t 24) (.c (.int .u8 (10)))⟩, ⟨(some 19), none, .mv (.t 25)⟩])))))))
  (.keep [0, 5, 19] (.cond (.t 19) (.exit 3) .skip)))
  (.keep [0, 5] (.seq (.seq (.reg [⟨(some 27), none, .mv (.t 5)⟩, ⟨(some 28), none, .call (.c (.fn K.scan_letter [] [])) [(.t 27)]⟩, ⟨(some 26), none, .mv (.t 28)⟩])
  (.keep [0, 5, 26] (.cond (.t 26) (.exit 4) .skip)))
  (.keep [0, 5] (.seq (.seq (.reg [⟨(some 30), none, .mv (.t 5)⟩, ⟨(some 31), none, .bin .eql (.t 30) (.c (.int .u8 (39)))⟩, ⟨(some 29), none, .mv (.t 31)⟩])
  (.keep [0, 5, 29] (.cond (.t 29) (.exit 5) .skip)))
  (.keep [0, 5] (.seq (.reg [⟨(some 33), none, .mv (.t 5)⟩, ⟨(some 34), none, .call (.c (.fn K.strings_IndexByte [] [])) [(.c (.str [58, 59, 124, 40, 41, 42, 43, 63])), (.t 33)]⟩, ⟨(some 35), none, .bin .geq (.t 34) (.c (.int .i64 (0)))⟩, ⟨(some 32), none, .mv (.t 35)⟩])
  (.keep [0, 32] (.cond (.t 32) (.exit 6) .skip))))))))))))) (.exit 0)))
  (.keep [0] (.seq (.seq (.reg [⟨(some 37), none, .mv (.t 0)⟩, ⟨(some 38), none, .call (.c (.fn K.strings_Cut [] [])) [(.t 37), (.c (.str [10]))]⟩, ⟨(some 36), none, .mv (.t 38)⟩, ⟨(some 39), none, .ext (.t 36) 0⟩, ⟨(some 40), none, .ext (.t 36) 1⟩, ⟨(some 41), none, .ext (.t 36) 2⟩, ⟨(some 6), none, .mv (.t 39)⟩, ⟨(some 7), none, .mv (.t 40)⟩, ⟨(some 8), none, .mv (.t 41)⟩])
  (.keep [6] (.seq (.reg [⟨(some 42), none, .mv (.t 6)⟩, ⟨(some 43), none, .len true (.t 42)⟩, ⟨(some 2), none, .mv (.c (.int .i64 (0)))⟩, ⟨(some 3), none, .mv (.c (.str []))⟩, ⟨(some 4), none, .mv (.t 43)⟩]) .ret))) (.exit 0))))))
  (.keep [] (.seq (.seq (.reg [⟨(some 2), none, .mv (.c (.int .i64 (0)))⟩, ⟨(some 3), none, .mv (.c (.str []))⟩, ⟨(some 4), none, .mv (.c (.int .i64 (1)))⟩]) .ret) (.exit 0)))))
  (.keep [0] (.seq (.seq (.reg [⟨(some 44), none, .mv (.t 0)⟩, ⟨(some 45), none, .call (.c (.fn K.scan_run [] [])) [(.t 44), (.c (.fn K.scan_part [] []))]⟩, ⟨(some 9), none, .mv (.t 45)⟩])
  (.keep [0, 9] (.seq (.draw [(.pl, ⟨(some 46), none, .mv (.t 0)⟩), (.pl, ⟨(some 47), none, .mv (.t 9)⟩), (.pl, ⟨(some 48), none, .slcs (.t 46) none (some (.t 47))⟩), (.pl, ⟨(some 49), none, .mv (.t 9)⟩), (.pl, ⟨(some 2), none, .mv (.c (.int .i64 (1)))⟩), (.pl, ⟨(some 3), none, .mv (.t 48)⟩), (.pl, ⟨(some 4), none, .mv (.t 49)⟩)]) .ret))) (.exit 0)))))
  (.keep [0] (.seq (.seq (.reg [⟨(some 50), none, .mv (.t 0)⟩, ⟨(some 51), none, .slcs (.t 50) (some (.c (.int .i64 (1)))) none⟩, ⟨(some 52), none, .call (.c (.fn K.scan_run [] [])) [(.t 51), (.c (.fn K.scan_quoted [] []))]⟩, ⟨(some 10), none, .mv (.t 52)⟩])
  (.keep [0, 10] (.seq (.seq (.reg [⟨(some 53), none, .mv (.t 10)⟩, ⟨(some 54), none, .bin .eql (.t 53) (.c (.int .i64 (0)))⟩, ⟨(some 55), none, .mv (.t 54)⟩, ⟨(some 56), (some (55, false)), .mv (.t 10)⟩, ⟨(some 57), (some (55, false)), .bin .add (.t 56) (.c (.int .i64 (1)))⟩, ⟨(some 58), (some (55, false)), .mv (.t 0)⟩, ⟨(some 59), (some (55, false)), .len true (.t 58)⟩, ⟨(some 60), (some (55, false)), .bin .eql (.t 57) (.t 59)⟩, ⟨(some 61), none, .pick (.t 55) (.c (.bool true)) (.t 60)⟩, ⟨(some 62), none, .mv (.t 61)⟩, ⟨(some 63), (some (62, false)), .mv (.t 0)⟩, ⟨(some 64), (some (62, false)), .mv (.t 10)⟩, ⟨(some 65), (some (62, false)), .bin .add (.t 64) (.c (.int .i64 (1)))⟩, ⟨(some 66), (some (62, false)), .ixs (.t 63) (.t 65)⟩, ⟨(some 67), (some (62, false)), .bin .neq (.t 66) (.c (.int .u8 (39)))⟩, ⟨(some 68), none, .pick (.t 62) (.c (.bool true)) (.t 67)⟩])
  (.keep [0, 10, 68] (.cond (.t 68) (.seq (.reg [⟨(some 2), none, .mv (.c (.int .i64 (0)))⟩, ⟨(some 3), none, .mv (.c (.str []))⟩, ⟨(some 4), none, .mv (.c (.int .i64 (0)))⟩]) .ret) .skip)))
  (.keep [0, 10] (.seq (.draw [(.pl, ⟨(some 69), none, .mv (.t 0)⟩), (.pl, ⟨(some 70), none, .mv (.t 10)⟩), (.pl, ⟨(some 71), none, .bin .add (.t 70) (.c (.int .i64 (1)))⟩), (.pl, ⟨(some 72), none, .slcs (.t 69) (some (.c (.int .i64 (1)))) (some (.t 71))⟩), (.pl, ⟨(some 73), none, .mv (.t 10)⟩), (.pl, ⟨(some 74), none, .bin .add (.t 73) (.c (.int .i64 (2)))⟩), (.pl, ⟨(some 2), none, .mv (.c (.int .i64 (2)))⟩), (.pl, ⟨(some 3), none, .mv (.t 72)⟩), (.pl, ⟨(some 4), none, .mv (.t 74)⟩)]) .ret))))) (.exit 0)))))
  (.keep [0] (.seq (.seq (.draw [(.pl, ⟨(some 75), none, .mv (.t 0)⟩), (.pl, ⟨(some 76), none, .slcs (.t 75) none (some (.c (.int .i64 (1))))⟩), (.pl, ⟨(some 2), none, .mv (.c (.int .i64 (3)))⟩), (.pl, ⟨(some 3), none, .mv (.t 76)⟩), (.pl, ⟨(some 4), none, .mv (.c (.int .i64 (1)))⟩)]) .ret) (.exit 0)))))))
  (.keep [] (.seq (.reg [⟨(some 2), none, .mv (.c (.int .i64 (0)))⟩, ⟨(some 3), none, .mv (.c (.str []))⟩, ⟨(some 4), none, .mv (.c (.int .i64 (0)))⟩]) .ret)))))⟩
def A.scan_letter : AFn := ⟨17, [(2, none)], (.seq (.reg [⟨(some 2), none, .mv (.c (.bool false))⟩])
  (.keep [0] (.seq (.reg [⟨(some 3), none, .mv (.t 0)⟩, ⟨(some 4), none, .bin .geq (.t 3) (.c (.int .u8 (97)))⟩, ⟨(some 5), none, .mv (.t 4)⟩, ⟨(some 6), (some (5, true)), .mv (.t 0)⟩, ⟨(some 7), (some (5, true)), .bin .leq (.t 6) (.c (.int .u8 (122)))⟩, ⟨(some 8), none, .pick (.t 5) (.t 7) (.c (.bool false))⟩, ⟨(some 9), none, .mv (.t 8)⟩, ⟨(some 10), (some (9, false)), .mv (.t 0)⟩, ⟨(some 11), (some (9, false)), .bin .geq (.t 10) (.c (.int .u8 (65)))⟩, ⟨(some 12), (some (9, false)), .mv (.t 11)⟩, ⟨(some 13), (some (12, true)), .mv (.t 0)⟩, ⟨(some 14), (some (12, true)), .bin .leq (.t 13) (.c (.int .u8 (90)))⟩, ⟨(some 15), (some (9, false)), .pick (.t 12) (.t 14) (.c (.bool false))⟩, ⟨(some 16), none, .pick (.t 9) (.c (.bool true)) (.t 15)⟩, ⟨(some 2), none, .mv (.t 16)⟩]) .ret)))⟩
def A.scan_run.L0 : AC := .post (.seq (.seq (.reg [⟨(some 6), none, .mv (.t 5)⟩, ⟨(some 7), none, .mv (.t 0)⟩, ⟨(some 8), none, .len true (.t 7)⟩, ⟨(some 9), none, .bin .lss (.t 6) (.t 8)⟩, ⟨(some 10), none, .mv (.t 9)⟩, ⟨(some 11), (some (10, true)), .mv (.t 1)⟩, ⟨(some 12), (some (10, true)), .mv (.t 0)⟩, ⟨(some 13), (some (10, true)), .mv (.t 5)⟩, ⟨(some 14), (some (10, true)), .ixs (.t 12) (.t 13)⟩, ⟨(some 15), (some (10, true)), .call (.t 11) [(.t 14)]⟩, ⟨(some 16), none, .pick (.t 10) (.t 15) (.c (.bool false))⟩])
  (.keep [0, 1, 5, 16] (.cond (.t 16) .skip (.exit 0))))
  (.keep [0, 1, 5] (.block 1 (.reg [⟨(some 17), none, .mv (.t 5)⟩, ⟨(some 18), none, .bin .add (.t 17) (.c (.int .i64 (1)))⟩, ⟨(some 5), none, .mv (.t 18)⟩])))) [0, 1, 5]
def A.scan_run : AFn := ⟨20, [(4, none)], (.seq (.reg [⟨(some 4), none, .mv (.c (.int .i64 (0)))⟩])
  (.keep [0, 1] (.seq (.reg [⟨(some 5), none, .mv (.c (.int .i64 (0)))⟩])
  (.keep [0, 1, 5] (.seq (.block 0 (.loop A.scan_run.L0))
  (.keep [5] (.seq (.reg [⟨(some 19), none, .mv (.t 5)⟩, ⟨(some 4), none, .mv (.t 19)⟩]) .ret)))))))⟩
def A.scan_part : AFn := ⟨17, [(2, none)], (.seq (.reg [⟨(some 2), none, .mv (.c (.bool false))⟩])
  (.keep [0] (.seq (.reg [⟨(some 3), none, .mv (.t 0)⟩, ⟨(some 4), none, .call (.c (.fn K.scan_letter [] [])) [(.t 3)]⟩, ⟨(some 5), none, .mv (.t 4)⟩, ⟨(some 6), (some (5, false)), .mv (.t 0)⟩, ⟨(some 7), (some (5, false)), .bin .geq (.t 6) (.c (.int .u8 (48)))⟩, ⟨(some 8), (some (5, false)), .mv (.t 7)⟩, ⟨(some 9), (some (8, true)), .mv (.t 0)⟩, ⟨(some 10), (some (8, true)), .bin .leq (.t 9) (.c (.int .u8 (57)))⟩, ⟨(some 11), (some (5, false)), .pick (.t 8) (.t 10) (.c (.bool false))⟩, ⟨(some 12), none, .pick (.t 5) (.c (.bool true)) (.t 11)⟩, ⟨(some 13), none, .mv (.t 12)⟩, ⟨(some 14), (some (13, false)), .mv (.t 0)⟩, ⟨(some 15), (some (13, false)), .bin .eql (.t 14) (.c (.int .u8 (95)))⟩, ⟨(some 16), none, .pick (.t 13) (.c (.bool true)) (.t 15)⟩, ⟨(some 2), none, .mv (.t 16)⟩]) .ret)))⟩
def A.scan_quoted : AFn := ⟨13, [(2, none)], (.seq (.reg [⟨(some 2), none, .mv (.c (.bool false))⟩])
  (.keep [0] (.seq (.reg [⟨(some 3), none, .mv (.t 0)⟩, ⟨(some 4), none, .bin .geq (.t 3) (.c (.int .u8 (32)))⟩, ⟨(some 5), none, .mv (.t 4)⟩, ⟨(some 6), (some (5, true)), .mv (.t 0)⟩, ⟨(some 7), (some (5, true)), .bin .leq (.t 6) (.c (.int .u8 (126)))⟩, ⟨(some 8), none, .pick (.t 5) (.t 7) (.c (.bool false))⟩, ⟨(some 9), none, .mv (.t 8)⟩, ⟨(some 10), (some (9, true)), .mv (.t 0)⟩, ⟨(some 11), (some (9, true)), .bin .neq (.t 10) (.c (.int .u8 (39)))⟩, ⟨(some 12), none, .pick (.t 9) (.t 11) (.c (.bool false))⟩, ⟨(some 2), none, .mv (.t 12)⟩]) .ret)))⟩
end Go.Proofs.Ytmobijebjkjnoaa.Al
namespace Go.Proofs.Ytmobijebjkjnoaa.Al
def A.probatelaw05_ScanAgain.L0 : AC := .post (.seq (.reg [⟨(some 34), none, .bin .lss (.t 33) (.t 32)⟩])
  (.keep [0, 3, 6, 7, 31, 32, 33, 34] (.seq (.cond (.t 34) .skip (.exit 0))
  (.keep [0, 3, 6, 7, 31, 32, 33] (.seq (.block 1 (.seq (.reg [⟨(some 35), none, .ia 3 (.t 31) (.t 33)⟩, ⟨(some 36), none, .load true 3 (.t 35)⟩, ⟨(some 9), none, .alloc [(.int .i64 (0)), (.str []), (.int .i64 (0))]⟩, ⟨none, none, .store 3 (.t 9) (.t 36)⟩])
  (.keep [0, 3, 6, 7, 9, 31, 32, 33] (.seq (.reg [⟨(some 37), none, .load true 3 (.t 9)⟩, ⟨(some 38), none, .call (.c (.fn K.probatelaw05_text [] [])) [(.t 37)]⟩, ⟨(some 10), none, .mv (.t 38)⟩])
  (.keep [0, 3, 6, 7, 9, 10, 31, 32, 33] (.seq (.seq (.reg [⟨(some 39), none, .mv (.t 10)⟩, ⟨(some 40), none, .bin .eql (.t 39) (.c (.str []))⟩, ⟨(some 41), none, .mv (.t 40)⟩, ⟨(some 42), (some (41, false)), .fa 2 (.t 9)⟩, ⟨(some 43), (some (41, false)), .load false 1 (.t 42)⟩, ⟨(some 44), (some (41, false)), .mv (.t 7)⟩, ⟨(some 45), (some (41, false)), .bin .lss (.t 43) (.t 44)⟩, ⟨(some 46), none, .pick (.t 41) (.c (.bool true)) (.t 45)⟩, ⟨(some 47), none, .mv (.t 46)⟩, ⟨(some 48), (some (47, false)), .fa 2 (.t 9)⟩, ⟨(some 49), (some (47, false)), .load false 1 (.t 48)⟩, ⟨(some 50), (some (47, false)), .mv (.t 0)⟩, ⟨(some 51), (some (47, false)), .len true (.t 50)⟩, ⟨(some 52), (some (47, false)), .mv (.t 10)⟩, ⟨(some 53), (some (47, false)), .len true (.t 52)⟩, ⟨(some 54), (some (47, false)), .bin .sub (.t 51) (.t 53)⟩, ⟨(some 55), (some (47, false)), .bin .gtr (.t 49) (.t 54)⟩, ⟨(some 56), none, .pick (.t 47) (.c (.bool true)) (.t 55)⟩, ⟨(some 57), none, .mv (.t 56)⟩, ⟨(some 58), (some (57, false)), .mv (.t 0)⟩, ⟨(some 59), (some (57, false)), .fa 2 (.t 9)⟩, ⟨(some 60), (some (57, false)), .load false 1 (.t 59)⟩, ⟨(some 61), (some (57, false)), .fa 2 (.t 9)⟩, ⟨(some 62), (some (57, false)), .load false 1 (.t 61)⟩, ⟨(some 63), (some (57, false)), .mv (.t 10)⟩, ⟨(some 64), (some (57, false)), .len true (.t 63)⟩, ⟨(some 65), (some (57, false)), .bin .add (.t 62) (.t 64)⟩, ⟨(some 66), (some (57, false)), .slcs (.t 58) (some (.t 60)) (some (.t 65))⟩, ⟨(some 67), (some (57, false)), .mv (.t 10)⟩, ⟨(some 68), (some (57, false)), .bin .neq (.t 66) (.t 67)⟩, ⟨(some 69), none, .pick (.t 57) (.c (.bool true)) (.t 68)⟩])
  (.keep [0, 3, 6, 9, 10, 31, 32, 33, 69] (.cond (.t 69) (.seq (.reg [⟨(some 2), none, .mv (.c (.bool false))⟩]) .ret) .skip)))
  (.keep [0, 3, 6, 9, 10, 31, 32, 33] (.seq (.reg [⟨(some 70), none, .fa 2 (.t 9)⟩, ⟨(some 71), none, .load false 1 (.t 70)⟩, ⟨(some 72), none, .mv (.t 10)⟩, ⟨(some 73), none, .len true (.t 72)⟩, ⟨(some 74), none, .bin .add (.t 71) (.t 73)⟩, ⟨(some 7), none, .mv (.t 74)⟩])
  (.keep [0, 3, 6, 7, 10, 31, 32, 33] (.reg [⟨(some 75), none, .mv (.t 6)⟩, ⟨(some 76), none, .mv (.t 10)⟩, ⟨(some 77), none, .bin .add (.t 76) (.c (.str [32]))⟩, ⟨(some 78), none, .bin .add (.t 75) (.t 77)⟩, ⟨(some 6), none, .mv (.t 78)⟩]))))))))))
  (.keep [0, 3, 6, 7, 31, 32, 33] (.reg [⟨(some 79), none, .bin .add (.t 33) (.c (.int .i64 (1)))⟩, ⟨(some 33), none, .mv (.t 79)⟩]))))))) [0, 3, 6, 7, 31, 32, 33]
def A.probatelaw05_ScanAgain.L1 : AC := .post (.seq (.reg [⟨(some 106), none, .bin .lss (.t 105) (.t 104)⟩])
  (.keep [3, 11, 104, 105, 106] (.seq (.cond (.t 106) .skip (.exit 2))
  (.keep [3, 11, 104, 105] (.seq (.block 3 (.seq (.reg [⟨(some 107), none, .mv (.t 105)⟩, ⟨(some 14), none, .mv (.t 107)⟩])
  (.keep [3, 11, 14, 104, 105] (.seq (.draw [(.pl, ⟨(some 108), none, .mv (.t 3)⟩), (.pl, ⟨(some 109), none, .mv (.t 14)⟩), (.pl, ⟨(some 110), none, .ia 3 (.t 108) (.t 109)⟩), (.pl, ⟨(some 111), none, .fa 0 (.t 110)⟩), (.pl, ⟨(some 112), none, .load false 1 (.t 111)⟩), (.pl, ⟨(some 113), none, .mv (.t 11)⟩), (.pl, ⟨(some 114), none, .mv (.t 14)⟩), (.pl, ⟨(some 115), none, .ia 3 (.t 113) (.t 114)⟩), (.pl, ⟨(some 116), none, .fa 0 (.t 115)⟩), (.pl, ⟨(some 117), none, .load false 1 (.t 116)⟩), (.pl, ⟨(some 118), none, .bin .neq (.t 112) (.t 117)⟩), (.pl, ⟨(some 119), none, .mv (.t 118)⟩), (.pl, ⟨(some 120), (some (119, false)), .mv (.t 3)⟩), (.pl, ⟨(some 121), (some (119, false)), .mv (.t 14)⟩), (.pl, ⟨(some 122), (some (119, false)), .ia 3 (.t 120) (.t 121)⟩), (.pl, ⟨(some 123), (some (119, false)), .fa 1 (.t 122)⟩), (.pl, ⟨(some 124), (some (119, false)), .load false 1 (.t 123)⟩), (.pl, ⟨(some 125), (some (119, false)), .mv (.t 11)⟩), (.pl, ⟨(some 126), (some (119, false)), .mv (.t 14)⟩), (.pl, ⟨(some 127), (some (119, false)), .ia 3 (.t 125) (.t 126)⟩), (.pl, ⟨(some 128), (some (119, false)), .fa 1 (.t 127)⟩), (.pl, ⟨(some 129), (some (119, false)), .load false 1 (.t 128)⟩), (.pl, ⟨(some 130), (some (119, false)), .bin .neq (.t 124) (.t 129)⟩), (.pl, ⟨(some 131), none, .pick (.t 119) (.c (.bool true)) (.t 130)⟩)])
  (.keep [3, 11, 104, 105, 131] (.cond (.t 131) (.seq (.reg [⟨(some 2), none, .mv (.c (.bool false))⟩]) .ret) .skip))))))
  (.keep [3, 11, 104, 105] (.reg [⟨(some 132), none, .bin .add (.t 105) (.c (.int .i64 (1)))⟩, ⟨(some 105), none, .mv (.t 132)⟩]))))))) [3, 11, 104, 105]
def A.probatelaw05_ScanAgain : AFn := ⟨133, [(2, none)], (.seq (.reg [⟨(some 2), none, .mv (.c (.bool false))⟩])
  (.keep [0] (.seq (.seq (.reg [⟨(some 15), none, .call (.c (.fn K.probatelaw05_awake [] [])) []⟩, ⟨(some 16), none, .un .not (.t 15)⟩])
  (.keep [0, 16] (.cond (.t 16) (.seq (.reg [⟨(some 2), none, .mv (.c (.bool false))⟩]) .ret) .skip)))
  (.keep [0] (.seq (.seq (.reg [⟨(some 17), none, .mv (.t 0)⟩, ⟨(some 18), none, .len true (.t 17)⟩, ⟨(some 19), none, .bin .gtr (.t 18) (.c (.int .i64 (1000)))⟩])
  (.keep [0, 19] (.cond (.t 19) (.seq (.reg [⟨(some 2), none, .mv (.c (.bool true))⟩]) .ret) .skip)))
  (.keep [0] (.seq (.reg [⟨(some 21), none, .mv (.t 0)⟩, ⟨(some 22), none, .call (.c (.fn K.scan_Scan [] [])) [(.t 21)]⟩, ⟨(some 20), none, .mv (.t 22)⟩, ⟨(some 23), none, .ext (.t 20) 0⟩, ⟨(some 24), none, .ext (.t 20) 1⟩, ⟨(some 25), none, .ext (.t 20) 2⟩, ⟨(some 3), none, .mv (.t 23)⟩, ⟨(some 4), none, .mv (.t 24)⟩, ⟨(some 5), none, .mv (.t 25)⟩])
  (.keep [0, 3, 5] (.seq (.seq (.reg [⟨(some 26), none, .mv (.t 5)⟩, ⟨(some 27), none, .bin .neq (.t 26) (.c (.int .i64 (0)))⟩])
  (.keep [0, 3, 27] (.cond (.t 27) (.seq (.reg [⟨(some 28), none, .mv (.t 3)⟩, ⟨(some 29), none, .len false (.t 28)⟩, ⟨(some 30), none, .bin .eql (.t 29) (.c (.int .i64 (0)))⟩, ⟨(some 2), none, .mv (.t 30)⟩]) .ret) .skip)))
  (.keep [0, 3] (.seq (.reg [⟨(some 6), none, .mv (.c (.str []))⟩])
  (.keep [0, 3, 6] (.seq (.reg [⟨(some 7), none, .mv (.c (.int .i64 (0)))⟩])
  (.keep [0, 3, 6, 7] (.seq (.seq (.reg [⟨(some 31), none, .mv (.t 3)⟩, ⟨(some 32), none, .len false (.t 31)⟩, ⟨(some 33), none, .mv (.c (.int .i64 (0)))⟩])
  (.keep [0, 3, 6, 7, 31, 32, 33] (.block 0 (.loop A.probatelaw05_ScanAgain.L0))))
  (.keep [3, 6] (.seq (.reg [⟨(some 81), none, .mv (.t 6)⟩, ⟨(some 82), none, .call (.c (.fn K.scan_Scan [] [])) [(.t 81)]⟩, ⟨(some 80), none, .mv (.t 82)⟩, ⟨(some 83), none, .ext (.t 80) 0⟩, ⟨(some 84), none, .ext (.t 80) 1⟩, ⟨(some 85), none, .ext (.t 80) 2⟩, ⟨(some 11), none, .mv (.t 83)⟩, ⟨(some 12), none, .mv (.t 84)⟩, ⟨(some 13), none, .mv (.t 85)⟩])
  (.keep [3, 6, 11, 13] (.seq (.seq (.reg [⟨(some 86), none, .mv (.t 6)⟩, ⟨(some 87), none, .len true (.t 86)⟩, ⟨(some 88), none, .bin .gtr (.t 87) (.c (.int .i64 (4000)))⟩, ⟨(some 89), none, .mv (.t 88)⟩, ⟨(some 90), (some (89, false)), .mv (.t 13)⟩, ⟨(some 91), (some (89, false)), .bin .neq (.t 90) (.c (.int .i64 (0)))⟩, ⟨(some 92), none, .pick (.t 89) (.c (.bool true)) (.t 91)⟩, ⟨(some 93), none, .mv (.t 92)⟩, ⟨(some 94), (some (93, false)), .mv (.t 11)⟩, ⟨(some 95), (some (93, false)), .len false (.t 94)⟩, ⟨(some 96), (some (93, false)), .mv (.t 3)⟩, ⟨(some 97), (some (93, false)), .len false (.t 96)⟩, ⟨(some 98), (some (93, false)), .bin .neq (.t 95) (.t 97)⟩, ⟨(some 99), none, .pick (.t 93) (.c (.bool true)) (.t 98)⟩])
  (.keep [3, 6, 11, 99] (.cond (.t 99) (.seq (.reg [⟨(some 100), none, .mv (.t 6)⟩, ⟨(some 101), none, .len true (.t 100)⟩, ⟨(some 102), none, .bin .gtr (.t 101) (.c (.int .i64 (4000)))⟩, ⟨(some 2), none, .mv (.t 102)⟩]) .ret) .skip)))
  (.keep [3, 11] (.seq (.seq (.reg [⟨(some 103), none, .mv (.t 3)⟩, ⟨(some 104), none, .len false (.t 103)⟩, ⟨(some 105), none, .mv (.c (.int .i64 (0)))⟩])
  (.keep [3, 11, 104, 105] (.block 2 (.loop A.probatelaw05_ScanAgain.L1))))
  (.keep [] (.seq (.reg [⟨(some 2), none, .mv (.c (.bool true))⟩]) .ret)))))))))))))))))))))))⟩
def A.probatelaw05_ScanBetween.L0 : AC := .post (.seq (.reg [⟨(some 39), none, .bin .lss (.t 38) (.t 37)⟩])
  (.keep [0, 1, 2, 7, 37, 38, 39] (.seq (.cond (.t 39) .skip (.exit 0))
  (.keep [0, 1, 2, 7, 37, 38] (.seq (.block 1 (.seq (.reg [⟨(some 40), none, .mv (.t 38)⟩, ⟨(some 8), none, .mv (.t 40)⟩])
  (.keep [0, 1, 2, 7, 8, 37, 38] (.seq (.reg [⟨(some 41), none, .mv (.t 2)⟩, ⟨(some 42), none, .mv (.t 8)⟩, ⟨(some 43), none, .ixs (.t 41) (.t 42)⟩, ⟨(some 44), none, .bin .neq (.t 43) (.c (.int .u8 (10)))⟩])
  (.keep [0, 1, 2, 7, 8, 37, 38, 44] (.cond (.t 44) (.reg [⟨(some 45), none, .mv (.t 7)⟩, ⟨(some 46), none, .mv (.t 2)⟩, ⟨(some 47), none, .mv (.t 8)⟩, ⟨(some 48), none, .mv (.t 8)⟩, ⟨(some 49), none, .bin .add (.t 48) (.c (.int .i64 (1)))⟩, ⟨(some 50), none, .slcs (.t 46) (some (.t 47)) (some (.t 49))⟩, ⟨(some 51), none, .bin .add (.t 45) (.t 50)⟩, ⟨(some 7), none, .mv (.t 51)⟩]) .skip))))))
  (.keep [0, 1, 2, 7, 37, 38] (.reg [⟨(some 52), none, .bin .add (.t 38) (.c (.int .i64 (1)))⟩, ⟨(some 38), none, .mv (.t 52)⟩]))))))) [0, 1, 2, 7, 37, 38]
def A.probatelaw05_ScanBetween.L1 : AC := .post (.seq (.reg [⟨(some 128), none, .bin .lss (.t 127) (.t 126)⟩])
  (.keep [0, 7, 9, 12, 125, 126, 127, 128] (.seq (.cond (.t 128) .skip (.exit 2))
  (.keep [0, 7, 9, 12, 125, 126, 127] (.seq (.block 3 (.seq (.reg [⟨(some 129), none, .mv (.t 127)⟩, ⟨(some 130), none, .ia 3 (.t 125) (.t 127)⟩, ⟨(some 131), none, .load true 3 (.t 130)⟩, ⟨(some 19), none, .alloc [(.int .i64 (0)), (.str []), (.int .i64 (0))]⟩, ⟨(some 18), none, .mv (.t 129)⟩, ⟨none, none, .store 3 (.t 19) (.t 131)⟩])
  (.keep [0, 7, 9, 12, 18, 19, 125, 126, 127] (.seq (.reg [⟨(some 132), none, .bld [(.int .i64 (0)), (.str []), (.int .i64 (0))] []⟩, ⟨(some 20), none, .alloc [(.int .i64 (0)), (.str []), (.int .i64 (0))]⟩, ⟨none, none, .store 3 (.t 20) (.t 132)⟩])
  (.keep [0, 7, 9, 12, 18, 19, 20, 125, 126, 127] (.seq (.seq (.reg [⟨(some 133), none, .mv (.t 18)⟩, ⟨(some 134), none, .mv (.t 9)⟩, ⟨(some 135), none, .len false (.t 134)⟩, ⟨(some 136), none, .bin .lss (.t 133) (.t 135)⟩])
  (.keep [0, 7, 9, 12, 18, 19, 20, 125, 126, 127, 136] (.cond (.t 136) (.reg [⟨(some 137), none, .mv (.t 9)⟩, ⟨(some 138), none, .mv (.t 18)⟩, ⟨(some 139), none, .ia 3 (.t 137) (.t 138)⟩, ⟨(some 140), none, .load true 3 (.t 139)⟩, ⟨none, none, .store 3 (.t 20) (.t 140)⟩]) (.seq (.reg [⟨(some 141), none, .mv (.t 12)⟩, ⟨(some 142), none, .mv (.t 18)⟩, ⟨(some 143), none, .mv (.t 9)⟩, ⟨(some 144), none, .len false (.t 143)⟩, ⟨(some 145), none, .bin .sub (.t 142) (.t 144)⟩, ⟨(some 146), none, .ia 3 (.t 141) (.t 145)⟩, ⟨(some 147), none, .load true 3 (.t 146)⟩, ⟨none, none, .store 3 (.t 20) (.t 147)⟩])
  (.keep [0, 7, 9, 12, 19, 20, 125, 126, 127] (.reg [⟨(some 148), none, .fa 2 (.t 20)⟩, ⟨(some 149), none, .load false 1 (.t 148)⟩, ⟨(some 150), none, .mv (.t 0)⟩, ⟨(some 151), none, .len true (.t 150)⟩, ⟨(some 152), none, .mv (.t 7)⟩, ⟨(some 153), none, .len true (.t 152)⟩, ⟨(some 154), none, .bin .add (.t 151) (.t 153)⟩, ⟨(some 155), none, .bin .add (.t 149) (.t 154)⟩, ⟨(some 156), none, .fa 2 (.t 20)⟩, ⟨none, none, .store 1 (.t 156) (.t 155)⟩]))))))
  (.keep [0, 7, 9, 12, 19, 20, 125, 126, 127] (.seq (.reg [⟨(some 157), none, .load true 3 (.t 19)⟩, ⟨(some 158), none, .load true 3 (.t 20)⟩, ⟨(some 159), none, .eqs true [(.i, 0), (.s, 1), (.i, 2)] (.t 157) (.t 158)⟩])
  (.keep [0, 7, 9, 12, 125, 126, 127, 159] (.cond (.t 159) (.seq (.reg [⟨(some 6), none, .mv (.c (.bool false))⟩]) .ret) .skip))))))))))
  (.keep [0, 7, 9, 12, 125, 126, 127] (.reg [⟨(some 160), none, .bin .add (.t 127) (.c (.int .i64 (1)))⟩, ⟨(some 127), none, .mv (.t 160)⟩]))))))) [0, 7, 9, 12, 125, 126, 127]
def A.probatelaw05_ScanBetween : AFn := ⟨161, [(6, none)], (.seq (.reg [⟨(some 6), none, .mv (.c (.bool false))⟩])
  (.keep [0, 1, 2] (.seq (.seq (.reg [⟨(some 21), none, .call (.c (.fn K.probatelaw05_awake [] [])) []⟩, ⟨(some 22), none, .un .not (.t 21)⟩])
  (.keep [0, 1, 2, 22] (.cond (.t 22) (.seq (.reg [⟨(some 6), none, .mv (.c (.bool false))⟩]) .ret) .skip)))
  (.keep [0, 1, 2] (.seq (.seq (.reg [⟨(some 23), none, .mv (.t 0)⟩, ⟨(some 24), none, .len true (.t 23)⟩, ⟨(some 25), none, .bin .gtr (.t 24) (.c (.int .i64 (1000)))⟩, ⟨(some 26), none, .mv (.t 25)⟩, ⟨(some 27), (some (26, false)), .mv (.t 1)⟩, ⟨(some 28), (some (26, false)), .len true (.t 27)⟩, ⟨(some 29), (some (26, false)), .bin .gtr (.t 28) (.c (.int .i64 (1000)))⟩, ⟨(some 30), none, .pick (.t 26) (.c (.bool true)) (.t 29)⟩, ⟨(some 31), none, .mv (.t 30)⟩, ⟨(some 32), (some (31, false)), .mv (.t 2)⟩, ⟨(some 33), (some (31, false)), .len true (.t 32)⟩, ⟨(some 34), (some (31, false)), .bin .gtr (.t 33) (.c (.int .i64 (1000)))⟩, ⟨(some 35), none, .pick (.t 31) (.c (.bool true)) (.t 34)⟩])
  (.keep [0, 1, 2, 35] (.cond (.t 35) (.seq (.reg [⟨(some 6), none, .mv (.c (.bool true))⟩]) .ret) .skip)))
  (.keep [0, 1, 2] (.seq (.reg [⟨(some 7), none, .mv (.c (.str [10, 35]))⟩])
  (.keep [0, 1, 2, 7] (.seq (.seq (.reg [⟨(some 36), none, .mv (.t 2)⟩, ⟨(some 37), none, .len true (.t 36)⟩, ⟨(some 38), none, .mv (.c (.int .i64 (0)))⟩])
  (.keep [0, 1, 2, 7, 37, 38] (.block 0 (.loop A.probatelaw05_ScanBetween.L0))))
  (.keep [0, 1, 7] (.seq (.reg [⟨(some 53), none, .mv (.t 7)⟩, ⟨(some 54), none, .bin .add (.t 53) (.c (.str [10]))⟩, ⟨(some 7), none, .mv (.t 54)⟩])
  (.keep [0, 1, 7] (.seq (.reg [⟨(some 56), none, .mv (.t 0)⟩, ⟨(some 57), none, .call (.c (.fn K.scan_Scan [] [])) [(.t 56)]⟩, ⟨(some 55), none, .mv (.t 57)⟩, ⟨(some 58), none, .ext (.t 55) 0⟩, ⟨(some 59), none, .ext (.t 55) 1⟩, ⟨(some 60), none, .ext (.t 55) 2⟩, ⟨(some 9), none, .mv (.t 58)⟩, ⟨(some 10), none, .mv (.t 59)⟩, ⟨(some 11), none, .mv (.t 60)⟩])
  (.keep [0, 1, 7, 9, 10, 11] (.seq (.reg [⟨(some 62), none, .mv (.t 1)⟩, ⟨(some 63), none, .call (.c (.fn K.scan_Scan [] [])) [(.t 62)]⟩, ⟨(some 61), none, .mv (.t 63)⟩, ⟨(some 64), none, .ext (.t 61) 0⟩, ⟨(some 65), none, .ext (.t 61) 1⟩, ⟨(some 66), none, .ext (.t 61) 2⟩, ⟨(some 12), none, .mv (.t 64)⟩, ⟨(some 13), none, .mv (.t 65)⟩, ⟨(some 14), none, .mv (.t 66)⟩])
  (.keep [0, 1, 7, 9, 10, 11, 12, 13, 14] (.seq (.reg [⟨(some 68), none, .mv (.t 0)⟩, ⟨(some 69), none, .mv (.t 7)⟩, ⟨(some 70), none, .bin .add (.t 68) (.t 69)⟩, ⟨(some 71), none, .mv (.t 1)⟩, ⟨(some 72), none, .bin .add (.t 70) (.t 71)⟩, ⟨(some 73), none, .call (.c (.fn K.scan_Scan [] [])) [(.t 72)]⟩, ⟨(some 67), none, .mv (.t 73)⟩, ⟨(some 74), none, .ext (.t 67) 0⟩, ⟨(some 75), none, .ext (.t 67) 1⟩, ⟨(some 76), none, .ext (.t 67) 2⟩, ⟨(some 15), none, .mv (.t 74)⟩, ⟨(some 16), none, .mv (.t 75)⟩, ⟨(some 17), none, .mv (.t 76)⟩])
  (.keep [0, 7, 9, 10, 11, 12, 13, 14, 15, 16, 17] (.seq (.seq (.reg [⟨(some 77), none, .mv (.t 11)⟩, ⟨(some 78), none, .bin .neq (.t 77) (.c (.int .i64 (0)))⟩])
  (.keep [0, 7, 9, 10, 11, 12, 13, 14, 15, 16, 17, 78] (.cond (.t 78) (.seq (.reg [⟨(some 79), none, .mv (.t 17)⟩, ⟨(some 80), none, .mv (.t 11)⟩, ⟨(some 81), none, .bin .eql (.t 79) (.t 80)⟩, ⟨(some 82), none, .mv (.t 81)⟩, ⟨(some 83), (some (82, true)), .mv (.t 16)⟩, ⟨(some 84), (some (82, true)), .mv (.t 10)⟩, ⟨(some 85), (some (82, true)), .bin .eql (.t 83) (.t 84)⟩, ⟨(some 86), none, .pick (.t 82) (.t 85) (.c (.bool false))⟩, ⟨(some 87), none, .mv (.t 86)⟩, ⟨(some 88), (some (87, true)), .mv (.t 15)⟩, ⟨(some 89), (some (87, true)), .len false (.t 88)⟩, ⟨(some 90), (some (87, true)), .bin .eql (.t 89) (.c (.int .i64 (0)))⟩, ⟨(some 91), none, .pick (.t 87) (.t 90) (.c (.bool false))⟩, ⟨(some 6), none, .mv (.t 91)⟩]) .ret) .skip)))
  (.keep [0, 7, 9, 12, 13, 14, 15, 16, 17] (.seq (.seq (.reg [⟨(some 92), none, .mv (.t 14)⟩, ⟨(some 93), none, .bin .neq (.t 92) (.c (.int .i64 (0)))⟩])
  (.keep [0, 7, 9, 12, 13, 14, 15, 16, 17, 93] (.cond (.t 93) (.seq (.reg [⟨(some 94), none, .mv (.t 17)⟩, ⟨(some 95), none, .mv (.t 14)⟩, ⟨(some 96), none, .bin .eql (.t 94) (.t 95)⟩, ⟨(some 97), none, .mv (.t 96)⟩, ⟨(some 98), (some (97, true)), .mv (.t 16)⟩, ⟨(some 99), (some (97, true)), .mv (.t 0)⟩, ⟨(some 100), (some (97, true)), .len true (.t 99)⟩, ⟨(some 101), (some (97, true)), .mv (.t 7)⟩, ⟨(some 102), (some (97, true)), .len true (.t 101)⟩, ⟨(some 103), (some (97, true)), .bin .add (.t 100) (.t 102)⟩, ⟨(some 104), (some (97, true)), .mv (.t 13)⟩, ⟨(some 105), (some (97, true)), .bin .add (.t 103) (.t 104)⟩, ⟨(some 106), (some (97, true)), .bin .eql (.t 98) (.t 105)⟩, ⟨(some 107), none, .pick (.t 97) (.t 106) (.c (.bool false))⟩, ⟨(some 108), none, .mv (.t 107)⟩, ⟨(some 109), (some (108, true)), .mv (.t 15)⟩, ⟨(some 110), (some (108, true)), .len false (.t 109)⟩, ⟨(some 111), (some (108, true)), .bin .eql (.t 110) (.c (.int .i64 (0)))⟩, ⟨(some 112), none, .pick (.t 108) (.t 111) (.c (.bool false))⟩, ⟨(some 6), none, .mv (.t 112)⟩]) .ret) .skip)))
  (.keep [0, 7, 9, 12, 15, 17] (.seq (.seq (.reg [⟨(some 113), none, .mv (.t 17)⟩, ⟨(some 114), none, .bin .neq (.t 113) (.c (.int .i64 (0)))⟩, ⟨(some 115), none, .mv (.t 114)⟩, ⟨(some 116), (some (115, false)), .mv (.t 15)⟩, ⟨(some 117), (some (115, false)), .len false (.t 116)⟩, ⟨(some 118), (some (115, false)), .mv (.t 9)⟩, ⟨(some 119), (some (115, false)), .len false (.t 118)⟩, ⟨(some 120), (some (115, false)), .mv (.t 12)⟩, ⟨(some 121), (some (115, false)), .len false (.t 120)⟩, ⟨(some 122), (some (115, false)), .bin .add (.t 119) (.t 121)⟩, ⟨(some 123), (some (115, false)), .bin .neq (.t 117) (.t 122)⟩, ⟨(some 124), none, .pick (.t 115) (.c (.bool true)) (.t 123)⟩])
  (.keep [0, 7, 9, 12, 15, 124] (.cond (.t 124) (.seq (.reg [⟨(some 6), none, .mv (.c (.bool false))⟩]) .ret) .skip)))
  (.keep [0, 7, 9, 12, 15] (.seq (.seq (.reg [⟨(some 125), none, .mv (.t 15)⟩, ⟨(some 126), none, .len false (.t 125)⟩, ⟨(some 127), none, .mv (.c (.int .i64 (0)))⟩])
  (.keep [0, 7, 9, 12, 125, 126, 127] (.block 2 (.loop A.probatelaw05_ScanBetween.L1))))
  (.keep [] (.seq (.reg [⟨(some 6), none, .mv (.c (.bool true))⟩]) .ret)))))))))))))))))))))))))))⟩
def A.probatelaw05_awake : AFn := ⟨41, [(0, none)], (.seq (.reg [⟨(some 0), none, .mv (.c (.bool false))⟩])
  (.keep [] (.seq (.reg [⟨(some 8), none, .call (.c (.fn K.scan_Scan [] [])) [(.c (.str [115, 58, 32, 39, 97, 32, 98, 39, 32, 35, 32, 110, 111, 10, 124]))]⟩, ⟨(some 7), none, .mv (.t 8)⟩, ⟨(some 9), none, .ext (.t 7) 0⟩, ⟨(some 10), none, .ext (.t 7) 1⟩, ⟨(some 11), none, .ext (.t 7) 2⟩, ⟨(some 1), none, .mv (.t 9)⟩, ⟨(some 2), none, .mv (.t 10)⟩, ⟨(some 3), none, .mv (.t 11)⟩])
  (.keep [1, 2, 3] (.seq (.reg [⟨(some 13), none, .call (.c (.fn K.scan_Scan [] [])) [(.c (.str [115, 32, 39, 97]))]⟩, ⟨(some 12), none, .mv (.t 13)⟩, ⟨(some 14), none, .ext (.t 12) 0⟩, ⟨(some 15), none, .ext (.t 12) 1⟩, ⟨(some 16), none, .ext (.t 12) 2⟩, ⟨(some 4), none, .mv (.t 14)⟩, ⟨(some 5), none, .mv (.t 15)⟩, ⟨(some 6), none, .mv (.t 16)⟩])
  (.keep [1, 2, 3, 5, 6] (.seq (.reg [⟨(some 17), none, .mv (.t 1)⟩, ⟨(some 18), none, .call (.c (.fn K.probatelaw05_own [] [])) [(.t 17)]⟩, ⟨(some 19), none, .bld [(.int .i64 (0)), (.str []), (.int .i64 (0))] [(0, 1, (.c (.int .i64 (1)))), (1, 1, (.c (.str [115])))]⟩, ⟨(some 20), none, .bld [(.int .i64 (0)), (.str []), (.int .i64 (0))] [(0, 1, (.c (.int .i64 (3)))), (1, 1, (.c (.str [58]))), (2, 1, (.c (.int .i64 (1))))]⟩, ⟨(some 21), none, .bld [(.int .i64 (0)), (.str []), (.int .i64 (0))] [(0, 1, (.c (.int .i64 (2)))), (1, 1, (.c (.str [97, 32, 98]))), (2, 1, (.c (.int .i64 (3))))]⟩, ⟨(some 22), none, .bld [(.int .i64 (0)), (.str []), (.int .i64 (0))] [(0, 1, (.c (.int .i64 (3)))), (1, 1, (.c (.str [124]))), (2, 1, (.c (.int .i64 (14))))]⟩, ⟨(some 23), none, .bsl 3 true [(.int .i64 (0)), (.str []), (.int .i64 (0))] 4 [(0, (.t 19)), (1, (.t 20)), (2, (.t 21)), (3, (.t 22))]⟩, ⟨(some 24), none, .call (.c (.fn K.probateref05_Same [] [])) [(.t 18), (.t 23)]⟩, ⟨(some 25), none, .mv (.t 24)⟩, ⟨(some 26), (some (25, true)), .mv (.t 2)⟩, ⟨(some 27), (some (25, true)), .bin .eql (.t 26) (.c (.int .i64 (0)))⟩, ⟨(some 28), none, .pick (.t 25) (.t 27) (.c (.bool false))⟩, ⟨(some 29), none, .mv (.t 28)⟩, ⟨(some 30), (some (29, true)), .mv (.t 3)⟩, ⟨(some 31), (some (29, true)), .bin .eql (.t 30) (.c (.int .i64 (0)))⟩, ⟨(some 32), none, .pick (.t 29) (.t 31) (.c (.bool false))⟩, ⟨(some 33), none, .mv (.t 32)⟩, ⟨(some 34), (some (33, true)), .mv (.t 5)⟩, ⟨(some 35), (some (33, true)), .bin .eql (.t 34) (.c (.int .i64 (2)))⟩, ⟨(some 36), none, .pick (.t 33) (.t 35) (.c (.bool false))⟩, ⟨(some 37), none, .mv (.t 36)⟩, ⟨(some 38), (some (37, true)), .mv (.t 6)⟩, ⟨(some 39), (some (37, true)), .bin .eql (.t 38) (.c (.int .i64 (2)))⟩, ⟨(some 40), none, .pick (.t 37) (.t 39) (.c (.bool false))⟩, ⟨(some 0), none, .mv (.t 40)⟩]) .ret)))))))⟩
def A.probateref05_Scan.L1 : AC := .post (.seq (.seq (.reg [⟨(some 42), none, .mv (.t 6)⟩, ⟨(some 43), none, .mv (.t 0)⟩, ⟨(some 44), none, .len true (.t 43)⟩, ⟨(some 45), none, .bin .lss (.t 42) (.t 44)⟩, ⟨(some 46), none, .mv (.t 45)⟩, ⟨(some 47), (some (46, true)), .mv (.t 0)⟩, ⟨(some 48), (some (46, true)), .mv (.t 6)⟩, ⟨(some 49), (some (46, true)), .ixs (.t 47) (.t 48)⟩, ⟨(some 50), (some (46, true)), .bin .neq (.t 49) (.c (.int .u8 (10)))⟩, ⟨(some 51), none, .pick (.t 46) (.t 50) (.c (.bool false))⟩])
  (.keep [0, 5, 6, 51] (.cond (.t 51) .skip (.exit 3))))
  (.keep [0, 5, 6] (.block 4 (.reg [⟨(some 52), none, .mv (.t 6)⟩, ⟨(some 53), none, .bin .add (.t 52) (.c (.int .i64 (1)))⟩, ⟨(some 6), none, .mv (.t 53)⟩])))) [0, 5, 6]
def A.probateref05_Scan.L2 : AC := .post (.seq (.seq (.reg [⟨(some 57), none, .mv (.t 6)⟩, ⟨(some 58), none, .mv (.t 0)⟩, ⟨(some 59), none, .len true (.t 58)⟩, ⟨(some 60), none, .bin .lss (.t 57) (.t 59)⟩, ⟨(some 61), none, .mv (.t 60)⟩, ⟨(some 62), (some (61, true)), .mv (.t 0)⟩, ⟨(some 63), (some (61, true)), .mv (.t 6)⟩, ⟨(some 64), (some (61, true)), .ixs (.t 62) (.t 63)⟩, ⟨(some 65), (some (61, true)), .call (.c (.fn K.probateref05_part [] [])) [(.t 64)]⟩, ⟨(some 66), none, .pick (.t 61) (.t 65) (.c (.bool false))⟩])
  (.keep [0, 5, 6, 8, 66] (.cond (.t 66) .skip (.exit 5))))
  (.keep [0, 5, 6, 8] (.block 6 (.reg [⟨(some 67), none, .mv (.t 6)⟩, ⟨(some 68), none, .bin .add (.t 67) (.c (.int .i64 (1)))⟩, ⟨(some 6), none, .mv (.t 68)⟩])))) [0, 5, 6, 8]
def A.probateref05_Scan.L3 : AC := .post (.seq (.seq (.reg [⟨(some 83), none, .mv (.t 6)⟩, ⟨(some 84), none, .mv (.t 0)⟩, ⟨(some 85), none, .len true (.t 84)⟩, ⟨(some 86), none, .bin .lss (.t 83) (.t 85)⟩, ⟨(some 87), none, .mv (.t 86)⟩, ⟨(some 88), (some (87, true)), .mv (.t 0)⟩, ⟨(some 89), (some (87, true)), .mv (.t 6)⟩, ⟨(some 90), (some (87, true)), .ixs (.t 88) (.t 89)⟩, ⟨(some 91), (some (87, true)), .bin .geq (.t 90) (.c (.int .u8 (32)))⟩, ⟨(some 92), none, .pick (.t 87) (.t 91) (.c (.bool false))⟩, ⟨(some 93), none, .mv (.t 92)⟩, ⟨(some 94), (some (93, true)), .mv (.t 0)⟩, ⟨(some 95), (some (93, true)), .mv (.t 6)⟩, ⟨(some 96), (some (93, true)), .ixs (.t 94) (.t 95)⟩, ⟨(some 97), (some (93, true)), .bin .leq (.t 96) (.c (.int .u8 (126)))⟩, ⟨(some 98), none, .pick (.t 93) (.t 97) (.c (.bool false))⟩, ⟨(some 99), none, .mv (.t 98)⟩, ⟨(some 100), (some (99, true)), .mv (.t 0)⟩, ⟨(some 101), (some (99, true)), .mv (.t 6)⟩, ⟨(some 102), (some (99, true)), .ixs (.t 100) (.t 101)⟩, ⟨(some 103), (some (99, true)), .bin .neq (.t 102) (.c (.int .u8 (39)))⟩, ⟨(some 104), none, .pick (.t 99) (.t 103) (.c (.bool false))⟩])
  (.keep [0, 5, 6, 8, 104] (.cond (.t 104) .skip (.exit 7))))
  (.keep [0, 5, 6, 8] (.block 8 (.reg [⟨(some 105), none, .mv (.t 6)⟩, ⟨(some 106), none, .bin .add (.t 105) (.c (.int .i64 (1)))⟩, ⟨(some 6), none, .mv (.t 106)⟩])))) [0, 5, 6, 8]
def A.probateref05_Scan.L0 : AC := .post (.seq (.seq (.reg [⟨(some 13), none, .mv (.t 6)⟩, ⟨(some 14), none, .mv (.t 0)⟩, ⟨(some 15), none, .len true (.t 14)⟩, ⟨(some 16), none, .bin .lss (.t 13) (.t 15)⟩])
  (.keep [0, 5, 6, 16] (.cond (.t 16) .skip (.exit 0))))
  (.keep [0, 5, 6] (.block 1 (.seq (.reg [⟨(some 17), none, .mv (.t 0)⟩, ⟨(some 18), none, .mv (.t 6)⟩, ⟨(some 19), none, .ixs (.t 17) (.t 18)⟩, ⟨(some 7), none, .mv (.t 19)⟩])
  (.keep [0, 5, 6, 7] (.seq (.reg [⟨(some 20), none, .mv (.t 6)⟩, ⟨(some 8), none, .mv (.t 20)⟩])
  (.keep [0, 5, 6, 7, 8] (.block 2 (.seq (.reg [⟨(some 23), none, .mv (.t 7)⟩, ⟨(some 24), none, .bin .eql (.t 23) (.c (.int .u8 (32)))⟩, ⟨(some 25), none, .mv (.t 24)⟩, ⟨(some 26), (some (25, false)), .mv (.t 7)⟩, ⟨(some 27), (some (25, false)), .bin .eql (.t 26) (.c (.int .u8 (9)))⟩, ⟨(some 28), none, .pick (.t 25) (.c (.bool true)) (.t 27)⟩, ⟨(some 29), none, .mv (.t 28)⟩, ⟨(some 30), (some (29, false)), .mv (.t 7)⟩, ⟨(some 31), (some (29, false)), .bin .eql (.t 30) (.c (.int .u8 (10)))⟩, ⟨(some 32), none, .pick (.t 29) (.c (.bool true)) (.t 31)⟩, ⟨(some 33), none, .mv (.t 32)⟩, ⟨(some 34), (some (33, false)), .mv (.t 7)⟩, ⟨(some 35), (some (33, false)), .bin .eql (.t 34) (.c (.int .u8 (13)))⟩, ⟨(some 36), none, .pick (.t 33) (.c (.bool true)) (.t 35)⟩, ⟨(some 22), none, .mv (.t 36)⟩])
  (.keep [0, 5, 6, 7, 8, 22] (.cond (.t 22) (.reg [⟨(some 37), none, .mv (.t 6)⟩, ⟨(some 38), none, .bin .add (.t 37) (.c (.int .i64 (1)))⟩, ⟨(some 6), none, .mv (.t 38)⟩]) (.seq (.reg [⟨(some 40), none, .mv (.t 7)⟩, ⟨(some 41), none, .bin .eql (.t 40) (.c (.int .u8 (35)))⟩, ⟨(some 39), none, .mv (.t 41)⟩])
  (.keep [0, 5, 6, 7, 8, 39] (.cond (.t 39) (.keep [0, 5, 6] (.block 3 (.loop A.probateref05_Scan.L1))) (.seq (.reg [⟨(some 55), none, .mv (.t 7)⟩, ⟨(some 56), none, .call (.c (.fn K.probateref05_letter [] [])) [(.t 55)]⟩, ⟨(some 54), none, .mv (.t 56)⟩])
  (.keep [0, 5, 6, 7, 8, 54] (.cond (.t 54) (.keep [0, 5, 6, 8] (.seq (.block 5 (.loop A.probateref05_Scan.L2))
  (.keep [0, 5, 6, 8] (.reg [⟨(some 69), none, .mv (.t 5)⟩, ⟨(some 70), none, .mv (.t 0)⟩, ⟨(some 71), none, .mv (.t 8)⟩, ⟨(some 72), none, .mv (.t 6)⟩, ⟨(some 73), none, .slcs (.t 70) (some (.t 71)) (some (.t 72))⟩, ⟨(some 74), none, .mv (.t 8)⟩, ⟨(some 75), none, .bld [(.int .i64 (0)), (.str []), (.int .i64 (0))] [(0, 1, (.c (.int .i64 (1)))), (1, 1, (.t 73)), (2, 1, (.t 74))]⟩, ⟨(some 76), none, .bsl 3 true [(.int .i64 (0)), (.str []), (.int .i64 (0))] 1 [(0, (.t 75))]⟩, ⟨(some 77), none, .app 3 32 (.t 69) (.t 76)⟩, ⟨(some 5), none, .mv (.t 77)⟩])))) (.seq (.reg [⟨(some 79), none, .mv (.t 7)⟩, ⟨(some 80), none, .bin .eql (.t 79) (.c (.int .u8 (39)))⟩, ⟨(some 78), none, .mv (.t 80)⟩])
  (.keep [0, 5, 6, 7, 8, 78] (.cond (.t 78) (.seq (.reg [⟨(some 81), none, .mv (.t 6)⟩, ⟨(some 82), none, .bin .add (.t 81) (.c (.int .i64 (1)))⟩, ⟨(some 6), none, .mv (.t 82)⟩])
  (.keep [0, 5, 6, 8] (.seq (.block 7 (.loop A.probateref05_Scan.L3))
  (.keep [0, 5, 6, 8] (.seq (.seq (.reg [⟨(some 107), none, .mv (.t 6)⟩, ⟨(some 108), none, .mv (.t 8)⟩, ⟨(some 109), none, .bin .add (.t 108) (.c (.int .i64 (1)))⟩, ⟨(some 110), none, .bin .eql (.t 107) (.t 109)⟩, ⟨(some 111), none, .mv (.t 110)⟩, ⟨(some 112), (some (111, false)), .mv (.t 6)⟩, ⟨(some 113), (some (111, false)), .mv (.t 0)⟩, ⟨(some 114), (some (111, false)), .len true (.t 113)⟩, ⟨(some 115), (some (111, false)), .bin .eql (.t 112) (.t 114)⟩, ⟨(some 116), none, .pick (.t 111) (.c (.bool true)) (.t 115)⟩, ⟨(some 117), none, .mv (.t 116)⟩, ⟨(some 118), (some (117, false)), .mv (.t 0)⟩, ⟨(some 119), (some (117, false)), .mv (.t 6)⟩, ⟨(some 120), (some (117, false)), .ixs (.t 118) (.t 119)⟩, ⟨(some 121), (some (117, false)), .bin .neq (.t 120) (.c (.int .u8 (39)))⟩, ⟨(some 122), none, .pick (.t 117) (.c (.bool true)) (.t 121)⟩])
  (.keep [0, 5, 6, 8, 122] (.cond (.t 122) (.seq (.reg [⟨(some 123), none, .mv (.t 8)⟩, ⟨(some 2), none, .mv (.c (.sl 0 1 []))⟩, ⟨(some 3), none, .mv (.t 123)⟩, ⟨(some 4), none, .mv (.c (.int .i64 (2)))⟩]) .ret) .skip)))
  (.keep [0, 5, 6, 8] (.seq (.reg [⟨(some 124), none, .mv (.t 6)⟩, ⟨(some 125), none, .bin .add (.t 124) (.c (.int .i64 (1)))⟩, ⟨(some 6), none, .mv (.t 125)⟩])
  (.keep [0, 5, 6, 8] (.reg [⟨(some 126), none, .mv (.t 5)⟩, ⟨(some 127), none, .mv (.t 0)⟩, ⟨(some 128), none, .mv (.t 8)⟩, ⟨(some 129), none, .bin .add (.t 128) (.c (.int .i64 (1)))⟩, ⟨(some 130), none, .mv (.t 6)⟩, ⟨(some 131), none, .bin .sub (.t 130) (.c (.int .i64 (1)))⟩, ⟨(some 132), none, .slcs (.t 127) (some (.t 129)) (some (.t 131))⟩, ⟨(some 133), none, .mv (.t 8)⟩, ⟨(some 134), none, .bld [(.int .i64 (0)), (.str []), (.int .i64 (0))] [(0, 1, (.c (.int .i64 (2)))), (1, 1, (.t 132)), (2, 1, (.t 133))]⟩, ⟨(some 135), none, .bsl 3 true [(.int .i64 (0)), (.str []), (.int .i64 (0))] 1 [(0, (.t 134))]⟩, ⟨(some 136), none, .app 3 32 (.t 126) (.t 135)⟩, ⟨(some 5), none, .mv (.t 136)⟩]))))))))) (.seq (.reg [⟨(some 138), none, .mv (.t 7)⟩, ⟨(some 139), none, .bin .eql (.t 138) (.c (.int .u8 (58)))⟩, ⟨(some 140), none, .mv (.t 139)⟩, ⟨(some 141), (some (140, false)), .mv (.t 7)⟩, ⟨(some 142), (some (140, false)), .bin .eql (.t 141) (.c (.int .u8 (59)))⟩, ⟨(some 143), none, .pick (.t 140) (.c (.bool true)) (.t 142)⟩, ⟨(some 144), none, .mv (.t 143)⟩, ⟨(some 145), (some (144, false)), .mv (.t 7)⟩, ⟨(some 146), (some (144, false)), .bin .eql (.t 145) (.c (.int .u8 (124)))⟩, ⟨(some 147), none, .pick (.t 144) (.c (.bool true)) (.t 146)⟩, ⟨(some 148), none, .mv (.t 147)⟩, ⟨(some 149), (some (148, false)), .mv (.t 7)⟩, ⟨(some 150), (some (148, false)), .bin .eql (.t 149) (.c (.int .u8 (40)))⟩, ⟨(some 151), none, .pick (.t 148) (.c (.bool true)) (.t 150)⟩, ⟨(some 152), none, .mv (.t 151)⟩, ⟨(some 153), (some (152, false)), .mv (.t 7)⟩, ⟨(some 154), (some (152, false)), .bin .eql (.t 153) (.c (.int .u8 (41)))⟩, ⟨(some 155), none, .pick (.t 152) (.c (.bool true)) (.t 154)⟩, ⟨(some 156), none, .mv (.t 155)⟩, ⟨(some 157), (some (156, false)), .mv (.t 7)⟩, ⟨(some 158), (some (156, false)), .bin .eql (.t 157) (.c (.int .u8 (42)))⟩, ⟨(some 159), none, .pick (.t 156) (.c (.bool true)) (.t 158)⟩, ⟨(some 160), none, .mv (.t 159)⟩, ⟨(some 161), (some (160, false)), .mv (.t 7)⟩, ⟨(some 162), (some (160, false)), .bin .eql (.t 161) (.c (.int .u8 (43)))⟩, ⟨(some 163), none, .pick (.t 160) (.c (.bool true)) (.t 162)⟩, ⟨(some 164), none, .mv (.t 163)⟩, ⟨(some 165), (some (164, false)), .mv (.t 7)⟩, ⟨(some 166), (some (164, false)), .bin .eql (.t 165) (.c (.int .u8 (63)))⟩, ⟨(some 167), none, .pick (.t 164) (.c (.bool true)) (.t 166)⟩, ⟨(some 137), none, .mv (.t 167)⟩])
  (.keep [0, 5, 6, 8, 137] (.cond (.t 137) (.seq (.reg [⟨(some 168), none, .mv (.t 6)⟩, ⟨(some 169), none, .bin .add (.t 168) (.c (.int .i64 (1)))⟩, ⟨(some 6), none, .mv (.t 169)⟩])
  (.keep [0, 5, 6, 8] (.reg [⟨(some 170), none, .mv (.t 5)⟩, ⟨(some 171), none, .mv (.t 0)⟩, ⟨(some 172), none, .mv (.t 8)⟩, ⟨(some 173), none, .mv (.t 6)⟩, ⟨(some 174), none, .slcs (.t 171) (some (.t 172)) (some (.t 173))⟩, ⟨(some 175), none, .mv (.t 8)⟩, ⟨(some 176), none, .bld [(.int .i64 (0)), (.str []), (.int .i64 (0))] [(0, 1, (.c (.int .i64 (3)))), (1, 1, (.t 174)), (2, 1, (.t 175))]⟩, ⟨(some 177), none, .bsl 3 true [(.int .i64 (0)), (.str []), (.int .i64 (0))] 1 [(0, (.t 176))]⟩, ⟨(some 178), none, .app 3 32 (.t 170) (.t 177)⟩, ⟨(some 5), none, .mv (.t 178)⟩]))) (.seq (.reg [⟨(some 21), none, .mv (.t 8)⟩, ⟨(some 2), none, .mv (.c (.sl 0 1 []))⟩, ⟨(some 3), none, .mv (.t 21)⟩, ⟨(some 4), none, .mv (.c (.int .i64 (2)))⟩]) .ret)))))))))))))))))))))))) [0, 5, 6]
def A.probateref05_Scan : AFn := ⟨180, [(2, none), (3, none), (4, none)], (.seq (.reg [⟨(some 2), none, .mv (.c (.sl 0 1 []))⟩, ⟨(some 3), none, .mv (.c (.int .i64 (0)))⟩, ⟨(some 4), none, .mv (.c (.int .i64 (0)))⟩])
  (.keep [0] (.seq (.seq (.reg [⟨(some 9), none, .mv (.t 0)⟩, ⟨(some 10), none, .len true (.t 9)⟩, ⟨(some 11), none, .bin .gtr (.t 10) (.c (.int .i64 (4000)))⟩])
  (.keep [0, 11] (.cond (.t 11) (.seq (.reg [⟨(some 2), none, .mv (.c (.sl 0 1 []))⟩, ⟨(some 3), none, .mv (.c (.int .i64 (0)))⟩, ⟨(some 4), none, .mv (.c (.int .i64 (5)))⟩]) .ret) .skip)))
  (.keep [0] (.seq (.reg [⟨(some 12), none, .bsl 3 true [(.int .i64 (0)), (.str []), (.int .i64 (0))] 0 []⟩, ⟨(some 5), none, .mv (.t 12)⟩])
  (.keep [0, 5] (.seq (.reg [⟨(some 6), none, .mv (.c (.int .i64 (0)))⟩])
  (.keep [0, 5, 6] (.seq (.block 0 (.loop A.probateref05_Scan.L0))
  (.keep [5] (.seq (.reg [⟨(some 179), none, .mv (.t 5)⟩, ⟨(some 2), none, .mv (.t 179)⟩, ⟨(some 3), none, .mv (.c (.int .i64 (0)))⟩, ⟨(some 4), none, .mv (.c (.int .i64 (0)))⟩]) .ret)))))))))))⟩
def A.probateref05_Same.L0 : AC := .post (.seq (.seq (.reg [⟨(some 11), none, .mv (.t 5)⟩, ⟨(some 12), none, .mv (.t 0)⟩, ⟨(some 13), none, .len false (.t 12)⟩, ⟨(some 14), none, .bin .lss (.t 11) (.t 13)⟩])
  (.keep [0, 1, 5, 14] (.cond (.t 14) .skip (.exit 0))))
  (.keep [0, 1, 5] (.seq (.block 1 (.seq (.draw [(.pl, ⟨(some 17), none, .mv (.t 0)⟩), (.pl, ⟨(some 18), none, .mv (.t 5)⟩), (.pl, ⟨(some 19), none, .ia 3 (.t 17) (.t 18)⟩), (.pl, ⟨(some 20), none, .load true 3 (.t 19)⟩), (.pl, ⟨(some 21), none, .mv (.t 1)⟩), (.pl, ⟨(some 22), none, .mv (.t 5)⟩), (.pl, ⟨(some 23), none, .ia 3 (.t 21) (.t 22)⟩), (.pl, ⟨(some 24), none, .load true 3 (.t 23)⟩), (.pl, ⟨(some 25), none, .eqs true [(.i, 0), (.s, 1), (.i, 2)] (.t 20) (.t 24)⟩)])
  (.keep [0, 1, 5, 25] (.cond (.t 25) (.seq (.reg [⟨(some 4), none, .mv (.c (.bool false))⟩]) .ret) .skip))))
  (.keep [0, 1, 5] (.reg [⟨(some 15), none, .mv (.t 5)⟩, ⟨(some 16), none, .bin .add (.t 15) (.c (.int .i64 (1)))⟩, ⟨(some 5), none, .mv (.t 16)⟩]))))) [0, 1, 5]
def A.probateref05_Same : AFn := ⟨26, [(4, none)], (.seq (.reg [⟨(some 4), none, .mv (.c (.bool false))⟩])
  (.keep [0, 1] (.seq (.seq (.reg [⟨(some 6), none, .mv (.t 0)⟩, ⟨(some 7), none, .len false (.t 6)⟩, ⟨(some 8), none, .mv (.t 1)⟩, ⟨(some 9), none, .len false (.t 8)⟩, ⟨(some 10), none, .bin .neq (.t 7) (.t 9)⟩])
  (.keep [0, 1, 10] (.cond (.t 10) (.seq (.reg [⟨(some 4), none, .mv (.c (.bool false))⟩]) .ret) .skip)))
  (.keep [0, 1] (.seq (.seq (.reg [⟨(some 5), none, .mv (.c (.int .i64 (0)))⟩])
  (.keep [0, 1, 5] (.block 0 (.loop A.probateref05_Same.L0))))
  (.keep [] (.seq (.reg [⟨(some 4), none, .mv (.c (.bool true))⟩]) .ret)))))))⟩
def A.probatelaw05_own.L0 : AC := .post (.seq (.reg [⟨(some 10), none, .bin .lss (.t 9) (.t 8)⟩])
  (.keep [3, 7, 8, 9, 10] (.seq (.cond (.t 10) .skip (.exit 0))
  (.keep [3, 7, 8, 9] (.seq (.block 1 (.seq (.reg [⟨(some 11), none, .ia 3 (.t 7) (.t 9)⟩, ⟨(some 12), none, .load true 3 (.t 11)⟩, ⟨(some 5), none, .alloc [(.int .i64 (0)), (.str []), (.int .i64 (0))]⟩, ⟨none, none, .store 3 (.t 5) (.t 12)⟩])
  (.keep [3, 5, 7, 8, 9] (.reg [⟨(some 13), none, .mv (.t 3)⟩, ⟨(some 14), none, .load true 3 (.t 5)⟩, ⟨(some 15), none, .bsl 3 true [(.int .i64 (0)), (.str []), (.int .i64 (0))] 1 [(0, (.t 14))]⟩, ⟨(some 16), none, .app 3 32 (.t 13) (.t 15)⟩, ⟨(some 3), none, .mv (.t 16)⟩]))))
  (.keep [3, 7, 8, 9] (.reg [⟨(some 17), none, .bin .add (.t 9) (.c (.int .i64 (1)))⟩, ⟨(some 9), none, .mv (.t 17)⟩]))))))) [3, 7, 8, 9]
def A.probatelaw05_own : AFn := ⟨19, [(2, none)], (.seq (.reg [⟨(some 2), none, .mv (.c (.sl 0 1 []))⟩])
  (.keep [0] (.seq (.reg [⟨(some 6), none, .bsl 3 true [(.int .i64 (0)), (.str []), (.int .i64 (0))] 0 []⟩, ⟨(some 3), none, .mv (.t 6)⟩])
  (.keep [0, 3] (.seq (.seq (.reg [⟨(some 7), none, .mv (.t 0)⟩, ⟨(some 8), none, .len false (.t 7)⟩, ⟨(some 9), none, .mv (.c (.int .i64 (0)))⟩])
  (.keep [3, 7, 8, 9] (.block 0 (.loop A.probatelaw05_own.L0))))
  (.keep [3] (.seq (.reg [⟨(some 18), none, .mv (.t 3)⟩, ⟨(some 2), none, .mv (.t 18)⟩]) .ret)))))))⟩
def A.probatelaw05_text : AFn := ⟨12, [(2, none)], (.seq (.reg [⟨(some 1), none, .box (.t 0)⟩, ⟨(some 2), none, .mv (.c (.str []))⟩])
  (.keep [1] (.seq (.seq (.reg [⟨(some 3), none, .fa 0 (.t 1)⟩, ⟨(some 4), none, .load false 1 (.t 3)⟩, ⟨(some 5), none, .bin .eql (.t 4) (.c (.int .i64 (2)))⟩])
  (.keep [1, 5] (.cond (.t 5) (.seq (.reg [⟨(some 6), none, .fa 1 (.t 1)⟩, ⟨(some 7), none, .load false 1 (.t 6)⟩, ⟨(some 8), none, .bin .add (.c (.str [39])) (.t 7)⟩, ⟨(some 9), none, .bin .add (.t 8) (.c (.str [39]))⟩, ⟨(some 2), none, .mv (.t 9)⟩]) .ret) .skip)))
  (.keep [1] (.seq (.reg [⟨(some 10), none, .fa 1 (.t 1)⟩, ⟨(some 11), none, .load false 1 (.t 10)⟩, ⟨(some 2), none, .mv (.t 11)⟩]) .ret)))))⟩
def A.probateref05_letter : AFn := ⟨17, [(2, none)], (.seq (.reg [⟨(some 2), none, .mv (.c (.bool false))⟩])
  (.keep [0] (.seq (.reg [⟨(some 3), none, .mv (.t 0)⟩, ⟨(some 4), none, .bin .geq (.t 3) (.c (.int .u8 (65)))⟩, ⟨(some 5), none, .mv (.t 4)⟩, ⟨(some 6), (some (5, true)), .mv (.t 0)⟩, ⟨(some 7), (some (5, true)), .bin .leq (.t 6) (.c (.int .u8 (90)))⟩, ⟨(some 8), none, .pick (.t 5) (.t 7) (.c (.bool false))⟩, ⟨(some 9), none, .mv (.t 8)⟩, ⟨(some 10), (some (9, false)), .mv (.t 0)⟩, ⟨(some 11), (some (9, false)), .bin .geq (.t 10) (.c (.int .u8 (97)))⟩, ⟨(some 12), (some (9, false)), .mv (.t 11)⟩, ⟨(some 13), (some (12, true)), .mv (.t 0)⟩, ⟨(some 14), (some (12, true)), .bin .leq (.t 13) (.c (.int .u8 (122)))⟩, ⟨(some 15), (some (9, false)), .pick (.t 12) (.t 14) (.c (.bool false))⟩, ⟨(some 16), none, .pick (.t 9) (.c (.bool true)) (.t 15)⟩, ⟨(some 2), none, .mv (.t 16)⟩]) .ret)))⟩
def A.probateref05_part : AFn := ⟨17, [(2, none)], (.seq (.reg [⟨(some 2), none, .mv (.c (.bool false))⟩])
  (.keep [0] (.seq (.reg [⟨(some 3), none, .mv (.t 0)⟩, ⟨(some 4), none, .call (.c (.fn K.probateref05_letter [] [])) [(.t 3)]⟩, ⟨(some 5), none, .mv (.t 4)⟩, ⟨(some 6), (some (5, false)), .mv (.t 0)⟩, ⟨(some 7), (some (5, false)), .bin .geq (.t 6) (.c (.int .u8 (48)))⟩, ⟨(some 8), (some (5, false)), .mv (.t 7)⟩, ⟨(some 9), (some (8, true)), .mv (.t 0)⟩, ⟨(some 10), (some (8, true)), .bin .leq (.t 9) (.c (.int .u8 (57)))⟩, ⟨(some 11), (some (5, false)), .pick (.t 8) (.t 10) (.c (.bool false))⟩, ⟨(some 12), none, .pick (.t 5) (.c (.bool true)) (.t 11)⟩, ⟨(some 13), none, .mv (.t 12)⟩, ⟨(some 14), (some (13, false)), .mv (.t 0)⟩, ⟨(some 15), (some (13, false)), .bin .eql (.t 14) (.c (.int .u8 (95)))⟩, ⟨(some 16), none, .pick (.t 13) (.c (.bool true)) (.t 15)⟩, ⟨(some 2), none, .mv (.t 16)⟩]) .ret)))⟩
end Go.Proofs.Ytmobijebjkjnoaa.Al
namespace Go.Proofs.Ytmobijebjkjnoaa.Al
open Go Go.RowKit
set_option linter.unusedSimpArgs false
set_option linter.unusedVariables false
attribute [-simp] List.getD_eq_getElem?_getD Int.not_lt Int.not_le
abbrev Str := List UInt8
def bt (c : UInt8) : Int := (c.toNat : Nat)
def letterI (c : Int) : Bool := (decide (97 ≤ c) && decide (c ≤ 122)) || (decide (65 ≤ c) && decide (c ≤ 90))
def partI (c : Int) : Bool := letterI c || (decide (48 ≤ c) && decide (c ≤ 57)) || decide (c = 95)
def quotedI (c : Int) : Bool := decide (32 ≤ c) && decide (c ≤ 126) && decide (c ≠ 39)
def letterB (c : UInt8) : Bool := letterI (bt c)
def partB (c : UInt8) : Bool := partI (bt c)
def quotedB (c : UInt8) : Bool := quotedI (bt c)
def notLf (c : UInt8) : Bool := decide (bt c ≠ 10)
def marksL : Str := [58, 59, 124, 40, 41, 42, 43, 63]
/-- How many bytes ahead are such. -/
def runN (p : UInt8 → Bool) (s : Str) : Nat := (s.takeWhile p).length
theorem runN_le (p : UInt8 → Bool) (s : Str) : runN p s ≤ s.length := (List.takeWhile_prefix p).length_le
theorem runN_true : ∀ {p : UInt8 → Bool} {s : Str} {k : Nat}, k < runN p s → p (s.getD k 0) = true
  | p, [], k, h => by simp [runN] at h
  | p, c :: s, k, h => by
    unfold runN at h
    rw [List.takeWhile_cons] at h
    split at h
    · rename_i hc
      cases k with
      | zero => simpa using hc
      | succ k => simpa using runN_true (p := p) (s := s) (k := k) (by unfold runN; simpa using h)
    · simp at h
theorem runN_false : ∀ {p : UInt8 → Bool} {s : Str}, runN p s < s.length → p (s.getD (runN p s) 0) = false
  | p, [], h => by simp at h
  | p, c :: s, h => by
    have e : runN p (c :: s) = if p c = true then runN p s + 1 else 0 := by unfold runN; rw [List.takeWhile_cons]; split <;> simp
    by_cases hc : p c = true
    · rw [if_pos hc] at e; rw [e] at h ⊢
      simpa using runN_false (p := p) (s := s) (by simpa using h)
    · rw [if_neg hc] at e; rw [e]; simpa using hc
/-- A token: kind, text, place. -/
structure Tok where
  kind : Nat
  text : Str
  at' : Nat
  deriving DecidableEq
def tokC (t : Tok) : List V := [.int .i64 t.kind, .str t.text, .int .i64 t.at']
def tokV (t : Tok) : V := .agg (tokC t)
/-- The first token's kind (0: what stands between tokens), its text, how many bytes it takes. -/
def sfirst (s : Str) : Nat × Str × Nat :=
  let c := bt (s.getD 0 0)
  if c = 35 then (0, [], runN notLf s)
  else if c = 13 ∨ c = 32 ∨ c = 9 ∨ c = 10 then (0, [], 1)
  else if letterI c then (1, s.take (runN partB s), runN partB s)
  else if c = 39 then
    let n := runN quotedB (s.drop 1)
    if n = 0 ∨ n + 1 = s.length ∨ bt (s.getD (n + 1) 0) ≠ 39 then (0, [], 0) else (2, (s.take (n + 1)).drop 1, n + 2)
  else if (s.getD 0 0) ∈ marksL then (3, s.take 1, 1)
  else (0, [], 0)
/-- The tokens of a text from a place on, and where it is none. -/
def scanL : Nat → Str → Nat → List Tok × Option Nat
  | 0, _, _ => ([], none)
  | n + 1, s, k =>
    if s = [] then ([], none)
    else if (sfirst s).2.2 = 0 then ([], some k)
    else ((if (sfirst s).1 = 0 then [] else [⟨(sfirst s).1, (sfirst s).2.1, k⟩]) ++ (scanL n (s.drop (sfirst s).2.2) (k + (sfirst s).2.2)).1, (scanL n (s.drop (sfirst s).2.2) (k + (sfirst s).2.2)).2)
/-- What Scan tells. -/
def scanR (s : Str) : List Tok × Nat × Int :=
  if 4000 < s.length then ([], 0, 5) else match (scanL s.length s 0).2 with
    | some p => ([], p, 2)
    | none => ((scanL s.length s 0).1, 0, 0)
def scanV (s : Str) : V := .tup [.sl 3 0 ((scanR s).1.map tokV), .int .i64 (scanR s).2.1, .int .i64 (scanR s).2.2]
section
variable {X : Cx} {h : AH} {Q : V → AH → Prop}
/-- What layer 5's program calls. -/
structure LS (X : Cx) : Prop where
  letter : Has (Ecx X) K.scan_letter A.scan_letter
  part : Has (Ecx X) K.scan_part A.scan_part
  quoted : Has (Ecx X) K.scan_quoted A.scan_quoted
  run : Has (Ecx X) K.scan_run A.scan_run
  first : Has (Ecx X) K.scan_first A.scan_first
  scan : Has (Ecx X) K.scan_Scan A.scan_Scan
  cut : Has (Ecx X) K.strings_Cut A.strings_Cut
  indexByte : Has (Ecx X) K.strings_IndexByte A.strings_IndexByte
  lcut : Has (Ecx X) K.stringslite_Cut A.stringslite_Cut
  lindexByte : Has (Ecx X) K.stringslite_IndexByte A.stringslite_IndexByte
  lindex : Has (Ecx X) K.stringslite_Index A.stringslite_Index
  ext : ∀ (s : Str) (c : Int) (h : AH) (Q : V → AH → Prop), Q (.int .i64 (idxB s c)) h → Ecx X K.bytealg_IndexByteString [.str s, .int .u8 c] h Q
theorem letter_spec (H : Has (Ecx X) K.scan_letter A.scan_letter) (c : Int) (hQ : Q (.bool (letterI c)) h) : Ecx X K.scan_letter [.int .u8 c] h Q := by
  refine fn_walk H (by simp [A.scan_letter]) fun wf => ?_
  by_cases h1 : 97 ≤ c <;> by_cases h2 : c ≤ 122 <;> by_cases h3 : 65 ≤ c <;> by_cases h4 : c ≤ 90 <;> first | omega | (simp [A.scan_letter, h1, h2, h3, h4]; exact fin (by simp) (by simpa [letterI, h1, h2, h3, h4] using hQ))
theorem part_spec (L : LS X) (c : Int) (hQ : Q (.bool (partI c)) h) : Ecx X K.scan_part [.int .u8 c] h Q := by
  refine fn_walk L.part (by simp [A.scan_part]) fun wf => ?_
  simp [A.scan_part]
  refine ecall (letter_spec L.letter c ?_)
  unfold partI at hQ
  generalize letterI c = b at *
  cases b <;> by_cases h1 : 48 ≤ c <;> by_cases h2 : c ≤ 57 <;> by_cases h3 : c = 95 <;> first | omega | (simp [h1, h2, h3]; exact fin (by simp) (by simpa [h1, h2, h3] using hQ))
theorem quoted_spec (L : LS X) (c : Int) (hQ : Q (.bool (quotedI c)) h) : Ecx X K.scan_quoted [.int .u8 c] h Q := by
  refine fn_walk L.quoted (by simp [A.scan_quoted]) fun wf => ?_
  by_cases h1 : 32 ≤ c <;> by_cases h2 : c ≤ 126 <;> by_cases h3 : c = 39 <;> first | omega | (simp [A.scan_quoted, h1, h2, h3]; exact fin (by simp) (by simpa [quotedI, h1, h2, h3] using hQ))
theorem run_spec (L : LS X) (s : Str) (kf : Nat) (p : UInt8 → Bool) (hp : ∀ (c : UInt8) (h : AH) (Q : V → AH → Prop), Q (.bool (p c)) h → Ecx X kf [.int .u8 (bt c)] h Q) (hl : s.length < 2 ^ 62)
    (hQ : Q (.int .i64 (runN p s)) h) : Ecx X K.scan_run [.str s, .fn kf [] []] h Q := by
  refine fn_walk L.run (by simp [A.scan_run]) fun wf => ?_
  simp [A.scan_run]
  refine loopZ (n := s.length) (fun m env h' => ∃ k, k ≤ runN p s ∧ m = s.length - k ∧ h' = h ∧ env = [(0, .str s), (1, .fn kf [] []), (5, .int .i64 k)]) ?_ ⟨0, by omega, by omega, rfl, rfl⟩
  rintro m env h' ⟨k, hk, rfl, rfl, rfl⟩
  have hle := runN_le p s
  unfold A.scan_run.L0
  by_cases hlt : k < s.length
  · have hlt' : (k : Int) < s.length := by omega
    simp [hlt']
    refine ecall (hp (s.getD k 0) _ _ ?_)
    by_cases hk2 : k < runN p s
    · have := runN_true hk2
      simp [this]
      exact ⟨s.length - (k + 1), by omega, k + 1, by omega, rfl, by rw [wrap_i64 (by omega) (by omega)]; rfl⟩
    · have hk3 : k = runN p s := by omega
      have := runN_false (p := p) (s := s) (by omega)
      rw [← hk3] at this hQ
      simp [this]
      exact fin (by simp) hQ
  · have hlt' : ¬ (k : Int) < s.length := by omega
    have hk3 : k = runN p s := by omega
    rw [← hk3] at hQ
    simp [hlt']
    exact fin (by simp) hQ
end
end Go.Proofs.Ytmobijebjkjnoaa.Al
namespace Go.Proofs.Ytmobijebjkjnoaa.Al
open Go Go.RowKit
set_option linter.unusedSimpArgs false
set_option linter.unusedVariables false
attribute [-simp] List.getD_eq_getElem?_getD Int.not_lt Int.not_le List.drop_one
theorem bt_inj {a b : UInt8} : bt a = bt b ↔ a = b := by
  unfold bt
  constructor
  · intro h; exact UInt8.toNat_inj.1 (by omega)
  · intro h; rw [h]
theorem bt_toUInt8 (c : UInt8) : (bt c).toNat.toUInt8 = c := by unfold bt; simp
theorem idxB_mem : ∀ (l : Str) (c : UInt8), 0 ≤ idxB l (bt c) ↔ c ∈ l
  | [], c => by simp [idxB, Go.Lib.indexByte]
  | b :: l, c => by
    have ih := idxB_mem l c
    unfold idxB at ih ⊢
    rw [bt_toUInt8] at ih ⊢
    have hg := Go.Lib.indexByte_ge l c
    unfold Go.Lib.indexByte
    by_cases hb : (b == c) = true
    · have : b = c := by simpa using hb
      subst this
      rw [if_pos hb]; simp
    · have : ¬ c = b := by intro e; apply hb; simp [e]
      rw [if_neg hb]
      simp only [List.mem_cons, this, false_or]
      rw [← ih]
      by_cases h1 : (Go.Lib.indexByte l c == -1) = true
      · rw [if_pos h1]
        have : Go.Lib.indexByte l c = -1 := by simpa using h1
        rw [this]
      · rw [if_neg h1]
        have : ¬ Go.Lib.indexByte l c = -1 := by simpa using h1
        omega
theorem runN_cons (p : UInt8 → Bool) (c : UInt8) (s : Str) : runN p (c :: s) = if p c = true then runN p s + 1 else 0 := by unfold runN; rw [List.takeWhile_cons]; split <;> simp
theorem idxB_lf : ∀ (s : Str), idxB s 10 = if runN notLf s < s.length then (runN notLf s : Int) else -1
  | [] => rfl
  | b :: l => by
    have ih := idxB_lf l
    have hle := runN_le notLf l
    unfold idxB at ih ⊢
    unfold Go.Lib.indexByte
    rw [runN_cons]
    have e10 : (10 : Int).toNat.toUInt8 = 10 := rfl
    rw [e10] at ih ⊢
    by_cases hb : (b == 10) = true
    · have : b = 10 := by simpa using hb
      subst this
      rw [if_pos hb]
      simp [notLf, bt]
    · have hb' : ¬ b = 10 := by simpa using hb
      have : notLf b = true := by
        simp only [notLf, decide_eq_true_eq]
        intro e; apply hb'; rw [← bt_inj, e]; rfl
      rw [if_neg hb, ih, this]
      simp only [if_true, List.length_cons]
      by_cases h1 : runN notLf l < l.length
      · rw [if_pos h1, if_neg (by simp), if_pos (by omega)]; omega
      · simp [h1]
theorem take_runN (p : UInt8 → Bool) (s : Str) : s.take (runN p s) = s.takeWhile p := by
  unfold runN; exact (List.prefix_iff_eq_take.1 (List.takeWhile_prefix p)).symm
section
variable {X : Cx} {h : AH} {Q : V → AH → Prop}
theorem indexByte_spec (L : LS X) (s : Str) (c : Int) (hQ : Q (.int .i64 (idxB s c)) h) : Ecx X K.strings_IndexByte [.str s, .int .u8 c] h Q := by
  refine fn_walk L.indexByte (by simp [A.strings_IndexByte]) fun wf => ?_
  simp [A.strings_IndexByte]
  refine ecall (fn_walk L.lindexByte (by simp [A.stringslite_IndexByte]) fun wf => ?_)
  simp [A.stringslite_IndexByte]
  refine ecall (L.ext s c _ _ ?_)
  simp
  refine fin (by simp) ?_
  simp
  exact fin (by simp) hQ
theorem indexlf_spec (L : LS X) (s : Str) (hQ : Q (.int .i64 (idxB s 10)) h) : Ecx X K.stringslite_Index [.str s, .str [10]] h Q := by
  refine fn_walk L.lindex (by simp [A.stringslite_Index]) fun wf => ?_
  by_cases h1 : s = [10]
  · subst h1
    simp [A.stringslite_Index]
    refine fin (by simp) ?_
    simpa [idxB_lf, runN, notLf, bt] using hQ
  · have h1' : ¬ [10] = s := fun e => h1 e.symm
    simp [A.stringslite_Index, h1']
    refine ecall (fn_walk L.lindexByte (by simp [A.stringslite_IndexByte]) fun wf => ?_)
    simp [A.stringslite_IndexByte]
    refine ecall (L.ext s 10 _ _ ?_)
    simp
    refine fin (by simp) ?_
    simp
    exact fin (by simp) hQ
theorem cutlf_spec (L : LS X) (s : Str) (hl : s.length < 2 ^ 62) (hQ : ∀ a b, Q (.tup [.str (s.take (runN notLf s)), .str a, .bool b]) h) : Ecx X K.strings_Cut [.str s, .str [10]] h Q := by
  refine fn_walk L.cut (by simp [A.strings_Cut]) fun wf => ?_
  simp [A.strings_Cut]
  refine ecall (fn_walk L.lcut (by simp [A.stringslite_Cut]) fun wf => ?_)
  simp [A.stringslite_Cut]
  have hle := runN_le notLf s
  have hb := idxB_lf s
  refine ecall (indexlf_spec L s ?_)
  rw [hb]
  by_cases h1 : runN notLf s < s.length
  · have h2 : (0 : Int) ≤ (runN notLf s : Nat) := by omega
    have h3 : ((runN notLf s : Nat) : Int) ≤ s.length := by omega
    have h4 : IntKind.i64.wrap (((runN notLf s : Nat) : Int) + 1) = ((runN notLf s + 1 : Nat) : Int) := by rw [wrap_i64 (by omega) (by omega)]; rfl
    have h5 : ((runN notLf s + 1 : Nat) : Int) ≤ s.length := by omega
    have h6 : (0 : Int) ≤ ((runN notLf s + 1 : Nat) : Int) := by omega
    rw [if_pos h1]
    simp [h2, h3, h4, h5, h6]
    refine ⟨by omega, by omega, fin (by simp) ?_⟩
    simp
    exact fin (by simp) (hQ _ _)
  · rw [if_neg h1]
    simp
    refine fin (by simp) ?_
    simp
    have : s.take (runN notLf s) = s := List.take_of_length_le (by omega)
    refine fin (by simp) ?_
    have := hQ [] false
    rw [List.take_of_length_le (by omega)] at this
    exact this
def sfirstV (s : Str) : V := .tup [.int .i64 (sfirst s).1, .str (sfirst s).2.1, .int .i64 (sfirst s).2.2]
theorem first_spec' (L : LS X) (s : Str) (c : Int) (n : Nat) (hc : bt (s.getD 0 0) = c) (hn : runN quotedB (s.drop 1) = n) (hne : s ≠ []) (hl : s.length < 2 ^ 62) (hQ : Q (sfirstV s) h) : Ecx X K.scan_first [.str s] h Q := by
  refine fn_walk L.first (by simp [A.scan_first]) fun wf => ?_
  have hpos : 0 < s.length := List.length_pos_iff.2 hne
  have hpos' : (0 : Int) < s.length := by omega
  have hmk := idxB_mem marksL (s.getD 0 0)
  unfold sfirstV sfirst at hQ
  simp only at hQ
  have hc0 : ((s.getD 0 0).toNat : Int) = bt (s.getD 0 0) := rfl
  simp [A.scan_first, hc0]
  rw [hc] at hmk
  simp only [hc] at hQ ⊢
  by_cases h1 : c = 35
  · rw [if_pos h1] at hQ
    simp [h1, hc0, hc, hpos]
    refine ecall (cutlf_spec L s hl fun a b => ?_)
    have := runN_le notLf s
    have e : min (runN notLf s) s.length = runN notLf s := by omega
    simp [e]
    exact fin (by simp) hQ
  rw [if_neg h1] at hQ
  by_cases h2 : c = 13
  · rw [if_pos (.inl h2)] at hQ
    simp [h1, h2, hc0, hc, hpos]
    exact fin (by simp) hQ
  by_cases h3 : c = 32
  · rw [if_pos (.inr (.inl h3))] at hQ
    simp [h1, h2, h3, hc0, hc, hpos]
    exact fin (by simp) hQ
  by_cases h4 : c = 9
  · rw [if_pos (.inr (.inr (.inl h4)))] at hQ
    simp [h1, h2, h3, h4, hc0, hc, hpos]
    exact fin (by simp) hQ
  by_cases h5 : c = 10
  · rw [if_pos (.inr (.inr (.inr h5)))] at hQ
    simp [h1, h2, h3, h4, h5, hc0, hc, hpos]
    exact fin (by simp) hQ
  rw [if_neg (by omega)] at hQ
  simp [h1, h2, h3, h4, h5, hc0, hc, hpos]
  refine ecall (letter_spec L.letter c ?_)
  by_cases h6 : letterI c = true
  · rw [if_pos h6] at hQ
    have hr := runN_le partB s
    have hr0 : (0 : Int) ≤ (runN partB s : Nat) := by omega
    have hr1 : ((runN partB s : Nat) : Int) ≤ s.length := by omega
    simp [h6, hc0, hc]
    refine ecall (run_spec L s K.scan_part partB (fun c h Q hq => part_spec L _ hq) hl ?_)
    simp [hr0, hr1]
    exact fin (by simp) hQ
  rw [if_neg h6] at hQ
  simp [h6, hc0, hc]
  by_cases h7 : c = 39
  · rw [if_pos h7] at hQ
    have hr := runN_le quotedB (s.drop 1)
    have hp1 : (1 : Int) ≤ s.length := by omega
    simp at hr
    simp [h7, hp1]
    refine ecall (run_spec L (s.drop 1) K.scan_quoted quotedB (fun c h Q hq => quoted_spec L _ hq) (by simp; omega) ?_)
    simp
    rw [hn] at hr
    simp only [hn] at hQ
    simp [hn]
    have hw : IntKind.i64.wrap ((n : Int) + 1) = ((n + 1 : Nat) : Int) := by rw [wrap_i64 (by omega) (by omega)]; rfl
    have hw2 : IntKind.i64.wrap ((n : Int) + 2) = ((n + 2 : Nat) : Int) := by rw [wrap_i64 (by omega) (by omega)]; rfl
    by_cases k1 : n = 0
    · rw [if_pos (.inl k1)] at hQ
      subst k1
      simp [hn]
      exact fin (by simp) hQ
    by_cases k2 : n + 1 = s.length
    · rw [if_pos (.inr (.inl k2))] at hQ
      have k2' : ((n + 1 : Nat) : Int) = s.length := by omega
      simp [hn, hw, k1, k2', -Int.natCast_add]
      exact fin (by simp) hQ
    have k2' : ¬ ((n + 1 : Nat) : Int) = s.length := by omega
    have k3 : ((n + 1 : Nat) : Int) < s.length := by omega
    have k4 : (0 : Int) ≤ ((n + 1 : Nat) : Int) := by omega
    have hc1 : ((s.getD (n + 1) 0).toNat : Int) = bt (s.getD (n + 1) 0) := rfl
    by_cases k5 : bt (s.getD (n + 1) 0) = 39
    · rw [if_neg (by omega)] at hQ
      have k6 : ((n + 1 : Nat) : Int) ≤ s.length := by omega
      have k7 : (1 : Int) ≤ ((n + 1 : Nat) : Int) := by omega
      simp [hn, hw, k1, k2', k3, k4, hc1, k5, hw, k6, k7, hw2, -Int.natCast_add]
      exact fin (by simp) hQ
    · rw [if_pos (.inr (.inr k5))] at hQ
      simp [hn, hw, k1, k2', k3, k4, hc1, k5, -Int.natCast_add]
      exact fin (by simp) hQ
  rw [if_neg h7] at hQ
  simp [h7]
  refine ecall (indexByte_spec L marksL c ?_)
  by_cases h8 : (s.getD 0 0) ∈ marksL
  · rw [if_pos h8] at hQ
    have hm := hmk.2 h8
    have hp1 : (1 : Int) ≤ s.length := by omega
    simp [hm, hp1]
    exact fin (by simp) hQ
  · rw [if_neg h8] at hQ
    have hm : ¬ 0 ≤ idxB marksL c := fun e => h8 (hmk.1 e)
    simp [hm]
    exact fin (by simp) hQ
theorem first_spec (L : LS X) (s : Str) (hne : s ≠ []) (hl : s.length < 2 ^ 62) (hQ : Q (sfirstV s) h) : Ecx X K.scan_first [.str s] h Q := first_spec' L s _ _ rfl rfl hne hl hQ
end
end Go.Proofs.Ytmobijebjkjnoaa.Al
