/-
  Layer 1, vary, by the abstract layer: what Put, Take and their references tell. Conditions: each theorem's own.
-/
import Derived.Test.YtbbmglginkabfaaAlC
import Derived.Test.YtbbmglginkabfaaAlFvary
import Derived.Test.YtbbmglginkabfaaAlFl01
namespace Go.Proofs.Ytbbmglginkabfaa.Al
open Go Go.RowKit
set_option linter.unusedSimpArgs false
set_option linter.unusedVariables false
attribute [-simp] List.getD_eq_getElem?_getD Int.not_lt Int.not_le

def u8 (b : Nat) : V := .int .u8 b
def u8s (l : List Nat) : List V := l.map u8
@[simp] theorem u8s_nil : u8s [] = [] := rfl
@[simp] theorem u8s_length (l : List Nat) : (u8s l).length = l.length := by simp [u8s]
theorem u8s_append (l m : List Nat) : u8s (l ++ m) = u8s l ++ u8s m := by simp [u8s]
theorem u8s_getD {l : List Nat} {i : Nat} (h : i < l.length) : (u8s l).getD i .undef = .int .u8 (l.getD i 0 : Nat) := by
  simp [u8s, List.getD, List.getElem?_eq_getElem h, u8]
theorem u8s_one (b : Nat) : [V.int .u8 (b : Int)] = u8s [b] := rfl
theorem cellsOf_u8s (l : List Nat) : cellsOf (u8s l) = u8s l := by
  induction l with
  | nil => rfl
  | cons b l ih => show V.cells (u8 b) ++ cellsOf (u8s l) = _; rw [ih]; rfl
theorem Bdd_u8s (n m : Nat) (l : List Nat) : ∀ v ∈ u8s l, Bdd n m v := by
  intro v hv; simp [u8s] at hv; obtain ⟨b, _, rfl⟩ := hv; exact .int _ _

/-- A number's bytes. -/
def vput (n : Nat) : List Nat := if n < 128 then [n] else (n % 128 + 128) :: vput (n / 128)
theorem vput_len : ∀ (k n : Nat), n < 128 ^ (k + 1) → (vput n).length ≤ k + 1
  | 0, n, h => by rw [vput, if_pos (by simpa using h)]; simp
  | k + 1, n, h => by
    rw [vput]
    split
    · simp
    · have := vput_len k (n / 128) (Nat.div_lt_of_lt_mul (by rw [Nat.pow_succ, Nat.mul_comm] at h; exact h))
      simp; omega
theorem vput_len64 {n : Nat} (h : n < 2 ^ 64) : (vput n).length ≤ 10 := vput_len 9 n (by omega)
theorem wrap_u8 (n : Nat) : IntKind.u8.wrap (n : Int) = ((n % 256 : Nat) : Int) := by simp [IntKind.wrap, IntKind.bits, IntKind.signed]
theorem or128 : ∀ b : Nat, b < 256 → b ||| 128 = b % 128 + 128 := by decide +kernel
theorem or128_u8 (n : Nat) : bitOr .u8 (IntKind.u8.wrap (n : Int)) 128 = ((n % 128 + 128 : Nat) : Int) := by
  have h1 : (BitVec.ofInt IntKind.u8.bits ((n % 256 : Nat) : Int) ||| BitVec.ofInt IntKind.u8.bits 128).toNat = n % 256 ||| 128 := by
    show (BitVec.ofInt 8 ((n % 256 : Nat) : Int) ||| BitVec.ofInt 8 128).toNat = _
    rw [BitVec.toNat_or]
    have : (BitVec.ofInt 8 ((n % 256 : Nat) : Int)).toNat = n % 256 := by
      rw [show ((n % 256 : Nat) : Int) = Int.ofNat (n % 256) from rfl]
      simp [BitVec.toNat_ofInt]
      omega
    rw [this]; rfl
  unfold bitOr
  rw [wrap_u8 n, h1, or128 _ (by omega), wrap_u8]; congr 1; omega
theorem shr7 (n : Nat) : (n : Int).fdiv (2 ^ 7) = ((n / 128 : Nat) : Int) := by
  rw [Int.fdiv_eq_ediv_of_nonneg _ (by decide)]; rfl

section
variable {X : Cx} {h : AH} {Q : V → AH → Prop}

theorem put_spec (H : Has (Ecx X) K.vary_Put A.vary_Put) (n : Nat) (hn : n < 2 ^ 64) (hQ : Q (.sl 1 0 (u8s (vput n))) h) : Ecx X K.vary_Put [.int .u64 n] h Q := by
  refine fn_walk H (by simp [A.vary_Put]) fun wf => ?_
  have hlen := vput_len64 hn
  simp [A.vary_Put]
  refine loopZ (n := n) (fun m env h' => ∃ l e1 st, env = [(0, .int .u64 m), (3, .sl e1 st (u8s l))] ∧ m < 2 ^ 64 ∧ Own h h' 1 e1 st (u8s l) ∧ l ++ vput m = vput n) ?_ ⟨[], 0, 1, rfl, hn, Own.nil h 1, rfl⟩
  rintro m env h' ⟨l, e1, st, rfl, hm, o, hl⟩
  have hll : l.length ≤ 10 := by rw [← hl] at hlen; simp at hlen; omega
  have hv : vput m = if m < 128 then [m] else (m % 128 + 128) :: vput (m / 128) := by rw [vput]
  by_cases hc : m < 128
  · have hc' : ¬ (128 : Int) ≤ m := by omega
    rw [if_pos hc] at hv
    simp [A.vary_Put.L0, hc', wrap_u8]
    have e : [V.int .u8 ((m : Int) % 256)] = u8s [m] := by simp [u8s, u8]; omega
    rw [e]
    refine o.appZ (fun _ => rfl) (by simp; omega) fun e1' st' h'' o' _ _ => ?_
    simp
    refine fin_own o' ?_ ?_
    · rw [← u8s_append, cellsOf_u8s]; exact Bdd_u8s _ _ _
    · rw [← u8s_append, ← hv, hl]; exact hQ
  · have hc' : (128 : Int) ≤ m := by omega
    rw [if_neg hc] at hv
    simp [A.vary_Put.L0, hc', or128_u8]
    have e : [V.int .u8 ((m : Int) % 128 + 128)] = u8s [m % 128 + 128] := by simp [u8s, u8]
    rw [e]
    refine o.appZ (fun _ => rfl) (by simp; omega) fun e1' st' h'' o' _ _ => ?_
    simp
    exact ⟨m / 128, by omega, l ++ [m % 128 + 128], e1', st', ⟨by exact shr7 m, rfl, rfl, by rw [u8s_append]⟩, by omega, by rw [u8s_append]; exact o', by rw [← hl, hv]; simp⟩

theorem take_ext {a b : List Nat} {k : Nat} (ha : k < a.length) (hb : k < b.length) (h : a.take k = b.take k) (e : a.getD k 0 = b.getD k 0) : a.take (k + 1) = b.take (k + 1) := by
  rw [List.take_succ_eq_append_getElem ha, List.take_succ_eq_append_getElem hb, h]
  simp [List.getD, List.getElem?_eq_getElem ha, List.getElem?_eq_getElem hb] at e
  rw [e]
theorem same1_spec (H : Has (Ecx X) K.probateref01_Same A.probateref01_Same) (a b : List Nat) (s t : Nat) (ha : a.length ≤ maxLen) (hQ : Q (.bool (decide (a = b))) h) :
    Ecx X K.probateref01_Same [.sl 1 s (u8s a), .sl 1 t (u8s b)] h Q := by
  refine fn_walk H (by simp [A.probateref01_Same]) fun wf => ?_
  unfold maxLen at ha
  by_cases hl : a.length = b.length
  · have hl' : (a.length : Int) = b.length := by omega
    simp [A.probateref01_Same, hl']
    refine loopZ (n := a.length) (fun m env h' => ∃ k, k ≤ a.length ∧ m = a.length - k ∧ h' = h ∧ env = [(0, .sl 1 s (u8s a)), (1, .sl 1 t (u8s b)), (5, .int .i64 k)] ∧ a.take k = b.take k) ?_ ⟨0, by omega, by omega, rfl, rfl, rfl⟩
    rintro m env h' ⟨k, hk, rfl, rfl, rfl, he⟩
    by_cases hlt : k < a.length
    · have hlt' : (k : Int) < b.length := by omega
      have hga := u8s_getD hlt
      have hgb := u8s_getD (show k < b.length by omega)
      by_cases e : a.getD k 0 = b.getD k 0
      · have e' : ((a.getD k 0 : Nat) : Int) = (b.getD k 0 : Nat) := by omega
        simp [A.probateref01_Same.L0, hl', hlt', hga, hgb, e']
        rw [wrap_i64 (by omega) (by omega)]
        exact ⟨a.length - (k + 1), by omega, k + 1, by omega, rfl, by simp, take_ext hlt (by omega) he e⟩
      · have e' : ¬ ((a.getD k 0 : Nat) : Int) = (b.getD k 0 : Nat) := by omega
        simp [A.probateref01_Same.L0, hl', hlt', hga, hgb, e']
        refine fin (by simp) ?_
        have : decide (a = b) = false := by simp; intro h; rw [h] at e; exact e rfl
        rw [this] at hQ; exact hQ
    · have hlt' : ¬ (k : Int) < b.length := by omega
      simp [A.probateref01_Same.L0, hl', hlt']
      refine fin (by simp) ?_
      have hk : k = a.length := by omega
      rw [hk, List.take_length, hl, List.take_length] at he
      simpa [he] using hQ
  · have hl' : ¬ (a.length : Int) = b.length := by omega
    simp [A.probateref01_Same, hl']
    refine fin (by simp) ?_
    have : decide (a = b) = false := by simp; intro h; exact hl (by rw [h])
    rw [this] at hQ; exact hQ

end
/-! ### Taking -/
/-- How many bytes ahead are not the last one of a number. -/
def ld : List Nat → Nat
  | [] => 0
  | c :: r => if c < 128 then 0 else ld r + 1
theorem ld_le : ∀ b : List Nat, ld b ≤ b.length
  | [] => by simp [ld]
  | c :: r => by have := ld_le r; unfold ld; split <;> simp; omega
theorem ld_big : ∀ (b : List Nat) (k : Nat), k < ld b → 128 ≤ b.getD k 0
  | [], k, h => by simp [ld] at h
  | c :: r, k, h => by
    unfold ld at h
    split at h
    · omega
    · cases k with
      | zero => simp; omega
      | succ k => simp; exact ld_big r k (by omega)
theorem ld_small : ∀ (b : List Nat), ld b < b.length → b.getD (ld b) 0 < 128
  | [], h => by simp at h
  | c :: r, h => by
    unfold ld at h ⊢
    split at h
    · rename_i q; rw [if_pos q]; exact q
    · rename_i q; rw [if_neg q]; simp at h ⊢; exact ld_small r h
/-- The number of bytes. -/
def nval : List Nat → Nat
  | [] => 0
  | c :: r => c % 128 + 128 * nval r
theorem nval_le : ∀ l : List Nat, nval l < 128 ^ l.length
  | [] => by simp [nval]
  | c :: r => by have := nval_le r; simp [nval, Nat.pow_succ]; omega
theorem nval_step {l : List Nat} {i : Nat} (h : i < l.length) : nval (l.drop i) = l.getD i 0 % 128 + 128 * nval (l.drop (i + 1)) := by
  rw [List.drop_eq_getElem_cons h]; simp [nval, List.getD, List.getElem?_eq_getElem h]
theorem nval_drop : ∀ (l : List Nat) (i : Nat), nval (l.drop i) ≤ nval l
  | [], i => by simp
  | c :: r, 0 => by simp
  | c :: r, i + 1 => by have := nval_drop r i; simp [nval]; omega
/-- What is taken of bytes: the number, its size, what is wrong. -/
def vtake (b : List Nat) : Nat × Nat × Nat :=
  if 10 ≤ ld b then (0, 0, 4)
  else if ld b = b.length then (0, 0, 3)
  else if ld b = 9 ∧ 1 < b.getD 9 0 then (0, 0, 4)
  else if 0 < ld b ∧ b.getD (ld b) 0 = 0 then (0, 0, 2)
  else (nval (b.take (ld b + 1)), ld b + 1, 0)
def vtakeV (b : List Nat) : V := .tup [.int .u64 (vtake b).1, .int .i64 (vtake b).2.1, .int .i64 (vtake b).2.2]
theorem nval_nine {l : List Nat} : ∀ {k : Nat}, l.length = k + 1 → l.getD k 0 ≤ 1 → nval l < 2 * 128 ^ k := by
  induction l with
  | nil => intro k h; simp at h
  | cons c r ih =>
    intro k h h1
    cases k with
    | zero =>
      have : r = [] := List.eq_nil_of_length_eq_zero (by simpa using h)
      subst this
      simp at h1
      simp [nval]; omega
    | succ k =>
      have := ih (k := k) (by simpa using h) (by simpa using h1)
      simp [nval, Nat.pow_succ]; omega
theorem nval64 {b : List Nat} (h1 : ld b ≤ 9) (h2 : ld b < b.length) (h3 : ¬ (ld b = 9 ∧ 1 < b.getD 9 0)) : nval (b.take (ld b + 1)) < 2 ^ 64 := by
  have hl : (b.take (ld b + 1)).length = ld b + 1 := by simp; omega
  by_cases h9 : ld b = 9
  · have := nval_nine (l := b.take (ld b + 1)) (k := 9) (by omega) (by
      have : (b.take (ld b + 1)).getD 9 0 = b.getD 9 0 := by simp [List.getD, List.getElem?_take, h9]
      rw [this]; omega)
    omega
  · have h := nval_le (b.take (ld b + 1))
    rw [hl] at h
    have : 128 ^ (ld b + 1) ≤ 128 ^ 9 := Nat.pow_le_pow_right (by decide) (by omega)
    omega
theorem andNot128 : ∀ b : Nat, b < 256 → bitAndNot .u8 (b : Int) 128 = ((b % 128 : Nat) : Int) := by decide +kernel
theorem wrap_u64_nat {n : Nat} (h : n < 2 ^ 64) : IntKind.u64.wrap (n : Int) = n := wrap_u64 (by omega) (by omega)
theorem or_u64 {n c : Nat} (hn : 128 * n + c < 2 ^ 64) (hc : c < 128) : bitOr .u64 ((n : Int) * 128) (c : Int) = ((c + 128 * n : Nat) : Int) := by
  have e1 : (BitVec.ofInt 64 ((n : Int) * 128)).toNat = 128 * n := by
    rw [show (n : Int) * 128 = ((128 * n : Nat) : Int) by omega, BitVec.ofInt_natCast, BitVec.toNat_ofNat, Nat.mod_eq_of_lt (by omega)]
  have e2 : (BitVec.ofInt 64 ((c : Nat) : Int)).toNat = c := by
    rw [BitVec.ofInt_natCast, BitVec.toNat_ofNat, Nat.mod_eq_of_lt (by omega)]
  have h1 : (BitVec.ofInt IntKind.u64.bits ((n : Int) * 128) ||| BitVec.ofInt IntKind.u64.bits (c : Int)).toNat = 128 * n + c := by
    show (BitVec.ofInt 64 ((n : Int) * 128) ||| BitVec.ofInt 64 (c : Int)).toNat = _
    rw [BitVec.toNat_or, e1, e2]
    have := Nat.two_pow_add_eq_or_of_lt (i := 7) (b := c) hc n
    rw [show (2 : Nat) ^ 7 = 128 from rfl] at this
    omega
  unfold bitOr
  rw [h1, wrap_u64_nat hn]; omega
section
variable {X : Cx} {h : AH} {Q : V → AH → Prop}
def vend (b : List Nat) : Int := if ld b < b.length ∧ ld b ≤ 9 then (ld b : Nat) else -1
theorem end_spec (H : Has (Ecx X) K.vary_end A.vary_end) (b : List Nat) (s : Nat) (hl : b.length ≤ maxLen) (hQ : Q (.int .i64 (vend b)) h) : Ecx X K.vary_end [.sl 1 s (u8s b)] h Q := by
  refine fn_walk H (by simp [A.vary_end]) fun wf => ?_
  unfold maxLen at hl
  simp [A.vary_end]
  refine loopZ (n := b.length) (fun m env h' => ∃ k, k ≤ ld b ∧ k ≤ 10 ∧ m = b.length - k ∧ h' = h ∧ env = [(3, .int .i64 (-1)), (6, .sl 1 s (u8s b)), (7, .int .i64 b.length), (8, .int .i64 k)]) ?_ ⟨0, by omega, by omega, by omega, rfl, rfl⟩
  rintro m env h' ⟨k, hk, hk10, rfl, rfl, rfl⟩
  have hld := ld_le b
  by_cases hlt : k < b.length
  · have hlt' : (k : Int) < b.length := by omega
    have hg := u8s_getD hlt
    by_cases h10 : k = 10
    · subst h10
      have h11 : (10 : Int) < b.length := by omega
      simp [A.vary_end.L0, h11, hg]
      refine fin (by simp) ?_
      have : vend b = -1 := by unfold vend; rw [if_neg (by omega)]
      rw [this] at hQ; exact hQ
    · have h10' : ¬ (k : Int) = 10 := by omega
      by_cases hc : k = ld b
      · have := ld_small b (by omega)
        rw [← hc] at this
        have hc' : ((b.getD k 0 : Nat) : Int) < 128 := by omega
        simp [A.vary_end.L0, hlt', hg, h10', hc']
        refine fin (by simp) ?_
        have : vend b = k := by unfold vend; rw [if_pos (by omega)]; omega
        rw [this] at hQ; exact hQ
      · have := ld_big b k (by omega)
        have hc' : ¬ ((b.getD k 0 : Nat) : Int) < 128 := by omega
        simp [A.vary_end.L0, hlt', hg, h10', hc']
        rw [wrap_i64 (by omega) (by omega)]
        exact ⟨b.length - (k + 1), by omega, k + 1, by omega, by omega, rfl, by simp⟩
  · have hlt' : ¬ (k : Int) < b.length := by omega
    simp [A.vary_end.L0, hlt']
    refine fin (by simp) ?_
    have : vend b = -1 := by unfold vend; rw [if_neg (by omega)]
    rw [this] at hQ; exact hQ
theorem bytes_getD {b : List Nat} (hb : ∀ x ∈ b, x < 256) (k : Nat) : b.getD k 0 < 256 := by
  by_cases hk : k < b.length
  · simp [List.getD, List.getElem?_eq_getElem hk]; exact hb _ (List.getElem_mem hk)
  · simp [List.getD, List.getElem?_eq_none (by omega : b.length ≤ k)]
theorem take_loop {b : List Nat} {s k : Nat} (hk : k < b.length) (hl : b.length ≤ maxLen) (hb : ∀ x ∈ b, x < 256) (h64 : nval (b.take (k + 1)) < 2 ^ 64) {Q : Ex → Env → AH → Prop} {zQ : Lz Q} {z : Lz (AC.loop A.vary_Take.L0)}
    (hQ : Q (.exit 1) [(0, .sl 1 s (u8s b)), (5, .int .i64 k), (6, .int .u64 (nval (b.take (k + 1)))), (7, .int .i64 (-1)), (42, .bool false)] h) :
    acZ (Ecx X) [(0, .sl 1 s (u8s b)), (5, .int .i64 k), (6, .int .u64 0), (7, .int .i64 k)] h z zQ := by
  unfold maxLen at hl
  refine loopZ (n := k + 1) (fun m env h' => m ≤ k + 1 ∧ h' = h ∧ env = [(0, .sl 1 s (u8s b)), (5, .int .i64 k), (6, .int .u64 (nval ((b.take (k + 1)).drop m))), (7, .int .i64 ((m : Int) - 1))]) ?_ ⟨by omega, rfl, ?_⟩
  · rintro m env h' ⟨hm, rfl, rfl⟩
    cases m with
    | zero => simpa [A.vary_Take.L0] using hQ
    | succ j =>
      have hj : j < b.length := by omega
      have e1 : ((j + 1 : Nat) : Int) - 1 = j := by omega
      have h0 : (0 : Int) ≤ j := by omega
      have hlt : (j : Int) < b.length := by omega
      have hg := u8s_getD hj
      have hlen : (b.take (k + 1)).length = k + 1 := by simp; omega
      have hst := nval_step (l := b.take (k + 1)) (i := j) (by omega)
      have hge : (b.take (k + 1)).getD j 0 = b.getD j 0 := by simp [List.getD, List.getElem?_take, show j < k + 1 by omega]
      have hdr := nval_drop (b.take (k + 1)) j
      rw [hge] at hst
      generalize nval (List.drop (j + 1) (b.take (k + 1))) = v at *
      have hb' := bytes_getD hb j
      rw [e1]
      simp [A.vary_Take.L0, h0, hlt, hg, andNot128 _ hb']
      have hw : IntKind.u64.wrap ((v : Int) * 128) = (v : Int) * 128 := wrap_u64 (by omega) (by omega)
      have hw2 : IntKind.u64.wrap (((b.getD j 0 : Nat) : Int) % 128) = ((b.getD j 0 % 128 : Nat) : Int) := by rw [wrap_u64 (by omega) (by omega)]; rfl
      have hw3 : IntKind.i64.wrap ((j : Int) - 1) = (j : Int) - 1 := wrap_i64 (by omega) (by omega)
      refine ⟨j, by omega, by omega, ?_, hw3⟩
      rw [hw, hw2, or_u64 (by omega) (by omega)]
      omega
  · have : nval ((b.take (k + 1)).drop (k + 1)) = 0 := by rw [List.drop_eq_nil_of_le (by simp; omega)]; rfl
    rw [this]; simp
theorem take_spec (H : Has (Ecx X) K.vary_Take A.vary_Take) (H2 : Has (Ecx X) K.vary_end A.vary_end) (b : List Nat) (s : Nat) (hl : b.length ≤ maxLen) (hb : ∀ x ∈ b, x < 256) (hQ : Q (vtakeV b) h) :
    Ecx X K.vary_Take [.sl 1 s (u8s b)] h Q := by
  refine fn_walk H (by simp [A.vary_Take]) fun wf => ?_
  have hld := ld_le b
  have hlm := hl
  unfold maxLen at hlm
  simp [A.vary_Take]
  refine ecall (end_spec H2 b s hl ?_)
  unfold vtakeV vtake at hQ
  by_cases hv : ld b < b.length ∧ ld b ≤ 9
  · have hve : vend b = (ld b : Nat) := by unfold vend; rw [if_pos hv]
    have hlp : ∀ {Q : Ex → Env → AH → Prop} {zQ : Lz Q} {z : Lz (AC.loop A.vary_Take.L0)} (hn : ¬ (ld b = 9 ∧ 1 < b.getD 9 0)) (_ : _), acZ (Ecx X) [(0, .sl 1 s (u8s b)), (5, .int .i64 (ld b)), (6, .int .u64 0), (7, .int .i64 (ld b))] h z zQ :=
      fun hn => take_loop hv.1 hl hb (nval64 hv.2 hv.1 hn)
    rw [hve]
    rw [if_neg (by omega), if_neg (by omega)] at hQ
    have hg := u8s_getD hv.1
    have hd0 : (0 : Int) ≤ (ld b : Nat) := by omega
    have hdl : ((ld b : Nat) : Int) < b.length := by omega
    have hw : IntKind.i64.wrap (((ld b : Nat) : Int) + 1) = ((ld b : Nat) : Int) + 1 := wrap_i64 (by omega) (by omega)
    generalize hd : ld b = d at *
    have h0 : ¬ (d : Int) < 0 := by omega
    by_cases h9 : d = 9
    · subst h9
      have hd9 : (9 : Int) < b.length := by omega
      by_cases h1 : 1 < b.getD 9 0
      · have h1' : (1 : Int) < (b.getD 9 0 : Nat) := by omega
        rw [if_pos ⟨rfl, h1⟩] at hQ
        simp [hd9, hg, h1']
        exact fin (by simp) hQ
      · have h1' : ¬ (1 : Int) < (b.getD 9 0 : Nat) := by omega
        rw [if_neg (by omega)] at hQ
        by_cases hz : b.getD 9 0 = 0
        · rw [if_pos ⟨by omega, hz⟩] at hQ
          simp [hd9, hg, h1', hz]
          exact fin (by simp) hQ
        · have hz' : ¬ ((b.getD 9 0 : Nat) : Int) = 0 := by omega
          rw [if_neg (by omega)] at hQ
          simp [hd9, hg, h1', hz]
          refine hlp (by omega) ?_
          simp [hw]
          exact fin (by simp) hQ
    · have h9' : ¬ (d : Int) = 9 := by omega
      rw [if_neg (by omega)] at hQ
      by_cases hz : 0 < d ∧ b.getD d 0 = 0
      · have hz' : (0 : Int) < d := by omega
        rw [if_pos hz] at hQ
        simp [h0, h9', hz.1, hdl, hg, hz.2]
        exact fin (by simp) hQ
      · rw [if_neg hz] at hQ
        have hend : ∀ {Q' : Prop}, Fin h (V.tup [V.int IntKind.u64 (nval (List.take (d + 1) b) : Nat), V.int IntKind.i64 ((d : Int) + 1), V.int IntKind.i64 0]) h (Lz.mk (a := Q)) := fun {_} => fin (by simp) hQ
        by_cases hz0 : 0 < d
        · have hz' : ¬ b.getD d 0 = 0 := by omega
          simp [h0, h9', hz0, hdl, hg, hz']
          refine hlp (by omega) ?_
          simp [hw]
          exact fin (by simp) hQ
        · simp [h0, h9', hz0]
          refine hlp (by omega) ?_
          simp [hw]
          exact fin (by simp) hQ
  · have hve : vend b = -1 := by unfold vend; rw [if_neg hv]
    rw [hve]
    by_cases h10 : b.length < 10
    · have h10' : (b.length : Int) < 10 := by omega
      rw [if_neg (by omega), if_pos (by omega)] at hQ
      simp [h10']
      exact fin (by simp) hQ
    · have h10' : ¬ (b.length : Int) < 10 := by omega
      rw [if_pos (by omega)] at hQ
      simp [h10']
      exact fin (by simp) hQ
theorem rput_spec (H : Has (Ecx X) K.probateref01_Put A.probateref01_Put) : ∀ (n : Nat), n < 2 ^ 64 → ∀ {h : AH} {Q : V → AH → Prop}, Q (.sl 1 0 (u8s (vput n))) h → Ecx X K.probateref01_Put [.int .u64 n] h Q := by
  intro n
  induction n using Nat.strongRecOn with
  | _ n ih =>
    intro hn h Q hQ
    refine fn_walk H (by simp [A.probateref01_Put]) fun wf => ?_
    have hlen := vput_len64 hn
    have hv : vput n = if n < 128 then [n] else (n % 128 + 128) :: vput (n / 128) := by rw [vput]
    by_cases hc : n < 128
    · have hc' : (n : Int) < 128 := by omega
      rw [if_pos hc] at hv
      rw [hv] at hQ
      have e : V.int .u8 (IntKind.u8.wrap (n : Int)) = u8 n := by rw [wrap_u8', u8] <;> omega
      simp [A.probateref01_Put, hc', e, fillL, setAt, V.cells, V.good, V.isAgg, u8]
      exact fin_wk (Gr.refl h) (.sl _ _ _) (by simp [cellsOf, V.cells]) hQ
    · have hc' : ¬ (n : Int) < 128 := by omega
      rw [if_neg hc] at hv
      have e1 : IntKind.u8.wrap ((n : Int).tmod 128) = ((n % 128 : Nat) : Int) := by
        rw [show (n : Int).tmod 128 = ((n % 128 : Nat) : Int) from rfl]; exact wrap_u8' (by omega) (by omega)
      have e2 : IntKind.u8.wrap (((n % 128 : Nat) : Int) + 128) = ((n % 128 + 128 : Nat) : Int) := by rw [wrap_u8' (by omega) (by omega)]; omega
      have e3 : IntKind.u64.wrap ((n : Int) / 128) = ((n / 128 : Nat) : Int) := wrap_u64 (by omega) (by omega)
      simp only [Int.natCast_emod, Int.natCast_ediv, Int.natCast_add, Int.cast_ofNat_Int] at e1 e2 e3
      simp [A.probateref01_Put, hc', e1, e2, e3, fillL, setAt, V.cells, V.good, V.isAgg]
      refine ecall ?_
      rw [show (n : Int) / 128 = ((n / 128 : Nat) : Int) from rfl]
      refine ih (n / 128) (by omega) (by omega) ?_
      rw [hv] at hlen
      simp at hlen ⊢
      refine (Own.full (Gr.refl h) 1 (u8s [n % 128 + 128])).appZ (fun _ => rfl) (by simp; omega) fun e1' st' h' o' _ _ => ?_
      simp
      rw [← u8s_append] at o' ⊢
      exact fin_own o' (by rw [cellsOf_u8s]; exact Bdd_u8s _ _ _) (by rw [hv] at hQ; exact hQ)
theorem rtake_loop0 {b : List Nat} {s : Nat} (hl : b.length ≤ maxLen) {Q : Ex → Env → AH → Prop} {zQ : Lz Q} {z : Lz (AC.loop A.probateref01_Take.L0)}
    (hQ : Q (.exit 0) [(0, .sl 1 s (u8s b)), (5, .int .i64 (ld b)), (18, .bool false)] h) :
    acZ (Ecx X) [(0, .sl 1 s (u8s b)), (5, .int .i64 0)] h z zQ := by
  unfold maxLen at hl
  refine loopZ (n := b.length) (fun m env h' => ∃ k, k ≤ ld b ∧ m = b.length - k ∧ h' = h ∧ env = [(0, .sl 1 s (u8s b)), (5, .int .i64 k)]) ?_ ⟨0, by omega, by omega, rfl, rfl⟩
  rintro m env h' ⟨k, hk, rfl, rfl, rfl⟩
  have hld := ld_le b
  by_cases hlt : k < b.length
  · have hlt' : (k : Int) < b.length := by omega
    have hg := u8s_getD hlt
    by_cases hc : k = ld b
    · have := ld_small b (by omega)
      rw [← hc] at this
      have hc' : ¬ (128 : Int) ≤ (b.getD k 0 : Nat) := by omega
      rw [← hc] at hQ
      simp [A.probateref01_Take.L0, hlt', hg, hc']
      exact hQ
    · have := ld_big b k (by omega)
      have hc' : (128 : Int) ≤ (b.getD k 0 : Nat) := by omega
      simp [A.probateref01_Take.L0, hlt', hg, hc']
      exact ⟨b.length - (k + 1), by omega, k + 1, by omega, rfl, by rw [wrap_i64 (by omega) (by omega)]; rfl⟩
  · have hlt' : ¬ (k : Int) < b.length := by omega
    have : k = ld b := by omega
    rw [← this] at hQ
    simp [A.probateref01_Take.L0, hlt']
    exact hQ
theorem rtake_loop1 {b : List Nat} {s k : Nat} (hk : k < b.length) (hl : b.length ≤ maxLen) (hb : ∀ x ∈ b, x < 256) (h64 : nval (b.take (k + 1)) < 2 ^ 64) {Q : Ex → Env → AH → Prop} {zQ : Lz Q} {z : Lz (AC.loop A.probateref01_Take.L1)}
    (hQ : Q (.exit 2) [(0, .sl 1 s (u8s b)), (5, .int .i64 k), (6, .int .u64 (nval (b.take (k + 1)))), (7, .int .i64 (-1)), (46, .bool false)] h) :
    acZ (Ecx X) [(0, .sl 1 s (u8s b)), (5, .int .i64 k), (6, .int .u64 0), (7, .int .i64 k)] h z zQ := by
  unfold maxLen at hl
  refine loopZ (n := k + 1) (fun m env h' => m ≤ k + 1 ∧ h' = h ∧ env = [(0, .sl 1 s (u8s b)), (5, .int .i64 k), (6, .int .u64 (nval ((b.take (k + 1)).drop m))), (7, .int .i64 ((m : Int) - 1))]) ?_ ⟨by omega, rfl, ?_⟩
  · rintro m env h' ⟨hm, rfl, rfl⟩
    cases m with
    | zero => simpa [A.probateref01_Take.L1] using hQ
    | succ j =>
      have hj : j < b.length := by omega
      have e1 : ((j + 1 : Nat) : Int) - 1 = j := by omega
      have h0 : (0 : Int) ≤ j := by omega
      have hlt : (j : Int) < b.length := by omega
      have hg := u8s_getD hj
      have hlen : (b.take (k + 1)).length = k + 1 := by simp; omega
      have hst := nval_step (l := b.take (k + 1)) (i := j) (by omega)
      have hge : (b.take (k + 1)).getD j 0 = b.getD j 0 := by simp [List.getD, List.getElem?_take, show j < k + 1 by omega]
      have hdr := nval_drop (b.take (k + 1)) j
      rw [hge] at hst
      generalize nval (List.drop (j + 1) (b.take (k + 1))) = v at *
      have hb' := bytes_getD hb j
      rw [e1]
      have hw : IntKind.u64.wrap (128 * (v : Int)) = 128 * (v : Int) := wrap_u64 (by omega) (by omega)
      have hw2 : (IntKind.u64.wrap ((b.getD j 0 : Nat) : Int)).tmod 128 = ((b.getD j 0 % 128 : Nat) : Int) := by rw [wrap_u64 (by omega) (by omega)]; rfl
      have hw3 : IntKind.i64.wrap ((j : Int) - 1) = (j : Int) - 1 := wrap_i64 (by omega) (by omega)
      simp [A.probateref01_Take.L1, h0, hlt, hg, hw, hw2]
      refine ⟨j, by omega, by omega, ?_, hw3⟩
      rw [wrap_u64 (by omega) (by omega)]
      omega
  · have : nval ((b.take (k + 1)).drop (k + 1)) = 0 := by rw [List.drop_eq_nil_of_le (by simp; omega)]; rfl
    rw [this]; simp
theorem rtake_spec (H : Has (Ecx X) K.probateref01_Take A.probateref01_Take) (b : List Nat) (s : Nat) (hl : b.length ≤ maxLen) (hb : ∀ x ∈ b, x < 256) (hQ : Q (vtakeV b) h) :
    Ecx X K.probateref01_Take [.sl 1 s (u8s b)] h Q := by
  refine fn_walk H (by simp [A.probateref01_Take]) fun wf => ?_
  have hld := ld_le b
  have hlm := hl
  unfold maxLen at hlm
  simp [A.probateref01_Take]
  refine rtake_loop0 hl ?_
  unfold vtakeV vtake at hQ
  by_cases h10 : 10 ≤ ld b
  · have h10' : (10 : Int) ≤ (ld b : Nat) := by omega
    rw [if_pos h10] at hQ
    simp [h10']
    exact fin (by simp) hQ
  · have h10' : ¬ (10 : Int) ≤ (ld b : Nat) := by omega
    rw [if_neg h10] at hQ
    by_cases he : ld b = b.length
    · have he' : ((ld b : Nat) : Int) = b.length := by omega
      have hl10 : ¬ (10 : Int) ≤ b.length := by omega
      rw [if_pos he] at hQ
      simp [hl10, he']
      exact fin (by simp) hQ
    · have he' : ¬ ((ld b : Nat) : Int) = b.length := by omega
      have hv : ld b < b.length ∧ ld b ≤ 9 := by omega
      have hlp : ∀ {Q : Ex → Env → AH → Prop} {zQ : Lz Q} {z : Lz (AC.loop A.probateref01_Take.L1)} (hn : ¬ (ld b = 9 ∧ 1 < b.getD 9 0)) (_ : _), acZ (Ecx X) [(0, .sl 1 s (u8s b)), (5, .int .i64 (ld b)), (6, .int .u64 0), (7, .int .i64 (ld b))] h z zQ :=
        fun hn => rtake_loop1 hv.1 hl hb (nval64 hv.2 hv.1 hn)
      rw [if_neg he] at hQ
      have hg := u8s_getD hv.1
      have hd0 : (0 : Int) ≤ (ld b : Nat) := by omega
      have hdl : ((ld b : Nat) : Int) < b.length := by omega
      have hw : IntKind.i64.wrap (((ld b : Nat) : Int) + 1) = ((ld b : Nat) : Int) + 1 := wrap_i64 (by omega) (by omega)
      generalize hd : ld b = d at *
      by_cases h9 : d = 9
      · subst h9
        have hd9 : (9 : Int) < b.length := by omega
        by_cases h1 : 1 < b.getD 9 0
        · have h1' : (1 : Int) < (b.getD 9 0 : Nat) := by omega
          rw [if_pos ⟨rfl, h1⟩] at hQ
          simp at he'
          simp [hd9, hg, h1', he', he]
          exact fin (by simp) hQ
        · have h1' : ¬ (1 : Int) < (b.getD 9 0 : Nat) := by omega
          rw [if_neg (by omega)] at hQ
          simp at he'
          by_cases hz : b.getD 9 0 = 0
          · rw [if_pos ⟨by omega, hz⟩] at hQ
            simp [hd9, hg, h1', hz, he', he]
            exact fin (by simp) hQ
          · rw [if_neg (by omega)] at hQ
            simp [hd9, hg, h1', hz, he', he]
            refine hlp (by omega) ?_
            simp [hw]
            exact fin (by simp) hQ
      · have h9' : ¬ (d : Int) = 9 := by omega
        rw [if_neg (by omega)] at hQ
        by_cases hz : 0 < d ∧ b.getD d 0 = 0
        · rw [if_pos hz] at hQ
          simp [h10', he', h9', hz.1, hdl, hg, hz.2, he]
          exact fin (by simp) hQ
        · rw [if_neg hz] at hQ
          by_cases hz0 : 0 < d
          · have hz' : ¬ b.getD d 0 = 0 := by omega
            simp [h10', he', h9', hz0, hdl, hg, hz', he]
            refine hlp (by omega) ?_
            simp [hw]
            exact fin (by simp) hQ
          · simp [h10', he', h9', hz0, he]
            refine hlp (by omega) ?_
            simp [hw]
            exact fin (by simp) hQ
end
end Go.Proofs.Ytbbmglginkabfaa.Al
