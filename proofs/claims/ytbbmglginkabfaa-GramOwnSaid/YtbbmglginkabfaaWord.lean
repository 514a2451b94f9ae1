/-
  Layer 4, word: what the program's functions and the reference's answer, by the abstract layer. Conditions: each theorem's own.
-/
import Derived.Test.YtbbmglginkabfaaSim
import Derived.Test.YtbbmglginkabfaaAlC
import Derived.Test.YtbbmglginkabfaaAlFword
import Derived.Test.YtbbmglginkabfaaAlFl04
namespace Go.Proofs.Ytbbmglginkabfaa.Al
open Go Go.RowKit
set_option linter.unusedSimpArgs false
set_option linter.unusedVariables false
attribute [-simp] List.getD_eq_getElem?_getD Int.not_lt Int.not_le List.map_take

def belowB (w : List Int) (m : Int) : Bool := w.all fun t => decide (0 ≤ t) && decide (t < m)
def rightW (w : List Int) : Bool := decide (w.length ≤ 24) && belowB w 16
def fitsW (terms : Int) (w : List Int) : Bool := rightW w && belowB w terms
def fineB (x : Ed) (at' : Int) (dropped : Bool) (size : Int) : Bool :=
  if x.at' < 0 ∨ size < x.at' ∨ x.at' < at' ∨ (dropped = true ∧ x.at' = at') then false
  else if x.drop = true then decide (x.at' < size) && decide (x.tok = 0) else decide (0 ≤ x.tok) && decide (x.tok < 16)
def mayF : List Ed → Int → Bool → Int → Bool
  | [], _, _, _ => true
  | x :: l, a, d, size => fineB x a d size && mayF l x.at' x.drop size
def mayB (l : List Ed) (size : Int) : Bool := mayF l 0 false size
/-- What becomes of a word from a place on. -/
def appF (w : List Int) : List Ed → Nat → List Int
  | [], i => w.drop i
  | x :: l, i => (w.take x.at'.toNat).drop i ++ (if x.drop = true then appF w l (x.at'.toNat + 1) else x.tok :: appF w l x.at'.toNat)
def applyR (w : List Int) (l : List Ed) : List Int × Int :=
  if rightW w = false then ([], 1) else if mayB l w.length = false then ([], 2) else if 24 < (appF w l 0).length then ([], 5) else (appF w l 0, 0)

section
variable {X : Cx} {h : AH} {Q : V → AH → Prop}
/-- What layer 4's program calls. -/
structure LWo (X : Cx) : Prop where
  below : Has (Ecx X) K.word_below A.word_below
  right : Has (Ecx X) K.word_Right A.word_Right
  fits : Has (Ecx X) K.word_Fits A.word_Fits
  bytes : Has (Ecx X) K.word_Bytes A.word_Bytes
  read : Has (Ecx X) K.word_Read A.word_Read
  fine : Has (Ecx X) K.word_fine A.word_fine
  may : Has (Ecx X) K.word_May A.word_May
  apply : Has (Ecx X) K.word_Apply A.word_Apply
  put : Has (Ecx X) K.word_Apply_1 A.word_Apply_1
  w : LW X
  r : LR X
theorem below_spec (H : Has (Ecx X) K.word_below A.word_below) (w : List Int) (s : Nat) (m : Int) (hl : w.length < 2 ^ 62) (hQ : Q (.bool (belowB w m)) h) : Ecx X K.word_below [.sl 1 s (ints w), .int .i64 m] h Q := by
  refine fn_walk H (by simp [A.word_below]) fun wf => ?_
  simp [A.word_below]
  refine loopI (n := w.length) (fun n env h' => ∃ k, k ≤ w.length ∧ n = w.length - k ∧ h' = h ∧ env = [(1, .int .i64 m), (7, .sl 1 s (ints w)), (8, .int .i64 w.length), (9, .int .i64 k)] ∧ (w.take k).all (fun t => decide (0 ≤ t) && decide (t < m)) = true) ?_ ⟨0, by omega, by omega, rfl, rfl, by simp⟩
  rintro n env h' ⟨k, hk, rfl, rfl, rfl, ha⟩
  unfold A.word_below.L0
  by_cases hlt : k < w.length
  · have hlt' : (k : Int) < w.length := by omega
    have hg := ints_get hlt
    have hw1 : IntKind.i64.wrap ((k : Int) + 1) = ((k + 1 : Nat) : Int) := by rw [wrap_i64 (by omega) (by omega)]; rfl
    by_cases c1 : w[k] < 0
    · simp [hlt', hg, V.cells, c1]
      have : belowB w m = false := all_at hlt (by simp; omega)
      rw [this] at hQ
      exact fin (by simp) hQ
    by_cases c2 : m ≤ w[k]
    · simp [hlt', hg, V.cells, c1, c2]
      have : belowB w m = false := all_at hlt (by simp; omega)
      rw [this] at hQ
      exact fin (by simp) hQ
    simp [hlt', hg, V.cells, c1, c2, hw1]
    exact ⟨w.length - (k + 1), by omega, iv ⟨k + 1, by omega, rfl, rfl, rfl, all_take_succ hlt ha (by simp; omega)⟩⟩
  · have hlt' : ¬ (k : Int) < w.length := by omega
    have hk : k = w.length := by omega
    rw [hk, List.take_length] at ha
    simp [hlt']
    have : belowB w m = true := ha
    rw [this] at hQ
    exact fin (by simp) hQ
theorem right_spec (L : LWo X) (w : List Int) (s : Nat) (hl : w.length < 2 ^ 64) (hQ : Q (.bool (rightW w)) h) : Ecx X K.word_Right [.sl 1 s (ints w)] h Q := by
  refine fn_walk L.right (by simp [A.word_Right]) fun wf => ?_
  unfold rightW at hQ
  by_cases c1 : w.length ≤ 24
  · have c1' : (w.length : Int) ≤ 24 := by omega
    simp [c1] at hQ
    simp [A.word_Right, c1']
    refine ecall (below_spec L.below w s 16 (by omega) ?_)
    simp
    exact fin (by simp) hQ
  · have c1' : ¬ (w.length : Int) ≤ 24 := by omega
    simp [c1] at hQ
    simp [A.word_Right, c1']
    exact fin (by simp) hQ
/-- A grammar's cells, of which the first is told. -/
theorem fits_spec (L : LWo X) (t a b c : V) (terms : Int) (w : List Int) (s : Nat) (hl : w.length < 2 ^ 64) (hQ : Q (.bool (fitsW terms w)) h) : Ecx X K.word_Fits [.agg [.int .i64 terms, a, b, c], .sl 1 s (ints w)] h Q := by
  refine fn_walk L.fits (by simp [A.word_Fits]) fun wf => ?_
  simp [A.word_Fits, V.cells, V.good]
  refine ecall (right_spec L w s hl ?_)
  unfold fitsW at hQ
  cases hr : rightW w with
  | false => rw [hr] at hQ; simp; exact fin_wk ((Gr.refl h).new _) (.same _) (by simp) hQ
  | true =>
    rw [hr] at hQ
    simp
    have h24 : w.length ≤ 24 := by simp only [rightW, Bool.and_eq_true, decide_eq_true_eq] at hr; exact hr.1
    refine ecall (below_spec L.below w s terms (by omega) ?_)
    simp at hQ ⊢
    exact fin_wk ((Gr.refl h).new _) (.same _) (by simp) hQ
theorem rightR_spec (H : Has (Ecx X) K.probateref04_Right A.probateref04_Right) (w : List Int) (s : Nat) (hl : w.length < 2 ^ 64) (hQ : Q (.bool (rightW w)) h) : Ecx X K.probateref04_Right [.sl 1 s (ints w)] h Q := by
  refine fn_walk H (by simp [A.probateref04_Right]) fun wf => ?_
  unfold rightW at hQ
  by_cases c0 : 24 < w.length
  · have c0' : (24 : Int) < w.length := by omega
    simp [show ¬ w.length ≤ 24 by omega] at hQ
    simp [A.probateref04_Right, c0']
    exact fin (by simp) hQ
  have c0' : ¬ (24 : Int) < w.length := by omega
  simp [show w.length ≤ 24 by omega] at hQ
  simp [A.probateref04_Right, c0']
  refine loopI (n := w.length) (fun n env h' => ∃ k, k ≤ w.length ∧ n = w.length - k ∧ h' = h ∧ env = [(0, .sl 1 s (ints w)), (3, .int .i64 k)] ∧ (w.take k).all (fun t => decide (0 ≤ t) && decide (t < 16)) = true) ?_ ⟨0, by omega, by omega, rfl, rfl, by simp⟩
  rintro n env h' ⟨k, hk, rfl, rfl, rfl, ha⟩
  unfold A.probateref04_Right.L0
  by_cases hlt : k < w.length
  · have hlt' : (k : Int) < w.length := by omega
    have hg := ints_get hlt
    have hw1 : IntKind.i64.wrap ((k : Int) + 1) = ((k + 1 : Nat) : Int) := by rw [wrap_i64 (by omega) (by omega)]; rfl
    by_cases c1 : w[k] < 0
    · simp [hlt', hg, V.cells, c1]
      have : belowB w 16 = false := all_at hlt (by simp; omega)
      rw [this] at hQ
      exact fin (by simp) hQ
    by_cases c2 : 15 < w[k]
    · simp [hlt', hg, V.cells, c1, c2]
      have : belowB w 16 = false := all_at hlt (by simp; omega)
      rw [this] at hQ
      exact fin (by simp) hQ
    simp [hlt', hg, V.cells, c1, c2, hw1]
    exact ⟨w.length - (k + 1), by omega, iv ⟨k + 1, by omega, rfl, rfl, rfl, all_take_succ hlt ha (by simp; omega)⟩⟩
  · have hlt' : ¬ (k : Int) < w.length := by omega
    have hk : k = w.length := by omega
    rw [hk, List.take_length] at ha
    simp [hlt']
    have : belowB w 16 = true := ha
    rw [this] at hQ
    exact fin (by simp) hQ
theorem fitsR_spec (H : Has (Ecx X) K.probateref04_Fits A.probateref04_Fits) (H2 : Has (Ecx X) K.probateref04_Right A.probateref04_Right) (a b c : V) (terms : Int) (w : List Int) (s : Nat) (hl : w.length < 2 ^ 64) (hQ : Q (.bool (fitsW terms w)) h) :
    Ecx X K.probateref04_Fits [.agg [.int .i64 terms, a, b, c], .sl 1 s (ints w)] h Q := by
  refine fn_walk H (by simp [A.probateref04_Fits]) fun wf => ?_
  simp [A.probateref04_Fits, V.cells, V.good]
  refine ecall (rightR_spec H2 w s hl ?_)
  unfold fitsW at hQ
  cases hr : rightW w with
  | false => rw [hr] at hQ; simp; exact fin_wk ((Gr.refl h).new _) (.same _) (by simp) hQ
  | true =>
    rw [hr] at hQ
    simp at hQ ⊢
    have h24 : w.length ≤ 24 := by simp only [rightW, Bool.and_eq_true, decide_eq_true_eq] at hr; exact hr.1
    have hpos : ∀ t ∈ w, 0 ≤ t := by
      simp only [rightW, Bool.and_eq_true, belowB, List.all_eq_true, decide_eq_true_eq] at hr
      exact fun t ht => (hr.2 t ht).1
    refine loopI (n := w.length) (fun n env h' => ∃ k, k ≤ w.length ∧ n = w.length - k ∧ h' = h.new [.int .i64 terms, a, b, c] ∧ env = [(1, .sl 1 s (ints w)), (2, .ptr h.nobj 0), (5, .int .i64 k)] ∧ (w.take k).all (fun t => decide (0 ≤ t) && decide (t < terms)) = true) ?_ ⟨0, by omega, by omega, rfl, rfl, by simp⟩
    rintro n env h' ⟨k, hk, rfl, rfl, rfl, ha⟩
    unfold A.probateref04_Fits.L0
    by_cases hlt : k < w.length
    · have hlt' : (k : Int) < w.length := by omega
      have hg := ints_get hlt
      have hp := hpos w[k] (List.getElem_mem hlt)
      have hw1 : IntKind.i64.wrap ((k : Int) + 1) = ((k + 1 : Nat) : Int) := by rw [wrap_i64 (by omega) (by omega)]; rfl
      by_cases c2 : terms ≤ w[k]
      · simp [hlt', hg, V.cells, c2]
        have : belowB w terms = false := all_at hlt (by simp; omega)
        rw [this] at hQ
        exact fin_wk ((Gr.refl h).new _) (.same _) (by simp) hQ
      simp [hlt', hg, V.cells, c2, hw1]
      exact ⟨w.length - (k + 1), by omega, iv ⟨k + 1, by omega, rfl, rfl, rfl, all_take_succ hlt ha (by simp; omega)⟩⟩
    · have hlt' : ¬ (k : Int) < w.length := by omega
      have hk : k = w.length := by omega
      rw [hk, List.take_length] at ha
      simp [hlt']
      have : belowB w terms = true := ha
      rw [this] at hQ
      exact fin_wk ((Gr.refl h).new _) (.same _) (by simp) hQ
theorem fine_spec (H : Has (Ecx X) K.word_fine A.word_fine) (x : Ed) (at' : Int) (d : Bool) (size : Int) (hQ : Q (.bool (fineB x at' d size)) h) : Ecx X K.word_fine [edV x, .int .i64 at', .bool d, .int .i64 size] h Q := by
  refine fn_walk H (by simp [A.word_fine]) fun wf => ?_
  have g := (Gr.refl h).new (edC x)
  unfold fineB at hQ
  simp [A.word_fine, edV, edC, V.cells, V.good] at g ⊢
  by_cases c1 : x.at' < 0
  · rw [if_pos (.inl c1)] at hQ
    simp [c1]
    exact fin_wk g (.same _) (by simp) hQ
  by_cases c2 : size < x.at'
  · rw [if_pos (.inr (.inl c2))] at hQ
    simp [c1, c2]
    exact fin_wk g (.same _) (by simp) hQ
  by_cases c3 : x.at' < at'
  · rw [if_pos (.inr (.inr (.inl c3)))] at hQ
    simp [c1, c2, c3]
    exact fin_wk g (.same _) (by simp) hQ
  have tail : ¬ (d = true ∧ x.at' = at') → Fin h (.bool (if x.drop = true then decide (x.at' < size) && decide (x.tok = 0) else decide (0 ≤ x.tok) && decide (x.tok < 16))) (h.new [.int .i64 x.at', .bool x.drop, .int .i64 x.tok]) (Lz.mk (a := Q)) := fun c4 => by
    rw [if_neg (by rintro (c | c | c | c) <;> first | exact c1 c | exact c2 c | exact c3 c | exact c4 c)] at hQ
    exact fin_wk g (.same _) (by simp) hQ
  cases d
  · have tl := tail (by simp)
    cases hd : x.drop <;> rw [hd] at tl <;> simp at tl <;> simp [c1, c2, c3, hd]
    · by_cases c5 : 0 ≤ x.tok <;> by_cases c6 : x.tok < 16 <;> simp [c5, c6] at tl ⊢ <;> exact tl
    · by_cases c5 : x.at' < size <;> by_cases c6 : x.tok = 0 <;> simp [c5, c6] at tl ⊢ <;> exact tl
  · by_cases c4 : x.at' = at'
    · rw [if_pos (.inr (.inr (.inr ⟨rfl, c4⟩)))] at hQ
      simp only [c4] at c1 c2 c3 g ⊢
      simp [c1, c2, c3, c4]
      exact fin_wk g (.same _) (by simp) hQ
    · have tl := tail (by simp [c4])
      cases hd : x.drop <;> rw [hd] at tl <;> simp at tl <;> simp [c1, c2, c3, c4, hd]
      · by_cases c5 : 0 ≤ x.tok <;> by_cases c6 : x.tok < 16 <;> simp [c5, c6] at tl ⊢ <;> exact tl
      · by_cases c5 : x.at' < size <;> by_cases c6 : x.tok = 0 <;> simp [c5, c6] at tl ⊢ <;> exact tl
theorem may_spec (L : LWo X) (l : List Ed) (size : Int) (s : Nat) (hl : l.length < 2 ^ 62) (hQ : Q (.bool (mayB l size)) h) : Ecx X K.word_May [.sl 3 s (l.map edV), .int .i64 size] h Q := by
  refine fn_walk L.may (by simp [A.word_May]) fun wf => ?_
  simp [A.word_May]
  refine loopI (n := l.length) (fun n env h' => ∃ k a d, k ≤ l.length ∧ n = l.length - k ∧ env = [(1, .int .i64 size), (5, .int .i64 a), (6, .bool d), (9, .sl 3 s (l.map edV)), (10, .int .i64 l.length), (11, .int .i64 k)] ∧ Gr h h' ∧ mayF (l.drop k) a d size = mayB l size) ?_
    ⟨0, 0, false, by omega, by omega, rfl, Gr.refl h, rfl⟩
  rintro n env h' ⟨k, a, d, hk, rfl, rfl, g, hm⟩
  unfold A.word_May.L0
  by_cases hlt : k < l.length
  · have hlt' : (k : Int) < l.length := by omega
    have hg := eds_getD hlt
    have hw1 : IntKind.i64.wrap ((k : Int) + 1) = ((k + 1 : Nat) : Int) := by rw [wrap_i64 (by omega) (by omega)]; rfl
    rw [List.drop_eq_getElem_cons hlt] at hm
    generalize l[k] = x at *
    simp [hlt', hg, V.cells, V.good, setAt, edC]
    refine ecall (fine_spec L.fine x a d size ?_)
    rw [show ∀ r, mayF (x :: r) a d size = (fineB x a d size && mayF r x.at' x.drop size) from fun _ => rfl] at hm
    cases hf : fineB x a d size with
    | false =>
      rw [hf] at hm
      simp at hm ⊢
      rw [hm] at hQ
      exact fin_wk (g.new _) (.same _) (by simp) hQ
    | true =>
      rw [hf] at hm
      simp [hw1, edC] at hm ⊢
      exact ⟨l.length - (k + 1), by omega, iv ⟨k + 1, x.at', x.drop, by omega, rfl, rfl, g.new _, hm⟩⟩
  · have hlt' : ¬ (k : Int) < l.length := by omega
    have hk : k = l.length := by omega
    rw [hk, List.drop_length] at hm
    simp [hlt']
    rw [← hm] at hQ
    exact fin_wk g (.same _) (by simp) hQ
/-- Edits that are fine rise. -/
theorem fineB_at {x : Ed} {a : Int} {d : Bool} {size : Int} (h : fineB x a d size = true) : 0 ≤ x.at' ∧ x.at' ≤ size ∧ a ≤ x.at' ∧ (d = true → a < x.at') ∧ (x.drop = true → x.at' < size ∧ x.tok = 0) ∧ 0 ≤ x.tok ∧ x.tok < 16 := by
  unfold fineB at h
  split at h
  · cases h
  · rename_i hc
    have h1 : ¬ x.at' < 0 := fun e => hc (.inl e)
    have h2 : ¬ size < x.at' := fun e => hc (.inr (.inl e))
    have h3 : ¬ x.at' < a := fun e => hc (.inr (.inr (.inl e)))
    have h4 : ¬ (d = true ∧ x.at' = a) := fun e => hc (.inr (.inr (.inr e)))
    have h5 : d = true → a < x.at' := fun e => by have : ¬ x.at' = a := fun e2 => h4 ⟨e, e2⟩; omega
    split at h
    · rename_i hd
      simp at h
      exact ⟨by omega, by omega, by omega, h5, fun _ => h, by omega, by omega⟩
    · rename_i hd
      simp at h
      exact ⟨by omega, by omega, by omega, h5, fun e => absurd e hd, h.1, h.2⟩
end
end Go.Proofs.Ytbbmglginkabfaa.Al
