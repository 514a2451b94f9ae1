/-
  Layer 5, scan: what the program's functions answer, by the abstract layer. Conditions: each theorem's own.
-/
import Derived.Test.YtpnbdnmmfaomlaaAlExt
import Derived.Test.YtpnbdnmmfaomlaaWire
import Derived.Test.YtpnbdnmmfaomlaaAlFscan
import Derived.Test.YtpnbdnmmfaomlaaAlFprobateref05
import Derived.Test.YtpnbdnmmfaomlaaAlFstrings
import Derived.Test.YtpnbdnmmfaomlaaAlFstringslite
namespace Go.Proofs.Ytpnbdnmmfaomlaa.Al
open Go Go.RowKit
set_option linter.unusedSimpArgs false
set_option linter.unusedVariables false
attribute [-simp] List.getD_eq_getElem?_getD Int.not_lt Int.not_le

abbrev Str := List UInt8
def bt (c : UInt8) : Int := (c.toNat : Nat)
def letterI (c : Int) : Bool := (decide (97 ≤ c) && decide (c ≤ 122)) || (decide (65 ≤ c) && decide (c ≤ 90))
def partI (c : Int) : Bool := letterI c || (decide (48 ≤ c) && decide (c ≤ 57)) || decide (c = 95)
def quotedI (c : Int) : Bool := decide (32 ≤ c) && decide (c ≤ 126) && decide (c ≠ 39)
def letterB (c : UInt8) : Bool := letterI (bt c)
def partB (c : UInt8) : Bool := partI (bt c)
def quotedB (c : UInt8) : Bool := quotedI (bt c)
def notLf (c : UInt8) : Bool := decide (bt c ≠ 10)
def marksL : Str := [58, 59, 124, 40, 41, 42, 43, 63]
/-- How many bytes ahead are such. -/
def runN (p : UInt8 → Bool) (s : Str) : Nat := (s.takeWhile p).length
theorem runN_le (p : UInt8 → Bool) (s : Str) : runN p s ≤ s.length := (List.takeWhile_prefix p).length_le
theorem runN_true : ∀ {p : UInt8 → Bool} {s : Str} {k : Nat}, k < runN p s → p (s.getD k 0) = true
  | p, [], k, h => by simp [runN] at h
  | p, c :: s, k, h => by
    unfold runN at h
    rw [List.takeWhile_cons] at h
    split at h
    · rename_i hc
      cases k with
      | zero => simpa using hc
      | succ k => simpa using runN_true (p := p) (s := s) (k := k) (by unfold runN; simpa using h)
    · simp at h
theorem runN_false : ∀ {p : UInt8 → Bool} {s : Str}, runN p s < s.length → p (s.getD (runN p s) 0) = false
  | p, [], h => by simp at h
  | p, c :: s, h => by
    have e : runN p (c :: s) = if p c = true then runN p s + 1 else 0 := by unfold runN; rw [List.takeWhile_cons]; split <;> simp
    by_cases hc : p c = true
    · rw [if_pos hc] at e; rw [e] at h ⊢
      simpa using runN_false (p := p) (s := s) (by simpa using h)
    · rw [if_neg hc] at e; rw [e]; simpa using hc
/-- A token: kind, text, place. -/
structure Tok where
  kind : Nat
  text : Str
  at' : Nat
  deriving DecidableEq
def tokC (t : Tok) : List V := [.int .i64 t.kind, .str t.text, .int .i64 t.at']
def tokV (t : Tok) : V := .agg (tokC t)
/-- The first token's kind (0: what stands between tokens), its text, how many bytes it takes. -/
def sfirst (s : Str) : Nat × Str × Nat :=
  let c := bt (s.getD 0 0)
  if c = 35 then (0, [], runN notLf s)
  else if c = 13 ∨ c = 32 ∨ c = 9 ∨ c = 10 then (0, [], 1)
  else if letterI c then (1, s.take (runN partB s), runN partB s)
  else if c = 39 then
    let n := runN quotedB (s.drop 1)
    if n = 0 ∨ n + 1 = s.length ∨ bt (s.getD (n + 1) 0) ≠ 39 then (0, [], 0) else (2, (s.take (n + 1)).drop 1, n + 2)
  else if (s.getD 0 0) ∈ marksL then (3, s.take 1, 1)
  else (0, [], 0)
/-- The tokens of a text from a place on, and where it is none. -/
def scanL : Nat → Str → Nat → List Tok × Option Nat
  | 0, _, _ => ([], none)
  | n + 1, s, k =>
    if s = [] then ([], none)
    else if (sfirst s).2.2 = 0 then ([], some k)
    else ((if (sfirst s).1 = 0 then [] else [⟨(sfirst s).1, (sfirst s).2.1, k⟩]) ++ (scanL n (s.drop (sfirst s).2.2) (k + (sfirst s).2.2)).1, (scanL n (s.drop (sfirst s).2.2) (k + (sfirst s).2.2)).2)
/-- What Scan tells. -/
def scanR (s : Str) : List Tok × Nat × Int :=
  if 4000 < s.length then ([], 0, 5) else match (scanL s.length s 0).2 with
    | some p => ([], p, 2)
    | none => ((scanL s.length s 0).1, 0, 0)
def scanV (s : Str) : V := .tup [.sl 3 0 ((scanR s).1.map tokV), .int .i64 (scanR s).2.1, .int .i64 (scanR s).2.2]

section
variable {X : Cx} {h : AH} {Q : V → AH → Prop}
/-- What layer 5's program calls. -/
structure LS (X : Cx) : Prop where
  letter : Has (Ecx X) K.scan_letter A.scan_letter
  part : Has (Ecx X) K.scan_part A.scan_part
  quoted : Has (Ecx X) K.scan_quoted A.scan_quoted
  run : Has (Ecx X) K.scan_run A.scan_run
  first : Has (Ecx X) K.scan_first A.scan_first
  scan : Has (Ecx X) K.scan_Scan A.scan_Scan
  cut : Has (Ecx X) K.strings_Cut A.strings_Cut
  indexByte : Has (Ecx X) K.strings_IndexByte A.strings_IndexByte
  lcut : Has (Ecx X) K.stringslite_Cut A.stringslite_Cut
  lindexByte : Has (Ecx X) K.stringslite_IndexByte A.stringslite_IndexByte
  lindex : Has (Ecx X) K.stringslite_Index A.stringslite_Index
  ext : ∀ (s : Str) (c : Int) (h : AH) (Q : V → AH → Prop), Q (.int .i64 (idxB s c)) h → Ecx X K.bytealg_IndexByteString [.str s, .int .u8 c] h Q
theorem letter_spec (H : Has (Ecx X) K.scan_letter A.scan_letter) (c : Int) (hQ : Q (.bool (letterI c)) h) : Ecx X K.scan_letter [.int .u8 c] h Q := by
  refine fn_walk H (by simp [A.scan_letter]) fun wf => ?_
  by_cases h1 : 97 ≤ c <;> by_cases h2 : c ≤ 122 <;> by_cases h3 : 65 ≤ c <;> by_cases h4 : c ≤ 90 <;> first | omega | (simp [A.scan_letter, h1, h2, h3, h4]; exact fin (by simp) (by simpa [letterI, h1, h2, h3, h4] using hQ))
theorem part_spec (L : LS X) (c : Int) (hQ : Q (.bool (partI c)) h) : Ecx X K.scan_part [.int .u8 c] h Q := by
  refine fn_walk L.part (by simp [A.scan_part]) fun wf => ?_
  simp [A.scan_part]
  refine ecall (letter_spec L.letter c ?_)
  unfold partI at hQ
  generalize letterI c = b at *
  cases b <;> by_cases h1 : 48 ≤ c <;> by_cases h2 : c ≤ 57 <;> by_cases h3 : c = 95 <;> first | omega | (simp [h1, h2, h3]; exact fin (by simp) (by simpa [h1, h2, h3] using hQ))
theorem quoted_spec (L : LS X) (c : Int) (hQ : Q (.bool (quotedI c)) h) : Ecx X K.scan_quoted [.int .u8 c] h Q := by
  refine fn_walk L.quoted (by simp [A.scan_quoted]) fun wf => ?_
  by_cases h1 : 32 ≤ c <;> by_cases h2 : c ≤ 126 <;> by_cases h3 : c = 39 <;> first | omega | (simp [A.scan_quoted, h1, h2, h3]; exact fin (by simp) (by simpa [quotedI, h1, h2, h3] using hQ))
theorem run_spec (L : LS X) (s : Str) (kf : Nat) (p : UInt8 → Bool) (hp : ∀ (c : UInt8) (h : AH) (Q : V → AH → Prop), Q (.bool (p c)) h → Ecx X kf [.int .u8 (bt c)] h Q) (hl : s.length < 2 ^ 62)
    (hQ : Q (.int .i64 (runN p s)) h) : Ecx X K.scan_run [.str s, .fn kf [] []] h Q := by
  refine fn_walk L.run (by simp [A.scan_run]) fun wf => ?_
  simp [A.scan_run]
  refine loopZ (n := s.length) (fun m env h' => ∃ k, k ≤ runN p s ∧ m = s.length - k ∧ h' = h ∧ env = [(0, .str s), (1, .fn kf [] []), (5, .int .i64 k)]) ?_ ⟨0, by omega, by omega, rfl, rfl⟩
  rintro m env h' ⟨k, hk, rfl, rfl, rfl⟩
  have hle := runN_le p s
  unfold A.scan_run.L0
  by_cases hlt : k < s.length
  · have hlt' : (k : Int) < s.length := by omega
    simp [hlt']
    refine ecall (hp (s.getD k 0) _ _ ?_)
    by_cases hk2 : k < runN p s
    · have := runN_true hk2
      simp [this]
      exact ⟨s.length - (k + 1), by omega, k + 1, by omega, rfl, by rw [wrap_i64 (by omega) (by omega)]; rfl⟩
    · have hk3 : k = runN p s := by omega
      have := runN_false (p := p) (s := s) (by omega)
      rw [← hk3] at this hQ
      simp [this]
      exact fin (by simp) hQ
  · have hlt' : ¬ (k : Int) < s.length := by omega
    have hk3 : k = runN p s := by omega
    rw [← hk3] at hQ
    simp [hlt']
    exact fin (by simp) hQ
end
end Go.Proofs.Ytpnbdnmmfaomlaa.Al
