/-
  Layer 5, scan: what first and Scan tell, by the abstract layer. Conditions: each theorem's own.
-/
import Derived.Test.YtpnbdnmmfaomlaaScan
namespace Go.Proofs.Ytpnbdnmmfaomlaa.Al
open Go Go.RowKit
set_option linter.unusedSimpArgs false
set_option linter.unusedVariables false
attribute [-simp] List.getD_eq_getElem?_getD Int.not_lt Int.not_le List.drop_one

theorem bt_inj {a b : UInt8} : bt a = bt b ↔ a = b := by
  unfold bt
  constructor
  · intro h; exact UInt8.toNat_inj.1 (by omega)
  · intro h; rw [h]
theorem bt_toUInt8 (c : UInt8) : (bt c).toNat.toUInt8 = c := by unfold bt; simp
theorem idxB_mem : ∀ (l : Str) (c : UInt8), 0 ≤ idxB l (bt c) ↔ c ∈ l
  | [], c => by simp [idxB, Go.Lib.indexByte]
  | b :: l, c => by
    have ih := idxB_mem l c
    unfold idxB at ih ⊢
    rw [bt_toUInt8] at ih ⊢
    have hg := Go.Lib.indexByte_ge l c
    unfold Go.Lib.indexByte
    by_cases hb : (b == c) = true
    · have : b = c := by simpa using hb
      subst this
      rw [if_pos hb]; simp
    · have : ¬ c = b := by intro e; apply hb; simp [e]
      rw [if_neg hb]
      simp only [List.mem_cons, this, false_or]
      rw [← ih]
      by_cases h1 : (Go.Lib.indexByte l c == -1) = true
      · rw [if_pos h1]
        have : Go.Lib.indexByte l c = -1 := by simpa using h1
        rw [this]
      · rw [if_neg h1]
        have : ¬ Go.Lib.indexByte l c = -1 := by simpa using h1
        omega
theorem runN_cons (p : UInt8 → Bool) (c : UInt8) (s : Str) : runN p (c :: s) = if p c = true then runN p s + 1 else 0 := by unfold runN; rw [List.takeWhile_cons]; split <;> simp
theorem idxB_lf : ∀ (s : Str), idxB s 10 = if runN notLf s < s.length then (runN notLf s : Int) else -1
  | [] => rfl
  | b :: l => by
    have ih := idxB_lf l
    have hle := runN_le notLf l
    unfold idxB at ih ⊢
    unfold Go.Lib.indexByte
    rw [runN_cons]
    have e10 : (10 : Int).toNat.toUInt8 = 10 := rfl
    rw [e10] at ih ⊢
    by_cases hb : (b == 10) = true
    · have : b = 10 := by simpa using hb
      subst this
      rw [if_pos hb]
      simp [notLf, bt]
    · have hb' : ¬ b = 10 := by simpa using hb
      have : notLf b = true := by
        simp only [notLf, decide_eq_true_eq]
        intro e; apply hb'; rw [← bt_inj, e]; rfl
      rw [if_neg hb, ih, this]
      simp only [if_true, List.length_cons]
      by_cases h1 : runN notLf l < l.length
      · rw [if_pos h1, if_neg (by simp), if_pos (by omega)]; omega
      · simp [h1]
theorem take_runN (p : UInt8 → Bool) (s : Str) : s.take (runN p s) = s.takeWhile p := by
  unfold runN; exact (List.prefix_iff_eq_take.1 (List.takeWhile_prefix p)).symm

section
variable {X : Cx} {h : AH} {Q : V → AH → Prop}
theorem indexByte_spec (L : LS X) (s : Str) (c : Int) (hQ : Q (.int .i64 (idxB s c)) h) : Ecx X K.strings_IndexByte [.str s, .int .u8 c] h Q := by
  refine fn_walk L.indexByte (by simp [A.strings_IndexByte]) fun wf => ?_
  simp [A.strings_IndexByte]
  refine ecall (fn_walk L.lindexByte (by simp [A.stringslite_IndexByte]) fun wf => ?_)
  simp [A.stringslite_IndexByte]
  refine ecall (L.ext s c _ _ ?_)
  simp
  refine fin (by simp) ?_
  simp
  exact fin (by simp) hQ
theorem indexlf_spec (L : LS X) (s : Str) (hQ : Q (.int .i64 (idxB s 10)) h) : Ecx X K.stringslite_Index [.str s, .str [10]] h Q := by
  refine fn_walk L.lindex (by simp [A.stringslite_Index]) fun wf => ?_
  by_cases h1 : s = [10]
  · subst h1
    simp [A.stringslite_Index]
    refine fin (by simp) ?_
    simpa [idxB_lf, runN, notLf, bt] using hQ
  · have h1' : ¬ [10] = s := fun e => h1 e.symm
    simp [A.stringslite_Index, h1']
    refine ecall (fn_walk L.lindexByte (by simp [A.stringslite_IndexByte]) fun wf => ?_)
    simp [A.stringslite_IndexByte]
    refine ecall (L.ext s 10 _ _ ?_)
    simp
    refine fin (by simp) ?_
    simp
    exact fin (by simp) hQ
theorem cutlf_spec (L : LS X) (s : Str) (hl : s.length < 2 ^ 62) (hQ : ∀ a b, Q (.tup [.str (s.take (runN notLf s)), .str a, .bool b]) h) : Ecx X K.strings_Cut [.str s, .str [10]] h Q := by
  refine fn_walk L.cut (by simp [A.strings_Cut]) fun wf => ?_
  simp [A.strings_Cut]
  refine ecall (fn_walk L.lcut (by simp [A.stringslite_Cut]) fun wf => ?_)
  simp [A.stringslite_Cut]
  have hle := runN_le notLf s
  have hb := idxB_lf s
  refine ecall (indexlf_spec L s ?_)
  rw [hb]
  by_cases h1 : runN notLf s < s.length
  · have h2 : (0 : Int) ≤ (runN notLf s : Nat) := by omega
    have h3 : ((runN notLf s : Nat) : Int) ≤ s.length := by omega
    have h4 : IntKind.i64.wrap (((runN notLf s : Nat) : Int) + 1) = ((runN notLf s + 1 : Nat) : Int) := by rw [wrap_i64 (by omega) (by omega)]; rfl
    have h5 : ((runN notLf s + 1 : Nat) : Int) ≤ s.length := by omega
    have h6 : (0 : Int) ≤ ((runN notLf s + 1 : Nat) : Int) := by omega
    rw [if_pos h1]
    simp [h2, h3, h4, h5, h6]
    refine ⟨by omega, by omega, fin (by simp) ?_⟩
    simp
    exact fin (by simp) (hQ _ _)
  · rw [if_neg h1]
    simp
    refine fin (by simp) ?_
    simp
    have : s.take (runN notLf s) = s := List.take_of_length_le (by omega)
    refine fin (by simp) ?_
    have := hQ [] false
    rw [List.take_of_length_le (by omega)] at this
    exact this
def sfirstV (s : Str) : V := .tup [.int .i64 (sfirst s).1, .str (sfirst s).2.1, .int .i64 (sfirst s).2.2]
theorem first_spec' (L : LS X) (s : Str) (c : Int) (n : Nat) (hc : bt (s.getD 0 0) = c) (hn : runN quotedB (s.drop 1) = n) (hne : s ≠ []) (hl : s.length < 2 ^ 62) (hQ : Q (sfirstV s) h) : Ecx X K.scan_first [.str s] h Q := by
  refine fn_walk L.first (by simp [A.scan_first]) fun wf => ?_
  have hpos : 0 < s.length := List.length_pos_iff.2 hne
  have hpos' : (0 : Int) < s.length := by omega
  have hmk := idxB_mem marksL (s.getD 0 0)
  unfold sfirstV sfirst at hQ
  simp only at hQ
  have hc0 : ((s.getD 0 0).toNat : Int) = bt (s.getD 0 0) := rfl
  simp [A.scan_first, hc0]
  rw [hc] at hmk
  simp only [hc] at hQ ⊢
  by_cases h1 : c = 35
  · rw [if_pos h1] at hQ
    simp [h1, hc0, hc, hpos]
    refine ecall (cutlf_spec L s hl fun a b => ?_)
    have := runN_le notLf s
    have e : min (runN notLf s) s.length = runN notLf s := by omega
    simp [e]
    exact fin (by simp) hQ
  rw [if_neg h1] at hQ
  by_cases h2 : c = 13
  · rw [if_pos (.inl h2)] at hQ
    simp [h1, h2, hc0, hc, hpos]
    exact fin (by simp) hQ
  by_cases h3 : c = 32
  · rw [if_pos (.inr (.inl h3))] at hQ
    simp [h1, h2, h3, hc0, hc, hpos]
    exact fin (by simp) hQ
  by_cases h4 : c = 9
  · rw [if_pos (.inr (.inr (.inl h4)))] at hQ
    simp [h1, h2, h3, h4, hc0, hc, hpos]
    exact fin (by simp) hQ
  by_cases h5 : c = 10
  · rw [if_pos (.inr (.inr (.inr h5)))] at hQ
    simp [h1, h2, h3, h4, h5, hc0, hc, hpos]
    exact fin (by simp) hQ
  rw [if_neg (by omega)] at hQ
  simp [h1, h2, h3, h4, h5, hc0, hc, hpos]
  refine ecall (letter_spec L.letter c ?_)
  by_cases h6 : letterI c = true
  · rw [if_pos h6] at hQ
    have hr := runN_le partB s
    have hr0 : (0 : Int) ≤ (runN partB s : Nat) := by omega
    have hr1 : ((runN partB s : Nat) : Int) ≤ s.length := by omega
    simp [h6, hc0, hc]
    refine ecall (run_spec L s K.scan_part partB (fun c h Q hq => part_spec L _ hq) hl ?_)
    simp [hr0, hr1]
    exact fin (by simp) hQ
  rw [if_neg h6] at hQ
  simp [h6, hc0, hc]
  by_cases h7 : c = 39
  · rw [if_pos h7] at hQ
    have hr := runN_le quotedB (s.drop 1)
    have hp1 : (1 : Int) ≤ s.length := by omega
    simp at hr
    simp [h7, hp1]
    refine ecall (run_spec L (s.drop 1) K.scan_quoted quotedB (fun c h Q hq => quoted_spec L _ hq) (by simp; omega) ?_)
    simp
    rw [hn] at hr
    simp only [hn] at hQ
    simp [hn]
    have hw : IntKind.i64.wrap ((n : Int) + 1) = ((n + 1 : Nat) : Int) := by rw [wrap_i64 (by omega) (by omega)]; rfl
    have hw2 : IntKind.i64.wrap ((n : Int) + 2) = ((n + 2 : Nat) : Int) := by rw [wrap_i64 (by omega) (by omega)]; rfl
    by_cases k1 : n = 0
    · rw [if_pos (.inl k1)] at hQ
      subst k1
      simp [hn]
      exact fin (by simp) hQ
    by_cases k2 : n + 1 = s.length
    · rw [if_pos (.inr (.inl k2))] at hQ
      have k2' : ((n + 1 : Nat) : Int) = s.length := by omega
      simp [hn, hw, k1, k2', -Int.natCast_add]
      exact fin (by simp) hQ
    have k2' : ¬ ((n + 1 : Nat) : Int) = s.length := by omega
    have k3 : ((n + 1 : Nat) : Int) < s.length := by omega
    have k4 : (0 : Int) ≤ ((n + 1 : Nat) : Int) := by omega
    have hc1 : ((s.getD (n + 1) 0).toNat : Int) = bt (s.getD (n + 1) 0) := rfl
    by_cases k5 : bt (s.getD (n + 1) 0) = 39
    · rw [if_neg (by omega)] at hQ
      have k6 : ((n + 1 : Nat) : Int) ≤ s.length := by omega
      have k7 : (1 : Int) ≤ ((n + 1 : Nat) : Int) := by omega
      simp [hn, hw, k1, k2', k3, k4, hc1, k5, hw, k6, k7, hw2, -Int.natCast_add]
      exact fin (by simp) hQ
    · rw [if_pos (.inr (.inr k5))] at hQ
      simp [hn, hw, k1, k2', k3, k4, hc1, k5, -Int.natCast_add]
      exact fin (by simp) hQ
  rw [if_neg h7] at hQ
  simp [h7]
  refine ecall (indexByte_spec L marksL c ?_)
  by_cases h8 : (s.getD 0 0) ∈ marksL
  · rw [if_pos h8] at hQ
    have hm := hmk.2 h8
    have hp1 : (1 : Int) ≤ s.length := by omega
    simp [hm, hp1]
    exact fin (by simp) hQ
  · rw [if_neg h8] at hQ
    have hm : ¬ 0 ≤ idxB marksL c := fun e => h8 (hmk.1 e)
    simp [hm]
    exact fin (by simp) hQ
theorem first_spec (L : LS X) (s : Str) (hne : s ≠ []) (hl : s.length < 2 ^ 62) (hQ : Q (sfirstV s) h) : Ecx X K.scan_first [.str s] h Q := first_spec' L s _ _ rfl rfl hne hl hQ
end
end Go.Proofs.Ytpnbdnmmfaomlaa.Al
