/-
  Layer 5, scan: Scan, and the reference's, by the abstract layer. Conditions: each theorem's own.
-/
import Derived.Test.YtpnbdnmmfaomlaaScan2
import Derived.Test.YtpnbdnmmfaomlaaAlFprobatelaw05
namespace Go.Proofs.Ytpnbdnmmfaomlaa.Al
open Go Go.RowKit
set_option linter.unusedSimpArgs false
set_option linter.unusedVariables false
attribute [-simp] List.getD_eq_getElem?_getD Int.not_lt Int.not_le List.drop_one

theorem toks_getD {l : List Tok} {i : Nat} (h : i < l.length) : (l.map tokV).getD i .undef = .agg (tokC l[i]) := by
  simp [List.getD, List.getElem?_eq_getElem h, tokV]
theorem toks_cells (l : List Tok) (n m : Nat) : ∀ v ∈ cellsOf (l.map tokV), Bdd n m v := by
  induction l with
  | nil => simp [cellsOf]
  | cons a as ih =>
    intro v hv
    have hv : v ∈ tokC a ++ cellsOf (as.map tokV) := hv
    rcases List.mem_append.1 hv with hv | hv
    · simp [tokC] at hv; rcases hv with rfl | rfl | rfl <;> simp
    · exact ih v hv
theorem sfirst_le {s : Str} (hne : s ≠ []) : (sfirst s).2.2 ≤ s.length := by
  have hpos : 0 < s.length := List.length_pos_iff.2 hne
  unfold sfirst
  simp only
  have h1 := runN_le notLf s
  have h2 := runN_le partB s
  have h3 := runN_le quotedB (s.drop 1)
  simp at h3
  split
  · exact h1
  · split
    · simp; omega
    · split
      · exact h2
      · split
        · split
          · simp
          · rename_i h; simp; omega
        · split
          · simp; omega
          · simp
theorem scanL_nil (n k : Nat) : scanL n [] k = ([], none) := by cases n <;> simp [scanL]
theorem scanL_step {n : Nat} {s : Str} (k : Nat) (hne : s ≠ []) : scanL (n + 1) s k = if (sfirst s).2.2 = 0 then ([], some k) else
    ((if (sfirst s).1 = 0 then [] else [⟨(sfirst s).1, (sfirst s).2.1, k⟩]) ++ (scanL n (s.drop (sfirst s).2.2) (k + (sfirst s).2.2)).1, (scanL n (s.drop (sfirst s).2.2) (k + (sfirst s).2.2)).2) := by
  show (if s = [] then _ else _) = _
  rw [if_neg hne]
theorem scanL_len : ∀ (n : Nat) (s : Str) (k : Nat), (scanL n s k).1.length ≤ n
  | 0, s, k => by simp [scanL]
  | n + 1, s, k => by
    by_cases hne : s = []
    · subst hne; simp [scanL_nil]
    · rw [scanL_step k hne]
      split
      · simp
      · have := scanL_len n (s.drop (sfirst s).2.2) (k + (sfirst s).2.2)
        simp only [List.length_append]
        split
        · simp; omega
        · simp; omega

section
variable {X : Cx} {h : AH} {Q : V → AH → Prop}
theorem scan_spec (L : LS X) (s : Str) (hl : s.length ≤ 2 ^ 40) (hQ : Q (scanV s) h) : Ecx X K.scan_Scan [.str s] h Q := by
  refine fn_walk L.scan (by simp [A.scan_Scan]) fun wf => ?_
  unfold scanV scanR at hQ
  by_cases hbig : 4000 < s.length
  · have hbig' : (4000 : Int) < s.length := by omega
    rw [if_pos hbig] at hQ
    simp [A.scan_Scan, hbig']
    exact fin_wk (Gr.refl h) (Wk.t3 (.nil _ 3 _) _ _) (by simp) hQ
  have hbig' : ¬ (4000 : Int) < s.length := by omega
  rw [if_neg hbig] at hQ
  simp [A.scan_Scan, hbig']
  have hlen := scanL_len s.length s 0
  generalize hT : scanL s.length s 0 = T at *
  refine loopI (n := s.length) (fun m env h' => ∃ k acc e1 st, k ≤ s.length ∧ s.length ≤ m + k ∧ env = [(0, .str s), (5, .sl e1 st (acc.map tokV)), (6, .int .i64 (k : Nat))] ∧ Own h h' 3 e1 st (acc.map tokV) ∧
    acc ++ (scanL m (s.drop k) k).1 = T.1 ∧ (scanL m (s.drop k) k).2 = T.2) ?_ ⟨0, [], 0, 1, by omega, by simp, rfl, Own.nil h 3, by rw [← hT]; simp, by rw [← hT]; simp⟩
  rintro m env h' ⟨k, acc, e1, st, hk, hm, rfl, ow, hac, hfl⟩
  unfold A.scan_Scan.L0
  by_cases hlt : k < s.length
  · have hlt' : (k : Int) < s.length := by omega
    have hle' : (k : Int) ≤ s.length := by omega
    have hne : s.drop k ≠ [] := by intro e; have := congrArg List.length e; simp at this; omega
    obtain ⟨m, rfl⟩ : ∃ m', m = m' + 1 := ⟨m - 1, by omega⟩
    have hsl := sfirst_le hne
    rw [scanL_step k hne] at hac hfl
    simp at hsl
    simp [hlt', hle']
    refine ecall (first_spec L (s.drop k) hne (by simp; omega) ?_)
    unfold sfirstV
    generalize sfirst (s.drop k) = F at *
    simp
    by_cases h0 : F.2.2 = 0
    · rw [if_pos h0] at hac hfl
      simp at hfl
      rw [← hfl] at hQ
      simp [h0]
      exact fin_wk ow.gr (Wk.t3 (.nil _ 3 _) _ _) (by simp) hQ
    rw [if_neg h0] at hac hfl
    have hw : IntKind.i64.wrap ((k : Int) + (F.2.2 : Nat)) = ((k + F.2.2 : Nat) : Int) := by rw [wrap_i64 (by omega) (by omega)]; omega
    by_cases h1 : F.1 = 0
    · simp [h0, h1, hw]
      rw [if_pos h1] at hac
      simp only [List.drop_drop] at hac hfl
      exact ⟨m, by omega, iv ⟨k + F.2.2, acc, e1, st, by omega, by omega, by simp, ow, hac, hfl⟩⟩
    · have h1' : 0 < F.1 := by omega
      simp [h0, h1', fillV, fillL, V.cells, V.good, V.isAgg, setAt]
      rw [if_neg h1] at hac
      have hacl : acc.length ≤ s.length := by have := congrArg List.length hac; simp at this; omega
      refine ow.appZ (fun _ => rfl) (by simp; omega) fun e2 st2 h2 o2 _ _ => ?_
      have em : acc.map tokV ++ [V.agg [.int .i64 F.1, .str F.2.1, .int .i64 k]] = (acc ++ [(⟨F.1, F.2.1, k⟩ : Tok)]).map tokV := by simp [tokV, tokC]
      rw [em] at o2 ⊢
      simp [hw]
      simp only [List.drop_drop] at hac hfl
      exact ⟨m, by omega, iv ⟨k + F.2.2, acc ++ [(⟨F.1, F.2.1, k⟩ : Tok)], e2, st2, by omega, by omega, by simp, o2, by rw [← hac]; simp, hfl⟩⟩
  · have hlt' : ¬ (k : Int) < s.length := by omega
    have e : s.drop k = [] := List.drop_eq_nil_of_le (by omega)
    rw [e, scanL_nil] at hac hfl
    simp at hac hfl
    rw [← hfl] at hQ
    simp [hlt']
    rw [hac] at ow ⊢
    exact fin_wk ow.gr (Wk.t3 ow.wk _ _) (by simpa using toks_cells _ _ _) hQ
end
end Go.Proofs.Ytpnbdnmmfaomlaa.Al
