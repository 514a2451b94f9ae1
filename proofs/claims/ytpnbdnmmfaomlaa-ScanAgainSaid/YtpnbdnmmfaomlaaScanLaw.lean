/-
  Layer 5: the laws' helpers, awake, and the law ScanTells, by the abstract layer. Conditions: each theorem's own.
-/
import Derived.Test.YtpnbdnmmfaomlaaScan4
namespace Go.Proofs.Ytpnbdnmmfaomlaa.Al
open Go Go.RowKit
set_option linter.unusedSimpArgs false
set_option linter.unusedVariables false
attribute [-simp] List.getD_eq_getElem?_getD Int.not_lt Int.not_le List.drop_one List.map_take

/-- Lists that are compared item by item. -/
theorem take_ext' {α : Type} {a b : List α} {k : Nat} (ha : k < a.length) (hb : k < b.length) (h : a.take k = b.take k) (e : a[k] = b[k]) : a.take (k + 1) = b.take (k + 1) := by
  rw [List.take_succ_eq_append_getElem ha, List.take_succ_eq_append_getElem hb, h, e]
section
variable {X : Cx} {h : AH} {Q : V → AH → Prop}
theorem same5_spec (H : Has (Ecx X) K.probateref05_Same A.probateref05_Same) (a b : List Tok) (s t : Nat) (ha : a.length ≤ 2 ^ 40) (hQ : Q (.bool (decide (a = b))) h) :
    Ecx X K.probateref05_Same [.sl 3 s (a.map tokV), .sl 3 t (b.map tokV)] h Q := by
  refine fn_walk H (by simp [A.probateref05_Same]) fun wf => ?_
  by_cases hl : a.length = b.length
  · have hl' : (a.length : Int) = b.length := by omega
    simp [A.probateref05_Same, hl']
    refine loopI (n := a.length) (fun m env h' => ∃ k, k ≤ a.length ∧ m = a.length - k ∧ h' = h ∧ env = [(0, .sl 3 s (a.map tokV)), (1, .sl 3 t (b.map tokV)), (5, .int .i64 k)] ∧ a.take k = b.take k) ?_ ⟨0, by omega, by omega, rfl, rfl, rfl⟩
    rintro m env h' ⟨k, hk, rfl, rfl, rfl, he⟩
    unfold A.probateref05_Same.L0
    by_cases hlt : k < a.length
    · have hlt' : (k : Int) < b.length := by omega
      have hlb : k < b.length := by omega
      have hga := toks_getD hlt
      have hgb := toks_getD hlb
      by_cases e : a[k] = b[k]
      · simp [hl', hlt', hga, hgb, V.cells, tokC, e]
        exact ⟨a.length - (k + 1), by omega, iv ⟨k + 1, by omega, rfl, rfl, by rw [wrap_i64 (by omega) (by omega)]; rfl, take_ext' hlt hlb he e⟩⟩
      · have hne : (a[k].kind = b[k].kind → a[k].text = b[k].text → ¬ a[k].at' = b[k].at') := by
          intro e1 e2 e3; apply e; cases ha : a[k]; cases hb : b[k]; simp_all
        have hf : decide (a = b) = false := by
          simp only [decide_eq_false_iff_not]; rintro rfl; exact e rfl
        rw [hf] at hQ
        by_cases e1 : a[k].kind = b[k].kind <;> by_cases e2 : a[k].text = b[k].text <;> by_cases e3 : a[k].at' = b[k].at' <;> first | exact absurd e3 (hne e1 e2) | (simp [hl', hlt', hga, hgb, V.cells, tokC, e1, e2, e3, Int.natCast_inj]; exact fin (by simp) hQ)
    · have hlt' : ¬ (k : Int) < b.length := by omega
      simp [hl', hlt']
      refine fin (by simp) ?_
      have hk : k = a.length := by omega
      rw [hk, List.take_length, hl, List.take_length] at he
      simpa [he] using hQ
  · have hl' : ¬ (a.length : Int) = b.length := by omega
    simp [A.probateref05_Same, hl']
    refine fin (by simp) ?_
    have : decide (a = b) = false := by simp; intro h; exact hl (by rw [h])
    rw [this] at hQ; exact hQ
theorem own5_spec (H : Has (Ecx X) K.probatelaw05_own A.probatelaw05_own) (a : List Tok) (s : Nat) (ha : a.length ≤ 2 ^ 40) (hQ : Q (.sl 3 0 (a.map tokV)) h) :
    Ecx X K.probatelaw05_own [.sl 3 s (a.map tokV)] h Q := by
  refine fn_walk H (by simp [A.probatelaw05_own]) fun wf => ?_
  simp [A.probatelaw05_own, fillL]
  refine loopI (n := a.length) (fun m env h' => ∃ k e1 st, k ≤ a.length ∧ m = a.length - k ∧ env = [(3, .sl e1 st ((a.take k).map tokV)), (7, .sl 3 s (a.map tokV)), (8, .int .i64 a.length), (9, .int .i64 k)] ∧ Own h h' 3 e1 st ((a.take k).map tokV)) ?_
    ⟨0, 3, 2, by omega, by omega, rfl, Own.full (Gr.refl h) 3 []⟩
  rintro m env h' ⟨k, e1, st, hk, rfl, rfl, ow⟩
  unfold A.probatelaw05_own.L0
  by_cases hlt : k < a.length
  · have hlt' : (k : Int) < a.length := by omega
    have hga := toks_getD hlt
    simp [hlt', hga, V.cells, V.good, setAt, tokC, fillL, V.isAgg]
    have ow2 : Own h (h'.new [.int .i64 a[k].kind, .str a[k].text, .int .i64 a[k].at']) 3 e1 st ((a.take k).map tokV) := ⟨ow.gr.new _, ow.el, by simpa using ow.st⟩
    refine ow2.appZ (fun _ => rfl) (by simp; omega) fun e2 st2 h2 o2 _ _ => ?_
    have em : (a.take k).map tokV ++ [V.agg [.int .i64 a[k].kind, .str a[k].text, .int .i64 a[k].at']] = (a.take (k + 1)).map tokV := by
      rw [List.take_succ_eq_append_getElem hlt, List.map_append]; rfl
    rw [em] at o2 ⊢
    simp
    exact ⟨a.length - (k + 1), by omega, iv ⟨k + 1, e2, st2, by omega, rfl, by rw [wrap_i64 (by omega) (by omega)]; rfl, o2⟩⟩
  · have hlt' : ¬ (k : Int) < a.length := by omega
    have hk : k = a.length := by omega
    subst hk
    rw [List.take_length] at ow
    simp [hlt']
    exact fin_own ow (toks_cells _ _ _) hQ
/-- What the laws of layer 5 call. -/
structure L05 (X : Cx) : Prop where
  s : LS X
  r : LSR X
  own : Has (Ecx X) K.probatelaw05_own A.probatelaw05_own
  awake : Has (Ecx X) K.probatelaw05_awake A.probatelaw05_awake
  text : Has (Ecx X) K.probatelaw05_text A.probatelaw05_text
  tells : Has (Ecx X) K.probatelaw05_ScanTells A.probatelaw05_ScanTells
  again : Has (Ecx X) K.probatelaw05_ScanAgain A.probatelaw05_ScanAgain
  between : Has (Ecx X) K.probatelaw05_ScanBetween A.probatelaw05_ScanBetween
theorem awake5_spec (L : L05 X) (hQ : Q (.bool true) h) : Ecx X K.probatelaw05_awake [] h Q := by
  refine fn_walk L.awake (by simp [A.probatelaw05_awake]) fun wf => ?_
  have t1 : scanR [115, 58, 32, 39, 97, 32, 98, 39, 32, 35, 32, 110, 111, 10, 124] = ([⟨1, [115], 0⟩, ⟨3, [58], 1⟩, ⟨2, [97, 32, 98], 3⟩, ⟨3, [124], 14⟩], 0, 0) := by decide +kernel
  have t2 : scanR [115, 32, 39, 97] = ([], 2, 2) := by decide +kernel
  simp [A.probatelaw05_awake]
  refine ecall (scan_spec L.s _ (by simp) ?_)
  simp only [scanV, t1]
  simp
  refine ecall (scan_spec L.s _ (by simp) ?_)
  simp only [scanV, t2]
  simp
  refine ecall (own5_spec L.own [⟨1, [115], 0⟩, ⟨3, [58], 1⟩, ⟨2, [97, 32, 98], 3⟩, ⟨3, [124], 14⟩] 0 (by simp) ?_)
  simp [fillV, fillL, V.cells, V.good, V.isAgg, setAt]
  refine ecall (same5_spec L.r.same [⟨1, [115], 0⟩, ⟨3, [58], 1⟩, ⟨2, [97, 32, 98], 3⟩, ⟨3, [124], 14⟩] [⟨1, [115], 0⟩, ⟨3, [58], 1⟩, ⟨2, [97, 32, 98], 3⟩, ⟨3, [124], 14⟩] 0 _ (by simp) ?_)
  simp
  exact fin (by simp) hQ
theorem scanR_len (s : Str) : (scanR s).1.length ≤ s.length := by
  unfold scanR
  have := scanL_len s.length s 0
  split
  · simp
  · split
    · simp
    · exact this
theorem tells5_spec (L : L05 X) (s : Str) (hQ : Q (.bool true) h) : Ecx X K.probatelaw05_ScanTells [.str s] h Q := by
  refine fn_walk L.tells (by simp [A.probatelaw05_ScanTells]) fun wf => ?_
  simp [A.probatelaw05_ScanTells]
  refine ecall (awake5_spec L ?_)
  simp
  by_cases c1 : (1000 : Int) < s.length
  · by_cases c2 : (s.length : Int) ≤ 4000
    · simp [c1, c2]; exact fin (by simp) hQ
    by_cases c3 : (5000 : Int) < s.length
    · simp [c1, c2, c3]; exact fin (by simp) hQ
    simp [c1, c2, c3]
    refine ecall (scan_spec L.s _ (by omega) ?_)
    simp [scanV]
    refine ecall (rscan_spec L.r _ (by omega) ?_)
    simp [scanV]
    have hlen := scanR_len s
    refine ecall (own5_spec L.own _ _ (by omega) ?_)
    simp
    refine ecall (same5_spec L.r.same _ _ _ _ (by omega) ?_)
    simp
    exact fin (by simp) hQ
  · have c3 : ¬ (5000 : Int) < s.length := by omega
    simp [c1, c3]
    refine ecall (scan_spec L.s _ (by omega) ?_)
    simp [scanV]
    refine ecall (rscan_spec L.r _ (by omega) ?_)
    simp [scanV]
    have hlen := scanR_len s
    refine ecall (own5_spec L.own _ _ (by omega) ?_)
    simp
    refine ecall (same5_spec L.r.same _ _ _ _ (by omega) ?_)
    simp
    exact fin (by simp) hQ
end
end Go.Proofs.Ytpnbdnmmfaomlaa.Al
