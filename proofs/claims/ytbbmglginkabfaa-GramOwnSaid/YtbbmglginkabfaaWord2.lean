/-
  Layer 4, word: Apply, and the reference's May and Apply, by the abstract layer. Conditions: each theorem's own.
-/
import Derived.Test.YtbbmglginkabfaaWord
namespace Go.Proofs.Ytbbmglginkabfaa.Al
open Go Go.RowKit
set_option linter.unusedSimpArgs false
set_option linter.unusedVariables false
attribute [-simp] List.getD_eq_getElem?_getD Int.not_lt Int.not_le List.map_take

theorem fineB_iff {x : Ed} {a : Int} {d : Bool} {size : Int} : fineB x a d size = true ↔ 0 ≤ x.at' ∧ x.at' ≤ size ∧ a ≤ x.at' ∧ (d = true → ¬ x.at' = a) ∧ (x.drop = true → x.at' < size ∧ x.tok = 0) ∧ 0 ≤ x.tok ∧ x.tok < 16 := by
  constructor
  · intro h
    obtain ⟨h1, h2, h3, h4, h5, h6, h7⟩ := fineB_at h
    exact ⟨h1, h2, h3, fun e => by have := h4 e; omega, h5, h6, h7⟩
  · rintro ⟨h1, h2, h3, h4, h5, h6, h7⟩
    unfold fineB
    rw [if_neg (by rintro (c | c | c | c) <;> first | omega | exact h4 c.1 c.2)]
    split
    · rename_i hd; simp; exact h5 hd
    · simp; exact ⟨h6, h7⟩
theorem fineB_no {x : Ed} {a : Int} {d : Bool} {size : Int} (h : ¬ (0 ≤ x.at' ∧ x.at' ≤ size ∧ a ≤ x.at' ∧ (d = true → ¬ x.at' = a) ∧ (x.drop = true → x.at' < size ∧ x.tok = 0) ∧ 0 ≤ x.tok ∧ x.tok < 16)) : fineB x a d size = false := by
  cases hf : fineB x a d size with
  | false => rfl
  | true => exact absurd (fineB_iff.1 hf) h
section
variable {X : Cx} {h : AH} {Q : V → AH → Prop}
set_option maxRecDepth 10000 in
theorem mayR_spec (H : Has (Ecx X) K.probateref04_May A.probateref04_May) (l : List Ed) (size : Int) (s : Nat) (hl : l.length < 2 ^ 62) (hQ : Q (.bool (mayB l size)) h) : Ecx X K.probateref04_May [.sl 3 s (l.map edV), .int .i64 size] h Q := by
  refine fn_walk H (by simp [A.probateref04_May]) fun wf => ?_
  simp [A.probateref04_May]
  refine loopI (n := l.length) (fun n env h' => ∃ k a d, k ≤ l.length ∧ n = l.length - k ∧ h' = h ∧ env = [(0, .sl 3 s (l.map edV)), (1, .int .i64 size), (5, .int .i64 k)] ∧ mayF (l.drop k) a d size = mayB l size ∧
    ((k = 0 ∧ a = 0 ∧ d = false) ∨ ∃ j, k = j + 1 ∧ ∃ hj : j < l.length, a = l[j].at' ∧ d = l[j].drop)) ?_
    ⟨0, 0, false, by omega, by omega, rfl, rfl, rfl, .inl ⟨rfl, rfl, rfl⟩⟩
  rintro n env h' ⟨k, a, d, hk, rfl, rfl, rfl, hm, hp⟩
  unfold A.probateref04_May.L0
  by_cases hlt : k < l.length
  · have hlt' : (k : Int) < l.length := by omega
    have hg := eds_getD hlt
    have hw1 : IntKind.i64.wrap ((k : Int) + 1) = ((k + 1 : Nat) : Int) := by rw [wrap_i64 (by omega) (by omega)]; rfl
    rw [List.drop_eq_getElem_cons hlt] at hm
    have hnext : ∀ (x : Ed), l[k] = x → fineB x a d size = true → ∃ m', m' < l.length - k ∧ Iv (Lz.mk (a := ∃ k' a' d', k' ≤ l.length ∧ m' = l.length - k' ∧ h' = h' ∧ [(0, V.sl 3 s (l.map edV)), (1, .int .i64 size), (5, .int .i64 (k + 1 : Nat))] = [(0, V.sl 3 s (l.map edV)), (1, .int .i64 size), (5, .int .i64 (k' : Nat))] ∧ mayF (l.drop k') a' d' size = mayB l size ∧
        ((k' = 0 ∧ a' = 0 ∧ d' = false) ∨ ∃ j, k' = j + 1 ∧ ∃ hj : j < l.length, a' = l[j].at' ∧ d' = l[j].drop))) := by
      rintro x rfl hf
      rw [show ∀ r, mayF (l[k] :: r) a d size = (fineB l[k] a d size && mayF r l[k].at' l[k].drop size) from fun _ => rfl, hf] at hm
      simp at hm
      exact ⟨l.length - (k + 1), by omega, iv ⟨k + 1, l[k].at', l[k].drop, by omega, rfl, rfl, rfl, hm, .inr ⟨k, rfl, hlt, rfl, rfl⟩⟩⟩
    have hstop : ∀ (x : Ed), l[k] = x → fineB x a d size = false → Fin h' (.bool false) h' (Lz.mk (a := Q)) := by
      rintro x rfl hf
      rw [show ∀ r, mayF (l[k] :: r) a d size = (fineB l[k] a d size && mayF r l[k].at' l[k].drop size) from fun _ => rfl, hf] at hm
      simp at hm
      rw [hm] at hQ
      exact fin (by simp) hQ
    have hpv : ∀ j, k = j + 1 → (l.map edV).getD j .undef = .agg (edC ⟨a, d, (l.getD j ⟨0, false, 0⟩).tok⟩) := by
      intro j hj
      rcases hp with ⟨h0, _⟩ | ⟨j', e1, hj', e2, e3⟩
      · omega
      · obtain rfl : j' = j := by omega
        rw [eds_getD hj', e2, e3]
        simp [List.getD, List.getElem?_eq_getElem hj']
    generalize hx : l[k] = x at *
    have hno := fun hc => hstop x rfl (fineB_no hc)
    have hyes := fun hc => hnext x rfl (fineB_iff.2 hc)
    clear hnext hstop hm
    have hpk : k = 0 ∧ a = 0 ∧ d = false ∨ ∃ j, k = j + 1 := by
      rcases hp with e | ⟨j, e, _⟩
      · exact .inl e
      · exact .inr ⟨j, e⟩
    by_cases c1 : x.at' < 0
    · simp [hlt, hlt', hg, V.cells, edC, c1]
      exact hno (by omega)
    by_cases c2 : size < x.at'
    · simp [hlt, hlt', hg, V.cells, edC, c1, c2]
      exact hno (by omega)
    by_cases c3 : x.tok < 0
    · simp [hlt, hlt', hg, V.cells, edC, c1, c2, c3]
      exact hno (by omega)
    by_cases c4 : 15 < x.tok
    · simp [hlt, hlt', hg, V.cells, edC, c1, c2, c3, c4]
      exact hno (by omega)
    cases hd : x.drop
    · rw [show edC x = edC x from rfl] at hg
      simp only [edC, hd] at hg
      rcases hpk with ⟨e0, e1, e2⟩ | ⟨j, e0⟩
      · subst e0
        have hl0 : 0 < l.length := hlt
        simp [hlt, hl0, hg, V.cells, edC, hw1, c1, c2, c3, c4, hd]
        exact hyes ⟨by omega, by omega, by omega, by simp [e2], by simp [hd], by omega, by omega⟩
      have hpv2 := hpv j e0
      have hj : (j : Int) < l.length := by omega
      have hj2 : j < l.length := by omega
      have hk0 : 0 < k := by omega
      have hw2 : IntKind.i64.wrap ((k : Int) - 1) = (j : Int) := by rw [wrap_i64 (by omega) (by omega)]; omega
      by_cases c7 : x.at' < a
      · simp [hlt, hlt', hg, V.cells, edC, hk0, hpv2, hw2, hj, hj2, hw1, c1, c2, c3, c4, hd, c7]
        exact hno (by omega)
      cases hdd : d
      · rw [hdd] at hpv2
        simp [hlt, hlt', hg, V.cells, edC, hk0, hpv2, hw2, hj, hj2, hw1, c1, c2, c3, c4, hd, c7]
        exact hyes ⟨by omega, by omega, by omega, by simp [hdd], by simp [hd], by omega, by omega⟩
      · rw [hdd] at hpv2
        by_cases c8 : x.at' = a
        · have c1a : ¬ a < 0 := by omega
          have c2a : ¬ size < a := by omega
          have c5b : ¬ a < a := by omega
          simp [hlt, hlt', hg, V.cells, edC, hk0, hpv2, hw2, hj, hj2, hw1, c1, c2, c3, c4, hd, c8, c1a, c2a, c5b]
          exact hno (fun hh => hh.2.2.2.1 hdd c8)
        simp [hlt, hlt', hg, V.cells, edC, hk0, hpv2, hw2, hj, hj2, hw1, c1, c2, c3, c4, hd, c7, c8]
        exact hyes ⟨by omega, by omega, by omega, fun _ => c8, by simp [hd], by omega, by omega⟩
    · simp only [edC, hd] at hg
      by_cases c5 : size ≤ x.at'
      · simp [hlt, hlt', hg, V.cells, edC, c1, c2, c3, c4, hd, c5]
        exact hno (fun hh => by have := (hh.2.2.2.2.1 hd).1; omega)
      by_cases c6 : x.tok = 0
      · have c6' : x.tok = 0 := c6
        rcases hpk with ⟨e0, e1, e2⟩ | ⟨j, e0⟩
        · subst e0
          have hl0 : 0 < l.length := hlt
          simp [hlt, hl0, hg, V.cells, edC, hw1, c1, c2, c3, c4, hd, c5, c6]
          exact hyes ⟨by omega, by omega, by omega, by simp [e2], fun _ => ⟨by omega, c6'⟩, by omega, by omega⟩
        have hpv2 := hpv j e0
        have hj : (j : Int) < l.length := by omega
        have hj2 : j < l.length := by omega
        have hk0 : 0 < k := by omega
        have hw2 : IntKind.i64.wrap ((k : Int) - 1) = (j : Int) := by rw [wrap_i64 (by omega) (by omega)]; omega
        by_cases c7 : x.at' < a
        · simp [hlt, hlt', hg, V.cells, edC, hk0, hpv2, hw2, hj, hj2, hw1, c1, c2, c3, c4, hd, c5, c6, c7]
          exact hno (by omega)
        cases hdd : d
        · rw [hdd] at hpv2
          simp [hlt, hlt', hg, V.cells, edC, hk0, hpv2, hw2, hj, hj2, hw1, c1, c2, c3, c4, hd, c5, c6, c7]
          exact hyes ⟨by omega, by omega, by omega, by simp [hdd], fun _ => ⟨by omega, c6'⟩, by omega, by omega⟩
        · rw [hdd] at hpv2
          by_cases c8 : x.at' = a
          · have c1a : ¬ a < 0 := by omega
            have c2a : ¬ size < a := by omega
            have c5a : ¬ size ≤ a := by omega
            have c5b : ¬ a < a := by omega
            simp [hlt, hlt', hg, V.cells, edC, hk0, hpv2, hw2, hj, hj2, hw1, c1, c2, c3, c4, hd, c5, c6, c8, c1a, c2a, c5a, c5b]
            exact hno (fun hh => hh.2.2.2.1 hdd c8)
          simp [hlt, hlt', hg, V.cells, edC, hk0, hpv2, hw2, hj, hj2, hw1, c1, c2, c3, c4, hd, c5, c6, c7, c8]
          exact hyes ⟨by omega, by omega, by omega, fun _ => c8, fun _ => ⟨by omega, c6'⟩, by omega, by omega⟩
      · simp [hlt, hlt', hg, V.cells, edC, c1, c2, c3, c4, hd, c5, c6]
        exact hno (fun hh => c6 (hh.2.2.2.2.1 hd).2)
  · have hlt' : ¬ (k : Int) < l.length := by omega
    have hk : k = l.length := by omega
    rw [hk, List.drop_length] at hm
    simp [hlt']
    rw [← hm] at hQ
    exact fin (by simp) hQ
end
end Go.Proofs.Ytbbmglginkabfaa.Al
