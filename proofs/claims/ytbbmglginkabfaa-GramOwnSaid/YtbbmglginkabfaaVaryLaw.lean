/-
  The laws of layer 1, by the abstract layer. Conditions: each theorem's own.
-/
import Derived.Test.YtbbmglginkabfaaVary
import Derived.Test.YtbbmglginkabfaaAlFl01
namespace Go.Proofs.Ytbbmglginkabfaa.Al
open Go Go.RowKit
set_option linter.unusedSimpArgs false
set_option linter.unusedVariables false
attribute [-simp] List.getD_eq_getElem?_getD Int.not_lt Int.not_le

theorem vput_eq (n : Nat) : vput n = if n < 128 then [n] else (n % 128 + 128) :: vput (n / 128) := by rw [vput]
theorem vput_pos (n : Nat) : 0 < (vput n).length := by rw [vput_eq]; split <;> simp
theorem nval_vput (n : Nat) : nval (vput n) = n := by
  induction n using Nat.strongRecOn with
  | _ n ih =>
    rw [vput_eq]
    split
    · simp [nval]; omega
    · simp only [nval, ih (n / 128) (by omega)]; omega
theorem ld_vput (n : Nat) (r : List Nat) : ld (vput n ++ r) + 1 = (vput n).length := by
  induction n using Nat.strongRecOn with
  | _ n ih =>
    rw [vput_eq]
    split
    · rename_i q; simp [ld, q]
    · have := ih (n / 128) (by omega)
      simp only [List.cons_append, ld, List.length_cons]
      rw [if_neg (by omega), this]
theorem vput_last (n : Nat) (r : List Nat) : (vput n ++ r).getD ((vput n).length - 1) 0 = n / 128 ^ ((vput n).length - 1) ∧ (1 < (vput n).length → 0 < n / 128 ^ ((vput n).length - 1)) := by
  induction n using Nat.strongRecOn with
  | _ n ih =>
    rw [vput_eq]
    split
    · simp
    · rename_i q
      obtain ⟨i1, i2⟩ := ih (n / 128) (by omega)
      have hp := vput_pos (n / 128)
      obtain ⟨k, hk⟩ : ∃ k, (vput (n / 128)).length = k + 1 := ⟨(vput (n / 128)).length - 1, by omega⟩
      rw [hk] at i1 i2
      simp only [List.length_cons, hk, Nat.add_sub_cancel, List.cons_append, List.getD_cons_succ] at i1 i2 ⊢
      have e : n / 128 ^ (k + 1) = n / 128 / 128 ^ k := by rw [Nat.pow_succ, Nat.mul_comm, Nat.div_div_eq_div_mul]
      rw [e]
      refine ⟨i1, fun _ => ?_⟩
      by_cases hk0 : k = 0
      · subst hk0; simp; omega
      · exact i2 (by omega)
theorem vtake_vput {n : Nat} (hn : n < 2 ^ 64) (r : List Nat) : vtake (vput n ++ r) = (n, (vput n).length, 0) := by
  have h1 := ld_vput n r
  have h2 := vput_len64 hn
  obtain ⟨h3, h4⟩ := vput_last n r
  have hp := vput_pos n
  have hl : (vput n ++ r).length = (vput n).length + r.length := by simp
  have hk : ld (vput n ++ r) = (vput n).length - 1 := by omega
  have hv : nval ((vput n ++ r).take ((vput n).length)) = n := by rw [List.take_left]; exact nval_vput n
  unfold vtake
  rw [if_neg (by omega), if_neg (by omega), hk, if_neg, if_neg, show (vput n).length - 1 + 1 = (vput n).length by omega, hv]
  · rintro ⟨a, b⟩
    rw [h3] at b
    have := h4 (by omega)
    omega
  · rintro ⟨a, b⟩
    rw [a] at h3
    rw [h3] at b
    have : n / 128 ^ 9 ≤ 1 := by omega
    omega
theorem ld_take : ∀ (b : List Nat) (k : Nat), k ≤ ld b → ld (b.take k) = k
  | _, 0, _ => by simp [ld]
  | [], k + 1, h => by simp [ld] at h
  | c :: r, k + 1, h => by
    unfold ld at h
    split at h
    · omega
    · rename_i q
      simp only [List.take_succ_cons, ld]
      rw [if_neg q, ld_take r k (by omega)]
theorem vtake_cut {n : Nat} (hn : n < 2 ^ 64) : (vtake ((vput n).take ((vput n).length - 1))).2.2 = 3 := by
  have h1 := ld_vput n []
  rw [List.append_nil] at h1
  have h2 := vput_len64 hn
  have h3 := ld_take (vput n) ((vput n).length - 1) (by omega)
  unfold vtake
  rw [if_neg (by omega), if_pos (by rw [h3]; simp)]
theorem vput_inj {n m : Nat} (h : vput n = vput m) : n = m := by
  have := congrArg nval h
  rwa [nval_vput, nval_vput] at this
theorem vput_take : ∀ (b : List Nat), ld b < b.length → (∀ x ∈ b, x < 256) → (0 < ld b → b.getD (ld b) 0 ≠ 0) → vput (nval (b.take (ld b + 1))) = b.take (ld b + 1) ∧ (b.getD (ld b) 0 ≠ 0 → nval (b.take (ld b + 1)) ≠ 0)
  | [], h, _, _ => by simp at h
  | c :: r, h, hb, hz => by
    by_cases hc : c < 128
    · have hl : ld (c :: r) = 0 := by simp [ld, hc]
      rw [hl]
      simp [nval]
      rw [Nat.mod_eq_of_lt hc, vput_eq, if_pos hc]
      exact ⟨rfl, fun h => h⟩
    · have hl : ld (c :: r) = ld r + 1 := by simp [ld, hc]
      rw [hl] at h hz ⊢
      simp at h
      simp only [List.getD_cons_succ] at hz ⊢
      have hz' := hz (by omega)
      obtain ⟨i1, i2⟩ := vput_take r (by omega) (fun x hx => hb x (by simp [hx])) (fun _ => hz')
      have i3 := i2 hz'
      have hc2 := hb c (by simp)
      simp only [List.take_succ_cons, nval]
      refine ⟨?_, fun _ => by omega⟩
      rw [vput_eq, if_neg (by omega)]
      rw [show (c % 128 + 128 * nval (List.take (ld r + 1) r)) / 128 = nval (List.take (ld r + 1) r) by omega, i1]
      congr 1
      omega
theorem vtake_one (b : List Nat) (hb : ∀ x ∈ b, x < 256) : (vtake b).2.2 = 0 ∧ 1 ≤ (vtake b).2.1 ∧ (vtake b).2.1 ≤ b.length ∧ vput (vtake b).1 = b.take (vtake b).2.1 ∧ (vtake b).1 < 2 ^ 64 ∨ (vtake b).2.2 ≠ 0 ∧ (vtake b).1 = 0 ∧ (vtake b).2.1 = 0 := by
  have hle := ld_le b
  unfold vtake
  split
  · exact .inr (by simp)
  · split
    · exact .inr (by simp)
    · split
      · exact .inr (by simp)
      · split
        · exact .inr (by simp)
        · rename_i q1 q2 q3 q4
          refine .inl ⟨rfl, by simp, by simp; omega, ?_, nval64 (by omega) (by omega) q3⟩
          exact (vput_take b (by omega) hb (fun h0 hz => q4 ⟨h0, hz⟩)).1

section
variable {X : Cx} {h : AH} {Q : V → AH → Prop}
/-- What the laws of layer 1 call. -/
structure L01 (X : Cx) : Prop where
  put : Has (Ecx X) K.vary_Put A.vary_Put
  take : Has (Ecx X) K.vary_Take A.vary_Take
  en : Has (Ecx X) K.vary_end A.vary_end
  rput : Has (Ecx X) K.probateref01_Put A.probateref01_Put
  rtake : Has (Ecx X) K.probateref01_Take A.probateref01_Take
  same : Has (Ecx X) K.probateref01_Same A.probateref01_Same
  awake : Has (Ecx X) K.probatelaw01_awake A.probatelaw01_awake
  tells : Has (Ecx X) K.probatelaw01_VaryTells A.probatelaw01_VaryTells
  back : Has (Ecx X) K.probatelaw01_VaryBack A.probatelaw01_VaryBack
  one : Has (Ecx X) K.probatelaw01_VaryOne A.probatelaw01_VaryOne
theorem vput_300 : vput 300 = [172, 2] := by rw [vput_eq, if_neg (by omega), vput_eq, if_pos (by omega)]
theorem vput_0 : vput 0 = [0] := by rw [vput_eq, if_pos (by omega)]
theorem awake1_spec (L : L01 X) (hQ : Q (.bool true) h) : Ecx X K.probatelaw01_awake [] h Q := by
  refine fn_walk L.awake (by simp [A.probatelaw01_awake]) fun wf => ?_
  simp [A.probatelaw01_awake, fillL, V.cells, V.good, V.isAgg]
  refine ecall (take_spec L.take L.en [172, 2, 9] _ (by simp [maxLen]) (by simp) ?_)
  have e1 : vtakeV [172, 2, 9] = .tup [.int .u64 300, .int .i64 2, .int .i64 0] := by simp [vtakeV, vtake, ld, nval]
  rw [e1]
  simp [fillL, V.cells, V.good, V.isAgg]
  refine ecall (take_spec L.take L.en [128] _ (by simp [maxLen]) (by simp) ?_)
  have e2 : vtakeV [128] = .tup [.int .u64 0, .int .i64 0, .int .i64 3] := by simp [vtakeV, vtake, ld, nval]
  rw [e2]
  simp [fillL, V.cells, V.good, V.isAgg]
  refine ecall (take_spec L.take L.en [128, 0] _ (by simp [maxLen]) (by simp) ?_)
  have e3 : vtakeV [128, 0] = .tup [.int .u64 0, .int .i64 0, .int .i64 2] := by simp [vtakeV, vtake, ld, nval]
  rw [e3]
  simp
  refine ecall (put_spec L.put 300 (by omega) ?_)
  simp [fillL, V.cells, V.good, V.isAgg, vput_300]
  refine ecall (same1_spec L.same [172, 2] [172, 2] _ _ (by simp [maxLen]) ?_)
  simp
  refine ecall (put_spec L.put 0 (by omega) ?_)
  simp [fillL, V.cells, V.good, V.isAgg, vput_0]
  refine ecall (same1_spec L.same [0] [0] _ _ (by simp [maxLen]) ?_)
  simp
  exact fin (by simp) hQ
theorem tells1_spec (L : L01 X) (n : Nat) (hn : n < 2 ^ 64) (b : List Nat) (hl : b.length ≤ maxLen) (hb : ∀ x ∈ b, x < 256) (hQ : Q (.bool true) h) : Ecx X K.probatelaw01_VaryTells [.int .u64 n, .sl 1 0 (u8s b)] h Q := by
  refine fn_walk L.tells (by simp [A.probatelaw01_VaryTells]) fun wf => ?_
  simp [A.probatelaw01_VaryTells]
  refine ecall (awake1_spec L ?_)
  simp
  refine gdD_mk (fun h60 => ?_) (fun h60 => ?_)
  · simp
    exact fin (by simp) hQ
  · simp
    refine ecall (take_spec L.take L.en b 0 hl hb ?_)
    simp [vtakeV]
    refine ecall (rtake_spec L.rtake b 0 hl hb ?_)
    simp [vtakeV]
    refine ecall (put_spec L.put n hn ?_)
    simp
    refine ecall (rput_spec L.rput n hn ?_)
    simp
    refine ecall (same1_spec L.same (vput n) (vput n) 0 0 (by have := vput_len64 hn; unfold maxLen; omega) ?_)
    simp
    exact fin (by simp) hQ
theorem one1_spec (L : L01 X) (b : List Nat) (hl : b.length ≤ maxLen) (hb : ∀ x ∈ b, x < 256) (hQ : Q (.bool true) h) : Ecx X K.probatelaw01_VaryOne [.sl 1 0 (u8s b)] h Q := by
  refine fn_walk L.one (by simp [A.probatelaw01_VaryOne]) fun wf => ?_
  simp [A.probatelaw01_VaryOne]
  refine ecall (awake1_spec L ?_)
  simp
  refine gdD_mk (fun h60 => ?_) (fun h60 => ?_)
  · simp
    exact fin (by simp) hQ
  · simp
    refine ecall (take_spec L.take L.en b 0 hl hb ?_)
    have h1 := vtake_one b hb
    simp [vtakeV]
    generalize vtake b = t at *
    obtain ⟨n, k, e⟩ := t
    simp at h1 ⊢
    rcases h1 with ⟨rfl, h2, h3, h4, h5⟩ | ⟨h2, rfl, rfl⟩
    · have h2' : (1 : Int) ≤ k := by omega
      have h3' : (k : Int) ≤ b.length := by omega
      simp [h2', h3']
      refine dcall (.sl 1 0 (u8s (vput n))) ?_ ?_
      · exact put_spec L.put n (by omega) ⟨rfl, rfl⟩
      simp [h3', h3]
      refine dcall (.bool (decide (vput n = b.take k))) ?_ ?_
      · rw [show (u8s b).take k = u8s (b.take k) by simp [u8s, List.map_take]]
        exact same1_spec L.same (vput n) (b.take k) _ _ (by have := vput_len64 h5; unfold maxLen; omega) ⟨rfl, rfl⟩
      simp [h4]
      exact fin (by simp) hQ
    · simp [h2]
      exact fin (by simp) hQ
theorem back1_spec (L : L01 X) (n m : Nat) (hn : n < 2 ^ 64) (hm : m < 2 ^ 64) (b : List Nat) (hl : b.length ≤ maxLen) (hb : ∀ x ∈ b, x < 256) (hQ : Q (.bool true) h) : Ecx X K.probatelaw01_VaryBack [.int .u64 n, .int .u64 m, .sl 1 0 (u8s b)] h Q := by
  refine fn_walk L.back (by simp [A.probatelaw01_VaryBack]) fun wf => ?_
  have hvn := vput_len64 hn
  have hpn := vput_pos n
  have hb1 : ∀ x ∈ vput n, x < 256 := by
    have : ∀ (n : Nat), ∀ x ∈ vput n, x < 256 := by
      intro n
      induction n using Nat.strongRecOn with
      | _ n ih =>
        rw [vput_eq]
        split
        · intro x hx; simp at hx; omega
        · intro x hx
          rcases List.mem_cons.1 hx with rfl | hx
          · omega
          · exact ih (n / 128) (by omega) x hx
    exact this n
  simp [A.probatelaw01_VaryBack]
  refine ecall (awake1_spec L ?_)
  simp
  refine gdD_mk (fun h60 => ?_) (fun h60 => ?_)
  · simp
    exact fin (by simp) hQ
  · simp
    refine ecall (put_spec L.put n hn ?_)
    have h1 : ¬ vput n = [] := by intro e; rw [e] at hpn; simp at hpn
    have h2 : ¬ (10 : Int) < (vput n).length := by omega
    simp [h1, h2, fillL]
    refine (Own.full (Gr.refl h) 1 []).appZ (fun _ => rfl) (by simp; omega) fun e1 st1 h1' o1 _ _ => ?_
    simp at o1 ⊢
    refine o1.appZ (fun _ => rfl) (by simp; omega) fun e2 st2 h2' o2 _ _ => ?_
    rw [← u8s_append] at o2 ⊢
    have he2 : e2 = 1 := by
      rcases o2.el with h3 | h3
      · exfalso; have := congrArg List.length h3; rw [u8s_length, List.length_append, List.length_nil] at this; omega
      · exact h3
    subst he2
    simp
    have hbb : ∀ x ∈ vput n ++ b, x < 256 := fun x hx => by
      rcases List.mem_append.1 hx with hx | hx
      · exact hb1 x hx
      · exact hb x hx
    refine ecall (take_spec L.take L.en (vput n ++ b) st2 (by rw [List.length_append]; unfold maxLen; omega) hbb ?_)
    simp [vtakeV, vtake_vput hn]
    have hw : IntKind.i64.wrap (((vput n).length : Int) - 1) = ((vput n).length - 1 : Nat) := by rw [wrap_i64 (by omega) (by omega)]; omega
    have hi1 : (((vput n).length - 1 : Nat) : Int) ≤ (vput n).length := by omega
    simp [hw, hi1]
    rw [show (u8s (vput n)).take ((vput n).length - 1) = u8s ((vput n).take ((vput n).length - 1)) by simp [u8s, List.map_take]]
    refine ecall (take_spec L.take L.en _ _ (by unfold maxLen; simp; omega) (fun x hx => hb1 x (List.mem_of_mem_take hx)) ?_)
    have hcut := vtake_cut hn
    simp [vtakeV, hcut]
    refine ecall (put_spec L.put m hm ?_)
    simp
    refine ecall (same1_spec L.same (vput n) (vput m) _ _ (by unfold maxLen; omega) ?_)
    have hnm : decide (vput n = vput m) = decide (n = m) := by
      by_cases e : n = m
      · simp [e]
      · have : ¬ vput n = vput m := fun h => e (vput_inj h)
        simp [e, this]
    have hbb2 : (decide (n = m) == decide ((n : Int) = (m : Int))) = true := by
      by_cases e : n = m
      · simp [e]
      · have : ¬ (n : Int) = m := by omega
        simp [e, this]
    simp [hnm]
    rw [hbb2]
    exact fin_wk o2.gr (.same _) (by simp) hQ
end
end Go.Proofs.Ytbbmglginkabfaa.Al
