/-
  Layer 20: the reference, but for its reading, by the abstract layer. Conditions: each theorem's own.
-/
import Derived.Test.YtpneojpgahegaaaVerB
import Derived.Test.YtpneojpgahegaaaSim
import Derived.Test.YtpneojpgahegaaaAlFl20
import Derived.Test.YtpneojpgahegaaaAlFl18
namespace Go.Proofs.Ytpneojpgahegaaa.Al
open Go Go.RowKit
set_option linter.unusedSimpArgs false
set_option linter.unusedVariables false
attribute [-simp] List.getD_eq_getElem?_getD Int.not_lt Int.not_le List.map_take

section
variable {X : Cx} {h : AH} {Q : V → AH → Prop}
/-- The reference of layer 20. -/
structure LVR (X : Cx) : Prop where
  put : Has (Ecx X) K.probateref01_Put A.probateref01_Put
  nums : Has (Ecx X) K.probateref02_Nums A.probateref02_Nums
  q : LQ X
  same2 : Has (Ecx X) K.probateref02_Same A.probateref02_Same
  same18 : Has (Ecx X) K.probateref18_Same A.probateref18_Same
  num : Has (Ecx X) K.probateref20_num A.probateref20_num
  flag : Has (Ecx X) K.probateref20_flag A.probateref20_flag
  deriv : Has (Ecx X) K.probateref20_derivation A.probateref20_derivation
  may : Has (Ecx X) K.probateref20_May A.probateref20_May
  right : Has (Ecx X) K.probateref20_Right A.probateref20_Right
  bytes : Has (Ecx X) K.probateref20_Bytes A.probateref20_Bytes
  encode : Has (Ecx X) K.probateref20_Encode A.probateref20_Encode
  read : Has (Ecx X) K.probateref20_Read A.probateref20_Read
  decode : Has (Ecx X) K.probateref20_Decode A.probateref20_Decode
  same : Has (Ecx X) K.probateref20_Same A.probateref20_Same
  alike : Has (Ecx X) K.probateref20_Alike A.probateref20_Alike
theorem rnum20_spec (L : LVR X) (n : Int) (h0 : 0 ≤ n) (h1 : n < 2 ^ 63) (hQ : Q (.sl 1 0 (u8s (vput n.toNat))) h) : Ecx X K.probateref20_num [.int .i64 n] h Q := by
  refine fn_walk L.num (by simp [A.probateref20_num]) fun wf => ?_
  obtain ⟨m, rfl⟩ : ∃ m : Nat, n = m := ⟨n.toNat, by omega⟩
  have hw : IntKind.u64.wrap (m : Int) = m := wrap_u64_nat (by omega)
  simp [A.probateref20_num, hw]
  refine ecall (rput_spec L.put m (by omega) ?_)
  simp
  exact fin (by simp [cellsOf_u8s]; exact Bdd_u8s _ _ _) (by simpa using hQ)
theorem rflag_spec (L : LVR X) (b : Bool) (hQ : Q (.int .i64 (boolN b)) h) : Ecx X K.probateref20_flag [.bool b] h Q := by
  refine fn_walk L.flag (by simp [A.probateref20_flag]) fun wf => ?_
  cases b <;> simp [A.probateref20_flag] <;> exact fin (by simp) hQ
theorem rderiv_spec (L : LVR X) (l : List Int) (s : Nat) (hl : l.length < 2 ^ 62) (hQ : Q (.bool (derivB l)) h) : Ecx X K.probateref20_derivation [.sl 1 s (ints l)] h Q := by
  refine fn_walk L.deriv (by simp [A.probateref20_derivation]) fun wf => ?_
  unfold derivB at hQ
  simp [A.probateref20_derivation]
  refine loopI (n := l.length) (fun m env h' => ∃ k, k ≤ l.length ∧ m = l.length - k ∧ h' = h ∧ env = [(0, .sl 1 s (ints l)), (3, .int .i64 k)] ∧ (l.take k).all (fun p => within p 59) = true) ?_ ⟨0, by omega, by omega, rfl, rfl, rfl⟩
  rintro m env h' ⟨k, hk, rfl, rfl, rfl, ha⟩
  unfold A.probateref20_derivation.L0
  have hil : (ints l).length = l.length := by simp [ints]
  by_cases hlt : k < l.length
  · have hlt' : (k : Int) < l.length := by omega
    have hg := ints_get hlt
    have hw1 : IntKind.i64.wrap ((k : Int) + 1) = ((k + 1 : Nat) : Int) := by rw [wrap_i64 (by omega) (by omega)]; rfl
    have hnx := fun hf => all_snoc (f := fun p => within p 59) hlt ha hf
    have hno := fun hf => all_at (f := fun p => within p 59) hlt hf
    generalize l[k] = x at *
    by_cases c1 : x < 0
    · have hf : within x 59 = false := by simp [within]; omega
      rw [hno hf] at hQ
      simp [hil, hlt', hg, V.cells, c1]
      exact fin (by simp) (by simpa using hQ)
    by_cases c2 : 59 < x
    · have hf : within x 59 = false := by simp [within]; omega
      rw [hno hf] at hQ
      simp [hil, hlt', hg, V.cells, c1, c2]
      exact fin (by simp) (by simpa using hQ)
    · have hf : within x 59 = true := by simp [within]; omega
      simp [hil, hlt', hg, V.cells, c1, c2, hw1]
      exact ⟨l.length - (k + 1), by omega, iv ⟨k + 1, by omega, rfl, rfl, rfl, hnx hf⟩⟩
  · have hlt' : ¬ (k : Int) < l.length := by omega
    obtain rfl : k = l.length := by omega
    rw [List.take_length] at ha
    rw [ha] at hQ
    have e2 : decide ((l.length : Int) ≤ 2000) = decide (l.length ≤ 2000) := by
      by_cases c : l.length ≤ 2000
      · simp [c, show (l.length : Int) ≤ 2000 by omega]
      · simp [c, show ¬ (l.length : Int) ≤ 2000 by omega]
    simp [hil, e2]
    exact fin (by simp) (by simpa using hQ)
theorem vd_cells (v : Vd) : vdC v = [.int .i64 v.kind, .sl 1 0 (ints v.tree), .bool v.sure, .int .i64 v.at', .int .u32 v.expect, .sl 3 0 (v.edits.map edV)] := rfl
theorem ed_cells (x : Ed) : edC x = [.int .i64 x.at', .bool x.drop, .int .i64 x.tok] := rfl
theorem it_cells (x : It) : itC x = [.int .i64 x.prod, .int .i64 x.dot, .int .i64 x.frm] := rfl
theorem pf_cells (p : Pf) : pfC p = [.sl 1 0 (p.sets.map setV), .sl 1 0 (p.leads.map leadV)] := rfl
set_option maxHeartbeats 2000000 in
theorem rmay20_spec (L : LVR X) (v : Vd) (ok : VdOk v) (hQ : Q (.bool (mayV v)) h) : Ecx X K.probateref20_May [vdV v] h Q := by
  refine fn_walk L.may (by simp [A.probateref20_May]) fun wf => ?_
  have gr := (Gr.refl h).new (vdC v)
  have ob : (h.new (vdC v)).objs h.nobj = vdC v := new_objs_same _ _
  have nb : h.nobj < (h.new (vdC v)).nobj := by simp
  have em : mayV v = (decide (1 ≤ v.kind) && decide (v.kind ≤ 4) && within v.at' 24 && decide (v.expect ≤ 131071) && decide (v.edits.length ≤ 100) && derivB v.tree && v.edits.all edB && bareB v) := by
    unfold mayV
    cases decide (1 ≤ v.kind) <;> cases decide (v.kind ≤ 4) <;> cases bareB v <;> cases derivB v.tree <;> cases within v.at' 24 <;> cases decide (v.expect ≤ 131071) <;> cases decide (v.edits.length ≤ 100) <;> cases v.edits.all edB <;> rfl
  rw [em] at hQ
  clear em
  simp [A.probateref20_May, vdV, V.cells, V.good]
  generalize h.new (vdC v) = h2 at *
  by_cases c1 : v.kind < 1
  · simp [show ¬ 1 ≤ v.kind by omega] at hQ; simp [ob, vd_cells, c1]; exact fin_wk gr (.same _) (by simp) hQ
  by_cases c2 : 4 < v.kind
  · simp [show ¬ v.kind ≤ 4 by omega] at hQ; simp [ob, vd_cells, c1, c2]; exact fin_wk gr (.same _) (by simp) hQ
  by_cases c3 : v.at' < 0
  · simp [within, show ¬ 0 ≤ v.at' by omega] at hQ; simp [ob, vd_cells, c1, c2, c3]; exact fin_wk gr (.same _) (by simp) hQ
  by_cases c4 : 24 < v.at'
  · simp [within, show ¬ v.at' ≤ 24 by omega] at hQ; simp [ob, vd_cells, c1, c2, c3, c4]; exact fin_wk gr (.same _) (by simp) hQ
  by_cases c5 : 131071 < v.expect
  · simp [show ¬ v.expect ≤ 131071 by omega] at hQ; simp [ob, vd_cells, c1, c2, c3, c4, c5]; exact fin_wk gr (.same _) (by simp) hQ
  by_cases c6 : (100 : Int) < v.edits.length
  · simp [show ¬ v.edits.length ≤ 100 by omega] at hQ; simp [ob, vd_cells, c1, c2, c3, c4, c5, c6]; exact fin_wk gr (.same _) (by simp) hQ
  simp [within, show 1 ≤ v.kind by omega, show v.kind ≤ 4 by omega, show 0 ≤ v.at' by omega, show v.at' ≤ 24 by omega, show v.expect ≤ 131071 by omega, show v.edits.length ≤ 100 by omega] at hQ
  simp [ob, vd_cells, c1, c2, c3, c4, c5, c6]
  refine ecall (rderiv_spec L v.tree 0 ok.tree ?_)
  cases c7 : derivB v.tree with
  | false => simp [c7] at hQ; simp; exact fin_wk gr (.same _) (by simp) hQ
  | true =>
  simp [c7] at hQ
  simp
  refine loopI (n := v.edits.length) (fun m env h' => ∃ k, k ≤ v.edits.length ∧ m = v.edits.length - k ∧ env = [(1, .ptr h.nobj 0), (3, .int .i64 (k : Nat))] ∧ Gr h h' ∧ h'.objs h.nobj = vdC v ∧ h.nobj < h'.nobj ∧ (v.edits.take k).all edB = true) ?_ ⟨0, by omega, by omega, rfl, gr, ob, nb, by simp⟩
  rintro m env h' ⟨k, hk, rfl, rfl, gr', b1, l1, ha⟩
  unfold A.probateref20_May.L0
  by_cases hlt : k < v.edits.length
  · have hlt' : (k : Int) < v.edits.length := by omega
    have hg : (v.edits.map edV).getD k .undef = edV v.edits[k] := Enc.getD (enc := edV) hlt
    have hw1 : IntKind.i64.wrap ((k : Int) + 1) = ((k + 1 : Nat) : Int) := by rw [wrap_i64 (by omega) (by omega)]; rfl
    have hnx := fun hf => all_snoc (f := edB) hlt ha hf
    have hno : edB v.edits[k] = false → Q (.bool false) h := fun hf => by rw [all_at (f := edB) hlt hf] at hQ; simpa using hQ
    generalize v.edits[k] = x at *
    have n1 : ¬ h.nobj = h'.nobj := by omega
    have gr2 := gr'.new (edC x)
    have o1 : (h'.new (edC x)).objs h.nobj = vdC v := by rw [new_objs_ne _ _ n1]; exact b1
    have o2 : (h'.new (edC x)).objs h'.nobj = edC x := new_objs_same _ _
    have q1 : h.nobj < (h'.new (edC x)).nobj := by simp; omega
    rw [ed_cells] at gr2 o1 o2 q1
    simp [hlt', b1, vd_cells, hg, edV, ed_cells, V.cells, V.good, setAt]
    generalize h'.new [.int .i64 x.at', .bool x.drop, .int .i64 x.tok] = h3 at *
    by_cases d1 : x.at' < 0
    · simp [o2, d1]; exact fin_wk gr2 (.same _) (by simp) (hno (by simp [edB, within, show ¬ 0 ≤ x.at' by omega]))
    by_cases d2 : 24 < x.at'
    · simp [o2, d1, d2]; exact fin_wk gr2 (.same _) (by simp) (hno (by simp [edB, within, show ¬ x.at' ≤ 24 by omega]))
    by_cases d3 : x.tok < 0
    · simp [o2, d1, d2, d3]; exact fin_wk gr2 (.same _) (by simp) (hno (by simp [edB, within, show ¬ 0 ≤ x.tok by omega]))
    by_cases d4 : 15 < x.tok
    · simp [o2, d1, d2, d3, d4]; exact fin_wk gr2 (.same _) (by simp) (hno (by simp [edB, within, show ¬ x.tok ≤ 15 by omega]))
    simp [o2, d1, d2, d3, d4, hw1]
    exact ⟨v.edits.length - (k + 1), by omega, iv ⟨k + 1, by omega, rfl, rfl, gr2, o1, q1, hnx (edB_iff.2 ⟨⟨by omega, by omega⟩, by omega, by omega⟩)⟩⟩
  · have hlt' : ¬ (k : Int) < v.edits.length := by omega
    obtain rfl : k = v.edits.length := by omega
    rw [List.take_length] at ha
    simp [ha] at hQ
    clear hlt hlt' ha
    unfold bareB at hQ
    have x0 := ok.expect
    obtain ⟨kind, tree, sure, at', expect, edits⟩ := v
    simp only at *
    clear ok
    have ht : (0 < tree.length) ∨ tree.length = 0 := by omega
    have he : (0 < edits.length) ∨ edits.length = 0 := by omega
    by_cases k1 : kind = 1
    · subst k1
      rcases he with he | he <;> by_cases a0 : at' = 0 <;> by_cases x0 : expect = 0 <;> simp [he, a0, x0] at hQ <;> simp [b1, vdC, he, a0, x0] <;> exact fin_wk gr' (.same _) (by simp) hQ
    by_cases k2 : kind = 2
    · subst k2
      rcases ht with ht | ht <;> rcases he with he | he <;> cases sure <;> simp [he, ht] at hQ <;> simp [b1, vdC, he, ht] <;> exact fin_wk gr' (.same _) (by simp) hQ
    by_cases k3 : kind = 3
    · subst k3
      cases sure <;> simp at hQ <;> simp [b1, vdC] <;> exact fin_wk gr' (.same _) (by simp) hQ
    have k4 : kind = 4 := by omega
    subst k4
    rcases ht with ht | ht <;> rcases he with he | he <;> cases sure <;> by_cases a0 : at' = 0 <;> by_cases x0 : expect = 0 <;> simp [he, ht, a0, x0] at hQ <;> simp [b1, vdC, he, ht, a0, x0] <;> exact fin_wk gr' (.same _) (by simp) hQ
end
end Go.Proofs.Ytpneojpgahegaaa.Al
namespace Go.Proofs.Ytpneojpgahegaaa.Al
open Go Go.RowKit
set_option linter.unusedSimpArgs false
set_option linter.unusedVariables false
attribute [-simp] List.getD_eq_getElem?_getD Int.not_lt Int.not_le List.map_take

section
variable {X : Cx} {h : AH} {Q : V → AH → Prop}
theorem rright20_L1 {h0 h : AH} {o k : Nat} {p : Pf} {s : List It} (hk : k < p.sets.length) (hs : p.sets[k] = s) (hl : s.length ≤ 1500) (gr : Gr h0 h) (ob : h.objs o = pfC p) (lo : o < h.nobj) {Q : Ex → Env → AH → Prop} {zQ : Lz Q} {z : Lz (AC.loop A.probateref20_Right.L1)}
    (hR : s.all itB = false → ∀ h' env, Gr h0 h' → Q .ret ((2, .bool false) :: env) h')
    (hQ : s.all itB = true → ∀ h' v, Gr h0 h' → h'.objs o = pfC p → o < h'.nobj → Q (.exit 2) [(1, .ptr o 0), (3, .int .i64 k), (4, .int .i64 s.length), (38, v)] h') :
    acZ (Ecx X) [(1, .ptr o 0), (3, .int .i64 k), (4, .int .i64 0)] h z zQ := by
  refine loopI (n := s.length) (fun r env h' => ∃ j, j ≤ s.length ∧ r = s.length - j ∧ env = [(1, .ptr o 0), (3, .int .i64 k), (4, .int .i64 (j : Nat))] ∧ Gr h0 h' ∧ h'.objs o = pfC p ∧ o < h'.nobj ∧ (s.take j).all itB = true) ?_
    ⟨0, by omega, by omega, rfl, gr, ob, lo, by simp⟩
  rintro r env h' ⟨j, hj, rfl, rfl, gr', b1, l1, ha⟩
  unfold A.probateref20_Right.L1
  have hks : (p.sets.map setV).getD k .undef = setV s := by rw [← hs]; exact Enc.getD (enc := setV) hk
  have hk' : (k : Int) < p.sets.length := by omega
  by_cases hlt : j < s.length
  · have hlt' : (j : Int) < s.length := by omega
    have hg : (s.map itV).getD j .undef = itV s[j] := Enc.getD (enc := itV) hlt
    have hw1 : IntKind.i64.wrap ((j : Int) + 1) = ((j + 1 : Nat) : Int) := by rw [wrap_i64 (by omega) (by omega)]; rfl
    have hnx := fun hf => all_snoc (f := itB) hlt ha hf
    have hno := fun hf => hR (all_at (f := itB) hlt hf)
    generalize s[j] = x at *
    have n1 : ¬ o = h'.nobj := by omega
    have gr2 := gr'.new (itC x)
    have o1 : (h'.new (itC x)).objs o = pfC p := by rw [new_objs_ne _ _ n1]; exact b1
    have o2 : (h'.new (itC x)).objs h'.nobj = itC x := new_objs_same _ _
    have q1 : o < (h'.new (itC x)).nobj := by simp; omega
    rw [it_cells] at gr2 o1 o2 q1
    simp [hk, hk', hlt', b1, pf_cells, hks, setV, hg, itV, it_cells, V.cells, V.good, setAt]
    generalize h'.new [.int .i64 x.prod, .int .i64 x.dot, .int .i64 x.frm] = h3 at *
    by_cases d1 : x.prod < 0
    · simp [o2, d1]; exact hno (by simp [itB, within, show ¬ 0 ≤ x.prod by omega]) _ _ gr2
    by_cases d2 : 59 < x.prod
    · simp [o2, d1, d2]; exact hno (by simp [itB, within, show ¬ x.prod ≤ 59 by omega]) _ _ gr2
    by_cases d3 : x.dot < 0
    · simp [o2, d1, d2, d3]; exact hno (by simp [itB, within, show ¬ 0 ≤ x.dot by omega]) _ _ gr2
    by_cases d4 : 8 < x.dot
    · simp [o2, d1, d2, d3, d4]; exact hno (by simp [itB, within, show ¬ x.dot ≤ 8 by omega]) _ _ gr2
    by_cases d5 : x.frm < 0
    · simp [o2, d1, d2, d3, d4, d5]; exact hno (by simp [itB, within, show ¬ 0 ≤ x.frm by omega]) _ _ gr2
    by_cases d6 : 24 < x.frm
    · simp [o2, d1, d2, d3, d4, d5, d6]; exact hno (by simp [itB, within, show ¬ x.frm ≤ 24 by omega]) _ _ gr2
    simp [o2, d1, d2, d3, d4, d5, d6, hw1]
    exact ⟨s.length - (j + 1), by omega, iv ⟨j + 1, by omega, rfl, rfl, gr2, o1, q1, hnx (itB_iff.2 ⟨⟨⟨by omega, by omega⟩, by omega, by omega⟩, by omega, by omega⟩)⟩⟩
  · have hlt' : ¬ (j : Int) < s.length := by omega
    obtain rfl : j = s.length := by omega
    rw [List.take_length] at ha
    simp [hk, hk', b1, pf_cells, hks, setV]
    exact hQ ha _ _ gr' b1 l1
theorem rright20_spec (L : LVR X) (p : Pf) (ok : PfOk p) (hQ : Q (.bool (rightPf p)) h) : Ecx X K.probateref20_Right [pfV p] h Q := by
  refine fn_walk L.right (by simp [A.probateref20_Right]) fun wf => ?_
  have gr := (Gr.refl h).new (pfC p)
  have ob : (h.new (pfC p)).objs h.nobj = pfC p := new_objs_same _ _
  have nb : h.nobj < (h.new (pfC p)).nobj := by simp
  unfold rightPf at hQ
  simp [A.probateref20_Right, pfV, V.cells, V.good]
  generalize h.new (pfC p) = h2 at *
  by_cases c1 : (25 : Int) < p.sets.length
  · simp [show ¬ p.sets.length ≤ 25 by omega] at hQ; simp [ob, pf_cells, c1]; exact fin_wk gr (.same _) (by simp) hQ
  by_cases c2 : (17 : Int) < p.leads.length
  · simp [show ¬ p.leads.length ≤ 17 by omega] at hQ; simp [ob, pf_cells, c1, c2]; exact fin_wk gr (.same _) (by simp) hQ
  simp only [show p.sets.length ≤ 25 by omega, show p.leads.length ≤ 17 by omega, decide_true, Bool.true_and] at hQ
  simp [ob, pf_cells, c1, c2]
  generalize hf : (fun s : List It => decide (s.length ≤ 1500) && s.all itB) = f at *
  refine loopI (n := p.sets.length) (fun m env h' => ∃ k, k ≤ p.sets.length ∧ m = p.sets.length - k ∧ env = [(1, .ptr h.nobj 0), (3, .int .i64 (k : Nat))] ∧ Gr h h' ∧ h'.objs h.nobj = pfC p ∧ h.nobj < h'.nobj ∧ (p.sets.take k).all f = true) ?_ ⟨0, by omega, by omega, rfl, gr, ob, nb, by simp⟩
  rintro m env h' ⟨k, hk, rfl, rfl, gr', b1, l1, ha⟩
  unfold A.probateref20_Right.L0
  by_cases hlt : k < p.sets.length
  · have hlt' : (k : Int) < p.sets.length := by omega
    have hg : (p.sets.map setV).getD k .undef = setV p.sets[k] := Enc.getD (enc := setV) hlt
    have hw1 : IntKind.i64.wrap ((k : Int) + 1) = ((k + 1 : Nat) : Int) := by rw [wrap_i64 (by omega) (by omega)]; rfl
    have hnx := fun hf => all_snoc (f := f) hlt ha hf
    have hno : f p.sets[k] = false → Q (.bool false) h := fun hf => by rw [all_at (f := f) hlt hf] at hQ; simpa using hQ
    generalize hs : p.sets[k] = s at *
    by_cases c3 : (1500 : Int) < s.length
    · simp [hlt, hlt', b1, pf_cells, hg, setV, V.cells, c3]
      exact fin_wk gr' (.same _) (by simp) (hno (by rw [← hf]; simp; intro; omega))
    simp [hlt, hlt', b1, pf_cells, hg, setV, V.cells, c3]
    refine rright20_L1 hlt hs (by omega) gr' b1 l1 (fun hf' h4 env gr4 => ?_) (fun hf' h4 v gr4 b4 l4 => ?_)
    · simp
      exact fin_wk gr4 (.same _) (by simp) (hno (by rw [← hf]; simp [hf']))
    · simp [hw1]
      exact ⟨p.sets.length - (k + 1), by omega, iv ⟨k + 1, by omega, rfl, rfl, gr4, b4, l4, hnx (by rw [← hf]; simp [hf']; omega)⟩⟩
  · have hlt' : ¬ (k : Int) < p.sets.length := by omega
    obtain rfl : k = p.sets.length := by omega
    rw [List.take_length] at ha
    rw [ha, Bool.true_and] at hQ
    simp [b1, pf_cells]
    clear ha hlt hlt'
    refine loopI (n := p.leads.length) (fun m env h' => ∃ k, k ≤ p.leads.length ∧ m = p.leads.length - k ∧ env = [(1, .ptr h.nobj 0), (6, .int .i64 (k : Nat))] ∧ Gr h h' ∧ h'.objs h.nobj = pfC p ∧ h.nobj < h'.nobj ∧ (p.leads.take k).all derivB = true) ?_ ⟨0, by omega, by omega, rfl, gr', b1, l1, by simp⟩
    rintro m env h5 ⟨k, hk, rfl, rfl, gr5, b5, l5, ha⟩
    unfold A.probateref20_Right.L2
    by_cases hlt : k < p.leads.length
    · have hlt' : (k : Int) < p.leads.length := by omega
      have hg : (p.leads.map leadV).getD k .undef = leadV p.leads[k] := Enc.getD (enc := leadV) hlt
      have hw1 : IntKind.i64.wrap ((k : Int) + 1) = ((k + 1 : Nat) : Int) := by rw [wrap_i64 (by omega) (by omega)]; rfl
      have hnx := fun hf => all_snoc (f := derivB) hlt ha hf
      have hno : derivB p.leads[k] = false → Q (.bool false) h := fun hf => by rw [all_at (f := derivB) hlt hf] at hQ; exact hQ
      have hol := ok.lead _ (List.getElem_mem hlt)
      generalize p.leads[k] = l at *
      simp [hlt, hlt', b5, pf_cells, hg, leadV, V.cells]
      refine ecall (rderiv_spec L l 0 hol ?_)
      cases hd : derivB l with
      | false => simp; exact fin_wk gr5 (.same _) (by simp) (hno hd)
      | true =>
        simp [hw1]
        exact ⟨p.leads.length - (k + 1), by omega, iv ⟨k + 1, by omega, rfl, rfl, gr5, b5, l5, hnx hd⟩⟩
    · have hlt' : ¬ (k : Int) < p.leads.length := by omega
      obtain rfl : k = p.leads.length := by omega
      rw [List.take_length] at ha
      rw [ha] at hQ
      simp [b5, pf_cells]
      exact fin_wk gr5 (.same _) (by simp) hQ
theorem same18_L1 {k : Nat} {a b : List (List It)} {s t : List It} {x y : Nat} (ha : k < a.length) (hb : k < b.length) (hs : a[k] = s) (ht : b[k] = t) (hl : s.length < 2 ^ 62) (hst : s.length = t.length) {Q : Ex → Env → AH → Prop} {zQ : Lz Q} {z : Lz (AC.loop A.probateref18_Same.L1)}
    (hR : s ≠ t → ∀ env, Q .ret ((4, .bool false) :: env) h)
    (hQ : s = t → ∀ v, Q (.exit 2) [(0, .sl 1 x (a.map setV)), (1, .sl 1 y (b.map setV)), (5, .int .i64 k), (6, .int .i64 s.length), (35, v)] h) :
    acZ (Ecx X) [(0, .sl 1 x (a.map setV)), (1, .sl 1 y (b.map setV)), (5, .int .i64 k), (6, .int .i64 0)] h z zQ := by
  refine loopI (n := s.length) (fun r env h' => ∃ j, j ≤ s.length ∧ r = s.length - j ∧ env = [(0, .sl 1 x (a.map setV)), (1, .sl 1 y (b.map setV)), (5, .int .i64 k), (6, .int .i64 (j : Nat))] ∧ h' = h ∧ s.take j = t.take j) ?_
    ⟨0, by omega, by omega, rfl, rfl, rfl⟩
  rintro r env h' ⟨j, hj, rfl, rfl, rfl, he⟩
  unfold A.probateref18_Same.L1
  have has : (a.map setV).getD k .undef = setV s := by rw [← hs]; exact Enc.getD (enc := setV) ha
  have hbs : (b.map setV).getD k .undef = setV t := by rw [← ht]; exact Enc.getD (enc := setV) hb
  have ha' : (k : Int) < a.length := by omega
  have hb' : (k : Int) < b.length := by omega
  by_cases hlt : j < s.length
  · have hlt' : (j : Int) < s.length := by omega
    have hltb : j < t.length := by omega
    have hltb' : (j : Int) < t.length := by omega
    have hga : (s.map itV).getD j .undef = itV s[j] := Enc.getD (enc := itV) hlt
    have hgb : (t.map itV).getD j .undef = itV t[j] := Enc.getD (enc := itV) hltb
    have hw1 : IntKind.i64.wrap ((j : Int) + 1) = ((j + 1 : Nat) : Int) := by rw [wrap_i64 (by omega) (by omega)]; rfl
    by_cases e : s[j] = t[j]
    · simp [ha, hb, ha', hb', has, hbs, setV, hlt', hltb', hga, hgb, V.cells, itV, itC, e, hw1]
      exact ⟨s.length - (j + 1), by omega, iv ⟨j + 1, by omega, rfl, rfl, rfl, take_ext2 hlt hltb he e⟩⟩
    · have hne : s[j].prod = t[j].prod → s[j].dot = t[j].dot → ¬ s[j].frm = t[j].frm := by
        intro e1 e2 e3; apply e; cases h1 : s[j]; cases h2 : t[j]; simp_all
      have hR' := hR (by rintro rfl; exact e rfl)
      by_cases e1 : s[j].prod = t[j].prod <;> by_cases e2 : s[j].dot = t[j].dot <;> by_cases e3 : s[j].frm = t[j].frm <;> first | exact absurd e3 (hne e1 e2) | (simp [ha, hb, ha', hb', has, hbs, setV, hlt', hltb', hga, hgb, V.cells, itV, itC, e1, e2, e3]; exact hR' _)
  · have hlt' : ¬ (j : Int) < s.length := by omega
    obtain rfl : j = s.length := by omega
    simp [ha, ha', has, setV, hlt']
    rw [List.take_length, hst, List.take_length] at he
    exact hQ he _
theorem same18_spec (H : Has (Ecx X) K.probateref18_Same A.probateref18_Same) (a b : List (List It)) (x y : Nat) (hl : a.length < 2 ^ 62) (hls : ∀ s ∈ a, s.length < 2 ^ 62) (hQ : Q (.bool (decide (a = b))) h) : Ecx X K.probateref18_Same [.sl 1 x (a.map setV), .sl 1 y (b.map setV)] h Q := by
  refine fn_walk H (by simp [A.probateref18_Same]) fun wf => ?_
  by_cases hab : a.length = b.length
  · have hab' : (a.length : Int) = b.length := by omega
    simp [A.probateref18_Same, hab']
    refine loopI (n := a.length) (fun r env h' => ∃ k, k ≤ a.length ∧ r = a.length - k ∧ env = [(0, .sl 1 x (a.map setV)), (1, .sl 1 y (b.map setV)), (5, .int .i64 (k : Nat))] ∧ h' = h ∧ a.take k = b.take k) ?_
      ⟨0, by omega, by omega, rfl, rfl, rfl⟩
    rintro r env h' ⟨k, hk, rfl, rfl, rfl, he⟩
    unfold A.probateref18_Same.L0
    by_cases hlt : k < a.length
    · have hlt' : (k : Int) < a.length := by omega
      have hltb : k < b.length := by omega
      have hltb' : (k : Int) < b.length := by omega
      have hga : (a.map setV).getD k .undef = setV a[k] := Enc.getD (enc := setV) hlt
      have hgb : (b.map setV).getD k .undef = setV b[k] := Enc.getD (enc := setV) hltb
      have hw1 : IntKind.i64.wrap ((k : Int) + 1) = ((k + 1 : Nat) : Int) := by rw [wrap_i64 (by omega) (by omega)]; rfl
      have hsl := hls _ (List.getElem_mem hlt)
      have hfl : a[k] ≠ b[k] → Q (.bool false) h' := fun hn => by
        have : decide (a = b) = false := by simp; rintro rfl; exact hn rfl
        rw [this] at hQ; exact hQ
      have htk := fun e => take_ext2 hlt hltb he e
      generalize hs : a[k] = s at *
      generalize ht : b[k] = t at *
      by_cases c : s.length = t.length
      · have c' : (s.length : Int) = t.length := by omega
        simp [hlt, hltb, hlt', hltb', hga, hgb, setV, V.cells, c']
        refine same18_L1 hlt hltb hs ht hsl c (fun hn env => ?_) (fun he v => ?_)
        · simp
          exact fin (by simp) (hfl hn)
        · simp [hw1]
          exact ⟨a.length - (k + 1), by omega, iv ⟨k + 1, by omega, rfl, rfl, rfl, htk he⟩⟩
      · have c' : ¬ (s.length : Int) = t.length := by omega
        simp [hlt, hltb, hlt', hltb', hga, hgb, setV, V.cells, c']
        exact fin (by simp) (hfl fun e => c (by rw [e]))
    · have hlt' : ¬ (k : Int) < a.length := by omega
      obtain rfl : k = a.length := by omega
      simp [hlt']
      rw [List.take_length, hab, List.take_length] at he
      exact fin (by simp) (by simpa [he] using hQ)
  · have hab' : ¬ (a.length : Int) = b.length := by omega
    simp [A.probateref18_Same, hab']
    refine fin (by simp) ?_
    have : decide (a = b) = false := by simp; rintro rfl; exact hab rfl
    rw [this] at hQ; exact hQ
end
end Go.Proofs.Ytpneojpgahegaaa.Al
namespace Go.Proofs.Ytpneojpgahegaaa.Al
open Go Go.RowKit
set_option linter.unusedSimpArgs false
set_option linter.unusedVariables false
attribute [-simp] List.getD_eq_getElem?_getD Int.not_lt Int.not_le List.map_take

section
variable {X : Cx} {h : AH} {Q : V → AH → Prop}
theorem rsame20_spec (L : LVR X) (v u : Vd) (hv : v.tree.length ≤ 2 ^ 40) (hve : v.edits.length < 2 ^ 62) (hQ : Q (.bool (decide (v = u))) h) : Ecx X K.probateref20_Same [vdV v, vdV u] h Q := by
  refine fn_walk L.same (by simp [A.probateref20_Same]) fun wf => ?_
  have gr := ((Gr.refl h).new (vdC v)).new (vdC u)
  have o1 : ((h.new (vdC v)).new (vdC u)).objs h.nobj = vdC v := by simp
  have o2 : ((h.new (vdC v)).new (vdC u)).objs (h.nobj + 1) = vdC u := new_objs_same2 _ _
  simp [A.probateref20_Same, vdV, V.cells, V.good]
  generalize (h.new (vdC v)).new (vdC u) = h2 at *
  obtain ⟨k1, t1, s1, a1, x1, e1⟩ := v
  obtain ⟨k2, t2, s2, a2, x2, e2⟩ := u
  simp only [Vd.mk.injEq] at hQ hv hve
  by_cases c1 : k1 = k2
  case neg => simp [c1] at hQ; simp [o1, o2, vdC, c1]; exact fin_wk gr (.same _) (by simp) hQ
  by_cases c2 : s1 = s2
  case neg => simp [c1, c2] at hQ; simp [o1, o2, vdC, c1, c2]; exact fin_wk gr (.same _) (by simp) hQ
  by_cases c3 : a1 = a2
  case neg => simp [c1, c2, c3] at hQ; simp [o1, o2, vdC, c1, c2, c3]; exact fin_wk gr (.same _) (by simp) hQ
  by_cases c4 : x1 = x2
  case neg => simp [c1, c2, c3, c4] at hQ; simp [o1, o2, vdC, c1, c2, c3, c4]; exact fin_wk gr (.same _) (by simp) hQ
  subst c1 c2 c3 c4
  simp at hQ
  simp [o1, o2, vdC]
  refine ecall (sameI_spec L.same2 t1 t2 0 0 hv ?_)
  by_cases c5 : t1 = t2
  case neg => simp [c5] at hQ; simp [c5]; exact fin_wk gr (.same _) (by simp) hQ
  subst c5
  simp at hQ
  simp [o1, o2, vdC]
  by_cases c6 : e1.length = e2.length
  case neg =>
    have c6' : ¬ (e1.length : Int) = e2.length := by omega
    have : decide (e1 = e2) = false := by simp; rintro rfl; exact c6 rfl
    rw [this] at hQ
    simp [c6']; exact fin_wk gr (.same _) (by simp) hQ
  have c6' : (e1.length : Int) = e2.length := by omega
  simp [c6']
  refine loopI (n := e1.length) (fun r env h' => ∃ k, k ≤ e1.length ∧ r = e1.length - k ∧ env = [(2, .ptr h.nobj 0), (3, .ptr (h.nobj + 1) 0), (5, .int .i64 (k : Nat))] ∧ h' = h2 ∧ e1.take k = e2.take k) ?_
    ⟨0, by omega, by omega, rfl, rfl, rfl⟩
  rintro r env h' ⟨k, hk, rfl, rfl, rfl, he⟩
  unfold A.probateref20_Same.L0
  by_cases hlt : k < e1.length
  · have hlt' : (k : Int) < e1.length := by omega
    have hltb : k < e2.length := by omega
    have hltb' : (k : Int) < e2.length := by omega
    have hga : (e1.map edV).getD k .undef = edV e1[k] := Enc.getD (enc := edV) hlt
    have hgb : (e2.map edV).getD k .undef = edV e2[k] := Enc.getD (enc := edV) hltb
    have hw1 : IntKind.i64.wrap ((k : Int) + 1) = ((k + 1 : Nat) : Int) := by rw [wrap_i64 (by omega) (by omega)]; rfl
    by_cases e : e1[k] = e2[k]
    · simp [o1, o2, vdC, hlt, hltb, hlt', hltb', hga, hgb, V.cells, edV, edC, e, hw1]
      exact ⟨e1.length - (k + 1), by omega, iv ⟨k + 1, by omega, rfl, rfl, rfl, take_ext2 hlt hltb he e⟩⟩
    · have hne : e1[k].at' = e2[k].at' → e1[k].drop = e2[k].drop → ¬ e1[k].tok = e2[k].tok := by
        intro q1 q2 q3; apply e; cases h1 : e1[k]; cases h2 : e2[k]; simp_all
      have hf : decide (e1 = e2) = false := by simp; rintro rfl; exact e rfl
      rw [hf] at hQ
      by_cases q1 : e1[k].at' = e2[k].at' <;> by_cases q2 : e1[k].drop = e2[k].drop <;> by_cases q3 : e1[k].tok = e2[k].tok <;> first | exact absurd q3 (hne q1 q2) | (simp [o1, o2, vdC, hlt, hltb, hlt', hltb', hga, hgb, V.cells, edV, edC, q1, q2, q3]; exact fin_wk gr (.same _) (by simp) hQ)
  · have hlt' : ¬ (k : Int) < e1.length := by omega
    obtain rfl : k = e1.length := by omega
    simp [o1, vdC, hlt']
    rw [List.take_length, c6, List.take_length] at he
    exact fin_wk gr (.same _) (by simp) (by simpa [he] using hQ)
theorem ralike20_spec (L : LVR X) (p q : Pf) (ok : PfOk p) (hl : ∀ l ∈ p.leads, l.length ≤ 2 ^ 40) (hQ : Q (.bool (decide (p = q))) h) : Ecx X K.probateref20_Alike [pfV p, pfV q] h Q := by
  refine fn_walk L.alike (by simp [A.probateref20_Alike]) fun wf => ?_
  have gr := ((Gr.refl h).new (pfC p)).new (pfC q)
  have o1 : ((h.new (pfC p)).new (pfC q)).objs h.nobj = pfC p := by simp
  have o2 : ((h.new (pfC p)).new (pfC q)).objs (h.nobj + 1) = pfC q := new_objs_same2 _ _
  simp [A.probateref20_Alike, pfV, V.cells, V.good]
  generalize (h.new (pfC p)).new (pfC q) = h2 at *
  have d3 : decide (p = q) = (decide (p.sets = q.sets) && decide (p.leads = q.leads)) := by
    obtain ⟨s, l⟩ := p; obtain ⟨s2, l2⟩ := q; simp [Bool.eq_iff_iff]
  rw [d3] at hQ
  simp [o1, o2, pfC]
  refine ecall (same18_spec L.same18 p.sets q.sets 0 0 ok.sets ok.set ?_)
  by_cases c1 : p.sets = q.sets
  case neg => simp [c1] at hQ; simp [c1]; exact fin_wk gr (.same _) (by simp) hQ
  simp [c1] at hQ
  simp [o1, o2, pfC, c1]
  have okl := ok.lead
  have okn := ok.leads
  obtain ⟨ps, e1⟩ := p
  obtain ⟨qs, e2⟩ := q
  simp only at *
  by_cases c6 : e1.length = e2.length
  case neg =>
    have c6' : ¬ (e1.length : Int) = e2.length := by omega
    have : decide (e1 = e2) = false := by simp; rintro rfl; exact c6 rfl
    rw [this] at hQ
    simp [c6']; exact fin_wk gr (.same _) (by simp) hQ
  have c6' : (e1.length : Int) = e2.length := by omega
  simp [c6']
  refine loopI (n := e1.length) (fun r env h' => ∃ k, k ≤ e1.length ∧ r = e1.length - k ∧ env = [(2, .ptr h.nobj 0), (3, .ptr (h.nobj + 1) 0), (5, .int .i64 (k : Nat))] ∧ h' = h2 ∧ e1.take k = e2.take k) ?_
    ⟨0, by omega, by omega, rfl, rfl, rfl⟩
  rintro r env h' ⟨k, hk, rfl, rfl, rfl, he⟩
  unfold A.probateref20_Alike.L0
  by_cases hlt : k < e1.length
  · have hlt' : (k : Int) < e1.length := by omega
    have hltb : k < e2.length := by omega
    have hltb' : (k : Int) < e2.length := by omega
    have hga : (e1.map leadV).getD k .undef = leadV e1[k] := Enc.getD (enc := leadV) hlt
    have hgb : (e2.map leadV).getD k .undef = leadV e2[k] := Enc.getD (enc := leadV) hltb
    have hw1 : IntKind.i64.wrap ((k : Int) + 1) = ((k + 1 : Nat) : Int) := by rw [wrap_i64 (by omega) (by omega)]; rfl
    have hll := hl _ (List.getElem_mem hlt)
    simp [o1, o2, pfC, hlt, hltb, hlt', hltb', hga, hgb, V.cells, leadV]
    refine dcall (.bool (decide (e1[k] = e2[k]))) (sameI_spec L.same2 e1[k] e2[k] 0 0 hll ⟨rfl, rfl⟩) ?_
    by_cases e : e1[k] = e2[k]
    · simp [e, hw1]
      exact ⟨e1.length - (k + 1), by omega, iv ⟨k + 1, by omega, rfl, rfl, rfl, take_ext2 hlt hltb he e⟩⟩
    · have hf : decide (e1 = e2) = false := by simp; rintro rfl; exact e rfl
      rw [hf] at hQ
      simp [e]
      exact fin_wk gr (.same _) (by simp) hQ
  · have hlt' : ¬ (k : Int) < e1.length := by omega
    obtain rfl : k = e1.length := by omega
    simp [o1, pfC, hlt']
    rw [List.take_length, c6, List.take_length] at he
    exact fin_wk gr (.same _) (by simp) (by simpa [he] using hQ)
/-- Two slices of things of one cell, that this call has made, and may append to each without the other one. -/
structure Two1 (h0 h : AH) (e1 st1 : Nat) (l1 : List V) (e2 st2 : Nat) (l2 : List V) : Prop where
  a : Own h0 h 1 e1 st1 l1
  b : Own h0 h 1 e2 st2 l2
  ba : st1 ≤ 2 ∨ st1 < h.next
  ne : st1 ≤ 2 ∨ ¬ st1 = st2
theorem Two1.app {h0 h : AH} {e1 st1 e2 st2 : Nat} {l1 l2 : List V} (t : Two1 h0 h e1 st1 l1 e2 st2 l2) {sz e3 : Nat} {m : List V} (hm : m ≠ []) (he : e3 = 1) (hb : (l2.length + m.length) * sz ≤ 2 ^ 46) {K : V → AH → Prop} {zK : Lz K}
    (hk : ∀ st' h', Two1 h0 h' e1 st1 l1 1 st' (l2 ++ m) → h'.objs = h.objs → h'.nobj = h.nobj → K (.sl 1 st' (l2 ++ m)) h') : App h 1 sz e2 st2 l2 e3 m zK :=
  t.b.appF hm he hb fun o' => hk _ _ ⟨t.a.keep o'.gr t.ba t.ne, o', t.ba.imp id fun h1 => by rw [push_next]; omega, t.ba.imp id fun h1 => by omega⟩ (push_objs _ _ _) (push_nobj _ _ _)
/-! ### Bytes -/
theorem rnumsI_spec (L : LVR X) (l : List Int) (s : Nat) (hd : derivB l = true) (hQ : Q (.sl 1 0 (u8s (intsBy l))) h) : Ecx X K.probateref02_Nums [.sl 1 s (ints l)] h Q := by
  obtain ⟨dl, dn⟩ := derivB_iff.1 hd
  have e1 : ints l = i64s (nats l) := by rw [i64s_ints, natI_nats fun t ht => (dn t ht).1]
  have e2 : intsBy l = vput (nats l).length ++ vputs (nats l) := by
    simp only [intsBy, vputs, nats, List.length_map, List.flatMap, List.map_map]; rfl
  rw [e2] at hQ
  rw [e1]
  refine rnums_spec L.nums L.put (nats l) s (fun n h' => ?_) (by simp [nats]; omega) hQ
  simp only [nats, List.mem_map] at h'
  obtain ⟨t, ht, rfl⟩ := h'
  have := dn t ht; omega
def edN (x : Ed) : List Nat := [x.at'.toNat, boolN x.drop, x.tok.toNat]
theorem vputs_ed (l : List Ed) : vputs (l.flatMap edN) = l.flatMap edBy := by
  induction l with
  | nil => rfl
  | cons a l ih => rw [List.flatMap_cons, vputs_app, ih, List.flatMap_cons]; simp [edN, edBy, vputs]
theorem rput_small (H : Has (Ecx X) K.probateref01_Put A.probateref01_Put) (n : Nat) (hc : n < 128) (hQ : Q (.sl 1 2 (u8s [n])) h) : Ecx X K.probateref01_Put [.int .u64 n] h Q := by
  refine fn_walk H (by simp [A.probateref01_Put]) fun wf => ?_
  have hc' : (n : Int) < 128 := by omega
  have e : V.int .u8 (IntKind.u8.wrap (n : Int)) = u8 n := by rw [wrap_u8', u8] <;> omega
  simp [A.probateref01_Put, hc', e, fillL, setAt, V.cells, V.good, V.isAgg, u8]
  exact fin (by simp [cellsOf, V.cells]) hQ
theorem rnum_small (L : LVR X) (n : Int) (h0 : 0 ≤ n) (h1 : n < 128) (hQ : Q (.sl 1 2 (u8s (vput n.toNat))) h) : Ecx X K.probateref20_num [.int .i64 n] h Q := by
  refine fn_walk L.num (by simp [A.probateref20_num]) fun wf => ?_
  obtain ⟨m, rfl⟩ : ∃ m : Nat, n = m := ⟨n.toNat, by omega⟩
  have hw : IntKind.u64.wrap (m : Int) = m := wrap_u64_nat (by omega)
  have hv : vput m = [m] := by rw [vput]; exact if_pos (by omega)
  simp [A.probateref20_num, hw]
  refine ecall (rput_small L.put m (by omega) ?_)
  simp
  exact fin (by simp [cellsOf_u8s]; exact Bdd_u8s _ _ [m]) (by simpa [hv] using hQ)
/-- Numbers' bytes, one behind the other, behind what is there. -/
theorem rbytes20_L1 (L : LVR X) {h0 h : AH} {e0 s0 e st : Nat} {ns : List Nat} {M : List Nat} (hn : ∀ n ∈ ns, n < 2 ^ 63) (hl : ns.length ≤ 2 ^ 20) (hM : M.length ≤ 2 ^ 20) (ow : Own h0 h 1 e0 s0 (u8s M)) (he : ns = [] ∨ e = 1) {Q : Ex → Env → AH → Prop} {zQ : Lz Q} {z : Lz (AC.loop A.probateref20_Bytes.L1)}
    (hQ : ∀ h' e2 st2 v, Own h0 h' 1 e2 st2 (u8s (M ++ vputs ns)) → Q (.exit 2) [(4, .sl e2 st2 (u8s (M ++ vputs ns))), (5, .sl e st (i64s ns)), (7, .int .i64 ns.length), (62, v)] h') :
    acZ (Ecx X) [(4, .sl e0 s0 (u8s M)), (5, .sl e st (i64s ns)), (7, .int .i64 0)] h z zQ := by
  refine loopI (n := ns.length) (fun m env h' => ∃ k e' st', k ≤ ns.length ∧ m = ns.length - k ∧ env = [(4, .sl e' st' (u8s (M ++ vputs (ns.take k)))), (5, .sl e st (i64s ns)), (7, .int .i64 (k : Nat))] ∧ Own h0 h' 1 e' st' (u8s (M ++ vputs (ns.take k)))) ?_
    ⟨0, e0, s0, by omega, by omega, by simp [vputs], by simpa [vputs] using ow⟩
  rintro m env h' ⟨k, e', st', hk, rfl, rfl, ow'⟩
  unfold A.probateref20_Bytes.L1
  by_cases hlt : k < ns.length
  · have hlt' : (k : Int) < ns.length := by omega
    have hg := i64s_getD hlt
    have hgk : ns.getD k 0 = ns[k] := by simp [List.getD, List.getElem?_eq_getElem hlt]
    have hm : ns[k] ∈ ns := List.getElem_mem hlt
    have hl2 := vputs_len (ns.take k) fun n h => hn n (List.mem_of_mem_take h)
    have hl3 : (ns.take k).length = k := by simp; omega
    have hl4 := vput_le ns[k] (hn _ hm)
    have hw1 : IntKind.i64.wrap ((k : Int) + 1) = ((k + 1 : Nat) : Int) := by rw [wrap_i64 (by omega) (by omega)]; rfl
    have he1 : e = 1 := by rcases he with h1 | h1; · rw [h1] at hlt; simp at hlt
                           · exact h1
    subst he1
    rw [hgk] at hg
    simp [hlt', hg, V.cells]
    refine ecall (rnum20_spec L (ns[k] : Nat) (by omega) (by have := hn _ hm; omega) ?_)
    simp
    refine ow'.appZ (fun _ => rfl) (by simp only [u8s_length, List.length_append]; omega) fun e2 st2 h2 o2 _ _ => ?_
    rw [← u8s_append, List.append_assoc, ← vputs_snoc, ← List.take_succ_eq_append_getElem hlt] at o2 ⊢
    simp [hw1]
    exact ⟨ns.length - (k + 1), by omega, iv ⟨k + 1, e2, st2, by omega, rfl, rfl, o2⟩⟩
  · have hlt' : ¬ (k : Int) < ns.length := by omega
    obtain rfl : k = ns.length := by omega
    rw [List.take_length] at ow' ⊢
    simp
    exact hQ _ _ _ _ ow'
theorem edN_byte {l : List Ed} (h : ∀ x ∈ l, edB x = true) : ∀ n ∈ l.flatMap edN, n < 2 ^ 63 := by
  intro n hn
  simp only [List.mem_flatMap, edN, List.mem_cons, List.not_mem_nil, or_false] at hn
  obtain ⟨x, hx, rfl | rfl | rfl⟩ := hn
  · have := (edB_iff.1 (h x hx)).1; omega
  · unfold boolN; split <;> omega
  · have := (edB_iff.1 (h x hx)).2; omega
theorem edN_len (l : List Ed) : (l.flatMap edN).length = 3 * l.length := by
  induction l with
  | nil => rfl
  | cons a l ih => simp [edN] at ih ⊢; omega
theorem rbytes20_spec (L : LVR X) (v : Vd) (ok : VdOk v) (hQ : Q (vbytV v) h) : Ecx X K.probateref20_Bytes [vdV v] h Q := by
  refine fn_walk L.bytes (by simp [A.probateref20_Bytes]) fun wf => ?_
  have gr := (Gr.refl h).new (vdC v)
  have ob : (h.new (vdC v)).objs h.nobj = vdC v := new_objs_same _ _
  have nb : h.nobj < (h.new (vdC v)).nobj := by simp
  unfold vbytV vbytR at hQ
  have e6 : (vdC v).length = 6 := rfl
  simp [A.probateref20_Bytes, vdV, V.cells, V.good, e6]
  refine ecall (rmay20_spec L v ok ?_)
  generalize h.new (vdC v) = h2 at *
  cases hr : mayV v with
  | false =>
    rw [hr] at hQ
    simp at hQ ⊢
    exact fin_wk gr (Wk.t2 (.nil _ 1 _) _) (by simp) hQ
  | true =>
  obtain ⟨k, _, d, a, x, en, ed⟩ := mayV_iff.1 hr
  have x0 := ok.expect
  have hex : IntKind.i64.wrap v.expect = v.expect := wrap_i64 (by omega) (by omega)
  rw [hr, if_neg (by simp)] at hQ
  have hvb : vdBy v = (vput v.kind.toNat ++ intsBy v.tree) ++ vputs ([boolN v.sure, v.at'.toNat, v.expect.toNat, v.edits.length] ++ v.edits.flatMap edN) := by
    rw [vputs_app, vputs_ed]; simp [vdBy, vputs]
  have b1 := vput_le v.kind.toNat (by omega)
  have b2 := intsBy_len d
  have hb0 : intsBy v.tree ≠ [] := by intro e; have := congrArg List.length e; simp [intsBy] at this; exact vput_ne _ this.1
  simp [ob, vd_cells]
  refine dcall (.sl 1 2 (u8s (vput v.kind.toNat))) (rnum_small L v.kind (by omega) (by omega) ⟨rfl, rfl⟩) ?_
  simp [ob, vd_cells]
  refine dcall (.sl 1 0 (u8s (intsBy v.tree))) (rnumsI_spec L v.tree 0 d ⟨rfl, rfl⟩) ?_
  simp
  refine (Own.full gr 1 (u8s (vput v.kind.toNat))).appF (by simpa [u8s] using hb0) rfl (by simp; omega) fun o3 => ?_
  have ba3 : h2.next < (h2.push 2 1).next := by rw [push_next]; omega
  have ob4 : (h2.push 2 1).objs h.nobj = vdC v := by rw [push_objs]; exact ob
  have gn := gr.next
  rw [← u8s_append] at o3 ⊢
  generalize h2.push 2 1 = h3 at *
  generalize h2.next = st3 at *
  simp [ob4, vd_cells]
  refine dcall (.int .i64 (boolN v.sure)) (rflag_spec L v.sure ⟨rfl, rfl⟩) ?_
  simp [ob4, vd_cells, hex, fillL, V.cells, V.good, V.isAgg]
  generalize hM : vput v.kind.toNat ++ intsBy v.tree = M at *
  have hMl : M.length ≤ 20020 := by rw [← hM, List.length_append]; omega
  have h4 : ∀ (l : List V), [V.int .i64 (boolN v.sure : Nat), .int .i64 v.at', .int .i64 v.expect, .int .i64 v.edits.length] = i64s [boolN v.sure, v.at'.toNat, v.expect.toNat, v.edits.length] := fun _ => by
    obtain ⟨aa, ha⟩ : ∃ n : Nat, v.at' = n := ⟨v.at'.toNat, by omega⟩
    obtain ⟨xx, hx⟩ : ∃ n : Nat, v.expect = n := ⟨v.expect.toNat, by omega⟩
    rw [ha, hx]; rfl
  rw [h4 []]
  refine loopI (n := v.edits.length) (fun m env h' => ∃ k e st, k ≤ v.edits.length ∧ m = v.edits.length - k ∧ env = [(1, .ptr h.nobj 0), (4, .sl 1 st3 (u8s M)), (5, .sl e st (i64s ([boolN v.sure, v.at'.toNat, v.expect.toNat, v.edits.length] ++ (v.edits.take k).flatMap edN))), (6, .int .i64 (k : Nat))] ∧
      Two1 h h' 1 st3 (u8s M) e st (i64s ([boolN v.sure, v.at'.toNat, v.expect.toNat, v.edits.length] ++ (v.edits.take k).flatMap edN)) ∧ h'.objs h.nobj = vdC v) ?_
    ⟨0, 1, 2, by omega, by omega, by simp, ⟨o3, Own.full o3.gr 1 _, .inr ba3, .inr (by have := wf.next; omega)⟩, ob4⟩
  rintro m env h' ⟨k, e, st, hk, rfl, rfl, tw, b1'⟩
  unfold A.probateref20_Bytes.L0
  by_cases hlt : k < v.edits.length
  · have hlt' : (k : Int) < v.edits.length := by omega
    have hg : (v.edits.map edV).getD k .undef = edV v.edits[k] := Enc.getD (enc := edV) hlt
    have hw1 : IntKind.i64.wrap ((k : Int) + 1) = ((k + 1 : Nat) : Int) := by rw [wrap_i64 (by omega) (by omega)]; rfl
    have hb := ed _ (List.getElem_mem hlt)
    have hsn : (v.edits.take (k + 1)).flatMap edN = (v.edits.take k).flatMap edN ++ edN v.edits[k] := by
      rw [List.take_succ_eq_append_getElem hlt, List.flatMap_append]; simp
    have hnl := edN_len (v.edits.take k)
    have htl : (v.edits.take k).length = k := by simp; omega
    have hsn2 : [boolN v.sure, v.at'.toNat, v.expect.toNat, v.edits.length] ++ (v.edits.take (k + 1)).flatMap edN = ([boolN v.sure, v.at'.toNat, v.expect.toNat, v.edits.length] ++ (v.edits.take k).flatMap edN) ++ edN v.edits[k] := by rw [hsn, List.append_assoc]
    have hML : ([boolN v.sure, v.at'.toNat, v.expect.toNat, v.edits.length] ++ (v.edits.take k).flatMap edN).length ≤ 2 ^ 10 := by simp only [List.length_append, List.length_cons, List.length_nil]; omega
    generalize [boolN v.sure, v.at'.toNat, v.expect.toNat, v.edits.length] ++ (v.edits.take k).flatMap edN = M2 at *
    generalize v.edits[k] = x at *
    obtain ⟨p1, p2⟩ := edB_iff.1 hb
    simp [b1', vd_cells, hlt, hlt', hg, edV, edC, V.cells]
    refine dcall (.int .i64 (boolN x.drop)) (rflag_spec L x.drop ⟨rfl, rfl⟩) ?_
    simp [b1', vd_cells, hlt, hlt', hg, edV, edC, V.cells, fillL, V.good, V.isAgg]
    have em : [V.int .i64 x.at', .int .i64 (boolN x.drop : Nat), .int .i64 x.tok] = i64s (edN x) := by
      obtain ⟨aa, ha⟩ : ∃ n : Nat, x.at' = n := ⟨x.at'.toNat, by omega⟩
      obtain ⟨xx, hx⟩ : ∃ n : Nat, x.tok = n := ⟨x.tok.toNat, by omega⟩
      simp only [edN]; rw [ha, hx]; rfl
    rw [em]
    refine tw.app (by simp [edN, i64s]) rfl (by simp [edN]; omega) fun st6 h6 tw6 ob6 _ => ?_
    rw [← i64s_append, ← hsn2] at tw6 ⊢
    simp [hw1]
    exact ⟨v.edits.length - (k + 1), by omega, iv ⟨k + 1, 1, st6, by omega, rfl, rfl, tw6, by rw [ob6]; exact b1'⟩⟩
  · have hlt' : ¬ (k : Int) < v.edits.length := by omega
    obtain rfl : k = v.edits.length := by omega
    rw [List.take_length] at tw ⊢
    have hnl := edN_len v.edits
    have hNb : ∀ n ∈ [boolN v.sure, v.at'.toNat, v.expect.toNat, v.edits.length] ++ v.edits.flatMap edN, n < 2 ^ 63 := fun n hn => by
      rw [List.mem_append] at hn
      rcases hn with hn | hn
      · simp only [List.mem_cons, List.not_mem_nil, or_false] at hn
        rcases hn with rfl | rfl | rfl | rfl
        · unfold boolN; split <;> omega
        · omega
        · omega
        · omega
      · exact edN_byte ed n hn
    have hNl : ([boolN v.sure, v.at'.toNat, v.expect.toNat, v.edits.length] ++ v.edits.flatMap edN).length ≤ 2 ^ 20 := by
      rw [List.length_append, hnl]; simp; omega
    generalize [boolN v.sure, v.at'.toNat, v.expect.toNat, v.edits.length] ++ v.edits.flatMap edN = N at *
    have hel : N = [] ∨ e = 1 := by
      rcases tw.b.el with h1 | h1
      · exact .inl (by simpa [i64s] using h1)
      · exact .inr h1
    simp [b1', vd_cells]
    refine rbytes20_L1 L hNb hNl (by omega) tw.a hel fun h7 e7 st7 v7 o7 => ?_
    · rw [← hvb] at o7 ⊢
      simp
      exact fin_wk o7.gr (Wk.t2 o7.wk _) (by simp [cellsOf_u8s]; exact Bdd_u8s _ _ _) hQ
end
end Go.Proofs.Ytpneojpgahegaaa.Al
namespace Go.Proofs.Ytpneojpgahegaaa.Al
open Go Go.RowKit
set_option linter.unusedSimpArgs false
set_option linter.unusedVariables false
attribute [-simp] List.getD_eq_getElem?_getD Int.not_lt Int.not_le List.map_take

theorem itBy_small {x : It} (h : itB x = true) : itBy x = [x.prod.toNat, x.dot.toNat, x.frm.toNat] := by
  obtain ⟨⟨h1, h2⟩, h3⟩ := itB_iff.1 h
  rw [itBy, vput_small (by omega), vput_small (by omega), vput_small (by omega)]; rfl
section
variable {X : Cx} {h : AH} {Q : V → AH → Prop}
theorem rencode20_L1 {h0 h : AH} {o k e0 s0 : Nat} {p : Pf} {s : List It} {M : List Nat} (hk : k < p.sets.length) (hs : p.sets[k] = s) (hl : s.length ≤ 1500) (hi : ∀ x ∈ s, itB x = true) (hM : M.length ≤ 2 ^ 40) (ow : Own h0 h 1 e0 s0 (u8s M)) (ob : h.objs o = pfC p) (lo : o < h.nobj) {Q : Ex → Env → AH → Prop} {zQ : Lz Q} {z : Lz (AC.loop A.probateref20_Encode.L1)}
    (hQ : ∀ h' e st v, Own h0 h' 1 e st (u8s (M ++ s.flatMap itBy)) → h'.objs o = pfC p → o < h'.nobj → Q (.exit 2) [(1, .ptr o 0), (4, .sl e st (u8s (M ++ s.flatMap itBy))), (5, .int .i64 k), (6, .int .i64 s.length), (39, v)] h') :
    acZ (Ecx X) [(1, .ptr o 0), (4, .sl e0 s0 (u8s M)), (5, .int .i64 k), (6, .int .i64 0)] h z zQ := by
  refine loopI (n := s.length) (fun r env h' => ∃ j e st, j ≤ s.length ∧ r = s.length - j ∧ env = [(1, .ptr o 0), (4, .sl e st (u8s (M ++ (s.take j).flatMap itBy))), (5, .int .i64 k), (6, .int .i64 (j : Nat))] ∧ Own h0 h' 1 e st (u8s (M ++ (s.take j).flatMap itBy)) ∧ h'.objs o = pfC p ∧ o < h'.nobj) ?_
    ⟨0, e0, s0, by omega, by omega, by simp, by simpa using ow, ob, lo⟩
  rintro r env h' ⟨j, e, st, hj, rfl, rfl, ow', b1, l1⟩
  unfold A.probateref20_Encode.L1
  have hks : (p.sets.map setV).getD k .undef = setV s := by rw [← hs]; exact Enc.getD (enc := setV) hk
  have hk' : (k : Int) < p.sets.length := by omega
  by_cases hlt : j < s.length
  · have hlt' : (j : Int) < s.length := by omega
    have hg : (s.map itV).getD j .undef = itV s[j] := Enc.getD (enc := itV) hlt
    have hw1 : IntKind.i64.wrap ((j : Int) + 1) = ((j + 1 : Nat) : Int) := by rw [wrap_i64 (by omega) (by omega)]; rfl
    have hx := hi _ (List.getElem_mem hlt)
    have hsn : M ++ (s.take (j + 1)).flatMap itBy = (M ++ (s.take j).flatMap itBy) ++ itBy s[j] := by
      rw [List.take_succ_eq_append_getElem hlt, List.flatMap_append, List.append_assoc]; simp
    have hfl := flat_len (f := itBy) (m := 30) (s.take j) fun p hp => itBy_len (hi _ (List.mem_of_mem_take hp))
    have htl : (s.take j).length = j := by simp; omega
    have hML : (M ++ (s.take j).flatMap itBy).length ≤ 2 ^ 41 := by rw [List.length_append]; omega
    generalize M ++ (s.take j).flatMap itBy = M' at *
    generalize s[j] = x at *
    rw [itBy_small hx] at hsn
    obtain ⟨⟨p1, p2⟩, p3⟩ := itB_iff.1 hx
    have n1 : ¬ o = h'.nobj := by omega
    have ow2 := ow'.new (itC x)
    have o1 : (h'.new (itC x)).objs o = pfC p := by rw [new_objs_ne _ _ n1]; exact b1
    have o2 : (h'.new (itC x)).objs h'.nobj = itC x := new_objs_same _ _
    have q1 : o < (h'.new (itC x)).nobj := by simp; omega
    have w1 : IntKind.u8.wrap x.prod = x.prod := wrap_u8' (by omega) (by omega)
    have w2 : IntKind.u8.wrap x.dot = x.dot := wrap_u8' (by omega) (by omega)
    have w3 : IntKind.u8.wrap x.frm = x.frm := wrap_u8' (by omega) (by omega)
    rw [it_cells] at ow2 o1 o2 q1
    simp [hk, hk', hlt', b1, pf_cells, hks, setV, hg, itV, it_cells, V.cells, V.good, setAt]
    generalize h'.new [.int .i64 x.prod, .int .i64 x.dot, .int .i64 x.frm] = h3 at *
    simp [o2, w1, w2, w3, fillL, V.cells, V.good, V.isAgg]
    have em : [V.int .u8 x.prod, .int .u8 x.dot, .int .u8 x.frm] = u8s [x.prod.toNat, x.dot.toNat, x.frm.toNat] := by
      simp [u8s, u8]; omega
    rw [em]
    refine ow2.appZ (fun _ => rfl) (by simp; omega) fun e2 st2 h2 o2' ob2 nb2 => ?_
    rw [← u8s_append, ← hsn] at o2' ⊢
    simp [hw1]
    exact ⟨s.length - (j + 1), by omega, iv ⟨j + 1, e2, st2, by omega, rfl, rfl, o2', by rw [ob2]; exact o1, by omega⟩⟩
  · have hlt' : ¬ (j : Int) < s.length := by omega
    obtain rfl : j = s.length := by omega
    rw [List.take_length] at ow' ⊢
    simp [hk, hk', b1, pf_cells, hks, setV]
    exact hQ _ _ _ _ ow' b1 l1
theorem rencode20_spec (L : LVR X) (p : Pf) (ok : PfOk p) (hQ : Q (pbytV p) h) : Ecx X K.probateref20_Encode [pfV p] h Q := by
  refine fn_walk L.encode (by simp [A.probateref20_Encode]) fun wf => ?_
  have gr := (Gr.refl h).new (pfC p)
  have ob : (h.new (pfC p)).objs h.nobj = pfC p := new_objs_same _ _
  have nb : h.nobj < (h.new (pfC p)).nobj := by simp
  unfold pbytV pbytR at hQ
  have e2 : (pfC p).length = 2 := rfl
  simp [A.probateref20_Encode, pfV, V.cells, V.good, e2]
  refine ecall (rright20_spec L p ok ?_)
  generalize h.new (pfC p) = h2 at *
  cases hr : rightPf p with
  | false =>
    rw [hr] at hQ
    simp at hQ ⊢
    exact fin_wk gr (Wk.t2 (.nil _ 1 _) _) (by simp) hQ
  | true =>
  obtain ⟨ns, nl, hs, hd⟩ := rightPf_iff.1 hr
  rw [hr, if_neg (by simp)] at hQ
  have b1 := vput_le p.sets.length (by omega)
  have b2 := vput_le p.leads.length (by omega)
  simp [ob, pf_cells]
  refine ecall (rnum_small L p.sets.length (by omega) (by omega) ?_)
  simp
  refine loopI (n := p.sets.length) (fun m env h' => ∃ k e st, k ≤ p.sets.length ∧ m = p.sets.length - k ∧ env = [(1, .ptr h.nobj 0), (4, .sl e st (u8s (vput p.sets.length ++ (p.sets.take k).flatMap setBy))), (5, .int .i64 (k : Nat))] ∧
      Own h h' 1 e st (u8s (vput p.sets.length ++ (p.sets.take k).flatMap setBy)) ∧ h'.objs h.nobj = pfC p ∧ h.nobj < h'.nobj) ?_
    ⟨0, 1, 2, by omega, by omega, by simp, by simpa using Own.full gr 1 _, ob, nb⟩
  rintro m env h' ⟨k, e, st, hk, rfl, rfl, ow, b1', l1⟩
  unfold A.probateref20_Encode.L0
  by_cases hlt : k < p.sets.length
  · have hlt' : (k : Int) < p.sets.length := by omega
    have hg : (p.sets.map setV).getD k .undef = setV p.sets[k] := Enc.getD (enc := setV) hlt
    have hw1 : IntKind.i64.wrap ((k : Int) + 1) = ((k + 1 : Nat) : Int) := by rw [wrap_i64 (by omega) (by omega)]; rfl
    have hp := hs _ (List.getElem_mem hlt)
    have hsn : vput p.sets.length ++ (p.sets.take (k + 1)).flatMap setBy = (vput p.sets.length ++ (p.sets.take k).flatMap setBy) ++ setBy p.sets[k] := by
      rw [List.take_succ_eq_append_getElem hlt, List.flatMap_append, List.append_assoc]; simp
    have hfl := flat_len (f := setBy) (m := 45010) (p.sets.take k) fun s hp => setBy_len (hs _ (List.mem_of_mem_take hp))
    have htl : (p.sets.take k).length = k := by simp; omega
    have hML : (vput p.sets.length ++ (p.sets.take k).flatMap setBy).length ≤ 2 ^ 30 := by rw [List.length_append]; omega
    generalize vput p.sets.length ++ (p.sets.take k).flatMap setBy = M at *
    generalize hsk : p.sets[k] = s at *
    have a1 := vput_le s.length (by omega)
    simp [hlt, hlt', b1', pf_cells, hg, setV, V.cells]
    refine ecall (rnum20_spec L s.length (by omega) (by omega) ?_)
    simp
    refine ow.appZ (fun _ => rfl) (by simp; omega) fun e3 st3 h3 o3 ob3 nb3 => ?_
    rw [← u8s_append] at o3 ⊢
    simp
    refine rencode20_L1 hlt hsk hp.1 hp.2 (by rw [List.length_append]; omega) o3 (by rw [ob3]; exact b1') (by omega) fun h4 e4 st4 v4 o4 ob4 nb4 => ?_
    have e5 : M ++ vput s.length ++ s.flatMap itBy = vput p.sets.length ++ (p.sets.take (k + 1)).flatMap setBy := by rw [hsn, setBy]; simp
    rw [e5] at o4 ⊢
    simp [hw1]
    exact ⟨p.sets.length - (k + 1), by omega, iv ⟨k + 1, e4, st4, by omega, rfl, rfl, o4, ob4, nb4⟩⟩
  · have hlt' : ¬ (k : Int) < p.sets.length := by omega
    obtain rfl : k = p.sets.length := by omega
    have hfl := flat_len (f := setBy) (m := 45010) p.sets fun s hp => setBy_len (hs _ hp)
    rw [List.take_length] at ow ⊢
    have hML : (vput p.sets.length ++ p.sets.flatMap setBy).length ≤ 2 ^ 30 := by rw [List.length_append]; omega
    have hpb : pfBy p = (vput p.sets.length ++ p.sets.flatMap setBy) ++ vput p.leads.length ++ p.leads.flatMap intsBy := by simp [pfBy]
    generalize vput p.sets.length ++ p.sets.flatMap setBy = M at *
    simp [b1', pf_cells]
    refine ecall (rnum20_spec L p.leads.length (by omega) (by omega) ?_)
    simp
    refine ow.appZ (fun _ => rfl) (by simp; omega) fun e3 st3 h3 o3 ob3 nb3 => ?_
    rw [← u8s_append] at o3 ⊢
    have hML2 : (M ++ vput p.leads.length).length ≤ 2 ^ 31 := by rw [List.length_append]; omega
    generalize M ++ vput p.leads.length = M2 at *
    simp
    refine loopI (n := p.leads.length) (fun m env h' => ∃ k e st, k ≤ p.leads.length ∧ m = p.leads.length - k ∧ env = [(1, .ptr h.nobj 0), (4, .sl e st (u8s (M2 ++ (p.leads.take k).flatMap intsBy))), (8, .int .i64 (k : Nat))] ∧
        Own h h' 1 e st (u8s (M2 ++ (p.leads.take k).flatMap intsBy)) ∧ h'.objs h.nobj = pfC p ∧ h.nobj < h'.nobj) ?_
      ⟨0, e3, st3, by omega, by omega, by simp, by simpa using o3, by rw [ob3]; exact b1', by omega⟩
    rintro m env h5 ⟨k, e, st, hk, rfl, rfl, ow5, b5, l5⟩
    unfold A.probateref20_Encode.L2
    by_cases hlt : k < p.leads.length
    · have hlt' : (k : Int) < p.leads.length := by omega
      have hg : (p.leads.map leadV).getD k .undef = leadV p.leads[k] := Enc.getD (enc := leadV) hlt
      have hw1 : IntKind.i64.wrap ((k : Int) + 1) = ((k + 1 : Nat) : Int) := by rw [wrap_i64 (by omega) (by omega)]; rfl
      have hp := hd _ (List.getElem_mem hlt)
      have hsn : M2 ++ (p.leads.take (k + 1)).flatMap intsBy = (M2 ++ (p.leads.take k).flatMap intsBy) ++ intsBy p.leads[k] := by
        rw [List.take_succ_eq_append_getElem hlt, List.flatMap_append, List.append_assoc]; simp
      have hfl2 := flat_len (f := intsBy) (m := 20010) (p.leads.take k) fun s hp => intsBy_len (hd _ (List.mem_of_mem_take hp))
      have htl : (p.leads.take k).length = k := by simp; omega
      have hML3 : (M2 ++ (p.leads.take k).flatMap intsBy).length ≤ 2 ^ 32 := by rw [List.length_append]; omega
      generalize M2 ++ (p.leads.take k).flatMap intsBy = M3 at *
      generalize p.leads[k] = l at *
      have hil := intsBy_len hp
      simp [hlt, hlt', b5, pf_cells, hg, leadV, V.cells]
      refine ecall (rnumsI_spec L l 0 hp ?_)
      simp
      refine ow5.appZ (fun _ => rfl) (by simp; omega) fun e6 st6 h6 o6 ob6 nb6 => ?_
      rw [← u8s_append, ← hsn] at o6 ⊢
      simp [hw1]
      exact ⟨p.leads.length - (k + 1), by omega, iv ⟨k + 1, e6, st6, by omega, rfl, rfl, o6, by rw [ob6]; exact b5, by omega⟩⟩
    · have hlt' : ¬ (k : Int) < p.leads.length := by omega
      obtain rfl : k = p.leads.length := by omega
      rw [List.take_length, ← hpb] at ow5 ⊢
      simp [b5, pf_cells]
      exact fin_wk ow5.gr (Wk.t2 ow5.wk _) (by simp [cellsOf_u8s]; exact Bdd_u8s _ _ _) hQ
end
end Go.Proofs.Ytpneojpgahegaaa.Al
