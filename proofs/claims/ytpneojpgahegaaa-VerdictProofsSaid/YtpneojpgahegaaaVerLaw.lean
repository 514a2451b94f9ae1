/-
  Layer 20: the laws, by the abstract layer. Conditions: each theorem's own.
-/
import Derived.Test.YtpneojpgahegaaaVerRR
import Derived.Test.YtpneojpgahegaaaVerR
namespace Go.Proofs.Ytpneojpgahegaaa.Al
open Go Go.RowKit
set_option linter.unusedSimpArgs false
set_option linter.unusedVariables false
attribute [-simp] List.getD_eq_getElem?_getD Int.not_lt Int.not_le List.map_take

/-! ### Bounds -/
theorem vdBy_len {v : Vd} (ok : OkVd v) : (vdBy v).length ≤ 30000 := by
  have a := ok.kind
  have b := ok.at'
  have c := ok.expect
  have d := ok.edits
  have e1 := vput_le v.kind.toNat (by omega)
  have e2 := intsBy_len ok.tree
  have e3 := vput_le (boolN v.sure) (by unfold boolN; split <;> omega)
  have e4 := vput_le v.at'.toNat (by omega)
  have e5 := vput_le v.expect.toNat (by omega)
  have e6 := vput_le v.edits.length (by omega)
  have e7 := flat_len (f := edBy) (m := 30) v.edits fun x hx => edBy_len (d.2 x hx)
  simp only [vdBy, List.length_append]; omega
theorem pfBy_len {p : Pf} (h : rightPf p = true) : (pfBy p).length ≤ 2000000 := by
  obtain ⟨ns, nl, hs, hd⟩ := rightPf_iff.1 h
  have e1 := vput_le p.sets.length (by omega)
  have e2 := vput_le p.leads.length (by omega)
  have e3 := flat_len (f := setBy) (m := 45010) p.sets fun s hp => setBy_len (hs _ hp)
  have e4 := flat_len (f := intsBy) (m := 20010) p.leads fun s hp => intsBy_len (hd _ hp)
  simp only [pfBy, List.length_append]; omega
theorem flat_byte {α : Type} {f : α → List Nat} (hf : ∀ a, ∀ x ∈ f a, x < 256) (l : List α) : ∀ x ∈ l.flatMap f, x < 256 := fun x hx => by
  obtain ⟨a, _, ha⟩ := List.mem_flatMap.1 hx
  exact hf a x ha
theorem intsBy_byte (l : List Int) : ∀ x ∈ intsBy l, x < 256 := fun x hx => by
  rcases List.mem_append.1 hx with hx | hx
  · exact vput_byte _ x hx
  · exact flat_byte (fun a => vput_byte _) l x hx
theorem vdBy_byte (v : Vd) : ∀ x ∈ vdBy v, x < 256 := by
  have he : ∀ e : Ed, ∀ x ∈ edBy e, x < 256 := fun e x hx => by
    simp only [edBy, List.mem_append] at hx
    rcases hx with hx | hx | hx <;> exact vput_byte _ x hx
  intro x hx
  simp only [vdBy, List.mem_append] at hx
  rcases hx with hx | hx | hx | hx | hx | hx | hx
  · exact vput_byte _ x hx
  · exact intsBy_byte _ x hx
  · exact vput_byte _ x hx
  · exact vput_byte _ x hx
  · exact vput_byte _ x hx
  · exact vput_byte _ x hx
  · exact flat_byte he _ x hx
theorem pfBy_byte (p : Pf) : ∀ x ∈ pfBy p, x < 256 := by
  have hi : ∀ e : It, ∀ x ∈ itBy e, x < 256 := fun e x hx => by
    simp only [itBy, List.mem_append] at hx
    rcases hx with hx | hx | hx <;> exact vput_byte _ x hx
  have hs : ∀ s : List It, ∀ x ∈ setBy s, x < 256 := fun s x hx => by
    rcases List.mem_append.1 hx with hx | hx
    · exact vput_byte _ x hx
    · exact flat_byte hi _ x hx
  intro x hx
  simp only [pfBy, List.mem_append] at hx
  rcases hx with (hx | hx) | (hx | hx)
  · exact vput_byte _ x hx
  · exact flat_byte hs _ x hx
  · exact vput_byte _ x hx
  · exact flat_byte intsBy_byte _ x hx
theorem OkVd.vd {v : Vd} (ok : OkVd v) : VdOk v ∧ v.tree.length ≤ 2 ^ 40 := by
  have := (derivB_iff.1 ok.tree).1
  have := ok.edits.1
  have := ok.expect
  exact ⟨⟨by omega, by omega, by omega⟩, by omega⟩
theorem zeroVd_ok : VdOk zeroVd := ⟨by simp [zeroVd], by simp [zeroVd], by simp [zeroVd]⟩
theorem readVd_ok {b : List Nat} (hb : ∀ x ∈ b, x < 256) : VdOk (readVd b).1 ∧ (readVd b).1.tree.length ≤ 2 ^ 40 := by
  by_cases h : (readVd b).2 = 0
  · exact (readVd_canon hb h).2.1.vd
  · have : (readVd b).1 = zeroVd := by
      unfold readVd at h ⊢
      split
      · rfl
      · rename_i h1; rw [if_neg h1] at h
        split
        · rfl
        · rename_i h2; rw [if_neg h2] at h; simp at h
    rw [this]
    exact ⟨zeroVd_ok, by simp [zeroVd]⟩
theorem right_ok {p : Pf} (h : rightPf p = true) : PfOk p ∧ ∀ l ∈ p.leads, l.length ≤ 2 ^ 40 := by
  obtain ⟨ns, nl, hs, hd⟩ := rightPf_iff.1 h
  have h1 : ∀ l ∈ p.leads, l.length ≤ 2000 := fun l hl => (derivB_iff.1 (hd l hl)).1
  exact ⟨⟨by omega, by omega, fun s h => by have := (hs s h).1; omega, fun l hl => by have := h1 l hl; omega⟩, fun l hl => by have := h1 l hl; omega⟩
theorem zeroPf_ok : PfOk zeroPf := ⟨by simp [zeroPf], by simp [zeroPf], by simp [zeroPf], by simp [zeroPf]⟩
theorem readPf_ok {b : List Nat} (hb : ∀ x ∈ b, x < 256) : PfOk (readPf b).1 ∧ ∀ l ∈ (readPf b).1.leads, l.length ≤ 2 ^ 40 := by
  by_cases h : (readPf b).2 = 0
  · exact right_ok (readPf_canon hb h).1
  · have : (readPf b).1 = zeroPf := by
      unfold readPf at h ⊢
      split
      · rfl
      · rename_i h1; rw [if_neg h1] at h; simp at h
    rw [this]
    exact ⟨zeroPf_ok, by simp [zeroPf]⟩
theorem vbytR_len (v : Vd) (h0 : 0 ≤ v.expect) : (vbytR v).1.length ≤ maxLen := by
  unfold vbytR maxLen
  cases h : mayV v with
  | false => simp
  | true => rw [if_neg (by simp)]; have := vdBy_len (mayV_ok h0 h); simp only; omega
theorem pbytR_len (p : Pf) : (pbytR p).1.length ≤ maxLen := by
  unfold pbytR maxLen
  cases h : rightPf p with
  | false => simp
  | true => rw [if_neg (by simp)]; have := pfBy_len h; simp only; omega
section
variable {X : Cx} {h : AH} {Q : V → AH → Prop}
/-- What the laws of layer 20 call. -/
structure L20 (X : Cx) : Prop where
  v : LV2 X
  s : LV3 X
  r : LVR X
  same1 : Has (Ecx X) K.probateref01_Same A.probateref01_Same
  own : Has (Ecx X) K.probatelaw20_own A.probatelaw20_own
  shown : Has (Ecx X) K.probatelaw20_shown A.probatelaw20_shown
  large : Has (Ecx X) K.probatelaw20_large A.probatelaw20_large
  awake : Has (Ecx X) K.probatelaw20_awake A.probatelaw20_awake
theorem own20_spec (L : L20 X) (v : Vd) (hQ : Q (vdV v) h) : Ecx X K.probatelaw20_own [vdV v] h Q := by
  refine fn_walk L.own (by simp [A.probatelaw20_own]) fun wf => ?_
  simp [A.probatelaw20_own, vdV, vdC, V.cells, V.good, setAt]
  exact fin_wk (((Gr.refl h).new _).new _) (.same _) (by simp; exact ⟨Bdd_ints _ _ _, encEd.cells _ _ _⟩) hQ
theorem shown20_spec (L : L20 X) (p : Pf) (hQ : Q (pfV p) h) : Ecx X K.probatelaw20_shown [pfV p] h Q := by
  refine fn_walk L.shown (by simp [A.probatelaw20_shown]) fun wf => ?_
  simp [A.probatelaw20_shown, pfV, pfC, V.cells, V.good, setAt]
  exact fin_wk (((Gr.refl h).new _).new _) (.same _) (by simp; exact ⟨encSet.cells _ _ _, encLead.cells _ _ _⟩) hQ
/-- What any verdict, and any proof, that is handed in is. -/
structure VdLen (v : Vd) : Prop where
  tree : v.tree.length ≤ maxLen
  edits : v.edits.length ≤ maxLen
  expect : 0 ≤ v.expect ∧ v.expect < 2 ^ 32
structure PfLen (p : Pf) : Prop where
  sets : p.sets.length ≤ maxLen
  leads : p.leads.length ≤ maxLen
  set : ∀ s ∈ p.sets, s.length ≤ maxLen
  lead : ∀ l ∈ p.leads, l.length ≤ maxLen
/-- What is not large. -/
structure VdSmall (v : Vd) : Prop where
  ok : VdOk v
  tree : v.tree.length ≤ 2 ^ 40
structure PfSmall (p : Pf) : Prop where
  ok : PfOk p
  lead : ∀ l ∈ p.leads, l.length ≤ 2 ^ 40
theorem zeroVd_len : VdLen zeroVd := ⟨by simp [zeroVd], by simp [zeroVd], by simp [zeroVd]⟩
theorem zeroPf_len : PfLen zeroPf := ⟨by simp [zeroPf], by simp [zeroPf], by simp [zeroPf], by simp [zeroPf]⟩
theorem large20_L0 {o : Nat} {ss : List (List It)} (hs : ∀ s ∈ ss, s.length ≤ maxLen) (hl : ss.length ≤ maxLen) {Q : Ex → Env → AH → Prop} {zQ : Lz Q} {z : Lz (AC.loop A.probatelaw20_large.L0)}
    (hR : ∀ env, Q .ret ((4, .bool true) :: env) h) (hQ : (∀ s ∈ ss, s.length ≤ 300) → ∀ k v, Q (.exit 0) [(3, .ptr o 0), (44, .sl 1 0 (ss.map setV)), (45, .int .i64 ss.length), (46, k), (47, v)] h) :
    acZ (Ecx X) [(3, .ptr o 0), (44, .sl 1 0 (ss.map setV)), (45, .int .i64 ss.length), (46, .int .i64 0)] h z zQ := by
  unfold maxLen at *
  refine loopI (n := ss.length) (fun r env h' => ∃ j, j ≤ ss.length ∧ r = ss.length - j ∧ env = [(3, .ptr o 0), (44, .sl 1 0 (ss.map setV)), (45, .int .i64 ss.length), (46, .int .i64 (j : Nat))] ∧ h' = h ∧ (ss.take j).all (fun s => decide (s.length ≤ 300)) = true) ?_ ⟨0, by omega, by omega, rfl, rfl, by simp⟩
  rintro r env h' ⟨j, hj, rfl, rfl, rfl, ha⟩
  unfold A.probatelaw20_large.L0
  by_cases hlt : j < ss.length
  · have hlt' : (j : Int) < ss.length := by omega
    have hg : (ss.map setV).getD j .undef = setV ss[j] := Enc.getD (enc := setV) hlt
    have hw1 : IntKind.i64.wrap ((j : Int) + 1) = ((j + 1 : Nat) : Int) := by rw [wrap_i64 (by omega) (by omega)]; rfl
    by_cases c : (300 : Int) < ss[j].length
    · simp [hlt', hg, setV, V.cells, c]; exact hR _
    · simp [hlt', hg, setV, V.cells, c, hw1]
      exact ⟨ss.length - (j + 1), by omega, iv ⟨j + 1, by omega, rfl, rfl, rfl, all_snoc (f := fun s : List It => decide (s.length ≤ 300)) hlt ha (by simp; omega)⟩⟩
  · have hlt' : ¬ (j : Int) < ss.length := by omega
    obtain rfl : j = ss.length := by omega
    rw [List.take_length, List.all_eq_true] at ha
    simp [hlt']
    exact hQ (fun s hs => by simpa using ha s hs) _ _
theorem large20_L1 {ss : List (List Int)} (hs : ∀ s ∈ ss, s.length ≤ maxLen) (hl : ss.length ≤ maxLen) {Q : Ex → Env → AH → Prop} {zQ : Lz Q} {z : Lz (AC.loop A.probatelaw20_large.L1)}
    (hR : ∀ env, Q .ret ((4, .bool true) :: env) h) (hQ : (∀ s ∈ ss, s.length ≤ 300) → ∀ k v, Q (.exit 2) [(55, .sl 1 0 (ss.map leadV)), (56, .int .i64 ss.length), (57, k), (58, v)] h) :
    acZ (Ecx X) [(55, .sl 1 0 (ss.map leadV)), (56, .int .i64 ss.length), (57, .int .i64 0)] h z zQ := by
  unfold maxLen at *
  refine loopI (n := ss.length) (fun r env h' => ∃ j, j ≤ ss.length ∧ r = ss.length - j ∧ env = [(55, .sl 1 0 (ss.map leadV)), (56, .int .i64 ss.length), (57, .int .i64 (j : Nat))] ∧ h' = h ∧ (ss.take j).all (fun s => decide (s.length ≤ 300)) = true) ?_ ⟨0, by omega, by omega, rfl, rfl, by simp⟩
  rintro r env h' ⟨j, hj, rfl, rfl, rfl, ha⟩
  unfold A.probatelaw20_large.L1
  by_cases hlt : j < ss.length
  · have hlt' : (j : Int) < ss.length := by omega
    have hg : (ss.map leadV).getD j .undef = leadV ss[j] := Enc.getD (enc := leadV) hlt
    have hil : (ints ss[j]).length = ss[j].length := by simp [ints]
    have hw1 : IntKind.i64.wrap ((j : Int) + 1) = ((j + 1 : Nat) : Int) := by rw [wrap_i64 (by omega) (by omega)]; rfl
    by_cases c : (300 : Int) < ss[j].length
    · simp [hlt', hg, leadV, V.cells, hil, c]; exact hR _
    · simp [hlt', hg, leadV, V.cells, hil, c, hw1]
      exact ⟨ss.length - (j + 1), by omega, iv ⟨j + 1, by omega, rfl, rfl, rfl, all_snoc (f := fun s : List Int => decide (s.length ≤ 300)) hlt ha (by simp; omega)⟩⟩
  · have hlt' : ¬ (j : Int) < ss.length := by omega
    obtain rfl : j = ss.length := by omega
    rw [List.take_length, List.all_eq_true] at ha
    simp [hlt']
    exact hQ (fun s hs => by simpa using ha s hs) _ _
theorem large20_spec (L : L20 X) (v : Vd) (p : Pf) (ov : VdLen v) (op : PfLen p) (hQ : ∀ b, (b = false → VdSmall v ∧ PfSmall p) → Q (.bool b) h) : Ecx X K.probatelaw20_large [vdV v, pfV p] h Q := by
  refine fn_walk L.large (by simp [A.probatelaw20_large]) fun wf => ?_
  have gr := ((Gr.refl h).new (vdC v)).new (pfC p)
  have o1 : ((h.new (vdC v)).new (pfC p)).objs h.nobj = vdC v := by simp
  have o2 : ((h.new (vdC v)).new (pfC p)).objs (h.nobj + 1) = pfC p := new_objs_same2 _ _
  simp [A.probatelaw20_large, vdV, pfV, V.cells, V.good]
  generalize (h.new (vdC v)).new (pfC p) = h2 at *
  have hil : (ints v.tree).length = v.tree.length := by simp [ints]
  have hT : Q (.bool true) h := hQ true (by simp)
  have hF : v.tree.length ≤ 2005 → v.edits.length ≤ 300 → p.sets.length ≤ 40 → p.leads.length ≤ 40 → (∀ s ∈ p.sets, s.length ≤ 300) → (∀ s ∈ p.leads, s.length ≤ 300) → Q (.bool false) h := fun a1 a2 a3 a4 a5 a6 =>
    hQ false fun _ => ⟨⟨⟨by omega, by omega, ov.expect⟩, by omega⟩, ⟨⟨by omega, by omega, fun s h => by have := a5 s h; omega, fun s h => by have := a6 s h; omega⟩, fun s h => by have := a6 s h; omega⟩⟩
  by_cases c1 : (300 : Int) < v.tree.length
  · by_cases c2 : (v.tree.length : Int) ≤ 2000
    · simp [o1, vd_cells, hil, c1, c2]; exact fin_wk gr (.same _) (by simp) hT
    by_cases c3 : (2005 : Int) < v.tree.length
    · simp [o1, vd_cells, hil, c1, c2, c3]; exact fin_wk gr (.same _) (by simp) hT
    by_cases c4 : (300 : Int) < v.edits.length
    · simp [o1, vd_cells, hil, c1, c2, c3, c4]; exact fin_wk gr (.same _) (by simp) hT
    by_cases c5 : (40 : Int) < p.sets.length
    · simp [o1, o2, vd_cells, pf_cells, hil, c1, c2, c3, c4, c5]; exact fin_wk gr (.same _) (by simp) hT
    by_cases c6 : (40 : Int) < p.leads.length
    · simp [o1, o2, vd_cells, pf_cells, hil, c1, c2, c3, c4, c5, c6]; exact fin_wk gr (.same _) (by simp) hT
    simp [o1, o2, vd_cells, pf_cells, hil, c1, c2, c3, c4, c5, c6]
    refine large20_L0 op.set op.sets (fun env => ?_) fun b1 k v => ?_
    · simp; exact fin_wk gr (.same _) (by simp) hT
    simp [o2, pf_cells]
    refine large20_L1 op.lead op.leads (fun env => ?_) fun b2 k v => ?_
    · simp; exact fin_wk gr (.same _) (by simp) hT
    simp; exact fin_wk gr (.same _) (by simp) (hF (by omega) (by omega) (by omega) (by omega) b1 b2)
  · by_cases c3 : (2005 : Int) < v.tree.length
    · omega
    by_cases c4 : (300 : Int) < v.edits.length
    · simp [o1, vd_cells, hil, c1, c3, c4]; exact fin_wk gr (.same _) (by simp) hT
    by_cases c5 : (40 : Int) < p.sets.length
    · simp [o1, o2, vd_cells, pf_cells, hil, c1, c3, c4, c5]; exact fin_wk gr (.same _) (by simp) hT
    by_cases c6 : (40 : Int) < p.leads.length
    · simp [o1, o2, vd_cells, pf_cells, hil, c1, c3, c4, c5, c6]; exact fin_wk gr (.same _) (by simp) hT
    simp [o1, o2, vd_cells, pf_cells, hil, c1, c3, c4, c5, c6]
    refine large20_L0 op.set op.sets (fun env => ?_) fun b1 k v => ?_
    · simp; exact fin_wk gr (.same _) (by simp) hT
    simp [o2, pf_cells]
    refine large20_L1 op.lead op.leads (fun env => ?_) fun b2 k v => ?_
    · simp; exact fin_wk gr (.same _) (by simp) hT
    simp; exact fin_wk gr (.same _) (by simp) (hF (by omega) (by omega) (by omega) (by omega) b1 b2)
def exV : Vd := ⟨2, [], false, 2, 3, []⟩
def exP : Pf := ⟨[[⟨1, 2, 3⟩]], [[4, 5]]⟩
theorem five (h : AH) (a b c d e : List V) : ∃ h5, (((((h.new a).new b).new c).new d).new e) = h5 ∧ Gr h h5 ∧ h5.objs h.nobj = a ∧ h5.objs (h.nobj + 1) = b ∧ h5.objs (h.nobj + 2) = c ∧ h5.objs (h.nobj + 3) = d ∧ h5.objs (h.nobj + 4) = e := by
  refine ⟨_, rfl, (((((Gr.refl h).new _).new _).new _).new _).new _, ?_, ?_, ?_, ?_, ?_⟩
  · rw [new_objs_ne _ _ (by simp only [new_nobj]; omega), new_objs_ne _ _ (by simp only [new_nobj]; omega), new_objs_ne _ _ (by simp only [new_nobj]; omega), new_objs_ne _ _ (by simp only [new_nobj]; omega), new_objs_same]
  · rw [new_objs_ne _ _ (by simp only [new_nobj]; omega), new_objs_ne _ _ (by simp only [new_nobj]; omega), new_objs_ne _ _ (by simp only [new_nobj]; omega)]; exact new_objs_same _ _
  · rw [new_objs_ne _ _ (by simp only [new_nobj]; omega), new_objs_ne _ _ (by simp only [new_nobj]; omega)]; exact new_objs_same _ _
  · rw [new_objs_ne _ _ (by simp only [new_nobj]; omega)]; exact new_objs_same _ _
  · exact new_objs_same _ _
theorem awake20_spec (L : L20 X) (hQ : Q (.bool true) h) : Ecx X K.probatelaw20_awake [] h Q := by
  refine fn_walk L.awake (by simp [A.probatelaw20_awake]) fun wf => ?_
  have r1 : mayV exV = true := by decide
  have r2 : rightPf exP = true := by decide
  have r0 : mayV zeroVd = false := by decide
  have t1 : vdBy exV = [2, 0, 0, 2, 3, 0] := by simp [vdBy, exV, intsBy, boolN, vput_small]
  have t2 : pfBy exP = [1, 1, 1, 2, 3, 1, 2, 4, 5] := by simp [pfBy, exP, setBy, itBy, intsBy, vput_small]
  have q1 : readVd [2, 0, 0, 2, 3, 0] = (exV, 0) := by rw [← t1]; exact readVd_by (by simp [exV]) r1
  have q2 : readPf [1, 1, 1, 2, 3, 1, 2, 4, 5] = (exP, 0) := by rw [← t2]; exact readPf_by r2
  have q3 : readVd [0, 0, 0, 0, 0, 0] = (zeroVd, 2) := by decide +kernel
  have okV : VdOk exV := ⟨by simp [exV], by simp [exV], by simp [exV]⟩
  have okP : PfOk exP := (right_ok r2).1
  have wV : Wk (.agg [.int .i64 2, .sl 0 1 [], .bool false, .int .i64 2, .int .u32 3, .sl 0 1 []]) (vdV exV) :=
    Wk.aggL (.cons (.same _) (.cons (.nil _ _ _) (.cons (.same _) (.cons (.same _) (.cons (.same _) (.cons (.nil _ _ _) .nil))))))
  have wP : Wk (.agg [.sl 1 2 [.sl 3 2 [.agg [.int .i64 1, .int .i64 2, .int .i64 3]]], .sl 1 2 [.sl 1 2 [.int .i64 4, .int .i64 5]]]) (pfV exP) :=
    Wk.aggL (.cons (WkS.sl (.cons (.sl _ _ _) .nil)) (.cons (WkS.sl (.cons (.sl _ _ _) .nil)) .nil))
  simp [A.probatelaw20_awake, fillV, V.cells, V.good, setAt]
  refine ecall (Ecx.wkL (.cons wV .nil) (vbytes_spec L.v exV okV ?_))
  simp [vbytV, vbytR, r1, t1]
  refine ecall (readVd_spec L.v [2, 0, 0, 2, 3, 0] (by simp) (by simp) ?_)
  simp [vreadV, q1, vdV, vdC, exV, setAt, V.cells, V.good, fillV, fillL, V.isAgg]
  refine ecall (Ecx.wkL (.cons wP .nil) (pbytes_spec L.v exP okP ?_))
  simp [pbytV, pbytR, r2, t2]
  refine ecall (readPf_spec L.v [1, 1, 1, 2, 3, 1, 2, 4, 5] (by simp) (by simp) ?_)
  simp [preadV, q2, pfV, pfC, exP, setAt, V.cells, V.good, fillV, fillL, V.isAgg]
  refine ecall (Ecx.wkL (.cons (.sl _ _ _) .nil) (readVd_spec L.v [0, 0, 0, 0, 0, 0] (by simp) (by simp) ?_))
  simp [vreadV, q3, vdV, vdC, zeroVd, setAt, V.cells, V.good, fillV, fillL, V.isAgg]
  obtain ⟨h5, e5, gr5, b0, b1, b2, b3, b4⟩ := five h [.int .i64 2, .sl 0 1 [], .bool false, .int .i64 2, .int .u32 3, .sl 0 1 []] [.int .i64 2, .sl 1 0 (ints []), .bool false, .int .i64 2, .int .u32 3, .sl 3 0 []] [.sl 1 2 [.sl 3 2 [.agg [.int .i64 1, .int .i64 2, .int .i64 3]]], .sl 1 2 [.sl 1 2 [.int .i64 4, .int .i64 5]]] [.sl 1 0 [setV [⟨1, 2, 3⟩]], .sl 1 0 [leadV [4, 5]]] [.int .i64 0, .sl 1 0 (ints []), .bool false, .int .i64 0, .int .u32 0, .sl 3 0 []]
  rw [e5]
  refine ecall (same1_spec L.same1 [2, 0, 0, 2, 3, 0] [2, 0, 0, 2, 3, 0] _ _ (by simp [maxLen]) ?_)
  simp [b0, b1, b2, b3, b4]
  refine ecall (Ecx.wkL (.cons (b := vdV exV) (.same _) (.cons wV .nil)) (vsame_spec L.s exV exV okV ?_))
  simp [b0, b1, b2, b3, b4]
  refine ecall (same1_spec L.same1 [1, 1, 1, 2, 3, 1, 2, 4, 5] [1, 1, 1, 2, 3, 1, 2, 4, 5] _ _ (by simp [maxLen]) ?_)
  simp [b0, b1, b2, b3, b4]
  refine ecall (Ecx.wkL (.cons wP (.cons (b := pfV exP) (.same _) .nil)) (palike_spec L.s exP exP okP ?_))
  simp [b0, b1, b2, b3, b4]
  refine ecall (Ecx.wkL (.cons wV .nil) (mayV_spec L.v.v exV okV ?_))
  simp [b0, b1, b2, b3, b4, r1, fillV, V.cells, V.good, setAt]
  refine ecall (Ecx.wkL (.cons vd_zero_wk .nil) (mayV_spec L.v.v zeroVd zeroVd_ok ?_))
  simp [b0, b1, b2, b3, b4, r0]
  refine ecall (Ecx.wkL (.cons wP .nil) (rightV_spec L.v.v exP okP ?_))
  simp [b0, b1, b2, b3, b4, r2, fillV, V.cells, V.good, setAt]
  refine ecall (Ecx.wkL (.cons wV (.cons vd_zero_wk .nil)) (vsame_spec L.s exV zeroVd okV ?_))
  simp [b0, b1, b2, b3, b4, show decide (exV = zeroVd) = false from by decide, fillV, V.cells, V.good, setAt]
  refine ecall (Ecx.wkL (.cons wP (.cons pf_zero_wk .nil)) (palike_spec L.s exP zeroPf okP ?_))
  simp [b0, b1, b2, b3, b4, show decide (exP = zeroPf) = false from by decide]
  exact fin_wk gr5 (.same _) (by simp) hQ
end
end Go.Proofs.Ytpneojpgahegaaa.Al
namespace Go.Proofs.Ytpneojpgahegaaa.Al
open Go Go.RowKit
set_option linter.unusedSimpArgs false
set_option linter.unusedVariables false
attribute [-simp] List.getD_eq_getElem?_getD Int.not_lt Int.not_le List.map_take

section
variable {X : Cx} {h : AH} {Q : V → AH → Prop}
theorem back20_spec (L : L20 X) (H : Has (Ecx X) K.probatelaw20_VerdictBack A.probatelaw20_VerdictBack) (v u : Vd) (b : List Nat) (lv : VdLen v) (lu : VdLen u) (hb : b.length ≤ maxLen) (hbb : ∀ x ∈ b, x < 256) (hQ : Q (.bool true) h) :
    Ecx X K.probatelaw20_VerdictBack [vdV v, vdV u, .sl 1 0 (u8s b)] h Q := by
  refine fn_walk H (by simp [A.probatelaw20_VerdictBack]) fun wf => ?_
  have gr0 := ((Gr.refl h).new (vdC v)).new (vdC u)
  have o1 : ((h.new (vdC v)).new (vdC u)).objs h.nobj = vdC v := by simp
  have o2 : ((h.new (vdC v)).new (vdC u)).objs (h.nobj + 1) = vdC u := new_objs_same2 _ _
  have nb : ((h.new (vdC v)).new (vdC u)).nobj = h.nobj + 2 := by simp
  have zp : Wk (.agg [.sl 0 1 [], .sl 0 1 []]) (pfV zeroPf) := pf_zero_wk
  have e6 : ∀ x : Vd, V.agg [.int .i64 x.kind, .sl 1 0 (ints x.tree), .bool x.sure, .int .i64 x.at', .int .u32 x.expect, .sl 3 0 (x.edits.map edV)] = vdV x := fun _ => rfl
  simp [A.probatelaw20_VerdictBack, vdV, V.cells, V.good]
  generalize (h.new (vdC v)).new (vdC u) = h2 at *
  refine ecall (awake20_spec L ?_)
  simp [o1, vd_cells, e6, fillV, V.cells, V.good, setAt]
  refine ecall (Ecx.wkL (.cons (.same _) (.cons zp .nil)) (large20_spec L v zeroPf lv zeroPf_len fun l1 f1 => ?_))
  cases l1 with
  | true => simp; exact fin_wk gr0 (.same _) (by simp) hQ
  | false =>
  obtain ⟨⟨ov, hv⟩, _⟩ := f1 rfl
  simp [o2, vd_cells, e6, fillV, V.cells, V.good, setAt]
  refine ecall (Ecx.wkL (.cons (.same _) (.cons zp .nil)) (large20_spec L u zeroPf lu zeroPf_len fun l2 f2 => ?_))
  cases l2 with
  | true => simp; exact fin_wk gr0 (.same _) (by simp) hQ
  | false =>
  obtain ⟨⟨ou, _⟩, _⟩ := f2 rfl
  simp
  by_cases d3 : (2000 : Int) < b.length
  · simp [d3]; exact fin_wk gr0 (.same _) (by simp) hQ
  simp [d3]
  refine ecall (readVd_spec L.v b (by omega) hbb ?_)
  have hrc := readVd_canon hbb
  obtain ⟨rok, rlen⟩ := readVd_ok hbb
  have gr3 := gr0.new (vdC (readVd b).1)
  have p1 : (h2.new (vdC (readVd b).1)).objs h.nobj = vdC v := by rw [new_objs_ne _ _ (by omega)]; exact o1
  have p2 : (h2.new (vdC (readVd b).1)).objs (h.nobj + 1) = vdC u := by rw [new_objs_ne _ _ (by omega)]; exact o2
  have p3 : (h2.new (vdC (readVd b).1)).objs h2.nobj = vdC (readVd b).1 := new_objs_same _ _
  have nb3 : (h2.new (vdC (readVd b).1)).nobj = h.nobj + 3 := by simp [nb]
  rw [vd_cells (readVd b).1] at gr3 p1 p2 p3 nb3
  simp [vreadV, vdV, vd_cells, setAt, V.cells, V.good]
  generalize h2.new [.int .i64 (readVd b).1.kind, .sl 1 0 (ints (readVd b).1.tree), .bool (readVd b).1.sure, .int .i64 (readVd b).1.at', .int .u32 (readVd b).1.expect, .sl 3 0 ((readVd b).1.edits.map edV)] = h3 at *
  by_cases hr : (readVd b).2 = 0
  · obtain ⟨r1, r2, r3⟩ := hrc hr
    generalize readVd b = R at *
    simp [hr, p3, e6]
    refine ecall (vbytes_spec L.v R.1 rok ?_)
    simp [vbytV, vbytR, r1, r3]
    refine ecall (same1_spec L.same1 _ _ _ _ (by unfold maxLen; omega) ?_)
    simp [p3, e6]
    refine ecall (mayV_spec L.v.v R.1 rok ?_)
    simp [r1]
    simp [p1, vd_cells, e6]
    refine ecall (vbytes_spec L.v v ov ?_)
    simp [vbytV, p2, vd_cells, e6]
    refine ecall (vbytes_spec L.v u ou ?_)
    simp [vbytV]
    cases hrw : mayV v with
    | false =>
      simp [vbytR, hrw, p1, vd_cells, e6]
      refine ecall (mayV_spec L.v.v v ov ?_)
      simp [hrw]
      exact fin_wk gr3 (.same _) (by simp) hQ
    | true =>
      have hwl := vdBy_len (mayV_ok ov.expect.1 hrw)
      simp [vbytR, hrw]
      refine ecall (readVd_spec L.v (vdBy v) (by omega) (vdBy_byte v) ?_)
      have gr4 := gr3.new (vdC v)
      have nb4 : ¬ h.nobj = h3.nobj := by omega
      have nb5 : ¬ h.nobj + 1 = h3.nobj := by omega
      have q1 : (h3.new (vdC v)).objs h.nobj = vdC v := by rw [new_objs_ne _ _ nb4]; exact p1
      have q2 : (h3.new (vdC v)).objs (h.nobj + 1) = vdC u := by rw [new_objs_ne _ _ nb5]; exact p2
      have q3 : (h3.new (vdC v)).objs h3.nobj = vdC v := new_objs_same _ _
      rw [vd_cells v] at gr4 q1 q2 q3
      simp [vreadV, readVd_by ov.expect.1 hrw, vdV, vd_cells, setAt, V.cells, V.good]
      generalize h3.new [.int .i64 v.kind, .sl 1 0 (ints v.tree), .bool v.sure, .int .i64 v.at', .int .u32 v.expect, .sl 3 0 (v.edits.map edV)] = h4 at *
      simp [q3, e6]
      refine dcall (vdV v) (own20_spec L v ⟨rfl, rfl⟩) ?_
      simp [q1, q2, q3, vd_cells, e6]
      refine dcall (vdV v) (own20_spec L v ⟨rfl, rfl⟩) ?_
      simp
      refine dcall (.bool true) (rsame20_spec L.r v v hv ov.edits ⟨by simp, rfl⟩) ?_
      cases hrv : mayV u with
      | false =>
        simp [vbytR, hrv]
        exact fin_wk gr4 (.same _) (by simp) hQ
      | true =>
        simp [vbytR, hrv]
        refine dcall (.bool (decide (vdBy v = vdBy u))) (same1_spec L.same1 _ _ _ _ (by unfold maxLen; omega) ⟨rfl, rfl⟩) ?_
        simp [q1, q2, q3, vd_cells, e6]
        refine dcall (vdV v) (own20_spec L v ⟨rfl, rfl⟩) ?_
        simp [q1, q2, q3, vd_cells, e6]
        refine dcall (vdV u) (own20_spec L u ⟨rfl, rfl⟩) ?_
        simp
        refine dcall (.bool (decide (v = u))) (rsame20_spec L.r v u hv ov.edits ⟨rfl, rfl⟩) ?_
        have : (vdBy v = vdBy u) = (v = u) := propext ⟨fun e => vdBy_inj ov.expect.1 ou.expect.1 hrw hrv e, fun e => by rw [e]⟩
        simp [this]
        exact fin_wk gr4 (.same _) (by simp) hQ
  · simp [hr]
    simp [p1, vd_cells, e6]
    refine ecall (vbytes_spec L.v v ov ?_)
    simp [vbytV, p2, vd_cells, e6]
    refine ecall (vbytes_spec L.v u ou ?_)
    simp [vbytV]
    cases hrw : mayV v with
    | false =>
      simp [vbytR, hrw, p1, vd_cells, e6]
      refine ecall (mayV_spec L.v.v v ov ?_)
      simp [hrw]
      exact fin_wk gr3 (.same _) (by simp) hQ
    | true =>
      have hwl := vdBy_len (mayV_ok ov.expect.1 hrw)
      simp [vbytR, hrw]
      refine ecall (readVd_spec L.v (vdBy v) (by omega) (vdBy_byte v) ?_)
      have gr4 := gr3.new (vdC v)
      have nb4 : ¬ h.nobj = h3.nobj := by omega
      have nb5 : ¬ h.nobj + 1 = h3.nobj := by omega
      have q1 : (h3.new (vdC v)).objs h.nobj = vdC v := by rw [new_objs_ne _ _ nb4]; exact p1
      have q2 : (h3.new (vdC v)).objs (h.nobj + 1) = vdC u := by rw [new_objs_ne _ _ nb5]; exact p2
      have q3 : (h3.new (vdC v)).objs h3.nobj = vdC v := new_objs_same _ _
      rw [vd_cells v] at gr4 q1 q2 q3
      simp [vreadV, readVd_by ov.expect.1 hrw, vdV, vd_cells, setAt, V.cells, V.good]
      generalize h3.new [.int .i64 v.kind, .sl 1 0 (ints v.tree), .bool v.sure, .int .i64 v.at', .int .u32 v.expect, .sl 3 0 (v.edits.map edV)] = h4 at *
      simp [q3, e6]
      refine dcall (vdV v) (own20_spec L v ⟨rfl, rfl⟩) ?_
      simp [q1, q2, q3, vd_cells, e6]
      refine dcall (vdV v) (own20_spec L v ⟨rfl, rfl⟩) ?_
      simp
      refine dcall (.bool true) (rsame20_spec L.r v v hv ov.edits ⟨by simp, rfl⟩) ?_
      cases hrv : mayV u with
      | false =>
        simp [vbytR, hrv]
        exact fin_wk gr4 (.same _) (by simp) hQ
      | true =>
        simp [vbytR, hrv]
        refine dcall (.bool (decide (vdBy v = vdBy u))) (same1_spec L.same1 _ _ _ _ (by unfold maxLen; omega) ⟨rfl, rfl⟩) ?_
        simp [q1, q2, q3, vd_cells, e6]
        refine dcall (vdV v) (own20_spec L v ⟨rfl, rfl⟩) ?_
        simp [q1, q2, q3, vd_cells, e6]
        refine dcall (vdV u) (own20_spec L u ⟨rfl, rfl⟩) ?_
        simp
        refine dcall (.bool (decide (v = u))) (rsame20_spec L.r v u hv ov.edits ⟨rfl, rfl⟩) ?_
        have : (vdBy v = vdBy u) = (v = u) := propext ⟨fun e => vdBy_inj ov.expect.1 ou.expect.1 hrw hrv e, fun e => by rw [e]⟩
        simp [this]
        exact fin_wk gr4 (.same _) (by simp) hQ
theorem proofs20_spec (L : L20 X) (H : Has (Ecx X) K.probatelaw20_VerdictProofs A.probatelaw20_VerdictProofs) (v u : Pf) (b : List Nat) (lv : PfLen v) (lu : PfLen u) (hb : b.length ≤ maxLen) (hbb : ∀ x ∈ b, x < 256) (hQ : Q (.bool true) h) :
    Ecx X K.probatelaw20_VerdictProofs [pfV v, pfV u, .sl 1 0 (u8s b)] h Q := by
  refine fn_walk H (by simp [A.probatelaw20_VerdictProofs]) fun wf => ?_
  have gr0 := ((Gr.refl h).new (pfC v)).new (pfC u)
  have o1 : ((h.new (pfC v)).new (pfC u)).objs h.nobj = pfC v := by simp
  have o2 : ((h.new (pfC v)).new (pfC u)).objs (h.nobj + 1) = pfC u := new_objs_same2 _ _
  have nb : ((h.new (pfC v)).new (pfC u)).nobj = h.nobj + 2 := by simp
  have zv : Wk (.agg [.int .i64 0, .sl 0 1 [], .bool false, .int .i64 0, .int .u32 0, .sl 0 1 []]) (vdV zeroVd) := vd_zero_wk
  have e6 : ∀ x : Pf, V.agg [.sl 1 0 (x.sets.map setV), .sl 1 0 (x.leads.map leadV)] = pfV x := fun _ => rfl
  simp [A.probatelaw20_VerdictProofs, pfV, V.cells, V.good]
  generalize (h.new (pfC v)).new (pfC u) = h2 at *
  refine ecall (awake20_spec L ?_)
  simp [o1, pf_cells, e6, fillV, V.cells, V.good, setAt]
  refine ecall (Ecx.wkL (.cons zv (.cons (.same _) .nil)) (large20_spec L zeroVd v zeroVd_len lv fun l1 f1 => ?_))
  cases l1 with
  | true => simp; exact fin_wk gr0 (.same _) (by simp) hQ
  | false =>
  obtain ⟨_, ⟨ov, hv⟩⟩ := f1 rfl
  simp [o2, pf_cells, e6, fillV, V.cells, V.good, setAt]
  refine ecall (Ecx.wkL (.cons zv (.cons (.same _) .nil)) (large20_spec L zeroVd u zeroVd_len lu fun l2 f2 => ?_))
  cases l2 with
  | true => simp; exact fin_wk gr0 (.same _) (by simp) hQ
  | false =>
  obtain ⟨_, ⟨ou, _⟩⟩ := f2 rfl
  simp
  by_cases d3 : (2000 : Int) < b.length
  · simp [d3]; exact fin_wk gr0 (.same _) (by simp) hQ
  simp [d3]
  refine ecall (readPf_spec L.v b (by omega) hbb ?_)
  have hrc := readPf_canon hbb
  obtain ⟨rok, rlen⟩ := readPf_ok hbb
  have gr3 := gr0.new (pfC (readPf b).1)
  have p1 : (h2.new (pfC (readPf b).1)).objs h.nobj = pfC v := by rw [new_objs_ne _ _ (by omega)]; exact o1
  have p2 : (h2.new (pfC (readPf b).1)).objs (h.nobj + 1) = pfC u := by rw [new_objs_ne _ _ (by omega)]; exact o2
  have p3 : (h2.new (pfC (readPf b).1)).objs h2.nobj = pfC (readPf b).1 := new_objs_same _ _
  have nb3 : (h2.new (pfC (readPf b).1)).nobj = h.nobj + 3 := by simp [nb]
  rw [pf_cells (readPf b).1] at gr3 p1 p2 p3 nb3
  simp [preadV, pfV, pf_cells, setAt, V.cells, V.good]
  generalize h2.new [.sl 1 0 ((readPf b).1.sets.map setV), .sl 1 0 ((readPf b).1.leads.map leadV)] = h3 at *
  by_cases hr : (readPf b).2 = 0
  · obtain ⟨r1, r3⟩ := hrc hr
    generalize readPf b = R at *
    simp [hr, p3, e6]
    refine ecall (pbytes_spec L.v R.1 rok ?_)
    simp [pbytV, pbytR, r1, r3]
    refine ecall (same1_spec L.same1 _ _ _ _ (by unfold maxLen; omega) ?_)
    simp [p3, e6]
    refine ecall (rightV_spec L.v.v R.1 rok ?_)
    simp [r1]
    simp [p1, pf_cells, e6]
    refine ecall (pbytes_spec L.v v ov ?_)
    simp [pbytV, p2, pf_cells, e6]
    refine ecall (pbytes_spec L.v u ou ?_)
    simp [pbytV]
    cases hrw : rightPf v with
    | false =>
      simp [pbytR, hrw, p1, pf_cells, e6]
      refine ecall (rightV_spec L.v.v v ov ?_)
      simp [hrw]
      exact fin_wk gr3 (.same _) (by simp) hQ
    | true =>
      have hwl := pfBy_len hrw
      simp [pbytR, hrw]
      refine ecall (readPf_spec L.v (pfBy v) (by omega) (pfBy_byte v) ?_)
      have gr4 := gr3.new (pfC v)
      have nb4 : ¬ h.nobj = h3.nobj := by omega
      have nb5 : ¬ h.nobj + 1 = h3.nobj := by omega
      have q1 : (h3.new (pfC v)).objs h.nobj = pfC v := by rw [new_objs_ne _ _ nb4]; exact p1
      have q2 : (h3.new (pfC v)).objs (h.nobj + 1) = pfC u := by rw [new_objs_ne _ _ nb5]; exact p2
      have q3 : (h3.new (pfC v)).objs h3.nobj = pfC v := new_objs_same _ _
      rw [pf_cells v] at gr4 q1 q2 q3
      simp [preadV, readPf_by hrw, pfV, pf_cells, setAt, V.cells, V.good]
      generalize h3.new [.sl 1 0 (v.sets.map setV), .sl 1 0 (v.leads.map leadV)] = h4 at *
      simp [q3, e6]
      refine dcall (pfV v) (shown20_spec L v ⟨rfl, rfl⟩) ?_
      simp [q1, q2, q3, pf_cells, e6]
      refine dcall (pfV v) (shown20_spec L v ⟨rfl, rfl⟩) ?_
      simp
      refine dcall (.bool true) (ralike20_spec L.r v v ov hv ⟨by simp, rfl⟩) ?_
      cases hrv : rightPf u with
      | false =>
        simp [pbytR, hrv]
        exact fin_wk gr4 (.same _) (by simp) hQ
      | true =>
        simp [pbytR, hrv]
        refine dcall (.bool (decide (pfBy v = pfBy u))) (same1_spec L.same1 _ _ _ _ (by unfold maxLen; omega) ⟨rfl, rfl⟩) ?_
        simp [q1, q2, q3, pf_cells, e6]
        refine dcall (pfV v) (shown20_spec L v ⟨rfl, rfl⟩) ?_
        simp [q1, q2, q3, pf_cells, e6]
        refine dcall (pfV u) (shown20_spec L u ⟨rfl, rfl⟩) ?_
        simp
        refine dcall (.bool (decide (v = u))) (ralike20_spec L.r v u ov hv ⟨rfl, rfl⟩) ?_
        have : (pfBy v = pfBy u) = (v = u) := propext ⟨fun e => pfBy_inj hrw hrv e, fun e => by rw [e]⟩
        simp [this]
        exact fin_wk gr4 (.same _) (by simp) hQ
  · simp [hr]
    simp [p1, pf_cells, e6]
    refine ecall (pbytes_spec L.v v ov ?_)
    simp [pbytV, p2, pf_cells, e6]
    refine ecall (pbytes_spec L.v u ou ?_)
    simp [pbytV]
    cases hrw : rightPf v with
    | false =>
      simp [pbytR, hrw, p1, pf_cells, e6]
      refine ecall (rightV_spec L.v.v v ov ?_)
      simp [hrw]
      exact fin_wk gr3 (.same _) (by simp) hQ
    | true =>
      have hwl := pfBy_len hrw
      simp [pbytR, hrw]
      refine ecall (readPf_spec L.v (pfBy v) (by omega) (pfBy_byte v) ?_)
      have gr4 := gr3.new (pfC v)
      have nb4 : ¬ h.nobj = h3.nobj := by omega
      have nb5 : ¬ h.nobj + 1 = h3.nobj := by omega
      have q1 : (h3.new (pfC v)).objs h.nobj = pfC v := by rw [new_objs_ne _ _ nb4]; exact p1
      have q2 : (h3.new (pfC v)).objs (h.nobj + 1) = pfC u := by rw [new_objs_ne _ _ nb5]; exact p2
      have q3 : (h3.new (pfC v)).objs h3.nobj = pfC v := new_objs_same _ _
      rw [pf_cells v] at gr4 q1 q2 q3
      simp [preadV, readPf_by hrw, pfV, pf_cells, setAt, V.cells, V.good]
      generalize h3.new [.sl 1 0 (v.sets.map setV), .sl 1 0 (v.leads.map leadV)] = h4 at *
      simp [q3, e6]
      refine dcall (pfV v) (shown20_spec L v ⟨rfl, rfl⟩) ?_
      simp [q1, q2, q3, pf_cells, e6]
      refine dcall (pfV v) (shown20_spec L v ⟨rfl, rfl⟩) ?_
      simp
      refine dcall (.bool true) (ralike20_spec L.r v v ov hv ⟨by simp, rfl⟩) ?_
      cases hrv : rightPf u with
      | false =>
        simp [pbytR, hrv]
        exact fin_wk gr4 (.same _) (by simp) hQ
      | true =>
        simp [pbytR, hrv]
        refine dcall (.bool (decide (pfBy v = pfBy u))) (same1_spec L.same1 _ _ _ _ (by unfold maxLen; omega) ⟨rfl, rfl⟩) ?_
        simp [q1, q2, q3, pf_cells, e6]
        refine dcall (pfV v) (shown20_spec L v ⟨rfl, rfl⟩) ?_
        simp [q1, q2, q3, pf_cells, e6]
        refine dcall (pfV u) (shown20_spec L u ⟨rfl, rfl⟩) ?_
        simp
        refine dcall (.bool (decide (v = u))) (ralike20_spec L.r v u ov hv ⟨rfl, rfl⟩) ?_
        have : (pfBy v = pfBy u) = (v = u) := propext ⟨fun e => pfBy_inj hrw hrv e, fun e => by rw [e]⟩
        simp [this]
        exact fin_wk gr4 (.same _) (by simp) hQ
end
end Go.Proofs.Ytpneojpgahegaaa.Al
namespace Go.Proofs.Ytpneojpgahegaaa.Al
open Go Go.RowKit
set_option linter.unusedSimpArgs false
set_option linter.unusedVariables false
attribute [-simp] List.getD_eq_getElem?_getD Int.not_lt Int.not_le List.map_take

theorem four (h : AH) (a b c d : List V) : ∃ h5, ((((h.new a).new b).new c).new d) = h5 ∧ Gr h h5 ∧ h5.nobj = h.nobj + 4 ∧ h5.objs h.nobj = a ∧ h5.objs (h.nobj + 1) = b ∧ h5.objs (h.nobj + 2) = c ∧ h5.objs (h.nobj + 3) = d := by
  refine ⟨_, rfl, ((((Gr.refl h).new _).new _).new _).new _, by simp only [new_nobj], ?_, ?_, ?_, ?_⟩
  · rw [new_objs_ne _ _ (by simp only [new_nobj]; omega), new_objs_ne _ _ (by simp only [new_nobj]; omega), new_objs_ne _ _ (by simp only [new_nobj]; omega), new_objs_same]
  · rw [new_objs_ne _ _ (by simp only [new_nobj]; omega), new_objs_ne _ _ (by simp only [new_nobj]; omega)]; exact new_objs_same _ _
  · rw [new_objs_ne _ _ (by simp only [new_nobj]; omega)]; exact new_objs_same _ _
  · exact new_objs_same _ _
section
variable {X : Cx} {h : AH} {Q : V → AH → Prop}
set_option maxHeartbeats 2000000 in
theorem tells20_spec (L : L20 X) (H : Has (Ecx X) K.probatelaw20_VerdictTells A.probatelaw20_VerdictTells) (v u : Vd) (p q : Pf) (b : List Nat) (lv : VdLen v) (lu : VdLen u) (lp : PfLen p) (lq : PfLen q) (hb : b.length ≤ maxLen) (hbb : ∀ x ∈ b, x < 256) (hQ : Q (.bool true) h) :
    Ecx X K.probatelaw20_VerdictTells [vdV v, vdV u, pfV p, pfV q, .sl 1 0 (u8s b)] h Q := by
  refine fn_walk H (by simp [A.probatelaw20_VerdictTells]) fun wf => ?_
  have e6 : ∀ x : Vd, V.agg [.int .i64 x.kind, .sl 1 0 (ints x.tree), .bool x.sure, .int .i64 x.at', .int .u32 x.expect, .sl 3 0 (x.edits.map edV)] = vdV x := fun _ => rfl
  have e2 : ∀ x : Pf, V.agg [.sl 1 0 (x.sets.map setV), .sl 1 0 (x.leads.map leadV)] = pfV x := fun _ => rfl
  obtain ⟨h2, hh, gr, nb, o1, o2, o3, o4⟩ := four h (vdC v) (vdC u) (pfC p) (pfC q)
  simp [A.probatelaw20_VerdictTells, vdV, pfV, V.cells, V.good]
  rw [hh]
  clear hh
  refine ecall (awake20_spec L ?_)
  simp [o1, o2, o3, o4, vd_cells, pf_cells, e6, e2]
  refine ecall (large20_spec L v p lv lp fun l1 f1 => ?_)
  cases l1 with
  | true => simp; exact fin_wk gr (.same _) (by simp) hQ
  | false =>
  obtain ⟨⟨ov, hv⟩, ⟨op, hp⟩⟩ := f1 rfl
  simp [o1, o2, o3, o4, vd_cells, pf_cells, e6, e2]
  refine ecall (large20_spec L u q lu lq fun l2 f2 => ?_)
  cases l2 with
  | true => simp; exact fin_wk gr (.same _) (by simp) hQ
  | false =>
  obtain ⟨⟨ou, _⟩, ⟨oq, _⟩⟩ := f2 rfl
  simp
  by_cases d3 : (2000 : Int) < b.length
  · simp [d3]; exact fin_wk gr (.same _) (by simp) hQ
  simp [d3, o1, o2, o3, o4, vd_cells, pf_cells, e6, e2]
  refine ecall (vbytes_spec L.v v ov ?_)
  simp [vbytV, o1, o2, o3, o4, vd_cells, pf_cells, e6, e2]
  refine ecall (own20_spec L v ?_)
  simp
  refine ecall (rbytes20_spec L.r v ov ?_)
  simp [vbytV, o1, o2, o3, o4, vd_cells, pf_cells, e6, e2]
  refine ecall (pbytes_spec L.v p op ?_)
  simp [pbytV, o1, o2, o3, o4, vd_cells, pf_cells, e6, e2]
  refine ecall (shown20_spec L p ?_)
  simp
  refine ecall (rencode20_spec L.r p op ?_)
  simp [pbytV]
  obtain ⟨rok, rlen⟩ := readVd_ok hbb
  obtain ⟨pok, plen⟩ := readPf_ok hbb
  have lx := vbytR_len v ov.expect.1
  have lpb := pbytR_len p
  refine ecall (readVd_spec L.v b (by omega) hbb ?_)
  simp [vreadV, vdV, vd_cells, setAt, V.cells, V.good]
  refine ecall (rread20_spec L.r b hb hbb ?_)
  simp [vreadV, vdV, vd_cells, setAt, V.cells, V.good]
  refine ecall (readPf_spec L.v b (by omega) hbb ?_)
  simp [preadV, pfV, pf_cells, setAt, V.cells, V.good]
  refine ecall (rdecode20_spec L.r b hb hbb ?_)
  simp [preadV, pfV, pf_cells, setAt, V.cells, V.good]
  generalize readVd b = R at *
  generalize readPf b = S at *
  obtain ⟨h6, hh, gr6, nb6, p5, p6, p7, p8⟩ := four h2 (vdC R.1) (vdC R.1) (pfC S.1) (pfC S.1)
  have pp : ∀ o, o < h2.nobj → h6.objs o = h2.objs o := fun o ho => gr6.objs o ho
  have g6 := gr.trans gr6
  rw [vd_cells, pf_cells] at hh
  rw [hh]
  clear hh
  have p1 : h6.objs h.nobj = vdC v := by rw [pp _ (by omega)]; exact o1
  have p2 : h6.objs (h.nobj + 1) = vdC u := by rw [pp _ (by omega)]; exact o2
  have p3 : h6.objs (h.nobj + 2) = pfC p := by rw [pp _ (by omega)]; exact o3
  have p4 : h6.objs (h.nobj + 3) = pfC q := by rw [pp _ (by omega)]; exact o4
  clear o1 o2 o3 o4 pp gr6 gr
  simp [p1, p2, p3, p4, p5, p6, p7, p8, vd_cells, pf_cells, e6, e2]
  refine dcall (.bool (mayV v)) (mayV_spec L.v.v v ov ⟨rfl, rfl⟩) ?_
  simp [p1, p2, p3, p4, p5, p6, p7, p8, vd_cells, pf_cells, e6, e2]
  refine dcall (vdV v) (own20_spec L v ⟨rfl, rfl⟩) ?_
  simp
  refine dcall (.bool (mayV v)) (rmay20_spec L.r v ov ⟨rfl, rfl⟩) ?_
  simp [p1, p2, p3, p4, p5, p6, p7, p8, vd_cells, pf_cells, e6, e2]
  refine dcall (.bool (rightPf p)) (rightV_spec L.v.v p op ⟨rfl, rfl⟩) ?_
  simp [p1, p2, p3, p4, p5, p6, p7, p8, vd_cells, pf_cells, e6, e2]
  refine dcall (pfV p) (shown20_spec L p ⟨rfl, rfl⟩) ?_
  simp
  refine dcall (.bool (rightPf p)) (rright20_spec L.r p op ⟨rfl, rfl⟩) ?_
  simp
  refine dcall (.bool true) (same1_spec L.same1 (vbytR v).1 (vbytR v).1 _ _ lx ⟨by simp, rfl⟩) ?_
  simp
  refine dcall (.bool true) (same1_spec L.same1 (pbytR p).1 (pbytR p).1 _ _ lpb ⟨by simp, rfl⟩) ?_
  simp [p1, p2, p3, p4, p5, p6, p7, p8, vd_cells, pf_cells, e6, e2]
  refine dcall (vdV R.1) (own20_spec L R.1 ⟨rfl, rfl⟩) ?_
  simp [p1, p2, p3, p4, p5, p6, p7, p8, vd_cells, pf_cells, e6, e2]
  refine dcall (.bool true) (rsame20_spec L.r R.1 R.1 rlen rok.edits ⟨by simp, rfl⟩) ?_
  simp [p1, p2, p3, p4, p5, p6, p7, p8, vd_cells, pf_cells, e6, e2]
  refine dcall (pfV S.1) (shown20_spec L S.1 ⟨rfl, rfl⟩) ?_
  simp [p1, p2, p3, p4, p5, p6, p7, p8, vd_cells, pf_cells, e6, e2]
  refine dcall (.bool true) (ralike20_spec L.r S.1 S.1 pok plen ⟨by simp, rfl⟩) ?_
  simp [p1, p2, p3, p4, p5, p6, p7, p8, vd_cells, pf_cells, e6, e2]
  refine dcall (.bool (decide (v = u))) (vsame_spec L.s v u ov ⟨rfl, rfl⟩) ?_
  simp [p1, p2, p3, p4, p5, p6, p7, p8, vd_cells, pf_cells, e6, e2]
  refine dcall (vdV v) (own20_spec L v ⟨rfl, rfl⟩) ?_
  simp [p1, p2, p3, p4, p5, p6, p7, p8, vd_cells, pf_cells, e6, e2]
  refine dcall (vdV u) (own20_spec L u ⟨rfl, rfl⟩) ?_
  simp
  refine dcall (.bool (decide (v = u))) (rsame20_spec L.r v u hv ov.edits ⟨rfl, rfl⟩) ?_
  simp [p1, p2, p3, p4, p5, p6, p7, p8, vd_cells, pf_cells, e6, e2]
  refine dcall (.bool (decide (p = q))) (palike_spec L.s p q op ⟨rfl, rfl⟩) ?_
  simp [p1, p2, p3, p4, p5, p6, p7, p8, vd_cells, pf_cells, e6, e2]
  refine dcall (pfV p) (shown20_spec L p ⟨rfl, rfl⟩) ?_
  simp [p1, p2, p3, p4, p5, p6, p7, p8, vd_cells, pf_cells, e6, e2]
  refine dcall (pfV q) (shown20_spec L q ⟨rfl, rfl⟩) ?_
  simp
  refine dcall (.bool (decide (p = q))) (ralike20_spec L.r p q op hp ⟨rfl, rfl⟩) ?_
  simp
  exact fin_wk g6 (.same _) (by simp) hQ
end
end Go.Proofs.Ytpneojpgahegaaa.Al
