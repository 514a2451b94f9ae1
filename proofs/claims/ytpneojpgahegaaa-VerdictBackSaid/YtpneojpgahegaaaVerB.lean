/-
  Layer 20: bytes of verdicts and proofs, and which are the same, by the abstract layer. Conditions: each theorem's own.
-/
import Derived.Test.YtpneojpgahegaaaVer
import Derived.Test.YtpneojpgahegaaaWC
namespace Go.Proofs.Ytpneojpgahegaaa.Al
open Go Go.RowKit
set_option linter.unusedSimpArgs false
set_option linter.unusedVariables false
attribute [-simp] List.getD_eq_getElem?_getD Int.not_lt Int.not_le List.map_take

/-! ### Lengths -/
theorem vput_le (n : Nat) (h : n < 2 ^ 63) : (vput n).length ≤ 10 := vput_len64 (by omega)
theorem edBy_len {x : Ed} (h : edB x = true) : (edBy x).length ≤ 30 := by
  obtain ⟨h1, h2⟩ := edB_iff.1 h
  have a := vput_le x.at'.toNat (by omega)
  have b := vput_le (boolN x.drop) (by unfold boolN; split <;> omega)
  have c := vput_le x.tok.toNat (by omega)
  simp only [edBy, List.length_append]; omega
theorem itBy_len {x : It} (h : itB x = true) : (itBy x).length ≤ 30 := by
  obtain ⟨⟨h1, h2⟩, h3⟩ := itB_iff.1 h
  have a := vput_le x.prod.toNat (by omega)
  have b := vput_le x.dot.toNat (by omega)
  have c := vput_le x.frm.toNat (by omega)
  simp only [itBy, List.length_append]; omega
theorem intsBy_len {l : List Int} (h : derivB l = true) : (intsBy l).length ≤ 20010 := by
  obtain ⟨h1, h2⟩ := derivB_iff.1 h
  have a := vput_le l.length (by omega)
  have b := flat_len (f := fun n : Int => vput n.toNat) (m := 10) l fun n hn => vput_le _ (by have := h2 n hn; omega)
  simp only [intsBy, List.length_append]; omega
theorem setBy_len {s : List It} (h : s.length ≤ 1500 ∧ ∀ x ∈ s, itB x = true) : (setBy s).length ≤ 45010 := by
  have a := vput_le s.length (by omega)
  have b := flat_len (f := itBy) (m := 30) s fun x hx => itBy_len (h.2 x hx)
  simp only [setBy, List.length_append]; omega
section
variable {X : Cx} {h0 h : AH} {Q : V → AH → Prop}
theorem cints (L0 : LW X) {o : Nat} {L : List Nat} {s : Nat} (ns : List Int) (hn : ∀ n ∈ ns, 0 ≤ n ∧ n < 2 ^ 63) (w : WC h0 h o L) (hl : L.length + 10 * ns.length + 10 ≤ 2 ^ 46)
    (hQ : ∀ h1, WC h0 h1 o (L ++ intsBy ns) → (∀ q, ¬ q = o → q < h.nobj → h1.objs q = h.objs q) → h.nobj ≤ h1.nobj → Q (.tup []) h1) : Ecx X K.wire_Writer_Nums [.ptr o 0, .sl 1 s (ints ns)] h Q := by
  have e1 : ints ns = i64s (nats ns) := by rw [i64s_ints, natI_nats fun t ht => (hn t ht).1]
  have e2 : intsBy ns = vput (nats ns).length ++ vputs (nats ns) := by
    simp only [intsBy, vputs, nats, List.length_map, List.flatMap, List.map_map]; rfl
  rw [e1]
  refine cnums L0 (nats ns) (fun n h' => ?_) w (by simpa [nats] using hl) fun h1 a b c => hQ h1 (by rw [e2, ← List.append_assoc]; exact a) b c
  simp only [nats, List.mem_map] at h'
  obtain ⟨t, ht, rfl⟩ := h'
  have := hn t ht; omega
theorem cboolB (L0 : LW X) {o : Nat} {L : List Nat} (b : Bool) (w : WC h0 h o L) (hl : L.length + 10 ≤ 2 ^ 46)
    (hQ : ∀ h1, WC h0 h1 o (L ++ vput (boolN b)) → (∀ q, ¬ q = o → q < h.nobj → h1.objs q = h.objs q) → h.nobj ≤ h1.nobj → Q (.tup []) h1) : Ecx X K.wire_Writer_Bool [.ptr o 0, .bool b] h Q :=
  cbool L0 b w hl hQ
theorem vbytes_spec (L : LV2 X) (v : Vd) (ok : VdOk v) (hQ : Q (vbytV v) h) : Ecx X K.verdict_Bytes [vdV v] h Q := by
  refine fn_walk L.bytes (by simp [A.verdict_Bytes]) fun wf => ?_
  have gr := (Gr.refl h).new (vdC v)
  unfold vbytV vbytR at hQ
  simp [A.verdict_Bytes, vdV, V.cells, V.good]
  have e6 : (vdC v).length = 6 := rfl
  simp [e6]
  refine ecall (mayV_spec L.v v ok ?_)
  cases hr : mayV v with
  | false =>
    rw [hr] at hQ
    simp at hQ ⊢
    exact fin_wk gr (Wk.t2 (.nil _ 1 _) _) (by simp) hQ
  | true =>
  obtain ⟨k, _, d, a, x, en, ed⟩ := mayV_iff.1 hr
  obtain ⟨dl, dn⟩ := derivB_iff.1 d
  have x0 := ok.expect
  have hex : IntKind.i64.wrap v.expect = v.expect := wrap_i64 (by omega) (by omega)
  rw [hr, if_neg (by simp)] at hQ
  have w0 := WC.mk0 h gr
  have o0 : ((h.new (vdC v)).new [.sl 0 1 []]).objs h.nobj = vdC v := by simp
  have nb0 : h.nobj + 1 < ((h.new (vdC v)).new [.sl 0 1 []]).nobj := by simp
  have ne1 : ¬ h.nobj = h.nobj + 1 := by omega
  have b1 := vput_le v.kind.toNat (by omega)
  have b2 := intsBy_len d
  have b3 := vput_le (boolN v.sure) (by unfold boolN; split <;> omega)
  have b4 := vput_le v.at'.toNat (by omega)
  have b5 := vput_le v.expect.toNat (by omega)
  have b6 := vput_le v.edits.length (by omega)
  simp [fillV, V.cells, V.good]
  simp only [new_nobj] at w0
  generalize (h.new (vdC v)).new [.sl 0 1 []] = h1 at *
  simp [vdC]
  refine ecall (cint L.w _ (by omega) (by omega) w0 (by simp) fun h2 w2 q2 c2 => ?_)
  have o2 : h2.objs h.nobj = vdC v := by rw [q2 _ ne1 (by omega)]; exact o0
  simp [o2, vdC]
  refine ecall (cints L.w _ (fun n hn => by have := dn n hn; omega) w2 (by simp; omega) fun h3 w3 q3 c3 => ?_)
  have o3 : h3.objs h.nobj = vdC v := by rw [q3 _ ne1 (by omega)]; exact o2
  simp [o3, vdC]
  refine ecall (cboolB L.w _ w3 (by simp; omega) fun h4 w4 q4 c4 => ?_)
  have o4 : h4.objs h.nobj = vdC v := by rw [q4 _ ne1 (by omega)]; exact o3
  simp [o4, vdC]
  refine ecall (cint L.w _ (by omega) (by omega) w4 (by simp; omega) fun h5 w5 q5 c5 => ?_)
  have o5 : h5.objs h.nobj = vdC v := by rw [q5 _ ne1 (by omega)]; exact o4
  simp [o5, vdC, hex]
  refine ecall (cint L.w _ (by omega) (by omega) w5 (by simp; omega) fun h6 w6 q6 c6 => ?_)
  have o6 : h6.objs h.nobj = vdC v := by rw [q6 _ ne1 (by omega)]; exact o5
  simp [o6, vdC]
  refine ecall (cnum L.w _ (by omega) w6 (by simp; omega) fun h7 w7 q7 c7 => ?_)
  have o7 : h7.objs h.nobj = vdC v := by rw [q7 _ ne1 (by omega)]; exact o6
  simp [o7, vdC]
  simp only [List.nil_append, List.append_assoc] at w7
  generalize hpre : vput v.kind.toNat ++ (intsBy v.tree ++ (vput (boolN v.sure) ++ (vput v.at'.toNat ++ (vput v.expect.toNat ++ vput v.edits.length)))) = pre at *
  have hprel : pre.length ≤ 20060 := by rw [← hpre]; simp; omega
  have hvb : vdBy v = pre ++ v.edits.flatMap edBy := by rw [← hpre]; simp [vdBy]
  refine loopI (n := v.edits.length) (fun r env h' => ∃ j, j ≤ v.edits.length ∧ r = v.edits.length - j ∧ env = [(4, .ptr (h.nobj + 1) 0), (39, .sl 3 0 (v.edits.map edV)), (40, .int .i64 v.edits.length), (41, .int .i64 (j : Nat))] ∧ WC h h' (h.nobj + 1) (pre ++ (v.edits.take j).flatMap edBy)) ?_
    ⟨0, by omega, by omega, rfl, by simpa using w7⟩
  rintro r env h' ⟨j, hj, rfl, rfl, w'⟩
  unfold A.verdict_Bytes.L0
  by_cases hlt : j < v.edits.length
  · have hlt' : (j : Int) < v.edits.length := by omega
    have hg : (v.edits.map edV).getD j .undef = edV v.edits[j] := Enc.getD hlt
    have hw1 : IntKind.i64.wrap ((j : Int) + 1) = ((j + 1 : Nat) : Int) := by rw [wrap_i64 (by omega) (by omega)]; rfl
    have hp := ed _ (List.getElem_mem hlt)
    have hsn : pre ++ (v.edits.take (j + 1)).flatMap edBy = (pre ++ (v.edits.take j).flatMap edBy) ++ edBy v.edits[j] := by
      rw [List.take_succ_eq_append_getElem hlt, List.flatMap_append, List.append_assoc]; simp
    have hfl := flat_len (f := edBy) (m := 30) (v.edits.take j) fun p hp => edBy_len (ed _ (List.mem_of_mem_take hp))
    have htl : (v.edits.take j).length = j := by simp; omega
    generalize v.edits[j] = p at *
    have hpl := edBy_len hp
    obtain ⟨p1, p2⟩ := edB_iff.1 hp
    have n1 : ¬ h'.nobj = h.nobj + 1 := by have := w'.lo; omega
    have w2 := w'.new (edC p)
    have ob2 : (h'.new (edC p)).objs h'.nobj = edC p := new_objs_same _ _
    have nb2 : h'.nobj < (h'.new (edC p)).nobj := by simp
    have hpc : edC p = [.int .i64 p.at', .bool p.drop, .int .i64 p.tok] := rfl
    have a1 := vput_le p.at'.toNat (by omega)
    have a2 := vput_le (boolN p.drop) (by unfold boolN; split <;> omega)
    rw [hpc] at w2 ob2 nb2
    simp [hlt', hg, edV, V.cells, V.good, setAt, hpc]
    generalize h'.new [.int .i64 p.at', .bool p.drop, .int .i64 p.tok] = h8 at *
    refine ecall (cint L.w _ (by omega) (by omega) w2 (by simp only [List.length_append]; omega) fun h9 w9 q9 c9 => ?_)
    have ob9 : h9.objs h'.nobj = [.int .i64 p.at', .bool p.drop, .int .i64 p.tok] := by rw [q9 _ n1 (by omega)]; exact ob2
    simp [ob9]
    refine ecall (cboolB L.w _ w9 (by simp only [List.length_append]; omega) fun h10 w10 q10 c10 => ?_)
    have ob10 : h10.objs h'.nobj = [.int .i64 p.at', .bool p.drop, .int .i64 p.tok] := by rw [q10 _ n1 (by omega)]; exact ob9
    simp [ob10]
    refine ecall (cint L.w _ (by omega) (by omega) w10 (by simp only [List.length_append]; omega) fun h11 w11 q11 c11 => ?_)
    simp [hw1]
    refine ⟨v.edits.length - (j + 1), by omega, iv ⟨j + 1, by omega, rfl, rfl, ?_⟩⟩
    rw [hsn]
    have : pre ++ (v.edits.take j).flatMap edBy ++ edBy p = pre ++ (v.edits.take j).flatMap edBy ++ vput p.at'.toNat ++ vput (boolN p.drop) ++ vput p.tok.toNat := by simp [edBy]
    rw [this]; exact w11
  · have hlt' : ¬ (j : Int) < v.edits.length := by omega
    obtain rfl : j = v.edits.length := by omega
    have hfl := flat_len (f := edBy) (m := 30) v.edits fun p hp => edBy_len (ed _ hp)
    rw [List.take_length, ← hvb] at w'
    simp [hlt']
    refine ecall (cbytes L.w w' (by rw [hvb, List.length_append]; omega) ?_)
    simp
    exact fin_wk w'.gr (.same _) (by simp [cellsOf_u8s]; exact Bdd_u8s _ _ _) hQ
end
end Go.Proofs.Ytpneojpgahegaaa.Al
namespace Go.Proofs.Ytpneojpgahegaaa.Al
open Go Go.RowKit
set_option linter.unusedSimpArgs false
set_option linter.unusedVariables false
attribute [-simp] List.getD_eq_getElem?_getD Int.not_lt Int.not_le List.map_take

section
variable {X : Cx} {h : AH} {Q : V → AH → Prop}
theorem encodeL1 (L : LV2 X) {h0 : AH} {o q : Nat} {ss : List V} {k : Nat} {rs : List It} {M : List Nat} (hr : ∀ s ∈ rs, itB s = true) (hl : rs.length ≤ 1500) (hM : M.length ≤ 2 ^ 40) (w : WC h0 h o M) (hq : q < h.nobj) (hne : ¬ q = o) {n : Int} {Q : Ex → Env → AH → Prop} {zQ : Lz Q} {z : Lz (AC.loop A.verdict_Encode.L1)}
    (hQ : ∀ h', WC h0 h' o (M ++ rs.flatMap itBy) → h'.objs q = h.objs q → h.nobj ≤ h'.nobj → Q (.exit 2) [(1, .ptr q 0), (4, .ptr o 0), (23, .sl 1 0 ss), (24, .int .i64 n), (25, .int .i64 k), (33, .sl 3 0 (rs.map itV)), (34, .int .i64 rs.length), (35, .int .i64 rs.length), (36, .bool false)] h') :
    acZ (Ecx X) [(1, .ptr q 0), (4, .ptr o 0), (23, .sl 1 0 ss), (24, .int .i64 n), (25, .int .i64 k), (33, .sl 3 0 (rs.map itV)), (34, .int .i64 rs.length), (35, .int .i64 0)] h z zQ := by
  refine loopI (n := rs.length) (fun r env h' => ∃ j, j ≤ rs.length ∧ r = rs.length - j ∧ env = [(1, .ptr q 0), (4, .ptr o 0), (23, .sl 1 0 ss), (24, .int .i64 n), (25, .int .i64 k), (33, .sl 3 0 (rs.map itV)), (34, .int .i64 rs.length), (35, .int .i64 (j : Nat))] ∧ WC h0 h' o (M ++ (rs.take j).flatMap itBy) ∧ h'.objs q = h.objs q ∧ h.nobj ≤ h'.nobj) ?_
    ⟨0, by omega, by omega, rfl, by simpa using w, rfl, Nat.le_refl _⟩
  rintro r env h' ⟨j, hj, rfl, rfl, w', hoq, hnq⟩
  unfold A.verdict_Encode.L1
  by_cases hlt : j < rs.length
  · have hlt' : (j : Int) < rs.length := by omega
    have hg : (rs.map itV).getD j .undef = itV rs[j] := Enc.getD hlt
    have hw1 : IntKind.i64.wrap ((j : Int) + 1) = ((j + 1 : Nat) : Int) := by rw [wrap_i64 (by omega) (by omega)]; rfl
    have hp := hr _ (List.getElem_mem hlt)
    have hsn : M ++ (rs.take (j + 1)).flatMap itBy = (M ++ (rs.take j).flatMap itBy) ++ itBy rs[j] := by
      rw [List.take_succ_eq_append_getElem hlt, List.flatMap_append, List.append_assoc]; simp
    have hfl := flat_len (f := itBy) (m := 30) (rs.take j) fun p hp => itBy_len (hr _ (List.mem_of_mem_take hp))
    have htl : (rs.take j).length = j := by simp; omega
    generalize rs[j] = p at *
    have hpl := itBy_len hp
    obtain ⟨⟨p1, p2⟩, p3⟩ := itB_iff.1 hp
    have n1 : ¬ h'.nobj = o := by have := w'.lo; omega
    have w2 := w'.new (itC p)
    have ob2 : (h'.new (itC p)).objs h'.nobj = itC p := new_objs_same _ _
    have oq2 : (h'.new (itC p)).objs q = h.objs q := by rw [new_objs_ne _ _ (by omega)]; exact hoq
    have nb2 : h'.nobj < (h'.new (itC p)).nobj := by simp
    have hpc : itC p = [.int .i64 p.prod, .int .i64 p.dot, .int .i64 p.frm] := rfl
    have a1 := vput_le p.prod.toNat (by omega)
    have a2 := vput_le p.dot.toNat (by omega)
    rw [hpc] at w2 ob2 nb2 oq2
    simp [hlt', hg, itV, V.cells, V.good, setAt, hpc]
    generalize h'.new [.int .i64 p.prod, .int .i64 p.dot, .int .i64 p.frm] = h8 at *
    refine ecall (cint L.w _ (by omega) (by omega) w2 (by simp only [List.length_append]; omega) fun h9 w9 q9 c9 => ?_)
    have ob9 : h9.objs h'.nobj = [.int .i64 p.prod, .int .i64 p.dot, .int .i64 p.frm] := by rw [q9 _ n1 (by omega)]; exact ob2
    simp [ob9]
    refine ecall (cint L.w _ (by omega) (by omega) w9 (by simp only [List.length_append]; omega) fun h10 w10 q10 c10 => ?_)
    have ob10 : h10.objs h'.nobj = [.int .i64 p.prod, .int .i64 p.dot, .int .i64 p.frm] := by rw [q10 _ n1 (by omega)]; exact ob9
    simp [ob10]
    refine ecall (cint L.w _ (by omega) (by omega) w10 (by simp only [List.length_append]; omega) fun h11 w11 q11 c11 => ?_)
    simp [hw1]
    refine ⟨rs.length - (j + 1), by omega, iv ⟨j + 1, by omega, rfl, rfl, ?_, ?_, by omega⟩⟩
    · rw [hsn]
      have : M ++ (rs.take j).flatMap itBy ++ itBy p = M ++ (rs.take j).flatMap itBy ++ vput p.prod.toNat ++ vput p.dot.toNat ++ vput p.frm.toNat := by simp [itBy]
      rw [this]; exact w11
    · rw [q11 _ hne (by omega), q10 _ hne (by omega), q9 _ hne (by omega)]; exact oq2
  · have hlt' : ¬ (j : Int) < rs.length := by omega
    obtain rfl : j = rs.length := by omega
    rw [List.take_length] at w'
    simp [hlt']
    exact hQ _ w' hoq hnq
theorem pbytes_spec (L : LV2 X) (p : Pf) (ok : PfOk p) (hQ : Q (pbytV p) h) : Ecx X K.verdict_Encode [pfV p] h Q := by
  refine fn_walk L.encode (by simp [A.verdict_Encode]) fun wf => ?_
  have gr := (Gr.refl h).new (pfC p)
  unfold pbytV pbytR at hQ
  simp [A.verdict_Encode, pfV, V.cells, V.good]
  have e2 : (pfC p).length = 2 := rfl
  simp [e2]
  refine ecall (rightV_spec L.v p ok ?_)
  cases hr : rightPf p with
  | false =>
    rw [hr] at hQ
    simp at hQ ⊢
    exact fin_wk gr (Wk.t2 (.nil _ 1 _) _) (by simp) hQ
  | true =>
  obtain ⟨ns, nl, hs, hd⟩ := rightPf_iff.1 hr
  rw [hr, if_neg (by simp)] at hQ
  have w0 := WC.mk0 h gr
  have o0 : ((h.new (pfC p)).new [.sl 0 1 []]).objs h.nobj = pfC p := by simp
  have nb0 : h.nobj + 1 < ((h.new (pfC p)).new [.sl 0 1 []]).nobj := by simp
  have ne1 : ¬ h.nobj = h.nobj + 1 := by omega
  have b1 := vput_le p.sets.length (by omega)
  have b2 := vput_le p.leads.length (by omega)
  simp [fillV, V.cells, V.good]
  simp only [new_nobj] at w0
  generalize (h.new (pfC p)).new [.sl 0 1 []] = h1 at *
  simp [o0, pfC]
  refine ecall (cnum L.w _ (by omega) w0 (by simp) fun h2 w2 q2 c2 => ?_)
  have o2 : h2.objs h.nobj = pfC p := by rw [q2 _ ne1 (by omega)]; exact o0
  simp [o2, pfC]
  simp only [List.nil_append] at w2
  refine loopI (n := p.sets.length) (fun r env h' => ∃ j, j ≤ p.sets.length ∧ r = p.sets.length - j ∧ env = [(1, .ptr h.nobj 0), (4, .ptr (h.nobj + 1) 0), (23, .sl 1 0 (p.sets.map setV)), (24, .int .i64 p.sets.length), (25, .int .i64 (j : Nat))] ∧ WC h h' (h.nobj + 1) (vput p.sets.length ++ (p.sets.take j).flatMap setBy) ∧ h'.objs h.nobj = pfC p ∧ h.nobj < h'.nobj) ?_
    ⟨0, by omega, by omega, rfl, by simpa using w2, o2, by omega⟩
  rintro r env h' ⟨j, hj, rfl, rfl, w', o', c'⟩
  unfold A.verdict_Encode.L0
  by_cases hlt : j < p.sets.length
  · have hlt' : (j : Int) < p.sets.length := by omega
    have hg : (p.sets.map setV).getD j .undef = setV p.sets[j] := Enc.getD hlt
    have hw1 : IntKind.i64.wrap ((j : Int) + 1) = ((j + 1 : Nat) : Int) := by rw [wrap_i64 (by omega) (by omega)]; rfl
    have hp := hs _ (List.getElem_mem hlt)
    have hsn : vput p.sets.length ++ (p.sets.take (j + 1)).flatMap setBy = (vput p.sets.length ++ (p.sets.take j).flatMap setBy) ++ setBy p.sets[j] := by
      rw [List.take_succ_eq_append_getElem hlt, List.flatMap_append, List.append_assoc]; simp
    have hfl := flat_len (f := setBy) (m := 45010) (p.sets.take j) fun s hp => setBy_len (hs _ (List.mem_of_mem_take hp))
    have htl : (p.sets.take j).length = j := by simp; omega
    generalize p.sets[j] = s at *
    have a1 := vput_le s.length (by omega)
    simp [hlt', hg, setV, V.cells]
    refine ecall (cnum L.w _ (by omega) w' (by simp only [List.length_append]; omega) fun h3 w3 q3 c3 => ?_)
    have o3 : h3.objs h.nobj = pfC p := by rw [q3 _ ne1 (by omega)]; exact o'
    simp
    refine encodeL1 L hp.2 hp.1 (by simp only [List.length_append]; omega) w3 (by omega) ne1 fun h4 w4 o4 c4 => ?_
    simp [hw1]
    refine ⟨p.sets.length - (j + 1), by omega, iv ⟨j + 1, by omega, rfl, rfl, ?_, by rw [o4]; exact o3, by omega⟩⟩
    rw [hsn]
    have : vput p.sets.length ++ (p.sets.take j).flatMap setBy ++ setBy s = vput p.sets.length ++ (p.sets.take j).flatMap setBy ++ vput s.length ++ s.flatMap itBy := by simp [setBy]
    rw [this]; exact w4
  · have hlt' : ¬ (j : Int) < p.sets.length := by omega
    obtain rfl : j = p.sets.length := by omega
    have hfl := flat_len (f := setBy) (m := 45010) p.sets fun s hp => setBy_len (hs _ hp)
    rw [List.take_length] at w'
    simp [hlt', o', pfC]
    refine ecall (cnum L.w _ (by omega) w' (by simp only [List.length_append]; omega) fun h3 w3 q3 c3 => ?_)
    have o3 : h3.objs h.nobj = pfC p := by rw [q3 _ ne1 (by omega)]; exact o'
    simp [o3, pfC]
    generalize hpre : vput p.sets.length ++ p.sets.flatMap setBy ++ vput p.leads.length = pre at *
    have hprel : pre.length ≤ 1200000 := by rw [← hpre]; simp only [List.length_append]; omega
    have hpb : pfBy p = pre ++ p.leads.flatMap intsBy := by rw [← hpre]; simp [pfBy]
    refine loopI (n := p.leads.length) (fun r env h' => ∃ j, j ≤ p.leads.length ∧ r = p.leads.length - j ∧ env = [(4, .ptr (h.nobj + 1) 0), (9, .fn K.wire_Writer_Nums [.ptr (h.nobj + 1) 0] []), (61, .sl 1 0 (p.leads.map leadV)), (62, .int .i64 p.leads.length), (63, .int .i64 (j : Nat))] ∧ WC h h' (h.nobj + 1) (pre ++ (p.leads.take j).flatMap intsBy)) ?_
      ⟨0, by omega, by omega, rfl, by simpa using w3⟩
    rintro r env h5 ⟨j, hj, rfl, rfl, w5⟩
    unfold A.verdict_Encode.L2
    by_cases hlt : j < p.leads.length
    · have hlt' : (j : Int) < p.leads.length := by omega
      have hg : (p.leads.map leadV).getD j .undef = leadV p.leads[j] := Enc.getD hlt
      have hw1 : IntKind.i64.wrap ((j : Int) + 1) = ((j + 1 : Nat) : Int) := by rw [wrap_i64 (by omega) (by omega)]; rfl
      have hp := hd _ (List.getElem_mem hlt)
      have hsn : pre ++ (p.leads.take (j + 1)).flatMap intsBy = (pre ++ (p.leads.take j).flatMap intsBy) ++ intsBy p.leads[j] := by
        rw [List.take_succ_eq_append_getElem hlt, List.flatMap_append, List.append_assoc]; simp
      have hfl := flat_len (f := intsBy) (m := 20010) (p.leads.take j) fun s hp => intsBy_len (hd _ (List.mem_of_mem_take hp))
      have htl : (p.leads.take j).length = j := by simp; omega
      generalize p.leads[j] = s at *
      obtain ⟨dl, dn⟩ := derivB_iff.1 hp
      simp [hlt', hg, leadV, V.cells]
      refine ecall (cints L.w _ (fun n hn => by have := dn n hn; omega) w5 (by simp only [List.length_append]; omega) fun h6 w6 q6 c6 => ?_)
      simp [hw1]
      exact ⟨p.leads.length - (j + 1), by omega, iv ⟨j + 1, by omega, rfl, rfl, by rw [hsn]; exact w6⟩⟩
    · have hlt' : ¬ (j : Int) < p.leads.length := by omega
      obtain rfl : j = p.leads.length := by omega
      have hfl := flat_len (f := intsBy) (m := 20010) p.leads fun s hp => intsBy_len (hd _ hp)
      rw [List.take_length, ← hpb] at w5
      simp [hlt']
      refine ecall (cbytes L.w w5 (by rw [hpb, List.length_append]; omega) ?_)
      simp
      exact fin_wk w5.gr (.same _) (by simp [cellsOf_u8s]; exact Bdd_u8s _ _ _) hQ
end
end Go.Proofs.Ytpneojpgahegaaa.Al
namespace Go.Proofs.Ytpneojpgahegaaa.Al
open Go Go.RowKit
set_option linter.unusedSimpArgs false
set_option linter.unusedVariables false
attribute [-simp] List.getD_eq_getElem?_getD Int.not_lt Int.not_le List.map_take

section
variable {X : Cx} {h : AH} {Q : V → AH → Prop}
theorem eqEd_spec (H : Has (Ecx X) K.slices_Equal_Edit A.slices_Equal_Edit) (a b : List Ed) (s t : Nat) (ha : a.length < 2 ^ 62) (hQ : Q (.bool (decide (a = b))) h) : Ecx X K.slices_Equal_Edit [.sl 3 s (a.map edV), .sl 3 t (b.map edV)] h Q := by
  refine fn_walk H (by simp [A.slices_Equal_Edit]) fun wf => ?_
  by_cases hl : a.length = b.length
  · have hl' : (a.length : Int) = b.length := by omega
    simp [A.slices_Equal_Edit, hl']
    refine loopI (n := a.length) (fun m env h' => ∃ k, k ≤ a.length ∧ m = a.length - k ∧ h' = h ∧ env = [(0, .sl 3 s (a.map edV)), (1, .sl 3 t (b.map edV)), (12, .int .i64 b.length), (13, .int .i64 k)] ∧ a.take k = b.take k) ?_ ⟨0, by omega, by omega, rfl, by rfl, rfl⟩
    rintro m env h' ⟨k, hk, rfl, rfl, rfl, he⟩
    unfold A.slices_Equal_Edit.L0
    by_cases hlt : k < a.length
    · have hlt' : (k : Int) < b.length := by omega
      have hlb : k < b.length := by omega
      have hga : (a.map edV).getD k .undef = edV a[k] := Enc.getD (enc := edV) hlt
      have hgb : (b.map edV).getD k .undef = edV b[k] := Enc.getD (enc := edV) hlb
      have hw1 : IntKind.i64.wrap ((k : Int) + 1) = ((k + 1 : Nat) : Int) := by rw [wrap_i64 (by omega) (by omega)]; rfl
      by_cases e : a[k] = b[k]
      · simp [hl', hlt', hga, hgb, V.cells, edV, edC, e, hw1]
        exact ⟨a.length - (k + 1), by omega, iv ⟨k + 1, by omega, rfl, rfl, rfl, take_ext2 hlt hlb he e⟩⟩
      · have hf : decide (a = b) = false := by
          simp only [decide_eq_false_iff_not]; rintro rfl; exact e rfl
        rw [hf] at hQ
        have hne : a[k].at' = b[k].at' → a[k].drop = b[k].drop → ¬ a[k].tok = b[k].tok := by
          intro e1 e2 e3; apply e; cases ha : a[k]; cases hb : b[k]; simp_all
        by_cases e1 : a[k].at' = b[k].at' <;> by_cases e2 : a[k].drop = b[k].drop <;> by_cases e3 : a[k].tok = b[k].tok <;> first | exact absurd e3 (hne e1 e2) | (simp [hl', hlt', hga, hgb, V.cells, edV, edC, e1, e2, e3]; exact fin (by simp) hQ)
    · have hlt' : ¬ (k : Int) < b.length := by omega
      simp [hl', hlt']
      refine fin (by simp) ?_
      have hk : k = a.length := by omega
      rw [hk, List.take_length, hl, List.take_length] at he
      simpa [he] using hQ
  · have hl' : ¬ (a.length : Int) = b.length := by omega
    simp [A.slices_Equal_Edit, hl']
    refine fin (by simp) ?_
    have : decide (a = b) = false := by simp; intro h; exact hl (by rw [h])
    rw [this] at hQ; exact hQ
theorem eqIt_spec (H : Has (Ecx X) K.slices_Equal_Item A.slices_Equal_Item) (a b : List It) (s t : Nat) (ha : a.length < 2 ^ 62) (hQ : Q (.bool (decide (a = b))) h) : Ecx X K.slices_Equal_Item [.sl 3 s (a.map itV), .sl 3 t (b.map itV)] h Q := by
  refine fn_walk H (by simp [A.slices_Equal_Item]) fun wf => ?_
  by_cases hl : a.length = b.length
  · have hl' : (a.length : Int) = b.length := by omega
    simp [A.slices_Equal_Item, hl']
    refine loopI (n := a.length) (fun m env h' => ∃ k, k ≤ a.length ∧ m = a.length - k ∧ h' = h ∧ env = [(0, .sl 3 s (a.map itV)), (1, .sl 3 t (b.map itV)), (12, .int .i64 b.length), (13, .int .i64 k)] ∧ a.take k = b.take k) ?_ ⟨0, by omega, by omega, rfl, by rfl, rfl⟩
    rintro m env h' ⟨k, hk, rfl, rfl, rfl, he⟩
    unfold A.slices_Equal_Item.L0
    by_cases hlt : k < a.length
    · have hlt' : (k : Int) < b.length := by omega
      have hlb : k < b.length := by omega
      have hga : (a.map itV).getD k .undef = itV a[k] := Enc.getD (enc := itV) hlt
      have hgb : (b.map itV).getD k .undef = itV b[k] := Enc.getD (enc := itV) hlb
      have hw1 : IntKind.i64.wrap ((k : Int) + 1) = ((k + 1 : Nat) : Int) := by rw [wrap_i64 (by omega) (by omega)]; rfl
      by_cases e : a[k] = b[k]
      · simp [hl', hlt', hga, hgb, V.cells, itV, itC, e, hw1]
        exact ⟨a.length - (k + 1), by omega, iv ⟨k + 1, by omega, rfl, rfl, rfl, take_ext2 hlt hlb he e⟩⟩
      · have hf : decide (a = b) = false := by
          simp only [decide_eq_false_iff_not]; rintro rfl; exact e rfl
        rw [hf] at hQ
        have hne : a[k].prod = b[k].prod → a[k].dot = b[k].dot → ¬ a[k].frm = b[k].frm := by
          intro e1 e2 e3; apply e; cases ha : a[k]; cases hb : b[k]; simp_all
        by_cases e1 : a[k].prod = b[k].prod <;> by_cases e2 : a[k].dot = b[k].dot <;> by_cases e3 : a[k].frm = b[k].frm <;> first | exact absurd e3 (hne e1 e2) | (simp [hl', hlt', hga, hgb, V.cells, itV, itC, e1, e2, e3]; exact fin (by simp) hQ)
    · have hlt' : ¬ (k : Int) < b.length := by omega
      simp [hl', hlt']
      refine fin (by simp) ?_
      have hk : k = a.length := by omega
      rw [hk, List.take_length, hl, List.take_length] at he
      simpa [he] using hQ
  · have hl' : ¬ (a.length : Int) = b.length := by omega
    simp [A.slices_Equal_Item, hl']
    refine fin (by simp) ?_
    have : decide (a = b) = false := by simp; intro h; exact hl (by rw [h])
    rw [this] at hQ; exact hQ
theorem eqInt_spec (H : Has (Ecx X) K.slices_Equal_int A.slices_Equal_int) (a b : List Int) (s t : Nat) (ha : a.length < 2 ^ 62) (hQ : Q (.bool (decide (a = b))) h) : Ecx X K.slices_Equal_int [.sl 1 s (a.map (V.int .i64)), .sl 1 t (b.map (V.int .i64))] h Q := by
  refine fn_walk H (by simp [A.slices_Equal_int]) fun wf => ?_
  by_cases hl : a.length = b.length
  · have hl' : (a.length : Int) = b.length := by omega
    simp [A.slices_Equal_int, hl']
    refine loopI (n := a.length) (fun m env h' => ∃ k, k ≤ a.length ∧ m = a.length - k ∧ h' = h ∧ env = [(0, .sl 1 s (a.map (V.int .i64))), (1, .sl 1 t (b.map (V.int .i64))), (12, .int .i64 b.length), (13, .int .i64 k)] ∧ a.take k = b.take k) ?_ ⟨0, by omega, by omega, rfl, by rfl, rfl⟩
    rintro m env h' ⟨k, hk, rfl, rfl, rfl, he⟩
    unfold A.slices_Equal_int.L0
    by_cases hlt : k < a.length
    · have hlt' : (k : Int) < b.length := by omega
      have hlb : k < b.length := by omega
      have hga : (a.map (V.int .i64)).getD k .undef = (V.int .i64) a[k] := Enc.getD (enc := (V.int .i64)) hlt
      have hgb : (b.map (V.int .i64)).getD k .undef = (V.int .i64) b[k] := Enc.getD (enc := (V.int .i64)) hlb
      have hw1 : IntKind.i64.wrap ((k : Int) + 1) = ((k + 1 : Nat) : Int) := by rw [wrap_i64 (by omega) (by omega)]; rfl
      by_cases e : a[k] = b[k]
      · simp [hl', hlt', hga, hgb, V.cells, V.good, e, hw1]
        exact ⟨a.length - (k + 1), by omega, iv ⟨k + 1, by omega, rfl, rfl, rfl, take_ext2 hlt hlb he e⟩⟩
      · have hf : decide (a = b) = false := by
          simp only [decide_eq_false_iff_not]; rintro rfl; exact e rfl
        rw [hf] at hQ
        simp [hl', hlt', hga, hgb, V.cells, e]; exact fin (by simp) hQ
    · have hlt' : ¬ (k : Int) < b.length := by omega
      simp [hl', hlt']
      refine fin (by simp) ?_
      have hk : k = a.length := by omega
      rw [hk, List.take_length, hl, List.take_length] at he
      simpa [he] using hQ
  · have hl' : ¬ (a.length : Int) = b.length := by omega
    simp [A.slices_Equal_int, hl']
    refine fin (by simp) ?_
    have : decide (a = b) = false := by simp; intro h; exact hl (by rw [h])
    rw [this] at hQ; exact hQ
/-! ### EqualFunc, of things of one cell -/
def eqgL : AC := .post (.seq (.reg [⟨(some 18), none, .bin .lss (.t 17) (.t 16)⟩])
  (.keep [1, 2, 15, 16, 17, 18] (.seq (.cond (.t 18) .skip (.exit 0))
  (.keep [1, 2, 15, 16, 17] (.seq (.block 1 (.seq (.reg [⟨(some 19), none, .mv (.t 17)⟩, ⟨(some 20), none, .ia 1 (.t 15) (.t 17)⟩, ⟨(some 21), none, .load false 1 (.t 20)⟩, ⟨(some 7), none, .mv (.t 19)⟩, ⟨(some 8), none, .mv (.t 21)⟩])
  (.keep [1, 2, 7, 8, 15, 16, 17] (.seq (.reg [⟨(some 22), none, .mv (.t 1)⟩, ⟨(some 23), none, .mv (.t 7)⟩, ⟨(some 24), none, .ia 1 (.t 22) (.t 23)⟩, ⟨(some 25), none, .load false 1 (.t 24)⟩, ⟨(some 9), none, .mv (.t 25)⟩])
  (.keep [1, 2, 8, 9, 15, 16, 17] (.seq (.reg [⟨(some 26), none, .mv (.t 2)⟩, ⟨(some 27), none, .mv (.t 8)⟩, ⟨(some 28), none, .mv (.t 9)⟩, ⟨(some 29), none, .call (.t 26) [(.t 27), (.t 28)]⟩, ⟨(some 30), none, .un .not (.t 29)⟩])
  (.keep [1, 2, 15, 16, 17, 30] (.cond (.t 30) (.seq (.reg [⟨(some 6), none, .mv (.c (.bool false))⟩]) .ret) .skip))))))))
  (.keep [1, 2, 15, 16, 17] (.reg [⟨(some 31), none, .bin .add (.t 17) (.c (.int .i64 (1)))⟩, ⟨(some 17), none, .mv (.t 31)⟩]))))))) [1, 2, 15, 16, 17]
def eqgF : AFn := ⟨32, [(6, none)], (.seq (.reg [⟨(some 6), none, .mv (.c (.bool false))⟩])
  (.keep [0, 1, 2] (.seq (.seq (.reg [⟨(some 10), none, .mv (.t 0)⟩, ⟨(some 11), none, .len false (.t 10)⟩, ⟨(some 12), none, .mv (.t 1)⟩, ⟨(some 13), none, .len false (.t 12)⟩, ⟨(some 14), none, .bin .neq (.t 11) (.t 13)⟩])
  (.keep [0, 1, 2, 14] (.cond (.t 14) (.seq (.reg [⟨(some 6), none, .mv (.c (.bool false))⟩]) .ret) .skip)))
  (.keep [0, 1, 2] (.seq (.seq (.reg [⟨(some 15), none, .mv (.t 0)⟩, ⟨(some 16), none, .len false (.t 15)⟩, ⟨(some 17), none, .mv (.c (.int .i64 (0)))⟩])
  (.keep [1, 2, 15, 16, 17] (.block 0 (.loop eqgL))))
  (.keep [] (.seq (.reg [⟨(some 6), none, .mv (.c (.bool true))⟩]) .ret)))))))⟩
theorem Enc.cells1 {α : Type} {enc : α → V} (E : Enc enc 1 false) (a : α) : (enc a).cells = [enc a] := by
  have h2 := E.agg a
  generalize enc a = v at *
  cases v <;> first | rfl | (simp [V.isAgg] at h2)
theorem equalFunc1 {α β : Type} {enc : α → V} {enc2 : β → V} (E : Enc enc 1 false) (E2 : Enc enc2 1 false) {k : Nat} (H : Has (Ecx X) k eqgF) (l : List α) (m : List β) (s t kf : Nat) (first cap : List V) (f : α → β → Bool) (hl : l.length < 2 ^ 62)
    (hf : ∀ a ∈ l, ∀ b ∈ m, ∀ (Q : V → AH → Prop) (h' : AH), Gr h h' → Q (.bool (f a b)) h' → Ecx X kf (first ++ enc a :: enc2 b :: cap) h' Q) (hQ : Q (.bool (allEq f l m)) h) : Ecx X k [.sl 1 s (l.map enc), .sl 1 t (m.map enc2), .fn kf first cap] h Q := by
  refine fn_walk H (by simp [eqgF]) fun wf => ?_
  by_cases hlm : l.length = m.length
  · have hlm' : (l.length : Int) = m.length := by omega
    simp [eqgF, hlm']
    refine loopI (n := l.length) (fun n env h' => ∃ k, k ≤ l.length ∧ n = l.length - k ∧ h' = h ∧ env = [(1, .sl 1 t (m.map enc2)), (2, .fn kf first cap), (15, .sl 1 s (l.map enc)), (16, .int .i64 l.length), (17, .int .i64 k)] ∧ allEq f (l.drop k) (m.drop k) = allEq f l m) ?_ ⟨0, by omega, by omega, rfl, by simp [hlm'], rfl⟩
    rintro n env h' ⟨j, hj, rfl, rfl, rfl, ha⟩
    unfold eqgL
    by_cases hlt : j < l.length
    · have hlt' : (j : Int) < l.length := by omega
      have hltm : j < m.length := by omega
      have hltm' : (j : Int) < m.length := by omega
      have hg := Enc.getD (enc := enc) hlt
      have hg2 := Enc.getD (enc := enc2) hltm
      have hw1 : IntKind.i64.wrap ((j : Int) + 1) = ((j + 1 : Nat) : Int) := by rw [wrap_i64 (by omega) (by omega)]; rfl
      rw [List.drop_eq_getElem_cons hlt, List.drop_eq_getElem_cons hltm, allEq] at ha
      have ma := List.getElem_mem hlt
      have mb := List.getElem_mem hltm
      generalize l[j] = a at *
      generalize m[j] = b at *
      have ca : (enc a).cells = [enc a] := E.cells1 a
      have cb : (enc2 b).cells = [enc2 b] := E2.cells1 b
      simp [hlt', hltm, hltm', hg, hg2, ca, cb, -V.cells, -V.good]
      refine ecall ?_
      refine hf a ma b mb _ _ (Gr.refl _) ?_
      cases hfab : f a b with
      | false =>
        rw [hfab] at ha
        simp at ha ⊢
        rw [ha] at hQ
        exact fin (by simp) hQ
      | true =>
        rw [hfab] at ha
        simp [hw1] at ha ⊢
        exact ⟨l.length - (j + 1), by omega, iv ⟨j + 1, by omega, rfl, rfl, rfl, ha⟩⟩
    · have hlt' : ¬ (j : Int) < l.length := by omega
      obtain rfl : j = l.length := by omega
      rw [List.drop_length, hlm, List.drop_length] at ha
      simp [hlt']
      rw [← ha] at hQ
      exact fin (by simp) (by simpa [allEq] using hQ)
  · have hlm' : ¬ (l.length : Int) = m.length := by omega
    have hf : allEq f l m = false := by
      cases h1 : allEq f l m with
      | false => rfl
      | true => exact absurd (allEq_len h1) hlm
    rw [hf] at hQ
    simp [eqgF, hlm']
    exact fin (by simp) hQ
theorem new_objs_same2 {h : AH} (y z : List V) : ((h.new y).new z).objs (h.nobj + 1) = z := updN_same _ _ _
/-- What layer 20's comparing calls. -/
structure LV3 (X : Cx) : Prop where
  same : Has (Ecx X) K.verdict_Same A.verdict_Same
  alike : Has (Ecx X) K.verdict_Alike A.verdict_Alike
  eqE : Has (Ecx X) K.slices_Equal_Edit A.slices_Equal_Edit
  eqT : Has (Ecx X) K.slices_Equal_Item A.slices_Equal_Item
  eqI : Has (Ecx X) K.slices_Equal_int A.slices_Equal_int
  eqS : Has (Ecx X) K.slices_EqualFunc_Item A.slices_EqualFunc_Item
  eqL : Has (Ecx X) K.slices_EqualFunc_int A.slices_EqualFunc_int
theorem eqfS_is : A.slices_EqualFunc_Item = eqgF := rfl
theorem eqfL_is : A.slices_EqualFunc_int = eqgF := rfl
theorem vsame_spec (L : LV3 X) (v u : Vd) (ok : VdOk v) (hQ : Q (.bool (decide (v = u))) h) : Ecx X K.verdict_Same [vdV v, vdV u] h Q := by
  refine fn_walk L.same (by simp [A.verdict_Same]) fun wf => ?_
  have gr := ((Gr.refl h).new (vdC v)).new (vdC u)
  have o1 : ((h.new (vdC v)).new (vdC u)).objs h.nobj = vdC v := by simp
  have o2 : ((h.new (vdC v)).new (vdC u)).objs (h.nobj + 1) = vdC u := new_objs_same2 _ _
  simp [A.verdict_Same, vdV, V.cells, V.good]
  generalize (h.new (vdC v)).new (vdC u) = h2 at *
  obtain ⟨k1, t1, s1, a1, x1, e1⟩ := v
  obtain ⟨k2, t2, s2, a2, x2, e2⟩ := u
  have okt := ok.tree
  have oke := ok.edits
  simp only [Vd.mk.injEq] at hQ okt oke
  by_cases c1 : k1 = k2
  case neg => simp [c1] at hQ; simp [o1, o2, vdC, c1]; exact fin_wk gr (.same _) (by simp) hQ
  by_cases c2 : s1 = s2
  case neg => simp [c1, c2] at hQ; simp [o1, o2, vdC, c1, c2]; exact fin_wk gr (.same _) (by simp) hQ
  by_cases c3 : a1 = a2
  case neg => simp [c1, c2, c3] at hQ; simp [o1, o2, vdC, c1, c2, c3]; exact fin_wk gr (.same _) (by simp) hQ
  by_cases c4 : x1 = x2
  case neg => simp [c1, c2, c3, c4] at hQ; simp [o1, o2, vdC, c1, c2, c3, c4]; exact fin_wk gr (.same _) (by simp) hQ
  simp [c1, c2, c3, c4] at hQ
  simp [o1, o2, vdC, c1, c2, c3, c4]
  refine ecall (eqInt_spec L.eqI t1 t2 0 0 okt ?_)
  by_cases c5 : t1 = t2
  case neg => simp [c5] at hQ; simp [c5]; exact fin_wk gr (.same _) (by simp) hQ
  simp [c5] at hQ
  simp [o1, o2, vdC, c5]
  refine ecall (eqEd_spec L.eqE e1 e2 0 0 oke ?_)
  simp
  exact fin_wk gr (.same _) (by simp) hQ
theorem palike_spec (L : LV3 X) (p q : Pf) (ok : PfOk p) (hQ : Q (.bool (decide (p = q))) h) : Ecx X K.verdict_Alike [pfV p, pfV q] h Q := by
  refine fn_walk L.alike (by simp [A.verdict_Alike]) fun wf => ?_
  have gr := ((Gr.refl h).new (pfC p)).new (pfC q)
  have o1 : ((h.new (pfC p)).new (pfC q)).objs h.nobj = pfC p := by simp
  have o2 : ((h.new (pfC p)).new (pfC q)).objs (h.nobj + 1) = pfC q := new_objs_same2 _ _
  have hs := L.eqS
  have hl := L.eqL
  rw [eqfS_is] at hs
  rw [eqfL_is] at hl
  simp [A.verdict_Alike, pfV, V.cells, V.good]
  generalize (h.new (pfC p)).new (pfC q) = h2 at *
  simp [o1, o2, pfC]
  refine ecall (equalFunc1 encSet encSet hs p.sets q.sets 0 0 _ [] [] (fun a b => decide (a = b)) ok.sets (fun a ha b _ Q' h' _ hQ' => eqIt_spec L.eqT a b 0 0 (ok.set a ha) hQ') ?_)
  have d1 : allEq (fun a b => decide (a = b)) p.sets q.sets = decide (p.sets = q.sets) := by
    rw [Bool.eq_iff_iff, allEq_iff (by simp)]; simp
  have d2 : allEq (fun a b => decide (a = b)) p.leads q.leads = decide (p.leads = q.leads) := by
    rw [Bool.eq_iff_iff, allEq_iff (by simp)]; simp
  have d3 : decide (p = q) = (decide (p.sets = q.sets) && decide (p.leads = q.leads)) := by
    obtain ⟨s, l⟩ := p; obtain ⟨s2, l2⟩ := q; simp [Bool.eq_iff_iff]
  rw [d1]
  rw [d3] at hQ
  by_cases c1 : p.sets = q.sets
  case neg => simp [c1] at hQ; simp [c1]; exact fin_wk gr (.same _) (by simp) hQ
  simp [c1] at hQ
  simp [o1, o2, pfC, c1]
  refine ecall (equalFunc1 encLead encLead hl p.leads q.leads 0 0 _ [] [] (fun a b => decide (a = b)) ok.leads (fun a ha b _ Q' h' _ hQ' => eqInt_spec L.eqI a b 0 0 (ok.lead a ha) hQ') ?_)
  rw [d2]
  simp
  exact fin_wk gr (.same _) (by simp) hQ
end
end Go.Proofs.Ytpneojpgahegaaa.Al
