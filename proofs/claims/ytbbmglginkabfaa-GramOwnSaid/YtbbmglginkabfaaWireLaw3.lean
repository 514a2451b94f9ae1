/-
  Layer 2: the law WireReads, by the abstract layer. Conditions: each theorem's own.
-/
import Derived.Test.YtbbmglginkabfaaWireLaw2
namespace Go.Proofs.Ytbbmglginkabfaa.Al
open Go Go.RowKit
set_option linter.unusedSimpArgs false
set_option linter.unusedVariables false
attribute [-simp] List.getD_eq_getElem?_getD Int.not_lt Int.not_le

section
variable {X : Cx} {h : AH} {Q : V → AH → Prop}
theorem rlist_rd {step : List Nat → Int → Nat × List Nat × Int} (hs : ∀ l e, Rd l e → Rd (step l e).2.1 (step l e).2.2) : ∀ (n : Nat) (l : List Nat) (e : Int), Rd l e → Rd (rlist step n l e).2.1 (rlist step n l e).2.2
  | 0, l, e, r => r
  | n + 1, l, e, r => by
    unfold rlist
    split
    · exact r
    · exact rlist_rd hs n _ _ (hs l e r)
theorem rnums_rd {l : List Nat} {e : Int} (r : Rd l e) (many most : Nat) : Rd (rnums l e many most).2.1 (rnums l e many most).2.2 :=
  rlist_rd (fun l e r => rnum_rd r most) _ _ _ (rnum_rd r many)
theorem rlistR_rd : ∀ (n : Nat) (l : List Nat) (e : Int) (most : Nat), RdR l → RdR (rlist (fun l e => rnumR l e most) n l e).2.1
  | 0, l, e, most, r => r
  | n + 1, l, e, most, r => by
    unfold rlist
    split
    · exact r
    · exact rlistR_rd n _ _ most (rnumR_rd r most)
theorem rnumsR_rd {b : List Nat} {e : Int} (r : RdR b) (many most : Nat) : RdR (rnumsR b e many most).2.1 := rlistR_rd _ _ _ most (rnumR_rd r many)
theorem rread_len {step : List Nat → Int → Nat × List Nat × Int} : ∀ (n : Nat) (l : List Nat) (e : Int), (rlist step n l e).1.length ≤ n
  | 0, l, e => by simp [rlist]
  | n + 1, l, e => by
    unfold rlist
    split
    · simp
    · have := rread_len (step := step) n (step l e).2.1 (step l e).2.2
      simp; omega
theorem rnums_len (l : List Nat) (e : Int) (many most : Nat) : (rnums l e many most).1.length ≤ many := by
  unfold rnums rread
  have h1 := rnum_le (l := l) (e := e) many
  have h2 := rread_len (step := fun l e => rnum l e most) (rnum l e many).1 (rnum l e many).2.1 (rnum l e many).2.2
  simp only
  split
  · simp
  · omega
theorem wwrong_rd {l : List Nat} {e : Int} (r : Rd l e) (f : Int) : Rd (wwrong l e f).1 (wwrong l e f).2 := by
  unfold wwrong
  split
  · exact ⟨by simp, by simp, fun _ => rfl⟩
  · exact r
theorem wwrong_sim (b : List Nat) (e f : Int) : absR (b, if e = 0 then f else e) = wwrong (absR (b, e)).1 (absR (b, e)).2 f := by
  unfold absR wwrong
  by_cases he : e = 0
  · by_cases hf : f = 0 <;> simp [he, hf]
  · simp [he]
theorem reads_spec (L : L02 X) (b : List Nat) (l : List Th) (hbl : b.length ≤ maxLen) (hbb : ∀ x ∈ b, x < 256) (hl : l.length ≤ maxLen) (hr : ∀ x ∈ l, Ranged x) (hQ : Q (.bool true) h) :
    Ecx X K.probatelaw02_WireReads [.sl 1 0 (u8s b), .sl 4 0 (l.map thV)] h Q := by
  refine fn_walk L.reads (by simp [A.probatelaw02_WireReads]) fun wf => ?_
  simp [A.probatelaw02_WireReads]
  refine ecall (awake2_spec L ?_)
  simp
  by_cases h500 : (500 : Int) < b.length
  · simp [h500]
    exact fin (by simp) hQ
  simp [h500]
  refine ecall (large_spec L.large l hl (fun x hx => (hr x hx).len) ?_)
  cases hb : largeB l
  case true => simp [h500]; exact fin (by simp) hQ
  obtain ⟨h40, hf⟩ := fines_of hr hb
  simp [h500]
  refine ecall (wnew L.r (fun _ => rfl) (by simp) (by omega) ?_)
  simp [fillV, V.cells, V.good, setAt]
  have g0 : Gr h ((h.new (robj b 0)).new (robj b 0)) := ((Gr.refl h).new _).new _
  have o0 : ((h.new (robj b 0)).new (robj b 0)).objs h.nobj = robj b 0 := by rw [new_objs_ne _ _ (by simp), new_objs_same]
  have o1 : ((h.new (robj b 0)).new (robj b 0)).objs (h.nobj + 1) = robj b 0 := new_objs_same (h.new (robj b 0)) _
  refine loopZ (n := l.length) (fun m env h' => ∃ k lw e B, k ≤ l.length ∧ m = l.length - k ∧ env = [(5, .ptr h.nobj 0), (6, .ptr (h.nobj + 1) 0), (24, .sl 4 0 (l.map thV)), (25, .int .i64 l.length), (26, .int .i64 k)] ∧ h.nobj + 1 < h'.nobj ∧ Gr h h' ∧
      h'.objs h.nobj = robj lw e ∧ h'.objs (h.nobj + 1) = robj B e ∧ Rd lw e ∧ RdR B ∧ absR (B, e) = (lw, e)) ?_
    ⟨0, b, 0, b, by omega, by omega, rfl, by simp [robj], g0, o0, o1, ⟨hbl, hbb, fun e => absurd rfl e⟩, ⟨hbl, hbb⟩, by simp [absR]⟩
  rintro m env h' ⟨k, lw, e, B, hk, rfl, rfl, ho, g, c0, c1, rd, rdR, hab⟩
  unfold A.probatelaw02_WireReads.L0
  by_cases hlt : k < l.length
  · have hlt' : (k : Int) < l.length := by omega
    have hg := things_getD hlt
    have hxl := hf l[k] (List.getElem_mem hlt)
    generalize hx : l[k] = x at *
    have n1 : ¬ h'.nobj = h.nobj := by omega
    have n2 : ¬ h'.nobj = h.nobj + 1 := by omega
    have n3 : ¬ h.nobj = h'.nobj := by omega
    have n4 : ¬ h.nobj + 1 = h'.nobj := by omega
    have hnn := hxl.n
    have hll := hxl.l
    have hnb := hxl.nsm
    have hlen := hxl.len
    have d0 : (h'.new (thC x)).objs h.nobj = robj lw e := by rw [new_objs_ne _ _ n3]; exact c0
    have d1 : (h'.new (thC x)).objs (h.nobj + 1) = robj B e := by rw [new_objs_ne _ _ n4]; exact c1
    have dx : (h'.new (thC x)).objs h'.nobj = thC x := new_objs_same _ _
    have dn : (h'.new (thC x)).nobj = h'.nobj + 1 := rfl
    have g2 : Gr h (h'.new (thC x)) := g.new _
    simp [hlt', hg, V.cells, V.good, show (thC x).length = 4 from rfl, show (thC x).take 4 = thC x from rfl, show setAt [V.int IntKind.i64 0, V.int IntKind.i64 0, V.sl 0 1 [], V.int IntKind.i64 0] 0 (thC x) = thC x from rfl]
    generalize h'.new (thC x) = h2 at *
    by_cases k1 : x.kind = 1
    · obtain ⟨s1, hab'⟩ := rnumR_sim B e (tn x)
      rw [hab] at s1 hab'
      have rd' := rnum_rd rd (tn x)
      have rdR' := rnumR_rd (e := e) rdR (tn x)
      simp [dx, thC, k1, hnn]
      refine dcallE (.int .i64 (rnum lw e (tn x)).1) (h2.set h.nobj (robj (rnum lw e (tn x)).2.1 (rnum lw e (tn x)).2.2)) ?_ ?_
      · exact wnum L.r (tn x) rd hnb d0 ⟨rfl, rfl⟩
      simp [dx, thC, n1, hnn]
      refine dcallE (.int .i64 (rnumR B e (tn x)).1) ((h2.set h.nobj (robj (rnum lw e (tn x)).2.1 (rnum lw e (tn x)).2.2)).set (h.nobj + 1) (robj (rnumR B e (tn x)).2.1 (rnumR B e (tn x)).2.2)) ?_ ?_
      · exact qnum L.q (tn x) rdR hnb (by simp [d1]) ⟨rfl, rfl⟩
      simp [dx, thC, n1, n2, hnn]
      generalize rnum lw e (tn x) = t at *
      generalize rnumR B e (tn x) = t2 at *
      obtain ⟨v, l', e'⟩ := t
      obtain ⟨v2, B', E'⟩ := t2
      obtain rfl : E' = e' := congrArg Prod.snd hab'
      simp at s1 rd' rdR' hab' ⊢
      subst s1
      simp
      have c0' : ((h2.set h.nobj (robj l' E')).set (h.nobj + 1) (robj B' E')).objs h.nobj = robj l' E' := by simp
      have c1' : ((h2.set h.nobj (robj l' E')).set (h.nobj + 1) (robj B' E')).objs (h.nobj + 1) = robj B' E' := by simp
      have g3 : Gr h ((h2.set h.nobj (robj l' E')).set (h.nobj + 1) (robj B' E')) := (g2.set (by omega) _).set (by omega) _
      have hn3 : h.nobj + 1 < ((h2.set h.nobj (robj l' E')).set (h.nobj + 1) (robj B' E')).nobj := by simp; omega
      generalize (h2.set h.nobj (robj l' E')).set (h.nobj + 1) (robj B' E') = h3 at *
      refine ecall (wleft L.wlf c0' ?_)
      simp
      refine ecall (qleft L.qlf c1' ?_)
      rw [hab']
      simp
      refine ecall (wend L.r c0' ?_)
      simp
      refine ecall (qend L.q c1' ?_)
      rw [hab']
      simp
      exact ⟨l.length - (k + 1), by omega, k + 1, by omega, rfl, by rw [wrap_i64 (by omega) (by omega)]; rfl, hn3, g3, l', E', c0', B', c1', rd', rdR', hab'⟩
    by_cases k2 : x.kind = 2
    · obtain ⟨s1, hab'⟩ := rnumR_sim B e 1
      rw [hab] at s1 hab'
      have rd' := rnum_rd rd 1
      have rdR' := rnumR_rd (e := e) rdR 1
      simp [dx, thC, k2]
      refine ecall (wbool L.r rd d0 ?_)
      simp
      refine ecall (qnum L.q (b := B) (e := e) 1 rdR (by omega) (by simp [d1]) ?_)
      simp
      generalize rnum lw e 1 = t at *
      generalize rnumR B e 1 = t2 at *
      obtain ⟨v, l', e'⟩ := t
      obtain ⟨v2, B', E'⟩ := t2
      obtain rfl : E' = e' := congrArg Prod.snd hab'
      simp at s1 rd' rdR' hab' ⊢
      subst s1
      have hone : (decide (v2 = 1) == decide ((v2 : Int) = 1)) = true := by
        by_cases e1 : v2 = 1
        · simp [e1]
        · have : ¬ (v2 : Int) = 1 := by omega
          simp [e1, this]
      simp [hone]
      have c0' : ((h2.set h.nobj (robj l' E')).set (h.nobj + 1) (robj B' E')).objs h.nobj = robj l' E' := by simp
      have c1' : ((h2.set h.nobj (robj l' E')).set (h.nobj + 1) (robj B' E')).objs (h.nobj + 1) = robj B' E' := by simp
      have g3 : Gr h ((h2.set h.nobj (robj l' E')).set (h.nobj + 1) (robj B' E')) := (g2.set (by omega) _).set (by omega) _
      have hn3 : h.nobj + 1 < ((h2.set h.nobj (robj l' E')).set (h.nobj + 1) (robj B' E')).nobj := by simp; omega
      generalize (h2.set h.nobj (robj l' E')).set (h.nobj + 1) (robj B' E') = h3 at *
      refine ecall (wleft L.wlf c0' ?_)
      simp
      refine ecall (qleft L.qlf c1' ?_)
      rw [hab']
      simp
      refine ecall (wend L.r c0' ?_)
      simp
      refine ecall (qend L.q c1' ?_)
      rw [hab']
      simp
      exact ⟨l.length - (k + 1), by omega, k + 1, by omega, rfl, by rw [wrap_i64 (by omega) (by omega)]; rfl, hn3, g3, l', E', c0', B', c1', rd', rdR', hab'⟩
    by_cases k3 : x.kind = 3
    · obtain ⟨s1, hab'⟩ := rnumsR_sim B e (tl x).length (tn x)
      rw [hab] at s1 hab'
      have rd' := rnums_rd rd (tl x).length (tn x)
      have rdR' := rnumsR_rd (e := e) rdR (tl x).length (tn x)
      have hln := rnums_len lw e (tl x).length (tn x)
      simp [dx, thC, k3, hnn, hll]
      refine dcallE (.sl 1 0 (i64s (rnums lw e (tl x).length (tn x)).1)) (h2.set h.nobj (robj (rnums lw e (tl x).length (tn x)).2.1 (rnums lw e (tl x).length (tn x)).2.2)) ?_ ?_
      · exact wnums L.r (tl x).length (tn x) rd hnb (by omega) d0 ⟨rfl, rfl⟩
      simp [dx, thC, n1, hnn, hll]
      refine dcallE (.sl 1 0 (i64s (rnumsR B e (tl x).length (tn x)).1)) ((h2.set h.nobj (robj (rnums lw e (tl x).length (tn x)).2.1 (rnums lw e (tl x).length (tn x)).2.2)).set (h.nobj + 1) (robj (rnumsR B e (tl x).length (tn x)).2.1 (rnumsR B e (tl x).length (tn x)).2.2)) ?_ ?_
      · exact qnums L.q (tl x).length (tn x) rdR hnb (by omega) (by simp [d1]) ⟨rfl, rfl⟩
      simp [dx, thC, n1, n2, hnn, hll]
      generalize rnums lw e (tl x).length (tn x) = t at *
      generalize rnumsR B e (tl x).length (tn x) = t2 at *
      obtain ⟨v, l', e'⟩ := t
      obtain ⟨v2, B', E'⟩ := t2
      obtain rfl : E' = e' := congrArg Prod.snd hab'
      simp at s1 rd' rdR' hab' hln ⊢
      subst s1
      refine dcall (.bool (decide (v2 = v2))) ?_ ?_
      · exact same2_spec L.q.same v2 v2 _ _ (by unfold maxLen; omega) ⟨rfl, rfl⟩
      simp
      have c0' : ((h2.set h.nobj (robj l' E')).set (h.nobj + 1) (robj B' E')).objs h.nobj = robj l' E' := by simp
      have c1' : ((h2.set h.nobj (robj l' E')).set (h.nobj + 1) (robj B' E')).objs (h.nobj + 1) = robj B' E' := by simp
      have g3 : Gr h ((h2.set h.nobj (robj l' E')).set (h.nobj + 1) (robj B' E')) := (g2.set (by omega) _).set (by omega) _
      have hn3 : h.nobj + 1 < ((h2.set h.nobj (robj l' E')).set (h.nobj + 1) (robj B' E')).nobj := by simp; omega
      generalize (h2.set h.nobj (robj l' E')).set (h.nobj + 1) (robj B' E') = h3 at *
      refine ecall (wleft L.wlf c0' ?_)
      simp
      refine ecall (qleft L.qlf c1' ?_)
      rw [hab']
      simp
      refine ecall (wend L.r c0' ?_)
      simp
      refine ecall (qend L.q c1' ?_)
      rw [hab']
      simp
      exact ⟨l.length - (k + 1), by omega, k + 1, by omega, rfl, by rw [wrap_i64 (by omega) (by omega)]; rfl, hn3, g3, l', E', c0', B', c1', rd', rdR', hab'⟩
    by_cases k4 : x.kind = 4
    · have hab' := wwrong_sim B e x.e
      rw [hab] at hab'
      have rd' := wwrong_rd rd x.e
      have rdR' := rdR
      simp [dx, thC, k4]
      refine ecall (wwrong_spec L.r.wrong h.nobj lw e x.e d0 ?_)
      simp [dx, thC, n1, n2]
      refine ecall (qwrong L.qwr (b := B) (e := e) x.e (by simp [d1]) ?_)
      simp
      generalize wwrong lw e x.e = t at *
      obtain ⟨l', e'⟩ := t
      obtain rfl : (if e = 0 then x.e else e) = e' := congrArg Prod.snd hab'
      generalize (if e = 0 then x.e else e) = E' at *
      obtain ⟨B', hB'⟩ : ∃ B', B' = B := ⟨B, rfl⟩
      rw [← hB'] at hab' rdR' ⊢
      have c0' : ((h2.set h.nobj (robj l' E')).set (h.nobj + 1) (robj B' E')).objs h.nobj = robj l' E' := by simp
      have c1' : ((h2.set h.nobj (robj l' E')).set (h.nobj + 1) (robj B' E')).objs (h.nobj + 1) = robj B' E' := by simp
      have g3 : Gr h ((h2.set h.nobj (robj l' E')).set (h.nobj + 1) (robj B' E')) := (g2.set (by omega) _).set (by omega) _
      have hn3 : h.nobj + 1 < ((h2.set h.nobj (robj l' E')).set (h.nobj + 1) (robj B' E')).nobj := by simp; omega
      generalize (h2.set h.nobj (robj l' E')).set (h.nobj + 1) (robj B' E') = h3 at *
      refine ecall (wleft L.wlf c0' ?_)
      simp
      refine ecall (qleft L.qlf c1' ?_)
      rw [hab']
      simp
      refine ecall (wend L.r c0' ?_)
      simp
      refine ecall (qend L.q c1' ?_)
      rw [hab']
      simp
      exact ⟨l.length - (k + 1), by omega, k + 1, by omega, rfl, by rw [wrap_i64 (by omega) (by omega)]; rfl, hn3, g3, l', E', c0', B', c1', rd', rdR', hab'⟩
    simp [dx, thC, k1, k2, k3, k4]
    obtain ⟨l', hl'⟩ : ∃ l', l' = lw := ⟨lw, rfl⟩
    obtain ⟨B', hB'⟩ : ∃ B', B' = B := ⟨B, rfl⟩
    obtain ⟨E', hE'⟩ : ∃ E', E' = e := ⟨e, rfl⟩
    rw [← hl', ← hE'] at d0
    rw [← hB', ← hE'] at d1
    rw [← hl', ← hE'] at rd
    rw [← hB'] at rdR
    rw [← hl', ← hB', ← hE'] at hab
    have c0' := d0
    have c1' := d1
    have rd' := rd
    have rdR' := rdR
    have hab' := hab
    have g3 := g2
    have hn3 : h.nobj + 1 < h2.nobj := by omega
    refine ecall (wleft L.wlf c0' ?_)
    simp
    refine ecall (qleft L.qlf c1' ?_)
    rw [hab']
    simp
    refine ecall (wend L.r c0' ?_)
    simp
    refine ecall (qend L.q c1' ?_)
    rw [hab']
    simp
    exact ⟨l.length - (k + 1), by omega, k + 1, by omega, rfl, by rw [wrap_i64 (by omega) (by omega)]; rfl, hn3, g3, l', E', c0', B', c1', rd', rdR', hab'⟩
  · have hlt' : ¬ (k : Int) < l.length := by omega
    simp [hlt']
    exact fin_wk g (.same _) (by simp) hQ
end
end Go.Proofs.Ytbbmglginkabfaa.Al
