/-
  Layer 2: the law WireList, by the abstract layer. Conditions: each theorem's own.
-/
import Derived.Test.YtpnbdnmmfaomlaaWireLaw5
import Derived.Test.YtpnbdnmmfaomlaaAlWalk2
namespace Go.Proofs.Ytpnbdnmmfaomlaa.Al
open Go Go.RowKit
set_option linter.unusedSimpArgs false
set_option linter.unusedVariables false
attribute [-simp] List.getD_eq_getElem?_getD Int.not_lt Int.not_le

/-- One thing is read: a number, and a bool. -/
def lstep (top : Nat) (l : List Nat) (e : Int) : (Nat × Bool) × List Nat × Int :=
  (((rnum l e top).1, decide ((rnum (rnum l e top).2.1 (rnum l e top).2.2 1).1 = 1)), (rnum (rnum l e top).2.1 (rnum l e top).2.2 1).2)
def lencC (p : Nat × Bool) : List V := [.int .i64 (if p.2 then 1 else 0), .int .i64 p.1, .sl 0 1 [], .int .i64 0]
def lenc (p : Nat × Bool) : V := .agg (lencC p)
theorem lstep_rd (top : Nat) {l : List Nat} {e : Int} (r : Rd l e) : Rd (lstep top l e).2.1 (lstep top l e).2.2 := rnum_rd (rnum_rd r top) 1
/-- Read on, whatever is wrong. -/
def wl {α : Type} (step : List Nat → Int → α × List Nat × Int) : Nat → List Nat → Int → List α × List Nat × Int
  | 0, l, e => ([], l, e)
  | n + 1, l, e => ((step l e).1 :: (wl step n (step l e).2.1 (step l e).2.2).1, (wl step n (step l e).2.1 (step l e).2.2).2)
theorem wl_state {α : Type} {step : List Nat → Int → α × List Nat × Int} (hs : ∀ l e, e ≠ 0 → (step l e).2 = (l, e)) : ∀ (n : Nat) (l : List Nat) (e : Int), (wl step n l e).2 = (rlist step n l e).2
  | 0, l, e => rfl
  | n + 1, l, e => by
    unfold wl rlist
    by_cases he : e = 0
    · rw [if_neg (by simp [he])]
      exact wl_state hs n _ _
    · rw [if_pos he]
      simp only
      rw [wl_state hs n, show (step l e).2.1 = l by rw [hs l e he], show (step l e).2.2 = e by rw [hs l e he]]
      cases n with
      | zero => rfl
      | succ n => simp [rlist, he]
theorem rlist_err {α : Type} {step : List Nat → Int → α × List Nat × Int} {n : Nat} {l : List Nat} {e : Int} (he : e ≠ 0) : (rlist step n l e).2 = (l, e) := by
  cases n with
  | zero => rfl
  | succ n => simp [rlist, he]
theorem rlist_fine {α : Type} {step : List Nat → Int → α × List Nat × Int} : ∀ (n : Nat) (l : List Nat) (e : Int), (rlist step n l e).2.2 = 0 → (rlist step n l e).1 = (wl step n l e).1 ∧ (rlist step n l e).1.length = n
  | 0, l, e, _ => ⟨rfl, rfl⟩
  | n + 1, l, e, h => by
    by_cases he : e = 0
    · unfold rlist at h ⊢
      unfold wl
      rw [if_neg (by simp [he])] at h ⊢
      simp only at h ⊢
      obtain ⟨i1, i2⟩ := rlist_fine n _ _ h
      exact ⟨by rw [i1], by simp [i2]⟩
    · rw [rlist_err he] at h; exact absurd h he
theorem wl_len {α : Type} {step : List Nat → Int → α × List Nat × Int} : ∀ (n : Nat) (l : List Nat) (e : Int), (wl step n l e).1.length = n
  | 0, l, e => rfl
  | n + 1, l, e => by simp [wl, wl_len n]
theorem lstep_err (top : Nat) (l : List Nat) (e : Int) (he : e ≠ 0) : (lstep top l e).2 = (l, e) := by simp [lstep, rnum, he]
theorem lencs_getD {l : List (Nat × Bool)} {i : Nat} (h : i < l.length) : (l.map lenc).getD i .undef = .agg (lencC l[i]) := by
  simp [List.getD, List.getElem?_eq_getElem h, lenc]

section
variable {X : Cx} {h : AH} {Q : V → AH → Prop}
theorem list1_spec (L : L02 X) {o a : Nat} {l : List Nat} {e : Int} {top : Nat} (rd : Rd l e) (ht : top < 2 ^ 63) (hc : h.objs o = robj l e) (ha : h.objs a = [.int .i64 top])
    (hQ : Q (lenc (lstep top l e).1) (h.set o (robj (lstep top l e).2.1 (lstep top l e).2.2))) : Ecx X K.probatelaw02_WireList_1 [.ptr o 0, .ptr a 0] h Q := by
  refine fn_set L.list1 (h.set o (robj (lstep top l e).2.1 (lstep top l e).2.2)) (fun _ _ => .set _ _ (Bdd_robj _ _ _ _)) (by simp [A.probatelaw02_WireList_1]) fun wf hb => ?_
  have ho : o < h.nobj := by have := hb (.ptr o 0) (by simp); simpa using this
  have ho2 : a < h.nobj := by have := hb (.ptr a 0) (by simp); simpa using this
  have n1 : ¬ o = h.nobj := by omega
  have n2 : ¬ a = h.nobj := by omega
  have n3 : ¬ h.nobj = o := by omega
  have n4 : ¬ h.nobj + 1 = o := by omega
  have n5 : ¬ o = h.nobj + 1 := by omega
  have hz : ∀ z, ((h.new z).new z).objs o = robj l e := fun z => by rw [new_objs_ne _ _ (by simp; omega), new_objs_ne _ _ n1]; exact hc
  simp [A.probatelaw02_WireList_1, n2, ha]
  refine ecall (wnum L.r top rd ht (by simp [n1, hc]) ?_)
  simp [fillV, V.cells, V.good, setAt, n1, n3]
  have rd1 := rnum_rd rd top
  refine ecall (wbool L.r rd1 (by simp [n1, n3, n4, n5]) ?_)
  simp [n1, n3, n4, n5]
  refine gdD_mk (fun h1 => ?_) (fun h1 => ?_)
  · have e1 : lenc (lstep top l e).1 = .agg [.int .i64 1, .int .i64 (rnum l e top).1, .sl 0 1 [], .int .i64 0] := by simp [lstep, h1, lenc, lencC]
    rw [e1] at hQ
    simp [n1, n3, n4, n5, fillV, V.cells, V.good, setAt]
    exact finS (((GrW.refl _).news _).news _) (by simp) hQ
  · have e1 : lenc (lstep top l e).1 = .agg [.int .i64 0, .int .i64 (rnum l e top).1, .sl 0 1 [], .int .i64 0] := by simp [lstep, h1, lenc, lencC]
    rw [e1] at hQ
    simp [n1, n3, n4, n5, fillV, V.cells, V.good, setAt]
    exact finS (((GrW.refl _).news _).news _) (by simp) hQ
theorem lread_len (top : Nat) (many : Nat) (l : List Nat) (e : Int) (he : (rread (lstep top) many l e).2.2 = 0) :
    (rread (lstep top) many l e).1 = (wl (lstep top) (rnum l e many).1 (rnum l e many).2.1 (rnum l e many).2.2).1 ∧ (rread (lstep top) many l e).1.length = (rnum l e many).1 := by
  unfold rread at he ⊢
  simp only at he ⊢
  rw [if_neg (by simp [he])]
  exact rlist_fine _ _ _ he
theorem Own.new {h0 h : AH} {e e1 st : Nat} {l : List V} (o : Own h0 h e e1 st l) (z : List V) : Own h0 (h.new z) e e1 st l := ⟨o.gr.new z, o.el, o.st⟩
theorem Own.set {h0 h : AH} {e e1 st : Nat} {l : List V} (w : Own h0 h e e1 st l) {o : Nat} (ho : h0.nobj ≤ o) (z : List V) : Own h0 (h.set o z) e e1 st l := ⟨w.gr.set ho z, w.el, w.st⟩
theorem cellsOf_lencs (as : List (Nat × Bool)) (n m : Nat) : ∀ v ∈ cellsOf (as.map lenc), Bdd n m v := by
  induction as with
  | nil => simp [cellsOf]
  | cons a as ih =>
    intro v hv
    have hv : v ∈ lencC a ++ cellsOf (as.map lenc) := hv
    rcases List.mem_append.1 hv with hv | hv
    · simp [lencC] at hv; rcases hv with rfl | rfl | rfl | rfl <;> simp
    · exact ih v hv
theorem listlaw_spec (L : L02 X) (b : List Nat) (many top : Int) (hbl : b.length ≤ maxLen) (hbb : ∀ x ∈ b, x < 256) (ht : top < 2 ^ 63) (hQ : Q (.bool true) h) :
    Ecx X K.probatelaw02_WireList [.sl 1 0 (u8s b), .int .i64 many, .int .i64 top] h Q := by
  refine fn_walk L.list (by simp [A.probatelaw02_WireList]) fun wf => ?_
  simp [A.probatelaw02_WireList, V.cells, V.good]
  refine ecall (awake2_spec L ?_)
  simp
  by_cases c1 : (500 : Int) < b.length
  · simp [c1]; exact fin_wk ((Gr.refl h).new _) (.same _) (by simp) hQ
  by_cases c2 : many < 0
  · simp [c1, c2]; exact fin_wk ((Gr.refl h).new _) (.same _) (by simp) hQ
  by_cases c3 : 100 < many
  · simp [c1, c2, c3]; exact fin_wk ((Gr.refl h).new _) (.same _) (by simp) hQ
  by_cases c4 : top < 0
  · simp [c1, c2, c3, c4]; exact fin_wk ((Gr.refl h).new _) (.same _) (by simp) hQ
  simp [c1, c2, c3, c4]
  obtain ⟨many, rfl⟩ : ∃ c : Nat, many = c := ⟨many.toNat, by omega⟩
  obtain ⟨top, rfl⟩ : ∃ c : Nat, top = c := ⟨top.toNat, by omega⟩
  refine ecall (wnew L.r (fun _ => rfl) (by omega) (by omega) ?_)
  simp
  refine ecall (wnew L.r (fun _ => rfl) (by omega) (by omega) ?_)
  simp
  have rd0 : Rd b 0 := ⟨hbl, hbb, fun e => absurd rfl e⟩
  generalize hb0 : h.nobj = n0
  have x0 : (((h.new [.int .i64 top]).new (robj b 0)).new (robj b 0)).objs n0 = [.int .i64 top] := by subst hb0; simp
  have x1 : (((h.new [.int .i64 top]).new (robj b 0)).new (robj b 0)).objs (n0 + 1) = robj b 0 := by subst hb0; simp
  have x2 : (((h.new [.int .i64 top]).new (robj b 0)).new (robj b 0)).objs (n0 + 2) = robj b 0 := by subst hb0; simp
  have xn : (((h.new [.int .i64 top]).new (robj b 0)).new (robj b 0)).nobj = n0 + 3 := by subst hb0; simp
  have xg : Gr h (((h.new [.int .i64 top]).new (robj b 0)).new (robj b 0)) := (((Gr.refl h).new _).new _).new _
  generalize ((h.new [.int .i64 top]).new (robj b 0)).new (robj b 0) = h3 at *
  refine ecall ?_
  have hLT := L.listT
  rw [list_thing_is] at hLT
  refine wlist (ok := fun _ => True) (enc := lenc) (step := lstep top) hLT L.r (fun l e r => ⟨lstep_rd top r, trivial⟩) (fun a _ => ⟨rfl, rfl, rfl, fun n m v hv => cellsOf_lencs [a] n m v (by simpa [cellsOf] using hv)⟩) rd0 (by omega) (by omega) x1 ?_ ?_
  · intro h' l' e' Q' rd g hQ'
    refine list1_spec L rd (by omega) ?_ ?_ hQ'
    · rw [g.objs _ (by simp; omega), set_objs_same]
    · rw [g.objs _ (by simp; omega), set_objs_ne _ _ _ (by omega)]; exact x0
  have rs : (rread (lstep top) many b 0).2 = (wl (lstep top) (rnum b 0 many).1 (rnum b 0 many).2.1 (rnum b 0 many).2.2).2 := by
    rw [wl_state (lstep_err top)]; rfl
  have rll := lread_len top many b 0
  have rrd : Rd (rread (lstep top) many b 0).2.1 (rread (lstep top) many b 0).2.2 := by
    have : ∀ (n : Nat) (l : List Nat) (e : Int), Rd l e → Rd (wl (lstep top) n l e).2.1 (wl (lstep top) n l e).2.2 := by
      intro n
      induction n with
      | zero => intro l e r; exact r
      | succ n ih => intro l e r; exact ih _ _ (lstep_rd top r)
    rw [rs]; exact this _ _ _ (rnum_rd rd0 many)
  have rn := rnum_rd rd0 many
  have rnl := rnum_le (l := b) (e := 0) many
  have rle : (rread (lstep top) many b 0).2.2 ≠ 0 → (rread (lstep top) many b 0).1 = [] := fun he => by unfold rread at he ⊢; simp only at he ⊢; rw [if_pos he]
  generalize rread (lstep top) many b 0 = R at *
  simp
  refine ecall (wnum L.r many rd0 (by omega) (by simp [x2]) ?_)
  simp
  generalize rnum b 0 many = N at *
  have y0 : ((h3.set (n0 + 1) (robj R.2.1 R.2.2)).set (n0 + 2) (robj N.2.1 N.2.2)).objs n0 = [.int .i64 top] := by simp [x0]
  have y1 : ((h3.set (n0 + 1) (robj R.2.1 R.2.2)).set (n0 + 2) (robj N.2.1 N.2.2)).objs (n0 + 1) = robj R.2.1 R.2.2 := by simp
  have y2 : ((h3.set (n0 + 1) (robj R.2.1 R.2.2)).set (n0 + 2) (robj N.2.1 N.2.2)).objs (n0 + 2) = robj N.2.1 N.2.2 := by simp
  have yn : ((h3.set (n0 + 1) (robj R.2.1 R.2.2)).set (n0 + 2) (robj N.2.1 N.2.2)).nobj = n0 + 3 := by simp [xn]
  have yg : Gr h ((h3.set (n0 + 1) (robj R.2.1 R.2.2)).set (n0 + 2) (robj N.2.1 N.2.2)) := (xg.set (by omega) _).set (by omega) _
  generalize (h3.set (n0 + 1) (robj R.2.1 R.2.2)).set (n0 + 2) (robj N.2.1 N.2.2) = h4 at *
  refine loopZ (n := N.1) (fun m env h' => ∃ ws lw ew e1 st, ws.length + m = N.1 ∧ env = [(5, .ptr n0 0), (7, .ptr (n0 + 1) 0), (8, .ptr (n0 + 2) 0), (9, .sl 4 0 (R.1.map lenc)), (10, .int .i64 N.1), (11, .sl e1 st (ws.map lenc)), (43, .int .i64 N.1), (44, .int .i64 ws.length)] ∧
      Own h h' 4 e1 st (ws.map lenc) ∧ h'.objs n0 = [.int .i64 top] ∧ h'.objs (n0 + 1) = robj R.2.1 R.2.2 ∧ h'.objs (n0 + 2) = robj lw ew ∧ n0 + 3 ≤ h'.nobj ∧ Rd lw ew ∧
      ws ++ (wl (lstep top) m lw ew).1 = (wl (lstep top) N.1 N.2.1 N.2.2).1 ∧ (wl (lstep top) m lw ew).2 = R.2) ?_
    ⟨[], N.2.1, N.2.2, 0, 1, by simp, rfl, ⟨yg, .inl rfl, .inl rfl⟩, y0, y1, y2, by omega, rn, rfl, rs.symm⟩
  rintro m env h' ⟨ws, lw, ew, e1, st, hm, rfl, ow, z0, z1, z2, zn, zr, zw, zs⟩
  unfold A.probatelaw02_WireList.L0
  cases m with
  | succ m =>
    have hlt : ((ws.length : Nat) : Int) < N.1 := by omega
    have q1 : ¬ h'.nobj = n0 + 2 := by omega
    have q2 : ¬ n0 + 2 = h'.nobj := by omega
    have zr2 := rnum_rd zr top
    have w1 : (wl (lstep top) (m + 1) lw ew) = ((lstep top lw ew).1 :: (wl (lstep top) m (lstep top lw ew).2.1 (lstep top lw ew).2.2).1, (wl (lstep top) m (lstep top lw ew).2.1 (lstep top lw ew).2.2).2) := rfl
    rw [w1] at zw zs
    simp only at zw zs
    simp [hlt, z0]
    refine ecall (wnum L.r top zr (by omega) z2 ?_)
    simp [fillV, V.cells, V.good, setAt, q1, q2]
    refine ecall (wbool L.r zr2 (by simp [q1, q2]) ?_)
    simp [q1, q2]
    have fin1 : ∀ (z : List V) (K : V → AH → Prop) (zK : Lz K), z = lencC (lstep top lw ew).1 →
       (∀ e2 st2 h2, Own h h2 4 e2 st2 ((ws ++ [(lstep top lw ew).1]).map lenc) → h2.objs n0 = [.int .i64 top] → h2.objs (n0 + 1) = robj R.2.1 R.2.2 → h2.objs (n0 + 2) = robj (lstep top lw ew).2.1 (lstep top lw ew).2.2 → n0 + 3 ≤ h2.nobj → K (.sl e2 st2 ((ws ++ [(lstep top lw ew).1]).map lenc)) h2) →
       App ((h'.set (n0 + 2) (robj (lstep top lw ew).2.1 (lstep top lw ew).2.2)).new z) 4 48 e1 st (ws.map lenc) 4 [.agg z] zK := by
      intro z K zK hz hk
      subst hz
      refine ((ow.set (by omega) _).new _).appZ (fun _ => rfl) (by simp; omega) fun e2 st2 h2 o2 ob2 no2 => ?_
      have em : ws.map lenc ++ [V.agg (lencC (lstep top lw ew).1)] = (ws ++ [(lstep top lw ew).1]).map lenc := by simp [lenc]
      rw [em] at o2 ⊢
      refine hk e2 st2 h2 o2 ?_ ?_ ?_ ?_
      · rw [ob2, new_objs_ne _ _ (by simp; omega), set_objs_ne _ _ _ (by omega)]; exact z0
      · rw [ob2, new_objs_ne _ _ (by simp; omega), set_objs_ne _ _ _ (by omega)]; exact z1
      · rw [ob2, new_objs_ne _ _ (by simp; omega), set_objs_same]
      · rw [no2]; simp; omega
    have fin2 : ∀ e2 st2 h2, Own h h2 4 e2 st2 ((ws ++ [(lstep top lw ew).1]).map lenc) → h2.objs n0 = [.int .i64 top] → h2.objs (n0 + 1) = robj R.2.1 R.2.2 → h2.objs (n0 + 2) = robj (lstep top lw ew).2.1 (lstep top lw ew).2.2 → n0 + 3 ≤ h2.nobj →
      ∃ m', m' < m + 1 ∧ ∃ ws' lw' ew' e1' st', ws'.length + m' = N.1 ∧ [(5, V.ptr n0 0), (7, .ptr (n0 + 1) 0), (8, .ptr (n0 + 2) 0), (9, .sl 4 0 (R.1.map lenc)), (10, .int .i64 N.1), (11, .sl e2 st2 ((ws ++ [(lstep top lw ew).1]).map lenc)), (43, .int .i64 N.1), (44, .int .i64 (IntKind.i64.wrap ((ws.length : Int) + 1)))] = [(5, V.ptr n0 0), (7, .ptr (n0 + 1) 0), (8, .ptr (n0 + 2) 0), (9, .sl 4 0 (R.1.map lenc)), (10, .int .i64 N.1), (11, .sl e1' st' (ws'.map lenc)), (43, .int .i64 N.1), (44, .int .i64 ws'.length)] ∧
      Own h h2 4 e1' st' (ws'.map lenc) ∧ h2.objs n0 = [.int .i64 top] ∧ h2.objs (n0 + 1) = robj R.2.1 R.2.2 ∧ h2.objs (n0 + 2) = robj lw' ew' ∧ n0 + 3 ≤ h2.nobj ∧ Rd lw' ew' ∧
      ws' ++ (wl (lstep top) m' lw' ew').1 = (wl (lstep top) N.1 N.2.1 N.2.2).1 ∧ (wl (lstep top) m' lw' ew').2 = R.2 := by
      intro e2 st2 h2 o2 a0 a1 a2 a3
      refine ⟨m, by omega, ws ++ [(lstep top lw ew).1], (lstep top lw ew).2.1, (lstep top lw ew).2.2, e2, st2, by simp; omega, ?_, o2, a0, a1, a2, a3, lstep_rd top zr, by rw [List.append_assoc]; exact zw, zs⟩
      rw [wrap_i64 (by omega) (by omega)]
      simp
    refine gdD_mk (fun hb1 => ?_) (fun hb1 => ?_)
    · simp [q1, q2, fillL, V.cells, V.good, V.isAgg]
      refine fin1 _ _ _ (by simp [lstep, hb1, lencC]) fun e2 st2 h2 a b c d f => ?_
      simp
      simpa using fin2 e2 st2 h2 a b c d f
    · simp [q1, q2, fillL, V.cells, V.good, V.isAgg]
      refine fin1 _ _ _ (by simp [lstep, hb1, lencC]) fun e2 st2 h2 a b c d f => ?_
      simp
      simpa using fin2 e2 st2 h2 a b c d f
  | zero =>
    have hlt : ((ws.length : Nat) : Int) = N.1 := by omega
    have w1 : (wl (lstep top) 0 lw ew) = ([], lw, ew) := rfl
    rw [w1] at zw zs
    simp only [List.append_nil] at zw zs
    rw [← zs] at rrd z1 rll rle rs
    simp only at rll rle rs rrd
    simp [hlt]
    refine ecall (wend L.r z2 ?_)
    simp
    refine ecall (wend L.r z1 ?_)
    simp
    refine ecall (wleft L.r z1 ?_)
    simp
    refine ecall (wleft L.r z2 ?_)
    simp
    by_cases he : ew = 0
    · subst he
      obtain ⟨r1, r2⟩ := rll rfl
      rw [← zw] at r1
      have hfin : ∀ {Q' : Ex → Env → AH → Prop} {z : Lz (AC.loop A.probatelaw02_WireList.L1)} {zQ : Lz Q'}, Q' (.exit 2) [(9, .sl 4 0 (R.1.map lenc)), (11, .sl e1 st (ws.map lenc)), (86, .int .i64 R.1.length), (87, .int .i64 R.1.length), (88, .bool false)] h' →
          acZ (Ecx X) [(9, .sl 4 0 (R.1.map lenc)), (11, .sl e1 st (ws.map lenc)), (86, .int .i64 R.1.length), (87, .int .i64 0)] h' z zQ := by
        intro Q' z zQ hq
        refine loopZ (n := R.1.length) (fun m env h'' => ∃ k, k ≤ R.1.length ∧ m = R.1.length - k ∧ h'' = h' ∧ env = [(9, .sl 4 0 (R.1.map lenc)), (11, .sl e1 st (ws.map lenc)), (86, .int .i64 R.1.length), (87, .int .i64 k)]) ?_ ⟨0, by omega, by omega, rfl, rfl⟩
        rintro m env h'' ⟨k, hk, rfl, rfl, rfl⟩
        unfold A.probatelaw02_WireList.L1
        by_cases hkl : k < R.1.length
        · have hkl' : (k : Int) < R.1.length := by omega
          have g1 := lencs_getD hkl
          have g2 : (ws.map lenc).getD k .undef = .agg (lencC R.1[k]) := by rw [← r1]; exact g1
          have hkw : (k : Int) < ws.length := by rw [← r1]; exact hkl'
          have he1 : e1 = 4 := by rcases ow.el with a | a; (· rw [← r1] at a; simp at a; rw [a] at hkl; simp at hkl); exact a
          subst he1
          simp [hkl', g1, g2, hkw, V.cells, lencC]
          exact ⟨R.1.length - (k + 1), by omega, k + 1, by omega, rfl, by rw [wrap_i64 (by omega) (by omega)]; rfl⟩
        · have hkl' : ¬ (k : Int) < R.1.length := by omega
          have : k = R.1.length := by omega
          subst this
          simp
          exact hq
      have hn : R.1.length = N.1 := r2
      by_cases hl0 : 0 < lw.length
      · simp [rend, hl0, hn, show ¬ lw = [] by intro e; rw [e] at hl0; simp at hl0]
        refine ecall (wleft L.r z2 ?_)
        simp [hl0, hn, show ¬ lw = [] by intro e; rw [e] at hl0; simp at hl0]
        rw [← hn]
        refine hfin ?_
        simp
        exact fin_wk ow.gr (.same _) (by simp) hQ
      · simp [rend, hl0, hn]
        rw [← hn]
        refine hfin ?_
        simp
        exact fin_wk ow.gr (.same _) (by simp) hQ
    · have hl0 := rrd.err he
      subst hl0
      rw [rle he]
      simp [rend, he]
      refine ecall (wleft L.r z2 ?_)
      simp
      exact fin_wk ow.gr (.same _) (by simp) hQ
end
end Go.Proofs.Ytpnbdnmmfaomlaa.Al
