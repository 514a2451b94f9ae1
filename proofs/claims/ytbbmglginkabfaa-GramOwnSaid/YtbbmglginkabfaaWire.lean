/-
  Layer 2, wire: what a reader's calls do, by the abstract layer. Conditions: each theorem's own.
-/
import Derived.Test.YtbbmglginkabfaaVaryLaw
import Derived.Test.YtbbmglginkabfaaAlFwire
import Derived.Test.YtbbmglginkabfaaAlFl02
import Derived.Test.YtbbmglginkabfaaAlFlib
namespace Go.Proofs.Ytbbmglginkabfaa.Al
open Go Go.RowKit
set_option linter.unusedSimpArgs false
set_option linter.unusedVariables false
attribute [-simp] List.getD_eq_getElem?_getD Int.not_lt Int.not_le

/-- What a reader holds. -/
def robj (l : List Nat) (e : Int) : List V := [.sl 1 0 (u8s l), .int .i64 e]
/-- A number is read: its value, what is left, what is wrong. -/
def rnum (l : List Nat) (e : Int) (most : Nat) : Nat × List Nat × Int :=
  if e ≠ 0 then (0, l, e)
  else if (vtake l).2.2 ≠ 0 then (0, [], (vtake l).2.2)
  else if most < (vtake l).1 then (0, [], 5)
  else ((vtake l).1, l.drop (vtake l).2.1, 0)
def wwrong (l : List Nat) (e f : Int) : List Nat × Int := if e = 0 ∧ f ≠ 0 then ([], f) else (l, e)
theorem Bdd_robj (n m : Nat) (l : List Nat) (e : Int) : ∀ v ∈ robj l e, Bdd n m v := by
  intro v hv
  simp [robj] at hv
  rcases hv with rfl | rfl
  · rw [Bdd_sl0, cellsOf_u8s]; exact ⟨by simp, Bdd_u8s _ _ _⟩
  · simp

section
variable {X : Cx} {h : AH} {Q : V → AH → Prop}
theorem wwrong_spec (H : Has (Ecx X) K.wire_Reader_Wrong A.wire_Reader_Wrong) (o : Nat) (l : List Nat) (e f : Int) (hc : h.objs o = robj l e)
    (hQ : Q (.tup []) (h.set o (robj (wwrong l e f).1 (wwrong l e f).2))) : Ecx X K.wire_Reader_Wrong [.ptr o 0, .int .i64 f] h Q := by
  refine fn_set H (h.set o (robj (wwrong l e f).1 (wwrong l e f).2)) (fun _ _ => .set _ _ (Bdd_robj _ _ _ _)) (by simp [A.wire_Reader_Wrong]) fun wf hb => ?_
  unfold wwrong at hQ ⊢
  by_cases he : e = 0
  · by_cases hf : f = 0
    · subst he; subst hf
      simp [A.wire_Reader_Wrong, hc, robj] at hQ ⊢
      rw [set_self (by rw [hc]; rfl)] at hQ ⊢
      exact finS (.refl _) (by simp) hQ
    · subst he
      simp [A.wire_Reader_Wrong, hc, robj, hf, setAt, V.cells, V.good] at hQ ⊢
      refine finS ⟨by simp, by simp, fun o' ho' => ?_, by simp⟩ (by simp) hQ
      by_cases eo : o' = o
      · subst eo; simp; exact .cons (.nil _ _ _) (.cons (.same _) .nil)
      · simp [eo]; exact WkL.refl _
  · simp [A.wire_Reader_Wrong, hc, robj, he] at hQ ⊢
    rw [set_self (by rw [hc]; rfl)] at hQ ⊢
    exact finS (.refl _) (by simp) hQ
theorem wnum_spec (H : Has (Ecx X) K.wire_Reader_Num A.wire_Reader_Num) (Ht : Has (Ecx X) K.vary_Take A.vary_Take) (He : Has (Ecx X) K.vary_end A.vary_end) (Hw : Has (Ecx X) K.wire_Reader_Wrong A.wire_Reader_Wrong)
    (o : Nat) (l : List Nat) (e : Int) (most : Nat) (hl : l.length ≤ maxLen) (hb : ∀ x ∈ l, x < 256) (hm : most < 2 ^ 63) (hi : e ≠ 0 → l = []) (hc : h.objs o = robj l e)
    (hQ : Q (.int .i64 (rnum l e most).1) (h.set o (robj (rnum l e most).2.1 (rnum l e most).2.2))) : Ecx X K.wire_Reader_Num [.ptr o 0, .int .i64 most] h Q := by
  refine fn_set H (h.set o (robj (rnum l e most).2.1 (rnum l e most).2.2)) (fun _ _ => .set _ _ (Bdd_robj _ _ _ _)) (by simp [A.wire_Reader_Num]) fun wf hb' => ?_
  have hw : IntKind.u64.wrap (most : Int) = most := wrap_u64_nat (by omega)
  have h1 := vtake_one l hb
  simp [A.wire_Reader_Num, hc, robj]
  refine ecall (take_spec Ht He l 0 hl hb ?_)
  simp [vtakeV]
  by_cases he : e = 0
  · subst he
    generalize hv : vtake l = t at *
    obtain ⟨n, k, f⟩ := t
    simp at h1 hQ ⊢
    rcases h1 with ⟨rfl, h2, h3, h4, h5⟩ | ⟨h2, rfl, rfl⟩
    · by_cases hbig : most < n
      · have hbig' : (most : Int) < n := by omega
        rw [show rnum l 0 most = (0, [], 5) by simp [rnum, hv, hbig]] at hQ ⊢
        simp [hbig', hw] at hQ ⊢
        refine ecall (wwrong_spec Hw o l 0 5 hc ?_)
        simp [wwrong]
        exact finS (.refl _) (by simp) hQ
      · have hbig' : ¬ (most : Int) < n := by omega
        have hk : (k : Int) ≤ l.length := by omega
        have hw2 : IntKind.i64.wrap (n : Int) = n := wrap_i64 (by omega) (by omega)
        rw [show rnum l 0 most = (n, l.drop k, 0) by simp [rnum, hv, hbig]] at hQ ⊢
        simp [hbig', hw, hc, robj, hk, hw2, V.cells, V.good, setAt] at hQ ⊢
        rw [show (u8s l).drop k = u8s (l.drop k) by simp [u8s, List.map_drop]]
        exact finS (.refl _) (by simp) hQ
    · rw [show rnum l 0 most = (0, [], (f : Int)) by simp [rnum, hv, h2]] at hQ ⊢
      simp [h2] at hQ ⊢
      refine ecall (wwrong_spec Hw o l 0 f hc ?_)
      simp [wwrong, h2]
      exact finS (.refl _) (by simp) hQ
  · have := hi he
    subst this
    have hv : vtake [] = (0, 0, 3) := by simp [vtake, ld]
    rw [show rnum [] e most = (0, [], e) by simp [rnum, he]] at hQ ⊢
    simp [hv, he] at hQ ⊢
    refine ecall (wwrong_spec Hw o [] e 3 hc ?_)
    simp [wwrong, he, hc]
    refine finS (.refl _) (by simp) hQ
/-- What a call of a reader of layer 2 uses. -/
structure LR (X : Cx) : Prop where
  take : Has (Ecx X) K.vary_Take A.vary_Take
  en : Has (Ecx X) K.vary_end A.vary_end
  wrong : Has (Ecx X) K.wire_Reader_Wrong A.wire_Reader_Wrong
  num : Has (Ecx X) K.wire_Reader_Num A.wire_Reader_Num
  bool : Has (Ecx X) K.wire_Reader_Bool A.wire_Reader_Bool
  fin : Has (Ecx X) K.wire_Reader_End A.wire_Reader_End
  nums : Has (Ecx X) K.wire_Reader_Nums A.wire_Reader_Nums
  nums1 : Has (Ecx X) K.wire_Reader_Nums_1 A.wire_Reader_Nums_1
  list : Has (Ecx X) K.wire_List_int A.wire_List_int
  new : Has (Ecx X) K.wire_New A.wire_New
  clone : Has (Ecx X) K.slices_Clone_byte A.slices_Clone_byte
/-- A reader that may be. -/
structure Rd (l : List Nat) (e : Int) : Prop where
  len : l.length ≤ maxLen
  byte : ∀ x ∈ l, x < 256
  err : e ≠ 0 → l = []
theorem rnum_rd {l : List Nat} {e : Int} (r : Rd l e) (most : Nat) : Rd (rnum l e most).2.1 (rnum l e most).2.2 := by
  unfold rnum
  split
  · exact r
  · split
    · exact ⟨by simp, by simp, fun _ => rfl⟩
    · split
      · exact ⟨by simp, by simp, fun _ => rfl⟩
      · exact ⟨by simp; have := r.len; omega, fun x hx => r.byte x (List.mem_of_mem_drop hx), fun h => absurd rfl h⟩
theorem rnum_le {l : List Nat} {e : Int} (most : Nat) : (rnum l e most).1 ≤ most := by
  unfold rnum
  split
  · simp
  · split
    · simp
    · split
      · simp
      · simp; omega
theorem wnum (L : LR X) {o : Nat} {l : List Nat} {e : Int} (most : Nat) (r : Rd l e) (hm : most < 2 ^ 63) (hc : h.objs o = robj l e)
    (hQ : Q (.int .i64 (rnum l e most).1) (h.set o (robj (rnum l e most).2.1 (rnum l e most).2.2))) : Ecx X K.wire_Reader_Num [.ptr o 0, .int .i64 most] h Q :=
  wnum_spec L.num L.take L.en L.wrong o l e most r.len r.byte hm r.err hc hQ
theorem wbool (L : LR X) {o : Nat} {l : List Nat} {e : Int} (r : Rd l e) (hc : h.objs o = robj l e)
    (hQ : Q (.bool (decide ((rnum l e 1).1 = 1))) (h.set o (robj (rnum l e 1).2.1 (rnum l e 1).2.2))) : Ecx X K.wire_Reader_Bool [.ptr o 0] h Q := by
  refine fn_set L.bool (h.set o (robj (rnum l e 1).2.1 (rnum l e 1).2.2)) (fun _ _ => .set _ _ (Bdd_robj _ _ _ _)) (by simp [A.wire_Reader_Bool]) fun wf hb' => ?_
  simp [A.wire_Reader_Bool]
  refine ecall (wnum L 1 r (by omega) hc ?_)
  simp
  have : (decide (((rnum l e 1).1 : Int) = 1)) = decide ((rnum l e 1).1 = 1) := by
    have := rnum_le (l := l) (e := e) 1
    by_cases h1 : (rnum l e 1).1 = 1
    · simp [h1]
    · have : ¬ ((rnum l e 1).1 : Int) = 1 := by omega
      simp [h1, this]
  rw [this]
  exact finS (.refl _) (by simp) hQ
theorem wleft (H : Has (Ecx X) K.wire_Reader_Left A.wire_Reader_Left) {o : Nat} {l : List Nat} {e : Int} (hc : h.objs o = robj l e) (hQ : Q (.int .i64 l.length) h) : Ecx X K.wire_Reader_Left [.ptr o 0] h Q := by
  refine fn_walk H (by simp [A.wire_Reader_Left]) fun wf => ?_
  simp [A.wire_Reader_Left, hc, robj]
  exact fin (by simp) hQ
def rend (l : List Nat) (e : Int) : Int := if e = 0 ∧ 0 < l.length then 4 else e
theorem wend (L : LR X) {o : Nat} {l : List Nat} {e : Int} (hc : h.objs o = robj l e) (hQ : Q (.int .i64 (rend l e)) h) : Ecx X K.wire_Reader_End [.ptr o 0] h Q := by
  refine fn_walk L.fin (by simp [A.wire_Reader_End]) fun wf => ?_
  unfold rend at hQ
  by_cases he : e = 0
  · by_cases hl : l = []
    · subst he; subst hl
      simp [A.wire_Reader_End, hc, robj] at hQ ⊢
      exact fin (by simp) hQ
    · have : 0 < l.length := List.length_pos_iff.2 hl
      subst he
      simp [A.wire_Reader_End, hc, robj, this, hl] at hQ ⊢
      exact fin (by simp) hQ
  · simp [A.wire_Reader_End, hc, robj, he] at hQ ⊢
    exact fin (by simp) hQ
/-- A copy of bytes. -/
theorem clone8 (H : Has (Ecx X) K.slices_Clone_byte A.slices_Clone_byte) {e st : Nat} {l : List Nat} (he : l ≠ [] → e = 1) (hst : st = 1 → l = []) (hl : l.length ≤ 2 ^ 46) (hQ : Q (.sl 1 0 (u8s l)) h) : Ecx X K.slices_Clone_byte [.sl e st (u8s l)] h Q := by
  refine fn_walk H (by simp [A.slices_Clone_byte]) fun wf => ?_
  by_cases h1 : st = 1
  · have := hst h1
    subst this; subst h1
    simp [A.slices_Clone_byte]
    exact fin_wk (.refl _) (.nil _ _ _) (by simp [cellsOf]) hQ
  · have key : ∀ {env : Env} {K : V → AH → Prop} {zK : Lz K} (_ : ∀ e1 st1 h1, Own h h1 1 e1 st1 (u8s l) → K (.sl e1 st1 (u8s l)) h1), App h 1 1 1 2 [] e (u8s l) zK := by
      intro env K zK hk
      refine (Own.full (Gr.refl h) 1 []).appZ (fun hne => he (fun e0 => hne (by rw [e0]; rfl))) (by simp; omega) fun e1' st' h' o' _ _ => ?_
      simp at o' ⊢
      exact hk _ _ _ o'
    by_cases h0 : st = 0
    · subst h0
      simp [A.slices_Clone_byte]
      refine gdD_mk (fun hn => ?_) (fun hn => ?_)
      · have : l = [] := by
          cases l with
          | nil => rfl
          | cons a b => simp [u8s] at hn
        subst this
        refine ⟨?_, ?_⟩
        · simp
          exact fin_wk (.refl _) (.nil _ _ _) (by simp [cellsOf]) hQ
        · simp [fillL]
          refine key (env := []) fun e1 st1 h1 o1 => ?_
          simp
          exact fin_own o1 (by simp [cellsOf]) (by simpa using hQ)
      · simp [fillL]
        refine key (env := []) fun e1 st1 h1 o1 => ?_
        simp
        exact fin_own o1 (by rw [cellsOf_u8s]; exact Bdd_u8s _ _ _) hQ
    · simp [A.slices_Clone_byte, nilZ_st (show 2 ≤ st by omega), fillL]
      refine key (env := []) fun e1 st1 h1 o1 => ?_
      simp
      exact fin_own o1 (by rw [cellsOf_u8s]; exact Bdd_u8s _ _ _) hQ
theorem wnew (L : LR X) {e st : Nat} {l : List Nat} (he : l ≠ [] → e = 1) (hst : st = 1 → l = []) (hl : l.length ≤ 2 ^ 46) (hQ : Q (.ptr h.nobj 0) (h.new (robj l 0))) : Ecx X K.wire_New [.sl e st (u8s l)] h Q := by
  refine fn_any L.new (by simp [A.wire_New]) fun wf => ?_
  simp [A.wire_New]
  refine ecall (clone8 L.clone he hst hl ?_)
  simp [fillV, V.cells, V.good, setAt]
  exact hQ
end
/-! ### Lists -/
/-- Things are read one by one, as long as nothing is wrong. -/
def rlist {α : Type} (step : List Nat → Int → α × List Nat × Int) : Nat → List Nat → Int → List α × List Nat × Int
  | 0, l, e => ([], l, e)
  | n + 1, l, e => if e ≠ 0 then ([], l, e) else ((step l e).1 :: (rlist step n (step l e).2.1 (step l e).2.2).1, (rlist step n (step l e).2.1 (step l e).2.2).2)
/-- A list is read: its things, what is left, what is wrong. -/
def rread {α : Type} (step : List Nat → Int → α × List Nat × Int) (many : Nat) (l : List Nat) (e : Int) : List α × List Nat × Int :=
  let n := rnum l e many
  let r := rlist step n.1 n.2.1 n.2.2
  (if r.2.2 ≠ 0 then [] else r.1, r.2)
/-- The body of List, for things of e cells. -/
def listL (e sz : Nat) (g : Bool) (z : List V) : AC := .post (.seq (.reg [⟨(some 12), none, .bin .lss (.t 11) (.t 10)⟩])
  (.keep [0, 2, 7, 10, 11, 12] (.seq (.cond (.t 12) .skip (.exit 0))
  (.keep [0, 2, 7, 10, 11] (.seq (.block 1 (.seq (.seq (.reg [⟨(some 13), none, .mv (.t 0)⟩, ⟨(some 14), none, .nilchk (.t 13)⟩, ⟨(some 15), none, .fa 1 (.t 14)⟩, ⟨(some 16), none, .load false 1 (.t 15)⟩, ⟨(some 17), none, .bin .neq (.t 16) (.c (.int .i64 (0)))⟩])
  (.keep [0, 2, 7, 10, 11, 17] (.cond (.t 17) (.exit 0) .skip)))
  (.keep [0, 2, 7, 10, 11] (.reg [⟨(some 18), none, .mv (.t 7)⟩, ⟨(some 19), none, .mv (.t 2)⟩, ⟨(some 20), none, .mv (.t 0)⟩, ⟨(some 21), none, .call (.t 19) [(.t 20)]⟩, ⟨(some 22), none, .bsl e g z 1 [(0, (.t 21))]⟩, ⟨(some 23), none, .app e sz (.t 18) (.t 22)⟩, ⟨(some 7), none, .mv (.t 23)⟩]))))
  (.keep [0, 2, 7, 10, 11] (.reg [⟨(some 24), none, .bin .add (.t 11) (.c (.int .i64 (1)))⟩, ⟨(some 11), none, .mv (.t 24)⟩]))))))) [0, 2, 7, 10, 11]
def listF (e sz : Nat) (g : Bool) (z : List V) : AFn := ⟨31, [(6, none)], (.seq (.reg [⟨(some 6), none, .mv (.c (.sl 0 1 []))⟩])
  (.keep [0, 1, 2] (.seq (.reg [⟨(some 7), none, .mv (.c (.sl 0 1 []))⟩])
  (.keep [0, 1, 2, 7] (.seq (.seq (.reg [⟨(some 8), none, .mv (.t 0)⟩, ⟨(some 9), none, .mv (.t 1)⟩, ⟨(some 10), none, .call (.c (.fn K.wire_Reader_Num [] [])) [(.t 8), (.t 9)]⟩, ⟨(some 11), none, .mv (.c (.int .i64 (0)))⟩])
  (.keep [0, 2, 7, 10, 11] (.block 0 (.loop (listL e sz g z)))))
  (.keep [0, 7] (.seq (.seq (.reg [⟨(some 25), none, .mv (.t 0)⟩, ⟨(some 26), none, .nilchk (.t 25)⟩, ⟨(some 27), none, .fa 1 (.t 26)⟩, ⟨(some 28), none, .load false 1 (.t 27)⟩, ⟨(some 29), none, .bin .neq (.t 28) (.c (.int .i64 (0)))⟩])
  (.keep [7, 29] (.cond (.t 29) (.seq (.reg [⟨(some 6), none, .mv (.c (.sl 0 1 []))⟩]) .ret) .skip)))
  (.keep [7] (.seq (.reg [⟨(some 30), none, .mv (.t 7)⟩, ⟨(some 6), none, .mv (.t 30)⟩]) .ret)))))))))⟩
theorem list_int_is : A.wire_List_int = listF 1 8 false [.int .i64 0] := rfl
theorem list_thing_is : A.wire_List_Thing = listF 4 48 true [.int .i64 0, .int .i64 0, .sl 0 1 [], .int .i64 0] := rfl

theorem Gr.set2 {a b : AH} (G : Gr a b) (o : Nat) (z : List V) : Gr (a.set o z) (b.set o z) :=
  ⟨G.next, G.nobj, fun o' ho' => by
    by_cases e : o' = o
    · subst e; simp
    · simp [e]; exact G.objs o' ho', G.tips⟩
theorem Own.set2 {h0 h : AH} {e e1 st : Nat} {l : List V} (w : Own h0 h e e1 st l) (o : Nat) (z : List V) : Own (h0.set o z) (h.set o z) e e1 st l := ⟨w.gr.set2 o z, w.el, w.st⟩

section
variable {X : Cx} {h : AH} {Q : V → AH → Prop}
/-- A list is read, if each thing of it is. -/
theorem wlist {α : Type} {enc : α → V} {ok : α → Prop} {step : List Nat → Int → α × List Nat × Int} {k e sz : Nat} {g : Bool} {z : List V} (Hf : Has (Ecx X) k (listF e sz g z)) (L : LR X)
    (hst : ∀ l e, Rd l e → Rd (step l e).2.1 (step l e).2.2 ∧ ok (step l e).1) (henc : ∀ a, ok a → (enc a).cells.length = e ∧ (enc a).good = true ∧ (enc a).isAgg = g ∧ ∀ n m, ∀ v ∈ (enc a).cells, Bdd n m v)
    {o : Nat} {l : List Nat} {er : Int} {many kf : Nat} {first cap : List V} (r : Rd l er) (hm : many * sz ≤ 2 ^ 46) (hm2 : many < 2 ^ 46) (hc : h.objs o = robj l er)
    (hone : ∀ (h' : AH) (l : List Nat) (e : Int) (Q : V → AH → Prop), Rd l e → Gr (h.set o (robj l e)) h' → Q (enc (step l e).1) (h'.set o (robj (step l e).2.1 (step l e).2.2)) → Ecx X kf (first ++ .ptr o 0 :: cap) h' Q)
    (hQ : Q (.sl e 0 ((rread step many l er).1.map enc)) (h.set o (robj (rread step many l er).2.1 (rread step many l er).2.2))) :
    Ecx X k [.ptr o 0, .int .i64 many, .fn kf first cap] h Q := by
  have hcells : ∀ (as : List α) (n m : Nat), (∀ a ∈ as, ok a) → ∀ v ∈ cellsOf (as.map enc), Bdd n m v := fun as n m ha => by
    induction as with
    | nil => simp [cellsOf]
    | cons a as ih =>
      intro v hv
      have hv : v ∈ (enc a).cells ++ cellsOf (as.map enc) := hv
      rcases List.mem_append.1 hv with hv | hv
      · exact (henc a (ha a (by simp))).2.2.2 n m v hv
      · exact ih (fun b hb => ha b (by simp [hb])) v hv
  have hrd : ∀ (n : Nat) (l : List Nat) (e : Int), Rd l e → ∀ a ∈ (rlist step n l e).1, ok a := by
    intro n
    induction n with
    | zero => intro l e _ a ha; simp [rlist] at ha
    | succ n ih =>
      intro l e r a ha
      unfold rlist at ha
      split at ha
      · simp at ha
      · rcases List.mem_cons.1 ha with rfl | ha
        · exact (hst l e r).2
        · exact ih _ _ (hst l e r).1 a ha
  refine fn_set Hf (h.set o (robj (rread step many l er).2.1 (rread step many l er).2.2)) (fun _ _ => .set _ _ (Bdd_robj _ _ _ _)) (by simp [listF]) fun wf hb => ?_
  have ho : o < h.nobj := by have := hb (.ptr o 0) (by simp); simpa using this
  have hn1 := rnum_rd r many
  have hn2 := rnum_le (l := l) (e := er) many
  simp [listF]
  refine ecall (wnum L many r (by omega) hc ?_)
  simp
  unfold rread at hQ ⊢
  simp only at hQ ⊢
  generalize rnum l er many = t at *
  obtain ⟨n, l1, e1⟩ := t
  simp only at *
  have hres := hrd n l1 e1 hn1
  generalize hfin : rlist step n l1 e1 = R at *
  refine loopZ (n := n) (fun m env h' => ∃ (as : List α) (l' : List Nat) (e' : Int) (ce st : Nat), env = [(0, .ptr o 0), (2, .fn kf first cap), (7, .sl ce st (as.map enc)), (10, .int .i64 n), (11, .int .i64 (as.length : Nat))] ∧ Rd l' e' ∧
      Own (h.set o (robj l' e')) h' e ce st (as.map enc) ∧ m + as.length = n ∧ (as ++ (rlist step m l' e').1, (rlist step m l' e').2) = R) ?_ ⟨[], l1, e1, 0, 1, rfl, hn1, ⟨Gr.refl _, .inl rfl, .inl rfl⟩, by simp, by rw [← hfin]; rfl⟩
  rintro m env h' ⟨as, l', e', ce, st, rfl, rd, ow, hlen, hR⟩
  have hc' : h'.objs o = robj l' e' := by rw [ow.gr.objs o ho]; simp
  have hR0 : (e' ≠ 0 ∨ m = 0) → R = (as, l', e') := by
    intro e0
    rw [← hR]
    rcases e0 with e0 | e0
    · cases m with
      | zero => simp [rlist]
      | succ m => simp [rlist, e0]
    · subst e0; simp [rlist]
  have stop : R = (as, l', e') → FinS (h.set o (robj (if R.2.2 ≠ 0 then ([] : List α) else R.1, R.2).2.1 (if R.2.2 ≠ 0 then ([] : List α) else R.1, R.2).2.2)) (if e' = 0 then .sl ce st (as.map enc) else .sl 0 1 []) h' (Lz.mk (a := Q)) := by
    intro e0
    subst e0
    simp only at hQ ⊢
    by_cases e00 : e' = 0
    · subst e00
      simp at hQ ⊢
      exact finS_wk ow.gr.grW ow.wk (by rw [Bdd_sl0]; exact ⟨by simp, hcells _ _ _ hres⟩) hQ
    · simp [e00] at hQ ⊢
      exact finS_wk ow.gr.grW (.nil _ _ _) (by simp [cellsOf]) hQ
  by_cases hm0 : m = 0
  · have hlt : ¬ ((as.length : Nat) : Int) < n := by omega
    have := stop (hR0 (.inr hm0))
    unfold listL
    by_cases e00 : e' = 0
    · simp [hlt, hc', robj, e00] at this ⊢
      exact this
    · simp [hlt, hc', robj, e00] at this ⊢
      exact this
  · have hlt : ((as.length : Nat) : Int) < n := by omega
    by_cases e00 : e' = 0
    · obtain ⟨m, rfl⟩ : ∃ m', m = m' + 1 := ⟨m - 1, by omega⟩
      subst e00
      obtain ⟨st1, st2⟩ := hst l' 0 rd
      obtain ⟨en1, en2, en3, en4⟩ := henc _ st2
      unfold listL
      simp [hlt, hc', robj]
      refine ecall (hone h' l' 0 _ rd ow.gr ?_)
      have ow2 := ow.set2 o (robj (step l' 0).2.1 (step l' 0).2.2)
      rw [set_set] at ow2
      simp [fillL, en1, en2, en3, -V.cells, -V.good, -V.isAgg]
      refine ow2.appZ (fun _ => rfl) ?_ fun e1' st' h'' o' _ _ => ?_
      · have : (as.length + 1) * sz ≤ many * sz := Nat.mul_le_mul_right _ (by omega)
        simp; omega
      · simp
        refine ⟨m, by omega, as ++ [(step l' 0).1], (step l' 0).2.1, (step l' 0).2.2, e1', st', ⟨⟨rfl, rfl, by simp⟩, ?_⟩, st1, by simpa [robj] using o', by simp; omega, ?_⟩
        · rw [wrap_i64 (by omega) (by omega)]; simp
        · rw [← hR]; simp [rlist]
    · have := stop (hR0 (.inl e00))
      unfold listL
      simp [hlt, hc', robj, e00] at this ⊢
      exact this
def i64 (n : Nat) : V := .int .i64 n
def i64s (l : List Nat) : List V := l.map i64
theorem cellsOf_i64s (l : List Nat) : cellsOf (i64s l) = i64s l := by
  induction l with
  | nil => rfl
  | cons a as ih => show V.cells (i64 a) ++ cellsOf (i64s as) = _; rw [ih]; rfl
theorem Bdd_i64s (n m : Nat) (l : List Nat) : ∀ v ∈ cellsOf (i64s l), Bdd n m v := by
  intro v hv
  rw [cellsOf_i64s] at hv
  simp [i64s, i64] at hv; obtain ⟨b, _, rfl⟩ := hv; exact .int _ _
@[simp] theorem i64s_length (l : List Nat) : (i64s l).length = l.length := by simp [i64s]
theorem i64s_append (l m : List Nat) : i64s (l ++ m) = i64s l ++ i64s m := by simp [i64s]
theorem i64s_getD {l : List Nat} {i : Nat} (h : i < l.length) : (i64s l).getD i .undef = .int .i64 (l.getD i 0 : Nat) := by
  simp [i64s, List.getD, List.getElem?_eq_getElem h, i64]
theorem GrW.new2 {h : AH} (o : Nat) (z a b : List V) (ho : o < h.nobj) : GrW (h.set o z) (((h.new a).new b).set o z) :=
  ⟨by simp, by simp <;> omega, fun o' ho' => by
    have ho' : o' < h.nobj := ho'
    by_cases e : o' = o
    · subst e; simp; exact WkL.refl _
    · have h1 : ¬ o' = h.nobj := by omega
      have h2 : ¬ o' = (h.new a).nobj := by simp; omega
      rw [set_objs_ne _ _ _ e, set_objs_ne _ _ _ e, new_objs_ne _ _ h2, new_objs_ne _ _ h1]
      exact WkL.refl _, fun s hs => rfl⟩
def rnums (l : List Nat) (e : Int) (many most : Nat) : List Nat × List Nat × Int := rread (fun l e => rnum l e most) many l e
theorem wnums (L : LR X) {o : Nat} {l : List Nat} {e : Int} (many most : Nat) (r : Rd l e) (hm : most < 2 ^ 63) (hmany : many ≤ 2 ^ 43) (hc : h.objs o = robj l e)
    (hQ : Q (.sl 1 0 (i64s (rnums l e many most).1)) (h.set o (robj (rnums l e many most).2.1 (rnums l e many most).2.2))) : Ecx X K.wire_Reader_Nums [.ptr o 0, .int .i64 many, .int .i64 most] h Q := by
  refine fn_set L.nums (h.set o (robj (rnums l e many most).2.1 (rnums l e many most).2.2)) (fun _ _ => .set _ _ (Bdd_robj _ _ _ _)) (by simp [A.wire_Reader_Nums]) fun wf hb => ?_
  have ho : o < h.nobj := by have := hb (.ptr o 0) (by simp); simpa using this
  have hne : ¬ o = h.nobj := by omega
  have hne1 : ¬ o = h.nobj + 1 := by omega
  have hne2 : ¬ h.nobj = h.nobj + 1 := by omega
  have h1 : ((h.new [.int .i64 most]).new [.nilf]).set (h.nobj + 1) [.fn K.wire_Reader_Num [.ptr o 0] []] = (h.new [.int .i64 most]).new [.fn K.wire_Reader_Num [.ptr o 0] []] := new_set (h.new [.int .i64 most]) _ _
  have hx1 : ∀ z, ((h.new [.int .i64 most]).new z).objs (h.nobj + 1) = z := fun z => new_objs_same (h.new [.int .i64 most]) _
  simp [A.wire_Reader_Nums, V.cells, V.good, setAt, hx1, h1]
  refine ecall ?_
  have hcc : ((h.new [.int .i64 most]).new [.fn K.wire_Reader_Num [.ptr o 0] []]).objs o = robj l e := by
    rw [new_objs_ne _ _ (by simp; omega), new_objs_ne _ _ hne]; exact hc
  have ha1 : ((h.new [.int .i64 most]).new [.fn K.wire_Reader_Num [.ptr o 0] []]).objs (h.nobj + 1) = [.fn K.wire_Reader_Num [.ptr o 0] []] := hx1 _
  have ha0 : ((h.new [.int .i64 most]).new [.fn K.wire_Reader_Num [.ptr o 0] []]).objs h.nobj = [.int .i64 most] := by
    rw [new_objs_ne _ _ (by simp), new_objs_same]
  have hnobj : ((h.new [.int .i64 most]).new [.fn K.wire_Reader_Num [.ptr o 0] []]).nobj = h.nobj + 2 := by simp
  have hgr : ∀ z, GrW (h.set o z) (((h.new [.int .i64 most]).new [.fn K.wire_Reader_Num [.ptr o 0] []]).set o z) := fun z => GrW.new2 o z _ _ ho
  generalize (h.new [.int .i64 most]).new [.fn K.wire_Reader_Num [.ptr o 0] []] = h3 at *
  refine wlist (ok := fun _ => True) (enc := i64) (step := fun l e => rnum l e most) (e := 1) (sz := 8) (g := false) (z := [.int .i64 0]) L.list L (fun l e r => ⟨rnum_rd r most, trivial⟩) (fun a _ => ⟨rfl, rfl, rfl, fun n m v hv => by simp [i64, V.cells] at hv; subst hv; simp⟩) (l := l) (er := e) r (by omega) (by omega) hcc ?_ ?_
  · intro h' l' e' Q' rd g hQ'
    have b1 : h'.objs (h.nobj + 1) = [.fn K.wire_Reader_Num [.ptr o 0] []] := by
      rw [g.objs _ (by simp; omega), set_objs_ne _ _ _ (by omega)]; exact ha1
    have b0 : h'.objs h.nobj = [.int .i64 most] := by
      rw [g.objs _ (by simp; omega), set_objs_ne _ _ _ (by omega)]; exact ha0
    have bo : h'.objs o = robj l' e' := by
      rw [g.objs _ (by simp; omega), set_objs_same]
    refine fn_set L.nums1 (h'.set o (robj (rnum l' e' most).2.1 (rnum l' e' most).2.2)) (fun _ _ => .set _ _ (Bdd_robj _ _ _ _)) (by simp [A.wire_Reader_Nums_1]) fun wf hb => ?_
    simp [A.wire_Reader_Nums_1, b1, b0]
    refine ecall (wnum L most rd hm bo ?_)
    simp
    exact finS (.refl _) (by simp) hQ'
  · simp
    refine finS (hgr _) ?_ hQ
    rw [Bdd_sl0]
    refine ⟨by simp, fun v hv => ?_⟩
    exact Bdd_i64s _ _ _ v hv

/-! ### The reference's reader -/
def rnumR (b : List Nat) (e : Int) (most : Nat) : Nat × List Nat × Int :=
  if e ≠ 0 then (0, b, e)
  else if (vtake b).2.2 ≠ 0 then (0, b, (vtake b).2.2)
  else if most < (vtake b).1 then (0, b, 5)
  else ((vtake b).1, b.drop (vtake b).2.1, 0)
/-- The reader of layer 2 that the reference's is. -/
def absR (s : List Nat × Int) : List Nat × Int := (if s.2 = 0 then s.1 else [], s.2)
theorem rnumR_sim (b : List Nat) (e : Int) (most : Nat) : (rnumR b e most).1 = (rnum (absR (b, e)).1 (absR (b, e)).2 most).1 ∧ absR (rnumR b e most).2 = (rnum (absR (b, e)).1 (absR (b, e)).2 most).2 := by
  unfold rnumR rnum absR
  by_cases he : e = 0
  · subst he
    by_cases h1 : (vtake b).2.2 = 0
    · by_cases h2 : most < (vtake b).1
      · simp [h1, h2]
      · simp [h1, h2]
    · simp [h1]
  · simp [he]
theorem rlist_sim (n : Nat) : ∀ (b : List Nat) (e : Int) (most : Nat), (rlist (fun l e => rnumR l e most) n b e).1 = (rlist (fun l e => rnum l e most) n (absR (b, e)).1 (absR (b, e)).2).1 ∧
    absR (rlist (fun l e => rnumR l e most) n b e).2 = (rlist (fun l e => rnum l e most) n (absR (b, e)).1 (absR (b, e)).2).2 := by
  induction n with
  | zero => intro b e most; simp [rlist]
  | succ n ih =>
    intro b e most
    unfold rlist
    by_cases he : e = 0
    · subst he
      obtain ⟨s1, s2⟩ := rnumR_sim b 0 most
      obtain ⟨i1, i2⟩ := ih (rnumR b 0 most).2.1 (rnumR b 0 most).2.2 most
      rw [show ((rnumR b 0 most).2.1, (rnumR b 0 most).2.2) = (rnumR b 0 most).2 from rfl] at i1 i2
      rw [s2] at i1 i2
      have ha : absR (b, 0) = (b, 0) := by simp [absR]
      rw [ha] at s1 i1 i2 ⊢
      simp only [ne_eq, not_true_eq_false, if_false]
      exact ⟨by rw [i1, s1], i2⟩
    · have ha : absR (b, e) = ([], e) := by simp [absR, he]
      rw [ha]
      simp [he, ha]
def rnumsR (b : List Nat) (e : Int) (many most : Nat) : List Nat × List Nat × Int :=
  let n := rnumR b e many
  let r := rlist (fun l e => rnumR l e most) n.1 n.2.1 n.2.2
  (if r.2.2 ≠ 0 then [] else r.1, r.2)
theorem rnumsR_sim (b : List Nat) (e : Int) (many most : Nat) : (rnumsR b e many most).1 = (rnums (absR (b, e)).1 (absR (b, e)).2 many most).1 ∧ absR (rnumsR b e many most).2 = (rnums (absR (b, e)).1 (absR (b, e)).2 many most).2 := by
  unfold rnumsR rnums rread
  obtain ⟨s1, s2⟩ := rnumR_sim b e many
  obtain ⟨i1, i2⟩ := rlist_sim (rnumR b e many).1 (rnumR b e many).2.1 (rnumR b e many).2.2 most
  rw [show ((rnumR b e many).2.1, (rnumR b e many).2.2) = (rnumR b e many).2 from rfl, s2, s1] at i1 i2
  simp only at i1 i2 ⊢
  rw [s1]
  have i3 : (rlist (fun l e => rnumR l e most) (rnum (absR (b, e)).1 (absR (b, e)).2 many).1 (rnumR b e many).2.1 (rnumR b e many).2.2).2.2 = (rlist (fun l e => rnum l e most) (rnum (absR (b, e)).1 (absR (b, e)).2 many).1 (rnum (absR (b, e)).1 (absR (b, e)).2 many).2.1 (rnum (absR (b, e)).1 (absR (b, e)).2 many).2.2).2.2 := by
    rw [← i2]; rfl
  exact ⟨by rw [i3, i1], i2⟩
structure LQ (X : Cx) : Prop where
  take : Has (Ecx X) K.probateref01_Take A.probateref01_Take
  num : Has (Ecx X) K.probateref02_Reader_Num A.probateref02_Reader_Num
  nums : Has (Ecx X) K.probateref02_Reader_Nums A.probateref02_Reader_Nums
  fin : Has (Ecx X) K.probateref02_Reader_End A.probateref02_Reader_End
  same : Has (Ecx X) K.probateref02_Same A.probateref02_Same
structure RdR (b : List Nat) : Prop where
  len : b.length ≤ maxLen
  byte : ∀ x ∈ b, x < 256
theorem rnumR_rd {b : List Nat} {e : Int} (r : RdR b) (most : Nat) : RdR (rnumR b e most).2.1 := by
  unfold rnumR
  split
  · exact r
  · split
    · exact r
    · split
      · exact r
      · exact ⟨by simp; have := r.len; omega, fun x hx => r.byte x (List.mem_of_mem_drop hx)⟩
theorem rnumR_le {l : List Nat} {e : Int} (most : Nat) : (rnumR l e most).1 ≤ most := by
  rw [(rnumR_sim l e most).1]; exact rnum_le most
theorem qnum (L : LQ X) {o : Nat} {b : List Nat} {e : Int} (most : Nat) (r : RdR b) (hm : most < 2 ^ 63) (hc : h.objs o = robj b e)
    (hQ : Q (.int .i64 (rnumR b e most).1) (h.set o (robj (rnumR b e most).2.1 (rnumR b e most).2.2))) : Ecx X K.probateref02_Reader_Num [.ptr o 0, .int .i64 most] h Q := by
  refine fn_set L.num (h.set o (robj (rnumR b e most).2.1 (rnumR b e most).2.2)) (fun _ _ => .set _ _ (Bdd_robj _ _ _ _)) (by simp [A.probateref02_Reader_Num]) fun wf hb' => ?_
  have hw : IntKind.u64.wrap (most : Int) = most := wrap_u64_nat (by omega)
  have h1 := vtake_one b r.byte
  by_cases he : e = 0
  · subst he
    simp [A.probateref02_Reader_Num, hc, robj]
    refine ecall (rtake_spec L.take b 0 r.len r.byte ?_)
    simp [vtakeV]
    generalize hv : vtake b = t at *
    obtain ⟨n, k, f⟩ := t
    simp at h1 ⊢
    rcases h1 with ⟨rfl, h2, h3, h4, h5⟩ | ⟨h2, rfl, rfl⟩
    · by_cases hbig : most < n
      · have hbig' : (most : Int) < n := by omega
        rw [show rnumR b 0 most = (0, b, 5) by simp [rnumR, hv, hbig]] at hQ ⊢
        simp [hbig', hw, hc, robj, setAt, V.cells, V.good] at hQ ⊢
        exact finS (.refl _) (by simp) hQ
      · have hbig' : ¬ (most : Int) < n := by omega
        have hk : (k : Int) ≤ b.length := by omega
        have hw2 : IntKind.i64.wrap (n : Int) = n := wrap_i64 (by omega) (by omega)
        rw [show rnumR b 0 most = (n, b.drop k, 0) by simp [rnumR, hv, hbig]] at hQ ⊢
        simp [hbig', hw, hc, robj, hk, hw2, V.cells, V.good, setAt] at hQ ⊢
        rw [show (u8s b).drop k = u8s (b.drop k) by simp [u8s, List.map_drop]]
        exact finS (.refl _) (by simp) hQ
    · rw [show rnumR b 0 most = (0, b, (f : Int)) by simp [rnumR, hv, h2]] at hQ ⊢
      simp [h2, hc, robj, setAt, V.cells, V.good] at hQ ⊢
      exact finS (.refl _) (by simp) hQ
  · rw [show rnumR b e most = (0, b, e) by simp [rnumR, he]] at hQ ⊢
    simp [A.probateref02_Reader_Num, hc, robj, he] at hQ ⊢
    rw [set_self (by rw [hc]; rfl)] at hQ ⊢
    exact finS (.refl _) (by simp) hQ
theorem qwrong (H : Has (Ecx X) K.probateref02_Reader_Wrong A.probateref02_Reader_Wrong) {o : Nat} {b : List Nat} {e : Int} (f : Int) (hc : h.objs o = robj b e) (hQ : Q (.tup []) (h.set o (robj b (if e = 0 then f else e)))) : Ecx X K.probateref02_Reader_Wrong [.ptr o 0, .int .i64 f] h Q := by
  refine fn_set H (h.set o (robj b (if e = 0 then f else e))) (fun _ _ => .set _ _ (Bdd_robj _ _ _ _)) (by simp [A.probateref02_Reader_Wrong]) fun wf hb' => ?_
  by_cases he : e = 0
  · subst he
    rw [if_pos rfl] at hQ ⊢
    simp [A.probateref02_Reader_Wrong, hc, robj, setAt, V.cells, V.good] at hQ ⊢
    exact finS (.refl _) (by simp) hQ
  · rw [if_neg he] at hQ ⊢
    simp [A.probateref02_Reader_Wrong, hc, robj, he] at hQ ⊢
    rw [set_self (by rw [hc]; rfl)] at hQ ⊢
    exact finS (.refl _) (by simp) hQ
theorem qleft (H : Has (Ecx X) K.probateref02_Reader_Left A.probateref02_Reader_Left) {o : Nat} {b : List Nat} {e : Int} (hc : h.objs o = robj b e) (hQ : Q (.int .i64 (absR (b, e)).1.length) h) : Ecx X K.probateref02_Reader_Left [.ptr o 0] h Q := by
  refine fn_walk H (by simp [A.probateref02_Reader_Left]) fun wf => ?_
  by_cases he : e = 0
  · simp [A.probateref02_Reader_Left, hc, robj, absR, he] at hQ ⊢
    exact fin (by simp) hQ
  · simp [A.probateref02_Reader_Left, hc, robj, absR, he] at hQ ⊢
    exact fin (by simp) hQ
theorem qend (L : LQ X) {o : Nat} {b : List Nat} {e : Int} (hc : h.objs o = robj b e) (hQ : Q (.int .i64 (rend (absR (b, e)).1 (absR (b, e)).2)) h) : Ecx X K.probateref02_Reader_End [.ptr o 0] h Q := by
  refine fn_walk L.fin (by simp [A.probateref02_Reader_End]) fun wf => ?_
  unfold rend absR at hQ
  by_cases he : e = 0
  · by_cases hl : b = []
    · subst he; subst hl
      simp [A.probateref02_Reader_End, hc, robj] at hQ ⊢
      exact fin (by simp) hQ
    · have : 0 < b.length := List.length_pos_iff.2 hl
      subst he
      simp [A.probateref02_Reader_End, hc, robj, this, hl] at hQ ⊢
      exact fin (by simp) hQ
  · simp [A.probateref02_Reader_End, hc, robj, he] at hQ ⊢
    exact fin (by simp) hQ
theorem qnums (L : LQ X) {o : Nat} {b : List Nat} {e : Int} (many most : Nat) (r : RdR b) (hm : most < 2 ^ 63) (hmany : many ≤ 2 ^ 43) (hc : h.objs o = robj b e)
    (hQ : Q (.sl 1 0 (i64s (rnumsR b e many most).1)) (h.set o (robj (rnumsR b e many most).2.1 (rnumsR b e many most).2.2))) : Ecx X K.probateref02_Reader_Nums [.ptr o 0, .int .i64 many, .int .i64 most] h Q := by
  refine fn_set L.nums (h.set o (robj (rnumsR b e many most).2.1 (rnumsR b e many most).2.2)) (fun _ _ => .set _ _ (Bdd_robj _ _ _ _)) (by simp [A.probateref02_Reader_Nums]) fun wf hb => ?_
  have ho : o < h.nobj := by have := hb (.ptr o 0) (by simp); simpa using this
  have hn1 := rnumR_rd (e := e) r many
  have hn2 := rnumR_le (l := b) (e := e) many
  simp [A.probateref02_Reader_Nums, fillL]
  refine ecall (qnum L many r (by omega) hc ?_)
  simp
  unfold rnumsR at hQ ⊢
  simp only at hQ ⊢
  generalize rnumR b e many = t at *
  obtain ⟨n, l1, e1⟩ := t
  simp only at *
  generalize hfin : rlist (fun l e => rnumR l e most) n l1 e1 = R at *
  refine loopZ (n := n) (fun m env h' => ∃ (as : List Nat) (l' : List Nat) (e' : Int) (ce st : Nat), env = [(0, .ptr o 0), (2, .int .i64 most), (7, .sl ce st (i64s as)), (8, .int .i64 n), (9, .int .i64 (as.length : Nat))] ∧ RdR l' ∧
      Own (h.set o (robj l' e')) h' 1 ce st (i64s as) ∧ m + as.length = n ∧ (as ++ (rlist (fun l e => rnumR l e most) m l' e').1, (rlist (fun l e => rnumR l e most) m l' e').2) = R) ?_ ⟨[], l1, e1, 1, 2, rfl, hn1, Own.full (Gr.refl _) 1 [], by simp, by rw [← hfin]; rfl⟩
  rintro m env h' ⟨as, l', e', ce, st, rfl, rd, ow, hlen, hR⟩
  have hc' : h'.objs o = robj l' e' := by rw [ow.gr.objs o ho]; simp
  have hR0 : (e' ≠ 0 ∨ m = 0) → R = (as, l', e') := by
    intro e0
    rw [← hR]
    rcases e0 with e0 | e0
    · cases m with
      | zero => simp [rlist]
      | succ m => simp [rlist, e0]
    · subst e0; simp [rlist]
  have stop : R = (as, l', e') → FinS (h.set o (robj (if R.2.2 ≠ 0 then ([] : List Nat) else R.1, R.2).2.1 (if R.2.2 ≠ 0 then ([] : List Nat) else R.1, R.2).2.2)) (if e' = 0 then .sl ce st (i64s as) else .sl 0 1 []) h' (Lz.mk (a := Q)) := by
    intro e0
    subst e0
    simp only at hQ ⊢
    by_cases e00 : e' = 0
    · subst e00
      simp at hQ ⊢
      exact finS_wk ow.gr.grW ow.wk (by rw [Bdd_sl0]; exact ⟨by simp, Bdd_i64s _ _ _⟩) hQ
    · simp [e00] at hQ ⊢
      exact finS_wk ow.gr.grW (.nil _ _ _) (by simp [cellsOf]) hQ
  unfold A.probateref02_Reader_Nums.L0
  by_cases hm0 : m = 0
  · have hlt : ¬ ((as.length : Nat) : Int) < n := by omega
    have := stop (hR0 (.inr hm0))
    by_cases e00 : e' = 0
    · simp [hlt, hc', robj, e00] at this ⊢
      exact this
    · simp [hlt, hc', robj, e00] at this ⊢
      exact this
  · have hlt : ((as.length : Nat) : Int) < n := by omega
    by_cases e00 : e' = 0
    · obtain ⟨m, rfl⟩ : ∃ m', m = m' + 1 := ⟨m - 1, by omega⟩
      subst e00
      simp [hlt, hc', robj]
      refine ecall (qnum L most rd hm hc' ?_)
      have ow2 := ow.set2 o (robj (rnumR l' 0 most).2.1 (rnumR l' 0 most).2.2)
      rw [set_set] at ow2
      simp [fillL, V.cells, V.good, V.isAgg]
      refine ow2.appZ (fun _ => rfl) (by simp; omega) fun e1' st' h'' o' _ _ => ?_
      rw [show [V.int .i64 ((rnumR l' 0 most).1 : Nat)] = i64s [(rnumR l' 0 most).1] from rfl, ← i64s_append] at o' ⊢
      simp
      refine ⟨m, by omega, as ++ [(rnumR l' 0 most).1], (rnumR l' 0 most).2.1, (rnumR l' 0 most).2.2, e1', st', ⟨⟨rfl, rfl, rfl⟩, ?_⟩, rnumR_rd rd most, by simpa [robj] using o', by simp; omega, ?_⟩
      · rw [wrap_i64 (by omega) (by omega)]; simp
      · rw [← hR]; simp [rlist]
    · have := stop (hR0 (.inl e00))
      simp [hlt, hc', robj, e00] at this ⊢
      exact this
theorem same2_spec (H : Has (Ecx X) K.probateref02_Same A.probateref02_Same) (a b : List Nat) (s t : Nat) (ha : a.length ≤ maxLen) (hQ : Q (.bool (decide (a = b))) h) :
    Ecx X K.probateref02_Same [.sl 1 s (i64s a), .sl 1 t (i64s b)] h Q := by
  refine fn_walk H (by simp [A.probateref02_Same]) fun wf => ?_
  unfold maxLen at ha
  by_cases hl : a.length = b.length
  · have hl' : (a.length : Int) = b.length := by omega
    simp [A.probateref02_Same, hl']
    refine loopZ (n := a.length) (fun m env h' => ∃ k, k ≤ a.length ∧ m = a.length - k ∧ h' = h ∧ env = [(0, .sl 1 s (i64s a)), (1, .sl 1 t (i64s b)), (5, .int .i64 k)] ∧ a.take k = b.take k) ?_ ⟨0, by omega, by omega, rfl, rfl, rfl⟩
    rintro m env h' ⟨k, hk, rfl, rfl, rfl, he⟩
    by_cases hlt : k < a.length
    · have hlt' : (k : Int) < b.length := by omega
      have hga := i64s_getD hlt
      have hgb := i64s_getD (show k < b.length by omega)
      by_cases e : a.getD k 0 = b.getD k 0
      · have e' : ((a.getD k 0 : Nat) : Int) = (b.getD k 0 : Nat) := by omega
        simp [A.probateref02_Same.L0, hl', hlt', hga, hgb, e']
        rw [wrap_i64 (by omega) (by omega)]
        exact ⟨a.length - (k + 1), by omega, k + 1, by omega, rfl, by simp, take_ext hlt (by omega) he e⟩
      · have e' : ¬ ((a.getD k 0 : Nat) : Int) = (b.getD k 0 : Nat) := by omega
        simp [A.probateref02_Same.L0, hl', hlt', hga, hgb, e']
        refine fin (by simp) ?_
        have : decide (a = b) = false := by simp; intro h; rw [h] at e; exact e rfl
        rw [this] at hQ; exact hQ
    · have hlt' : ¬ (k : Int) < b.length := by omega
      simp [A.probateref02_Same.L0, hl', hlt']
      refine fin (by simp) ?_
      have hk : k = a.length := by omega
      rw [hk, List.take_length, hl, List.take_length] at he
      simpa [he] using hQ
  · have hl' : ¬ (a.length : Int) = b.length := by omega
    simp [A.probateref02_Same, hl']
    refine fin (by simp) ?_
    have : decide (a = b) = false := by simp; intro h; exact hl (by rw [h])
    rw [this] at hQ; exact hQ
end
end Go.Proofs.Ytbbmglginkabfaa.Al
