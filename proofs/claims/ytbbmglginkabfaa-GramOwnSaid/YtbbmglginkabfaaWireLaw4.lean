/-
  Layer 2: what is read of what is written, and the call read, by the abstract layer. Conditions: each theorem's own.
-/
import Derived.Test.YtbbmglginkabfaaWireLaw3
namespace Go.Proofs.Ytbbmglginkabfaa.Al
open Go Go.RowKit
set_option linter.unusedSimpArgs false
set_option linter.unusedVariables false
attribute [-simp] List.getD_eq_getElem?_getD Int.not_lt Int.not_le

theorem vtake_pre {n k : Nat} (hn : n < 2 ^ 64) (hk : k < (vput n).length) : vtake ((vput n).take k) = (0, 0, 3) := by
  have h1 := ld_vput n []
  rw [List.append_nil] at h1
  have h2 := vput_len64 hn
  have h3 := ld_take (vput n) k (by omega)
  unfold vtake
  rw [if_neg (by omega), if_pos (by rw [h3]; simp; omega)]
theorem rnum_cut {n most c : Nat} (hn : n < 2 ^ 63) (hm : n ≤ most) (r : List Nat) : rnum ((vput n ++ r).take c) 0 most = if c < (vput n).length then (0, [], 3) else (n, r.take (c - (vput n).length), 0) := by
  by_cases hc : c < (vput n).length
  · rw [if_pos hc, List.take_append_of_le_length (by omega)]
    simp [rnum, vtake_pre (show n < 2 ^ 64 by omega) hc]
  · rw [if_neg hc, List.take_append, List.take_of_length_le (by omega)]
    simp [rnum, vtake_vput (show n < 2 ^ 64 by omega), Nat.not_lt.2 hm]
theorem rlist_succ0 {α : Type} (step : List Nat → Int → α × List Nat × Int) (n : Nat) (l : List Nat) : rlist step (n + 1) l 0 = ((step l 0).1 :: (rlist step n (step l 0).2.1 (step l 0).2.2).1, (rlist step n (step l 0).2.1 (step l 0).2.2).2) := by simp [rlist]
theorem rlist_cut {top : Nat} : ∀ (ns : List Nat) (c : Nat) (r : List Nat), (∀ n ∈ ns, n < 2 ^ 63) → (∀ n ∈ ns, n ≤ top) →
    if c < (vputs ns).length then (rlist (fun l e => rnum l e top) ns.length ((vputs ns ++ r).take c) 0).2 = ([], 3) else rlist (fun l e => rnum l e top) ns.length ((vputs ns ++ r).take c) 0 = (ns, r.take (c - (vputs ns).length), 0)
  | [], c, r, _, _ => by simp [vputs, rlist]
  | a :: ns, c, r, h1, h2 => by
    have e : vputs (a :: ns) = vput a ++ vputs ns := by simp [vputs]
    have ih := rlist_cut ns (c - (vput a).length) r (fun n hn => h1 n (by simp [hn])) (fun n hn => h2 n (by simp [hn]))
    have h3 := rnum_cut (c := c) (h1 a (by simp)) (h2 a (by simp)) (vputs ns ++ r)
    rw [e, List.length_append, List.append_assoc, List.length_cons, rlist_succ0, h3]
    by_cases hc : c < (vput a).length
    · rw [if_pos (by omega)]
      rw [if_pos hc]
      simp only
      cases hns : ns.length with
      | zero => simp [rlist]
      | succ m => simp [rlist]
    · rw [if_neg hc]
      simp only
      by_cases hc2 : c - (vput a).length < (vputs ns).length
      · rw [if_pos hc2] at ih
        rw [if_pos (by omega), ih]
      · rw [if_neg hc2] at ih
        rw [if_neg (by omega), ih]
        simp only [Nat.sub_sub]
theorem rnums_cut {top : Nat} (ns : List Nat) (c : Nat) (r : List Nat) (h0 : ns.length < 2 ^ 63) (h1 : ∀ n ∈ ns, n < 2 ^ 63) (h2 : ∀ n ∈ ns, n ≤ top) :
    if c < (vput ns.length ++ vputs ns).length then (rnums ((vput ns.length ++ vputs ns ++ r).take c) 0 ns.length top).2 = ([], 3) else rnums ((vput ns.length ++ vputs ns ++ r).take c) 0 ns.length top = (ns, r.take (c - (vput ns.length ++ vputs ns).length), 0) := by
  have h3 := rnum_cut (c := c) h0 (Nat.le_refl _) (vputs ns ++ r)
  have h4 := rlist_cut ns (c - (vput ns.length).length) r h1 h2
  unfold rnums rread
  rw [List.append_assoc, h3, List.length_append]
  by_cases hc : c < (vput ns.length).length
  · rw [if_pos (by omega), if_pos hc]
    simp [rlist]
  · rw [if_neg hc]
    simp only
    by_cases hc2 : c - (vput ns.length).length < (vputs ns).length
    · rw [if_pos hc2] at h4
      rw [if_pos (by omega), h4]
    · rw [if_neg hc2] at h4
      rw [if_neg (by omega), h4]
      simp [Nat.sub_sub]
def ttop (x : Th) : Nat := (tl x).foldl max 0
theorem foldl_max_le (l : List Nat) : ∀ a, a ≤ l.foldl max a ∧ ∀ n ∈ l, n ≤ l.foldl max a := by
  induction l with
  | nil => intro a; simp
  | cons b l ih =>
    intro a
    obtain ⟨i1, i2⟩ := ih (max a b)
    simp only [List.foldl_cons]
    refine ⟨by omega, fun n hn => ?_⟩
    rcases List.mem_cons.1 hn with rfl | hn
    · omega
    · exact i2 n hn
theorem foldl_max_lt (l : List Nat) (m : Nat) : ∀ a, a < m → (∀ n ∈ l, n < m) → l.foldl max a < m := by
  induction l with
  | nil => intro a h _; simpa using h
  | cons b l ih => intro a h h2; exact ih (max a b) (by have := h2 b (by simp); omega) fun n hn => h2 n (by simp [hn])
/-- A thing is read: is it as it should be, what is left, what is wrong. -/
def rthing (x : Th) (l : List Nat) (e : Int) : Bool × List Nat × Int :=
  if x.kind = 1 then (decide ((rnum l e (tn x)).1 = tn x), (rnum l e (tn x)).2)
  else if x.kind = 2 then (decide ((rnum l e 1).1 = 1) == decide (x.n = 1), (rnum l e 1).2)
  else if x.kind = 3 then (decide ((rnums l e (tl x).length (ttop x)).1 = tl x), (rnums l e (tl x).length (ttop x)).2)
  else (true, l, e)
theorem rthing_rd (x : Th) {l : List Nat} {e : Int} (r : Rd l e) : Rd (rthing x l e).2.1 (rthing x l e).2.2 := by
  unfold rthing
  split
  · exact rnum_rd r _
  · split
    · exact rnum_rd r _
    · split
      · exact rnums_rd r _ _
      · exact r
theorem rthing_err (x : Th) {e : Int} (he : e ≠ 0) : (rthing x [] e).2 = ([], e) := by
  unfold rthing
  split
  · simp [rnum, he]
  · split
    · simp [rnum, he]
    · split
      · simp [rnums, rread, rnum, he, rlist]
      · rfl
theorem rthing_cut {x : Th} (f : Fine x) (c : Nat) (r : List Nat) :
    if c < (tbytes x).length then (rthing x ((tbytes x ++ r).take c) 0).2 = ([], 3) else rthing x ((tbytes x ++ r).take c) 0 = (true, r.take (c - (tbytes x).length), 0) := by
  unfold rthing tbytes
  by_cases h1 : x.kind = 1
  · simp only [if_pos h1]
    rw [rnum_cut f.nsm (Nat.le_refl _)]
    by_cases hc : c < (vput (tn x)).length
    · simp [hc]
    · simp [hc]
  · simp only [if_neg h1]
    by_cases h2 : x.kind = 2
    · simp only [if_pos h2]
      rw [rnum_cut (by split <;> omega) (by split <;> omega)]
      by_cases hc : c < (vput (if x.n = 1 then 1 else 0)).length
      · simp [hc]
      · by_cases hn : x.n = 1
        · simp [hn] at hc ⊢
          simp [Nat.not_lt.2 hc]
        · simp [hn] at hc ⊢
          simp [Nat.not_lt.2 hc]
    · simp only [if_neg h2]
      by_cases h3 : x.kind = 3
      · simp only [if_pos h3]
        have h4 := rnums_cut (top := ttop x) (tl x) c r (by have := f.len; omega) f.small (foldl_max_le (tl x) 0).2
        by_cases hc : c < (vput (tl x).length ++ vputs (tl x)).length
        · rw [if_pos hc] at h4 ⊢
          exact h4
        · rw [if_neg hc] at h4 ⊢
          rw [h4]; simp
      · simp [h3]
def rall : List Th → List Nat → Int → List Nat × Int
  | [], l, e => (l, e)
  | x :: xs, l, e => rall xs (rthing x l e).2.1 (rthing x l e).2.2
theorem rall_err : ∀ (xs : List Th) {e : Int}, e ≠ 0 → rall xs [] e = ([], e)
  | [], _, _ => rfl
  | x :: xs, e, he => by
    have := rthing_err x he
    rw [rall, show (rthing x [] e).2.1 = [] by rw [this], show (rthing x [] e).2.2 = e by rw [this]]
    exact rall_err xs he
theorem rall_cut : ∀ (xs : List Th) (c : Nat), (∀ x ∈ xs, Fine x) → c < (tall xs).length → rall xs ((tall xs).take c) 0 = ([], 3)
  | [], c, _, h => by simp [tall] at h
  | x :: xs, c, hf, h => by
    have e : tall (x :: xs) = tbytes x ++ tall xs := by simp [tall]
    rw [e, List.length_append] at h
    have h1 := rthing_cut (hf x (by simp)) c (tall xs)
    rw [e, rall]
    by_cases hc : c < (tbytes x).length
    · rw [if_pos hc] at h1
      rw [h1]
      exact rall_err xs (by decide)
    · rw [if_neg hc] at h1
      rw [h1]
      exact rall_cut xs _ (fun y hy => hf y (by simp [hy])) (by omega)
theorem rthing_whole {x : Th} (f : Fine x) (r : List Nat) : rthing x (tbytes x ++ r) 0 = (true, r, 0) := by
  have h := rthing_cut f (tbytes x ++ r).length r
  rw [if_neg (by simp), List.take_length] at h
  rw [h]; simp

section
variable {X : Cx} {h : AH} {Q : V → AH → Prop}
theorem GrW.new1 {h : AH} (o : Nat) (z a : List V) (ho : o < h.nobj) : GrW (h.set o z) ((h.new a).set o z) :=
  ⟨by simp, by simp, fun o' ho' => by
    have ho' : o' < h.nobj := ho'
    by_cases e : o' = o
    · subst e; simp; exact WkL.refl _
    · have h1 : ¬ o' = h.nobj := by omega
      rw [set_objs_ne _ _ _ e, set_objs_ne _ _ _ e, new_objs_ne _ _ h1]
      exact WkL.refl _, fun s hs => rfl⟩
theorem read_spec (H : Has (Ecx X) K.probatelaw02_read A.probatelaw02_read) (L : LR X) (Hs : Has (Ecx X) K.probateref02_Same A.probateref02_Same) {o : Nat} {l : List Nat} {e : Int} {x : Th} (f : Fine x) (rd : Rd l e) (hc : h.objs o = robj l e)
    (hQ : Q (.bool (rthing x l e).1) (h.set o (robj (rthing x l e).2.1 (rthing x l e).2.2))) : Ecx X K.probatelaw02_read [.ptr o 0, thV x] h Q := by
  refine fn_set H (h.set o (robj (rthing x l e).2.1 (rthing x l e).2.2)) (fun _ _ => .set _ _ (Bdd_robj _ _ _ _)) (by simp [A.probatelaw02_read]) fun wf hb => ?_
  have ho : o < h.nobj := by have := hb (.ptr o 0) (by simp); simpa using this
  have n1 : ¬ o = h.nobj := by omega
  have n2 : ¬ h.nobj = o := by omega
  have hnn := f.n
  have hll := f.l
  have hlen := f.len
  have d0 : (h.new (thC x)).objs o = robj l e := by rw [new_objs_ne _ _ n1]; exact hc
  have dx : (h.new (thC x)).objs h.nobj = thC x := new_objs_same _ _
  have hgw : ∀ z, GrW (h.set o z) ((h.new (thC x)).set o z) := fun z => GrW.new1 o z _ ho
  simp [A.probatelaw02_read, thV, V.cells, V.good]
  generalize h.new (thC x) = h2 at *
  by_cases k1 : x.kind = 1
  · rw [show rthing x l e = (decide ((rnum l e (tn x)).1 = tn x), (rnum l e (tn x)).2) by simp [rthing, k1]] at hQ ⊢
    simp [dx, thC, k1, hnn]
    refine dcallE (.int .i64 (rnum l e (tn x)).1) (h2.set o (robj (rnum l e (tn x)).2.1 (rnum l e (tn x)).2.2)) ?_ ?_
    · exact wnum L (tn x) rd f.nsm d0 ⟨rfl, rfl⟩
    simp [dx, thC, n2, hnn]
    have : decide (((rnum l e (tn x)).1 : Int) = (tn x : Nat)) = decide ((rnum l e (tn x)).1 = tn x) := by
      by_cases e1 : (rnum l e (tn x)).1 = tn x
      · simp [e1]
      · have : ¬ ((rnum l e (tn x)).1 : Int) = (tn x : Nat) := by omega
        simp [e1, this]
    rw [this]
    exact finS (hgw _) (by simp) hQ
  by_cases k2 : x.kind = 2
  · rw [show rthing x l e = (decide ((rnum l e 1).1 = 1) == decide (x.n = 1), (rnum l e 1).2) by simp [rthing, k2]] at hQ ⊢
    simp [dx, thC, k2]
    refine dcallE (.bool (decide ((rnum l e 1).1 = 1))) (h2.set o (robj (rnum l e 1).2.1 (rnum l e 1).2.2)) ?_ ?_
    · exact wbool L rd d0 ⟨rfl, rfl⟩
    simp [dx, thC, n2]
    have : ∀ a b : Bool, decide (a = b) = (a == b) := by decide
    exact finS (hgw _) (by simp) hQ
  by_cases k3 : x.kind = 3
  · rw [show rthing x l e = (decide ((rnums l e (tl x).length (ttop x)).1 = tl x), (rnums l e (tl x).length (ttop x)).2) by simp [rthing, k3]] at hQ ⊢
    have hln := rnums_len l e (tl x).length (ttop x)
    have htop : ttop x < 2 ^ 63 := foldl_max_lt _ _ _ (by omega) f.small
    simp [dx, thC, k3, hll]
    refine loopZ (n := (tl x).length) (fun m env h' => ∃ j, j ≤ (tl x).length ∧ m = (tl x).length - j ∧ h' = h2 ∧ env = [(0, .ptr o 0), (3, .ptr h.nobj 0), (5, .int .i64 (((tl x).take j).foldl max 0 : Nat)), (30, .sl 1 0 (i64s (tl x))), (31, .int .i64 (tl x).length), (32, .int .i64 j)]) ?_
      ⟨0, by omega, by omega, rfl, by simp⟩
    rintro m env h' ⟨j, hj, rfl, rfl, rfl⟩
    unfold A.probatelaw02_read.L0
    by_cases hlt : j < (tl x).length
    · have hlt' : (j : Int) < (tl x).length := by omega
      have hg := i64s_getD hlt
      have hgj : (tl x).getD j 0 = (tl x)[j] := by simp [List.getD, List.getElem?_eq_getElem hlt]
      rw [hgj] at hg
      simp [hlt', hg, V.cells]
      refine ⟨(tl x).length - (j + 1), by omega, j + 1, by omega, rfl, ?_, by rw [wrap_i64 (by omega) (by omega)]; rfl⟩
      rw [List.take_succ_eq_append_getElem hlt, List.foldl_append]
      simp only [List.foldl_cons, List.foldl_nil]
      omega
    · have hlt' : ¬ (j : Int) < (tl x).length := by omega
      have hj2 : j = (tl x).length := by omega
      subst hj2
      rw [List.take_length, show (tl x).foldl max 0 = ttop x from rfl]
      simp [dx, thC, hll]
      refine dcallE (.sl 1 0 (i64s (rnums l e (tl x).length (ttop x)).1)) (h'.set o (robj (rnums l e (tl x).length (ttop x)).2.1 (rnums l e (tl x).length (ttop x)).2.2)) ?_ ?_
      · exact wnums L (tl x).length (ttop x) rd htop (by omega) d0 ⟨rfl, rfl⟩
      simp [dx, thC, n2, hll]
      refine dcall (.bool (decide ((rnums l e (tl x).length (ttop x)).1 = tl x))) ?_ ?_
      · exact same2_spec Hs _ _ _ _ (by unfold maxLen; omega) ⟨rfl, rfl⟩
      simp
      exact finS (hgw _) (by simp) hQ
  · rw [show rthing x l e = (true, l, e) by simp [rthing, k1, k2, k3]] at hQ ⊢
    simp [dx, thC, k1, k2, k3]
    have := hgw (robj l e)
    rw [set_self d0] at this
    exact finS this (by simp) hQ
end
end Go.Proofs.Ytbbmglginkabfaa.Al
