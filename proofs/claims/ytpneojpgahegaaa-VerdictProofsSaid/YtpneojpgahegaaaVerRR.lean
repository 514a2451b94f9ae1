/-
  Layer 20: the reference's reading, in plain lists and by the abstract layer. Conditions: each theorem's own.
-/
import Derived.Test.YtpneojpgahegaaaVerR
namespace Go.Proofs.Ytpneojpgahegaaa.Al
open Go Go.RowKit
set_option linter.unusedSimpArgs false
set_option linter.unusedVariables false
attribute [-simp] List.getD_eq_getElem?_getD Int.not_lt Int.not_le List.map_take

/-! ### Steps that agree -/
/-- What is wrong stays. -/
def Keeps {α : Type} (f : Step α) : Prop := ∀ l e, e ≠ 0 → (f l e).2 = (l, e)
theorem Alike.refl {α : Type} (f : Step α) : Alike f f := ⟨fun _ _ => rfl, fun _ _ _ => rfl⟩
theorem Alike.map {α β : Type} {f g : Step α} (A : Alike f g) (φ : α → β) : Alike (stepMap φ f) (stepMap φ g) :=
  ⟨fun l e => A.state l e, fun l e h => by simp only [stepMap]; rw [A.val l e h]⟩
theorem Alike.seq {α β : Type} {f g : Step α} {f2 g2 : Step β} (A : Alike f g) (B : Alike f2 g2) (K : Keeps f2) : Alike (seq2 f f2) (seq2 g g2) := by
  refine ⟨fun l e => ?_, fun l e h => ?_⟩
  · simp only [seq2]; rw [A.state]; exact B.state _ _
  · simp only [seq2] at h ⊢
    have h0 : (f l e).2.2 = 0 := by
      by_cases h0 : (f l e).2.2 = 0
      · exact h0
      · rw [K _ _ h0] at h; exact absurd h h0
    rw [A.val l e h0, B.val _ _ h, A.state]
theorem Keeps.map {α β : Type} {f : Step α} (K : Keeps f) (φ : α → β) : Keeps (stepMap φ f) := fun l e he => K l e he
theorem Keeps.seq {α β : Type} {f : Step α} {f2 : Step β} (K : Keeps f) (K2 : Keeps f2) : Keeps (seq2 f f2) := fun l e he => by
  simp only [seq2]; rw [K l e he]; exact K2 l e he
theorem keepsN (m : Nat) : Keeps (nm m) := fun l e he => by simp [rnum, he]
theorem keepsR (m : Nat) : Keeps (nmR m) := fun l e he => by simp [rnumR, he]
theorem Keeps.rl {α : Type} (f : Step α) (n : Nat) : Keeps (rlist f n) := fun l e he => by rw [rlist_e he]
theorem Keeps.wl {α : Type} {f : Step α} (K : Keeps f) : ∀ n, Keeps (wlst f n)
  | 0 => fun l e he => rfl
  | n + 1 => fun l e he => by simp only [wlst]; rw [K l e he]; exact K.wl n l e he
/-- Lists, by a way to read numbers. -/
def listP {α : Type} (rd : Nat → Step Nat) (f : Step α) (many : Nat) : Step (List α) := fun l e => wlst f (rd many l e).1 (rd many l e).2.1 (rd many l e).2.2
def rlP {α : Type} (rd : Nat → Step Nat) (f : Step α) (many : Nat) : Step (List α) := fun l e => rlist f (rd many l e).1 (rd many l e).2.1 (rd many l e).2.2
def numsP (rd : Nat → Step Nat) (many most : Nat) : Step (List Int) := fun l e =>
  (natI (if (rlP rd (rd most) many l e).2.2 ≠ 0 then [] else (rlP rd (rd most) many l e).1), (rlP rd (rd most) many l e).2)
theorem keeps_listP {α : Type} {rd : Nat → Step Nat} (hr : ∀ m, Keeps (rd m)) {f : Step α} (K : Keeps f) (many : Nat) : Keeps (listP rd f many) := fun l e he => by
  simp only [listP]; rw [hr many l e he]; exact K.wl _ l e he
theorem keeps_rlP {α : Type} {rd : Nat → Step Nat} (hr : ∀ m, Keeps (rd m)) (f : Step α) (many : Nat) : Keeps (rlP rd f many) := fun l e he => by
  simp only [rlP]; rw [hr many l e he, rlist_e he]
theorem keeps_numsP {rd : Nat → Step Nat} (hr : ∀ m, Keeps (rd m)) (many most : Nat) : Keeps (numsP rd many most) := fun l e he => by
  simp only [numsP]; exact keeps_rlP hr _ many l e he
theorem keeps_rread {α : Type} (f : Step α) (many : Nat) : Keeps (rread f many) := fun l e he => keeps_rlP (rd := nm) keepsN f many l e he
theorem alike_listP {α : Type} {f g : Step α} (A : Alike f g) (K : Keeps f) (many : Nat) : Alike (listP nm f many) (rread g many) := by
  have A2 := fun n => A.rlist (fun l e he => K l e he) n
  refine ⟨fun l e => ?_, fun l e h => ?_⟩
  · simp only [listP, rread]
    rw [wlst_state (fun l e he => K l e he)]
    exact (A2 _).state _ _
  · simp only [listP, rread] at h ⊢
    rw [wlst_state (fun l e he => K l e he)] at h
    have h2 := (rlist_ok _ _ _ h).1
    have h3 := (A2 _).val _ _ h
    have h4 := (A2 (rnum l e many).1).state (rnum l e many).2.1 (rnum l e many).2.2
    rw [← h2, h3]
    rw [h4] at h
    rw [if_neg (by simpa using h)]
theorem alike_rlP {α : Type} {f g : Step α} (A : Alike f g) (K : Keeps f) (many : Nat) : Alike (rlP nm f many) (rread g many) := by
  have A2 := fun n => A.rlist (fun l e he => K l e he) n
  refine ⟨fun l e => (A2 _).state _ _, fun l e h => ?_⟩
  simp only [rlP, rread] at h ⊢
  have h3 := (A2 _).val _ _ h
  have h4 := (A2 (rnum l e many).1).state (rnum l e many).2.1 (rnum l e many).2.2
  rw [h3]
  rw [h4] at h
  rw [if_neg (by simpa using h)]
theorem numsP_is (many most : Nat) : numsP nm many most = stepInts many most := by
  funext l e
  rw [stepInts_is]
  rfl
theorem simListP {α : Type} {f g : Step α} (S : SimR f g) (many : Nat) : SimR (listP nmR f many) (listP nm g many) := by
  have key : ∀ b e, listP nm g many (absR (b, e)).1 (absR (b, e)).2 = ((listP nmR f many b e).1, absR ((listP nmR f many b e).2.1, (listP nmR f many b e).2.2)) := fun b e => by
    have h1 := (simNum many).step b e
    simp only [listP, nm, nmR] at h1 ⊢
    rw [h1]
    exact (S.wl _).step _ _
  exact ⟨fun b e => by rw [key], fun b e => by rw [key]⟩
theorem simRlP {α : Type} {f g : Step α} (S : SimR f g) (many : Nat) : SimR (rlP nmR f many) (rlP nm g many) := by
  have key : ∀ b e, rlP nm g many (absR (b, e)).1 (absR (b, e)).2 = ((rlP nmR f many b e).1, absR ((rlP nmR f many b e).2.1, (rlP nmR f many b e).2.2)) := fun b e => by
    have h1 := (simNum many).step b e
    simp only [rlP, nm, nmR] at h1 ⊢
    rw [h1]
    exact (S.rl _).step _ _
  exact ⟨fun b e => by rw [key], fun b e => by rw [key]⟩
theorem simNumsP (many most : Nat) : SimR (numsP nmR many most) (numsP nm many most) := by
  have S := simRlP (simNum most) many
  have h0 : ∀ b e, (absR (rlP nmR (nmR most) many b e).2).2 = (rlP nmR (nmR most) many b e).2.2 := fun b e => rfl
  refine ⟨fun b e => ?_, fun b e => ?_⟩
  · have h1 := S.val b e
    have h2 := S.st b e
    have h3 := congrArg Prod.snd h2
    rw [h0] at h3
    simp only [numsP]
    rw [h3, h1]
  · exact S.st b e
/-! ### Verdicts -/
def edP (rd : Nat → Step Nat) : Step Ed := stepMap (fun p : Int × Bool × Int => ⟨p.1, p.2.1, p.2.2⟩) (seq2 (nInt 24 (rd 24)) (seq2 (nBool (rd 1)) (nInt 15 (rd 15))))
def vdP (rd : Nat → Step Nat) : Step Vd := stepMap (fun p : Int × List Int × Bool × Int × Int × List Ed => ⟨p.1, p.2.1, p.2.2.1, p.2.2.2.1, p.2.2.2.2.1, p.2.2.2.2.2⟩)
  (seq2 (nInt 4 (rd 4)) (seq2 (numsP rd 2000 59) (seq2 (nBool (rd 1)) (seq2 (nInt 24 (rd 24)) (seq2 (nInt 131071 (rd 131071)) (listP rd (edP rd) 100))))))
theorem simEd : SimR (edP nmR) (edP nm) := (((simNum 24).map _).seq (((simNum 1).map _).seq ((simNum 15).map _))).map _
theorem simVd : SimR (vdP nmR) (vdP nm) :=
  (((simNum 4).map _).seq ((simNumsP 2000 59).seq (((simNum 1).map _).seq (((simNum 24).map _).seq (((simNum 131071).map _).seq (simListP simEd 100)))))).map _
theorem keepsEd : Keeps (edP nm) := (((keepsN 24).map _).seq (((keepsN 1).map _).seq ((keepsN 15).map _))).map _
theorem alikeVd : Alike (vdP nm) stepVd := by
  have k6 : Keeps (listP nm (edP nm) 100) := keeps_listP keepsN keepsEd 100
  have k5 : Keeps (nInt 131071 (nm 131071)) := (keepsN _).map _
  have k4 : Keeps (nInt 24 (nm 24)) := (keepsN _).map _
  have k3 : Keeps (nBool (nm 1)) := (keepsN _).map _
  have k2 : Keeps (numsP nm 2000 59) := keeps_numsP keepsN _ _
  have a2 : Alike (numsP nm 2000 59) (stepInts 2000 59) := by rw [numsP_is]; exact .refl _
  exact Alike.map (Alike.seq (.refl _) (Alike.seq a2 (Alike.seq (.refl _) (Alike.seq (.refl _) (Alike.seq (.refl _) (alike_listP (.refl _) keepsEd 100) k6) (k5.seq k6)) (k4.seq (k5.seq k6))) (k3.seq (k4.seq (k5.seq k6)))) (k2.seq (k3.seq (k4.seq (k5.seq k6))))) _
def readVdR (b : List Nat) : Vd × Int :=
  if rend (absR (vdP nmR b 0).2).1 (absR (vdP nmR b 0).2).2 ≠ 0 then (zeroVd, rend (absR (vdP nmR b 0).2).1 (absR (vdP nmR b 0).2).2) else if mayV (vdP nmR b 0).1 = false then (zeroVd, 2) else ((vdP nmR b 0).1, 0)
theorem readVdR_is (b : List Nat) : readVdR b = readVd b := by
  have h1 := simVd.val b 0
  have h2 := simVd.st b 0
  rw [show absR (b, (0 : Int)) = (b, 0) from by simp [absR]] at h1 h2
  have h3 := alikeVd.state b 0
  unfold readVdR readVd
  simp only [h2, h1, h3]
  by_cases he : rend (stepVd b 0).2.1 (stepVd b 0).2.2 = 0
  · have h4 : (vdP nm b 0).2.2 = 0 := by rw [h3]; exact (rend_zero he).2
    rw [alikeVd.val b 0 h4]
  · rw [if_pos he, if_pos he]
/-! ### Proofs -/
def itP (rd : Nat → Step Nat) : Step It := stepMap (fun p : Int × Int × Int => ⟨p.1, p.2.1, p.2.2⟩) (seq2 (nInt 59 (rd 59)) (seq2 (nInt 8 (rd 8)) (nInt 24 (rd 24))))
def setP (rd : Nat → Step Nat) : Step (List It) := rlP rd (itP rd) 1500
def pfP (rd : Nat → Step Nat) : Step Pf := stepMap (fun p : List (List It) × List (List Int) => ⟨p.1, p.2⟩) (seq2 (rlP rd (setP rd) 25) (rlP rd (numsP rd 2000 59) 17))
theorem simIt : SimR (itP nmR) (itP nm) := (((simNum 59).map _).seq (((simNum 8).map _).seq ((simNum 24).map _))).map _
theorem simPf : SimR (pfP nmR) (pfP nm) := ((simRlP (simRlP simIt 1500) 25).seq (simRlP (simNumsP 2000 59) 17)).map _
theorem keepsIt : Keeps (itP nm) := (((keepsN 59).map _).seq (((keepsN 8).map _).seq ((keepsN 24).map _))).map _
theorem alikePf : Alike (pfP nm) stepPf := by
  have a1 : Alike (setP nm) stepSet := alike_rlP (.refl _) keepsIt 1500
  have k1 : Keeps (setP nm) := keeps_rlP keepsN _ _
  have a2 : Alike (numsP nm 2000 59) (stepInts 2000 59) := by rw [numsP_is]; exact .refl _
  have k2 : Keeps (numsP nm 2000 59) := keeps_numsP keepsN _ _
  exact Alike.map (Alike.seq (alike_rlP a1 k1 25) (alike_rlP a2 k2 17) (keeps_rlP keepsN _ _)) _
def readPfR (b : List Nat) : Pf × Int :=
  if rend (absR (pfP nmR b 0).2).1 (absR (pfP nmR b 0).2).2 ≠ 0 then (zeroPf, rend (absR (pfP nmR b 0).2).1 (absR (pfP nmR b 0).2).2) else ((pfP nmR b 0).1, 0)
theorem readPfR_is (b : List Nat) : readPfR b = readPf b := by
  have h1 := simPf.val b 0
  have h2 := simPf.st b 0
  rw [show absR (b, (0 : Int)) = (b, 0) from by simp [absR]] at h1 h2
  have h3 := alikePf.state b 0
  unfold readPfR readPf
  simp only [h2, h1, h3]
  by_cases he : rend (stepPf b 0).2.1 (stepPf b 0).2.2 = 0
  · have h4 : (pfP nm b 0).2.2 = 0 := by rw [h3]; exact (rend_zero he).2
    rw [alikePf.val b 0 h4]
  · rw [if_pos he, if_pos he]
end Go.Proofs.Ytpneojpgahegaaa.Al
namespace Go.Proofs.Ytpneojpgahegaaa.Al
open Go Go.RowKit
set_option linter.unusedSimpArgs false
set_option linter.unusedVariables false
attribute [-simp] List.getD_eq_getElem?_getD Int.not_lt Int.not_le List.map_take

theorem edP_rd {l : List Nat} {e : Int} (r : RdR l) : RdR (edP nmR l e).2.1 := rnumR_rd (rnumR_rd (rnumR_rd r 24) 1) 15
theorem numsP_rnumsR (many most : Nat) (l : List Nat) (e : Int) : numsP nmR many most l e = (natI (rnumsR l e many most).1, (rnumsR l e many most).2) := rfl
section
variable {X : Cx} {h : AH} {Q : V → AH → Prop}
theorem rread20_L0 (L : LQ X) {h0 h : AH} {o2 o o5 n : Nat} {c0 c1 c2 c3 c4 : V} {l : List Nat} {e : Int} (hn : n ≤ 100) (rd : RdR l) (hn5 : ¬ o = o5) (ho : h0.nobj ≤ o) (ho5 : h0.nobj ≤ o5) (lo : o < h.nobj) (lo5 : o5 < h.nobj) (gr : Gr h0 h)
    (b4 : h.objs o = robj l e) (b5 : h.objs o5 = [c0, c1, c2, c3, c4, .sl 0 1 []]) {Q : Ex → Env → AH → Prop} {zQ : Lz Q} {z : Lz (AC.loop A.probateref20_Read.L0)}
    (hQ : ∀ h' e1 st1 v, Own h0 h' 3 e1 st1 ((wlst (edP nmR) n l e).1.map edV) → RdR (wlst (edP nmR) n l e).2.1 → h'.objs o = robj (wlst (edP nmR) n l e).2.1 (wlst (edP nmR) n l e).2.2 → h'.objs o5 = [c0, c1, c2, c3, c4, .sl e1 st1 ((wlst (edP nmR) n l e).1.map edV)] → h.nobj ≤ h'.nobj →
      (∀ q, q < h.nobj → ¬ q = o → ¬ q = o5 → h'.objs q = h.objs q) → (wlst (edP nmR) n l e).1.length ≤ 100 →
      Q (.exit 0) [(2, .ptr o2 0), (4, .ptr o 0), (5, .ptr o5 0), (6, .int .i64 n), (7, .int .i64 n), (34, v)] h') :
    acZ (Ecx X) [(2, .ptr o2 0), (4, .ptr o 0), (5, .ptr o5 0), (6, .int .i64 n), (7, .int .i64 0)] h z zQ := by
  refine loopI (n := n) (fun r env h' => ∃ us l' e' e1 st1, us.length ≤ n ∧ r = n - us.length ∧ env = [(2, .ptr o2 0), (4, .ptr o 0), (5, .ptr o5 0), (6, .int .i64 n), (7, .int .i64 (us.length : Nat))] ∧ RdR l' ∧ h'.objs o = robj l' e' ∧ h'.objs o5 = [c0, c1, c2, c3, c4, .sl e1 st1 (us.map edV)] ∧ Own h0 h' 3 e1 st1 (us.map edV) ∧ h.nobj ≤ h'.nobj ∧
      (∀ q, q < h.nobj → ¬ q = o → ¬ q = o5 → h'.objs q = h.objs q) ∧ wlst (edP nmR) n l e = (us ++ (wlst (edP nmR) (n - us.length) l' e').1, (wlst (edP nmR) (n - us.length) l' e').2)) ?_
    ⟨[], l, e, 0, 1, by simp, by simp, rfl, rd, b4, b5, ⟨gr, .inl rfl, .inl rfl⟩, Nat.le_refl _, fun _ _ _ _ => rfl, rfl⟩
  rintro r env h' ⟨us, l', e', e1, st1, hj, rfl, rfl, rd', c4', c5', ow, hnb, hso, hw⟩
  unfold A.probateref20_Read.L0
  by_cases hlt : us.length < n
  · have hlt' : (us.length : Int) < n := by omega
    have hw1 : IntKind.i64.wrap ((us.length : Int) + 1) = ((us.length + 1 : Nat) : Int) := by rw [wrap_i64 (by omega) (by omega)]; rfl
    rw [show n - us.length = (n - (us.length + 1)) + 1 by omega] at hw
    simp only [wlst] at hw
    have n1 : ¬ o = h'.nobj := by omega
    have n2 : ¬ h'.nobj = o := by omega
    have n3 : ¬ o5 = h'.nobj := by omega
    have n4 : ¬ h'.nobj = o5 := by omega
    have n5 : ¬ o5 = o := fun e => hn5 e.symm
    have rd1 := rnumR_rd (e := e') rd' 24
    have rd2 := rnumR_rd (e := (rnumR l' e' 24).2.2) rd1 1
    have rd3 := rnumR_rd (e := (rnumR (rnumR l' e' 24).2.1 (rnumR l' e' 24).2.2 1).2.2) rd2 15
    have hx : (edP nmR l' e') = (⟨((rnumR l' e' 24).1 : Nat), isOne (rnumR (rnumR l' e' 24).2.1 (rnumR l' e' 24).2.2 1).1, ((rnumR (rnumR (rnumR l' e' 24).2.1 (rnumR l' e' 24).2.2 1).2.1 (rnumR (rnumR l' e' 24).2.1 (rnumR l' e' 24).2.2 1).2.2 15).1 : Nat)⟩,
      (rnumR (rnumR (rnumR l' e' 24).2.1 (rnumR l' e' 24).2.2 1).2.1 (rnumR (rnumR l' e' 24).2.1 (rnumR l' e' 24).2.2 1).2.2 15).2) := rfl
    generalize hR1 : rnumR l' e' 24 = R1 at *
    generalize hR2 : rnumR R1.2.1 R1.2.2 1 = R2 at *
    generalize hR3 : rnumR R2.2.1 R2.2.2 15 = R3 at *
    simp [hlt', fillV, setAt, V.cells, V.good]
    refine ecall (qnum (e := e') L 24 rd' (by omega) (by simp [n1, c4']) ?_)
    simp [hR1, n1, n2, n3, n4, n5, setAt, V.cells, V.good]
    refine ecall (qnum (e := R1.2.2) L 1 rd1 (by omega) (by simp [n1, n2]) ?_)
    simp [hR2, n1, n2, n3, n4, n5, setAt, V.cells, V.good]
    refine ecall (qnum (e := R2.2.2) L 15 rd2 (by omega) (by simp [n1, n2]) ?_)
    simp [hR3, n1, n2, n3, n4, n5, hn5, c5', setAt, V.cells, V.good, fillL, V.isAgg]
    have hd : decide ((R2.1 : Int) = 1) = isOne R2.1 := by
      unfold isOne
      by_cases c : R2.1 = 1
      · simp [c]
      · have : ¬ (R2.1 : Int) = 1 := by omega
        simp [c, this]
    rw [hd]
    have hv : V.agg [.int .i64 (R1.1 : Nat), .bool (isOne R2.1), .int .i64 (R3.1 : Nat)] = edV (edP nmR l' e').1 := by rw [hx]; rfl
    have hv2 : [V.int .i64 (R1.1 : Nat), .bool (isOne R2.1), .int .i64 (R3.1 : Nat)] = edC (edP nmR l' e').1 := by rw [hx]; rfl
    have h32 : R3.2 = (edP nmR l' e').2 := by rw [hx]
    rw [hv, hv2, h32]
    rw [h32] at rd3
    clear hx hv hv2 h32 hR1 hR2 hR3 rd1 rd2 hd R1 R2 R3
    generalize edP nmR l' e' = R at *
    have ow2 := (ow.set ho (robj R.2.1 R.2.2)).new (edC R.1)
    have d4 : ((h'.set o (robj R.2.1 R.2.2)).new (edC R.1)).objs o = robj R.2.1 R.2.2 := by rw [new_objs_ne _ _ (by simpa using n1)]; exact set_objs_same _ _ _
    have d5 : ((h'.set o (robj R.2.1 R.2.2)).new (edC R.1)).objs o5 = [c0, c1, c2, c3, c4, .sl e1 st1 (us.map edV)] := by rw [new_objs_ne _ _ (by simpa using n3), set_objs_ne _ _ _ n5]; exact c5'
    have dq : ∀ q, q < h'.nobj → ¬ q = o → ((h'.set o (robj R.2.1 R.2.2)).new (edC R.1)).objs q = h'.objs q := fun q hq hne => by rw [new_objs_ne _ _ (by simp; omega), set_objs_ne _ _ _ hne]
    have dn : ((h'.set o (robj R.2.1 R.2.2)).new (edC R.1)).nobj = h'.nobj + 1 := by simp
    generalize (h'.set o (robj R.2.1 R.2.2)).new (edC R.1) = h2 at *
    refine ow2.appF (by simp) rfl (by simp; omega) fun o3 => ?_
    have hus2 : us.map edV ++ [edV R.1] = (us ++ [R.1]).map edV := by simp
    rw [hus2] at o3 ⊢
    have o4 := o3.set ho5 [c0, c1, c2, c3, c4, .sl 3 h2.next ((us ++ [R.1]).map edV)]
    have f4 : ((h2.push st1 3).set o5 [c0, c1, c2, c3, c4, .sl 3 h2.next ((us ++ [R.1]).map edV)]).objs o = robj R.2.1 R.2.2 := by rw [set_objs_ne _ _ _ hn5, push_objs]; exact d4
    have fq : ∀ q, q < h'.nobj → ¬ q = o → ¬ q = o5 → ((h2.push st1 3).set o5 [c0, c1, c2, c3, c4, .sl 3 h2.next ((us ++ [R.1]).map edV)]).objs q = h'.objs q := fun q hq h1 h2 => by rw [set_objs_ne _ _ _ h2, push_objs]; exact dq q hq h1
    have fn : ((h2.push st1 3).set o5 [c0, c1, c2, c3, c4, .sl 3 h2.next ((us ++ [R.1]).map edV)]).nobj = h'.nobj + 1 := by rw [set_nobj, push_nobj]; exact dn
    have f5 : ((h2.push st1 3).set o5 [c0, c1, c2, c3, c4, .sl 3 h2.next ((us ++ [R.1]).map edV)]).objs o5 = [c0, c1, c2, c3, c4, .sl 3 h2.next ((us ++ [R.1]).map edV)] := set_objs_same _ _ _
    simp [push_objs, d5, setAt, V.cells, V.good, hw1, -List.map_append]
    generalize (h2.push st1 3).set o5 [c0, c1, c2, c3, c4, .sl 3 h2.next ((us ++ [R.1]).map edV)] = h4 at *
    refine ⟨n - (us.length + 1), by omega, iv ⟨us ++ [R.1], R.2.1, R.2.2, 3, h2.next, by simp; omega, by simp, by simp, rd3, f4, f5, o4, by omega, fun q hq h1 h2 => by rw [fq q (by omega) h1 h2]; exact hso q hq h1 h2, by rw [hw]; simp⟩⟩
  · have hlt' : ¬ (us.length : Int) < n := by omega
    obtain rfl : n = us.length := by omega
    rw [Nat.sub_self] at hw
    simp only [wlst, List.append_nil] at hw
    rw [hw] at hQ
    simp
    exact hQ _ _ _ _ ow rd' c4' c5' hnb hso hn
end
end Go.Proofs.Ytpneojpgahegaaa.Al
namespace Go.Proofs.Ytpneojpgahegaaa.Al
open Go Go.RowKit
set_option linter.unusedSimpArgs false
set_option linter.unusedVariables false
attribute [-simp] List.getD_eq_getElem?_getD Int.not_lt Int.not_le List.map_take

theorem numsP_rd {l : List Nat} {e : Int} (many most : Nat) (r : RdR l) : RdR (rnumsR l e many most).2.1 := by
  have : ∀ (n : Nat) (l : List Nat) (e : Int), RdR l → RdR (rlist (fun l e => rnumR l e most) n l e).2.1 := by
    intro n
    induction n with
    | zero => intro l e r; exact r
    | succ n ih =>
      intro l e r
      unfold rlist
      split
      · exact r
      · exact ih _ _ (rnumR_rd r most)
  exact this _ _ _ (rnumR_rd r many)
theorem rnumsR_len (many most : Nat) (l : List Nat) (e : Int) : (rnumsR l e many most).1.length ≤ many := by
  have h1 := rnumR_le (l := l) (e := e) many
  have h2 := rlist_length (step := fun l e => rnumR l e most) (rnumR l e many).1 (rnumR l e many).2.1 (rnumR l e many).2.2
  unfold rnumsR
  simp only
  split
  · simp
  · omega
theorem Wk.aggL {l m : List V} (w : WkL l m) : Wk (.agg l) (.agg m) := .agg _ _ w.get.1 w.get.2
section
variable {X : Cx} {h : AH} {Q : V → AH → Prop}
theorem rread20_spec (L : LVR X) (b : List Nat) (hl : b.length ≤ maxLen) (hb : ∀ x ∈ b, x < 256) (hQ : Q (vreadV b) h) : Ecx X K.probateref20_Read [.sl 1 0 (u8s b)] h Q := by
  refine fn_walk L.read (by simp [A.probateref20_Read]) fun wf => ?_
  have rd0 : RdR b := ⟨hl, hb⟩
  unfold vreadV at hQ
  rw [← readVdR_is] at hQ
  unfold readVdR at hQ
  have e1 : vdP nmR b 0 = vdP nmR b 0 := rfl
  conv at e1 => rhs; simp only [vdP, stepMap, seq2, nInt, nBool, nmR, listP, numsP_rnumsR]
  rw [e1] at hQ
  simp only at hQ
  clear e1
  simp [A.probateref20_Read, fillV, V.cells, V.good, setAt]
  refine ecall (qnum (e := 0) L.q 4 rd0 (by omega) (by simp [robj]) ?_)
  have rd1 := rnumR_rd (e := 0) rd0 4
  generalize rnumR b 0 4 = r1 at *
  simp [setAt, V.cells, V.good]
  refine ecall (qnums (e := r1.2.2) L.q 2000 59 rd1 (by omega) (by omega) (by simp) ?_)
  have rd2 := numsP_rd (e := r1.2.2) 2000 59 rd1
  have hl2 := rnumsR_len 2000 59 r1.2.1 r1.2.2
  generalize rnumsR r1.2.1 r1.2.2 2000 59 = r2 at *
  simp [setAt, V.cells, V.good]
  refine ecall (qnum (e := r2.2.2) L.q 1 rd2 (by omega) (by simp) ?_)
  have rd3 := rnumR_rd (e := r2.2.2) rd2 1
  generalize rnumR r2.2.1 r2.2.2 1 = r3 at *
  simp [setAt, V.cells, V.good]
  refine ecall (qnum (e := r3.2.2) L.q 24 rd3 (by omega) (by simp) ?_)
  have rd4 := rnumR_rd (e := r3.2.2) rd3 24
  generalize rnumR r3.2.1 r3.2.2 24 = r4 at *
  simp [setAt, V.cells, V.good]
  refine ecall (qnum (e := r4.2.2) L.q 131071 rd4 (by omega) (by simp) ?_)
  have rd5 := rnumR_rd (e := r4.2.2) rd4 131071
  have hle5 := rnumR_le (l := r4.2.1) (e := r4.2.2) 131071
  generalize rnumR r4.2.1 r4.2.2 131071 = r5 at *
  have hw5 : IntKind.u32.wrap ((r5.1 : Nat) : Int) = ((r5.1 : Nat) : Int) := by simp [IntKind.wrap, IntKind.bits]; omega
  simp [setAt, V.cells, V.good, hw5]
  refine ecall (qnum (e := r5.2.2) L.q 100 rd5 (by omega) (by simp) ?_)
  have rd6 := rnumR_rd (e := r5.2.2) rd5 100
  have hle6 := rnumR_le (l := r5.2.1) (e := r5.2.2) 100
  generalize rnumR r5.2.1 r5.2.2 100 = r6 at *
  have hd : decide ((r3.1 : Int) = 1) = isOne r3.1 := by
    unfold isOne
    by_cases c : r3.1 = 1
    · simp [c]
    · have : ¬ (r3.1 : Int) = 1 := by omega
      simp [c, this]
  obtain ⟨n6, l6, x6⟩ := r6
  simp [setAt, V.cells, V.good, hd]
  simp only at hQ rd6 hle6
  have gr0 : ∀ x y z, Gr h (((h.new x).new y).new z) := fun x y z => (((Gr.refl h).new _).new _).new _
  refine rread20_L0 (h0 := h) (c0 := .int .i64 r1.1) (c1 := .sl 1 0 (i64s r2.1)) (c2 := .bool (isOne r3.1)) (c3 := .int .i64 r4.1) (c4 := .int .u32 r5.1) L.q hle6 rd6 (by omega) (by omega) (by omega) (by simp) (by simp) (gr0 _ _ _) (by simp; rfl) (by simp) fun h7 e7 st7 v7 o7 rd7 b7 b57 nb7 hso hlen => ?_
  have ba7 : h7.objs h.nobj = [.int .i64 0, .sl 0 1 [], .bool false, .int .i64 0, .int .u32 0, .sl 0 1 []] := by
    rw [hso _ (by simp; omega) (by omega) (by omega)]; simp
  generalize wlst (edP nmR) n6 l6 x6 = r7 at *
  have hg7 : ∀ z, Gr h (h7.set h.nobj z) := fun z => o7.gr.set (by omega) z
  have wz : Wk (.agg [.int .i64 0, .sl 0 1 [], .bool false, .int .i64 0, .int .u32 0, .sl 0 1 []]) (vdV zeroVd) := vd_zero_wk
  have wv : Wk (.agg [.int .i64 r1.1, .sl 1 0 (i64s r2.1), .bool (isOne r3.1), .int .i64 r4.1, .int .u32 r5.1, .sl e7 st7 (r7.1.map edV)]) (vdV ⟨r1.1, natI r2.1, isOne r3.1, r4.1, r5.1, r7.1⟩) := by
    rw [i64s_ints]
    exact Wk.aggL (.cons (.same _) (.cons (.same _) (.cons (.same _) (.cons (.same _) (.cons (.same _) (.cons o7.wk .nil))))))
  simp
  refine ecall (qend (e := r7.2.2) L.q b7 ?_)
  by_cases hr : rend (absR (r7.2.1, r7.2.2)).1 (absR (r7.2.1, r7.2.2)).2 = 0
  · rw [if_neg (by simpa using hr)] at hQ
    simp [hr, b57]
    refine ecall (Ecx.wkL (.cons wv .nil) (rmay20_spec L _ ⟨by simp [natI]; omega, by simp; omega, by simp; omega⟩ ?_))
    cases hm : mayV ⟨r1.1, natI r2.1, isOne r3.1, r4.1, r5.1, r7.1⟩ with
    | false =>
      rw [hm] at hQ
      simp at hQ
      simp [ba7, setAt, V.cells, V.good, fillV]
      exact fin_wk (hg7 _) (Wk.t2 wz _) (by simp [vdV, vdC, zeroVd, ints, cellsOf]) hQ
    | true =>
      rw [hm] at hQ
      simp at hQ
      simp [ba7, b57, setAt, V.cells, V.good, fillV]
      exact fin_wk (hg7 _) (Wk.t2 wv _) (by simp [vdV, vdC]; exact ⟨Bdd_ints _ _ _, encEd.cells _ _ _⟩) hQ
  · rw [if_pos (by simpa using hr)] at hQ
    simp [hr, fillV, ba7, setAt, V.cells, V.good]
    refine ecall (qend (e := r7.2.2) L.q b7 ?_)
    simp [ba7, setAt, V.cells, V.good]
    exact fin_wk (hg7 _) (Wk.t2 wz _) (by simp [vdV, vdC, zeroVd, ints, cellsOf]) hQ
end
end Go.Proofs.Ytpneojpgahegaaa.Al
namespace Go.Proofs.Ytpneojpgahegaaa.Al
open Go Go.RowKit
set_option linter.unusedSimpArgs false
set_option linter.unusedVariables false
attribute [-simp] List.getD_eq_getElem?_getD Int.not_lt Int.not_le List.map_take

/-! ### Slices in slices, of which less is known -/
inductive WkS : List V → List V → Prop
  | nil : WkS [] []
  | cons {e st e' st' : Nat} {a b l m : List V} (h : Wk (.sl e st a) (.sl e' st' b)) (t : WkS l m) : WkS (.sl e st a :: l) (.sl e' st' b :: m)
theorem WkS.cells {l m : List V} (w : WkS l m) : l.length = m.length ∧ cellsOf l = l ∧ cellsOf m = m ∧ WkL l m := by
  induction w with
  | nil => exact ⟨rfl, rfl, rfl, .nil⟩
  | cons h t ih => exact ⟨by simp [ih.1], by simp [V.cells, ih.2.1], by simp [V.cells, ih.2.2.1], .cons h ih.2.2.2⟩
theorem WkS.append {a b c d : List V} (x : WkS a b) (y : WkS c d) : WkS (a ++ c) (b ++ d) := by
  induction x with
  | nil => exact y
  | cons h t ih => exact .cons h ih
theorem WkS.sl {st : Nat} {l m : List V} (w : WkS l m) : Wk (.sl 1 st l) (.sl 1 0 m) := by
  obtain ⟨a, b, c, d⟩ := w.cells
  have hm : ∀ v ∈ m, v.cells.length = 1 := by
    clear a b c d
    induction w with
    | nil => simp
    | cons h t ih => intro v hv; rcases List.mem_cons.1 hv with rfl | hv
                     · rfl
                     · exact ih v hv
  rw [← b, ← c] at d
  obtain ⟨e, f⟩ := d.get
  exact .sld 1 st l m a hm e f
theorem Own.keepG {h0 h : AH} {ea eb e1 st1 st2 : Nat} {l1 : List V} (t : Own h0 h ea e1 st1 l1) (w3 : 3 ≤ h0.next) (gr : Gr h0 (h.push st2 eb)) (ba : st1 ≤ 2 ∨ st1 < h.next) (ne : st1 ≤ 2 ∨ ¬ st1 = st2) : Own h0 (h.push st2 eb) ea e1 st1 l1 := by
  refine ⟨gr, t.el, ?_⟩
  rcases t.st with h1 | h1 | ⟨h1, h2⟩
  · exact .inl h1
  · exact .inr (.inl h1)
  · exact .inr (.inr ⟨by rw [push_tips_ne (by omega) (by omega)]; exact h1, h2⟩)
/-- Two slices that this call has made, and may append to each without the other one. -/
structure TwoG (h0 h : AH) (ea e1 st1 : Nat) (l1 : List V) (eb e2 st2 : Nat) (l2 : List V) : Prop where
  a : Own h0 h ea e1 st1 l1
  b : Own h0 h eb e2 st2 l2
  w3 : 3 ≤ h0.next
  ba : st1 ≤ 2 ∨ st1 < h.next
  ne : st1 ≤ 2 ∨ ¬ st1 = st2
theorem TwoG.set {h0 h : AH} {ea eb e1 st1 e2 st2 o : Nat} {l1 l2 : List V} (t : TwoG h0 h ea e1 st1 l1 eb e2 st2 l2) (ho : h0.nobj ≤ o) (z : List V) : TwoG h0 (h.set o z) ea e1 st1 l1 eb e2 st2 l2 :=
  ⟨t.a.set ho z, t.b.set ho z, t.w3, t.ba, t.ne⟩
theorem TwoG.new {h0 h : AH} {ea eb e1 st1 e2 st2 : Nat} {l1 l2 : List V} (t : TwoG h0 h ea e1 st1 l1 eb e2 st2 l2) (z : List V) : TwoG h0 (h.new z) ea e1 st1 l1 eb e2 st2 l2 :=
  ⟨t.a.new z, t.b.new z, t.w3, t.ba, t.ne⟩
theorem TwoG.app {h0 h : AH} {ea eb e1 st1 e2 st2 : Nat} {l1 l2 : List V} (t : TwoG h0 h ea e1 st1 l1 eb e2 st2 l2) {sz e3 : Nat} {m : List V} (hm : m ≠ []) (he : e3 = eb) (hb : (l2.length + m.length) * sz ≤ 2 ^ 46) {K : V → AH → Prop} {zK : Lz K}
    (hk : ∀ st' h', TwoG h0 h' ea e1 st1 l1 eb eb st' (l2 ++ m) → h'.objs = h.objs → h'.nobj = h.nobj → K (.sl eb st' (l2 ++ m)) h') : App h eb sz e2 st2 l2 e3 m zK :=
  t.b.appF hm he hb fun o' => hk _ _ ⟨t.a.keepG t.w3 o'.gr t.ba t.ne, o', t.w3, t.ba.imp id fun h1 => by rw [push_next]; omega, t.ba.imp id fun h1 => by omega⟩ (push_objs _ _ _) (push_nobj _ _ _)
theorem itP_rd {l : List Nat} {e : Int} (r : RdR l) : RdR (itP nmR l e).2.1 := rnumR_rd (rnumR_rd (rnumR_rd r 59) 8) 24
section
variable {X : Cx} {h : AH} {Q : V → AH → Prop}
theorem rdecode20_L1 (L : LQ X) {h0 h : AH} {o2 o o5 n k m : Nat} {e1 st1 e2 st2 : Nat} {w : List V} {l : List Nat} {e : Int} (hm : m ≤ 1500) (rd : RdR l) (hn5 : ¬ o = o5) (ho : h0.nobj ≤ o) (lo : o < h.nobj) (lo5 : o5 < h.nobj)
    (b4 : h.objs o = robj l e) (tw : TwoG h0 h 1 e1 st1 w 3 e2 st2 []) {Q : Ex → Env → AH → Prop} {zQ : Lz Q} {z : Lz (AC.loop A.probateref20_Decode.L1)}
    (hQ : ∀ h' e2 st2 k' v, TwoG h0 h' 1 e1 st1 w 3 e2 st2 ((rlist (itP nmR) m l e).1.map itV) → RdR (rlist (itP nmR) m l e).2.1 → h'.objs o = robj (rlist (itP nmR) m l e).2.1 (rlist (itP nmR) m l e).2.2 → h.nobj ≤ h'.nobj →
      (∀ q, q < h.nobj → ¬ q = o → h'.objs q = h.objs q) →
      Q (.exit 2) [(2, .ptr o2 0), (4, .ptr o 0), (5, .ptr o5 0), (6, .int .i64 n), (7, .int .i64 k), (8, .int .i64 m), (9, .sl e2 st2 ((rlist (itP nmR) m l e).1.map itV)), (10, .int .i64 k'), (43, v)] h') :
    acZ (Ecx X) [(2, .ptr o2 0), (4, .ptr o 0), (5, .ptr o5 0), (6, .int .i64 n), (7, .int .i64 k), (8, .int .i64 m), (9, .sl e2 st2 []), (10, .int .i64 0)] h z zQ := by
  refine loopI (n := m) (fun r env h' => ∃ us l' e' e2 st2, us.length ≤ m ∧ r = m - us.length ∧ env = [(2, .ptr o2 0), (4, .ptr o 0), (5, .ptr o5 0), (6, .int .i64 n), (7, .int .i64 k), (8, .int .i64 m), (9, .sl e2 st2 (us.map itV)), (10, .int .i64 (us.length : Nat))] ∧ RdR l' ∧ h'.objs o = robj l' e' ∧ TwoG h0 h' 1 e1 st1 w 3 e2 st2 (us.map itV) ∧ h.nobj ≤ h'.nobj ∧
      (∀ q, q < h.nobj → ¬ q = o → h'.objs q = h.objs q) ∧ (us ++ (rlist (itP nmR) (m - us.length) l' e').1, (rlist (itP nmR) (m - us.length) l' e').2) = rlist (itP nmR) m l e) ?_
    ⟨[], l, e, e2, st2, by simp, by simp, rfl, rd, b4, tw, Nat.le_refl _, fun _ _ _ => rfl, rfl⟩
  rintro r env h' ⟨us, l', e', e2, st2, hj, rfl, rfl, rd', c4', tw', hnb, hso, hw⟩
  unfold A.probateref20_Decode.L1
  have stop : (e' ≠ 0 ∨ us.length = m) → rlist (itP nmR) m l e = (us, l', e') := by
    intro e0
    rw [← hw]
    rcases e0 with e0 | e0
    · rw [rlist_e e0]; simp
    · rw [e0, Nat.sub_self]; simp [rlist]
  by_cases hgo : us.length < m ∧ e' = 0
  · obtain ⟨hlt, rfl⟩ := hgo
    have hlt' : (us.length : Int) < m := by omega
    have hw1 : IntKind.i64.wrap ((us.length : Int) + 1) = ((us.length + 1 : Nat) : Int) := by rw [wrap_i64 (by omega) (by omega)]; rfl
    rw [show m - us.length = (m - (us.length + 1)) + 1 by omega, rlist_succ0] at hw
    simp only at hw
    have n1 : ¬ o = h'.nobj := by omega
    have n2 : ¬ h'.nobj = o := by omega
    have rd1 := rnumR_rd (e := 0) rd' 59
    have rd2 := rnumR_rd (e := (rnumR l' 0 59).2.2) rd1 8
    have rd3 := rnumR_rd (e := (rnumR (rnumR l' 0 59).2.1 (rnumR l' 0 59).2.2 8).2.2) rd2 24
    have hx : (itP nmR l' 0) = (⟨((rnumR l' 0 59).1 : Nat), ((rnumR (rnumR l' 0 59).2.1 (rnumR l' 0 59).2.2 8).1 : Nat), ((rnumR (rnumR (rnumR l' 0 59).2.1 (rnumR l' 0 59).2.2 8).2.1 (rnumR (rnumR l' 0 59).2.1 (rnumR l' 0 59).2.2 8).2.2 24).1 : Nat)⟩,
      (rnumR (rnumR (rnumR l' 0 59).2.1 (rnumR l' 0 59).2.2 8).2.1 (rnumR (rnumR l' 0 59).2.1 (rnumR l' 0 59).2.2 8).2.2 24).2) := rfl
    generalize hR1 : rnumR l' 0 59 = R1 at *
    generalize hR2 : rnumR R1.2.1 R1.2.2 8 = R2 at *
    generalize hR3 : rnumR R2.2.1 R2.2.2 24 = R3 at *
    simp [hlt', c4', robj, fillV, setAt, V.cells, V.good]
    refine ecall (qnum (e := 0) L 59 rd' (by omega) (by simp [n1, c4']) ?_)
    simp [hR1, n1, n2, setAt, V.cells, V.good]
    refine ecall (qnum (e := R1.2.2) L 8 rd1 (by omega) (by simp [n1, n2]) ?_)
    simp [hR2, n1, n2, setAt, V.cells, V.good]
    refine ecall (qnum (e := R2.2.2) L 24 rd2 (by omega) (by simp [n1, n2]) ?_)
    simp [hR3, n1, n2, setAt, V.cells, V.good, fillL, V.isAgg]
    have hv : V.agg [.int .i64 (R1.1 : Nat), .int .i64 (R2.1 : Nat), .int .i64 (R3.1 : Nat)] = itV (itP nmR l' 0).1 := by rw [hx]; rfl
    have hv2 : [V.int .i64 (R1.1 : Nat), .int .i64 (R2.1 : Nat), .int .i64 (R3.1 : Nat)] = itC (itP nmR l' 0).1 := by rw [hx]; rfl
    have h32 : R3.2 = (itP nmR l' 0).2 := by rw [hx]
    rw [hv, hv2, h32]
    rw [h32] at rd3
    clear hx hv hv2 h32 hR1 hR2 hR3 rd1 rd2 R1 R2 R3
    generalize itP nmR l' 0 = R at *
    have tw2 := (tw'.set ho (robj R.2.1 R.2.2)).new (itC R.1)
    have d4 : ((h'.set o (robj R.2.1 R.2.2)).new (itC R.1)).objs o = robj R.2.1 R.2.2 := by rw [new_objs_ne _ _ (by simpa using n1)]; exact set_objs_same _ _ _
    have dq : ∀ q, q < h'.nobj → ¬ q = o → ((h'.set o (robj R.2.1 R.2.2)).new (itC R.1)).objs q = h'.objs q := fun q hq hne => by rw [new_objs_ne _ _ (by simp; omega), set_objs_ne _ _ _ hne]
    have dn : ((h'.set o (robj R.2.1 R.2.2)).new (itC R.1)).nobj = h'.nobj + 1 := by simp
    generalize (h'.set o (robj R.2.1 R.2.2)).new (itC R.1) = h2 at *
    refine tw2.app (by simp) rfl (by simp; omega) fun st3 h3 tw3 ob3 nb3 => ?_
    have hus2 : us.map itV ++ [itV R.1] = (us ++ [R.1]).map itV := by simp
    rw [hus2] at tw3 ⊢
    simp [hw1, -List.map_append]
    refine ⟨m - (us.length + 1), by omega, iv ⟨us ++ [R.1], R.2.1, R.2.2, 3, st3, by simp; omega, by simp, by simp, rd3, by rw [ob3]; exact d4, tw3, by omega, fun q hq h1 => by rw [ob3, dq q (by omega) h1]; exact hso q hq h1, by rw [← hw]; simp⟩⟩
  · have hRp := stop (if he : e' = 0 then .inr (by have := fun hh => hgo ⟨hh, he⟩; omega) else .inl he)
    rw [hRp] at hQ
    simp only at hQ
    by_cases hl : (us.length : Int) < m
    · have he : ¬ e' = 0 := fun he => hgo ⟨by omega, he⟩
      simp [hl, c4', robj, he]
      exact hQ _ _ _ _ _ tw' rd' c4' hnb hso
    · simp [hl]
      exact hQ _ _ _ _ _ tw' rd' c4' hnb hso
end
end Go.Proofs.Ytpneojpgahegaaa.Al
namespace Go.Proofs.Ytpneojpgahegaaa.Al
open Go Go.RowKit
set_option linter.unusedSimpArgs false
set_option linter.unusedVariables false
attribute [-simp] List.getD_eq_getElem?_getD Int.not_lt Int.not_le List.map_take

theorem setP_rd : ∀ {l : List Nat} {e : Int} (_ : RdR l), RdR (setP nmR l e).2.1 := by
  have : ∀ (n : Nat) (l : List Nat) (e : Int), RdR l → RdR (rlist (itP nmR) n l e).2.1 := by
    intro n
    induction n with
    | zero => intro l e r; exact r
    | succ n ih =>
      intro l e r
      unfold rlist
      split
      · exact r
      · exact ih _ _ (itP_rd r)
  intro l e r
  exact this _ _ _ (rnumR_rd r 1500)
theorem wkOwnS {h0 h : AH} {e1 st : Nat} {vs ws : List V} (o : Own h0 h 1 e1 st vs) (w : WkS vs ws) : Wk (.sl e1 st vs) (.sl 1 0 ws) := by
  rcases o.el with h1 | rfl
  · subst h1
    cases w
    exact .nil _ _ _
  · exact w.sl
section
variable {X : Cx} {h : AH} {Q : V → AH → Prop}
theorem rdecode20_L0 (L : LQ X) {h0 h : AH} {o2 o o5 n : Nat} {l : List Nat} {e : Int} (w3 : 3 ≤ h0.next) (hn : n ≤ 25) (rd : RdR l) (hn5 : ¬ o = o5) (ho : h0.nobj ≤ o) (ho5 : h0.nobj ≤ o5) (lo : o < h.nobj) (lo5 : o5 < h.nobj) (gr : Gr h0 h)
    (b4 : h.objs o = robj l e) (b5 : h.objs o5 = [.sl 0 1 [], .sl 0 1 []]) {Q : Ex → Env → AH → Prop} {zQ : Lz Q} {z : Lz (AC.loop A.probateref20_Decode.L0)}
    (hQ : ∀ h' e1 st1 vs k v, Own h0 h' 1 e1 st1 vs → (st1 ≤ 2 ∨ st1 < h'.next) → WkS vs ((rlist (setP nmR) n l e).1.map setV) → RdR (rlist (setP nmR) n l e).2.1 → h'.objs o = robj (rlist (setP nmR) n l e).2.1 (rlist (setP nmR) n l e).2.2 → h'.objs o5 = [.sl e1 st1 vs, .sl 0 1 []] → h.nobj ≤ h'.nobj →
      (∀ q, q < h.nobj → ¬ q = o → ¬ q = o5 → h'.objs q = h.objs q) →
      Q (.exit 0) [(2, .ptr o2 0), (4, .ptr o 0), (5, .ptr o5 0), (6, .int .i64 n), (7, .int .i64 k), (28, v)] h') :
    acZ (Ecx X) [(2, .ptr o2 0), (4, .ptr o 0), (5, .ptr o5 0), (6, .int .i64 n), (7, .int .i64 0)] h z zQ := by
  refine loopI (n := n) (fun r env h' => ∃ us vs l' e' e1 st1, us.length ≤ n ∧ r = n - us.length ∧ env = [(2, .ptr o2 0), (4, .ptr o 0), (5, .ptr o5 0), (6, .int .i64 n), (7, .int .i64 (us.length : Nat))] ∧ RdR l' ∧ h'.objs o = robj l' e' ∧ h'.objs o5 = [.sl e1 st1 vs, .sl 0 1 []] ∧ Own h0 h' 1 e1 st1 vs ∧ (st1 ≤ 2 ∨ st1 < h'.next) ∧ WkS vs (us.map setV) ∧ h.nobj ≤ h'.nobj ∧
      (∀ q, q < h.nobj → ¬ q = o → ¬ q = o5 → h'.objs q = h.objs q) ∧ (us ++ (rlist (setP nmR) (n - us.length) l' e').1, (rlist (setP nmR) (n - us.length) l' e').2) = rlist (setP nmR) n l e) ?_
    ⟨[], [], l, e, 0, 1, by simp, by simp, rfl, rd, b4, b5, ⟨gr, .inl rfl, .inl rfl⟩, .inl (by omega), .nil, Nat.le_refl _, fun _ _ _ _ => rfl, rfl⟩
  rintro r env h' ⟨us, vs, l', e', e1, st1, hj, rfl, rfl, rd', c4', c5', ow, ba, hvs, hnb, hso, hw⟩
  unfold A.probateref20_Decode.L0
  have hvl : vs.length = us.length := by have := hvs.cells.1; simpa using this
  have stop : (e' ≠ 0 ∨ us.length = n) → rlist (setP nmR) n l e = (us, l', e') := by
    intro e0
    rw [← hw]
    rcases e0 with e0 | e0
    · rw [rlist_e e0]; simp
    · rw [e0, Nat.sub_self]; simp [rlist]
  by_cases hgo : us.length < n ∧ e' = 0
  · obtain ⟨hlt, rfl⟩ := hgo
    have hlt' : (us.length : Int) < n := by omega
    have hw1 : IntKind.i64.wrap ((us.length : Int) + 1) = ((us.length + 1 : Nat) : Int) := by rw [wrap_i64 (by omega) (by omega)]; rfl
    rw [show n - us.length = (n - (us.length + 1)) + 1 by omega, rlist_succ0] at hw
    simp only at hw
    have rd1 := rnumR_rd (e := 0) rd' 1500
    have hle1 := rnumR_le (l := l') (e := 0) 1500
    have hx : setP nmR l' 0 = rlist (itP nmR) (rnumR l' 0 1500).1 (rnumR l' 0 1500).2.1 (rnumR l' 0 1500).2.2 := rfl
    rw [hx] at hw
    generalize hR : rnumR l' 0 1500 = R at *
    have g4 : (h'.set o (robj R.2.1 R.2.2)).objs o = robj R.2.1 R.2.2 := set_objs_same _ _ _
    have gq : ∀ q, ¬ q = o → (h'.set o (robj R.2.1 R.2.2)).objs q = h'.objs q := fun q hne => set_objs_ne _ _ _ hne
    have gn : (h'.set o (robj R.2.1 R.2.2)).nobj = h'.nobj := rfl
    have gx : (h'.set o (robj R.2.1 R.2.2)).next = h'.next := rfl
    have ow2 := ow.set ho (robj R.2.1 R.2.2)
    simp [hlt', c4', robj]
    refine ecall (qnum (e := 0) L 1500 rd' (by omega) (by simp [c4', robj]) ?_)
    rw [hR]
    clear hR hx
    generalize h'.set o (robj R.2.1 R.2.2) = h2 at *
    simp [fillL]
    refine rdecode20_L1 L (h0 := h0) hle1 rd1 hn5 ho (by omega) (by omega) g4 ⟨ow2, Own.full ow2.gr 3 [], w3, by rw [gx]; exact ba, by omega⟩ fun h3 e3 st3 k3 v3 tw rd3 b3 nb3 hso3 => ?_
    generalize rlist (itP nmR) R.1 R.2.1 R.2.2 = R3 at *
    have d5 : h3.objs o5 = [.sl e1 st1 vs, .sl 0 1 []] := by rw [hso3 o5 (by omega) (fun e => hn5 e.symm), gq o5 (fun e => hn5 e.symm)]; exact c5'
    simp [d5, fillL, V.cells, V.good, V.isAgg]
    refine tw.a.appF (by simp) rfl (by simp; omega) fun o6 => ?_
    have hvs2 : WkS (vs ++ [.sl e3 st3 (R3.1.map itV)]) ((us ++ [R3.1]).map setV) := by
      rw [List.map_append]
      exact hvs.append (.cons tw.b.wk .nil)
    have o7 := o6.set ho5 [.sl 1 h3.next (vs ++ [.sl e3 st3 (R3.1.map itV)]), .sl 0 1 []]
    have f4 : ((h3.push st1 1).set o5 [.sl 1 h3.next (vs ++ [.sl e3 st3 (R3.1.map itV)]), .sl 0 1 []]).objs o = robj R3.2.1 R3.2.2 := by rw [set_objs_ne _ _ _ hn5, push_objs]; exact b3
    have f5 : ((h3.push st1 1).set o5 [.sl 1 h3.next (vs ++ [.sl e3 st3 (R3.1.map itV)]), .sl 0 1 []]).objs o5 = [.sl 1 h3.next (vs ++ [.sl e3 st3 (R3.1.map itV)]), .sl 0 1 []] := set_objs_same _ _ _
    have fq : ∀ q, q < h.nobj → ¬ q = o → ¬ q = o5 → ((h3.push st1 1).set o5 [.sl 1 h3.next (vs ++ [.sl e3 st3 (R3.1.map itV)]), .sl 0 1 []]).objs q = h.objs q := fun q hq h1 h2 => by
      rw [set_objs_ne _ _ _ h2, push_objs, hso3 q (by omega) h1, gq q h1]; exact hso q hq h1 h2
    have fn : ((h3.push st1 1).set o5 [.sl 1 h3.next (vs ++ [.sl e3 st3 (R3.1.map itV)]), .sl 0 1 []]).nobj = h3.nobj := by rw [set_nobj, push_nobj]
    have fx : h3.next < ((h3.push st1 1).set o5 [.sl 1 h3.next (vs ++ [.sl e3 st3 (R3.1.map itV)]), .sl 0 1 []]).next := by rw [set_next, push_next]; omega
    simp [push_objs, d5, setAt, V.cells, V.good, hw1]
    generalize (h3.push st1 1).set o5 [.sl 1 h3.next (vs ++ [.sl e3 st3 (R3.1.map itV)]), .sl 0 1 []] = h4 at *
    exact ⟨n - (us.length + 1), by omega, iv ⟨us ++ [R3.1], vs ++ [.sl e3 st3 (R3.1.map itV)], R3.2.1, R3.2.2, 1, h3.next, by simp; omega, by simp, by simp, rd3, f4, f5, o7, .inr fx, hvs2, by omega, fq, by rw [← hw]; simp⟩⟩
  · have hRp := stop (if he : e' = 0 then .inr (by have := fun hh => hgo ⟨hh, he⟩; omega) else .inl he)
    rw [hRp] at hQ
    simp only at hQ
    by_cases hl : (us.length : Int) < n
    · have he : ¬ e' = 0 := fun he => hgo ⟨by omega, he⟩
      simp [hl, c4', robj, he]
      exact hQ _ _ _ _ _ _ ow ba hvs rd' c4' c5' hnb hso
    · simp [hl]
      exact hQ _ _ _ _ _ _ ow ba hvs rd' c4' c5' hnb hso
theorem rdecode20_L2 (L : LQ X) {h0 h : AH} {o2 o o5 n : Nat} {c0 : V} {l : List Nat} {e : Int} (hn : n ≤ 17) (rd : RdR l) (hn5 : ¬ o = o5) (ho : h0.nobj ≤ o) (ho5 : h0.nobj ≤ o5) (lo : o < h.nobj) (lo5 : o5 < h.nobj) (gr : Gr h0 h)
    (b4 : h.objs o = robj l e) (b5 : h.objs o5 = [c0, .sl 0 1 []]) {Q : Ex → Env → AH → Prop} {zQ : Lz Q} {z : Lz (AC.loop A.probateref20_Decode.L2)}
    (hQ : ∀ h' e1 st1 k v, Own h0 h' 1 e1 st1 ((rlist (numsP nmR 2000 59) n l e).1.map leadV) → RdR (rlist (numsP nmR 2000 59) n l e).2.1 → h'.objs o = robj (rlist (numsP nmR 2000 59) n l e).2.1 (rlist (numsP nmR 2000 59) n l e).2.2 → h'.objs o5 = [c0, .sl e1 st1 ((rlist (numsP nmR 2000 59) n l e).1.map leadV)] → h.nobj ≤ h'.nobj →
      (∀ q, q < h.nobj → ¬ q = o → ¬ q = o5 → h'.objs q = h.objs q) →
      Q (.exit 4) [(2, .ptr o2 0), (4, .ptr o 0), (5, .ptr o5 0), (6, .int .i64 n), (12, .int .i64 k), (77, v)] h') :
    acZ (Ecx X) [(2, .ptr o2 0), (4, .ptr o 0), (5, .ptr o5 0), (6, .int .i64 n), (12, .int .i64 0)] h z zQ := by
  refine loopI (n := n) (fun r env h' => ∃ us l' e' e1 st1, us.length ≤ n ∧ r = n - us.length ∧ env = [(2, .ptr o2 0), (4, .ptr o 0), (5, .ptr o5 0), (6, .int .i64 n), (12, .int .i64 (us.length : Nat))] ∧ RdR l' ∧ h'.objs o = robj l' e' ∧ h'.objs o5 = [c0, .sl e1 st1 (us.map leadV)] ∧ Own h0 h' 1 e1 st1 (us.map leadV) ∧ h.nobj ≤ h'.nobj ∧
      (∀ q, q < h.nobj → ¬ q = o → ¬ q = o5 → h'.objs q = h.objs q) ∧ (us ++ (rlist (numsP nmR 2000 59) (n - us.length) l' e').1, (rlist (numsP nmR 2000 59) (n - us.length) l' e').2) = rlist (numsP nmR 2000 59) n l e) ?_
    ⟨[], l, e, 0, 1, by simp, by simp, rfl, rd, b4, b5, ⟨gr, .inl rfl, .inl rfl⟩, Nat.le_refl _, fun _ _ _ _ => rfl, rfl⟩
  rintro r env h' ⟨us, l', e', e1, st1, hj, rfl, rfl, rd', c4', c5', ow, hnb, hso, hw⟩
  unfold A.probateref20_Decode.L2
  have stop : (e' ≠ 0 ∨ us.length = n) → rlist (numsP nmR 2000 59) n l e = (us, l', e') := by
    intro e0
    rw [← hw]
    rcases e0 with e0 | e0
    · rw [rlist_e e0]; simp
    · rw [e0, Nat.sub_self]; simp [rlist]
  by_cases hgo : us.length < n ∧ e' = 0
  · obtain ⟨hlt, rfl⟩ := hgo
    have hlt' : (us.length : Int) < n := by omega
    have hw1 : IntKind.i64.wrap ((us.length : Int) + 1) = ((us.length + 1 : Nat) : Int) := by rw [wrap_i64 (by omega) (by omega)]; rfl
    rw [show n - us.length = (n - (us.length + 1)) + 1 by omega, rlist_succ0, numsP_rnumsR] at hw
    simp only at hw
    have rd1 := numsP_rd (e := 0) 2000 59 rd'
    have n5 : ¬ o5 = o := fun e => hn5 e.symm
    generalize hR : rnumsR l' 0 2000 59 = R at *
    have g4 : (h'.set o (robj R.2.1 R.2.2)).objs o = robj R.2.1 R.2.2 := set_objs_same _ _ _
    have gq : ∀ q, ¬ q = o → (h'.set o (robj R.2.1 R.2.2)).objs q = h'.objs q := fun q hne => set_objs_ne _ _ _ hne
    have gn : (h'.set o (robj R.2.1 R.2.2)).nobj = h'.nobj := rfl
    have ow2 := ow.set ho (robj R.2.1 R.2.2)
    have g5 := gq o5 n5
    rw [c5'] at g5
    simp [hlt', c4', robj, c5']
    refine dcallE (.sl 1 0 (i64s R.1)) (h'.set o (robj R.2.1 R.2.2)) (qnums (e := 0) L 2000 59 rd' (by omega) (by omega) (by simp [c4', robj]) (by rw [hR]; exact ⟨rfl, rfl⟩)) ?_
    clear hR
    generalize h'.set o (robj R.2.1 R.2.2) = h2 at *
    simp [c5', g5, fillL, V.cells, V.good, V.isAgg]
    refine ow2.appF (by simp) rfl (by simp; omega) fun o6 => ?_
    have hus2 : us.map leadV ++ [.sl 1 0 (i64s R.1)] = (us ++ [natI R.1]).map leadV := by simp [leadV, i64s_ints]
    rw [hus2] at o6 ⊢
    have o7 := o6.set ho5 [c0, .sl 1 h2.next ((us ++ [natI R.1]).map leadV)]
    have f4 : ((h2.push st1 1).set o5 [c0, .sl 1 h2.next ((us ++ [natI R.1]).map leadV)]).objs o = robj R.2.1 R.2.2 := by rw [set_objs_ne _ _ _ hn5, push_objs]; exact g4
    have f5 : ((h2.push st1 1).set o5 [c0, .sl 1 h2.next ((us ++ [natI R.1]).map leadV)]).objs o5 = [c0, .sl 1 h2.next ((us ++ [natI R.1]).map leadV)] := set_objs_same _ _ _
    have fq : ∀ q, q < h.nobj → ¬ q = o → ¬ q = o5 → ((h2.push st1 1).set o5 [c0, .sl 1 h2.next ((us ++ [natI R.1]).map leadV)]).objs q = h.objs q := fun q hq h1 h2 => by
      rw [set_objs_ne _ _ _ h2, push_objs, gq q h1]; exact hso q hq h1 h2
    have fn : ((h2.push st1 1).set o5 [c0, .sl 1 h2.next ((us ++ [natI R.1]).map leadV)]).nobj = h2.nobj := by rw [set_nobj, push_nobj]
    simp [push_objs, g5, setAt, V.cells, V.good, hw1, -List.map_append]
    generalize (h2.push st1 1).set o5 [c0, .sl 1 h2.next ((us ++ [natI R.1]).map leadV)] = h4 at *
    exact ⟨n - (us.length + 1), by omega, iv ⟨us ++ [natI R.1], R.2.1, R.2.2, 1, h2.next, by simp; omega, by simp, by simp, rd1, f4, f5, o7, by omega, fq, by rw [← hw]; simp⟩⟩
  · have hRp := stop (if he : e' = 0 then .inr (by have := fun hh => hgo ⟨hh, he⟩; omega) else .inl he)
    rw [hRp] at hQ
    simp only at hQ
    by_cases hl : (us.length : Int) < n
    · have he : ¬ e' = 0 := fun he => hgo ⟨by omega, he⟩
      simp [hl, c4', robj, he]
      exact hQ _ _ _ _ _ ow rd' c4' c5' hnb hso
    · simp [hl]
      exact hQ _ _ _ _ _ ow rd' c4' c5' hnb hso
end
end Go.Proofs.Ytpneojpgahegaaa.Al
namespace Go.Proofs.Ytpneojpgahegaaa.Al
open Go Go.RowKit
set_option linter.unusedSimpArgs false
set_option linter.unusedVariables false
attribute [-simp] List.getD_eq_getElem?_getD Int.not_lt Int.not_le List.map_take

theorem rlSet_rd : ∀ (n : Nat) {l : List Nat} {e : Int} (_ : RdR l), RdR (rlist (setP nmR) n l e).2.1 := by
  intro n
  induction n with
  | zero => intro l e r; exact r
  | succ n ih =>
    intro l e r
    unfold rlist
    split
    · exact r
    · exact ih (setP_rd r)
section
variable {X : Cx} {h : AH} {Q : V → AH → Prop}
theorem rdecode20_spec (L : LVR X) (b : List Nat) (hl : b.length ≤ maxLen) (hb : ∀ x ∈ b, x < 256) (hQ : Q (preadV b) h) : Ecx X K.probateref20_Decode [.sl 1 0 (u8s b)] h Q := by
  refine fn_walk L.decode (by simp [A.probateref20_Decode]) fun wf => ?_
  have rd0 : RdR b := ⟨hl, hb⟩
  unfold preadV at hQ
  rw [← readPfR_is] at hQ
  unfold readPfR at hQ
  have e1 : pfP nmR b 0 = pfP nmR b 0 := rfl
  conv at e1 => rhs; simp only [pfP, stepMap, seq2, rlP]
  rw [e1] at hQ
  simp only at hQ
  clear e1
  simp [A.probateref20_Decode, fillV, V.cells, V.good, setAt]
  refine ecall (qnum (e := 0) L.q 25 rd0 (by omega) (by simp [robj]) ?_)
  have rd1 := rnumR_rd (e := 0) rd0 25
  have hle1 := rnumR_le (l := b) (e := 0) 25
  simp only [nmR] at hQ
  generalize rnumR b 0 25 = r1 at *
  have gr0 : ∀ x y z, Gr h (((h.new x).new y).new z) := fun x y z => (((Gr.refl h).new _).new _).new _
  simp
  refine rdecode20_L0 (h0 := h) (e := r1.2.2) L.q wf.next hle1 rd1 (by omega) (by omega) (by omega) (by simp) (by simp) (gr0 _ _ _) (by simp) (by simp) fun h2 e2 st2 vs k2 v2 ow2 ba2 wks rd2 b2 b52 nb2 hso2 => ?_
  have ba7 : h2.objs h.nobj = [.sl 0 1 [], .sl 0 1 []] := by
    rw [hso2 _ (by simp; omega) (by omega) (by omega)]; simp
  have nb2' : h.nobj + 3 ≤ h2.nobj := by simp at nb2; omega
  generalize hR2 : rlist (setP nmR) r1.1 r1.2.1 r1.2.2 = R2 at *
  have wsets := wkOwnS ow2 wks
  clear hso2 nb2
  simp
  refine ecall (qnum (e := R2.2.2) L.q 17 rd2 (by omega) b2 ?_)
  have rd3 := rnumR_rd (e := R2.2.2) rd2 17
  have hle3 := rnumR_le (l := R2.2.1) (e := R2.2.2) 17
  generalize rnumR R2.2.1 R2.2.2 17 = r3 at *
  have g4 : (h2.set (h.nobj + 1) (robj r3.2.1 r3.2.2)).objs (h.nobj + 1) = robj r3.2.1 r3.2.2 := set_objs_same _ _ _
  have g5 : (h2.set (h.nobj + 1) (robj r3.2.1 r3.2.2)).objs (h.nobj + 2) = [.sl e2 st2 vs, .sl 0 1 []] := by rw [set_objs_ne _ _ _ (by omega)]; exact b52
  have g0 : (h2.set (h.nobj + 1) (robj r3.2.1 r3.2.2)).objs h.nobj = [.sl 0 1 [], .sl 0 1 []] := by rw [set_objs_ne _ _ _ (by omega)]; exact ba7
  have gn : (h2.set (h.nobj + 1) (robj r3.2.1 r3.2.2)).nobj = h2.nobj := rfl
  have gg : Gr h (h2.set (h.nobj + 1) (robj r3.2.1 r3.2.2)) := ow2.gr.set (by omega) _
  generalize h2.set (h.nobj + 1) (robj r3.2.1 r3.2.2) = h3 at *
  simp
  refine rdecode20_L2 (h0 := h) (e := r3.2.2) L.q hle3 rd3 (by omega) (by omega) (by omega) (by omega) (by omega) gg g4 g5 fun h7 e7 st7 k7 v7 o7 rd7 b7 b57 nb7 hso7 => ?_
  have ba7' : h7.objs h.nobj = [.sl 0 1 [], .sl 0 1 []] := by
    rw [hso7 _ (by omega) (by omega) (by omega)]; exact g0
  generalize rlist (numsP nmR 2000 59) r3.1 r3.2.1 r3.2.2 = r7 at *
  have hg7 : ∀ z, Gr h (h7.set h.nobj z) := fun z => o7.gr.set (by omega) z
  have wz : Wk (.agg [.sl 0 1 [], .sl 0 1 []]) (pfV zeroPf) := pf_zero_wk
  have wv : Wk (.agg [.sl e2 st2 vs, .sl e7 st7 (r7.1.map leadV)]) (pfV ⟨R2.1, r7.1⟩) := Wk.aggL (.cons wsets (.cons o7.wk .nil))
  simp
  refine ecall (qend (e := r7.2.2) L.q b7 ?_)
  by_cases hr : rend (absR (r7.2.1, r7.2.2)).1 (absR (r7.2.1, r7.2.2)).2 = 0
  · rw [if_neg (by simpa using hr)] at hQ
    simp [hr, b57, ba7', setAt, V.cells, V.good, fillV]
    exact fin_wk (hg7 _) (Wk.t2 wv _) (by simp [pfV, pfC]; exact ⟨encSet.cells _ _ _, encLead.cells _ _ _⟩) hQ
  · rw [if_pos (by simpa using hr)] at hQ
    simp [hr, fillV, ba7', setAt, V.cells, V.good]
    refine ecall (qend (e := r7.2.2) L.q b7 ?_)
    simp [ba7', setAt, V.cells, V.good]
    exact fin_wk (hg7 _) (Wk.t2 wz _) (by simp [pfV, pfC, zeroPf, cellsOf]) hQ
end
end Go.Proofs.Ytpneojpgahegaaa.Al
