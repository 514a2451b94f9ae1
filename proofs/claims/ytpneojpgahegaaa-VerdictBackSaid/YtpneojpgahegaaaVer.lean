/-
  Layer 20: verdicts and proofs, what may be, and what bytes are, in plain lists and by the abstract layer. Conditions: each theorem's own.
-/
import Derived.Test.YtpneojpgahegaaaSim
import Derived.Test.YtpneojpgahegaaaSlices
import Derived.Test.YtpneojpgahegaaaAlFverdict
import Derived.Test.YtpneojpgahegaaaAlFlib
namespace Go.Proofs.Ytpneojpgahegaaa.Al
open Go Go.RowKit
set_option linter.unusedSimpArgs false
set_option linter.unusedVariables false
attribute [-simp] List.getD_eq_getElem?_getD Int.not_lt Int.not_le List.map_take

/-- What is said of a word, and what shows it. -/
structure Vd where
  kind : Int
  tree : List Int
  sure : Bool
  at' : Int
  expect : Int
  edits : List Ed
  deriving DecidableEq
structure It where
  prod : Int
  dot : Int
  frm : Int
  deriving DecidableEq
structure Pf where
  sets : List (List It)
  leads : List (List Int)
  deriving DecidableEq
def vdC (v : Vd) : List V := [.int .i64 v.kind, .sl 1 0 (ints v.tree), .bool v.sure, .int .i64 v.at', .int .u32 v.expect, .sl 3 0 (v.edits.map edV)]
def vdV (v : Vd) : V := .agg (vdC v)
def itC (x : It) : List V := [.int .i64 x.prod, .int .i64 x.dot, .int .i64 x.frm]
def itV (x : It) : V := .agg (itC x)
def setV (l : List It) : V := .sl 3 0 (l.map itV)
def leadV (l : List Int) : V := .sl 1 0 (ints l)
def pfC (p : Pf) : List V := [.sl 1 0 (p.sets.map setV), .sl 1 0 (p.leads.map leadV)]
def pfV (p : Pf) : V := .agg (pfC p)
theorem encEd : Enc edV 3 true := ⟨fun _ => rfl, fun _ => rfl, fun _ => rfl, fun a n m v hv => by simp [edV, edC, V.cells] at hv; rcases hv with rfl | rfl | rfl <;> simp⟩
theorem encIt : Enc itV 3 true := ⟨fun _ => rfl, fun _ => rfl, fun _ => rfl, fun a n m v hv => by simp [itV, itC, V.cells] at hv; rcases hv with rfl | rfl | rfl <;> simp⟩
theorem encInt : Enc (fun n : Int => V.int .i64 n) 1 false := ⟨fun _ => rfl, fun _ => rfl, fun _ => rfl, fun a n m v hv => by simp [V.cells] at hv; subst hv; simp⟩
theorem encSet : Enc setV 1 false := ⟨fun _ => rfl, fun _ => rfl, fun _ => rfl, fun a n m v hv => by
  simp [setV, V.cells] at hv; subst hv
  rw [Bdd_sl0]; exact ⟨.inl (by omega), encIt.cells n m a⟩⟩
theorem encLead : Enc leadV 1 false := ⟨fun _ => rfl, fun _ => rfl, fun _ => rfl, fun a n m v hv => by
  simp [leadV, V.cells] at hv; subst hv
  rw [Bdd_sl0]; exact ⟨.inl (by omega), Bdd_ints n m a⟩⟩
/-! ### What may be -/
def within (n m : Int) : Bool := decide (0 ≤ n) && decide (n ≤ m)
def derivB (l : List Int) : Bool := decide (l.length ≤ 2000) && l.all fun p => within p 59
def edB (x : Ed) : Bool := within x.at' 24 && within x.tok 15
def bareB (v : Vd) : Bool :=
  !(!(decide (v.kind = 1) || decide (v.kind = 3)) && decide (0 < v.tree.length)) && !(!decide (v.kind = 1) && v.sure) &&
  !(!(decide (v.kind = 2) || decide (v.kind = 3)) && (!decide (v.at' = 0) || !decide (v.expect = 0))) && !(!decide (v.kind = 3) && decide (0 < v.edits.length))
def mayV (v : Vd) : Bool := decide (1 ≤ v.kind) && decide (v.kind ≤ 4) && bareB v && derivB v.tree && within v.at' 24 && decide (v.expect ≤ 131071) && decide (v.edits.length ≤ 100) && v.edits.all edB
def itB (x : It) : Bool := within x.prod 59 && within x.dot 8 && within x.frm 24
def rightPf (p : Pf) : Bool := decide (p.sets.length ≤ 25) && decide (p.leads.length ≤ 17) && (p.sets.all fun s => decide (s.length ≤ 1500) && s.all itB) && p.leads.all derivB
theorem within_iff {n m : Int} : within n m = true ↔ 0 ≤ n ∧ n ≤ m := by simp [within]
theorem derivB_iff {l : List Int} : derivB l = true ↔ l.length ≤ 2000 ∧ ∀ p ∈ l, 0 ≤ p ∧ p ≤ 59 := by
  simp only [derivB, Bool.and_eq_true, decide_eq_true_eq, List.all_eq_true, within_iff]
theorem edB_iff {x : Ed} : edB x = true ↔ (0 ≤ x.at' ∧ x.at' ≤ 24) ∧ (0 ≤ x.tok ∧ x.tok ≤ 15) := by simp only [edB, Bool.and_eq_true, within_iff]
theorem itB_iff {x : It} : itB x = true ↔ ((0 ≤ x.prod ∧ x.prod ≤ 59) ∧ (0 ≤ x.dot ∧ x.dot ≤ 8)) ∧ (0 ≤ x.frm ∧ x.frm ≤ 24) := by simp only [itB, Bool.and_eq_true, within_iff]
theorem mayV_iff {v : Vd} : mayV v = true ↔ (1 ≤ v.kind ∧ v.kind ≤ 4) ∧ bareB v = true ∧ derivB v.tree = true ∧ (0 ≤ v.at' ∧ v.at' ≤ 24) ∧ v.expect ≤ 131071 ∧ v.edits.length ≤ 100 ∧ ∀ x ∈ v.edits, edB x = true := by
  simp only [mayV, Bool.and_eq_true, decide_eq_true_eq, within_iff, List.all_eq_true, and_assoc]
theorem rightPf_iff {p : Pf} : rightPf p = true ↔ p.sets.length ≤ 25 ∧ p.leads.length ≤ 17 ∧ (∀ s ∈ p.sets, s.length ≤ 1500 ∧ ∀ x ∈ s, itB x = true) ∧ ∀ l ∈ p.leads, derivB l = true := by
  simp only [rightPf, Bool.and_eq_true, decide_eq_true_eq, List.all_eq_true, and_assoc]
/-! ### Bytes -/
def boolN (b : Bool) : Nat := if b then 1 else 0
def edBy (x : Ed) : List Nat := vput x.at'.toNat ++ (vput (boolN x.drop) ++ vput x.tok.toNat)
def intsBy (l : List Int) : List Nat := vput l.length ++ l.flatMap fun n => vput n.toNat
def vdBy (v : Vd) : List Nat := vput v.kind.toNat ++ (intsBy v.tree ++ (vput (boolN v.sure) ++ (vput v.at'.toNat ++ (vput v.expect.toNat ++ (vput v.edits.length ++ v.edits.flatMap edBy)))))
def itBy (x : It) : List Nat := vput x.prod.toNat ++ (vput x.dot.toNat ++ vput x.frm.toNat)
def setBy (s : List It) : List Nat := vput s.length ++ s.flatMap itBy
def pfBy (p : Pf) : List Nat := (vput p.sets.length ++ p.sets.flatMap setBy) ++ (vput p.leads.length ++ p.leads.flatMap intsBy)
def vbytR (v : Vd) : List Nat × Int := if mayV v = false then ([], 1) else (vdBy v, 0)
def vbytV (v : Vd) : V := .tup [.sl 1 0 (u8s (vbytR v).1), .int .i64 (vbytR v).2]
def pbytR (p : Pf) : List Nat × Int := if rightPf p = false then ([], 1) else (pfBy p, 0)
def pbytV (p : Pf) : V := .tup [.sl 1 0 (u8s (pbytR p).1), .int .i64 (pbytR p).2]
/-! ### Steps -/
abbrev nm (m : Nat) : Step Nat := fun l e => rnum l e m
def nInt (m : Nat) (st : Step Nat) : Step Int := stepMap (fun n => ((n : Nat) : Int)) st
def isOne (n : Nat) : Bool := decide (n = 1)
def nBool (st : Step Nat) : Step Bool := stepMap isOne st
theorem canonI (m : Nat) (hm : m < 2 ^ 63) : Canon (nInt m (nm m)) (fun n => vput n.toNat) (fun n => 0 ≤ n ∧ n ≤ m) :=
  (canon_num m hm).map (fun n => ((n : Nat) : Int)) Int.toNat _ (fun n hn => ⟨⟨by omega, by omega⟩, by omega⟩) (fun n hn => ⟨by omega, by omega⟩)
theorem canonB : Canon (nBool (nm 1)) (fun b => vput (boolN b)) (fun _ => True) :=
  (canon_num 1 (by omega)).map isOne boolN _ (fun n hn => ⟨trivial, by unfold boolN isOne; by_cases c : n = 1 <;> simp [c]; omega⟩) (fun b _ => ⟨by cases b <;> simp [boolN], by cases b <;> simp [boolN, isOne]⟩)
def stepInts (many most : Nat) : Step (List Int) := rread (nInt most (nm most)) many
theorem canonInts (many most : Nat) (h1 : many < 2 ^ 63) (h2 : most < 2 ^ 63) : Canon (stepInts many most) intsBy (fun l => l.length ≤ many ∧ ∀ n ∈ l, 0 ≤ n ∧ n ≤ most) := (canonI most h2).rread many h1
def stepEd : Step Ed := stepMap (fun p : Int × Bool × Int => ⟨p.1, p.2.1, p.2.2⟩) (seq2 (nInt 24 (nm 24)) (seq2 (nBool (nm 1)) (nInt 15 (nm 15))))
theorem canonEd : Canon stepEd edBy (fun x => edB x = true) :=
  ((canonI 24 (by omega)).seq (canonB.seq (canonI 15 (by omega)))).map _ (fun x : Ed => (x.at', x.drop, x.tok)) _
    (fun p hp => ⟨edB_iff.2 ⟨⟨hp.1.1, hp.1.2⟩, hp.2.2.1, hp.2.2.2⟩, rfl⟩) (fun x hx => ⟨by have := edB_iff.1 hx; exact ⟨⟨this.1.1, this.1.2⟩, trivial, this.2.1, this.2.2⟩, rfl⟩)
def stepVd : Step Vd := stepMap (fun p : Int × List Int × Bool × Int × Int × List Ed => ⟨p.1, p.2.1, p.2.2.1, p.2.2.2.1, p.2.2.2.2.1, p.2.2.2.2.2⟩)
  (seq2 (nInt 4 (nm 4)) (seq2 (stepInts 2000 59) (seq2 (nBool (nm 1)) (seq2 (nInt 24 (nm 24)) (seq2 (nInt 131071 (nm 131071)) (rread stepEd 100))))))
structure OkVd (v : Vd) : Prop where
  kind : 0 ≤ v.kind ∧ v.kind ≤ 4
  tree : derivB v.tree = true
  at' : 0 ≤ v.at' ∧ v.at' ≤ 24
  expect : 0 ≤ v.expect ∧ v.expect ≤ 131071
  edits : v.edits.length ≤ 100 ∧ ∀ x ∈ v.edits, edB x = true
theorem canonVd : Canon stepVd vdBy OkVd :=
  ((canonI 4 (by omega)).seq ((canonInts 2000 59 (by omega) (by omega)).seq (canonB.seq ((canonI 24 (by omega)).seq ((canonI 131071 (by omega)).seq (canonEd.rread 100 (by omega))))))).map _
    (fun v : Vd => (v.kind, v.tree, v.sure, v.at', v.expect, v.edits)) _
    (fun p hp => ⟨⟨hp.1, derivB_iff.2 hp.2.1, hp.2.2.2.1, hp.2.2.2.2.1, hp.2.2.2.2.2⟩, rfl⟩)
    (fun v hv => ⟨⟨hv.kind, derivB_iff.1 hv.tree, trivial, hv.at', hv.expect, hv.edits⟩, rfl⟩)
theorem mayV_ok {v : Vd} (h0 : 0 ≤ v.expect) (h : mayV v = true) : OkVd v := by
  obtain ⟨a, b, c, d, e, f, g⟩ := mayV_iff.1 h
  exact ⟨⟨by omega, a.2⟩, c, d, ⟨h0, e⟩, f, g⟩
def stepIt : Step It := stepMap (fun p : Int × Int × Int => ⟨p.1, p.2.1, p.2.2⟩) (seq2 (nInt 59 (nm 59)) (seq2 (nInt 8 (nm 8)) (nInt 24 (nm 24))))
theorem canonIt : Canon stepIt itBy (fun x => itB x = true) :=
  ((canonI 59 (by omega)).seq ((canonI 8 (by omega)).seq (canonI 24 (by omega)))).map _ (fun x : It => (x.prod, x.dot, x.frm)) _
    (fun p hp => ⟨itB_iff.2 ⟨⟨hp.1, hp.2.1⟩, hp.2.2⟩, rfl⟩) (fun x hx => ⟨by have := itB_iff.1 hx; exact ⟨this.1.1, this.1.2, this.2⟩, rfl⟩)
def stepSet : Step (List It) := rread stepIt 1500
def stepPf : Step Pf := stepMap (fun p : List (List It) × List (List Int) => ⟨p.1, p.2⟩) (seq2 (rread stepSet 25) (rread (stepInts 2000 59) 17))
theorem canonPf : Canon stepPf pfBy (fun p => rightPf p = true) :=
  (((canonIt.rread 1500 (by omega)).rread 25 (by omega)).seq ((canonInts 2000 59 (by omega) (by omega)).rread 17 (by omega))).map _ (fun p : Pf => (p.sets, p.leads)) _
    (fun p hp => ⟨rightPf_iff.2 ⟨hp.1.1, hp.2.1, hp.1.2, fun l hl => derivB_iff.2 (hp.2.2 l hl)⟩, rfl⟩)
    (fun p hp => ⟨by have := rightPf_iff.1 hp; exact ⟨⟨this.1, this.2.2.1⟩, this.2.1, fun l hl => derivB_iff.1 (this.2.2.2 l hl)⟩, rfl⟩)
/-! ### What bytes are -/
def zeroVd : Vd := ⟨0, [], false, 0, 0, []⟩
def zeroPf : Pf := ⟨[], []⟩
def readVd (b : List Nat) : Vd × Int :=
  if rend (stepVd b 0).2.1 (stepVd b 0).2.2 ≠ 0 then (zeroVd, rend (stepVd b 0).2.1 (stepVd b 0).2.2) else if mayV (stepVd b 0).1 = false then (zeroVd, 2) else ((stepVd b 0).1, 0)
def readPf (b : List Nat) : Pf × Int :=
  if rend (stepPf b 0).2.1 (stepPf b 0).2.2 ≠ 0 then (zeroPf, rend (stepPf b 0).2.1 (stepPf b 0).2.2) else ((stepPf b 0).1, 0)
def vreadV (b : List Nat) : V := .tup [vdV (readVd b).1, .int .i64 (readVd b).2]
def preadV (b : List Nat) : V := .tup [pfV (readPf b).1, .int .i64 (readPf b).2]
theorem readVd_canon {b : List Nat} (hb : ∀ x ∈ b, x < 256) (h : (readVd b).2 = 0) : mayV (readVd b).1 = true ∧ OkVd (readVd b).1 ∧ vdBy (readVd b).1 = b := by
  unfold readVd at h ⊢
  by_cases he : rend (stepVd b 0).2.1 (stepVd b 0).2.2 = 0
  · rw [if_neg (by simp [he])] at h ⊢
    cases hr : mayV (stepVd b 0).1 with
    | false => rw [hr] at h; simp at h
    | true =>
      obtain ⟨h1, h2⟩ := rend_zero he
      rw [if_neg (by simp)]
      obtain ⟨h3, h4⟩ := canonVd.back b (stepVd b 0).1 [] hb (Prod.ext rfl (Prod.ext h1 h2))
      exact ⟨hr, h4, by simpa using h3.symm⟩
  · rw [if_pos he] at h; exact absurd h he
theorem readVd_by {v : Vd} (h0 : 0 ≤ v.expect) (h : mayV v = true) : readVd (vdBy v) = (v, 0) := by
  have := canonVd.read v [] (mayV_ok h0 h)
  rw [List.append_nil] at this
  unfold readVd
  rw [this]
  simp [rend, h]
theorem vdBy_inj {v u : Vd} (h0 : 0 ≤ v.expect) (h1 : 0 ≤ u.expect) (hv : mayV v = true) (hu : mayV u = true) (h : vdBy v = vdBy u) : v = u := canonVd.inj (mayV_ok h0 hv) (mayV_ok h1 hu) h
theorem readPf_canon {b : List Nat} (hb : ∀ x ∈ b, x < 256) (h : (readPf b).2 = 0) : rightPf (readPf b).1 = true ∧ pfBy (readPf b).1 = b := by
  unfold readPf at h ⊢
  by_cases he : rend (stepPf b 0).2.1 (stepPf b 0).2.2 = 0
  · rw [if_neg (by simp [he])]
    obtain ⟨h1, h2⟩ := rend_zero he
    obtain ⟨h3, h4⟩ := canonPf.back b (stepPf b 0).1 [] hb (Prod.ext rfl (Prod.ext h1 h2))
    exact ⟨h4, by simpa using h3.symm⟩
  · rw [if_pos he] at h; exact absurd h he
theorem readPf_by {p : Pf} (h : rightPf p = true) : readPf (pfBy p) = (p, 0) := by
  have := canonPf.read p [] h
  rw [List.append_nil] at this
  unfold readPf
  rw [this]
  simp [rend]
theorem pfBy_inj {p q : Pf} (hp : rightPf p = true) (hq : rightPf q = true) (h : pfBy p = pfBy q) : p = q := canonPf.inj hp hq h
end Go.Proofs.Ytpneojpgahegaaa.Al
namespace Go.Proofs.Ytpneojpgahegaaa.Al
open Go Go.RowKit
set_option linter.unusedSimpArgs false
set_option linter.unusedVariables false
attribute [-simp] List.getD_eq_getElem?_getD Int.not_lt Int.not_le List.map_take

section
variable {X : Cx} {h : AH} {Q : V → AH → Prop}
/-- What layer 20's program calls, below its bytes. -/
structure LV (X : Cx) : Prop where
  within : Has (Ecx X) K.verdict_within A.verdict_within
  deriv : Has (Ecx X) K.verdict_derivation A.verdict_derivation
  deriv1 : Has (Ecx X) K.verdict_derivation_1 A.verdict_derivation_1
  bare : Has (Ecx X) K.verdict_Verdict_bare A.verdict_Verdict_bare
  may1 : Has (Ecx X) K.verdict_May_1 A.verdict_May_1
  may : Has (Ecx X) K.verdict_May A.verdict_May
  odd : Has (Ecx X) K.verdict_odd A.verdict_odd
  right1 : Has (Ecx X) K.verdict_Right_1 A.verdict_Right_1
  right2 : Has (Ecx X) K.verdict_Right_2 A.verdict_Right_2
  right : Has (Ecx X) K.verdict_Right A.verdict_Right
  ctE : Has (Ecx X) K.slices_ContainsFunc_Edit (ctfF K.slices_IndexFunc_Edit)
  ixE : Has (Ecx X) K.slices_IndexFunc_Edit (ixfF 3 true)
  ctI : Has (Ecx X) K.slices_ContainsFunc_int_2 (ctfF K.slices_IndexFunc_int_2)
  ixI : Has (Ecx X) K.slices_IndexFunc_int_2 (ixfF 1 false)
  ctT : Has (Ecx X) K.slices_ContainsFunc_Item (ctfF K.slices_IndexFunc_Item)
  ixT : Has (Ecx X) K.slices_IndexFunc_Item (ixfF 3 true)
  ctS : Has (Ecx X) K.slices_ContainsFunc_Item_2 (ctfF K.slices_IndexFunc_Item_2)
  ixS : Has (Ecx X) K.slices_IndexFunc_Item_2 (ixfF 1 false)
  ctL : Has (Ecx X) K.slices_ContainsFunc_int (ctfF K.slices_IndexFunc_int)
  ixL : Has (Ecx X) K.slices_IndexFunc_int (ixfF 1 false)
theorem ctE_is : A.slices_ContainsFunc_Edit = ctfF K.slices_IndexFunc_Edit := rfl
theorem ixE_is : A.slices_IndexFunc_Edit = ixfF 3 true := rfl
theorem ctI_is : A.slices_ContainsFunc_int_2 = ctfF K.slices_IndexFunc_int_2 := rfl
theorem ixI_is : A.slices_IndexFunc_int_2 = ixfF 1 false := rfl
theorem ctT_is : A.slices_ContainsFunc_Item = ctfF K.slices_IndexFunc_Item := rfl
theorem ixT_is : A.slices_IndexFunc_Item = ixfF 3 true := rfl
theorem ctS_is : A.slices_ContainsFunc_Item_2 = ctfF K.slices_IndexFunc_Item_2 := rfl
theorem ixS_is : A.slices_IndexFunc_Item_2 = ixfF 1 false := rfl
theorem ctL_is : A.slices_ContainsFunc_int = ctfF K.slices_IndexFunc_int := rfl
theorem ixL_is : A.slices_IndexFunc_int = ixfF 1 false := rfl
theorem within_spec (H : Has (Ecx X) K.verdict_within A.verdict_within) (n m : Int) (hQ : Q (.bool (within n m)) h) : Ecx X K.verdict_within [.int .i64 n, .int .i64 m] h Q := by
  refine fn_walk H (by simp [A.verdict_within]) fun wf => ?_
  unfold within at hQ
  by_cases c1 : 0 ≤ n
  · by_cases c2 : n ≤ m <;> simp [A.verdict_within, c1, c2] at hQ ⊢ <;> exact fin (by simp) hQ
  · simp [A.verdict_within, c1] at hQ ⊢; exact fin (by simp) hQ
theorem deriv1_spec (L : LV X) (n : Int) (hQ : Q (.bool (!within n 59)) h) : Ecx X K.verdict_derivation_1 [.int .i64 n] h Q := by
  refine fn_walk L.deriv1 (by simp [A.verdict_derivation_1]) fun wf => ?_
  simp [A.verdict_derivation_1]
  refine ecall (within_spec L.within n 59 ?_)
  simp
  exact fin (by simp) hQ
theorem nany {α : Type} (f : α → Bool) : ∀ l : List α, (!l.any fun a => !f a) = l.all f
  | [] => rfl
  | a :: l => by have := nany f l; simp only [List.any_cons, List.all_cons, Bool.not_or, Bool.not_not, this]
theorem deriv_spec (L : LV X) (l : List Int) (s : Nat) (hl : l.length < 2 ^ 62) (hQ : Q (.bool (derivB l)) h) : Ecx X K.verdict_derivation [.sl 1 s (ints l)] h Q := by
  refine fn_walk L.deriv (by simp [A.verdict_derivation]) fun wf => ?_
  unfold derivB at hQ
  by_cases c : l.length ≤ 2000
  · have c' : (l.length : Int) ≤ 2000 := by omega
    simp [c] at hQ
    simp [A.verdict_derivation, c']
    refine ecall (containsFunc encInt L.ctI L.ixI l s _ [] _ (fun p => !within p 59) hl (fun p _ Q' h' _ hQ' => deriv1_spec L p hQ') ?_)
    simp [nany]
    exact fin (by simp) hQ
  · have c' : ¬ (l.length : Int) ≤ 2000 := by omega
    simp [c] at hQ
    simp [A.verdict_derivation, c']
    exact fin (by simp) hQ
theorem odd_spec (L : LV X) (x : It) (hQ : Q (.bool (!itB x)) h) : Ecx X K.verdict_odd [itV x] h Q := by
  refine fn_walk L.odd (by simp [A.verdict_odd]) fun wf => ?_
  have gr := (Gr.refl h).new (itC x)
  have ob : (h.new (itC x)).objs h.nobj = itC x := new_objs_same _ _
  unfold itB at hQ
  simp [A.verdict_odd, itV, V.cells, V.good]
  generalize h.new (itC x) = h2 at *
  simp [ob, itC]
  refine ecall (within_spec L.within x.prod 59 ?_)
  cases c1 : within x.prod 59 with
  | false => rw [c1] at hQ; simp at hQ ⊢; exact fin_wk gr (.same _) (by simp) hQ
  | true =>
  rw [c1] at hQ
  simp [ob, itC]
  refine ecall (within_spec L.within x.dot 8 ?_)
  cases c2 : within x.dot 8 with
  | false => rw [c2] at hQ; simp at hQ ⊢; exact fin_wk gr (.same _) (by simp) hQ
  | true =>
  rw [c2] at hQ
  simp [ob, itC]
  refine ecall (within_spec L.within x.frm 24 ?_)
  simp at hQ ⊢
  exact fin_wk gr (.same _) (by simp) hQ
theorem may1_spec (L : LV X) (x : Ed) (hQ : Q (.bool (!edB x)) h) : Ecx X K.verdict_May_1 [edV x] h Q := by
  refine fn_walk L.may1 (by simp [A.verdict_May_1]) fun wf => ?_
  have gr := (Gr.refl h).new (edC x)
  have ob : (h.new (edC x)).objs h.nobj = edC x := new_objs_same _ _
  unfold edB at hQ
  simp [A.verdict_May_1, edV, V.cells, V.good]
  generalize h.new (edC x) = h2 at *
  simp [ob, edC]
  refine ecall (within_spec L.within x.at' 24 ?_)
  cases c1 : within x.at' 24 with
  | false => rw [c1] at hQ; simp at hQ ⊢; exact fin_wk gr (.same _) (by simp) hQ
  | true =>
  rw [c1] at hQ
  simp [ob, edC]
  refine ecall (within_spec L.within x.tok 15 ?_)
  simp at hQ ⊢
  exact fin_wk gr (.same _) (by simp) hQ
theorem right2_spec (L : LV X) (l : List Int) (hl : l.length < 2 ^ 62) (hQ : Q (.bool (!derivB l)) h) : Ecx X K.verdict_Right_2 [leadV l] h Q := by
  refine fn_walk L.right2 (by simp [A.verdict_Right_2]) fun wf => ?_
  simp [A.verdict_Right_2, leadV]
  refine ecall (deriv_spec L l 0 hl ?_)
  simp
  exact fin (by simp) hQ
theorem right1V_spec (L : LV X) (l : List It) (hl : l.length < 2 ^ 62) (hQ : Q (.bool (!(decide (l.length ≤ 1500) && l.all itB))) h) : Ecx X K.verdict_Right_1 [setV l] h Q := by
  refine fn_walk L.right1 (by simp [A.verdict_Right_1]) fun wf => ?_
  by_cases c : l.length ≤ 1500
  · have c' : ¬ (1500 : Int) < l.length := by omega
    simp [c] at hQ
    simp [A.verdict_Right_1, setV, c']
    refine ecall (containsFunc encIt L.ctT L.ixT l 0 _ [] _ (fun x => !itB x) hl (fun x _ Q' h' _ hQ' => odd_spec L x hQ') ?_)
    simp
    refine fin (by simp) ?_
    rw [show (l.any fun x => !itB x) = !l.all itB by rw [← nany, Bool.not_not]]; simpa using hQ
  · have c' : (1500 : Int) < l.length := by omega
    simp [c] at hQ
    simp [A.verdict_Right_1, setV, c']
    exact fin (by simp) hQ
structure PfOk (p : Pf) : Prop where
  sets : p.sets.length < 2 ^ 62
  leads : p.leads.length < 2 ^ 62
  set : ∀ s ∈ p.sets, s.length < 2 ^ 62
  lead : ∀ l ∈ p.leads, l.length < 2 ^ 62
theorem rightV_spec (L : LV X) (p : Pf) (ok : PfOk p) (hQ : Q (.bool (rightPf p)) h) : Ecx X K.verdict_Right [pfV p] h Q := by
  refine fn_walk L.right (by simp [A.verdict_Right]) fun wf => ?_
  have gr := (Gr.refl h).new (pfC p)
  have ob : (h.new (pfC p)).objs h.nobj = pfC p := new_objs_same _ _
  unfold rightPf at hQ
  simp [A.verdict_Right, pfV, V.cells, V.good]
  generalize h.new (pfC p) = h2 at *
  simp [ob, pfC]
  by_cases c1 : p.sets.length ≤ 25
  case neg =>
    have c1' : ¬ (p.sets.length : Int) ≤ 25 := by omega
    simp [c1] at hQ; simp [c1']; exact fin_wk gr (.same _) (by simp) hQ
  have c1' : (p.sets.length : Int) ≤ 25 := by omega
  by_cases c2 : p.leads.length ≤ 17
  case neg =>
    have c2' : ¬ (p.leads.length : Int) ≤ 17 := by omega
    simp [c1, c2] at hQ; simp [c1', c2', ob, pfC]; exact fin_wk gr (.same _) (by simp) hQ
  have c2' : (p.leads.length : Int) ≤ 17 := by omega
  simp [c1, c2] at hQ
  simp [c1', c2', ob, pfC]
  refine ecall (containsFunc encSet L.ctS L.ixS p.sets 0 _ [] _ (fun s => !(decide (s.length ≤ 1500) && s.all itB)) ok.sets (fun s hs Q' h' _ hQ' => right1V_spec L s (ok.set s hs) hQ') ?_)
  cases hs : p.sets.all fun s => decide (s.length ≤ 1500) && s.all itB with
  | false =>
    have : (p.sets.any fun s => !(decide (s.length ≤ 1500) && s.all itB)) = true := by rw [← Bool.not_not (List.any _ _), nany, hs]; rfl
    rw [hs] at hQ; simp at hQ
    rw [this]
    simp
    exact fin_wk gr (.same _) (by simp) hQ
  | true =>
    have : (p.sets.any fun s => !(decide (s.length ≤ 1500) && s.all itB)) = false := by rw [← Bool.not_not (List.any _ _), nany, hs]; rfl
    rw [hs] at hQ; simp at hQ
    rw [this]
    simp [ob, pfC]
    refine ecall (containsFunc encLead L.ctL L.ixL p.leads 0 _ [] _ (fun l => !derivB l) ok.leads (fun l hl Q' h' _ hQ' => right2_spec L l (ok.lead l hl) hQ') ?_)
    have e2 : (p.leads.any fun l => !derivB l) = !p.leads.all derivB := by rw [← nany, Bool.not_not]
    rw [e2]
    simp
    exact fin_wk gr (.same _) (by simp) (by simpa using hQ)
end
end Go.Proofs.Ytpneojpgahegaaa.Al
namespace Go.Proofs.Ytpneojpgahegaaa.Al
open Go Go.RowKit
set_option linter.unusedSimpArgs false
set_option linter.unusedVariables false
attribute [-simp] List.getD_eq_getElem?_getD Int.not_lt Int.not_le List.map_take

section
variable {X : Cx} {h : AH} {Q : V → AH → Prop}
theorem bare_spec (L : LV X) (v : Vd) (hQ : Q (.bool (bareB v)) h) : Ecx X K.verdict_Verdict_bare [vdV v] h Q := by
  refine fn_walk L.bare (by simp [A.verdict_Verdict_bare]) fun wf => ?_
  have gr := (Gr.refl h).new (vdC v)
  have ob : (h.new (vdC v)).objs h.nobj = vdC v := new_objs_same _ _
  unfold bareB at hQ
  simp [A.verdict_Verdict_bare, vdV, V.cells, V.good]
  generalize h.new (vdC v) = h2 at *
  obtain ⟨kind, tree, sure, at', expect, edits⟩ := v
  simp only at hQ
  have ht : (0 < tree.length) ∨ tree.length = 0 := by omega
  have he : (0 < edits.length) ∨ edits.length = 0 := by omega
  by_cases k1 : kind = 1
  · subst k1
    rcases he with he | he <;> by_cases a0 : at' = 0 <;> by_cases x0 : expect = 0 <;> simp [he, a0, x0] at hQ <;> simp [ob, vdC, he, a0, x0] <;> exact fin_wk gr (.same _) (by simp) hQ
  by_cases k2 : kind = 2
  · subst k2
    rcases ht with ht | ht <;> rcases he with he | he <;> cases sure <;> simp [he, ht] at hQ <;> simp [ob, vdC, he, ht] <;> exact fin_wk gr (.same _) (by simp) hQ
  by_cases k3 : kind = 3
  · subst k3
    cases sure <;> simp at hQ <;> simp [ob, vdC] <;> exact fin_wk gr (.same _) (by simp) hQ
  rcases ht with ht | ht <;> rcases he with he | he <;> cases sure <;> by_cases a0 : at' = 0 <;> by_cases x0 : expect = 0 <;> simp [k1, k2, k3, he, ht, a0, x0] at hQ <;> simp [ob, vdC, k1, k2, k3, he, ht, a0, x0] <;> exact fin_wk gr (.same _) (by simp) hQ
structure VdOk (v : Vd) : Prop where
  tree : v.tree.length < 2 ^ 62
  edits : v.edits.length < 2 ^ 62
  expect : 0 ≤ v.expect ∧ v.expect < 2 ^ 32
theorem mayV_spec (L : LV X) (v : Vd) (ok : VdOk v) (hQ : Q (.bool (mayV v)) h) : Ecx X K.verdict_May [vdV v] h Q := by
  refine fn_walk L.may (by simp [A.verdict_May]) fun wf => ?_
  have gr := (Gr.refl h).new (vdC v)
  have ob : (h.new (vdC v)).objs h.nobj = vdC v := new_objs_same _ _
  unfold mayV at hQ
  simp [A.verdict_May, vdV, V.cells, V.good]
  generalize h.new (vdC v) = h2 at *
  by_cases c1 : 1 ≤ v.kind
  case neg => simp [c1] at hQ; simp [ob, vdC, c1]; exact fin_wk gr (.same _) (by simp) hQ
  by_cases c2 : v.kind ≤ 4
  case neg => simp [c1, c2] at hQ; simp [ob, vdC, c1, c2]; exact fin_wk gr (.same _) (by simp) hQ
  simp [c1, c2] at hQ
  simp [ob, vdC, c1, c2]
  refine ecall (bare_spec L v ?_)
  cases c3 : bareB v with
  | false => rw [c3] at hQ; simp at hQ; simp; exact fin_wk gr (.same _) (by simp) hQ
  | true =>
  rw [c3] at hQ
  simp at hQ
  simp [ob, vdC]
  refine ecall (deriv_spec L v.tree 0 ok.tree ?_)
  cases c4 : derivB v.tree with
  | false => rw [c4] at hQ; simp at hQ; simp; exact fin_wk gr (.same _) (by simp) hQ
  | true =>
  rw [c4] at hQ
  simp at hQ
  simp [ob, vdC]
  refine ecall (within_spec L.within v.at' 24 ?_)
  cases c5 : within v.at' 24 with
  | false => rw [c5] at hQ; simp at hQ; simp; exact fin_wk gr (.same _) (by simp) hQ
  | true =>
  rw [c5] at hQ
  simp at hQ
  by_cases c6 : v.expect ≤ 131071
  case neg => simp [c6] at hQ; simp [ob, vdC, c6]; exact fin_wk gr (.same _) (by simp) hQ
  by_cases c7 : v.edits.length ≤ 100
  case neg =>
    have c7' : ¬ (v.edits.length : Int) ≤ 100 := by omega
    simp [c7] at hQ; simp [ob, vdC, c6, c7']; exact fin_wk gr (.same _) (by simp) hQ
  have c7' : (v.edits.length : Int) ≤ 100 := by omega
  simp [c6, c7] at hQ
  simp [ob, vdC, c6, c7']
  refine ecall (containsFunc encEd L.ctE L.ixE v.edits 0 _ [] _ (fun x => !edB x) ok.edits (fun x _ Q' h' _ hQ' => may1_spec L x hQ') ?_)
  have e2 : (v.edits.any fun x => !edB x) = !v.edits.all edB := by rw [← nany, Bool.not_not]
  rw [e2]
  simp
  exact fin_wk gr (.same _) (by simp) (by simpa using hQ)
end
end Go.Proofs.Ytpneojpgahegaaa.Al
namespace Go.Proofs.Ytpneojpgahegaaa.Al
open Go Go.RowKit
set_option linter.unusedSimpArgs false
set_option linter.unusedVariables false
attribute [-simp] List.getD_eq_getElem?_getD Int.not_lt Int.not_le List.map_take

theorem rlist_map {α β : Type} (φ : α → β) (f : Step α) : ∀ (n : Nat) (l : List Nat) (e : Int), rlist (stepMap φ f) n l e = ((rlist f n l e).1.map φ, (rlist f n l e).2)
  | 0, l, e => rfl
  | n + 1, l, e => by
    by_cases he : e = 0
    · subst he
      rw [rlist_succ0, rlist_succ0]
      simp only [stepMap, List.map_cons]
      rw [rlist_map φ f n]
    · rw [rlist_e he, rlist_e he]; rfl
theorem rread_map {α β : Type} (φ : α → β) (f : Step α) (many : Nat) (l : List Nat) (e : Int) : rread (stepMap φ f) many l e = ((rread f many l e).1.map φ, (rread f many l e).2) := by
  unfold rread
  simp only [rlist_map]
  split <;> rfl
theorem stepInts_is (many most : Nat) (l : List Nat) (e : Int) : stepInts many most l e = (natI (rnums l e many most).1, (rnums l e many most).2) := rread_map _ _ many l e
section
variable {X : Cx} {h : AH} {Q : V → AH → Prop}
theorem edit_spec (H : Has (Ecx X) K.verdict_edit A.verdict_edit) (L : LR X) {o : Nat} {l : List Nat} {e : Int} (rd : Rd l e) (hc : h.objs o = robj l e) (hQ : Q (edV (stepEd l e).1) (h.set o (robj (stepEd l e).2.1 (stepEd l e).2.2))) : Ecx X K.verdict_edit [.ptr o 0] h Q := by
  refine fn_set H (h.set o (robj (stepEd l e).2.1 (stepEd l e).2.2)) (fun _ _ => .set _ _ (Bdd_robj _ _ _ _)) (by simp [A.verdict_edit]) fun wf hb => ?_
  have ho : o < h.nobj := by have := hb (.ptr o 0) (by simp); simpa using this
  have n1 : ¬ o = h.nobj := by omega
  have n2 : ¬ h.nobj = o := by omega
  have n3 : ¬ o = h.nobj + 1 := by omega
  have n4 : ¬ h.nobj + 1 = o := by omega
  have rd1 := rnum_rd rd 24
  have rd2 := rnum_rd rd1 1
  simp [A.verdict_edit]
  refine ecall (wnum (e := e) L 24 rd (by omega) (by simp [n1, hc]) ?_)
  simp [fillV, V.cells, V.good, setAt, n1, n2, n3, n4]
  refine ecall (wbool (e := (rnum l e 24).2.2) L rd1 (by simp [n1, n2, n3, n4]) ?_)
  simp [fillV, V.cells, V.good, setAt, n1, n2, n3, n4]
  refine ecall (wnum (e := (rnum (rnum l e 24).2.1 (rnum l e 24).2.2 1).2.2) L 15 rd2 (by omega) (by simp [n1, n2, n3, n4]) ?_)
  simp [fillV, V.cells, V.good, setAt, n1, n2, n3, n4]
  exact finS (((GrW.refl _).news _).news _) (by simp) hQ
theorem item_spec (H : Has (Ecx X) K.verdict_item A.verdict_item) (L : LR X) {o : Nat} {l : List Nat} {e : Int} (rd : Rd l e) (hc : h.objs o = robj l e) (hQ : Q (itV (stepIt l e).1) (h.set o (robj (stepIt l e).2.1 (stepIt l e).2.2))) : Ecx X K.verdict_item [.ptr o 0] h Q := by
  refine fn_set H (h.set o (robj (stepIt l e).2.1 (stepIt l e).2.2)) (fun _ _ => .set _ _ (Bdd_robj _ _ _ _)) (by simp [A.verdict_item]) fun wf hb => ?_
  have ho : o < h.nobj := by have := hb (.ptr o 0) (by simp); simpa using this
  have n1 : ¬ o = h.nobj := by omega
  have n2 : ¬ h.nobj = o := by omega
  have n3 : ¬ o = h.nobj + 1 := by omega
  have n4 : ¬ h.nobj + 1 = o := by omega
  have rd1 := rnum_rd rd 59
  have rd2 := rnum_rd rd1 8
  simp [A.verdict_item]
  refine ecall (wnum (e := e) L 59 rd (by omega) (by simp [n1, hc]) ?_)
  simp [fillV, V.cells, V.good, setAt, n1, n2, n3, n4]
  refine ecall (wnum (e := (rnum l e 59).2.2) L 8 rd1 (by omega) (by simp [n1, n2, n3, n4]) ?_)
  simp [fillV, V.cells, V.good, setAt, n1, n2, n3, n4]
  refine ecall (wnum (e := (rnum (rnum l e 59).2.1 (rnum l e 59).2.2 8).2.2) L 24 rd2 (by omega) (by simp [n1, n2, n3, n4]) ?_)
  simp [fillV, V.cells, V.good, setAt, n1, n2, n3, n4]
  exact finS (((GrW.refl _).news _).news _) (by simp) hQ
theorem lead_spec (H : Has (Ecx X) K.verdict_lead A.verdict_lead) (L : LR X) {o : Nat} {l : List Nat} {e : Int} (rd : Rd l e) (hc : h.objs o = robj l e) (hQ : Q (leadV (stepInts 2000 59 l e).1) (h.set o (robj (stepInts 2000 59 l e).2.1 (stepInts 2000 59 l e).2.2))) : Ecx X K.verdict_lead [.ptr o 0] h Q := by
  refine fn_set H (h.set o (robj (stepInts 2000 59 l e).2.1 (stepInts 2000 59 l e).2.2)) (fun _ _ => .set _ _ (Bdd_robj _ _ _ _)) (by simp [A.verdict_lead]) fun wf hb => ?_
  rw [stepInts_is] at hQ ⊢
  simp only [leadV] at hQ ⊢
  rw [← i64s_ints] at hQ
  simp [A.verdict_lead]
  refine ecall (wnums L 2000 59 rd (by omega) (by omega) hc ?_)
  simp
  exact finS (GrW.refl _) (by rw [Bdd_sl0]; exact ⟨by omega, Bdd_i64s _ _ _⟩) hQ
theorem liIt_is : A.wire_List_Item_2 = listF 3 24 true [.int .i64 0, .int .i64 0, .int .i64 0] := rfl
theorem liEd_is : A.wire_List_Edit = listF 3 24 true [.int .i64 0, .bool false, .int .i64 0] := rfl
theorem liSet_is : A.wire_List_Item = listF 1 24 false [.sl 0 1 []] := rfl
theorem liLead_is : A.wire_List_int_2 = listF 1 24 false [.sl 0 1 []] := rfl
theorem stepIt_rd {l : List Nat} {e : Int} (r : Rd l e) : Rd (stepIt l e).2.1 (stepIt l e).2.2 := rnum_rd (rnum_rd (rnum_rd r 59) 8) 24
theorem stepEd_rd {l : List Nat} {e : Int} (r : Rd l e) : Rd (stepEd l e).2.1 (stepEd l e).2.2 := rnum_rd (rnum_rd (rnum_rd r 24) 1) 15
theorem set_spec (H : Has (Ecx X) K.verdict_set A.verdict_set) (Hi : Has (Ecx X) K.verdict_item A.verdict_item) (Hl : Has (Ecx X) K.wire_List_Item_2 A.wire_List_Item_2) (L : LR X) {o : Nat} {l : List Nat} {e : Int} (rd : Rd l e) (hc : h.objs o = robj l e) (hQ : Q (setV (stepSet l e).1) (h.set o (robj (stepSet l e).2.1 (stepSet l e).2.2))) : Ecx X K.verdict_set [.ptr o 0] h Q := by
  refine fn_set H (h.set o (robj (stepSet l e).2.1 (stepSet l e).2.2)) (fun _ _ => .set _ _ (Bdd_robj _ _ _ _)) (by simp [A.verdict_set]) fun wf hb => ?_
  have ho : o < h.nobj := by have := hb (.ptr o 0) (by simp); simpa using this
  rw [liIt_is] at Hl
  simp [A.verdict_set]
  refine ecall (wlist (many := 1500) (ok := fun _ => True) (enc := itV) (step := stepIt) Hl L (fun l e r => ⟨stepIt_rd r, trivial⟩) (fun a _ => ⟨rfl, rfl, rfl, fun n m => encIt.bdd a n m⟩) rd (by omega) (by omega) hc ?_ ?_)
  · intro h' l' e' Q' rd' g' hQ'
    exact item_spec Hi L rd' (by rw [g'.objs _ ho, set_objs_same]) hQ'
  · simp
    exact finS (GrW.refl _) (by rw [Bdd_sl0]; exact ⟨by omega, encIt.cells _ _ _⟩) hQ
end
end Go.Proofs.Ytpneojpgahegaaa.Al
namespace Go.Proofs.Ytpneojpgahegaaa.Al
open Go Go.RowKit
set_option linter.unusedSimpArgs false
set_option linter.unusedVariables false
attribute [-simp] List.getD_eq_getElem?_getD Int.not_lt Int.not_le List.map_take

section
variable {X : Cx} {h : AH} {Q : V → AH → Prop}
/-- What layer 20's reading and writing call. -/
structure LV2 (X : Cx) : Prop where
  v : LV X
  w : LW X
  r : LR X
  edit : Has (Ecx X) K.verdict_edit A.verdict_edit
  item : Has (Ecx X) K.verdict_item A.verdict_item
  lead : Has (Ecx X) K.verdict_lead A.verdict_lead
  set : Has (Ecx X) K.verdict_set A.verdict_set
  read : Has (Ecx X) K.verdict_Read A.verdict_Read
  decode : Has (Ecx X) K.verdict_Decode A.verdict_Decode
  bytes : Has (Ecx X) K.verdict_Bytes A.verdict_Bytes
  encode : Has (Ecx X) K.verdict_Encode A.verdict_Encode
  liE : Has (Ecx X) K.wire_List_Edit A.wire_List_Edit
  liI : Has (Ecx X) K.wire_List_Item_2 A.wire_List_Item_2
  liS : Has (Ecx X) K.wire_List_Item A.wire_List_Item
  liL : Has (Ecx X) K.wire_List_int_2 A.wire_List_int_2
theorem vd_zero_wk : Wk (.agg [.int .i64 0, .sl 0 1 [], .bool false, .int .i64 0, .int .u32 0, .sl 0 1 []]) (vdV zeroVd) := by
  show Wk (.agg [.int .i64 0, .sl 0 1 [], .bool false, .int .i64 0, .int .u32 0, .sl 0 1 []]) (.agg [.int .i64 0, .sl 1 0 [], .bool false, .int .i64 0, .int .u32 0, .sl 3 0 []])
  refine .agg _ _ rfl fun i h1 h2 => ?_
  match i, h1, h2 with
  | 0, _, _ => exact .same _
  | 1, _, _ => exact .nil _ _ _
  | 2, _, _ => exact .same _
  | 3, _, _ => exact .same _
  | 4, _, _ => exact .same _
  | 5, _, _ => exact .nil _ _ _
  | n + 6, h1, _ => simp at h1; omega
theorem stepInts_rd {l : List Nat} {e : Int} (r : Rd l e) : Rd (stepInts 2000 59 l e).2.1 (stepInts 2000 59 l e).2.2 := by
  have : ∀ (n : Nat) (l : List Nat) (e : Int), Rd l e → Rd (rlist (nInt 59 (nm 59)) n l e).2.1 (rlist (nInt 59 (nm 59)) n l e).2.2 := by
    intro n
    induction n with
    | zero => intro l e r; exact r
    | succ n ih =>
      intro l e r
      unfold rlist
      split
      · exact r
      · exact ih _ _ (rnum_rd r 59)
  exact this _ _ _ (rnum_rd r 2000)
theorem readVd_spec (L : LV2 X) (b : List Nat) (hl : b.length ≤ 2 ^ 40) (hb : ∀ x ∈ b, x < 256) (hQ : Q (vreadV b) h) : Ecx X K.verdict_Read [.sl 1 0 (u8s b)] h Q := by
  refine fn_walk L.read (by simp [A.verdict_Read]) fun wf => ?_
  have rd0 : Rd b 0 := ⟨by unfold maxLen; omega, hb, fun e => absurd rfl e⟩
  unfold vreadV readVd at hQ
  have e1 : stepVd b 0 = stepVd b 0 := rfl
  conv at e1 => rhs; simp only [stepVd, stepMap, seq2, nInt, nBool, nm]
  rw [e1] at hQ
  simp only at hQ
  clear e1
  simp [A.verdict_Read]
  refine ecall (wnew L.r (fun _ => rfl) (by omega) (by omega) ?_)
  simp
  refine ecall (wnum (e := 0) L.r 4 rd0 (by omega) (by simp) ?_)
  have rd1 := rnum_rd rd0 4
  generalize rnum b 0 4 = r1 at *
  simp [setAt, V.cells, V.good]
  refine ecall (lead_spec (e := r1.2.2) L.lead L.r rd1 (by simp) ?_)
  have rd2 := stepInts_rd rd1
  have hl2 : (stepInts 2000 59 r1.2.1 r1.2.2).1.length ≤ 2000 := rread_length 2000 _ _
  generalize stepInts 2000 59 r1.2.1 r1.2.2 = r2 at *
  simp [setAt, V.cells, V.good, leadV]
  refine ecall (wbool (e := r2.2.2) L.r rd2 (by simp) ?_)
  have rd3 := rnum_rd rd2 1
  generalize rnum r2.2.1 r2.2.2 1 = r3 at *
  simp [setAt, V.cells, V.good]
  refine ecall (wnum (e := r3.2.2) L.r 24 rd3 (by omega) (by simp) ?_)
  have rd4 := rnum_rd rd3 24
  generalize rnum r3.2.1 r3.2.2 24 = r4 at *
  simp [setAt, V.cells, V.good]
  refine ecall (wnum (e := r4.2.2) L.r 131071 rd4 (by omega) (by simp) ?_)
  have rd5 := rnum_rd rd4 131071
  have hle5 := rnum_le (l := r4.2.1) (e := r4.2.2) 131071
  generalize rnum r4.2.1 r4.2.2 131071 = r5 at *
  have hw5 : IntKind.u32.wrap ((r5.1 : Nat) : Int) = ((r5.1 : Nat) : Int) := by simp [IntKind.wrap, IntKind.bits]; omega
  simp [setAt, V.cells, V.good, hw5]
  have hls := L.liE
  rw [liEd_is] at hls
  refine ecall (wlist (er := r5.2.2) (many := 100) (ok := fun _ => True) (enc := edV) (step := stepEd) hls L.r (fun l e r => ⟨stepEd_rd r, trivial⟩) (fun a _ => ⟨rfl, rfl, rfl, fun n m => encEd.bdd a n m⟩) rd5 (by omega) (by omega) (by simp) ?_ ?_)
  · intro h' l' e' Q' rd' g' hQ'
    exact edit_spec L.edit L.r rd' (by rw [g'.objs _ (by simp), set_objs_same]) hQ'
  have hlen := rread_length (step := stepEd) 100 r5.2.1 r5.2.2
  generalize rread stepEd 100 r5.2.1 r5.2.2 = r6 at *
  simp [setAt, V.cells, V.good]
  refine ecall (wend L.r (l := r6.2.1) (e := r6.2.2) (by simp) ?_)
  have hgr : ∀ z y x, Gr h ((((h.new z).new y).new x)) := fun z y x => ((((Gr.refl h).new _).new _).new _)
  have hzw : ∀ f : Int, Wk (.tup [.agg [.int .i64 0, .sl 0 1 [], .bool false, .int .i64 0, .int .u32 0, .sl 0 1 []], .int .i64 f]) (.tup [vdV zeroVd, .int .i64 f]) := fun f => Wk.t2 vd_zero_wk _
  have hzb : ∀ f : Int, Bdd h.next h.nobj (.tup [vdV zeroVd, .int .i64 f]) := fun f => by simp [vdV, vdC, zeroVd, ints, cellsOf]
  by_cases he : rend r6.2.1 r6.2.2 = 0
  case neg =>
    rw [if_pos he] at hQ
    simp [he, fillV, setAt, V.cells, V.good]
    exact fin_wk (hgr _ _ _) (hzw _) (hzb _) hQ
  rw [if_neg (by simp [he])] at hQ
  simp [he]
  have ok : VdOk ⟨r1.1, r2.1, isOne r3.1, r4.1, r5.1, r6.1⟩ := ⟨by simp; omega, by simp; omega, by simp; omega⟩
  refine ecall (mayV_spec L.v ⟨r1.1, r2.1, isOne r3.1, r4.1, r5.1, r6.1⟩ ok ?_)
  cases hr : mayV ⟨r1.1, r2.1, isOne r3.1, r4.1, r5.1, r6.1⟩ with
  | false =>
    rw [hr] at hQ
    simp at hQ
    simp [fillV, setAt, V.cells, V.good]
    exact fin_wk (hgr _ _ _) (hzw _) (hzb _) hQ
  | true =>
    rw [hr] at hQ
    simp at hQ
    simp [fillV, setAt, V.cells, V.good]
    exact fin_wk (hgr _ _ _) (.same _) (by simp [vdV, vdC]; exact ⟨Bdd_ints _ _ _, encEd.cells _ _ _⟩) hQ
theorem pf_zero_wk : Wk (.agg [.sl 0 1 [], .sl 0 1 []]) (pfV zeroPf) := by
  show Wk (.agg [.sl 0 1 [], .sl 0 1 []]) (.agg [.sl 1 0 [], .sl 1 0 []])
  refine .agg _ _ rfl fun i h1 h2 => ?_
  match i, h1, h2 with
  | 0, _, _ => exact .nil _ _ _
  | 1, _, _ => exact .nil _ _ _
  | n + 2, h1, _ => simp at h1; omega
theorem stepSet_rd {l : List Nat} {e : Int} (r : Rd l e) : Rd (stepSet l e).2.1 (stepSet l e).2.2 := by
  have : ∀ (n : Nat) (l : List Nat) (e : Int), Rd l e → Rd (rlist stepIt n l e).2.1 (rlist stepIt n l e).2.2 := by
    intro n
    induction n with
    | zero => intro l e r; exact r
    | succ n ih =>
      intro l e r
      unfold rlist
      split
      · exact r
      · exact ih _ _ (stepIt_rd r)
  exact this _ _ _ (rnum_rd r 1500)
theorem readPf_spec (L : LV2 X) (b : List Nat) (hl : b.length ≤ 2 ^ 40) (hb : ∀ x ∈ b, x < 256) (hQ : Q (preadV b) h) : Ecx X K.verdict_Decode [.sl 1 0 (u8s b)] h Q := by
  refine fn_walk L.decode (by simp [A.verdict_Decode]) fun wf => ?_
  have rd0 : Rd b 0 := ⟨by unfold maxLen; omega, hb, fun e => absurd rfl e⟩
  unfold preadV readPf at hQ
  have e1 : stepPf b 0 = stepPf b 0 := rfl
  conv at e1 => rhs; simp only [stepPf, stepMap, seq2]
  rw [e1] at hQ
  simp only at hQ
  clear e1
  simp [A.verdict_Decode]
  refine ecall (wnew L.r (fun _ => rfl) (by omega) (by omega) ?_)
  simp
  have hls := L.liS
  rw [liSet_is] at hls
  refine ecall (wlist (er := 0) (many := 25) (ok := fun _ => True) (enc := setV) (step := stepSet) hls L.r (fun l e r => ⟨stepSet_rd r, trivial⟩) (fun a _ => ⟨rfl, rfl, rfl, fun n m => encSet.bdd a n m⟩) rd0 (by omega) (by omega) (by simp) ?_ ?_)
  · intro h' l' e' Q' rd' g' hQ'
    exact set_spec L.set L.item L.liI L.r rd' (by rw [g'.objs _ (by simp), set_objs_same]) hQ'
  have rd1 : Rd (rread stepSet 25 b 0).2.1 (rread stepSet 25 b 0).2.2 := by
    have : ∀ (n : Nat) (l : List Nat) (e : Int), Rd l e → Rd (rlist stepSet n l e).2.1 (rlist stepSet n l e).2.2 := by
      intro n
      induction n with
      | zero => intro l e r; exact r
      | succ n ih =>
        intro l e r
        unfold rlist
        split
        · exact r
        · exact ih _ _ (stepSet_rd r)
    exact this _ _ _ (rnum_rd rd0 25)
  generalize rread stepSet 25 b 0 = r1 at *
  simp [setAt, V.cells, V.good]
  have hll := L.liL
  rw [liLead_is] at hll
  refine ecall (wlist (er := r1.2.2) (many := 17) (ok := fun _ => True) (enc := leadV) (step := stepInts 2000 59) hll L.r (fun l e r => ⟨stepInts_rd r, trivial⟩) (fun a _ => ⟨rfl, rfl, rfl, fun n m => encLead.bdd a n m⟩) rd1 (by omega) (by omega) (by simp) ?_ ?_)
  · intro h' l' e' Q' rd' g' hQ'
    exact lead_spec L.lead L.r rd' (by rw [g'.objs _ (by simp), set_objs_same]) hQ'
  generalize rread (stepInts 2000 59) 17 r1.2.1 r1.2.2 = r2 at *
  simp [setAt, V.cells, V.good]
  refine ecall (wend L.r (l := r2.2.1) (e := r2.2.2) (by simp) ?_)
  have hgr : ∀ z y x, Gr h ((((h.new z).new y).new x)) := fun z y x => ((((Gr.refl h).new _).new _).new _)
  have hzw : ∀ f : Int, Wk (.tup [.agg [.sl 0 1 [], .sl 0 1 []], .int .i64 f]) (.tup [pfV zeroPf, .int .i64 f]) := fun f => Wk.t2 pf_zero_wk _
  have hzb : ∀ f : Int, Bdd h.next h.nobj (.tup [pfV zeroPf, .int .i64 f]) := fun f => by simp [pfV, pfC, zeroPf, cellsOf]
  by_cases he : rend r2.2.1 r2.2.2 = 0
  case neg =>
    rw [if_pos he] at hQ
    simp [he, fillV, setAt, V.cells, V.good]
    exact fin_wk (hgr _ _ _) (hzw _) (hzb _) hQ
  rw [if_neg (by simp [he])] at hQ
  simp [he, fillV, setAt, V.cells, V.good]
  exact fin_wk (hgr _ _ _) (.same _) (by simp [pfV, pfC]; exact ⟨encSet.cells _ _ _, encLead.cells _ _ _⟩) hQ
end
end Go.Proofs.Ytpneojpgahegaaa.Al
