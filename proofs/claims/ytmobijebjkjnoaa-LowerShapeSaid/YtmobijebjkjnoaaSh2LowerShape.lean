/-
  What the law LowerShape needs of this claim's texts (part 2). Conditions: each theorem's own.
-/
import Derived.Test.YtmobijebjkjnoaaAlKeys
import Derived.Test.YtmobijebjkjnoaaAlA
import Derived.Test.YtmobijebjkjnoaaAlB
import Derived.Test.YtmobijebjkjnoaaAlC
import Derived.Test.YtmobijebjkjnoaaSh1LowerShape
namespace Go.Proofs.Ytmobijebjkjnoaa.Al
open Go Go.RowKit
set_option linter.unusedSimpArgs false
set_option linter.unusedVariables false
attribute [-simp] List.getD_eq_getElem?_getD Int.not_lt Int.not_le List.drop_one
theorem toks_cells (l : List Tok) (n m : Nat) : ∀ v ∈ cellsOf (l.map tokV), Bdd n m v := by
  induction l with
  | nil => simp [cellsOf]
  | cons a as ih =>
    intro v hv
    have hv : v ∈ tokC a ++ cellsOf (as.map tokV) := hv
    rcases List.mem_append.1 hv with hv | hv
    · simp [tokC] at hv; rcases hv with rfl | rfl | rfl <;> simp
    · exact ih v hv
theorem sfirst_le {s : Str} (hne : s ≠ []) : (sfirst s).2.2 ≤ s.length := by
  have hpos : 0 < s.length := List.length_pos_iff.2 hne
  unfold sfirst
  simp only
  have h1 := runN_le notLf s
  have h2 := runN_le partB s
  have h3 := runN_le quotedB (s.drop 1)
  simp at h3
  split
  · exact h1
  · split
    · simp; omega
    · split
      · exact h2
      · split
        · split
          · simp
          · rename_i h; simp; omega
        · split
          · simp; omega
          · simp
theorem scanL_nil (n k : Nat) : scanL n [] k = ([], none) := by cases n <;> simp [scanL]
theorem scanL_step {n : Nat} {s : Str} (k : Nat) (hne : s ≠ []) : scanL (n + 1) s k = if (sfirst s).2.2 = 0 then ([], some k) else
    ((if (sfirst s).1 = 0 then [] else [⟨(sfirst s).1, (sfirst s).2.1, k⟩]) ++ (scanL n (s.drop (sfirst s).2.2) (k + (sfirst s).2.2)).1, (scanL n (s.drop (sfirst s).2.2) (k + (sfirst s).2.2)).2) := by
  show (if s = [] then _ else _) = _
  rw [if_neg hne]
theorem scanL_len : ∀ (n : Nat) (s : Str) (k : Nat), (scanL n s k).1.length ≤ n
  | 0, s, k => by simp [scanL]
  | n + 1, s, k => by
    by_cases hne : s = []
    · subst hne; simp [scanL_nil]
    · rw [scanL_step k hne]
      split
      · simp
      · have := scanL_len n (s.drop (sfirst s).2.2) (k + (sfirst s).2.2)
        simp only [List.length_append]
        split
        · simp; omega
        · simp; omega
section
variable {X : Cx} {h : AH} {Q : V → AH → Prop}
theorem scan_spec (L : LS X) (s : Str) (hl : s.length ≤ 2 ^ 40) (hQ : Q (scanV s) h) : Ecx X K.scan_Scan [.str s] h Q := by
  refine fn_walk L.scan (by simp [A.scan_Scan]) fun wf => ?_
  unfold scanV scanR at hQ
  by_cases hbig : 4000 < s.length
  · have hbig' : (4000 : Int) < s.length := by omega
    rw [if_pos hbig] at hQ
    simp [A.scan_Scan, hbig']
    exact fin_wk (Gr.refl h) (Wk.t3 (.nil _ 3 _) _ _) (by simp) hQ
  have hbig' : ¬ (4000 : Int) < s.length := by omega
  rw [if_neg hbig] at hQ
  simp [A.scan_Scan, hbig']
  have hlen := scanL_len s.length s 0
  generalize hT : scanL s.length s 0 = T at *
  refine loopI (n := s.length) (fun m env h' => ∃ k acc e1 st, k ≤ s.length ∧ s.length ≤ m + k ∧ env = [(0, .str s), (5, .sl e1 st (acc.map tokV)), (6, .int .i64 (k : Nat))] ∧ Own h h' 3 e1 st (acc.map tokV) ∧
    acc ++ (scanL m (s.drop k) k).1 = T.1 ∧ (scanL m (s.drop k) k).2 = T.2) ?_ ⟨0, [], 0, 1, by omega, by simp, rfl, Own.nil h 3, by rw [← hT]; simp, by rw [← hT]; simp⟩
  rintro m env h' ⟨k, acc, e1, st, hk, hm, rfl, ow, hac, hfl⟩
  unfold A.scan_Scan.L0
  by_cases hlt : k < s.length
  · have hlt' : (k : Int) < s.length := by omega
    have hle' : (k : Int) ≤ s.length := by omega
    have hne : s.drop k ≠ [] := by intro e; have := congrArg List.length e; simp at this; omega
    obtain ⟨m, rfl⟩ : ∃ m', m = m' + 1 := ⟨m - 1, by omega⟩
    have hsl := sfirst_le hne
    rw [scanL_step k hne] at hac hfl
    simp at hsl
    simp [hlt', hle']
    refine ecall (first_spec L (s.drop k) hne (by simp; omega) ?_)
    unfold sfirstV
    generalize sfirst (s.drop k) = F at *
    simp
    by_cases h0 : F.2.2 = 0
    · rw [if_pos h0] at hac hfl
      simp at hfl
      rw [← hfl] at hQ
      simp [h0]
      exact fin_wk ow.gr (Wk.t3 (.nil _ 3 _) _ _) (by simp) hQ
    rw [if_neg h0] at hac hfl
    have hw : IntKind.i64.wrap ((k : Int) + (F.2.2 : Nat)) = ((k + F.2.2 : Nat) : Int) := by rw [wrap_i64 (by omega) (by omega)]; omega
    by_cases h1 : F.1 = 0
    · simp [h0, h1, hw]
      rw [if_pos h1] at hac
      simp only [List.drop_drop] at hac hfl
      exact ⟨m, by omega, iv ⟨k + F.2.2, acc, e1, st, by omega, by omega, by simp, ow, hac, hfl⟩⟩
    · have h1' : 0 < F.1 := by omega
      simp [h0, h1', fillV, fillL, V.cells, V.good, V.isAgg, setAt]
      rw [if_neg h1] at hac
      have hacl : acc.length ≤ s.length := by have := congrArg List.length hac; simp at this; omega
      refine ow.appZ (fun _ => rfl) (by simp; omega) fun e2 st2 h2 o2 _ _ => ?_
      have em : acc.map tokV ++ [V.agg [.int .i64 F.1, .str F.2.1, .int .i64 k]] = (acc ++ [(⟨F.1, F.2.1, k⟩ : Tok)]).map tokV := by simp [tokV, tokC]
      rw [em] at o2 ⊢
      simp [hw]
      simp only [List.drop_drop] at hac hfl
      exact ⟨m, by omega, iv ⟨k + F.2.2, acc ++ [(⟨F.1, F.2.1, k⟩ : Tok)], e2, st2, by omega, by omega, by simp, o2, by rw [← hac]; simp, hfl⟩⟩
  · have hlt' : ¬ (k : Int) < s.length := by omega
    have e : s.drop k = [] := List.drop_eq_nil_of_le (by omega)
    rw [e, scanL_nil] at hac hfl
    simp at hac hfl
    rw [← hfl] at hQ
    simp [hlt']
    rw [hac] at ow ⊢
    exact fin_wk ow.gr (Wk.t3 ow.wk _ _) (by simpa using toks_cells _ _ _) hQ
end
end Go.Proofs.Ytmobijebjkjnoaa.Al
namespace Go.Proofs.Ytmobijebjkjnoaa.Al
open Go Go.RowKit
set_option linter.unusedSimpArgs false
set_option linter.unusedVariables false
attribute [-simp] List.getD_eq_getElem?_getD Int.not_lt Int.not_le List.drop_one
section
variable {X : Cx} {h : AH} {Q : V → AH → Prop}
structure LSR (X : Cx) : Prop where
  letter : Has (Ecx X) K.probateref05_letter A.probateref05_letter
  part : Has (Ecx X) K.probateref05_part A.probateref05_part
  scan : Has (Ecx X) K.probateref05_Scan A.probateref05_Scan
end
end Go.Proofs.Ytmobijebjkjnoaa.Al
namespace Go.Proofs.Ytmobijebjkjnoaa.Al
open Go Go.RowKit
set_option linter.unusedSimpArgs false
set_option linter.unusedVariables false
attribute [-simp] List.getD_eq_getElem?_getD Int.not_lt Int.not_le
theorem push_tips_ne {h : AH} {st e s : Nat} (h1 : s < h.next) (h2 : s ≠ st) : (h.push st e).tips s = h.tips s := by
  have hne : s ≠ h.next := by omega
  unfold AH.push
  split
  · exact updN_ne _ _ hne
  · have e1 : ((h.drop st).grow e).tips s = (h.drop st).tips s := updN_ne _ _ hne
    rw [e1]; exact updN_ne _ _ h2
theorem push_tips_le {h : AH} {st e s : Nat} (h1 : s < h.next) (h2 : st ≤ 2) : (h.push st e).tips s = h.tips s := by
  unfold AH.push
  rw [if_pos h2]
  exact updN_ne _ _ (by omega)
/-- A writer's object: its bytes, to which it may append. -/
structure WO (h : AH) (o : Nat) (l : List Nat) (st : Nat) : Prop where
  ob : ∃ e, h.objs o = [.sl e st (u8s l)] ∧ (u8s l = [] ∨ e = 1)
  st : (st = 1 ∧ l = []) ∨ st = 2 ∨ (h.tips st = some 1 ∧ st < h.next)
/-- From h to h1 a writer has written. -/
structure WE (h h1 : AH) (o st st1 : Nat) : Prop where
  next : h.next ≤ h1.next
  nobj : h.nobj ≤ h1.nobj
  objs : ∀ o', o' < h.nobj → o' ≠ o → h1.objs o' = h.objs o'
  tips : ∀ s, s < h.next → (s ≠ st ∨ s ≤ 2) → h1.tips s = h.tips s
  st : st1 = st ∨ h.next ≤ st1
theorem WE.refl (h : AH) (o st : Nat) : WE h h o st st := ⟨Nat.le_refl _, Nat.le_refl _, fun _ _ _ => rfl, fun _ _ _ => rfl, .inl rfl⟩
theorem WE.trans {h h1 h2 : AH} {o st st1 st2 : Nat} (a : WE h h1 o st st1) (b : WE h1 h2 o st1 st2) : WE h h2 o st st2 where
  next := Nat.le_trans a.next b.next
  nobj := Nat.le_trans a.nobj b.nobj
  objs o' h' hn := (b.objs o' (Nat.lt_of_lt_of_le h' a.nobj) hn).trans (a.objs o' h' hn)
  tips s hs hn := by
    have : s ≠ st1 ∨ s ≤ 2 := by rcases a.st with e | e <;> omega
    exact (b.tips s (Nat.lt_of_lt_of_le hs a.next) this).trans (a.tips s hs hn)
  st := by
    rcases b.st with e | e
    · rw [e]; exact a.st
    · exact .inr (Nat.le_trans a.next e)
theorem WO.new (h : AH) : WO (h.new [.sl 0 1 []]) h.nobj [] 1 := ⟨⟨0, by simp, .inl rfl⟩, .inl ⟨rfl, rfl⟩⟩
/-- A writer of which nothing is written stays. -/
theorem WO.keep {h h1 : AH} {o st : Nat} {l : List Nat} (w : WO h o l st) (ho : h1.objs o = h.objs o) (hn : h.next ≤ h1.next) (ht : h1.tips st = h.tips st) : WO h1 o l st := by
  obtain ⟨e, ob, el⟩ := w.ob
  refine ⟨⟨e, by rw [ho]; exact ob, el⟩, ?_⟩
  rcases w.st with a | a | a
  · exact .inl a
  · exact .inr (.inl a)
  · exact .inr (.inr ⟨by rw [ht]; exact a.1, by omega⟩)
theorem WO.app {h : AH} {o st : Nat} {l : List Nat} (w : WO h o l st) {m : List Nat} (hm : m ≠ []) (hb : l.length + m.length ≤ 2 ^ 46) {e : Nat} (he : h.objs o = [.sl e st (u8s l)]) {K : V → AH → Prop} {zK : Lz K}
    (hk : K (.sl 1 h.next (u8s (l ++ m))) (h.push st 1)) : App h 1 1 e st (u8s l) 1 (u8s m) zK := by
  obtain ⟨e', ob, el⟩ := w.ob
  rw [he] at ob
  obtain rfl : e = e' := by simpa using ob
  refine ⟨fun h0 => absurd h0 (by intro e; apply hm; cases m with | nil => rfl | cons a b => simp [u8s] at e), fun _ => ⟨?_, el, rfl, by simp; omega, by rw [← u8s_append]; exact hk⟩⟩
  rcases w.st with a | a | a
  · exact .inl a.1
  · exact .inr (.inl a)
  · exact .inr (.inr a.1)
theorem WO.push {h : AH} (wf : Wf h) {o st : Nat} {l : List Nat} (w : WO h o l st) (m : List Nat) : WO ((h.push st 1).set o [.sl 1 h.next (u8s m)]) o m h.next ∧ WE h ((h.push st 1).set o [.sl 1 h.next (u8s m)]) o st h.next :=
  ⟨⟨⟨1, by simp, .inr rfl⟩, .inr (.inr ⟨push_new h st 1, by rw [set_next, push_next]; omega⟩)⟩,
   ⟨by rw [set_next, push_next]; omega, by rw [set_nobj, push_nobj]; exact Nat.le_refl _, fun o' _ hn => by rw [set_objs_ne _ _ _ hn, push_objs], fun s hs hn => by
      rw [set_tips]
      by_cases h2 : st ≤ 2
      · exact push_tips_le hs h2
      · exact push_tips_ne hs (by omega), .inr (Nat.le_refl _)⟩⟩
end Go.Proofs.Ytmobijebjkjnoaa.Al
namespace Go.Proofs.Ytmobijebjkjnoaa.Al
open Go Go.RowKit
set_option linter.unusedSimpArgs false
set_option linter.unusedVariables false
attribute [-simp] List.getD_eq_getElem?_getD Int.not_lt Int.not_le
def ints (l : List Int) : List V := l.map (.int .i64)
@[simp] theorem ints_length (l : List Int) : (ints l).length = l.length := by simp [ints]
section
variable {X : Cx} {h : AH} {Q : V → AH → Prop}
theorem WE.new (h : AH) (o st : Nat) (z : List V) : WE h (h.new z) o st st :=
  ⟨Nat.le_refl _, by simp, fun o' h' _ => by simp [show ¬ o' = h.nobj by omega], fun _ _ _ => rfl, .inl rfl⟩
end
end Go.Proofs.Ytmobijebjkjnoaa.Al
namespace Go.Proofs.Ytmobijebjkjnoaa.Al
open Go Go.RowKit
set_option linter.unusedSimpArgs false
set_option linter.unusedVariables false
attribute [-simp] List.getD_eq_getElem?_getD Int.not_lt Int.not_le
section
variable {X : Cx} {h : AH} {Q : V → AH → Prop}
/-- A writer, and beside it bytes that one appends to. -/
structure WS (h h1 : AH) (o sw ce st : Nat) (W1 W2 : List Nat) : Prop where
  n3 : 3 ≤ h.next
  gr : Gr h h1
  ho : h.nobj ≤ o
  wo : WO h1 o W1 sw
  fw : sw ≤ 2 ∨ h.next ≤ sw
  el : ce = 1
  tip : st = 2 ∨ (h1.tips st = some 1 ∧ st < h1.next)
  fs : st ≤ 2 ∨ h.next ≤ st
  ne : st ≤ 2 ∨ st ≠ sw
theorem WS.app {h h1 : AH} {o sw ce st : Nat} {W1 W2 : List Nat} (s : WS h h1 o sw ce st W1 W2) {m : List Nat} {e2 : Nat} (hm : m ≠ []) (he : e2 = 1) (hb : W2.length + m.length ≤ 2 ^ 46) {K : V → AH → Prop} {zK : Lz K}
    (hk : ∀ st' h2, WS h h2 o sw 1 st' W1 (W2 ++ m) → h2.objs = h1.objs → h2.nobj = h1.nobj → K (.sl 1 st' (u8s (W2 ++ m))) h2) : App h1 1 1 ce st (u8s W2) e2 (u8s m) zK := by
  have hnx := s.gr.next
  have n3 := s.n3
  refine ⟨fun h0 => absurd h0 (by intro e; apply hm; cases m with | nil => rfl | cons a b => simp [u8s] at e), fun _ => ⟨?_, .inr s.el, he, by simp; omega, ?_⟩⟩
  · rcases s.tip with a | a
    · exact .inr (.inl a)
    · exact .inr (.inr a.1)
  · rw [← u8s_append]
    have hne : sw < h1.next := by
      rcases s.wo.st with a | a | a
      · omega
      · omega
      · exact a.2
    refine hk _ _ ⟨n3, s.gr.push (by have := s.fs; omega) 1, s.ho, s.wo.keep (by rw [push_objs]) (by rw [push_next]; omega) ?_, s.fw, rfl, .inr ⟨push_new h1 st 1, by rw [push_next]; omega⟩, .inr hnx, .inr (by omega)⟩ (push_objs h1 st 1) (push_nobj h1 st 1)
    by_cases h2 : st ≤ 2
    · exact push_tips_le hne h2
    · exact push_tips_ne hne (by have := s.ne; omega)
end
end Go.Proofs.Ytmobijebjkjnoaa.Al
namespace Go.Proofs.Ytmobijebjkjnoaa.Al
open Go Go.RowKit
set_option linter.unusedSimpArgs false
set_option linter.unusedVariables false
attribute [-simp] List.getD_eq_getElem?_getD Int.not_lt Int.not_le
theorem rlist_succ0 {α : Type} (step : List Nat → Int → α × List Nat × Int) (n : Nat) (l : List Nat) : rlist step (n + 1) l 0 = ((step l 0).1 :: (rlist step n (step l 0).2.1 (step l 0).2.2).1, (rlist step n (step l 0).2.1 (step l 0).2.2).2) := by simp [rlist]
end Go.Proofs.Ytmobijebjkjnoaa.Al
namespace Go.Proofs.Ytmobijebjkjnoaa.Al
open Go Go.RowKit
set_option linter.unusedSimpArgs false
set_option linter.unusedVariables false
abbrev Step (α : Type) := List Nat → Int → α × List Nat × Int
/-- A step that reads things as they are written, and only such. -/
structure Canon {α : Type} (step : Step α) (bytes : α → List Nat) (ok : α → Prop) : Prop where
  back : ∀ l a l', (∀ x ∈ l, x < 256) → step l 0 = (a, l', 0) → l = bytes a ++ l' ∧ ok a
  read : ∀ a r, ok a → step (bytes a ++ r) 0 = (a, r, 0)
  err : ∀ l e, e ≠ 0 → (step l e).2 = (l, e)
/-- One step, then another one. -/
def seq2 {α β : Type} (f : Step α) (g : Step β) : Step (α × β) := fun l e => (((f l e).1, (g (f l e).2.1 (f l e).2.2).1), (g (f l e).2.1 (f l e).2.2).2)
theorem Canon.seq {α β : Type} {f : Step α} {g : Step β} {bf : α → List Nat} {bg : β → List Nat} {pf : α → Prop} {pg : β → Prop} (F : Canon f bf pf) (G : Canon g bg pg) : Canon (seq2 f g) (fun p => bf p.1 ++ bg p.2) (fun p => pf p.1 ∧ pg p.2) where
  back l p l' hb h := by
    have h1 := congrArg Prod.fst h
    have h2 := congrArg Prod.snd h
    simp only [seq2] at h1 h2
    have he : (f l 0).2.2 = 0 := by
      by_cases he : (f l 0).2.2 = 0
      · exact he
      · rw [G.err _ _ he] at h2; exact absurd (congrArg Prod.snd h2) he
    obtain ⟨a1, a2⟩ := F.back l (f l 0).1 (f l 0).2.1 hb (Prod.ext rfl (Prod.ext rfl he))
    rw [he] at h1 h2
    have hb' : ∀ x ∈ (f l 0).2.1, x < 256 := fun x hx => hb x (by rw [a1]; exact List.mem_append_right _ hx)
    obtain ⟨b1, b2⟩ := G.back _ (g (f l 0).2.1 0).1 l' hb' (Prod.ext rfl h2)
    rw [← h1]
    exact ⟨by simp only [List.append_assoc, ← b1]; exact a1, a2, b2⟩
  read p r hp := by
    simp only [seq2, List.append_assoc, F.read p.1 _ hp.1, G.read p.2 r hp.2]
  err l e he := by simp only [seq2, F.err l e he, G.err l e he]
/-- The same, told in other words. -/
def stepMap {α β : Type} (φ : α → β) (f : Step α) : Step β := fun l e => (φ (f l e).1, (f l e).2)
theorem Canon.map {α β : Type} {f : Step α} {bf : α → List Nat} {pf : α → Prop} (F : Canon f bf pf) (φ : α → β) (ψ : β → α) (q : β → Prop) (h1 : ∀ a, pf a → q (φ a) ∧ ψ (φ a) = a) (h2 : ∀ b, q b → pf (ψ b) ∧ φ (ψ b) = b) : Canon (stepMap φ f) (fun b => bf (ψ b)) q where
  back l b l' hb h := by
    have e1 := congrArg Prod.fst h
    have e2 := congrArg Prod.snd h
    simp only [stepMap] at e1 e2
    obtain ⟨a1, a2⟩ := F.back l (f l 0).1 l' hb (Prod.ext rfl e2)
    rw [← e1, (h1 _ a2).2]
    exact ⟨a1, (h1 _ a2).1⟩
  read b r hb := by
    simp only [stepMap, F.read (ψ b) r (h2 b hb).1, (h2 b hb).2]
  err l e he := F.err l e he
theorem Canon.inj {α : Type} {f : Step α} {bf : α → List Nat} {pf : α → Prop} (F : Canon f bf pf) {a b : α} (ha : pf a) (hb : pf b) (h : bf a = bf b) : a = b := by
  have h1 := F.read a [] ha
  have h2 := F.read b [] hb
  rw [h, h2] at h1
  exact (congrArg Prod.fst h1).symm
/-! ### Read on, whatever is wrong -/
theorem rlist_e {α : Type} {step : Step α} {n : Nat} {l : List Nat} {e : Int} (he : e ≠ 0) : rlist step n l e = ([], l, e) := by
  cases n with
  | zero => rfl
  | succ n => simp [rlist, he]
/-- Two steps that agree in what is left, and in what is read where nothing is wrong behind it. -/
structure Alike {α : Type} (f g : Step α) : Prop where
  state : ∀ l e, (f l e).2 = (g l e).2
  val : ∀ l e, (f l e).2.2 = 0 → (f l e).1 = (g l e).1
theorem Alike.rlist {α : Type} {f g : Step α} (A : Alike f g) (hs : ∀ l e, e ≠ 0 → (f l e).2 = (l, e)) : ∀ (n : Nat), Alike (rlist f n) (rlist g n)
  | 0 => ⟨fun l e => rfl, fun l e _ => rfl⟩
  | n + 1 => by
    have ih := A.rlist hs n
    refine ⟨fun l e => ?_, fun l e h => ?_⟩
    · by_cases he : e = 0
      · subst he
        rw [rlist_succ0, rlist_succ0]
        simp only
        rw [ih.state, A.state]
      · rw [rlist_e he, rlist_e he]
    · by_cases he : e = 0
      · subst he
        rw [rlist_succ0] at h ⊢
        rw [rlist_succ0]
        simp only at h ⊢
        have h0 : (f l 0).2.2 = 0 := by
          by_cases h0 : (f l 0).2.2 = 0
          · exact h0
          · rw [rlist_e h0] at h; exact absurd h h0
        rw [ih.val _ _ h, A.val l 0 h0, A.state]
      · rw [rlist_e he, rlist_e he]
end Go.Proofs.Ytmobijebjkjnoaa.Al
namespace Go.Proofs.Ytmobijebjkjnoaa.Al
open Go Go.RowKit
set_option linter.unusedSimpArgs false
set_option linter.unusedVariables false
attribute [-simp] List.getD_eq_getElem?_getD Int.not_lt Int.not_le List.map_take
/-- A writer o, made since h0, that holds these bytes. -/
structure WC (h0 h : AH) (o : Nat) (L : List Nat) : Prop where
  wo : ∃ st, WO h o L st ∧ (st ≤ 2 ∨ h0.next ≤ st)
  gr : Gr h0 h
  ho : h0.nobj ≤ o
  lo : o < h.nobj
theorem WC.new {h0 h : AH} {o : Nat} {L : List Nat} (w : WC h0 h o L) (z : List V) : WC h0 (h.new z) o L := by
  obtain ⟨st, wo, fs⟩ := w.wo
  have := w.lo
  exact ⟨⟨st, wo.keep (new_objs_ne _ _ (by omega)) (Nat.le_refl _) rfl, fs⟩, w.gr.new z, w.ho, by simp; omega⟩
theorem WC.set {h0 h : AH} {o q : Nat} {L : List Nat} (w : WC h0 h o L) (hq : h0.nobj ≤ q) (hne : ¬ o = q) (z : List V) : WC h0 (h.set q z) o L := by
  obtain ⟨st, wo, fs⟩ := w.wo
  exact ⟨⟨st, wo.keep (set_objs_ne _ _ _ hne) (Nat.le_refl _) rfl, fs⟩, w.gr.set hq z, w.ho, w.lo⟩
end Go.Proofs.Ytmobijebjkjnoaa.Al
namespace Go.Proofs.Ytmobijebjkjnoaa.Al
open Go Go.RowKit
set_option linter.unusedSimpArgs false
set_option linter.unusedVariables false
attribute [-simp] List.getD_eq_getElem?_getD Int.not_lt Int.not_le List.map_take
theorem ints_get {l : List Int} {i : Nat} (h : i < l.length) : (ints l).getD i .undef = .int .i64 l[i] := by
  simp [ints, List.getD, List.getElem?_eq_getElem h]
theorem ints_cells (l : List Int) : cellsOf (ints l) = ints l := by
  induction l with
  | nil => rfl
  | cons a as ih => show V.cells (.int .i64 a) ++ cellsOf (ints as) = _; rw [ih]; rfl
theorem Bdd_ints (n m : Nat) (l : List Int) : ∀ v ∈ cellsOf (ints l), Bdd n m v := by
  intro v hv
  rw [ints_cells] at hv
  simp [ints] at hv; obtain ⟨b, _, rfl⟩ := hv; exact .int _ _
/-- Lists that are compared item by item. -/
theorem take_ext2 {α : Type} {a b : List α} {k : Nat} (ha : k < a.length) (hb : k < b.length) (h : a.take k = b.take k) (e : a[k] = b[k]) : a.take (k + 1) = b.take (k + 1) := by
  rw [List.take_succ_eq_append_getElem ha, List.take_succ_eq_append_getElem hb, h, e]
/-- An edit. -/
structure Ed where
  at' : Int
  drop : Bool
  tok : Int
  deriving DecidableEq
/-! ### Structs in a slice, of which less is known -/
theorem WkL.append {a b c d : List V} (x : WkL a b) (y : WkL c d) : WkL (a ++ c) (b ++ d) := by
  induction x with
  | nil => exact y
  | cons h t ih => exact .cons h ih
inductive WkE : List V → List V → Prop
  | nil : WkE [] []
  | cons {a b l m : List V} (h : WkL a b) (t : WkE l m) : WkE (.agg a :: l) (.agg b :: m)
theorem WkE.cells {l m : List V} (w : WkE l m) : l.length = m.length ∧ WkL (cellsOf l) (cellsOf m) := by
  induction w with
  | nil => exact ⟨rfl, .nil⟩
  | cons h t ih => exact ⟨by simp [ih.1], h.append ih.2⟩
theorem WkE.append {a b c d : List V} (x : WkE a b) (y : WkE c d) : WkE (a ++ c) (b ++ d) := by
  induction x with
  | nil => exact y
  | cons h t ih => exact .cons h ih
theorem WkE.sl {e st : Nat} {l m : List V} (w : WkE l m) (hm : ∀ v ∈ m, v.cells.length = e) : Wk (.sl e st l) (.sl e 0 m) := by
  obtain ⟨a, b⟩ := w.cells
  obtain ⟨c, d⟩ := b.get
  exact .sld e st l m a hm c d
/-- A step of the reference's reader, and the program's that it is. -/
structure SimR {α : Type} (f g : Step α) : Prop where
  val : ∀ b e, (f b e).1 = (g (absR (b, e)).1 (absR (b, e)).2).1
  st : ∀ b e, absR (f b e).2 = (g (absR (b, e)).1 (absR (b, e)).2).2
theorem SimR.step {α : Type} {f g : Step α} (S : SimR f g) (b : List Nat) (e : Int) : g (absR (b, e)).1 (absR (b, e)).2 = ((f b e).1, absR ((f b e).2.1, (f b e).2.2)) := by
  rw [S.val b e, show ((f b e).2.1, (f b e).2.2) = (f b e).2 from rfl, S.st b e]
theorem SimR.map {α β : Type} {f g : Step α} (S : SimR f g) (φ : α → β) : SimR (stepMap φ f) (stepMap φ g) := ⟨fun b e => by simp only [stepMap, S.val b e], fun b e => by simp only [stepMap, S.st b e]⟩
theorem SimR.rl {α : Type} {f g : Step α} (S : SimR f g) : ∀ n, SimR (rlist f n) (rlist g n)
  | 0 => ⟨fun b e => rfl, fun b e => rfl⟩
  | n + 1 => by
    have ih := S.rl n
    have key : ∀ b e, rlist g (n + 1) (absR (b, e)).1 (absR (b, e)).2 = ((rlist f (n + 1) b e).1, absR (rlist f (n + 1) b e).2) := fun b e => by
      by_cases he : e = 0
      · subst he
        rw [show (absR (b, (0 : Int))).2 = 0 from rfl, rlist_succ0, rlist_succ0]
        have h1 := S.step b 0
        rw [show (absR (b, (0 : Int))).2 = 0 from rfl] at h1
        rw [h1]
        simp only
        rw [ih.val, ← ih.st]
      · rw [rlist_e he, rlist_e (e := (absR (b, e)).2) he]
    exact ⟨fun b e => by rw [key], fun b e => by rw [key]⟩
theorem SimR.seq {α β : Type} {f g : Step α} {f2 g2 : Step β} (S : SimR f g) (T : SimR f2 g2) : SimR (seq2 f f2) (seq2 g g2) := by
  refine ⟨fun b e => ?_, fun b e => ?_⟩
  · simp only [seq2, S.step b e]; rw [T.val]
  · simp only [seq2, S.step b e]; rw [T.st]
/-- Two slices that this call has made, and may append to each without the other one. -/
structure Two (h0 h : AH) (e1 st1 : Nat) (l1 : List V) (e2 st2 : Nat) (l2 : List V) : Prop where
  a : Own h0 h 2 e1 st1 l1
  b : Own h0 h 2 e2 st2 l2
  ba : st1 ≤ 2 ∨ st1 < h.next
  ne : st1 ≤ 2 ∨ ¬ st1 = st2
theorem Two.set {h0 h : AH} {e1 st1 e2 st2 o : Nat} {l1 l2 : List V} (t : Two h0 h e1 st1 l1 e2 st2 l2) (ho : h0.nobj ≤ o) (z : List V) : Two h0 (h.set o z) e1 st1 l1 e2 st2 l2 :=
  ⟨⟨t.a.gr.set ho z, t.a.el, t.a.st⟩, ⟨t.b.gr.set ho z, t.b.el, t.b.st⟩, t.ba, t.ne⟩
theorem Own.set {h0 h : AH} {e e1 st1 o : Nat} {l1 : List V} (t : Own h0 h e e1 st1 l1) (ho : h0.nobj ≤ o) (z : List V) : Own h0 (h.set o z) e e1 st1 l1 := ⟨t.gr.set ho z, t.el, t.st⟩
theorem Own.new {h0 h : AH} {e e1 st1 : Nat} {l1 : List V} (t : Own h0 h e e1 st1 l1) (z : List V) : Own h0 (h.new z) e e1 st1 l1 := ⟨t.gr.new z, t.el, t.st⟩
theorem Own.keep {h0 h : AH} {e e1 st1 st2 : Nat} {l1 : List V} (t : Own h0 h e e1 st1 l1) (gr : Gr h0 (h.push st2 e)) (ba : st1 ≤ 2 ∨ st1 < h.next) (ne : st1 ≤ 2 ∨ ¬ st1 = st2) : Own h0 (h.push st2 e) e e1 st1 l1 := by
  refine ⟨gr, t.el, ?_⟩
  rcases t.st with h1 | h1 | ⟨h1, h2⟩
  · exact .inl h1
  · exact .inr (.inl h1)
  · by_cases hs : st1 ≤ 2
    · have := h0.next
      by_cases h1' : st1 = 1
      · exact .inl h1'
      by_cases h2' : st1 = 2
      · exact .inr (.inl h2')
      refine .inr (.inr ⟨?_, h2⟩)
      rcases ba with ba | ba
      · unfold AH.push
        by_cases hst : st2 ≤ 2
        · rw [if_pos hst]
          by_cases hx : st1 = h.next
          · rw [hx]; exact updN_same _ _ _
          · rw [show (h.grow e).tips st1 = h.tips st1 from updN_ne _ _ hx]; exact h1
        · rw [if_neg hst]
          by_cases hx : st1 = h.next
          · rw [hx]; exact updN_same _ _ _
          · rw [show ((h.drop st2).grow e).tips st1 = (h.drop st2).tips st1 from updN_ne _ _ hx, show (h.drop st2).tips st1 = h.tips st1 from updN_ne _ _ (by omega)]; exact h1
      · unfold AH.push
        by_cases hst : st2 ≤ 2
        · rw [if_pos hst, show (h.grow e).tips st1 = h.tips st1 from updN_ne _ _ (by omega)]; exact h1
        · rw [if_neg hst, show ((h.drop st2).grow e).tips st1 = (h.drop st2).tips st1 from updN_ne _ _ (by show st1 ≠ h.next; omega), show (h.drop st2).tips st1 = h.tips st1 from updN_ne _ _ (by omega)]; exact h1
    · refine .inr (.inr ⟨?_, h2⟩)
      unfold AH.push
      by_cases hst : st2 ≤ 2
      · rw [if_pos hst, show (h.grow e).tips st1 = h.tips st1 from updN_ne _ _ (by omega)]; exact h1
      · rw [if_neg hst, show ((h.drop st2).grow e).tips st1 = (h.drop st2).tips st1 from updN_ne _ _ (by show st1 ≠ h.next; omega), show (h.drop st2).tips st1 = h.tips st1 from updN_ne _ _ (by omega)]; exact h1
section
variable {X : Cx} {h : AH} {Q : V → AH → Prop}
theorem Own.push {h0 h : AH} {e e1 st : Nat} {l : List V} (o : Own h0 h e e1 st l) (m : List V) : Own h0 (h.push st e) e e h.next (l ++ m) := by
  refine ⟨o.gr.push ?_ e, .inr rfl, .inr (.inr ⟨push_new h st e, o.gr.next⟩)⟩
  rcases o.st with h1 | h1 | h1
  · omega
  · omega
  · exact .inr h1.2
/-- An append, with all that is known of the heap. -/
theorem Own.appF {h0 h : AH} {e e1 st : Nat} {l : List V} (o : Own h0 h e e1 st l) {sz e2 : Nat} {m : List V} (hm : m ≠ []) (he : e2 = e) (hb : (l.length + m.length) * sz ≤ 2 ^ 46) {K : V → AH → Prop} {zK : Lz K}
    (hk : Own h0 (h.push st e) e e h.next (l ++ m) → K (.sl e h.next (l ++ m)) (h.push st e)) : App h e sz e1 st l e2 m zK := by
  refine ⟨fun h1 => absurd h1 hm, fun _ => ⟨?_, o.el, he, hb, hk (o.push m)⟩⟩
  rcases o.st with h1 | h1 | h1
  · exact .inl h1
  · exact .inr (.inl h1)
  · exact .inr (.inr h1.1)
theorem Two.app {h0 h : AH} {e1 st1 e2 st2 : Nat} {l1 l2 : List V} (t : Two h0 h e1 st1 l1 e2 st2 l2) {sz e3 : Nat} {m : List V} (hm : m ≠ []) (he : e3 = 2) (hb : (l2.length + m.length) * sz ≤ 2 ^ 46) {K : V → AH → Prop} {zK : Lz K}
    (hk : ∀ st' h', Two h0 h' e1 st1 l1 2 st' (l2 ++ m) → h'.objs = h.objs → h'.nobj = h.nobj → K (.sl 2 st' (l2 ++ m)) h') : App h 2 sz e2 st2 l2 e3 m zK :=
  t.b.appF hm he hb fun o' => hk _ _ ⟨t.a.keep o'.gr t.ba t.ne, o', t.ba.imp id fun h1 => by rw [push_next]; omega, t.ba.imp id fun h1 => by omega⟩ (push_objs _ _ _) (push_nobj _ _ _)
end
end Go.Proofs.Ytmobijebjkjnoaa.Al
namespace Go.Proofs.Ytmobijebjkjnoaa.Al
def A.probatelaw06_RulesBrackets.L0 : AC := .post (.seq (.reg [⟨(some 43), none, .bin .lss (.t 42) (.t 41)⟩])
  (.keep [3, 9, 10, 40, 41, 42, 43] (.seq (.cond (.t 43) .skip (.exit 0))
  (.keep [3, 9, 10, 40, 41, 42] (.seq (.block 1 (.seq (.reg [⟨(some 44), none, .ia 3 (.t 40) (.t 42)⟩, ⟨(some 45), none, .load true 3 (.t 44)⟩, ⟨(some 12), none, .alloc [(.int .i64 (0)), (.str []), (.int .i64 (0))]⟩, ⟨none, none, .store 3 (.t 12) (.t 45)⟩])
  (.keep [3, 9, 10, 12, 40, 41, 42] (.seq (.reg [⟨(some 46), none, .fa 1 (.t 12)⟩, ⟨(some 47), none, .load false 1 (.t 46)⟩, ⟨(some 13), none, .mv (.t 47)⟩])
  (.keep [3, 9, 10, 12, 13, 40, 41, 42] (.seq (.seq (.reg [⟨(some 48), none, .fa 0 (.t 12)⟩, ⟨(some 49), none, .load false 1 (.t 48)⟩, ⟨(some 50), none, .bin .eql (.t 49) (.c (.int .i64 (2)))⟩])
  (.keep [3, 9, 10, 12, 13, 40, 41, 42, 50] (.cond (.t 50) (.reg [⟨(some 51), none, .mv (.t 13)⟩, ⟨(some 52), none, .bin .add (.c (.str [39])) (.t 51)⟩, ⟨(some 53), none, .bin .add (.t 52) (.c (.str [39]))⟩, ⟨(some 13), none, .mv (.t 53)⟩]) .skip)))
  (.keep [3, 9, 10, 12, 13, 40, 41, 42] (.seq (.block 2 (.seq (.reg [⟨(some 55), none, .fa 0 (.t 12)⟩, ⟨(some 56), none, .load false 1 (.t 55)⟩, ⟨(some 57), none, .bin .eql (.t 56) (.c (.int .i64 (3)))⟩, ⟨(some 58), none, .mv (.t 57)⟩, ⟨(some 59), (some (58, true)), .mv (.t 13)⟩, ⟨(some 60), (some (58, true)), .bin .eql (.t 59) (.c (.str [58]))⟩, ⟨(some 61), none, .pick (.t 58) (.t 60) (.c (.bool false))⟩, ⟨(some 54), none, .mv (.t 61)⟩])
  (.keep [3, 9, 10, 12, 13, 40, 41, 42, 54] (.cond (.t 54) (.reg [⟨(some 13), none, .mv (.c (.str [58, 32, 40]))⟩, ⟨(some 10), none, .mv (.c (.bool true))⟩]) (.seq (.reg [⟨(some 63), none, .fa 0 (.t 12)⟩, ⟨(some 64), none, .load false 1 (.t 63)⟩, ⟨(some 65), none, .bin .eql (.t 64) (.c (.int .i64 (3)))⟩, ⟨(some 66), none, .mv (.t 65)⟩, ⟨(some 67), (some (66, true)), .mv (.t 13)⟩, ⟨(some 68), (some (66, true)), .bin .eql (.t 67) (.c (.str [59]))⟩, ⟨(some 69), none, .pick (.t 66) (.t 68) (.c (.bool false))⟩, ⟨(some 62), none, .mv (.t 69)⟩])
  (.keep [3, 9, 10, 12, 13, 40, 41, 42, 62] (.cond (.t 62) (.reg [⟨(some 13), none, .mv (.c (.str [41, 32, 59]))⟩, ⟨(some 10), none, .mv (.c (.bool false))⟩]) (.seq (.reg [⟨(some 71), none, .fa 0 (.t 12)⟩, ⟨(some 72), none, .load false 1 (.t 71)⟩, ⟨(some 73), none, .bin .neq (.t 72) (.c (.int .i64 (3)))⟩, ⟨(some 74), none, .mv (.t 73)⟩, ⟨(some 75), (some (74, true)), .mv (.t 10)⟩, ⟨(some 76), none, .pick (.t 74) (.t 75) (.c (.bool false))⟩, ⟨(some 70), none, .mv (.t 76)⟩])
  (.keep [3, 9, 10, 13, 40, 41, 42, 70] (.cond (.t 70) (.reg [⟨(some 77), none, .mv (.t 13)⟩, ⟨(some 78), none, .bin .add (.c (.str [40])) (.t 77)⟩, ⟨(some 79), none, .bin .add (.t 78) (.c (.str [41]))⟩, ⟨(some 13), none, .mv (.t 79)⟩]) .skip))))))))))
  (.keep [3, 9, 10, 13, 40, 41, 42] (.reg [⟨(some 80), none, .mv (.t 9)⟩, ⟨(some 81), none, .mv (.t 13)⟩, ⟨(some 82), none, .bin .add (.t 81) (.c (.str [32]))⟩, ⟨(some 83), none, .bin .add (.t 80) (.t 82)⟩, ⟨(some 9), none, .mv (.t 83)⟩]))))))))))
  (.keep [3, 9, 10, 40, 41, 42] (.reg [⟨(some 84), none, .bin .add (.t 42) (.c (.int .i64 (1)))⟩, ⟨(some 42), none, .mv (.t 84)⟩]))))))) [3, 9, 10, 40, 41, 42]
def A.probatelaw06_RulesBrackets : AFn := ⟨98, [(2, none)], (.seq (.reg [⟨(some 2), none, .mv (.c (.bool false))⟩])
  (.keep [0] (.seq (.seq (.reg [⟨(some 17), none, .call (.c (.fn K.probatelaw06_awake [] [])) []⟩, ⟨(some 18), none, .un .not (.t 17)⟩])
  (.keep [0, 18] (.cond (.t 18) (.seq (.reg [⟨(some 2), none, .mv (.c (.bool false))⟩]) .ret) .skip)))
  (.keep [0] (.seq (.seq (.reg [⟨(some 19), none, .mv (.t 0)⟩, ⟨(some 20), none, .len true (.t 19)⟩, ⟨(some 21), none, .bin .gtr (.t 20) (.c (.int .i64 (400)))⟩])
  (.keep [0, 21] (.cond (.t 21) (.seq (.reg [⟨(some 2), none, .mv (.c (.bool true))⟩]) .ret) .skip)))
  (.keep [0] (.seq (.reg [⟨(some 23), none, .mv (.t 0)⟩, ⟨(some 24), none, .call (.c (.fn K.rules_Read [] [])) [(.t 23)]⟩, ⟨(some 22), none, .mv (.t 24)⟩, ⟨(some 25), none, .ext (.t 22) 0⟩, ⟨(some 26), none, .ext (.t 22) 1⟩, ⟨(some 27), none, .ext (.t 22) 2⟩, ⟨(some 3), none, .alloc [(.sl 0 1 []), (.sl 0 1 [])]⟩, ⟨none, none, .store 2 (.t 3) (.t 25)⟩, ⟨(some 4), none, .mv (.t 26)⟩, ⟨(some 5), none, .mv (.t 27)⟩])
  (.keep [0, 3, 5] (.seq (.reg [⟨(some 29), none, .mv (.t 0)⟩, ⟨(some 30), none, .call (.c (.fn K.scan_Scan [] [])) [(.t 29)]⟩, ⟨(some 28), none, .mv (.t 30)⟩, ⟨(some 31), none, .ext (.t 28) 0⟩, ⟨(some 32), none, .ext (.t 28) 1⟩, ⟨(some 33), none, .ext (.t 28) 2⟩, ⟨(some 6), none, .mv (.t 31)⟩, ⟨(some 7), none, .mv (.t 32)⟩, ⟨(some 8), none, .mv (.t 33)⟩])
  (.keep [3, 5, 6, 8] (.seq (.seq (.reg [⟨(some 34), none, .mv (.t 5)⟩, ⟨(some 35), none, .bin .neq (.t 34) (.c (.int .i64 (0)))⟩, ⟨(some 36), none, .mv (.t 35)⟩, ⟨(some 37), (some (36, false)), .mv (.t 8)⟩, ⟨(some 38), (some (36, false)), .bin .neq (.t 37) (.c (.int .i64 (0)))⟩, ⟨(some 39), none, .pick (.t 36) (.c (.bool true)) (.t 38)⟩])
  (.keep [3, 6, 39] (.cond (.t 39) (.seq (.reg [⟨(some 2), none, .mv (.c (.bool true))⟩]) .ret) .skip)))
  (.keep [3, 6] (.seq (.reg [⟨(some 9), none, .mv (.c (.str []))⟩])
  (.keep [3, 6, 9] (.seq (.reg [⟨(some 10), none, .mv (.c (.bool false))⟩])
  (.keep [3, 6, 9, 10] (.seq (.seq (.reg [⟨(some 40), none, .mv (.t 6)⟩, ⟨(some 41), none, .len false (.t 40)⟩, ⟨(some 42), none, .mv (.c (.int .i64 (0)))⟩])
  (.keep [3, 9, 10, 40, 41, 42] (.block 0 (.loop A.probatelaw06_RulesBrackets.L0))))
  (.keep [3, 9] (.seq (.reg [⟨(some 86), none, .mv (.t 9)⟩, ⟨(some 87), none, .call (.c (.fn K.rules_Read [] [])) [(.t 86)]⟩, ⟨(some 85), none, .mv (.t 87)⟩, ⟨(some 88), none, .ext (.t 85) 0⟩, ⟨(some 89), none, .ext (.t 85) 1⟩, ⟨(some 90), none, .ext (.t 85) 2⟩, ⟨(some 14), none, .alloc [(.sl 0 1 []), (.sl 0 1 [])]⟩, ⟨none, none, .store 2 (.t 14) (.t 88)⟩, ⟨(some 15), none, .mv (.t 89)⟩, ⟨(some 16), none, .mv (.t 90)⟩])
  (.keep [3, 14, 16] (.seq (.reg [⟨(some 91), none, .mv (.t 16)⟩, ⟨(some 92), none, .bin .eql (.t 91) (.c (.int .i64 (0)))⟩, ⟨(some 93), none, .mv (.t 92)⟩, ⟨(some 94), (some (93, true)), .load true 2 (.t 3)⟩, ⟨(some 95), (some (93, true)), .load true 2 (.t 14)⟩, ⟨(some 96), (some (93, true)), .call (.c (.fn K.rules_Same [] [])) [(.t 94), (.t 95)]⟩, ⟨(some 97), none, .pick (.t 93) (.t 96) (.c (.bool false))⟩, ⟨(some 2), none, .mv (.t 97)⟩]) .ret)))))))))))))))))))))⟩
def A.probatelaw06_Large.L0 : AC := .post (.seq (.reg [⟨(some 21), none, .bin .lss (.t 20) (.t 19)⟩])
  (.keep [1, 18, 19, 20, 21] (.seq (.cond (.t 21) .skip (.exit 0))
  (.keep [1, 18, 19, 20] (.seq (.block 1 (.seq (.reg [⟨(some 22), none, .ia 2 (.t 18) (.t 20)⟩, ⟨(some 23), none, .load true 2 (.t 22)⟩, ⟨(some 4), none, .alloc [(.str []), (.int .i64 (0))]⟩, ⟨none, none, .store 2 (.t 4) (.t 23)⟩])
  (.keep [1, 4, 18, 19, 20] (.seq (.reg [⟨(some 24), none, .fa 0 (.t 4)⟩, ⟨(some 25), none, .load false 1 (.t 24)⟩, ⟨(some 26), none, .len true (.t 25)⟩, ⟨(some 27), none, .bin .gtr (.t 26) (.c (.int .i64 (100)))⟩])
  (.keep [1, 18, 19, 20, 27] (.cond (.t 27) (.seq (.reg [⟨(some 2), none, .mv (.c (.bool true))⟩]) .ret) .skip))))))
  (.keep [1, 18, 19, 20] (.reg [⟨(some 28), none, .bin .add (.t 20) (.c (.int .i64 (1)))⟩, ⟨(some 20), none, .mv (.t 28)⟩]))))))) [1, 18, 19, 20]
def A.probatelaw06_Large.L1 : AC := .post (.seq (.reg [⟨(some 33), none, .bin .lss (.t 32) (.t 31)⟩])
  (.keep [30, 31, 32, 33] (.seq (.cond (.t 33) .skip (.exit 2))
  (.keep [30, 31, 32] (.seq (.block 3 (.seq (.reg [⟨(some 34), none, .ia 3 (.t 30) (.t 32)⟩, ⟨(some 35), none, .load true 3 (.t 34)⟩, ⟨(some 6), none, .alloc [(.int .i64 (0)), (.str []), (.sl 0 1 [])]⟩, ⟨none, none, .store 3 (.t 6) (.t 35)⟩])
  (.keep [6, 30, 31, 32] (.seq (.reg [⟨(some 36), none, .fa 1 (.t 6)⟩, ⟨(some 37), none, .load false 1 (.t 36)⟩, ⟨(some 38), none, .len true (.t 37)⟩, ⟨(some 39), none, .bin .gtr (.t 38) (.c (.int .i64 (100)))⟩, ⟨(some 40), none, .mv (.t 39)⟩, ⟨(some 41), (some (40, false)), .fa 2 (.t 6)⟩, ⟨(some 42), (some (40, false)), .load false 1 (.t 41)⟩, ⟨(some 43), (some (40, false)), .len false (.t 42)⟩, ⟨(some 44), (some (40, false)), .bin .gtr (.t 43) (.c (.int .i64 (210)))⟩, ⟨(some 45), none, .pick (.t 40) (.c (.bool true)) (.t 44)⟩])
  (.keep [30, 31, 32, 45] (.cond (.t 45) (.seq (.reg [⟨(some 2), none, .mv (.c (.bool true))⟩]) .ret) .skip))))))
  (.keep [30, 31, 32] (.reg [⟨(some 46), none, .bin .add (.t 32) (.c (.int .i64 (1)))⟩, ⟨(some 32), none, .mv (.t 46)⟩]))))))) [30, 31, 32]
def A.probatelaw06_Large : AFn := ⟨47, [(2, none)], (.seq (.reg [⟨(some 1), none, .box (.t 0)⟩, ⟨(some 2), none, .mv (.c (.bool false))⟩])
  (.keep [1] (.seq (.seq (.reg [⟨(some 7), none, .fa 0 (.t 1)⟩, ⟨(some 8), none, .load false 1 (.t 7)⟩, ⟨(some 9), none, .len false (.t 8)⟩, ⟨(some 10), none, .bin .gtr (.t 9) (.c (.int .i64 (30)))⟩, ⟨(some 11), none, .mv (.t 10)⟩, ⟨(some 12), (some (11, false)), .fa 1 (.t 1)⟩, ⟨(some 13), (some (11, false)), .load false 1 (.t 12)⟩, ⟨(some 14), (some (11, false)), .len false (.t 13)⟩, ⟨(some 15), (some (11, false)), .bin .gtr (.t 14) (.c (.int .i64 (210)))⟩, ⟨(some 16), none, .pick (.t 11) (.c (.bool true)) (.t 15)⟩])
  (.keep [1, 16] (.cond (.t 16) (.seq (.reg [⟨(some 2), none, .mv (.c (.bool true))⟩]) .ret) .skip)))
  (.keep [1] (.seq (.seq (.reg [⟨(some 17), none, .fa 0 (.t 1)⟩, ⟨(some 18), none, .load false 1 (.t 17)⟩, ⟨(some 19), none, .len false (.t 18)⟩, ⟨(some 20), none, .mv (.c (.int .i64 (0)))⟩])
  (.keep [1, 18, 19, 20] (.block 0 (.loop A.probatelaw06_Large.L0))))
  (.keep [1] (.seq (.seq (.reg [⟨(some 29), none, .fa 1 (.t 1)⟩, ⟨(some 30), none, .load false 1 (.t 29)⟩, ⟨(some 31), none, .len false (.t 30)⟩, ⟨(some 32), none, .mv (.c (.int .i64 (0)))⟩])
  (.keep [30, 31, 32] (.block 2 (.loop A.probatelaw06_Large.L1))))
  (.keep [] (.seq (.reg [⟨(some 2), none, .mv (.c (.bool false))⟩]) .ret)))))))))⟩
def A.probatelaw06_Own.L0 : AC := .post (.seq (.reg [⟨(some 13), none, .bin .lss (.t 12) (.t 11)⟩])
  (.keep [1, 2, 3, 10, 11, 12, 13] (.seq (.cond (.t 13) .skip (.exit 0))
  (.keep [1, 2, 3, 10, 11, 12] (.seq (.block 1 (.seq (.reg [⟨(some 14), none, .ia 2 (.t 10) (.t 12)⟩, ⟨(some 15), none, .load true 2 (.t 14)⟩, ⟨(some 5), none, .alloc [(.str []), (.int .i64 (0))]⟩, ⟨none, none, .store 2 (.t 5) (.t 15)⟩])
  (.keep [1, 2, 3, 5, 10, 11, 12] (.reg [⟨(some 16), none, .fa 0 (.t 3)⟩, ⟨(some 17), none, .load false 1 (.t 16)⟩, ⟨(some 18), none, .load true 2 (.t 5)⟩, ⟨(some 19), none, .bsl 2 true [(.str []), (.int .i64 (0))] 1 [(0, (.t 18))]⟩, ⟨(some 20), none, .app 2 24 (.t 17) (.t 19)⟩, ⟨(some 21), none, .fa 0 (.t 3)⟩, ⟨none, none, .store 1 (.t 21) (.t 20)⟩]))))
  (.keep [1, 2, 3, 10, 11, 12] (.reg [⟨(some 22), none, .bin .add (.t 12) (.c (.int .i64 (1)))⟩, ⟨(some 12), none, .mv (.t 22)⟩]))))))) [1, 2, 3, 10, 11, 12]
def A.probatelaw06_Own.L1 : AC := .post (.seq (.reg [⟨(some 27), none, .bin .lss (.t 26) (.t 25)⟩])
  (.keep [2, 3, 24, 25, 26, 27] (.seq (.cond (.t 27) .skip (.exit 2))
  (.keep [2, 3, 24, 25, 26] (.seq (.block 3 (.seq (.reg [⟨(some 28), none, .ia 3 (.t 24) (.t 26)⟩, ⟨(some 29), none, .load true 3 (.t 28)⟩, ⟨(some 7), none, .alloc [(.int .i64 (0)), (.str []), (.sl 0 1 [])]⟩, ⟨none, none, .store 3 (.t 7) (.t 29)⟩])
  (.keep [2, 3, 7, 24, 25, 26] (.reg [⟨(some 30), none, .fa 1 (.t 3)⟩, ⟨(some 31), none, .load false 1 (.t 30)⟩, ⟨(some 32), none, .load true 3 (.t 7)⟩, ⟨(some 33), none, .bsl 3 true [(.int .i64 (0)), (.str []), (.sl 0 1 [])] 1 [(0, (.t 32))]⟩, ⟨(some 34), none, .app 3 48 (.t 31) (.t 33)⟩, ⟨(some 35), none, .fa 1 (.t 3)⟩, ⟨none, none, .store 1 (.t 35) (.t 34)⟩]))))
  (.keep [2, 3, 24, 25, 26] (.reg [⟨(some 36), none, .bin .add (.t 26) (.c (.int .i64 (1)))⟩, ⟨(some 26), none, .mv (.t 36)⟩]))))))) [2, 3, 24, 25, 26]
def A.probatelaw06_Own : AFn := ⟨38, [(2, (some (true, 2)))], (.seq (.reg [⟨(some 1), none, .box (.t 0)⟩, ⟨(some 2), none, .alloc [(.sl 0 1 []), (.sl 0 1 [])]⟩])
  (.keep [1, 2] (.seq (.reg [⟨(some 8), none, .bld [(.sl 0 1 []), (.sl 0 1 [])] []⟩, ⟨(some 3), none, .alloc [(.sl 0 1 []), (.sl 0 1 [])]⟩, ⟨none, none, .store 2 (.t 3) (.t 8)⟩])
  (.keep [1, 2, 3] (.seq (.seq (.reg [⟨(some 9), none, .fa 0 (.t 1)⟩, ⟨(some 10), none, .load false 1 (.t 9)⟩, ⟨(some 11), none, .len false (.t 10)⟩, ⟨(some 12), none, .mv (.c (.int .i64 (0)))⟩])
  (.keep [1, 2, 3, 10, 11, 12] (.block 0 (.loop A.probatelaw06_Own.L0))))
  (.keep [1, 2, 3] (.seq (.seq (.reg [⟨(some 23), none, .fa 1 (.t 1)⟩, ⟨(some 24), none, .load false 1 (.t 23)⟩, ⟨(some 25), none, .len false (.t 24)⟩, ⟨(some 26), none, .mv (.c (.int .i64 (0)))⟩])
  (.keep [2, 3, 24, 25, 26] (.block 2 (.loop A.probatelaw06_Own.L1))))
  (.keep [2, 3] (.seq (.reg [⟨(some 37), none, .load true 2 (.t 3)⟩, ⟨none, none, .store 2 (.t 2) (.t 37)⟩]) .ret)))))))))⟩
def A.probatelaw06_awake : AFn := ⟨85, [(0, none)], (.seq (.reg [⟨(some 0), none, .mv (.c (.bool false))⟩])
  (.keep [] (.seq (.reg [⟨(some 12), none, .call (.c (.fn K.rules_Read [] [])) [(.c (.str [115, 58, 32, 39, 97, 39, 32, 115, 32, 124, 32, 59]))]⟩, ⟨(some 11), none, .mv (.t 12)⟩, ⟨(some 13), none, .ext (.t 11) 0⟩, ⟨(some 14), none, .ext (.t 11) 1⟩, ⟨(some 15), none, .ext (.t 11) 2⟩, ⟨(some 1), none, .alloc [(.sl 0 1 []), (.sl 0 1 [])]⟩, ⟨none, none, .store 2 (.t 1) (.t 13)⟩, ⟨(some 2), none, .mv (.t 14)⟩, ⟨(some 3), none, .mv (.t 15)⟩])
  (.keep [1, 2, 3] (.seq (.reg [⟨(some 16), none, .bld [(.str []), (.int .i64 (0))] [(0, 1, (.c (.str [115]))), (1, 1, (.c (.int .i64 (4))))]⟩, ⟨(some 17), none, .bsl 2 true [(.str []), (.int .i64 (0))] 1 [(0, (.t 16))]⟩, ⟨(some 18), none, .bld [(.int .i64 (0)), (.str []), (.sl 0 1 [])] [(0, 1, (.c (.int .i64 (7)))), (1, 1, (.c (.str [97])))]⟩, ⟨(some 19), none, .bld [(.int .i64 (0)), (.str []), (.sl 0 1 [])] [(0, 1, (.c (.int .i64 (6)))), (1, 1, (.c (.str [115])))]⟩, ⟨(some 20), none, .bsl 1 false [(.int .i64 (0))] 2 [(0, (.c (.int .i64 (0)))), (1, (.c (.int .i64 (1))))]⟩, ⟨(some 21), none, .bld [(.int .i64 (0)), (.str []), (.sl 0 1 [])] [(0, 1, (.c (.int .i64 (1)))), (2, 1, (.t 20))]⟩, ⟨(some 22), none, .bld [(.int .i64 (0)), (.str []), (.sl 0 1 [])] [(0, 1, (.c (.int .i64 (1))))]⟩, ⟨(some 23), none, .bsl 1 false [(.int .i64 (0))] 2 [(0, (.c (.int .i64 (2)))), (1, (.c (.int .i64 (3))))]⟩, ⟨(some 24), none, .bld [(.int .i64 (0)), (.str []), (.sl 0 1 [])] [(0, 1, (.c (.int .i64 (2)))), (2, 1, (.t 23))]⟩, ⟨(some 25), none, .bsl 3 true [(.int .i64 (0)), (.str []), (.sl 0 1 [])] 5 [(0, (.t 18)), (1, (.t 19)), (2, (.t 21)), (3, (.t 22)), (4, (.t 24))]⟩, ⟨(some 26), none, .bld [(.sl 0 1 []), (.sl 0 1 [])] [(0, 1, (.t 17)), (1, 1, (.t 25))]⟩, ⟨(some 4), none, .alloc [(.sl 0 1 []), (.sl 0 1 [])]⟩, ⟨none, none, .store 2 (.t 4) (.t 26)⟩])
  (.keep [1, 2, 3, 4] (.seq (.reg [⟨(some 28), none, .call (.c (.fn K.rules_Read [] [])) [(.c (.str [115, 58, 32, 39, 97, 39]))]⟩, ⟨(some 27), none, .mv (.t 28)⟩, ⟨(some 29), none, .ext (.t 27) 0⟩, ⟨(some 30), none, .ext (.t 27) 1⟩, ⟨(some 31), none, .ext (.t 27) 2⟩, ⟨(some 5), none, .alloc [(.sl 0 1 []), (.sl 0 1 [])]⟩, ⟨none, none, .store 2 (.t 5) (.t 29)⟩, ⟨(some 6), none, .mv (.t 30)⟩, ⟨(some 7), none, .mv (.t 31)⟩])
  (.keep [1, 2, 3, 4, 6, 7] (.seq (.reg [⟨(some 33), none, .call (.c (.fn K.rules_Read [] [])) [(.c (.str [115, 58, 32, 116, 32, 59]))]⟩, ⟨(some 32), none, .mv (.t 33)⟩, ⟨(some 34), none, .ext (.t 32) 0⟩, ⟨(some 35), none, .ext (.t 32) 1⟩, ⟨(some 36), none, .ext (.t 32) 2⟩, ⟨(some 8), none, .alloc [(.sl 0 1 []), (.sl 0 1 [])]⟩, ⟨none, none, .store 2 (.t 8) (.t 34)⟩, ⟨(some 9), none, .mv (.t 35)⟩, ⟨(some 10), none, .mv (.t 36)⟩])
  (.keep [1, 2, 3, 4, 6, 7, 9, 10] (.seq (.draw [(.pl, ⟨(some 37), none, .load true 2 (.t 1)⟩), (.pl, ⟨(some 38), none, .call (.c (.fn K.probatelaw06_Own [] [])) [(.t 37)]⟩), (.pl, ⟨(some 39), none, .load true 2 (.t 4)⟩), (.pl, ⟨(some 40), none, .call (.c (.fn K.probateref06_Same [] [])) [(.t 38), (.t 39)]⟩), (.pl, ⟨(some 41), none, .mv (.t 40)⟩), (.pl, ⟨(some 42), (some (41, true)), .mv (.t 2)⟩), (.pl, ⟨(some 43), (some (41, true)), .bin .eql (.t 42) (.c (.int .i64 (0)))⟩), (.pl, ⟨(some 44), none, .pick (.t 41) (.t 43) (.c (.bool false))⟩), (.pl, ⟨(some 45), none, .mv (.t 44)⟩), (.pl, ⟨(some 46), (some (45, true)), .mv (.t 3)⟩), (.pl, ⟨(some 47), (some (45, true)), .bin .eql (.t 46) (.c (.int .i64 (0)))⟩), (.pl, ⟨(some 48), none, .pick (.t 45) (.t 47) (.c (.bool false))⟩), (.pl, ⟨(some 49), none, .mv (.t 48)⟩), (.pl, ⟨(some 50), (some (49, true)), .mv (.t 6)⟩), (.pl, ⟨(some 51), (some (49, true)), .bin .eql (.t 50) (.c (.int .i64 (6)))⟩), (.pl, ⟨(some 52), none, .pick (.t 49) (.t 51) (.c (.bool false))⟩), (.pl, ⟨(some 53), none, .mv (.t 52)⟩), (.pl, ⟨(some 54), (some (53, true)), .mv (.t 7)⟩), (.pl, ⟨(some 55), (some (53, true)), .bin .eql (.t 54) (.c (.int .i64 (2)))⟩), (.pl, ⟨(some 56), none, .pick (.t 53) (.t 55) (.c (.bool false))⟩), (.pl, ⟨(some 57), none, .mv (.t 56)⟩), (.pl, ⟨(some 58), (some (57, true)), .mv (.t 9)⟩), (.pl, ⟨(some 59), (some (57, true)), .bin .eql (.t 58) (.c (.int .i64 (3)))⟩), (.pl, ⟨(some 60), none, .pick (.t 57) (.t 59) (.c (.bool false))⟩), (.pl, ⟨(some 61), none, .mv (.t 60)⟩), (.pl, ⟨(some 62), (some (61, true)), .mv (.t 10)⟩), (.pl, ⟨(some 63), (some (61, true)), .bin .eql (.t 62) (.c (.int .i64 (6)))⟩), (.pl, ⟨(some 64), none, .pick (.t 61) (.t 63) (.c (.bool false))⟩), (.pl, ⟨(some 65), none, .mv (.t 64)⟩), (.pl, ⟨(some 66), (some (65, true)), .load true 2 (.t 1)⟩), (.pl, ⟨(some 67), (some (65, true)), .call (.c (.fn K.rules_Right [] [])) [(.t 66)]⟩), (.pl, ⟨(some 68), none, .pick (.t 65) (.t 67) (.c (.bool false))⟩), (.pl, ⟨(some 69), none, .mv (.t 68)⟩), (.pl, ⟨(some 70), (some (69, true)), .bld [(.sl 0 1 []), (.sl 0 1 [])] []⟩), (.pl, ⟨(some 71), (some (69, true)), .call (.c (.fn K.rules_Right [] [])) [(.t 70)]⟩), (.pl, ⟨(some 72), (some (69, true)), .un .not (.t 71)⟩), (.pl, ⟨(some 73), none, .pick (.t 69) (.t 72) (.c (.bool false))⟩), (.pl, ⟨(some 74), none, .mv (.t 73)⟩), (.pl, ⟨(some 75), (some (74, true)), .load true 2 (.t 1)⟩), (.pl, ⟨(some 76), (some (74, true)), .load true 2 (.t 1)⟩), (.pl, ⟨(some 77), (some (74, true)), .call (.c (.fn K.rules_Same [] [])) [(.t 75), (.t 76)]⟩), (.pl, ⟨(some 78), none, .pick (.t 74) (.t 77) (.c (.bool false))⟩), (.pl, ⟨(some 79), none, .mv (.t 78)⟩), (.pl, ⟨(some 80), (some (79, true)), .load true 2 (.t 1)⟩), (.pl, ⟨(some 81), (some (79, true)), .bld [(.sl 0 1 []), (.sl 0 1 [])] []⟩), (.pl, ⟨(some 82), (some (79, true)), .call (.c (.fn K.rules_Same [] [])) [(.t 80), (.t 81)]⟩), (.pl, ⟨(some 83), (some (79, true)), .un .not (.t 82)⟩), (.pl, ⟨(some 84), none, .pick (.t 79) (.t 83) (.c (.bool false))⟩), (.pl, ⟨(some 0), none, .mv (.t 84)⟩)]) .ret)))))))))))⟩
def A.probateref06_Read.L0 : AC := .post (.seq (.seq (.reg [⟨(some 27), none, .mv (.t 8)⟩, ⟨(some 28), none, .nilchk (.t 27)⟩, ⟨(some 29), none, .fa 2 (.t 28)⟩, ⟨(some 30), none, .load false 1 (.t 29)⟩, ⟨(some 31), none, .un .not (.t 30)⟩, ⟨(some 32), none, .mv (.t 31)⟩, ⟨(some 33), (some (32, true)), .mv (.t 8)⟩, ⟨(some 34), (some (32, true)), .nilchk (.t 33)⟩, ⟨(some 35), (some (32, true)), .fa 1 (.t 34)⟩, ⟨(some 36), (some (32, true)), .load false 1 (.t 35)⟩, ⟨(some 37), (some (32, true)), .mv (.t 5)⟩, ⟨(some 38), (some (32, true)), .len false (.t 37)⟩, ⟨(some 39), (some (32, true)), .bin .lss (.t 36) (.t 38)⟩, ⟨(some 40), (some (32, true)), .mv (.t 39)⟩, ⟨(some 41), (some (40, false)), .mv (.t 8)⟩, ⟨(some 42), (some (40, false)), .nilchk (.t 41)⟩, ⟨(some 43), (some (40, false)), .fa 3 (.t 42)⟩, ⟨(some 44), (some (40, false)), .fa 0 (.t 43)⟩, ⟨(some 45), (some (40, false)), .load false 1 (.t 44)⟩, ⟨(some 46), (some (40, false)), .len false (.t 45)⟩, ⟨(some 47), (some (40, false)), .bin .eql (.t 46) (.c (.int .i64 (0)))⟩, ⟨(some 48), (some (32, true)), .pick (.t 40) (.c (.bool true)) (.t 47)⟩, ⟨(some 49), none, .pick (.t 32) (.t 48) (.c (.bool false))⟩])
  (.keep [0, 2, 5, 8, 49] (.cond (.t 49) .skip (.exit 0))))
  (.keep [0, 2, 5, 8] (.block 1 (.seq (.seq (.reg [⟨(some 50), none, .mv (.t 8)⟩, ⟨(some 51), none, .nilchk (.t 50)⟩, ⟨(some 52), none, .fa 1 (.t 51)⟩, ⟨(some 53), none, .load false 1 (.t 52)⟩, ⟨(some 54), none, .mv (.t 5)⟩, ⟨(some 55), none, .len false (.t 54)⟩, ⟨(some 56), none, .bin .geq (.t 53) (.t 55)⟩, ⟨(some 57), none, .mv (.t 56)⟩, ⟨(some 58), (some (57, false)), .mv (.t 5)⟩, ⟨(some 59), (some (57, false)), .mv (.t 8)⟩, ⟨(some 60), (some (57, false)), .nilchk (.t 59)⟩, ⟨(some 61), (some (57, false)), .fa 1 (.t 60)⟩, ⟨(some 62), (some (57, false)), .load false 1 (.t 61)⟩, ⟨(some 63), (some (57, false)), .ia 3 (.t 58) (.t 62)⟩, ⟨(some 64), (some (57, false)), .fa 0 (.t 63)⟩, ⟨(some 65), (some (57, false)), .load false 1 (.t 64)⟩, ⟨(some 66), (some (57, false)), .bin .neq (.t 65) (.c (.int .i64 (1)))⟩, ⟨(some 67), none, .pick (.t 57) (.c (.bool true)) (.t 66)⟩])
  (.keep [0, 2, 5, 8, 67] (.cond (.t 67) (.seq (.reg [⟨(some 68), none, .mv (.t 8)⟩, ⟨(some 69), none, .nilchk (.t 68)⟩, ⟨(some 70), none, .fa 2 (.t 69)⟩, ⟨none, none, .store 1 (.t 70) (.c (.bool true))⟩]) (.exit 1)) .skip)))
  (.keep [0, 2, 5, 8] (.seq (.reg [⟨(some 71), none, .mv (.t 5)⟩, ⟨(some 72), none, .mv (.t 8)⟩, ⟨(some 73), none, .nilchk (.t 72)⟩, ⟨(some 74), none, .fa 1 (.t 73)⟩, ⟨(some 75), none, .load false 1 (.t 74)⟩, ⟨(some 76), none, .ia 3 (.t 71) (.t 75)⟩, ⟨(some 77), none, .load true 3 (.t 76)⟩, ⟨(some 9), none, .alloc [(.int .i64 (0)), (.str []), (.int .i64 (0))]⟩, ⟨none, none, .store 3 (.t 9) (.t 77)⟩])
  (.keep [0, 2, 5, 8, 9] (.seq (.draw [(.pl, ⟨(some 78), none, .mv (.t 8)⟩), (.pl, ⟨(some 79), none, .mv (.t 8)⟩), (.pl, ⟨(some 80), none, .nilchk (.t 79)⟩), (.pl, ⟨(some 81), none, .fa 5 (.t 80)⟩), (.pl, ⟨(some 82), none, .load false 1 (.t 81)⟩), (.pl, ⟨(some 83), none, .load true 3 (.t 9)⟩), (.pl, ⟨(some 84), none, .bsl 3 true [(.int .i64 (0)), (.str []), (.int .i64 (0))] 1 [(0, (.t 83))]⟩), (.eff, ⟨(some 85), none, .app 3 32 (.t 82) (.t 84)⟩), (.pl, ⟨(some 86), none, .nilchk (.t 78)⟩), (.pl, ⟨(some 87), none, .fa 5 (.t 86)⟩), (.eff, ⟨none, none, .store 1 (.t 87) (.t 85)⟩)])
  (.keep [0, 2, 5, 8, 9] (.seq (.reg [⟨(some 88), none, .mv (.t 8)⟩, ⟨(some 89), none, .nilchk (.t 88)⟩, ⟨(some 90), none, .fa 1 (.t 89)⟩, ⟨(some 91), none, .load false 1 (.t 90)⟩, ⟨(some 92), none, .bin .add (.t 91) (.c (.int .i64 (1)))⟩, ⟨(some 93), none, .nilchk (.t 88)⟩, ⟨(some 94), none, .fa 1 (.t 93)⟩, ⟨none, none, .store 1 (.t 94) (.t 92)⟩])
  (.keep [0, 2, 5, 8, 9] (.seq (.reg [⟨(some 95), none, .mv (.t 8)⟩, ⟨(some 96), none, .call (.c (.fn K.probateref06_reader_must [] [])) [(.t 95), (.c (.str [58]))]⟩])
  (.keep [0, 2, 5, 8, 9] (.seq (.reg [⟨(some 97), none, .mv (.t 8)⟩, ⟨(some 98), none, .call (.c (.fn K.probateref06_reader_alternatives [] [])) [(.t 97)]⟩, ⟨(some 10), none, .mv (.t 98)⟩])
  (.keep [0, 2, 5, 8, 9, 10] (.seq (.reg [⟨(some 99), none, .mv (.t 8)⟩, ⟨(some 100), none, .call (.c (.fn K.probateref06_reader_must [] [])) [(.t 99), (.c (.str [59]))]⟩])
  (.keep [0, 2, 5, 8, 9, 10] (.draw [(.pl, ⟨(some 101), none, .mv (.t 8)⟩), (.pl, ⟨(some 102), none, .mv (.t 8)⟩), (.pl, ⟨(some 103), none, .nilchk (.t 102)⟩), (.pl, ⟨(some 104), none, .fa 3 (.t 103)⟩), (.pl, ⟨(some 105), none, .fa 0 (.t 104)⟩), (.pl, ⟨(some 106), none, .load false 1 (.t 105)⟩), (.pl, ⟨(some 107), none, .fa 1 (.t 9)⟩), (.pl, ⟨(some 108), none, .load false 1 (.t 107)⟩), (.pl, ⟨(some 109), none, .mv (.t 10)⟩), (.pl, ⟨(some 110), none, .bld [(.str []), (.int .i64 (0))] [(0, 1, (.t 108)), (1, 1, (.t 109))]⟩), (.pl, ⟨(some 111), none, .bsl 2 true [(.str []), (.int .i64 (0))] 1 [(0, (.t 110))]⟩), (.eff, ⟨(some 112), none, .app 2 24 (.t 106) (.t 111)⟩), (.pl, ⟨(some 113), none, .nilchk (.t 101)⟩), (.pl, ⟨(some 114), none, .fa 3 (.t 113)⟩), (.pl, ⟨(some 115), none, .fa 0 (.t 114)⟩), (.eff, ⟨none, none, .store 1 (.t 115) (.t 112)⟩)])))))))))))))))))) [0, 2, 5, 8]
def A.probateref06_Read.L1 : AC := .post (.seq (.seq (.reg [⟨(some 156), none, .mv (.t 11)⟩, ⟨(some 157), none, .mv (.t 8)⟩, ⟨(some 158), none, .nilchk (.t 157)⟩, ⟨(some 159), none, .fa 5 (.t 158)⟩, ⟨(some 160), none, .load false 1 (.t 159)⟩, ⟨(some 161), none, .len false (.t 160)⟩, ⟨(some 162), none, .bin .lss (.t 156) (.t 161)⟩])
  (.keep [2, 8, 11, 162] (.cond (.t 162) .skip (.exit 2))))
  (.keep [2, 8, 11] (.seq (.block 3 (.seq (.draw [(.pl, ⟨(some 165), none, .mv (.t 8)⟩), (.pl, ⟨(some 166), none, .nilchk (.t 165)⟩), (.pl, ⟨(some 167), none, .fa 5 (.t 166)⟩), (.pl, ⟨(some 168), none, .load false 1 (.t 167)⟩), (.pl, ⟨(some 169), none, .mv (.t 11)⟩), (.pl, ⟨(some 170), none, .slc 3 (.t 168) none (some (.t 169))⟩), (.pl, ⟨(some 171), none, .mv (.t 8)⟩), (.pl, ⟨(some 172), none, .nilchk (.t 171)⟩), (.pl, ⟨(some 173), none, .fa 5 (.t 172)⟩), (.pl, ⟨(some 174), none, .load false 1 (.t 173)⟩), (.pl, ⟨(some 175), none, .mv (.t 11)⟩), (.pl, ⟨(some 176), none, .ia 3 (.t 174) (.t 175)⟩), (.pl, ⟨(some 177), none, .fa 1 (.t 176)⟩), (.pl, ⟨(some 178), none, .load false 1 (.t 177)⟩), (.pl, ⟨(some 179), none, .call (.c (.fn K.probateref06_has [] [])) [(.t 170), (.t 178)]⟩)])
  (.keep [2, 8, 11, 179] (.cond (.t 179) (.seq (.draw [(.pl, ⟨(some 180), none, .bld [(.sl 0 1 []), (.sl 0 1 [])] []⟩), (.pl, ⟨(some 181), none, .mv (.t 8)⟩), (.pl, ⟨(some 182), none, .nilchk (.t 181)⟩), (.pl, ⟨(some 183), none, .fa 5 (.t 182)⟩), (.fl, ⟨(some 184), none, .load false 1 (.t 183)⟩), (.pl, ⟨(some 185), none, .mv (.t 11)⟩), (.pl, ⟨(some 186), none, .ia 3 (.t 184) (.t 185)⟩), (.pl, ⟨(some 187), none, .fa 2 (.t 186)⟩), (.fl, ⟨(some 188), none, .load false 1 (.t 187)⟩), (.eff, ⟨none, none, .store 2 (.t 2) (.t 180)⟩), (.pl, ⟨(some 3), none, .mv (.t 188)⟩), (.pl, ⟨(some 4), none, .mv (.c (.int .i64 (7)))⟩)]) .ret) .skip))))
  (.keep [2, 8, 11] (.reg [⟨(some 163), none, .mv (.t 11)⟩, ⟨(some 164), none, .bin .add (.t 163) (.c (.int .i64 (1)))⟩, ⟨(some 11), none, .mv (.t 164)⟩]))))) [2, 8, 11]
def A.probateref06_Read.L2 : AC := .post (.seq (.seq (.reg [⟨(some 189), none, .mv (.t 12)⟩, ⟨(some 190), none, .mv (.t 8)⟩, ⟨(some 191), none, .nilchk (.t 190)⟩, ⟨(some 192), none, .fa 6 (.t 191)⟩, ⟨(some 193), none, .load false 1 (.t 192)⟩, ⟨(some 194), none, .len false (.t 193)⟩, ⟨(some 195), none, .bin .lss (.t 189) (.t 194)⟩])
  (.keep [2, 8, 12, 195] (.cond (.t 195) .skip (.exit 4))))
  (.keep [2, 8, 12] (.seq (.block 5 (.seq (.draw [(.pl, ⟨(some 198), none, .mv (.t 8)⟩), (.pl, ⟨(some 199), none, .nilchk (.t 198)⟩), (.pl, ⟨(some 200), none, .fa 5 (.t 199)⟩), (.pl, ⟨(some 201), none, .load false 1 (.t 200)⟩), (.pl, ⟨(some 202), none, .mv (.t 8)⟩), (.pl, ⟨(some 203), none, .nilchk (.t 202)⟩), (.pl, ⟨(some 204), none, .fa 6 (.t 203)⟩), (.pl, ⟨(some 205), none, .load false 1 (.t 204)⟩), (.pl, ⟨(some 206), none, .mv (.t 12)⟩), (.pl, ⟨(some 207), none, .ia 3 (.t 205) (.t 206)⟩), (.pl, ⟨(some 208), none, .fa 1 (.t 207)⟩), (.pl, ⟨(some 209), none, .load false 1 (.t 208)⟩), (.pl, ⟨(some 210), none, .call (.c (.fn K.probateref06_has [] [])) [(.t 201), (.t 209)]⟩), (.pl, ⟨(some 211), none, .un .not (.t 210)⟩)])
  (.keep [2, 8, 12, 211] (.cond (.t 211) (.seq (.draw [(.pl, ⟨(some 212), none, .bld [(.sl 0 1 []), (.sl 0 1 [])] []⟩), (.pl, ⟨(some 213), none, .mv (.t 8)⟩), (.pl, ⟨(some 214), none, .nilchk (.t 213)⟩), (.pl, ⟨(some 215), none, .fa 6 (.t 214)⟩), (.fl, ⟨(some 216), none, .load false 1 (.t 215)⟩), (.pl, ⟨(some 217), none, .mv (.t 12)⟩), (.pl, ⟨(some 218), none, .ia 3 (.t 216) (.t 217)⟩), (.pl, ⟨(some 219), none, .fa 2 (.t 218)⟩), (.fl, ⟨(some 220), none, .load false 1 (.t 219)⟩), (.eff, ⟨none, none, .store 2 (.t 2) (.t 212)⟩), (.pl, ⟨(some 3), none, .mv (.t 220)⟩), (.pl, ⟨(some 4), none, .mv (.c (.int .i64 (6)))⟩)]) .ret) .skip))))
  (.keep [2, 8, 12] (.reg [⟨(some 196), none, .mv (.t 12)⟩, ⟨(some 197), none, .bin .add (.t 196) (.c (.int .i64 (1)))⟩, ⟨(some 12), none, .mv (.t 197)⟩]))))) [2, 8, 12]
def A.probateref06_Read : AFn := ⟨225, [(2, (some (true, 2))), (3, none), (4, none)], (.seq (.reg [⟨(some 2), none, .alloc [(.sl 0 1 []), (.sl 0 1 [])]⟩, ⟨(some 3), none, .mv (.c (.int .i64 (0)))⟩, ⟨(some 4), none, .mv (.c (.int .i64 (0)))⟩])
  (.keep [0, 2] (.seq (.reg [⟨(some 14), none, .mv (.t 0)⟩, ⟨(some 15), none, .call (.c (.fn K.probateref05_Scan [] [])) [(.t 14)]⟩, ⟨(some 13), none, .mv (.t 15)⟩, ⟨(some 16), none, .ext (.t 13) 0⟩, ⟨(some 17), none, .ext (.t 13) 1⟩, ⟨(some 18), none, .ext (.t 13) 2⟩, ⟨(some 5), none, .mv (.t 16)⟩, ⟨(some 6), none, .mv (.t 17)⟩, ⟨(some 7), none, .mv (.t 18)⟩])
  (.keep [0, 2, 5, 6, 7] (.seq (.seq (.reg [⟨(some 19), none, .mv (.t 7)⟩, ⟨(some 20), none, .bin .neq (.t 19) (.c (.int .i64 (0)))⟩])
  (.keep [0, 2, 5, 6, 7, 20] (.cond (.t 20) (.seq (.reg [⟨(some 21), none, .bld [(.sl 0 1 []), (.sl 0 1 [])] []⟩, ⟨(some 22), none, .mv (.t 6)⟩, ⟨(some 23), none, .mv (.t 7)⟩, ⟨none, none, .store 2 (.t 2) (.t 21)⟩, ⟨(some 3), none, .mv (.t 22)⟩, ⟨(some 4), none, .mv (.t 23)⟩]) .ret) .skip)))
  (.keep [0, 2, 5] (.seq (.reg [⟨(some 24), none, .mv (.t 5)⟩, ⟨(some 25), none, .bld [(.sl 0 1 []), (.int .i64 (0)), (.bool false), (.sl 0 1 []), (.sl 0 1 []), (.sl 0 1 []), (.sl 0 1 [])] [(0, 1, (.t 24))]⟩, ⟨(some 26), none, .box (.t 25)⟩, ⟨(some 8), none, .mv (.t 26)⟩])
  (.keep [0, 2, 5, 8] (.seq (.block 0 (.loop A.probateref06_Read.L0))
  (.keep [0, 2, 5, 8] (.seq (.seq (.reg [⟨(some 116), none, .mv (.t 8)⟩, ⟨(some 117), none, .nilchk (.t 116)⟩, ⟨(some 118), none, .fa 2 (.t 117)⟩, ⟨(some 119), none, .load false 1 (.t 118)⟩])
  (.keep [0, 2, 5, 8, 119] (.cond (.t 119) (.seq (.seq (.reg [⟨(some 120), none, .mv (.t 8)⟩, ⟨(some 121), none, .nilchk (.t 120)⟩, ⟨(some 122), none, .fa 1 (.t 121)⟩, ⟨(some 123), none, .load false 1 (.t 122)⟩, ⟨(some 124), none, .mv (.t 5)⟩, ⟨(some 125), none, .len false (.t 124)⟩, ⟨(some 126), none, .bin .lss (.t 123) (.t 125)⟩])
  (.keep [0, 2, 5, 8, 126] (.cond (.t 126) (.seq (.draw [(.pl, ⟨(some 127), none, .bld [(.sl 0 1 []), (.sl 0 1 [])] []⟩), (.pl, ⟨(some 128), none, .mv (.t 5)⟩), (.pl, ⟨(some 129), none, .mv (.t 8)⟩), (.pl, ⟨(some 130), none, .nilchk (.t 129)⟩), (.pl, ⟨(some 131), none, .fa 1 (.t 130)⟩), (.fl, ⟨(some 132), none, .load false 1 (.t 131)⟩), (.pl, ⟨(some 133), none, .ia 3 (.t 128) (.t 132)⟩), (.pl, ⟨(some 134), none, .fa 2 (.t 133)⟩), (.fl, ⟨(some 135), none, .load false 1 (.t 134)⟩), (.eff, ⟨none, none, .store 2 (.t 2) (.t 127)⟩), (.pl, ⟨(some 3), none, .mv (.t 135)⟩), (.pl, ⟨(some 4), none, .mv (.c (.int .i64 (2)))⟩)]) .ret) .skip)))
  (.keep [0, 2] (.seq (.reg [⟨(some 136), none, .bld [(.sl 0 1 []), (.sl 0 1 [])] []⟩, ⟨(some 137), none, .mv (.t 0)⟩, ⟨(some 138), none, .len true (.t 137)⟩, ⟨none, none, .store 2 (.t 2) (.t 136)⟩, ⟨(some 3), none, .mv (.t 138)⟩, ⟨(some 4), none, .mv (.c (.int .i64 (2)))⟩]) .ret))) .skip)))
  (.keep [2, 8] (.seq (.seq (.reg [⟨(some 139), none, .mv (.t 8)⟩, ⟨(some 140), none, .nilchk (.t 139)⟩, ⟨(some 141), none, .fa 3 (.t 140)⟩, ⟨(some 142), none, .fa 0 (.t 141)⟩, ⟨(some 143), none, .load false 1 (.t 142)⟩, ⟨(some 144), none, .len false (.t 143)⟩, ⟨(some 145), none, .bin .gtr (.t 144) (.c (.int .i64 (24)))⟩, ⟨(some 146), none, .mv (.t 145)⟩, ⟨(some 147), (some (146, false)), .mv (.t 8)⟩, ⟨(some 148), (some (146, false)), .nilchk (.t 147)⟩, ⟨(some 149), (some (146, false)), .fa 3 (.t 148)⟩, ⟨(some 150), (some (146, false)), .fa 1 (.t 149)⟩, ⟨(some 151), (some (146, false)), .load false 1 (.t 150)⟩, ⟨(some 152), (some (146, false)), .len false (.t 151)⟩, ⟨(some 153), (some (146, false)), .bin .gtr (.t 152) (.c (.int .i64 (200)))⟩, ⟨(some 154), none, .pick (.t 146) (.c (.bool true)) (.t 153)⟩])
  (.keep [2, 8, 154] (.cond (.t 154) (.seq (.reg [⟨(some 155), none, .bld [(.sl 0 1 []), (.sl 0 1 [])] []⟩, ⟨none, none, .store 2 (.t 2) (.t 155)⟩, ⟨(some 3), none, .mv (.c (.int .i64 (0)))⟩, ⟨(some 4), none, .mv (.c (.int .i64 (5)))⟩]) .ret) .skip)))
  (.keep [2, 8] (.seq (.seq (.reg [⟨(some 11), none, .mv (.c (.int .i64 (0)))⟩])
  (.keep [2, 8, 11] (.block 2 (.loop A.probateref06_Read.L1))))
  (.keep [2, 8] (.seq (.seq (.reg [⟨(some 12), none, .mv (.c (.int .i64 (0)))⟩])
  (.keep [2, 8, 12] (.block 4 (.loop A.probateref06_Read.L2))))
  (.keep [2, 8] (.seq (.reg [⟨(some 221), none, .mv (.t 8)⟩, ⟨(some 222), none, .nilchk (.t 221)⟩, ⟨(some 223), none, .fa 3 (.t 222)⟩, ⟨(some 224), none, .load true 2 (.t 223)⟩, ⟨none, none, .store 2 (.t 2) (.t 224)⟩, ⟨(some 3), none, .mv (.c (.int .i64 (0)))⟩, ⟨(some 4), none, .mv (.c (.int .i64 (0)))⟩]) .ret)))))))))))))))))))⟩
def A.probateref06_Same.L0 : AC := .post (.seq (.seq (.reg [⟨(some 23), none, .mv (.t 5)⟩, ⟨(some 24), none, .fa 0 (.t 2)⟩, ⟨(some 25), none, .load false 1 (.t 24)⟩, ⟨(some 26), none, .len false (.t 25)⟩, ⟨(some 27), none, .bin .lss (.t 23) (.t 26)⟩])
  (.keep [2, 3, 5, 27] (.cond (.t 27) .skip (.exit 0))))
  (.keep [2, 3, 5] (.seq (.block 1 (.seq (.draw [(.pl, ⟨(some 30), none, .fa 0 (.t 2)⟩), (.pl, ⟨(some 31), none, .load false 1 (.t 30)⟩), (.pl, ⟨(some 32), none, .mv (.t 5)⟩), (.pl, ⟨(some 33), none, .ia 2 (.t 31) (.t 32)⟩), (.pl, ⟨(some 34), none, .load true 2 (.t 33)⟩), (.pl, ⟨(some 35), none, .fa 0 (.t 3)⟩), (.pl, ⟨(some 36), none, .load false 1 (.t 35)⟩), (.pl, ⟨(some 37), none, .mv (.t 5)⟩), (.pl, ⟨(some 38), none, .ia 2 (.t 36) (.t 37)⟩), (.pl, ⟨(some 39), none, .load true 2 (.t 38)⟩), (.pl, ⟨(some 40), none, .eqs true [(.s, 0), (.i, 1)] (.t 34) (.t 39)⟩)])
  (.keep [2, 3, 5, 40] (.cond (.t 40) (.seq (.reg [⟨(some 4), none, .mv (.c (.bool false))⟩]) .ret) .skip))))
  (.keep [2, 3, 5] (.reg [⟨(some 28), none, .mv (.t 5)⟩, ⟨(some 29), none, .bin .add (.t 28) (.c (.int .i64 (1)))⟩, ⟨(some 5), none, .mv (.t 29)⟩]))))) [2, 3, 5]
def A.probateref06_Same.L1 : AC := .post (.seq (.seq (.reg [⟨(some 41), none, .mv (.t 6)⟩, ⟨(some 42), none, .fa 1 (.t 2)⟩, ⟨(some 43), none, .load false 1 (.t 42)⟩, ⟨(some 44), none, .len false (.t 43)⟩, ⟨(some 45), none, .bin .lss (.t 41) (.t 44)⟩])
  (.keep [2, 3, 6, 45] (.cond (.t 45) .skip (.exit 2))))
  (.keep [2, 3, 6] (.seq (.block 3 (.seq (.draw [(.pl, ⟨(some 48), none, .fa 1 (.t 2)⟩), (.pl, ⟨(some 49), none, .load false 1 (.t 48)⟩), (.pl, ⟨(some 50), none, .mv (.t 6)⟩), (.pl, ⟨(some 51), none, .ia 3 (.t 49) (.t 50)⟩), (.pl, ⟨(some 52), none, .fa 0 (.t 51)⟩), (.pl, ⟨(some 53), none, .load false 1 (.t 52)⟩), (.pl, ⟨(some 54), none, .fa 1 (.t 3)⟩), (.pl, ⟨(some 55), none, .load false 1 (.t 54)⟩), (.pl, ⟨(some 56), none, .mv (.t 6)⟩), (.pl, ⟨(some 57), none, .ia 3 (.t 55) (.t 56)⟩), (.pl, ⟨(some 58), none, .fa 0 (.t 57)⟩), (.pl, ⟨(some 59), none, .load false 1 (.t 58)⟩), (.pl, ⟨(some 60), none, .bin .neq (.t 53) (.t 59)⟩), (.pl, ⟨(some 61), none, .mv (.t 60)⟩), (.pl, ⟨(some 62), (some (61, false)), .fa 1 (.t 2)⟩), (.pl, ⟨(some 63), (some (61, false)), .load false 1 (.t 62)⟩), (.pl, ⟨(some 64), (some (61, false)), .mv (.t 6)⟩), (.pl, ⟨(some 65), (some (61, false)), .ia 3 (.t 63) (.t 64)⟩), (.pl, ⟨(some 66), (some (61, false)), .fa 1 (.t 65)⟩), (.pl, ⟨(some 67), (some (61, false)), .load false 1 (.t 66)⟩), (.pl, ⟨(some 68), (some (61, false)), .fa 1 (.t 3)⟩), (.pl, ⟨(some 69), (some (61, false)), .load false 1 (.t 68)⟩), (.pl, ⟨(some 70), (some (61, false)), .mv (.t 6)⟩), (.pl, ⟨(some 71), (some (61, false)), .ia 3 (.t 69) (.t 70)⟩), (.pl, ⟨(some 72), (some (61, false)), .fa 1 (.t 71)⟩), (.pl, ⟨(some 73), (some (61, false)), .load false 1 (.t 72)⟩), (.pl, ⟨(some 74), (some (61, false)), .bin .neq (.t 67) (.t 73)⟩), (.pl, ⟨(some 75), none, .pick (.t 61) (.c (.bool true)) (.t 74)⟩), (.pl, ⟨(some 76), none, .mv (.t 75)⟩), (.pl, ⟨(some 77), (some (76, false)), .fa 1 (.t 2)⟩), (.pl, ⟨(some 78), (some (76, false)), .load false 1 (.t 77)⟩), (.pl, ⟨(some 79), (some (76, false)), .mv (.t 6)⟩), (.pl, ⟨(some 80), (some (76, false)), .ia 3 (.t 78) (.t 79)⟩), (.pl, ⟨(some 81), (some (76, false)), .fa 2 (.t 80)⟩), (.pl, ⟨(some 82), (some (76, false)), .load false 1 (.t 81)⟩), (.pl, ⟨(some 83), (some (76, false)), .fa 1 (.t 3)⟩), (.pl, ⟨(some 84), (some (76, false)), .load false 1 (.t 83)⟩), (.pl, ⟨(some 85), (some (76, false)), .mv (.t 6)⟩), (.pl, ⟨(some 86), (some (76, false)), .ia 3 (.t 84) (.t 85)⟩), (.pl, ⟨(some 87), (some (76, false)), .fa 2 (.t 86)⟩), (.pl, ⟨(some 88), (some (76, false)), .load false 1 (.t 87)⟩), (.pl, ⟨(some 89), (some (76, false)), .call (.c (.fn K.probateref02_Same [] [])) [(.t 82), (.t 88)]⟩), (.pl, ⟨(some 90), (some (76, false)), .un .not (.t 89)⟩), (.pl, ⟨(some 91), none, .pick (.t 76) (.c (.bool true)) (.t 90)⟩)])
  (.keep [2, 3, 6, 91] (.cond (.t 91) (.seq (.reg [⟨(some 4), none, .mv (.c (.bool false))⟩]) .ret) .skip))))
  (.keep [2, 3, 6] (.reg [⟨(some 46), none, .mv (.t 6)⟩, ⟨(some 47), none, .bin .add (.t 46) (.c (.int .i64 (1)))⟩, ⟨(some 6), none, .mv (.t 47)⟩]))))) [2, 3, 6]
def A.probateref06_Same : AFn := ⟨92, [(4, none)], (.seq (.reg [⟨(some 2), none, .box (.t 0)⟩, ⟨(some 3), none, .box (.t 1)⟩, ⟨(some 4), none, .mv (.c (.bool false))⟩])
  (.keep [2, 3] (.seq (.seq (.reg [⟨(some 7), none, .fa 0 (.t 2)⟩, ⟨(some 8), none, .load false 1 (.t 7)⟩, ⟨(some 9), none, .len false (.t 8)⟩, ⟨(some 10), none, .fa 0 (.t 3)⟩, ⟨(some 11), none, .load false 1 (.t 10)⟩, ⟨(some 12), none, .len false (.t 11)⟩, ⟨(some 13), none, .bin .neq (.t 9) (.t 12)⟩, ⟨(some 14), none, .mv (.t 13)⟩, ⟨(some 15), (some (14, false)), .fa 1 (.t 2)⟩, ⟨(some 16), (some (14, false)), .load false 1 (.t 15)⟩, ⟨(some 17), (some (14, false)), .len false (.t 16)⟩, ⟨(some 18), (some (14, false)), .fa 1 (.t 3)⟩, ⟨(some 19), (some (14, false)), .load false 1 (.t 18)⟩, ⟨(some 20), (some (14, false)), .len false (.t 19)⟩, ⟨(some 21), (some (14, false)), .bin .neq (.t 17) (.t 20)⟩, ⟨(some 22), none, .pick (.t 14) (.c (.bool true)) (.t 21)⟩])
  (.keep [2, 3, 22] (.cond (.t 22) (.seq (.reg [⟨(some 4), none, .mv (.c (.bool false))⟩]) .ret) .skip)))
  (.keep [2, 3] (.seq (.seq (.reg [⟨(some 5), none, .mv (.c (.int .i64 (0)))⟩])
  (.keep [2, 3, 5] (.block 0 (.loop A.probateref06_Same.L0))))
  (.keep [2, 3] (.seq (.seq (.reg [⟨(some 6), none, .mv (.c (.int .i64 (0)))⟩])
  (.keep [2, 3, 6] (.block 2 (.loop A.probateref06_Same.L1))))
  (.keep [] (.seq (.reg [⟨(some 4), none, .mv (.c (.bool true))⟩]) .ret)))))))))⟩
def A.probateref06_Right.L1 : AC := .post (.seq (.seq (.reg [⟨(some 72), none, .mv (.t 8)⟩, ⟨(some 73), none, .mv (.t 4)⟩, ⟨(some 74), none, .bin .lss (.t 72) (.t 73)⟩])
  (.keep [1, 3, 4, 8, 74] (.cond (.t 74) .skip (.exit 2))))
  (.keep [1, 3, 4, 8] (.seq (.block 3 (.seq (.draw [(.pl, ⟨(some 77), none, .fa 0 (.t 1)⟩), (.pl, ⟨(some 78), none, .load false 1 (.t 77)⟩), (.pl, ⟨(some 79), none, .mv (.t 8)⟩), (.pl, ⟨(some 80), none, .ia 2 (.t 78) (.t 79)⟩), (.pl, ⟨(some 81), none, .fa 0 (.t 80)⟩), (.pl, ⟨(some 82), none, .load false 1 (.t 81)⟩), (.pl, ⟨(some 83), none, .fa 0 (.t 1)⟩), (.pl, ⟨(some 84), none, .load false 1 (.t 83)⟩), (.pl, ⟨(some 85), none, .mv (.t 4)⟩), (.pl, ⟨(some 86), none, .ia 2 (.t 84) (.t 85)⟩), (.pl, ⟨(some 87), none, .fa 0 (.t 86)⟩), (.pl, ⟨(some 88), none, .load false 1 (.t 87)⟩), (.pl, ⟨(some 89), none, .bin .eql (.t 82) (.t 88)⟩)])
  (.keep [1, 3, 4, 8, 89] (.cond (.t 89) (.seq (.reg [⟨(some 2), none, .mv (.c (.bool false))⟩]) .ret) .skip))))
  (.keep [1, 3, 4, 8] (.reg [⟨(some 75), none, .mv (.t 8)⟩, ⟨(some 76), none, .bin .add (.t 75) (.c (.int .i64 (1)))⟩, ⟨(some 8), none, .mv (.t 76)⟩]))))) [1, 3, 4, 8]
def A.probateref06_Right.L0 : AC := .post (.seq (.seq (.reg [⟨(some 27), none, .mv (.t 4)⟩, ⟨(some 28), none, .fa 0 (.t 1)⟩, ⟨(some 29), none, .load false 1 (.t 28)⟩, ⟨(some 30), none, .len false (.t 29)⟩, ⟨(some 31), none, .bin .lss (.t 27) (.t 30)⟩])
  (.keep [1, 3, 4, 31] (.cond (.t 31) .skip (.exit 0))))
  (.keep [1, 3, 4] (.seq (.block 1 (.seq (.reg [⟨(some 35), none, .fa 0 (.t 1)⟩, ⟨(some 36), none, .load false 1 (.t 35)⟩, ⟨(some 37), none, .mv (.t 4)⟩, ⟨(some 38), none, .ia 2 (.t 36) (.t 37)⟩, ⟨(some 39), none, .fa 0 (.t 38)⟩, ⟨(some 40), none, .load false 1 (.t 39)⟩, ⟨(some 41), none, .call (.c (.fn K.probateref05_Scan [] [])) [(.t 40)]⟩, ⟨(some 34), none, .mv (.t 41)⟩, ⟨(some 42), none, .ext (.t 34) 0⟩, ⟨(some 43), none, .ext (.t 34) 1⟩, ⟨(some 44), none, .ext (.t 34) 2⟩, ⟨(some 5), none, .mv (.t 42)⟩, ⟨(some 6), none, .mv (.t 43)⟩, ⟨(some 7), none, .mv (.t 44)⟩])
  (.keep [1, 3, 4, 5, 7] (.seq (.seq (.draw [(.pl, ⟨(some 45), none, .mv (.t 7)⟩), (.pl, ⟨(some 46), none, .bin .neq (.t 45) (.c (.int .i64 (0)))⟩), (.pl, ⟨(some 47), none, .mv (.t 46)⟩), (.pl, ⟨(some 48), (some (47, false)), .mv (.t 5)⟩), (.pl, ⟨(some 49), (some (47, false)), .len false (.t 48)⟩), (.pl, ⟨(some 50), (some (47, false)), .bin .neq (.t 49) (.c (.int .i64 (1)))⟩), (.pl, ⟨(some 51), none, .pick (.t 47) (.c (.bool true)) (.t 50)⟩), (.pl, ⟨(some 52), none, .mv (.t 51)⟩), (.pl, ⟨(some 53), (some (52, false)), .mv (.t 5)⟩), (.pl, ⟨(some 54), (some (52, false)), .ia 3 (.t 53) (.c (.int .i64 (0)))⟩), (.pl, ⟨(some 55), (some (52, false)), .fa 0 (.t 54)⟩), (.pl, ⟨(some 56), (some (52, false)), .load false 1 (.t 55)⟩), (.pl, ⟨(some 57), (some (52, false)), .bin .neq (.t 56) (.c (.int .i64 (1)))⟩), (.pl, ⟨(some 58), none, .pick (.t 52) (.c (.bool true)) (.t 57)⟩), (.pl, ⟨(some 59), none, .mv (.t 58)⟩), (.pl, ⟨(some 60), (some (59, false)), .mv (.t 5)⟩), (.pl, ⟨(some 61), (some (59, false)), .ia 3 (.t 60) (.c (.int .i64 (0)))⟩), (.pl, ⟨(some 62), (some (59, false)), .fa 1 (.t 61)⟩), (.pl, ⟨(some 63), (some (59, false)), .load false 1 (.t 62)⟩), (.pl, ⟨(some 64), (some (59, false)), .fa 0 (.t 1)⟩), (.pl, ⟨(some 65), (some (59, false)), .load false 1 (.t 64)⟩), (.pl, ⟨(some 66), (some (59, false)), .mv (.t 4)⟩), (.pl, ⟨(some 67), (some (59, false)), .ia 2 (.t 65) (.t 66)⟩), (.pl, ⟨(some 68), (some (59, false)), .fa 0 (.t 67)⟩), (.pl, ⟨(some 69), (some (59, false)), .load false 1 (.t 68)⟩), (.pl, ⟨(some 70), (some (59, false)), .bin .neq (.t 63) (.t 69)⟩), (.pl, ⟨(some 71), none, .pick (.t 59) (.c (.bool true)) (.t 70)⟩)])
  (.keep [1, 3, 4, 71] (.cond (.t 71) (.seq (.reg [⟨(some 2), none, .mv (.c (.bool false))⟩]) .ret) .skip)))
  (.keep [1, 3, 4] (.seq (.seq (.reg [⟨(some 8), none, .mv (.c (.int .i64 (0)))⟩])
  (.keep [1, 3, 4, 8] (.block 2 (.loop A.probateref06_Right.L1))))
  (.keep [1, 3, 4] (.draw [(.pl, ⟨(some 90), none, .load true 2 (.t 1)⟩), (.pl, ⟨(some 91), none, .fa 0 (.t 1)⟩), (.pl, ⟨(some 92), none, .load false 1 (.t 91)⟩), (.pl, ⟨(some 93), none, .mv (.t 4)⟩), (.pl, ⟨(some 94), none, .ia 2 (.t 92) (.t 93)⟩), (.pl, ⟨(some 95), none, .fa 1 (.t 94)⟩), (.pl, ⟨(some 96), none, .load false 1 (.t 95)⟩), (.pl, ⟨(some 97), none, .mv (.t 3)⟩), (.eff, ⟨(some 98), none, .call (.c (.fn K.probateref06_under [] [])) [(.t 90), (.t 96), (.t 97)]⟩), (.pl, ⟨(some 3), none, .mv (.t 98)⟩)]))))))))
  (.keep [1, 3, 4] (.reg [⟨(some 32), none, .mv (.t 4)⟩, ⟨(some 33), none, .bin .add (.t 32) (.c (.int .i64 (1)))⟩, ⟨(some 4), none, .mv (.t 33)⟩]))))) [1, 3, 4]
def A.probateref06_Right.L2 : AC := .post (.seq (.seq (.reg [⟨(some 105), none, .mv (.t 9)⟩, ⟨(some 106), none, .mv (.t 3)⟩, ⟨(some 107), none, .len false (.t 106)⟩, ⟨(some 108), none, .bin .lss (.t 105) (.t 107)⟩])
  (.keep [1, 3, 9, 108] (.cond (.t 108) .skip (.exit 4))))
  (.keep [1, 3, 9] (.seq (.block 5 (.seq (.draw [(.pl, ⟨(some 111), none, .mv (.t 3)⟩), (.pl, ⟨(some 112), none, .mv (.t 9)⟩), (.pl, ⟨(some 113), none, .ia 1 (.t 111) (.t 112)⟩), (.pl, ⟨(some 114), none, .load false 1 (.t 113)⟩), (.pl, ⟨(some 115), none, .mv (.t 9)⟩), (.pl, ⟨(some 116), none, .bin .neq (.t 114) (.t 115)⟩), (.pl, ⟨(some 117), none, .mv (.t 116)⟩), (.pl, ⟨(some 118), (some (117, false)), .load true 2 (.t 1)⟩), (.pl, ⟨(some 119), (some (117, false)), .fa 1 (.t 1)⟩), (.pl, ⟨(some 120), (some (117, false)), .load false 1 (.t 119)⟩), (.pl, ⟨(some 121), (some (117, false)), .mv (.t 9)⟩), (.pl, ⟨(some 122), (some (117, false)), .ia 3 (.t 120) (.t 121)⟩), (.pl, ⟨(some 123), (some (117, false)), .load true 3 (.t 122)⟩), (.pl, ⟨(some 124), (some (117, false)), .call (.c (.fn K.probateref06_Tree_fine [] [])) [(.t 118), (.t 123)]⟩), (.pl, ⟨(some 125), (some (117, false)), .un .not (.t 124)⟩), (.pl, ⟨(some 126), none, .pick (.t 117) (.c (.bool true)) (.t 125)⟩)])
  (.keep [1, 3, 9, 126] (.cond (.t 126) (.seq (.reg [⟨(some 2), none, .mv (.c (.bool false))⟩]) .ret) .skip))))
  (.keep [1, 3, 9] (.reg [⟨(some 109), none, .mv (.t 9)⟩, ⟨(some 110), none, .bin .add (.t 109) (.c (.int .i64 (1)))⟩, ⟨(some 9), none, .mv (.t 110)⟩]))))) [1, 3, 9]
def A.probateref06_Right : AFn := ⟨127, [(2, none)], (.seq (.reg [⟨(some 1), none, .box (.t 0)⟩, ⟨(some 2), none, .mv (.c (.bool false))⟩])
  (.keep [1] (.seq (.seq (.reg [⟨(some 10), none, .fa 0 (.t 1)⟩, ⟨(some 11), none, .load false 1 (.t 10)⟩, ⟨(some 12), none, .len false (.t 11)⟩, ⟨(some 13), none, .bin .lss (.t 12) (.c (.int .i64 (1)))⟩, ⟨(some 14), none, .mv (.t 13)⟩, ⟨(some 15), (some (14, false)), .fa 0 (.t 1)⟩, ⟨(some 16), (some (14, false)), .load false 1 (.t 15)⟩, ⟨(some 17), (some (14, false)), .len false (.t 16)⟩, ⟨(some 18), (some (14, false)), .bin .gtr (.t 17) (.c (.int .i64 (24)))⟩, ⟨(some 19), none, .pick (.t 14) (.c (.bool true)) (.t 18)⟩, ⟨(some 20), none, .mv (.t 19)⟩, ⟨(some 21), (some (20, false)), .fa 1 (.t 1)⟩, ⟨(some 22), (some (20, false)), .load false 1 (.t 21)⟩, ⟨(some 23), (some (20, false)), .len false (.t 22)⟩, ⟨(some 24), (some (20, false)), .bin .gtr (.t 23) (.c (.int .i64 (200)))⟩, ⟨(some 25), none, .pick (.t 20) (.c (.bool true)) (.t 24)⟩])
  (.keep [1, 25] (.cond (.t 25) (.seq (.reg [⟨(some 2), none, .mv (.c (.bool false))⟩]) .ret) .skip)))
  (.keep [1] (.seq (.reg [⟨(some 26), none, .bsl 1 false [(.int .i64 (0))] 0 []⟩, ⟨(some 3), none, .mv (.t 26)⟩])
  (.keep [1, 3] (.seq (.seq (.reg [⟨(some 4), none, .mv (.c (.int .i64 (0)))⟩])
  (.keep [1, 3, 4] (.block 0 (.loop A.probateref06_Right.L0))))
  (.keep [1, 3] (.seq (.seq (.reg [⟨(some 99), none, .mv (.t 3)⟩, ⟨(some 100), none, .len false (.t 99)⟩, ⟨(some 101), none, .fa 1 (.t 1)⟩, ⟨(some 102), none, .load false 1 (.t 101)⟩, ⟨(some 103), none, .len false (.t 102)⟩, ⟨(some 104), none, .bin .neq (.t 100) (.t 103)⟩])
  (.keep [1, 3, 104] (.cond (.t 104) (.seq (.reg [⟨(some 2), none, .mv (.c (.bool false))⟩]) .ret) .skip)))
  (.keep [1, 3] (.seq (.seq (.reg [⟨(some 9), none, .mv (.c (.int .i64 (0)))⟩])
  (.keep [1, 3, 9] (.block 4 (.loop A.probateref06_Right.L2))))
  (.keep [] (.seq (.reg [⟨(some 2), none, .mv (.c (.bool true))⟩]) .ret)))))))))))))⟩
def A.probateref06_reader_must : AFn := ⟨23, [], (.seq (.seq (.reg [⟨(some 4), none, .mv (.t 0)⟩, ⟨(some 5), none, .mv (.t 1)⟩, ⟨(some 6), none, .call (.c (.fn K.probateref06_reader_mark [] [])) [(.t 4), (.t 5)]⟩, ⟨(some 7), none, .un .not (.t 6)⟩])
  (.keep [0, 7] (.cond (.t 7) (.reg [⟨(some 8), none, .mv (.t 0)⟩, ⟨(some 9), none, .nilchk (.t 8)⟩, ⟨(some 10), none, .fa 2 (.t 9)⟩, ⟨none, none, .store 1 (.t 10) (.c (.bool true))⟩]) .skip)))
  (.keep [0] (.seq (.reg [⟨(some 11), none, .mv (.t 0)⟩, ⟨(some 12), none, .nilchk (.t 11)⟩, ⟨(some 13), none, .fa 2 (.t 12)⟩, ⟨(some 14), none, .load false 1 (.t 13)⟩, ⟨(some 15), none, .un .not (.t 14)⟩])
  (.keep [0, 15] (.cond (.t 15) (.reg [⟨(some 16), none, .mv (.t 0)⟩, ⟨(some 17), none, .nilchk (.t 16)⟩, ⟨(some 18), none, .fa 1 (.t 17)⟩, ⟨(some 19), none, .load false 1 (.t 18)⟩, ⟨(some 20), none, .bin .add (.t 19) (.c (.int .i64 (1)))⟩, ⟨(some 21), none, .nilchk (.t 16)⟩, ⟨(some 22), none, .fa 1 (.t 21)⟩, ⟨none, none, .store 1 (.t 22) (.t 20)⟩]) .skip)))))⟩
def A.probateref06_reader_alternatives.L0 : AC := .post (.seq (.seq (.reg [⟨(some 7), none, .mv (.t 0)⟩, ⟨(some 8), none, .call (.c (.fn K.probateref06_reader_mark [] [])) [(.t 7), (.c (.str [124]))]⟩])
  (.keep [0, 3, 8] (.cond (.t 8) .skip (.exit 0))))
  (.keep [0, 3] (.block 1 (.seq (.reg [⟨(some 9), none, .mv (.t 0)⟩, ⟨(some 10), none, .nilchk (.t 9)⟩, ⟨(some 11), none, .fa 1 (.t 10)⟩, ⟨(some 12), none, .load false 1 (.t 11)⟩, ⟨(some 13), none, .bin .add (.t 12) (.c (.int .i64 (1)))⟩, ⟨(some 14), none, .nilchk (.t 9)⟩, ⟨(some 15), none, .fa 1 (.t 14)⟩, ⟨none, none, .store 1 (.t 15) (.t 13)⟩])
  (.keep [0, 3] (.reg [⟨(some 16), none, .mv (.t 3)⟩, ⟨(some 17), none, .mv (.t 0)⟩, ⟨(some 18), none, .call (.c (.fn K.probateref06_reader_items [] [])) [(.t 17)]⟩, ⟨(some 19), none, .bsl 1 false [(.int .i64 (0))] 1 [(0, (.t 18))]⟩, ⟨(some 20), none, .app 1 8 (.t 16) (.t 19)⟩, ⟨(some 3), none, .mv (.t 20)⟩])))))) [0, 3]
def A.probateref06_reader_alternatives : AFn := ⟨30, [(2, none)], (.seq (.reg [⟨(some 2), none, .mv (.c (.int .i64 (0)))⟩])
  (.keep [0] (.seq (.reg [⟨(some 4), none, .mv (.t 0)⟩, ⟨(some 5), none, .call (.c (.fn K.probateref06_reader_items [] [])) [(.t 4)]⟩, ⟨(some 6), none, .bsl 1 false [(.int .i64 (0))] 1 [(0, (.t 5))]⟩, ⟨(some 3), none, .mv (.t 6)⟩])
  (.keep [0, 3] (.seq (.block 0 (.loop A.probateref06_reader_alternatives.L0))
  (.keep [0, 3] (.seq (.seq (.reg [⟨(some 21), none, .mv (.t 3)⟩, ⟨(some 22), none, .len false (.t 21)⟩, ⟨(some 23), none, .bin .eql (.t 22) (.c (.int .i64 (1)))⟩])
  (.keep [0, 3, 23] (.cond (.t 23) (.seq (.reg [⟨(some 24), none, .mv (.t 3)⟩, ⟨(some 25), none, .ia 1 (.t 24) (.c (.int .i64 (0)))⟩, ⟨(some 26), none, .load false 1 (.t 25)⟩, ⟨(some 2), none, .mv (.t 26)⟩]) .ret) .skip)))
  (.keep [0, 3] (.seq (.reg [⟨(some 27), none, .mv (.t 0)⟩, ⟨(some 28), none, .mv (.t 3)⟩, ⟨(some 29), none, .call (.c (.fn K.probateref06_reader_lay [] [])) [(.t 27), (.c (.int .i64 (2))), (.c (.str [])), (.t 28)]⟩, ⟨(some 2), none, .mv (.t 29)⟩]) .ret)))))))))⟩
def A.probateref06_has.L0 : AC := .post (.seq (.seq (.reg [⟨(some 6), none, .mv (.t 5)⟩, ⟨(some 7), none, .mv (.t 0)⟩, ⟨(some 8), none, .len false (.t 7)⟩, ⟨(some 9), none, .bin .lss (.t 6) (.t 8)⟩])
  (.keep [0, 1, 5, 9] (.cond (.t 9) .skip (.exit 0))))
  (.keep [0, 1, 5] (.seq (.block 1 (.seq (.reg [⟨(some 12), none, .mv (.t 0)⟩, ⟨(some 13), none, .mv (.t 5)⟩, ⟨(some 14), none, .ia 3 (.t 12) (.t 13)⟩, ⟨(some 15), none, .fa 1 (.t 14)⟩, ⟨(some 16), none, .load false 1 (.t 15)⟩, ⟨(some 17), none, .mv (.t 1)⟩, ⟨(some 18), none, .bin .eql (.t 16) (.t 17)⟩])
  (.keep [0, 1, 5, 18] (.cond (.t 18) (.seq (.reg [⟨(some 4), none, .mv (.c (.bool true))⟩]) .ret) .skip))))
  (.keep [0, 1, 5] (.reg [⟨(some 10), none, .mv (.t 5)⟩, ⟨(some 11), none, .bin .add (.t 10) (.c (.int .i64 (1)))⟩, ⟨(some 5), none, .mv (.t 11)⟩]))))) [0, 1, 5]
def A.probateref06_has : AFn := ⟨19, [(4, none)], (.seq (.reg [⟨(some 4), none, .mv (.c (.bool false))⟩])
  (.keep [0, 1] (.seq (.seq (.reg [⟨(some 5), none, .mv (.c (.int .i64 (0)))⟩])
  (.keep [0, 1, 5] (.block 0 (.loop A.probateref06_has.L0))))
  (.keep [] (.seq (.reg [⟨(some 4), none, .mv (.c (.bool false))⟩]) .ret)))))⟩
def A.probateref06_under.L0 : AC := .post (.seq (.seq (.reg [⟨(some 29), none, .mv (.t 7)⟩, ⟨(some 30), none, .fa 1 (.t 3)⟩, ⟨(some 31), none, .load false 1 (.t 30)⟩, ⟨(some 32), none, .mv (.t 1)⟩, ⟨(some 33), none, .ia 3 (.t 31) (.t 32)⟩, ⟨(some 34), none, .fa 2 (.t 33)⟩, ⟨(some 35), none, .load false 1 (.t 34)⟩, ⟨(some 36), none, .len false (.t 35)⟩, ⟨(some 37), none, .bin .lss (.t 29) (.t 36)⟩])
  (.keep [1, 2, 3, 7, 37] (.cond (.t 37) .skip (.exit 0))))
  (.keep [1, 2, 3, 7] (.seq (.block 1 (.seq (.reg [⟨(some 40), none, .fa 1 (.t 3)⟩, ⟨(some 41), none, .load false 1 (.t 40)⟩, ⟨(some 42), none, .mv (.t 1)⟩, ⟨(some 43), none, .ia 3 (.t 41) (.t 42)⟩, ⟨(some 44), none, .fa 2 (.t 43)⟩, ⟨(some 45), none, .load false 1 (.t 44)⟩, ⟨(some 46), none, .mv (.t 7)⟩, ⟨(some 47), none, .ia 1 (.t 45) (.t 46)⟩, ⟨(some 48), none, .load false 1 (.t 47)⟩, ⟨(some 8), none, .mv (.t 48)⟩])
  (.keep [1, 2, 3, 7, 8] (.seq (.seq (.reg [⟨(some 49), none, .mv (.t 8)⟩, ⟨(some 50), none, .mv (.t 1)⟩, ⟨(some 51), none, .bin .geq (.t 49) (.t 50)⟩, ⟨(some 52), none, .mv (.t 51)⟩, ⟨(some 53), (some (52, false)), .mv (.t 2)⟩, ⟨(some 54), (some (52, false)), .len false (.t 53)⟩, ⟨(some 55), (some (52, false)), .fa 1 (.t 3)⟩, ⟨(some 56), (some (52, false)), .load false 1 (.t 55)⟩, ⟨(some 57), (some (52, false)), .len false (.t 56)⟩, ⟨(some 58), (some (52, false)), .bin .gtr (.t 54) (.t 57)⟩, ⟨(some 59), none, .pick (.t 52) (.c (.bool true)) (.t 58)⟩])
  (.keep [1, 2, 3, 7, 8, 59] (.cond (.t 59) (.seq (.reg [⟨(some 60), none, .mv (.t 2)⟩, ⟨(some 61), none, .bsl 1 false [(.int .i64 (0))] 1 [(0, (.c (.int .i64 (-1))))]⟩, ⟨(some 62), none, .app 1 8 (.t 60) (.t 61)⟩, ⟨(some 6), none, .mv (.t 62)⟩]) .ret) .skip)))
  (.keep [1, 2, 3, 7, 8] (.reg [⟨(some 63), none, .load true 2 (.t 3)⟩, ⟨(some 64), none, .mv (.t 8)⟩, ⟨(some 65), none, .mv (.t 2)⟩, ⟨(some 66), none, .call (.c (.fn K.probateref06_under [] [])) [(.t 63), (.t 64), (.t 65)]⟩, ⟨(some 2), none, .mv (.t 66)⟩]))))))
  (.keep [1, 2, 3, 7] (.reg [⟨(some 38), none, .mv (.t 7)⟩, ⟨(some 39), none, .bin .add (.t 38) (.c (.int .i64 (1)))⟩, ⟨(some 7), none, .mv (.t 39)⟩]))))) [1, 2, 3, 7]
def A.probateref06_under : AFn := ⟨71, [(6, none)], (.seq (.reg [⟨(some 3), none, .box (.t 0)⟩, ⟨(some 6), none, .mv (.c (.sl 0 1 []))⟩])
  (.keep [1, 2, 3] (.seq (.seq (.reg [⟨(some 9), none, .mv (.t 1)⟩, ⟨(some 10), none, .bin .lss (.t 9) (.c (.int .i64 (0)))⟩, ⟨(some 11), none, .mv (.t 10)⟩, ⟨(some 12), (some (11, false)), .mv (.t 1)⟩, ⟨(some 13), (some (11, false)), .fa 1 (.t 3)⟩, ⟨(some 14), (some (11, false)), .load false 1 (.t 13)⟩, ⟨(some 15), (some (11, false)), .len false (.t 14)⟩, ⟨(some 16), (some (11, false)), .bin .geq (.t 12) (.t 15)⟩, ⟨(some 17), none, .pick (.t 11) (.c (.bool true)) (.t 16)⟩, ⟨(some 18), none, .mv (.t 17)⟩, ⟨(some 19), (some (18, false)), .mv (.t 2)⟩, ⟨(some 20), (some (18, false)), .len false (.t 19)⟩, ⟨(some 21), (some (18, false)), .fa 1 (.t 3)⟩, ⟨(some 22), (some (18, false)), .load false 1 (.t 21)⟩, ⟨(some 23), (some (18, false)), .len false (.t 22)⟩, ⟨(some 24), (some (18, false)), .bin .gtr (.t 20) (.t 23)⟩, ⟨(some 25), none, .pick (.t 18) (.c (.bool true)) (.t 24)⟩])
  (.keep [1, 2, 3, 25] (.cond (.t 25) (.seq (.reg [⟨(some 26), none, .mv (.t 2)⟩, ⟨(some 27), none, .bsl 1 false [(.int .i64 (0))] 1 [(0, (.c (.int .i64 (-1))))]⟩, ⟨(some 28), none, .app 1 8 (.t 26) (.t 27)⟩, ⟨(some 6), none, .mv (.t 28)⟩]) .ret) .skip)))
  (.keep [1, 2, 3] (.seq (.seq (.reg [⟨(some 7), none, .mv (.c (.int .i64 (0)))⟩])
  (.keep [1, 2, 3, 7] (.block 0 (.loop A.probateref06_under.L0))))
  (.keep [1, 2] (.seq (.reg [⟨(some 67), none, .mv (.t 2)⟩, ⟨(some 68), none, .mv (.t 1)⟩, ⟨(some 69), none, .bsl 1 false [(.int .i64 (0))] 1 [(0, (.t 68))]⟩, ⟨(some 70), none, .app 1 8 (.t 67) (.t 69)⟩, ⟨(some 6), none, .mv (.t 70)⟩]) .ret)))))))⟩
def A.probateref06_Tree_fine : AFn := ⟨65, [(4, none)], (.seq (.reg [⟨(some 2), none, .box (.t 0)⟩, ⟨(some 3), none, .box (.t 1)⟩, ⟨(some 4), none, .mv (.c (.bool false))⟩])
  (.keep [2, 3] (.seq (.reg [⟨(some 6), none, .fa 2 (.t 3)⟩, ⟨(some 7), none, .load false 1 (.t 6)⟩, ⟨(some 8), none, .len false (.t 7)⟩, ⟨(some 5), none, .mv (.t 8)⟩])
  (.keep [2, 3, 5] (.seq (.seq (.reg [⟨(some 9), none, .fa 0 (.t 3)⟩, ⟨(some 10), none, .load false 1 (.t 9)⟩, ⟨(some 11), none, .bin .eql (.t 10) (.c (.int .i64 (6)))⟩])
  (.keep [2, 3, 5, 11] (.cond (.t 11) (.seq (.reg [⟨(some 12), none, .mv (.t 5)⟩, ⟨(some 13), none, .bin .eql (.t 12) (.c (.int .i64 (0)))⟩, ⟨(some 14), none, .mv (.t 13)⟩, ⟨(some 15), (some (14, true)), .load true 2 (.t 2)⟩, ⟨(some 16), (some (14, true)), .fa 1 (.t 3)⟩, ⟨(some 17), (some (14, true)), .load false 1 (.t 16)⟩, ⟨(some 18), (some (14, true)), .call (.c (.fn K.probateref06_Tree_rule [] [])) [(.t 15), (.t 17)]⟩, ⟨(some 19), none, .pick (.t 14) (.t 18) (.c (.bool false))⟩, ⟨(some 4), none, .mv (.t 19)⟩]) .ret) .skip)))
  (.keep [3, 5] (.seq (.seq (.reg [⟨(some 20), none, .fa 0 (.t 3)⟩, ⟨(some 21), none, .load false 1 (.t 20)⟩, ⟨(some 22), none, .bin .eql (.t 21) (.c (.int .i64 (7)))⟩])
  (.keep [3, 5, 22] (.cond (.t 22) (.seq (.reg [⟨(some 23), none, .mv (.t 5)⟩, ⟨(some 24), none, .bin .eql (.t 23) (.c (.int .i64 (0)))⟩, ⟨(some 25), none, .mv (.t 24)⟩, ⟨(some 26), (some (25, true)), .fa 1 (.t 3)⟩, ⟨(some 27), (some (25, true)), .load false 1 (.t 26)⟩, ⟨(some 28), (some (25, true)), .call (.c (.fn K.probateref06_quote [] [])) [(.t 27)]⟩, ⟨(some 29), none, .pick (.t 25) (.t 28) (.c (.bool false))⟩, ⟨(some 4), none, .mv (.t 29)⟩]) .ret) .skip)))
  (.keep [3, 5] (.seq (.reg [⟨(some 30), none, .fa 1 (.t 3)⟩, ⟨(some 31), none, .load false 1 (.t 30)⟩, ⟨(some 32), none, .bin .eql (.t 31) (.c (.str []))⟩, ⟨(some 33), none, .mv (.t 32)⟩, ⟨(some 34), (some (33, true)), .fa 0 (.t 3)⟩, ⟨(some 35), (some (33, true)), .load false 1 (.t 34)⟩, ⟨(some 36), (some (33, true)), .bin .eql (.t 35) (.c (.int .i64 (1)))⟩, ⟨(some 37), (some (33, true)), .mv (.t 36)⟩, ⟨(some 38), (some (37, true)), .mv (.t 5)⟩, ⟨(some 39), (some (37, true)), .bin .neq (.t 38) (.c (.int .i64 (1)))⟩, ⟨(some 40), (some (33, true)), .pick (.t 37) (.t 39) (.c (.bool false))⟩, ⟨(some 41), (some (33, true)), .mv (.t 40)⟩, ⟨(some 42), (some (41, false)), .fa 0 (.t 3)⟩, ⟨(some 43), (some (41, false)), .load false 1 (.t 42)⟩, ⟨(some 44), (some (41, false)), .bin .eql (.t 43) (.c (.int .i64 (2)))⟩, ⟨(some 45), (some (41, false)), .mv (.t 44)⟩, ⟨(some 46), (some (45, true)), .mv (.t 5)⟩, ⟨(some 47), (some (45, true)), .bin .geq (.t 46) (.c (.int .i64 (2)))⟩, ⟨(some 48), (some (41, false)), .pick (.t 45) (.t 47) (.c (.bool false))⟩, ⟨(some 49), (some (33, true)), .pick (.t 41) (.c (.bool true)) (.t 48)⟩, ⟨(some 50), (some (33, true)), .mv (.t 49)⟩, ⟨(some 51), (some (50, false)), .fa 0 (.t 3)⟩, ⟨(some 52), (some (50, false)), .load false 1 (.t 51)⟩, ⟨(some 53), (some (50, false)), .bin .geq (.t 52) (.c (.int .i64 (3)))⟩, ⟨(some 54), (some (50, false)), .mv (.t 53)⟩, ⟨(some 55), (some (54, true)), .fa 0 (.t 3)⟩, ⟨(some 56), (some (54, true)), .load false 1 (.t 55)⟩, ⟨(some 57), (some (54, true)), .bin .leq (.t 56) (.c (.int .i64 (5)))⟩, ⟨(some 58), (some (50, false)), .pick (.t 54) (.t 57) (.c (.bool false))⟩, ⟨(some 59), (some (50, false)), .mv (.t 58)⟩, ⟨(some 60), (some (59, true)), .mv (.t 5)⟩, ⟨(some 61), (some (59, true)), .bin .eql (.t 60) (.c (.int .i64 (1)))⟩, ⟨(some 62), (some (50, false)), .pick (.t 59) (.t 61) (.c (.bool false))⟩, ⟨(some 63), (some (33, true)), .pick (.t 50) (.c (.bool true)) (.t 62)⟩, ⟨(some 64), none, .pick (.t 33) (.t 63) (.c (.bool false))⟩, ⟨(some 4), none, .mv (.t 64)⟩]) .ret)))))))))⟩
def A.probateref06_reader_mark : AFn := ⟨51, [(4, none)], (.seq (.reg [⟨(some 4), none, .mv (.c (.bool false))⟩])
  (.keep [0, 1] (.seq (.draw [(.pl, ⟨(some 5), none, .mv (.t 0)⟩), (.pl, ⟨(some 6), none, .nilchk (.t 5)⟩), (.pl, ⟨(some 7), none, .fa 2 (.t 6)⟩), (.pl, ⟨(some 8), none, .load false 1 (.t 7)⟩), (.pl, ⟨(some 9), none, .un .not (.t 8)⟩), (.pl, ⟨(some 10), none, .mv (.t 9)⟩), (.pl, ⟨(some 11), (some (10, true)), .mv (.t 0)⟩), (.pl, ⟨(some 12), (some (10, true)), .nilchk (.t 11)⟩), (.pl, ⟨(some 13), (some (10, true)), .fa 1 (.t 12)⟩), (.pl, ⟨(some 14), (some (10, true)), .load false 1 (.t 13)⟩), (.pl, ⟨(some 15), (some (10, true)), .mv (.t 0)⟩), (.pl, ⟨(some 16), (some (10, true)), .nilchk (.t 15)⟩), (.pl, ⟨(some 17), (some (10, true)), .fa 0 (.t 16)⟩), (.pl, ⟨(some 18), (some (10, true)), .load false 1 (.t 17)⟩), (.pl, ⟨(some 19), (some (10, true)), .len false (.t 18)⟩), (.pl, ⟨(some 20), (some (10, true)), .bin .lss (.t 14) (.t 19)⟩), (.pl, ⟨(some 21), none, .pick (.t 10) (.t 20) (.c (.bool false))⟩), (.pl, ⟨(some 22), none, .mv (.t 21)⟩), (.pl, ⟨(some 23), (some (22, true)), .mv (.t 0)⟩), (.pl, ⟨(some 24), (some (22, true)), .nilchk (.t 23)⟩), (.pl, ⟨(some 25), (some (22, true)), .fa 0 (.t 24)⟩), (.pl, ⟨(some 26), (some (22, true)), .load false 1 (.t 25)⟩), (.pl, ⟨(some 27), (some (22, true)), .mv (.t 0)⟩), (.pl, ⟨(some 28), (some (22, true)), .nilchk (.t 27)⟩), (.pl, ⟨(some 29), (some (22, true)), .fa 1 (.t 28)⟩), (.pl, ⟨(some 30), (some (22, true)), .load false 1 (.t 29)⟩), (.pl, ⟨(some 31), (some (22, true)), .ia 3 (.t 26) (.t 30)⟩), (.pl, ⟨(some 32), (some (22, true)), .fa 0 (.t 31)⟩), (.pl, ⟨(some 33), (some (22, true)), .load false 1 (.t 32)⟩), (.pl, ⟨(some 34), (some (22, true)), .bin .eql (.t 33) (.c (.int .i64 (3)))⟩), (.pl, ⟨(some 35), none, .pick (.t 22) (.t 34) (.c (.bool false))⟩), (.pl, ⟨(some 36), none, .mv (.t 35)⟩), (.pl, ⟨(some 37), (some (36, true)), .mv (.t 0)⟩), (.pl, ⟨(some 38), (some (36, true)), .nilchk (.t 37)⟩), (.pl, ⟨(some 39), (some (36, true)), .fa 0 (.t 38)⟩), (.pl, ⟨(some 40), (some (36, true)), .load false 1 (.t 39)⟩), (.pl, ⟨(some 41), (some (36, true)), .mv (.t 0)⟩), (.pl, ⟨(some 42), (some (36, true)), .nilchk (.t 41)⟩), (.pl, ⟨(some 43), (some (36, true)), .fa 1 (.t 42)⟩), (.pl, ⟨(some 44), (some (36, true)), .load false 1 (.t 43)⟩), (.pl, ⟨(some 45), (some (36, true)), .ia 3 (.t 40) (.t 44)⟩), (.pl, ⟨(some 46), (some (36, true)), .fa 1 (.t 45)⟩), (.pl, ⟨(some 47), (some (36, true)), .load false 1 (.t 46)⟩), (.pl, ⟨(some 48), (some (36, true)), .mv (.t 1)⟩), (.pl, ⟨(some 49), (some (36, true)), .bin .eql (.t 47) (.t 48)⟩), (.pl, ⟨(some 50), none, .pick (.t 36) (.t 49) (.c (.bool false))⟩), (.pl, ⟨(some 4), none, .mv (.t 50)⟩)]) .ret)))⟩
def A.probateref06_reader_items.L0 : AC := .post (.seq (.seq (.draw [(.pl, ⟨(some 7), none, .mv (.t 0)⟩), (.pl, ⟨(some 8), none, .nilchk (.t 7)⟩), (.pl, ⟨(some 9), none, .fa 2 (.t 8)⟩), (.pl, ⟨(some 10), none, .load false 1 (.t 9)⟩), (.pl, ⟨(some 11), none, .un .not (.t 10)⟩), (.pl, ⟨(some 12), none, .mv (.t 11)⟩), (.pl, ⟨(some 13), (some (12, true)), .mv (.t 0)⟩), (.pl, ⟨(some 14), (some (12, true)), .nilchk (.t 13)⟩), (.pl, ⟨(some 15), (some (12, true)), .fa 1 (.t 14)⟩), (.pl, ⟨(some 16), (some (12, true)), .load false 1 (.t 15)⟩), (.pl, ⟨(some 17), (some (12, true)), .mv (.t 0)⟩), (.pl, ⟨(some 18), (some (12, true)), .nilchk (.t 17)⟩), (.pl, ⟨(some 19), (some (12, true)), .fa 0 (.t 18)⟩), (.pl, ⟨(some 20), (some (12, true)), .load false 1 (.t 19)⟩), (.pl, ⟨(some 21), (some (12, true)), .len false (.t 20)⟩), (.pl, ⟨(some 22), (some (12, true)), .bin .lss (.t 16) (.t 21)⟩), (.pl, ⟨(some 23), none, .pick (.t 12) (.t 22) (.c (.bool false))⟩), (.pl, ⟨(some 24), none, .mv (.t 23)⟩), (.pl, ⟨(some 25), (some (24, true)), .mv (.t 0)⟩), (.pl, ⟨(some 26), (some (24, true)), .nilchk (.t 25)⟩), (.pl, ⟨(some 27), (some (24, true)), .fa 0 (.t 26)⟩), (.pl, ⟨(some 28), (some (24, true)), .load false 1 (.t 27)⟩), (.pl, ⟨(some 29), (some (24, true)), .mv (.t 0)⟩), (.pl, ⟨(some 30), (some (24, true)), .nilchk (.t 29)⟩), (.pl, ⟨(some 31), (some (24, true)), .fa 1 (.t 30)⟩), (.pl, ⟨(some 32), (some (24, true)), .load false 1 (.t 31)⟩), (.pl, ⟨(some 33), (some (24, true)), .ia 3 (.t 28) (.t 32)⟩), (.pl, ⟨(some 34), (some (24, true)), .fa 0 (.t 33)⟩), (.pl, ⟨(some 35), (some (24, true)), .load false 1 (.t 34)⟩), (.pl, ⟨(some 36), (some (24, true)), .bin .neq (.t 35) (.c (.int .i64 (3)))⟩), (.pl, ⟨(some 37), (some (24, true)), .mv (.t 36)⟩), (.pl, ⟨(some 38), (some (37, false)), .mv (.t 0)⟩), (.pl, ⟨(some 39), (some (37, false)), .call (.c (.fn K.probateref06_reader_mark [] [])) [(.t 38), (.c (.str [40]))]⟩), (.pl, ⟨(some 40), (some (24, true)), .pick (.t 37) (.c (.bool true)) (.t 39)⟩), (.pl, ⟨(some 41), none, .pick (.t 24) (.t 40) (.c (.bool false))⟩)])
  (.keep [0, 3, 41] (.cond (.t 41) .skip (.exit 0))))
  (.keep [0, 3] (.block 1 (.seq (.reg [⟨(some 42), none, .mv (.t 0)⟩, ⟨(some 43), none, .call (.c (.fn K.probateref06_reader_atom [] [])) [(.t 42)]⟩, ⟨(some 4), none, .mv (.t 43)⟩])
  (.keep [0, 3, 4] (.seq (.reg [⟨(some 5), none, .mv (.c (.int .i64 (0)))⟩])
  (.keep [0, 3, 4, 5] (.seq (.seq (.reg [⟨(some 44), none, .mv (.t 0)⟩, ⟨(some 45), none, .call (.c (.fn K.probateref06_reader_mark [] [])) [(.t 44), (.c (.str [42]))]⟩])
  (.keep [0, 3, 4, 5, 45] (.cond (.t 45) (.reg [⟨(some 5), none, .mv (.c (.int .i64 (3)))⟩]) .skip)))
  (.keep [0, 3, 4, 5] (.seq (.seq (.reg [⟨(some 46), none, .mv (.t 0)⟩, ⟨(some 47), none, .call (.c (.fn K.probateref06_reader_mark [] [])) [(.t 46), (.c (.str [43]))]⟩])
  (.keep [0, 3, 4, 5, 47] (.cond (.t 47) (.reg [⟨(some 5), none, .mv (.c (.int .i64 (4)))⟩]) .skip)))
  (.keep [0, 3, 4, 5] (.seq (.seq (.reg [⟨(some 48), none, .mv (.t 0)⟩, ⟨(some 49), none, .call (.c (.fn K.probateref06_reader_mark [] [])) [(.t 48), (.c (.str [63]))]⟩])
  (.keep [0, 3, 4, 5, 49] (.cond (.t 49) (.reg [⟨(some 5), none, .mv (.c (.int .i64 (5)))⟩]) .skip)))
  (.keep [0, 3, 4, 5] (.seq (.seq (.reg [⟨(some 50), none, .mv (.t 5)⟩, ⟨(some 51), none, .bin .gtr (.t 50) (.c (.int .i64 (0)))⟩])
  (.keep [0, 3, 4, 5, 51] (.cond (.t 51) (.seq (.reg [⟨(some 52), none, .mv (.t 0)⟩, ⟨(some 53), none, .nilchk (.t 52)⟩, ⟨(some 54), none, .fa 1 (.t 53)⟩, ⟨(some 55), none, .load false 1 (.t 54)⟩, ⟨(some 56), none, .bin .add (.t 55) (.c (.int .i64 (1)))⟩, ⟨(some 57), none, .nilchk (.t 52)⟩, ⟨(some 58), none, .fa 1 (.t 57)⟩, ⟨none, none, .store 1 (.t 58) (.t 56)⟩])
  (.keep [0, 3, 4, 5] (.reg [⟨(some 59), none, .mv (.t 0)⟩, ⟨(some 60), none, .mv (.t 5)⟩, ⟨(some 61), none, .mv (.t 4)⟩, ⟨(some 62), none, .bsl 1 false [(.int .i64 (0))] 1 [(0, (.t 61))]⟩, ⟨(some 63), none, .call (.c (.fn K.probateref06_reader_lay [] [])) [(.t 59), (.t 60), (.c (.str [])), (.t 62)]⟩, ⟨(some 4), none, .mv (.t 63)⟩]))) .skip)))
  (.keep [0, 3, 4] (.reg [⟨(some 64), none, .mv (.t 3)⟩, ⟨(some 65), none, .mv (.t 4)⟩, ⟨(some 66), none, .bsl 1 false [(.int .i64 (0))] 1 [(0, (.t 65))]⟩, ⟨(some 67), none, .app 1 8 (.t 64) (.t 66)⟩, ⟨(some 3), none, .mv (.t 67)⟩])))))))))))))))) [0, 3]
def A.probateref06_reader_items : AFn := ⟨77, [(2, none)], (.seq (.reg [⟨(some 2), none, .mv (.c (.int .i64 (0)))⟩])
  (.keep [0] (.seq (.reg [⟨(some 6), none, .bsl 1 false [(.int .i64 (0))] 0 []⟩, ⟨(some 3), none, .mv (.t 6)⟩])
  (.keep [0, 3] (.seq (.block 0 (.loop A.probateref06_reader_items.L0))
  (.keep [0, 3] (.seq (.seq (.reg [⟨(some 68), none, .mv (.t 3)⟩, ⟨(some 69), none, .len false (.t 68)⟩, ⟨(some 70), none, .bin .eql (.t 69) (.c (.int .i64 (1)))⟩])
  (.keep [0, 3, 70] (.cond (.t 70) (.seq (.reg [⟨(some 71), none, .mv (.t 3)⟩, ⟨(some 72), none, .ia 1 (.t 71) (.c (.int .i64 (0)))⟩, ⟨(some 73), none, .load false 1 (.t 72)⟩, ⟨(some 2), none, .mv (.t 73)⟩]) .ret) .skip)))
  (.keep [0, 3] (.seq (.reg [⟨(some 74), none, .mv (.t 0)⟩, ⟨(some 75), none, .mv (.t 3)⟩, ⟨(some 76), none, .call (.c (.fn K.probateref06_reader_lay [] [])) [(.t 74), (.c (.int .i64 (1))), (.c (.str [])), (.t 75)]⟩, ⟨(some 2), none, .mv (.t 76)⟩]) .ret)))))))))⟩
def A.probateref06_reader_lay : AFn := ⟨31, [(8, none)], (.seq (.reg [⟨(some 8), none, .mv (.c (.int .i64 (0)))⟩])
  (.keep [0, 1, 2, 3] (.seq (.reg [⟨(some 9), none, .mv (.t 0)⟩, ⟨(some 10), none, .mv (.t 0)⟩, ⟨(some 11), none, .nilchk (.t 10)⟩, ⟨(some 12), none, .fa 3 (.t 11)⟩, ⟨(some 13), none, .fa 1 (.t 12)⟩, ⟨(some 14), none, .load false 1 (.t 13)⟩, ⟨(some 15), none, .mv (.t 1)⟩, ⟨(some 16), none, .mv (.t 2)⟩, ⟨(some 17), none, .mv (.t 3)⟩, ⟨(some 18), none, .bld [(.int .i64 (0)), (.str []), (.sl 0 1 [])] [(0, 1, (.t 15)), (1, 1, (.t 16)), (2, 1, (.t 17))]⟩, ⟨(some 19), none, .bsl 3 true [(.int .i64 (0)), (.str []), (.sl 0 1 [])] 1 [(0, (.t 18))]⟩, ⟨(some 20), none, .app 3 48 (.t 14) (.t 19)⟩, ⟨(some 21), none, .nilchk (.t 9)⟩, ⟨(some 22), none, .fa 3 (.t 21)⟩, ⟨(some 23), none, .fa 1 (.t 22)⟩, ⟨none, none, .store 1 (.t 23) (.t 20)⟩])
  (.keep [0] (.seq (.reg [⟨(some 24), none, .mv (.t 0)⟩, ⟨(some 25), none, .nilchk (.t 24)⟩, ⟨(some 26), none, .fa 3 (.t 25)⟩, ⟨(some 27), none, .fa 1 (.t 26)⟩, ⟨(some 28), none, .load false 1 (.t 27)⟩, ⟨(some 29), none, .len false (.t 28)⟩, ⟨(some 30), none, .bin .sub (.t 29) (.c (.int .i64 (1)))⟩, ⟨(some 8), none, .mv (.t 30)⟩]) .ret)))))⟩
def A.probateref06_Tree_rule.L0 : AC := .post (.seq (.seq (.reg [⟨(some 6), none, .mv (.t 5)⟩, ⟨(some 7), none, .fa 0 (.t 2)⟩, ⟨(some 8), none, .load false 1 (.t 7)⟩, ⟨(some 9), none, .len false (.t 8)⟩, ⟨(some 10), none, .bin .lss (.t 6) (.t 9)⟩])
  (.keep [1, 2, 5, 10] (.cond (.t 10) .skip (.exit 0))))
  (.keep [1, 2, 5] (.seq (.block 1 (.seq (.reg [⟨(some 13), none, .fa 0 (.t 2)⟩, ⟨(some 14), none, .load false 1 (.t 13)⟩, ⟨(some 15), none, .mv (.t 5)⟩, ⟨(some 16), none, .ia 2 (.t 14) (.t 15)⟩, ⟨(some 17), none, .fa 0 (.t 16)⟩, ⟨(some 18), none, .load false 1 (.t 17)⟩, ⟨(some 19), none, .mv (.t 1)⟩, ⟨(some 20), none, .bin .eql (.t 18) (.t 19)⟩])
  (.keep [1, 2, 5, 20] (.cond (.t 20) (.seq (.reg [⟨(some 4), none, .mv (.c (.bool true))⟩]) .ret) .skip))))
  (.keep [1, 2, 5] (.reg [⟨(some 11), none, .mv (.t 5)⟩, ⟨(some 12), none, .bin .add (.t 11) (.c (.int .i64 (1)))⟩, ⟨(some 5), none, .mv (.t 12)⟩]))))) [1, 2, 5]
def A.probateref06_Tree_rule : AFn := ⟨21, [(4, none)], (.seq (.reg [⟨(some 2), none, .box (.t 0)⟩, ⟨(some 4), none, .mv (.c (.bool false))⟩])
  (.keep [1, 2] (.seq (.seq (.reg [⟨(some 5), none, .mv (.c (.int .i64 (0)))⟩])
  (.keep [1, 2, 5] (.block 0 (.loop A.probateref06_Tree_rule.L0))))
  (.keep [] (.seq (.reg [⟨(some 4), none, .mv (.c (.bool false))⟩]) .ret)))))⟩
def A.probateref06_quote.L0 : AC := .post (.seq (.seq (.reg [⟨(some 4), none, .mv (.t 3)⟩, ⟨(some 5), none, .mv (.t 0)⟩, ⟨(some 6), none, .len true (.t 5)⟩, ⟨(some 7), none, .bin .lss (.t 4) (.t 6)⟩])
  (.keep [0, 3, 7] (.cond (.t 7) .skip (.exit 0))))
  (.keep [0, 3] (.seq (.block 1 (.seq (.reg [⟨(some 10), none, .mv (.t 0)⟩, ⟨(some 11), none, .mv (.t 3)⟩, ⟨(some 12), none, .ixs (.t 10) (.t 11)⟩, ⟨(some 13), none, .bin .lss (.t 12) (.c (.int .u8 (32)))⟩, ⟨(some 14), none, .mv (.t 13)⟩, ⟨(some 15), (some (14, false)), .mv (.t 0)⟩, ⟨(some 16), (some (14, false)), .mv (.t 3)⟩, ⟨(some 17), (some (14, false)), .ixs (.t 15) (.t 16)⟩, ⟨(some 18), (some (14, false)), .bin .gtr (.t 17) (.c (.int .u8 (126)))⟩, ⟨(some 19), none, .pick (.t 14) (.c (.bool true)) (.t 18)⟩, ⟨(some 20), none, .mv (.t 19)⟩, ⟨(some 21), (some (20, false)), .mv (.t 0)⟩, ⟨(some 22), (some (20, false)), .mv (.t 3)⟩, ⟨(some 23), (some (20, false)), .ixs (.t 21) (.t 22)⟩, ⟨(some 24), (some (20, false)), .bin .eql (.t 23) (.c (.int .u8 (39)))⟩, ⟨(some 25), none, .pick (.t 20) (.c (.bool true)) (.t 24)⟩])
  (.keep [0, 3, 25] (.cond (.t 25) (.seq (.reg [⟨(some 2), none, .mv (.c (.bool false))⟩]) .ret) .skip))))
  (.keep [0, 3] (.reg [⟨(some 8), none, .mv (.t 3)⟩, ⟨(some 9), none, .bin .add (.t 8) (.c (.int .i64 (1)))⟩, ⟨(some 3), none, .mv (.t 9)⟩]))))) [0, 3]
def A.probateref06_quote : AFn := ⟨34, [(2, none)], (.seq (.reg [⟨(some 2), none, .mv (.c (.bool false))⟩])
  (.keep [0] (.seq (.seq (.reg [⟨(some 3), none, .mv (.c (.int .i64 (0)))⟩])
  (.keep [0, 3] (.block 0 (.loop A.probateref06_quote.L0))))
  (.keep [0] (.seq (.reg [⟨(some 26), none, .mv (.t 0)⟩, ⟨(some 27), none, .len true (.t 26)⟩, ⟨(some 28), none, .bin .gtr (.t 27) (.c (.int .i64 (0)))⟩, ⟨(some 29), none, .mv (.t 28)⟩, ⟨(some 30), (some (29, true)), .mv (.t 0)⟩, ⟨(some 31), (some (29, true)), .len true (.t 30)⟩, ⟨(some 32), (some (29, true)), .bin .leq (.t 31) (.c (.int .i64 (3998)))⟩, ⟨(some 33), none, .pick (.t 29) (.t 32) (.c (.bool false))⟩, ⟨(some 2), none, .mv (.t 33)⟩]) .ret)))))⟩
def A.probateref06_reader_atom : AFn := ⟨51, [(2, none)], (.seq (.reg [⟨(some 2), none, .mv (.c (.int .i64 (0)))⟩])
  (.keep [0] (.seq (.draw [(.pl, ⟨(some 5), none, .mv (.t 0)⟩), (.pl, ⟨(some 6), none, .nilchk (.t 5)⟩), (.pl, ⟨(some 7), none, .fa 0 (.t 6)⟩), (.fl, ⟨(some 8), none, .load false 1 (.t 7)⟩), (.pl, ⟨(some 9), none, .mv (.t 0)⟩), (.pl, ⟨(some 10), none, .nilchk (.t 9)⟩), (.pl, ⟨(some 11), none, .fa 1 (.t 10)⟩), (.fl, ⟨(some 12), none, .load false 1 (.t 11)⟩), (.pl, ⟨(some 13), none, .ia 3 (.t 8) (.t 12)⟩), (.fl, ⟨(some 14), none, .load true 3 (.t 13)⟩), (.eff, ⟨(some 3), none, .alloc [(.int .i64 (0)), (.str []), (.int .i64 (0))]⟩), (.efo, ⟨none, none, .store 3 (.t 3) (.t 14)⟩)])
  (.keep [0, 3] (.seq (.reg [⟨(some 15), none, .mv (.t 0)⟩, ⟨(some 16), none, .nilchk (.t 15)⟩, ⟨(some 17), none, .fa 1 (.t 16)⟩, ⟨(some 18), none, .load false 1 (.t 17)⟩, ⟨(some 19), none, .bin .add (.t 18) (.c (.int .i64 (1)))⟩, ⟨(some 20), none, .nilchk (.t 15)⟩, ⟨(some 21), none, .fa 1 (.t 20)⟩, ⟨none, none, .store 1 (.t 21) (.t 19)⟩])
  (.keep [0, 3] (.seq (.seq (.reg [⟨(some 22), none, .fa 0 (.t 3)⟩, ⟨(some 23), none, .load false 1 (.t 22)⟩, ⟨(some 24), none, .bin .eql (.t 23) (.c (.int .i64 (2)))⟩])
  (.keep [0, 3, 24] (.cond (.t 24) (.seq (.reg [⟨(some 25), none, .mv (.t 0)⟩, ⟨(some 26), none, .fa 1 (.t 3)⟩, ⟨(some 27), none, .load false 1 (.t 26)⟩, ⟨(some 28), none, .call (.c (.fn K.probateref06_reader_lay [] [])) [(.t 25), (.c (.int .i64 (7))), (.t 27), (.c (.sl 0 1 []))]⟩, ⟨(some 2), none, .mv (.t 28)⟩]) .ret) .skip)))
  (.keep [0, 3] (.seq (.seq (.reg [⟨(some 29), none, .fa 0 (.t 3)⟩, ⟨(some 30), none, .load false 1 (.t 29)⟩, ⟨(some 31), none, .bin .eql (.t 30) (.c (.int .i64 (1)))⟩])
  (.keep [0, 3, 31] (.cond (.t 31) (.seq (.draw [(.pl, ⟨(some 32), none, .mv (.t 0)⟩), (.pl, ⟨(some 33), none, .mv (.t 0)⟩), (.pl, ⟨(some 34), none, .nilchk (.t 33)⟩), (.pl, ⟨(some 35), none, .fa 6 (.t 34)⟩), (.pl, ⟨(some 36), none, .load false 1 (.t 35)⟩), (.pl, ⟨(some 37), none, .load true 3 (.t 3)⟩), (.pl, ⟨(some 38), none, .bsl 3 true [(.int .i64 (0)), (.str []), (.int .i64 (0))] 1 [(0, (.t 37))]⟩), (.eff, ⟨(some 39), none, .app 3 32 (.t 36) (.t 38)⟩), (.pl, ⟨(some 40), none, .nilchk (.t 32)⟩), (.pl, ⟨(some 41), none, .fa 6 (.t 40)⟩), (.eff, ⟨none, none, .store 1 (.t 41) (.t 39)⟩)])
  (.keep [0, 3] (.seq (.reg [⟨(some 42), none, .mv (.t 0)⟩, ⟨(some 43), none, .fa 1 (.t 3)⟩, ⟨(some 44), none, .load false 1 (.t 43)⟩, ⟨(some 45), none, .call (.c (.fn K.probateref06_reader_lay [] [])) [(.t 42), (.c (.int .i64 (6))), (.t 44), (.c (.sl 0 1 []))]⟩, ⟨(some 2), none, .mv (.t 45)⟩]) .ret))) .skip)))
  (.keep [0] (.seq (.reg [⟨(some 46), none, .mv (.t 0)⟩, ⟨(some 47), none, .call (.c (.fn K.probateref06_reader_alternatives [] [])) [(.t 46)]⟩, ⟨(some 4), none, .mv (.t 47)⟩])
  (.keep [0, 4] (.seq (.reg [⟨(some 48), none, .mv (.t 0)⟩, ⟨(some 49), none, .call (.c (.fn K.probateref06_reader_must [] [])) [(.t 48), (.c (.str [41]))]⟩])
  (.keep [4] (.seq (.reg [⟨(some 50), none, .mv (.t 4)⟩, ⟨(some 2), none, .mv (.t 50)⟩]) .ret)))))))))))))))⟩
end Go.Proofs.Ytmobijebjkjnoaa.Al
namespace Go.Proofs.Ytmobijebjkjnoaa.Al
def A.probatelaw08_LowerMeans.L0 : AC := .post (.seq (.reg [⟨(some 40), none, .bin .lss (.t 39) (.t 38)⟩])
  (.keep [2, 5, 6, 8, 37, 38, 39, 40] (.seq (.cond (.t 40) .skip (.exit 0))
  (.keep [2, 5, 6, 8, 37, 38, 39] (.seq (.block 1 (.seq (.reg [⟨(some 41), none, .ia 1 (.t 37) (.t 39)⟩, ⟨(some 42), none, .load false 1 (.t 41)⟩, ⟨(some 10), none, .mv (.t 42)⟩])
  (.keep [2, 5, 6, 8, 10, 37, 38, 39] (.seq (.reg [⟨(some 43), none, .fa 0 (.t 5)⟩, ⟨(some 44), none, .load false 1 (.t 43)⟩, ⟨(some 45), none, .bin .gtr (.t 44) (.c (.int .i64 (0)))⟩])
  (.keep [2, 5, 6, 8, 10, 37, 38, 39, 45] (.cond (.t 45) (.reg [⟨(some 46), none, .mv (.t 8)⟩, ⟨(some 47), none, .mv (.t 10)⟩, ⟨(some 48), none, .conv .i64 (.t 47)⟩, ⟨(some 49), none, .fa 0 (.t 5)⟩, ⟨(some 50), none, .load false 1 (.t 49)⟩, ⟨(some 51), none, .bin .rem (.t 48) (.t 50)⟩, ⟨(some 52), none, .bsl 1 false [(.int .i64 (0))] 1 [(0, (.t 51))]⟩, ⟨(some 53), none, .app 1 8 (.t 46) (.t 52)⟩, ⟨(some 8), none, .mv (.t 53)⟩]) .skip))))))
  (.keep [2, 5, 6, 8, 37, 38, 39] (.reg [⟨(some 54), none, .bin .add (.t 39) (.c (.int .i64 (1)))⟩, ⟨(some 39), none, .mv (.t 54)⟩]))))))) [2, 5, 6, 8, 37, 38, 39]
def A.probatelaw08_LowerMeans : AFn := ⟨64, [(4, none)], (.seq (.reg [⟨(some 2), none, .box (.t 0)⟩, ⟨(some 4), none, .mv (.c (.bool false))⟩])
  (.keep [1, 2] (.seq (.seq (.reg [⟨(some 11), none, .call (.c (.fn K.probatelaw08_awake [] [])) []⟩, ⟨(some 12), none, .un .not (.t 11)⟩])
  (.keep [1, 2, 12] (.cond (.t 12) (.seq (.reg [⟨(some 4), none, .mv (.c (.bool false))⟩]) .ret) .skip)))
  (.keep [1, 2] (.seq (.seq (.reg [⟨(some 13), none, .load true 2 (.t 2)⟩, ⟨(some 14), none, .call (.c (.fn K.probatelaw06_Large [] [])) [(.t 13)]⟩, ⟨(some 15), none, .mv (.t 14)⟩, ⟨(some 16), (some (15, false)), .fa 1 (.t 2)⟩, ⟨(some 17), (some (15, false)), .load false 1 (.t 16)⟩, ⟨(some 18), (some (15, false)), .len false (.t 17)⟩, ⟨(some 19), (some (15, false)), .bin .gtr (.t 18) (.c (.int .i64 (30)))⟩, ⟨(some 20), none, .pick (.t 15) (.c (.bool true)) (.t 19)⟩, ⟨(some 21), none, .mv (.t 20)⟩, ⟨(some 22), (some (21, false)), .mv (.t 1)⟩, ⟨(some 23), (some (21, false)), .len false (.t 22)⟩, ⟨(some 24), (some (21, false)), .bin .gtr (.t 23) (.c (.int .i64 (6)))⟩, ⟨(some 25), none, .pick (.t 21) (.c (.bool true)) (.t 24)⟩])
  (.keep [1, 2, 25] (.cond (.t 25) (.seq (.reg [⟨(some 4), none, .mv (.c (.bool true))⟩]) .ret) .skip)))
  (.keep [1, 2] (.seq (.reg [⟨(some 27), none, .load true 2 (.t 2)⟩, ⟨(some 28), none, .call (.c (.fn K.lower_Lower [] [])) [(.t 27)]⟩, ⟨(some 26), none, .mv (.t 28)⟩, ⟨(some 29), none, .ext (.t 26) 0⟩, ⟨(some 30), none, .ext (.t 26) 1⟩, ⟨(some 31), none, .ext (.t 26) 2⟩, ⟨(some 5), none, .alloc [(.int .i64 (0)), (.int .i64 (0)), (.int .i64 (0)), (.sl 0 1 [])]⟩, ⟨none, none, .store 4 (.t 5) (.t 29)⟩, ⟨(some 6), none, .mv (.t 30)⟩, ⟨(some 7), none, .mv (.t 31)⟩])
  (.keep [1, 2, 5, 6, 7] (.seq (.seq (.reg [⟨(some 32), none, .mv (.t 7)⟩, ⟨(some 33), none, .bin .neq (.t 32) (.c (.int .i64 (0)))⟩])
  (.keep [1, 2, 5, 6, 33] (.cond (.t 33) (.seq (.reg [⟨(some 34), none, .mv (.t 6)⟩, ⟨(some 35), none, .len false (.t 34)⟩, ⟨(some 36), none, .bin .eql (.t 35) (.c (.int .i64 (0)))⟩, ⟨(some 4), none, .mv (.t 36)⟩]) .ret) .skip)))
  (.keep [1, 2, 5, 6] (.seq (.reg [⟨(some 8), none, .mv (.c (.sl 0 1 []))⟩])
  (.keep [1, 2, 5, 6, 8] (.seq (.seq (.reg [⟨(some 37), none, .mv (.t 1)⟩, ⟨(some 38), none, .len false (.t 37)⟩, ⟨(some 39), none, .mv (.c (.int .i64 (0)))⟩])
  (.keep [2, 5, 6, 8, 37, 38, 39] (.block 0 (.loop A.probatelaw08_LowerMeans.L0))))
  (.keep [2, 5, 6, 8] (.seq (.draw [(.pl, ⟨(some 55), none, .load true 4 (.t 5)⟩), (.pl, ⟨(some 56), none, .mv (.t 8)⟩), (.pl, ⟨(some 57), none, .call (.c (.fn K.probateref08_In [] [])) [(.t 55), (.t 56)]⟩), (.pl, ⟨(some 58), none, .load true 2 (.t 2)⟩), (.pl, ⟨(some 59), none, .call (.c (.fn K.probatelaw06_Own [] [])) [(.t 58)]⟩), (.pl, ⟨(some 60), none, .mv (.t 6)⟩), (.pl, ⟨(some 61), none, .mv (.t 8)⟩), (.pl, ⟨(some 62), none, .call (.c (.fn K.probateref08_Means [] [])) [(.t 59), (.t 60), (.t 61)]⟩), (.pl, ⟨(some 63), none, .beq false (.t 57) (.t 62)⟩), (.pl, ⟨(some 4), none, .mv (.t 63)⟩)]) .ret)))))))))))))))⟩
def A.probateref08_In : AFn := ⟨18, [(4, none)], (.seq (.reg [⟨(some 2), none, .box (.t 0)⟩, ⟨(some 4), none, .mv (.c (.bool false))⟩])
  (.keep [1, 2] (.seq (.draw [(.pl, ⟨(some 5), none, .load true 4 (.t 2)⟩), (.pl, ⟨(some 6), none, .mv (.t 1)⟩), (.pl, ⟨(some 7), none, .call (.c (.fn K.probateref08_Spans [] [])) [(.t 5), (.t 6)]⟩), (.pl, ⟨(some 8), none, .fa 2 (.t 2)⟩), (.pl, ⟨(some 9), none, .load false 1 (.t 8)⟩), (.pl, ⟨(some 10), none, .ia 1 (.t 7) (.t 9)⟩), (.pl, ⟨(some 11), none, .load false 1 (.t 10)⟩), (.pl, ⟨(some 12), none, .ia 1 (.t 11) (.c (.int .i64 (0)))⟩), (.pl, ⟨(some 13), none, .load false 1 (.t 12)⟩), (.pl, ⟨(some 14), none, .mv (.t 1)⟩), (.pl, ⟨(some 15), none, .len false (.t 14)⟩), (.pl, ⟨(some 16), none, .ia 1 (.t 13) (.t 15)⟩), (.pl, ⟨(some 17), none, .load false 1 (.t 16)⟩), (.pl, ⟨(some 4), none, .mv (.t 17)⟩)]) .ret)))⟩
def A.probatelaw08_awake : AFn := ⟨60, [(0, none)], (.seq (.reg [⟨(some 0), none, .mv (.c (.bool false))⟩])
  (.keep [] (.seq (.reg [⟨(some 10), none, .bld [(.str []), (.int .i64 (0))] [(0, 1, (.c (.str [115]))), (1, 1, (.c (.int .i64 (3))))]⟩, ⟨(some 11), none, .bsl 2 true [(.str []), (.int .i64 (0))] 1 [(0, (.t 10))]⟩, ⟨(some 12), none, .bld [(.int .i64 (0)), (.str []), (.sl 0 1 [])] [(0, 1, (.c (.int .i64 (7)))), (1, 1, (.c (.str [97])))]⟩, ⟨(some 13), none, .bsl 1 false [(.int .i64 (0))] 1 [(0, (.c (.int .i64 (0))))]⟩, ⟨(some 14), none, .bld [(.int .i64 (0)), (.str []), (.sl 0 1 [])] [(0, 1, (.c (.int .i64 (3)))), (2, 1, (.t 13))]⟩, ⟨(some 15), none, .bld [(.int .i64 (0)), (.str []), (.sl 0 1 [])] [(0, 1, (.c (.int .i64 (7)))), (1, 1, (.c (.str [98])))]⟩, ⟨(some 16), none, .bsl 1 false [(.int .i64 (0))] 2 [(0, (.c (.int .i64 (1)))), (1, (.c (.int .i64 (2))))]⟩, ⟨(some 17), none, .bld [(.int .i64 (0)), (.str []), (.sl 0 1 [])] [(0, 1, (.c (.int .i64 (1)))), (2, 1, (.t 16))]⟩, ⟨(some 18), none, .bsl 3 true [(.int .i64 (0)), (.str []), (.sl 0 1 [])] 4 [(0, (.t 12)), (1, (.t 14)), (2, (.t 15)), (3, (.t 17))]⟩, ⟨(some 19), none, .bld [(.sl 0 1 []), (.sl 0 1 [])] [(0, 1, (.t 11)), (1, 1, (.t 18))]⟩, ⟨(some 1), none, .alloc [(.sl 0 1 []), (.sl 0 1 [])]⟩, ⟨none, none, .store 2 (.t 1) (.t 19)⟩])
  (.keep [1] (.seq (.reg [⟨(some 21), none, .load true 2 (.t 1)⟩, ⟨(some 22), none, .call (.c (.fn K.lower_Lower [] [])) [(.t 21)]⟩, ⟨(some 20), none, .mv (.t 22)⟩, ⟨(some 23), none, .ext (.t 20) 0⟩, ⟨(some 24), none, .ext (.t 20) 1⟩, ⟨(some 25), none, .ext (.t 20) 2⟩, ⟨(some 2), none, .alloc [(.int .i64 (0)), (.int .i64 (0)), (.int .i64 (0)), (.sl 0 1 [])]⟩, ⟨none, none, .store 4 (.t 2) (.t 23)⟩, ⟨(some 3), none, .mv (.t 24)⟩, ⟨(some 4), none, .mv (.t 25)⟩])
  (.keep [2, 3, 4] (.seq (.reg [⟨(some 27), none, .bld [(.sl 0 1 []), (.sl 0 1 [])] []⟩, ⟨(some 28), none, .call (.c (.fn K.lower_Lower [] [])) [(.t 27)]⟩, ⟨(some 26), none, .mv (.t 28)⟩, ⟨(some 29), none, .ext (.t 26) 0⟩, ⟨(some 30), none, .ext (.t 26) 1⟩, ⟨(some 31), none, .ext (.t 26) 2⟩, ⟨(some 5), none, .alloc [(.int .i64 (0)), (.int .i64 (0)), (.int .i64 (0)), (.sl 0 1 [])]⟩, ⟨none, none, .store 4 (.t 5) (.t 29)⟩, ⟨(some 6), none, .mv (.t 30)⟩, ⟨(some 7), none, .mv (.t 31)⟩])
  (.keep [2, 3, 4, 7] (.seq (.reg [⟨(some 32), none, .bld [(.bool false), (.int .i64 (0))] [(0, 1, (.c (.bool true))), (1, 1, (.c (.int .i64 (1))))]⟩, ⟨(some 8), none, .alloc [(.bool false), (.int .i64 (0))]⟩, ⟨none, none, .store 2 (.t 8) (.t 32)⟩])
  (.keep [2, 3, 4, 7, 8] (.seq (.reg [⟨(some 33), none, .load true 2 (.t 8)⟩, ⟨(some 34), none, .bld [(.bool false), (.int .i64 (0))] [(1, 1, (.c (.int .i64 (1))))]⟩, ⟨(some 35), none, .bsl 2 true [(.bool false), (.int .i64 (0))] 2 [(0, (.t 33)), (1, (.t 34))]⟩, ⟨(some 36), none, .bld [(.int .i64 (0)), (.sl 0 1 [])] [(1, 1, (.t 35))]⟩, ⟨(some 37), none, .bld [(.bool false), (.int .i64 (0))] []⟩, ⟨(some 38), none, .load true 2 (.t 8)⟩, ⟨(some 39), none, .bsl 2 true [(.bool false), (.int .i64 (0))] 2 [(0, (.t 37)), (1, (.t 38))]⟩, ⟨(some 40), none, .bld [(.int .i64 (0)), (.sl 0 1 [])] [(0, 1, (.c (.int .i64 (1)))), (1, 1, (.t 39))]⟩, ⟨(some 41), none, .bld [(.int .i64 (0)), (.sl 0 1 [])] [(0, 1, (.c (.int .i64 (1))))]⟩, ⟨(some 42), none, .bsl 2 true [(.int .i64 (0)), (.sl 0 1 [])] 3 [(0, (.t 36)), (1, (.t 40)), (2, (.t 41))]⟩, ⟨(some 43), none, .bld [(.int .i64 (0)), (.int .i64 (0)), (.int .i64 (0)), (.sl 0 1 [])] [(0, 1, (.c (.int .i64 (2)))), (1, 1, (.c (.int .i64 (2)))), (3, 1, (.t 42))]⟩, ⟨(some 9), none, .alloc [(.int .i64 (0)), (.int .i64 (0)), (.int .i64 (0)), (.sl 0 1 [])]⟩, ⟨none, none, .store 4 (.t 9) (.t 43)⟩])
  (.keep [2, 3, 4, 7, 9] (.seq (.reg [⟨(some 44), none, .load true 4 (.t 2)⟩, ⟨(some 45), none, .load true 4 (.t 9)⟩, ⟨(some 46), none, .call (.c (.fn K.probateref03_Same [] [])) [(.t 44), (.t 45)]⟩, ⟨(some 47), none, .mv (.t 46)⟩, ⟨(some 48), (some (47, true)), .mv (.t 3)⟩, ⟨(some 49), (some (47, true)), .bsl 1 false [(.str [])] 2 [(0, (.c (.str [97]))), (1, (.c (.str [98])))]⟩, ⟨(some 50), (some (47, true)), .call (.c (.fn K.probatelaw08_names [] [])) [(.t 48), (.t 49)]⟩, ⟨(some 51), none, .pick (.t 47) (.t 50) (.c (.bool false))⟩, ⟨(some 52), none, .mv (.t 51)⟩, ⟨(some 53), (some (52, true)), .mv (.t 4)⟩, ⟨(some 54), (some (52, true)), .bin .eql (.t 53) (.c (.int .i64 (0)))⟩, ⟨(some 55), none, .pick (.t 52) (.t 54) (.c (.bool false))⟩, ⟨(some 56), none, .mv (.t 55)⟩, ⟨(some 57), (some (56, true)), .mv (.t 7)⟩, ⟨(some 58), (some (56, true)), .bin .eql (.t 57) (.c (.int .i64 (1)))⟩, ⟨(some 59), none, .pick (.t 56) (.t 58) (.c (.bool false))⟩, ⟨(some 0), none, .mv (.t 59)⟩]) .ret)))))))))))))⟩
def A.probatelaw08_names.L0 : AC := .post (.seq (.reg [⟨(some 14), none, .bin .lss (.t 13) (.t 12)⟩])
  (.keep [0, 1, 12, 13, 14] (.seq (.cond (.t 14) .skip (.exit 0))
  (.keep [0, 1, 12, 13] (.seq (.block 1 (.seq (.reg [⟨(some 15), none, .mv (.t 13)⟩, ⟨(some 5), none, .mv (.t 15)⟩])
  (.keep [0, 1, 5, 12, 13] (.seq (.draw [(.pl, ⟨(some 16), none, .mv (.t 0)⟩), (.pl, ⟨(some 17), none, .mv (.t 5)⟩), (.pl, ⟨(some 18), none, .ia 1 (.t 16) (.t 17)⟩), (.pl, ⟨(some 19), none, .load false 1 (.t 18)⟩), (.pl, ⟨(some 20), none, .mv (.t 1)⟩), (.pl, ⟨(some 21), none, .mv (.t 5)⟩), (.pl, ⟨(some 22), none, .ia 1 (.t 20) (.t 21)⟩), (.pl, ⟨(some 23), none, .load false 1 (.t 22)⟩), (.pl, ⟨(some 24), none, .bin .neq (.t 19) (.t 23)⟩)])
  (.keep [0, 1, 12, 13, 24] (.cond (.t 24) (.seq (.reg [⟨(some 4), none, .mv (.c (.bool false))⟩]) .ret) .skip))))))
  (.keep [0, 1, 12, 13] (.reg [⟨(some 25), none, .bin .add (.t 13) (.c (.int .i64 (1)))⟩, ⟨(some 13), none, .mv (.t 25)⟩]))))))) [0, 1, 12, 13]
def A.probatelaw08_names : AFn := ⟨26, [(4, none)], (.seq (.reg [⟨(some 4), none, .mv (.c (.bool false))⟩])
  (.keep [0, 1] (.seq (.seq (.reg [⟨(some 6), none, .mv (.t 0)⟩, ⟨(some 7), none, .len false (.t 6)⟩, ⟨(some 8), none, .mv (.t 1)⟩, ⟨(some 9), none, .len false (.t 8)⟩, ⟨(some 10), none, .bin .neq (.t 7) (.t 9)⟩])
  (.keep [0, 1, 10] (.cond (.t 10) (.seq (.reg [⟨(some 4), none, .mv (.c (.bool false))⟩]) .ret) .skip)))
  (.keep [0, 1] (.seq (.seq (.reg [⟨(some 11), none, .mv (.t 0)⟩, ⟨(some 12), none, .len false (.t 11)⟩, ⟨(some 13), none, .mv (.c (.int .i64 (0)))⟩])
  (.keep [0, 1, 12, 13] (.block 0 (.loop A.probatelaw08_names.L0))))
  (.keep [] (.seq (.reg [⟨(some 4), none, .mv (.c (.bool true))⟩]) .ret)))))))⟩
def A.probateref08_Means.L3 : AC := .post (.seq (.seq (.reg [⟨(some 40), none, .mv (.t 12)⟩, ⟨(some 41), none, .mv (.t 2)⟩, ⟨(some 42), none, .len false (.t 41)⟩, ⟨(some 43), none, .bin .leq (.t 40) (.t 42)⟩])
  (.keep [1, 2, 3, 7, 8, 9, 10, 11, 12, 43] (.cond (.t 43) .skip (.exit 6))))
  (.keep [1, 2, 3, 7, 8, 9, 10, 11, 12] (.seq (.block 7 (.seq (.reg [⟨(some 46), none, .mv (.t 11)⟩, ⟨(some 47), none, .mv (.t 12)⟩, ⟨(some 48), none, .ia 1 (.t 46) (.t 47)⟩, ⟨(some 49), none, .load false 1 (.t 48)⟩, ⟨(some 50), none, .mv (.t 49)⟩, ⟨(some 51), (some (50, true)), .mv (.t 7)⟩, ⟨(some 52), (some (50, true)), .mv (.t 9)⟩, ⟨(some 53), (some (50, true)), .ia 1 (.t 51) (.t 52)⟩, ⟨(some 54), (some (50, true)), .load false 1 (.t 53)⟩, ⟨(some 55), (some (50, true)), .mv (.t 10)⟩, ⟨(some 56), (some (50, true)), .ia 1 (.t 54) (.t 55)⟩, ⟨(some 57), (some (50, true)), .load false 1 (.t 56)⟩, ⟨(some 58), (some (50, true)), .mv (.t 12)⟩, ⟨(some 59), (some (50, true)), .ia 1 (.t 57) (.t 58)⟩, ⟨(some 60), (some (50, true)), .load false 1 (.t 59)⟩, ⟨(some 61), (some (50, true)), .un .not (.t 60)⟩, ⟨(some 62), none, .pick (.t 50) (.t 61) (.c (.bool false))⟩])
  (.keep [1, 2, 3, 7, 8, 9, 10, 11, 12, 62] (.cond (.t 62) (.seq (.reg [⟨(some 63), none, .mv (.t 7)⟩, ⟨(some 64), none, .mv (.t 9)⟩, ⟨(some 65), none, .ia 1 (.t 63) (.t 64)⟩, ⟨(some 66), none, .load false 1 (.t 65)⟩, ⟨(some 67), none, .mv (.t 10)⟩, ⟨(some 68), none, .ia 1 (.t 66) (.t 67)⟩, ⟨(some 69), none, .load false 1 (.t 68)⟩, ⟨(some 70), none, .mv (.t 12)⟩, ⟨(some 71), none, .ia 1 (.t 69) (.t 70)⟩, ⟨none, none, .store 1 (.t 71) (.c (.bool true))⟩])
  (.keep [1, 2, 3, 7, 9, 10, 11, 12] (.reg [⟨(some 8), none, .mv (.c (.bool true))⟩]))) .skip))))
  (.keep [1, 2, 3, 7, 8, 9, 10, 11, 12] (.reg [⟨(some 44), none, .mv (.t 12)⟩, ⟨(some 45), none, .bin .add (.t 44) (.c (.int .i64 (1)))⟩, ⟨(some 12), none, .mv (.t 45)⟩]))))) [1, 2, 3, 7, 8, 9, 10, 11, 12]
def A.probateref08_Means.L2 : AC := .post (.seq (.seq (.reg [⟨(some 27), none, .mv (.t 10)⟩, ⟨(some 28), none, .mv (.t 2)⟩, ⟨(some 29), none, .len false (.t 28)⟩, ⟨(some 30), none, .bin .leq (.t 27) (.t 29)⟩])
  (.keep [1, 2, 3, 7, 8, 9, 10, 30] (.cond (.t 30) .skip (.exit 4))))
  (.keep [1, 2, 3, 7, 8, 9, 10] (.seq (.block 5 (.seq (.reg [⟨(some 33), none, .load true 2 (.t 3)⟩, ⟨(some 34), none, .mv (.t 9)⟩, ⟨(some 35), none, .mv (.t 2)⟩, ⟨(some 36), none, .mv (.t 1)⟩, ⟨(some 37), none, .mv (.t 7)⟩, ⟨(some 38), none, .mv (.t 10)⟩, ⟨(some 39), none, .call (.c (.fn K.probateref08_means [] [])) [(.t 33), (.t 34), (.t 35), (.t 36), (.t 37), (.t 38)]⟩, ⟨(some 11), none, .mv (.t 39)⟩])
  (.keep [1, 2, 3, 7, 8, 9, 10, 11] (.seq (.reg [⟨(some 12), none, .mv (.c (.int .i64 (0)))⟩])
  (.keep [1, 2, 3, 7, 8, 9, 10, 11, 12] (.block 6 (.loop A.probateref08_Means.L3)))))))
  (.keep [1, 2, 3, 7, 8, 9, 10] (.reg [⟨(some 31), none, .mv (.t 10)⟩, ⟨(some 32), none, .bin .add (.t 31) (.c (.int .i64 (1)))⟩, ⟨(some 10), none, .mv (.t 32)⟩]))))) [1, 2, 3, 7, 8, 9, 10]
def A.probateref08_Means.L1 : AC := .post (.seq (.seq (.reg [⟨(some 20), none, .mv (.t 9)⟩, ⟨(some 21), none, .fa 1 (.t 3)⟩, ⟨(some 22), none, .load false 1 (.t 21)⟩, ⟨(some 23), none, .len false (.t 22)⟩, ⟨(some 24), none, .bin .lss (.t 20) (.t 23)⟩])
  (.keep [1, 2, 3, 7, 8, 9, 24] (.cond (.t 24) .skip (.exit 2))))
  (.keep [1, 2, 3, 7, 8, 9] (.seq (.block 3 (.seq (.reg [⟨(some 10), none, .mv (.c (.int .i64 (0)))⟩])
  (.keep [1, 2, 3, 7, 8, 9, 10] (.block 4 (.loop A.probateref08_Means.L2)))))
  (.keep [1, 2, 3, 7, 8, 9] (.reg [⟨(some 25), none, .mv (.t 9)⟩, ⟨(some 26), none, .bin .add (.t 25) (.c (.int .i64 (1)))⟩, ⟨(some 9), none, .mv (.t 26)⟩]))))) [1, 2, 3, 7, 8, 9]
def A.probateref08_Means.L0 : AC := .post (.seq (.seq (.reg [⟨(some 19), none, .mv (.t 8)⟩])
  (.keep [1, 2, 3, 7, 19] (.cond (.t 19) .skip (.exit 0))))
  (.keep [1, 2, 3, 7] (.block 1 (.seq (.reg [⟨(some 8), none, .mv (.c (.bool false))⟩])
  (.keep [1, 2, 3, 7, 8] (.seq (.reg [⟨(some 9), none, .mv (.c (.int .i64 (0)))⟩])
  (.keep [1, 2, 3, 7, 8, 9] (.block 2 (.loop A.probateref08_Means.L1))))))))) [1, 2, 3, 7, 8]
def A.probateref08_Means : AFn := ⟨86, [(6, none)], (.seq (.reg [⟨(some 3), none, .box (.t 0)⟩, ⟨(some 6), none, .mv (.c (.bool false))⟩])
  (.keep [1, 2, 3] (.seq (.reg [⟨(some 13), none, .fa 1 (.t 3)⟩, ⟨(some 14), none, .load false 1 (.t 13)⟩, ⟨(some 15), none, .len false (.t 14)⟩, ⟨(some 16), none, .mv (.t 2)⟩, ⟨(some 17), none, .len false (.t 16)⟩, ⟨(some 18), none, .call (.c (.fn K.probateref08_none [] [])) [(.t 15), (.t 17)]⟩, ⟨(some 7), none, .mv (.t 18)⟩])
  (.keep [1, 2, 3, 7] (.seq (.seq (.reg [⟨(some 8), none, .mv (.c (.bool true))⟩])
  (.keep [1, 2, 3, 7, 8] (.block 0 (.loop A.probateref08_Means.L0))))
  (.keep [2, 3, 7] (.seq (.reg [⟨(some 72), none, .mv (.t 7)⟩, ⟨(some 73), none, .fa 0 (.t 3)⟩, ⟨(some 74), none, .load false 1 (.t 73)⟩, ⟨(some 75), none, .ia 2 (.t 74) (.c (.int .i64 (0)))⟩, ⟨(some 76), none, .fa 1 (.t 75)⟩, ⟨(some 77), none, .load false 1 (.t 76)⟩, ⟨(some 78), none, .ia 1 (.t 72) (.t 77)⟩, ⟨(some 79), none, .load false 1 (.t 78)⟩, ⟨(some 80), none, .ia 1 (.t 79) (.c (.int .i64 (0)))⟩, ⟨(some 81), none, .load false 1 (.t 80)⟩, ⟨(some 82), none, .mv (.t 2)⟩, ⟨(some 83), none, .len false (.t 82)⟩, ⟨(some 84), none, .ia 1 (.t 81) (.t 83)⟩, ⟨(some 85), none, .load false 1 (.t 84)⟩, ⟨(some 6), none, .mv (.t 85)⟩]) .ret)))))))⟩
def A.probateref08_Spans.L2 : AC := .post (.seq (.seq (.reg [⟨(some 28), none, .mv (.t 9)⟩, ⟨(some 29), none, .fa 3 (.t 2)⟩, ⟨(some 30), none, .load false 1 (.t 29)⟩, ⟨(some 31), none, .mv (.t 7)⟩, ⟨(some 32), none, .ia 2 (.t 30) (.t 31)⟩, ⟨(some 33), none, .fa 1 (.t 32)⟩, ⟨(some 34), none, .load false 1 (.t 33)⟩, ⟨(some 35), none, .len false (.t 34)⟩, ⟨(some 36), none, .bin .lss (.t 28) (.t 35)⟩])
  (.keep [1, 2, 5, 6, 7, 8, 9, 36] (.cond (.t 36) .skip (.exit 4))))
  (.keep [1, 2, 5, 6, 7, 8, 9] (.seq (.block 5 (.seq (.reg [⟨(some 39), none, .fa 3 (.t 2)⟩, ⟨(some 40), none, .load false 1 (.t 39)⟩, ⟨(some 41), none, .mv (.t 7)⟩, ⟨(some 42), none, .ia 2 (.t 40) (.t 41)⟩, ⟨(some 43), none, .fa 1 (.t 42)⟩, ⟨(some 44), none, .load false 1 (.t 43)⟩, ⟨(some 45), none, .mv (.t 9)⟩, ⟨(some 46), none, .ia 2 (.t 44) (.t 45)⟩, ⟨(some 47), none, .load true 2 (.t 46)⟩, ⟨(some 10), none, .alloc [(.bool false), (.int .i64 (0))]⟩, ⟨none, none, .store 2 (.t 10) (.t 47)⟩])
  (.keep [1, 2, 5, 6, 7, 8, 9, 10] (.seq (.reg [⟨(some 48), none, .fa 0 (.t 10)⟩, ⟨(some 49), none, .load false 1 (.t 48)⟩])
  (.keep [1, 2, 5, 6, 7, 8, 9, 10, 49] (.cond (.t 49) (.reg [⟨(some 50), none, .mv (.t 8)⟩, ⟨(some 51), none, .mv (.t 5)⟩, ⟨(some 52), none, .fa 1 (.t 10)⟩, ⟨(some 53), none, .load false 1 (.t 52)⟩, ⟨(some 54), none, .ia 1 (.t 51) (.t 53)⟩, ⟨(some 55), none, .load false 1 (.t 54)⟩, ⟨(some 56), none, .bsl 1 false [(.sl 0 1 [])] 1 [(0, (.t 55))]⟩, ⟨(some 57), none, .app 1 24 (.t 50) (.t 56)⟩, ⟨(some 8), none, .mv (.t 57)⟩]) (.reg [⟨(some 58), none, .mv (.t 8)⟩, ⟨(some 59), none, .mv (.t 1)⟩, ⟨(some 60), none, .fa 1 (.t 10)⟩, ⟨(some 61), none, .load false 1 (.t 60)⟩, ⟨(some 62), none, .call (.c (.fn K.probateref08_token [] [])) [(.t 59), (.t 61)]⟩, ⟨(some 63), none, .bsl 1 false [(.sl 0 1 [])] 1 [(0, (.t 62))]⟩, ⟨(some 64), none, .app 1 24 (.t 58) (.t 63)⟩, ⟨(some 8), none, .mv (.t 64)⟩])))))))
  (.keep [1, 2, 5, 6, 7, 8, 9] (.reg [⟨(some 37), none, .mv (.t 9)⟩, ⟨(some 38), none, .bin .add (.t 37) (.c (.int .i64 (1)))⟩, ⟨(some 9), none, .mv (.t 38)⟩]))))) [1, 2, 5, 6, 7, 8, 9]
def A.probateref08_Spans.L4 : AC := .post (.seq (.seq (.reg [⟨(some 77), none, .mv (.t 13)⟩, ⟨(some 78), none, .mv (.t 1)⟩, ⟨(some 79), none, .len false (.t 78)⟩, ⟨(some 80), none, .bin .leq (.t 77) (.t 79)⟩])
  (.keep [1, 2, 5, 6, 7, 8, 11, 12, 13, 80] (.cond (.t 80) .skip (.exit 8))))
  (.keep [1, 2, 5, 6, 7, 8, 11, 12, 13] (.seq (.block 9 (.seq (.reg [⟨(some 83), none, .mv (.t 12)⟩, ⟨(some 84), none, .mv (.t 13)⟩, ⟨(some 85), none, .ia 1 (.t 83) (.t 84)⟩, ⟨(some 86), none, .load false 1 (.t 85)⟩, ⟨(some 87), none, .mv (.t 86)⟩, ⟨(some 88), (some (87, true)), .mv (.t 5)⟩, ⟨(some 89), (some (87, true)), .fa 3 (.t 2)⟩, ⟨(some 90), (some (87, true)), .load false 1 (.t 89)⟩, ⟨(some 91), (some (87, true)), .mv (.t 7)⟩, ⟨(some 92), (some (87, true)), .ia 2 (.t 90) (.t 91)⟩, ⟨(some 93), (some (87, true)), .fa 0 (.t 92)⟩, ⟨(some 94), (some (87, true)), .load false 1 (.t 93)⟩, ⟨(some 95), (some (87, true)), .ia 1 (.t 88) (.t 94)⟩, ⟨(some 96), (some (87, true)), .load false 1 (.t 95)⟩, ⟨(some 97), (some (87, true)), .mv (.t 11)⟩, ⟨(some 98), (some (87, true)), .ia 1 (.t 96) (.t 97)⟩, ⟨(some 99), (some (87, true)), .load false 1 (.t 98)⟩, ⟨(some 100), (some (87, true)), .mv (.t 13)⟩, ⟨(some 101), (some (87, true)), .ia 1 (.t 99) (.t 100)⟩, ⟨(some 102), (some (87, true)), .load false 1 (.t 101)⟩, ⟨(some 103), (some (87, true)), .un .not (.t 102)⟩, ⟨(some 104), none, .pick (.t 87) (.t 103) (.c (.bool false))⟩])
  (.keep [1, 2, 5, 6, 7, 8, 11, 12, 13, 104] (.cond (.t 104) (.seq (.reg [⟨(some 105), none, .mv (.t 5)⟩, ⟨(some 106), none, .fa 3 (.t 2)⟩, ⟨(some 107), none, .load false 1 (.t 106)⟩, ⟨(some 108), none, .mv (.t 7)⟩, ⟨(some 109), none, .ia 2 (.t 107) (.t 108)⟩, ⟨(some 110), none, .fa 0 (.t 109)⟩, ⟨(some 111), none, .load false 1 (.t 110)⟩, ⟨(some 112), none, .ia 1 (.t 105) (.t 111)⟩, ⟨(some 113), none, .load false 1 (.t 112)⟩, ⟨(some 114), none, .mv (.t 11)⟩, ⟨(some 115), none, .ia 1 (.t 113) (.t 114)⟩, ⟨(some 116), none, .load false 1 (.t 115)⟩, ⟨(some 117), none, .mv (.t 13)⟩, ⟨(some 118), none, .ia 1 (.t 116) (.t 117)⟩, ⟨none, none, .store 1 (.t 118) (.c (.bool true))⟩])
  (.keep [1, 2, 5, 7, 8, 11, 12, 13] (.reg [⟨(some 6), none, .mv (.c (.bool true))⟩]))) .skip))))
  (.keep [1, 2, 5, 6, 7, 8, 11, 12, 13] (.reg [⟨(some 81), none, .mv (.t 13)⟩, ⟨(some 82), none, .bin .add (.t 81) (.c (.int .i64 (1)))⟩, ⟨(some 13), none, .mv (.t 82)⟩]))))) [1, 2, 5, 6, 7, 8, 11, 12, 13]
def A.probateref08_Spans.L3 : AC := .post (.seq (.seq (.reg [⟨(some 65), none, .mv (.t 11)⟩, ⟨(some 66), none, .mv (.t 1)⟩, ⟨(some 67), none, .len false (.t 66)⟩, ⟨(some 68), none, .bin .leq (.t 65) (.t 67)⟩])
  (.keep [1, 2, 5, 6, 7, 8, 11, 68] (.cond (.t 68) .skip (.exit 6))))
  (.keep [1, 2, 5, 6, 7, 8, 11] (.seq (.block 7 (.seq (.reg [⟨(some 71), none, .mv (.t 8)⟩, ⟨(some 72), none, .mv (.t 11)⟩, ⟨(some 73), none, .mv (.t 1)⟩, ⟨(some 74), none, .len false (.t 73)⟩, ⟨(some 75), none, .call (.c (.fn K.probateref08_row [] [])) [(.t 71), (.t 72), (.t 74)]⟩, ⟨(some 12), none, .mv (.t 75)⟩])
  (.keep [1, 2, 5, 6, 7, 8, 11, 12] (.seq (.reg [⟨(some 76), none, .mv (.t 11)⟩, ⟨(some 13), none, .mv (.t 76)⟩])
  (.keep [1, 2, 5, 6, 7, 8, 11, 12, 13] (.block 8 (.loop A.probateref08_Spans.L4)))))))
  (.keep [1, 2, 5, 6, 7, 8, 11] (.reg [⟨(some 69), none, .mv (.t 11)⟩, ⟨(some 70), none, .bin .add (.t 69) (.c (.int .i64 (1)))⟩, ⟨(some 11), none, .mv (.t 70)⟩]))))) [1, 2, 5, 6, 7, 8, 11]
def A.probateref08_Spans.L1 : AC := .post (.seq (.seq (.reg [⟨(some 20), none, .mv (.t 7)⟩, ⟨(some 21), none, .fa 3 (.t 2)⟩, ⟨(some 22), none, .load false 1 (.t 21)⟩, ⟨(some 23), none, .len false (.t 22)⟩, ⟨(some 24), none, .bin .lss (.t 20) (.t 23)⟩])
  (.keep [1, 2, 5, 6, 7, 24] (.cond (.t 24) .skip (.exit 2))))
  (.keep [1, 2, 5, 6, 7] (.seq (.block 3 (.seq (.reg [⟨(some 27), none, .bsl 1 false [(.sl 0 1 [])] 0 []⟩, ⟨(some 8), none, .mv (.t 27)⟩])
  (.keep [1, 2, 5, 6, 7, 8] (.seq (.seq (.reg [⟨(some 9), none, .mv (.c (.int .i64 (0)))⟩])
  (.keep [1, 2, 5, 6, 7, 8, 9] (.block 4 (.loop A.probateref08_Spans.L2))))
  (.keep [1, 2, 5, 6, 7, 8] (.seq (.reg [⟨(some 11), none, .mv (.c (.int .i64 (0)))⟩])
  (.keep [1, 2, 5, 6, 7, 8, 11] (.block 6 (.loop A.probateref08_Spans.L3)))))))))
  (.keep [1, 2, 5, 6, 7] (.reg [⟨(some 25), none, .mv (.t 7)⟩, ⟨(some 26), none, .bin .add (.t 25) (.c (.int .i64 (1)))⟩, ⟨(some 7), none, .mv (.t 26)⟩]))))) [1, 2, 5, 6, 7]
def A.probateref08_Spans.L0 : AC := .post (.seq (.seq (.reg [⟨(some 19), none, .mv (.t 6)⟩])
  (.keep [1, 2, 5, 19] (.cond (.t 19) .skip (.exit 0))))
  (.keep [1, 2, 5] (.block 1 (.seq (.reg [⟨(some 6), none, .mv (.c (.bool false))⟩])
  (.keep [1, 2, 5, 6] (.seq (.reg [⟨(some 7), none, .mv (.c (.int .i64 (0)))⟩])
  (.keep [1, 2, 5, 6, 7] (.block 2 (.loop A.probateref08_Spans.L1))))))))) [1, 2, 5, 6]
def A.probateref08_Spans : AFn := ⟨120, [(4, none)], (.seq (.reg [⟨(some 2), none, .box (.t 0)⟩, ⟨(some 4), none, .mv (.c (.sl 0 1 []))⟩])
  (.keep [1, 2] (.seq (.reg [⟨(some 14), none, .fa 1 (.t 2)⟩, ⟨(some 15), none, .load false 1 (.t 14)⟩, ⟨(some 16), none, .mv (.t 1)⟩, ⟨(some 17), none, .len false (.t 16)⟩, ⟨(some 18), none, .call (.c (.fn K.probateref08_none [] [])) [(.t 15), (.t 17)]⟩, ⟨(some 5), none, .mv (.t 18)⟩])
  (.keep [1, 2, 5] (.seq (.seq (.reg [⟨(some 6), none, .mv (.c (.bool true))⟩])
  (.keep [1, 2, 5, 6] (.block 0 (.loop A.probateref08_Spans.L0))))
  (.keep [5] (.seq (.reg [⟨(some 119), none, .mv (.t 5)⟩, ⟨(some 4), none, .mv (.t 119)⟩]) .ret)))))))⟩
def A.probateref08_Terms.L0 : AC := .post (.seq (.seq (.reg [⟨(some 6), none, .mv (.t 4)⟩, ⟨(some 7), none, .fa 1 (.t 1)⟩, ⟨(some 8), none, .load false 1 (.t 7)⟩, ⟨(some 9), none, .len false (.t 8)⟩, ⟨(some 10), none, .bin .lss (.t 6) (.t 9)⟩])
  (.keep [1, 3, 4, 10] (.cond (.t 10) .skip (.exit 0))))
  (.keep [1, 3, 4] (.seq (.block 1 (.seq (.reg [⟨(some 13), none, .fa 1 (.t 1)⟩, ⟨(some 14), none, .load false 1 (.t 13)⟩, ⟨(some 15), none, .mv (.t 4)⟩, ⟨(some 16), none, .ia 3 (.t 14) (.t 15)⟩, ⟨(some 17), none, .fa 0 (.t 16)⟩, ⟨(some 18), none, .load false 1 (.t 17)⟩, ⟨(some 19), none, .bin .eql (.t 18) (.c (.int .i64 (7)))⟩, ⟨(some 20), none, .mv (.t 19)⟩, ⟨(some 21), (some (20, true)), .mv (.t 3)⟩, ⟨(some 22), (some (20, true)), .fa 1 (.t 1)⟩, ⟨(some 23), (some (20, true)), .load false 1 (.t 22)⟩, ⟨(some 24), (some (20, true)), .mv (.t 4)⟩, ⟨(some 25), (some (20, true)), .ia 3 (.t 23) (.t 24)⟩, ⟨(some 26), (some (20, true)), .fa 1 (.t 25)⟩, ⟨(some 27), (some (20, true)), .load false 1 (.t 26)⟩, ⟨(some 28), (some (20, true)), .call (.c (.fn K.probateref08_place [] [])) [(.t 21), (.t 27)]⟩, ⟨(some 29), (some (20, true)), .bin .lss (.t 28) (.c (.int .i64 (0)))⟩, ⟨(some 30), none, .pick (.t 20) (.t 29) (.c (.bool false))⟩])
  (.keep [1, 3, 4, 30] (.cond (.t 30) (.reg [⟨(some 31), none, .mv (.t 3)⟩, ⟨(some 32), none, .fa 1 (.t 1)⟩, ⟨(some 33), none, .load false 1 (.t 32)⟩, ⟨(some 34), none, .mv (.t 4)⟩, ⟨(some 35), none, .ia 3 (.t 33) (.t 34)⟩, ⟨(some 36), none, .fa 1 (.t 35)⟩, ⟨(some 37), none, .load false 1 (.t 36)⟩, ⟨(some 38), none, .bsl 1 false [(.str [])] 1 [(0, (.t 37))]⟩, ⟨(some 39), none, .app 1 16 (.t 31) (.t 38)⟩, ⟨(some 3), none, .mv (.t 39)⟩]) .skip))))
  (.keep [1, 3, 4] (.reg [⟨(some 11), none, .mv (.t 4)⟩, ⟨(some 12), none, .bin .add (.t 11) (.c (.int .i64 (1)))⟩, ⟨(some 4), none, .mv (.t 12)⟩]))))) [1, 3, 4]
def A.probateref08_Terms : AFn := ⟨41, [(2, none)], (.seq (.reg [⟨(some 1), none, .box (.t 0)⟩, ⟨(some 2), none, .mv (.c (.sl 0 1 []))⟩])
  (.keep [1] (.seq (.reg [⟨(some 5), none, .bsl 1 false [(.str [])] 0 []⟩, ⟨(some 3), none, .mv (.t 5)⟩])
  (.keep [1, 3] (.seq (.seq (.reg [⟨(some 4), none, .mv (.c (.int .i64 (0)))⟩])
  (.keep [1, 3, 4] (.block 0 (.loop A.probateref08_Terms.L0))))
  (.keep [3] (.seq (.reg [⟨(some 40), none, .mv (.t 3)⟩, ⟨(some 2), none, .mv (.t 40)⟩]) .ret)))))))⟩
def A.probateref08_own.L1 : AC := .post (.seq (.seq (.reg [⟨(some 26), none, .mv (.t 8)⟩, ⟨(some 27), none, .fa 0 (.t 2)⟩, ⟨(some 28), none, .load false 1 (.t 27)⟩, ⟨(some 29), none, .len false (.t 28)⟩, ⟨(some 30), none, .bin .lss (.t 26) (.t 29)⟩])
  (.keep [1, 2, 5, 6, 7, 8, 30] (.cond (.t 30) .skip (.exit 2))))
  (.keep [1, 2, 5, 6, 7, 8] (.seq (.block 3 (.reg [⟨(some 33), none, .mv (.t 7)⟩, ⟨(some 34), none, .mv (.t 33)⟩, ⟨(some 35), (some (34, true)), .fa 0 (.t 2)⟩, ⟨(some 36), (some (34, true)), .load false 1 (.t 35)⟩, ⟨(some 37), (some (34, true)), .mv (.t 8)⟩, ⟨(some 38), (some (34, true)), .ia 2 (.t 36) (.t 37)⟩, ⟨(some 39), (some (34, true)), .fa 1 (.t 38)⟩, ⟨(some 40), (some (34, true)), .load false 1 (.t 39)⟩, ⟨(some 41), (some (34, true)), .mv (.t 6)⟩, ⟨(some 42), (some (34, true)), .bin .neq (.t 40) (.t 41)⟩, ⟨(some 43), none, .pick (.t 34) (.t 42) (.c (.bool false))⟩, ⟨(some 7), none, .mv (.t 43)⟩]))
  (.keep [1, 2, 5, 6, 7, 8] (.reg [⟨(some 31), none, .mv (.t 8)⟩, ⟨(some 32), none, .bin .add (.t 31) (.c (.int .i64 (1)))⟩, ⟨(some 8), none, .mv (.t 32)⟩]))))) [1, 2, 5, 6, 7, 8]
def A.probateref08_own.L3 : AC := .post (.seq (.seq (.reg [⟨(some 51), none, .mv (.t 10)⟩, ⟨(some 52), none, .fa 1 (.t 2)⟩, ⟨(some 53), none, .load false 1 (.t 52)⟩, ⟨(some 54), none, .mv (.t 9)⟩, ⟨(some 55), none, .ia 3 (.t 53) (.t 54)⟩, ⟨(some 56), none, .fa 2 (.t 55)⟩, ⟨(some 57), none, .load false 1 (.t 56)⟩, ⟨(some 58), none, .len false (.t 57)⟩, ⟨(some 59), none, .bin .lss (.t 51) (.t 58)⟩])
  (.keep [1, 2, 5, 6, 7, 9, 10, 59] (.cond (.t 59) .skip (.exit 6))))
  (.keep [1, 2, 5, 6, 7, 9, 10] (.seq (.block 7 (.seq (.reg [⟨(some 62), none, .fa 1 (.t 2)⟩, ⟨(some 63), none, .load false 1 (.t 62)⟩, ⟨(some 64), none, .mv (.t 9)⟩, ⟨(some 65), none, .ia 3 (.t 63) (.t 64)⟩, ⟨(some 66), none, .fa 0 (.t 65)⟩, ⟨(some 67), none, .load false 1 (.t 66)⟩, ⟨(some 68), none, .bin .eql (.t 67) (.c (.int .i64 (2)))⟩, ⟨(some 69), none, .mv (.t 68)⟩, ⟨(some 70), (some (69, true)), .fa 1 (.t 2)⟩, ⟨(some 71), (some (69, true)), .load false 1 (.t 70)⟩, ⟨(some 72), (some (69, true)), .mv (.t 9)⟩, ⟨(some 73), (some (69, true)), .ia 3 (.t 71) (.t 72)⟩, ⟨(some 74), (some (69, true)), .fa 2 (.t 73)⟩, ⟨(some 75), (some (69, true)), .load false 1 (.t 74)⟩, ⟨(some 76), (some (69, true)), .mv (.t 10)⟩, ⟨(some 77), (some (69, true)), .ia 1 (.t 75) (.t 76)⟩, ⟨(some 78), (some (69, true)), .load false 1 (.t 77)⟩, ⟨(some 79), (some (69, true)), .mv (.t 6)⟩, ⟨(some 80), (some (69, true)), .bin .eql (.t 78) (.t 79)⟩, ⟨(some 81), none, .pick (.t 69) (.t 80) (.c (.bool false))⟩, ⟨(some 82), none, .mv (.t 81)⟩, ⟨(some 83), (some (82, true)), .fa 1 (.t 2)⟩, ⟨(some 84), (some (82, true)), .load false 1 (.t 83)⟩, ⟨(some 85), (some (82, true)), .mv (.t 6)⟩, ⟨(some 86), (some (82, true)), .ia 3 (.t 84) (.t 85)⟩, ⟨(some 87), (some (82, true)), .fa 0 (.t 86)⟩, ⟨(some 88), (some (82, true)), .load false 1 (.t 87)⟩, ⟨(some 89), (some (82, true)), .bin .eql (.t 88) (.c (.int .i64 (1)))⟩, ⟨(some 90), none, .pick (.t 82) (.t 89) (.c (.bool false))⟩])
  (.keep [1, 2, 5, 6, 7, 9, 10, 90] (.cond (.t 90) (.reg [⟨(some 7), none, .mv (.c (.bool false))⟩]) .skip))))
  (.keep [1, 2, 5, 6, 7, 9, 10] (.reg [⟨(some 60), none, .mv (.t 10)⟩, ⟨(some 61), none, .bin .add (.t 60) (.c (.int .i64 (1)))⟩, ⟨(some 10), none, .mv (.t 61)⟩]))))) [1, 2, 5, 6, 7, 9, 10]
def A.probateref08_own.L2 : AC := .post (.seq (.seq (.reg [⟨(some 44), none, .mv (.t 9)⟩, ⟨(some 45), none, .fa 1 (.t 2)⟩, ⟨(some 46), none, .load false 1 (.t 45)⟩, ⟨(some 47), none, .len false (.t 46)⟩, ⟨(some 48), none, .bin .lss (.t 44) (.t 47)⟩])
  (.keep [1, 2, 5, 6, 7, 9, 48] (.cond (.t 48) .skip (.exit 4))))
  (.keep [1, 2, 5, 6, 7, 9] (.seq (.block 5 (.seq (.reg [⟨(some 10), none, .mv (.c (.int .i64 (0)))⟩])
  (.keep [1, 2, 5, 6, 7, 9, 10] (.block 6 (.loop A.probateref08_own.L3)))))
  (.keep [1, 2, 5, 6, 7, 9] (.reg [⟨(some 49), none, .mv (.t 9)⟩, ⟨(some 50), none, .bin .add (.t 49) (.c (.int .i64 (1)))⟩, ⟨(some 9), none, .mv (.t 50)⟩]))))) [1, 2, 5, 6, 7, 9]
def A.probateref08_own.L0 : AC := .post (.seq (.seq (.reg [⟨(some 14), none, .mv (.t 6)⟩, ⟨(some 15), none, .mv (.t 1)⟩, ⟨(some 16), none, .bin .leq (.t 14) (.t 15)⟩])
  (.keep [1, 2, 5, 6, 16] (.cond (.t 16) .skip (.exit 0))))
  (.keep [1, 2, 5, 6] (.seq (.block 1 (.seq (.reg [⟨(some 19), none, .fa 1 (.t 2)⟩, ⟨(some 20), none, .load false 1 (.t 19)⟩, ⟨(some 21), none, .mv (.t 6)⟩, ⟨(some 22), none, .ia 3 (.t 20) (.t 21)⟩, ⟨(some 23), none, .fa 0 (.t 22)⟩, ⟨(some 24), none, .load false 1 (.t 23)⟩, ⟨(some 25), none, .bin .leq (.t 24) (.c (.int .i64 (5)))⟩, ⟨(some 7), none, .mv (.t 25)⟩])
  (.keep [1, 2, 5, 6, 7] (.seq (.seq (.reg [⟨(some 8), none, .mv (.c (.int .i64 (0)))⟩])
  (.keep [1, 2, 5, 6, 7, 8] (.block 2 (.loop A.probateref08_own.L1))))
  (.keep [1, 2, 5, 6, 7] (.seq (.seq (.reg [⟨(some 9), none, .mv (.c (.int .i64 (0)))⟩])
  (.keep [1, 2, 5, 6, 7, 9] (.block 4 (.loop A.probateref08_own.L2))))
  (.keep [1, 2, 5, 6, 7] (.seq (.seq (.reg [⟨(some 91), none, .mv (.t 7)⟩, ⟨(some 92), none, .mv (.t 91)⟩, ⟨(some 93), (some (92, true)), .mv (.t 6)⟩, ⟨(some 94), (some (92, true)), .mv (.t 1)⟩, ⟨(some 95), (some (92, true)), .bin .eql (.t 93) (.t 94)⟩, ⟨(some 96), none, .pick (.t 92) (.t 95) (.c (.bool false))⟩])
  (.keep [1, 2, 5, 6, 7, 96] (.cond (.t 96) (.seq (.reg [⟨(some 97), none, .mv (.t 5)⟩, ⟨(some 4), none, .mv (.t 97)⟩]) .ret) .skip)))
  (.keep [1, 2, 5, 6, 7] (.seq (.reg [⟨(some 98), none, .mv (.t 7)⟩])
  (.keep [1, 2, 5, 6, 98] (.cond (.t 98) (.reg [⟨(some 99), none, .mv (.t 5)⟩, ⟨(some 100), none, .bin .add (.t 99) (.c (.int .i64 (1)))⟩, ⟨(some 5), none, .mv (.t 100)⟩]) .skip))))))))))))
  (.keep [1, 2, 5, 6] (.reg [⟨(some 17), none, .mv (.t 6)⟩, ⟨(some 18), none, .bin .add (.t 17) (.c (.int .i64 (1)))⟩, ⟨(some 6), none, .mv (.t 18)⟩]))))) [1, 2, 5, 6]
def A.probateref08_own : AFn := ⟨101, [(4, none)], (.seq (.reg [⟨(some 2), none, .box (.t 0)⟩, ⟨(some 4), none, .mv (.c (.int .i64 (0)))⟩])
  (.keep [1, 2] (.seq (.reg [⟨(some 11), none, .fa 0 (.t 2)⟩, ⟨(some 12), none, .load false 1 (.t 11)⟩, ⟨(some 13), none, .len false (.t 12)⟩, ⟨(some 5), none, .mv (.t 13)⟩])
  (.keep [1, 2, 5] (.seq (.seq (.reg [⟨(some 6), none, .mv (.c (.int .i64 (0)))⟩])
  (.keep [1, 2, 5, 6] (.block 0 (.loop A.probateref08_own.L0))))
  (.keep [] (.seq (.reg [⟨(some 4), none, .mv (.c (.int .i64 (-1)))⟩]) .ret)))))))⟩
def A.probateref08_token.L0 : AC := .post (.seq (.seq (.reg [⟨(some 12), none, .mv (.t 6)⟩, ⟨(some 13), none, .mv (.t 0)⟩, ⟨(some 14), none, .len false (.t 13)⟩, ⟨(some 15), none, .bin .lss (.t 12) (.t 14)⟩])
  (.keep [0, 1, 5, 6, 15] (.cond (.t 15) .skip (.exit 0))))
  (.keep [0, 1, 5, 6] (.seq (.block 1 (.draw [(.pl, ⟨(some 18), none, .mv (.t 5)⟩), (.pl, ⟨(some 19), none, .mv (.t 6)⟩), (.pl, ⟨(some 20), none, .ia 1 (.t 18) (.t 19)⟩), (.pl, ⟨(some 21), none, .load false 1 (.t 20)⟩), (.pl, ⟨(some 22), none, .mv (.t 6)⟩), (.pl, ⟨(some 23), none, .bin .add (.t 22) (.c (.int .i64 (1)))⟩), (.pl, ⟨(some 24), none, .mv (.t 0)⟩), (.pl, ⟨(some 25), none, .mv (.t 6)⟩), (.pl, ⟨(some 26), none, .ia 1 (.t 24) (.t 25)⟩), (.pl, ⟨(some 27), none, .load false 1 (.t 26)⟩), (.pl, ⟨(some 28), none, .mv (.t 1)⟩), (.pl, ⟨(some 29), none, .bin .eql (.t 27) (.t 28)⟩), (.pl, ⟨(some 30), none, .ia 1 (.t 21) (.t 23)⟩), (.eff, ⟨none, none, .store 1 (.t 30) (.t 29)⟩)]))
  (.keep [0, 1, 5, 6] (.reg [⟨(some 16), none, .mv (.t 6)⟩, ⟨(some 17), none, .bin .add (.t 16) (.c (.int .i64 (1)))⟩, ⟨(some 6), none, .mv (.t 17)⟩]))))) [0, 1, 5, 6]
def A.probateref08_token : AFn := ⟨32, [(4, none)], (.seq (.reg [⟨(some 4), none, .mv (.c (.sl 0 1 []))⟩])
  (.keep [0, 1] (.seq (.reg [⟨(some 7), none, .mv (.t 0)⟩, ⟨(some 8), none, .len false (.t 7)⟩, ⟨(some 9), none, .call (.c (.fn K.probateref08_none [] [])) [(.c (.int .i64 (1))), (.t 8)]⟩, ⟨(some 10), none, .ia 1 (.t 9) (.c (.int .i64 (0)))⟩, ⟨(some 11), none, .load false 1 (.t 10)⟩, ⟨(some 5), none, .mv (.t 11)⟩])
  (.keep [0, 1, 5] (.seq (.seq (.reg [⟨(some 6), none, .mv (.c (.int .i64 (0)))⟩])
  (.keep [0, 1, 5, 6] (.block 0 (.loop A.probateref08_token.L0))))
  (.keep [5] (.seq (.reg [⟨(some 31), none, .mv (.t 5)⟩, ⟨(some 4), none, .mv (.t 31)⟩]) .ret)))))))⟩
def A.probateref08_place.L0 : AC := .post (.seq (.seq (.reg [⟨(some 6), none, .mv (.t 5)⟩, ⟨(some 7), none, .mv (.t 0)⟩, ⟨(some 8), none, .len false (.t 7)⟩, ⟨(some 9), none, .bin .lss (.t 6) (.t 8)⟩])
  (.keep [0, 1, 5, 9] (.cond (.t 9) .skip (.exit 0))))
  (.keep [0, 1, 5] (.seq (.block 1 (.seq (.reg [⟨(some 12), none, .mv (.t 0)⟩, ⟨(some 13), none, .mv (.t 5)⟩, ⟨(some 14), none, .ia 1 (.t 12) (.t 13)⟩, ⟨(some 15), none, .load false 1 (.t 14)⟩, ⟨(some 16), none, .mv (.t 1)⟩, ⟨(some 17), none, .bin .eql (.t 15) (.t 16)⟩])
  (.keep [0, 1, 5, 17] (.cond (.t 17) (.seq (.reg [⟨(some 18), none, .mv (.t 5)⟩, ⟨(some 4), none, .mv (.t 18)⟩]) .ret) .skip))))
  (.keep [0, 1, 5] (.reg [⟨(some 10), none, .mv (.t 5)⟩, ⟨(some 11), none, .bin .add (.t 10) (.c (.int .i64 (1)))⟩, ⟨(some 5), none, .mv (.t 11)⟩]))))) [0, 1, 5]
def A.probateref08_place : AFn := ⟨19, [(4, none)], (.seq (.reg [⟨(some 4), none, .mv (.c (.int .i64 (0)))⟩])
  (.keep [0, 1] (.seq (.seq (.reg [⟨(some 5), none, .mv (.c (.int .i64 (0)))⟩])
  (.keep [0, 1, 5] (.block 0 (.loop A.probateref08_place.L0))))
  (.keep [] (.seq (.reg [⟨(some 4), none, .mv (.c (.int .i64 (-1)))⟩]) .ret)))))⟩
def A.probateref08_symbol : AFn := ⟨32, [(4, (some (true, 2)))], (.seq (.reg [⟨(some 2), none, .box (.t 0)⟩, ⟨(some 4), none, .alloc [(.bool false), (.int .i64 (0))]⟩])
  (.keep [1, 2, 4] (.seq (.reg [⟨(some 6), none, .fa 1 (.t 2)⟩, ⟨(some 7), none, .load false 1 (.t 6)⟩, ⟨(some 8), none, .mv (.t 1)⟩, ⟨(some 9), none, .ia 3 (.t 7) (.t 8)⟩, ⟨(some 10), none, .load true 3 (.t 9)⟩, ⟨(some 5), none, .alloc [(.int .i64 (0)), (.str []), (.sl 0 1 [])]⟩, ⟨none, none, .store 3 (.t 5) (.t 10)⟩])
  (.keep [1, 2, 4, 5] (.seq (.seq (.reg [⟨(some 11), none, .fa 0 (.t 5)⟩, ⟨(some 12), none, .load false 1 (.t 11)⟩, ⟨(some 13), none, .bin .eql (.t 12) (.c (.int .i64 (7)))⟩])
  (.keep [1, 2, 4, 5, 13] (.cond (.t 13) (.seq (.draw [(.pl, ⟨(some 14), none, .load true 2 (.t 2)⟩), (.pl, ⟨(some 15), none, .call (.c (.fn K.probateref08_Terms [] [])) [(.t 14)]⟩), (.pl, ⟨(some 16), none, .fa 1 (.t 5)⟩), (.pl, ⟨(some 17), none, .load false 1 (.t 16)⟩), (.pl, ⟨(some 18), none, .call (.c (.fn K.probateref08_place [] [])) [(.t 15), (.t 17)]⟩), (.pl, ⟨(some 19), none, .bld [(.bool false), (.int .i64 (0))] [(1, 1, (.t 18))]⟩), (.eff, ⟨none, none, .store 2 (.t 4) (.t 19)⟩)]) .ret) .skip)))
  (.keep [1, 2, 4, 5] (.seq (.seq (.reg [⟨(some 20), none, .fa 0 (.t 5)⟩, ⟨(some 21), none, .load false 1 (.t 20)⟩, ⟨(some 22), none, .bin .eql (.t 21) (.c (.int .i64 (6)))⟩])
  (.keep [1, 2, 4, 5, 22] (.cond (.t 22) (.seq (.reg [⟨(some 23), none, .load true 2 (.t 2)⟩, ⟨(some 24), none, .fa 1 (.t 5)⟩, ⟨(some 25), none, .load false 1 (.t 24)⟩, ⟨(some 26), none, .call (.c (.fn K.probateref08_rule [] [])) [(.t 23), (.t 25)]⟩, ⟨(some 27), none, .bld [(.bool false), (.int .i64 (0))] [(0, 1, (.c (.bool true))), (1, 1, (.t 26))]⟩, ⟨none, none, .store 2 (.t 4) (.t 27)⟩]) .ret) .skip)))
  (.keep [1, 2, 4] (.seq (.reg [⟨(some 28), none, .load true 2 (.t 2)⟩, ⟨(some 29), none, .mv (.t 1)⟩, ⟨(some 30), none, .call (.c (.fn K.probateref08_own [] [])) [(.t 28), (.t 29)]⟩, ⟨(some 31), none, .bld [(.bool false), (.int .i64 (0))] [(0, 1, (.c (.bool true))), (1, 1, (.t 30))]⟩, ⟨none, none, .store 2 (.t 4) (.t 31)⟩]) .ret)))))))))⟩
def A.probateref08_symbols.L0 : AC := .post (.seq (.seq (.reg [⟨(some 8), none, .mv (.t 6)⟩, ⟨(some 9), none, .mv (.t 1)⟩, ⟨(some 10), none, .len false (.t 9)⟩, ⟨(some 11), none, .bin .lss (.t 8) (.t 10)⟩])
  (.keep [1, 2, 5, 6, 11] (.cond (.t 11) .skip (.exit 0))))
  (.keep [1, 2, 5, 6] (.seq (.block 1 (.draw [(.pl, ⟨(some 14), none, .mv (.t 5)⟩), (.pl, ⟨(some 15), none, .load true 2 (.t 2)⟩), (.pl, ⟨(some 16), none, .mv (.t 1)⟩), (.pl, ⟨(some 17), none, .mv (.t 6)⟩), (.pl, ⟨(some 18), none, .ia 1 (.t 16) (.t 17)⟩), (.pl, ⟨(some 19), none, .load false 1 (.t 18)⟩), (.pl, ⟨(some 20), none, .call (.c (.fn K.probateref08_symbol [] [])) [(.t 15), (.t 19)]⟩), (.pl, ⟨(some 21), none, .bsl 2 true [(.bool false), (.int .i64 (0))] 1 [(0, (.t 20))]⟩), (.eff, ⟨(some 22), none, .app 2 16 (.t 14) (.t 21)⟩), (.pl, ⟨(some 5), none, .mv (.t 22)⟩)]))
  (.keep [1, 2, 5, 6] (.reg [⟨(some 12), none, .mv (.t 6)⟩, ⟨(some 13), none, .bin .add (.t 12) (.c (.int .i64 (1)))⟩, ⟨(some 6), none, .mv (.t 13)⟩]))))) [1, 2, 5, 6]
def A.probateref08_symbols : AFn := ⟨24, [(4, none)], (.seq (.reg [⟨(some 2), none, .box (.t 0)⟩, ⟨(some 4), none, .mv (.c (.sl 0 1 []))⟩])
  (.keep [1, 2] (.seq (.reg [⟨(some 7), none, .bsl 2 true [(.bool false), (.int .i64 (0))] 0 []⟩, ⟨(some 5), none, .mv (.t 7)⟩])
  (.keep [1, 2, 5] (.seq (.seq (.reg [⟨(some 6), none, .mv (.c (.int .i64 (0)))⟩])
  (.keep [1, 2, 5, 6] (.block 0 (.loop A.probateref08_symbols.L0))))
  (.keep [5] (.seq (.reg [⟨(some 23), none, .mv (.t 5)⟩, ⟨(some 4), none, .mv (.t 23)⟩]) .ret)))))))⟩
def A.probateref08_rule.L0 : AC := .post (.seq (.seq (.reg [⟨(some 6), none, .mv (.t 5)⟩, ⟨(some 7), none, .fa 0 (.t 2)⟩, ⟨(some 8), none, .load false 1 (.t 7)⟩, ⟨(some 9), none, .len false (.t 8)⟩, ⟨(some 10), none, .bin .lss (.t 6) (.t 9)⟩])
  (.keep [1, 2, 5, 10] (.cond (.t 10) .skip (.exit 0))))
  (.keep [1, 2, 5] (.seq (.block 1 (.seq (.reg [⟨(some 13), none, .fa 0 (.t 2)⟩, ⟨(some 14), none, .load false 1 (.t 13)⟩, ⟨(some 15), none, .mv (.t 5)⟩, ⟨(some 16), none, .ia 2 (.t 14) (.t 15)⟩, ⟨(some 17), none, .fa 0 (.t 16)⟩, ⟨(some 18), none, .load false 1 (.t 17)⟩, ⟨(some 19), none, .mv (.t 1)⟩, ⟨(some 20), none, .bin .eql (.t 18) (.t 19)⟩])
  (.keep [1, 2, 5, 20] (.cond (.t 20) (.seq (.reg [⟨(some 21), none, .mv (.t 5)⟩, ⟨(some 4), none, .mv (.t 21)⟩]) .ret) .skip))))
  (.keep [1, 2, 5] (.reg [⟨(some 11), none, .mv (.t 5)⟩, ⟨(some 12), none, .bin .add (.t 11) (.c (.int .i64 (1)))⟩, ⟨(some 5), none, .mv (.t 12)⟩]))))) [1, 2, 5]
def A.probateref08_rule : AFn := ⟨22, [(4, none)], (.seq (.reg [⟨(some 2), none, .box (.t 0)⟩, ⟨(some 4), none, .mv (.c (.int .i64 (0)))⟩])
  (.keep [1, 2] (.seq (.seq (.reg [⟨(some 5), none, .mv (.c (.int .i64 (0)))⟩])
  (.keep [1, 2, 5] (.block 0 (.loop A.probateref08_rule.L0))))
  (.keep [] (.seq (.reg [⟨(some 4), none, .mv (.c (.int .i64 (-1)))⟩]) .ret)))))⟩
def A.probateref08_stars.L0 : AC := .post (.seq (.seq (.reg [⟨(some 8), none, .mv (.t 6)⟩, ⟨(some 9), none, .mv (.t 1)⟩, ⟨(some 10), none, .bin .leq (.t 8) (.t 9)⟩])
  (.keep [0, 1, 5, 6, 10] (.cond (.t 10) .skip (.exit 0))))
  (.keep [0, 1, 5, 6] (.seq (.block 1 (.reg [⟨(some 13), none, .mv (.t 5)⟩, ⟨(some 14), none, .mv (.t 0)⟩, ⟨(some 15), none, .mv (.t 6)⟩, ⟨(some 16), none, .mv (.t 1)⟩, ⟨(some 17), none, .call (.c (.fn K.probateref08_star [] [])) [(.t 14), (.t 15), (.t 16)]⟩, ⟨(some 18), none, .bsl 1 false [(.sl 0 1 [])] 1 [(0, (.t 17))]⟩, ⟨(some 19), none, .app 1 24 (.t 13) (.t 18)⟩, ⟨(some 5), none, .mv (.t 19)⟩]))
  (.keep [0, 1, 5, 6] (.reg [⟨(some 11), none, .mv (.t 6)⟩, ⟨(some 12), none, .bin .add (.t 11) (.c (.int .i64 (1)))⟩, ⟨(some 6), none, .mv (.t 12)⟩]))))) [0, 1, 5, 6]
def A.probateref08_stars : AFn := ⟨21, [(4, none)], (.seq (.reg [⟨(some 4), none, .mv (.c (.sl 0 1 []))⟩])
  (.keep [0, 1] (.seq (.reg [⟨(some 7), none, .bsl 1 false [(.sl 0 1 [])] 0 []⟩, ⟨(some 5), none, .mv (.t 7)⟩])
  (.keep [0, 1, 5] (.seq (.seq (.reg [⟨(some 6), none, .mv (.c (.int .i64 (0)))⟩])
  (.keep [0, 1, 5, 6] (.block 0 (.loop A.probateref08_stars.L0))))
  (.keep [5] (.seq (.reg [⟨(some 20), none, .mv (.t 5)⟩, ⟨(some 4), none, .mv (.t 20)⟩]) .ret)))))))⟩
def A.probateref08_Lower.L0 : AC := .post (.seq (.seq (.reg [⟨(some 20), none, .mv (.t 6)⟩, ⟨(some 21), none, .fa 0 (.t 1)⟩, ⟨(some 22), none, .load false 1 (.t 21)⟩, ⟨(some 23), none, .len false (.t 22)⟩, ⟨(some 24), none, .bin .lss (.t 20) (.t 23)⟩])
  (.keep [1, 2, 5, 6, 24] (.cond (.t 24) .skip (.exit 0))))
  (.keep [1, 2, 5, 6] (.seq (.block 1 (.draw [(.pl, ⟨(some 27), none, .fa 3 (.t 5)⟩), (.pl, ⟨(some 28), none, .load false 1 (.t 27)⟩), (.pl, ⟨(some 29), none, .load true 2 (.t 1)⟩), (.pl, ⟨(some 30), none, .fa 0 (.t 1)⟩), (.pl, ⟨(some 31), none, .load false 1 (.t 30)⟩), (.pl, ⟨(some 32), none, .mv (.t 6)⟩), (.pl, ⟨(some 33), none, .ia 2 (.t 31) (.t 32)⟩), (.pl, ⟨(some 34), none, .fa 1 (.t 33)⟩), (.pl, ⟨(some 35), none, .load false 1 (.t 34)⟩), (.pl, ⟨(some 36), none, .mv (.t 6)⟩), (.pl, ⟨(some 37), none, .call (.c (.fn K.probateref08_prods [] [])) [(.t 29), (.t 35), (.t 36)]⟩), (.eff, ⟨(some 38), none, .app 2 32 (.t 28) (.t 37)⟩), (.pl, ⟨(some 39), none, .fa 3 (.t 5)⟩), (.eff, ⟨none, none, .store 1 (.t 39) (.t 38)⟩)]))
  (.keep [1, 2, 5, 6] (.reg [⟨(some 25), none, .mv (.t 6)⟩, ⟨(some 26), none, .bin .add (.t 25) (.c (.int .i64 (1)))⟩, ⟨(some 6), none, .mv (.t 26)⟩]))))) [1, 2, 5, 6]
def A.probateref08_Lower.L1 : AC := .post (.seq (.seq (.reg [⟨(some 40), none, .mv (.t 7)⟩, ⟨(some 41), none, .fa 1 (.t 1)⟩, ⟨(some 42), none, .load false 1 (.t 41)⟩, ⟨(some 43), none, .len false (.t 42)⟩, ⟨(some 44), none, .bin .lss (.t 40) (.t 43)⟩])
  (.keep [1, 2, 5, 7, 44] (.cond (.t 44) .skip (.exit 2))))
  (.keep [1, 2, 5, 7] (.seq (.block 3 (.seq (.reg [⟨(some 47), none, .load true 2 (.t 1)⟩, ⟨(some 48), none, .mv (.t 7)⟩, ⟨(some 49), none, .call (.c (.fn K.probateref08_own [] [])) [(.t 47), (.t 48)]⟩, ⟨(some 8), none, .mv (.t 49)⟩])
  (.keep [1, 2, 5, 7, 8] (.seq (.reg [⟨(some 50), none, .mv (.t 8)⟩, ⟨(some 51), none, .bin .geq (.t 50) (.c (.int .i64 (0)))⟩])
  (.keep [1, 2, 5, 7, 8, 51] (.cond (.t 51) (.seq (.reg [⟨(some 52), none, .fa 1 (.t 5)⟩, ⟨(some 53), none, .load false 1 (.t 52)⟩, ⟨(some 54), none, .bin .add (.t 53) (.c (.int .i64 (1)))⟩, ⟨(some 55), none, .fa 1 (.t 5)⟩, ⟨none, none, .store 1 (.t 55) (.t 54)⟩])
  (.keep [1, 2, 5, 7, 8] (.draw [(.pl, ⟨(some 56), none, .fa 3 (.t 5)⟩), (.pl, ⟨(some 57), none, .load false 1 (.t 56)⟩), (.pl, ⟨(some 58), none, .load true 2 (.t 1)⟩), (.pl, ⟨(some 59), none, .mv (.t 7)⟩), (.pl, ⟨(some 60), none, .mv (.t 8)⟩), (.pl, ⟨(some 61), none, .call (.c (.fn K.probateref08_prods [] [])) [(.t 58), (.t 59), (.t 60)]⟩), (.eff, ⟨(some 62), none, .app 2 32 (.t 57) (.t 61)⟩), (.pl, ⟨(some 63), none, .fa 3 (.t 5)⟩), (.eff, ⟨none, none, .store 1 (.t 63) (.t 62)⟩)]))) .skip))))))
  (.keep [1, 2, 5, 7] (.reg [⟨(some 45), none, .mv (.t 7)⟩, ⟨(some 46), none, .bin .add (.t 45) (.c (.int .i64 (1)))⟩, ⟨(some 7), none, .mv (.t 46)⟩]))))) [1, 2, 5, 7]
def A.probateref08_Lower : AFn := ⟨71, [(2, (some (true, 4))), (3, none), (4, none)], (.seq (.reg [⟨(some 1), none, .box (.t 0)⟩, ⟨(some 2), none, .alloc [(.int .i64 (0)), (.int .i64 (0)), (.int .i64 (0)), (.sl 0 1 [])]⟩, ⟨(some 3), none, .mv (.c (.sl 0 1 []))⟩, ⟨(some 4), none, .mv (.c (.int .i64 (0)))⟩])
  (.keep [1, 2] (.seq (.seq (.reg [⟨(some 9), none, .load true 2 (.t 1)⟩, ⟨(some 10), none, .call (.c (.fn K.probateref06_Right [] [])) [(.t 9)]⟩, ⟨(some 11), none, .un .not (.t 10)⟩])
  (.keep [1, 2, 11] (.cond (.t 11) (.seq (.reg [⟨(some 12), none, .bld [(.int .i64 (0)), (.int .i64 (0)), (.int .i64 (0)), (.sl 0 1 [])] []⟩, ⟨none, none, .store 4 (.t 2) (.t 12)⟩, ⟨(some 3), none, .mv (.c (.sl 0 1 []))⟩, ⟨(some 4), none, .mv (.c (.int .i64 (1)))⟩]) .ret) .skip)))
  (.keep [1, 2] (.seq (.draw [(.fl, ⟨(some 13), none, .load true 2 (.t 1)⟩), (.fl, ⟨(some 14), none, .call (.c (.fn K.probateref08_Terms [] [])) [(.t 13)]⟩), (.pl, ⟨(some 15), none, .len false (.t 14)⟩), (.pl, ⟨(some 16), none, .fa 0 (.t 1)⟩), (.fl, ⟨(some 17), none, .load false 1 (.t 16)⟩), (.pl, ⟨(some 18), none, .len false (.t 17)⟩), (.pl, ⟨(some 19), none, .bld [(.int .i64 (0)), (.int .i64 (0)), (.int .i64 (0)), (.sl 0 1 [])] [(0, 1, (.t 15)), (1, 1, (.t 18))]⟩), (.eff, ⟨(some 5), none, .alloc [(.int .i64 (0)), (.int .i64 (0)), (.int .i64 (0)), (.sl 0 1 [])]⟩), (.efo, ⟨none, none, .store 4 (.t 5) (.t 19)⟩)])
  (.keep [1, 2, 5] (.seq (.seq (.reg [⟨(some 6), none, .mv (.c (.int .i64 (0)))⟩])
  (.keep [1, 2, 5, 6] (.block 0 (.loop A.probateref08_Lower.L0))))
  (.keep [1, 2, 5] (.seq (.seq (.reg [⟨(some 7), none, .mv (.c (.int .i64 (0)))⟩])
  (.keep [1, 2, 5, 7] (.block 2 (.loop A.probateref08_Lower.L1))))
  (.keep [1, 2, 5] (.seq (.seq (.reg [⟨(some 64), none, .load true 4 (.t 5)⟩, ⟨(some 65), none, .call (.c (.fn K.probateref03_Right [] [])) [(.t 64)]⟩, ⟨(some 66), none, .un .not (.t 65)⟩])
  (.keep [1, 2, 5, 66] (.cond (.t 66) (.seq (.reg [⟨(some 67), none, .bld [(.int .i64 (0)), (.int .i64 (0)), (.int .i64 (0)), (.sl 0 1 [])] []⟩, ⟨none, none, .store 4 (.t 2) (.t 67)⟩, ⟨(some 3), none, .mv (.c (.sl 0 1 []))⟩, ⟨(some 4), none, .mv (.c (.int .i64 (5)))⟩]) .ret) .skip)))
  (.keep [1, 2, 5] (.seq (.draw [(.pl, ⟨(some 68), none, .load true 4 (.t 5)⟩), (.pl, ⟨(some 69), none, .load true 2 (.t 1)⟩), (.pl, ⟨(some 70), none, .call (.c (.fn K.probateref08_Terms [] [])) [(.t 69)]⟩), (.eff, ⟨none, none, .store 4 (.t 2) (.t 68)⟩), (.pl, ⟨(some 3), none, .mv (.t 70)⟩), (.pl, ⟨(some 4), none, .mv (.c (.int .i64 (0)))⟩)]) .ret)))))))))))))⟩
def A.probateref08_prods.L0 : AC := .post (.seq (.seq (.reg [⟨(some 44), none, .mv (.t 10)⟩, ⟨(some 45), none, .fa 2 (.t 7)⟩, ⟨(some 46), none, .load false 1 (.t 45)⟩, ⟨(some 47), none, .len false (.t 46)⟩, ⟨(some 48), none, .bin .lss (.t 44) (.t 47)⟩])
  (.keep [2, 3, 7, 9, 10, 48] (.cond (.t 48) .skip (.exit 0))))
  (.keep [2, 3, 7, 9, 10] (.seq (.block 1 (.seq (.reg [⟨(some 51), none, .fa 2 (.t 7)⟩, ⟨(some 52), none, .load false 1 (.t 51)⟩, ⟨(some 53), none, .mv (.t 10)⟩, ⟨(some 54), none, .ia 1 (.t 52) (.t 53)⟩, ⟨(some 55), none, .load false 1 (.t 54)⟩, ⟨(some 11), none, .mv (.t 55)⟩])
  (.keep [2, 3, 7, 9, 10, 11] (.seq (.reg [⟨(some 56), none, .fa 1 (.t 3)⟩, ⟨(some 57), none, .load false 1 (.t 56)⟩, ⟨(some 58), none, .mv (.t 11)⟩, ⟨(some 59), none, .ia 3 (.t 57) (.t 58)⟩, ⟨(some 60), none, .fa 0 (.t 59)⟩, ⟨(some 61), none, .load false 1 (.t 60)⟩, ⟨(some 62), none, .bin .eql (.t 61) (.c (.int .i64 (1)))⟩])
  (.keep [2, 3, 7, 9, 10, 11, 62] (.cond (.t 62) (.draw [(.pl, ⟨(some 63), none, .mv (.t 9)⟩), (.pl, ⟨(some 64), none, .mv (.t 2)⟩), (.pl, ⟨(some 65), none, .load true 2 (.t 3)⟩), (.pl, ⟨(some 66), none, .fa 1 (.t 3)⟩), (.pl, ⟨(some 67), none, .load false 1 (.t 66)⟩), (.pl, ⟨(some 68), none, .mv (.t 11)⟩), (.pl, ⟨(some 69), none, .ia 3 (.t 67) (.t 68)⟩), (.pl, ⟨(some 70), none, .fa 2 (.t 69)⟩), (.pl, ⟨(some 71), none, .load false 1 (.t 70)⟩), (.pl, ⟨(some 72), none, .call (.c (.fn K.probateref08_symbols [] [])) [(.t 65), (.t 71)]⟩), (.pl, ⟨(some 73), none, .bld [(.int .i64 (0)), (.sl 0 1 [])] [(0, 1, (.t 64)), (1, 1, (.t 72))]⟩), (.pl, ⟨(some 74), none, .bsl 2 true [(.int .i64 (0)), (.sl 0 1 [])] 1 [(0, (.t 73))]⟩), (.eff, ⟨(some 75), none, .app 2 32 (.t 63) (.t 74)⟩), (.pl, ⟨(some 9), none, .mv (.t 75)⟩)]) (.reg [⟨(some 76), none, .mv (.t 9)⟩, ⟨(some 77), none, .mv (.t 2)⟩, ⟨(some 78), none, .load true 2 (.t 3)⟩, ⟨(some 79), none, .mv (.t 11)⟩, ⟨(some 80), none, .call (.c (.fn K.probateref08_symbol [] [])) [(.t 78), (.t 79)]⟩, ⟨(some 81), none, .bsl 2 true [(.bool false), (.int .i64 (0))] 1 [(0, (.t 80))]⟩, ⟨(some 82), none, .bld [(.int .i64 (0)), (.sl 0 1 [])] [(0, 1, (.t 77)), (1, 1, (.t 81))]⟩, ⟨(some 83), none, .bsl 2 true [(.int .i64 (0)), (.sl 0 1 [])] 1 [(0, (.t 82))]⟩, ⟨(some 84), none, .app 2 32 (.t 76) (.t 83)⟩, ⟨(some 9), none, .mv (.t 84)⟩])))))))
  (.keep [2, 3, 7, 9, 10] (.reg [⟨(some 49), none, .mv (.t 10)⟩, ⟨(some 50), none, .bin .add (.t 49) (.c (.int .i64 (1)))⟩, ⟨(some 10), none, .mv (.t 50)⟩]))))) [2, 3, 7, 9, 10]
def A.probateref08_prods : AFn := ⟨123, [(6, none)], (.seq (.reg [⟨(some 3), none, .box (.t 0)⟩, ⟨(some 6), none, .mv (.c (.sl 0 1 []))⟩])
  (.keep [1, 2, 3] (.seq (.reg [⟨(some 13), none, .fa 1 (.t 3)⟩, ⟨(some 14), none, .load false 1 (.t 13)⟩, ⟨(some 15), none, .mv (.t 1)⟩, ⟨(some 16), none, .ia 3 (.t 14) (.t 15)⟩, ⟨(some 17), none, .load true 3 (.t 16)⟩, ⟨(some 7), none, .alloc [(.int .i64 (0)), (.str []), (.sl 0 1 [])]⟩, ⟨none, none, .store 3 (.t 7) (.t 17)⟩])
  (.keep [1, 2, 3, 7] (.seq (.reg [⟨(some 18), none, .mv (.t 2)⟩, ⟨(some 19), none, .bld [(.bool false), (.int .i64 (0))] [(0, 1, (.c (.bool true))), (1, 1, (.t 18))]⟩, ⟨(some 8), none, .alloc [(.bool false), (.int .i64 (0))]⟩, ⟨none, none, .store 2 (.t 8) (.t 19)⟩])
  (.keep [1, 2, 3, 7, 8] (.seq (.seq (.reg [⟨(some 20), none, .fa 0 (.t 7)⟩, ⟨(some 21), none, .load false 1 (.t 20)⟩, ⟨(some 22), none, .bin .geq (.t 21) (.c (.int .i64 (6)))⟩])
  (.keep [1, 2, 3, 7, 8, 22] (.cond (.t 22) (.seq (.reg [⟨(some 23), none, .mv (.t 2)⟩, ⟨(some 24), none, .load true 2 (.t 3)⟩, ⟨(some 25), none, .mv (.t 1)⟩, ⟨(some 26), none, .call (.c (.fn K.probateref08_symbol [] [])) [(.t 24), (.t 25)]⟩, ⟨(some 27), none, .bsl 2 true [(.bool false), (.int .i64 (0))] 1 [(0, (.t 26))]⟩, ⟨(some 28), none, .bld [(.int .i64 (0)), (.sl 0 1 [])] [(0, 1, (.t 23)), (1, 1, (.t 27))]⟩, ⟨(some 29), none, .bsl 2 true [(.int .i64 (0)), (.sl 0 1 [])] 1 [(0, (.t 28))]⟩, ⟨(some 6), none, .mv (.t 29)⟩]) .ret) .skip)))
  (.keep [2, 3, 7, 8] (.seq (.seq (.reg [⟨(some 30), none, .fa 0 (.t 7)⟩, ⟨(some 31), none, .load false 1 (.t 30)⟩, ⟨(some 32), none, .bin .eql (.t 31) (.c (.int .i64 (1)))⟩])
  (.keep [2, 3, 7, 8, 32] (.cond (.t 32) (.seq (.reg [⟨(some 33), none, .mv (.t 2)⟩, ⟨(some 34), none, .load true 2 (.t 3)⟩, ⟨(some 35), none, .fa 2 (.t 7)⟩, ⟨(some 36), none, .load false 1 (.t 35)⟩, ⟨(some 37), none, .call (.c (.fn K.probateref08_symbols [] [])) [(.t 34), (.t 36)]⟩, ⟨(some 38), none, .bld [(.int .i64 (0)), (.sl 0 1 [])] [(0, 1, (.t 33)), (1, 1, (.t 37))]⟩, ⟨(some 39), none, .bsl 2 true [(.int .i64 (0)), (.sl 0 1 [])] 1 [(0, (.t 38))]⟩, ⟨(some 6), none, .mv (.t 39)⟩]) .ret) .skip)))
  (.keep [2, 3, 7, 8] (.seq (.seq (.reg [⟨(some 40), none, .fa 0 (.t 7)⟩, ⟨(some 41), none, .load false 1 (.t 40)⟩, ⟨(some 42), none, .bin .eql (.t 41) (.c (.int .i64 (2)))⟩])
  (.keep [2, 3, 7, 8, 42] (.cond (.t 42) (.seq (.reg [⟨(some 43), none, .bsl 2 true [(.int .i64 (0)), (.sl 0 1 [])] 0 []⟩, ⟨(some 9), none, .mv (.t 43)⟩])
  (.keep [2, 3, 7, 9] (.seq (.seq (.reg [⟨(some 10), none, .mv (.c (.int .i64 (0)))⟩])
  (.keep [2, 3, 7, 9, 10] (.block 0 (.loop A.probateref08_prods.L0))))
  (.keep [9] (.seq (.reg [⟨(some 85), none, .mv (.t 9)⟩, ⟨(some 6), none, .mv (.t 85)⟩]) .ret))))) .skip)))
  (.keep [2, 3, 7, 8] (.seq (.draw [(.fl, ⟨(some 86), none, .load true 2 (.t 3)⟩), (.pl, ⟨(some 87), none, .fa 2 (.t 7)⟩), (.fl, ⟨(some 88), none, .load false 1 (.t 87)⟩), (.pl, ⟨(some 89), none, .ia 1 (.t 88) (.c (.int .i64 (0)))⟩), (.fl, ⟨(some 90), none, .load false 1 (.t 89)⟩), (.fl, ⟨(some 91), none, .call (.c (.fn K.probateref08_symbol [] [])) [(.t 86), (.t 90)]⟩), (.eff, ⟨(some 12), none, .alloc [(.bool false), (.int .i64 (0))]⟩), (.efo, ⟨none, none, .store 2 (.t 12) (.t 91)⟩)])
  (.keep [2, 7, 8, 12] (.seq (.seq (.reg [⟨(some 92), none, .fa 0 (.t 7)⟩, ⟨(some 93), none, .load false 1 (.t 92)⟩, ⟨(some 94), none, .bin .eql (.t 93) (.c (.int .i64 (3)))⟩])
  (.keep [2, 7, 8, 12, 94] (.cond (.t 94) (.seq (.reg [⟨(some 95), none, .mv (.t 2)⟩, ⟨(some 96), none, .load true 2 (.t 12)⟩, ⟨(some 97), none, .load true 2 (.t 8)⟩, ⟨(some 98), none, .bsl 2 true [(.bool false), (.int .i64 (0))] 2 [(0, (.t 96)), (1, (.t 97))]⟩, ⟨(some 99), none, .bld [(.int .i64 (0)), (.sl 0 1 [])] [(0, 1, (.t 95)), (1, 1, (.t 98))]⟩, ⟨(some 100), none, .mv (.t 2)⟩, ⟨(some 101), none, .bld [(.int .i64 (0)), (.sl 0 1 [])] [(0, 1, (.t 100))]⟩, ⟨(some 102), none, .bsl 2 true [(.int .i64 (0)), (.sl 0 1 [])] 2 [(0, (.t 99)), (1, (.t 101))]⟩, ⟨(some 6), none, .mv (.t 102)⟩]) .ret) .skip)))
  (.keep [2, 7, 8, 12] (.seq (.seq (.reg [⟨(some 103), none, .fa 0 (.t 7)⟩, ⟨(some 104), none, .load false 1 (.t 103)⟩, ⟨(some 105), none, .bin .eql (.t 104) (.c (.int .i64 (4)))⟩])
  (.keep [2, 8, 12, 105] (.cond (.t 105) (.seq (.reg [⟨(some 106), none, .mv (.t 2)⟩, ⟨(some 107), none, .load true 2 (.t 12)⟩, ⟨(some 108), none, .load true 2 (.t 8)⟩, ⟨(some 109), none, .bsl 2 true [(.bool false), (.int .i64 (0))] 2 [(0, (.t 107)), (1, (.t 108))]⟩, ⟨(some 110), none, .bld [(.int .i64 (0)), (.sl 0 1 [])] [(0, 1, (.t 106)), (1, 1, (.t 109))]⟩, ⟨(some 111), none, .mv (.t 2)⟩, ⟨(some 112), none, .load true 2 (.t 12)⟩, ⟨(some 113), none, .bsl 2 true [(.bool false), (.int .i64 (0))] 1 [(0, (.t 112))]⟩, ⟨(some 114), none, .bld [(.int .i64 (0)), (.sl 0 1 [])] [(0, 1, (.t 111)), (1, 1, (.t 113))]⟩, ⟨(some 115), none, .bsl 2 true [(.int .i64 (0)), (.sl 0 1 [])] 2 [(0, (.t 110)), (1, (.t 114))]⟩, ⟨(some 6), none, .mv (.t 115)⟩]) .ret) .skip)))
  (.keep [2, 12] (.seq (.reg [⟨(some 116), none, .mv (.t 2)⟩, ⟨(some 117), none, .load true 2 (.t 12)⟩, ⟨(some 118), none, .bsl 2 true [(.bool false), (.int .i64 (0))] 1 [(0, (.t 117))]⟩, ⟨(some 119), none, .bld [(.int .i64 (0)), (.sl 0 1 [])] [(0, 1, (.t 116)), (1, 1, (.t 118))]⟩, ⟨(some 120), none, .mv (.t 2)⟩, ⟨(some 121), none, .bld [(.int .i64 (0)), (.sl 0 1 [])] [(0, 1, (.t 120))]⟩, ⟨(some 122), none, .bsl 2 true [(.int .i64 (0)), (.sl 0 1 [])] 2 [(0, (.t 119)), (1, (.t 121))]⟩, ⟨(some 6), none, .mv (.t 122)⟩]) .ret)))))))))))))))))))⟩
end Go.Proofs.Ytmobijebjkjnoaa.Al
namespace Go.Proofs.Ytmobijebjkjnoaa.Al
def A.rules_Right.L1 : AC := .post (.seq (.seq (.reg [⟨(some 59), none, .mv (.t 3)⟩, ⟨(some 60), none, .fa 1 (.t 5)⟩, ⟨(some 61), none, .load false 1 (.t 60)⟩, ⟨(some 62), none, .bin .leq (.t 59) (.t 61)⟩])
  (.keep [1, 3, 5, 6, 26, 27, 28, 62] (.cond (.t 62) .skip (.exit 2))))
  (.keep [1, 3, 5, 6, 26, 27, 28] (.seq (.block 3 (.seq (.reg [⟨(some 65), none, .fa 1 (.t 1)⟩, ⟨(some 66), none, .load false 1 (.t 65)⟩, ⟨(some 67), none, .mv (.t 3)⟩, ⟨(some 68), none, .ia 3 (.t 66) (.t 67)⟩, ⟨(some 69), none, .load true 3 (.t 68)⟩, ⟨(some 7), none, .alloc [(.int .i64 (0)), (.str []), (.sl 0 1 [])]⟩, ⟨none, none, .store 3 (.t 7) (.t 69)⟩])
  (.keep [1, 3, 5, 6, 7, 26, 27, 28] (.seq (.reg [⟨(some 70), none, .mv (.t 6)⟩, ⟨(some 71), none, .len false (.t 70)⟩, ⟨(some 72), none, .fa 2 (.t 7)⟩, ⟨(some 73), none, .load false 1 (.t 72)⟩, ⟨(some 74), none, .len false (.t 73)⟩, ⟨(some 75), none, .bin .sub (.t 71) (.t 74)⟩, ⟨(some 8), none, .mv (.t 75)⟩])
  (.keep [1, 3, 5, 6, 7, 8, 26, 27, 28] (.seq (.seq (.draw [(.pl, ⟨(some 76), none, .load true 2 (.t 1)⟩), (.pl, ⟨(some 77), none, .load true 3 (.t 7)⟩), (.pl, ⟨(some 78), none, .call (.c (.fn K.rules_Tree_fine [] [])) [(.t 76), (.t 77)]⟩), (.pl, ⟨(some 79), none, .un .not (.t 78)⟩), (.pl, ⟨(some 80), none, .mv (.t 79)⟩), (.pl, ⟨(some 81), (some (80, false)), .mv (.t 8)⟩), (.pl, ⟨(some 82), (some (80, false)), .bin .lss (.t 81) (.c (.int .i64 (0)))⟩), (.pl, ⟨(some 83), none, .pick (.t 80) (.c (.bool true)) (.t 82)⟩), (.pl, ⟨(some 84), none, .mv (.t 83)⟩), (.pl, ⟨(some 85), (some (84, false)), .mv (.t 6)⟩), (.pl, ⟨(some 86), (some (84, false)), .mv (.t 8)⟩), (.pl, ⟨(some 87), (some (84, false)), .slc 1 (.t 85) (some (.t 86)) none⟩), (.pl, ⟨(some 88), (some (84, false)), .fa 2 (.t 7)⟩), (.pl, ⟨(some 89), (some (84, false)), .load false 1 (.t 88)⟩), (.pl, ⟨(some 90), (some (84, false)), .call (.c (.fn K.slices_Equal_int [] [])) [(.t 87), (.t 89)]⟩), (.pl, ⟨(some 91), (some (84, false)), .un .not (.t 90)⟩), (.pl, ⟨(some 92), none, .pick (.t 84) (.c (.bool true)) (.t 91)⟩)])
  (.keep [1, 3, 5, 6, 8, 26, 27, 28, 92] (.cond (.t 92) (.seq (.reg [⟨(some 2), none, .mv (.c (.bool false))⟩]) .ret) .skip)))
  (.keep [1, 3, 5, 6, 8, 26, 27, 28] (.reg [⟨(some 93), none, .mv (.t 6)⟩, ⟨(some 94), none, .mv (.t 8)⟩, ⟨(some 95), none, .slc 1 (.t 93) none (some (.t 94))⟩, ⟨(some 96), none, .mv (.t 3)⟩, ⟨(some 97), none, .bsl 1 false [(.int .i64 (0))] 1 [(0, (.t 96))]⟩, ⟨(some 98), none, .app 1 8 (.t 95) (.t 97)⟩, ⟨(some 6), none, .mv (.t 98)⟩]))))))))
  (.keep [1, 3, 5, 6, 26, 27, 28] (.reg [⟨(some 63), none, .mv (.t 3)⟩, ⟨(some 64), none, .bin .add (.t 63) (.c (.int .i64 (1)))⟩, ⟨(some 3), none, .mv (.t 64)⟩]))))) [1, 3, 5, 6, 26, 27, 28]
def A.rules_Right.L0 : AC := .post (.seq (.reg [⟨(some 29), none, .bin .lss (.t 28) (.t 27)⟩])
  (.keep [1, 3, 26, 27, 28, 29] (.seq (.cond (.t 29) .skip (.exit 0))
  (.keep [1, 3, 26, 27, 28] (.seq (.block 1 (.seq (.reg [⟨(some 30), none, .mv (.t 28)⟩, ⟨(some 31), none, .ia 2 (.t 26) (.t 28)⟩, ⟨(some 32), none, .load true 2 (.t 31)⟩, ⟨(some 5), none, .alloc [(.str []), (.int .i64 (0))]⟩, ⟨(some 4), none, .mv (.t 30)⟩, ⟨none, none, .store 2 (.t 5) (.t 32)⟩])
  (.keep [1, 3, 4, 5, 26, 27, 28] (.seq (.seq (.reg [⟨(some 33), none, .fa 0 (.t 5)⟩, ⟨(some 34), none, .load false 1 (.t 33)⟩, ⟨(some 35), none, .call (.c (.fn K.rules_token [] [])) [(.t 34), (.c (.int .i64 (1)))]⟩, ⟨(some 36), none, .un .not (.t 35)⟩, ⟨(some 37), none, .mv (.t 36)⟩, ⟨(some 38), (some (37, false)), .fa 0 (.t 1)⟩, ⟨(some 39), (some (37, false)), .load false 1 (.t 38)⟩, ⟨(some 40), (some (37, false)), .mv (.t 4)⟩, ⟨(some 41), (some (37, false)), .slc 2 (.t 39) none (some (.t 40))⟩, ⟨(some 42), (some (37, false)), .mkfn K.rules_Right_1 [] [(.t 5)]⟩, ⟨(some 43), (some (37, false)), .call (.c (.fn K.slices_ContainsFunc_Rule [] [])) [(.t 41), (.t 42)]⟩, ⟨(some 44), none, .pick (.t 37) (.c (.bool true)) (.t 43)⟩, ⟨(some 45), none, .mv (.t 44)⟩, ⟨(some 46), (some (45, false)), .fa 1 (.t 5)⟩, ⟨(some 47), (some (45, false)), .load false 1 (.t 46)⟩, ⟨(some 48), (some (45, false)), .mv (.t 3)⟩, ⟨(some 49), (some (45, false)), .bin .lss (.t 47) (.t 48)⟩, ⟨(some 50), none, .pick (.t 45) (.c (.bool true)) (.t 49)⟩, ⟨(some 51), none, .mv (.t 50)⟩, ⟨(some 52), (some (51, false)), .fa 1 (.t 5)⟩, ⟨(some 53), (some (51, false)), .load false 1 (.t 52)⟩, ⟨(some 54), (some (51, false)), .fa 1 (.t 1)⟩, ⟨(some 55), (some (51, false)), .load false 1 (.t 54)⟩, ⟨(some 56), (some (51, false)), .len false (.t 55)⟩, ⟨(some 57), (some (51, false)), .bin .geq (.t 53) (.t 56)⟩, ⟨(some 58), none, .pick (.t 51) (.c (.bool true)) (.t 57)⟩])
  (.keep [1, 3, 5, 26, 27, 28, 58] (.cond (.t 58) (.seq (.reg [⟨(some 2), none, .mv (.c (.bool false))⟩]) .ret) .skip)))
  (.keep [1, 3, 5, 26, 27, 28] (.seq (.reg [⟨(some 6), none, .mv (.c (.sl 0 1 []))⟩])
  (.keep [1, 3, 5, 6, 26, 27, 28] (.seq (.block 2 (.loop A.rules_Right.L1))
  (.keep [1, 3, 6, 26, 27, 28] (.seq (.reg [⟨(some 99), none, .mv (.t 6)⟩, ⟨(some 100), none, .len false (.t 99)⟩, ⟨(some 101), none, .bin .neq (.t 100) (.c (.int .i64 (1)))⟩])
  (.keep [1, 3, 26, 27, 28, 101] (.cond (.t 101) (.seq (.reg [⟨(some 2), none, .mv (.c (.bool false))⟩]) .ret) .skip))))))))))))
  (.keep [1, 3, 26, 27, 28] (.reg [⟨(some 102), none, .bin .add (.t 28) (.c (.int .i64 (1)))⟩, ⟨(some 28), none, .mv (.t 102)⟩]))))))) [1, 3, 26, 27, 28]
def A.rules_Right : AFn := ⟨108, [(2, none)], (.seq (.reg [⟨(some 1), none, .box (.t 0)⟩, ⟨(some 2), none, .mv (.c (.bool false))⟩])
  (.keep [1] (.seq (.seq (.reg [⟨(some 9), none, .fa 0 (.t 1)⟩, ⟨(some 10), none, .load false 1 (.t 9)⟩, ⟨(some 11), none, .len false (.t 10)⟩, ⟨(some 12), none, .bin .eql (.t 11) (.c (.int .i64 (0)))⟩, ⟨(some 13), none, .mv (.t 12)⟩, ⟨(some 14), (some (13, false)), .fa 0 (.t 1)⟩, ⟨(some 15), (some (13, false)), .load false 1 (.t 14)⟩, ⟨(some 16), (some (13, false)), .len false (.t 15)⟩, ⟨(some 17), (some (13, false)), .bin .gtr (.t 16) (.c (.int .i64 (24)))⟩, ⟨(some 18), none, .pick (.t 13) (.c (.bool true)) (.t 17)⟩, ⟨(some 19), none, .mv (.t 18)⟩, ⟨(some 20), (some (19, false)), .fa 1 (.t 1)⟩, ⟨(some 21), (some (19, false)), .load false 1 (.t 20)⟩, ⟨(some 22), (some (19, false)), .len false (.t 21)⟩, ⟨(some 23), (some (19, false)), .bin .gtr (.t 22) (.c (.int .i64 (200)))⟩, ⟨(some 24), none, .pick (.t 19) (.c (.bool true)) (.t 23)⟩])
  (.keep [1, 24] (.cond (.t 24) (.seq (.reg [⟨(some 2), none, .mv (.c (.bool false))⟩]) .ret) .skip)))
  (.keep [1] (.seq (.reg [⟨(some 3), none, .mv (.c (.int .i64 (0)))⟩])
  (.keep [1, 3] (.seq (.seq (.reg [⟨(some 25), none, .fa 0 (.t 1)⟩, ⟨(some 26), none, .load false 1 (.t 25)⟩, ⟨(some 27), none, .len false (.t 26)⟩, ⟨(some 28), none, .mv (.c (.int .i64 (0)))⟩])
  (.keep [1, 3, 26, 27, 28] (.block 0 (.loop A.rules_Right.L0))))
  (.keep [1, 3] (.seq (.reg [⟨(some 103), none, .mv (.t 3)⟩, ⟨(some 104), none, .fa 1 (.t 1)⟩, ⟨(some 105), none, .load false 1 (.t 104)⟩, ⟨(some 106), none, .len false (.t 105)⟩, ⟨(some 107), none, .bin .eql (.t 103) (.t 106)⟩, ⟨(some 2), none, .mv (.t 107)⟩]) .ret)))))))))⟩
def A.rules_Read : AFn := ⟨65, [(2, (some (true, 2))), (3, none), (4, none)], (.seq (.reg [⟨(some 2), none, .alloc [(.sl 0 1 []), (.sl 0 1 [])]⟩, ⟨(some 3), none, .mv (.c (.int .i64 (0)))⟩, ⟨(some 4), none, .mv (.c (.int .i64 (0)))⟩])
  (.keep [0, 2] (.seq (.reg [⟨(some 13), none, .mv (.t 0)⟩, ⟨(some 14), none, .call (.c (.fn K.scan_Scan [] [])) [(.t 13)]⟩, ⟨(some 12), none, .mv (.t 14)⟩, ⟨(some 15), none, .ext (.t 12) 0⟩, ⟨(some 16), none, .ext (.t 12) 1⟩, ⟨(some 17), none, .ext (.t 12) 2⟩, ⟨(some 5), none, .mv (.t 15)⟩, ⟨(some 6), none, .mv (.t 16)⟩, ⟨(some 7), none, .mv (.t 17)⟩])
  (.keep [0, 2, 5, 6, 7] (.seq (.seq (.reg [⟨(some 18), none, .mv (.t 7)⟩, ⟨(some 19), none, .bin .neq (.t 18) (.c (.int .i64 (0)))⟩])
  (.keep [0, 2, 5, 6, 7, 19] (.cond (.t 19) (.seq (.reg [⟨(some 20), none, .bld [(.sl 0 1 []), (.sl 0 1 [])] []⟩, ⟨(some 21), none, .mv (.t 6)⟩, ⟨(some 22), none, .mv (.t 7)⟩, ⟨none, none, .store 2 (.t 2) (.t 20)⟩, ⟨(some 3), none, .mv (.t 21)⟩, ⟨(some 4), none, .mv (.t 22)⟩]) .ret) .skip)))
  (.keep [0, 2, 5] (.seq (.reg [⟨(some 23), none, .mv (.t 5)⟩, ⟨(some 24), none, .mv (.t 0)⟩, ⟨(some 25), none, .len true (.t 24)⟩, ⟨(some 26), none, .bld [(.sl 0 1 []), (.int .i64 (0)), (.int .i64 (0)), (.sl 0 1 []), (.sl 0 1 []), (.sl 0 1 []), (.sl 0 1 [])] [(0, 1, (.t 23)), (2, 1, (.t 25))]⟩, ⟨(some 27), none, .box (.t 26)⟩, ⟨(some 8), none, .mv (.t 27)⟩])
  (.keep [2, 8] (.seq (.seq (.reg [⟨(some 28), none, .mv (.t 8)⟩, ⟨(some 29), none, .call (.c (.fn K.rules_reader_parse [] [])) [(.t 28)]⟩, ⟨(some 9), none, .mv (.t 29)⟩])
  (.keep [2, 8, 9] (.seq (.reg [⟨(some 30), none, .mv (.t 9)⟩, ⟨(some 31), none, .bin .geq (.t 30) (.c (.int .i64 (0)))⟩])
  (.keep [2, 8, 9, 31] (.cond (.t 31) (.seq (.reg [⟨(some 32), none, .bld [(.sl 0 1 []), (.sl 0 1 [])] []⟩, ⟨(some 33), none, .mv (.t 9)⟩, ⟨none, none, .store 2 (.t 2) (.t 32)⟩, ⟨(some 3), none, .mv (.t 33)⟩, ⟨(some 4), none, .mv (.c (.int .i64 (2)))⟩]) .ret) .skip)))))
  (.keep [2, 8] (.seq (.seq (.reg [⟨(some 34), none, .mv (.t 8)⟩, ⟨(some 35), none, .nilchk (.t 34)⟩, ⟨(some 36), none, .fa 3 (.t 35)⟩, ⟨(some 37), none, .fa 0 (.t 36)⟩, ⟨(some 38), none, .load false 1 (.t 37)⟩, ⟨(some 39), none, .len false (.t 38)⟩, ⟨(some 40), none, .bin .gtr (.t 39) (.c (.int .i64 (24)))⟩, ⟨(some 41), none, .mv (.t 40)⟩, ⟨(some 42), (some (41, false)), .mv (.t 8)⟩, ⟨(some 43), (some (41, false)), .nilchk (.t 42)⟩, ⟨(some 44), (some (41, false)), .fa 3 (.t 43)⟩, ⟨(some 45), (some (41, false)), .fa 1 (.t 44)⟩, ⟨(some 46), (some (41, false)), .load false 1 (.t 45)⟩, ⟨(some 47), (some (41, false)), .len false (.t 46)⟩, ⟨(some 48), (some (41, false)), .bin .gtr (.t 47) (.c (.int .i64 (200)))⟩, ⟨(some 49), none, .pick (.t 41) (.c (.bool true)) (.t 48)⟩])
  (.keep [2, 8, 49] (.cond (.t 49) (.seq (.reg [⟨(some 50), none, .bld [(.sl 0 1 []), (.sl 0 1 [])] []⟩, ⟨none, none, .store 2 (.t 2) (.t 50)⟩, ⟨(some 3), none, .mv (.c (.int .i64 (0)))⟩, ⟨(some 4), none, .mv (.c (.int .i64 (5)))⟩]) .ret) .skip)))
  (.keep [2, 8] (.seq (.seq (.reg [⟨(some 52), none, .mv (.t 8)⟩, ⟨(some 53), none, .call (.c (.fn K.rules_reader_names [] [])) [(.t 52)]⟩, ⟨(some 51), none, .mv (.t 53)⟩, ⟨(some 54), none, .ext (.t 51) 0⟩, ⟨(some 55), none, .ext (.t 51) 1⟩, ⟨(some 10), none, .mv (.t 54)⟩, ⟨(some 11), none, .mv (.t 55)⟩])
  (.keep [2, 8, 10, 11] (.seq (.reg [⟨(some 56), none, .mv (.t 11)⟩, ⟨(some 57), none, .bin .neq (.t 56) (.c (.int .i64 (0)))⟩])
  (.keep [2, 8, 10, 11, 57] (.cond (.t 57) (.seq (.reg [⟨(some 58), none, .bld [(.sl 0 1 []), (.sl 0 1 [])] []⟩, ⟨(some 59), none, .mv (.t 10)⟩, ⟨(some 60), none, .mv (.t 11)⟩, ⟨none, none, .store 2 (.t 2) (.t 58)⟩, ⟨(some 3), none, .mv (.t 59)⟩, ⟨(some 4), none, .mv (.t 60)⟩]) .ret) .skip)))))
  (.keep [2, 8] (.seq (.reg [⟨(some 61), none, .mv (.t 8)⟩, ⟨(some 62), none, .nilchk (.t 61)⟩, ⟨(some 63), none, .fa 3 (.t 62)⟩, ⟨(some 64), none, .load true 2 (.t 63)⟩, ⟨none, none, .store 2 (.t 2) (.t 64)⟩, ⟨(some 3), none, .mv (.c (.int .i64 (0)))⟩, ⟨(some 4), none, .mv (.c (.int .i64 (0)))⟩]) .ret)))))))))))))))⟩
def A.rules_Same : AFn := ⟨17, [(4, none)], (.seq (.reg [⟨(some 2), none, .box (.t 0)⟩, ⟨(some 3), none, .box (.t 1)⟩, ⟨(some 4), none, .mv (.c (.bool false))⟩])
  (.keep [2, 3] (.seq (.reg [⟨(some 5), none, .fa 0 (.t 2)⟩, ⟨(some 6), none, .load false 1 (.t 5)⟩, ⟨(some 7), none, .fa 0 (.t 3)⟩, ⟨(some 8), none, .load false 1 (.t 7)⟩, ⟨(some 9), none, .call (.c (.fn K.slices_Equal_Rule [] [])) [(.t 6), (.t 8)]⟩, ⟨(some 10), none, .mv (.t 9)⟩, ⟨(some 11), (some (10, true)), .fa 1 (.t 2)⟩, ⟨(some 12), (some (10, true)), .load false 1 (.t 11)⟩, ⟨(some 13), (some (10, true)), .fa 1 (.t 3)⟩, ⟨(some 14), (some (10, true)), .load false 1 (.t 13)⟩, ⟨(some 15), (some (10, true)), .call (.c (.fn K.slices_EqualFunc_Node [] [])) [(.t 12), (.t 14), (.c (.fn K.rules_Same_1 [] []))]⟩, ⟨(some 16), none, .pick (.t 10) (.t 15) (.c (.bool false))⟩, ⟨(some 4), none, .mv (.t 16)⟩]) .ret)))⟩
def A.rules_token : AFn := ⟨48, [(4, none)], (.seq (.reg [⟨(some 4), none, .mv (.c (.bool false))⟩])
  (.keep [0, 1] (.seq (.reg [⟨(some 9), none, .mv (.t 0)⟩, ⟨(some 10), none, .call (.c (.fn K.scan_Scan [] [])) [(.t 9)]⟩, ⟨(some 8), none, .mv (.t 10)⟩, ⟨(some 11), none, .ext (.t 8) 0⟩, ⟨(some 12), none, .ext (.t 8) 1⟩, ⟨(some 13), none, .ext (.t 8) 2⟩, ⟨(some 5), none, .mv (.t 11)⟩, ⟨(some 6), none, .mv (.t 12)⟩, ⟨(some 7), none, .mv (.t 13)⟩])
  (.keep [0, 1, 5, 7] (.seq (.reg [⟨(some 14), none, .mv (.t 7)⟩, ⟨(some 15), none, .bin .eql (.t 14) (.c (.int .i64 (0)))⟩, ⟨(some 16), none, .mv (.t 15)⟩, ⟨(some 17), (some (16, true)), .mv (.t 5)⟩, ⟨(some 18), (some (16, true)), .len false (.t 17)⟩, ⟨(some 19), (some (16, true)), .bin .eql (.t 18) (.c (.int .i64 (1)))⟩, ⟨(some 20), none, .pick (.t 16) (.t 19) (.c (.bool false))⟩, ⟨(some 21), none, .mv (.t 20)⟩, ⟨(some 22), (some (21, true)), .mv (.t 5)⟩, ⟨(some 23), (some (21, true)), .ia 3 (.t 22) (.c (.int .i64 (0)))⟩, ⟨(some 24), (some (21, true)), .fa 0 (.t 23)⟩, ⟨(some 25), (some (21, true)), .load false 1 (.t 24)⟩, ⟨(some 26), (some (21, true)), .mv (.t 1)⟩, ⟨(some 27), (some (21, true)), .bin .eql (.t 25) (.t 26)⟩, ⟨(some 28), none, .pick (.t 21) (.t 27) (.c (.bool false))⟩, ⟨(some 29), none, .mv (.t 28)⟩, ⟨(some 30), (some (29, true)), .mv (.t 5)⟩, ⟨(some 31), (some (29, true)), .ia 3 (.t 30) (.c (.int .i64 (0)))⟩, ⟨(some 32), (some (29, true)), .fa 2 (.t 31)⟩, ⟨(some 33), (some (29, true)), .load false 1 (.t 32)⟩, ⟨(some 34), (some (29, true)), .bin .eql (.t 33) (.c (.int .i64 (0)))⟩, ⟨(some 35), none, .pick (.t 29) (.t 34) (.c (.bool false))⟩, ⟨(some 36), none, .mv (.t 35)⟩, ⟨(some 37), (some (36, true)), .mv (.t 1)⟩, ⟨(some 38), (some (36, true)), .bin .eql (.t 37) (.c (.int .i64 (2)))⟩, ⟨(some 39), (some (36, true)), .mv (.t 38)⟩, ⟨(some 40), (some (39, false)), .mv (.t 5)⟩, ⟨(some 41), (some (39, false)), .ia 3 (.t 40) (.c (.int .i64 (0)))⟩, ⟨(some 42), (some (39, false)), .fa 1 (.t 41)⟩, ⟨(some 43), (some (39, false)), .load false 1 (.t 42)⟩, ⟨(some 44), (some (39, false)), .mv (.t 0)⟩, ⟨(some 45), (some (39, false)), .bin .eql (.t 43) (.t 44)⟩, ⟨(some 46), (some (36, true)), .pick (.t 39) (.c (.bool true)) (.t 45)⟩, ⟨(some 47), none, .pick (.t 36) (.t 46) (.c (.bool false))⟩, ⟨(some 4), none, .mv (.t 47)⟩]) .ret)))))⟩
def A.rules_Right_1 : AFn := ⟨9, [(3, none)], (.seq (.reg [⟨(some 2), none, .box (.t 0)⟩, ⟨(some 3), none, .mv (.c (.bool false))⟩])
  (.keep [1, 2] (.seq (.reg [⟨(some 4), none, .fa 0 (.t 2)⟩, ⟨(some 5), none, .load false 1 (.t 4)⟩, ⟨(some 6), none, .fa 0 (.t 1)⟩, ⟨(some 7), none, .load false 1 (.t 6)⟩, ⟨(some 8), none, .bin .eql (.t 5) (.t 7)⟩, ⟨(some 3), none, .mv (.t 8)⟩]) .ret)))⟩
def A.rules_Same_1 : AFn := ⟨24, [(4, none)], (.seq (.reg [⟨(some 2), none, .box (.t 0)⟩, ⟨(some 3), none, .box (.t 1)⟩, ⟨(some 4), none, .mv (.c (.bool false))⟩])
  (.keep [2, 3] (.seq (.reg [⟨(some 5), none, .fa 0 (.t 2)⟩, ⟨(some 6), none, .load false 1 (.t 5)⟩, ⟨(some 7), none, .fa 0 (.t 3)⟩, ⟨(some 8), none, .load false 1 (.t 7)⟩, ⟨(some 9), none, .bin .eql (.t 6) (.t 8)⟩, ⟨(some 10), none, .mv (.t 9)⟩, ⟨(some 11), (some (10, true)), .fa 1 (.t 2)⟩, ⟨(some 12), (some (10, true)), .load false 1 (.t 11)⟩, ⟨(some 13), (some (10, true)), .fa 1 (.t 3)⟩, ⟨(some 14), (some (10, true)), .load false 1 (.t 13)⟩, ⟨(some 15), (some (10, true)), .bin .eql (.t 12) (.t 14)⟩, ⟨(some 16), none, .pick (.t 10) (.t 15) (.c (.bool false))⟩, ⟨(some 17), none, .mv (.t 16)⟩, ⟨(some 18), (some (17, true)), .fa 2 (.t 2)⟩, ⟨(some 19), (some (17, true)), .load false 1 (.t 18)⟩, ⟨(some 20), (some (17, true)), .fa 2 (.t 3)⟩, ⟨(some 21), (some (17, true)), .load false 1 (.t 20)⟩, ⟨(some 22), (some (17, true)), .call (.c (.fn K.slices_Equal_int [] [])) [(.t 19), (.t 21)]⟩, ⟨(some 23), none, .pick (.t 17) (.t 22) (.c (.bool false))⟩, ⟨(some 4), none, .mv (.t 23)⟩]) .ret)))⟩
def A.rules_Tree_fine_1 : AFn := ⟨9, [(3, none)], (.seq (.reg [⟨(some 2), none, .box (.t 0)⟩, ⟨(some 3), none, .mv (.c (.bool false))⟩])
  (.keep [1, 2] (.seq (.reg [⟨(some 4), none, .fa 0 (.t 2)⟩, ⟨(some 5), none, .load false 1 (.t 4)⟩, ⟨(some 6), none, .fa 1 (.t 1)⟩, ⟨(some 7), none, .load false 1 (.t 6)⟩, ⟨(some 8), none, .bin .eql (.t 5) (.t 7)⟩, ⟨(some 3), none, .mv (.t 8)⟩]) .ret)))⟩
def A.rules_reader_text.L0 : AC := .post (.seq (.seq (.reg [⟨(some 5), none, .mv (.t 2)⟩])
  (.keep [0, 5] (.cond (.t 5) .skip (.exit 0))))
  (.keep [0] (.seq (.block 1 (.seq (.reg [⟨(some 16), none, .mv (.t 0)⟩, ⟨(some 17), none, .call (.c (.fn K.rules_reader_name [] [])) [(.t 16)]⟩, ⟨(some 3), none, .alloc [(.str []), (.int .i64 (0))]⟩, ⟨none, none, .store 2 (.t 3) (.t 17)⟩])
  (.keep [0, 3] (.seq (.draw [(.pl, ⟨(some 18), none, .mv (.t 0)⟩), (.pl, ⟨(some 19), none, .mv (.t 0)⟩), (.pl, ⟨(some 20), none, .nilchk (.t 19)⟩), (.pl, ⟨(some 21), none, .fa 5 (.t 20)⟩), (.pl, ⟨(some 22), none, .load false 1 (.t 21)⟩), (.pl, ⟨(some 23), none, .load true 2 (.t 3)⟩), (.pl, ⟨(some 24), none, .bsl 2 true [(.str []), (.int .i64 (0))] 1 [(0, (.t 23))]⟩), (.eff, ⟨(some 25), none, .app 2 24 (.t 22) (.t 24)⟩), (.pl, ⟨(some 26), none, .nilchk (.t 18)⟩), (.pl, ⟨(some 27), none, .fa 5 (.t 26)⟩), (.eff, ⟨none, none, .store 1 (.t 27) (.t 25)⟩)])
  (.keep [0, 3] (.seq (.reg [⟨(some 28), none, .mv (.t 0)⟩, ⟨(some 29), none, .call (.c (.fn K.rules_reader_must [] [])) [(.t 28), (.c (.str [58]))]⟩])
  (.keep [0, 3] (.seq (.reg [⟨(some 30), none, .mv (.t 0)⟩, ⟨(some 31), none, .call (.c (.fn K.rules_reader_alternatives [] [])) [(.t 30)]⟩, ⟨(some 4), none, .mv (.t 31)⟩])
  (.keep [0, 3, 4] (.seq (.reg [⟨(some 32), none, .mv (.t 0)⟩, ⟨(some 33), none, .call (.c (.fn K.rules_reader_must [] [])) [(.t 32), (.c (.str [59]))]⟩])
  (.keep [0, 3, 4] (.draw [(.pl, ⟨(some 34), none, .mv (.t 0)⟩), (.pl, ⟨(some 35), none, .mv (.t 0)⟩), (.pl, ⟨(some 36), none, .nilchk (.t 35)⟩), (.pl, ⟨(some 37), none, .fa 3 (.t 36)⟩), (.pl, ⟨(some 38), none, .fa 0 (.t 37)⟩), (.pl, ⟨(some 39), none, .load false 1 (.t 38)⟩), (.pl, ⟨(some 40), none, .fa 0 (.t 3)⟩), (.pl, ⟨(some 41), none, .load false 1 (.t 40)⟩), (.pl, ⟨(some 42), none, .mv (.t 4)⟩), (.pl, ⟨(some 43), none, .bld [(.str []), (.int .i64 (0))] [(0, 1, (.t 41)), (1, 1, (.t 42))]⟩), (.pl, ⟨(some 44), none, .bsl 2 true [(.str []), (.int .i64 (0))] 1 [(0, (.t 43))]⟩), (.eff, ⟨(some 45), none, .app 2 24 (.t 39) (.t 44)⟩), (.pl, ⟨(some 46), none, .nilchk (.t 34)⟩), (.pl, ⟨(some 47), none, .fa 3 (.t 46)⟩), (.pl, ⟨(some 48), none, .fa 0 (.t 47)⟩), (.eff, ⟨none, none, .store 1 (.t 48) (.t 45)⟩)]))))))))))))
  (.keep [0] (.draw [(.pl, ⟨(some 6), none, .mv (.t 0)⟩), (.pl, ⟨(some 7), none, .nilchk (.t 6)⟩), (.pl, ⟨(some 8), none, .fa 1 (.t 7)⟩), (.pl, ⟨(some 9), none, .load false 1 (.t 8)⟩), (.pl, ⟨(some 10), none, .mv (.t 0)⟩), (.pl, ⟨(some 11), none, .nilchk (.t 10)⟩), (.pl, ⟨(some 12), none, .fa 0 (.t 11)⟩), (.pl, ⟨(some 13), none, .load false 1 (.t 12)⟩), (.pl, ⟨(some 14), none, .len false (.t 13)⟩), (.pl, ⟨(some 15), none, .bin .lss (.t 9) (.t 14)⟩), (.pl, ⟨(some 2), none, .mv (.t 15)⟩)]))))) [0, 2]
def A.rules_reader_text : AFn := ⟨49, [], (.seq (.reg [⟨(some 2), none, .mv (.c (.bool true))⟩])
  (.keep [0, 2] (.block 0 (.loop A.rules_reader_text.L0))))⟩
def A.rules_reader_name : AFn := ⟨52, [(2, (some (true, 2)))], (.seq (.reg [⟨(some 2), none, .alloc [(.str []), (.int .i64 (0))]⟩])
  (.keep [0, 2] (.seq (.seq (.draw [(.pl, ⟨(some 4), none, .mv (.t 0)⟩), (.pl, ⟨(some 5), none, .nilchk (.t 4)⟩), (.pl, ⟨(some 6), none, .fa 1 (.t 5)⟩), (.pl, ⟨(some 7), none, .load false 1 (.t 6)⟩), (.pl, ⟨(some 8), none, .mv (.t 0)⟩), (.pl, ⟨(some 9), none, .nilchk (.t 8)⟩), (.pl, ⟨(some 10), none, .fa 0 (.t 9)⟩), (.pl, ⟨(some 11), none, .load false 1 (.t 10)⟩), (.pl, ⟨(some 12), none, .len false (.t 11)⟩), (.pl, ⟨(some 13), none, .bin .geq (.t 7) (.t 12)⟩), (.pl, ⟨(some 14), none, .mv (.t 13)⟩), (.pl, ⟨(some 15), (some (14, false)), .mv (.t 0)⟩), (.pl, ⟨(some 16), (some (14, false)), .nilchk (.t 15)⟩), (.pl, ⟨(some 17), (some (14, false)), .fa 0 (.t 16)⟩), (.pl, ⟨(some 18), (some (14, false)), .load false 1 (.t 17)⟩), (.pl, ⟨(some 19), (some (14, false)), .mv (.t 0)⟩), (.pl, ⟨(some 20), (some (14, false)), .nilchk (.t 19)⟩), (.pl, ⟨(some 21), (some (14, false)), .fa 1 (.t 20)⟩), (.pl, ⟨(some 22), (some (14, false)), .load false 1 (.t 21)⟩), (.pl, ⟨(some 23), (some (14, false)), .ia 3 (.t 18) (.t 22)⟩), (.pl, ⟨(some 24), (some (14, false)), .fa 0 (.t 23)⟩), (.pl, ⟨(some 25), (some (14, false)), .load false 1 (.t 24)⟩), (.pl, ⟨(some 26), (some (14, false)), .bin .neq (.t 25) (.c (.int .i64 (1)))⟩), (.pl, ⟨(some 27), none, .pick (.t 14) (.c (.bool true)) (.t 26)⟩)])
  (.keep [0, 2, 27] (.cond (.t 27) (.reg [⟨(some 28), none, .mv (.t 0)⟩, ⟨(some 29), none, .call (.c (.fn K.rules_reader_fail [] [])) [(.t 28)]⟩]) .skip)))
  (.keep [0, 2] (.seq (.draw [(.pl, ⟨(some 30), none, .mv (.t 0)⟩), (.pl, ⟨(some 31), none, .nilchk (.t 30)⟩), (.pl, ⟨(some 32), none, .fa 0 (.t 31)⟩), (.fl, ⟨(some 33), none, .load false 1 (.t 32)⟩), (.pl, ⟨(some 34), none, .mv (.t 0)⟩), (.pl, ⟨(some 35), none, .nilchk (.t 34)⟩), (.pl, ⟨(some 36), none, .fa 1 (.t 35)⟩), (.fl, ⟨(some 37), none, .load false 1 (.t 36)⟩), (.pl, ⟨(some 38), none, .ia 3 (.t 33) (.t 37)⟩), (.fl, ⟨(some 39), none, .load true 3 (.t 38)⟩), (.eff, ⟨(some 3), none, .alloc [(.int .i64 (0)), (.str []), (.int .i64 (0))]⟩), (.efo, ⟨none, none, .store 3 (.t 3) (.t 39)⟩)])
  (.keep [0, 2, 3] (.seq (.reg [⟨(some 40), none, .mv (.t 0)⟩, ⟨(some 41), none, .nilchk (.t 40)⟩, ⟨(some 42), none, .fa 1 (.t 41)⟩, ⟨(some 43), none, .load false 1 (.t 42)⟩, ⟨(some 44), none, .bin .add (.t 43) (.c (.int .i64 (1)))⟩, ⟨(some 45), none, .nilchk (.t 40)⟩, ⟨(some 46), none, .fa 1 (.t 45)⟩, ⟨none, none, .store 1 (.t 46) (.t 44)⟩])
  (.keep [2, 3] (.seq (.reg [⟨(some 47), none, .fa 1 (.t 3)⟩, ⟨(some 48), none, .load false 1 (.t 47)⟩, ⟨(some 49), none, .fa 2 (.t 3)⟩, ⟨(some 50), none, .load false 1 (.t 49)⟩, ⟨(some 51), none, .bld [(.str []), (.int .i64 (0))] [(0, 1, (.t 48)), (1, 1, (.t 50))]⟩, ⟨none, none, .store 2 (.t 2) (.t 51)⟩]) .ret)))))))))⟩
def A.rules_reader_must : AFn := ⟨10, [], (.seq (.reg [⟨(some 4), none, .mv (.t 0)⟩, ⟨(some 5), none, .mv (.t 1)⟩, ⟨(some 6), none, .call (.c (.fn K.rules_reader_take [] [])) [(.t 4), (.t 5)]⟩, ⟨(some 7), none, .un .not (.t 6)⟩])
  (.keep [0, 7] (.cond (.t 7) (.reg [⟨(some 8), none, .mv (.t 0)⟩, ⟨(some 9), none, .call (.c (.fn K.rules_reader_fail [] [])) [(.t 8)]⟩]) .skip)))⟩
def A.rules_reader_alternatives.L1 : AC := .post (.seq (.seq (.reg [⟨(some 9), none, .mv (.t 0)⟩, ⟨(some 10), none, .call (.c (.fn K.rules_reader_begins [] [])) [(.t 9)]⟩])
  (.keep [0, 3, 5, 10] (.cond (.t 10) .skip (.exit 2))))
  (.keep [0, 3, 5] (.block 3 (.reg [⟨(some 11), none, .mv (.t 5)⟩, ⟨(some 12), none, .mv (.t 0)⟩, ⟨(some 13), none, .call (.c (.fn K.rules_reader_item [] [])) [(.t 12)]⟩, ⟨(some 14), none, .bsl 1 false [(.int .i64 (0))] 1 [(0, (.t 13))]⟩, ⟨(some 15), none, .app 1 8 (.t 11) (.t 14)⟩, ⟨(some 5), none, .mv (.t 15)⟩])))) [0, 3, 5]
def A.rules_reader_alternatives.L0 : AC := .post (.seq (.seq (.reg [⟨(some 6), none, .mv (.t 4)⟩])
  (.keep [0, 3, 6] (.cond (.t 6) .skip (.exit 0))))
  (.keep [0, 3] (.seq (.block 1 (.seq (.reg [⟨(some 5), none, .mv (.c (.sl 0 1 []))⟩])
  (.keep [0, 3, 5] (.seq (.block 2 (.loop A.rules_reader_alternatives.L1))
  (.keep [0, 3, 5] (.reg [⟨(some 16), none, .mv (.t 3)⟩, ⟨(some 17), none, .mv (.t 0)⟩, ⟨(some 18), none, .mv (.t 5)⟩, ⟨(some 19), none, .call (.c (.fn K.rules_reader_one [] [])) [(.t 17), (.c (.int .i64 (1))), (.t 18)]⟩, ⟨(some 20), none, .bsl 1 false [(.int .i64 (0))] 1 [(0, (.t 19))]⟩, ⟨(some 21), none, .app 1 8 (.t 16) (.t 20)⟩, ⟨(some 3), none, .mv (.t 21)⟩]))))))
  (.keep [0, 3] (.reg [⟨(some 7), none, .mv (.t 0)⟩, ⟨(some 8), none, .call (.c (.fn K.rules_reader_take [] [])) [(.t 7), (.c (.str [124]))]⟩, ⟨(some 4), none, .mv (.t 8)⟩]))))) [0, 3, 4]
def A.rules_reader_alternatives : AFn := ⟨25, [(2, none)], (.seq (.reg [⟨(some 2), none, .mv (.c (.int .i64 (0)))⟩])
  (.keep [0] (.seq (.reg [⟨(some 3), none, .mv (.c (.sl 0 1 []))⟩])
  (.keep [0, 3] (.seq (.seq (.reg [⟨(some 4), none, .mv (.c (.bool true))⟩])
  (.keep [0, 3, 4] (.block 0 (.loop A.rules_reader_alternatives.L0))))
  (.keep [0, 3] (.seq (.reg [⟨(some 22), none, .mv (.t 0)⟩, ⟨(some 23), none, .mv (.t 3)⟩, ⟨(some 24), none, .call (.c (.fn K.rules_reader_one [] [])) [(.t 22), (.c (.int .i64 (2))), (.t 23)]⟩, ⟨(some 2), none, .mv (.t 24)⟩]) .ret)))))))⟩
def A.rules_reader_take : AFn := ⟨18, [(4, none)], (.seq (.reg [⟨(some 4), none, .mv (.c (.bool false))⟩])
  (.keep [0, 1] (.seq (.reg [⟨(some 6), none, .mv (.t 0)⟩, ⟨(some 7), none, .mv (.t 1)⟩, ⟨(some 8), none, .call (.c (.fn K.rules_reader_ahead [] [])) [(.t 6), (.t 7)]⟩, ⟨(some 5), none, .mv (.t 8)⟩])
  (.keep [0, 5] (.seq (.seq (.reg [⟨(some 9), none, .mv (.t 5)⟩])
  (.keep [0, 5, 9] (.cond (.t 9) (.reg [⟨(some 10), none, .mv (.t 0)⟩, ⟨(some 11), none, .nilchk (.t 10)⟩, ⟨(some 12), none, .fa 1 (.t 11)⟩, ⟨(some 13), none, .load false 1 (.t 12)⟩, ⟨(some 14), none, .bin .add (.t 13) (.c (.int .i64 (1)))⟩, ⟨(some 15), none, .nilchk (.t 10)⟩, ⟨(some 16), none, .fa 1 (.t 15)⟩, ⟨none, none, .store 1 (.t 16) (.t 14)⟩]) .skip)))
  (.keep [5] (.seq (.reg [⟨(some 17), none, .mv (.t 5)⟩, ⟨(some 4), none, .mv (.t 17)⟩]) .ret)))))))⟩
def A.rules_reader_begins : AFn := ⟨31, [(2, none)], (.seq (.reg [⟨(some 2), none, .mv (.c (.bool false))⟩])
  (.keep [0] (.seq (.draw [(.pl, ⟨(some 3), none, .mv (.t 0)⟩), (.pl, ⟨(some 4), none, .nilchk (.t 3)⟩), (.pl, ⟨(some 5), none, .fa 1 (.t 4)⟩), (.pl, ⟨(some 6), none, .load false 1 (.t 5)⟩), (.pl, ⟨(some 7), none, .mv (.t 0)⟩), (.pl, ⟨(some 8), none, .nilchk (.t 7)⟩), (.pl, ⟨(some 9), none, .fa 0 (.t 8)⟩), (.pl, ⟨(some 10), none, .load false 1 (.t 9)⟩), (.pl, ⟨(some 11), none, .len false (.t 10)⟩), (.pl, ⟨(some 12), none, .bin .lss (.t 6) (.t 11)⟩), (.pl, ⟨(some 13), none, .mv (.t 12)⟩), (.pl, ⟨(some 14), (some (13, true)), .mv (.t 0)⟩), (.pl, ⟨(some 15), (some (13, true)), .nilchk (.t 14)⟩), (.pl, ⟨(some 16), (some (13, true)), .fa 0 (.t 15)⟩), (.pl, ⟨(some 17), (some (13, true)), .load false 1 (.t 16)⟩), (.pl, ⟨(some 18), (some (13, true)), .mv (.t 0)⟩), (.pl, ⟨(some 19), (some (13, true)), .nilchk (.t 18)⟩), (.pl, ⟨(some 20), (some (13, true)), .fa 1 (.t 19)⟩), (.pl, ⟨(some 21), (some (13, true)), .load false 1 (.t 20)⟩), (.pl, ⟨(some 22), (some (13, true)), .ia 3 (.t 17) (.t 21)⟩), (.pl, ⟨(some 23), (some (13, true)), .fa 0 (.t 22)⟩), (.pl, ⟨(some 24), (some (13, true)), .load false 1 (.t 23)⟩), (.pl, ⟨(some 25), (some (13, true)), .bin .neq (.t 24) (.c (.int .i64 (3)))⟩), (.pl, ⟨(some 26), (some (13, true)), .mv (.t 25)⟩), (.pl, ⟨(some 27), (some (26, false)), .mv (.t 0)⟩), (.pl, ⟨(some 28), (some (26, false)), .call (.c (.fn K.rules_reader_ahead [] [])) [(.t 27), (.c (.str [40]))]⟩), (.pl, ⟨(some 29), (some (13, true)), .pick (.t 26) (.c (.bool true)) (.t 28)⟩), (.pl, ⟨(some 30), none, .pick (.t 13) (.t 29) (.c (.bool false))⟩), (.pl, ⟨(some 2), none, .mv (.t 30)⟩)]) .ret)))⟩
def A.rules_reader_item : AFn := ⟨28, [(2, none)], (.seq (.reg [⟨(some 2), none, .mv (.c (.int .i64 (0)))⟩])
  (.keep [0] (.seq (.reg [⟨(some 4), none, .mv (.t 0)⟩, ⟨(some 5), none, .call (.c (.fn K.rules_reader_atom [] [])) [(.t 4)]⟩, ⟨(some 3), none, .mv (.t 5)⟩])
  (.keep [0, 3] (.seq (.block 0 (.seq (.reg [⟨(some 7), none, .mv (.t 0)⟩, ⟨(some 8), none, .call (.c (.fn K.rules_reader_take [] [])) [(.t 7), (.c (.str [42]))]⟩, ⟨(some 6), none, .mv (.t 8)⟩])
  (.keep [0, 3, 6] (.cond (.t 6) (.seq (.reg [⟨(some 9), none, .mv (.t 0)⟩, ⟨(some 10), none, .mv (.t 3)⟩, ⟨(some 11), none, .bsl 1 false [(.int .i64 (0))] 1 [(0, (.t 10))]⟩, ⟨(some 12), none, .call (.c (.fn K.rules_reader_node [] [])) [(.t 9), (.c (.int .i64 (3))), (.c (.str [])), (.t 11)]⟩, ⟨(some 2), none, .mv (.t 12)⟩]) .ret) (.seq (.reg [⟨(some 14), none, .mv (.t 0)⟩, ⟨(some 15), none, .call (.c (.fn K.rules_reader_take [] [])) [(.t 14), (.c (.str [43]))]⟩, ⟨(some 13), none, .mv (.t 15)⟩])
  (.keep [0, 3, 13] (.cond (.t 13) (.seq (.reg [⟨(some 16), none, .mv (.t 0)⟩, ⟨(some 17), none, .mv (.t 3)⟩, ⟨(some 18), none, .bsl 1 false [(.int .i64 (0))] 1 [(0, (.t 17))]⟩, ⟨(some 19), none, .call (.c (.fn K.rules_reader_node [] [])) [(.t 16), (.c (.int .i64 (4))), (.c (.str [])), (.t 18)]⟩, ⟨(some 2), none, .mv (.t 19)⟩]) .ret) (.seq (.reg [⟨(some 21), none, .mv (.t 0)⟩, ⟨(some 22), none, .call (.c (.fn K.rules_reader_take [] [])) [(.t 21), (.c (.str [63]))]⟩, ⟨(some 20), none, .mv (.t 22)⟩])
  (.keep [0, 3, 20] (.cond (.t 20) (.seq (.reg [⟨(some 23), none, .mv (.t 0)⟩, ⟨(some 24), none, .mv (.t 3)⟩, ⟨(some 25), none, .bsl 1 false [(.int .i64 (0))] 1 [(0, (.t 24))]⟩, ⟨(some 26), none, .call (.c (.fn K.rules_reader_node [] [])) [(.t 23), (.c (.int .i64 (5))), (.c (.str [])), (.t 25)]⟩, ⟨(some 2), none, .mv (.t 26)⟩]) .ret) .skip))))))))))
  (.keep [3] (.seq (.reg [⟨(some 27), none, .mv (.t 3)⟩, ⟨(some 2), none, .mv (.t 27)⟩]) .ret)))))))⟩
def A.rules_reader_one : AFn := ⟨17, [(6, none)], (.seq (.reg [⟨(some 6), none, .mv (.c (.int .i64 (0)))⟩])
  (.keep [0, 1, 2] (.seq (.seq (.reg [⟨(some 7), none, .mv (.t 2)⟩, ⟨(some 8), none, .len false (.t 7)⟩, ⟨(some 9), none, .bin .eql (.t 8) (.c (.int .i64 (1)))⟩])
  (.keep [0, 1, 2, 9] (.cond (.t 9) (.seq (.reg [⟨(some 10), none, .mv (.t 2)⟩, ⟨(some 11), none, .ia 1 (.t 10) (.c (.int .i64 (0)))⟩, ⟨(some 12), none, .load false 1 (.t 11)⟩, ⟨(some 6), none, .mv (.t 12)⟩]) .ret) .skip)))
  (.keep [0, 1, 2] (.seq (.reg [⟨(some 13), none, .mv (.t 0)⟩, ⟨(some 14), none, .mv (.t 1)⟩, ⟨(some 15), none, .mv (.t 2)⟩, ⟨(some 16), none, .call (.c (.fn K.rules_reader_node [] [])) [(.t 13), (.t 14), (.c (.str [])), (.t 15)]⟩, ⟨(some 6), none, .mv (.t 16)⟩]) .ret)))))⟩
def A.rules_reader_ahead : AFn := ⟨44, [(4, none)], (.seq (.reg [⟨(some 4), none, .mv (.c (.bool false))⟩])
  (.keep [0, 1] (.seq (.draw [(.pl, ⟨(some 5), none, .mv (.t 0)⟩), (.pl, ⟨(some 6), none, .nilchk (.t 5)⟩), (.pl, ⟨(some 7), none, .fa 1 (.t 6)⟩), (.pl, ⟨(some 8), none, .load false 1 (.t 7)⟩), (.pl, ⟨(some 9), none, .mv (.t 0)⟩), (.pl, ⟨(some 10), none, .nilchk (.t 9)⟩), (.pl, ⟨(some 11), none, .fa 0 (.t 10)⟩), (.pl, ⟨(some 12), none, .load false 1 (.t 11)⟩), (.pl, ⟨(some 13), none, .len false (.t 12)⟩), (.pl, ⟨(some 14), none, .bin .lss (.t 8) (.t 13)⟩), (.pl, ⟨(some 15), none, .mv (.t 14)⟩), (.pl, ⟨(some 16), (some (15, true)), .mv (.t 0)⟩), (.pl, ⟨(some 17), (some (15, true)), .nilchk (.t 16)⟩), (.pl, ⟨(some 18), (some (15, true)), .fa 0 (.t 17)⟩), (.pl, ⟨(some 19), (some (15, true)), .load false 1 (.t 18)⟩), (.pl, ⟨(some 20), (some (15, true)), .mv (.t 0)⟩), (.pl, ⟨(some 21), (some (15, true)), .nilchk (.t 20)⟩), (.pl, ⟨(some 22), (some (15, true)), .fa 1 (.t 21)⟩), (.pl, ⟨(some 23), (some (15, true)), .load false 1 (.t 22)⟩), (.pl, ⟨(some 24), (some (15, true)), .ia 3 (.t 19) (.t 23)⟩), (.pl, ⟨(some 25), (some (15, true)), .fa 0 (.t 24)⟩), (.pl, ⟨(some 26), (some (15, true)), .load false 1 (.t 25)⟩), (.pl, ⟨(some 27), (some (15, true)), .bin .eql (.t 26) (.c (.int .i64 (3)))⟩), (.pl, ⟨(some 28), none, .pick (.t 15) (.t 27) (.c (.bool false))⟩), (.pl, ⟨(some 29), none, .mv (.t 28)⟩), (.pl, ⟨(some 30), (some (29, true)), .mv (.t 0)⟩), (.pl, ⟨(some 31), (some (29, true)), .nilchk (.t 30)⟩), (.pl, ⟨(some 32), (some (29, true)), .fa 0 (.t 31)⟩), (.pl, ⟨(some 33), (some (29, true)), .load false 1 (.t 32)⟩), (.pl, ⟨(some 34), (some (29, true)), .mv (.t 0)⟩), (.pl, ⟨(some 35), (some (29, true)), .nilchk (.t 34)⟩), (.pl, ⟨(some 36), (some (29, true)), .fa 1 (.t 35)⟩), (.pl, ⟨(some 37), (some (29, true)), .load false 1 (.t 36)⟩), (.pl, ⟨(some 38), (some (29, true)), .ia 3 (.t 33) (.t 37)⟩), (.pl, ⟨(some 39), (some (29, true)), .fa 1 (.t 38)⟩), (.pl, ⟨(some 40), (some (29, true)), .load false 1 (.t 39)⟩), (.pl, ⟨(some 41), (some (29, true)), .mv (.t 1)⟩), (.pl, ⟨(some 42), (some (29, true)), .bin .eql (.t 40) (.t 41)⟩), (.pl, ⟨(some 43), none, .pick (.t 29) (.t 42) (.c (.bool false))⟩), (.pl, ⟨(some 4), none, .mv (.t 43)⟩)]) .ret)))⟩
def A.rules_reader_atom : AFn := ⟨53, [(2, none)], (.seq (.reg [⟨(some 2), none, .mv (.c (.int .i64 (0)))⟩])
  (.keep [0] (.seq (.seq (.reg [⟨(some 6), none, .mv (.t 0)⟩, ⟨(some 7), none, .call (.c (.fn K.rules_reader_take [] [])) [(.t 6), (.c (.str [40]))]⟩])
  (.keep [0, 7] (.cond (.t 7) (.seq (.reg [⟨(some 8), none, .mv (.t 0)⟩, ⟨(some 9), none, .call (.c (.fn K.rules_reader_alternatives [] [])) [(.t 8)]⟩, ⟨(some 3), none, .mv (.t 9)⟩])
  (.keep [0, 3] (.seq (.reg [⟨(some 10), none, .mv (.t 0)⟩, ⟨(some 11), none, .call (.c (.fn K.rules_reader_must [] [])) [(.t 10), (.c (.str [41]))]⟩])
  (.keep [3] (.seq (.reg [⟨(some 12), none, .mv (.t 3)⟩, ⟨(some 2), none, .mv (.t 12)⟩]) .ret))))) .skip)))
  (.keep [0] (.seq (.seq (.draw [(.pl, ⟨(some 13), none, .mv (.t 0)⟩), (.pl, ⟨(some 14), none, .nilchk (.t 13)⟩), (.pl, ⟨(some 15), none, .fa 0 (.t 14)⟩), (.fl, ⟨(some 16), none, .load false 1 (.t 15)⟩), (.pl, ⟨(some 17), none, .mv (.t 0)⟩), (.pl, ⟨(some 18), none, .nilchk (.t 17)⟩), (.pl, ⟨(some 19), none, .fa 1 (.t 18)⟩), (.fl, ⟨(some 20), none, .load false 1 (.t 19)⟩), (.pl, ⟨(some 21), none, .ia 3 (.t 16) (.t 20)⟩), (.fl, ⟨(some 22), none, .load true 3 (.t 21)⟩), (.eff, ⟨(some 4), none, .alloc [(.int .i64 (0)), (.str []), (.int .i64 (0))]⟩), (.efo, ⟨none, none, .store 3 (.t 4) (.t 22)⟩)])
  (.keep [0, 4] (.seq (.reg [⟨(some 23), none, .fa 0 (.t 4)⟩, ⟨(some 24), none, .load false 1 (.t 23)⟩, ⟨(some 25), none, .bin .eql (.t 24) (.c (.int .i64 (2)))⟩])
  (.keep [0, 4, 25] (.cond (.t 25) (.seq (.reg [⟨(some 26), none, .mv (.t 0)⟩, ⟨(some 27), none, .nilchk (.t 26)⟩, ⟨(some 28), none, .fa 1 (.t 27)⟩, ⟨(some 29), none, .load false 1 (.t 28)⟩, ⟨(some 30), none, .bin .add (.t 29) (.c (.int .i64 (1)))⟩, ⟨(some 31), none, .nilchk (.t 26)⟩, ⟨(some 32), none, .fa 1 (.t 31)⟩, ⟨none, none, .store 1 (.t 32) (.t 30)⟩])
  (.keep [0, 4] (.seq (.reg [⟨(some 33), none, .mv (.t 0)⟩, ⟨(some 34), none, .fa 1 (.t 4)⟩, ⟨(some 35), none, .load false 1 (.t 34)⟩, ⟨(some 36), none, .call (.c (.fn K.rules_reader_node [] [])) [(.t 33), (.c (.int .i64 (7))), (.t 35), (.c (.sl 0 1 []))]⟩, ⟨(some 2), none, .mv (.t 36)⟩]) .ret))) .skip)))))
  (.keep [0] (.seq (.reg [⟨(some 37), none, .mv (.t 0)⟩, ⟨(some 38), none, .call (.c (.fn K.rules_reader_name [] [])) [(.t 37)]⟩, ⟨(some 5), none, .alloc [(.str []), (.int .i64 (0))]⟩, ⟨none, none, .store 2 (.t 5) (.t 38)⟩])
  (.keep [0, 5] (.seq (.draw [(.pl, ⟨(some 39), none, .mv (.t 0)⟩), (.pl, ⟨(some 40), none, .mv (.t 0)⟩), (.pl, ⟨(some 41), none, .nilchk (.t 40)⟩), (.pl, ⟨(some 42), none, .fa 6 (.t 41)⟩), (.pl, ⟨(some 43), none, .load false 1 (.t 42)⟩), (.pl, ⟨(some 44), none, .load true 2 (.t 5)⟩), (.pl, ⟨(some 45), none, .bsl 2 true [(.str []), (.int .i64 (0))] 1 [(0, (.t 44))]⟩), (.eff, ⟨(some 46), none, .app 2 24 (.t 43) (.t 45)⟩), (.pl, ⟨(some 47), none, .nilchk (.t 39)⟩), (.pl, ⟨(some 48), none, .fa 6 (.t 47)⟩), (.eff, ⟨none, none, .store 1 (.t 48) (.t 46)⟩)])
  (.keep [0, 5] (.seq (.reg [⟨(some 49), none, .mv (.t 0)⟩, ⟨(some 50), none, .fa 0 (.t 5)⟩, ⟨(some 51), none, .load false 1 (.t 50)⟩, ⟨(some 52), none, .call (.c (.fn K.rules_reader_node [] [])) [(.t 49), (.c (.int .i64 (6))), (.t 51), (.c (.sl 0 1 []))]⟩, ⟨(some 2), none, .mv (.t 52)⟩]) .ret)))))))))))⟩
def A.rules_reader_node : AFn := ⟨31, [(8, none)], (.seq (.reg [⟨(some 8), none, .mv (.c (.int .i64 (0)))⟩])
  (.keep [0, 1, 2, 3] (.seq (.reg [⟨(some 9), none, .mv (.t 0)⟩, ⟨(some 10), none, .mv (.t 0)⟩, ⟨(some 11), none, .nilchk (.t 10)⟩, ⟨(some 12), none, .fa 3 (.t 11)⟩, ⟨(some 13), none, .fa 1 (.t 12)⟩, ⟨(some 14), none, .load false 1 (.t 13)⟩, ⟨(some 15), none, .mv (.t 1)⟩, ⟨(some 16), none, .mv (.t 2)⟩, ⟨(some 17), none, .mv (.t 3)⟩, ⟨(some 18), none, .bld [(.int .i64 (0)), (.str []), (.sl 0 1 [])] [(0, 1, (.t 15)), (1, 1, (.t 16)), (2, 1, (.t 17))]⟩, ⟨(some 19), none, .bsl 3 true [(.int .i64 (0)), (.str []), (.sl 0 1 [])] 1 [(0, (.t 18))]⟩, ⟨(some 20), none, .app 3 48 (.t 14) (.t 19)⟩, ⟨(some 21), none, .nilchk (.t 9)⟩, ⟨(some 22), none, .fa 3 (.t 21)⟩, ⟨(some 23), none, .fa 1 (.t 22)⟩, ⟨none, none, .store 1 (.t 23) (.t 20)⟩])
  (.keep [0] (.seq (.reg [⟨(some 24), none, .mv (.t 0)⟩, ⟨(some 25), none, .nilchk (.t 24)⟩, ⟨(some 26), none, .fa 3 (.t 25)⟩, ⟨(some 27), none, .fa 1 (.t 26)⟩, ⟨(some 28), none, .load false 1 (.t 27)⟩, ⟨(some 29), none, .len false (.t 28)⟩, ⟨(some 30), none, .bin .sub (.t 29) (.c (.int .i64 (1)))⟩, ⟨(some 8), none, .mv (.t 30)⟩]) .ret)))))⟩
def A.rules_Tree_fine : AFn := ⟨68, [(4, none)], (.seq (.reg [⟨(some 2), none, .box (.t 0)⟩, ⟨(some 3), none, .box (.t 1)⟩, ⟨(some 4), none, .mv (.c (.bool false))⟩])
  (.keep [2, 3] (.seq (.reg [⟨(some 6), none, .fa 2 (.t 3)⟩, ⟨(some 7), none, .load false 1 (.t 6)⟩, ⟨(some 8), none, .len false (.t 7)⟩, ⟨(some 5), none, .mv (.t 8)⟩])
  (.keep [2, 3, 5] (.seq (.seq (.reg [⟨(some 9), none, .fa 0 (.t 3)⟩, ⟨(some 10), none, .load false 1 (.t 9)⟩])
  (.keep [2, 3, 5, 10] (.block 0 (.seq (.reg [⟨(some 12), none, .bin .eql (.t 10) (.c (.int .i64 (1)))⟩, ⟨(some 11), none, .mv (.t 12)⟩])
  (.keep [2, 3, 5, 10, 11] (.cond (.t 11) (.seq (.reg [⟨(some 13), none, .fa 1 (.t 3)⟩, ⟨(some 14), none, .load false 1 (.t 13)⟩, ⟨(some 15), none, .bin .eql (.t 14) (.c (.str []))⟩, ⟨(some 16), none, .mv (.t 15)⟩, ⟨(some 17), (some (16, true)), .mv (.t 5)⟩, ⟨(some 18), (some (16, true)), .bin .neq (.t 17) (.c (.int .i64 (1)))⟩, ⟨(some 19), none, .pick (.t 16) (.t 18) (.c (.bool false))⟩, ⟨(some 4), none, .mv (.t 19)⟩]) .ret) (.seq (.reg [⟨(some 21), none, .bin .eql (.t 10) (.c (.int .i64 (2)))⟩, ⟨(some 20), none, .mv (.t 21)⟩])
  (.keep [2, 3, 5, 10, 20] (.cond (.t 20) (.seq (.reg [⟨(some 22), none, .fa 1 (.t 3)⟩, ⟨(some 23), none, .load false 1 (.t 22)⟩, ⟨(some 24), none, .bin .eql (.t 23) (.c (.str []))⟩, ⟨(some 25), none, .mv (.t 24)⟩, ⟨(some 26), (some (25, true)), .mv (.t 5)⟩, ⟨(some 27), (some (25, true)), .bin .gtr (.t 26) (.c (.int .i64 (1)))⟩, ⟨(some 28), none, .pick (.t 25) (.t 27) (.c (.bool false))⟩, ⟨(some 4), none, .mv (.t 28)⟩]) .ret) (.seq (.seq (.reg [⟨(some 30), none, .bin .eql (.t 10) (.c (.int .i64 (3)))⟩, ⟨(some 29), none, .mv (.t 30)⟩])
  (.keep [2, 3, 5, 10, 29] (.cond (.t 29) .skip (.seq (.reg [⟨(some 31), none, .bin .eql (.t 10) (.c (.int .i64 (4)))⟩, ⟨(some 29), none, .mv (.t 31)⟩])
  (.keep [2, 3, 5, 10, 29] (.cond (.t 29) .skip (.reg [⟨(some 32), none, .bin .eql (.t 10) (.c (.int .i64 (5)))⟩, ⟨(some 29), none, .mv (.t 32)⟩])))))))
  (.keep [2, 3, 5, 10, 29] (.cond (.t 29) (.seq (.reg [⟨(some 33), none, .fa 1 (.t 3)⟩, ⟨(some 34), none, .load false 1 (.t 33)⟩, ⟨(some 35), none, .bin .eql (.t 34) (.c (.str []))⟩, ⟨(some 36), none, .mv (.t 35)⟩, ⟨(some 37), (some (36, true)), .mv (.t 5)⟩, ⟨(some 38), (some (36, true)), .bin .eql (.t 37) (.c (.int .i64 (1)))⟩, ⟨(some 39), none, .pick (.t 36) (.t 38) (.c (.bool false))⟩, ⟨(some 4), none, .mv (.t 39)⟩]) .ret) (.seq (.reg [⟨(some 41), none, .bin .eql (.t 10) (.c (.int .i64 (6)))⟩, ⟨(some 40), none, .mv (.t 41)⟩])
  (.keep [2, 3, 5, 10, 40] (.cond (.t 40) (.seq (.reg [⟨(some 42), none, .mv (.t 5)⟩, ⟨(some 43), none, .bin .eql (.t 42) (.c (.int .i64 (0)))⟩, ⟨(some 44), none, .mv (.t 43)⟩, ⟨(some 45), (some (44, true)), .fa 0 (.t 2)⟩, ⟨(some 46), (some (44, true)), .load false 1 (.t 45)⟩, ⟨(some 47), (some (44, true)), .mkfn K.rules_Tree_fine_1 [] [(.t 3)]⟩, ⟨(some 48), (some (44, true)), .call (.c (.fn K.slices_ContainsFunc_Rule [] [])) [(.t 46), (.t 47)]⟩, ⟨(some 49), none, .pick (.t 44) (.t 48) (.c (.bool false))⟩, ⟨(some 4), none, .mv (.t 49)⟩]) .ret) (.seq (.reg [⟨(some 51), none, .bin .eql (.t 10) (.c (.int .i64 (7)))⟩, ⟨(some 50), none, .mv (.t 51)⟩])
  (.keep [3, 5, 50] (.cond (.t 50) (.seq (.reg [⟨(some 52), none, .mv (.t 5)⟩, ⟨(some 53), none, .bin .eql (.t 52) (.c (.int .i64 (0)))⟩, ⟨(some 54), none, .mv (.t 53)⟩, ⟨(some 55), (some (54, true)), .fa 1 (.t 3)⟩, ⟨(some 56), (some (54, true)), .load false 1 (.t 55)⟩, ⟨(some 57), (some (54, true)), .s2b (.t 56)⟩, ⟨(some 58), (some (54, true)), .call (.c (.fn K.slices_Contains_byte [] [])) [(.t 57), (.c (.int .u8 (39)))]⟩, ⟨(some 59), (some (54, true)), .un .not (.t 58)⟩, ⟨(some 60), none, .pick (.t 54) (.t 59) (.c (.bool false))⟩, ⟨(some 61), none, .mv (.t 60)⟩, ⟨(some 62), (some (61, true)), .fa 1 (.t 3)⟩, ⟨(some 63), (some (61, true)), .load false 1 (.t 62)⟩, ⟨(some 64), (some (61, true)), .bin .add (.c (.str [39])) (.t 63)⟩, ⟨(some 65), (some (61, true)), .bin .add (.t 64) (.c (.str [39]))⟩, ⟨(some 66), (some (61, true)), .call (.c (.fn K.rules_token [] [])) [(.t 65), (.c (.int .i64 (2)))]⟩, ⟨(some 67), none, .pick (.t 61) (.t 66) (.c (.bool false))⟩, ⟨(some 4), none, .mv (.t 67)⟩]) .ret) .skip))))))))))))))))))
  (.keep [] (.seq (.reg [⟨(some 4), none, .mv (.c (.bool false))⟩]) .ret)))))))⟩
def A.rules_reader_names.L0 : AC := .post (.seq (.reg [⟨(some 16), none, .bin .lss (.t 15) (.t 14)⟩])
  (.keep [0, 4, 13, 14, 15, 16] (.seq (.cond (.t 16) .skip (.exit 0))
  (.keep [0, 4, 13, 14, 15] (.seq (.block 1 (.seq (.reg [⟨(some 17), none, .ia 2 (.t 13) (.t 15)⟩, ⟨(some 18), none, .load true 2 (.t 17)⟩, ⟨(some 6), none, .alloc [(.str []), (.int .i64 (0))]⟩, ⟨none, none, .store 2 (.t 6) (.t 18)⟩])
  (.keep [0, 4, 6, 13, 14, 15] (.seq (.reg [⟨(some 19), none, .mv (.t 4)⟩, ⟨(some 20), none, .fa 0 (.t 6)⟩, ⟨(some 21), none, .load false 1 (.t 20)⟩, ⟨(some 22), none, .lkp .s (.int .i64 (0)) false (.t 19) (.t 21)⟩, ⟨(some 23), none, .bin .add (.t 22) (.c (.int .i64 (1)))⟩, ⟨none, none, .mupd .s (.t 19) (.t 21) (.t 23)⟩])
  (.keep [0, 4, 6, 13, 14, 15] (.seq (.reg [⟨(some 24), none, .mv (.t 4)⟩, ⟨(some 25), none, .fa 0 (.t 6)⟩, ⟨(some 26), none, .load false 1 (.t 25)⟩, ⟨(some 27), none, .lkp .s (.int .i64 (0)) false (.t 24) (.t 26)⟩, ⟨(some 28), none, .bin .gtr (.t 27) (.c (.int .i64 (1)))⟩])
  (.keep [0, 4, 6, 13, 14, 15, 28] (.cond (.t 28) (.seq (.reg [⟨(some 29), none, .fa 1 (.t 6)⟩, ⟨(some 30), none, .load false 1 (.t 29)⟩, ⟨(some 2), none, .mv (.t 30)⟩, ⟨(some 3), none, .mv (.c (.int .i64 (7)))⟩]) .ret) .skip))))))))
  (.keep [0, 4, 13, 14, 15] (.reg [⟨(some 31), none, .bin .add (.t 15) (.c (.int .i64 (1)))⟩, ⟨(some 15), none, .mv (.t 31)⟩]))))))) [0, 4, 13, 14, 15]
def A.rules_reader_names.L1 : AC := .post (.seq (.reg [⟨(some 38), none, .bin .lss (.t 37) (.t 36)⟩])
  (.keep [4, 35, 36, 37, 38] (.seq (.cond (.t 38) .skip (.exit 2))
  (.keep [4, 35, 36, 37] (.seq (.block 3 (.seq (.reg [⟨(some 39), none, .ia 2 (.t 35) (.t 37)⟩, ⟨(some 40), none, .load true 2 (.t 39)⟩, ⟨(some 8), none, .alloc [(.str []), (.int .i64 (0))]⟩, ⟨none, none, .store 2 (.t 8) (.t 40)⟩])
  (.keep [4, 8, 35, 36, 37] (.seq (.reg [⟨(some 41), none, .mv (.t 4)⟩, ⟨(some 42), none, .fa 0 (.t 8)⟩, ⟨(some 43), none, .load false 1 (.t 42)⟩, ⟨(some 44), none, .lkp .s (.int .i64 (0)) false (.t 41) (.t 43)⟩, ⟨(some 45), none, .bin .eql (.t 44) (.c (.int .i64 (0)))⟩])
  (.keep [4, 8, 35, 36, 37, 45] (.cond (.t 45) (.seq (.reg [⟨(some 46), none, .fa 1 (.t 8)⟩, ⟨(some 47), none, .load false 1 (.t 46)⟩, ⟨(some 2), none, .mv (.t 47)⟩, ⟨(some 3), none, .mv (.c (.int .i64 (6)))⟩]) .ret) .skip))))))
  (.keep [4, 35, 36, 37] (.reg [⟨(some 48), none, .bin .add (.t 37) (.c (.int .i64 (1)))⟩, ⟨(some 37), none, .mv (.t 48)⟩]))))))) [4, 35, 36, 37]
def A.rules_reader_names : AFn := ⟨49, [(2, none), (3, none)], (.seq (.reg [⟨(some 2), none, .mv (.c (.int .i64 (0)))⟩, ⟨(some 3), none, .mv (.c (.int .i64 (0)))⟩])
  (.keep [0] (.seq (.reg [⟨(some 9), none, .mkm⟩, ⟨(some 4), none, .mv (.t 9)⟩])
  (.keep [0, 4] (.seq (.seq (.reg [⟨(some 10), none, .mv (.t 0)⟩, ⟨(some 11), none, .nilchk (.t 10)⟩, ⟨(some 12), none, .fa 5 (.t 11)⟩, ⟨(some 13), none, .load false 1 (.t 12)⟩, ⟨(some 14), none, .len false (.t 13)⟩, ⟨(some 15), none, .mv (.c (.int .i64 (0)))⟩])
  (.keep [0, 4, 13, 14, 15] (.block 0 (.loop A.rules_reader_names.L0))))
  (.keep [0, 4] (.seq (.seq (.reg [⟨(some 32), none, .mv (.t 0)⟩, ⟨(some 33), none, .nilchk (.t 32)⟩, ⟨(some 34), none, .fa 6 (.t 33)⟩, ⟨(some 35), none, .load false 1 (.t 34)⟩, ⟨(some 36), none, .len false (.t 35)⟩, ⟨(some 37), none, .mv (.c (.int .i64 (0)))⟩])
  (.keep [4, 35, 36, 37] (.block 2 (.loop A.rules_reader_names.L1))))
  (.keep [] (.seq (.reg [⟨(some 2), none, .mv (.c (.int .i64 (0)))⟩, ⟨(some 3), none, .mv (.c (.int .i64 (0)))⟩]) .ret)))))))))⟩
end Go.Proofs.Ytmobijebjkjnoaa.Al
