/-
  Layer 3, gram: the grammar of bytes, by the abstract layer. Conditions: each theorem's own.
-/
import Derived.Test.YtbbmglginkabfaaGram2
namespace Go.Proofs.Ytbbmglginkabfaa.Al
open Go Go.RowKit
set_option linter.unusedSimpArgs false
set_option linter.unusedVariables false
attribute [-simp] List.getD_eq_getElem?_getD Int.not_lt Int.not_le List.map_take

/-! ### Steps -/
def nSym (n : Nat) : Sy := ⟨decide (n % 2 = 1), ((n / 2 : Nat) : Int)⟩
def stepS : Step Sy := stepMap nSym (fun l e => rnum l e 47)
def mkP (p : Nat × List Sy) : Pr := ⟨((p.1 : Nat) : Int), p.2⟩
def unP (p : Pr) : Nat × List Sy := (p.left.toNat, p.right)
def mkG (p : Nat × Nat × Nat × List Pr) : Gm := ⟨((p.1 : Nat) : Int), ((p.2.1 : Nat) : Int), ((p.2.2.1 : Nat) : Int), p.2.2.2⟩
def unG (g : Gm) : Nat × Nat × Nat × List Pr := (g.terms.toNat, g.nons.toNat, g.start.toNat, g.prods)
def stepP : Step Pr := stepMap mkP (seq2 (fun l e => rnum l e 23) (rread stepS 8))
def stepG : Step Gm := stepMap mkG (seq2 (fun l e => rnum l e 16) (seq2 (fun l e => rnum l e 24) (seq2 (fun l e => rnum l e 23) (rread stepP 60))))
def okS (s : Sy) : Prop := 0 ≤ s.n ∧ s.n ≤ 23
def okP (p : Pr) : Prop := (0 ≤ p.left ∧ p.left ≤ 23) ∧ p.right.length ≤ 8 ∧ ∀ s ∈ p.right, okS s
def okG (g : Gm) : Prop := (0 ≤ g.terms ∧ g.terms ≤ 16) ∧ (0 ≤ g.nons ∧ g.nons ≤ 24) ∧ (0 ≤ g.start ∧ g.start ≤ 23) ∧ g.prods.length ≤ 60 ∧ ∀ p ∈ g.prods, okP p
theorem nSym_symN {s : Sy} (h : okS s) : nSym (symN s) = s := by
  obtain ⟨b, n⟩ := s
  obtain ⟨h1, h2⟩ := h
  simp only at h1 h2
  cases b
  · simp only [nSym, symN]; simp; omega
  · simp only [nSym, symN]; simp; omega
theorem symN_nSym (n : Nat) : symN (nSym n) = n := by
  simp only [nSym, symN, Int.toNat_natCast, decide_eq_true_eq]
  split <;> omega
theorem canonS : Canon stepS symB okS :=
  ((canon_num 47 (by omega)).map nSym symN okS (fun n hn => ⟨⟨by simp [nSym]; omega, by simp [nSym]; omega⟩, symN_nSym n⟩) (fun s hs => ⟨by obtain ⟨b, n⟩ := s; obtain ⟨h1, h2⟩ := hs; simp only at h1 h2; simp only [symN]; split <;> omega, nSym_symN hs⟩))
theorem canonP : Canon stepP prB okP :=
  ((canon_num 23 (by omega)).seq (canonS.rread 8 (by omega))).map mkP unP okP
    (fun p hp => ⟨⟨⟨by simp [mkP], by have := hp.1; simp [mkP]; omega⟩, hp.2.1, hp.2.2⟩, by simp [mkP, unP]⟩)
    (fun p hp => by
      obtain ⟨l, r⟩ := p
      obtain ⟨⟨h1, h2⟩, h3, h4⟩ := hp
      simp only at h1 h2
      exact ⟨⟨by simp [unP]; omega, h3, h4⟩, by simp [mkP, unP]; omega⟩)
theorem canonG : Canon stepG gmB okG :=
  ((canon_num 16 (by omega)).seq ((canon_num 24 (by omega)).seq ((canon_num 23 (by omega)).seq (canonP.rread 60 (by omega))))).map mkG unG okG
    (fun p hp => by
      obtain ⟨a, b, c, d⟩ := p
      obtain ⟨h1, h2, h3, h4, h5⟩ := hp
      simp only at h1 h2 h3
      exact ⟨⟨⟨by simp [mkG], by simp [mkG]; omega⟩, ⟨by simp [mkG], by simp [mkG]; omega⟩, ⟨by simp [mkG], by simp [mkG]; omega⟩, h4, h5⟩, by simp [mkG, unG]⟩)
    (fun g hg => by
      obtain ⟨t, n, s, p⟩ := g
      obtain ⟨h1, h2, h3, h4, h5⟩ := hg
      simp only at h1 h2 h3
      exact ⟨⟨by simp [unG]; omega, by simp [unG]; omega, by simp [unG]; omega, h4, h5⟩, by simp [mkG, unG]; omega⟩)
theorem RightG.ok {g : Gm} (r : RightG g) : okG g := by
  obtain ⟨a, b, c, d, e, f, i⟩ := r.head
  refine ⟨⟨a, b⟩, ⟨by omega, d⟩, ⟨e, by omega⟩, i, fun p hp => ?_⟩
  obtain ⟨h1, h2, h3, h4⟩ := r.prods p hp
  exact ⟨⟨h1, by omega⟩, h3, fun s hs => r.sym hp hs⟩
def zeroG : Gm := ⟨0, 0, 0, []⟩
def readG (b : List Nat) : Gm × Int :=
  if rend (stepG b 0).2.1 (stepG b 0).2.2 ≠ 0 then (zeroG, rend (stepG b 0).2.1 (stepG b 0).2.2) else if rightG (stepG b 0).1 = false then (zeroG, 2) else ((stepG b 0).1, 0)
def greadV (b : List Nat) : V := .tup [gmV (readG b).1, .int .i64 (readG b).2]
/-! ### Readers that may be -/
theorem stepS_rd {l : List Nat} {e : Int} (r : Rd l e) : Rd (stepS l e).2.1 (stepS l e).2.2 := rnum_rd r 47
theorem rlist_rd' {α : Type} {step : Step α} (hs : ∀ l e, Rd l e → Rd (step l e).2.1 (step l e).2.2) : ∀ (n : Nat) (l : List Nat) (e : Int), Rd l e → Rd (rlist step n l e).2.1 (rlist step n l e).2.2
  | 0, l, e, r => r
  | n + 1, l, e, r => by
    unfold rlist
    split
    · exact r
    · exact rlist_rd' hs n _ _ (hs l e r)
theorem rread_rd {α : Type} {step : Step α} (hs : ∀ l e, Rd l e → Rd (step l e).2.1 (step l e).2.2) {l : List Nat} {e : Int} (many : Nat) (r : Rd l e) : Rd (rread step many l e).2.1 (rread step many l e).2.2 :=
  rlist_rd' hs _ _ _ (rnum_rd r many)
theorem stepP_rd {l : List Nat} {e : Int} (r : Rd l e) : Rd (stepP l e).2.1 (stepP l e).2.2 := rread_rd (fun _ _ r => stepS_rd r) 8 (rnum_rd r 23)
theorem and1 : ∀ n : Nat, n ≤ 47 → bitAnd .i64 (n : Int) 1 = ((n % 2 : Nat) : Int) := by decide +kernel
theorem shr1 (n : Nat) : (n : Int).fdiv 2 = ((n / 2 : Nat) : Int) := by
  rw [Int.fdiv_eq_ediv_of_nonneg _ (by decide)]; rfl
section
variable {X : Cx} {h : AH} {Q : V → AH → Prop}
theorem sym_spec (L : LG X) {o : Nat} {l : List Nat} {e : Int} (rd : Rd l e) (hc : h.objs o = robj l e) (hQ : Q (symV (stepS l e).1) (h.set o (robj (stepS l e).2.1 (stepS l e).2.2))) : Ecx X K.gram_sym [.ptr o 0] h Q := by
  refine fn_set L.sym (h.set o (robj (stepS l e).2.1 (stepS l e).2.2)) (fun _ _ => .set _ _ (Bdd_robj _ _ _ _)) (by simp [A.gram_sym]) fun wf hb => ?_
  have ho : o < h.nobj := by have := hb (.ptr o 0) (by simp); simpa using this
  have n1 : ¬ o = h.nobj := by omega
  have n2 : ¬ h.nobj = o := by omega
  have hle := rnum_le (l := l) (e := e) 47
  simp [A.gram_sym]
  refine ecall (wnum L.r 47 rd (by omega) (by simp [n1, hc]) ?_)
  have ha := and1 (rnum l e 47).1 hle
  have hsh := shr1 (rnum l e 47).1
  have hd : decide ((((rnum l e 47).1 % 2 : Nat) : Int) = 1) = decide ((rnum l e 47).1 % 2 = 1) := by
    by_cases c : (rnum l e 47).1 % 2 = 1
    · simp [c]
    · have : ¬ (((rnum l e 47).1 % 2 : Nat) : Int) = 1 := by omega
      simp only [c, this]
  simp only [opsZ_cons, opZ_mv]
  simp [ha, hsh, hd, fillV, V.cells, V.good, setAt, n1, n2, -Int.natCast_emod, -Int.natCast_ediv]
  exact finS ((GrW.refl _).news _) (by simp) hQ
theorem list_sym_is : A.wire_List_Sym = listF 2 16 true [.bool false, .int .i64 0] := rfl
theorem list_prod_is : A.wire_List_Prod = listF 2 32 true [.int .i64 0, .sl 0 1 []] := rfl
theorem prod_spec (L : LG X) {o : Nat} {l : List Nat} {e : Int} (rd : Rd l e) (hc : h.objs o = robj l e) (hQ : Q (prV (stepP l e).1) (h.set o (robj (stepP l e).2.1 (stepP l e).2.2))) : Ecx X K.gram_prod [.ptr o 0] h Q := by
  refine fn_set L.prod (h.set o (robj (stepP l e).2.1 (stepP l e).2.2)) (fun _ _ => .set _ _ (Bdd_robj _ _ _ _)) (by simp [A.gram_prod]) fun wf hb => ?_
  have ho : o < h.nobj := by have := hb (.ptr o 0) (by simp); simpa using this
  have n1 : ¬ o = h.nobj := by omega
  have n2 : ¬ h.nobj = o := by omega
  have n3 : ¬ o = h.nobj + 1 := by omega
  have n4 : ¬ h.nobj + 1 = o := by omega
  simp [A.gram_prod]
  refine ecall (wnum L.r 23 rd (by omega) (by simp [n1, hc]) ?_)
  have rd1 := rnum_rd rd 23
  simp [fillV, V.cells, V.good, setAt, n1, n2, n3, n4]
  have hls := L.liS
  rw [list_sym_is] at hls
  refine ecall (wlist (many := 8) (ok := fun _ => True) (enc := symV) (step := stepS) hls L.r (fun l e r => ⟨stepS_rd r, trivial⟩) (fun a _ => ⟨rfl, rfl, rfl, fun n m => encS.bdd a n m⟩) rd1 (by omega) (by omega) (by simp [n1, n3]) ?_ ?_)
  · intro h' l' e' Q' rd' g' hQ'
    exact sym_spec L rd' (by rw [g'.objs _ (by simp; omega), set_objs_same]) hQ'
  · simp [fillV, V.cells, V.good, setAt, n1, n2, n3, n4]
    exact finS (((GrW.refl _).news _).news _) (by simpa using encS.cells _ _ _) hQ
theorem read3_spec (L : LG X) (b : List Nat) (hl : b.length ≤ 2 ^ 40) (hb : ∀ x ∈ b, x < 256) (hQ : Q (greadV b) h) : Ecx X K.gram_Read [.sl 1 0 (u8s b)] h Q := by
  refine fn_walk L.read (by simp [A.gram_Read]) fun wf => ?_
  have rd0 : Rd b 0 := ⟨by unfold maxLen; omega, hb, fun e => absurd rfl e⟩
  unfold greadV readG at hQ
  have e1 : stepG b 0 = stepG b 0 := rfl
  conv at e1 => rhs; simp only [stepG, stepMap, seq2, mkG]
  simp [A.gram_Read]
  refine ecall (wnew L.r (fun _ => rfl) (by omega) (by omega) ?_)
  simp
  refine ecall (wnum L.r 16 rd0 (by omega) (by simp) ?_)
  have rd1 := rnum_rd rd0 16
  generalize rnum b 0 16 = r1 at *
  simp [setAt, V.cells, V.good]
  refine ecall (wnum L.r 24 rd1 (by omega) (by simp) ?_)
  have rd2 := rnum_rd rd1 24
  generalize rnum r1.2.1 r1.2.2 24 = r2 at *
  simp [setAt, V.cells, V.good]
  refine ecall (wnum L.r 23 rd2 (by omega) (by simp) ?_)
  have rd3 := rnum_rd rd2 23
  generalize rnum r2.2.1 r2.2.2 23 = r3 at *
  simp [setAt, V.cells, V.good]
  have hls := L.liP
  rw [list_prod_is] at hls
  refine ecall (wlist (many := 60) (ok := fun _ => True) (enc := prV) (step := stepP) hls L.r (fun l e r => ⟨stepP_rd r, trivial⟩) (fun a _ => ⟨rfl, rfl, rfl, fun n m => encP.bdd a n m⟩) rd3 (by omega) (by omega) (by simp) ?_ ?_)
  · intro h' l' e' Q' rd' g' hQ'
    exact prod_spec L rd' (by rw [g'.objs _ (by simp), set_objs_same]) hQ'
  have hlen := rread_length (step := stepP) 60 r3.2.1 r3.2.2
  have hrl : ∀ p ∈ (rread stepP 60 r3.2.1 r3.2.2).1, p.right.length ≤ 8 := rread_all (p := fun (p : Pr) => p.right.length ≤ 8) (fun l e => rread_length (step := stepS) 8 _ _) 60 _ _
  generalize rread stepP 60 r3.2.1 r3.2.2 = r4 at *
  simp [setAt, V.cells, V.good]
  refine ecall (wend L.r (l := r4.2.1) (e := r4.2.2) (by simp) ?_)
  rw [e1] at hQ
  simp only at hQ
  have gr : ∀ z y x, Gr h ((((h.new z).new y).new x)) := fun z y x => ((((Gr.refl h).new _).new _).new _)
  by_cases he : rend r4.2.1 r4.2.2 = 0
  case neg =>
    rw [if_pos he] at hQ
    simp [he, fillV, setAt, V.cells, V.good]
    exact fin_wk (gr _ _ _) (Wk.t2 (Wk.a4 (.nil _ 2 _) _ _ _) _) (by simp) hQ
  rw [if_neg (by simp [he])] at hQ
  simp [he]
  have ok : GmOk ⟨r1.1, r2.1, r3.1, r4.1⟩ := ⟨by unfold maxLen; simp; omega, fun p hp => by have := hrl p hp; unfold maxLen; omega⟩
  refine ecall (right3_spec L ⟨r1.1, r2.1, r3.1, r4.1⟩ ok ?_)
  cases hr : rightG ⟨r1.1, r2.1, r3.1, r4.1⟩ with
  | false =>
    rw [hr] at hQ
    simp at hQ
    simp [fillV, setAt, V.cells, V.good]
    exact fin_wk (gr _ _ _) (Wk.t2 (Wk.a4 (.nil _ 2 _) _ _ _) _) (by simp) hQ
  | true =>
    rw [hr] at hQ
    simp at hQ
    simp [fillV, setAt, V.cells, V.good]
    exact fin_wk (gr _ _ _) (.same _) (by simpa using encP.cells _ _ _) hQ
end
end Go.Proofs.Ytbbmglginkabfaa.Al
