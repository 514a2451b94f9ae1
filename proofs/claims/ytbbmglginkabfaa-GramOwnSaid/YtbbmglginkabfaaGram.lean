/-
  Layer 3, gram: grammars, which may be, and which are the same, by the abstract layer. Conditions: each theorem's own.
-/
import Derived.Test.YtbbmglginkabfaaSlices
import Derived.Test.YtbbmglginkabfaaCanon
import Derived.Test.YtbbmglginkabfaaWord5
import Derived.Test.YtbbmglginkabfaaAlFlib
import Derived.Test.YtbbmglginkabfaaAlFgram
import Derived.Test.YtbbmglginkabfaaAlFl03
namespace Go.Proofs.Ytbbmglginkabfaa.Al
open Go Go.RowKit
set_option linter.unusedSimpArgs false
set_option linter.unusedVariables false
attribute [-simp] List.getD_eq_getElem?_getD Int.not_lt Int.not_le List.map_take

theorem eqfF_prod : A.slices_EqualFunc_Prod = eqfF 2 2 true true [.int .i64 0, .sl 0 1 []] [.int .i64 0, .sl 0 1 []] := rfl
theorem ixf_prod : A.slices_IndexFunc_Prod = ixfF 2 true := rfl
theorem ixf_sym : A.slices_IndexFunc_Sym = ixfF 2 true := rfl
theorem ctf_prod : A.slices_ContainsFunc_Prod = ctfF K.slices_IndexFunc_Prod := rfl
theorem ctf_sym : A.slices_ContainsFunc_Sym = ctfF K.slices_IndexFunc_Sym := rfl
theorem cln_sym : A.slices_Clone_Sym = clnF 2 16 true [.bool false, .int .i64 0] := rfl
/-- A symbol, a production, a grammar. -/
structure Sy where
  non : Bool
  n : Int
  deriving DecidableEq
structure Pr where
  left : Int
  right : List Sy
  deriving DecidableEq
structure Gm where
  terms : Int
  nons : Int
  start : Int
  prods : List Pr
  deriving DecidableEq
def symC (s : Sy) : List V := [.bool s.non, .int .i64 s.n]
def symV (s : Sy) : V := .agg (symC s)
def prC (p : Pr) : List V := [.int .i64 p.left, .sl 2 0 (p.right.map symV)]
def prV (p : Pr) : V := .agg (prC p)
def gmC (g : Gm) : List V := [.int .i64 g.terms, .int .i64 g.nons, .int .i64 g.start, .sl 2 0 (g.prods.map prV)]
def gmV (g : Gm) : V := .agg (gmC g)
theorem encS : Enc symV 2 true := ⟨fun _ => rfl, fun _ => rfl, fun _ => rfl, fun a n m v hv => by simp [symV, symC, V.cells] at hv; rcases hv with rfl | rfl <;> simp⟩
theorem encP : Enc prV 2 true := ⟨fun _ => rfl, fun _ => rfl, fun _ => rfl, fun a n m v hv => by
  simp [prV, prC, V.cells] at hv
  rcases hv with rfl | rfl
  · simp
  · rw [Bdd_sl0]; exact ⟨by omega, encS.cells n m a.right⟩⟩
theorem Wk.a4 {d d' : V} (w : Wk d d') (a b c : V) : Wk (.agg [a, b, c, d]) (.agg [a, b, c, d']) := .agg _ _ rfl fun i h1 h2 => by
  match i with
  | 0 => exact .same _
  | 1 => exact .same _
  | 2 => exact .same _
  | 3 => exact w
  | n + 4 => simp at h1; omega
theorem gm_bdd (g : Gm) (n m : Nat) : ∀ v ∈ gmC g, Bdd n m v := by
  intro v hv
  simp [gmC] at hv
  rcases hv with rfl | rfl | rfl | rfl
  · simp
  · simp
  · simp
  · rw [Bdd_sl0]; exact ⟨by omega, encP.cells n m g.prods⟩
def thereG (g : Gm) (s : Sy) : Bool := decide (0 ≤ s.n) && decide (s.n < if s.non = true then g.nons else g.terms)
def fitsG (g : Gm) (p : Pr) : Bool := thereG g ⟨true, p.left⟩ && decide (p.right.length ≤ 8) && p.right.all (thereG g)
def headG (g : Gm) : Bool := decide (0 ≤ g.terms) && decide (g.terms ≤ 16) && decide (1 ≤ g.nons) && decide (g.nons ≤ 24) && decide (0 ≤ g.start) && decide (g.start < g.nons) && decide (g.prods.length ≤ 60)
def rightG (g : Gm) : Bool := headG g && g.prods.all (fitsG g)
theorem not_any_not {α : Type} (f : α → Bool) : ∀ l : List α, (!l.any fun a => !f a) = l.all f
  | [] => rfl
  | a :: l => by have := not_any_not f l; simp only [List.any_cons, List.all_cons, Bool.not_or, Bool.not_not, this]

section
variable {X : Cx} {h : AH} {Q : V → AH → Prop}
/-- What layer 3's program calls. -/
structure LG (X : Cx) : Prop where
  there : Has (Ecx X) K.gram_there A.gram_there
  fits : Has (Ecx X) K.gram_fits A.gram_fits
  fits1 : Has (Ecx X) K.gram_fits_1 A.gram_fits_1
  right : Has (Ecx X) K.gram_Right A.gram_Right
  right1 : Has (Ecx X) K.gram_Right_1 A.gram_Right_1
  alike : Has (Ecx X) K.gram_alike A.gram_alike
  same : Has (Ecx X) K.gram_Same A.gram_Same
  clone : Has (Ecx X) K.gram_Clone A.gram_Clone
  of : Has (Ecx X) K.gram_Of A.gram_Of
  bytes : Has (Ecx X) K.gram_Bytes A.gram_Bytes
  sym : Has (Ecx X) K.gram_sym A.gram_sym
  prod : Has (Ecx X) K.gram_prod A.gram_prod
  read : Has (Ecx X) K.gram_Read A.gram_Read
  ctP : Has (Ecx X) K.slices_ContainsFunc_Prod A.slices_ContainsFunc_Prod
  ctS : Has (Ecx X) K.slices_ContainsFunc_Sym A.slices_ContainsFunc_Sym
  ixP : Has (Ecx X) K.slices_IndexFunc_Prod A.slices_IndexFunc_Prod
  ixS : Has (Ecx X) K.slices_IndexFunc_Sym A.slices_IndexFunc_Sym
  eqP : Has (Ecx X) K.slices_EqualFunc_Prod A.slices_EqualFunc_Prod
  eqS : Has (Ecx X) K.slices_Equal_Sym A.slices_Equal_Sym
  clS : Has (Ecx X) K.slices_Clone_Sym A.slices_Clone_Sym
  liS : Has (Ecx X) K.wire_List_Sym A.wire_List_Sym
  liP : Has (Ecx X) K.wire_List_Prod A.wire_List_Prod
  w : LW X
  r : LR X
theorem there_spec (H : Has (Ecx X) K.gram_there A.gram_there) (g : Gm) (s : Sy) (hQ : Q (.bool (thereG g s)) h) : Ecx X K.gram_there [gmV g, symV s] h Q := by
  refine fn_walk H (by simp [A.gram_there]) fun wf => ?_
  have gr := ((Gr.refl h).new (gmC g)).new (symC s)
  obtain ⟨non, n⟩ := s
  unfold thereG at hQ
  cases non <;> by_cases c1 : 0 ≤ n
  · by_cases c2 : n < g.terms <;> simp [A.gram_there, gmV, symV, gmC, symC, V.cells, V.good, c1, c2] at hQ gr ⊢ <;> exact fin_wk gr (.same _) (by simp) hQ
  · simp [A.gram_there, gmV, symV, gmC, symC, V.cells, V.good, c1] at hQ gr ⊢; exact fin_wk gr (.same _) (by simp) hQ
  · by_cases c2 : n < g.nons <;> simp [A.gram_there, gmV, symV, gmC, symC, V.cells, V.good, c1, c2] at hQ gr ⊢ <;> exact fin_wk gr (.same _) (by simp) hQ
  · simp [A.gram_there, gmV, symV, gmC, symC, V.cells, V.good, c1] at hQ gr ⊢; exact fin_wk gr (.same _) (by simp) hQ
theorem fits1_spec (L : LG X) (g : Gm) (s : Sy) (o : Nat) (ho : h.objs o = gmC g) (hQ : Q (.bool (!thereG g s)) h) : Ecx X K.gram_fits_1 [symV s, .ptr o 0] h Q := by
  refine Ecx.bdd fun hb => fn_walk L.fits1 (by simp [A.gram_fits_1]) fun wf => ?_
  have hol : o < h.nobj := by have := hb (.ptr o 0) (by simp); simpa using this
  have n1 : ¬ o = h.nobj := by omega
  have gr := (Gr.refl h).new (symC s)
  simp [A.gram_fits_1, symV, V.cells, V.good, n1, ho, show (gmC g).length = 4 from rfl, show (gmC g).take 4 = gmC g from rfl, show (symC s).length = 2 from rfl, show (symC s).take 2 = symC s from rfl]
  refine ecall (there_spec L.there g s ?_)
  simp
  exact fin_wk gr (.same _) (by simp) hQ
theorem gm4 (g : Gm) : (gmC g).length = 4 ∧ (gmC g).take 4 = gmC g := ⟨rfl, rfl⟩
theorem pr2 (p : Pr) : (prC p).length = 2 ∧ (prC p).take 2 = prC p := ⟨rfl, rfl⟩
theorem sy2 (s : Sy) : (symC s).length = 2 ∧ (symC s).take 2 = symC s := ⟨rfl, rfl⟩
theorem fits_spec3 (L : LG X) (g : Gm) (p : Pr) (hl : p.right.length ≤ maxLen) (hQ : Q (.bool (fitsG g p)) h) : Ecx X K.gram_fits [gmV g, prV p] h Q := by
  refine fn_walk L.fits (by simp [A.gram_fits]) fun wf => ?_
  have gr := ((Gr.refl h).new (gmC g)).new (prC p)
  simp [A.gram_fits, gmV, prV, V.cells, V.good, gm4, fillV, setAt, show prC p = [.int .i64 p.left, .sl 2 0 (p.right.map symV)] from rfl]
  refine ecall (there_spec L.there g ⟨true, p.left⟩ ?_)
  unfold fitsG at hQ
  cases ht : thereG g ⟨true, p.left⟩ with
  | false => rw [ht] at hQ; simp at hQ ⊢; exact fin_wk gr (.same _) (by simp) hQ
  | true =>
    rw [ht] at hQ
    by_cases c : p.right.length ≤ 8
    · have c' : (p.right.length : Int) ≤ 8 := by omega
      simp [c] at hQ
      simp [c']
      have hcs := L.ctS
      have hxs := L.ixS
      rw [ctf_sym] at hcs
      rw [ixf_sym] at hxs
      refine ecall (containsFunc encS hcs hxs p.right 0 _ [] _ (fun s => !thereG g s) (by omega) (fun s _ Q' h' gr' hQ' => ?_) ?_)
      · refine fits1_spec L g s h.nobj ?_ hQ'
        rw [gr'.objs _ (by simp)]; simp
      · simp [not_any_not]
        exact fin_wk gr (.same _) (by simp) hQ
    · have c' : ¬ (p.right.length : Int) ≤ 8 := by omega
      simp [c] at hQ
      simp [c']
      exact fin_wk gr (.same _) (by simp) hQ
theorem right1_spec (L : LG X) (g : Gm) (p : Pr) (o : Nat) (ho : h.objs o = gmC g) (hl : p.right.length ≤ maxLen) (hQ : Q (.bool (!fitsG g p)) h) : Ecx X K.gram_Right_1 [prV p, .ptr o 0] h Q := by
  refine Ecx.bdd fun hb => fn_walk L.right1 (by simp [A.gram_Right_1]) fun wf => ?_
  have hol : o < h.nobj := by have := hb (.ptr o 0) (by simp); simpa using this
  have n1 : ¬ o = h.nobj := by omega
  have gr := (Gr.refl h).new (prC p)
  simp [A.gram_Right_1, prV, V.cells, V.good, n1, ho, gm4, pr2]
  refine ecall (fits_spec3 L g p hl ?_)
  simp
  exact fin_wk gr (.same _) (by simp) hQ
/-- A grammar that may be handed in. -/
structure GmOk (g : Gm) : Prop where
  len : g.prods.length ≤ maxLen
  rl : ∀ p ∈ g.prods, p.right.length ≤ maxLen
theorem right3_spec (L : LG X) (g : Gm) (ok : GmOk g) (hQ : Q (.bool (rightG g)) h) : Ecx X K.gram_Right [gmV g] h Q := by
  refine fn_walk L.right (by simp [A.gram_Right]) fun wf => ?_
  have gr := (Gr.refl h).new (gmC g)
  unfold rightG headG at hQ
  simp [A.gram_Right, gmV, V.cells, V.good, show gmC g = [.int .i64 g.terms, .int .i64 g.nons, .int .i64 g.start, .sl 2 0 (g.prods.map prV)] from rfl] at gr ⊢
  by_cases c1 : g.terms < 0
  · simp [c1, show ¬ 0 ≤ g.terms by omega] at hQ ⊢; exact fin_wk gr (.same _) (by simp) hQ
  by_cases c2 : 16 < g.terms
  · simp [c1, c2, show ¬ g.terms ≤ 16 by omega] at hQ ⊢; exact fin_wk gr (.same _) (by simp) hQ
  by_cases c3 : g.nons < 1
  · simp [c1, c2, c3, show ¬ 1 ≤ g.nons by omega] at hQ ⊢; exact fin_wk gr (.same _) (by simp) hQ
  by_cases c4 : 24 < g.nons
  · simp [c1, c2, c3, c4, show ¬ g.nons ≤ 24 by omega] at hQ ⊢; exact fin_wk gr (.same _) (by simp) hQ
  by_cases c5 : g.start < 0
  · simp [c1, c2, c3, c4, c5, show ¬ 0 ≤ g.start by omega] at hQ ⊢; exact fin_wk gr (.same _) (by simp) hQ
  by_cases c6 : g.nons ≤ g.start
  · simp [c1, c2, c3, c4, c5, c6, show ¬ g.start < g.nons by omega] at hQ ⊢; exact fin_wk gr (.same _) (by simp) hQ
  by_cases c7 : (60 : Int) < g.prods.length
  · simp [c1, c2, c3, c4, c5, c6, c7, show ¬ g.prods.length ≤ 60 by omega] at hQ ⊢; exact fin_wk gr (.same _) (by simp) hQ
  simp [show 0 ≤ g.terms by omega, show g.terms ≤ 16 by omega, show 1 ≤ g.nons by omega, show g.nons ≤ 24 by omega, show 0 ≤ g.start by omega, show g.start < g.nons by omega, show g.prods.length ≤ 60 by omega] at hQ
  simp [c1, c2, c3, c4, c5, c6, c7]
  have hcs := L.ctP
  have hxs := L.ixP
  rw [ctf_prod] at hcs
  rw [ixf_prod] at hxs
  refine ecall (containsFunc encP hcs hxs g.prods 0 _ [] _ (fun p => !fitsG g p) (by omega) (fun p hp Q' h' gr' hQ' => ?_) ?_)
  · refine right1_spec L g p h.nobj ?_ (ok.rl p hp) hQ'
    rw [gr'.objs _ (by simp)]; simp; rfl
  · simp [not_any_not]
    exact fin_wk gr (.same _) (by simp) hQ
theorem eqS_spec (H : Has (Ecx X) K.slices_Equal_Sym A.slices_Equal_Sym) (a b : List Sy) (s t : Nat) (ha : a.length < 2 ^ 62) (hQ : Q (.bool (decide (a = b))) h) : Ecx X K.slices_Equal_Sym [.sl 2 s (a.map symV), .sl 2 t (b.map symV)] h Q := by
  refine fn_walk H (by simp [A.slices_Equal_Sym]) fun wf => ?_
  by_cases hl : a.length = b.length
  · have hl' : (a.length : Int) = b.length := by omega
    simp [A.slices_Equal_Sym, hl']
    refine loopI (n := a.length) (fun m env h' => ∃ k, k ≤ a.length ∧ m = a.length - k ∧ h' = h ∧ env = [(0, .sl 2 s (a.map symV)), (1, .sl 2 t (b.map symV)), (12, .int .i64 b.length), (13, .int .i64 k)] ∧ a.take k = b.take k) ?_ ⟨0, by omega, by omega, rfl, rfl, rfl⟩
    rintro m env h' ⟨k, hk, rfl, rfl, rfl, he⟩
    unfold A.slices_Equal_Sym.L0
    by_cases hlt : k < a.length
    · have hlt' : (k : Int) < b.length := by omega
      have hlb : k < b.length := by omega
      have hga : (a.map symV).getD k .undef = symV a[k] := Enc.getD hlt
      have hgb : (b.map symV).getD k .undef = symV b[k] := Enc.getD hlb
      have hw1 : IntKind.i64.wrap ((k : Int) + 1) = ((k + 1 : Nat) : Int) := by rw [wrap_i64 (by omega) (by omega)]; rfl
      by_cases e : a[k] = b[k]
      · simp [hl', hlt', hga, hgb, V.cells, symV, symC, e, hw1]
        exact ⟨a.length - (k + 1), by omega, iv ⟨k + 1, by omega, rfl, rfl, rfl, take_ext2 hlt hlb he e⟩⟩
      · have hne : (a[k].non = b[k].non → ¬ a[k].n = b[k].n) := by
          intro e1 e2; apply e; cases ha : a[k]; cases hb : b[k]; simp_all
        have hf : decide (a = b) = false := by
          simp only [decide_eq_false_iff_not]; rintro rfl; exact e rfl
        rw [hf] at hQ
        by_cases e1 : a[k].non = b[k].non <;> by_cases e2 : a[k].n = b[k].n <;> first | exact absurd e2 (hne e1) | (simp [hl', hlt', hga, hgb, V.cells, symV, symC, e1, e2]; exact fin (by simp) hQ)
    · have hlt' : ¬ (k : Int) < b.length := by omega
      simp [hl', hlt']
      refine fin (by simp) ?_
      have hk : k = a.length := by omega
      rw [hk, List.take_length, hl, List.take_length] at he
      simpa [he] using hQ
  · have hl' : ¬ (a.length : Int) = b.length := by omega
    simp [A.slices_Equal_Sym, hl']
    refine fin (by simp) ?_
    have : decide (a = b) = false := by simp; intro h; exact hl (by rw [h])
    rw [this] at hQ; exact hQ
theorem alike_spec (L : LG X) (a b : Pr) (ha : a.right.length < 2 ^ 62) (hQ : Q (.bool (decide (a = b))) h) : Ecx X K.gram_alike [prV a, prV b] h Q := by
  refine fn_walk L.alike (by simp [A.gram_alike]) fun wf => ?_
  have gr := ((Gr.refl h).new (prC a)).new (prC b)
  simp [A.gram_alike, prV, V.cells, V.good, prC] at gr ⊢
  have hd : decide (a = b) = (decide (a.left = b.left) && decide (a.right = b.right)) := by
    obtain ⟨l1, r1⟩ := a; obtain ⟨l2, r2⟩ := b
    by_cases e1 : l1 = l2 <;> by_cases e2 : r1 = r2 <;> simp [e1, e2]
  rw [hd] at hQ
  by_cases e1 : a.left = b.left
  · simp [e1] at hQ ⊢
    refine ecall (eqS_spec L.eqS a.right b.right 0 0 ha ?_)
    simp
    exact fin_wk (by simpa [e1] using gr) (.same _) (by simp) hQ
  · simp [e1] at hQ ⊢
    exact fin_wk gr (.same _) (by simp) hQ
theorem same3_spec (L : LG X) (a b : Gm) (oa : GmOk a) (hl : a.prods.length < 2 ^ 62) (hr : ∀ p ∈ a.prods, p.right.length < 2 ^ 62) (hQ : Q (.bool (decide (a = b))) h) : Ecx X K.gram_Same [gmV a, gmV b] h Q := by
  refine fn_walk L.same (by simp [A.gram_Same]) fun wf => ?_
  have gr := ((Gr.refl h).new (gmC a)).new (gmC b)
  simp [A.gram_Same, gmV, V.cells, V.good, show ∀ g, gmC g = [.int .i64 g.terms, .int .i64 g.nons, .int .i64 g.start, .sl 2 0 (g.prods.map prV)] from fun _ => rfl] at gr ⊢
  have hd : decide (a = b) = (decide (a.terms = b.terms) && decide (a.nons = b.nons) && decide (a.start = b.start) && decide (a.prods = b.prods)) := by
    obtain ⟨t1, n1, s1, p1⟩ := a; obtain ⟨t2, n2, s2, p2⟩ := b
    by_cases e1 : t1 = t2 <;> by_cases e2 : n1 = n2 <;> by_cases e3 : s1 = s2 <;> by_cases e4 : p1 = p2 <;> simp [e1, e2, e3, e4]
  rw [hd] at hQ
  by_cases e1 : a.terms = b.terms
  case neg => simp [e1] at hQ ⊢; exact fin_wk gr (.same _) (by simp) hQ
  by_cases e2 : a.nons = b.nons
  case neg => simp [e1, e2] at hQ gr ⊢; exact fin_wk gr (.same _) (by simp) hQ
  by_cases e3 : a.start = b.start
  case neg => simp [e1, e2, e3] at hQ gr ⊢; exact fin_wk gr (.same _) (by simp) hQ
  simp [e1, e2, e3] at hQ gr ⊢
  have heq := L.eqP
  rw [eqfF_prod] at heq
  refine ecall (equalFunc rfl rfl encP encP heq a.prods b.prods 0 0 _ [] [] (fun p q => decide (p = q)) hl (fun p hp q _ Q' h' _ hQ' => alike_spec L p q (hr p hp) hQ') ?_)
  have : allEq (fun p q : Pr => decide (p = q)) a.prods b.prods = decide (a.prods = b.prods) := by
    by_cases e : a.prods = b.prods
    · simp [e, (allEq_iff (f := fun p q : Pr => decide (p = q)) (by simp) _ _).2 rfl]
    · cases h1 : allEq (fun p q : Pr => decide (p = q)) a.prods b.prods with
      | false => simp [e]
      | true => exact absurd ((allEq_iff (f := fun p q : Pr => decide (p = q)) (by simp) _ _).1 h1) e
  rw [this]
  simp
  exact fin_wk gr (.same _) (by simp) hQ
/-! ### A nonterminal's productions -/
def ofF (non : Int) : List Pr → Nat → List Int
  | [], _ => []
  | p :: l, i => (if p.left = non then [(i : Int)] else []) ++ ofF non l (i + 1)
def ofG (g : Gm) (non : Int) : List Int := ofF non g.prods 0
theorem ofF_len (non : Int) : ∀ (l : List Pr) (i : Nat), (ofF non l i).length ≤ l.length
  | [], i => by simp [ofF]
  | p :: l, i => by have := ofF_len non l (i + 1); simp only [ofF, List.length_append, List.length_cons]; split <;> simp <;> omega
theorem of_spec (L : LG X) (g : Gm) (non : Int) (hl : g.prods.length ≤ 2 ^ 40) (hQ : Q (.sl 1 0 (ints (ofG g non))) h) : Ecx X K.gram_Of [gmV g, .int .i64 non] h Q := by
  refine fn_walk L.of (by simp [A.gram_Of]) fun wf => ?_
  have gr := (Gr.refl h).new (gmC g)
  have hgc : gmC g = [.int .i64 g.terms, .int .i64 g.nons, .int .i64 g.start, .sl 2 0 (g.prods.map prV)] := rfl
  simp [A.gram_Of, gmV, V.cells, V.good, hgc] at gr ⊢
  have htl := ofF_len non g.prods 0
  refine loopI (n := g.prods.length) (fun n env h' => ∃ k out e1 st, k ≤ g.prods.length ∧ n = g.prods.length - k ∧ env = [(1, .int .i64 non), (5, .sl e1 st (ints out)), (9, .sl 2 0 (g.prods.map prV)), (10, .int .i64 g.prods.length), (11, .int .i64 k)] ∧ Own h h' 1 e1 st (ints out) ∧ out ++ ofF non (g.prods.drop k) k = ofG g non) ?_
    ⟨0, [], 0, 1, by omega, by omega, rfl, ⟨gr, .inl rfl, .inl rfl⟩, rfl⟩
  rintro n env h' ⟨k, out, e1, st, hk, rfl, rfl, ow, ho⟩
  unfold A.gram_Of.L0
  have hol : out.length ≤ g.prods.length := by have := congrArg List.length ho; simp [ofG] at this; unfold ofG at *; omega
  by_cases hlt : k < g.prods.length
  · have hlt' : (k : Int) < g.prods.length := by omega
    have hg : (g.prods.map prV).getD k .undef = prV g.prods[k] := Enc.getD hlt
    have hw1 : IntKind.i64.wrap ((k : Int) + 1) = ((k + 1 : Nat) : Int) := by rw [wrap_i64 (by omega) (by omega)]; rfl
    rw [List.drop_eq_getElem_cons hlt, ofF] at ho
    generalize g.prods[k] = p at *
    have ow2 : Own h (h'.new (prC p)) 1 e1 st (ints out) := ⟨ow.gr.new _, ow.el, ow.st⟩
    by_cases c : p.left = non
    · rw [if_pos c] at ho
      simp [hlt', hg, prV, V.cells, V.good, prC, setAt, c, fillL, V.isAgg, hw1] at ow2 ⊢
      refine ow2.appZ (fun _ => rfl) (by simp; omega) fun e2 st2 h2 o2 _ _ => ?_
      have em : ints out ++ [V.int .i64 k] = ints (out ++ [(k : Int)]) := by simp [ints]
      rw [em] at o2 ⊢
      simp
      exact ⟨g.prods.length - (k + 1), by omega, iv ⟨k + 1, out ++ [(k : Int)], e2, st2, by omega, rfl, by rw [hw1], o2, by rw [← ho]; simp⟩⟩
    · rw [if_neg c, List.nil_append] at ho
      simp [hlt', hg, prV, V.cells, V.good, prC, setAt, c, hw1] at ow2 ⊢
      exact ⟨g.prods.length - (k + 1), by omega, iv ⟨k + 1, out, e1, st, by omega, rfl, by first | rfl | rw [hw1], ow2, ho⟩⟩
  · have hlt' : ¬ (k : Int) < g.prods.length := by omega
    obtain rfl : k = g.prods.length := by omega
    rw [List.drop_length, ofF, List.append_nil] at ho
    rw [ho] at ow ⊢
    simp [hlt']
    exact fin_own ow (Bdd_ints _ _ _) hQ
/-! ### A copy -/
theorem clone3_spec (L : LG X) (g : Gm) (hl : g.prods.length ≤ 2 ^ 30) (hr : ∀ p ∈ g.prods, p.right.length ≤ 2 ^ 30) (hQ : Q (gmV g) h) : Ecx X K.gram_Clone [gmV g] h Q := by
  refine fn_walk L.clone (by simp [A.gram_Clone]) fun wf => ?_
  have hgc : gmC g = [.int .i64 g.terms, .int .i64 g.nons, .int .i64 g.start, .sl 2 0 (g.prods.map prV)] := rfl
  simp [A.gram_Clone, gmV, V.cells, V.good, hgc, push_objs]
  refine ⟨by omega, ?_⟩
  have ow0 : Own h (((h.new (gmC g)).new [.int .i64 0, .int .i64 0, .int .i64 0, .sl 0 1 []]).push 2 2) 2 2 h.next [] :=
    ⟨(((Gr.refl h).new _).new _).push (.inl (by omega)) 2, .inr rfl, .inr (.inr ⟨push_new _ 2 2, by simp⟩)⟩
  have hb0 : (((h.new (gmC g)).new [.int .i64 0, .int .i64 0, .int .i64 0, .sl 0 1 []]).push 2 2).objs h.nobj = gmC g := by simp [push_objs]
  have hb1 : (((h.new (gmC g)).new [.int .i64 0, .int .i64 0, .int .i64 0, .sl 0 1 []]).push 2 2).objs (h.nobj + 1) = [.int .i64 0, .int .i64 0, .int .i64 0, .sl 0 1 []] := by simp [push_objs]
  have hb2 : (((h.new (gmC g)).new [.int .i64 0, .int .i64 0, .int .i64 0, .sl 0 1 []]).push 2 2).nobj = h.nobj + 2 := by simp [push_nobj]
  rw [← hgc]
  generalize ((h.new (gmC g)).new [.int .i64 0, .int .i64 0, .int .i64 0, .sl 0 1 []]).push 2 2 = h3 at *
  refine loopI (n := g.prods.length) (fun n env h' => ∃ k e1 st, k ≤ g.prods.length ∧ n = g.prods.length - k ∧ env = [(1, .ptr h.nobj 0), (2, .ptr (h.nobj + 1) 0), (3, .sl e1 st ((g.prods.take k).map prV)), (11, .sl 2 0 (g.prods.map prV)), (12, .int .i64 g.prods.length), (13, .int .i64 k)] ∧ Own h h' 2 e1 st ((g.prods.take k).map prV) ∧ h'.objs h.nobj = gmC g ∧ h'.objs (h.nobj + 1) = [.int .i64 0, .int .i64 0, .int .i64 0, .sl 0 1 []] ∧ h.nobj + 2 ≤ h'.nobj) ?_
    ⟨0, 2, h.next, by omega, by omega, rfl, ow0, hb0, hb1, by omega⟩
  rintro n env h' ⟨k, e1, st, hk, rfl, rfl, ow, ob0, ob1, ob2⟩
  unfold A.gram_Clone.L0
  by_cases hlt : k < g.prods.length
  · have hlt' : (k : Int) < g.prods.length := by omega
    have hg : (g.prods.map prV).getD k .undef = prV g.prods[k] := Enc.getD hlt
    have hw1 : IntKind.i64.wrap ((k : Int) + 1) = ((k + 1 : Nat) : Int) := by rw [wrap_i64 (by omega) (by omega)]; rfl
    have hts : (g.prods.take k).map prV ++ [prV g.prods[k]] = (g.prods.take (k + 1)).map prV := by rw [List.take_succ_eq_append_getElem hlt, List.map_append]; rfl
    have hrl := hr _ (List.getElem_mem hlt)
    generalize g.prods[k] = p at *
    have hcl := L.clS
    rw [cln_sym] at hcl
    have ow2 : Own h (h'.new (prC p)) 2 e1 st ((g.prods.take k).map prV) := ⟨ow.gr.new _, ow.el, ow.st⟩
    have n1 : ¬ h.nobj = h'.nobj := by omega
    have n2 : ¬ h.nobj + 1 = h'.nobj := by omega
    simp [hlt', hg, prV, V.cells, V.good, prC, setAt, fillV]
    refine dcall (.sl 2 0 (p.right.map symV)) (clone_spec hcl _ (by simp; omega) (fun v hv => encS.cells _ _ _ v hv) ⟨rfl, rfl⟩) ?_
    simp [fillV, setAt, V.cells, V.good, fillL, V.isAgg]
    refine ow2.appZ (fun _ => rfl) (by simp; omega) fun e2 st2 h2 o2 ob2' no2 => ?_
    rw [show V.agg [.int .i64 p.left, .sl 2 0 (p.right.map symV)] = prV p from rfl, hts] at o2 ⊢
    simp [hw1]
    exact ⟨g.prods.length - (k + 1), by omega, iv ⟨k + 1, e2, st2, by omega, rfl, rfl, o2, by rw [ob2', new_objs_ne _ _ n1]; exact ob0, by rw [ob2', new_objs_ne _ _ n2]; exact ob1, by rw [no2]; simp; omega⟩⟩
  · have hlt' : ¬ (k : Int) < g.prods.length := by omega
    obtain rfl : k = g.prods.length := by omega
    rw [List.take_length] at ow ⊢
    have n3 : ¬ h.nobj = h.nobj + 1 := by omega
    have n4 : ¬ h.nobj + 1 = h.nobj := by omega
    simp [hlt', ob0, hgc, setAt, V.cells, V.good, n3, n4, ob1]
    exact fin_wk ((ow.gr.set (by omega) _).set (by omega) _) (Wk.a4 ow.wk _ _ _) (by simpa using encP.cells _ _ g.prods) hQ
end
end Go.Proofs.Ytbbmglginkabfaa.Al
