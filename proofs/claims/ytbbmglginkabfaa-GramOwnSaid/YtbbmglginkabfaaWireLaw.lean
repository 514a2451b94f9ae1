/-
  Layer 2: the laws' helpers, by the abstract layer. Conditions: each theorem's own.
-/
import Derived.Test.YtbbmglginkabfaaWriter
import Derived.Test.YtbbmglginkabfaaAlFl02
namespace Go.Proofs.Ytbbmglginkabfaa.Al
open Go Go.RowKit
set_option linter.unusedSimpArgs false
set_option linter.unusedVariables false
attribute [-simp] List.getD_eq_getElem?_getD Int.not_lt Int.not_le

/-- A thing. -/
structure Th where
  kind : Int
  n : Int
  l : List Int
  e : Int
def ints (l : List Int) : List V := l.map (.int .i64)
def thC (x : Th) : List V := [.int .i64 x.kind, .int .i64 x.n, .sl 1 0 (ints x.l), .int .i64 x.e]
def thV (x : Th) : V := .agg (thC x)
@[simp] theorem ints_length (l : List Int) : (ints l).length = l.length := by simp [ints]
theorem ints_getD {l : List Int} {i : Nat} (h : i < l.length) : (ints l).getD i .undef = .int .i64 (l.getD i 0) := by
  simp [ints, List.getD, List.getElem?_eq_getElem h]
theorem things_getD {l : List Th} {i : Nat} (h : i < l.length) : (l.map thV).getD i .undef = .agg (thC (l[i])) := by
  simp [List.getD, List.getElem?_eq_getElem h, thV]
def tooBig (x : Th) : Bool := decide (x.n < 0) || decide (40 < x.l.length) || x.l.any (fun n => decide (n < 0))
def largeB (l : List Th) : Bool := decide (40 < l.length) || l.any tooBig
theorem any_take_succ {α : Type} {f : α → Bool} {l : List α} {k : Nat} (hk : k < l.length) (h : (l.take k).any f = false) (h1 : f l[k] = false) : (l.take (k + 1)).any f = false := by
  rw [List.take_succ_eq_append_getElem hk, List.any_append, h]; simp [h1]
theorem any_at {α : Type} {f : α → Bool} {l : List α} {k : Nat} (hk : k < l.length) (h1 : f l[k] = true) : l.any f = true :=
  List.any_eq_true.2 ⟨l[k], List.getElem_mem hk, h1⟩
theorem Gr.newO {h0 h : AH} (G : Gr h0 h) (z : List V) : Gr h0 (h.new z) := G.new z

section
variable {X : Cx} {h : AH} {Q : V → AH → Prop}
theorem large_spec (H : Has (Ecx X) K.probatelaw02_large A.probatelaw02_large) (l : List Th) (hl : l.length ≤ maxLen) (hll : ∀ x ∈ l, x.l.length ≤ maxLen) (hQ : Q (.bool (largeB l)) h) : Ecx X K.probatelaw02_large [.sl 4 0 (l.map thV)] h Q := by
  refine fn_walk H (by simp [A.probatelaw02_large]) fun wf => ?_
  simp [A.probatelaw02_large]
  refine gdD_mk (fun h40 => ?_) (fun h40 => ?_)
  · have : largeB l = true := by simp [largeB]; exact .inl (by omega)
    rw [this] at hQ
    simp
    exact fin (by simp) hQ
  · have h40' : ¬ 40 < l.length := by omega
    simp
    refine loopZ (n := l.length) (fun m env h' => ∃ k, k ≤ l.length ∧ m = l.length - k ∧ env = [(10, .sl 4 0 (l.map thV)), (11, .int .i64 l.length), (12, .int .i64 k)] ∧ Gr h h' ∧ (l.take k).any tooBig = false) ?_ ⟨0, by omega, by omega, rfl, Gr.refl h, by simp⟩
    rintro m env h' ⟨k, hk, rfl, rfl, g, hany⟩
    unfold A.probatelaw02_large.L0
    by_cases hlt : k < l.length
    · have hlt' : (k : Int) < l.length := by omega
      have hg := things_getD hlt
      have big : tooBig l[k] = true → largeB l = true := fun e => by simp only [largeB, Bool.or_eq_true]; exact .inr (any_at hlt e)
      generalize hx : l[k] = x at *
      have hxl : x.l.length ≤ maxLen := hll x (by rw [← hx]; exact List.getElem_mem hlt)
      unfold maxLen at hxl
      simp [hlt', hg, V.cells, V.good, setAt, thC]
      by_cases hneg : x.n < 0
      · simp [hneg]
        rw [big (by simp [tooBig, hneg])] at hQ
        exact fin_wk (g.new _) (.same _) (by simp) hQ
      · by_cases hlen : (40 : Int) < x.l.length
        · simp [hneg, hlen]
          have : 40 < x.l.length := by omega
          rw [big (by simp [tooBig, this])] at hQ
          exact fin_wk (g.new _) (.same _) (by simp) hQ
        · simp [hneg, hlen]
          have hlen' : ¬ 40 < x.l.length := by omega
          refine loopZ (n := x.l.length) (fun m env h'' => ∃ j, j ≤ x.l.length ∧ m = x.l.length - j ∧ env = [(10, .sl 4 0 (l.map thV)), (11, .int .i64 l.length), (12, .int .i64 k), (26, .sl 1 0 (ints x.l)), (27, .int .i64 x.l.length), (28, .int .i64 j)] ∧ Gr h h'' ∧ (x.l.take j).any (fun n => decide (n < 0)) = false) ?_ ⟨0, by omega, by omega, rfl, g.new _, by simp⟩
          rintro m env h'' ⟨j, hj, rfl, rfl, g2, hany2⟩
          unfold A.probatelaw02_large.L1
          by_cases hjt : j < x.l.length
          · have hjt' : (j : Int) < x.l.length := by omega
            have hgj := ints_getD hjt
            have hgj2 : x.l.getD j 0 = x.l[j] := by simp [List.getD, List.getElem?_eq_getElem hjt]
            rw [hgj2] at hgj
            simp [hjt', hgj, V.cells]
            refine gdD_mk (fun hn => ?_) (fun hn => ?_)
            · simp
              have : x.l.any (fun n => decide (n < 0)) = true := any_at hjt (by simpa using hn)
              rw [big (by simp [tooBig]; exact .inr (by simpa using this))] at hQ
              exact fin_wk g2 (.same _) (by simp) hQ
            · simp
              have hany3 := any_take_succ (f := fun n => decide (n < 0)) hjt hany2 (by simpa using hn)
              exact ⟨x.l.length - (j + 1), by omega, j + 1, by omega, rfl, by rw [wrap_i64 (by omega) (by omega)]; rfl, g2, by simpa using hany3⟩
          · have hjt' : ¬ (j : Int) < x.l.length := by omega
            have : j = x.l.length := by omega
            rw [this, List.take_length] at hany2
            unfold maxLen at hl
            simp [hjt']
            have hany3 := any_take_succ hlt hany (by rw [hx]; simp only [tooBig, hany2, Bool.or_false]; simp [hneg, hlen'])
            exact ⟨l.length - (k + 1), by omega, k + 1, by omega, rfl, by rw [wrap_i64 (by omega) (by omega)]; rfl, g2, by simpa using hany3⟩
    · have hlt' : ¬ (k : Int) < l.length := by omega
      have : k = l.length := by omega
      rw [this, List.take_length] at hany
      have : largeB l = false := by simp only [largeB, hany]; simp [h40']
      rw [this] at hQ
      simp [hlt']
      exact fin_wk g (.same _) (by simp) hQ
/-- A thing that is not too large, its numbers as such. -/
def tn (x : Th) : Nat := x.n.toNat
def tl (x : Th) : List Nat := x.l.map Int.toNat
structure Fine (x : Th) : Prop where
  n : x.n = (tn x : Nat)
  l : ints x.l = i64s (tl x)
  len : (tl x).length ≤ 40
  small : ∀ n ∈ tl x, n < 2 ^ 63
  nsm : tn x < 2 ^ 63
/-- A thing's numbers are int's. -/
structure Ranged (x : Th) : Prop where
  n : x.n < 2 ^ 63
  l : ∀ n ∈ x.l, n < 2 ^ 63
  len : x.l.length ≤ maxLen
theorem fine_of {x : Th} (r : Ranged x) (h : tooBig x = false) : Fine x := by
  simp only [tooBig, Bool.or_eq_false_iff, decide_eq_false_iff_not, List.any_eq_false, decide_eq_true_eq] at h
  obtain ⟨⟨h1, h2⟩, h3⟩ := h
  have := r.n
  refine ⟨by unfold tn; omega, ?_, by simp [tl]; omega, fun n hn => ?_, by unfold tn; omega⟩
  · simp only [ints, i64s, tl, List.map_map]
    refine List.map_congr_left fun n hn => ?_
    have := h3 n hn
    simp only [Function.comp, i64]
    rw [Int.toNat_of_nonneg (by omega)]
  · simp only [tl, List.mem_map] at hn
    obtain ⟨m, hm, rfl⟩ := hn
    have := r.l m hm
    omega
theorem fines_of {l : List Th} (hr : ∀ x ∈ l, Ranged x) (h : largeB l = false) : l.length ≤ 40 ∧ ∀ x ∈ l, Fine x := by
  simp only [largeB, Bool.or_eq_false_iff, decide_eq_false_iff_not, List.any_eq_false] at h
  exact ⟨by omega, fun x hx => fine_of (hr x hx) (by simpa using h.2 x hx)⟩
/-- A thing's bytes. -/
def tbytes (x : Th) : List Nat :=
  if x.kind = 1 then vput (tn x) else if x.kind = 2 then vput (if x.n = 1 then 1 else 0) else if x.kind = 3 then vput (tl x).length ++ vputs (tl x) else []
theorem tbytes_len {x : Th} (f : Fine x) : (tbytes x).length ≤ 410 := by
  unfold tbytes
  have h1 := f.nsm
  have h2 := f.len
  have h3 := vputs_len (tl x) f.small
  have h4 := vput_len64 (n := tn x) (by omega)
  have h5 := vput_len64 (n := (tl x).length) (by omega)
  have h6 := vput_len64 (n := if x.n = 1 then 1 else 0) (by split <;> omega)
  split
  · omega
  · split
    · omega
    · split
      · simp; omega
      · simp
theorem WE.new (h : AH) (o st : Nat) (z : List V) : WE h (h.new z) o st st :=
  ⟨Nat.le_refl _, by simp, fun o' h' _ => by simp [show ¬ o' = h.nobj by omega], fun _ _ _ => rfl, .inl rfl⟩
theorem write_spec (H : Has (Ecx X) K.probatelaw02_write A.probatelaw02_write) (L : LW X) {o st : Nat} {l : List Nat} {x : Th} (f : Fine x) (w : WO h o l st) (ho : o < h.nobj) (hl : l.length + 500 ≤ 2 ^ 46)
    (hQ : ∀ h1 st1, WE h h1 o st st1 → WO h1 o (l ++ tbytes x) st1 → Q (.tup []) h1) : Ecx X K.probatelaw02_write [.ptr o 0, thV x] h Q := by
  refine fn_any H (by simp [A.probatelaw02_write]) fun wf => ?_
  have f1 := f.n
  have f2 := f.l
  have f3 := f.len
  have f4 := f.nsm
  have we := WE.new h o st (thC x)
  have w2 : WO (h.new (thC x)) o l st := w.keep (by simp [show ¬ o = h.nobj by omega]) (by simp) (by simp)
  unfold tbytes at hQ
  by_cases h1 : x.kind = 1
  · rw [if_pos h1] at hQ
    simp [A.probatelaw02_write, thV, V.cells, V.good, thC, h1] at we w2 ⊢
    rw [f1] at we w2 ⊢
    refine ecall (wwnum L (tn x) f4 w2 (by omega) fun h1 st1 a b => ?_)
    simp
    exact hQ _ _ (we.trans a) b
  · rw [if_neg h1] at hQ
    by_cases h2 : x.kind = 2
    · rw [if_pos h2] at hQ
      simp [A.probatelaw02_write, thV, V.cells, V.good, thC, h2] at we w2 ⊢
      refine ecall (wwbool L (decide (x.n = 1)) w2 (by omega) fun h1 st1 a b => ?_)
      simp
      exact hQ _ _ (we.trans a) (by simpa using b)
    · rw [if_neg h2] at hQ
      by_cases h3 : x.kind = 3
      · rw [if_pos h3] at hQ
        simp [A.probatelaw02_write, thV, V.cells, V.good, thC, h3] at we w2 ⊢
        rw [f2] at we w2 ⊢
        refine ecall (wwnums L (tl x) f.small w2 (by omega) fun h1 st1 a b => ?_)
        simp
        exact hQ _ _ (we.trans a) (by rw [← List.append_assoc]; exact b)
      · rw [if_neg h3] at hQ
        simp [A.probatelaw02_write, thV, V.cells, V.good, thC, h1, h2, h3] at we w2 ⊢
        exact hQ _ _ we (by simpa using w2)
/-- Put, of which the caller may make more. -/
theorem rput_own (H : Has (Ecx X) K.probateref01_Put A.probateref01_Put) (n : Nat) (hn : n < 2 ^ 64) (hQ : ∀ e1 st1 h1, Own h h1 1 e1 st1 (u8s (vput n)) → Q (.sl e1 st1 (u8s (vput n))) h1) : Ecx X K.probateref01_Put [.int .u64 n] h Q := by
  refine fn_any H (by simp [A.probateref01_Put]) fun wf => ?_
  have hlen := vput_len64 hn
  have hv : vput n = if n < 128 then [n] else (n % 128 + 128) :: vput (n / 128) := by rw [vput]
  by_cases hc : n < 128
  · have hc' : (n : Int) < 128 := by omega
    rw [if_pos hc] at hv
    rw [hv] at hQ
    have e : V.int .u8 (IntKind.u8.wrap (n : Int)) = u8 n := by rw [wrap_u8', u8] <;> omega
    simp [A.probateref01_Put, hc', e, fillL, setAt, V.cells, V.good, V.isAgg, u8]
    exact hQ _ _ _ (Own.full (Gr.refl h) 1 _)
  · have hc' : ¬ (n : Int) < 128 := by omega
    rw [if_neg hc] at hv
    have e1 : IntKind.u8.wrap ((n : Int).tmod 128) = ((n % 128 : Nat) : Int) := by
      rw [show (n : Int).tmod 128 = ((n % 128 : Nat) : Int) from rfl]; exact wrap_u8' (by omega) (by omega)
    have e2 : IntKind.u8.wrap (((n % 128 : Nat) : Int) + 128) = ((n % 128 + 128 : Nat) : Int) := by rw [wrap_u8' (by omega) (by omega)]; omega
    have e3 : IntKind.u64.wrap ((n : Int) / 128) = ((n / 128 : Nat) : Int) := wrap_u64 (by omega) (by omega)
    simp only [Int.natCast_emod, Int.natCast_ediv, Int.natCast_add, Int.cast_ofNat_Int] at e1 e2 e3
    simp [A.probateref01_Put, hc', e1, e2, e3, fillL, setAt, V.cells, V.good, V.isAgg]
    refine ecall ?_
    rw [show (n : Int) / 128 = ((n / 128 : Nat) : Int) from rfl]
    refine rput_spec H (n / 128) (by omega) ?_
    rw [hv] at hlen
    simp at hlen ⊢
    refine (Own.full (Gr.refl h) 1 (u8s [n % 128 + 128])).appZ (fun _ => rfl) (by simp; omega) fun e1' st' h' o' _ _ => ?_
    simp
    rw [← u8s_append] at o' ⊢
    rw [hv] at hQ
    exact hQ _ _ _ o'
theorem rnums_spec (H : Has (Ecx X) K.probateref02_Nums A.probateref02_Nums) (Hp : Has (Ecx X) K.probateref01_Put A.probateref01_Put) (ns : List Nat) (s : Nat) (hn : ∀ n ∈ ns, n < 2 ^ 63) (hl : ns.length ≤ 2 ^ 40)
    (hQ : Q (.sl 1 0 (u8s (vput ns.length ++ vputs ns))) h) : Ecx X K.probateref02_Nums [.sl 1 s (i64s ns)] h Q := by
  refine fn_walk H (by simp [A.probateref02_Nums]) fun wf => ?_
  have hw : IntKind.u64.wrap (ns.length : Int) = ns.length := wrap_u64_nat (by omega)
  have hl1 := vput_len64 (n := ns.length) (by omega)
  simp [A.probateref02_Nums, hw]
  refine ecall (rput_own Hp ns.length (by omega) fun e1 st1 h1 o1 => ?_)
  simp
  refine loopZ (n := ns.length) (fun m env h' => ∃ k e' st', k ≤ ns.length ∧ m = ns.length - k ∧ env = [(0, .sl 1 s (i64s ns)), (3, .sl e' st' (u8s (vput ns.length ++ vputs (ns.take k)))), (4, .int .i64 k)] ∧ Own h h' 1 e' st' (u8s (vput ns.length ++ vputs (ns.take k)))) ?_
    ⟨0, e1, st1, by omega, by omega, by simp [vputs], by simpa [vputs] using o1⟩
  rintro m env h' ⟨k, e', st', hk, rfl, rfl, ow⟩
  unfold A.probateref02_Nums.L0
  by_cases hlt : k < ns.length
  · have hlt' : (k : Int) < ns.length := by omega
    have hg := i64s_getD hlt
    have hgk : ns.getD k 0 = ns[k] := by simp [List.getD, List.getElem?_eq_getElem hlt]
    have hm : ns[k] ∈ ns := List.getElem_mem hlt
    have hw2 : IntKind.u64.wrap (ns[k] : Int) = ns[k] := wrap_u64_nat (by have := hn _ hm; omega)
    have hl2 := vputs_len (ns.take k) fun n h => hn n (List.mem_of_mem_take h)
    have hl3 : (ns.take k).length = k := by simp; omega
    have hl4 := vput_len64 (n := ns[k]) (by have := hn _ hm; omega)
    rw [hgk] at hg
    simp [hlt', hg, V.cells, hw2]
    refine ecall (rput_spec Hp ns[k] (by have := hn _ hm; omega) ?_)
    simp
    refine ow.appZ (fun _ => rfl) (by simp only [u8s_length, List.length_append]; omega) fun e2 st2 h2 o2 _ _ => ?_
    rw [← u8s_append] at o2 ⊢
    simp
    have e3 : vput ns.length ++ vputs (ns.take k) ++ vput ns[k] = vput ns.length ++ vputs (ns.take (k + 1)) := by
      rw [List.take_succ_eq_append_getElem hlt, vputs_snoc, List.append_assoc]
    rw [List.append_assoc] at o2
    refine ⟨ns.length - (k + 1), by omega, k + 1, by omega, rfl, e2, st2, ⟨⟨rfl, rfl, ?_⟩, by rw [wrap_i64 (by omega) (by omega)]; rfl⟩, ?_⟩
    · rw [← e3]; simp
    · rw [← e3, List.append_assoc]; exact o2
  · have hlt' : ¬ (k : Int) < ns.length := by omega
    have : k = ns.length := by omega
    rw [this, List.take_length] at ow
    simp [hlt', this]
    exact fin_own ow (by rw [cellsOf_u8s]; exact Bdd_u8s _ _ _) hQ
end
end Go.Proofs.Ytbbmglginkabfaa.Al
