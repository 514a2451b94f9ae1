/-
  The abstract layer, part 7: every operation at once. Conditions: none.
-/
import Derived.Test.YtpnbdnmmfaomlaaAlOps3
namespace Go.Proofs.Ytpnbdnmmfaomlaa.Al
open Go Go.RowKit
set_option linter.unusedSimpArgs false
set_option linter.unusedVariables false

section
variable {X : Cx} {g : Gh} {w : World} {h : AH} {K : V → AH → Prop} {Y : Keys}

theorem cos_rel {ρ : AO → V} {ρc : Operand → Value} : ∀ {l : List Operand} {m : List AO}, cos Y l = some m → (∀ x ∈ l, ∀ y, co Y x = some y → Rel X g w h (ρ y) (ρc x)) →
    m.length = l.length ∧ ∀ i (h1 : i < m.length) (h2 : i < l.length), Rel X g w h (ρ m[i]) (ρc l[i])
  | [], m, e, _ => by simp [cos] at e; subst e; simp
  | x :: l, m, e, hR => by
    unfold cos at e
    split at e
    · rename_i a b h1 h2
      obtain ⟨k1, k2⟩ := cos_rel h2 (fun x hx => hR x (by simp [hx]))
      simp at e; subst e
      refine ⟨by simp [k1], fun i i1 i2 => ?_⟩
      cases i with
      | zero => exact hR x (by simp) _ h1
      | succ i => exact k2 i (by simpa using i1) (by simpa using i2)
    · simp at e
theorem partsS_rel {ρ : AO → V} {ρc : Operand → Value} {places : List (Nat × Nat)} : ∀ {l : List (Nat × Operand)} {m : List (Nat × Nat × AO)}, partsS Y places l = some m →
    (∀ p ∈ l, ∀ y, co Y p.2 = some y → Rel X g w h (ρ y) (ρc p.2)) → RelParts X g w h (places[·]?) (l.map fun p => (p.1, ρc p.2)) (m.map fun p => (p.1, p.2.1, ρ p.2.2))
  | [], m, e, _ => by simp [partsS] at e; subst e; trivial
  | (i, x) :: l, m, e, hR => by
    unfold partsS at e
    split at e
    · rename_i p a b h1 h2 h3
      simp at e; subst e
      exact ⟨h1, hR (i, x) (by simp) _ h2, partsS_rel h3 (fun q hq => hR q (by simp [hq]))⟩
    · simp at e
theorem partsL_rel {ρ : AO → V} {ρc : Operand → Value} {s : Nat} : ∀ {l : List (Nat × Operand)} {m : List (Nat × AO)}, partsL Y l = some m →
    (∀ p ∈ l, ∀ y, co Y p.2 = some y → Rel X g w h (ρ y) (ρc p.2)) →
    RelParts X g w h (fun i => some (i * s, s)) (l.map fun p => (p.1, ρc p.2)) ((m.map fun p => (p.1, ρ p.2)).map fun q => (q.1 * s, s, q.2))
  | [], m, e, _ => by simp [partsL] at e; subst e; trivial
  | (i, x) :: l, m, e, hR => by
    unfold partsL at e
    split at e
    · rename_i a b h1 h2
      simp at e; subst e
      exact ⟨rfl, hR (i, x) (by simp) _ h1, partsL_rel h2 (fun q hq => hR q (by simp [hq]))⟩
    · simp at e

theorem bnd_rel {ρ : AO → V} {ρc : Operand → Value} {d a : Int} {o : Option Operand} {b : Option AO} (e : coo Y o = some b) (hR : ∀ x ∈ o.toArray, ∀ y, co Y x = some y → Rel X g w h (ρ y) (ρc x)) (hb : bnd ρ d b = some a) :
    bndV d (o.map ρc) = some a := by
  cases o with
  | none => simp [coo] at e; subst e; exact hb
  | some x =>
    simp only [coo] at e
    split at e
    · rename_i y hy
      simp at e; subst e
      have r := hR x (by simp) y hy
      simp only [bnd] at hb
      generalize ρ y = v at r hb
      generalize hu : ρc x = u at r
      cases r <;> simp at hb
      subst hb
      simp [bndV, hu]
    · simp at e

theorem isNilS_spec {y : Operand} (e : isNilS y = true) : y = .const (.slice none 0 0) := by
  unfold isNilS at e; split at e
  · rfl
  · simp at e
theorem isZero_spec {y : Operand} (e : isZero y = true) : y = .const (.int .i64 0) := by
  unfold isZero at e; split at e
  · rfl
  · simp at e
theorem isNilP_spec {y : Operand} (e : isNilP y = true) : y = .const (.pointer none) := by
  unfold isNilP at e; split at e
  · rfl
  · simp at e

theorem out_binop {op : BinOp} {t : TypeId} {x y : Operand} {ao : AOp} (hc : compBin X.P Y op t x y = some ao) {ρ : AO → V} {ρc : Operand → Value} (hC : ∀ v, ρc (.const v) = v)
    (hx : ∀ u, co Y x = some u → Rel X g w h (ρ u) (ρc x)) (hy : ∀ u, co Y y = some u → Rel X g w h (ρ u) (ρc y)) (I : Inv X g w h) {E : Sig} (hk : ao.wp E ρ h K) :
    Out X g w h K ((do pure (Next.value (← (do eqGuard op t x y (ρc x) (ρc y); binOp op t (ρc x) (ρc y)))) : Sem Next).run X.P w) := by
  have hint : ∀ a b : AO, co Y x = some a → co Y y = some b → (AOp.bin op a b).wp E ρ h K →
      Out X g w h K ((do pure (Next.value (← (do eqGuard op t x y (ρc x) (ρc y); binOp op t (ρc x) (ρc y)))) : Sem Next).run X.P w) := by
    intro a b ha hb hk
    have rx := hx a ha
    have ry := hy b hb
    simp only [AOp.wp] at hk
    generalize ρ a = va at rx hk
    generalize ρ b = vb at ry hk
    generalize ρc x = ux at rx ⊢
    generalize ρc y = uy at ry ⊢
    cases rx <;> first | exact hk.elim | skip
    · rename_i k n
      cases ry <;> first | exact hk.elim | skip
      rename_i k' m
      simp only at hk
      by_cases hs : isShift op = true
      · rw [if_pos hs] at hk
        cases op <;> simp [isShift] at hs
        · obtain ⟨q1, q2⟩ := hk
          exact Out.same I (by simp [eqGuard_shl, binOp, Op.shift]; omega) q2 (.int _ _)
        · obtain ⟨q1, q2⟩ := hk
          exact Out.same I (by simp [eqGuard_shr, binOp, Op.shift]; omega) q2 (.int _ _)
      · rw [if_neg hs] at hk
        obtain ⟨rfl, hk⟩ := hk
        exact out_bin_int op I t x y k n m (by rw [if_neg hs]; exact hk)
    · rename_i s
      cases ry <;> first | exact hk.elim | skip
      rename_i s2
      exact out_bin_str op I t x y s s2 hk
  have hbool : ∀ a b : AO, ∀ neg : Bool, X.P.underlying t = some .bool → co Y x = some a → co Y y = some b → op = (if neg then .neq else .eql) → (AOp.beq neg a b).wp E ρ h K →
      Out X g w h K ((do pure (Next.value (← (do eqGuard op t x y (ρc x) (ρc y); binOp op t (ρc x) (ρc y)))) : Sem Next).run X.P w) := by
    intro a b neg ht ha hb ho hk
    have rx := hx a ha
    have ry := hy b hb
    simp only [AOp.wp] at hk
    generalize ρ a = va at rx hk
    generalize ρ b = vb at ry hk
    generalize ρc x = ux at rx ⊢
    generalize ρc y = uy at ry ⊢
    cases rx <;> first | exact hk.elim | skip
    cases ry <;> first | exact hk.elim | skip
    subst ho
    exact out_beq neg I t ht x y _ _ hk
  have heqs : ∀ fields a b, ∀ neg : Bool, X.P.underlying t = some (.struct fields) → co Y x = some a → co Y y = some b → op = (if neg then .neq else .eql) → compEqs X.P neg t fields a b = some ao → 
      Out X g w h K ((do pure (Next.value (← (do eqGuard op t x y (ρc x) (ρc y); binOp op t (ρc x) (ρc y)))) : Sem Next).run X.P w) := by
    intro fields a b neg ht ha hb ho e
    unfold compEqs at e
    split at e
    · simp at e
    · rename_i hg
      simp only [Bool.or_eq_true, not_or, Bool.not_eq_true] at hg
      split at e
      · rename_i offs hoffs
        simp at e; subst e; subst ho
        refine out_eqs neg I ht hg.1 hg.2 hoffs x y (hx a ha) (hy b hb) ?_
        simp only [AOp.wp] at hk; exact hk
      · simp at e
  have hplain : ∀ ao' : AOp, ao' = ao → (match (generalizing := false) X.P.underlying t, co Y x, co Y y with
    | some (.int _), some a, some b => some (AOp.bin op a b)
    | some .string, some a, some b => some (.bin op a b)
    | some .bool, some a, some b => match (generalizing := false) op with
      | .eql => some (.beq false a b)
      | .neq => some (.beq true a b)
      | _ => none
    | some (.struct fields), some a, some b => match (generalizing := false) op with
      | .eql => compEqs X.P false t fields a b
      | .neq => compEqs X.P true t fields a b
      | _ => none
    | _, _, _ => none) = some ao' → ao'.wp E ρ h K →
      Out X g w h K ((do pure (Next.value (← (do eqGuard op t x y (ρc x) (ρc y); binOp op t (ρc x) (ρc y)))) : Sem Next).run X.P w) := by
    intro ao' hao e hk
    split at e
    · rename_i a b q1 q2 q3; simp at e; subst e; exact hint a b q2 q3 hk
    · rename_i a b q1 q2 q3; simp at e; subst e; exact hint a b q2 q3 hk
    · rename_i a b q1 q2 q3
      split at e
      · simp at e; subst e; exact hbool a b false q1 q2 q3 rfl hk
      · simp at e; subst e; exact hbool a b true q1 q2 q3 rfl hk
      · simp at e
    · rename_i fields a b q1 q2 q3
      subst hao
      split at e
      · exact heqs fields a b false q1 q2 q3 rfl e
      · exact heqs fields a b true q1 q2 q3 rfl e
      · simp at e
    · simp at e
  have hnil : ∀ (neg : Bool), op = (if neg then .neq else .eql) → (match (generalizing := false) X.P.underlying t, co Y x with
    | some (.slice _), some a => if isNilS y then some (AOp.isnil neg false a) else none
    | some (.pointer _), some a => if isNilP y then some (AOp.isnil neg true a) else none
    | _, _ => none) = some ao → 
      Out X g w h K ((do pure (Next.value (← (do eqGuard op t x y (ρc x) (ρc y); binOp op t (ρc x) (ρc y)))) : Sem Next).run X.P w) := by
    intro neg ho e
    split at e
    · rename_i e' a q1 q2
      split at e
      · rename_i hn
        simp at e; subst e; subst ho
        have := isNilS_spec hn
        subst this
        rw [hC]
        exact out_isnilS neg I t _ q1 x _ (hx a q2) (by simp only [AOp.wp] at hk; exact hk)
      · simp at e
    · rename_i e' a q1 q2
      split at e
      · rename_i hn
        simp at e; subst e; subst ho
        have := isNilP_spec hn
        subst this
        rw [hC]
        exact out_isnilP neg I t _ q1 x _ (hx a q2) (by simp only [AOp.wp] at hk; exact hk)
      · simp at e
    · simp at e
  unfold compBin at hc
  split at hc
  · exact hnil false rfl hc
  · exact hnil true rfl hc
  · exact hplain _ rfl hc hk

theorem op_out {o : Oper} {ao : AOp} (hY : X.tbl = Y.tbl) (hc : compOp X.P Y o.op = some ao) {ρ : AO → V} {ρc : Operand → Value} (hC : ∀ v, ρc (.const v) = v)
    (hR : ∀ x ∈ o.op.operands, ∀ y, co Y x = some y → Rel X g w h (ρ y) (ρc x)) (I : Inv X g w h) (hcall : ∀ f l, ao ≠ .call f l) {E : Sig} (hk : ao.wp E ρ h K) :
    Out X g w h K ((execOp ρc o).run X.P w) := by
  obtain ⟨dst, op, type, pos, after, guard⟩ := o
  simp only at hc hR
  cases op with
  | move x =>
    simp only [compOp, Option.map_eq_some_iff] at hc
    obtain ⟨a, ha, rfl⟩ := hc
    exact Out.stay I hk (hR x (by simp [Op.operands]) a ha) (by simp [execOp])
  | assign x =>
    simp only [compOp, Option.map_eq_some_iff] at hc
    obtain ⟨a, ha, rfl⟩ := hc
    exact Out.stay I hk (hR x (by simp [Op.operands]) a ha) (by simp [execOp])
  | pick c a b =>
    simp only [compOp] at hc
    split at hc
    · rename_i c' a' b' q1 q2 q3
      simp at hc; subst hc
      have rc := hR c (by simp [Op.operands]) _ q1
      have ra := hR a (by simp [Op.operands]) _ q2
      have rb := hR b (by simp [Op.operands]) _ q3
      simp only [AOp.wp] at hk
      generalize hv : ρ c' = v at rc hk
      generalize hu : ρc c = u at rc
      cases rc <;> first | exact hk.elim | skip
      rename_i t
      cases t
      · exact Out.stay I (hk.2 rfl) rb (by simp [execOp, hu, asBool])
      · exact Out.stay I (hk.1 rfl) ra (by simp [execOp, hu, asBool])
    · simp at hc
  | alloc t =>
    simp only [compOp, Option.map_eq_some_iff] at hc
    obtain ⟨z, hz, rfl⟩ := hc
    exact out_alloc I hz hk
  | box t x =>
    simp only [compOp, Option.map_eq_some_iff] at hc
    obtain ⟨a, ha, rfl⟩ := hc
    exact out_box I t (hR x (by simp [Op.operands]) a ha) hk.1 hk.2
  | build t parts =>
    simp only [compOp] at hc
    split at hc
    · rename_i fields z q1 q2
      split at hc
      · rename_i places q3
        simp only [Option.map_eq_some_iff] at hc
        obtain ⟨qs, q4, rfl⟩ := hc
        have rp := partsS_rel (X := X) (g := g) (w := w) (h := h) (ρ := ρ) (ρc := ρc) q4 (fun p hp => hR p.2 (by simp only [Op.operands]; simp; exact ⟨p.1, by simpa using hp⟩))
        refine out_bld q1 q2 q3 I (qs := qs.map fun p => (p.1, p.2.1, ρ p.2.2)) (by simpa using rp) ?_
        simp only [AOp.wp] at hk; exact hk
      · simp at hc
    · simp at hc
  | buildSlice t n parts =>
    simp only [compOp] at hc
    split at hc
    · rename_i e q1
      split at hc
      · rename_i s gg z l q2 q3 q4 q5
        split at hc
        · rename_i hh
          simp at hc; subst hc
          have rp := partsL_rel (X := X) (g := g) (w := w) (h := h) (ρ := ρ) (ρc := ρc) (s := s) q5 (fun p hp => hR p.2 (by simp only [Op.operands]; simp; exact ⟨p.1, by simpa using hp⟩))
          refine out_bsl (tyElem_spec q1) q2 q4 hh.1 hh.2.1 hh.2.2.1 hh.2.2.2 I (qs := l.map fun p => (p.1, ρ p.2)) (by simpa using rp) ?_
          simp only [AOp.wp] at hk; exact hk
        · simp at hc
      · simp at hc
    · simp at hc
  | load t x =>
    simp only [compOp] at hc
    split at hc
    · rename_i gg n a q1 q2 q3
      simp at hc; subst hc
      refine out_load q1 q2 I (hR x (by simp [Op.operands]) a q3) ?_
      simp only [AOp.wp] at hk; exact hk
    · simp at hc
  | store t x v =>
    simp only [compOp] at hc
    split at hc
    · rename_i n a b q1 q2 q3
      simp at hc; subst hc
      refine out_store q1 I (hR x (by simp [Op.operands]) a q2) (hR v (by simp [Op.operands]) b q3) ?_
      simp only [AOp.wp] at hk; exact hk
    · simp at hc
  | nilCheck x =>
    simp only [compOp, Option.map_eq_some_iff] at hc
    obtain ⟨a, ha, rfl⟩ := hc
    have r := hR x (by simp [Op.operands]) a ha
    simp only [AOp.wp] at hk
    generalize hv : ρ a = v at r hk
    generalize hu : ρc x = u at r
    cases r with
    | ptr o off hn => exact Out.stay I hk (.ptr o off hn) (by simp [execOp, hu])
    | rptr l off b base xf kc ko kp kr => exact Out.stay I hk (.rptr l off b base xf kc ko kp kr) (by simp [execOp, hu])
    | fn f a b fs cs hf hcl hr1 hr2 => exact Out.stay I hk (.fn f a b fs cs hf hcl hr1 hr2) (by simp [execOp, hu])
    | _ => exact hk.elim
  | binOp op t x y yt =>
    exact out_binop hc hC (hR x (by simp [Op.operands])) (hR y (by simp [Op.operands])) I hk
  | unOp op t x =>
    simp only [compOp] at hc
    have key : ∃ a, co Y x = some a ∧ ao = .un op a := by
      cases op <;> simp at hc <;> exact ⟨_, hc.choose_spec.1, hc.choose_spec.2.symm⟩
    obtain ⟨a, ha, rfl⟩ := key
    have r := hR x (by simp [Op.operands]) a ha
    simp only [AOp.wp] at hk
    generalize hv : ρ a = v at r hk
    generalize hu : ρc x = u at r
    cases op <;> cases r <;> first | exact hk.elim | skip
    all_goals first
      | (refine Out.stay I hk (.bool _) ?_; simp [execOp, hu, Op.unary]; done)
      | (refine Out.stay I hk (.int _ _) ?_; simp [execOp, hu, Op.unary, Op.intArith]; done)
      | (refine Out.stay I hk (.int _ _) ?_; simp only [execOp, hu, Op.unary, Op.intBits, bitXor, Sem.run_bind, Sem.run_pure, Result.andThen_ok]; done)
  | convert src dst x =>
    simp only [compOp] at hc
    split at hc
    · rename_i k0 k a q1 q2 q3
      simp at hc; subst hc
      have r := hR x (by simp [Op.operands]) a q3
      simp only [AOp.wp] at hk
      generalize hv : ρ a = v at r hk
      generalize hu : ρc x = u at r
      cases r <;> first | exact hk.elim | skip
      exact Out.stay I hk (.int _ _) (by simp [execOp, hu, convert, run_underlying q1, run_underlying q2, Conv.intToInt])
    · simp at hc
  | fieldAddr s x f =>
    simp only [compOp] at hc
    split at hc
    · rename_i fields a q1 q2
      split at hc
      · rename_i fl q3
        split at hc
        · rename_i n q4
          split at hc
          · simp at hc
          · rename_i hn
            simp at hc; subst hc
            refine out_fa q1 q3 q4 hn I (hR x (by simp [Op.operands]) a q2) ?_
            simp only [AOp.wp] at hk; exact hk
        · simp at hc
      · simp at hc
    · simp at hc
  | field s x f =>
    simp only [compOp] at hc
    split at hc
    · rename_i fields a q1 q2
      split at hc
      · rename_i fl q3
        split at hc
        · rename_i n gg q4 q5
          simp at hc; subst hc
          refine out_fld q1 q3 q4 q5 I (hR x (by simp [Op.operands]) a q2) ?_
          simp only [AOp.wp] at hk; exact hk
        · simp at hc
      · simp at hc
    · simp at hc
  | indexAddr t x i =>
    simp only [compOp] at hc
    split at hc
    · rename_i e q1
      split at hc
      · rename_i n a b q2 q3 q4
        simp at hc; subst hc
        refine out_ia (tyElem_spec q1) q2 I (hR x (by simp [Op.operands]) a q3) (hR i (by simp [Op.operands]) b q4) ?_
        simp only [AOp.wp] at hk; exact hk
      · simp at hc
    · simp at hc
  | index t x i =>
    simp only [compOp] at hc
    split at hc
    · rename_i a b q1 q2 q3
      simp at hc; subst hc
      refine out_ixs q1 I (hR x (by simp [Op.operands]) a q2) (hR i (by simp [Op.operands]) b q3) ?_
      simp only [AOp.wp] at hk; exact hk
    · simp at hc
  | extract x i =>
    simp only [compOp, Option.map_eq_some_iff] at hc
    obtain ⟨a, ha, rfl⟩ := hc
    refine out_ext I i (hR x (by simp [Op.operands]) a ha) ?_
    simp only [AOp.wp] at hk; exact hk
  | makeFunc fn first captured =>
    cases fn <;> simp only [compOp] at hc <;> first | (simp at hc; done) | skip
    rename_i f
    split at hc
    · rename_i k a b q1 q2 q3
      simp at hc; subst hc
      have r1 := cos_rel (X := X) (g := g) (w := w) (h := h) (ρ := ρ) (ρc := ρc) q2 (fun x hx => hR x (by simp only [Op.operands]; simp; left; simpa using hx))
      have r2 := cos_rel (X := X) (g := g) (w := w) (h := h) (ρ := ρ) (ρc := ρc) q3 (fun x hx => hR x (by simp only [Op.operands]; simp; right; simpa using hx))
      refine Out.stay I hk (x := .func (.func f) (first.map ρc) (captured.map ρc)) ?_ (by simp [execOp, Instr.makeFunc])
      have := Rel.fn (X := X) (g := g) (w := w) (h := h) k (a.map ρ) (b.map ρ) (first.map ρc) (captured.map ρc) (by simp [r1.1]) (by simp [r2.1])
        (fun i i1 i2 => by simp at i1 i2 ⊢; have := r1.2 i i1 (by simpa using i2); simpa using this)
        (fun i i1 i2 => by simp at i1 i2 ⊢; have := r2.2 i i1 (by simpa using i2); simpa using this)
      rw [hY, fnKey_spec q1] at this
      exact this
    · simp at hc
  | makeSlice t l c =>
    simp only [compOp] at hc
    split at hc
    · rename_i hl
      have := isZero_spec hl
      subst this
      unfold compMake at hc
      split at hc
      · rename_i e a q1 q2
        split at hc
        · rename_i n m z q3 q4 q5
          split at hc
          · rename_i hh
            simp at hc; subst hc
            refine (?_ : Out X g w h K ((do pure (Next.value (← Instr.makeSlice t (ρc (.const (.int .i64 0))) (ρc c))) : Sem Next).run X.P w))
            rw [hC]
            refine out_mks (tyElem_spec q1) q3 q4 q5 hh.1 hh.2.1 I (hR c (by simp [Op.operands]) a q2) ?_
            simp only [AOp.wp] at hk; exact hk
          · simp at hc
        · simp at hc
      · simp at hc
    · simp at hc
  | slice t x lo hi mx =>
    cases mx with
    | some _ => simp [compOp] at hc
    | none =>
      simp only [compOp] at hc
      split at hc
      · rename_i a l hh q1 q2 q3 q4
        simp at hc; subst hc
        have r := hR x (by simp [Op.operands]) a q2
        simp only [AOp.wp] at hk
        generalize hv : ρ a = v at r hk
        generalize hu : ρc x = u at r
        cases r <;> first | exact hk.elim | skip
        rename_i s
        simp only at hk
        split at hk
        · rename_i i j e1 e2
          obtain ⟨k0, k1, k2, hk⟩ := hk
          have b1 := bnd_rel (X := X) (g := g) (w := w) (h := h) (ρc := ρc) q3 (fun z hz => hR z (by simp only [Op.operands]; simp at hz ⊢; simp [hz])) e1
          have b2 := bnd_rel (X := X) (g := g) (w := w) (h := h) (ρc := ρc) q4 (fun z hz => hR z (by simp only [Op.operands]; simp at hz ⊢; simp [hz])) e2
          have := out_slc_str (K := K) q1 I s b1 b2 k0 k1 k2 hk
          simpa only [execOp, hu, Option.map_none] using this
        · exact hk.elim
      · rename_i e a l hh q1 q2 q3 q4
        simp only [Option.map_eq_some_iff] at hc
        obtain ⟨n, q5, rfl⟩ := hc
        have r := hR x (by simp [Op.operands]) a q2
        simp only [AOp.wp] at hk
        generalize hv : ρ a = v at r hk
        generalize hu : ρc x = u at r
        have main : ∀ e' st m, v = .sl e' st m → Out X g w h K ((do pure (Next.value (← Instr.sliceAt t u (lo.map ρc) (hi.map ρc) none)) : Sem Next).run X.P w) := by
          intro e' st m hvv
          subst hvv
          simp only at hk
          split at hk
          · rename_i i j e1 e2
            obtain ⟨k0, hk⟩ := hk
            have b1 := bnd_rel (X := X) (g := g) (w := w) (h := h) (ρc := ρc) q3 (fun z hz => hR z (by simp only [Op.operands]; simp at hz ⊢; simp [hz])) e1
            have b2 := bnd_rel (X := X) (g := g) (w := w) (h := h) (ρc := ρc) q4 (fun z hz => hR z (by simp only [Op.operands]; simp at hz ⊢; simp [hz])) e2
            exact out_slc (K := K) q1 q5 I r b1 b2 k0 hk
          · exact hk.elim
        have main2 : Out X g w h K ((do pure (Next.value (← Instr.sliceAt t u (lo.map ρc) (hi.map ρc) none)) : Sem Next).run X.P w) := by
          cases v <;> first | exact hk.elim | exact main _ _ _ rfl
        simpa only [execOp, hu, Option.map_none] using main2
      · simp at hc
  | call c =>
    obtain ⟨callee, args, argTypes⟩ := c
    simp only [compOp, compCall] at hc
    cases callee with
    | value f =>
      simp only at hc
      split at hc
      · simp at hc; exact absurd hc.symm (hcall _ _)
      · simp at hc
    | invoke r m => simp at hc
    | builtin b =>
      cases b <;> simp only at hc <;> first | (simp at hc; done) | skip
      case len =>
        split at hc
        · rename_i x t qa qt
          have harg : args = #[x] := by apply Array.ext'; simpa using qa
          have htyp : argTypes = #[t] := by apply Array.ext'; simpa using qt
          subst harg; subst htyp
          have hrun : (execOp ρc { dst, op := .call { callee := .builtin .len, args := #[x], argTypes := #[t] }, type, pos, after, guard } : Sem Next).run X.P w =
              (do pure (Next.value (← Builtin.len_ #[t] type #[ρc x])) : Sem Next).run X.P w := by
            simp [execOp, resolve, invoke, builtin]
          rw [hrun]
          split at hc
          · rename_i e a q1 q2
            simp at hc; subst hc
            refine out_len (t := t) I (hR x (by simp [Op.operands, Call.operands]) a q2) ?_
            simp only [AOp.wp] at hk
            cases hva : ρ a <;> simp only [hva] at hk ⊢
            exact ⟨⟨_, q1⟩, hk⟩
          · rename_i a q1 q2
            simp at hc; subst hc
            refine out_len (t := t) I (hR x (by simp [Op.operands, Call.operands]) a q2) ?_
            simp only [AOp.wp] at hk
            cases hva : ρ a <;> simp only [hva] at hk ⊢
            exact ⟨q1, hk⟩
          · simp at hc
        · simp at hc
      case append =>
        split at hc
        · rename_i x y t t2 qa qt
          have harg : args = #[x, y] := by apply Array.ext'; simpa using qa
          have htyp : argTypes = #[t, t2] := by apply Array.ext'; simpa using qt
          subst harg; subst htyp
          have hrun : (execOp ρc { dst, op := .call { callee := .builtin .append, args := #[x, y], argTypes := #[t, t2] }, type, pos, after, guard } : Sem Next).run X.P w =
              (do pure (Next.value (← Builtin.append_ #[t, t2] type #[ρc x, ρc y])) : Sem Next).run X.P w := by
            simp [execOp, resolve, invoke, builtin]
          rw [hrun]
          split at hc
          · rename_i e e2 a b q1 q2 q3 q4
            split at hc
            · rename_i n m z q5 q6 q7
              split at hc
              · rename_i hh
                obtain ⟨rfl, rfl, hn, hm, hz⟩ := hh
                simp at hc; subst hc
                have rx := hR x (by simp [Op.operands, Call.operands]) a q3
                have ry := hR y (by simp [Op.operands, Call.operands]) b q4
                simp only [AOp.wp] at hk
                generalize hv : ρ a = va at rx hk
                generalize hv2 : ρ b = vb at ry hk
                generalize hu : ρc x = ux at rx ⊢
                generalize hu2 : ρc y = uy at ry ⊢
                obtain ⟨i, zv, i1, i2, i3, i4⟩ := tyZero_spec q7
                obtain ⟨i', i5, rfl⟩ := tySize_info q5
                rw [i1] at i5
                obtain rfl := Option.some.inj i5
                have hby : m = i.bytes := by
                  unfold tyBytes at q6; rw [i1] at q6; exact (Option.some.inj q6).symm
                subst hby
                have hzs : zv.cells.size = i.size := by
                  have := (leafVs_spec i3).1; simp at this; omega
                have main : ∀ e1 st l e2 st2 m, va = .sl e1 st l → vb = .sl e2 st2 m → Out X g w h K ((do pure (Next.value (← Builtin.append_ #[t, t] type #[ux, uy])) : Sem Next).run X.P w) := by
                  intro e1 st l e2 st2 m hva hvb
                  subst hva; subst hvb
                  by_cases hm0 : m = []
                  · have hk1 := hk.1 hm0
                    subst hm0
                    refine Out.same I (x := ux) ?_ hk1 rx
                    have hy0 : (Builtin.lenOf uy).run X.P w = .ok 0 w ∧ ∀ k, (Builtin.firstCells k 0 uy).run X.P w = .ok #[] w := by
                      cases ry <;> simp [Builtin.lenOf, Builtin.firstCells, loadCells, loadCellsFrom]
                    cases rx with
                    | slnil => simp [Builtin.append_, run_underlying q1, sizeOf, typeInfo, i1, hy0.1, hy0.2]
                    | slemp => simp [Builtin.append_, run_underlying q1, sizeOf, typeInfo, i1, hy0.1, hy0.2, storeCells]
                    | sl _ _ _ bb off cap xf k1 ks kcap => simp [Builtin.append_, run_underlying q1, sizeOf, typeInfo, i1, hy0.1, hy0.2, kcap, storeCells]
                  · obtain ⟨k1, k2, k3, k4, hk2⟩ := hk.2 hm0
                    obtain ⟨v', g', w', e4, I', S, r⟩ := app_run (ty := type) I q1 i1 i2 hzs hn hm rx ry hm0 k1 k2 k3 k4
                    exact Out.of_run e4 hk2 I' r S
                cases va <;> first | exact hk.elim | skip
                cases vb <;> first | exact hk.elim | skip
                exact main _ _ _ _ _ _ rfl rfl
              · simp at hc
            · simp at hc
          · simp at hc
        · simp at hc
      case max =>
        split at hc
        · rename_i x y t t2 qa qt
          have harg : args = #[x, y] := by apply Array.ext'; simpa using qa
          have htyp : argTypes = #[t, t2] := by apply Array.ext'; simpa using qt
          subst harg; subst htyp
          split at hc
          · rename_i k0 a b q1 q2 q3
            simp at hc; subst hc
            have rx := hR x (by simp [Op.operands, Call.operands]) a q2
            have ry := hR y (by simp [Op.operands, Call.operands]) b q3
            simp only [AOp.wp] at hk
            generalize hv : ρ a = va at rx hk
            generalize hv2 : ρ b = vb at ry hk
            generalize hu : ρc x = ux at rx
            generalize hu2 : ρc y = uy at ry
            cases rx <;> first | exact hk.elim | skip
            cases ry <;> first | exact hk.elim | skip
            obtain ⟨rfl, hk⟩ := hk
            rename_i k n m
            refine Out.stay I hk (.int _ _) ?_
            have : (if n < m then m else n) = max n m := by
              show _ = (if n ≤ m then _ else _)
              split <;> split <;> omega
            simp [execOp, resolve, invoke, builtin, Builtin.max_, Builtin.max2, hu, hu2, this]
          · simp at hc
        · simp at hc
      case min =>
        split at hc
        · rename_i x y t t2 qa qt
          have harg : args = #[x, y] := by apply Array.ext'; simpa using qa
          have htyp : argTypes = #[t, t2] := by apply Array.ext'; simpa using qt
          subst harg; subst htyp
          split at hc
          · rename_i k0 a b q1 q2 q3
            simp at hc; subst hc
            have rx := hR x (by simp [Op.operands, Call.operands]) a q2
            have ry := hR y (by simp [Op.operands, Call.operands]) b q3
            simp only [AOp.wp] at hk
            generalize hv : ρ a = va at rx hk
            generalize hv2 : ρ b = vb at ry hk
            generalize hu : ρc x = ux at rx
            generalize hu2 : ρc y = uy at ry
            cases rx <;> first | exact hk.elim | skip
            cases ry <;> first | exact hk.elim | skip
            obtain ⟨rfl, hk⟩ := hk
            rename_i k n m
            refine Out.stay I hk (.int _ _) ?_
            have : (if m < n then m else n) = min n m := by
              show _ = (if n ≤ m then _ else _)
              split <;> split <;> omega
            simp [execOp, resolve, invoke, builtin, Builtin.min_, Builtin.min2, hu, hu2, this]
          · simp at hc
        · simp at hc
  | _ => simp [compOp] at hc

end
end Go.Proofs.Ytpnbdnmmfaomlaa.Al
