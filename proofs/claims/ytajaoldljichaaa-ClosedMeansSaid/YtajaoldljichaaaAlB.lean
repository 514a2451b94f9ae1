/-
  The abstract layer, B: what the abstract code says, the model's code does; the entry of a law. Conditions: none.
-/
import Derived.Test.YtajaoldljichaaaAlA
import Derived.LoopN
import Derived.LoopNIn
import Derived.Orders
import Derived.OrdersIn
import Derived.TacticsIn
import Derived.Scope
import Derived.ProofKit
namespace Go.Proofs.Ytajaoldljichaaa.Al
open Go Go.RowKit
set_option linter.unusedSimpArgs false
set_option linter.unusedVariables false

section
variable {X : Cx} {g : Gh} {w : World} {h : AH} {K : V → AH → Prop} {Y : Keys}

theorem cos_rel {ρ : AO → V} {ρc : Operand → Value} : ∀ {l : List Operand} {m : List AO}, cos Y l = some m → (∀ x ∈ l, ∀ y, co Y x = some y → Rel X g w h (ρ y) (ρc x)) →
    m.length = l.length ∧ ∀ i (h1 : i < m.length) (h2 : i < l.length), Rel X g w h (ρ m[i]) (ρc l[i])
  | [], m, e, _ => by simp [cos] at e; subst e; simp
  | x :: l, m, e, hR => by
    unfold cos at e
    split at e
    · rename_i a b h1 h2
      obtain ⟨k1, k2⟩ := cos_rel h2 (fun x hx => hR x (by simp [hx]))
      simp at e; subst e
      refine ⟨by simp [k1], fun i i1 i2 => ?_⟩
      cases i with
      | zero => exact hR x (by simp) _ h1
      | succ i => exact k2 i (by simpa using i1) (by simpa using i2)
    · simp at e
theorem partsS_rel {ρ : AO → V} {ρc : Operand → Value} {places : List (Nat × Nat)} : ∀ {l : List (Nat × Operand)} {m : List (Nat × Nat × AO)}, partsS Y places l = some m →
    (∀ p ∈ l, ∀ y, co Y p.2 = some y → Rel X g w h (ρ y) (ρc p.2)) → RelParts X g w h (places[·]?) (l.map fun p => (p.1, ρc p.2)) (m.map fun p => (p.1, p.2.1, ρ p.2.2))
  | [], m, e, _ => by simp [partsS] at e; subst e; trivial
  | (i, x) :: l, m, e, hR => by
    unfold partsS at e
    split at e
    · rename_i p a b h1 h2 h3
      simp at e; subst e
      exact ⟨h1, hR (i, x) (by simp) _ h2, partsS_rel h3 (fun q hq => hR q (by simp [hq]))⟩
    · simp at e
theorem partsL_rel {ρ : AO → V} {ρc : Operand → Value} {s : Nat} : ∀ {l : List (Nat × Operand)} {m : List (Nat × AO)}, partsL Y l = some m →
    (∀ p ∈ l, ∀ y, co Y p.2 = some y → Rel X g w h (ρ y) (ρc p.2)) →
    RelParts X g w h (fun i => some (i * s, s)) (l.map fun p => (p.1, ρc p.2)) ((m.map fun p => (p.1, ρ p.2)).map fun q => (q.1 * s, s, q.2))
  | [], m, e, _ => by simp [partsL] at e; subst e; trivial
  | (i, x) :: l, m, e, hR => by
    unfold partsL at e
    split at e
    · rename_i a b h1 h2
      simp at e; subst e
      exact ⟨rfl, hR (i, x) (by simp) _ h1, partsL_rel h2 (fun q hq => hR q (by simp [hq]))⟩
    · simp at e

theorem bnd_rel {ρ : AO → V} {ρc : Operand → Value} {d a : Int} {o : Option Operand} {b : Option AO} (e : coo Y o = some b) (hR : ∀ x ∈ o.toArray, ∀ y, co Y x = some y → Rel X g w h (ρ y) (ρc x)) (hb : bnd ρ d b = some a) :
    bndV d (o.map ρc) = some a := by
  cases o with
  | none => simp [coo] at e; subst e; exact hb
  | some x =>
    simp only [coo] at e
    split at e
    · rename_i y hy
      simp at e; subst e
      have r := hR x (by simp) y hy
      simp only [bnd] at hb
      generalize ρ y = v at r hb
      generalize hu : ρc x = u at r
      cases r <;> simp at hb
      subst hb
      simp [bndV, hu]
    · simp at e

theorem isNilS_spec {y : Operand} (e : isNilS y = true) : y = .const (.slice none 0 0) := by
  unfold isNilS at e; split at e
  · rfl
  · simp at e
theorem isZero_spec {y : Operand} (e : isZero y = true) : y = .const (.int .i64 0) := by
  unfold isZero at e; split at e
  · rfl
  · simp at e
theorem isNilP_spec {y : Operand} (e : isNilP y = true) : y = .const (.pointer none) := by
  unfold isNilP at e; split at e
  · rfl
  · simp at e

theorem out_binop {op : BinOp} {t : TypeId} {x y : Operand} {ao : AOp} (hc : compBin X.P Y op t x y = some ao) {ρ : AO → V} {ρc : Operand → Value} (hC : ∀ v, ρc (.const v) = v)
    (hx : ∀ u, co Y x = some u → Rel X g w h (ρ u) (ρc x)) (hy : ∀ u, co Y y = some u → Rel X g w h (ρ u) (ρc y)) (I : Inv X g w h) {E : Sig} (hk : ao.wp E ρ h K) :
    Out X g w h K ((do pure (Next.value (← (do eqGuard op t x y (ρc x) (ρc y); binOp op t (ρc x) (ρc y)))) : Sem Next).run X.P w) := by
  have hint : ∀ a b : AO, co Y x = some a → co Y y = some b → (AOp.bin op a b).wp E ρ h K →
      Out X g w h K ((do pure (Next.value (← (do eqGuard op t x y (ρc x) (ρc y); binOp op t (ρc x) (ρc y)))) : Sem Next).run X.P w) := by
    intro a b ha hb hk
    have rx := hx a ha
    have ry := hy b hb
    simp only [AOp.wp] at hk
    generalize ρ a = va at rx hk
    generalize ρ b = vb at ry hk
    generalize ρc x = ux at rx ⊢
    generalize ρc y = uy at ry ⊢
    cases rx <;> first | exact hk.elim | skip
    · rename_i k n
      cases ry <;> first | exact hk.elim | skip
      rename_i k' m
      simp only at hk
      by_cases hs : isShift op = true
      · rw [if_pos hs] at hk
        cases op <;> simp [isShift] at hs
        · obtain ⟨q1, q2⟩ := hk
          exact Out.same I (by simp [eqGuard_shl, binOp, Op.shift]; omega) q2 (.int _ _)
        · obtain ⟨q1, q2⟩ := hk
          exact Out.same I (by simp [eqGuard_shr, binOp, Op.shift]; omega) q2 (.int _ _)
      · rw [if_neg hs] at hk
        obtain ⟨rfl, hk⟩ := hk
        exact out_bin_int op I t x y k n m (by rw [if_neg hs]; exact hk)
    · rename_i s
      cases ry <;> first | exact hk.elim | skip
      rename_i s2
      exact out_bin_str op I t x y s s2 hk
  have hbool : ∀ a b : AO, ∀ neg : Bool, X.P.underlying t = some .bool → co Y x = some a → co Y y = some b → op = (if neg then .neq else .eql) → (AOp.beq neg a b).wp E ρ h K →
      Out X g w h K ((do pure (Next.value (← (do eqGuard op t x y (ρc x) (ρc y); binOp op t (ρc x) (ρc y)))) : Sem Next).run X.P w) := by
    intro a b neg ht ha hb ho hk
    have rx := hx a ha
    have ry := hy b hb
    simp only [AOp.wp] at hk
    generalize ρ a = va at rx hk
    generalize ρ b = vb at ry hk
    generalize ρc x = ux at rx ⊢
    generalize ρc y = uy at ry ⊢
    cases rx <;> first | exact hk.elim | skip
    cases ry <;> first | exact hk.elim | skip
    subst ho
    exact out_beq neg I t ht x y _ _ hk
  have heqs : ∀ fields a b, ∀ neg : Bool, X.P.underlying t = some (.struct fields) → co Y x = some a → co Y y = some b → op = (if neg then .neq else .eql) → compEqs X.P neg t fields a b = some ao → 
      Out X g w h K ((do pure (Next.value (← (do eqGuard op t x y (ρc x) (ρc y); binOp op t (ρc x) (ρc y)))) : Sem Next).run X.P w) := by
    intro fields a b neg ht ha hb ho e
    unfold compEqs at e
    split at e
    · simp at e
    · rename_i hg
      simp only [Bool.or_eq_true, not_or, Bool.not_eq_true] at hg
      split at e
      · rename_i offs hoffs
        simp at e; subst e; subst ho
        refine out_eqs neg I ht hg.1 hg.2 hoffs x y (hx a ha) (hy b hb) ?_
        simp only [AOp.wp] at hk; exact hk
      · simp at e
  have hplain : ∀ ao' : AOp, ao' = ao → (match (generalizing := false) X.P.underlying t, co Y x, co Y y with
    | some (.int _), some a, some b => some (AOp.bin op a b)
    | some .string, some a, some b => some (.bin op a b)
    | some .bool, some a, some b => match (generalizing := false) op with
      | .eql => some (.beq false a b)
      | .neq => some (.beq true a b)
      | _ => none
    | some (.struct fields), some a, some b => match (generalizing := false) op with
      | .eql => compEqs X.P false t fields a b
      | .neq => compEqs X.P true t fields a b
      | _ => none
    | _, _, _ => none) = some ao' → ao'.wp E ρ h K →
      Out X g w h K ((do pure (Next.value (← (do eqGuard op t x y (ρc x) (ρc y); binOp op t (ρc x) (ρc y)))) : Sem Next).run X.P w) := by
    intro ao' hao e hk
    split at e
    · rename_i a b q1 q2 q3; simp at e; subst e; exact hint a b q2 q3 hk
    · rename_i a b q1 q2 q3; simp at e; subst e; exact hint a b q2 q3 hk
    · rename_i a b q1 q2 q3
      split at e
      · simp at e; subst e; exact hbool a b false q1 q2 q3 rfl hk
      · simp at e; subst e; exact hbool a b true q1 q2 q3 rfl hk
      · simp at e
    · rename_i fields a b q1 q2 q3
      subst hao
      split at e
      · exact heqs fields a b false q1 q2 q3 rfl e
      · exact heqs fields a b true q1 q2 q3 rfl e
      · simp at e
    · simp at e
  have hnil : ∀ (neg : Bool), op = (if neg then .neq else .eql) → (match (generalizing := false) X.P.underlying t, co Y x with
    | some (.slice _), some a => if isNilS y then some (AOp.isnil neg false a) else none
    | some (.pointer _), some a => if isNilP y then some (AOp.isnil neg true a) else none
    | _, _ => none) = some ao → 
      Out X g w h K ((do pure (Next.value (← (do eqGuard op t x y (ρc x) (ρc y); binOp op t (ρc x) (ρc y)))) : Sem Next).run X.P w) := by
    intro neg ho e
    split at e
    · rename_i e' a q1 q2
      split at e
      · rename_i hn
        simp at e; subst e; subst ho
        have := isNilS_spec hn
        subst this
        rw [hC]
        exact out_isnilS neg I t _ q1 x _ (hx a q2) (by simp only [AOp.wp] at hk; exact hk)
      · simp at e
    · rename_i e' a q1 q2
      split at e
      · rename_i hn
        simp at e; subst e; subst ho
        have := isNilP_spec hn
        subst this
        rw [hC]
        exact out_isnilP neg I t _ q1 x _ (hx a q2) (by simp only [AOp.wp] at hk; exact hk)
      · simp at e
    · simp at e
  unfold compBin at hc
  split at hc
  · exact hnil false rfl hc
  · exact hnil true rfl hc
  · exact hplain _ rfl hc hk

theorem op_out {o : Oper} {ao : AOp} (hY : X.tbl = Y.tbl) {md gr : Bool} (hc : compOp X.P Y md gr o.op = some ao) {ρ : AO → V} {ρc : Operand → Value} (hC : ∀ v, ρc (.const v) = v)
    (hR : ∀ x ∈ o.op.operands, ∀ y, co Y x = some y → Rel X g w h (ρ y) (ρc x)) (I : Inv X g w h) (hcall : ∀ f l, ao ≠ .call f l) {E : Sig} (hk : ao.wp E ρ h K) :
    Out X g w h K ((execOp ρc o).run X.P w) := by
  obtain ⟨dst, op, type, pos, after, guard⟩ := o
  simp only at hc hR
  cases op with
  | move x =>
    simp only [compOp, Option.map_eq_some_iff] at hc
    obtain ⟨a, ha, rfl⟩ := hc
    exact Out.stay I hk (hR x (by simp [Op.operands]) a ha) (by simp [execOp])
  | assign x =>
    simp only [compOp, Option.map_eq_some_iff] at hc
    obtain ⟨a, ha, rfl⟩ := hc
    exact Out.stay I hk (hR x (by simp [Op.operands]) a ha) (by simp [execOp])
  | pick c a b =>
    simp only [compOp] at hc
    split at hc
    · rename_i c' a' b' q1 q2 q3
      simp at hc; subst hc
      have rc := hR c (by simp [Op.operands]) _ q1
      have ra := hR a (by simp [Op.operands]) _ q2
      have rb := hR b (by simp [Op.operands]) _ q3
      simp only [AOp.wp] at hk
      generalize hv : ρ c' = v at rc hk
      generalize hu : ρc c = u at rc
      cases rc <;> first | exact hk.elim | skip
      rename_i t
      cases t
      · exact Out.stay I (hk.2 rfl) rb (by simp [execOp, hu, asBool])
      · exact Out.stay I (hk.1 rfl) ra (by simp [execOp, hu, asBool])
    · simp at hc
  | alloc t =>
    simp only [compOp, Option.map_eq_some_iff] at hc
    obtain ⟨z, hz, rfl⟩ := hc
    split at hk
    · exact out_alct I hz hk
    · exact out_alloc I hz hk
  | box t x =>
    simp only [compOp, Option.map_eq_some_iff] at hc
    obtain ⟨a, ha, rfl⟩ := hc
    exact out_box I t (hR x (by simp [Op.operands]) a ha) hk.1 hk.2
  | build t parts =>
    simp only [compOp] at hc
    split at hc
    · rename_i fields z q1 q2
      split at hc
      · rename_i places q3
        simp only [Option.map_eq_some_iff] at hc
        obtain ⟨qs, q4, rfl⟩ := hc
        have rp := partsS_rel (X := X) (g := g) (w := w) (h := h) (ρ := ρ) (ρc := ρc) q4 (fun p hp => hR p.2 (by simp only [Op.operands]; simp; exact ⟨p.1, by simpa using hp⟩))
        refine out_bld q1 q2 q3 I (qs := qs.map fun p => (p.1, p.2.1, ρ p.2.2)) (by simpa using rp) ?_
        simp only [AOp.wp] at hk; exact hk
      · simp at hc
    · simp at hc
  | buildSlice t n parts =>
    simp only [compOp] at hc
    split at hc
    · rename_i e q1
      split at hc
      · rename_i s gg z l q2 q3 q4 q5
        split at hc
        · rename_i hh
          have rp := partsL_rel (X := X) (g := g) (w := w) (h := h) (ρ := ρ) (ρc := ρc) (s := s) q5 (fun p hp => hR p.2 (by simp only [Op.operands]; simp; exact ⟨p.1, by simpa using hp⟩))
          cases hmd : (md && n != 0) with
          | false =>
            rw [hmd] at hc
            simp at hc; subst hc
            refine out_bsl (tyElem_spec q1) q2 q4 hh.1 hh.2.1 hh.2.2.1 hh.2.2.2 I (qs := l.map fun p => (p.1, ρ p.2)) (by simpa using rp) ?_
            simp only [AOp.wp] at hk; exact hk
          | true =>
            rw [hmd] at hc
            simp at hc; subst hc
            refine out_bslo (tyElem_spec q1) q2 q4 hh.1 hh.2.1 hh.2.2.1 hh.2.2.2 I (qs := l.map fun p => (p.1, ρ p.2)) (by simpa using rp) ?_
            simp only [AOp.wp] at hk; exact hk
        · simp at hc
      · simp at hc
    · simp at hc
  | load t x =>
    simp only [compOp] at hc
    split at hc
    · rename_i gg n a q1 q2 q3
      split at hc
      · simp at hc
      · rename_i hn0
        simp at hc; subst hc
        refine out_load q1 q2 hn0 I (hR x (by simp [Op.operands]) a q3) ?_
        simp only [AOp.wp] at hk; exact hk
    · simp at hc
  | store t x v =>
    simp only [compOp] at hc
    split at hc
    · rename_i n a b q1 q2 q3
      split at hc
      · simp at hc
      rename_i hn0
      simp at hc; subst hc
      refine out_store q1 hn0 I (hR x (by simp [Op.operands]) a q2) (hR v (by simp [Op.operands]) b q3) ?_
      simp only [AOp.wp] at hk; exact hk
    · simp at hc
  | nilCheck x =>
    simp only [compOp, Option.map_eq_some_iff] at hc
    obtain ⟨a, ha, rfl⟩ := hc
    have r := hR x (by simp [Op.operands]) a ha
    simp only [AOp.wp] at hk
    generalize hv : ρ a = v at r hk
    generalize hu : ρc x = u at r
    cases r with
    | ptr o off hn hm => exact Out.stay I hk (.ptr o off hn hm) (by simp [execOp, hu])
    | rptr l off b base xf kc ko kp kr => exact Out.stay I hk (.rptr l off b base xf kc ko kp kr) (by simp [execOp, hu])
    | fn f a b fs cs h0 hf hcl hr1 hr2 => exact Out.stay I hk (.fn f a b fs cs h0 hf hcl hr1 hr2) (by simp [execOp, hu])
    | tp o t n hn hm hs => exact Out.stay I hk (.tp o t n hn hm hs) (by simp [execOp, hu])
    | _ => exact hk.elim
  | binOp op t x y yt =>
    exact out_binop hc hC (hR x (by simp [Op.operands])) (hR y (by simp [Op.operands])) I hk
  | unOp op t x =>
    simp only [compOp] at hc
    have key : ∃ a, co Y x = some a ∧ ao = .un op a := by
      cases op <;> simp at hc <;> exact ⟨_, hc.choose_spec.1, hc.choose_spec.2.symm⟩
    obtain ⟨a, ha, rfl⟩ := key
    have r := hR x (by simp [Op.operands]) a ha
    simp only [AOp.wp] at hk
    generalize hv : ρ a = v at r hk
    generalize hu : ρc x = u at r
    cases op <;> cases r <;> first | exact hk.elim | skip
    all_goals first
      | (refine Out.stay I hk (.bool _) ?_; simp [execOp, hu, Op.unary]; done)
      | (refine Out.stay I hk (.int _ _) ?_; simp [execOp, hu, Op.unary, Op.intArith]; done)
      | (refine Out.stay I hk (.int _ _) ?_; simp only [execOp, hu, Op.unary, Op.intBits, bitXor, Sem.run_bind, Sem.run_pure, Result.andThen_ok]; done)
  | convert src dst x =>
    simp only [compOp] at hc
    split at hc
    · rename_i k0 k a q1 q2 q3
      simp at hc; subst hc
      have r := hR x (by simp [Op.operands]) a q3
      simp only [AOp.wp] at hk
      generalize hv : ρ a = v at r hk
      generalize hu : ρc x = u at r
      cases r <;> first | exact hk.elim | skip
      exact Out.stay I hk (.int _ _) (by simp [execOp, hu, convert, run_underlying q1, run_underlying q2, Conv.intToInt])
    · rename_i e a q1 q2 q3
      split at hc
      · rename_i q4
        simp at hc; subst hc
        exact out_s2b q1 q2 q4 I (hR x (by simp [Op.operands]) a q3) hk
      · simp at hc
    · simp at hc
  | fieldAddr s x f =>
    simp only [compOp] at hc
    split at hc
    · rename_i fields a q1 q2
      split at hc
      · rename_i fl q3
        split at hc
        · rename_i n q4
          split at hc
          · simp at hc
          · rename_i hn
            simp at hc; subst hc
            refine out_fa q1 q3 q4 hn I (hR x (by simp [Op.operands]) a q2) ?_
            simp only [AOp.wp] at hk; exact hk
        · simp at hc
      · simp at hc
    · simp at hc
  | field s x f =>
    simp only [compOp] at hc
    split at hc
    · rename_i fields a q1 q2
      split at hc
      · rename_i fl q3
        split at hc
        · rename_i n gg q4 q5
          simp at hc; subst hc
          refine out_fld q1 q3 q4 q5 I (hR x (by simp [Op.operands]) a q2) ?_
          simp only [AOp.wp] at hk; exact hk
        · simp at hc
      · simp at hc
    · simp at hc
  | indexAddr t x i =>
    simp only [compOp] at hc
    split at hc
    · rename_i e q1
      split at hc
      · rename_i n a b q2 q3 q4
        simp at hc; subst hc
        refine out_ia (tyElem_spec q1) q2 I (hR x (by simp [Op.operands]) a q3) (hR i (by simp [Op.operands]) b q4) ?_
        simp only [AOp.wp] at hk; exact hk
      · simp at hc
    · simp at hc
  | index t x i =>
    simp only [compOp] at hc
    split at hc
    · rename_i a b q1 q2 q3
      simp at hc; subst hc
      refine out_ixs q1 I (hR x (by simp [Op.operands]) a q2) (hR i (by simp [Op.operands]) b q3) ?_
      simp only [AOp.wp] at hk; exact hk
    · simp at hc
  | extract x i =>
    simp only [compOp, Option.map_eq_some_iff] at hc
    obtain ⟨a, ha, rfl⟩ := hc
    refine out_ext I i (hR x (by simp [Op.operands]) a ha) ?_
    simp only [AOp.wp] at hk; exact hk
  | makeFunc fn first captured =>
    cases fn <;> simp only [compOp] at hc <;> first | (simp at hc; done) | skip
    rename_i f
    split at hc
    · rename_i k a b q1 q2 q3
      simp at hc; subst hc
      have r1 := cos_rel (X := X) (g := g) (w := w) (h := h) (ρ := ρ) (ρc := ρc) q2 (fun x hx => hR x (by simp only [Op.operands]; simp; left; simpa using hx))
      have r2 := cos_rel (X := X) (g := g) (w := w) (h := h) (ρ := ρ) (ρc := ρc) q3 (fun x hx => hR x (by simp only [Op.operands]; simp; right; simpa using hx))
      refine Out.stay I hk (x := .func (.func f) (first.map ρc) (captured.map ρc)) ?_ (by simp [execOp, Instr.makeFunc])
      have := Rel.fn (X := X) (g := g) (w := w) (h := h) k (a.map ρ) (b.map ρ) (first.map ρc) (captured.map ρc) (fnKey_ne q1) (by simp [r1.1]) (by simp [r2.1])
        (fun i i1 i2 => by simp at i1 i2 ⊢; have := r1.2 i i1 (by simpa using i2); simpa using this)
        (fun i i1 i2 => by simp at i1 i2 ⊢; have := r2.2 i i1 (by simpa using i2); simpa using this)
      rw [hY, fnKey_spec q1] at this
      exact this
    · simp at hc
  | makeMap t r =>
    cases r with
    | none =>
      simp only [compOp] at hc
      simp at hc; subst hc
      exact out_mkm I t hk
    | some r => simp [compOp] at hc
  | lookup t x k ok =>
    simp only [compOp] at hc
    split at hc
    · rename_i kt et a b q1 q2 q3
      split at hc
      · rename_i e z q4 q5
        simp at hc; subst hc
        exact out_lkp q1 q4 q5 ok I (hR x (by simp [Op.operands]) a q2) (hR k (by simp [Op.operands]) b q3) hk
      · simp at hc
    · simp at hc
  | mapUpdate t x k v =>
    simp only [compOp] at hc
    split at hc
    · rename_i kt et a b c q1 q2 q3 q4
      split at hc
      · rename_i e q5
        simp at hc; subst hc
        exact out_mupd q1 q5 I (hR x (by simp [Op.operands]) a q2) (hR k (by simp [Op.operands]) b q3) (hR v (by simp [Op.operands]) c q4) hk
      · simp at hc
    · simp at hc
  | mapEntry t x k =>
    simp only [compOp] at hc
    split at hc
    · rename_i kt et a b q1 q2 q3
      split at hc
      · rename_i e z q4 q5
        simp at hc; subst hc
        exact out_ment q1 q4 q5 I (hR x (by simp [Op.operands]) a q2) (hR k (by simp [Op.operands]) b q3) hk
      · simp at hc
    · simp at hc
  | entryStore t x s' v =>
    simp only [compOp] at hc
    split at hc
    · rename_i a b c q1 q2 q3
      simp at hc; subst hc
      exact out_mest t I (hR x (by simp [Op.operands]) a q1) (hR s' (by simp [Op.operands]) b q2) (hR v (by simp [Op.operands]) c q3) hk
    · simp at hc
  | makeSlice t l c =>
    simp only [compOp] at hc
    split at hc
    · unfold compMakeO at hc
      split at hc
      · rename_i e a b q1 q2 q2'
        split at hc
        · rename_i n m z q3 q4 q5
          split at hc
          · rename_i hh
            simp at hc; subst hc
            refine (?_ : Out X g w h K ((do pure (Next.value (← Instr.makeSlice t (ρc l) (ρc c))) : Sem Next).run X.P w))
            refine out_mkso (tyElem_spec q1) q3 q4 q5 hh.1 hh.2.1 hh.2.2 I (hR l (by simp [Op.operands]) a q2) (hR c (by simp [Op.operands]) b q2') ?_
            simp only [AOp.wp] at hk; exact hk
          · simp at hc
        · simp at hc
      · simp at hc
    split at hc
    · rename_i hl
      have := isZero_spec hl
      subst this
      unfold compMake at hc
      split at hc
      · rename_i e a q1 q2
        split at hc
        · rename_i n m z q3 q4 q5
          split at hc
          · rename_i hh
            simp at hc; subst hc
            refine (?_ : Out X g w h K ((do pure (Next.value (← Instr.makeSlice t (ρc (.const (.int .i64 0))) (ρc c))) : Sem Next).run X.P w))
            rw [hC]
            refine out_mks (tyElem_spec q1) q3 q4 q5 hh.1 hh.2.1 I (hR c (by simp [Op.operands]) a q2) ?_
            simp only [AOp.wp] at hk; exact hk
          · simp at hc
        · simp at hc
      · simp at hc
    · simp at hc
  | slice t x lo hi mx =>
    cases mx with
    | some _ => simp [compOp] at hc
    | none =>
      simp only [compOp] at hc
      split at hc
      · rename_i a l hh q1 q2 q3 q4
        simp at hc; subst hc
        have r := hR x (by simp [Op.operands]) a q2
        simp only [AOp.wp] at hk
        generalize hv : ρ a = v at r hk
        generalize hu : ρc x = u at r
        cases r <;> first | exact hk.elim | skip
        rename_i s
        simp only at hk
        split at hk
        · rename_i i j e1 e2
          obtain ⟨k0, k1, k2, hk⟩ := hk
          have b1 := bnd_rel (X := X) (g := g) (w := w) (h := h) (ρc := ρc) q3 (fun z hz => hR z (by simp only [Op.operands]; simp at hz ⊢; simp [hz])) e1
          have b2 := bnd_rel (X := X) (g := g) (w := w) (h := h) (ρc := ρc) q4 (fun z hz => hR z (by simp only [Op.operands]; simp at hz ⊢; simp [hz])) e2
          have := out_slc_str (K := K) q1 I s b1 b2 k0 k1 k2 hk
          simpa only [execOp, hu, Option.map_none] using this
        · exact hk.elim
      · rename_i e a l hh q1 q2 q3 q4
        simp only [Option.map_eq_some_iff] at hc
        obtain ⟨n, q5, rfl⟩ := hc
        have r := hR x (by simp [Op.operands]) a q2
        simp only [AOp.wp] at hk
        generalize hv : ρ a = v at r hk
        generalize hu : ρc x = u at r
        have main : ∀ e' st m, v = .sl e' st m → Out X g w h K ((do pure (Next.value (← Instr.sliceAt t u (lo.map ρc) (hi.map ρc) none)) : Sem Next).run X.P w) := by
          intro e' st m hvv
          subst hvv
          simp only at hk
          split at hk
          · rename_i i j e1 e2
            obtain ⟨k0, hk⟩ := hk
            have b1 := bnd_rel (X := X) (g := g) (w := w) (h := h) (ρc := ρc) q3 (fun z hz => hR z (by simp only [Op.operands]; simp at hz ⊢; simp [hz])) e1
            have b2 := bnd_rel (X := X) (g := g) (w := w) (h := h) (ρc := ρc) q4 (fun z hz => hR z (by simp only [Op.operands]; simp at hz ⊢; simp [hz])) e2
            exact out_slc (K := K) q1 q5 I r b1 b2 k0 hk
          · exact hk.elim
        have main2 : Out X g w h K ((do pure (Next.value (← Instr.sliceAt t u (lo.map ρc) (hi.map ρc) none)) : Sem Next).run X.P w) := by
          cases v <;> first | exact hk.elim | exact main _ _ _ rfl | skip
          cases r
          rename_i e' o off len cap c hn hm hc hcc
          simp only at hk
          split at hk
          · rename_i i j e1 e2
            obtain ⟨rfl, k0, k1, k2, hk⟩ := hk
            have b1 := bnd_rel (X := X) (g := g) (w := w) (h := h) (ρc := ρc) q3 (fun z hz => hR z (by simp only [Op.operands]; simp at hz ⊢; simp [hz])) e1
            have b2 := bnd_rel (X := X) (g := g) (w := w) (h := h) (ρc := ρc) q4 (fun z hz => hR z (by simp only [Op.operands]; simp at hz ⊢; simp [hz])) e2
            exact out_slco (K := K) q1 q5 I hn hm hc hcc b1 b2 k0 k1 k2 hk
          · exact hk.elim
        simpa only [execOp, hu, Option.map_none] using main2
      · simp at hc
  | call c =>
    obtain ⟨callee, args, argTypes⟩ := c
    simp only [compOp, compCall] at hc
    cases callee with
    | value f =>
      simp only at hc
      split at hc
      · simp at hc; exact absurd hc.symm (hcall _ _)
      · simp at hc
    | invoke r m => simp at hc
    | builtin b =>
      cases b <;> simp only at hc <;> first | (simp at hc; done) | skip
      case len =>
        split at hc
        · rename_i x t qa qt
          have harg : args = #[x] := by apply Array.ext'; simpa using qa
          have htyp : argTypes = #[t] := by apply Array.ext'; simpa using qt
          subst harg; subst htyp
          have hrun : (execOp ρc { dst, op := .call { callee := .builtin .len, args := #[x], argTypes := #[t] }, type, pos, after, guard } : Sem Next).run X.P w =
              (do pure (Next.value (← Builtin.len_ #[t] type #[ρc x])) : Sem Next).run X.P w := by
            simp [execOp, resolve, invoke, builtin]
          rw [hrun]
          split at hc
          · rename_i e a q1 q2
            simp at hc; subst hc
            refine out_len (t := t) I (hR x (by simp [Op.operands, Call.operands]) a q2) ?_
            simp only [AOp.wp] at hk
            cases hva : ρ a <;> simp only [hva] at hk ⊢
            · exact ⟨⟨_, q1⟩, hk⟩
            · exact ⟨⟨_, q1⟩, hk⟩
            · rename_i t' v
              cases v <;> first | exact hk.elim | exact ⟨⟨_, q1⟩, hk⟩
          · rename_i a q1 q2
            simp at hc; subst hc
            refine out_len (t := t) I (hR x (by simp [Op.operands, Call.operands]) a q2) ?_
            simp only [AOp.wp] at hk
            cases hva : ρ a <;> simp only [hva] at hk ⊢
            exact ⟨q1, hk⟩
          · rename_i kt et a q1 q2
            simp at hc; subst hc
            exact out_mlen q1 I (hR x (by simp [Op.operands, Call.operands]) a q2) hk
          · simp at hc
        · simp at hc
      case append =>
        split at hc
        · rename_i x y t t2 qa qt
          have harg : args = #[x, y] := by apply Array.ext'; simpa using qa
          have htyp : argTypes = #[t, t2] := by apply Array.ext'; simpa using qt
          subst harg; subst htyp
          have hrun : (execOp ρc { dst, op := .call { callee := .builtin .append, args := #[x, y], argTypes := #[t, t2] }, type, pos, after, guard } : Sem Next).run X.P w =
              (do pure (Next.value (← Builtin.append_ #[t, t2] type #[ρc x, ρc y])) : Sem Next).run X.P w := by
            simp [execOp, resolve, invoke, builtin]
          rw [hrun]
          split at hc
          · rename_i e e2 a b q1 q2 q3 q4
            split at hc
            · rename_i n m z q5 q6 q7
              split at hc
              · rename_i hh
                obtain ⟨rfl, rfl, hn, hm, hz⟩ := hh
                cases gr with
                | true =>
                  simp at hc; subst hc
                  have rx := hR x (by simp [Op.operands, Call.operands]) a q3
                  have ry := hR y (by simp [Op.operands, Call.operands]) b q4
                  simp only [AOp.wp] at hk
                  obtain ⟨i, zv, i1, i2, i3, i4⟩ := tyZero_spec q7
                  obtain ⟨i', i5, rfl⟩ := tySize_info q5
                  rw [i1] at i5
                  obtain rfl := Option.some.inj i5
                  have hby : m = i.bytes := by
                    unfold tyBytes at q6; rw [i1] at q6; exact (Option.some.inj q6).symm
                  subst hby
                  obtain ⟨v', h', x', g', w', e1, k1, I', r', S⟩ := appg_run (ty := type) I q1 i1 i2 i3 i4 hz hn hm rx ry hk
                  exact Out.of_run e1 k1 I' r' S
                | false =>
                cases md with
                | true =>
                  simp at hc; subst hc
                  have rx := hR x (by simp [Op.operands, Call.operands]) a q3
                  have ry := hR y (by simp [Op.operands, Call.operands]) b q4
                  simp only [AOp.wp] at hk
                  obtain ⟨i, zv, i1, i2, i3, i4⟩ := tyZero_spec q7
                  obtain ⟨i', i5, rfl⟩ := tySize_info q5
                  rw [i1] at i5
                  obtain rfl := Option.some.inj i5
                  have hby : m = i.bytes := by
                    unfold tyBytes at q6; rw [i1] at q6; exact (Option.some.inj q6).symm
                  subst hby
                  obtain ⟨v', h', x', g', w', e1, k1, I', r', S⟩ := appo_run (ty := type) I q1 i1 i2 i3 i4 hz hn hm rx ry hk
                  exact Out.of_run e1 k1 I' r' S
                | false =>
                simp at hc; subst hc
                have rx := hR x (by simp [Op.operands, Call.operands]) a q3
                have ry := hR y (by simp [Op.operands, Call.operands]) b q4
                simp only [AOp.wp] at hk
                generalize hv : ρ a = va at rx hk
                generalize hv2 : ρ b = vb at ry hk
                generalize hu : ρc x = ux at rx ⊢
                generalize hu2 : ρc y = uy at ry ⊢
                obtain ⟨i, zv, i1, i2, i3, i4⟩ := tyZero_spec q7
                obtain ⟨i', i5, rfl⟩ := tySize_info q5
                rw [i1] at i5
                obtain rfl := Option.some.inj i5
                have hby : m = i.bytes := by
                  unfold tyBytes at q6; rw [i1] at q6; exact (Option.some.inj q6).symm
                subst hby
                have hzs : zv.cells.size = i.size := by
                  have := (leafVs_spec i3).1; simp at this; omega
                have main : ∀ e1 st l e2 st2 m, va = .sl e1 st l → vb = .sl e2 st2 m → Out X g w h K ((do pure (Next.value (← Builtin.append_ #[t, t] type #[ux, uy])) : Sem Next).run X.P w) := by
                  intro e1 st l e2 st2 m hva hvb
                  subst hva; subst hvb
                  by_cases hm0 : m = []
                  · have hk1 := hk.1 hm0
                    subst hm0
                    refine Out.same I (x := ux) ?_ hk1 rx
                    have hy0 : (Builtin.lenOf uy).run X.P w = .ok 0 w ∧ ∀ k, (Builtin.firstCells k 0 uy).run X.P w = .ok #[] w := by
                      cases ry <;> simp [Builtin.lenOf, Builtin.firstCells, loadCells, loadCellsFrom]
                    cases rx with
                    | slnil => simp [Builtin.append_, run_underlying q1, sizeOf, typeInfo, i1, hy0.1, hy0.2]
                    | slemp => simp [Builtin.append_, run_underlying q1, sizeOf, typeInfo, i1, hy0.1, hy0.2, storeCells]
                    | sl _ _ _ bb off cap xf k1 ks kcap => simp [Builtin.append_, run_underlying q1, sizeOf, typeInfo, i1, hy0.1, hy0.2, kcap, storeCells]
                  · obtain ⟨k1, k2, k3, k4, hk2⟩ := hk.2 hm0
                    obtain ⟨v', g', w', e4, I', S, r⟩ := app_run (ty := type) I q1 i1 i2 hzs hn hm rx ry hm0 k1 k2 k3 k4
                    exact Out.of_run e4 hk2 I' r S
                cases va <;> first | exact hk.elim | skip
                cases vb <;> first | exact hk.elim | skip
                exact main _ _ _ _ _ _ rfl rfl
              · simp at hc
            · simp at hc
          · rename_i e a b q1 q2 q3 q4
            split at hc
            · rename_i n m z q0 q5 q6 q7
              split at hc
              · rename_i hh
                obtain ⟨rfl, rfl, hz, _, _⟩ := hh
                simp at hc; subst hc
                have rx := hR x (by simp [Op.operands, Call.operands]) a q3
                have ry := hR y (by simp [Op.operands, Call.operands]) b q4
                simp only [AOp.wp] at hk
                generalize hv : ρ a = va at rx hk
                generalize hv2 : ρ b = vb at ry hk
                generalize hu : ρc x = ux at rx ⊢
                generalize hu2 : ρc y = uy at ry ⊢
                obtain ⟨i, zv, i1, i2, i3, i4⟩ := tyZero_spec q7
                obtain ⟨i', i5, i6⟩ := tySize_info q5
                rw [i1] at i5
                obtain rfl := Option.some.inj i5
                have hby : i.bytes = 1 := by
                  unfold tyBytes at q6; rw [i1] at q6; exact Option.some.inj q6
                have hzs : zv.cells.size = 1 := by
                  have := (leafVs_spec i3).1; simp at this; omega
                have hnone : ∀ (ux : Value), (∃ v, Rel X g w h v ux ∧ ∃ e1 st l, v = .sl e1 st l) → (Builtin.append_ #[t, t2] type #[ux, .string ⟨([] : List UInt8).toArray⟩]).run X.P w = .ok ux w := fun ux ⟨v, rv, e1, st, l, hv⟩ => by
                  subst hv
                  have hs0 : (⟨([] : List UInt8).toArray⟩ : ByteArray).size = 0 := rfl
                  have hfc : (Builtin.firstCells 1 0 (.string ⟨([] : List UInt8).toArray⟩)).run X.P w = .ok #[] w := by
                    have := Lib.run_firstCells_string (P := X.P) w 1 ⟨([] : List UInt8).toArray⟩
                    rw [hs0] at this; exact this
                  cases rv with
                  | slnil => simp [Builtin.append_, run_underlying q1, run_underlying q2, sizeOf, typeInfo, i1, i6, Builtin.lenOf, hs0, hfc]
                  | slemp => simp [Builtin.append_, run_underlying q1, run_underlying q2, sizeOf, typeInfo, i1, i6, Builtin.lenOf, hs0, hfc, storeCells]
                  | sl _ _ _ bb off cap xf k1 ks kcap => simp [Builtin.append_, run_underlying q1, run_underlying q2, sizeOf, typeInfo, i1, i6, Builtin.lenOf, hs0, hfc, kcap, storeCells]
                split at hk
                · rename_i e1 s
                  cases ry with
                  | str s =>
                  by_cases hm0 : s = []
                  · subst hm0
                    exact Out.same I (x := ux) (hnone ux ⟨_, rx, _, _, _, rfl⟩) (hk.1 rfl) rx
                  · obtain ⟨k4, hk2⟩ := hk.2 hm0
                    obtain ⟨v', g', w', e4, I', S, r⟩ := apps_run (ty := type) I q1 q2 i1 i2 hzs i6 hby rx s hm0 (.inl rfl) (.inl rfl) (by simpa using k4) (fun b off sp n c q => by
                      subst q
                      cases rx with
                      | sl _ _ _ bb off cap xf k1 => exact absurd rfl k1)
                    exact Out.of_run e4 hk2 I' (by simpa using r) S
                · rename_i t' e1 st l s
                  obtain ⟨rfl, hk⟩ := hk
                  cases ry with
                  | str s =>
                  cases rx with
                  | tys _ _ a n c r0 ht0 =>
                  by_cases hm0 : s = []
                  · subst hm0
                    exact Out.same I (x := .slice a n c) (hnone _ ⟨_, r0, _, _, _, rfl⟩) (hk.1 rfl) (.tys _ _ _ _ _ r0 ht0)
                  · have hb0 : bytesV s ≠ [] := by simpa [bytesV] using hm0
                    have hbl : (bytesV s).length = s.length := by simp [bytesV]
                    obtain ⟨k1, k2, k3, k4, hk2⟩ := hk.2 hb0
                    rw [hbl] at k4
                    obtain ⟨v', g', w', e4, I', S, r⟩ := apps_run (ty := type) I q1 q2 i1 i2 hzs i6 hby r0 s hm0 k1 k2 k4 (fun b off sp n c q => by
                      simp at q
                      obtain ⟨rfl, rfl, rfl⟩ := q
                      exact ht0 _ _ _ rfl)
                    exact Out.of_run e4 hk2 I' r S
                · exact hk.elim
              · simp at hc
            · simp at hc
          · simp at hc
        · simp at hc
      case max =>
        split at hc
        · rename_i x y t t2 qa qt
          have harg : args = #[x, y] := by apply Array.ext'; simpa using qa
          have htyp : argTypes = #[t, t2] := by apply Array.ext'; simpa using qt
          subst harg; subst htyp
          split at hc
          · rename_i k0 a b q1 q2 q3
            simp at hc; subst hc
            have rx := hR x (by simp [Op.operands, Call.operands]) a q2
            have ry := hR y (by simp [Op.operands, Call.operands]) b q3
            simp only [AOp.wp] at hk
            generalize hv : ρ a = va at rx hk
            generalize hv2 : ρ b = vb at ry hk
            generalize hu : ρc x = ux at rx
            generalize hu2 : ρc y = uy at ry
            cases rx <;> first | exact hk.elim | skip
            cases ry <;> first | exact hk.elim | skip
            obtain ⟨rfl, hk⟩ := hk
            rename_i k n m
            refine Out.stay I hk (.int _ _) ?_
            have : (if n < m then m else n) = max n m := by
              show _ = (if n ≤ m then _ else _)
              split <;> split <;> omega
            simp [execOp, resolve, invoke, builtin, Builtin.max_, Builtin.max2, hu, hu2, this]
          · simp at hc
        · simp at hc
      case min =>
        split at hc
        · rename_i x y t t2 qa qt
          have harg : args = #[x, y] := by apply Array.ext'; simpa using qa
          have htyp : argTypes = #[t, t2] := by apply Array.ext'; simpa using qt
          subst harg; subst htyp
          split at hc
          · rename_i k0 a b q1 q2 q3
            simp at hc; subst hc
            have rx := hR x (by simp [Op.operands, Call.operands]) a q2
            have ry := hR y (by simp [Op.operands, Call.operands]) b q3
            simp only [AOp.wp] at hk
            generalize hv : ρ a = va at rx hk
            generalize hv2 : ρ b = vb at ry hk
            generalize hu : ρc x = ux at rx
            generalize hu2 : ρc y = uy at ry
            cases rx <;> first | exact hk.elim | skip
            cases ry <;> first | exact hk.elim | skip
            obtain ⟨rfl, hk⟩ := hk
            rename_i k n m
            refine Out.stay I hk (.int _ _) ?_
            have : (if m < n then m else n) = min n m := by
              show _ = (if n ≤ m then _ else _)
              split <;> split <;> omega
            simp [execOp, resolve, invoke, builtin, Builtin.min_, Builtin.min2, hu, hu2, this]
          · simp at hc
        · simp at hc
  | makeInterface t x =>
    simp only [compOp] at hc
    split at hc
    · rename_i k a q1 q2
      simp at hc; subst hc
      have rx := hR x (by simp [Op.operands]) a q2
      simp only [AOp.wp] at hk
      generalize hv : ρ a = va at rx hk
      generalize hu : ρc x = ux at rx
      cases rx <;> first | exact hk.elim | skip
      rename_i k n
      refine Out.stay I hk (.cval _) ?_
      simp [execOp, hu, Instr.makeInterface, underlying, q1]
    · simp at hc
  | panic x =>
    exfalso
    simp only [compOp] at hc
    split at hc
    · simp at hc; exact hcall _ _ hc.symm
    · simp at hc
  | _ => simp [compOp] at hc

end
end Go.Proofs.Ytajaoldljichaaa.Al
namespace Go.Proofs.Ytajaoldljichaaa.Al
open Go Go.RowKit
set_option linter.unusedSimpArgs false
set_option linter.unusedVariables false

/-- Any machine; a function's own frame, or (some l) a frame of a round of the loop whose record is l. -/
def FR (ro : Option Nat) : Fence := { Fence.wide with round := ro }
theorem stepR_scope {P : Program} {b : Frame} {a : Act} {k : List Item} {cs : List Frame} {w : World} {c : Code} : step P (lone (b.atR a (.code (.scope c) :: k)) cs w) = .next (lone (b.atR a (.code c :: .inScope c :: k)) cs w) :=
  step_lone_go (by simp [stepG, stepG.exec, Frame.atR])
theorem stepR_inScope {P : Program} {b : Frame} {a : Act} {k : List Item} {cs : List Frame} {w : World} {c : Code} : step P (lone (b.atR a (.inScope c :: k)) cs w) = .next (lone (b.atR a k) cs w) :=
  step_lone_go (by simp [stepG, stepG.exec, Frame.atR])
theorem wpIn_scope_straight {F : Fence} {n : Nat} {P : Program} {Q : Exit → Act → World → Prop} {a : Act} {w : World} {c : Code} (h : c.wpIn F n P (Exit.noGoto Q) a w) : (Code.scope c).wpIn F n P Q a w := by
  intro b k cs hro hb hr
  have h0 : (lone (b.atR a (.code (.scope c) :: k)) cs w).fenced P F := fenced_calm hb hr rfl
  obtain ⟨e, a₁, w₁, hq, harr⟩ := h b (.inScope c :: k) cs hro hb hr
  cases e with
  | normal => exact ⟨.normal, a₁, w₁, hq, .head h0 stepR_scope (StepsIn.trans harr (.one (fenced_calm hb hr rfl) stepR_inScope))⟩
  | exit id =>
    have hx : exitTo id (.inScope c :: k) = exitTo id k := by simp [exitTo]
    exact ⟨.exit id, a₁, w₁, hq, fun k' hk => .head h0 stepR_scope (harr.1 k' (by rw [hx]; exact hk)),
      fun hr' hk => let ⟨k₁, h1, h2⟩ := harr.2 hr' (by rw [hx]; exact hk); ⟨k₁, h1, .head h0 stepR_scope h2⟩⟩
  | goto l => exact hq.elim
  | ret => exact ⟨_, a₁, w₁, hq, .of_steps (.one h0 stepR_scope) harr⟩
  | panic ch => exact ⟨_, a₁, w₁, hq, .of_steps (.one h0 stepR_scope) harr⟩
  | outgrown => exact ⟨_, a₁, w₁, hq, .of_steps (.one h0 stepR_scope) harr⟩
/-- A call, of a function with a body or of one that the model answers itself; Z: what holds where it panics. -/
def CallOk (X : Cx) (k : Nat) (args : Array Value) (w : World) (R : Value → World → Prop) (Z : Value → World → Prop) : Prop :=
  (∃ fn, FK k ∧ X.P.funcs[X.tbl k]? = some fn ∧ (fn.name == "runtime.NumGoroutine") = false ∧ fn.body.isNone = false ∧
    Calls X.P (X.tbl k) args w fun e w' => (∃ x, e = .returned x ∧ R x w') ∨ ∃ p, e = .panicked [{ v := p, recovered := false }] ∧ Z p w') ∨
  (∃ x w', FK k ∧ (callFunc (X.tbl k) args).run X.P w = .ok (.value x) w' ∧ R x w') ∨
  (k = 0 ∧ ∃ t p, args = #[.iface t p] ∧ Z (.iface t p) w) ∨
  (∃ l fn tmps assign body, k = YK + l ∧ (Instr.yield l args).run X.P w = .ok (.round l fn tmps assign body) w ∧ RoundIn Fence.wide 0 X.P l fn tmps assign body w fun e w' => ∃ x, e = .returned x ∧ R x w')
def PanOk (X : Cx) (g : Gh) (w : World) (h : AH) : Value → World → Prop := fun p w' => ∃ h' g', X.Z p h' ∧ Inv X g' w' h' ∧ Stp g w h g' w' h'

/-- What a call does, read off the model. -/
def Ecx (X : Cx) : Sig := fun k args h Q => ∀ g w cargs, Inv X g w h → RelL X g w h args cargs →
  CallOk X k cargs w (fun x w' => ∃ r h' g', Q r h' ∧ Inv X g' w' h' ∧ Rel X g' w' h' r x ∧ Stp g w h g' w' h') (PanOk X g w h)

section
variable {X : Cx} {g : Gh} {w : World} {h : AH} {K : V → AH → Prop} {Y : Keys}

theorem PanOk.trans {g' : Gh} {w' : World} {h' : AH} (S : Stp g w h g' w' h') {p : Value} {w2 : World} (z : PanOk X g' w' h' p w2) : PanOk X g w h p w2 := by
  obtain ⟨h2, g2, a, b, c⟩ := z
  exact ⟨h2, g2, a, b, S.trans c⟩
theorem CallOk.mono {k : Nat} {args : Array Value} {R R' : Value → World → Prop} {Z : Value → World → Prop} (c : CallOk X k args w R Z) (hr : ∀ x w', R x w' → R' x w') : CallOk X k args w R' Z := by
  rcases c with ⟨fn, h0, h1, h2, h3, h4⟩ | ⟨x, w', h0, h1, h2⟩ | c | ⟨l, fn, tm, as, bo, h0, h1, h2⟩
  · exact .inl ⟨fn, h0, h1, h2, h3, h4.mono fun e w' c => c.imp (fun ⟨x, he, r⟩ => ⟨x, he, hr _ _ r⟩) id⟩
  · exact .inr (.inl ⟨x, w', h0, h1, hr _ _ h2⟩)
  · exact .inr (.inr (.inl c))
  · exact .inr (.inr (.inr ⟨l, fn, tm, as, bo, h0, h1, h2.mono fun e w' ⟨x, he, r⟩ => ⟨x, he, hr _ _ r⟩⟩))
theorem Ecx.mono {k : Nat} {args : List V} {Q Q' : V → AH → Prop} (c : Ecx X k args h Q) (hq : ∀ r h', Q r h' → Q' r h') : Ecx X k args h Q' :=
  fun g w cargs I r => (c g w cargs I r).mono fun x w' ⟨v, h', g', q, rest⟩ => ⟨v, h', g', hq _ _ q, rest⟩

theorem call_upon {k : Nat} {args : Array Value} {R : Value → World → Prop} {Z : Value → World → Prop} (hk : FK k) (c : CallOk X k args w R Z) {o : Oper} {a : Act} {next : Act → World → Prop} {Q : Exit → Act → World → Prop}
    (hn : ∀ x w', R x w' → next (a.put o.dst x) w') (hp : ∀ p w', Z p w' → Q (.panic [{ v := p, recovered := false }]) a w') : o.upon X.P a next Q ((callFunc (X.tbl k) args).run X.P w) := by
  rcases c with ⟨fn, _, h1, h2, h3, h4⟩ | ⟨x, w', _, h1, h2⟩ | ⟨h1, _⟩ | ⟨l, _, _, _, _, h1, _⟩
  · have : (callFunc (X.tbl k) args).run X.P w = .ok (.enter (X.tbl k) args) w := by
      have h2' : ¬ fn.name = "runtime.NumGoroutine" := by simpa using h2
      simp [callFunc, h1, h2', h3]
      cases hb : fn.body with
      | none => simp [hb] at h3
      | some b => simp
    rw [this, Oper.upon_enter]
    exact h4.mono fun e w' c => by
      rcases c with ⟨x, he, r⟩ | ⟨p, he, z⟩
      · subst he; exact hn _ _ r
      · subst he; exact hp _ _ z
  · rw [h1, Oper.upon_value]; exact hn _ _ h2
  · exact absurd h1 hk.1
  · have := hk.2; simp [YK] at h1; omega
theorem call_uponIn {ro : Option Nat} {k : Nat} {args : Array Value} {R : Value → World → Prop} {Z : Value → World → Prop} (hk : FK k) (c : CallOk X k args w R Z) {o : Oper} {a : Act} {next : Act → World → Prop} {Q : Exit → Act → World → Prop}
    (hn : ∀ x w', R x w' → next (a.put o.dst x) w') (hp : ∀ p w', Z p w' → Q (.panic [{ v := p, recovered := false }]) a w') : o.uponIn (FR ro) 0 X.P a next Q ((callFunc (X.tbl k) args).run X.P w) := by
  rcases c with ⟨fn, _, h1, h2, h3, h4⟩ | ⟨x, w', _, h1, h2⟩ | ⟨h1, _⟩ | ⟨l, _, _, _, _, h1, _⟩
  · have : (callFunc (X.tbl k) args).run X.P w = .ok (.enter (X.tbl k) args) w := by
      have h2' : ¬ fn.name = "runtime.NumGoroutine" := by simpa using h2
      simp [callFunc, h1, h2', h3]
      cases hb : fn.body with
      | none => simp [hb] at h3
      | some b => simp
    rw [this, Oper.uponIn_enter]
    refine ⟨fun h => by simp [FR, Fence.wide] at h, (callsIn_wide (n := 0)).2 (h4.mono fun e w' c => ?_)⟩
    · 
      rcases c with ⟨x, he, r⟩ | ⟨p, he, z⟩
      · subst he; exact hn _ _ r
      · subst he; exact hp _ _ z
  · rw [h1, Oper.uponIn_value]; exact hn _ _ h2
  · exact absurd h1 hk.1
  · have := hk.2; simp [YK] at h1; omega

theorem op_sound {ro : Option Nat} {o : Oper} {ao : AOp} (hY : X.tbl = Y.tbl) {md gr : Bool} (hc : compOp X.P Y md gr o.op = some ao) {a : Act} {ρ : AO → V} (hC0 : ∀ v, ρ (.c v) = v)
    (hR : ∀ x ∈ o.op.operands, ∀ y, co Y x = some y → Rel X g w h (ρ y) (a.eval x)) (I : Inv X g w h) (hk : ao.wp (Ecx X) ρ h K) {next : Act → World → Prop} {Q : Exit → Act → World → Prop}
    (hn : ∀ v h' x g' w', K v h' → Inv X g' w' h' → Rel X g' w' h' v x → Stp g w h g' w' h' → next (a.put o.dst x) w')
    (hp : ∀ p w', PanOk X g w h p w' → Q (.panic [{ v := p, recovered := false }]) a w') : o.wpIn (FR ro) 0 X.P a w next Q := by
  refine ⟨fun _ _ => trivial, ?_⟩
  rw [Oper.semAt_eq _ _ _ (fun c e => by rw [e] at hc; simp [compOp] at hc)]
  by_cases hcall : ∀ f l, ao ≠ .call f l
  · obtain ⟨v, h', x, g', w', k1, I', r, S, e⟩ := op_out hY hc (ρc := a.eval) (fun _ => rfl) hR I hcall hk
    rcases e with e | ⟨rfl, e⟩
    · rw [e, Oper.uponIn_value]; exact hn v h' x g' w' k1 I' r S
    · rw [e, Oper.uponIn_skip]; exact hn v h' undef g' w' k1 I' r S
  · have : ∃ f l, ao = .call f l := by
      refine Classical.byContradiction fun hh => hcall fun f l e => hh ⟨f, l, e⟩
    obtain ⟨f', l', rfl⟩ := this
    obtain ⟨dst, op, type, pos, after, guard⟩ := o
    simp only at hc hR
    cases op with
    | call c =>
      obtain ⟨callee, args, argTypes⟩ := c
      simp only [compOp, compCall] at hc
      cases callee with
      | value f =>
        simp only at hc
        split at hc
        · rename_i f1 l1 q1 q2
          simp at hc
          obtain ⟨rfl, rfl⟩ := hc
          have rf := hR f (by simp [Op.operands, Call.operands]) _ q1
          have ra := cos_rel (X := X) (g := g) (w := w) (h := h) (ρ := ρ) (ρc := a.eval) q2 (fun x hx => hR x (by simp [Op.operands, Call.operands]; right; simpa using hx))
          simp only [AOp.wp] at hk
          generalize hv : ρ f1 = v at rf hk
          generalize hu : a.eval f = u at rf
          cases rf <;> first | exact hk.elim | skip
          rotate_left
          · -- a loop's yield
            simp only [yldK] at hk
            split at hk
            · rename_i l hl
              have hu2 : u = .func (.yield l) #[] #[] := by
                unfold yldOf at hl; split at hl
                · cases hl; rfl
                · cases hl
              have hrun : (execOp a.eval { dst, op := .call { callee := .value f, args := args, argTypes := argTypes }, type, pos, after, guard } : Sem Next).run X.P w =
                  (Instr.yield l (args.map a.eval)).run X.P w := by
                simp [execOp, resolve, hu, hu2, Deferred.ofValue, invoke]
              rw [hrun]
              have rl : RelL X g w h (l1.map ρ) (args.map a.eval) := ⟨by simp [ra.1], fun i i1 i2 => by
                have := ra.2 i (by simpa using i1) (by simpa using i2)
                simpa using this⟩
              rcases hk g w _ I rl with ⟨fn, h0, h1, h2, h3, _⟩ | ⟨x, w', h0, h1, h2⟩ | ⟨h1, _⟩ | ⟨l', fn, tm, as, bo, h0, h1, h2⟩
              · exact absurd h0.2 (by simp [YK])
              · exact absurd h0.2 (by simp [YK])
              · simp [YK] at h1
              · have : l = l' := by omega
                subst this
                rw [h1, Oper.uponIn_round]
                refine ⟨fun h => by simp [FR, Fence.wide] at h, h2.mono ?_⟩
                rintro e w' ⟨x, rfl, v, h', g', q, I', r, S⟩
                exact hn v h' x g' w' q I' r S
            · exact hk.elim
          rename_i k first cap fs cs h0 hf hcl hr1 hr2
          have rl : RelL X g w h (first ++ l1.map ρ ++ cap) (fs ++ args.map a.eval ++ cs) := by
            refine ⟨by simp [hf, hcl, ra.1], fun i i1 i2 => ?_⟩
            simp only [List.getElem_append, Array.getElem_append, List.length_append, List.length_map, Array.size_append, Array.size_map, ra.1, hf]
            simp only [List.length_append, List.length_map, ra.1, hf, hcl] at i1
            simp only [Array.size_append, Array.size_map] at i2
            simp only [Array.length_toList] at i1 ⊢
            by_cases c1 : i < fs.size + args.size
            · rw [dif_pos c1, dif_pos c1]
              by_cases c2 : i < fs.size
              · rw [dif_pos c2, dif_pos c2]; exact hr1 i (by omega) c2
              · rw [dif_neg c2, dif_neg c2]
                have := ra.2 (i - fs.size) (by rw [ra.1]; simp; omega) (by simp; omega)
                simpa using this
            · rw [dif_neg c1, dif_neg c1]
              exact hr2 _ (by omega) (by omega)
          have hcl2 := hk g w _ I rl
          have hrun : (execOp a.eval { dst, op := .call { callee := .value f, args := args, argTypes := argTypes }, type, pos, after, guard } : Sem Next).run X.P w =
              (callFunc (X.tbl k) (fs ++ args.map a.eval ++ cs)).run X.P w := by
            simp [execOp, resolve, hu, Deferred.ofValue, invoke]
          rw [hrun]
          exact call_uponIn h0 hcl2 (fun x w' ⟨v, h', g', q, I', r, S⟩ => hn v h' x g' w' q I' r S) hp
        · simp at hc
      | invoke r m => simp at hc
      | builtin b =>
        exfalso
        cases b <;> simp only at hc <;> first | (simp at hc; done) | skip
        all_goals
          repeat' (split at hc)
          all_goals simp at hc
    | binOp op t x y yt =>
      exfalso
      simp only [compOp, compBin, compEqs] at hc
      repeat' (split at hc)
      all_goals simp at hc
    | makeMap t r =>
      exfalso
      cases r <;> simp [compOp] at hc
    | makeSlice t l c =>
      exfalso
      simp only [compOp, compMake, compMakeO] at hc
      repeat' (split at hc)
      all_goals simp at hc
    | unOp op t x =>
      exfalso
      simp only [compOp] at hc
      cases op <;> simp at hc
    | makeFunc fn first captured =>
      exfalso
      cases fn <;> simp only [compOp] at hc <;> repeat' (split at hc)
      all_goals simp at hc
    | slice t x lo hi mx =>
      exfalso
      cases mx <;> simp only [compOp] at hc <;> repeat' (split at hc)
      all_goals simp at hc
    | panic x =>
      simp only [compOp] at hc
      split at hc
      · rename_i a1 q1
        simp at hc
        obtain ⟨rfl, rfl⟩ := hc
        have rx := hR x (by simp [Op.operands]) _ q1
        have hcc := hk
        simp only [AOp.wp, hC0, List.map_cons, List.map_nil, List.nil_append, List.append_nil] at hcc
        have rl : RelL X g w h [ρ a1] #[a.eval x] := ⟨rfl, fun i i1 i2 => by
          have : i = 0 := by simpa using i1
          subst this; exact rx⟩
        rcases hcc g w _ I rl with ⟨fn, h0, _⟩ | ⟨x', w', h0, _⟩ | ⟨_, t, p, e, z⟩ | ⟨l, _, _, _, _, h0, _⟩
        · exact absurd rfl h0.1
        · exact absurd rfl h0.1
        · have e' : a.eval x = .iface t p := by simpa using e
          have hrun : (execOp a.eval { dst, op := .panic x, type, pos, after, guard } : Sem Next).run X.P w = .halt (.panic (.iface t p)) w := by
            simp [execOp, e', Instr.panic]
          rw [hrun, Oper.uponIn_panic]
          exact hp _ _ z
        · simp [YK] at h0; omega
      · simp at hc
    | _ =>
      exfalso
      simp only [compOp] at hc
      repeat' (split at hc)
      all_goals simp at hc

/-! ### Temporaries -/
theorem EnvRel.stp {env : Env} {a : Act} (R : EnvRel X g w h env a) {g' : Gh} {w' : World} {h' : AH} (S : Stp g w h g' w' h') : EnvRel X g' w' h' env a := fun n => (R n).stp S
theorem EnvRel.put {env : Env} {a : Act} (R : EnvRel X g w h env a) {N : Nat} (hN : a.tmps.size = N) {d : Option Nat} (hd : dstOk N d = true) {v : V} {x : Value} (r : Rel X g w h v x) :
    EnvRel X g w h (put env d v) (a.put d x) := by
  cases d with
  | none => exact R
  | some d =>
    intro n
    have hlt : d < a.tmps.size := by simp [dstOk] at hd; omega
    simp only [Al.put, get, Act.put]
    by_cases e : n = d
    · subst e
      rw [if_pos rfl]
      have : (a.tmps.setIfInBounds n x).getD n undef = x := by simp [Array.getD, hlt]
      rw [this]; exact r
    · rw [if_neg e]
      have : (a.tmps.setIfInBounds d x).getD n undef = a.tmps.getD n undef := by
        simp only [Array.getD_eq_getD_getElem?, Array.getElem?_setIfInBounds_ne (Ne.symm e)]
      rw [this]; exact R n
theorem put_size (a : Act) (d : Option Nat) (x : Value) : (a.put d x).tmps.size = a.tmps.size := by cases d <;> simp [Act.put]
theorem put_defers' (a : Act) (d : Option Nat) (x : Value) : (a.put d x).defers = a.defers := by cases d <;> simp [Act.put]

/-- A guard: the abstract one tells what the model's does. -/
theorem guard_spec {N : Nat} {ops : Array Oper} {o : Oper} {ao : AOper} (hc : compOper X.P Y N ops o = some ao) {env : Env} {a : Act} (R : ∀ s t, ao.gd = some (s, t) → Rel X g w h (get env s) (a.tmps.getD s undef)) {A B : Prop} (hk : gdP ao.gd env A B) :
    (A ∧ Region.wanted o (yielded ops a.tmps) = true) ∨ (B ∧ Region.wanted o (yielded ops a.tmps) = false) := by
  unfold compOper at hc
  split at hc
  · split at hc
    · split at hc
      · rename_i hg
        simp at hc; subst hc
        exact .inl ⟨hk, by simp [Region.wanted, hg]⟩
      · rename_i j t hg
        split at hc
        · rename_i oj hj
          split at hc
          · rename_i s hs
            simp at hc; subst hc
            simp only [gdP] at hk
            have r := R s t rfl
            have hy : yielded ops a.tmps j = match (a.tmps[s]? : Option Value) with | some (.bool b) => some b | _ => none := by
              simp [yielded, hj, hs]; rfl
            generalize hv : get env s = v at r hk
            generalize hu : a.tmps.getD s undef = u at r
            have hu2 : ∀ b, u = .bool b → a.tmps[s]? = some (.bool b) := fun b hb => by
              rw [hb, Array.getD_eq_getD_getElem?] at hu
              cases hq : a.tmps[s]? with
              | none => rw [hq] at hu; simp [undef] at hu
              | some z => rw [hq] at hu; simp at hu; rw [hu]
            cases r with
            | bool b =>
              have hy2 : yielded ops a.tmps j = some b := by rw [hy, hu2 b rfl]
              by_cases hb : b = t
              · exact .inl ⟨hk.1 hb, by simp [Region.wanted, hg, hy2, hb]⟩
              · exact .inr ⟨hk.2 hb, by simp [Region.wanted, hg, hy2, hb]⟩
            | tup l cs hl hr =>
              cases l with
              | nil =>
                have : cs = #[] := by apply Array.eq_empty_of_size_eq_zero; simpa using hl.symm
                subst this
                have hy2 : yielded ops a.tmps j = none := by
                  rw [hy]
                  rw [Array.getD_eq_getD_getElem?] at hu
                  cases hq : a.tmps[s]? with
                  | none => rfl
                  | some z => rw [hq] at hu; simp at hu; rw [hu]
                exact .inr ⟨hk, by simp [Region.wanted, hg, hy2]⟩
              | cons _ _ => exact hk.elim
            | _ => exact hk.elim
          · simp at hc
        · simp at hc
    · simp at hc
  · simp at hc
theorem compOper_op {N : Nat} {ops : Array Oper} {o : Oper} {ao : AOper} (hc : compOper X.P Y N ops o = some ao) : compOp X.P Y (modeOf Y o.dst) (growOf Y o.dst) o.op = some ao.op ∧ ao.dst = o.dst ∧ dstOk N o.dst = true := by
  unfold compOper at hc
  split at hc
  · rename_i hd
    split at hc
    · rename_i a ha
      split at hc
      · simp at hc; subst hc; exact ⟨ha, rfl, hd⟩
      · split at hc
        · split at hc
          · simp at hc; subst hc; exact ⟨ha, rfl, hd⟩
          · simp at hc
        · simp at hc
    · simp at hc
  · simp at hc

theorem compOper_gd {N : Nat} {ops : Array Oper} {o : Oper} {ao : AOper} (hc : compOper X.P Y N ops o = some ao) (e : ao.gd = none) : o.guard = none := by
  unfold compOper at hc
  split at hc
  · split at hc
    · split at hc
      · rename_i hg; exact hg
      · split at hc
        · split at hc
          · simp at hc; subst hc; cases e
          · simp at hc
        · simp at hc
    · simp at hc
  · simp at hc
/-- What stands together: environment, world, temporaries. -/
structure Hold (X : Cx) (N : Nat) (ds : List Deferred) (g : Gh) (w : World) (h : AH) (env : Env) (a : Act) : Prop where
  env : EnvRel X g w h env a
  inv : Inv X g w h
  size : a.tmps.size = N
  defers : a.defers = ds

theorem opers_sound {ro : Option Nat} {ds : List Deferred} (hY : X.tbl = Y.tbl) {N : Nat} {ops : Array Oper} {Qc : Exit → Act → World → Prop} : ∀ (l : List Oper) (m : List AOper), compOpers X.P Y N ops l = some m →
    ∀ {g : Gh} {w : World} {h : AH} {env : Env} {a : Act} {K : Env → AH → Prop}, Hold X N ds g w h env a → awpOps (Ecx X) m env h K →
    (∀ env' h' g' w' a', K env' h' → Hold X N ds g' w' h' env' a' → Stp g w h g' w' h' → Qc .normal a' w') →
    (∀ p w' a', PanOk X g w h p w' → a'.defers = ds → Qc (.panic [{ v := p, recovered := false }]) a' w') → wpListIn (FR ro) 0 X.P ops Qc l a w
  | [], m, hc, g, w, h, env, a, K, H, hk, hq, hp => by
    simp [compOpers] at hc; subst hc
    exact wpListIn_nil (hq env h g w a hk H (Stp.refl _ _ _))
  | o :: l, m, hc, g, w, h, env, a, K, H, hk, hq, hp => by
    unfold compOpers at hc
    split at hc
    · rename_i ao m' h1 h2
      simp at hc; subst hc
      obtain ⟨c1, c2, c3⟩ := compOper_op h1
      simp only [awpOps] at hk
      refine wpListIn_step fun K' hK' => ?_
      rcases guard_spec h1 (fun s _ _ => H.env s) hk with ⟨hk, hw⟩ | ⟨hk, hw⟩
      · rw [if_pos hw]
        refine op_sound hY c1 (fun _ => rfl) (fun x _ y hy => co_rel hY H.env hy) H.inv hk (fun v h' x g' w' k I' r S => hK' _ _ ?_) (fun p w' z => hp p w' a z H.defers)
        refine opers_sound hY l m' h2 (K := K) ⟨?_, I', by rw [put_size]; exact H.size, by rw [put_defers']; exact H.defers⟩ k (fun env' h'' g'' w'' a' k' H' S' => hq env' h'' g'' w'' a' k' H' (S.trans S')) (fun p w' a' z => hp p w' a' (z.trans S))
        rw [c2]; exact (H.env.stp S).put H.size c3 r
      · rw [if_neg (by simp [hw])]
        refine ⟨fun _ _ => trivial, hK' _ _ ?_⟩
        refine opers_sound hY l m' h2 (K := K) ⟨?_, H.inv, by rw [put_size]; exact H.size, by rw [put_defers']; exact H.defers⟩ hk hq hp
        rw [c2]; exact H.env.put H.size c3 (.tup [] #[] rfl (by simp))
    · simp at hc
end
end Go.Proofs.Ytajaoldljichaaa.Al
namespace Go.Proofs.Ytajaoldljichaaa.Al
open Go Go.RowKit
set_option linter.unusedSimpArgs false
set_option linter.unusedVariables false

section
variable {X : Cx} {Y : Keys}

/-- What does not look at the heap answers alike in every heap. -/
theorem wp_heap {E : Sig} {ρ : AO → V} {o : AOp} (hl : lookOp Y o = false) {h h2 : AH} {K K' : V → AH → Prop} (hk : o.wp E ρ h K) (hK : ∀ v, K v h → K' v h2) : o.wp E ρ h2 K' := by
  have hload : ∀ gg n c off, loadC gg n c off (fun v => K v h) → loadC gg n c off (fun v => K' v h2) := fun gg n c off hh => by
    cases gg <;> exact ⟨hh.1, hK _ hh.2⟩
  have hbin : ∀ op k a b, binI op k a b (fun v => K v h) → binI op k a b (fun v => K' v h2) := fun op k a b hh => by
    cases op <;> first | exact hh.elim | exact hK _ hh | exact ⟨hh.1, hK _ hh.2⟩
  have hsh : ∀ op k a b, shI op k a b (fun v => K v h) → shI op k a b (fun v => K' v h2) := fun op k a b hh => by
    cases op <;> first | exact hh.elim | exact ⟨hh.1, hK _ hh.2⟩
  have hstr : ∀ op a b, binS op a b (fun v => K v h) → binS op a b (fun v => K' v h2) := fun op a b hh => by
    cases op <;> first | exact hh.elim | exact hK _ hh | exact ⟨hh.1, hK _ hh.2⟩
  have hnil : ∀ neg st l, nilK neg st l (fun b => K (.bool b) h) → nilK neg st l (fun b => K' (.bool b) h2) := fun neg st l hh => by
    unfold nilK at *
    split
    · rename_i q; rw [if_pos q] at hh; exact hK _ hh
    · rename_i q; rw [if_neg q] at hh
      split
      · rename_i q2; rw [if_pos q2] at hh; exact ⟨fun e => ⟨hK _ (hh.1 e).1, hK _ (hh.1 e).2⟩, fun e => hK _ (hh.2 e)⟩
      · rename_i q2; rw [if_neg q2] at hh; exact hK _ hh
  cases o with
  | load | call | alloc | alct | box | store | app | apps | mks | mkso | bslo | appo | appg | mkm | lkp | mupd | ment | mest | mlen => simp [lookOp, effOp] at hl
  | eqs neg offs x y =>
    simp only [AOp.wp] at *
    generalize ρ x = v at *
    generalize ρ y = u at *
    cases v <;> cases u <;> first | exact hk.elim | skip
    simp only at *
    split
    · rename_i q; simp only [q] at hk; exact hK _ hk
    · rename_i q; simp only [q] at hk
  | mv x => exact hK _ hk
  | pick c a b =>
    simp only [AOp.wp] at *
    split
    · rename_i t q; simp only [q] at hk; exact ⟨fun e => hK _ (hk.1 e), fun e => hK _ (hk.2 e)⟩
    · rename_i q; split at hk
      · rename_i t e; exact absurd e (q t)
      · exact hk
  | isnil neg ptr x =>
    cases ptr
    · simp only [AOp.wp] at *
      generalize ρ x = v at *
      cases v <;> first | exact hk.elim | exact hnil _ _ _ hk | exact hK _ hk
    · simp only [AOp.wp] at *
      generalize ρ x = v at *
      cases v <;> first | exact hk.elim | exact hK _ hk
  | len str x =>
    cases str
    · simp only [AOp.wp] at *
      generalize ρ x = v at *
      cases v <;> first | exact hk.elim | exact hK _ hk | skip
      rename_i t v
      cases v <;> first | exact hk.elim | exact hK _ hk
    · simp only [AOp.wp] at *
      generalize ρ x = v at *
      cases v <;> first | exact hk.elim | exact hK _ hk
  | bin op x y =>
    simp only [AOp.wp] at *
    generalize ρ x = v at *
    generalize ρ y = u at *
    cases v <;> cases u <;> first | exact hk.elim | exact hstr _ _ _ hk | skip
    simp only at *
    split
    · rename_i q; rw [if_pos q] at hk; exact hsh _ _ _ _ hk
    · rename_i q; rw [if_neg q] at hk; exact ⟨hk.1, hbin _ _ _ _ hk.2⟩
  | un op x =>
    simp only [AOp.wp] at *
    generalize ρ x = v at *
    cases op <;> cases v <;> first | exact hk.elim | exact hbin _ _ _ _ hk | exact hK _ hk
  | bld z parts =>
    simp only [AOp.wp] at *
    split
    · rename_i q; simp only [q] at hk; exact hK _ hk
    · rename_i q; simp only [q] at hk
  | bsl e gg z n parts =>
    simp only [AOp.wp] at *
    split
    · rename_i q; simp only [q] at hk; exact hK _ hk
    · rename_i q; simp only [q] at hk
  | slc e x lo hi =>
    simp only [AOp.wp] at *
    generalize ρ x = v at *
    cases v <;> first | exact hk.elim | skip
    all_goals
      simp only at *
      split
      · rename_i q1 q2; simp only [q1, q2] at hk
        exact ⟨hk.1, hk.2.1, hk.2.2.1, hk.2.2.2.1, hK _ hk.2.2.2.2⟩
      · rename_i q; split at hk
        · rename_i i j q1 q2; exact absurd q2 (q _ _ q1)
        · exact hk
  | slcs x lo hi =>
    simp only [AOp.wp] at *
    generalize ρ x = v at *
    cases v <;> first | exact hk.elim | skip
    simp only at *
    split
    · rename_i q1 q2; simp only [q1, q2] at hk
      exact ⟨hk.1, hk.2.1, hk.2.2.1, hK _ hk.2.2.2⟩
    · rename_i q; split at hk
      · rename_i i j q1 q2; exact absurd q2 (q _ _ q1)
      · exact hk
  | ia e x i =>
    simp only [AOp.wp] at *
    generalize ρ x = v at *
    generalize ρ i = u at *
    cases v <;> cases u <;> first | exact hk.elim | exact ⟨hk.1, hk.2.1, hk.2.2.1, hK _ hk.2.2.2⟩
  | ixs x i =>
    simp only [AOp.wp] at *
    generalize ρ x = v at *
    generalize ρ i = u at *
    cases v <;> cases u <;> first | exact hk.elim | exact ⟨hk.1, hk.2.1, hK _ hk.2.2⟩
  | mm mx x y =>
    simp only [AOp.wp] at *
    generalize ρ x = v at *
    generalize ρ y = u at *
    cases v <;> cases u <;> first | exact hk.elim | exact ⟨hk.1, hK _ hk.2⟩
  | beq neg x y =>
    simp only [AOp.wp] at *
    generalize ρ x = v at *
    generalize ρ y = u at *
    cases v <;> cases u <;> first | exact hk.elim | exact hK _ hk
  | ext x i =>
    simp only [AOp.wp] at *
    generalize ρ x = v at *
    cases v <;> first | exact hk.elim | exact ⟨hk.1, hK _ hk.2⟩
  | fld gg off n x =>
    simp only [AOp.wp] at *
    generalize ρ x = v at *
    cases v <;> first | exact hk.elim | exact hload _ _ _ _ hk
  | mkfn f a b => exact hK _ hk
  | _ =>
    rename_i x
    simp only [AOp.wp] at *
    generalize ρ x = v at *
    cases v <;> first | exact hk.elim | exact hK _ hk

theorem gdP_cases {gd : Option (Nat × Bool)} {env : Env} {A B : Prop} (hk : gdP gd env A B) : (A ∧ ∀ A' B' : Prop, A' → gdP gd env A' B') ∨ (B ∧ ∀ A' B' : Prop, B' → gdP gd env A' B') := by
  cases gd with
  | none => exact .inl ⟨hk, fun _ _ a => a⟩
  | some p =>
    obtain ⟨s, t⟩ := p
    simp only [gdP] at *
    generalize get env s = v at *
    cases v with
    | bool b =>
      by_cases e : b = t
      · exact .inl ⟨hk.1 e, fun _ _ a => ⟨fun _ => a, fun n => absurd e n⟩⟩
      · exact .inr ⟨hk.2 e, fun _ _ a => ⟨fun n => absurd n e, fun _ => a⟩⟩
    | tup l =>
      cases l with
      | nil => exact .inr ⟨hk, fun _ _ a => a⟩
      | cons _ _ => exact hk.elim
    | _ => exact hk.elim

/-- The run in the order of the text. -/
structure Tr (E : Sig) (l : List (DK × AOper)) (ε : Nat → Env) (η : Nat → AH) (val : Nat → V) : Prop where
  env : ∀ i (hi : i < l.length), ε (i + 1) = put (ε i) (l[i]).2.dst (val i)
  step : ∀ i (hi : i < l.length), gdP (l[i]).2.gd (ε i)
    ((l[i]).2.op.wp E (ev (ε i)) (η i) (fun v h' => v = val i ∧ h' = η (i + 1)) ∧ (isEff (l[i]).1 = false → η (i + 1) = η i) ∧ ((l[i]).1 = .fl → ∀ k, k ≤ l.length → (∀ j (hj : j < l.length), i < j → j < k → (l[j]).1 ≠ .efo) → (l[i]).2.op.quiet E (ev (ε i)) (val i) (η k)))
    (val i = .tup [] ∧ η (i + 1) = η i)

/-- What a load that floats owes to the heaps ahead. -/
def Fl (E : Sig) (l : List (DK × AOper)) (ε : Nat → Env) (val : Nat → V) (n : Nat) (hh : AH) : Prop :=
  ∀ i (hi : i < l.length), (l[i]).1 = .fl → (∀ j (hj : j < l.length), i < j → j < n → (l[j]).1 ≠ .efo) → gdP (l[i]).2.gd (ε i) ((l[i]).2.op.quiet E (ev (ε i)) (val i) hh) True

theorem gdP_imp {gd : Option (Nat × Bool)} {env : Env} {A B A' B' : Prop} (hk : gdP gd env A B) (ha : A → A') (hb : B → B') : gdP gd env A' B' := by
  rcases gdP_cases hk with ⟨a, k⟩ | ⟨b, k⟩
  · exact k _ _ (ha a)
  · exact k _ _ (hb b)

/-- The run, step by step, before what floats is asked. -/
structure Tr0 (E : Sig) (l : List (DK × AOper)) (ε : Nat → Env) (η : Nat → AH) (val : Nat → V) : Prop where
  env : ∀ i (hi : i < l.length), ε (i + 1) = put (ε i) (l[i]).2.dst (val i)
  step : ∀ i (hi : i < l.length), gdP (l[i]).2.gd (ε i)
    ((l[i]).2.op.wp E (ev (ε i)) (η i) (fun v h' => v = val i ∧ h' = η (i + 1)) ∧ (isEff (l[i]).1 = false → η (i + 1) = η i)) (val i = .tup [] ∧ η (i + 1) = η i)

def cons {α : Type} (x : α) (f : Nat → α) : Nat → α
  | 0 => x
  | i + 1 => f i
theorem Tr0.cons {E : Sig} {z : DK × AOper} {l : List (DK × AOper)} {ε : Nat → Env} {η : Nat → AH} {val : Nat → V} {env : Env} {h : AH} {v : V} (T : Tr0 E l ε η val) (e1 : ε 0 = put env z.2.dst v)
    (hs : gdP z.2.gd env (z.2.op.wp E (ev env) h (fun v' h' => v' = v ∧ h' = η 0) ∧ (isEff z.1 = false → η 0 = h)) (v = .tup [] ∧ η 0 = h)) :
    Tr0 E (z :: l) (Al.cons env ε) (Al.cons h η) (Al.cons v val) := by
  refine ⟨fun i hi => ?_, fun i hi => ?_⟩
  · cases i with
    | zero => exact e1
    | succ i => exact T.env i (by simpa using hi)
  · cases i with
    | zero => exact hs
    | succ i => exact T.step i (by simpa using hi)

theorem Fl.cons {E : Sig} {z : DK × AOper} {l : List (DK × AOper)} {ε : Nat → Env} {val : Nat → V} {env : Env} {v : V} {n m : Nat} {hh : AH} (f : Fl E l ε val n hh) (hm : m ≤ n + 1) (hn : n + 1 ≤ m ∨ n = 0) (hz : z.1 = .fl → (∀ j (hj : j < l.length), j < n → (l[j]).1 ≠ .efo) → gdP z.2.gd env (z.2.op.quiet E (ev env) v hh) True) :
    Fl E (z :: l) (Al.cons env ε) (Al.cons v val) m hh := fun i hi he hj => by
  have hj' : ∀ j (hj : j < l.length), i < j + 1 → j < n → (l[j]).1 ≠ .efo := fun j h1 h2 h3 => by
    have := hj (j + 1) (by simpa using h1) (by omega) (by omega)
    simpa using this
  cases i with
  | zero => exact hz he fun j h1 h2 => hj' j h1 (by omega) h2
  | succ i => exact f i (by simpa using hi) he fun j h1 h2 h3 => hj' j h1 (by omega) h3

theorem trace0 {E : Sig} : ∀ (l : List (DK × AOper)) (env : Env) (h : AH) (H : List AH) (L : List (AH → Prop)) (K : Env → AH → Prop), (∀ c ∈ L, c h) → awpD E l env h H L K →
    ∃ ε η val, ε 0 = env ∧ η 0 = h ∧ Tr0 E l ε η val ∧ K (ε l.length) (η l.length) ∧ (∀ c ∈ L, ∀ k, k ≤ l.length → (∀ j (hj : j < l.length), j < k → (l[j]).1 ≠ .efo) → c (η k)) ∧ (∀ hh ∈ H, Fl E l ε val 0 hh) ∧ ∀ k, k ≤ l.length → Fl E l ε val k (η k)
  | [], env, h, H, L, K, hL, hk => ⟨fun _ => env, fun _ => h, fun _ => .undef, rfl, rfl, ⟨fun i hi => by simp at hi, fun i hi => by simp at hi⟩, hk, fun c hc k _ _ => hL c hc, fun _ _ i hi => by simp at hi, fun _ _ i hi => by simp at hi⟩
  | z :: l, env, h, H, L, K, hL, hk => by
    have dn : ∀ {k : Nat}, (∀ j (hj : j < (z :: l).length), j < k + 1 → ((z :: l)[j]).1 ≠ .efo) → ∀ j (hj : j < l.length), j < k → (l[j]).1 ≠ .efo := fun h1 j h2 h3 => by
      have := h1 (j + 1) (by simpa using h2) (by omega)
      simpa using this
    -- a step that leaves the heap, of a kind that does not float or is not wanted
    have plain : ∀ v, awpD E l (put env z.2.dst v) h H L K → gdP z.2.gd env (z.2.op.quiet E (ev env) v h) (v = .tup []) → (z.1 = .fl → gdP z.2.gd env False True) →
        ∃ ε η val, ε 0 = env ∧ η 0 = h ∧ Tr0 E (z :: l) ε η val ∧ K (ε (z :: l).length) (η (z :: l).length) ∧ (∀ c ∈ L, ∀ k, k ≤ (z :: l).length → (∀ j (hj : j < (z :: l).length), j < k → ((z :: l)[j]).1 ≠ .efo) → c (η k)) ∧ (∀ hh ∈ H, Fl E (z :: l) ε val 0 hh) ∧ ∀ k, k ≤ (z :: l).length → Fl E (z :: l) ε val k (η k) := by
      intro v k2 k1 k3
      obtain ⟨ε, η, val, e1, e2, T, kK, c1, c2, c3⟩ := trace0 l _ _ H L K hL k2
      have hz : ∀ hh, z.1 = .fl → gdP z.2.gd env (z.2.op.quiet E (ev env) v hh) True := fun hh he => gdP_imp (k3 he) False.elim id
      refine ⟨Al.cons env ε, Al.cons h η, Al.cons v val, rfl, rfl, T.cons e1 (gdP_imp k1 (fun a => ⟨by rw [e2]; exact a, fun _ => e2⟩) (fun a => ⟨a, e2⟩)), kK, fun c hc k hk hj => ?_, fun hh hhH => (c2 hh hhH).cons (by omega) (.inr rfl) (fun a _ => hz hh a), fun k hk => ?_⟩
      · cases k with
        | zero => exact hL c hc
        | succ k => exact c1 c hc k (by simpa using hk) (dn hj)
      · cases k with
        | zero => refine Fl.cons (n := 0) ?_ (by omega) (.inr rfl) (fun a _ => hz h a); have := c3 0 (by omega); rw [e2] at this; exact this
        | succ k => exact (c3 k (by simpa using hk)).cons (by omega) (.inl (Nat.le_refl _)) (fun a _ => hz _ a)
    obtain ⟨d, o⟩ := z
    cases d with
    | pl =>
      simp only [awpD] at hk
      rcases gdP_cases hk with ⟨⟨v, k1, k2⟩, kk⟩ | ⟨k2, kk⟩
      · exact plain v k2 (kk _ _ k1) (fun e => by cases e)
      · exact plain _ k2 (kk _ _ rfl) (fun e => by cases e)
    | eff =>
      simp only [awpD] at hk
      rcases gdP_cases hk with ⟨⟨v, h', k1, k3, k2⟩, kk⟩ | ⟨k2, kk⟩
      · obtain ⟨ε, η, val, e1, e2, T, kK, c1, c2, c3⟩ := trace0 l _ _ (h :: H) L K k3 k2
        have hz : ∀ hh, DK.eff = .fl → gdP o.gd env (o.op.quiet E (ev env) v hh) True := fun hh e => by cases e
        refine ⟨Al.cons env ε, Al.cons h η, Al.cons v val, rfl, rfl, T.cons e1 (kk _ _ ⟨by rw [e2]; exact k1, fun e => by cases e⟩), kK, fun c hc k hk hj => ?_, fun hh hhH => (c2 hh (by simp [hhH])).cons (by omega) (.inr rfl) (fun a _ => hz hh a), fun k hk => ?_⟩
        · cases k with
          | zero => exact hL c hc
          | succ k => exact c1 c hc k (by simpa using hk) (dn hj)
        · cases k with
          | zero => exact (c2 h (by simp)).cons (by omega) (.inr rfl) (fun a _ => hz h a)
          | succ k => exact (c3 k (by simpa using hk)).cons (by omega) (.inl (Nat.le_refl _)) (fun a _ => hz _ a)
      · exact plain _ k2 (kk _ _ rfl) (fun e => by cases e)
    | efo =>
      simp only [awpD] at hk
      rcases gdP_cases hk with ⟨⟨v, h', k1, k2⟩, kk⟩ | ⟨k2, kk⟩
      · obtain ⟨ε, η, val, e1, e2, T, kK, c1, c2, c3⟩ := trace0 l _ _ (h :: H) [] K (by simp) k2
        have hz : ∀ hh, DK.efo = .fl → gdP o.gd env (o.op.quiet E (ev env) v hh) True := fun hh e => by cases e
        refine ⟨Al.cons env ε, Al.cons h η, Al.cons v val, rfl, rfl, T.cons e1 (kk _ _ ⟨by rw [e2]; exact k1, fun e => by cases e⟩), kK, fun c hc k hk hj => ?_, fun hh hhH => (c2 hh (by simp [hhH])).cons (by omega) (.inr rfl) (fun a _ => hz hh a), fun k hk => ?_⟩
        · cases k with
          | zero => exact hL c hc
          | succ k => exact absurd rfl (hj 0 (by simp) (by omega))
        · cases k with
          | zero => exact (c2 h (by simp)).cons (by omega) (.inr rfl) (fun a _ => hz h a)
          | succ k => exact (c3 k (by simpa using hk)).cons (by omega) (.inl (Nat.le_refl _)) (fun a _ => hz _ a)
      · exact plain _ k2 (kk _ _ rfl) (fun e => by cases e)
    | fl =>
      simp only [awpD] at hk
      rcases gdP_cases hk with ⟨⟨v, k1, k3, k2⟩, kk⟩ | ⟨k2, kk⟩
      · obtain ⟨ε, η, val, e1, e2, T, kK, c1, c2, c3⟩ := trace0 l _ _ H (o.op.quiet E (ev env) v :: L) K (fun c hc => by
          rcases List.mem_cons.1 hc with rfl | hc
          · exact k1
          · exact hL c hc) k2
        have hc0 := c1 _ (List.mem_cons_self ..)
        refine ⟨Al.cons env ε, Al.cons h η, Al.cons v val, rfl, rfl, T.cons e1 (kk _ _ ⟨by rw [e2]; exact k1, fun _ => e2⟩), kK, fun c hc k hk hj => ?_, fun hh hhH => (c2 hh hhH).cons (by omega) (.inr rfl) (fun _ _ => kk _ _ (k3 hh hhH)), fun k hk => ?_⟩
        · cases k with
          | zero => exact hL c hc
          | succ k => exact c1 c (by simp [hc]) k (by simpa using hk) (dn hj)
        · cases k with
          | zero => refine Fl.cons (n := 0) ?_ (by omega) (.inr rfl) (fun _ _ => kk _ _ k1); have := c3 0 (by omega); rw [e2] at this; exact this
          | succ k => exact (c3 k (by simpa using hk)).cons (by omega) (.inl (Nat.le_refl _)) (fun _ hj => kk _ _ (hc0 k (by simpa using hk) hj))
      · exact plain _ k2 (kk _ _ rfl) (fun _ => kk _ _ trivial)

theorem trace {E : Sig} (l : List (DK × AOper)) (env : Env) (h : AH) (K : Env → AH → Prop) (hk : awpD E l env h [] [] K) :
    ∃ ε η val, ε 0 = env ∧ η 0 = h ∧ Tr E l ε η val ∧ K (ε l.length) (η l.length) := by
  obtain ⟨ε, η, val, e1, e2, T, kK, _, _, c3⟩ := trace0 l env h [] [] K (by simp) hk
  refine ⟨ε, η, val, e1, e2, ⟨T.env, fun i hi => ?_⟩, kK⟩
  rcases gdP_cases (T.step i hi) with ⟨a, k⟩ | ⟨b, k⟩
  · refine k _ _ ⟨a.1, a.2, fun he j hj hno => ?_⟩
    have := c3 j hj i hi he hno
    rcases gdP_cases this with ⟨q, _⟩ | ⟨_, q⟩
    · exact q
    · exfalso
      -- the guard is wanted: the other way is shut
      have h1 := k True False trivial
      have h2 := q False True trivial
      revert h1 h2
      cases (l[i]).2.gd with
      | none => exact fun _ h => h
      | some p =>
        obtain ⟨s, t⟩ := p
        simp only [gdP]
        generalize Al.get (ε i) s = v
        cases v with
        | bool b =>
          intro h1 h2
          by_cases e : b = t
          · exact h2.1 e
          · exact h1.2 e
        | tup l => cases l <;> simp
        | _ => exact fun h => h.elim
  · exact k _ _ b

theorem kinds_snd (ops : Array Oper) (l : List AOper) : (kinds Y ops l).map (·.2) = l := by
  unfold kinds
  simp only [List.map_map]
  have : ∀ (l : List AOper) (k : Nat) (f : AOper × Nat → DK), (l.zipIdx k).map ((fun x : DK × AOper => x.2) ∘ fun p => (f p, p.1)) = l := by
    intro l
    induction l with
    | nil => intro k f; rfl
    | cons o l ih => intro k f; simp only [List.zipIdx_cons, List.map_cons]; rw [ih (k + 1) f]; rfl
  exact this l 0 _
theorem eff_looks {z : DK × AOper} (hk : kindOk Y z = true) (he : isEff z.1 = true) : looks Y z = true := by
  obtain ⟨d, o⟩ := z
  cases d <;> simp [isEff] at he
  all_goals
    simp only [kindOk] at hk
    simp only [looks]
    revert hk
    cases o.op <;> simp [lookOp, effOp]

theorem Tr.noeff {E : Sig} {l : List (DK × AOper)} {ε : Nat → Env} {η : Nat → AH} {val : Nat → V} (T : Tr E l ε η val) (i : Nat) (hi : i < l.length) (he : isEff (l[i]).1 = false) : η (i + 1) = η i := by
  rcases gdP_cases (T.step i hi) with ⟨a, _⟩ | ⟨a, _⟩
  · exact a.2.1 he
  · exact a.2
theorem Tr.same {E : Sig} {l : List (DK × AOper)} {ε : Nat → Env} {η : Nat → AH} {val : Nat → V} (T : Tr E l ε η val) (i : Nat) : ∀ j, i ≤ j → j ≤ l.length → (∀ k (hk : k < l.length), i ≤ k → k < j → isEff (l[k]).1 = false) → η j = η i
  | 0, h1, _, _ => by rw [show i = 0 by omega]
  | j + 1, h1, h2, hn => by
    by_cases e : i = j + 1
    · rw [e]
    · rw [T.noeff j (by omega) (hn j (by omega) (by omega) (by omega))]
      exact T.same i j (by omega) (by omega) (fun k hk a b => hn k hk a (by omega))

theorem Tr.get {E : Sig} {l : List (DK × AOper)} {ε : Nat → Env} {η : Nat → AH} {val : Nat → V} (T : Tr E l ε η val) (t : Nat) : ∀ i, i ≤ l.length →
    (∃ j, ∃ hj : j < l.length, j < i ∧ (l[j]).2.dst = some t ∧ (∀ k (hk : k < l.length), j < k → k < i → (l[k]).2.dst ≠ some t) ∧ get (ε i) t = val j) ∨
    ((∀ j (hj : j < l.length), j < i → (l[j]).2.dst ≠ some t) ∧ get (ε i) t = get (ε 0) t)
  | 0, _ => .inr ⟨fun _ _ h => by omega, rfl⟩
  | i + 1, hi => by
    have he := T.env i (by omega)
    by_cases hd : (l[i]).2.dst = some t
    · refine .inl ⟨i, by omega, by omega, hd, fun k hk a b => by omega, ?_⟩
      rw [he, hd]; simp [put, Al.get]
    · have hg : Al.get (ε (i + 1)) t = Al.get (ε i) t := by
        rw [he]
        cases hdd : (l[i]).2.dst with
        | none => rfl
        | some d =>
          simp only [put, Al.get]
          rw [if_neg (fun e => hd (by rw [hdd, e]))]
      rcases T.get t i (by omega) with ⟨j, hj, h1, h2, h3, h4⟩ | ⟨h1, h2⟩
      · refine .inl ⟨j, hj, by omega, h2, fun k hk a b => ?_, by rw [hg, h4]⟩
        by_cases e : k = i
        · subst e; exact hd
        · exact h3 k hk a (by omega)
      · refine .inr ⟨fun j hj a => ?_, by rw [hg, h2]⟩
        by_cases e : j = i
        · subst e; exact hd
        · exact h1 j hj (by omega)

/-! ### Which have come up -/
def cnt (listed : Array Bool) : Nat → Nat
  | 0 => 0
  | k + 1 => cnt listed k + if listed.getD k true then 0 else 1
theorem cnt_set (listed : Array Bool) (i : Nat) (hi : listed.getD i true = false) : ∀ k, cnt (listed.setIfInBounds i true) k + (if i < k then 1 else 0) = cnt listed k
  | 0 => by simp [cnt]
  | k + 1 => by
    have ih := cnt_set listed i hi k
    have hlt : i < listed.size := by
      rcases Nat.lt_or_ge i listed.size with h' | h'
      · exact h'
      · simp [Array.getD, Nat.not_lt.2 h'] at hi
    simp only [cnt]
    by_cases e : k = i
    · subst e
      have : (listed.setIfInBounds k true).getD k true = true := by simp [Array.getD, hlt]
      rw [this, hi]
      simp at ih ⊢
      omega
    · have : (listed.setIfInBounds i true).getD k true = listed.getD k true := by
        simp only [Array.getD_eq_getD_getElem?, Array.getElem?_setIfInBounds_ne (Ne.symm e)]
      rw [this]
      by_cases a : i < k
      · have h1 : i < k + 1 := by omega
        simp only [a, h1, if_true] at ih ⊢; omega
      · have h1 : ¬ i < k + 1 := by omega
        simp only [a, h1, if_false] at ih ⊢; omega
theorem cnt_zero {listed : Array Bool} : ∀ {k : Nat}, cnt listed k = 0 → ∀ i, i < k → listed.getD i true = true
  | 0, _, i, hi => by omega
  | k + 1, h, i, hi => by
    simp only [cnt] at h
    by_cases e : i = k
    · subst e
      by_cases hl : listed.getD i true = true
      · exact hl
      · rw [if_neg hl] at h; omega
    · have h2 : cnt listed k = 0 := by omega
      exact cnt_zero h2 i (by omega)

/-! ### The checks -/
theorem compOpers_get {N : Nat} {ops : Array Oper} : ∀ {l : List Oper} {m : List AOper}, compOpers X.P Y N ops l = some m → m.length = l.length ∧ ∀ i (h1 : i < m.length) (h2 : i < l.length), compOper X.P Y N ops l[i] = some m[i]
  | [], m, e => by simp [compOpers] at e; subst e; simp
  | o :: l, m, e => by
    unfold compOpers at e
    split at e
    · rename_i a b h1 h2
      obtain ⟨k1, k2⟩ := compOpers_get h2
      simp at e; subst e
      refine ⟨by simp [k1], fun i i1 i2 => ?_⟩
      cases i with
      | zero => exact h1
      | succ i => exact k2 i (by simpa using i1) (by simpa using i2)
    · simp at e

structure Pairs (Y : Keys) (ops : Array Oper) (l : List (DK × AOper)) : Prop where
  len : l.length = ops.size
  dst : ∀ i (h1 : i < ops.size) (h2 : i < l.length), (l[i]).2.dst = (ops[i]).dst
  dist : ∀ i j (hi : i < ops.size) (hj : j < ops.size), i < j → ∀ d, (ops[i]).dst = some d → (ops[j]).dst ≠ some d
  raw : ∀ i j (hi : i < ops.size) (hj : j < ops.size), i < j → ∀ d, (ops[i]).dst = some d → d ∈ (ops[j]).looksAt ops → bindsTo (ops[j]) i = true
  war : ∀ i j (hi : i < ops.size) (hj : j < ops.size), i < j → ∀ d, (ops[j]).dst = some d → d ∈ (ops[i]).looksAt ops → bindsTo (ops[j]) i = true
  mask : ∀ j (hj : j < ops.size) i, i < ops.size → ((Region.before ops).getD j 0).testBit i = true → ∃ e ∈ (ops[j]).after, Region.binds .any e = true ∧ e.on < j ∧ (e.on = i ∨ ((Region.before ops).getD e.on 0).testBit i = true)
  eff : ∀ i j (hi : i < l.length) (hj : j < l.length), i < j → (isEff (l[i]).1 = true ∧ looks Y (l[j]) = true ∨ looks Y (l[i]) = true ∧ isEff (l[j]).1 = true) → ((Region.before ops).getD j 0).testBit i = true
  kind : ∀ i (hi : i < l.length), kindOk Y (l[i]) = true
  fle : ∀ i j (hi : i < l.length) (hj : j < l.length), i < j → (l[i]).1 = .fl → (l[j]).1 = .efo → ((Region.before ops).getD j 0).testBit i = true
  down : ∀ j (hj : j < ops.size), ∀ e ∈ (ops[j]).after, Region.binds .any e = true → e.on < j

theorem pairs_of {N : Nat} {ops : Array Oper} {l : List (DK × AOper)} (hc : compOpers X.P Y N ops ops.toList = some (l.map (·.2))) (h1 : drawOk Y ops l = true) (h2 : edgesDown ops = true) : Pairs Y ops l := by
  obtain ⟨k1, k2⟩ := compOpers_get hc
  have hlen : l.length = ops.size := by simpa using k1
  have hdst : ∀ i (h1 : i < ops.size) (h2 : i < l.length), (l[i]).2.dst = (ops[i]).dst := fun i i1 i2 => by
    have := k2 i (by simpa using i2) (by simpa using i1)
    simpa using (compOper_op this).2.1
  simp only [drawOk, Bool.and_eq_true] at h1
  obtain ⟨⟨hm, hkd⟩, hp⟩ := h1
  have hpair : ∀ i j (hi : i < ops.size) (hj : j < ops.size) (hi2 : i < l.length) (hj2 : j < l.length), i < j → pairOk Y ops (Region.before ops) i j (ops[i]) (ops[j]) (l[i]) (l[j]) = true := fun i j hi hj hi2 hj2 hij => by
    have := List.all_eq_true.1 hp j (by simpa using hj)
    have := List.all_eq_true.1 this i (by simpa using hij)
    simpa [hi, hj, hi2, hj2] using this
  have hspec := fun i j hi hj hi2 hj2 hij => by
    have := hpair i j hi hj hi2 hj2 hij
    simp only [pairOk, Bool.and_eq_true] at this
    exact this
  refine ⟨hlen, hdst, fun i j hi hj hij d hd he => ?_, fun i j hi hj hij d hd hu => ?_, fun i j hi hj hij d hd hu => ?_, fun j hj i hi hb => ?_, fun i j hi hj hij hh => ?_, fun i hi => List.all_eq_true.1 hkd _ (List.getElem_mem hi), fun i j hi hj hij h1 h2 => ?_, fun j hj e he hb => ?_⟩
  · have := (hspec i j hi hj (by omega) (by omega) hij).1.1.1
    simp [hd, he] at this
  · have := (hspec i j hi hj (by omega) (by omega) hij).1.1.1
    simp only [hd, Bool.and_eq_true, Bool.or_eq_true, Bool.not_eq_true'] at this
    rcases this.2 with h | h
    · simp [usesSlot, hu] at h
    · exact h
  · have := (hspec i j hi hj (by omega) (by omega) hij).1.1.2
    simp only [hd, Bool.or_eq_true, Bool.not_eq_true'] at this
    rcases this with h | h
    · simp [usesSlot, hu] at h
    · exact h
  · have := List.all_eq_true.1 hm j (by simpa using hj)
    simp only [hj, Array.getElem?_eq_getElem] at this
    have := List.all_eq_true.1 this i (by simpa using hi)
    simp only [hb, Bool.not_true, Bool.false_or] at this
    obtain ⟨q, hq, hqq⟩ := Array.any_eq_true.1 this
    simp only [Bool.and_eq_true, decide_eq_true_eq, Bool.or_eq_true, beq_iff_eq] at hqq
    exact ⟨(ops[j]).after[q], Array.getElem_mem hq, hqq.1.1, hqq.1.2, hqq.2⟩
  · have := (hspec i j (by omega) (by omega) hi hj hij).1.2
    simp only [Bool.or_eq_true, Bool.not_eq_true', Bool.or_eq_false_iff, Bool.and_eq_false_iff] at this
    rcases this with h | h
    · rcases hh with ⟨a, b⟩ | ⟨a, b⟩
      · rcases h.1 with c | c <;> simp_all
      · rcases h.2 with c | c <;> simp_all
    · exact h
  · have := (hspec i j (by omega) (by omega) hi hj hij).2
    simp only [h1, h2, isFl, isEfo, Bool.and_self, Bool.not_true, Bool.false_or] at this
    exact this
  · have := List.all_eq_true.1 h2 j (by simpa using hj)
    simp only [hj, Array.getElem?_eq_getElem] at this
    have := Array.all_eq_true'.1 this e he
    simp only [hb, Bool.not_true, Bool.false_or, decide_eq_true_eq] at this
    exact this

/-! ### Any order -/
/-- Where an order stands. -/
structure At (X : Cx) (Y : Keys) (N : Nat) (ds : List Deferred) (ops : Array Oper) (l : List (DK × AOper)) (ε : Nat → Env) (η : Nat → AH) (val : Nat → V) (g0 : Gh) (w0 : World) (listed : Array Bool) (g : Gh) (w : World) (m : Nat) (a : Act) : Prop where
  sz : listed.size = ops.size
  closed : ∀ j (hj : j < ops.size), listed.getD j true = true → ∀ e ∈ (ops[j]).after, Region.binds .any e = true → listed.getD e.on false = true
  mle : m ≤ l.length
  eff : ∀ i (hi : i < l.length), isEff (l[i]).1 = true → (listed.getD i true = true ↔ i < m)
  inv : Inv X g w (η m)
  stp : Stp g0 w0 (η 0) g w (η m)
  slots : ∀ t, (∃ i, ∃ hi : i < l.length, listed.getD i true = true ∧ (l[i]).2.dst = some t ∧ Rel X g w (η m) (val i) (a.tmps.getD t undef)) ∨
    ((∀ i (hi : i < l.length), listed.getD i true = true → (l[i]).2.dst ≠ some t) ∧ Rel X g w (η m) (get (ε 0) t) (a.tmps.getD t undef))
  size : a.tmps.size = N
  defers : a.defers = ds
  alive : ∀ i (hi : i < l.length), listed.getD i true = true → isPan (l[i]).2.op = true → (l[i]).2.gd ≠ none

/-- A panic doesn't come back. -/
theorem pan_any {args : List V} {h : AH} {K K' : V → AH → Prop} (c : Ecx X 0 args h K) : Ecx X 0 args h K' := fun g w cargs I rl => by
  rcases c g w cargs I rl with ⟨_, h0, _⟩ | ⟨_, _, h0, _⟩ | c | ⟨l, _, _, _, _, h0, _⟩
  · exact absurd rfl h0.1
  · exact absurd rfl h0.1
  · exact .inr (.inr (.inl c))
  · simp [YK] at h0; omega
theorem pan_wp {o : AOp} (hp : isPan o = true) {env : Env} {h : AH} {K K' : V → AH → Prop} (hk : o.wp (Ecx X) (ev env) h K) : o.wp (Ecx X) (ev env) h K' := by
  unfold isPan at hp
  split at hp
  · exact pan_any hk
  · cases hp
theorem getD_true_false {listed : Array Bool} {i : Nat} (hi : i < listed.size) : listed.getD i true = listed.getD i false := by simp [Array.getD, hi]

theorem mask_listed {ops : Array Oper} {l : List (DK × AOper)} (Pr : Pairs Y ops l) {listed : Array Bool} (hsz : listed.size = ops.size)
    (closed : ∀ j (hj : j < ops.size), listed.getD j true = true → ∀ e ∈ (ops[j]).after, Region.binds .any e = true → listed.getD e.on false = true) :
    ∀ (n j : Nat), j < n → ∀ (hj : j < ops.size) (i : Nat), i < ops.size → (∀ e ∈ (ops[j]).after, Region.binds .any e = true → listed.getD e.on false = true) → ((Region.before ops).getD j 0).testBit i = true → listed.getD i true = true
  | 0, _, h, _, _, _, _, _ => by omega
  | n + 1, j, hjn, hj, i, hi, hpre, hb => by
    obtain ⟨e, he, hbind, hlt, h⟩ := Pr.mask j hj i hi hb
    have hl := hpre e he hbind
    have hes : e.on < ops.size := by omega
    rcases h with h | h
    · rw [← h, getD_true_false (by omega)]; exact hl
    · exact mask_listed Pr hsz closed n e.on (by omega) hes i hi (closed e.on hes (by rw [getD_true_false (by omega)]; exact hl)) h

theorem any_order {ro : Option Nat} {ds : List Deferred} (hY : X.tbl = Y.tbl) {N : Nat} {ops : Array Oper} {l : List (DK × AOper)} (hc : compOpers X.P Y N ops ops.toList = some (l.map (·.2))) (Pr : Pairs Y ops l) {ε : Nat → Env} {η : Nat → AH} {val : Nat → V}
    (T : Tr (Ecx X) l ε η val) {g0 : Gh} {w0 : World} {Qc : Exit → Act → World → Prop}
    (hq : (∀ i (hi : i < l.length), isPan (l[i]).2.op = true → (l[i]).2.gd ≠ none) → ∀ g w a, Hold X N ds g w (η l.length) (ε l.length) a → Stp g0 w0 (η 0) g w (η l.length) → Qc .normal a w)
    (hp : ∀ p w' a', PanOk X g0 w0 (η 0) p w' → a'.defers = ds → Qc (.panic [{ v := p, recovered := false }]) a' w') :
    ∀ (fuel : Nat) (listed : Array Bool) (g : Gh) (w : World) (m : Nat) (a : Act), cnt listed ops.size ≤ fuel → At X Y N ds ops l ε η val g0 w0 listed g w m a → wpAnyIn (FR ro) 0 X.P .any ops Qc fuel listed a w := by
  have hlen := Pr.len
  -- all have come up
  have final : ∀ (listed : Array Bool) (g : Gh) (w : World) (m : Nat) (a : Act), At X Y N ds ops l ε η val g0 w0 listed g w m a → (∀ i, i < ops.size → listed.getD i true = true) → Qc .normal a w := by
    intro listed g w m a A hall
    have hm : η l.length = η m := T.same m l.length A.mle (Nat.le_refl _) (fun k hk h1 h2 => by
      cases he : isEff (l[k]).1 with
      | false => rfl
      | true => have := (A.eff k hk he).1 (hall k (by omega)); omega)
    refine hq (fun i hi hpn => A.alive i hi (hall i (by omega)) hpn) g w a ⟨fun t => ?_, by rw [hm]; exact A.inv, A.size, A.defers⟩ (by rw [hm]; exact A.stp)
    rw [hm]
    rcases T.get t l.length (Nat.le_refl _) with ⟨j, hj, h1, h2, h3, h4⟩ | ⟨h1, h2⟩
    · rw [h4]
      rcases A.slots t with ⟨i, hi, s1, s2, s3⟩ | ⟨s1, s2⟩
      · have : i = j := by
          rcases Nat.lt_trichotomy i j with c | c | c
          · exact absurd ((Pr.dst j (by omega) hj).symm.trans h2) (Pr.dist i j (by omega) (by omega) c t ((Pr.dst i (by omega) hi).symm.trans s2))
          · exact c
          · exact absurd s2 (h3 i hi c (by omega))
        subst this; exact s3
      · exact absurd h2 (s1 j hj (hall j (by omega)))
    · rw [h2]
      rcases A.slots t with ⟨i, hi, s1, s2, s3⟩ | ⟨s1, s2⟩
      · exact absurd s2 (h1 i hi (by omega))
      · exact s2
  -- something may come up
  have progress : ∀ (listed : Array Bool), (∀ i, i < ops.size → listed.getD i true = true) ∨ ∃ i, i ∈ Region.ready .any ops listed := by
    intro listed
    have key : ∀ k, k ≤ ops.size → (∀ i, i < k → listed.getD i true = true) ∨ ∃ i, i ∈ Region.ready .any ops listed := by
      intro k
      induction k with
      | zero => intro _; exact .inl (fun i hi => by omega)
      | succ k ih =>
        intro hk
        rcases ih (by omega) with h | h
        · by_cases hl : listed.getD k true = true
          · refine .inl (fun i hi => ?_)
            by_cases e : i = k
            · rw [e]; exact hl
            · exact h i (by omega)
          · refine .inr ⟨k, mem_ready.2 ⟨by simpa using hl, ops[k]'(by omega), Array.getElem?_eq_getElem _, fun e he hb => ?_⟩⟩
            have hd := Pr.down k (by omega) e he hb
            have hks : k < listed.size := by
              rcases Nat.lt_or_ge k listed.size with c | c
              · exact c
              · exact absurd (by simp [Array.getD, Nat.not_lt.2 c]) hl
            rw [← getD_true_false (by omega)]; exact h e.on hd
        · exact .inr h
    exact key ops.size (Nat.le_refl _)
  intro fuel
  induction fuel with
  | zero =>
    intro listed g w m a hcnt A
    have hall := fun i hi => cnt_zero (Nat.le_zero.1 hcnt) i hi
    refine ⟨?_, final listed g w m a A hall⟩
    cases hr : Region.ready .any ops listed with
    | nil => rfl
    | cons i r =>
      have hi : i ∈ Region.ready .any ops listed := by rw [hr]; simp
      obtain ⟨h1, o, ho, _⟩ := mem_ready.1 hi
      have := hall i (Array.getElem?_eq_some_iff.1 ho).1
      rw [h1] at this; cases this
  | succ fuel ih =>
    intro listed g w m a hcnt A
    refine ⟨fun h0 => ?_, fun i hi => ?_⟩
    · rcases progress listed with h | ⟨i, hi⟩
      · exact final listed g w m a A h
      · rw [h0] at hi; cases hi
    · obtain ⟨hun, o, ho, hpre⟩ := mem_ready.1 hi
      obtain ⟨hio, hoe⟩ := Array.getElem?_eq_some_iff.1 ho
      have hil : i < l.length := by omega
      have hpre' : ∀ e ∈ (ops[i]).after, Region.binds .any e = true → listed.getD e.on false = true := by rw [hoe]; exact hpre
      have hcomp : compOper X.P Y N ops o = some (l[i]).2 := by
        have := (compOpers_get hc).2 i (by simpa using hil) (by simpa using hio)
        rw [← hoe]; simpa using this
      obtain ⟨c1, c2, c3⟩ := compOper_op hcomp
      -- an operand reads as it does in the text's order
      have hslot : ∀ t, t ∈ o.looksAt ops → Rel X g w (η m) (get (ε i) t) (a.tmps.getD t undef) := by
        intro t ht
        rcases T.get t i (by omega) with ⟨j, hj, h1, h2, h3, h4⟩ | ⟨h1, h2⟩
        · rw [h4]
          have hjd : (ops[j]).dst = some t := by rw [← Pr.dst j (by omega) hj]; exact h2
          have hbt := Pr.raw j i (by omega) hio h1 t hjd (by rw [hoe]; exact ht)
          have hjl : listed.getD j true = true := by
            simp only [bindsTo] at hbt
            obtain ⟨q, hq', hqq⟩ := Array.any_eq_true.1 hbt
            simp only [Bool.and_eq_true, beq_iff_eq] at hqq
            have := hpre' _ (Array.getElem_mem hq') hqq.2
            rw [hqq.1] at this
            rw [getD_true_false (by rw [A.sz]; omega)]; exact this
          rcases A.slots t with ⟨i', hi', s1, s2, s3⟩ | ⟨s1, s2⟩
          · have : i' = j := by
              rcases Nat.lt_trichotomy i' j with c | c | c
              · exact absurd hjd (Pr.dist i' j (by omega) (by omega) c t ((Pr.dst i' (by omega) hi').symm.trans s2))
              · exact c
              · exact absurd ((Pr.dst i' (by omega) hi').symm.trans s2) (Pr.dist j i' (by omega) (by omega) c t hjd)
            subst this; exact s3
          · exact absurd h2 (s1 j hj hjl)
        · rw [h2]
          rcases A.slots t with ⟨i', hi', s1, s2, s3⟩ | ⟨s1, s2⟩
          · exfalso
            rcases Nat.lt_trichotomy i' i with c | c | c
            · exact h1 i' hi' c s2
            · subst c; rw [hun] at s1; cases s1
            · have hbt := Pr.war i i' hio (by omega) c t (by rw [← Pr.dst i' (by omega) hi']; exact s2) (by rw [hoe]; exact ht)
              simp only [bindsTo] at hbt
              obtain ⟨q, hq', hqq⟩ := Array.any_eq_true.1 hbt
              simp only [Bool.and_eq_true, beq_iff_eq] at hqq
              have := A.closed i' (by omega) s1 _ (Array.getElem_mem hq') hqq.2
              rw [hqq.1, ← getD_true_false (by rw [A.sz]; omega), hun] at this
              cases this
          · exact s2
      have hoper : ∀ x ∈ o.op.operands, ∀ y, co Y x = some y → Rel X g w (η m) (ev (ε i) y) (a.eval x) := by
        intro x hx y hy
        cases x with
        | tmp t =>
          simp [co] at hy; subst hy
          refine hslot t ?_
          simp only [Oper.looksAt, List.mem_append, List.mem_filterMap]
          exact .inl ⟨.tmp t, by simpa using hx, rfl⟩
        | const v =>
          simp only [co] at hy; split at hy
          · rename_i u hu; simp at hy; subst hy; exact constV_rel hu
          · simp at hy
        | func f =>
          simp only [co] at hy; split at hy
          · rename_i k hk; simp at hy; subst hy
            have := Rel.fn (X := X) (g := g) (w := w) (h := η m) k [] [] #[] #[] (fnKey_ne hk) rfl rfl (by simp) (by simp)
            rw [hY, fnKey_spec hk] at this
            exact this
          · simp at hy
        | global _ => simp [co] at hy; subst hy; exact .undef _
      have hguard : ∀ s t, (l[i]).2.gd = some (s, t) → Rel X g w (η m) (get (ε i) s) (a.tmps.getD s undef) := by
        intro s t hst
        refine hslot s ?_
        have hcomp' := hcomp
        unfold compOper at hcomp'
        rw [if_pos c3] at hcomp'
        simp only [c1] at hcomp'
        cases hg : o.guard with
        | none => rw [hg] at hcomp'; simp at hcomp'; rw [← hcomp'] at hst; simp at hst
        | some p =>
          obtain ⟨j, t'⟩ := p
          rw [hg] at hcomp'
          simp only at hcomp'
          split at hcomp'
          · rename_i oj hj
            split at hcomp'
            · rename_i s' hs'
              simp at hcomp'
              rw [← hcomp'] at hst
              simp at hst
              obtain ⟨rfl, rfl⟩ := hst
              simp only [Oper.looksAt, hg, hj, Option.bind_some, hs', Option.toList_some, List.mem_append]
              exact .inr (by simp)
            · simp at hcomp'
          · simp at hcomp'
      -- the effects that have come up are those ahead of this one, if this one looks
      have hheap : looks Y (l[i]) = true → η m = η i ∧ (∀ k (hk : k < l.length), isEff (l[k]).1 = true → k ≠ i → (k < m ↔ k < i)) := by
        intro hlook
        have heq : ∀ k (hk : k < l.length), isEff (l[k]).1 = true → k ≠ i → (k < m ↔ k < i) := by
          intro k hk he hne
          rw [← A.eff k hk he]
          constructor
          · intro hl
            rcases Nat.lt_or_ge k i with c | c
            · exact c
            · exfalso
              have hb := Pr.eff i k hil hk (by omega) (.inr ⟨hlook, he⟩)
              have := mask_listed Pr A.sz A.closed (k + 1) k (by omega) (by omega) i hio (A.closed k (by omega) hl) hb
              rw [hun] at this; cases this
          · intro hl
            have hb := Pr.eff k i hk hil hl (.inl ⟨he, hlook⟩)
            exact mask_listed Pr A.sz A.closed (i + 1) i (by omega) hio k (by omega) hpre' hb
        refine ⟨?_, heq⟩
        rcases Nat.le_total m i with c | c
        · refine (T.same m i c (by omega) (fun k hk h1 h2 => ?_)).symm
          cases he : isEff (l[k]).1 with
          | false => rfl
          | true => have := (heq k hk he (by omega)).2 h2; omega
        · refine T.same i m c A.mle (fun k hk h1 h2 => ?_)
          cases he : isEff (l[k]).1 with
          | false => rfl
          | true =>
            by_cases e : k = i
            · subst e; have := (A.eff k hk he).2 h2; rw [hun] at this; cases this
            · have := (heq k hk he e).1 h2; omega
      -- behind it
      have after : ∀ (m' : Nat) (g' : Gh) (w' : World) (x : Value), (m' = m ∧ isEff (l[i]).1 = false ∨ m' = i + 1 ∧ isEff (l[i]).1 = true) → Inv X g' w' (η m') → Stp g w (η m) g' w' (η m') → Rel X g' w' (η m') (val i) x → (isPan (l[i]).2.op = true → (l[i]).2.gd ≠ none) →
          wpAnyIn (FR ro) 0 X.P .any ops Qc fuel (listed.setIfInBounds i true) (a.put o.dst x) w' := by
        intro m' g' w' x hm' I' S r hal
        have hins : i < listed.size := by rw [A.sz]; exact hio
        have hsame : ∀ k, k ≠ i → ∀ d, (listed.setIfInBounds i true).getD k d = listed.getD k d := fun k hk d => getD_set_ne d (Ne.symm hk)
        have hnew : ∀ d, (listed.setIfInBounds i true).getD i d = true := fun d => by simp [Array.getD, hins]
        refine ih _ g' w' m' _ ?_ ⟨by simp [A.sz], fun j hj hl e he hb => ?_, ?_, fun k hk he => ?_, I', A.stp.trans S, fun t => ?_, by rw [put_size]; exact A.size, by rw [put_defers']; exact A.defers, fun k hk hl => ?_⟩
        · have := cnt_set listed i hun ops.size
          rw [if_pos hio] at this; omega
        · by_cases e' : j = i
          · subst e'; exact getD_set_true (hpre' e he hb)
          · rw [hsame j e'] at hl; exact getD_set_true (A.closed j hj hl e he hb)
        · rcases hm' with ⟨rfl, _⟩ | ⟨rfl, _⟩
          · exact A.mle
          · omega
        · by_cases e : k = i
          · subst e
            rw [hnew]
            rcases hm' with ⟨_, h⟩ | ⟨rfl, _⟩
            · rw [h] at he; cases he
            · simp
          · rw [hsame k e]
            rcases hm' with ⟨rfl, h⟩ | ⟨rfl, h⟩
            · exact A.eff k hk he
            · rw [A.eff k hk he, (hheap (eff_looks (Pr.kind i hil) h)).2 k hk he e]; omega
        · by_cases hd : (l[i]).2.dst = some t
          · refine .inl ⟨i, hil, hnew true, hd, ?_⟩
            have hdo : o.dst = some t := by rw [← c2]; exact hd
            have hlt : t < a.tmps.size := by rw [hdo] at c3; simp [dstOk] at c3; rw [A.size]; exact c3
            have : ((a.put o.dst x).tmps).getD t undef = x := by rw [hdo]; simp [Act.put, Array.getD, hlt]
            rw [this]; exact r
          · have hne : ((a.put o.dst x).tmps).getD t undef = a.tmps.getD t undef := by
              rw [← c2]
              cases hdd : (l[i]).2.dst with
              | none => rfl
              | some d =>
                have : d ≠ t := fun e => hd (by rw [hdd, e])
                simp only [Act.put, Array.getD_eq_getD_getElem?, Array.getElem?_setIfInBounds_ne this]
            rw [hne]
            rcases A.slots t with ⟨k, hk, s1, s2, s3⟩ | ⟨s1, s2⟩
            · exact .inl ⟨k, hk, by
                by_cases e : k = i
                · subst e; exact hnew true
                · rw [hsame k e]; exact s1, s2, s3.stp S⟩
            · refine .inr ⟨fun k hk hl => ?_, s2.stp S⟩
              by_cases e : k = i
              · subst e; exact hd
              · rw [hsame k e] at hl; exact s1 k hk hl
        · by_cases e : k = i
          · subst e; exact hal
          · rw [hsame k e] at hl; exact A.alive k hk hl
      -- the operation itself
      unfold wpOpIn
      simp only [ho]
      rcases guard_spec hcomp hguard (T.step i hil) with ⟨⟨hk, hnoeff, hfl⟩, hw⟩ | ⟨⟨hv, hh⟩, hw⟩
      · rw [if_pos hw]
        by_cases hlook : looks Y (l[i]) = true
        · have hmi := (hheap hlook).1
          rw [← hmi] at hk
          by_cases hpn : isPan (l[i]).2.op = true
          · exact op_sound hY c1 (fun _ => rfl) hoper A.inv (pan_wp (K' := fun _ _ => False) hpn hk) (fun _ _ _ _ _ ff => ff.elim) (fun p w' z => hp p w' a (z.trans A.stp) A.defers)
          refine op_sound hY c1 (fun _ => rfl) hoper A.inv hk (fun v h' x g' w' ⟨q1, q2⟩ I' r S => ?_) (fun p w' z => hp p w' a (z.trans A.stp) A.defers)
          subst q1
          cases he : isEff (l[i]).1 with
          | true =>
            subst q2
            exact after (i + 1) g' w' x (.inr ⟨rfl, he⟩) I' S r (fun e => absurd e hpn)
          | false =>
            have : h' = η m := by rw [q2, hnoeff he, hmi]
            subst this
            exact after m g' w' x (.inl ⟨rfl, he⟩) I' S r (fun e => absurd e hpn)
        · have hl' : looks Y (l[i]) = false := by simpa using hlook
          have he : isEff (l[i]).1 = false := by
            cases hq : isEff (l[i]).1 with
            | false => rfl
            | true => rw [eff_looks (Pr.kind i hil) hq] at hl'; cases hl'
          have hk2 : (l[i]).2.op.quiet (Ecx X) (ev (ε i)) (val i) (η m) := by
            cases hd : (l[i]).1 with
            | eff => rw [hd] at he; cases he
            | efo => rw [hd] at he; cases he
            | fl =>
              refine hfl hd m A.mle fun j hj h1 h2 h3 => ?_
              have hjl := (A.eff j hj (by rw [h3]; rfl)).2 h2
              have hb := Pr.fle i j hil hj h1 hd h3
              have := mask_listed Pr A.sz A.closed (j + 1) j (by omega) (by omega) i hio (A.closed j (by omega) hjl) hb
              rw [hun] at this; cases this
            | pl =>
              have hl2 : lookOp Y (l[i]).2.op = false := by simpa [looks, hd] using hl'
              exact wp_heap hl2 hk (fun v hv => ⟨hv.1, rfl⟩)
          by_cases hpn : isPan (l[i]).2.op = true
          · exact op_sound hY c1 (fun _ => rfl) hoper A.inv (pan_wp (K' := fun _ _ => False) hpn hk2) (fun _ _ _ _ _ ff => ff.elim) (fun p w' z => hp p w' a (z.trans A.stp) A.defers)
          refine op_sound hY c1 (fun _ => rfl) hoper A.inv hk2 (fun v h' x g' w' ⟨q1, q2⟩ I' r S => ?_) (fun p w' z => hp p w' a (z.trans A.stp) A.defers)
          subst q1; subst q2
          exact after m g' w' x (.inl ⟨rfl, he⟩) I' S r (fun e => absurd e hpn)
      · rw [if_neg (by simp [hw])]
        refine ⟨fun _ _ => trivial, ?_⟩
        have hgd : (l[i]).2.gd ≠ none := fun e => by
          have := compOper_gd hcomp e
          simp [Region.wanted, this] at hw
        have hr0 : Rel X g w (η m) (val i) undef := by rw [hv]; exact .tup [] #[] rfl (by simp)
        cases he : isEff (l[i]).1 with
        | false => exact after m g w undef (.inl ⟨rfl, he⟩) A.inv (Stp.refl _ _ _) hr0 (fun _ => hgd)
        | true =>
          have hmi := (hheap (eff_looks (Pr.kind i hil) he)).1
          have : η (i + 1) = η m := by rw [hh, hmi]
          exact after (i + 1) g w undef (.inr ⟨rfl, he⟩) (by rw [this]; exact A.inv) (by rw [this]; exact Stp.refl _ _ _) (by rw [this]; exact hr0) (fun _ => hgd)
end
end Go.Proofs.Ytajaoldljichaaa.Al
namespace Go.Proofs.Ytajaoldljichaaa.Al
open Go Go.RowKit
set_option linter.unusedSimpArgs false
set_option linter.unusedVariables false

section
variable {X : Cx} {Y : Keys}

def exOf : Ex → Exit
  | .nrm => .normal
  | .ret => .ret
  | .exit n => .exit n

theorem draw_any {ro : Option Nat} {ds : List Deferred} (hY : X.tbl = Y.tbl) {N : Nat} {ops : Array Oper} {l : List AOper} (hc : compOpers X.P Y N ops ops.toList = some l) (h1 : drawOk Y ops (kinds Y ops l) = true) (h2 : edgesDown ops = true)
    {g : Gh} {w : World} {h : AH} {env : Env} {a : Act} {K : Env → AH → Prop} {Qc : Exit → Act → World → Prop} (H : Hold X N ds g w h env a) (hk : awpD (Ecx X) (kinds Y ops l) env h [] [] K)
    (hq : (∀ a ∈ l, isPan a.op = true → a.gd ≠ none) → ∀ env' h' g' w' a', K env' h' → Hold X N ds g' w' h' env' a' → Stp g w h g' w' h' → Qc .normal a' w')
    (hp : ∀ p w' a', PanOk X g w h p w' → a'.defers = ds → Qc (.panic [{ v := p, recovered := false }]) a' w') : wpAnyIn (FR ro) 0 X.P .any ops Qc ops.size (Array.replicate ops.size false) a { w with drawn := w.drawn + 1 } := by
  obtain ⟨ε, η, val, rfl, rfl, T, kK⟩ := trace _ _ _ _ hk
  have hc : compOpers X.P Y N ops ops.toList = some ((kinds Y ops l).map (·.2)) := by rw [hc, kinds_snd]
  have hq' : (∀ a ∈ (kinds Y ops l).map (·.2), isPan a.op = true → a.gd ≠ none) → _ := fun q => hq (by rw [kinds_snd] at q; exact q)
  generalize kinds Y ops l = l at *
  have Pr := pairs_of hc h1 h2
  have hrep : ∀ i, (Array.replicate ops.size false).getD i true = true → ¬ i < ops.size := fun i h hi => by simp [Array.getD, hi] at h
  refine any_order hY hc Pr T (g0 := g) (w0 := w) (fun al g' w' a' H' S' => hq' (fun a ha => by
    obtain ⟨z, hz, rfl⟩ := List.mem_map.1 ha
    obtain ⟨i, hi, rfl⟩ := List.getElem_of_mem hz
    exact al i hi) _ _ g' w' a' kK H' S') hp ops.size _ g _ 0 a ?_ ?_
  · have : ∀ (b : Array Bool) k, cnt b k ≤ k := fun b k => by
      induction k with
      | zero => simp [cnt]
      | succ k ih => simp only [cnt]; split <;> omega
    exact this _ _
  · exact
      { sz := by simp
        closed := fun j hj hl => absurd hj (hrep j hl)
        mle := Nat.zero_le _
        eff := fun i hi _ => ⟨fun hl => absurd (by rw [← Pr.len]; exact hi) (hrep i hl), fun hl => by omega⟩
        inv := H.inv.drew
        stp := Stp.drew g w _
        slots := fun t => .inr ⟨fun i hi hl => absurd (by rw [← Pr.len]; exact hi) (hrep i hl), (H.env t).drew⟩
        size := H.size
        defers := H.defers
        alive := fun i hi hl => absurd (by rw [← Pr.len]; exact hi) (hrep i hl) }

theorem draw_sound {ro : Option Nat} {ds : List Deferred} (hm : X.P.follows .mixedOrders = true) (hY : X.tbl = Y.tbl) {N : Nat} {ops : Array Oper} {l : List AOper} (hc : compOpers X.P Y N ops ops.toList = some l) (h1 : drawOk Y ops (kinds Y ops l) = true) (h2 : edgesDown ops = true)
    {g : Gh} {w : World} {h : AH} {env : Env} {a : Act} {K : Env → AH → Prop} {Qc : Exit → Act → World → Prop} {id : Nat} (H : Hold X N ds g w h env a) (hk : awpD (Ecx X) (kinds Y ops l) env h [] [] K)
    (hq : (∀ a ∈ l, isPan a.op = true → a.gd ≠ none) → ∀ env' h' g' w' a', K env' h' → Hold X N ds g' w' h' env' a' → Stp g w h g' w' h' → Qc .normal a' w')
    (hp : ∀ p w' a', PanOk X g w h p w' → a'.defers = ds → Qc (.panic [{ v := p, recovered := false }]) a' w') : (Code.region id ops true).wpIn (FR ro) 0 X.P Qc a w :=
  wpIn_region_any hm (draw_any hY hc h1 h2 H hk hq hp)

/-! ### A region whose last operation waits for all others: that one may have more than one answer -/
def popQ (F : Fence) (n : Nat) (P : Program) (ops : Array Oper) (m : Nat) (Q : Exit → Act → World → Prop) : Exit → Act → World → Prop
  | .normal, a, w => wpOpIn F n P ops Q m (fun a w => Q .normal a w) a w
  | e, a, w => Q e a w
theorem uponIn_popQ {F : Fence} {n : Nat} {P : Program} {ops : Array Oper} {m : Nat} {Q : Exit → Act → World → Prop} {o : Oper} {a : Act} {next : Act → World → Prop} {r : Result Next} (h : o.uponIn F n P a next (popQ F n P ops m Q) r) : o.uponIn F n P a next Q r := by
  cases r with
  | ok x w' => cases x <;> exact h
  | halt x w' => cases x <;> exact h
theorem any_pop {F : Fence} {n : Nat} {P : Program} {ops : Array Oper} {m : Nat} (hs : ops.size = m + 1) (hl : lastOk ops = true) (hg : guardsIn ops.pop = true) {Q : Exit → Act → World → Prop} :
    ∀ (fuel : Nat) (la listed : Array Bool) (a : Act) (w : World), la.size = m → listed.size = m + 1 → (∀ i, i < m → listed.getD i true = la.getD i true) → listed.getD m true = false →
      (∀ j (hj : j < m), la.getD j true = true → ∀ e ∈ (ops[j]).after, Region.binds .any e = true → la.getD e.on true = true) →
      wpAnyIn F n P .any ops.pop (popQ F n P ops m Q) fuel la a w → wpAnyIn F n P .any ops Q (fuel + 1) listed a w := by
  simp only [lastOk, Bool.and_eq_true] at hl
  obtain ⟨⟨hmask, hed⟩, hlast⟩ := hl
  have hdown : ∀ j (hj : j < ops.size), ∀ e ∈ (ops[j]).after, Region.binds .any e = true → e.on < j := fun j hj e he hb => by
    unfold edgesDown at hed
    have h3 := List.all_eq_true.1 hed j (List.mem_range.2 hj)
    simp only [Array.getElem?_eq_getElem hj] at h3
    have := Array.all_eq_true'.1 h3 e he
    simp only [hb, Bool.not_true, Bool.false_or, decide_eq_true_eq] at this
    exact this
  have hmk : ∀ j (hj : j < ops.size) i, i < ops.size → ((Region.before ops).getD j 0).testBit i = true → ∃ e ∈ (ops[j]).after, Region.binds .any e = true ∧ e.on < j ∧ (e.on = i ∨ ((Region.before ops).getD e.on 0).testBit i = true) := fun j hj i hi hb => by
    have := List.all_eq_true.1 hmask j (by simpa using hj)
    simp only [hj, Array.getElem?_eq_getElem] at this
    have := List.all_eq_true.1 this i (by simpa using hi)
    simp only [hb, Bool.not_true, Bool.false_or] at this
    obtain ⟨q, hq, hqq⟩ := Array.any_eq_true.1 this
    simp only [Bool.and_eq_true, decide_eq_true_eq, Bool.or_eq_true, beq_iff_eq] at hqq
    exact ⟨(ops[j]).after[q], Array.getElem_mem hq, hqq.1.1, hqq.1.2, hqq.2⟩
  have hpop : ∀ i, i < m → ops.pop[i]? = ops[i]? := fun i hi => by
    rw [Array.getElem?_pop, if_pos (by omega)]
  have hpm : ops.pop[m]? = none := by rw [Array.getElem?_eq_none (by simp [hs])]
  have hyl : ∀ (tm : Array Value) s, s < m → yielded ops.pop tm s = yielded ops tm s := fun tm s hs' => by unfold yielded; rw [hpop s hs']
  have hw : ∀ i o, i < m → ops[i]? = some o → ∀ tm, Region.wanted o (yielded ops.pop tm) = Region.wanted o (yielded ops tm) := fun i o hi ho tm => by
    have hmem : o ∈ ops.pop := by
      have := hpop i hi; rw [ho] at this; exact Array.mem_of_getElem? this
    have := Array.all_eq_true'.1 hg o hmem
    unfold Region.wanted
    cases hgd : o.guard with
    | none => rfl
    | some st =>
      obtain ⟨s, t⟩ := st
      rw [hgd] at this
      have hsm : s < m := by simpa [hs] using this
      simp only [hyl tm s hsm]
  have hfin : ∀ i, i < m → ∀ j (hj : j < ops.size), ∀ listed : Array Bool, listed.size = m + 1 → (∀ q (hq : q < m), listed.getD q true = true → ∀ e ∈ (ops[q]'(by omega)).after, Region.binds .any e = true → listed.getD e.on true = true) →
      (∀ e ∈ (ops[j]).after, Region.binds .any e = true → listed.getD e.on true = true) → ((Region.before ops).getD j 0).testBit i = true → listed.getD i true = true := by
    intro i hi j
    induction j using Nat.strongRecOn with
    | _ j ih =>
      intro hj listed hls hcl hd hb
      obtain ⟨e, he, hbe, hlt, hor⟩ := hmk j hj i (by omega) hb
      have h1 := hd e he hbe
      rcases hor with rfl | hor
      · exact h1
      · exact ih e.on hlt (by omega) listed hls hcl (fun e' he' hb' => hcl e.on (by omega) h1 e' he' hb') hor
  have allOf : ∀ la : Array Bool, la.size = m → Region.ready .any ops.pop la = [] → ∀ i, i < m → la.getD i true = true := by
    intro la hla h0 i
    induction i using Nat.strongRecOn with
    | _ i ih =>
      intro hi
      cases hl : la.getD i true with
      | true => rfl
      | false =>
        exfalso
        have : i ∈ Region.ready .any ops.pop la := mem_ready.2 ⟨hl, ops[i]'(by omega), by rw [hpop i hi, Array.getElem?_eq_getElem], fun e he hb => by
          have hdn := hdown i (by omega) e he hb
          rw [← getD_true_false (by omega)]; exact ih e.on hdn (by omega)⟩
        rw [h0] at this; cases this
  have rdyM : ∀ listed : Array Bool, listed.size = m + 1 → listed.getD m true = false → (∀ i, i < m → listed.getD i true = true) → m ∈ Region.ready .any ops listed := fun listed hls hm ha =>
    mem_ready.2 ⟨hm, ops[m]'(by omega), by rw [Array.getElem?_eq_getElem], fun e he hb => by
      have hdn := hdown m (by omega) e he hb
      rw [← getD_true_false (by omega)]; exact ha e.on hdn⟩
  have noLeft : ∀ listed : Array Bool, listed.size = m + 1 → (∀ i, i < m + 1 → listed.getD i true = true) → Region.ready .any ops listed = [] := fun listed hls ha => by
    cases hr : Region.ready .any ops listed with
    | nil => rfl
    | cons i r =>
      have hi : i ∈ Region.ready .any ops listed := by rw [hr]; simp
      obtain ⟨h1, o, ho, _⟩ := mem_ready.1 hi
      have := ha i (by have := (Array.getElem?_eq_some_iff.1 ho).1; omega)
      rw [h1] at this; cases this
  have setM : ∀ listed : Array Bool, listed.size = m + 1 → (∀ i, i < m → listed.getD i true = true) → ∀ i, i < m + 1 → (listed.setIfInBounds m true).getD i true = true := fun listed hls ha i hi => by
    by_cases e : i = m
    · subst e; simp [Array.getD, hls]
    · have : (listed.setIfInBounds m true).getD i true = listed.getD i true := by
        simp only [Array.getD_eq_getD_getElem?, Array.getElem?_setIfInBounds_ne (Ne.symm e)]
      rw [this]; exact ha i (by omega)
  intro fuel
  induction fuel with
  | zero =>
    intro la listed a w hla hli hag hm hcl H
    have hall := allOf la hla H.1
    have hall2 : ∀ i, i < m → listed.getD i true = true := fun i hi => by rw [hag i hi]; exact hall i hi
    refine ⟨fun h0 => ?_, fun i hi => ?_⟩
    · have := rdyM listed hli hm hall2; rw [h0] at this; cases this
    · obtain ⟨h1, o, ho, _⟩ := mem_ready.1 hi
      have hio := (Array.getElem?_eq_some_iff.1 ho).1
      have him : i = m := by
        refine Classical.byContradiction fun e => ?_
        rw [hall2 i (by omega)] at h1; cases h1
      subst him
      refine wpOpIn_mono (fun a w q => ?_) (show wpOpIn F n P ops Q i (fun a w => Q .normal a w) a w from H.2)
      exact ⟨noLeft _ (by simp [hli]) (setM listed hli hall2), q⟩
  | succ fuel ih =>
    intro la listed a w hla hli hag hm hcl H
    refine ⟨fun h0 => ?_, fun i hi => ?_⟩
    · exfalso
      cases hr : Region.ready .any ops.pop la with
      | nil =>
        have hall := allOf la hla hr
        have := rdyM listed hli hm (fun i hi => by rw [hag i hi]; exact hall i hi); rw [h0] at this; cases this
      | cons i r =>
        have hi : i ∈ Region.ready .any ops.pop la := by rw [hr]; simp
        obtain ⟨h1, o, ho, hd⟩ := mem_ready.1 hi
        have him : i < m := by
          rcases Nat.lt_or_ge i m with q | q
          · exact q
          · rw [Array.getElem?_eq_none (by simp [hs]; omega)] at ho; cases ho
        have : i ∈ Region.ready .any ops listed := mem_ready.2 ⟨by rw [hag i him]; exact h1, o, by rw [← hpop i him]; exact ho, fun e he hb => by
          have hoe : ops[i]'(by omega) = o := by
            have := hpop i him; rw [ho, Array.getElem?_eq_getElem (by omega)] at this; exact (Option.some.inj this).symm
          have hdn := hdown i (by omega) e (by rw [hoe]; exact he) hb
          have := hd e he hb
          rw [← getD_true_false (by omega)] at this ⊢
          rw [hag e.on (by omega)]; exact this⟩
        rw [h0] at this; cases this
    · obtain ⟨h1, o, ho, hd⟩ := mem_ready.1 hi
      obtain ⟨hio, hoe⟩ := Array.getElem?_eq_some_iff.1 ho
      by_cases him : i = m
      · subst him
        have hclL : ∀ q (hq : q < i), listed.getD q true = true → ∀ e ∈ (ops[q]'(by omega)).after, Region.binds .any e = true → listed.getD e.on true = true := fun q hq hlq e he hb => by
          have hdn := hdown q (by omega) e he hb
          rw [hag e.on (by omega)]
          exact hcl q hq (by rw [← hag q hq]; exact hlq) e he hb
        have hall2 : ∀ q, q < i → listed.getD q true = true := fun q hq => hfin q hq i (by omega) listed hli hclL (fun e he hb => by
          have hdn := hdown i (by omega) e he hb
          have := hd e (by rw [← hoe]; exact he) hb
          rw [getD_true_false (by omega)]; exact this) (List.all_eq_true.1 hlast q (List.mem_range.2 (by omega)) |> fun h => by rw [show ops.size - 1 = i by omega] at h; exact h)
        have hr : Region.ready .any ops.pop la = [] := by
          cases hr : Region.ready .any ops.pop la with
          | nil => rfl
          | cons q r =>
            have hq : q ∈ Region.ready .any ops.pop la := by rw [hr]; simp
            obtain ⟨h3, o', ho', _⟩ := mem_ready.1 hq
            have hqm : q < i := by
              rcases Nat.lt_or_ge q i with z | z
              · exact z
              · rw [Array.getElem?_eq_none (by simp [hs]; omega)] at ho'; cases ho'
            rw [← hag q hqm, hall2 q hqm] at h3; cases h3
        refine wpOpIn_mono (fun a w q => ?_) (show wpOpIn F n P ops Q i (fun a w => Q .normal a w) a w from H.1 hr)
        have hz := noLeft (listed.setIfInBounds i true) (by simp [hli]) (setM listed hli hall2)
        exact ⟨fun _ => q, fun j hj => by rw [hz] at hj; cases hj⟩
      · have hlt : i < m := by omega
        have hop := hpop i hlt
        have hr : i ∈ Region.ready .any ops.pop la := mem_ready.2 ⟨by rw [← hag i hlt]; exact h1, o, by rw [hop]; exact ho, fun e he hb => by
          have hdn := hdown i hio e (by rw [hoe]; exact he) hb
          have := hd e he hb
          rw [← getD_true_false (by omega)] at this ⊢
          rw [← hag e.on (by omega)]; exact this⟩
        have H2 := H.2 i hr
        have hnext : ∀ a w, wpAnyIn F n P .any ops.pop (popQ F n P ops m Q) fuel (la.setIfInBounds i true) a w → wpAnyIn F n P .any ops Q (fuel + 1) (listed.setIfInBounds i true) a w := fun a w q => by
          refine ih (la.setIfInBounds i true) (listed.setIfInBounds i true) a w (by simp [hla]) (by simp [hli]) (fun k hk => ?_) ?_ (fun j hj hlj e he hb => ?_) q
          · by_cases e : k = i
            · subst e; simp [Array.getD, hla, hli, hk, Nat.lt_succ_of_lt hk]
            · simp only [Array.getD_eq_getD_getElem?, Array.getElem?_setIfInBounds_ne (Ne.symm e)]
              have := hag k hk
              simpa only [Array.getD_eq_getD_getElem?] using this
          · have : (listed.setIfInBounds i true).getD m true = listed.getD m true := by
              simp only [Array.getD_eq_getD_getElem?, Array.getElem?_setIfInBounds_ne him]
            rw [this]; exact hm
          · have hdn := hdown j (by omega) e he hb
            have hsame : ∀ k, k ≠ i → (la.setIfInBounds i true).getD k true = la.getD k true := fun k hk => by
              simp only [Array.getD_eq_getD_getElem?, Array.getElem?_setIfInBounds_ne (Ne.symm hk)]
            by_cases ei : e.on = i
            · rw [ei]; simp [Array.getD, hla, hlt]
            · rw [hsame _ ei]
              by_cases ej : j = i
              · subst ej
                have := hd e (by rw [← hoe]; exact he) hb
                rw [← getD_true_false (by omega), hag e.on (by omega)] at this
                exact this
              · rw [hsame j ej] at hlj
                exact hcl j hj hlj e he hb
        unfold wpOpIn at H2 ⊢
        simp only [hop, ho] at H2 ⊢
        rw [hw i o hlt ho] at H2
        split at H2
        · rename_i hwt
          rw [if_pos hwt]
          exact ⟨H2.1, uponIn_popQ (Oper.wpIn_mono hnext H2).2⟩
        · rename_i hwt
          rw [if_neg hwt]
          exact ⟨H2.1, hnext _ _ H2.2⟩
theorem keepE_rel {g : Gh} {w : World} {h : AH} {env : Env} {a : Act} (l : List Nat) (R : EnvRel X g w h env a) : EnvRel X g w h (keepE l env) a := fun n => by
  have : get (keepE l env) n = get env n ∨ get (keepE l env) n = .undef := by
    induction l with
    | nil => exact .inr rfl
    | cons i l ih =>
      simp only [keepE, List.map_cons, get]
      by_cases e : n = i
      · rw [if_pos e, e]; exact .inl rfl
      · rw [if_neg e]; exact ih
  rcases this with e | e
  · rw [e]; exact R n
  · rw [e]; exact .undef _

theorem strip_draw {E : Sig} {ks : List (DK × AOper)} : ∀ (A : AC), A.strip = .draw ks → ∃ f f' : Env → Env, (∀ (X : Cx) g w h env a, EnvRel X g w h env a → EnvRel X g w h (f env) a) ∧ (∀ (X : Cx) g w h env a, EnvRel X g w h env a → EnvRel X g w h (f' env) a) ∧
    ∀ env h Q, awp E A env h Q → awpD E ks (f env) h [] [] (fun e h => Q .nrm (f' e) h)
  | .draw l, e => by
    simp only [AC.strip, AC.draw.injEq] at e; subst e
    exact ⟨id, id, fun _ _ _ _ _ _ r => r, fun _ _ _ _ _ _ r => r, fun env h Q hk => hk⟩
  | .keep l A, e => by
    obtain ⟨f, f', h1, h2, h3⟩ := strip_draw A (by simpa only [AC.strip] using e)
    exact ⟨fun env => f (keepE l env), f', fun X g w h env a r => h1 X g w h _ a (keepE_rel l r), h2, fun env h Q hk => h3 _ h Q hk⟩
  | .post A l, e => by
    obtain ⟨f, f', h1, h2, h3⟩ := strip_draw A (by simpa only [AC.strip] using e)
    exact ⟨f, fun env => keepE l (f' env), h1, fun X g w h env a r => keepE_rel l (h2 X g w h env a r), fun env h Q hk => h3 _ h _ hk⟩
  | .skip, e | .ret, e | .exit _, e | .seq _ _, e | .cond _ _ _, e | .block _ _, e | .loop _, e | .scope _, e | .reg _, e | .drawP _, e => by simp [AC.strip] at e
theorem strip_reg {E : Sig} {l0 : List AOper} : ∀ (A : AC), A.strip = .reg l0 → ∃ f f' : Env → Env, (∀ (X : Cx) g w h env a, EnvRel X g w h env a → EnvRel X g w h (f env) a) ∧ (∀ (X : Cx) g w h env a, EnvRel X g w h env a → EnvRel X g w h (f' env) a) ∧
    ∀ env h Q, awp E A env h Q → awpOps E l0 (f env) h (fun e h => Q .nrm (f' e) h)
  | .reg l, e => by
    simp only [AC.strip, AC.reg.injEq] at e; subst e
    exact ⟨id, id, fun _ _ _ _ _ _ r => r, fun _ _ _ _ _ _ r => r, fun env h Q hk => hk⟩
  | .keep l A, e => by
    obtain ⟨f, f', h1, h2, h3⟩ := strip_reg A (by simpa only [AC.strip] using e)
    exact ⟨fun env => f (keepE l env), f', fun X g w h env a r => h1 X g w h _ a (keepE_rel l r), h2, fun env h Q hk => h3 _ h Q hk⟩
  | .post A l, e => by
    obtain ⟨f, f', h1, h2, h3⟩ := strip_reg A (by simpa only [AC.strip] using e)
    exact ⟨f, fun env => keepE l (f' env), h1, fun X g w h env a r => keepE_rel l (h2 X g w h env a r), fun env h Q hk => h3 _ h _ hk⟩
  | .skip, e | .ret, e | .exit _, e | .seq _ _, e | .cond _ _ _, e | .block _ _, e | .loop _, e | .scope _, e | .draw _, e | .drawP _, e => by simp [AC.strip] at e
theorem comp_inv {P : Program} {N : Nat} {A : AC} {c : Code} (h : comp P Y N c = some A) :
    (A = .skip ∧ (c = .skip ∨ ∃ l, c = .label l)) ∨ (A = .ret ∧ c = .ret) ∨ (∃ n, A = .exit n ∧ c = .exit n) ∨
    (∃ x y a b, A = .seq x y ∧ c = .seq a b ∧ comp P Y N a = some x ∧ comp P Y N b = some y) ∨
    (∃ z x y k a b, A = .cond z x y ∧ c = .cond k a b ∧ co Y k = some z ∧ comp P Y N a = some x ∧ comp P Y N b = some y) ∨
    (∃ n x a, A = .block n x ∧ c = .block n a ∧ comp P Y N a = some x) ∨ (∃ x a, A = .loop x ∧ c = .loop a ∧ comp P Y N a = some x) ∨
    (∃ x a, A = .scope x ∧ c = .scope a ∧ comp P Y N a = some x) ∨
    (∃ l id ops, A = .reg l ∧ c = .region id ops false ∧ compOpers P Y N ops ops.toList = some l) ∨
    (∃ l id ops, A = .draw (kinds Y ops l) ∧ c = .region id ops true ∧ compOpers P Y N ops ops.toList = some l ∧ drawOk Y ops (kinds Y ops l) = true ∧ edgesDown ops = true) ∨
    (∃ l id ops, A = .drawP (kinds Y ops l) ∧ c = .region id ops true ∧ compOpers P Y N ops ops.toList = some l ∧ drawOk Y ops (kinds Y ops l) = true ∧ edgesDown ops = true ∧ ∃ a ∈ l, isPan a.op = true ∧ a.gd = none) ∨
    (∃ l1 z id ops, A = .seq (.draw (kinds Y ops.pop l1)) (.reg [z]) ∧ c = .region id ops true ∧ (∃ l, compOpers P Y N ops ops.toList = some l ∧ l.getLast? = some z) ∧ compOpers P Y N ops.pop ops.pop.toList = some l1 ∧
      lastOk ops = true ∧ guardsIn ops.pop = true ∧ drawOk Y ops.pop (kinds Y ops.pop l1) = true ∧ edgesDown ops.pop = true) := by
  cases c with
  | skip => simp [comp] at h; subst h; simp
  | label l => simp [comp] at h; subst h; simp
  | ret => simp [comp] at h; subst h; simp
  | exit n => simp [comp] at h; subst h; simp
  | seq a b =>
    simp only [comp] at h
    split at h
    · rename_i x y h1 h2; simp at h; subst h; right; right; right; left; exact ⟨x, y, a, b, rfl, rfl, h1, h2⟩
    · simp at h
  | cond k a b =>
    simp only [comp] at h
    split at h
    · rename_i z x y h1 h2 h3; simp at h; subst h; right; right; right; right; left; exact ⟨z, x, y, k, a, b, rfl, rfl, h1, h2, h3⟩
    · simp at h
  | block n a =>
    simp only [comp] at h
    split at h
    · rename_i x h1; simp at h; subst h; right; right; right; right; right; left; exact ⟨n, x, a, rfl, rfl, h1⟩
    · simp at h
  | loop a =>
    simp only [comp] at h
    split at h
    · rename_i x h1; simp at h; subst h; right; right; right; right; right; right; left; exact ⟨x, a, rfl, rfl, h1⟩
    · simp at h
  | scope a =>
    simp only [comp] at h
    split at h
    · rename_i x h1; simp at h; subst h; right; right; right; right; right; right; right; left; exact ⟨x, a, rfl, rfl, h1⟩
    · simp at h
  | region id ops d =>
    simp only [comp] at h
    split at h
    · rename_i l h1
      cases d with
      | false => simp at h; subst h; right; right; right; right; right; right; right; right; left; exact ⟨l, id, ops, rfl, rfl, h1⟩
      | true =>
        simp only at h
        split at h
        · rename_i A' hA
          simp only [Option.some.injEq] at h; subst h
          unfold compLast at hA
          split at hA
          · rename_i z hz
            split at hA
            · rename_i hh
              simp only [Bool.and_eq_true] at hh
              split at hA
              · rename_i l1 hl1
                split at hA
                · rename_i hd
                  simp only [Bool.and_eq_true] at hd
                  simp only [Option.some.injEq] at hA; subst hA
                  right; right; right; right; right; right; right; right; right; right; right
                  exact ⟨l1, z, id, ops, rfl, rfl, ⟨l, h1, hz⟩, hl1, hh.1.2, hh.2, hd.1, hd.2⟩
                · simp at hA
              · simp at hA
            · simp at hA
          · simp at hA
        split at h
        · rename_i hh
          simp only [Bool.and_eq_true] at hh
          simp only [Option.some.injEq] at h; subst h
          by_cases hany : (l.any fun a => isPan a.op && a.gd.isNone) = true
          · rw [if_pos hany]
            right; right; right; right; right; right; right; right; right; right; left
            obtain ⟨a, ha, hb⟩ := List.any_eq_true.1 hany
            simp only [Bool.and_eq_true, Option.isNone_iff_eq_none] at hb
            exact ⟨l, id, ops, rfl, rfl, h1, hh.1, hh.2, a, ha, hb.1, hb.2⟩
          · rw [if_neg hany]
            right; right; right; right; right; right; right; right; right; left
            exact ⟨l, id, ops, rfl, rfl, h1, hh.1, hh.2⟩
        · simp at h
    · simp at h
  | _ => simp [comp] at h

theorem code_sound {ro : Option Nat} {ds : List Deferred} (hm : X.P.follows .mixedOrders = true) (hY : X.tbl = Y.tbl) {N : Nat} : ∀ (A : AC) (c : Code), comp X.P Y N c = some A.strip →
    ∀ {g : Gh} {w : World} {h : AH} {env : Env} {a : Act} {Q : Ex → Env → AH → Prop} {Qc : Exit → Act → World → Prop}, Hold X N ds g w h env a → awp (Ecx X) A env h Q →
    (∀ e env' h' g' w' a', Q e env' h' → Hold X N ds g' w' h' env' a' → Stp g w h g' w' h' → Qc (exOf e) a' w') →
    (∀ p w' a', PanOk X g w h p w' → a'.defers = ds → Qc (.panic [{ v := p, recovered := false }]) a' w') → c.wpIn (FR ro) 0 X.P Qc a w
  | .skip, c, hc, g, w, h, env, a, Q, Qc, H, hk, hq, hp => by
    simp only [AC.strip] at hc
    rcases comp_inv hc with ⟨_, rfl | ⟨l, rfl⟩⟩ | ⟨h1, _⟩ | ⟨_, h1, _⟩ | ⟨_, _, _, _, h1, _⟩ | ⟨_, _, _, _, _, _, h1, _⟩ | ⟨_, _, _, h1, _⟩ | ⟨_, _, h1, _⟩ | ⟨_, _, h1, _⟩ | ⟨_, _, _, h1, _⟩ | ⟨_, _, _, h1, _⟩ | ⟨_, _, _, h1, _⟩ | ⟨_, _, _, _, h1, _⟩ <;> first | cases h1 | skip
    · exact wpIn_skip (hq .nrm env h g w a hk H (Stp.refl _ _ _))
    · exact wpIn_label (hq .nrm env h g w a hk H (Stp.refl _ _ _))
  | .ret, c, hc, g, w, h, env, a, Q, Qc, H, hk, hq, hp => by
    simp only [AC.strip] at hc
    rcases comp_inv hc with ⟨h1, _⟩ | ⟨_, rfl⟩ | ⟨_, h1, _⟩ | ⟨_, _, _, _, h1, _⟩ | ⟨_, _, _, _, _, _, h1, _⟩ | ⟨_, _, _, h1, _⟩ | ⟨_, _, h1, _⟩ | ⟨_, _, h1, _⟩ | ⟨_, _, _, h1, _⟩ | ⟨_, _, _, h1, _⟩ | ⟨_, _, _, h1, _⟩ | ⟨_, _, _, _, h1, _⟩ <;> first | cases h1 | skip
    exact wpIn_ret (hq .ret env h g w a hk H (Stp.refl _ _ _))
  | .exit n, c, hc, g, w, h, env, a, Q, Qc, H, hk, hq, hp => by
    simp only [AC.strip] at hc
    rcases comp_inv hc with ⟨h1, _⟩ | ⟨h1, _⟩ | ⟨_, h1, rfl⟩ | ⟨_, _, _, _, h1, _⟩ | ⟨_, _, _, _, _, _, h1, _⟩ | ⟨_, _, _, h1, _⟩ | ⟨_, _, h1, _⟩ | ⟨_, _, h1, _⟩ | ⟨_, _, _, h1, _⟩ | ⟨_, _, _, h1, _⟩ | ⟨_, _, _, h1, _⟩ | ⟨_, _, _, _, h1, _⟩ <;> cases h1
    exact wpIn_exit (hq (.exit n) env h g w a hk H (Stp.refl _ _ _))
  | .seq A B, c, hc, g, w, h, env, a, Q, Qc, H, hk, hq, hp => by
    simp only [AC.strip] at hc
    rcases comp_inv hc with ⟨h1, _⟩ | ⟨h1, _⟩ | ⟨_, h1, _⟩ | ⟨x, y, a1, b1, h1, rfl, hx, hy⟩ | ⟨_, _, _, _, _, _, h1, _⟩ | ⟨_, _, _, h1, _⟩ | ⟨_, _, h1, _⟩ | ⟨_, _, h1, _⟩ | ⟨_, _, _, h1, _⟩ | ⟨_, _, _, h1, _⟩ | ⟨_, _, _, h1, _⟩ | ⟨l1, z, id, ops, h1, rfl, ⟨l, hx1, hx2⟩, hx, d1, d2, d3, d4⟩ <;> first | (cases h1; done) | skip
    rotate_left
    · injection h1 with e1 e2
      obtain ⟨f, f', p1, p2, p3⟩ := strip_draw (E := Ecx X) A e1
      obtain ⟨k, k', r1, r2, r3⟩ := strip_reg (E := Ecx X) B e2
      have hk1 := p3 env h _ hk
      simp only at hk1
      obtain ⟨hl, hget⟩ := compOpers_get hx1
      have hsz : l.length = ops.size := by simpa using hl
      have hlne : l.length ≠ 0 := fun e => by rw [List.length_eq_zero_iff.1 e] at hx2; simp at hx2
      obtain ⟨m, hm1⟩ : ∃ m, ops.size = m + 1 := ⟨ops.size - 1, by omega⟩
      have hz : l[m]'(by omega) = z := by
        rw [List.getLast?_eq_getElem?, show l.length - 1 = m by omega, List.getElem?_eq_getElem (by omega)] at hx2
        exact Option.some.inj hx2
      have hcomp : compOper X.P Y N ops (ops[m]'(by omega)) = some z := by
        have := hget m (by first | omega | (simp; omega)) (by first | omega | (simp; omega))
        rw [hz] at this; simpa using this
      obtain ⟨c1, c2, c3⟩ := compOper_op hcomp
      have hps : ops.pop.size = m := by simp [hm1]
      have hrep : ∀ n i, i < n → (Array.replicate n false).getD i true = false := fun n i hi => by simp [Array.getD, hi]
      refine wpIn_region_any hm ?_
      rw [hm1]
      refine any_pop hm1 d1 d2 m (Array.replicate m false) (Array.replicate (m + 1) false) a _ (by simp) (by simp) (fun i hi => by rw [hrep _ i (by omega), hrep _ i hi]) (hrep _ m (by omega)) (fun j hj hlj => by rw [hrep _ j hj] at hlj; cases hlj) ?_
      have D := draw_any (ro := ro) (ds := ds) hY hx d3 d4 (g := g) (w := w) (h := h) (env := f env) (a := a) (Qc := popQ (FR ro) 0 X.P ops m Qc) ⟨p1 X g w h env a H.env, H.inv, H.size, H.defers⟩ hk1 (fun _ env' h' g' w' a' q H' S' => ?_) hp
      · rw [hps] at D; exact D
      · have q2 := r3 _ _ _ q
        show wpOpIn (FR ro) 0 X.P ops Qc m (fun a w => Qc .normal a w) a' w'
        unfold wpOpIn
        simp only [Array.getElem?_eq_getElem (show m < ops.size by omega)]
        simp only [awpOps] at q2
        have He : EnvRel X g' w' h' (k (f' env')) a' := r1 X g' w' h' _ a' (p2 X g' w' h' _ a' H'.env)
        rcases guard_spec hcomp (fun s _ _ => He s) q2 with ⟨hk2, hw⟩ | ⟨hk2, hw⟩
        · rw [if_pos hw]
          refine op_sound hY c1 (fun _ => rfl) (fun x _ y hy => co_rel hY He hy) H'.inv hk2 (fun v h2 x g2 w2 q3 I2 rr S2 => ?_) (fun p w2 zz => hp p w2 a' (zz.trans S') H'.defers)
          refine hq .nrm _ h2 g2 w2 _ q3 ⟨?_, I2, by rw [put_size]; exact H'.size, by rw [put_defers']; exact H'.defers⟩ (S'.trans S2)
          refine r2 X g2 w2 h2 _ _ ?_
          rw [c2]; exact (He.stp S2).put H'.size c3 rr
        · rw [if_neg (by simp [hw])]
          refine ⟨fun _ _ => trivial, ?_⟩
          refine hq .nrm _ h' g' w' _ hk2 ⟨?_, H'.inv, by rw [put_size]; exact H'.size, by rw [put_defers']; exact H'.defers⟩ S'
          refine r2 X g' w' h' _ _ ?_
          rw [c2]; exact He.put H'.size c3 (.tup [] #[] rfl (by simp))
    cases h1
    refine wpIn_seq (code_sound hm hY A a1 hx H hk (fun e env' h' g' w' a' q H' S => ?_) hp)
    cases e with
    | nrm => exact code_sound hm hY B b1 hy H' q (fun e env'' h'' g'' w'' a'' q' H'' S' => hq e env'' h'' g'' w'' a'' q' H'' (S.trans S')) (fun p w' a' z => hp p w' a' (z.trans S))
    | ret => exact hq .ret env' h' g' w' a' q H' S
    | exit n => exact hq (.exit n) env' h' g' w' a' q H' S
  | .cond z A B, c, hc, g, w, h, env, a, Q, Qc, H, hk, hq, hp => by
    simp only [AC.strip] at hc
    rcases comp_inv hc with ⟨h1, _⟩ | ⟨h1, _⟩ | ⟨_, h1, _⟩ | ⟨_, _, _, _, h1, _⟩ | ⟨z', x, y, k, a1, b1, h1, rfl, hz, hx, hy⟩ | ⟨_, _, _, h1, _⟩ | ⟨_, _, h1, _⟩ | ⟨_, _, h1, _⟩ | ⟨_, _, _, h1, _⟩ | ⟨_, _, _, h1, _⟩ | ⟨_, _, _, h1, _⟩ | ⟨_, _, _, _, h1, _⟩ <;> cases h1
    simp only [awp] at hk
    have r := co_rel hY H.env hz
    generalize hv : ev env z = v at r hk
    generalize hu : a.eval k = u at r
    cases r <;> first | exact hk.elim | skip
    rename_i b
    exact wpIn_cond_split hu (fun hb => code_sound hm hY A a1 hx H (hk.1 hb) hq hp) (fun hb => code_sound hm hY B b1 hy H (hk.2 hb) hq hp)
  | .block n A, c, hc, g, w, h, env, a, Q, Qc, H, hk, hq, hp => by
    simp only [AC.strip] at hc
    rcases comp_inv hc with ⟨h1, _⟩ | ⟨h1, _⟩ | ⟨_, h1, _⟩ | ⟨_, _, _, _, h1, _⟩ | ⟨_, _, _, _, _, _, h1, _⟩ | ⟨n', x, a1, h1, rfl, hx⟩ | ⟨_, _, h1, _⟩ | ⟨_, _, h1, _⟩ | ⟨_, _, _, h1, _⟩ | ⟨_, _, _, h1, _⟩ | ⟨_, _, _, h1, _⟩ | ⟨_, _, _, _, h1, _⟩ <;> cases h1
    refine wpIn_block (code_sound hm hY A a1 hx H hk (fun e env' h' g' w' a' q H' S => ?_) hp)
    cases e with
    | nrm => exact hq .nrm env' h' g' w' a' q H' S
    | ret => exact hq .ret env' h' g' w' a' q H' S
    | exit m =>
      simp only [exOf, Exit.inBlock]
      simp only at q
      by_cases e : m = n
      · rw [if_pos e] at q ⊢; exact hq .nrm env' h' g' w' a' q H' S
      · rw [if_neg e] at q ⊢; exact hq (.exit m) env' h' g' w' a' q H' S
  | .loop A, c, hc, g, w, h, env, a, Q, Qc, H, hk, hq, hp => by
    simp only [AC.strip] at hc
    rcases comp_inv hc with ⟨h1, _⟩ | ⟨h1, _⟩ | ⟨_, h1, _⟩ | ⟨_, _, _, _, h1, _⟩ | ⟨_, _, _, _, _, _, h1, _⟩ | ⟨_, _, _, h1, _⟩ | ⟨x, a1, h1, rfl, hx⟩ | ⟨_, _, h1, _⟩ | ⟨_, _, _, h1, _⟩ | ⟨_, _, _, h1, _⟩ | ⟨_, _, _, h1, _⟩ | ⟨_, _, _, _, h1, _⟩ <;> cases h1
    obtain ⟨n, hk⟩ := hk
    refine wpIn_loop_rounds n ?_
    have key : ∀ n g' w' h' env' a', iter (awp (Ecx X) A) n env' h' Q → Hold X N ds g' w' h' env' a' → Stp g w h g' w' h' → Code.roundsIn (FR ro) 0 X.P a1 Qc n a' w' := by
      intro n
      induction n with
      | zero => intro _ _ _ _ _ hk; exact hk.elim
      | succ n ih =>
        intro g' w' h' env' a' hk H' S
        rw [roundsIn_succ]
        refine code_sound hm hY A a1 hx H' hk (fun e env'' h'' g'' w'' a'' q H'' S' => ?_) (fun p w' a' z => hp p w' a' (z.trans S))
        cases e with
        | nrm => exact ih g'' w'' h'' env'' a'' q H'' (S.trans S')
        | ret => exact hq .ret env'' h'' g'' w'' a'' q H'' (S.trans S')
        | exit m => exact hq (.exit m) env'' h'' g'' w'' a'' q H'' (S.trans S')
    exact key n g w h env a hk H (Stp.refl _ _ _)
  | .scope A, c, hc, g, w, h, env, a, Q, Qc, H, hk, hq, hp => by
    simp only [AC.strip] at hc
    rcases comp_inv hc with ⟨h1, _⟩ | ⟨h1, _⟩ | ⟨_, h1, _⟩ | ⟨_, _, _, _, h1, _⟩ | ⟨_, _, _, _, _, _, h1, _⟩ | ⟨_, _, _, h1, _⟩ | ⟨_, _, h1, _⟩ | ⟨x, a1, h1, rfl, hx⟩ | ⟨_, _, _, h1, _⟩ | ⟨_, _, _, h1, _⟩ | ⟨_, _, _, h1, _⟩ | ⟨_, _, _, _, h1, _⟩ <;> cases h1
    refine wpIn_scope_straight (code_sound hm hY A a1 hx H hk (fun e env' h' g' w' a' q H' S => ?_) hp)
    cases e with
    | nrm => exact hq .nrm env' h' g' w' a' q H' S
    | ret => exact hq .ret env' h' g' w' a' q H' S
    | exit m => exact hq (.exit m) env' h' g' w' a' q H' S
  | .reg l, c, hc, g, w, h, env, a, Q, Qc, H, hk, hq, hp => by
    simp only [AC.strip] at hc
    rcases comp_inv hc with ⟨h1, _⟩ | ⟨h1, _⟩ | ⟨_, h1, _⟩ | ⟨_, _, _, _, h1, _⟩ | ⟨_, _, _, _, _, _, h1, _⟩ | ⟨_, _, _, h1, _⟩ | ⟨_, _, h1, _⟩ | ⟨_, _, h1, _⟩ | ⟨l', id, ops, h1, rfl, hx⟩ | ⟨_, _, _, h1, _⟩ | ⟨_, _, _, h1, _⟩ | ⟨_, _, _, _, h1, _⟩ <;> cases h1
    exact wpIn_region_list (opers_sound hY ops.toList l hx H hk (fun env' h' g' w' a' q H' S => hq .nrm env' h' g' w' a' q H' S) hp)
  | .draw l, c, hc, g, w, h, env, a, Q, Qc, H, hk, hq, hp => by
    simp only [AC.strip] at hc
    rcases comp_inv hc with ⟨h1, _⟩ | ⟨h1, _⟩ | ⟨_, h1, _⟩ | ⟨_, _, _, _, h1, _⟩ | ⟨_, _, _, _, _, _, h1, _⟩ | ⟨_, _, _, h1, _⟩ | ⟨_, _, h1, _⟩ | ⟨_, _, h1, _⟩ | ⟨_, _, _, h1, _⟩ | ⟨l', id, ops, h1, rfl, hx, d1, d2⟩ | ⟨_, _, _, h1, _⟩ | ⟨_, _, _, _, h1, _⟩ <;> cases h1
    exact draw_sound hm hY hx d1 d2 H hk (fun _ env' h' g' w' a' q H' S => hq .nrm env' h' g' w' a' q H' S) hp
  | .drawP l, c, hc, g, w, h, env, a, Q, Qc, H, hk, hq, hp => by
    simp only [AC.strip] at hc
    rcases comp_inv hc with ⟨h1, _⟩ | ⟨h1, _⟩ | ⟨_, h1, _⟩ | ⟨_, _, _, _, h1, _⟩ | ⟨_, _, _, _, _, _, h1, _⟩ | ⟨_, _, _, h1, _⟩ | ⟨_, _, h1, _⟩ | ⟨_, _, h1, _⟩ | ⟨_, _, _, h1, _⟩ | ⟨_, _, _, h1, _⟩ | ⟨l', id, ops, h1, rfl, hx, d1, d2, b, hb, e1, e2⟩ | ⟨_, _, _, _, h1, _⟩ <;> cases h1
    exact draw_sound hm hY hx d1 d2 H hk (fun q => absurd e2 (q b hb e1)) hp
  | .keep l A, c, hc, g, w, h, env, a, Q, Qc, H, hk, hq, hp => by
    simp only [AC.strip] at hc
    exact code_sound hm hY A c hc ⟨keepE_rel l H.env, H.inv, H.size, H.defers⟩ hk hq hp
  | .post A l, c, hc, g, w, h, env, a, Q, Qc, H, hk, hq, hp => by
    simp only [AC.strip] at hc
    refine code_sound hm hY A c hc H hk (fun e env' h' g' w' a' q H' S => ?_) hp
    cases e with
    | nrm => exact hq .nrm _ h' g' w' a' q ⟨keepE_rel l H'.env, H'.inv, H'.size, H'.defers⟩ S
    | ret => exact hq .ret env' h' g' w' a' q H' S
    | exit m => exact hq (.exit m) env' h' g' w' a' q H' S

/-! ### Functions -/
theorem initEnv_get : ∀ (l : List V) (i n : Nat), get (initEnv i l) n = if i ≤ n ∧ n < i + l.length then l.getD (n - i) .undef else .undef
  | [], i, n => by simp [initEnv, get]
  | v :: l, i, n => by
    simp only [initEnv, get]
    by_cases e : n = i
    · subst e; simp
    · rw [if_neg e, initEnv_get l (i + 1) n]
      by_cases h1 : i + 1 ≤ n ∧ n < i + 1 + l.length
      · rw [if_pos h1, if_pos (by simp; omega), show n - i = (n - (i + 1)) + 1 by omega]; simp
      · rw [if_neg h1, if_neg (by simp; omega)]

def resOne (tmps : Array Value) : ResultVar → Sem Value
  | .tmp t => Pure.pure (tmps.getD t undef)
  | .cell a t => do loadVar t (← asAddr (tmps.getD a undef))
def tupC : List Value → Value
  | [v] => v
  | l => .tuple l.toArray
theorem resP_run {g : Gh} {w : World} {h : AH} {env : Env} {a : Act} (R : EnvRel X g w h env a) (I : Inv X g w h) : ∀ {l : List ResultVar} {r : List (Nat × Option (Bool × Nat))}, resSlots X.P l = some r →
    ∀ {acc : List V} {cs : List Value} {K : V → Prop}, acc.length = cs.length → (∀ i (h1 : i < acc.length) (h2 : i < cs.length), Rel X g w h (acc[i]) (cs[i])) → resP env h r acc K →
    ∃ us v, (l.mapM (resOne a.tmps)).run X.P w = .ok us w ∧ K v ∧ Rel X g w h v (tupC (cs.reverse ++ us))
  | [], r, e, acc, cs, K, hl, hr, hk => by
    simp [resSlots] at e; subst e
    refine ⟨[], _, by simp, hk, ?_⟩
    rw [List.append_nil]
    have hl' : acc.reverse.length = cs.reverse.length := by simpa using hl
    have hr' : ∀ i (h1 : i < acc.reverse.length) (h2 : i < cs.reverse.length), Rel X g w h (acc.reverse[i]) (cs.reverse[i]) := fun i h1 h2 => by
      simp only [List.getElem_reverse]
      have := hr (acc.length - 1 - i) (by simp at h1; omega) (by simp at h1; omega)
      simp only [hl] at this ⊢; exact this
    generalize acc.reverse = A at hl' hr'
    generalize cs.reverse = C at hl' hr'
    match A, C, hl', hr' with
    | [], [], _, _ => exact .tup [] #[] rfl (by simp)
    | [v], [c], _, hr' => exact hr' 0 (by simp) (by simp)
    | v1 :: v2 :: A, c1 :: c2 :: C, hl', hr' => exact .tup _ _ (by simpa using hl') (fun i h1 h2 => by have := hr' i h1 (by simpa using h2); simpa using this)
  | .tmp t :: l, r, e, acc, cs, K, hl, hr, hk => by
    simp only [resSlots] at e
    split at e
    · rename_i r' h1
      simp at e; subst e
      simp only [resP] at hk
      obtain ⟨us, v, e1, k, rv⟩ := resP_run R I h1 (acc := get env t :: acc) (cs := a.tmps.getD t undef :: cs) (by simp [hl]) (fun i h1 h2 => by
        cases i with
        | zero => exact R t
        | succ i => exact hr i (by simpa using h1) (by simpa using h2)) hk
      refine ⟨a.tmps.getD t undef :: us, v, ?_, k, by simpa using rv⟩
      simp [List.mapM_cons, resOne] at e1 ⊢
      simp [e1]
    · simp at e
  | .cell t ty :: l, r, e, acc, cs, K, hl, hr, hk => by
    simp only [resSlots] at e
    split at e
    · rename_i gg n r' h1 h2 h3
      split at e
      · simp at e
      rename_i hn0
      simp at e; subst e
      simp only [resP] at hk
      have rt := R t
      generalize hv : get env t = v0 at rt hk
      generalize hu : a.tmps.getD t undef = u0 at rt
      cases rt <;> first | exact hk.elim | skip
      rename_i o off hn hmo
      obtain ⟨v1, u1, e0, r1, hk⟩ := load_obj h1 h2 I hn hmo hn0 hk
      obtain ⟨us, v, e1, k, rv⟩ := resP_run R I h3 (acc := v1 :: acc) (cs := u1 :: cs) (by simp [hl]) (fun i h1 h2 => by
        cases i with
        | zero => exact r1
        | succ i => exact hr i (by simpa using h1) (by simpa using h2)) hk
      refine ⟨u1 :: us, v, ?_, k, by simpa using rv⟩
      simp only [List.mapM_cons, resOne, hu, asAddr, Sem.run_bind, Sem.run_pure, Result.andThen_ok, e0, e1]
    · simp at e
theorem results_run {fn : Func} {g : Gh} {w : World} {h : AH} {env : Env} {a : Act} (R : EnvRel X g w h env a) (I : Inv X g w h) {r : List (Nat × Option (Bool × Nat))} (hr : resSlots X.P fn.results.toList = some r) {K : V → Prop} (hk : resP env h r [] K) :
    ∃ v u, (results fn a.tmps).run X.P w = .ok u w ∧ K v ∧ Rel X g w h v u := by
  obtain ⟨us, v, e1, k, rv⟩ := resP_run R I hr (cs := []) rfl (by simp) hk
  refine ⟨v, _, ?_, k, rv⟩
  unfold results
  change ((fn.results.mapM (resOne a.tmps) >>= fun vs => Pure.pure (if h : vs.size = 1 then vs[0] else .tuple vs)) : Sem Value).run X.P w = _
  rw [Array.mapM_eq_mapM_toList]
  simp only [List.reverse_nil, List.nil_append]
  match us, e1 with
  | [], e1 => simp [e1, tupC]
  | [t], e1 => simp [e1, tupC]
  | _ :: _ :: _, e1 => simp [e1, tupC]

theorem fn_sound (hm : X.P.follows .mixedOrders = true) (hY : X.tbl = Y.tbl) {k : Nat} {fn : Func} {f : AFn} (hf : X.P.funcs[X.tbl k]? = some fn) (hname : (fn.name == "runtime.NumGoroutine") = false)
    (hc : compFn X.P Y fn = some f.strip) (hk0 : FK k := by decide) : Has (Ecx X) k f := by
  intro args h Q ha g w cargs I rl
  unfold compFn at hc
  split at hc
  · rename_i c r hb hr
    split at hc
    · rename_i A hA
      simp only [AFn.strip, Option.some.injEq] at hc
      have e1 : fn.ntmps = f.n := by have := congrArg AFn.n hc; simpa using this
      have e2 : r = f.res := by have := congrArg AFn.res hc; simpa using this
      have e3 : A = f.body.strip := by have := congrArg AFn.body hc; simpa using this
      obtain ⟨hsz, ha⟩ := ha
      refine .inl ⟨fn, hk0, hf, hname, by simp [hb], ?_⟩
      refine calls_of_wp hf hb ((wpIn_wide (n := 0)).1 ?_)
      refine code_sound (ro := none) (ds := []) hm hY (N := fn.ntmps) f.body c (by rw [hA, e3]) (g := g) (w := w) (h := h) ⟨fun n => ?_, I, ?_, rfl⟩ ha (fun e env' h' g' w' a' q H S => ?_) (fun p w' a' z hd => ⟨hd, .inr ⟨p, rfl, z⟩⟩)
      · rw [initEnv_get]
        split
        · rename_i hn
          have hn1 : n < args.length := by omega
          have hn2 : n < cargs.size := by rw [← rl.1]; exact hn1
          have : (cargs ++ Array.replicate (fn.ntmps - cargs.size) undef).getD n undef = cargs[n] := by
            simp [Array.getD_eq_getD_getElem?, Array.getElem?_append, hn2]
          simp only [this, Nat.sub_zero, List.getD, List.getElem?_eq_getElem hn1, Option.getD_some]
          exact rl.2 n hn1 hn2
        · exact .undef _
      · simp; have := rl.1; omega
      · have key : bodyPost X.P fn (fun e w' => (∃ x, e = .returned x ∧ ∃ r h' g', Q r h' ∧ Inv X g' w' h' ∧ Rel X g' w' h' r x ∧ Stp g w h g' w' h') ∨ ∃ p, e = .panicked [{ v := p, recovered := false }] ∧ PanOk X g w h p w') .ret a' w' ∨ e ≠ .nrm ∧ e ≠ .ret := by
          by_cases he : e = .nrm ∨ e = .ret
          · left
            have q' : resP env' h' f.res [] fun v => Q v h' := by rcases he with rfl | rfl <;> exact q
            rw [← e2] at q'
            obtain ⟨v, u, hrun, q2, rv⟩ := results_run H.env H.inv hr q'
            exact ⟨H.defers, _, hrun, .inl ⟨_, rfl, _, h', g', q2, H.inv, rv, S⟩⟩
          · exact .inr ⟨fun h => he (.inl h), fun h => he (.inr h)⟩
        rcases key with k1 | ⟨k1, k2⟩
        · cases e with
          | nrm => exact k1
          | ret => exact k1
          | exit n => exact q.elim
        · cases e with
          | nrm => exact absurd rfl k1
          | ret => exact absurd rfl k2
          | exit n => exact q.elim
    · simp at hc
  · simp at hc

/-! ### Behind a call: forgetting what is of no use -/
inductive Wk : V → V → Prop
  | same (v : V) : Wk v v
  | sl (e st : Nat) (l : List V) : Wk (.sl e st l) (.sl e 0 l)
  | nil (e e' st : Nat) : Wk (.sl e st []) (.sl e' 0 [])
  | sld (e st : Nat) (l m : List V) (hl : l.length = m.length) (hm : ∀ v ∈ m, v.cells.length = e) (hc : (cellsOf l).length = (cellsOf m).length)
      (h : ∀ i (h1 : i < (cellsOf l).length) (h2 : i < (cellsOf m).length), Wk ((cellsOf l)[i]) ((cellsOf m)[i])) : Wk (.sl e st l) (.sl e 0 m)
  | tup (l m : List V) (hl : l.length = m.length) (h : ∀ i (h1 : i < l.length) (h2 : i < m.length), Wk (l[i]) (m[i])) : Wk (.tup l) (.tup m)
  | agg (l m : List V) (hl : l.length = m.length) (h : ∀ i (h1 : i < l.length) (h2 : i < m.length), Wk (l[i]) (m[i])) : Wk (.agg l) (.agg m)
  | undef (v : V) : Wk v .undef
theorem Rel.wk {g : Gh} {w : World} {h : AH} (n3 : 3 ≤ h.next) (ht : h.tips 0 = none) {v v' : V} (k : Wk v v') : ∀ {x : Value}, Rel X g w h v x → Rel X g w h v' x := by
  induction k with
  | same v => exact fun r => r
  | sl e st l =>
    intro x r
    cases r with
    | slnil e st hst => exact .slnil e 0 (by omega)
    | slemp e a => exact .slemp e a
    | sl _ _ _ b off cap xf k1 ks kcap ke kc ko kp kr k2 k3 => exact .sl e 0 l b off cap xf (by omega) (by omega) kcap ke kc ko kp kr (by omega) (fun e' he => by rw [ht] at he; cases he)
  | nil e e' st =>
    intro x r
    cases r with
    | slnil _ _ hst => exact .slnil e' 0 (by omega)
    | slemp _ a => exact .slemp e' a
    | sl _ _ _ b off cap xf k1 ks kcap ke kc ko kp kr k2 k3 => exact .sl e' 0 [] b off cap xf (by omega) (by omega) kcap (by simp) (by simp) (by simp) (by simpa using kp) (by simp) (by omega) (fun e' he => by rw [ht] at he; cases he)
  | sld e st l m hl hm hcc _ ih =>
    intro x r
    cases r with
    | slnil _ _ hst =>
      have : m = [] := List.eq_nil_of_length_eq_zero (by simpa using hl.symm)
      subst this; exact .slnil e 0 (by omega)
    | slemp _ a =>
      have : m = [] := List.eq_nil_of_length_eq_zero (by simpa using hl.symm)
      subst this; exact .slemp e a
    | sl _ _ _ b off cap xf k1 ks kcap ke kc ko kp kr k2 k3 =>
      have := Rel.sl (X := X) (g := g) (w := w) (h := h) e 0 m b off cap xf (by omega) (by omega) (by omega) hm (fun i hi => kc i (by omega)) (fun i hi => ko i (by omega)) (by omega) (fun i hi => ih i (by omega) hi (kr i (by omega))) (by omega) (fun e' he => by rw [ht] at he; cases he)
      rw [← hl] at this; exact this
  | tup l m hl _ ih =>
    intro x r
    cases r with
    | tup _ cs hl' hr => exact .tup m cs (by omega) (fun i h1 h2 => ih i (by omega) h1 (hr i (by omega) h2))
  | agg l m hl _ ih =>
    intro x r
    cases r with
    | agg _ cs hl' ho hr => exact .agg m cs (by omega) ho (fun i h1 h2 => ih i (by omega) h1 (hr i (by omega) h2))
  | undef v => exact fun r => .undef _

theorem Bdd.mono {n m n' m' : Nat} (hn : n ≤ n') (hm : m ≤ m') {v : V} (b : Bdd n m v) : Bdd n' m' v := by
  induction b with
  | bool b => exact .bool b
  | int k i => exact .int k i
  | str s => exact .str s
  | sl e st l hs hl ih => exact .sl e st l (by omega) ih
  | agg l hl ih => exact .agg l ih
  | ptr o off ho => exact .ptr o off (by omega)
  | mapr o ho => exact .mapr o (by omega)
  | mapn => exact .mapn
  | osl e o off len cap ho => exact .osl e o off len cap (by omega)
  | rptr l off hl ih => exact .rptr l off ih
  | nilp => exact .nilp
  | fn f a b h1 h2 ih1 ih2 => exact .fn f a b ih1 ih2
  | nilf => exact .nilf
  | tup l hl ih => exact .tup l ih
  | cval c => exact .cval c
  | tp o t k ho => exact .tp o t k (by omega)
  | tys t v hv ih => exact .tys t v ih
  | undef => exact .undef

/-- Lists, weaker thing by thing. -/
inductive WkL : List V → List V → Prop
  | nil : WkL [] []
  | cons {a b : V} {l m : List V} (h : Wk a b) (t : WkL l m) : WkL (a :: l) (b :: m)
theorem WkL.refl : ∀ l : List V, WkL l l
  | [] => .nil
  | a :: l => .cons (.same a) (WkL.refl l)
theorem WkL.get {l m : List V} (h : WkL l m) : l.length = m.length ∧ ∀ i (h1 : i < l.length) (h2 : i < m.length), Wk (l[i]) (m[i]) := by
  induction h with
  | nil => exact ⟨rfl, fun i h1 => by simp at h1⟩
  | cons h t ih =>
    refine ⟨by simp [ih.1], fun i h1 h2 => ?_⟩
    cases i with
    | zero => exact h
    | succ i => exact ih.2 i (by simpa using h1) (by simpa using h2)
theorem Wk.int' {v : V} {k : IntKind} {n : Int} (h : Wk v (.int k n)) : v = .int k n := by cases h; rfl
theorem Wk.of_int {v : V} {k : IntKind} {n : Int} (h : Wk (.int k n) v) : v = .int k n ∨ v = .undef := by
  cases h with
  | same => exact .inl rfl
  | undef => exact .inr rfl
theorem exoH_wk {c c' : List V} {n : Int} (h : WkL c c') (e : exoH c n) : exoH c' n := by
  unfold exoH at e
  split at e
  · cases h with
    | cons h t =>
      rcases h.of_int with rfl | rfl
      · exact e
      · trivial
  · cases h with
    | cons h t =>
      have : ∀ {u v : V}, u = .undef → Wk u v → v = .undef := fun hu h => by
        cases h <;> first | rfl | exact hu | cases hu
      rw [this rfl h]; trivial
  · exact e.elim
/-- From h a call has come to h1; h2 is what one still wants to know of h1. -/
structure HW (h h1 h2 : AH) : Prop where
  next : h.next ≤ h2.next ∧ h2.next ≤ h1.next
  nobj : h.nobj ≤ h2.nobj ∧ h2.nobj ≤ h1.nobj
  tips : ∀ s e, h2.tips s = some e → h1.tips s = some e ∧ (s < h2.next ∨ h.tips s = some e)
  objs : ∀ o, o < h2.nobj → WkL (h1.objs o) (h2.objs o) ∧ ((o < h.nobj ∧ h2.objs o = h.objs o) ∨ ∀ v ∈ h2.objs o, Bdd h2.next h2.nobj v)

theorem Ecx.weak {k : Nat} {args : List V} {h : AH} {Q : V → AH → Prop}
    (c : Ecx X k args h fun r h1 => ∃ r' h2, Wk r r' ∧ HW h h1 h2 ∧ Bdd h2.next h2.nobj r' ∧ Q r' h2) : Ecx X k args h Q := by
  intro g w cargs I rl
  refine (c g w cargs I rl).mono ?_
  rintro x w' ⟨r, h1, g', ⟨r', h2, hw, W, B, q⟩, I', rx, S⟩
  have n3 : 3 ≤ h2.next := Nat.le_trans I.next W.next.1
  have tips0 : ∀ h' : AH, ∀ g w, Inv X g w h' → h'.tips 0 = none := fun h' g w J => by
    cases hq : h'.tips 0 with
    | none => rfl
    | some e => have := (J.tipB 0 e hq).1; omega
  have ht : ∀ s e, h2.tips s = some e → h1.tips s = some e := fun s e he => (W.tips s e he).1
  have hs : ∀ s e, h2.tips s = some e → s < h2.next := fun s e he => by
    rcases (W.tips s e he).2 with a | a
    · exact a
    · exact Nat.lt_of_lt_of_le (I.tipB s e a).2.1 W.next.1
  have hbd : ∀ o, o < h2.nobj → ∀ v ∈ h2.objs o, Bdd h2.next h2.nobj v := fun o ho v hv => by
    rcases (W.objs o ho).2 with ⟨a, b⟩ | a
    · rw [b] at hv
      exact (I.objBdd a v hv).mono W.next.1 W.nobj.1
    · exact a v hv
  have S2 : Stp g w h g' w' h2 :=
    { next := W.next.1
      nobj := W.nobj.1
      obj := S.obj
      mp := S.mp
      pub := S.pub
      cell := S.cell
      tip := fun s hs e he => S.tip s hs e (ht s e he)
      row := fun s hs e he => S.row s hs e (ht s e he)
      shape := S.shape }
  refine ⟨r', h2, g', q, ?_, ?_, S2⟩
  · exact
      { below := I'.below
        next := n3
        maps := fun o ho hm => by
          obtain ⟨e1, e2⟩ := (W.objs o ho).1.get
          rcases I'.maps o (Nat.lt_of_lt_of_le ho W.nobj.2) hm with ⟨es, k1, k2, k3, k4⟩ | ⟨b, n, vs, k1, kb, kl, ke, kf, kr⟩
          rotate_left
          · refine .inr ⟨b, n, vs, k1, kb, kl, exoH_wk (W.objs o ho).1 ke, by rw [← e1]; exact kf, fun i i1 i2 => ?_⟩
            have hb := hbd o ho _ (List.getElem_mem i1)
            exact (Rel.wk I'.next (tips0 h1 g' w' I') (e2 (i + 1) (by omega) i1) (kr i (by omega) i2)).shrink n3 ht hb
          refine .inl ⟨es, k1, by rw [← e1]; exact k2, k3, fun i i1 i2 => ?_⟩
          have hb := hbd o ho _ (List.getElem_mem i1)
          exact (Rel.wk I'.next (tips0 h1 g' w' I') (e2 i (by omega) i1) (k4 i (by omega) i2)).shrink n3 ht hb
        objs := fun o ho hm hne => by
          obtain ⟨e1, e2⟩ := (W.objs o ho).1.get
          obtain ⟨cs, t, k1, k2, k3, k4⟩ := I'.objs o (Nat.lt_of_lt_of_le ho W.nobj.2) hm (fun e => hne (List.eq_nil_of_length_eq_zero (by rw [← e1, e]; rfl)))
          refine ⟨cs, t, k1, by rw [← e1]; exact k2, k3, fun i i1 i2 => ?_⟩
          have hb := hbd o ho _ (List.getElem_mem i1)
          exact (Rel.wk I'.next (tips0 h1 g' w' I') (e2 i (by omega) i1) (k4 i (by omega) i2)).shrink n3 ht hb
        objL := fun {o} ho => I'.objL (Nat.lt_of_lt_of_le ho W.nobj.2)
        objB := fun o ho => ⟨(I'.objB o (Nat.lt_of_lt_of_le ho W.nobj.2)).1, fun hm hne => (I'.objB o (Nat.lt_of_lt_of_le ho W.nobj.2)).2 hm (fun e => hne (List.eq_nil_of_length_eq_zero (by
          obtain ⟨e1, e2⟩ := (W.objs o ho).1.get
          rw [← e1, e]; rfl)))⟩
        objI := fun o o' a b => I'.objI o o' (Nat.lt_of_lt_of_le a W.nobj.2) (Nat.lt_of_lt_of_le b W.nobj.2)
        tipB := fun s e he => by
          obtain ⟨a, b, c, d⟩ := I'.tipB s e (ht s e he)
          exact ⟨a, hs s e he, c, d⟩
        tipI := fun s e s' e' a b => I'.tipI s e s' e' (ht _ _ a) (ht _ _ b)
        tipO := fun o s e ho he => I'.tipO o s e (Nat.lt_of_lt_of_le ho W.nobj.2) (ht _ _ he)
        pubB := I'.pubB }
  · exact (Rel.wk I'.next (tips0 h1 g' w' I') hw rx).shrink n3 ht B

/-- A heap that has only grown. -/
structure Gr (h h1 : AH) : Prop where
  next : h.next ≤ h1.next
  nobj : h.nobj ≤ h1.nobj
  objs : ∀ o, o < h.nobj → h1.objs o = h.objs o
  tips : ∀ s, s < h.next → h1.tips s = h.tips s
theorem Gr.refl (h : AH) : Gr h h := ⟨Nat.le_refl _, Nat.le_refl _, fun _ _ => rfl, fun _ _ => rfl⟩
theorem Gr.trans {a b c : AH} (x : Gr a b) (y : Gr b c) : Gr a c :=
  ⟨Nat.le_trans x.next y.next, Nat.le_trans x.nobj y.nobj, fun o ho => (y.objs o (Nat.lt_of_lt_of_le ho x.nobj)).trans (x.objs o ho), fun s hs => (y.tips s (Nat.lt_of_lt_of_le hs x.next)).trans (x.tips s hs)⟩

/-- A call that only makes things leaves, but for its result, what was. -/
theorem Ecx.pure {k : Nat} {args : List V} {h : AH} {Q : V → AH → Prop} (c : Ecx X k args h fun r h1 => Gr h h1 ∧ ∃ r', Wk r r' ∧ Bdd h.next h.nobj r' ∧ Q r' h) : Ecx X k args h Q := by
  refine Ecx.weak ?_
  intro g w cargs I rl
  refine (c g w cargs I rl).mono ?_
  rintro x w' ⟨r, h1, g', ⟨G, r', hw, B, q⟩, I', rx, S⟩
  refine ⟨r, h1, g', ⟨r', h, hw, ⟨⟨Nat.le_refl _, G.next⟩, ⟨Nat.le_refl _, G.nobj⟩, fun s e he => ⟨?_, .inr he⟩, fun o ho => ⟨by rw [G.objs o ho]; exact WkL.refl _, .inl ⟨ho, rfl⟩⟩⟩, B, q⟩, I', rx, S⟩
  rw [G.tips s (I.tipB s e he).2.1]; exact he

/-- What is true of any heap that holds. -/
structure Wf (h : AH) : Prop where
  next : 3 ≤ h.next
  tips : ∀ s e, h.tips s = some e → 3 ≤ s ∧ s < h.next
  objs : ∀ o, o < h.nobj → ∀ v ∈ h.objs o, Bdd h.next h.nobj v
theorem Inv.wf {g : Gh} {w : World} {h : AH} (I : Inv X g w h) : Wf h :=
  ⟨I.next, fun s e he => ⟨(I.tipB s e he).1, (I.tipB s e he).2.1⟩, fun o ho v hv => I.objBdd ho v hv⟩
theorem Ecx.wf {k : Nat} {args : List V} {h : AH} {Q : V → AH → Prop} (c : Wf h → Ecx X k args h Q) : Ecx X k args h Q :=
  fun g w cargs I rl => c I.wf g w cargs I rl
theorem Ecx.bdd {k : Nat} {args : List V} {h : AH} {Q : V → AH → Prop} (c : (∀ v ∈ args, Bdd h.next h.nobj v) → Ecx X k args h Q) : Ecx X k args h Q :=
  fun g w cargs I rl => c (fun v hv => by
    obtain ⟨i, hi, rfl⟩ := List.getElem_of_mem hv
    exact (rl.2 i hi (by have := rl.1; omega)).bdd) g w cargs I rl
end
end Go.Proofs.Ytajaoldljichaaa.Al
namespace Go.Proofs.Ytajaoldljichaaa.Al
open Go Go.RowKit
set_option linter.unusedSimpArgs false
set_option linter.unusedVariables false

def iniH : AH := ⟨fun _ => [], 0, fun _ => none, 3⟩
def iniG (W : World) : Gh := ⟨fun _ => 0, fun _ => 0, fun b => match W.heap[b]? with
  | some (.cells cs _ _) => cs.size
  | _ => 0, fun _ => false⟩

section
variable {X : Cx}
theorem iniInv : Inv X (iniG X.W0) X.W0 iniH where
  below := Below.refl _ _
  next := Nat.le_refl _
  objs o h := by simp [iniH] at h
  maps o h := by simp [iniH] at h
  objL h := by simp [iniH] at h
  objB o h := by simp [iniH] at h
  objI o o' h := by simp [iniH] at h
  tipB s e h := by simp [iniH] at h
  tipI s e s' e' h := by simp [iniH] at h
  tipO o s e h := by simp [iniH] at h
  pubB b hb := by
    simp only [iniG]
    rw [Array.getElem?_eq_none hb]

def tiles (P : Program) : List Field → Nat → Option Nat
  | [], k => some k
  | f :: r, k => if f.offset = k then tiles P r (k + P.cellsOf f.type) else none
def okTy (P : Program) : Nat → TypeId → Bool
  | 0, _ => false
  | n + 1, t => match P.underlying t with
    | some .bool | some (.int _) | some .string => decide (P.cellsOf t = 1)
    | some (.slice e) => decide (P.cellsOf t = 1) && okTy P n e && decide (0 < P.cellsOf e)
    | some (.struct fs) => (match tiles P fs.toList 0 with | some k => decide (k = P.cellsOf t) | none => false) && fs.toList.all fun f => okTy P n f.type
    | _ => false

mutual
/-- Cells that are of a type. -/
inductive Ty (P : Program) : TypeId → List V → Prop
  | bool {t : TypeId} (h : P.underlying t = some .bool) (b : Bool) : Ty P t [.bool b]
  | int {t : TypeId} {k : IntKind} (h : P.underlying t = some (.int k)) (n : Int) (h1 : k.min ≤ n) (h2 : n ≤ k.max) : Ty P t [.int k n]
  | str {t : TypeId} (h : P.underlying t = some .string) (s : List UInt8) (h1 : s.length ≤ maxLen) : Ty P t [.str s]
  | sl {t e : TypeId} (h : P.underlying t = some (.slice e)) (l : List V) (h1 : l.length ≤ maxLen) (h2 : ∀ v ∈ l, Ty P e v.cells) (h3 : ∀ v ∈ l, tyAgg P e = some v.isAgg) : Ty P t [.sl (P.cellsOf e) 0 l]
  | struct {t : TypeId} {fs : Array Field} (h : P.underlying t = some (.struct fs)) (l : List V) (h1 : Tys P fs.toList l) : Ty P t l
inductive Tys (P : Program) : List Field → List V → Prop
  | nil : Tys P [] []
  | cons (f : Field) (r : List Field) (a b : List V) (ha : Ty P f.type a) (hb : Tys P r b) : Tys P (f :: r) (a ++ b)
end

theorem mapM_get {α β : Type} {f : α → Option β} : ∀ {l : List α} {ys : List β}, l.mapM f = some ys → ys.length = l.length ∧ ∀ i (h1 : i < l.length) (h2 : i < ys.length), f l[i] = some ys[i]
  | [], ys, e => by simp at e; subst e; simp
  | x :: l, ys, e => by
    simp only [List.mapM_cons, Option.bind_eq_bind, Option.pure_def] at e
    cases hx : f x with
    | none => simp [hx] at e
    | some y =>
      cases hl : l.mapM f with
      | none => simp [hx, hl] at e
      | some zs =>
        simp [hx, hl] at e
        subst e
        obtain ⟨k1, k2⟩ := mapM_get hl
        refine ⟨by simp [k1], fun i i1 i2 => ?_⟩
        cases i with
        | zero => exact hx
        | succ i => exact k2 i (by simpa using i1) (by simpa using i2)

theorem cells?_get {w : World} {a : Addr} {n : Nat} {cs : List Value} (h : w.cells? 0 a n = some cs) : cs.length = n ∧ ∀ i (h1 : i < cs.length), w.cell? (a.add i) = some cs[i] := by
  unfold World.cells? at h
  rw [if_pos (Nat.zero_le _)] at h
  obtain ⟨k1, k2⟩ := mapM_get h
  refine ⟨by simpa using k1, fun i h1 => ?_⟩
  have := k2 i (by rw [← k1]; exact h1) h1
  simpa using this
theorem cell?_pub {w : World} {a : Addr} {v : Value} (h : w.cell? a = some v) : a.spot = none ∧ a.off < (iniG w).pub a.block := by
  unfold World.cell? at h
  split at h
  · rename_i c e f hb
    cases hs : a.spot with
    | some _ => simp [hs] at h
    | none =>
      simp only [hs, Option.isSome_none, Bool.false_eq_true, if_false] at h
      refine ⟨rfl, ?_⟩
      simp only [iniG, hb]
      exact (Array.getElem?_eq_some_iff.1 h).1
  · simp at h

/-- Cells, and what they are. -/
def RelC (X : Cx) (g : Gh) (w : World) (h : AH) (l : List V) (cs : List Value) : Prop :=
  l.length = cs.length ∧ (∀ i (h2 : i < cs.length), (cs[i]).oneCell' = true) ∧ ∀ i (h1 : i < l.length) (h2 : i < cs.length), Rel X g w h (l[i]) (cs[i])
theorem RelC.one {g : Gh} {w : World} {h : AH} {v : V} {c : Value} (r : Rel X g w h v c) (o : c.oneCell' = true) : RelC X g w h [v] [c] :=
  ⟨rfl, fun i h2 => by simp at h2; subst h2; exact o, fun i h1 h2 => by simp at h1; subst h1; exact r⟩
theorem RelC.append {g : Gh} {w : World} {h : AH} {l m : List V} {cs ds : List Value} (r : RelC X g w h l cs) (s : RelC X g w h m ds) : RelC X g w h (l ++ m) (cs ++ ds) := by
  obtain ⟨r1, r2, r3⟩ := r
  obtain ⟨s1, s2, s3⟩ := s
  refine ⟨by simp [r1, s1], fun i h2 => ?_, fun i h1 h2 => ?_⟩
  · rw [List.getElem_append]
    split
    · exact r2 _ _
    · exact s2 _ _
  · by_cases c : i < l.length
    · rw [List.getElem_append_left c, List.getElem_append_left (by omega)]; exact r3 _ _ _
    · rw [List.getElem_append_right (by omega), List.getElem_append_right (by omega)]
      simp only [r1]; exact s3 _ _ _

theorem trod_rel {H : Type} {enc : TypeId × Value → H} (W : World) (hW : X.W0 = W) : ∀ (fuel n : Nat) (t : TypeId) (cs : List Value) (d : DataW H) (ps : List MemPlace), okTy X.P n t = true →
    DataW.trod enc X.P W 0 (fun _ => true) true fuel t cs = some (d, ps) → ∃ l, RelC X (iniG W) W iniH l cs ∧ Ty X.P t l
  | 0, _, _, _, _, _, _, h => by simp [DataW.trod] at h
  | _ + 1, 0, _, _, _, _, ho, _ => by simp [okTy] at ho
  | fuel + 1, n + 1, t, cs, d, ps, ho, h => by
    unfold okTy at ho
    unfold DataW.trod at h
    cases hu : X.P.underlying t with
    | none => simp [hu] at ho
    | some dd =>
      rw [hu] at ho h
      cases dd <;> simp only at ho h <;> first | (simp at ho; done) | skip
      case bool =>
        rcases cs with _ | ⟨c, _ | ⟨c2, r⟩⟩ <;> try (simp at h; done)
        cases c <;> simp at h
        exact ⟨[.bool _], RelC.one (.bool _) rfl, .bool hu _⟩
      case int k =>
        rcases cs with _ | ⟨c, _ | ⟨c2, r⟩⟩ <;> try (simp at h; done)
        cases c <;> simp at h
        rename_i k' m
        obtain ⟨⟨rfl, hw⟩, _⟩ := h
        simp [Lit.wf] at hw
        exact ⟨[.int k' m], RelC.one (.int _ _) rfl, .int hu m hw.1 hw.2⟩
      case string =>
        rcases cs with _ | ⟨c, _ | ⟨c2, r⟩⟩ <;> try (simp at h; done)
        cases c <;> simp at h
        rename_i s
        exact ⟨[.str s.data.toList], RelC.one (.str _) rfl, .str hu _ (by rw [Array.length_toList]; exact h.1)⟩
      case slice e =>
        simp only [Bool.and_eq_true, decide_eq_true_eq] at ho
        obtain ⟨⟨ho1, ho2⟩, ho3⟩ := ho
        rcases cs with _ | ⟨c, _ | ⟨c2, r⟩⟩ <;> try (simp at h; done)
        · cases c <;> try (simp at h; done)
          rename_i a len cap
          cases a with
          | none =>
            rcases len with _ | len <;> rcases cap with _ | cap <;> simp at h
            · exact ⟨[.sl (X.P.cellsOf e) 0 []], RelC.one (.slnil _ 0 (by omega)) rfl, .sl hu [] (by simp) (by simp) (by simp)⟩
          | some a =>
            simp only [if_true] at h
            split at h
            · rename_i hb
              obtain ⟨_, hlc, hcm⟩ := hb
              cases h1 : (List.range len).mapM (fun i => (W.cells? 0 (a.add (i * X.P.cellsOf e)) (X.P.cellsOf e)).bind (DataW.trod enc X.P W 0 (fun _ => true) true fuel e)) with
              | none => simp [h1] at h
              | some ys =>
                cases h2 : (List.range (cap - len)).mapM (fun j => (W.cells? 0 (a.add ((len + j) * X.P.cellsOf e)) (X.P.cellsOf e)).bind (DataW.trod enc X.P W 0 (fun _ => true) true fuel e)) with
                | none => simp [h1, h2] at h
                | some zs =>
                  obtain ⟨m1, m2⟩ := mapM_get h1
                  obtain ⟨m3, m4⟩ := mapM_get h2
                  simp at m1 m3
                  have hcell0 : 0 < cap → ∃ v, W.cell? a = some v := fun hc => by
                    by_cases hl : 0 < len
                    · have := m2 0 (by simpa using hl) (by omega)
                      simp only [List.getElem_range, Nat.zero_mul, Addr.add_zero'] at this
                      cases hq : W.cells? 0 a (X.P.cellsOf e) with
                      | none => rw [hq] at this; simp at this
                      | some c =>
                        obtain ⟨q1, q2⟩ := cells?_get hq
                        have := q2 0 (by omega)
                        rw [Addr.add_zero'] at this
                        exact ⟨_, this⟩
                    · have hl0 : len = 0 := by omega
                      have := m4 0 (by simp; omega) (by omega)
                      simp only [List.getElem_range, hl0, Nat.zero_add, Nat.zero_mul, Addr.add_zero'] at this
                      cases hq : W.cells? 0 a (X.P.cellsOf e) with
                      | none => rw [hq] at this; simp at this
                      | some c =>
                        obtain ⟨q1, q2⟩ := cells?_get hq
                        have := q2 0 (by omega)
                        rw [Addr.add_zero'] at this
                        exact ⟨_, this⟩
                  by_cases hc0 : cap = 0
                  · have hl0 : len = 0 := by omega
                    subst hc0; subst hl0
                    exact ⟨[.sl (X.P.cellsOf e) 0 []], RelC.one (.slemp _ _) rfl, .sl hu [] (by simp) (by simp) (by simp)⟩
                  · obtain ⟨v0, hv0⟩ := hcell0 (by omega)
                    obtain ⟨hsp, hoff⟩ := cell?_pub hv0
                    obtain ⟨b, off, spot⟩ := a
                    simp only at hsp hoff
                    subst hsp
                    -- each element's cells
                    have hel : ∀ i : Nat, ∃ u : V, i < len → u.cells.length = X.P.cellsOf e ∧ tyAgg X.P e = some u.isAgg ∧ Ty X.P e u.cells ∧
                        ∀ c, c < X.P.cellsOf e → ∃ y, W.cell? ⟨b, off + (i * X.P.cellsOf e + c), none⟩ = some y ∧ y.oneCell' = true ∧ ∀ hc : c < u.cells.length, Rel X (iniG W) W iniH (u.cells[c]) y := by
                      intro i
                      by_cases hi : i < len
                      · have := m2 i (by simpa using hi) (by omega)
                        simp only [List.getElem_range, Addr.add_lit] at this
                        cases hq : W.cells? 0 ⟨b, off + i * X.P.cellsOf e, none⟩ (X.P.cellsOf e) with
                        | none => rw [hq] at this; simp at this
                        | some c =>
                          rw [hq] at this
                          simp only [Option.bind_some] at this
                          obtain ⟨q1, q2⟩ := cells?_get hq
                          obtain ⟨l, ⟨l1, l2, l3⟩, lt⟩ := trod_rel W hW fuel n e c _ _ ho2 this
                          have hcells : ∀ cc, cc < X.P.cellsOf e → ∃ y, W.cell? ⟨b, off + (i * X.P.cellsOf e + cc), none⟩ = some y ∧ y.oneCell' = true ∧ ∀ hc : cc < l.length, Rel X (iniG W) W iniH (l[cc]) y := fun cc hcc => by
                            have hc2 : cc < c.length := by omega
                            have := q2 cc hc2
                            rw [Addr.add_lit, Nat.add_assoc] at this
                            exact ⟨c[cc], this, l2 cc hc2, fun hc => l3 cc hc hc2⟩
                          cases hag : tyAgg X.P e with
                          | none =>
                            exfalso
                            have : okTy X.P n e = true := ho2
                            cases n with
                            | zero => simp [okTy] at this
                            | succ n =>
                              unfold okTy at this
                              unfold tyAgg at hag
                              cases hue : X.P.underlying e with
                              | none => simp [hue] at this
                              | some de => cases de <;> simp [hue] at hag
                          | some bb =>
                            cases bb with
                            | true => exact ⟨.agg l, fun _ => ⟨by show l.length = _; omega, rfl, lt, hcells⟩⟩
                            | false =>
                              have hone : X.P.cellsOf e = 1 := by
                                have : okTy X.P n e = true := ho2
                                cases n with
                                | zero => simp [okTy] at this
                                | succ n =>
                                  unfold okTy at this
                                  unfold tyAgg at hag
                                  cases hue : X.P.underlying e with
                                  | none => simp [hue] at this
                                  | some de => cases de <;> simp [hue] at hag this <;> simp_all
                              obtain ⟨u, rfl⟩ : ∃ u, l = [u] := List.length_eq_one_iff.1 (by omega)
                              have hleaf : u.cells = [u] ∧ u.isAgg = false := by
                                cases lt with
                                | struct hs _ _ => unfold tyAgg at hag; simp [hs] at hag
                                | _ => exact ⟨rfl, rfl⟩
                              exact ⟨u, fun _ => ⟨by rw [hleaf.1, hone]; rfl, by rw [hleaf.2], by rw [hleaf.1]; exact lt, by rw [hleaf.1]; exact hcells⟩⟩
                      · exact ⟨.undef, fun h => absurd h hi⟩
                    obtain ⟨u, hu2⟩ := Classical.skolem.1 hel
                    have hmem : ∀ v ∈ (List.range len).map u, ∃ i, i < len ∧ v = u i := fun v hv => by
                      simp at hv; obtain ⟨i, hi, rfl⟩ := hv; exact ⟨i, hi, rfl⟩
                    have hce : ∀ v ∈ (List.range len).map u, v.cells.length = X.P.cellsOf e := fun v hv => by
                      obtain ⟨i, hi, rfl⟩ := hmem v hv; exact (hu2 i hi).1
                    have hF := cellsOf_length hce
                    simp only [List.length_map, List.length_range] at hF
                    have hcellF : ∀ i (hi : i < (cellsOf ((List.range len).map u)).length), ∃ y, W.cell? ⟨b, off + i, none⟩ = some y ∧ y.oneCell' = true ∧ Rel X (iniG W) W iniH ((cellsOf ((List.range len).map u))[i]) y := by
                      intro i hi
                      have hi' : i < len * X.P.cellsOf e := by omega
                      have hq : i / X.P.cellsOf e < len := Nat.div_lt_of_lt_mul (by rw [Nat.mul_comm]; exact hi')
                      have hcm2 : i % X.P.cellsOf e < X.P.cellsOf e := Nat.mod_lt _ ho3
                      have hdm : i / X.P.cellsOf e * X.P.cellsOf e + i % X.P.cellsOf e = i := by rw [Nat.mul_comm]; exact Nat.div_add_mod i _
                      have a1 := cellsOf_getElem hce (i / X.P.cellsOf e) (by simpa using hq) (i % X.P.cellsOf e) hcm2
                      rw [hdm] at a1
                      simp only [List.getElem_map, List.getElem_range] at a1
                      obtain ⟨k1, k2, k3, k4⟩ := hu2 _ hq
                      obtain ⟨y, y1, y2, y3⟩ := k4 _ hcm2
                      rw [hdm] at y1
                      refine ⟨y, y1, y2, ?_⟩
                      have hlt : i % X.P.cellsOf e < (u (i / X.P.cellsOf e)).cells.length := by rw [k1]; exact hcm2
                      rw [List.getElem?_eq_getElem hi, List.getElem?_eq_getElem hlt] at a1
                      rw [Option.some.inj a1]; exact y3 hlt
                    have hpub : off + (cellsOf ((List.range len).map u)).length ≤ (iniG W).pub b := by
                      by_cases hz : (cellsOf ((List.range len).map u)).length = 0
                      · omega
                      · obtain ⟨y, y1, _, _⟩ := hcellF ((cellsOf ((List.range len).map u)).length - 1) (by omega)
                        have := (cell?_pub y1).2
                        simp only at this
                        omega
                    refine ⟨[.sl (X.P.cellsOf e) 0 ((List.range len).map u)], RelC.one ?_ rfl, .sl hu _ (by simp; omega) (fun v hv => ?_) (fun v hv => ?_)⟩
                    · have := Rel.sl (X := X) (g := iniG W) (w := W) (h := iniH) (X.P.cellsOf e) 0 ((List.range len).map u) b off cap (fun i => (W.cell? ⟨b, off + i, none⟩).getD undef) (by omega) (by simp [iniH]) (by simpa using hlc) hce
                        (fun i hi => by obtain ⟨y, y1, _, _⟩ := hcellF i hi; rw [y1]; rfl) (fun i hi => by obtain ⟨y, y1, y2, _⟩ := hcellF i hi; rw [y1]; exact y2) hpub
                        (fun i hi => by obtain ⟨y, y1, _, y3⟩ := hcellF i hi; rw [y1]; exact y3) (by omega) (fun e' he' => by simp [iniH] at he')
                      simpa using this
                    · obtain ⟨i, hi, rfl⟩ := hmem v hv; exact (hu2 i hi).2.2.1
                    · obtain ⟨i, hi, rfl⟩ := hmem v hv; exact (hu2 i hi).2.1
            · simp at h
      case struct fs =>
        simp only [Bool.and_eq_true] at ho
        obtain ⟨ho1, ho2⟩ := ho
        cases ht : tiles X.P fs.toList 0 with
        | none => simp [ht] at ho1
        | some tot =>
          simp only [ht, decide_eq_true_eq] at ho1
          have hmain : ∀ (l : List Field) (k : Nat) (xs : List (DataW H × List MemPlace)), tiles X.P l k = some tot → tot = cs.length → (∀ f ∈ l, okTy X.P n f.type = true) →
              (l.mapM fun f => DataW.trod enc X.P W 0 (fun _ => true) true fuel f.type ((cs.drop f.offset).take (X.P.cellsOf f.type))) = some xs → ∃ u, RelC X (iniG W) W iniH u (cs.drop k) ∧ Tys X.P l u := by
            intro l
            induction l with
            | nil =>
              intro k xs h1 h2 h3 h4
              simp [tiles] at h1
              subst h1
              exact ⟨[], ⟨by simp [h2], fun i hi => by simp [h2] at hi, fun i hi => by simp at hi⟩, .nil⟩
            | cons f l ih =>
              intro k xs h1 h2 h3 h4
              unfold tiles at h1
              split at h1
              · rename_i hk
                simp only [List.mapM_cons, Option.bind_eq_bind, Option.pure_def] at h4
                cases hx : DataW.trod enc X.P W 0 (fun _ => true) true fuel f.type ((cs.drop f.offset).take (X.P.cellsOf f.type)) with
                | none => simp [hx] at h4
                | some y =>
                  cases hl : (l.mapM fun f => DataW.trod enc X.P W 0 (fun _ => true) true fuel f.type ((cs.drop f.offset).take (X.P.cellsOf f.type))) with
                  | none => simp [hx, hl] at h4
                  | some zs =>
                    obtain ⟨a, ra, ta⟩ := trod_rel W hW fuel n f.type _ y.1 y.2 (h3 f (by simp)) hx
                    obtain ⟨b, rb, tb⟩ := ih (k + X.P.cellsOf f.type) zs h1 h2 (fun g hg => h3 g (by simp [hg])) hl
                    refine ⟨a ++ b, ?_, .cons f l a b ta tb⟩
                    have e1 : cs.drop k = (cs.drop f.offset).take (X.P.cellsOf f.type) ++ cs.drop (k + X.P.cellsOf f.type) := by
                      rw [hk, ← List.drop_drop, List.take_append_drop]
                    rw [e1]
                    exact ra.append rb
              · simp at h1
          split at h
          · rename_i hlen
            cases hm : (fs.toList.mapM fun f => DataW.trod enc X.P W 0 (fun _ => true) true fuel f.type ((cs.drop f.offset).take (X.P.cellsOf f.type))) with
            | none => simp [hm] at h
            | some xs =>
              obtain ⟨u, ru, tu⟩ := hmain fs.toList 0 xs ht (by omega) (fun f hf => List.all_eq_true.1 ho2 f hf) hm
              exact ⟨u, by simpa using ru, .struct hu u tu⟩
          · simp at h
end
end Go.Proofs.Ytajaoldljichaaa.Al
