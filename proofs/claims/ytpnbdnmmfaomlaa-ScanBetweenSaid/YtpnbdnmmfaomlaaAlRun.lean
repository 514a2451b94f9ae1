/-
  The abstract layer, part 8: calls, regions in the order of the text, functions' ends. Conditions: none.
-/
import Derived.Test.YtpnbdnmmfaomlaaAlSound
import Derived.LoopN
namespace Go.Proofs.Ytpnbdnmmfaomlaa.Al
open Go Go.RowKit
set_option linter.unusedSimpArgs false
set_option linter.unusedVariables false

/-- A call, of a function with a body or of one that the model answers itself. -/
def CallOk (X : Cx) (k : Nat) (args : Array Value) (w : World) (R : Value → World → Prop) : Prop :=
  (∃ fn, X.P.funcs[X.tbl k]? = some fn ∧ (fn.name == "runtime.NumGoroutine") = false ∧ fn.body.isNone = false ∧
    Calls X.P (X.tbl k) args w fun e w' => ∃ x, e = .returned x ∧ R x w') ∨
  (∃ x w', (callFunc (X.tbl k) args).run X.P w = .ok (.value x) w' ∧ R x w')

/-- What a call does, read off the model. -/
def Ecx (X : Cx) : Sig := fun k args h Q => ∀ g w cargs, Inv X g w h → RelL X g w h args cargs →
  CallOk X k cargs w fun x w' => ∃ r h' g', Q r h' ∧ Inv X g' w' h' ∧ Rel X g' w' h' r x ∧ Stp g w h g' w' h'

section
variable {X : Cx} {g : Gh} {w : World} {h : AH} {K : V → AH → Prop} {Y : Keys}

theorem CallOk.mono {k : Nat} {args : Array Value} {R R' : Value → World → Prop} (c : CallOk X k args w R) (hr : ∀ x w', R x w' → R' x w') : CallOk X k args w R' := by
  rcases c with ⟨fn, h1, h2, h3, h4⟩ | ⟨x, w', h1, h2⟩
  · exact .inl ⟨fn, h1, h2, h3, h4.mono fun e w' ⟨x, he, r⟩ => ⟨x, he, hr _ _ r⟩⟩
  · exact .inr ⟨x, w', h1, hr _ _ h2⟩
theorem Ecx.mono {k : Nat} {args : List V} {Q Q' : V → AH → Prop} (c : Ecx X k args h Q) (hq : ∀ r h', Q r h' → Q' r h') : Ecx X k args h Q' :=
  fun g w cargs I r => (c g w cargs I r).mono fun x w' ⟨v, h', g', q, rest⟩ => ⟨v, h', g', hq _ _ q, rest⟩

theorem call_upon {k : Nat} {args : Array Value} {R : Value → World → Prop} (c : CallOk X k args w R) {o : Oper} {a : Act} {next : Act → World → Prop} {Q : Exit → Act → World → Prop}
    (hn : ∀ x w', R x w' → next (a.put o.dst x) w') : o.upon X.P a next Q ((callFunc (X.tbl k) args).run X.P w) := by
  rcases c with ⟨fn, h1, h2, h3, h4⟩ | ⟨x, w', h1, h2⟩
  · have : (callFunc (X.tbl k) args).run X.P w = .ok (.enter (X.tbl k) args) w := by
      have h2' : ¬ fn.name = "runtime.NumGoroutine" := by simpa using h2
      simp [callFunc, h1, h2', h3]
      cases hb : fn.body with
      | none => simp [hb] at h3
      | some b => simp
    rw [this, Oper.upon_enter]
    exact h4.mono fun e w' ⟨x, he, r⟩ => by subst he; exact hn _ _ r
  · rw [h1, Oper.upon_value]; exact hn _ _ h2

theorem op_sound {o : Oper} {ao : AOp} (hY : X.tbl = Y.tbl) (hc : compOp X.P Y o.op = some ao) {a : Act} {ρ : AO → V}
    (hR : ∀ x ∈ o.op.operands, ∀ y, co Y x = some y → Rel X g w h (ρ y) (a.eval x)) (I : Inv X g w h) (hk : ao.wp (Ecx X) ρ h K) {next : Act → World → Prop} {Q : Exit → Act → World → Prop}
    (hn : ∀ v h' x g' w', K v h' → Inv X g' w' h' → Rel X g' w' h' v x → Stp g w h g' w' h' → next (a.put o.dst x) w') : o.wp X.P a w next Q := by
  by_cases hcall : ∀ f l, ao ≠ .call f l
  · obtain ⟨v, h', x, g', w', k1, I', r, S, e⟩ := op_out hY hc (ρc := a.eval) (fun _ => rfl) hR I hcall hk
    unfold Oper.wp
    rcases e with e | ⟨rfl, e⟩
    · rw [e, Oper.upon_value]; exact hn v h' x g' w' k1 I' r S
    · rw [e, Oper.upon_skip]; exact hn v h' undef g' w' k1 I' r S
  · have : ∃ f l, ao = .call f l := by
      refine Classical.byContradiction fun hh => hcall fun f l e => hh ⟨f, l, e⟩
    obtain ⟨f', l', rfl⟩ := this
    obtain ⟨dst, op, type, pos, after, guard⟩ := o
    simp only at hc hR
    cases op with
    | call c =>
      obtain ⟨callee, args, argTypes⟩ := c
      simp only [compOp, compCall] at hc
      cases callee with
      | value f =>
        simp only at hc
        split at hc
        · rename_i f1 l1 q1 q2
          simp at hc
          obtain ⟨rfl, rfl⟩ := hc
          have rf := hR f (by simp [Op.operands, Call.operands]) _ q1
          have ra := cos_rel (X := X) (g := g) (w := w) (h := h) (ρ := ρ) (ρc := a.eval) q2 (fun x hx => hR x (by simp [Op.operands, Call.operands]; right; simpa using hx))
          simp only [AOp.wp] at hk
          generalize hv : ρ f1 = v at rf hk
          generalize hu : a.eval f = u at rf
          cases rf <;> first | exact hk.elim | skip
          rename_i k first cap fs cs hf hcl hr1 hr2
          have rl : RelL X g w h (first ++ l1.map ρ ++ cap) (fs ++ args.map a.eval ++ cs) := by
            refine ⟨by simp [hf, hcl, ra.1], fun i i1 i2 => ?_⟩
            simp only [List.getElem_append, Array.getElem_append, List.length_append, List.length_map, Array.size_append, Array.size_map, ra.1, hf]
            simp only [List.length_append, List.length_map, ra.1, hf, hcl] at i1
            simp only [Array.size_append, Array.size_map] at i2
            simp only [Array.length_toList] at i1 ⊢
            by_cases c1 : i < fs.size + args.size
            · rw [dif_pos c1, dif_pos c1]
              by_cases c2 : i < fs.size
              · rw [dif_pos c2, dif_pos c2]; exact hr1 i (by omega) c2
              · rw [dif_neg c2, dif_neg c2]
                have := ra.2 (i - fs.size) (by rw [ra.1]; simp; omega) (by simp; omega)
                simpa using this
            · rw [dif_neg c1, dif_neg c1]
              exact hr2 _ (by omega) (by omega)
          have hcl2 := hk g w _ I rl
          have hrun : (execOp a.eval { dst, op := .call { callee := .value f, args := args, argTypes := argTypes }, type, pos, after, guard } : Sem Next).run X.P w =
              (callFunc (X.tbl k) (fs ++ args.map a.eval ++ cs)).run X.P w := by
            simp [execOp, resolve, hu, Deferred.ofValue, invoke]
          unfold Oper.wp
          rw [hrun]
          exact call_upon hcl2 fun x w' ⟨v, h', g', q, I', r, S⟩ => hn v h' x g' w' q I' r S
        · simp at hc
      | invoke r m => simp at hc
      | builtin b =>
        exfalso
        cases b <;> simp only at hc <;> first | (simp at hc; done) | skip
        all_goals
          repeat' (split at hc)
          all_goals simp at hc
    | binOp op t x y yt =>
      exfalso
      simp only [compOp, compBin, compEqs] at hc
      repeat' (split at hc)
      all_goals simp at hc
    | makeSlice t l c =>
      exfalso
      simp only [compOp, compMake] at hc
      repeat' (split at hc)
      all_goals simp at hc
    | unOp op t x =>
      exfalso
      simp only [compOp] at hc
      cases op <;> simp at hc
    | makeFunc fn first captured =>
      exfalso
      cases fn <;> simp only [compOp] at hc <;> repeat' (split at hc)
      all_goals simp at hc
    | slice t x lo hi mx =>
      exfalso
      cases mx <;> simp only [compOp] at hc <;> repeat' (split at hc)
      all_goals simp at hc
    | _ =>
      exfalso
      simp only [compOp] at hc
      repeat' (split at hc)
      all_goals simp at hc

/-! ### Temporaries -/
theorem EnvRel.stp {env : Env} {a : Act} (R : EnvRel X g w h env a) {g' : Gh} {w' : World} {h' : AH} (S : Stp g w h g' w' h') : EnvRel X g' w' h' env a := fun n => (R n).stp S
theorem EnvRel.put {env : Env} {a : Act} (R : EnvRel X g w h env a) {N : Nat} (hN : a.tmps.size = N) {d : Option Nat} (hd : dstOk N d = true) {v : V} {x : Value} (r : Rel X g w h v x) :
    EnvRel X g w h (put env d v) (a.put d x) := by
  cases d with
  | none => exact R
  | some d =>
    intro n
    have hlt : d < a.tmps.size := by simp [dstOk] at hd; omega
    simp only [Al.put, get, Act.put]
    by_cases e : n = d
    · subst e
      rw [if_pos rfl]
      have : (a.tmps.setIfInBounds n x).getD n undef = x := by simp [Array.getD, hlt]
      rw [this]; exact r
    · rw [if_neg e]
      have : (a.tmps.setIfInBounds d x).getD n undef = a.tmps.getD n undef := by
        simp only [Array.getD_eq_getD_getElem?, Array.getElem?_setIfInBounds_ne (Ne.symm e)]
      rw [this]; exact R n
theorem put_size (a : Act) (d : Option Nat) (x : Value) : (a.put d x).tmps.size = a.tmps.size := by cases d <;> simp [Act.put]
theorem put_defers' (a : Act) (d : Option Nat) (x : Value) : (a.put d x).defers = a.defers := by cases d <;> simp [Act.put]

/-- A guard: the abstract one tells what the model's does. -/
theorem guard_spec {N : Nat} {ops : Array Oper} {o : Oper} {ao : AOper} (hc : compOper X.P Y N ops o = some ao) {env : Env} {a : Act} (R : ∀ s t, ao.gd = some (s, t) → Rel X g w h (get env s) (a.tmps.getD s undef)) {A B : Prop} (hk : gdP ao.gd env A B) :
    (A ∧ Region.wanted o (yielded ops a.tmps) = true) ∨ (B ∧ Region.wanted o (yielded ops a.tmps) = false) := by
  unfold compOper at hc
  split at hc
  · split at hc
    · split at hc
      · rename_i hg
        simp at hc; subst hc
        exact .inl ⟨hk, by simp [Region.wanted, hg]⟩
      · rename_i j t hg
        split at hc
        · rename_i oj hj
          split at hc
          · rename_i s hs
            simp at hc; subst hc
            simp only [gdP] at hk
            have r := R s t rfl
            have hy : yielded ops a.tmps j = match (a.tmps[s]? : Option Value) with | some (.bool b) => some b | _ => none := by
              simp [yielded, hj, hs]; rfl
            generalize hv : get env s = v at r hk
            generalize hu : a.tmps.getD s undef = u at r
            have hu2 : ∀ b, u = .bool b → a.tmps[s]? = some (.bool b) := fun b hb => by
              rw [hb, Array.getD_eq_getD_getElem?] at hu
              cases hq : a.tmps[s]? with
              | none => rw [hq] at hu; simp [undef] at hu
              | some z => rw [hq] at hu; simp at hu; rw [hu]
            cases r with
            | bool b =>
              have hy2 : yielded ops a.tmps j = some b := by rw [hy, hu2 b rfl]
              by_cases hb : b = t
              · exact .inl ⟨hk.1 hb, by simp [Region.wanted, hg, hy2, hb]⟩
              · exact .inr ⟨hk.2 hb, by simp [Region.wanted, hg, hy2, hb]⟩
            | tup l cs hl hr =>
              cases l with
              | nil =>
                have : cs = #[] := by apply Array.eq_empty_of_size_eq_zero; simpa using hl.symm
                subst this
                have hy2 : yielded ops a.tmps j = none := by
                  rw [hy]
                  rw [Array.getD_eq_getD_getElem?] at hu
                  cases hq : a.tmps[s]? with
                  | none => rfl
                  | some z => rw [hq] at hu; simp at hu; rw [hu]
                exact .inr ⟨hk, by simp [Region.wanted, hg, hy2]⟩
              | cons _ _ => exact hk.elim
            | _ => exact hk.elim
          · simp at hc
        · simp at hc
    · simp at hc
  · simp at hc
theorem compOper_op {N : Nat} {ops : Array Oper} {o : Oper} {ao : AOper} (hc : compOper X.P Y N ops o = some ao) : compOp X.P Y o.op = some ao.op ∧ ao.dst = o.dst ∧ dstOk N o.dst = true := by
  unfold compOper at hc
  split at hc
  · rename_i hd
    split at hc
    · rename_i a ha
      split at hc
      · simp at hc; subst hc; exact ⟨ha, rfl, hd⟩
      · split at hc
        · split at hc
          · simp at hc; subst hc; exact ⟨ha, rfl, hd⟩
          · simp at hc
        · simp at hc
    · simp at hc
  · simp at hc

/-- What stands together: environment, world, temporaries. -/
structure Hold (X : Cx) (N : Nat) (g : Gh) (w : World) (h : AH) (env : Env) (a : Act) : Prop where
  env : EnvRel X g w h env a
  inv : Inv X g w h
  size : a.tmps.size = N
  defers : a.defers = []

theorem opers_sound (hY : X.tbl = Y.tbl) {N : Nat} {ops : Array Oper} {Qc : Exit → Act → World → Prop} : ∀ (l : List Oper) (m : List AOper), compOpers X.P Y N ops l = some m →
    ∀ {g : Gh} {w : World} {h : AH} {env : Env} {a : Act} {K : Env → AH → Prop}, Hold X N g w h env a → awpOps (Ecx X) m env h K →
    (∀ env' h' g' w' a', K env' h' → Hold X N g' w' h' env' a' → Stp g w h g' w' h' → Qc .normal a' w') → wpList X.P ops Qc l a w
  | [], m, hc, g, w, h, env, a, K, H, hk, hq => by
    simp [compOpers] at hc; subst hc
    exact wpList_nil (hq env h g w a hk H (Stp.refl _ _ _))
  | o :: l, m, hc, g, w, h, env, a, K, H, hk, hq => by
    unfold compOpers at hc
    split at hc
    · rename_i ao m' h1 h2
      simp at hc; subst hc
      obtain ⟨c1, c2, c3⟩ := compOper_op h1
      simp only [awpOps] at hk
      refine wpList_step fun K' hK' => ?_
      rcases guard_spec h1 (fun s _ _ => H.env s) hk with ⟨hk, hw⟩ | ⟨hk, hw⟩
      · rw [if_pos hw]
        refine op_sound hY c1 (fun x _ y hy => co_rel hY H.env hy) H.inv hk fun v h' x g' w' k I' r S => hK' _ _ ?_
        refine opers_sound hY l m' h2 (K := K) ⟨?_, I', by rw [put_size]; exact H.size, by rw [put_defers']; exact H.defers⟩ k fun env' h'' g'' w'' a' k' H' S' => hq env' h'' g'' w'' a' k' H' (S.trans S')
        rw [c2]; exact (H.env.stp S).put H.size c3 r
      · rw [if_neg (by simp [hw])]
        refine hK' _ _ ?_
        refine opers_sound hY l m' h2 (K := K) ⟨?_, H.inv, by rw [put_size]; exact H.size, by rw [put_defers']; exact H.defers⟩ hk hq
        rw [c2]; exact H.env.put H.size c3 (.tup [] #[] rfl (by simp))
    · simp at hc
end
end Go.Proofs.Ytpnbdnmmfaomlaa.Al
