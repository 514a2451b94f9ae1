/-
  The abstract layer, part 10: code and functions: what the abstract code says, the model's code does. Conditions: none.
-/
import Derived.Test.YtpnbdnmmfaomlaaAlDraw
import Derived.Scope
namespace Go.Proofs.Ytpnbdnmmfaomlaa.Al
open Go Go.RowKit
set_option linter.unusedSimpArgs false
set_option linter.unusedVariables false

section
variable {X : Cx} {Y : Keys}

def exOf : Ex → Exit
  | .nrm => .normal
  | .ret => .ret
  | .exit n => .exit n

theorem draw_sound (hm : X.P.follows .mixedOrders = true) (hY : X.tbl = Y.tbl) {N : Nat} {ops : Array Oper} {l : List AOper} (hc : compOpers X.P Y N ops ops.toList = some l) (h1 : drawOk Y ops (kinds Y ops l) = true) (h2 : edgesDown ops = true)
    {g : Gh} {w : World} {h : AH} {env : Env} {a : Act} {K : Env → AH → Prop} {Qc : Exit → Act → World → Prop} {id : Nat} (H : Hold X N g w h env a) (hk : awpD (Ecx X) (kinds Y ops l) env h [] [] K)
    (hq : ∀ env' h' g' w' a', K env' h' → Hold X N g' w' h' env' a' → Stp g w h g' w' h' → Qc .normal a' w') : (Code.region id ops true).wp X.P Qc a w := by
  obtain ⟨ε, η, val, rfl, rfl, T, kK⟩ := trace _ _ _ _ hk
  have hc : compOpers X.P Y N ops ops.toList = some ((kinds Y ops l).map (·.2)) := by rw [hc, kinds_snd]
  generalize kinds Y ops l = l at *
  have Pr := pairs_of hc h1 h2
  refine wp_region_any hm ?_
  have hrep : ∀ i, (Array.replicate ops.size false).getD i true = true → ¬ i < ops.size := fun i h hi => by simp [Array.getD, hi] at h
  refine any_order hY hc Pr T (g0 := g) (w0 := w) (fun g' w' a' H' S' => hq _ _ g' w' a' kK H' S') ops.size _ g _ 0 a ?_ ?_
  · have : ∀ (b : Array Bool) k, cnt b k ≤ k := fun b k => by
      induction k with
      | zero => simp [cnt]
      | succ k ih => simp only [cnt]; split <;> omega
    exact this _ _
  · exact
      { sz := by simp
        closed := fun j hj hl => absurd hj (hrep j hl)
        mle := Nat.zero_le _
        eff := fun i hi _ => ⟨fun hl => absurd (by rw [← Pr.len]; exact hi) (hrep i hl), fun hl => by omega⟩
        inv := H.inv.drew
        stp := Stp.drew g w _
        slots := fun t => .inr ⟨fun i hi hl => absurd (by rw [← Pr.len]; exact hi) (hrep i hl), (H.env t).drew⟩
        size := H.size
        defers := H.defers }

theorem comp_inv {P : Program} {N : Nat} {A : AC} {c : Code} (h : comp P Y N c = some A) :
    (A = .skip ∧ (c = .skip ∨ ∃ l, c = .label l)) ∨ (A = .ret ∧ c = .ret) ∨ (∃ n, A = .exit n ∧ c = .exit n) ∨
    (∃ x y a b, A = .seq x y ∧ c = .seq a b ∧ comp P Y N a = some x ∧ comp P Y N b = some y) ∨
    (∃ z x y k a b, A = .cond z x y ∧ c = .cond k a b ∧ co Y k = some z ∧ comp P Y N a = some x ∧ comp P Y N b = some y) ∨
    (∃ n x a, A = .block n x ∧ c = .block n a ∧ comp P Y N a = some x) ∨ (∃ x a, A = .loop x ∧ c = .loop a ∧ comp P Y N a = some x) ∨
    (∃ x a, A = .scope x ∧ c = .scope a ∧ comp P Y N a = some x) ∨
    (∃ l id ops, A = .reg l ∧ c = .region id ops false ∧ compOpers P Y N ops ops.toList = some l) ∨
    (∃ l id ops, A = .draw (kinds Y ops l) ∧ c = .region id ops true ∧ compOpers P Y N ops ops.toList = some l ∧ drawOk Y ops (kinds Y ops l) = true ∧ edgesDown ops = true) := by
  cases c with
  | skip => simp [comp] at h; subst h; simp
  | label l => simp [comp] at h; subst h; simp
  | ret => simp [comp] at h; subst h; simp
  | exit n => simp [comp] at h; subst h; simp
  | seq a b =>
    simp only [comp] at h
    split at h
    · rename_i x y h1 h2; simp at h; subst h; right; right; right; left; exact ⟨x, y, a, b, rfl, rfl, h1, h2⟩
    · simp at h
  | cond k a b =>
    simp only [comp] at h
    split at h
    · rename_i z x y h1 h2 h3; simp at h; subst h; right; right; right; right; left; exact ⟨z, x, y, k, a, b, rfl, rfl, h1, h2, h3⟩
    · simp at h
  | block n a =>
    simp only [comp] at h
    split at h
    · rename_i x h1; simp at h; subst h; right; right; right; right; right; left; exact ⟨n, x, a, rfl, rfl, h1⟩
    · simp at h
  | loop a =>
    simp only [comp] at h
    split at h
    · rename_i x h1; simp at h; subst h; right; right; right; right; right; right; left; exact ⟨x, a, rfl, rfl, h1⟩
    · simp at h
  | scope a =>
    simp only [comp] at h
    split at h
    · rename_i x h1; simp at h; subst h; right; right; right; right; right; right; right; left; exact ⟨x, a, rfl, rfl, h1⟩
    · simp at h
  | region id ops d =>
    simp only [comp] at h
    split at h
    · rename_i l h1
      cases d with
      | false => simp at h; subst h; right; right; right; right; right; right; right; right; left; exact ⟨l, id, ops, rfl, rfl, h1⟩
      | true =>
        simp only at h
        split at h
        · rename_i hh
          simp only [Bool.and_eq_true] at hh
          simp at h; subst h
          right; right; right; right; right; right; right; right; right
          exact ⟨l, id, ops, rfl, rfl, h1, hh.1, hh.2⟩
        · simp at h
    · simp at h
  | _ => simp [comp] at h

theorem keepE_rel {g : Gh} {w : World} {h : AH} {env : Env} {a : Act} (l : List Nat) (R : EnvRel X g w h env a) : EnvRel X g w h (keepE l env) a := fun n => by
  have : get (keepE l env) n = get env n ∨ get (keepE l env) n = .undef := by
    induction l with
    | nil => exact .inr rfl
    | cons i l ih =>
      simp only [keepE, List.map_cons, get]
      by_cases e : n = i
      · rw [if_pos e, e]; exact .inl rfl
      · rw [if_neg e]; exact ih
  rcases this with e | e
  · rw [e]; exact R n
  · rw [e]; exact .undef _

theorem code_sound (hm : X.P.follows .mixedOrders = true) (hY : X.tbl = Y.tbl) {N : Nat} : ∀ (A : AC) (c : Code), comp X.P Y N c = some A.strip →
    ∀ {g : Gh} {w : World} {h : AH} {env : Env} {a : Act} {Q : Ex → Env → AH → Prop} {Qc : Exit → Act → World → Prop}, Hold X N g w h env a → awp (Ecx X) A env h Q →
    (∀ e env' h' g' w' a', Q e env' h' → Hold X N g' w' h' env' a' → Stp g w h g' w' h' → Qc (exOf e) a' w') → c.wp X.P Qc a w
  | .skip, c, hc, g, w, h, env, a, Q, Qc, H, hk, hq => by
    simp only [AC.strip] at hc
    rcases comp_inv hc with ⟨_, rfl | ⟨l, rfl⟩⟩ | ⟨h1, _⟩ | ⟨_, h1, _⟩ | ⟨_, _, _, _, h1, _⟩ | ⟨_, _, _, _, _, _, h1, _⟩ | ⟨_, _, _, h1, _⟩ | ⟨_, _, h1, _⟩ | ⟨_, _, h1, _⟩ | ⟨_, _, _, h1, _⟩ | ⟨_, _, _, h1, _⟩ <;> first | cases h1 | skip
    · exact wp_skip (hq .nrm env h g w a hk H (Stp.refl _ _ _))
    · exact wp_label (hq .nrm env h g w a hk H (Stp.refl _ _ _))
  | .ret, c, hc, g, w, h, env, a, Q, Qc, H, hk, hq => by
    simp only [AC.strip] at hc
    rcases comp_inv hc with ⟨h1, _⟩ | ⟨_, rfl⟩ | ⟨_, h1, _⟩ | ⟨_, _, _, _, h1, _⟩ | ⟨_, _, _, _, _, _, h1, _⟩ | ⟨_, _, _, h1, _⟩ | ⟨_, _, h1, _⟩ | ⟨_, _, h1, _⟩ | ⟨_, _, _, h1, _⟩ | ⟨_, _, _, h1, _⟩ <;> first | cases h1 | skip
    exact wp_ret (hq .ret env h g w a hk H (Stp.refl _ _ _))
  | .exit n, c, hc, g, w, h, env, a, Q, Qc, H, hk, hq => by
    simp only [AC.strip] at hc
    rcases comp_inv hc with ⟨h1, _⟩ | ⟨h1, _⟩ | ⟨_, h1, rfl⟩ | ⟨_, _, _, _, h1, _⟩ | ⟨_, _, _, _, _, _, h1, _⟩ | ⟨_, _, _, h1, _⟩ | ⟨_, _, h1, _⟩ | ⟨_, _, h1, _⟩ | ⟨_, _, _, h1, _⟩ | ⟨_, _, _, h1, _⟩ <;> cases h1
    exact wp_exit (hq (.exit n) env h g w a hk H (Stp.refl _ _ _))
  | .seq A B, c, hc, g, w, h, env, a, Q, Qc, H, hk, hq => by
    simp only [AC.strip] at hc
    rcases comp_inv hc with ⟨h1, _⟩ | ⟨h1, _⟩ | ⟨_, h1, _⟩ | ⟨x, y, a1, b1, h1, rfl, hx, hy⟩ | ⟨_, _, _, _, _, _, h1, _⟩ | ⟨_, _, _, h1, _⟩ | ⟨_, _, h1, _⟩ | ⟨_, _, h1, _⟩ | ⟨_, _, _, h1, _⟩ | ⟨_, _, _, h1, _⟩ <;> cases h1
    refine wp_seq (code_sound hm hY A a1 hx H hk fun e env' h' g' w' a' q H' S => ?_)
    cases e with
    | nrm => exact code_sound hm hY B b1 hy H' q fun e env'' h'' g'' w'' a'' q' H'' S' => hq e env'' h'' g'' w'' a'' q' H'' (S.trans S')
    | ret => exact hq .ret env' h' g' w' a' q H' S
    | exit n => exact hq (.exit n) env' h' g' w' a' q H' S
  | .cond z A B, c, hc, g, w, h, env, a, Q, Qc, H, hk, hq => by
    simp only [AC.strip] at hc
    rcases comp_inv hc with ⟨h1, _⟩ | ⟨h1, _⟩ | ⟨_, h1, _⟩ | ⟨_, _, _, _, h1, _⟩ | ⟨z', x, y, k, a1, b1, h1, rfl, hz, hx, hy⟩ | ⟨_, _, _, h1, _⟩ | ⟨_, _, h1, _⟩ | ⟨_, _, h1, _⟩ | ⟨_, _, _, h1, _⟩ | ⟨_, _, _, h1, _⟩ <;> cases h1
    simp only [awp] at hk
    have r := co_rel hY H.env hz
    generalize hv : ev env z = v at r hk
    generalize hu : a.eval k = u at r
    cases r <;> first | exact hk.elim | skip
    rename_i b
    exact wp_cond_split hu (fun hb => code_sound hm hY A a1 hx H (hk.1 hb) hq) (fun hb => code_sound hm hY B b1 hy H (hk.2 hb) hq)
  | .block n A, c, hc, g, w, h, env, a, Q, Qc, H, hk, hq => by
    simp only [AC.strip] at hc
    rcases comp_inv hc with ⟨h1, _⟩ | ⟨h1, _⟩ | ⟨_, h1, _⟩ | ⟨_, _, _, _, h1, _⟩ | ⟨_, _, _, _, _, _, h1, _⟩ | ⟨n', x, a1, h1, rfl, hx⟩ | ⟨_, _, h1, _⟩ | ⟨_, _, h1, _⟩ | ⟨_, _, _, h1, _⟩ | ⟨_, _, _, h1, _⟩ <;> cases h1
    refine wp_block (code_sound hm hY A a1 hx H hk fun e env' h' g' w' a' q H' S => ?_)
    cases e with
    | nrm => exact hq .nrm env' h' g' w' a' q H' S
    | ret => exact hq .ret env' h' g' w' a' q H' S
    | exit m =>
      simp only [exOf, Exit.inBlock]
      simp only at q
      by_cases e : m = n
      · rw [if_pos e] at q ⊢; exact hq .nrm env' h' g' w' a' q H' S
      · rw [if_neg e] at q ⊢; exact hq (.exit m) env' h' g' w' a' q H' S
  | .loop A, c, hc, g, w, h, env, a, Q, Qc, H, hk, hq => by
    simp only [AC.strip] at hc
    rcases comp_inv hc with ⟨h1, _⟩ | ⟨h1, _⟩ | ⟨_, h1, _⟩ | ⟨_, _, _, _, h1, _⟩ | ⟨_, _, _, _, _, _, h1, _⟩ | ⟨_, _, _, h1, _⟩ | ⟨x, a1, h1, rfl, hx⟩ | ⟨_, _, h1, _⟩ | ⟨_, _, _, h1, _⟩ | ⟨_, _, _, h1, _⟩ <;> cases h1
    obtain ⟨n, hk⟩ := hk
    refine wp_loop_rounds n ?_
    have key : ∀ n g' w' h' env' a', iter (awp (Ecx X) A) n env' h' Q → Hold X N g' w' h' env' a' → Stp g w h g' w' h' → Code.rounds X.P a1 Qc n a' w' := by
      intro n
      induction n with
      | zero => intro _ _ _ _ _ hk; exact hk.elim
      | succ n ih =>
        intro g' w' h' env' a' hk H' S
        rw [rounds_succ]
        refine code_sound hm hY A a1 hx H' hk fun e env'' h'' g'' w'' a'' q H'' S' => ?_
        cases e with
        | nrm => exact ih g'' w'' h'' env'' a'' q H'' (S.trans S')
        | ret => exact hq .ret env'' h'' g'' w'' a'' q H'' (S.trans S')
        | exit m => exact hq (.exit m) env'' h'' g'' w'' a'' q H'' (S.trans S')
    exact key n g w h env a hk H (Stp.refl _ _ _)
  | .scope A, c, hc, g, w, h, env, a, Q, Qc, H, hk, hq => by
    simp only [AC.strip] at hc
    rcases comp_inv hc with ⟨h1, _⟩ | ⟨h1, _⟩ | ⟨_, h1, _⟩ | ⟨_, _, _, _, h1, _⟩ | ⟨_, _, _, _, _, _, h1, _⟩ | ⟨_, _, _, h1, _⟩ | ⟨_, _, h1, _⟩ | ⟨x, a1, h1, rfl, hx⟩ | ⟨_, _, _, h1, _⟩ | ⟨_, _, _, h1, _⟩ <;> cases h1
    refine wp_scope_straight (code_sound hm hY A a1 hx H hk fun e env' h' g' w' a' q H' S => ?_)
    cases e with
    | nrm => exact hq .nrm env' h' g' w' a' q H' S
    | ret => exact hq .ret env' h' g' w' a' q H' S
    | exit m => exact hq (.exit m) env' h' g' w' a' q H' S
  | .reg l, c, hc, g, w, h, env, a, Q, Qc, H, hk, hq => by
    simp only [AC.strip] at hc
    rcases comp_inv hc with ⟨h1, _⟩ | ⟨h1, _⟩ | ⟨_, h1, _⟩ | ⟨_, _, _, _, h1, _⟩ | ⟨_, _, _, _, _, _, h1, _⟩ | ⟨_, _, _, h1, _⟩ | ⟨_, _, h1, _⟩ | ⟨_, _, h1, _⟩ | ⟨l', id, ops, h1, rfl, hx⟩ | ⟨_, _, _, h1, _⟩ <;> cases h1
    exact wp_region_list (opers_sound hY ops.toList l hx H hk fun env' h' g' w' a' q H' S => hq .nrm env' h' g' w' a' q H' S)
  | .draw l, c, hc, g, w, h, env, a, Q, Qc, H, hk, hq => by
    simp only [AC.strip] at hc
    rcases comp_inv hc with ⟨h1, _⟩ | ⟨h1, _⟩ | ⟨_, h1, _⟩ | ⟨_, _, _, _, h1, _⟩ | ⟨_, _, _, _, _, _, h1, _⟩ | ⟨_, _, _, h1, _⟩ | ⟨_, _, h1, _⟩ | ⟨_, _, h1, _⟩ | ⟨_, _, _, h1, _⟩ | ⟨l', id, ops, h1, rfl, hx, d1, d2⟩ <;> cases h1
    exact draw_sound hm hY hx d1 d2 H hk fun env' h' g' w' a' q H' S => hq .nrm env' h' g' w' a' q H' S
  | .keep l A, c, hc, g, w, h, env, a, Q, Qc, H, hk, hq => by
    simp only [AC.strip] at hc
    exact code_sound hm hY A c hc ⟨keepE_rel l H.env, H.inv, H.size, H.defers⟩ hk hq
  | .post A l, c, hc, g, w, h, env, a, Q, Qc, H, hk, hq => by
    simp only [AC.strip] at hc
    refine code_sound hm hY A c hc H hk fun e env' h' g' w' a' q H' S => ?_
    cases e with
    | nrm => exact hq .nrm _ h' g' w' a' q ⟨keepE_rel l H'.env, H'.inv, H'.size, H'.defers⟩ S
    | ret => exact hq .ret env' h' g' w' a' q H' S
    | exit m => exact hq (.exit m) env' h' g' w' a' q H' S

/-! ### Functions -/
theorem initEnv_get : ∀ (l : List V) (i n : Nat), get (initEnv i l) n = if i ≤ n ∧ n < i + l.length then l.getD (n - i) .undef else .undef
  | [], i, n => by simp [initEnv, get]
  | v :: l, i, n => by
    simp only [initEnv, get]
    by_cases e : n = i
    · subst e; simp
    · rw [if_neg e, initEnv_get l (i + 1) n]
      by_cases h1 : i + 1 ≤ n ∧ n < i + 1 + l.length
      · rw [if_pos h1, if_pos (by simp; omega), show n - i = (n - (i + 1)) + 1 by omega]; simp
      · rw [if_neg h1, if_neg (by simp; omega)]

def resOne (tmps : Array Value) : ResultVar → Sem Value
  | .tmp t => Pure.pure (tmps.getD t undef)
  | .cell a t => do loadVar t (← asAddr (tmps.getD a undef))
def tupC : List Value → Value
  | [v] => v
  | l => .tuple l.toArray
theorem resP_run {g : Gh} {w : World} {h : AH} {env : Env} {a : Act} (R : EnvRel X g w h env a) (I : Inv X g w h) : ∀ {l : List ResultVar} {r : List (Nat × Option (Bool × Nat))}, resSlots X.P l = some r →
    ∀ {acc : List V} {cs : List Value} {K : V → Prop}, acc.length = cs.length → (∀ i (h1 : i < acc.length) (h2 : i < cs.length), Rel X g w h (acc[i]) (cs[i])) → resP env h r acc K →
    ∃ us v, (l.mapM (resOne a.tmps)).run X.P w = .ok us w ∧ K v ∧ Rel X g w h v (tupC (cs.reverse ++ us))
  | [], r, e, acc, cs, K, hl, hr, hk => by
    simp [resSlots] at e; subst e
    refine ⟨[], _, by simp, hk, ?_⟩
    rw [List.append_nil]
    have hl' : acc.reverse.length = cs.reverse.length := by simpa using hl
    have hr' : ∀ i (h1 : i < acc.reverse.length) (h2 : i < cs.reverse.length), Rel X g w h (acc.reverse[i]) (cs.reverse[i]) := fun i h1 h2 => by
      simp only [List.getElem_reverse]
      have := hr (acc.length - 1 - i) (by simp at h1; omega) (by simp at h1; omega)
      simp only [hl] at this ⊢; exact this
    generalize acc.reverse = A at hl' hr'
    generalize cs.reverse = C at hl' hr'
    match A, C, hl', hr' with
    | [], [], _, _ => exact .tup [] #[] rfl (by simp)
    | [v], [c], _, hr' => exact hr' 0 (by simp) (by simp)
    | v1 :: v2 :: A, c1 :: c2 :: C, hl', hr' => exact .tup _ _ (by simpa using hl') (fun i h1 h2 => by have := hr' i h1 (by simpa using h2); simpa using this)
  | .tmp t :: l, r, e, acc, cs, K, hl, hr, hk => by
    simp only [resSlots] at e
    split at e
    · rename_i r' h1
      simp at e; subst e
      simp only [resP] at hk
      obtain ⟨us, v, e1, k, rv⟩ := resP_run R I h1 (acc := get env t :: acc) (cs := a.tmps.getD t undef :: cs) (by simp [hl]) (fun i h1 h2 => by
        cases i with
        | zero => exact R t
        | succ i => exact hr i (by simpa using h1) (by simpa using h2)) hk
      refine ⟨a.tmps.getD t undef :: us, v, ?_, k, by simpa using rv⟩
      simp [List.mapM_cons, resOne] at e1 ⊢
      simp [e1]
    · simp at e
  | .cell t ty :: l, r, e, acc, cs, K, hl, hr, hk => by
    simp only [resSlots] at e
    split at e
    · rename_i gg n r' h1 h2 h3
      simp at e; subst e
      simp only [resP] at hk
      have rt := R t
      generalize hv : get env t = v0 at rt hk
      generalize hu : a.tmps.getD t undef = u0 at rt
      cases rt <;> first | exact hk.elim | skip
      rename_i o off hn
      obtain ⟨v1, u1, e0, r1, hk⟩ := load_obj h1 h2 I hn hk
      obtain ⟨us, v, e1, k, rv⟩ := resP_run R I h3 (acc := v1 :: acc) (cs := u1 :: cs) (by simp [hl]) (fun i h1 h2 => by
        cases i with
        | zero => exact r1
        | succ i => exact hr i (by simpa using h1) (by simpa using h2)) hk
      refine ⟨u1 :: us, v, ?_, k, by simpa using rv⟩
      simp only [List.mapM_cons, resOne, hu, asAddr, Sem.run_bind, Sem.run_pure, Result.andThen_ok, e0, e1]
    · simp at e
theorem results_run {fn : Func} {g : Gh} {w : World} {h : AH} {env : Env} {a : Act} (R : EnvRel X g w h env a) (I : Inv X g w h) {r : List (Nat × Option (Bool × Nat))} (hr : resSlots X.P fn.results.toList = some r) {K : V → Prop} (hk : resP env h r [] K) :
    ∃ v u, (results fn a.tmps).run X.P w = .ok u w ∧ K v ∧ Rel X g w h v u := by
  obtain ⟨us, v, e1, k, rv⟩ := resP_run R I hr (cs := []) rfl (by simp) hk
  refine ⟨v, _, ?_, k, rv⟩
  unfold results
  change ((fn.results.mapM (resOne a.tmps) >>= fun vs => Pure.pure (if h : vs.size = 1 then vs[0] else .tuple vs)) : Sem Value).run X.P w = _
  rw [Array.mapM_eq_mapM_toList]
  simp only [List.reverse_nil, List.nil_append]
  match us, e1 with
  | [], e1 => simp [e1, tupC]
  | [t], e1 => simp [e1, tupC]
  | _ :: _ :: _, e1 => simp [e1, tupC]

theorem fn_sound (hm : X.P.follows .mixedOrders = true) (hY : X.tbl = Y.tbl) {k : Nat} {fn : Func} {f : AFn} (hf : X.P.funcs[X.tbl k]? = some fn) (hname : (fn.name == "runtime.NumGoroutine") = false)
    (hc : compFn X.P Y fn = some f.strip) : Has (Ecx X) k f := by
  intro args h Q ha g w cargs I rl
  unfold compFn at hc
  split at hc
  · rename_i c r hb hr
    split at hc
    · rename_i A hA
      simp only [AFn.strip, Option.some.injEq] at hc
      have e1 : fn.ntmps = f.n := by have := congrArg AFn.n hc; simpa using this
      have e2 : r = f.res := by have := congrArg AFn.res hc; simpa using this
      have e3 : A = f.body.strip := by have := congrArg AFn.body hc; simpa using this
      obtain ⟨hsz, ha⟩ := ha
      refine .inl ⟨fn, hf, hname, by simp [hb], ?_⟩
      refine calls_of_wp hf hb ?_
      refine code_sound hm hY (N := fn.ntmps) f.body c (by rw [hA, e3]) (g := g) (w := w) (h := h) ⟨fun n => ?_, I, ?_, rfl⟩ ha fun e env' h' g' w' a' q H S => ?_
      · rw [initEnv_get]
        split
        · rename_i hn
          have hn1 : n < args.length := by omega
          have hn2 : n < cargs.size := by rw [← rl.1]; exact hn1
          have : (cargs ++ Array.replicate (fn.ntmps - cargs.size) undef).getD n undef = cargs[n] := by
            simp [Array.getD_eq_getD_getElem?, Array.getElem?_append, hn2]
          simp only [this, Nat.sub_zero, List.getD, List.getElem?_eq_getElem hn1, Option.getD_some]
          exact rl.2 n hn1 hn2
        · exact .undef _
      · simp; have := rl.1; omega
      · have key : bodyPost X.P fn (fun e w' => ∃ x, e = .returned x ∧ ∃ r h' g', Q r h' ∧ Inv X g' w' h' ∧ Rel X g' w' h' r x ∧ Stp g w h g' w' h') .ret a' w' ∨ e ≠ .nrm ∧ e ≠ .ret := by
          by_cases he : e = .nrm ∨ e = .ret
          · left
            have q' : resP env' h' f.res [] fun v => Q v h' := by rcases he with rfl | rfl <;> exact q
            rw [← e2] at q'
            obtain ⟨v, u, hrun, q2, rv⟩ := results_run H.env H.inv hr q'
            exact ⟨H.defers, _, hrun, _, rfl, _, h', g', q2, H.inv, rv, S⟩
          · exact .inr ⟨fun h => he (.inl h), fun h => he (.inr h)⟩
        rcases key with k1 | ⟨k1, k2⟩
        · cases e with
          | nrm => exact k1
          | ret => exact k1
          | exit n => exact q.elim
        · cases e with
          | nrm => exact absurd rfl k1
          | ret => exact absurd rfl k2
          | exit n => exact q.elim
    · simp at hc
  · simp at hc

/-! ### Behind a call: forgetting what is of no use -/
inductive Wk : V → V → Prop
  | same (v : V) : Wk v v
  | sl (e st : Nat) (l : List V) : Wk (.sl e st l) (.sl e 0 l)
  | nil (e e' st : Nat) : Wk (.sl e st []) (.sl e' 0 [])
  | tup (l m : List V) (hl : l.length = m.length) (h : ∀ i (h1 : i < l.length) (h2 : i < m.length), Wk (l[i]) (m[i])) : Wk (.tup l) (.tup m)
  | agg (l m : List V) (hl : l.length = m.length) (h : ∀ i (h1 : i < l.length) (h2 : i < m.length), Wk (l[i]) (m[i])) : Wk (.agg l) (.agg m)
  | undef (v : V) : Wk v .undef
theorem Rel.wk {g : Gh} {w : World} {h : AH} (n3 : 3 ≤ h.next) (ht : h.tips 0 = none) {v v' : V} (k : Wk v v') : ∀ {x : Value}, Rel X g w h v x → Rel X g w h v' x := by
  induction k with
  | same v => exact fun r => r
  | sl e st l =>
    intro x r
    cases r with
    | slnil e st hst => exact .slnil e 0 (by omega)
    | slemp e a => exact .slemp e a
    | sl _ _ _ b off cap xf k1 ks kcap ke kc ko kp kr k2 k3 => exact .sl e 0 l b off cap xf (by omega) (by omega) kcap ke kc ko kp kr (by omega) (fun e' he => by rw [ht] at he; cases he)
  | nil e e' st =>
    intro x r
    cases r with
    | slnil _ _ hst => exact .slnil e' 0 (by omega)
    | slemp _ a => exact .slemp e' a
    | sl _ _ _ b off cap xf k1 ks kcap ke kc ko kp kr k2 k3 => exact .sl e' 0 [] b off cap xf (by omega) (by omega) kcap (by simp) (by simp) (by simp) (by simpa using kp) (by simp) (by omega) (fun e' he => by rw [ht] at he; cases he)
  | tup l m hl _ ih =>
    intro x r
    cases r with
    | tup _ cs hl' hr => exact .tup m cs (by omega) (fun i h1 h2 => ih i (by omega) h1 (hr i (by omega) h2))
  | agg l m hl _ ih =>
    intro x r
    cases r with
    | agg _ cs hl' ho hr => exact .agg m cs (by omega) ho (fun i h1 h2 => ih i (by omega) h1 (hr i (by omega) h2))
  | undef v => exact fun r => .undef _

theorem Bdd.mono {n m n' m' : Nat} (hn : n ≤ n') (hm : m ≤ m') {v : V} (b : Bdd n m v) : Bdd n' m' v := by
  induction b with
  | bool b => exact .bool b
  | int k i => exact .int k i
  | str s => exact .str s
  | sl e st l hs hl ih => exact .sl e st l (by omega) ih
  | agg l hl ih => exact .agg l ih
  | ptr o off ho => exact .ptr o off (by omega)
  | rptr l off hl ih => exact .rptr l off ih
  | nilp => exact .nilp
  | fn f a b h1 h2 ih1 ih2 => exact .fn f a b ih1 ih2
  | nilf => exact .nilf
  | tup l hl ih => exact .tup l ih
  | undef => exact .undef

/-- Lists, weaker thing by thing. -/
inductive WkL : List V → List V → Prop
  | nil : WkL [] []
  | cons {a b : V} {l m : List V} (h : Wk a b) (t : WkL l m) : WkL (a :: l) (b :: m)
theorem WkL.refl : ∀ l : List V, WkL l l
  | [] => .nil
  | a :: l => .cons (.same a) (WkL.refl l)
theorem WkL.get {l m : List V} (h : WkL l m) : l.length = m.length ∧ ∀ i (h1 : i < l.length) (h2 : i < m.length), Wk (l[i]) (m[i]) := by
  induction h with
  | nil => exact ⟨rfl, fun i h1 => by simp at h1⟩
  | cons h t ih =>
    refine ⟨by simp [ih.1], fun i h1 h2 => ?_⟩
    cases i with
    | zero => exact h
    | succ i => exact ih.2 i (by simpa using h1) (by simpa using h2)
/-- From h a call has come to h1; h2 is what one still wants to know of h1. -/
structure HW (h h1 h2 : AH) : Prop where
  next : h.next ≤ h2.next ∧ h2.next ≤ h1.next
  nobj : h.nobj ≤ h2.nobj ∧ h2.nobj ≤ h1.nobj
  tips : ∀ s e, h2.tips s = some e → h1.tips s = some e ∧ (s < h2.next ∨ h.tips s = some e)
  objs : ∀ o, o < h2.nobj → WkL (h1.objs o) (h2.objs o) ∧ ((o < h.nobj ∧ h2.objs o = h.objs o) ∨ ∀ v ∈ h2.objs o, Bdd h2.next h2.nobj v)

theorem Ecx.weak {k : Nat} {args : List V} {h : AH} {Q : V → AH → Prop}
    (c : Ecx X k args h fun r h1 => ∃ r' h2, Wk r r' ∧ HW h h1 h2 ∧ Bdd h2.next h2.nobj r' ∧ Q r' h2) : Ecx X k args h Q := by
  intro g w cargs I rl
  refine (c g w cargs I rl).mono ?_
  rintro x w' ⟨r, h1, g', ⟨r', h2, hw, W, B, q⟩, I', rx, S⟩
  have n3 : 3 ≤ h2.next := Nat.le_trans I.next W.next.1
  have tips0 : ∀ h' : AH, ∀ g w, Inv X g w h' → h'.tips 0 = none := fun h' g w J => by
    cases hq : h'.tips 0 with
    | none => rfl
    | some e => have := (J.tipB 0 e hq).1; omega
  have ht : ∀ s e, h2.tips s = some e → h1.tips s = some e := fun s e he => (W.tips s e he).1
  have hs : ∀ s e, h2.tips s = some e → s < h2.next := fun s e he => by
    rcases (W.tips s e he).2 with a | a
    · exact a
    · exact Nat.lt_of_lt_of_le (I.tipB s e a).2.1 W.next.1
  have hbd : ∀ o, o < h2.nobj → ∀ v ∈ h2.objs o, Bdd h2.next h2.nobj v := fun o ho v hv => by
    rcases (W.objs o ho).2 with ⟨a, b⟩ | a
    · obtain ⟨cs, t, _, k2, _, k4⟩ := I.objs o a
      rw [b] at hv
      obtain ⟨i, hi, rfl⟩ := List.getElem_of_mem hv
      exact (k4 i hi (by omega)).bdd.mono W.next.1 W.nobj.1
    · exact a v hv
  have S2 : Stp g w h g' w' h2 :=
    { next := W.next.1
      nobj := W.nobj.1
      obj := S.obj
      pub := S.pub
      cell := S.cell
      tip := fun s hs e he => S.tip s hs e (ht s e he)
      row := fun s hs e he => S.row s hs e (ht s e he) }
  refine ⟨r', h2, g', q, ?_, ?_, S2⟩
  · exact
      { below := I'.below
        next := n3
        objs := fun o ho => by
          obtain ⟨cs, t, k1, k2, k3, k4⟩ := I'.objs o (Nat.lt_of_lt_of_le ho W.nobj.2)
          obtain ⟨e1, e2⟩ := (W.objs o ho).1.get
          refine ⟨cs, t, k1, by rw [← e1]; exact k2, k3, fun i i1 i2 => ?_⟩
          have hb := hbd o ho _ (List.getElem_mem i1)
          exact (Rel.wk I'.next (tips0 h1 g' w' I') (e2 i (by omega) i1) (k4 i (by omega) i2)).shrink n3 ht hb
        objB := fun o ho => I'.objB o (Nat.lt_of_lt_of_le ho W.nobj.2)
        objI := fun o o' a b => I'.objI o o' (Nat.lt_of_lt_of_le a W.nobj.2) (Nat.lt_of_lt_of_le b W.nobj.2)
        tipB := fun s e he => by
          obtain ⟨a, b, c, d⟩ := I'.tipB s e (ht s e he)
          exact ⟨a, hs s e he, c, d⟩
        tipI := fun s e s' e' a b => I'.tipI s e s' e' (ht _ _ a) (ht _ _ b)
        tipO := fun o s e ho he => I'.tipO o s e (Nat.lt_of_lt_of_le ho W.nobj.2) (ht _ _ he)
        pubB := I'.pubB }
  · exact (Rel.wk I'.next (tips0 h1 g' w' I') hw rx).shrink n3 ht B

/-- A heap that has only grown. -/
structure Gr (h h1 : AH) : Prop where
  next : h.next ≤ h1.next
  nobj : h.nobj ≤ h1.nobj
  objs : ∀ o, o < h.nobj → h1.objs o = h.objs o
  tips : ∀ s, s < h.next → h1.tips s = h.tips s
theorem Gr.refl (h : AH) : Gr h h := ⟨Nat.le_refl _, Nat.le_refl _, fun _ _ => rfl, fun _ _ => rfl⟩
theorem Gr.trans {a b c : AH} (x : Gr a b) (y : Gr b c) : Gr a c :=
  ⟨Nat.le_trans x.next y.next, Nat.le_trans x.nobj y.nobj, fun o ho => (y.objs o (Nat.lt_of_lt_of_le ho x.nobj)).trans (x.objs o ho), fun s hs => (y.tips s (Nat.lt_of_lt_of_le hs x.next)).trans (x.tips s hs)⟩

/-- A call that only makes things leaves, but for its result, what was. -/
theorem Ecx.pure {k : Nat} {args : List V} {h : AH} {Q : V → AH → Prop} (c : Ecx X k args h fun r h1 => Gr h h1 ∧ ∃ r', Wk r r' ∧ Bdd h.next h.nobj r' ∧ Q r' h) : Ecx X k args h Q := by
  refine Ecx.weak ?_
  intro g w cargs I rl
  refine (c g w cargs I rl).mono ?_
  rintro x w' ⟨r, h1, g', ⟨G, r', hw, B, q⟩, I', rx, S⟩
  refine ⟨r, h1, g', ⟨r', h, hw, ⟨⟨Nat.le_refl _, G.next⟩, ⟨Nat.le_refl _, G.nobj⟩, fun s e he => ⟨?_, .inr he⟩, fun o ho => ⟨by rw [G.objs o ho]; exact WkL.refl _, .inl ⟨ho, rfl⟩⟩⟩, B, q⟩, I', rx, S⟩
  rw [G.tips s (I.tipB s e he).2.1]; exact he

/-- What is true of any heap that holds. -/
structure Wf (h : AH) : Prop where
  next : 3 ≤ h.next
  tips : ∀ s e, h.tips s = some e → 3 ≤ s ∧ s < h.next
  objs : ∀ o, o < h.nobj → ∀ v ∈ h.objs o, Bdd h.next h.nobj v
theorem Inv.wf {g : Gh} {w : World} {h : AH} (I : Inv X g w h) : Wf h :=
  ⟨I.next, fun s e he => ⟨(I.tipB s e he).1, (I.tipB s e he).2.1⟩, fun o ho v hv => by
    obtain ⟨cs, t, _, k2, _, k4⟩ := I.objs o ho
    obtain ⟨i, hi, rfl⟩ := List.getElem_of_mem hv
    exact (k4 i hi (by omega)).bdd⟩
theorem Ecx.wf {k : Nat} {args : List V} {h : AH} {Q : V → AH → Prop} (c : Wf h → Ecx X k args h Q) : Ecx X k args h Q :=
  fun g w cargs I rl => c I.wf g w cargs I rl
theorem Ecx.bdd {k : Nat} {args : List V} {h : AH} {Q : V → AH → Prop} (c : (∀ v ∈ args, Bdd h.next h.nobj v) → Ecx X k args h Q) : Ecx X k args h Q :=
  fun g w cargs I rl => c (fun v hv => by
    obtain ⟨i, hi, rfl⟩ := List.getElem_of_mem hv
    exact (rl.2 i hi (by have := rl.1; omega)).bdd) g w cargs I rl
end
end Go.Proofs.Ytpnbdnmmfaomlaa.Al
