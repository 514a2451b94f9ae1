/-
  The abstract layer, C: rules and a lazy walk for proofs about abstract code; functions that the model answers itself. Conditions: none.
-/
import Derived.Test.YtajaoldljichaaaAlB
import Derived.IntWalk
import Derived.Lib.Bytealg
namespace Go.Proofs.Ytajaoldljichaaa.Al
open Go Go.RowKit
set_option linter.unusedSimpArgs false
set_option linter.unusedVariables false

section
variable {X : Cx}

/-! ### Loops -/
/-- A loop by an invariant that counts down. -/
theorem loop_rule {f : Env → AH → (Ex → Env → AH → Prop) → Prop} (hmono : ∀ env h Q Q', f env h Q → (∀ e env' h', Q e env' h' → Q' e env' h') → f env h Q') {Q : Ex → Env → AH → Prop} (I : Nat → Env → AH → Prop)
    (round : ∀ n env h, I n env h → f env h fun e env' h' => match e with
      | .nrm => ∃ m, m < n ∧ I m env' h'
      | .ret => Q .ret env' h'
      | .exit m => Q (.exit m) env' h') :
    ∀ n env h, I n env h → ∃ k, iter f k env h Q := by
  have key : ∀ n k, n < k → ∀ env h, I n env h → iter f k env h Q := by
    intro n
    induction n using Nat.strongRecOn with
    | _ n ih =>
      intro k hk env h hI
      obtain ⟨k, rfl⟩ : ∃ j, k = j + 1 := ⟨k - 1, by omega⟩
      refine hmono _ _ _ _ (round n env h hI) fun e env' h' hq => ?_
      cases e with
      | nrm => obtain ⟨m, hm, hI'⟩ := hq; exact ih m hm k (by omega) env' h' hI'
      | ret => exact hq
      | exit m => exact hq
  exact fun n env h hI => ⟨n + 1, key n (n + 1) (by omega) env h hI⟩

theorem gdP.mono {gd : Option (Nat × Bool)} {env : Env} {A B A' B' : Prop} (hk : gdP gd env A B) (ha : A → A') (hb : B → B') : gdP gd env A' B' := by
  rcases gdP_cases hk with ⟨a, k⟩ | ⟨b, k⟩
  · exact k _ _ (ha a)
  · exact k _ _ (hb b)

theorem nilK.mono {neg : Bool} {st : Nat} {l : List V} {K K' : Bool → Prop} (h : nilK neg st l K) (hk : ∀ b, K b → K' b) : nilK neg st l K' := by
  unfold nilK at *
  split
  · rename_i q; rw [if_pos q] at h; exact hk _ h
  · rename_i q; rw [if_neg q] at h
    split
    · rename_i q2; rw [if_pos q2] at h; exact ⟨fun e => ⟨hk _ (h.1 e).1, hk _ (h.1 e).2⟩, fun e => hk _ (h.2 e)⟩
    · rename_i q2; rw [if_neg q2] at h; exact hk _ h

theorem appoK_mono {e sz : Nat} {z : List V} {x : V} {y : Option (Nat × Nat × List V)} {h : AH} {K K' : V → AH → Prop} (hK : ∀ v h', K v h' → K' v h') (hk : appoK e sz z x y h K) : appoK e sz z x y h K' := by
  unfold appoK at *
  cases y with
  | none => exact hk
  | some p =>
    obtain ⟨ey, m, mc⟩ := p
    simp only at *
    cases x <;> first | exact hk.elim | skip
    · exact ⟨hk.1, hk.2.1, fun e => hK _ _ (hk.2.2.1 e), fun e => ⟨(hk.2.2.2 e).1, (hk.2.2.2 e).2.1, hK _ _ (hk.2.2.2 e).2.2⟩⟩
    · exact ⟨fun e => hK _ _ (hk.1 e), fun e => ⟨(hk.2 e).1, (hk.2 e).2.1, (hk.2 e).2.2.1, (hk.2 e).2.2.2.1, (hk.2 e).2.2.2.2.1, hK _ _ (hk.2 e).2.2.2.2.2⟩⟩
theorem appgK_mono {e sz : Nat} {x : V} {y : Option (Nat × Nat × List V)} {h : AH} {K K' : V → AH → Prop} (hK : ∀ v h', K v h' → K' v h') (hk : appgK e sz x y h K) : appgK e sz x y h K' := by
  unfold appgK at *
  cases y with
  | none => exact hk
  | some p =>
    obtain ⟨ey, m, mc⟩ := p
    simp only at *
    cases x <;> first | exact hk.elim | skip
    · exact ⟨hk.1, hk.2.1, hk.2.2.1, hk.2.2.2.1, hk.2.2.2.2.1, fun c e => hK _ _ (hk.2.2.2.2.2 c e)⟩
    · exact ⟨hk.1, hk.2.1, hk.2.2.1, hk.2.2.2.1, hk.2.2.2.2.1, hk.2.2.2.2.2.1, fun e => hK _ _ (hk.2.2.2.2.2.2.1 e), fun e c e' => hK _ _ (hk.2.2.2.2.2.2.2 e c e')⟩
theorem lkpK_mono {e : KK} {z : V} {ok : Bool} {x key : V} {h : AH} {K K' : V → AH → Prop} (hK : ∀ v h', K v h' → K' v h') (hk : lkpK e z ok x key h K) : lkpK e z ok x key h K' := by
  unfold lkpK at *
  cases x <;> first | exact hk.elim | skip
  all_goals
    simp only at *
    split
    · rename_i r q; rw [q] at hk; exact hK _ _ hk
    · rename_i q; rw [q] at hk; exact hk
theorem mupK_mono {e : KK} {x key v : V} {h : AH} {K K' : V → AH → Prop} (hK : ∀ v h', K v h' → K' v h') (hk : mupK e x key v h K) : mupK e x key v h K' := by
  unfold mupK at *
  cases x <;> first | exact hk.elim | skip
  simp only at *
  split
  · rename_i q; rw [q] at hk; exact hK _ _ hk
  · rename_i q; rw [q] at hk; exact hK _ _ hk
  · rename_i q; rw [q] at hk; exact hk
theorem mentK_mono {e : KK} {z x key : V} {h : AH} {K K' : V → AH → Prop} (hK : ∀ v h', K v h' → K' v h') (hk : mentK e z x key h K) : mentK e z x key h K' := by
  unfold mentK at *
  cases x <;> first | exact hk.elim | skip
  simp only at *
  split
  · rename_i q; rw [q] at hk; exact hK _ _ hk
  · rename_i q; rw [q] at hk; exact hK _ _ hk
  · rename_i q; rw [q] at hk; exact hk
theorem mestK_mono {x s v : V} {h : AH} {K K' : V → AH → Prop} (hK : ∀ v h', K v h' → K' v h') (hk : mestK x s v h K) : mestK x s v h K' := by
  unfold mestK at *
  split
  · exact ⟨hk.1, hk.2.1, hk.2.2.1, hK _ _ hk.2.2.2⟩
  · rename_i q
    split at hk
    · exact absurd rfl (q _ _ rfl)
    · exact hk
theorem mlenK_mono {x : V} {h : AH} {K K' : V → AH → Prop} (hK : ∀ v h', K v h' → K' v h') (hk : mlenK x h K) : mlenK x h K' := by
  unfold mlenK at *
  cases x <;> first | exact hk.elim | exact hK _ _ hk | exact ⟨hk.1, hK _ _ hk.2⟩
theorem lkpK_det {e : KK} {z : V} {ok : Bool} {x key : V} {h : AH} {K : V → AH → Prop} (hk : lkpK e z ok x key h K) : ∃ v h', lkpK e z ok x key h (fun v' h'' => v' = v ∧ h'' = h') ∧ K v h' := by
  unfold lkpK at *
  cases x <;> first | exact hk.elim | skip
  all_goals
    simp only at *
    split at hk
    · exact ⟨_, _, ⟨rfl, rfl⟩, hk⟩
    · exact hk.elim
theorem mupK_det {e : KK} {x key u : V} {h : AH} {K : V → AH → Prop} (hk : mupK e x key u h K) : ∃ v h', mupK e x key u h (fun v' h'' => v' = v ∧ h'' = h') ∧ K v h' := by
  unfold mupK at *
  cases x <;> first | exact hk.elim | skip
  simp only at *
  split at hk
  · exact ⟨_, _, ⟨rfl, rfl⟩, hk⟩
  · exact ⟨_, _, ⟨rfl, rfl⟩, hk⟩
  · exact hk.elim
theorem mentK_det {e : KK} {z x key : V} {h : AH} {K : V → AH → Prop} (hk : mentK e z x key h K) : ∃ v h', mentK e z x key h (fun v' h'' => v' = v ∧ h'' = h') ∧ K v h' := by
  unfold mentK at *
  cases x <;> first | exact hk.elim | skip
  simp only at *
  split at hk
  · exact ⟨_, _, ⟨rfl, rfl⟩, hk⟩
  · exact ⟨_, _, ⟨rfl, rfl⟩, hk⟩
  · exact hk.elim
theorem mestK_det {x s u : V} {h : AH} {K : V → AH → Prop} (hk : mestK x s u h K) : ∃ v h', mestK x s u h (fun v' h'' => v' = v ∧ h'' = h') ∧ K v h' := by
  unfold mestK at *
  split at hk
  · exact ⟨_, _, ⟨hk.1, hk.2.1, hk.2.2.1, rfl, rfl⟩, hk.2.2.2⟩
  · exact hk.elim
theorem mlenK_det {x : V} {h : AH} {K : V → AH → Prop} (hk : mlenK x h K) : ∃ v h', mlenK x h (fun v' h'' => v' = v ∧ h'' = h') ∧ K v h' := by
  unfold mlenK at *
  cases x <;> first | exact hk.elim | exact ⟨_, _, ⟨rfl, rfl⟩, hk⟩ | exact ⟨_, _, ⟨hk.1, rfl, rfl⟩, hk.2⟩
theorem AOp.wp_mono {ρ : AO → V} {h : AH} {K K' : V → AH → Prop} (hK : ∀ v h', K v h' → K' v h') {o : AOp} (hk : o.wp (Ecx X) ρ h K) : o.wp (Ecx X) ρ h K' := by
  have hload : ∀ gg n c off h, loadC gg n c off (fun v => K v h) → loadC gg n c off (fun v => K' v h) := fun gg n c off h hh => by
    cases gg <;> exact ⟨hh.1, hK _ _ hh.2⟩
  cases o with
  | alloc z => exact hK _ _ hk
  | alct t n z => exact hK _ _ hk
  | box x => exact ⟨hk.1, hK _ _ hk.2⟩
  | load gg n x =>
    simp only [AOp.wp] at *
    generalize ρ x = v at *
    cases v <;> first | exact hk.elim | exact hload _ _ _ _ _ hk
  | store n x v =>
    simp only [AOp.wp] at *
    generalize ρ x = u at *
    cases u <;> first | exact hk.elim | exact ⟨hk.1, hk.2.1, hk.2.2.1, hK _ _ hk.2.2.2⟩
  | mks e sz c =>
    simp only [AOp.wp] at *
    generalize ρ c = u at *
    cases u <;> first | exact hk.elim | skip
    rename_i k n
    cases k <;> first | exact hk.elim | exact ⟨hk.1, hk.2.1, hK _ _ hk.2.2⟩
  | app e sz x y =>
    simp only [AOp.wp] at *
    generalize ρ x = u at *
    generalize ρ y = v at *
    cases u <;> cases v <;> first | exact hk.elim | exact ⟨fun e => hK _ _ (hk.1 e), fun e => ⟨(hk.2 e).1, (hk.2 e).2.1, (hk.2 e).2.2.1, (hk.2 e).2.2.2.1, hK _ _ (hk.2 e).2.2.2.2⟩⟩
  | apps t x y =>
    simp only [AOp.wp] at *
    split at hk
    · exact ⟨fun e => hK _ _ (hk.1 e), fun e => ⟨(hk.2 e).1, hK _ _ (hk.2 e).2⟩⟩
    · exact ⟨hk.1, fun e => hK _ _ (hk.2.1 e), fun e => ⟨(hk.2.2 e).1, (hk.2.2 e).2.1, (hk.2.2 e).2.2.1, (hk.2.2 e).2.2.2.1, hK _ _ (hk.2.2 e).2.2.2.2⟩⟩
    · exact hk.elim
  | mkso e sz z a c =>
    simp only [AOp.wp] at *
    split at hk
    · exact ⟨hk.1, hk.2.1, hk.2.2.1, hK _ _ hk.2.2.2⟩
    · exact hk.elim
  | bslo e g z n parts =>
    simp only [AOp.wp] at *
    split
    · rename_i q; simp only [q] at hk; exact hK _ _ hk
    · rename_i q; simp only [q] at hk
  | appo e sz z x y => exact appoK_mono (z := z) hK hk
  | appg e sz x y => exact appgK_mono hK hk
  | mkm => exact hK _ _ hk
  | lkp e z ok x k => exact lkpK_mono hK hk
  | mupd e x k v => exact mupK_mono hK hk
  | ment e z x k => exact mentK_mono hK hk
  | mest x s v => exact mestK_mono hK hk
  | mlen x => exact mlenK_mono hK hk
  | call f l =>
    simp only [AOp.wp] at *
    generalize ρ f = u at *
    cases u <;> first | exact hk.elim | exact Ecx.mono hk hK | skip
    rename_i c
    simp only [yldK] at *
    cases hy : yldOf c with
    | none => rw [hy] at hk; exact hk
    | some l => rw [hy] at hk; exact Ecx.mono hk hK
  | _ => exact wp_heap (Y := ⟨id, id, fun _ => false, fun _ => false⟩) rfl hk (fun v hv => hK v h hv)

theorem awpOps_mono : ∀ {l : List AOper} {env : Env} {h : AH} {K K' : Env → AH → Prop}, (∀ e h', K e h' → K' e h') → awpOps (Ecx X) l env h K → awpOps (Ecx X) l env h K'
  | [], _, _, _, _, hK, hk => hK _ _ hk
  | o :: r, env, h, K, K', hK, hk => by
    simp only [awpOps] at *
    exact gdP.mono hk (AOp.wp_mono fun v h' hh => awpOps_mono hK hh) (awpOps_mono hK)
theorem awpD_mono : ∀ {l : List (DK × AOper)} {env : Env} {h : AH} {H : List AH} {L : List (AH → Prop)} {K K' : Env → AH → Prop}, (∀ e h', K e h' → K' e h') → awpD (Ecx X) l env h H L K → awpD (Ecx X) l env h H L K'
  | [], _, _, _, _, _, _, hK, hk => hK _ _ hk
  | (.pl, o) :: r, env, h, H, L, K, K', hK, hk => by
    simp only [awpD] at *
    exact gdP.mono hk (fun ⟨v, a, c⟩ => ⟨v, a, awpD_mono hK c⟩) (awpD_mono hK)
  | (.eff, o) :: r, env, h, H, L, K, K', hK, hk => by
    simp only [awpD] at *
    exact gdP.mono hk (fun ⟨v, h', a, b, c⟩ => ⟨v, h', a, b, awpD_mono hK c⟩) (awpD_mono hK)
  | (.fl, o) :: r, env, h, H, L, K, K', hK, hk => by
    simp only [awpD] at *
    exact gdP.mono hk (fun ⟨v, a, b, c⟩ => ⟨v, a, b, awpD_mono hK c⟩) (awpD_mono hK)
  | (.efo, o) :: r, env, h, H, L, K, K', hK, hk => by
    simp only [awpD] at *
    exact gdP.mono hk (fun ⟨v, h', a, b⟩ => ⟨v, h', a, awpD_mono hK b⟩) (awpD_mono hK)
/-- What holds of every heap is owed by nobody. -/
theorem awpD_L : ∀ {l : List (DK × AOper)} {env : Env} {h : AH} {H : List AH} {L L' : List (AH → Prop)} {K : Env → AH → Prop}, (∀ c ∈ L', c ∈ L ∨ ∀ h, c h) → awpD (Ecx X) l env h H L K → awpD (Ecx X) l env h H L' K
  | [], _, _, _, _, _, _, _, hk => hk
  | (.pl, o) :: r, env, h, H, L, L', K, hL, hk => by
    simp only [awpD] at *
    exact gdP.mono hk (fun ⟨v, a, c⟩ => ⟨v, a, awpD_L hL c⟩) (awpD_L hL)
  | (.eff, o) :: r, env, h, H, L, L', K, hL, hk => by
    simp only [awpD] at *
    exact gdP.mono hk (fun ⟨v, h', a, b, c⟩ => ⟨v, h', a, fun c' hc => (hL c' hc).elim (b c') (fun q => q _), awpD_L hL c⟩) (awpD_L hL)
  | (.fl, o) :: r, env, h, H, L, L', K, hL, hk => by
    simp only [awpD] at *
    exact gdP.mono hk (fun ⟨v, a, b, c⟩ => ⟨v, a, b, awpD_L (fun c' hc => by
      rcases List.mem_cons.1 hc with rfl | hc
      · exact .inl (List.mem_cons_self ..)
      · exact (hL c' hc).imp (List.mem_cons_of_mem _) id) c⟩) (awpD_L hL)
  | (.efo, o) :: r, env, h, H, L, L', K, hL, hk => by
    simp only [awpD] at *
    exact gdP.mono hk (fun ⟨v, h', a, b⟩ => ⟨v, h', a, b⟩) (awpD_L hL)
theorem iter_mono {f : Env → AH → (Ex → Env → AH → Prop) → Prop} (hmono : ∀ env h Q Q', f env h Q → (∀ e env' h', Q e env' h' → Q' e env' h') → f env h Q') {Q Q' : Ex → Env → AH → Prop}
    (hq : ∀ e env h, Q e env h → Q' e env h) : ∀ n env h, iter f n env h Q → iter f n env h Q'
  | 0, _, _, hk => hk.elim
  | n + 1, env, h, hk => hmono _ _ _ _ hk fun e env' h' hh => by
    cases e with
    | nrm => exact iter_mono hmono hq n _ _ hh
    | ret => exact hq _ _ _ hh
    | exit m => exact hq _ _ _ hh
theorem awp_mono : ∀ {A : AC} {env : Env} {h : AH} {Q Q' : Ex → Env → AH → Prop}, awp (Ecx X) A env h Q → (∀ e env' h', Q e env' h' → Q' e env' h') → awp (Ecx X) A env h Q'
  | .skip, _, _, _, _, hk, hq => hq _ _ _ hk
  | .ret, _, _, _, _, hk, hq => hq _ _ _ hk
  | .exit n, _, _, _, _, hk, hq => hq _ _ _ hk
  | .seq A B, env, h, Q, Q', hk, hq => awp_mono (A := A) hk fun e env' h' hh => by
    cases e with
    | nrm => exact awp_mono (A := B) hh hq
    | ret => exact hq _ _ _ hh
    | exit m => exact hq _ _ _ hh
  | .cond c A B, env, h, Q, Q', hk, hq => by
    simp only [awp] at *
    generalize ev env c = v at *
    cases v <;> first | exact hk.elim | exact ⟨fun e => awp_mono (A := A) (hk.1 e) hq, fun e => awp_mono (A := B) (hk.2 e) hq⟩
  | .block n A, env, h, Q, Q', hk, hq => awp_mono (A := A) hk fun e env' h' hh => by
    cases e with
    | nrm => exact hq _ _ _ hh
    | ret => exact hq _ _ _ hh
    | exit m =>
      simp only at hh ⊢
      split
      · rename_i q; rw [if_pos q] at hh; exact hq _ _ _ hh
      · rename_i q; rw [if_neg q] at hh; exact hq _ _ _ hh
  | .loop A, env, h, Q, Q', ⟨n, hk⟩, hq => ⟨n, iter_mono (f := awp (Ecx X) A) (fun _ _ _ _ a b => awp_mono (A := A) a b) hq n env h hk⟩
  | .scope A, _, _, _, _, hk, hq => awp_mono (A := A) hk hq
  | .reg l, _, _, _, _, hk, hq => awpOps_mono (fun _ _ hh => hq _ _ _ hh) hk
  | .draw l, _, _, _, _, hk, hq => awpD_mono (fun _ _ hh => hq _ _ _ hh) hk
  | .drawP l, _, _, _, _, hk, hq => hk
  | .keep l A, _, _, _, _, hk, hq => awp_mono (A := A) hk hq
  | .post A l, _, _, _, _, hk, hq => awp_mono (A := A) hk fun e env' h' hh => by
    cases e with
    | nrm => exact hq _ _ _ hh
    | ret => exact hq _ _ _ hh
    | exit m => exact hq _ _ _ hh

/-- A loop of abstract code. -/
theorem awp_loop {A : AC} {Q : Ex → Env → AH → Prop} (I : Nat → Env → AH → Prop)
    (round : ∀ n env h, I n env h → awp (Ecx X) A env h fun e env' h' => match e with
      | .nrm => ∃ m, m < n ∧ I m env' h'
      | .ret => Q .ret env' h'
      | .exit m => Q (.exit m) env' h') {n : Nat} {env : Env} {h : AH} (hI : I n env h) : awp (Ecx X) (.loop A) env h Q :=
  loop_rule (f := awp (Ecx X) A) (fun _ _ _ _ a b => awp_mono (A := A) a b) I round n env h hI

/-- What a piece of code does, told apart. -/
theorem awp_cut {A B : AC} {env : Env} {h : AH} {Q : Ex → Env → AH → Prop} (M : Env → AH → Prop) (h1 : awp (Ecx X) A env h fun e env' h' => match e with
      | .nrm => M env' h'
      | .ret => Q .ret env' h'
      | .exit m => Q (.exit m) env' h') (h2 : ∀ env' h', M env' h' → awp (Ecx X) B env' h' Q) : awp (Ecx X) (.seq A B) env h Q :=
  awp_mono (A := A) h1 fun e env' h' hh => by
    cases e with
    | nrm => exact h2 _ _ hh
    | ret => exact hh
    | exit m => exact hh

/-! ### Results -/
/-- A slice that this call has made from the heap h0 on, and may append to: cells e of an element, e1 as it says itself. -/
structure Own (h0 h : AH) (e e1 st : Nat) (l : List V) : Prop where
  gr : Gr h0 h
  el : l = [] ∨ e1 = e
  st : st = 1 ∨ st = 2 ∨ (h.tips st = some e ∧ h0.next ≤ st)

theorem Gr.new {h0 h : AH} (G : Gr h0 h) (z : List V) : Gr h0 (h.new z) :=
  ⟨G.next, Nat.le_succ_of_le G.nobj, fun o ho => by rw [← G.objs o ho]; exact updN_ne _ _ (by have := G.nobj; omega), G.tips⟩
theorem Gr.set {h0 h : AH} (G : Gr h0 h) {o : Nat} (ho : h0.nobj ≤ o) (z : List V) : Gr h0 (h.set o z) :=
  ⟨G.next, G.nobj, fun o' ho' => by rw [← G.objs o' ho']; exact updN_ne _ _ (by omega), G.tips⟩
theorem Gr.push {h0 h : AH} (G : Gr h0 h) {st : Nat} (hs : st ≤ 2 ∨ h0.next ≤ st) (e : Nat) : Gr h0 (h.push st e) := by
  refine ⟨by rw [push_next]; have := G.next; omega, by rw [push_nobj]; exact G.nobj, fun o ho => by rw [push_objs]; exact G.objs o ho, fun s hs' => ?_⟩
  have hne : s ≠ h.next := by have := G.next; omega
  rw [← G.tips s hs']
  unfold AH.push
  split
  · exact updN_ne _ _ hne
  · have e1 : ((h.drop st).grow e).tips s = (h.drop st).tips s := updN_ne _ _ hne
    rw [e1]; exact updN_ne _ _ (by omega)

theorem Own.app {h0 h : AH} {e e1 st : Nat} {l : List V} (o : Own h0 h e e1 st l) {sz e2 : Nat} {m : List V} (he : m ≠ [] → e2 = e) (hb : (l.length + m.length) * sz ≤ 2 ^ 46) {K : V → AH → Prop}
    (hk : ∀ e1' st' h', Own h0 h' e e1' st' (l ++ m) → h'.objs = h.objs → h'.nobj = h.nobj → K (.sl e1' st' (l ++ m)) h') : appK e sz e1 st l e2 m h K := by
  refine ⟨fun hm => ?_, fun hm => ⟨?_, o.el, he hm, hb, ?_⟩⟩
  · subst hm
    have := hk e1 st h (by simpa using o) rfl rfl
    simpa using this
  · rcases o.st with h1 | h1 | h1
    · exact .inl h1
    · exact .inr (.inl h1)
    · exact .inr (.inr h1.1)
  · refine hk e h.next _ ⟨o.gr.push ?_ e, .inr rfl, .inr (.inr ⟨push_new h st e, o.gr.next⟩)⟩ (push_objs h st e) (push_nobj h st e)
    rcases o.st with h1 | h1 | h1
    · omega
    · omega
    · exact .inr h1.2
theorem Own.nil (h : AH) (e : Nat) : Own h h e 0 1 [] := ⟨Gr.refl h, .inl rfl, .inl rfl⟩
theorem Own.full {h0 h : AH} (G : Gr h0 h) (e : Nat) (l : List V) : Own h0 h e e 2 l := ⟨G, .inr rfl, .inr (.inl rfl)⟩
theorem Own.wk {h0 h : AH} {e e1 st : Nat} {l : List V} (o : Own h0 h e e1 st l) : Wk (.sl e1 st l) (.sl e 0 l) := by
  rcases o.el with rfl | rfl
  · exact .nil _ _ _
  · exact .sl _ _ _

@[simp] theorem Bdd_bool (n m : Nat) (b : Bool) : Bdd n m (.bool b) := .bool b
@[simp] theorem Bdd_int (n m : Nat) (k : IntKind) (i : Int) : Bdd n m (.int k i) := .int k i
@[simp] theorem Bdd_str (n m : Nat) (s : List UInt8) : Bdd n m (.str s) := .str s
@[simp] theorem Bdd_nilp (n m : Nat) : Bdd n m .nilp := .nilp
@[simp] theorem Bdd_nilf (n m : Nat) : Bdd n m .nilf := .nilf
@[simp] theorem Bdd_sl0 (n m e st : Nat) (l : List V) : Bdd n m (.sl e st l) ↔ (st ≤ 2 ∨ st < n) ∧ ∀ v ∈ cellsOf l, Bdd n m v :=
  ⟨fun h => by cases h with | sl _ _ _ a b => exact ⟨a, b⟩, fun h => .sl _ _ _ h.1 h.2⟩
@[simp] theorem Bdd_agg (n m : Nat) (l : List V) : Bdd n m (.agg l) ↔ ∀ v ∈ l, Bdd n m v := ⟨fun h => by cases h with | agg _ b => exact b, .agg l⟩
@[simp] theorem Bdd_tup (n m : Nat) (l : List V) : Bdd n m (.tup l) ↔ ∀ v ∈ l, Bdd n m v := ⟨fun h => by cases h with | tup _ b => exact b, .tup l⟩
@[simp] theorem Bdd_mapr (n m o : Nat) : Bdd n m (.mapr o) ↔ o < m := ⟨fun h => by cases h with | mapr _ b => exact b, .mapr o⟩
@[simp] theorem Bdd_mapn (n m : Nat) : Bdd n m .mapn := .mapn
@[simp] theorem Bdd_osl (n m e o off ln cp : Nat) : Bdd n m (.osl e o off ln cp) ↔ o < m := ⟨fun h => by cases h with | osl _ _ _ _ _ b => exact b, .osl e o off ln cp⟩
@[simp] theorem Bdd_ptr (n m o off : Nat) : Bdd n m (.ptr o off) ↔ o < m := ⟨fun h => by cases h with | ptr _ _ b => exact b, .ptr o off⟩

/-- The end of a function that makes nothing. -/
theorem done {h : AH} {v : V} {Q : V → AH → Prop} (hb : Bdd h.next h.nobj v) (hq : Q v h) : Gr h h ∧ ∃ r', Wk v r' ∧ Bdd h.next h.nobj r' ∧ Q r' h := ⟨Gr.refl h, v, .same v, hb, hq⟩
theorem wrap_i64 {x : Int} (h0 : -9223372036854775808 ≤ x) (h1 : x ≤ 9223372036854775807) : IntKind.i64.wrap x = x := IntWalk.i64_in x ⟨h0, h1⟩
theorem wrap_u64 {x : Int} (h0 : 0 ≤ x) (h1 : x ≤ 18446744073709551615) : IntKind.u64.wrap x = x := IntWalk.u64_in x ⟨h0, h1⟩
theorem wrap_u8' {x : Int} (h0 : 0 ≤ x) (h1 : x ≤ 255) : IntKind.u8.wrap x = x := IntWalk.u8_in x ⟨h0, h1⟩
theorem wrap_u32 {x : Int} (h0 : 0 ≤ x) (h1 : x ≤ 4294967295) : IntKind.u32.wrap x = x := IntWalk.u32_in x ⟨h0, h1⟩
/-- A function that only makes things. -/
theorem fn_pure {k : Nat} {f : AFn} (H : Has (Ecx X) k f) {args : List V} {h : AH} {Q : V → AH → Prop} (hl : args.length ≤ f.n)
    (hk : Wf h → awp (Ecx X) f.body (initEnv 0 args) h fun e env h1 => match e with
      | .nrm => resP env h1 f.res [] fun v => Gr h h1 ∧ ∃ r', Wk v r' ∧ Bdd h.next h.nobj r' ∧ Q r' h
      | .ret => resP env h1 f.res [] fun v => Gr h h1 ∧ ∃ r', Wk v r' ∧ Bdd h.next h.nobj r' ∧ Q r' h
      | .exit _ => False) : Ecx X k args h Q :=
  Ecx.pure (Ecx.wf fun w => H _ _ _ ⟨hl, hk w⟩)
end

/-! ### Equations for a walk -/
section
variable (E : Sig) (env : Env) (h : AH) (Q : Ex → Env → AH → Prop) (K : Env → AH → Prop)
@[simp] theorem awp_skip : awp E .skip env h Q = Q .nrm env h := rfl
@[simp] theorem awp_ret : awp E .ret env h Q = Q .ret env h := rfl
@[simp] theorem awp_exit (n : Nat) : awp E (.exit n) env h Q = Q (.exit n) env h := rfl
@[simp] theorem awp_seq (a b : AC) : awp E (.seq a b) env h Q = awp E a env h fun e env' h' => match e with
    | .nrm => awp E b env' h' Q
    | .ret => Q .ret env' h'
    | .exit m => Q (.exit m) env' h' := rfl
@[simp] theorem awp_cond (c : AO) (a b : AC) : awp E (.cond c a b) env h Q = match ev env c with
    | .bool t => (t = true → awp E a env h Q) ∧ (t = false → awp E b env h Q)
    | _ => False := rfl
@[simp] theorem awp_block (n : Nat) (a : AC) : awp E (.block n a) env h Q = awp E a env h fun e env' h' => match e with
    | .nrm => Q .nrm env' h'
    | .ret => Q .ret env' h'
    | .exit m => if m = n then Q .nrm env' h' else Q (.exit m) env' h' := rfl
@[simp] theorem awp_scope (a : AC) : awp E (.scope a) env h Q = awp E a env h Q := rfl
@[simp] theorem awp_reg (l : List AOper) : awp E (.reg l) env h Q = awpOps E l env h (Q .nrm) := rfl
@[simp] theorem awp_draw (l : List (DK × AOper)) : awp E (.draw l) env h Q = awpD E l env h [] [] (Q .nrm) := rfl
@[simp] theorem awp_drawP (l : List (DK × AOper)) : awp E (.drawP l) env h Q = awpD E l env h [] [] (fun _ _ => True) := rfl
@[simp] theorem awp_keep (l : List Nat) (a : AC) : awp E (.keep l a) env h Q = awp E a (keepE l env) h Q := rfl
@[simp] theorem awp_post (a : AC) (l : List Nat) : awp E (.post a l) env h Q = awp E a env h fun e env' h' => match e with
    | .nrm => Q .nrm (keepE l env') h'
    | .ret => Q .ret env' h'
    | .exit m => Q (.exit m) env' h' := rfl
@[simp] theorem awpOps_nil : awpOps E [] env h K = K env h := rfl
@[simp] theorem awpOps_cons (o : AOper) (r : List AOper) : awpOps E (o :: r) env h K =
    gdP o.gd env (o.op.wp E (ev env) h fun v h' => awpOps E r (put env o.dst v) h' K) (awpOps E r (put env o.dst (.tup [])) h K) := rfl
@[simp] theorem awpD_nil (H : List AH) (L : List (AH → Prop)) : awpD E [] env h H L K = K env h := rfl
@[simp] theorem gdP_none (A B : Prop) : gdP none env A B = A := rfl
@[simp] theorem gdP_some (s : Nat) (t : Bool) (A B : Prop) : gdP (some (s, t)) env A B = match get env s with
    | .bool b => (b = t → A) ∧ (b ≠ t → B)
    | .tup [] => B
    | _ => False := rfl
@[simp] theorem ev_t (n : Nat) : ev env (.t n) = get env n := rfl
@[simp] theorem ev_c (v : V) : ev env (.c v) = v := rfl
@[simp] theorem get_cons (i : Nat) (v : V) (n : Nat) : get ((i, v) :: env) n = if n = i then v else get env n := rfl
@[simp] theorem put_none (v : V) : put env none v = env := rfl
@[simp] theorem put_some (d : Nat) (v : V) : put env (some d) v = (d, v) :: env := rfl
@[simp] theorem keepE_nil : keepE [] env = [] := rfl
@[simp] theorem keepE_cons (i : Nat) (l : List Nat) : keepE (i :: l) env = (i, get env i) :: keepE l env := rfl
@[simp] theorem initEnv_nil (i : Nat) : initEnv i [] = [] := rfl
@[simp] theorem initEnv_cons (i : Nat) (v : V) (l : List V) : initEnv i (v :: l) = (i, v) :: initEnv (i + 1) l := rfl
end

/-! ### A region whose order is open, walked -/
/-- Has one answer, and one only. -/
def detOp : AOp → Bool
  | .call .. => false
  | .isnil .. => false
  | .mv .. => true
  | .pick .. => true
  | .alloc .. => true
  | .alct .. => true
  | .apps .. => true
  | .box .. => true
  | .bld .. => true
  | .bsl .. => true
  | .load .. => true
  | .store .. => true
  | .nilchk .. => true
  | .bin .. => true
  | .beq .. => true
  | .eqs .. => true
  | .mks .. => true
  | .un .. => true
  | .conv .. => true
  | .fa .. => true
  | .fld .. => true
  | .ia .. => true
  | .ixs .. => true
  | .ext .. => true
  | .mkfn .. => true
  | .slc .. => true
  | .slcs .. => true
  | .len .. => true
  | .app .. => true
  | .mm .. => true
  | .mkso .. => true
  | .bslo .. => true
  | .appo .. => true
  | .appg .. => false
  | .mkm => true
  | .lkp .. => true
  | .mupd .. => true
  | .ment .. => true
  | .mest .. => true
  | .mlen .. => true
  | .s2b .. => true
  | .mkif .. => true
@[simp] theorem detOp_mkif (t : Nat) (x : AO) : detOp (.mkif t x) = true := Eq.trans rfl rfl
@[simp] theorem detOp_s2b (x : AO) : detOp (.s2b x) = true := Eq.trans rfl rfl
@[simp] theorem detOp_mkm : detOp .mkm = true := Eq.trans rfl rfl
@[simp] theorem detOp_lkp (e : KK) (z : V) (ok : Bool) (x k : AO) : detOp (.lkp e z ok x k) = true := Eq.trans rfl rfl
@[simp] theorem detOp_mupd (e : KK) (x k v : AO) : detOp (.mupd e x k v) = true := Eq.trans rfl rfl
@[simp] theorem detOp_ment (e : KK) (z : V) (x k : AO) : detOp (.ment e z x k) = true := Eq.trans rfl rfl
@[simp] theorem detOp_mest (x s v : AO) : detOp (.mest x s v) = true := Eq.trans rfl rfl
@[simp] theorem detOp_mlen (x : AO) : detOp (.mlen x) = true := Eq.trans rfl rfl
@[simp] theorem detOp_mkso (e sz : Nat) (z : List V) (a c : AO) : detOp (.mkso e sz z a c) = true := Eq.trans rfl rfl
@[simp] theorem detOp_bslo (e : Nat) (g : Bool) (z : List V) (n : Nat) (ps : List (Nat × AO)) : detOp (.bslo e g z n ps) = true := Eq.trans rfl rfl
@[simp] theorem detOp_appo (e sz : Nat) (z : List V) (x y : AO) : detOp (.appo e sz z x y) = true := Eq.trans rfl rfl
@[simp] theorem detOp_mv (x : AO) : detOp (.mv x) = true := Eq.trans rfl rfl
@[simp] theorem detOp_pick (c a b : AO) : detOp (.pick c a b) = true := Eq.trans rfl rfl
@[simp] theorem detOp_alct (t n : Nat) (z : List V) : detOp (.alct t n z) = true := Eq.trans rfl rfl
@[simp] theorem detOp_apps (t : Nat) (x y : AO) : detOp (.apps t x y) = true := Eq.trans rfl rfl
@[simp] theorem detOp_alloc (z : List V) : detOp (.alloc z) = true := Eq.trans rfl rfl
@[simp] theorem detOp_box (x : AO) : detOp (.box x) = true := Eq.trans rfl rfl
@[simp] theorem detOp_load (g : Bool) (n : Nat) (x : AO) : detOp (.load g n x) = true := Eq.trans rfl rfl
@[simp] theorem detOp_store (n : Nat) (x v : AO) : detOp (.store n x v) = true := Eq.trans rfl rfl
@[simp] theorem detOp_nilchk (x : AO) : detOp (.nilchk x) = true := Eq.trans rfl rfl
@[simp] theorem detOp_bin (op : BinOp) (x y : AO) : detOp (.bin op x y) = true := Eq.trans rfl rfl
@[simp] theorem detOp_beq (neg : Bool) (x y : AO) : detOp (.beq neg x y) = true := Eq.trans rfl rfl
@[simp] theorem detOp_mks (e sz : Nat) (cap : AO) : detOp (.mks e sz cap) = true := Eq.trans rfl rfl
@[simp] theorem detOp_isnil (neg ptr : Bool) (x : AO) : detOp (.isnil neg ptr x) = false := Eq.trans rfl rfl
@[simp] theorem detOp_un (op : UnOp) (x : AO) : detOp (.un op x) = true := Eq.trans rfl rfl
@[simp] theorem detOp_conv (k : IntKind) (x : AO) : detOp (.conv k x) = true := Eq.trans rfl rfl
@[simp] theorem detOp_fa (off : Nat) (x : AO) : detOp (.fa off x) = true := Eq.trans rfl rfl
@[simp] theorem detOp_fld (g : Bool) (off n : Nat) (x : AO) : detOp (.fld g off n x) = true := Eq.trans rfl rfl
@[simp] theorem detOp_ia (e : Nat) (x i : AO) : detOp (.ia e x i) = true := Eq.trans rfl rfl
@[simp] theorem detOp_ixs (x i : AO) : detOp (.ixs x i) = true := Eq.trans rfl rfl
@[simp] theorem detOp_ext (x : AO) (i : Nat) : detOp (.ext x i) = true := Eq.trans rfl rfl
@[simp] theorem detOp_mkfn (f : Nat) (first cap : List AO) : detOp (.mkfn f first cap) = true := Eq.trans rfl rfl
@[simp] theorem detOp_slc (e : Nat) (x : AO) (lo hi : Option AO) : detOp (.slc e x lo hi) = true := Eq.trans rfl rfl
@[simp] theorem detOp_slcs (x : AO) (lo hi : Option AO) : detOp (.slcs x lo hi) = true := Eq.trans rfl rfl
@[simp] theorem detOp_len (str : Bool) (x : AO) : detOp (.len str x) = true := Eq.trans rfl rfl
@[simp] theorem detOp_app (e sz : Nat) (x y : AO) : detOp (.app e sz x y) = true := Eq.trans rfl rfl
@[simp] theorem detOp_mm (mx : Bool) (x y : AO) : detOp (.mm mx x y) = true := Eq.trans rfl rfl
@[simp] theorem detOp_call (f : AO) (args : List AO) : detOp (.call f args) = false := Eq.trans rfl rfl
theorem wp_det {E : Sig} {o : AOp} (hd : detOp o = true) {ρ : AO → V} {h : AH} {K : V → AH → Prop} (hk : o.wp E ρ h K) : ∃ v h', o.wp E ρ h (fun v' h'' => v' = v ∧ h'' = h') ∧ K v h' := by
  have hload : ∀ gg n c off (h : AH), loadC gg n c off (fun v => K v h) → ∃ v, loadC gg n c off (fun v' => v' = v ∧ h = h) ∧ K v h := fun gg n c off h hh => by
    cases gg <;> exact ⟨_, ⟨hh.1, rfl, rfl⟩, hh.2⟩
  have hbin : ∀ op k a b, binI op k a b (fun v => K v h) → ∃ v, binI op k a b (fun v' => v' = v ∧ h = h) ∧ K v h := fun op k a b hh => by
    cases op <;> first | exact hh.elim | exact ⟨_, ⟨rfl, rfl⟩, hh⟩ | exact ⟨_, ⟨hh.1, rfl, rfl⟩, hh.2⟩
  have hsh : ∀ op k a b, shI op k a b (fun v => K v h) → ∃ v, shI op k a b (fun v' => v' = v ∧ h = h) ∧ K v h := fun op k a b hh => by
    cases op <;> first | exact hh.elim | exact ⟨_, ⟨hh.1, rfl, rfl⟩, hh.2⟩
  have hstr : ∀ op a b, binS op a b (fun v => K v h) → ∃ v, binS op a b (fun v' => v' = v ∧ h = h) ∧ K v h := fun op a b hh => by
    cases op <;> first | exact hh.elim | exact ⟨_, ⟨rfl, rfl⟩, hh⟩ | exact ⟨_, ⟨hh.1, rfl, rfl⟩, hh.2⟩
  cases o with
  | call | isnil | appg => simp [detOp] at hd
  | mkm => exact ⟨_, _, ⟨rfl, rfl⟩, hk⟩
  | lkp e z ok x k => exact lkpK_det hk
  | mupd e x k v => exact mupK_det hk
  | ment e z x k => exact mentK_det hk
  | mest x s v => exact mestK_det hk
  | mlen x => exact mlenK_det hk
  | s2b x =>
    simp only [AOp.wp] at hk ⊢
    split at hk
    · exact ⟨_, _, ⟨rfl, rfl⟩, hk⟩
    · exact hk.elim
  | appo e sz z x y =>
    simp only [AOp.wp] at hk ⊢
    unfold appoK at hk ⊢
    split at hk
    · exact hk.elim
    · rename_i ey m mc q
      split at hk
      · by_cases hm : m = 0
        · exact ⟨_, _, ⟨hk.1, hk.2.1, fun _ => ⟨rfl, rfl⟩, fun h => absurd hm h⟩, hk.2.2.1 hm⟩
        · exact ⟨_, _, ⟨hk.1, hk.2.1, fun h => absurd h hm, fun _ => ⟨(hk.2.2.2 hm).1, (hk.2.2.2 hm).2.1, rfl, rfl⟩⟩, (hk.2.2.2 hm).2.2⟩
      · by_cases hm : m = 0
        · exact ⟨_, _, ⟨fun _ => ⟨rfl, rfl⟩, fun h => absurd hm h⟩, hk.1 hm⟩
        · obtain ⟨a, b, c, d, f, k⟩ := hk.2 hm
          exact ⟨_, _, ⟨fun h => absurd h hm, fun _ => ⟨a, b, c, d, f, rfl, rfl⟩⟩, k⟩
      · exact hk.elim
  | mkso e sz z a c =>
    simp only [AOp.wp] at hk ⊢
    split at hk
    · exact ⟨_, _, ⟨hk.1, hk.2.1, hk.2.2.1, rfl, rfl⟩, hk.2.2.2⟩
    · exact hk.elim
  | bslo e gg z n parts =>
    simp only [AOp.wp] at hk ⊢
    split at hk
    · exact ⟨_, _, ⟨rfl, rfl⟩, hk⟩
    · exact hk.elim
  | mv x => exact ⟨_, _, ⟨rfl, rfl⟩, hk⟩
  | alloc z => exact ⟨_, _, ⟨rfl, rfl⟩, hk⟩
  | alct t n z => exact ⟨_, _, ⟨rfl, rfl⟩, hk⟩
  | box x => exact ⟨_, _, ⟨hk.1, rfl, rfl⟩, hk.2⟩
  | mkfn f a b => exact ⟨_, _, ⟨rfl, rfl⟩, hk⟩
  | pick c a b =>
    simp only [AOp.wp] at hk ⊢
    generalize ρ c = u at hk ⊢
    cases u <;> first | exact hk.elim | skip
    rename_i t
    cases t
    · exact ⟨_, _, ⟨fun e => (by cases e), fun _ => ⟨rfl, rfl⟩⟩, hk.2 rfl⟩
    · exact ⟨_, _, ⟨fun _ => ⟨rfl, rfl⟩, fun e => (by cases e)⟩, hk.1 rfl⟩
  | bld z parts =>
    simp only [AOp.wp] at hk ⊢
    split at hk
    · exact ⟨_, _, ⟨rfl, rfl⟩, hk⟩
    · exact hk.elim
  | bsl e gg z n parts =>
    simp only [AOp.wp] at hk ⊢
    split at hk
    · exact ⟨_, _, ⟨rfl, rfl⟩, hk⟩
    · exact hk.elim
  | load gg n x =>
    simp only [AOp.wp] at hk ⊢
    generalize ρ x = u at hk ⊢
    cases u <;> first | exact hk.elim | skip
    · obtain ⟨v, a, b⟩ := hload _ _ _ _ h hk
      exact ⟨v, h, a, b⟩
    · obtain ⟨v, a, b⟩ := hload _ _ _ _ h hk
      exact ⟨v, h, a, b⟩
  | fld gg off n x =>
    simp only [AOp.wp] at hk ⊢
    generalize ρ x = u at hk ⊢
    cases u <;> first | exact hk.elim | skip
    obtain ⟨v, a, b⟩ := hload _ _ _ _ h hk
    exact ⟨v, h, a, b⟩
  | store n x v =>
    simp only [AOp.wp] at hk ⊢
    generalize ρ x = u at hk ⊢
    cases u <;> first | exact hk.elim | exact ⟨_, _, ⟨hk.1, hk.2.1, hk.2.2.1, rfl, rfl⟩, hk.2.2.2⟩
  | bin op x y =>
    simp only [AOp.wp] at hk ⊢
    generalize ρ x = v at hk ⊢
    generalize ρ y = u at hk ⊢
    cases v <;> cases u <;> first | exact hk.elim | skip
    · simp only at *
      split at hk
      · rename_i q
        obtain ⟨v, a, b⟩ := hsh _ _ _ _ hk
        exact ⟨v, h, by rw [if_pos q]; simpa using a, b⟩
      · rename_i q
        obtain ⟨v, a, b⟩ := hbin _ _ _ _ hk.2
        exact ⟨v, h, by rw [if_neg q]; exact ⟨hk.1, by simpa using a⟩, b⟩
    · obtain ⟨v, a, b⟩ := hstr _ _ _ hk
      exact ⟨v, h, a, b⟩
  | un op x =>
    simp only [AOp.wp] at hk ⊢
    generalize ρ x = v at hk ⊢
    cases op <;> cases v <;> first | exact hk.elim | exact ⟨_, _, ⟨rfl, rfl⟩, hk⟩
  | eqs neg offs x y =>
    simp only [AOp.wp] at hk ⊢
    generalize ρ x = v at hk ⊢
    generalize ρ y = u at hk ⊢
    cases v <;> cases u <;> first | exact hk.elim | skip
    simp only at hk ⊢
    split at hk
    · exact ⟨_, _, ⟨rfl, rfl⟩, hk⟩
    · exact hk.elim
  | beq neg x y =>
    simp only [AOp.wp] at hk ⊢
    generalize ρ x = v at hk ⊢
    generalize ρ y = u at hk ⊢
    cases v <;> cases u <;> first | exact hk.elim | exact ⟨_, _, ⟨rfl, rfl⟩, hk⟩
  | mm mx x y =>
    simp only [AOp.wp] at hk ⊢
    generalize ρ x = v at hk ⊢
    generalize ρ y = u at hk ⊢
    cases v <;> cases u <;> first | exact hk.elim | exact ⟨_, _, ⟨hk.1, rfl, rfl⟩, hk.2⟩
  | ia e x i =>
    simp only [AOp.wp] at hk ⊢
    generalize ρ x = v at hk ⊢
    generalize ρ i = u at hk ⊢
    cases v <;> cases u <;> first | exact hk.elim | exact ⟨_, _, ⟨hk.1, hk.2.1, hk.2.2.1, rfl, rfl⟩, hk.2.2.2⟩
  | ixs x i =>
    simp only [AOp.wp] at hk ⊢
    generalize ρ x = v at hk ⊢
    generalize ρ i = u at hk ⊢
    cases v <;> cases u <;> first | exact hk.elim | exact ⟨_, _, ⟨hk.1, hk.2.1, rfl, rfl⟩, hk.2.2⟩
  | ext x i =>
    simp only [AOp.wp] at hk ⊢
    generalize ρ x = v at hk ⊢
    cases v <;> first | exact hk.elim | exact ⟨_, _, ⟨hk.1, rfl, rfl⟩, hk.2⟩
  | slc e x lo hi =>
    simp only [AOp.wp] at hk ⊢
    generalize ρ x = v at hk ⊢
    cases v <;> first | exact hk.elim | skip
    · simp only at hk ⊢
      split at hk
      · exact ⟨_, _, ⟨hk.1, hk.2.1, hk.2.2.1, hk.2.2.2.1, rfl, rfl⟩, hk.2.2.2.2⟩
      · exact hk.elim
    · simp only at hk ⊢
      split at hk
      · exact ⟨_, _, ⟨hk.1, hk.2.1, hk.2.2.1, hk.2.2.2.1, rfl, rfl⟩, hk.2.2.2.2⟩
      · exact hk.elim
  | slcs x lo hi =>
    simp only [AOp.wp] at hk ⊢
    generalize ρ x = v at hk ⊢
    cases v <;> first | exact hk.elim | skip
    simp only at hk ⊢
    split at hk
    · exact ⟨_, _, ⟨hk.1, hk.2.1, hk.2.2.1, rfl, rfl⟩, hk.2.2.2⟩
    · exact hk.elim
  | len str x =>
    cases str <;> simp only [AOp.wp] at hk ⊢ <;> generalize ρ x = v at hk ⊢ <;> cases v <;> first | exact hk.elim | exact ⟨_, _, ⟨rfl, rfl⟩, hk⟩ | skip
    rename_i t v
    cases v <;> first | exact hk.elim | exact ⟨_, _, ⟨rfl, rfl⟩, hk⟩
  | app e sz x y =>
    simp only [AOp.wp] at hk ⊢
    generalize ρ x = v at hk ⊢
    generalize ρ y = u at hk ⊢
    cases v <;> cases u <;> first | exact hk.elim | skip
    rename_i e1 st l e2 st2 m
    by_cases hm : m = []
    · exact ⟨_, _, ⟨fun _ => ⟨rfl, rfl⟩, fun e => absurd hm e⟩, hk.1 hm⟩
    · obtain ⟨a, b, c, d, e⟩ := hk.2 hm
      exact ⟨_, _, ⟨fun e => absurd e hm, fun _ => ⟨a, b, c, d, rfl, rfl⟩⟩, e⟩
  | apps t x y =>
    simp only [AOp.wp] at hk ⊢
    generalize ρ x = v at hk ⊢
    generalize ρ y = u at hk ⊢
    split at hk
    · rename_i e1 s
      by_cases hm : s = []
      · exact ⟨_, _, ⟨fun _ => ⟨rfl, rfl⟩, fun e => absurd hm e⟩, hk.1 hm⟩
      · exact ⟨_, _, ⟨fun e => absurd e hm, fun _ => ⟨(hk.2 hm).1, rfl, rfl⟩⟩, (hk.2 hm).2⟩
    · rename_i t' e1 st l s
      obtain ⟨rfl, hk⟩ := hk
      by_cases hm : bytesV s = []
      · exact ⟨_, _, ⟨rfl, fun _ => ⟨rfl, rfl⟩, fun e => absurd hm e⟩, hk.1 hm⟩
      · obtain ⟨a, b, c, d, e⟩ := hk.2 hm
        exact ⟨_, _, ⟨rfl, fun e => absurd e hm, fun _ => ⟨a, b, c, d, rfl, rfl⟩⟩, e⟩
    · exact hk.elim
  | mks e sz c =>
    simp only [AOp.wp] at hk ⊢
    generalize ρ c = u at hk ⊢
    cases u <;> first | exact hk.elim | skip
    rename_i k n
    cases k <;> first | exact hk.elim | exact ⟨_, _, ⟨hk.1, hk.2.1, rfl, rfl⟩, hk.2.2⟩
  | _ =>
    rename_i x
    simp only [AOp.wp] at hk ⊢
    generalize ρ x = v at hk ⊢
    cases v <;> first | exact hk.elim | exact ⟨_, _, ⟨rfl, rfl⟩, hk⟩

section
variable {X : Cx} {env : Env} {h : AH} {K : Env → AH → Prop} {H : List AH} {L : List (AH → Prop)} {r : List (DK × AOper)} {o : AOper}
theorem gdP_congr {gd : Option (Nat × Bool)} {A A' B : Prop} (ha : A = A') : gdP gd env A B = gdP gd env A' B := by rw [ha]
@[simp] theorem awpD_pl {dst : Option Nat} {gd : Option (Nat × Bool)} {op : AOp} (hd : detOp op = true) : awpD (Ecx X) ((.pl, ⟨dst, gd, op⟩) :: r) env h H L K =
    gdP gd env (op.wp (Ecx X) (ev env) h fun v h' => h' = h ∧ awpD (Ecx X) r (put env dst v) h H L K) (awpD (Ecx X) r (put env dst (.tup [])) h H L K) :=
  gdP_congr (propext ⟨fun ⟨v, a, b⟩ => AOp.wp_mono (fun v' h' hh => ⟨hh.2, by rw [hh.1]; exact b⟩) a, fun hh => by
    obtain ⟨v, h', a, b, c⟩ := wp_det hd hh
    subst b; exact ⟨v, a, c⟩⟩)
@[simp] theorem awpD_eff {dst : Option Nat} {gd : Option (Nat × Bool)} {op : AOp} (hd : detOp op = true) : awpD (Ecx X) ((.eff, ⟨dst, gd, op⟩) :: r) env h H L K =
    gdP gd env (op.wp (Ecx X) (ev env) h fun v h' => (∀ c ∈ L, c h') ∧ awpD (Ecx X) r (put env dst v) h' (h :: H) L K) (awpD (Ecx X) r (put env dst (.tup [])) h H L K) :=
  gdP_congr (propext ⟨fun ⟨v, h', a, b, c⟩ => AOp.wp_mono (fun v' h'' hh => by rw [hh.1, hh.2]; exact ⟨b, c⟩) a, fun hh => by
    obtain ⟨v, h', a, b, c⟩ := wp_det hd hh
    exact ⟨v, h', a, b, c⟩⟩)
@[simp] theorem awpD_fl {dst : Option Nat} {gd : Option (Nat × Bool)} {op : AOp} (hd : detOp op = true) : awpD (Ecx X) ((.fl, ⟨dst, gd, op⟩) :: r) env h H L K =
    gdP gd env (op.wp (Ecx X) (ev env) h fun v h' => h' = h ∧ (∀ h' ∈ H, op.quiet (Ecx X) (ev env) v h') ∧ awpD (Ecx X) r (put env dst v) h H (op.quiet (Ecx X) (ev env) v :: L) K) (awpD (Ecx X) r (put env dst (.tup [])) h H L K) :=
  gdP_congr (propext ⟨fun ⟨v, a, b, c⟩ => AOp.wp_mono (fun v' h' hh => by rw [hh.1]; exact ⟨hh.2, b, c⟩) a, fun hh => by
    obtain ⟨v, h', a, b, c, d⟩ := wp_det hd hh
    subst b; exact ⟨v, a, c, d⟩⟩)
/-- The guard ahead of a call is asked first. -/
theorem awpD_efo {dst : Option Nat} {op : AOp} (hd : detOp op = true) : awpD (Ecx X) ((.efo, ⟨dst, none, op⟩) :: r) env h H L K =
    op.wp (Ecx X) (ev env) h fun v h' => awpD (Ecx X) r (put env dst v) h' (h :: H) [] K := by
  apply propext
  constructor
  · rintro ⟨v, h', a, b⟩
    exact AOp.wp_mono (fun v' h'' hh => by obtain ⟨rfl, rfl⟩ := hh; exact b) a
  · intro hk
    obtain ⟨v, h', a, b⟩ := wp_det hd hk
    exact ⟨v, h', a, b⟩
@[simp] theorem awpD_call_gd (d : DK) (dst : Option Nat) (gd : Nat × Bool) (f : AO) (args : List AO) : awpD (Ecx X) ((d, ⟨dst, some gd, .call f args⟩) :: r) env h H L K =
    gdP (some gd) env (awpD (Ecx X) ((d, ⟨dst, none, .call f args⟩) :: r) env h H L K) (awpD (Ecx X) r (put env dst (.tup [])) h H L K) := by
  cases d <;> rfl
/-- A call in such a region, that leaves the heap. -/
theorem awpD_call {dst : Option Nat} {f : AO} {args : List AO} {k : Nat} {first cap : List V} {as : List V} (v : V) (hf : ev env f = .fn k first cap) (ha : first ++ args.map (ev env) ++ cap = as)
    (hc : Ecx X k as h fun v' h' => v' = v ∧ h' = h) (hr : awpD (Ecx X) r (put env dst v) h H L K) : awpD (Ecx X) ((.pl, ⟨dst, none, .call f args⟩) :: r) env h H L K :=
  ⟨v, by simp only [AOp.quiet, AOp.wp, hf]; rw [ha]; exact hc, hr⟩
/-- A call in such a region, that turns the heap. -/
theorem awpD_call_eff {dst : Option Nat} {f : AO} {args : List AO} {k : Nat} {first cap : List V} {as : List V} (v : V) (h1 : AH) (hf : ev env f = .fn k first cap) (ha : first ++ args.map (ev env) ++ cap = as)
    (hc : Ecx X k as h fun v' h' => v' = v ∧ h' = h1) (hL : ∀ c ∈ L, c h1) (hr : awpD (Ecx X) r (put env dst v) h1 (h :: H) L K) : awpD (Ecx X) ((.eff, ⟨dst, none, .call f args⟩) :: r) env h H L K :=
  ⟨v, h1, by simp only [AOp.wp, hf]; rw [ha]; exact hc, hL, hr⟩
end
attribute [simp] List.getD_cons_zero List.getD_cons_succ List.getD_nil AOp.quiet AOp.wp binI shI binS isShift loadC slcK bnd fillV fillL setAt V.cells V.good V.isAgg resP tupV eqL eqLeaf
end Go.Proofs.Ytajaoldljichaaa.Al
namespace Go.Proofs.Ytajaoldljichaaa.Al
open Go Go.RowKit
set_option linter.unusedSimpArgs false
set_option linter.unusedVariables false

/-- A thing that simp doesn't enter. -/
structure Lz.{u} {α : Sort u} (a : α) : Type where mk ::
def gdB (b : Bool) {A B : Prop} (_ : Lz A) (_ : Lz B) : Prop := (b = true → A) ∧ (b = false → B)
def gdV (v : V) {A B : Prop} (_ : Lz A) (_ : Lz B) : Prop := match v with
  | .bool t => (t = true → A) ∧ (t = false → B)
  | _ => False
def gdG (v : V) (t : Bool) {A B : Prop} (_ : Lz A) (_ : Lz B) : Prop := match v with
  | .bool b => (b = t → A) ∧ (b ≠ t → B)
  | .tup [] => B
  | _ => False
section
variable {A B : Prop} (a : Lz A) (b : Lz B)
@[simp] theorem gdB_true : gdB true a b = A := by simp [gdB]
@[simp] theorem gdB_false : gdB false a b = B := by simp [gdB]
@[simp] theorem gdB_not (t : Bool) : gdB (!t) a b = gdB t b a := by cases t <;> simp [gdB]
@[simp] theorem gdV_bool (t : Bool) : gdV (.bool t) a b = gdB t a b := Eq.trans rfl rfl
@[simp] theorem gdG_true (t : Bool) : gdG (.bool t) true a b = gdB t a b := by cases t <;> simp [gdG, gdB]
@[simp] theorem gdG_false (t : Bool) : gdG (.bool t) false a b = gdB t b a := by cases t <;> simp [gdG, gdB]
@[simp] theorem gdG_none (t : Bool) : gdG (.tup []) t a b = B := Eq.trans rfl rfl
variable {a b}
theorem gdB_mk {t : Bool} (h1 : t = true → A) (h2 : t = false → B) : gdB t a b := ⟨h1, h2⟩
theorem gdD_mk {p : Prop} [Decidable p] (h1 : p → A) (h2 : ¬ p → B) : gdB (decide p) a b := ⟨fun h => h1 (of_decide_eq_true h), fun h => h2 (of_decide_eq_false h)⟩
end

section
variable (E : Sig) (env : Env) (h : AH)
def acZ {A : AC} {Q : Ex → Env → AH → Prop} (_ : Lz A) (_ : Lz Q) : Prop := awp E A env h Q
def opsZ {l : List AOper} {K : Env → AH → Prop} (_ : Lz l) (_ : Lz K) : Prop := awpOps E l env h K
def opZ {o : AOp} {K : V → AH → Prop} (_ : Lz o) (_ : Lz K) : Prop := o.wp E (ev env) h K
def drZ (H : List AH) (L : List (AH → Prop)) {l : List (DK × AOper)} {K : Env → AH → Prop} (_ : Lz l) (_ : Lz K) : Prop := awpD E l env h H L K
def resZ (acc : List V) {l : List (Nat × Option (Bool × Nat))} {K : V → Prop} (_ : Lz l) (_ : Lz K) : Prop := resP env h l acc K
def binZ (op : BinOp) (x y : V) {K : V → AH → Prop} (_ : Lz K) : Prop := AOp.wp E (ev env) h K (.bin op (.c x) (.c y))
def ldZ (g : Bool) (n : Nat) (x : V) {K : V → AH → Prop} (_ : Lz K) : Prop := AOp.wp E (ev env) h K (.load g n (.c x))
def stZ (n : Nat) (x v : V) {K : V → AH → Prop} (_ : Lz K) : Prop := AOp.wp E (ev env) h K (.store n (.c x) (.c v))
def nckZ (x : V) {K : V → AH → Prop} (_ : Lz K) : Prop := AOp.wp E (ev env) h K (.nilchk (.c x))
def beqZ (neg : Bool) (x y : V) {K : V → AH → Prop} (_ : Lz K) : Prop := AOp.wp E (ev env) h K (.beq neg (.c x) (.c y))
def eqsZ (neg : Bool) (offs : List (EK × Nat)) (x y : V) {K : V → AH → Prop} (_ : Lz K) : Prop := AOp.wp E (ev env) h K (.eqs neg offs (.c x) (.c y))
def mksZ (e sz : Nat) (x : V) {K : V → AH → Prop} (_ : Lz K) : Prop := AOp.wp E (ev env) h K (.mks e sz (.c x))
def nilZ (neg ptr : Bool) (x : V) {K : V → AH → Prop} (_ : Lz K) : Prop := AOp.wp E (ev env) h K (.isnil neg ptr (.c x))
def unZ (op : UnOp) (x : V) {K : V → AH → Prop} (_ : Lz K) : Prop := AOp.wp E (ev env) h K (.un op (.c x))
def cvZ (k : IntKind) (x : V) {K : V → AH → Prop} (_ : Lz K) : Prop := AOp.wp E (ev env) h K (.conv k (.c x))
def faZ (off : Nat) (x : V) {K : V → AH → Prop} (_ : Lz K) : Prop := AOp.wp E (ev env) h K (.fa off (.c x))
def fldZ (g : Bool) (off n : Nat) (x : V) {K : V → AH → Prop} (_ : Lz K) : Prop := AOp.wp E (ev env) h K (.fld g off n (.c x))
def iaZ (e : Nat) (x i : V) {K : V → AH → Prop} (_ : Lz K) : Prop := AOp.wp E (ev env) h K (.ia e (.c x) (.c i))
def ixsZ (x i : V) {K : V → AH → Prop} (_ : Lz K) : Prop := AOp.wp E (ev env) h K (.ixs (.c x) (.c i))
def extZ (x : V) (i : Nat) {K : V → AH → Prop} (_ : Lz K) : Prop := AOp.wp E (ev env) h K (.ext (.c x) i)
def slcZ (e : Nat) (x : V) (lo hi : Option V) {K : V → AH → Prop} (_ : Lz K) : Prop := AOp.wp E (ev env) h K (.slc e (.c x) (lo.map .c) (hi.map .c))
def slcsZ (x : V) (lo hi : Option V) {K : V → AH → Prop} (_ : Lz K) : Prop := AOp.wp E (ev env) h K (.slcs (.c x) (lo.map .c) (hi.map .c))
def lenZ (str : Bool) (x : V) {K : V → AH → Prop} (_ : Lz K) : Prop := AOp.wp E (ev env) h K (.len str (.c x))
def appZ (e sz : Nat) (x y : V) {K : V → AH → Prop} (_ : Lz K) : Prop := AOp.wp E (ev env) h K (.app e sz (.c x) (.c y))
def mmZ (mx : Bool) (x y : V) {K : V → AH → Prop} (_ : Lz K) : Prop := AOp.wp E (ev env) h K (.mm mx (.c x) (.c y))
def bldZ (o : Option (List V)) {K : V → AH → Prop} (_ : Lz K) : Prop := match o with
  | some cs => K (.agg cs) h
  | none => False
def bslZ (e : Nat) (o : Option (List V)) {K : V → AH → Prop} (_ : Lz K) : Prop := match o with
  | some l => K (.sl e 2 l) h
  | none => False
def msoZ (e sz : Nat) (z : List V) (x y : V) {K : V → AH → Prop} (_ : Lz K) : Prop := AOp.wp E (ev env) h K (.mkso e sz z (.c x) (.c y))
def bsoZ (e n : Nat) (o : Option (List V)) {K : V → AH → Prop} (_ : Lz K) : Prop := match o with
  | some l => K (.osl e h.nobj 0 n n) (h.new (cellsOf l))
  | none => False
/-- An append to a slice in an object, that is to be answered. -/
def AppO (e sz : Nat) (z : List V) (x y : V) {K : V → AH → Prop} (_ : Lz K) : Prop := appoK e sz z x (y.held h) h K
def AppG (e sz : Nat) (x y : V) {K : V → AH → Prop} (_ : Lz K) : Prop := appgK e sz x (y.held h) h K
/-- Steps of maps, to be answered by what is found. -/
def lkpZ (z : V) (ok : Bool) (r : Option (Option (Nat × V))) {K : V → AH → Prop} (_ : Lz K) : Prop := match r with
  | some r => K (lkpV z ok r) h
  | none => False
def lkZ (e : KK) (z : V) (ok : Bool) (x key : V) {K : V → AH → Prop} (_ : Lz K) : Prop := lkpK e z ok x key h K
def mupF (o : Nat) (key v : V) (r : Option (Option (Nat × V))) {K : V → AH → Prop} (_ : Lz K) : Prop := match r with
  | some (some (i, _)) => K (.tup []) (h.set o ((h.objs o).set i (.tup [key, v])))
  | some none => K (.tup []) (h.set o (h.objs o ++ [.tup [key, v]]))
  | none => False
def mupZ (e : KK) (x key v : V) {K : V → AH → Prop} (_ : Lz K) : Prop := mupK e x key v h K
def mentF (o : Nat) (z key : V) (r : Option (Option (Nat × V))) {K : V → AH → Prop} (_ : Lz K) : Prop := match r with
  | some (some (i, v)) => K (.tup [v, .int .i64 i]) (h.set o ((h.objs o).set i (.tup [key, v])))
  | some none => K (.tup [z, .int .i64 (h.objs o).length]) (h.set o (h.objs o ++ [.tup [key, z]]))
  | none => False
def mentZ (e : KK) (z x key : V) {K : V → AH → Prop} (_ : Lz K) : Prop := mentK e z x key h K
def mestZ (x s v : V) {K : V → AH → Prop} (_ : Lz K) : Prop := mestK x s v h K
def appsZ (t : Nat) (x y : V) {K : V → AH → Prop} (_ : Lz K) : Prop := AOp.wp E (ev env) h K (.apps t (.c x) (.c y))
def s2bZ (x : V) {K : V → AH → Prop} (_ : Lz K) : Prop := match x with
  | .str s => K (.sl 1 0 (bytesV s)) h
  | _ => False
def mkifZ (t : Nat) (x : V) {K : V → AH → Prop} (_ : Lz K) : Prop := match x with
  | .int k n => K (.cval (.iface t (.int k n))) h
  | _ => False
def mlenZ (x : V) {K : V → AH → Prop} (_ : Lz K) : Prop := mlenK x h K
def callZ (f : V) (as : List V) {K : V → AH → Prop} (_ : Lz K) : Prop := match f with
  | .fn k first cap => E k (first ++ as ++ cap) h K
  | .cval c => yldK c fun l => E (YK + l) as h K
  | _ => False
/-- A call that is to be answered. -/
def ECall (k : Nat) (as : List V) {K : V → AH → Prop} (_ : Lz K) : Prop := E k as h K
/-- A call in a region of open order, that leaves the heap. -/
def DCall (k : Nat) (as : List V) {K : V → Prop} (_ : Lz K) : Prop := ∃ v, E k as h (fun v' h' => v' = v ∧ h' = h) ∧ K v
def DCallE (k : Nat) (as : List V) {K : V → AH → Prop} (_ : Lz K) : Prop := ∃ v h1, E k as h (fun v' h' => v' = v ∧ h' = h1) ∧ K v h1
def dcallZ (f : V) (as : List V) {K : V → Prop} (_ : Lz K) : Prop := match f with
  | .fn k first cap => DCall E h k (first ++ as ++ cap) (Lz.mk (a := K))
  | .cval c => yldK c fun l => DCall E h (YK + l) as (Lz.mk (a := K))
  | _ => False
def dcallEZ (f : V) (as : List V) {K : V → AH → Prop} (_ : Lz K) : Prop := match f with
  | .fn k first cap => DCallE E h k (first ++ as ++ cap) (Lz.mk (a := K))
  | .cval c => yldK c fun l => DCallE E h (YK + l) as (Lz.mk (a := K))
  | _ => False
/-- What a floating load must answer in another heap. -/
def flZ (v : V) {o : AOp} (_ : Lz o) : Prop := o.wp E (ev env) h fun v' h' => v' = v ∧ h' = h
end
/-- The end of a function. -/
def Fin (h : AH) {Q : V → AH → Prop} (v : V) (h1 : AH) (_ : Lz Q) : Prop := Gr h h1 ∧ ∃ r', Wk v r' ∧ Bdd h.next h.nobj r' ∧ Q r' h

theorem ecall {E : Sig} {h : AH} {k : Nat} {as : List V} {K : V → AH → Prop} {z : Lz K} (hk : E k as h K) : ECall E h k as z := hk
theorem dcall {E : Sig} {h : AH} {k : Nat} {as : List V} {K : V → Prop} {z : Lz K} (v : V) (hc : E k as h (fun v' h' => v' = v ∧ h' = h)) (hk : K v) : DCall E h k as z := ⟨v, hc, hk⟩
theorem dcallE {E : Sig} {h : AH} {k : Nat} {as : List V} {K : V → AH → Prop} {z : Lz K} (v : V) (h1 : AH) (hc : E k as h (fun v' h' => v' = v ∧ h' = h1)) (hk : K v h1) : DCallE E h k as z := ⟨v, h1, hc, hk⟩
theorem fin {h : AH} {v : V} {Q : V → AH → Prop} {z : Lz Q} (hb : Bdd h.next h.nobj v) (hq : Q v h) : Fin h v h z := ⟨Gr.refl h, v, .same v, hb, hq⟩
theorem fin_own {h h1 : AH} {e e1 st : Nat} {l : List V} {Q : V → AH → Prop} {z : Lz Q} (o : Own h h1 e e1 st l) (hb : ∀ v ∈ cellsOf l, Bdd h.next h.nobj v) (hq : Q (.sl e 0 l) h) : Fin h (.sl e1 st l) h1 z :=
  ⟨o.gr, _, o.wk, by simp; exact hb, hq⟩
theorem fin_wk {h h1 : AH} {v r : V} {Q : V → AH → Prop} {z : Lz Q} (g : Gr h h1) (w : Wk v r) (hb : Bdd h.next h.nobj r) (hq : Q r h) : Fin h v h1 z := ⟨g, r, w, hb, hq⟩

/-! ### The steps -/
section
variable {E : Sig} {env : Env} {h : AH}
section
variable {Q : Ex → Env → AH → Prop} {zQ : Lz Q} {A B : AC}
@[simp] theorem acZ_skip {z : Lz AC.skip} : acZ E env h z zQ = Q .nrm env h := Eq.trans rfl rfl
@[simp] theorem acZ_ret {z : Lz AC.ret} : acZ E env h z zQ = Q .ret env h := Eq.trans rfl rfl
@[simp] theorem acZ_exit {n : Nat} {z : Lz (AC.exit n)} : acZ E env h z zQ = Q (.exit n) env h := Eq.trans rfl rfl
@[simp] theorem acZ_seq {z : Lz (AC.seq A B)} : acZ E env h z zQ = acZ E env h (Lz.mk (a := A)) (Lz.mk (a := fun (e : Ex) env' h' => match e with
    | .nrm => acZ E env' h' (Lz.mk (a := B)) zQ
    | .ret => Q .ret env' h'
    | .exit m => Q (.exit m) env' h')) := Eq.trans rfl rfl
@[simp] theorem acZ_cond {c : AO} {z : Lz (AC.cond c A B)} : acZ E env h z zQ = gdV (ev env c) (Lz.mk (a := acZ E env h (Lz.mk (a := A)) zQ)) (Lz.mk (a := acZ E env h (Lz.mk (a := B)) zQ)) := Eq.trans rfl rfl
@[simp] theorem acZ_block {n : Nat} {z : Lz (AC.block n A)} : acZ E env h z zQ = acZ E env h (Lz.mk (a := A)) (Lz.mk (a := fun (e : Ex) env' h' => match e with
    | .nrm => Q .nrm env' h'
    | .ret => Q .ret env' h'
    | .exit m => if m = n then Q .nrm env' h' else Q (.exit m) env' h')) := Eq.trans rfl rfl
@[simp] theorem acZ_scope {z : Lz (AC.scope A)} : acZ E env h z zQ = acZ E env h (Lz.mk (a := A)) zQ := Eq.trans rfl rfl
@[simp] theorem acZ_reg {l : List AOper} {z : Lz (AC.reg l)} : acZ E env h z zQ = opsZ E env h (Lz.mk (a := l)) (Lz.mk (a := Q .nrm)) := Eq.trans rfl rfl
@[simp] theorem acZ_draw {l : List (DK × AOper)} {z : Lz (AC.draw l)} : acZ E env h z zQ = drZ E env h [] [] (Lz.mk (a := l)) (Lz.mk (a := Q .nrm)) := Eq.trans rfl rfl
@[simp] theorem acZ_drawP {l : List (DK × AOper)} {z : Lz (AC.drawP l)} : acZ E env h z zQ = drZ E env h [] [] (Lz.mk (a := l)) (Lz.mk (a := fun _ _ => True)) := Eq.trans rfl rfl
@[simp] theorem acZ_keep {l : List Nat} {z : Lz (AC.keep l A)} : acZ E env h z zQ = acZ E (keepE l env) h (Lz.mk (a := A)) zQ := Eq.trans rfl rfl
@[simp] theorem acZ_post {l : List Nat} {z : Lz (AC.post A l)} : acZ E env h z zQ = acZ E env h (Lz.mk (a := A)) (Lz.mk (a := fun (e : Ex) env' h' => match e with
    | .nrm => Q .nrm (keepE l env') h'
    | .ret => Q .ret env' h'
    | .exit m => Q (.exit m) env' h')) := Eq.trans rfl rfl
end
section
variable {K : Env → AH → Prop} {zK : Lz K} {r : List AOper}
@[simp] theorem opsZ_nil {z : Lz ([] : List AOper)} : opsZ E env h z zK = K env h := Eq.trans rfl rfl
@[simp] theorem opsZ_cons {d : Option Nat} {o : AOp} {z : Lz (⟨d, none, o⟩ :: r)} : opsZ E env h z zK = opZ E env h (Lz.mk (a := o)) (Lz.mk (a := fun v h' => opsZ E (put env d v) h' (Lz.mk (a := r)) zK)) := Eq.trans rfl rfl
@[simp] theorem opsZ_gd {d : Option Nat} {s : Nat} {t : Bool} {o : AOp} {z : Lz (⟨d, some (s, t), o⟩ :: r)} : opsZ E env h z zK =
    gdG (get env s) t (Lz.mk (a := opZ E env h (Lz.mk (a := o)) (Lz.mk (a := fun v h' => opsZ E (put env d v) h' (Lz.mk (a := r)) zK)))) (Lz.mk (a := opsZ E (put env d (.tup [])) h (Lz.mk (a := r)) zK)) := Eq.trans rfl rfl
end
section
variable {K : V → AH → Prop} {zK : Lz K}
@[simp] theorem opZ_mv {x : AO} {z : Lz (AOp.mv x)} : opZ E env h z zK = K (ev env x) h := Eq.trans rfl rfl
@[simp] theorem opZ_pick {c a b : AO} {z : Lz (AOp.pick c a b)} : opZ E env h z zK = gdV (ev env c) (Lz.mk (a := K (ev env a) h)) (Lz.mk (a := K (ev env b) h)) := Eq.trans rfl rfl
@[simp] theorem opZ_alct {t n : Nat} {l : List V} {z : Lz (AOp.alct t n l)} : opZ E env h z zK = K (.tp h.nobj t n) (h.new l) := Eq.trans rfl rfl
@[simp] theorem opZ_alloc {l : List V} {z : Lz (AOp.alloc l)} : opZ E env h z zK = K (.ptr h.nobj 0) (h.new l) := Eq.trans rfl rfl
@[simp] theorem opZ_box {x : AO} {z : Lz (AOp.box x)} : opZ E env h z zK = ((ev env x).good = true ∧ K (.ptr h.nobj 0) (h.new (ev env x).cells)) := Eq.trans rfl rfl
@[simp] theorem opZ_bld {l : List V} {parts : List (Nat × Nat × AO)} {z : Lz (AOp.bld l parts)} : opZ E env h z zK = bldZ h (fillV l (parts.map fun p => (p.1, p.2.1, ev env p.2.2))) zK := Eq.trans rfl rfl
@[simp] theorem opZ_bsl {e : Nat} {g : Bool} {l : List V} {n : Nat} {parts : List (Nat × AO)} {z : Lz (AOp.bsl e g l n parts)} : opZ E env h z zK = bslZ h e (fillL e g (List.replicate n (if g then .agg l else l.headD .undef)) (parts.map fun p => (p.1, ev env p.2))) zK := Eq.trans rfl rfl
@[simp] theorem opZ_load {g : Bool} {n : Nat} {x : AO} {z : Lz (AOp.load g n x)} : opZ E env h z zK = ldZ E env h g n (ev env x) zK := Eq.trans rfl rfl
@[simp] theorem opZ_store {n : Nat} {x v : AO} {z : Lz (AOp.store n x v)} : opZ E env h z zK = stZ E env h n (ev env x) (ev env v) zK := Eq.trans rfl rfl
@[simp] theorem opZ_nilchk {x : AO} {z : Lz (AOp.nilchk x)} : opZ E env h z zK = nckZ E env h (ev env x) zK := Eq.trans rfl rfl
@[simp] theorem opZ_bin {op : BinOp} {x y : AO} {z : Lz (AOp.bin op x y)} : opZ E env h z zK = binZ E env h op (ev env x) (ev env y) zK := Eq.trans rfl rfl
@[simp] theorem opZ_beq {neg : Bool} {x y : AO} {z : Lz (AOp.beq neg x y)} : opZ E env h z zK = beqZ E env h neg (ev env x) (ev env y) zK := Eq.trans rfl rfl
@[simp] theorem opZ_eqs {neg : Bool} {offs : List (EK × Nat)} {x y : AO} {z : Lz (AOp.eqs neg offs x y)} : opZ E env h z zK = eqsZ E env h neg offs (ev env x) (ev env y) zK := Eq.trans rfl rfl
@[simp] theorem opZ_mks {e sz : Nat} {x : AO} {z : Lz (AOp.mks e sz x)} : opZ E env h z zK = mksZ E env h e sz (ev env x) zK := Eq.trans rfl rfl
theorem opZ_isnil' (neg ptr : Bool) (x : AO) : AOp.wp E (ev env) h K (.isnil neg ptr x) = AOp.wp E (ev env) h K (.isnil neg ptr (.c (ev env x))) := by cases ptr <;> rfl
@[simp] theorem opZ_isnil {neg ptr : Bool} {x : AO} {z : Lz (AOp.isnil neg ptr x)} : opZ E env h z zK = nilZ E env h neg ptr (ev env x) zK := opZ_isnil' neg ptr x
@[simp] theorem opZ_un {op : UnOp} {x : AO} {z : Lz (AOp.un op x)} : opZ E env h z zK = unZ E env h op (ev env x) zK := Eq.trans rfl rfl
@[simp] theorem opZ_conv {k : IntKind} {x : AO} {z : Lz (AOp.conv k x)} : opZ E env h z zK = cvZ E env h k (ev env x) zK := Eq.trans rfl rfl
@[simp] theorem opZ_fa {off : Nat} {x : AO} {z : Lz (AOp.fa off x)} : opZ E env h z zK = faZ E env h off (ev env x) zK := Eq.trans rfl rfl
@[simp] theorem opZ_fld {g : Bool} {off n : Nat} {x : AO} {z : Lz (AOp.fld g off n x)} : opZ E env h z zK = fldZ E env h g off n (ev env x) zK := Eq.trans rfl rfl
@[simp] theorem opZ_ia {e : Nat} {x i : AO} {z : Lz (AOp.ia e x i)} : opZ E env h z zK = iaZ E env h e (ev env x) (ev env i) zK := Eq.trans rfl rfl
@[simp] theorem opZ_ixs {x i : AO} {z : Lz (AOp.ixs x i)} : opZ E env h z zK = ixsZ E env h (ev env x) (ev env i) zK := Eq.trans rfl rfl
@[simp] theorem opZ_ext {x : AO} {i : Nat} {z : Lz (AOp.ext x i)} : opZ E env h z zK = extZ E env h (ev env x) i zK := Eq.trans rfl rfl
@[simp] theorem opZ_mkfn {f : Nat} {first cap : List AO} {z : Lz (AOp.mkfn f first cap)} : opZ E env h z zK = K (.fn f (first.map (ev env)) (cap.map (ev env))) h := Eq.trans rfl rfl
theorem slc_c (e : Nat) (x : AO) (lo hi : Option AO) : AOp.wp E (ev env) h K (.slc e x lo hi) = AOp.wp E (ev env) h K (.slc e (.c (ev env x)) ((lo.map (ev env)).map .c) ((hi.map (ev env)).map .c)) := by
  cases lo <;> cases hi <;> rfl
theorem slcs_c (x : AO) (lo hi : Option AO) : AOp.wp E (ev env) h K (.slcs x lo hi) = AOp.wp E (ev env) h K (.slcs (.c (ev env x)) ((lo.map (ev env)).map .c) ((hi.map (ev env)).map .c)) := by
  cases lo <;> cases hi <;> rfl
@[simp] theorem opZ_slc {e : Nat} {x : AO} {lo hi : Option AO} {z : Lz (AOp.slc e x lo hi)} : opZ E env h z zK = slcZ E env h e (ev env x) (lo.map (ev env)) (hi.map (ev env)) zK := slc_c e x lo hi
@[simp] theorem opZ_slcs {x : AO} {lo hi : Option AO} {z : Lz (AOp.slcs x lo hi)} : opZ E env h z zK = slcsZ E env h (ev env x) (lo.map (ev env)) (hi.map (ev env)) zK := slcs_c x lo hi
@[simp] theorem opZ_len {str : Bool} {x : AO} {z : Lz (AOp.len str x)} : opZ E env h z zK = lenZ E env h str (ev env x) zK := by cases str <;> rfl
@[simp] theorem opZ_apps {t : Nat} {x y : AO} {z : Lz (AOp.apps t x y)} : opZ E env h z zK = appsZ E env h t (ev env x) (ev env y) zK := Eq.trans rfl rfl
@[simp] theorem opZ_app {e sz : Nat} {x y : AO} {z : Lz (AOp.app e sz x y)} : opZ E env h z zK = appZ E env h e sz (ev env x) (ev env y) zK := Eq.trans rfl rfl
@[simp] theorem opZ_mkso {e sz : Nat} {l : List V} {x y : AO} {z : Lz (AOp.mkso e sz l x y)} : opZ E env h z zK = msoZ E env h e sz l (ev env x) (ev env y) zK := Eq.trans rfl rfl
@[simp] theorem msoZ_int {e sz : Nat} {l : List V} {a c : Int} : msoZ E env h e sz l (.int .i64 a) (.int .i64 c) zK = (0 ≤ a ∧ a ≤ c ∧ c * sz ≤ 2 ^ 46 ∧ K (.osl e h.nobj 0 a.toNat c.toNat) (h.new (repl l c.toNat))) := Eq.trans rfl rfl
@[simp] theorem opZ_bslo {e : Nat} {g : Bool} {l : List V} {n : Nat} {parts : List (Nat × AO)} {z : Lz (AOp.bslo e g l n parts)} : opZ E env h z zK = bsoZ h e n (fillL e g (List.replicate n (if g then .agg l else l.headD .undef)) (parts.map fun p => (p.1, ev env p.2))) zK := Eq.trans rfl rfl
@[simp] theorem bsoZ_some {e n : Nat} {l : List V} : bsoZ h e n (some l) zK = K (.osl e h.nobj 0 n n) (h.new (cellsOf l)) := Eq.trans rfl rfl
@[simp] theorem opZ_appo {e sz : Nat} {l : List V} {x y : AO} {z : Lz (AOp.appo e sz l x y)} : opZ E env h z zK = AppO h e sz l (ev env x) (ev env y) zK := Eq.trans rfl rfl
@[simp] theorem opZ_appg {e sz : Nat} {x y : AO} {z : Lz (AOp.appg e sz x y)} : opZ E env h z zK = AppG h e sz (ev env x) (ev env y) zK := Eq.trans rfl rfl
@[simp] theorem opZ_mkm {z : Lz AOp.mkm} : opZ E env h z zK = K (.mapr h.nobj) (h.new []) := Eq.trans rfl rfl
@[simp] theorem opZ_lkp {e : KK} {l : V} {ok : Bool} {x k : AO} {z : Lz (AOp.lkp e l ok x k)} : opZ E env h z zK = lkZ h e l ok (ev env x) (ev env k) zK := Eq.trans rfl rfl
@[simp] theorem lkZ_mapr {e : KK} {l : V} {ok : Bool} {o : Nat} {k : V} : lkZ h e l ok (.mapr o) k zK = lkpZ h l ok (findE e k (h.objs o) 0) zK := Eq.trans rfl rfl
@[simp] theorem lkZ_mapn {e : KK} {l : V} {ok : Bool} {k : V} : lkZ h e l ok .mapn k zK = lkpZ h l ok (findE e k [] 0) zK := Eq.trans rfl rfl
@[simp] theorem findE_nil {e : EK} {k : V} {n : Nat} : findE (.pl e) k [] n = some none := Eq.trans rfl rfl
@[simp] theorem lkpZ_tn {l : V} : lkpZ h l true (some none) zK = K (.tup [l, .bool false]) h := Eq.trans rfl rfl
@[simp] theorem lkpZ_ts {l v : V} {i : Nat} : lkpZ h l true (some (some (i, v))) zK = K (.tup [v, .bool true]) h := Eq.trans rfl rfl
@[simp] theorem lkpZ_fn {l : V} : lkpZ h l false (some none) zK = K l h := Eq.trans rfl rfl
@[simp] theorem lkpZ_fs {l v : V} {i : Nat} : lkpZ h l false (some (some (i, v))) zK = K v h := Eq.trans rfl rfl
@[simp] theorem opZ_mupd {e : KK} {x k v : AO} {z : Lz (AOp.mupd e x k v)} : opZ E env h z zK = mupZ h e (ev env x) (ev env k) (ev env v) zK := Eq.trans rfl rfl
@[simp] theorem mupZ_mapr {e : KK} {o : Nat} {k v : V} : mupZ h e (.mapr o) k v zK = mupF h o k v (findE e k (h.objs o) 0) zK := Eq.trans rfl rfl
@[simp] theorem mupF_some {o i : Nat} {k v u : V} : mupF h o k v (some (some (i, u))) zK = K (.tup []) (h.set o ((h.objs o).set i (.tup [k, v]))) := Eq.trans rfl rfl
@[simp] theorem mupF_none {o : Nat} {k v : V} : mupF h o k v (some none) zK = K (.tup []) (h.set o (h.objs o ++ [.tup [k, v]])) := Eq.trans rfl rfl
@[simp] theorem opZ_ment {e : KK} {l : V} {x k : AO} {z : Lz (AOp.ment e l x k)} : opZ E env h z zK = mentZ h e l (ev env x) (ev env k) zK := Eq.trans rfl rfl
@[simp] theorem mentZ_mapr {e : KK} {o : Nat} {l k : V} : mentZ h e l (.mapr o) k zK = mentF h o l k (findE e k (h.objs o) 0) zK := Eq.trans rfl rfl
@[simp] theorem mentF_some {o i : Nat} {l k u : V} : mentF h o l k (some (some (i, u))) zK = K (.tup [u, .int .i64 i]) (h.set o ((h.objs o).set i (.tup [k, u]))) := Eq.trans rfl rfl
@[simp] theorem mentF_none {o : Nat} {l k : V} : mentF h o l k (some none) zK = K (.tup [l, .int .i64 (h.objs o).length]) (h.set o (h.objs o ++ [.tup [k, l]])) := Eq.trans rfl rfl
@[simp] theorem opZ_mest {x s v : AO} {z : Lz (AOp.mest x s v)} : opZ E env h z zK = mestZ h (ev env x) (ev env s) (ev env v) zK := Eq.trans rfl rfl
@[simp] theorem mestZ_mapr {o : Nat} {i : Int} {v : V} : mestZ h (.mapr o) (.int .i64 i) v zK = (0 ≤ i ∧ i < (h.objs o).length ∧ exoB (h.objs o) = false ∧ K (.tup []) (h.set o ((h.objs o).set i.toNat (.tup [keyOfE ((h.objs o).getD i.toNat .undef), v])))) := Eq.trans rfl rfl
@[simp] theorem opZ_mlen {x : AO} {z : Lz (AOp.mlen x)} : opZ E env h z zK = mlenZ h (ev env x) zK := Eq.trans rfl rfl
@[simp] theorem mlenZ_mapr {o : Nat} : mlenZ h (.mapr o) zK = (exoB (h.objs o) = false ∧ K (.int .i64 (h.objs o).length) h) := Eq.trans rfl rfl
@[simp] theorem opZ_mkif {t : Nat} {x : AO} {z : Lz (AOp.mkif t x)} : opZ E env h z zK = mkifZ h t (ev env x) zK := Eq.trans rfl rfl
@[simp] theorem mkifZ_int {t : Nat} {k : IntKind} {n : Int} : mkifZ h t (.int k n) zK = K (.cval (.iface t (.int k n))) h := Eq.trans rfl rfl
@[simp] theorem opZ_s2b {x : AO} {z : Lz (AOp.s2b x)} : opZ E env h z zK = s2bZ h (ev env x) zK := Eq.trans rfl rfl
@[simp] theorem s2bZ_str {s : List UInt8} : s2bZ h (.str s) zK = K (.sl 1 0 (bytesV s)) h := Eq.trans rfl rfl
@[simp] theorem mlenZ_mapn : mlenZ h .mapn zK = K (.int .i64 0) h := Eq.trans rfl rfl
@[simp] theorem opZ_mm {mx : Bool} {x y : AO} {z : Lz (AOp.mm mx x y)} : opZ E env h z zK = mmZ E env h mx (ev env x) (ev env y) zK := Eq.trans rfl rfl
@[simp] theorem opZ_call {f : AO} {as : List AO} {z : Lz (AOp.call f as)} : opZ E env h z zK = callZ E h (ev env f) (as.map (ev env)) zK := Eq.trans rfl rfl
@[simp] theorem callZ_yld {l : Nat} {as : List V} : callZ E h (.cval (.func (.yield l) #[] #[])) as zK = ECall E h (YK + l) as zK := Eq.trans rfl rfl
@[simp] theorem callZ_fn {k : Nat} {first cap as : List V} : callZ E h (.fn k first cap) as zK = ECall E h k (first ++ as ++ cap) zK := Eq.trans rfl rfl
-- what the operations answer
@[simp] theorem bldZ_some {l : List V} : bldZ h (some l) zK = K (.agg l) h := Eq.trans rfl rfl
@[simp] theorem bslZ_some {e : Nat} {l : List V} : bslZ h e (some l) zK = K (.sl e 2 l) h := Eq.trans rfl rfl
@[simp] theorem ldZ_ptr0 {n o off : Nat} : ldZ E env h false n (.ptr o off) zK = (off < (h.objs o).length ∧ K ((h.objs o).getD off .undef) h) := Eq.trans rfl rfl
@[simp] theorem ldZ_ptr1 {n o off : Nat} : ldZ E env h true n (.ptr o off) zK = (off + n ≤ (h.objs o).length ∧ K (.agg (((h.objs o).drop off).take n)) h) := Eq.trans rfl rfl
@[simp] theorem ldZ_rptr0 {n off : Nat} {l : List V} : ldZ E env h false n (.rptr l off) zK = (off < l.length ∧ K (l.getD off .undef) h) := Eq.trans rfl rfl
@[simp] theorem ldZ_rptr1 {n off : Nat} {l : List V} : ldZ E env h true n (.rptr l off) zK = (off + n ≤ l.length ∧ K (.agg ((l.drop off).take n)) h) := Eq.trans rfl rfl
@[simp] theorem stZ_ptr {n o off : Nat} {v : V} : stZ E env h n (.ptr o off) v zK = (v.cells.length = n ∧ v.good = true ∧ off + n ≤ (h.objs o).length ∧ K (.tup []) (h.set o (setAt (h.objs o) off v.cells))) := Eq.trans rfl rfl
@[simp] theorem nckZ_ptr {o off : Nat} : nckZ E env h (.ptr o off) zK = K (.ptr o off) h := Eq.trans rfl rfl
@[simp] theorem nckZ_rptr {l : List V} {off : Nat} : nckZ E env h (.rptr l off) zK = K (.rptr l off) h := Eq.trans rfl rfl
@[simp] theorem nckZ_tp {o t n : Nat} : nckZ E env h (.tp o t n) zK = K (.tp o t n) h := Eq.trans rfl rfl
@[simp] theorem nckZ_fn {f : Nat} {a b : List V} : nckZ E env h (.fn f a b) zK = K (.fn f a b) h := Eq.trans rfl rfl
@[simp] theorem beqZ_bool {neg a b : Bool} : beqZ E env h neg (.bool a) (.bool b) zK = K (.bool (xor neg (decide (a = b)))) h := Eq.trans rfl rfl
def eqsK (neg : Bool) (h : AH) (o : Option Bool) {K : V → AH → Prop} (_ : Lz K) : Prop := match o with
  | some b => K (.bool (xor neg b)) h
  | none => False
@[simp] theorem eqsK_some {neg b : Bool} : eqsK neg h (some b) zK = K (.bool (xor neg b)) h := Eq.trans rfl rfl
@[simp] theorem eqsZ_agg {neg : Bool} {offs : List (EK × Nat)} {l m : List V} : eqsZ E env h neg offs (.agg l) (.agg m) zK = eqsK neg h (eqL l m offs) zK := Eq.trans rfl rfl
@[simp] theorem mksZ_int {e sz : Nat} {n : Int} : mksZ E env h e sz (.int .i64 n) zK = (0 ≤ n ∧ n * sz ≤ 2 ^ 46 ∧ K (.sl e h.next []) (h.push 2 e)) := Eq.trans rfl rfl
@[simp] theorem nilZ_nil {neg : Bool} {e : Nat} {l : List V} : nilZ E env h neg false (.sl e 1 l) zK = K (.bool (!neg)) h := by simp [nilZ, AOp.wp, ev, nilK]
@[simp] theorem nilZ_zero {neg : Bool} {e : Nat} {l : List V} : nilZ E env h neg false (.sl e 0 l) zK = gdB (decide (l = [])) (Lz.mk (a := K (.bool true) h ∧ K (.bool false) h)) (Lz.mk (a := K (.bool neg) h)) := by simp [nilZ, AOp.wp, ev, nilK, gdB]
theorem nilZ_st {neg : Bool} {e st : Nat} {l : List V} (h2 : 2 ≤ st) : nilZ E env h neg false (.sl e st l) zK = K (.bool neg) h := by simp [nilZ, AOp.wp, ev, nilK, show ¬ st = 1 by omega, show ¬ st = 0 by omega]
@[simp] theorem nilZ_two {neg : Bool} {e : Nat} {l : List V} : nilZ E env h neg false (.sl e 2 l) zK = K (.bool neg) h := nilZ_st (by omega)
@[simp] theorem nilZ_nilp {neg : Bool} : nilZ E env h neg true .nilp zK = K (.bool !neg) h := Eq.trans rfl rfl
@[simp] theorem nilZ_ptr {neg : Bool} {o off : Nat} : nilZ E env h neg true (.ptr o off) zK = K (.bool neg) h := Eq.trans rfl rfl
@[simp] theorem nilZ_rptr {neg : Bool} {l : List V} {off : Nat} : nilZ E env h neg true (.rptr l off) zK = K (.bool neg) h := Eq.trans rfl rfl
@[simp] theorem unZ_not {b : Bool} : unZ E env h .not (.bool b) zK = K (.bool !b) h := Eq.trans rfl rfl
@[simp] theorem unZ_neg {k : IntKind} {n : Int} : unZ E env h .neg (.int k n) zK = K (.int k (k.wrap (0 - n))) h := Eq.trans rfl rfl
@[simp] theorem unZ_xor {k : IntKind} {n : Int} : unZ E env h .xor (.int k n) zK = K (.int k (bitXor k (if k.signed then -1 else k.max) n)) h := Eq.trans rfl rfl
@[simp] theorem cvZ_int {k k' : IntKind} {n : Int} : cvZ E env h k (.int k' n) zK = K (.int k (k.wrap n)) h := Eq.trans rfl rfl
@[simp] theorem faZ_ptr {off o f : Nat} : faZ E env h off (.ptr o f) zK = K (.ptr o (f + off)) h := Eq.trans rfl rfl
@[simp] theorem faZ_tp {off o t n : Nat} : faZ E env h off (.tp o t n) zK = K (.ptr o off) h := Eq.trans rfl rfl
@[simp] theorem faZ_rptr {off f : Nat} {l : List V} : faZ E env h off (.rptr l f) zK = K (.rptr l (f + off)) h := Eq.trans rfl rfl
@[simp] theorem fldZ_0 {off n : Nat} {l : List V} : fldZ E env h false off n (.agg l) zK = (off < l.length ∧ K (l.getD off .undef) h) := Eq.trans rfl rfl
@[simp] theorem fldZ_1 {off n : Nat} {l : List V} : fldZ E env h true off n (.agg l) zK = (off + n ≤ l.length ∧ K (.agg ((l.drop off).take n)) h) := Eq.trans rfl rfl
@[simp] theorem iaZ_sl {e e' st : Nat} {l : List V} {k : IntKind} {n : Int} : iaZ E env h e (.sl e' st l) (.int k n) zK = (e' = e ∧ 0 ≤ n ∧ n < l.length ∧ K (.rptr (l.getD n.toNat .undef).cells 0) h) := Eq.trans rfl rfl
@[simp] theorem iaZ_osl {e e' o off ln cp : Nat} {k : IntKind} {n : Int} : iaZ E env h e (.osl e' o off ln cp) (.int k n) zK = (e' = e ∧ 0 ≤ n ∧ n < ln ∧ K (.ptr o (off + n.toNat * e)) h) := Eq.trans rfl rfl
@[simp] theorem lenZ_tys {t e st : Nat} {l : List V} : lenZ E env h false (.tys t (.sl e st l)) zK = K (.int .i64 l.length) h := Eq.trans rfl rfl
@[simp] theorem lenZ_osl {e o off ln cp : Nat} : lenZ E env h false (.osl e o off ln cp) zK = K (.int .i64 ln) h := Eq.trans rfl rfl
@[simp] theorem nilZ_osl {neg : Bool} {e o off ln cp : Nat} : nilZ E env h neg false (.osl e o off ln cp) zK = K (.bool neg) h := Eq.trans rfl rfl
@[simp] theorem slcZ_o00 {e e' o off ln cp : Nat} : slcZ E env h e (.osl e' o off ln cp) none none zK = (e' = e ∧ (ln : Int) ≤ cp ∧ K (.osl e o (if cp = 0 then off else off + 0 * e) (ln - 0) (cp - 0)) h) := by
  simp [slcZ, AOp.wp, ev, bnd]
@[simp] theorem slcZ_olo {e e' o off ln cp : Nat} {k : IntKind} {n : Int} : slcZ E env h e (.osl e' o off ln cp) (some (.int k n)) none zK = (e' = e ∧ 0 ≤ n ∧ n ≤ ln ∧ (ln : Int) ≤ cp ∧ K (.osl e o (if cp = n.toNat then off else off + n.toNat * e) (ln - n.toNat) (cp - n.toNat)) h) := by
  simp [slcZ, AOp.wp, ev, bnd]
@[simp] theorem slcZ_ohi {e e' o off ln cp : Nat} {k : IntKind} {n : Int} : slcZ E env h e (.osl e' o off ln cp) none (some (.int k n)) zK = (e' = e ∧ 0 ≤ n ∧ n ≤ cp ∧ K (.osl e o (if cp = 0 then off else off + 0 * e) (n.toNat - 0) (cp - 0)) h) := by
  simp [slcZ, AOp.wp, ev, bnd]
@[simp] theorem slcZ_olohi {e e' o off ln cp : Nat} {k k' : IntKind} {n m : Int} : slcZ E env h e (.osl e' o off ln cp) (some (.int k n)) (some (.int k' m)) zK = (e' = e ∧ 0 ≤ n ∧ n ≤ m ∧ m ≤ cp ∧ K (.osl e o (if cp = n.toNat then off else off + n.toNat * e) (m.toNat - n.toNat) (cp - n.toNat)) h) := Eq.trans rfl rfl
@[simp] theorem ixsZ_str {s : List UInt8} {k : IntKind} {n : Int} : ixsZ E env h (.str s) (.int k n) zK = (0 ≤ n ∧ n < s.length ∧ K (.int .u8 (s.getD n.toNat 0).toNat) h) := Eq.trans rfl rfl
@[simp] theorem extZ_tup {l : List V} {i : Nat} : extZ E env h (.tup l) i zK = (i < l.length ∧ K (l.getD i .undef) h) := Eq.trans rfl rfl
@[simp] theorem slcZ_00 {e e' st : Nat} {l : List V} : slcZ E env h e (.sl e' st l) none none zK = ((l = [] ∨ e' = e) ∧ slcK l st 0 l.length (fun m st' => K (.sl e' st' m) h)) := Eq.trans rfl rfl
@[simp] theorem slcZ_lo {e e' st : Nat} {l : List V} {k : IntKind} {n : Int} : slcZ E env h e (.sl e' st l) (some (.int k n)) none zK = ((l = [] ∨ e' = e) ∧ 0 ≤ n ∧ n ≤ l.length ∧ K (.sl e' (if st = 1 then 1 else 0) (l.drop n.toNat)) h) := by
  simp [slcZ, AOp.wp, ev, bnd, slcK]
@[simp] theorem slcZ_hi {e e' st : Nat} {l : List V} {k : IntKind} {n : Int} : slcZ E env h e (.sl e' st l) none (some (.int k n)) zK = ((l = [] ∨ e' = e) ∧ 0 ≤ n ∧ n ≤ l.length ∧ K (.sl e' (if st = 1 then 1 else 0) (l.take n.toNat)) h) := by
  simp [slcZ, AOp.wp, ev, bnd, slcK]
@[simp] theorem slcZ_lohi {e e' st : Nat} {l : List V} {k k' : IntKind} {n m : Int} : slcZ E env h e (.sl e' st l) (some (.int k n)) (some (.int k' m)) zK = ((l = [] ∨ e' = e) ∧ 0 ≤ n ∧ n ≤ m ∧ m ≤ l.length ∧ K (.sl e' (if st = 1 then 1 else 0) ((l.take m.toNat).drop n.toNat)) h) := Eq.trans rfl rfl
@[simp] theorem slcsZ_lo {s : List UInt8} {k : IntKind} {n : Int} : slcsZ E env h (.str s) (some (.int k n)) none zK = (0 ≤ n ∧ n ≤ s.length ∧ K (.str (s.drop n.toNat)) h) := by
  simp [slcsZ, AOp.wp, ev, bnd]
@[simp] theorem slcsZ_hi {s : List UInt8} {k : IntKind} {n : Int} : slcsZ E env h (.str s) none (some (.int k n)) zK = (0 ≤ n ∧ n ≤ s.length ∧ K (.str (s.take n.toNat)) h) := by
  simp [slcsZ, AOp.wp, ev, bnd]
@[simp] theorem slcsZ_lohi {s : List UInt8} {k k' : IntKind} {n m : Int} : slcsZ E env h (.str s) (some (.int k n)) (some (.int k' m)) zK = (0 ≤ n ∧ n ≤ m ∧ m ≤ s.length ∧ K (.str ((s.take m.toNat).drop n.toNat)) h) := Eq.trans rfl rfl
@[simp] theorem lenZ_sl {e st : Nat} {l : List V} : lenZ E env h false (.sl e st l) zK = K (.int .i64 l.length) h := Eq.trans rfl rfl
@[simp] theorem lenZ_str {s : List UInt8} : lenZ E env h true (.str s) zK = K (.int .i64 s.length) h := Eq.trans rfl rfl
/-- An append that is to be answered. -/
def App (h : AH) (e sz e1 st : Nat) (l : List V) (e2 : Nat) (m : List V) {K : V → AH → Prop} (_ : Lz K) : Prop := appK e sz e1 st l e2 m h K
@[simp] theorem appsZ_nil {t e1 : Nat} {s : List UInt8} : appsZ E env h t (.sl e1 1 []) (.str s) zK = ((s = [] → K (.sl e1 1 []) h) ∧ (s ≠ [] → s.length ≤ 2 ^ 46 ∧ K (.tys t (.sl 1 h.next (bytesV s))) (h.push 1 1))) := Eq.trans rfl rfl
@[simp] theorem appsZ_tys {t t' e1 st : Nat} {l : List V} {s : List UInt8} : appsZ E env h t (.tys t' (.sl e1 st l)) (.str s) zK = (t' = t ∧ App h 1 1 e1 st l 1 (bytesV s) (Lz.mk (a := fun v h' => K (.tys t v) h'))) := Eq.trans rfl rfl
@[simp] theorem appZ_sl {e sz e1 st e2 st2 : Nat} {l m : List V} : appZ E env h e sz (.sl e1 st l) (.sl e2 st2 m) zK = App h e sz e1 st l e2 m zK := Eq.trans rfl rfl
@[simp] theorem mmZ_int {mx : Bool} {k : IntKind} {a b : Int} : mmZ E env h mx (.int k a) (.int k b) zK = K (.int k (if mx then max a b else min a b)) h := by simp [mmZ, AOp.wp, ev]
variable {k : IntKind} {x y : Int}
@[simp] theorem binZ_add : binZ E env h .add (.int k x) (.int k y) zK = K (.int k (k.wrap (x + y))) h := by simp [binZ, AOp.wp, ev, isShift, binI]
@[simp] theorem binZ_sub : binZ E env h .sub (.int k x) (.int k y) zK = K (.int k (k.wrap (x - y))) h := by simp [binZ, AOp.wp, ev, isShift, binI]
@[simp] theorem binZ_mul : binZ E env h .mul (.int k x) (.int k y) zK = K (.int k (k.wrap (x * y))) h := by simp [binZ, AOp.wp, ev, isShift, binI]
@[simp] theorem binZ_quo : binZ E env h .quo (.int k x) (.int k y) zK = (y ≠ 0 ∧ K (.int k (k.wrap (x.tdiv y))) h) := by simp [binZ, AOp.wp, ev, isShift, binI]
@[simp] theorem binZ_rem : binZ E env h .rem (.int k x) (.int k y) zK = (y ≠ 0 ∧ K (.int k (x.tmod y)) h) := by simp [binZ, AOp.wp, ev, isShift, binI]
@[simp] theorem binZ_and : binZ E env h .and (.int k x) (.int k y) zK = K (.int k (bitAnd k x y)) h := by simp [binZ, AOp.wp, ev, isShift, binI]
@[simp] theorem binZ_or : binZ E env h .or (.int k x) (.int k y) zK = K (.int k (bitOr k x y)) h := by simp [binZ, AOp.wp, ev, isShift, binI]
@[simp] theorem binZ_xor : binZ E env h .xor (.int k x) (.int k y) zK = K (.int k (bitXor k x y)) h := by simp [binZ, AOp.wp, ev, isShift, binI]
@[simp] theorem binZ_andNot : binZ E env h .andNot (.int k x) (.int k y) zK = K (.int k (bitAndNot k x y)) h := by simp [binZ, AOp.wp, ev, isShift, binI]
@[simp] theorem binZ_eql : binZ E env h .eql (.int k x) (.int k y) zK = K (.bool (decide (x = y))) h := by simp [binZ, AOp.wp, ev, isShift, binI]
@[simp] theorem binZ_neq : binZ E env h .neq (.int k x) (.int k y) zK = K (.bool (!decide (x = y))) h := by simp [binZ, AOp.wp, ev, isShift, binI]
@[simp] theorem binZ_lss : binZ E env h .lss (.int k x) (.int k y) zK = K (.bool (decide (x < y))) h := by simp [binZ, AOp.wp, ev, isShift, binI]
@[simp] theorem binZ_leq : binZ E env h .leq (.int k x) (.int k y) zK = K (.bool (decide (x ≤ y))) h := by simp [binZ, AOp.wp, ev, isShift, binI]
@[simp] theorem binZ_gtr : binZ E env h .gtr (.int k x) (.int k y) zK = K (.bool (decide (y < x))) h := by simp [binZ, AOp.wp, ev, isShift, binI]
@[simp] theorem binZ_geq : binZ E env h .geq (.int k x) (.int k y) zK = K (.bool (decide (y ≤ x))) h := by simp [binZ, AOp.wp, ev, isShift, binI]
variable {k' : IntKind}
@[simp] theorem binZ_shl : binZ E env h .shl (.int k x) (.int k' y) zK = (0 ≤ y ∧ K (.int k (k.wrap (x * 2 ^ (min y.toNat k.bits)))) h) := by simp [binZ, AOp.wp, ev, isShift, shI]
@[simp] theorem binZ_shr : binZ E env h .shr (.int k x) (.int k' y) zK = (0 ≤ y ∧ K (.int k (x.fdiv (2 ^ (min y.toNat k.bits)))) h) := by simp [binZ, AOp.wp, ev, isShift, shI]
variable {s t : List UInt8}
@[simp] theorem binZ_sadd : binZ E env h .add (.str s) (.str t) zK = (s.length + t.length ≤ 2 ^ 60 ∧ K (.str (s ++ t)) h) := Eq.trans rfl rfl
@[simp] theorem binZ_seql : binZ E env h .eql (.str s) (.str t) zK = K (.bool (decide (s = t))) h := Eq.trans rfl rfl
@[simp] theorem binZ_sneq : binZ E env h .neq (.str s) (.str t) zK = K (.bool (!decide (s = t))) h := Eq.trans rfl rfl
@[simp] theorem binZ_slss : binZ E env h .lss (.str s) (.str t) zK = K (.bool (Op.bytesLess s t)) h := Eq.trans rfl rfl
@[simp] theorem binZ_sleq : binZ E env h .leq (.str s) (.str t) zK = K (.bool (Op.bytesLess s t || decide (s = t))) h := Eq.trans rfl rfl
@[simp] theorem binZ_sgtr : binZ E env h .gtr (.str s) (.str t) zK = K (.bool !(Op.bytesLess s t || decide (s = t))) h := Eq.trans rfl rfl
@[simp] theorem binZ_sgeq : binZ E env h .geq (.str s) (.str t) zK = K (.bool !(Op.bytesLess s t)) h := Eq.trans rfl rfl
end
section
variable {K : V → Prop} {zK : Lz K} {acc : List V} {r : List (Nat × Option (Bool × Nat))}
@[simp] theorem resZ_nil {z : Lz ([] : List (Nat × Option (Bool × Nat)))} : resZ env h acc z zK = K (tupV acc.reverse) := Eq.trans rfl rfl
@[simp] theorem resZ_none {s : Nat} {z : Lz ((s, none) :: r)} : resZ env h acc z zK = resZ env h (get env s :: acc) (Lz.mk (a := r)) zK := Eq.trans rfl rfl
def resM (env : Env) (h : AH) (acc : List V) (v : V) (g : Bool) (n : Nat) {r : List (Nat × Option (Bool × Nat))} {K : V → Prop} (_ : Lz r) (_ : Lz K) : Prop := match v with
  | .ptr o off => loadC g n (h.objs o) off fun v => resP env h r (v :: acc) K
  | _ => False
@[simp] theorem resZ_some {s n : Nat} {g : Bool} {z : Lz ((s, some (g, n)) :: r)} : resZ env h acc z zK = resM env h acc (get env s) g n (Lz.mk (a := r)) zK := Eq.trans rfl rfl
@[simp] theorem resM_ptr0 {n o off : Nat} {z : Lz r} : resM env h acc (.ptr o off) false n z zK = (off < (h.objs o).length ∧ resZ env h ((h.objs o).getD off .undef :: acc) z zK) := Eq.trans rfl rfl
@[simp] theorem resM_ptr1 {n o off : Nat} {z : Lz r} : resM env h acc (.ptr o off) true n z zK = (off + n ≤ (h.objs o).length ∧ resZ env h (.agg (((h.objs o).drop off).take n) :: acc) z zK) := Eq.trans rfl rfl
end
end
section
variable {X : Cx} {env : Env} {h : AH} {K : Env → AH → Prop} {H : List AH} {L : List (AH → Prop)} {r : List (DK × AOper)} {zK : Lz K}
@[simp] theorem drZ_nil {z : Lz ([] : List (DK × AOper))} : drZ (Ecx X) env h H L z zK = K env h := Eq.trans rfl rfl
@[simp] theorem drZ_gd {k : DK} {d : Option Nat} {s : Nat} {t : Bool} {o : AOp} {z : Lz ((k, ⟨d, some (s, t), o⟩) :: r)} : drZ (Ecx X) env h H L z zK =
    gdG (get env s) t (Lz.mk (a := drZ (Ecx X) env h H L (Lz.mk (a := (k, ⟨d, none, o⟩) :: r)) zK)) (Lz.mk (a := drZ (Ecx X) (put env d (.tup [])) h H L (Lz.mk (a := r)) zK)) := by
  cases k <;> rfl
theorem drZ_pl {d : Option Nat} {o : AOp} {z : Lz ((DK.pl, ⟨d, none, o⟩) :: r)} (hd : detOp o = true) : drZ (Ecx X) env h H L z zK =
    opZ (Ecx X) env h (Lz.mk (a := o)) (Lz.mk (a := fun v h' => h' = h ∧ drZ (Ecx X) (put env d v) h H L (Lz.mk (a := r)) zK)) := awpD_pl hd
theorem drZ_eff {d : Option Nat} {o : AOp} {z : Lz ((DK.eff, ⟨d, none, o⟩) :: r)} (hd : detOp o = true) : drZ (Ecx X) env h H L z zK =
    opZ (Ecx X) env h (Lz.mk (a := o)) (Lz.mk (a := fun v h' => (∀ c ∈ L, c h') ∧ drZ (Ecx X) (put env d v) h' (h :: H) L (Lz.mk (a := r)) zK)) := awpD_eff hd
theorem drZ_fl {d : Option Nat} {o : AOp} {z : Lz ((DK.fl, ⟨d, none, o⟩) :: r)} (hd : detOp o = true) : drZ (Ecx X) env h H L z zK =
    opZ (Ecx X) env h (Lz.mk (a := o)) (Lz.mk (a := fun v h' => h' = h ∧ (∀ h' ∈ H, flZ (Ecx X) env h' v (Lz.mk (a := o))) ∧ drZ (Ecx X) (put env d v) h H ((fun h' => flZ (Ecx X) env h' v (Lz.mk (a := o))) :: L) (Lz.mk (a := r)) zK)) := awpD_fl hd
@[simp] theorem drZ_efo_store {n : Nat} {x v : AO} {d : Option Nat} {z : Lz ((DK.efo, ⟨d, none, AOp.store n x v⟩) :: r)} : drZ (Ecx X) env h H L z zK = opZ (Ecx X) env h (Lz.mk (a := AOp.store n x v)) (Lz.mk (a := fun v h' => drZ (Ecx X) (put env d v) h' (h :: H) [] (Lz.mk (a := r)) zK)) := awpD_efo rfl
@[simp] theorem drZ_efo_mest {x n v : AO} {d : Option Nat} {z : Lz ((DK.efo, ⟨d, none, AOp.mest x n v⟩) :: r)} : drZ (Ecx X) env h H L z zK = opZ (Ecx X) env h (Lz.mk (a := AOp.mest x n v)) (Lz.mk (a := fun v h' => drZ (Ecx X) (put env d v) h' (h :: H) [] (Lz.mk (a := r)) zK)) := awpD_efo rfl
@[simp] theorem drZ_call {d : Option Nat} {f : AO} {as : List AO} {z : Lz ((DK.pl, ⟨d, none, .call f as⟩) :: r)} : drZ (Ecx X) env h H L z zK =
    dcallZ (Ecx X) h (ev env f) (as.map (ev env)) (Lz.mk (a := fun v => drZ (Ecx X) (put env d v) h H L (Lz.mk (a := r)) zK)) := by
  show (∃ v, AOp.wp (Ecx X) (ev env) h _ (.call f as) ∧ _) = _
  simp only [AOp.wp, dcallZ]
  generalize ev env f = u
  cases u with
  | cval c =>
    simp only [yldK]
    cases yldOf c with
    | none => simp
    | some l => rfl
  | _ => simp <;> rfl
@[simp] theorem drZ_callE {d : Option Nat} {f : AO} {as : List AO} {z : Lz ((DK.eff, ⟨d, none, .call f as⟩) :: r)} : drZ (Ecx X) env h H L z zK =
    dcallEZ (Ecx X) h (ev env f) (as.map (ev env)) (Lz.mk (a := fun v h' => (∀ c ∈ L, c h') ∧ drZ (Ecx X) (put env d v) h' (h :: H) L (Lz.mk (a := r)) zK)) := by
  show (∃ v h', AOp.wp (Ecx X) (ev env) h _ (.call f as) ∧ _) = _
  simp only [AOp.wp, dcallEZ]
  generalize ev env f = u
  cases u with
  | cval c =>
    simp only [yldK]
    cases yldOf c with
    | none => simp
    | some l => rfl
  | _ => simp <;> rfl
@[simp] theorem dcallZ_fn {E : Sig} {k : Nat} {first cap as : List V} {K : V → Prop} {zK : Lz K} : dcallZ E h (.fn k first cap) as zK = DCall E h k (first ++ as ++ cap) zK := Eq.trans rfl rfl
@[simp] theorem dcallEZ_fn {E : Sig} {k : Nat} {first cap as : List V} {K : V → AH → Prop} {zK : Lz K} : dcallEZ E h (.fn k first cap) as zK = DCallE E h k (first ++ as ++ cap) zK := Eq.trans rfl rfl
@[simp] theorem flZ_load {E : Sig} {v : V} {g : Bool} {n : Nat} {x : AO} {z : Lz (AOp.load g n x)} : flZ E env h v z = ldZ E env h g n (ev env x) (Lz.mk (a := fun v' h' => v' = v ∧ h' = h)) := Eq.trans rfl rfl
end
section
variable {X : Cx} {env : Env} {h : AH} {K : Env → AH → Prop} {H : List AH} {L : List (AH → Prop)} {r : List (DK × AOper)} {zK : Lz K}
@[simp] theorem drZ_pl_mv {x : AO} {d : Option Nat} {z : Lz ((DK.pl, ⟨d, none, AOp.mv x⟩) :: r)} : drZ (Ecx X) env h H L z zK = opZ (Ecx X) env h (Lz.mk (a := AOp.mv x)) (Lz.mk (a := fun v h' => h' = h ∧ drZ (Ecx X) (put env d v) h H L (Lz.mk (a := r)) zK)) := drZ_pl rfl
@[simp] theorem drZ_eff_mv {x : AO} {d : Option Nat} {z : Lz ((DK.eff, ⟨d, none, AOp.mv x⟩) :: r)} : drZ (Ecx X) env h H L z zK = opZ (Ecx X) env h (Lz.mk (a := AOp.mv x)) (Lz.mk (a := fun v h' => (∀ c ∈ L, c h') ∧ drZ (Ecx X) (put env d v) h' (h :: H) L (Lz.mk (a := r)) zK)) := drZ_eff rfl
@[simp] theorem drZ_pl_pick {c a b : AO} {d : Option Nat} {z : Lz ((DK.pl, ⟨d, none, AOp.pick c a b⟩) :: r)} : drZ (Ecx X) env h H L z zK = opZ (Ecx X) env h (Lz.mk (a := AOp.pick c a b)) (Lz.mk (a := fun v h' => h' = h ∧ drZ (Ecx X) (put env d v) h H L (Lz.mk (a := r)) zK)) := drZ_pl rfl
@[simp] theorem drZ_eff_pick {c a b : AO} {d : Option Nat} {z : Lz ((DK.eff, ⟨d, none, AOp.pick c a b⟩) :: r)} : drZ (Ecx X) env h H L z zK = opZ (Ecx X) env h (Lz.mk (a := AOp.pick c a b)) (Lz.mk (a := fun v h' => (∀ c ∈ L, c h') ∧ drZ (Ecx X) (put env d v) h' (h :: H) L (Lz.mk (a := r)) zK)) := drZ_eff rfl
@[simp] theorem drZ_pl_alct {t n : Nat} {zl : List V} {d : Option Nat} {z : Lz ((DK.pl, ⟨d, none, AOp.alct t n zl⟩) :: r)} : drZ (Ecx X) env h H L z zK = opZ (Ecx X) env h (Lz.mk (a := AOp.alct t n zl)) (Lz.mk (a := fun v h' => h' = h ∧ drZ (Ecx X) (put env d v) h H L (Lz.mk (a := r)) zK)) := drZ_pl rfl
@[simp] theorem drZ_pl_alloc {zl : List V} {d : Option Nat} {z : Lz ((DK.pl, ⟨d, none, AOp.alloc zl⟩) :: r)} : drZ (Ecx X) env h H L z zK = opZ (Ecx X) env h (Lz.mk (a := AOp.alloc zl)) (Lz.mk (a := fun v h' => h' = h ∧ drZ (Ecx X) (put env d v) h H L (Lz.mk (a := r)) zK)) := drZ_pl rfl
@[simp] theorem drZ_eff_alct {t n : Nat} {zl : List V} {d : Option Nat} {z : Lz ((DK.eff, ⟨d, none, AOp.alct t n zl⟩) :: r)} : drZ (Ecx X) env h H L z zK = opZ (Ecx X) env h (Lz.mk (a := AOp.alct t n zl)) (Lz.mk (a := fun v h' => (∀ c ∈ L, c h') ∧ drZ (Ecx X) (put env d v) h' (h :: H) L (Lz.mk (a := r)) zK)) := drZ_eff rfl
@[simp] theorem drZ_eff_alloc {zl : List V} {d : Option Nat} {z : Lz ((DK.eff, ⟨d, none, AOp.alloc zl⟩) :: r)} : drZ (Ecx X) env h H L z zK = opZ (Ecx X) env h (Lz.mk (a := AOp.alloc zl)) (Lz.mk (a := fun v h' => (∀ c ∈ L, c h') ∧ drZ (Ecx X) (put env d v) h' (h :: H) L (Lz.mk (a := r)) zK)) := drZ_eff rfl
@[simp] theorem drZ_pl_box {x : AO} {d : Option Nat} {z : Lz ((DK.pl, ⟨d, none, AOp.box x⟩) :: r)} : drZ (Ecx X) env h H L z zK = opZ (Ecx X) env h (Lz.mk (a := AOp.box x)) (Lz.mk (a := fun v h' => h' = h ∧ drZ (Ecx X) (put env d v) h H L (Lz.mk (a := r)) zK)) := drZ_pl rfl
@[simp] theorem drZ_eff_box {x : AO} {d : Option Nat} {z : Lz ((DK.eff, ⟨d, none, AOp.box x⟩) :: r)} : drZ (Ecx X) env h H L z zK = opZ (Ecx X) env h (Lz.mk (a := AOp.box x)) (Lz.mk (a := fun v h' => (∀ c ∈ L, c h') ∧ drZ (Ecx X) (put env d v) h' (h :: H) L (Lz.mk (a := r)) zK)) := drZ_eff rfl
@[simp] theorem drZ_pl_load {g : Bool} {n : Nat} {x : AO} {d : Option Nat} {z : Lz ((DK.pl, ⟨d, none, AOp.load g n x⟩) :: r)} : drZ (Ecx X) env h H L z zK = opZ (Ecx X) env h (Lz.mk (a := AOp.load g n x)) (Lz.mk (a := fun v h' => h' = h ∧ drZ (Ecx X) (put env d v) h H L (Lz.mk (a := r)) zK)) := drZ_pl rfl
@[simp] theorem drZ_eff_load {g : Bool} {n : Nat} {x : AO} {d : Option Nat} {z : Lz ((DK.eff, ⟨d, none, AOp.load g n x⟩) :: r)} : drZ (Ecx X) env h H L z zK = opZ (Ecx X) env h (Lz.mk (a := AOp.load g n x)) (Lz.mk (a := fun v h' => (∀ c ∈ L, c h') ∧ drZ (Ecx X) (put env d v) h' (h :: H) L (Lz.mk (a := r)) zK)) := drZ_eff rfl
@[simp] theorem drZ_pl_store {n : Nat} {x v : AO} {d : Option Nat} {z : Lz ((DK.pl, ⟨d, none, AOp.store n x v⟩) :: r)} : drZ (Ecx X) env h H L z zK = opZ (Ecx X) env h (Lz.mk (a := AOp.store n x v)) (Lz.mk (a := fun v h' => h' = h ∧ drZ (Ecx X) (put env d v) h H L (Lz.mk (a := r)) zK)) := drZ_pl rfl
@[simp] theorem drZ_eff_store {n : Nat} {x v : AO} {d : Option Nat} {z : Lz ((DK.eff, ⟨d, none, AOp.store n x v⟩) :: r)} : drZ (Ecx X) env h H L z zK = opZ (Ecx X) env h (Lz.mk (a := AOp.store n x v)) (Lz.mk (a := fun v h' => (∀ c ∈ L, c h') ∧ drZ (Ecx X) (put env d v) h' (h :: H) L (Lz.mk (a := r)) zK)) := drZ_eff rfl
@[simp] theorem drZ_pl_nilchk {x : AO} {d : Option Nat} {z : Lz ((DK.pl, ⟨d, none, AOp.nilchk x⟩) :: r)} : drZ (Ecx X) env h H L z zK = opZ (Ecx X) env h (Lz.mk (a := AOp.nilchk x)) (Lz.mk (a := fun v h' => h' = h ∧ drZ (Ecx X) (put env d v) h H L (Lz.mk (a := r)) zK)) := drZ_pl rfl
@[simp] theorem drZ_eff_nilchk {x : AO} {d : Option Nat} {z : Lz ((DK.eff, ⟨d, none, AOp.nilchk x⟩) :: r)} : drZ (Ecx X) env h H L z zK = opZ (Ecx X) env h (Lz.mk (a := AOp.nilchk x)) (Lz.mk (a := fun v h' => (∀ c ∈ L, c h') ∧ drZ (Ecx X) (put env d v) h' (h :: H) L (Lz.mk (a := r)) zK)) := drZ_eff rfl
@[simp] theorem drZ_pl_bin {op : BinOp} {x y : AO} {d : Option Nat} {z : Lz ((DK.pl, ⟨d, none, AOp.bin op x y⟩) :: r)} : drZ (Ecx X) env h H L z zK = opZ (Ecx X) env h (Lz.mk (a := AOp.bin op x y)) (Lz.mk (a := fun v h' => h' = h ∧ drZ (Ecx X) (put env d v) h H L (Lz.mk (a := r)) zK)) := drZ_pl rfl
@[simp] theorem drZ_eff_bin {op : BinOp} {x y : AO} {d : Option Nat} {z : Lz ((DK.eff, ⟨d, none, AOp.bin op x y⟩) :: r)} : drZ (Ecx X) env h H L z zK = opZ (Ecx X) env h (Lz.mk (a := AOp.bin op x y)) (Lz.mk (a := fun v h' => (∀ c ∈ L, c h') ∧ drZ (Ecx X) (put env d v) h' (h :: H) L (Lz.mk (a := r)) zK)) := drZ_eff rfl
@[simp] theorem drZ_pl_beq {neg : Bool} {x y : AO} {d : Option Nat} {z : Lz ((DK.pl, ⟨d, none, AOp.beq neg x y⟩) :: r)} : drZ (Ecx X) env h H L z zK = opZ (Ecx X) env h (Lz.mk (a := AOp.beq neg x y)) (Lz.mk (a := fun v h' => h' = h ∧ drZ (Ecx X) (put env d v) h H L (Lz.mk (a := r)) zK)) := drZ_pl rfl
@[simp] theorem drZ_eff_beq {neg : Bool} {x y : AO} {d : Option Nat} {z : Lz ((DK.eff, ⟨d, none, AOp.beq neg x y⟩) :: r)} : drZ (Ecx X) env h H L z zK = opZ (Ecx X) env h (Lz.mk (a := AOp.beq neg x y)) (Lz.mk (a := fun v h' => (∀ c ∈ L, c h') ∧ drZ (Ecx X) (put env d v) h' (h :: H) L (Lz.mk (a := r)) zK)) := drZ_eff rfl
@[simp] theorem drZ_pl_mks {e sz : Nat} {cap : AO} {d : Option Nat} {z : Lz ((DK.pl, ⟨d, none, AOp.mks e sz cap⟩) :: r)} : drZ (Ecx X) env h H L z zK = opZ (Ecx X) env h (Lz.mk (a := AOp.mks e sz cap)) (Lz.mk (a := fun v h' => h' = h ∧ drZ (Ecx X) (put env d v) h H L (Lz.mk (a := r)) zK)) := drZ_pl rfl
@[simp] theorem drZ_eff_mks {e sz : Nat} {cap : AO} {d : Option Nat} {z : Lz ((DK.eff, ⟨d, none, AOp.mks e sz cap⟩) :: r)} : drZ (Ecx X) env h H L z zK = opZ (Ecx X) env h (Lz.mk (a := AOp.mks e sz cap)) (Lz.mk (a := fun v h' => (∀ c ∈ L, c h') ∧ drZ (Ecx X) (put env d v) h' (h :: H) L (Lz.mk (a := r)) zK)) := drZ_eff rfl
@[simp] theorem drZ_pl_un {op : UnOp} {x : AO} {d : Option Nat} {z : Lz ((DK.pl, ⟨d, none, AOp.un op x⟩) :: r)} : drZ (Ecx X) env h H L z zK = opZ (Ecx X) env h (Lz.mk (a := AOp.un op x)) (Lz.mk (a := fun v h' => h' = h ∧ drZ (Ecx X) (put env d v) h H L (Lz.mk (a := r)) zK)) := drZ_pl rfl
@[simp] theorem drZ_eff_un {op : UnOp} {x : AO} {d : Option Nat} {z : Lz ((DK.eff, ⟨d, none, AOp.un op x⟩) :: r)} : drZ (Ecx X) env h H L z zK = opZ (Ecx X) env h (Lz.mk (a := AOp.un op x)) (Lz.mk (a := fun v h' => (∀ c ∈ L, c h') ∧ drZ (Ecx X) (put env d v) h' (h :: H) L (Lz.mk (a := r)) zK)) := drZ_eff rfl
@[simp] theorem drZ_pl_conv {k : IntKind} {x : AO} {d : Option Nat} {z : Lz ((DK.pl, ⟨d, none, AOp.conv k x⟩) :: r)} : drZ (Ecx X) env h H L z zK = opZ (Ecx X) env h (Lz.mk (a := AOp.conv k x)) (Lz.mk (a := fun v h' => h' = h ∧ drZ (Ecx X) (put env d v) h H L (Lz.mk (a := r)) zK)) := drZ_pl rfl
@[simp] theorem drZ_eff_conv {k : IntKind} {x : AO} {d : Option Nat} {z : Lz ((DK.eff, ⟨d, none, AOp.conv k x⟩) :: r)} : drZ (Ecx X) env h H L z zK = opZ (Ecx X) env h (Lz.mk (a := AOp.conv k x)) (Lz.mk (a := fun v h' => (∀ c ∈ L, c h') ∧ drZ (Ecx X) (put env d v) h' (h :: H) L (Lz.mk (a := r)) zK)) := drZ_eff rfl
@[simp] theorem drZ_pl_fa {off : Nat} {x : AO} {d : Option Nat} {z : Lz ((DK.pl, ⟨d, none, AOp.fa off x⟩) :: r)} : drZ (Ecx X) env h H L z zK = opZ (Ecx X) env h (Lz.mk (a := AOp.fa off x)) (Lz.mk (a := fun v h' => h' = h ∧ drZ (Ecx X) (put env d v) h H L (Lz.mk (a := r)) zK)) := drZ_pl rfl
@[simp] theorem drZ_eff_fa {off : Nat} {x : AO} {d : Option Nat} {z : Lz ((DK.eff, ⟨d, none, AOp.fa off x⟩) :: r)} : drZ (Ecx X) env h H L z zK = opZ (Ecx X) env h (Lz.mk (a := AOp.fa off x)) (Lz.mk (a := fun v h' => (∀ c ∈ L, c h') ∧ drZ (Ecx X) (put env d v) h' (h :: H) L (Lz.mk (a := r)) zK)) := drZ_eff rfl
@[simp] theorem drZ_pl_fld {g : Bool} {off n : Nat} {x : AO} {d : Option Nat} {z : Lz ((DK.pl, ⟨d, none, AOp.fld g off n x⟩) :: r)} : drZ (Ecx X) env h H L z zK = opZ (Ecx X) env h (Lz.mk (a := AOp.fld g off n x)) (Lz.mk (a := fun v h' => h' = h ∧ drZ (Ecx X) (put env d v) h H L (Lz.mk (a := r)) zK)) := drZ_pl rfl
@[simp] theorem drZ_eff_fld {g : Bool} {off n : Nat} {x : AO} {d : Option Nat} {z : Lz ((DK.eff, ⟨d, none, AOp.fld g off n x⟩) :: r)} : drZ (Ecx X) env h H L z zK = opZ (Ecx X) env h (Lz.mk (a := AOp.fld g off n x)) (Lz.mk (a := fun v h' => (∀ c ∈ L, c h') ∧ drZ (Ecx X) (put env d v) h' (h :: H) L (Lz.mk (a := r)) zK)) := drZ_eff rfl
@[simp] theorem drZ_pl_ia {e : Nat} {x i : AO} {d : Option Nat} {z : Lz ((DK.pl, ⟨d, none, AOp.ia e x i⟩) :: r)} : drZ (Ecx X) env h H L z zK = opZ (Ecx X) env h (Lz.mk (a := AOp.ia e x i)) (Lz.mk (a := fun v h' => h' = h ∧ drZ (Ecx X) (put env d v) h H L (Lz.mk (a := r)) zK)) := drZ_pl rfl
@[simp] theorem drZ_eff_ia {e : Nat} {x i : AO} {d : Option Nat} {z : Lz ((DK.eff, ⟨d, none, AOp.ia e x i⟩) :: r)} : drZ (Ecx X) env h H L z zK = opZ (Ecx X) env h (Lz.mk (a := AOp.ia e x i)) (Lz.mk (a := fun v h' => (∀ c ∈ L, c h') ∧ drZ (Ecx X) (put env d v) h' (h :: H) L (Lz.mk (a := r)) zK)) := drZ_eff rfl
@[simp] theorem drZ_pl_ixs {x i : AO} {d : Option Nat} {z : Lz ((DK.pl, ⟨d, none, AOp.ixs x i⟩) :: r)} : drZ (Ecx X) env h H L z zK = opZ (Ecx X) env h (Lz.mk (a := AOp.ixs x i)) (Lz.mk (a := fun v h' => h' = h ∧ drZ (Ecx X) (put env d v) h H L (Lz.mk (a := r)) zK)) := drZ_pl rfl
@[simp] theorem drZ_eff_ixs {x i : AO} {d : Option Nat} {z : Lz ((DK.eff, ⟨d, none, AOp.ixs x i⟩) :: r)} : drZ (Ecx X) env h H L z zK = opZ (Ecx X) env h (Lz.mk (a := AOp.ixs x i)) (Lz.mk (a := fun v h' => (∀ c ∈ L, c h') ∧ drZ (Ecx X) (put env d v) h' (h :: H) L (Lz.mk (a := r)) zK)) := drZ_eff rfl
@[simp] theorem drZ_pl_ext {x : AO} {i : Nat} {d : Option Nat} {z : Lz ((DK.pl, ⟨d, none, AOp.ext x i⟩) :: r)} : drZ (Ecx X) env h H L z zK = opZ (Ecx X) env h (Lz.mk (a := AOp.ext x i)) (Lz.mk (a := fun v h' => h' = h ∧ drZ (Ecx X) (put env d v) h H L (Lz.mk (a := r)) zK)) := drZ_pl rfl
@[simp] theorem drZ_eff_ext {x : AO} {i : Nat} {d : Option Nat} {z : Lz ((DK.eff, ⟨d, none, AOp.ext x i⟩) :: r)} : drZ (Ecx X) env h H L z zK = opZ (Ecx X) env h (Lz.mk (a := AOp.ext x i)) (Lz.mk (a := fun v h' => (∀ c ∈ L, c h') ∧ drZ (Ecx X) (put env d v) h' (h :: H) L (Lz.mk (a := r)) zK)) := drZ_eff rfl
@[simp] theorem drZ_pl_mkfn {f : Nat} {first cap : List AO} {d : Option Nat} {z : Lz ((DK.pl, ⟨d, none, AOp.mkfn f first cap⟩) :: r)} : drZ (Ecx X) env h H L z zK = opZ (Ecx X) env h (Lz.mk (a := AOp.mkfn f first cap)) (Lz.mk (a := fun v h' => h' = h ∧ drZ (Ecx X) (put env d v) h H L (Lz.mk (a := r)) zK)) := drZ_pl rfl
@[simp] theorem drZ_eff_mkfn {f : Nat} {first cap : List AO} {d : Option Nat} {z : Lz ((DK.eff, ⟨d, none, AOp.mkfn f first cap⟩) :: r)} : drZ (Ecx X) env h H L z zK = opZ (Ecx X) env h (Lz.mk (a := AOp.mkfn f first cap)) (Lz.mk (a := fun v h' => (∀ c ∈ L, c h') ∧ drZ (Ecx X) (put env d v) h' (h :: H) L (Lz.mk (a := r)) zK)) := drZ_eff rfl
@[simp] theorem drZ_pl_slc {e : Nat} {x : AO} {lo hi : Option AO} {d : Option Nat} {z : Lz ((DK.pl, ⟨d, none, AOp.slc e x lo hi⟩) :: r)} : drZ (Ecx X) env h H L z zK = opZ (Ecx X) env h (Lz.mk (a := AOp.slc e x lo hi)) (Lz.mk (a := fun v h' => h' = h ∧ drZ (Ecx X) (put env d v) h H L (Lz.mk (a := r)) zK)) := drZ_pl rfl
@[simp] theorem drZ_eff_slc {e : Nat} {x : AO} {lo hi : Option AO} {d : Option Nat} {z : Lz ((DK.eff, ⟨d, none, AOp.slc e x lo hi⟩) :: r)} : drZ (Ecx X) env h H L z zK = opZ (Ecx X) env h (Lz.mk (a := AOp.slc e x lo hi)) (Lz.mk (a := fun v h' => (∀ c ∈ L, c h') ∧ drZ (Ecx X) (put env d v) h' (h :: H) L (Lz.mk (a := r)) zK)) := drZ_eff rfl
@[simp] theorem drZ_pl_slcs {x : AO} {lo hi : Option AO} {d : Option Nat} {z : Lz ((DK.pl, ⟨d, none, AOp.slcs x lo hi⟩) :: r)} : drZ (Ecx X) env h H L z zK = opZ (Ecx X) env h (Lz.mk (a := AOp.slcs x lo hi)) (Lz.mk (a := fun v h' => h' = h ∧ drZ (Ecx X) (put env d v) h H L (Lz.mk (a := r)) zK)) := drZ_pl rfl
@[simp] theorem drZ_eff_slcs {x : AO} {lo hi : Option AO} {d : Option Nat} {z : Lz ((DK.eff, ⟨d, none, AOp.slcs x lo hi⟩) :: r)} : drZ (Ecx X) env h H L z zK = opZ (Ecx X) env h (Lz.mk (a := AOp.slcs x lo hi)) (Lz.mk (a := fun v h' => (∀ c ∈ L, c h') ∧ drZ (Ecx X) (put env d v) h' (h :: H) L (Lz.mk (a := r)) zK)) := drZ_eff rfl
@[simp] theorem drZ_pl_len {str : Bool} {x : AO} {d : Option Nat} {z : Lz ((DK.pl, ⟨d, none, AOp.len str x⟩) :: r)} : drZ (Ecx X) env h H L z zK = opZ (Ecx X) env h (Lz.mk (a := AOp.len str x)) (Lz.mk (a := fun v h' => h' = h ∧ drZ (Ecx X) (put env d v) h H L (Lz.mk (a := r)) zK)) := drZ_pl rfl
@[simp] theorem drZ_eff_len {str : Bool} {x : AO} {d : Option Nat} {z : Lz ((DK.eff, ⟨d, none, AOp.len str x⟩) :: r)} : drZ (Ecx X) env h H L z zK = opZ (Ecx X) env h (Lz.mk (a := AOp.len str x)) (Lz.mk (a := fun v h' => (∀ c ∈ L, c h') ∧ drZ (Ecx X) (put env d v) h' (h :: H) L (Lz.mk (a := r)) zK)) := drZ_eff rfl
@[simp] theorem drZ_pl_apps {t : Nat} {x y : AO} {d : Option Nat} {z : Lz ((DK.pl, ⟨d, none, AOp.apps t x y⟩) :: r)} : drZ (Ecx X) env h H L z zK = opZ (Ecx X) env h (Lz.mk (a := AOp.apps t x y)) (Lz.mk (a := fun v h' => h' = h ∧ drZ (Ecx X) (put env d v) h H L (Lz.mk (a := r)) zK)) := drZ_pl rfl
@[simp] theorem drZ_pl_app {e sz : Nat} {x y : AO} {d : Option Nat} {z : Lz ((DK.pl, ⟨d, none, AOp.app e sz x y⟩) :: r)} : drZ (Ecx X) env h H L z zK = opZ (Ecx X) env h (Lz.mk (a := AOp.app e sz x y)) (Lz.mk (a := fun v h' => h' = h ∧ drZ (Ecx X) (put env d v) h H L (Lz.mk (a := r)) zK)) := drZ_pl rfl
@[simp] theorem drZ_eff_apps {t : Nat} {x y : AO} {d : Option Nat} {z : Lz ((DK.eff, ⟨d, none, AOp.apps t x y⟩) :: r)} : drZ (Ecx X) env h H L z zK = opZ (Ecx X) env h (Lz.mk (a := AOp.apps t x y)) (Lz.mk (a := fun v h' => (∀ c ∈ L, c h') ∧ drZ (Ecx X) (put env d v) h' (h :: H) L (Lz.mk (a := r)) zK)) := drZ_eff rfl
@[simp] theorem drZ_eff_app {e sz : Nat} {x y : AO} {d : Option Nat} {z : Lz ((DK.eff, ⟨d, none, AOp.app e sz x y⟩) :: r)} : drZ (Ecx X) env h H L z zK = opZ (Ecx X) env h (Lz.mk (a := AOp.app e sz x y)) (Lz.mk (a := fun v h' => (∀ c ∈ L, c h') ∧ drZ (Ecx X) (put env d v) h' (h :: H) L (Lz.mk (a := r)) zK)) := drZ_eff rfl
@[simp] theorem drZ_pl_mm {mx : Bool} {x y : AO} {d : Option Nat} {z : Lz ((DK.pl, ⟨d, none, AOp.mm mx x y⟩) :: r)} : drZ (Ecx X) env h H L z zK = opZ (Ecx X) env h (Lz.mk (a := AOp.mm mx x y)) (Lz.mk (a := fun v h' => h' = h ∧ drZ (Ecx X) (put env d v) h H L (Lz.mk (a := r)) zK)) := drZ_pl rfl
@[simp] theorem drZ_eff_appo {e sz : Nat} {zz : List V} {x y : AO} {d : Option Nat} {z : Lz ((DK.eff, ⟨d, none, AOp.appo e sz zz x y⟩) :: r)} : drZ (Ecx X) env h H L z zK = opZ (Ecx X) env h (Lz.mk (a := AOp.appo e sz zz x y)) (Lz.mk (a := fun v h' => (∀ c ∈ L, c h') ∧ drZ (Ecx X) (put env d v) h' (h :: H) L (Lz.mk (a := r)) zK)) := drZ_eff rfl
@[simp] theorem drZ_eff_mkso {e sz : Nat} {zz : List V} {x y : AO} {d : Option Nat} {z : Lz ((DK.eff, ⟨d, none, AOp.mkso e sz zz x y⟩) :: r)} : drZ (Ecx X) env h H L z zK = opZ (Ecx X) env h (Lz.mk (a := AOp.mkso e sz zz x y)) (Lz.mk (a := fun v h' => (∀ c ∈ L, c h') ∧ drZ (Ecx X) (put env d v) h' (h :: H) L (Lz.mk (a := r)) zK)) := drZ_eff rfl
@[simp] theorem drZ_eff_bslo {e n : Nat} {g : Bool} {zz : List V} {ps : List (Nat × AO)} {d : Option Nat} {z : Lz ((DK.eff, ⟨d, none, AOp.bslo e g zz n ps⟩) :: r)} : drZ (Ecx X) env h H L z zK = opZ (Ecx X) env h (Lz.mk (a := AOp.bslo e g zz n ps)) (Lz.mk (a := fun v h' => (∀ c ∈ L, c h') ∧ drZ (Ecx X) (put env d v) h' (h :: H) L (Lz.mk (a := r)) zK)) := drZ_eff rfl
@[simp] theorem drZ_eff_mkm  {d : Option Nat} {z : Lz ((DK.eff, ⟨d, none, AOp.mkm⟩) :: r)} : drZ (Ecx X) env h H L z zK = opZ (Ecx X) env h (Lz.mk (a := AOp.mkm)) (Lz.mk (a := fun v h' => (∀ c ∈ L, c h') ∧ drZ (Ecx X) (put env d v) h' (h :: H) L (Lz.mk (a := r)) zK)) := drZ_eff rfl
@[simp] theorem drZ_eff_mupd {e : KK} {x k v : AO} {d : Option Nat} {z : Lz ((DK.eff, ⟨d, none, AOp.mupd e x k v⟩) :: r)} : drZ (Ecx X) env h H L z zK = opZ (Ecx X) env h (Lz.mk (a := AOp.mupd e x k v)) (Lz.mk (a := fun v h' => (∀ c ∈ L, c h') ∧ drZ (Ecx X) (put env d v) h' (h :: H) L (Lz.mk (a := r)) zK)) := drZ_eff rfl
@[simp] theorem drZ_eff_ment {e : KK} {l : V} {x k : AO} {d : Option Nat} {z : Lz ((DK.eff, ⟨d, none, AOp.ment e l x k⟩) :: r)} : drZ (Ecx X) env h H L z zK = opZ (Ecx X) env h (Lz.mk (a := AOp.ment e l x k)) (Lz.mk (a := fun v h' => (∀ c ∈ L, c h') ∧ drZ (Ecx X) (put env d v) h' (h :: H) L (Lz.mk (a := r)) zK)) := drZ_eff rfl
@[simp] theorem drZ_eff_mest {x s v : AO} {d : Option Nat} {z : Lz ((DK.eff, ⟨d, none, AOp.mest x s v⟩) :: r)} : drZ (Ecx X) env h H L z zK = opZ (Ecx X) env h (Lz.mk (a := AOp.mest x s v)) (Lz.mk (a := fun v h' => (∀ c ∈ L, c h') ∧ drZ (Ecx X) (put env d v) h' (h :: H) L (Lz.mk (a := r)) zK)) := drZ_eff rfl
@[simp] theorem drZ_pl_mkif {t : Nat} {x : AO} {d : Option Nat} {z : Lz ((DK.pl, ⟨d, none, AOp.mkif t x⟩) :: r)} : drZ (Ecx X) env h H L z zK = opZ (Ecx X) env h (Lz.mk (a := AOp.mkif t x)) (Lz.mk (a := fun v h' => h' = h ∧ drZ (Ecx X) (put env d v) h H L (Lz.mk (a := r)) zK)) := drZ_pl rfl
@[simp] theorem drZ_pl_s2b {x : AO} {d : Option Nat} {z : Lz ((DK.pl, ⟨d, none, AOp.s2b x⟩) :: r)} : drZ (Ecx X) env h H L z zK = opZ (Ecx X) env h (Lz.mk (a := AOp.s2b x)) (Lz.mk (a := fun v h' => h' = h ∧ drZ (Ecx X) (put env d v) h H L (Lz.mk (a := r)) zK)) := drZ_pl rfl
@[simp] theorem drZ_pl_lkp {e : KK} {l : V} {ok : Bool} {x k : AO} {d : Option Nat} {z : Lz ((DK.pl, ⟨d, none, AOp.lkp e l ok x k⟩) :: r)} : drZ (Ecx X) env h H L z zK = opZ (Ecx X) env h (Lz.mk (a := AOp.lkp e l ok x k)) (Lz.mk (a := fun v h' => h' = h ∧ drZ (Ecx X) (put env d v) h H L (Lz.mk (a := r)) zK)) := drZ_pl rfl
@[simp] theorem drZ_fl_lkp {e : KK} {l : V} {ok : Bool} {x k : AO} {d : Option Nat} {z : Lz ((DK.fl, ⟨d, none, AOp.lkp e l ok x k⟩) :: r)} : drZ (Ecx X) env h H L z zK = opZ (Ecx X) env h (Lz.mk (a := AOp.lkp e l ok x k)) (Lz.mk (a := fun v h' => h' = h ∧ (∀ h' ∈ H, flZ (Ecx X) env h' v (Lz.mk (a := AOp.lkp e l ok x k))) ∧ drZ (Ecx X) (put env d v) h H ((fun h' => flZ (Ecx X) env h' v (Lz.mk (a := AOp.lkp e l ok x k))) :: L) (Lz.mk (a := r)) zK)) := drZ_fl rfl
@[simp] theorem drZ_pl_mlen {x : AO} {d : Option Nat} {z : Lz ((DK.pl, ⟨d, none, AOp.mlen x⟩) :: r)} : drZ (Ecx X) env h H L z zK = opZ (Ecx X) env h (Lz.mk (a := AOp.mlen x)) (Lz.mk (a := fun v h' => h' = h ∧ drZ (Ecx X) (put env d v) h H L (Lz.mk (a := r)) zK)) := drZ_pl rfl
@[simp] theorem drZ_fl_mlen {x : AO} {d : Option Nat} {z : Lz ((DK.fl, ⟨d, none, AOp.mlen x⟩) :: r)} : drZ (Ecx X) env h H L z zK = opZ (Ecx X) env h (Lz.mk (a := AOp.mlen x)) (Lz.mk (a := fun v h' => h' = h ∧ (∀ h' ∈ H, flZ (Ecx X) env h' v (Lz.mk (a := AOp.mlen x))) ∧ drZ (Ecx X) (put env d v) h H ((fun h' => flZ (Ecx X) env h' v (Lz.mk (a := AOp.mlen x))) :: L) (Lz.mk (a := r)) zK)) := drZ_fl rfl
/-- A call that some turn is not ordered with: it answers alike in every heap. -/
theorem fcall {d : Option Nat} {f : AO} {as : List AO} {k : Nat} {first cap asv : List V} {z : Lz ((DK.fl, ⟨d, none, AOp.call f as⟩) :: r)} (v : V) (hf : ev env f = .fn k first cap) (ha : first ++ as.map (ev env) ++ cap = asv)
    (hc : ∀ h', Ecx X k asv h' fun v' h'' => v' = v ∧ h'' = h') (hk : drZ (Ecx X) (put env d v) h H L (Lz.mk (a := r)) zK) : drZ (Ecx X) env h H L z zK := by
  have hq : ∀ h', AOp.quiet (Ecx X) (AOp.call f as) (ev env) v h' := fun h' => by
    simp only [AOp.quiet, AOp.wp, hf]; rw [ha]; exact hc h'
  refine ⟨v, hq h, fun h' _ => hq h', awpD_L (fun c hc => ?_) hk⟩
  rcases List.mem_cons.1 hc with rfl | hc
  · exact .inr hq
  · exact .inl hc
@[simp] theorem drZ_eff_mm {mx : Bool} {x y : AO} {d : Option Nat} {z : Lz ((DK.eff, ⟨d, none, AOp.mm mx x y⟩) :: r)} : drZ (Ecx X) env h H L z zK = opZ (Ecx X) env h (Lz.mk (a := AOp.mm mx x y)) (Lz.mk (a := fun v h' => (∀ c ∈ L, c h') ∧ drZ (Ecx X) (put env d v) h' (h :: H) L (Lz.mk (a := r)) zK)) := drZ_eff rfl
@[simp] theorem drZ_fl_load {g : Bool} {n : Nat} {x : AO} {d : Option Nat} {z : Lz ((DK.fl, ⟨d, none, AOp.load g n x⟩) :: r)} : drZ (Ecx X) env h H L z zK = opZ (Ecx X) env h (Lz.mk (a := AOp.load g n x)) (Lz.mk (a := fun v h' => h' = h ∧ (∀ h' ∈ H, flZ (Ecx X) env h' v (Lz.mk (a := AOp.load g n x))) ∧ drZ (Ecx X) (put env d v) h H ((fun h' => flZ (Ecx X) env h' v (Lz.mk (a := AOp.load g n x))) :: L) (Lz.mk (a := r)) zK)) := drZ_fl rfl
end
/-! ### Turning objects -/
section
variable (h : AH) (o : Nat) (z y : List V)
@[simp] theorem set_objs_same : (h.set o z).objs o = z := updN_same _ _ _
@[simp] theorem set_objs_ne {o' : Nat} (e : ¬ o' = o) : (h.set o z).objs o' = h.objs o' := updN_ne _ _ e
@[simp] theorem set_nobj : (h.set o z).nobj = h.nobj := Eq.trans rfl rfl
@[simp] theorem set_next : (h.set o z).next = h.next := Eq.trans rfl rfl
@[simp] theorem set_tips : (h.set o z).tips = h.tips := Eq.trans rfl rfl
@[simp] theorem set_set : (h.set o z).set o y = h.set o y := by
  unfold AH.set; simp only [AH.mk.injEq, and_true]; funext j; simp only [updN]; split <;> rfl
theorem set_self {h : AH} {o : Nat} {z : List V} (e : h.objs o = z) : h.set o z = h := by
  subst e; cases h; simp only [AH.set, AH.mk.injEq, and_true]; funext j; simp only [updN]; split <;> simp_all
@[simp] theorem new_objs_same : (h.new z).objs h.nobj = z := updN_same _ _ _
@[simp] theorem new_objs_ne {o' : Nat} (e : ¬ o' = h.nobj) : (h.new z).objs o' = h.objs o' := updN_ne _ _ e
@[simp] theorem new_nobj : (h.new z).nobj = h.nobj + 1 := Eq.trans rfl rfl
@[simp] theorem new_next : (h.new z).next = h.next := Eq.trans rfl rfl
@[simp] theorem new_tips : (h.new z).tips = h.tips := Eq.trans rfl rfl
@[simp] theorem new_set : (h.new z).set h.nobj y = h.new y := by
  unfold AH.set AH.new; simp only [AH.mk.injEq, and_true]; funext j; simp only [updN]; split <;> rfl
end
/-- What h1 is, but for what the call itself has made: of the objects that were, each is what h2 says, or stronger. -/
structure GrW (h2 h1 : AH) : Prop where
  next : h2.next ≤ h1.next
  nobj : h2.nobj ≤ h1.nobj
  objs : ∀ o, o < h2.nobj → WkL (h1.objs o) (h2.objs o)
  tips : ∀ s, s < h2.next → h1.tips s = h2.tips s
theorem GrW.refl (h : AH) : GrW h h := ⟨Nat.le_refl _, Nat.le_refl _, fun _ _ => WkL.refl _, fun _ _ => rfl⟩
theorem Gr.grW {h2 h1 : AH} (G : Gr h2 h1) : GrW h2 h1 := ⟨G.next, G.nobj, fun o ho => by rw [G.objs o ho]; exact WkL.refl _, G.tips⟩
/-- A heap that one tells of: the old one, with other things in some objects, and some objects more. -/
structure Ext (h h2 : AH) : Prop where
  next : h2.next = h.next
  nobj : h.nobj ≤ h2.nobj
  tips : h2.tips = h.tips
  objs : ∀ o, o < h2.nobj → (o < h.nobj ∧ h2.objs o = h.objs o) ∨ ∀ v ∈ h2.objs o, Bdd h2.next h2.nobj v
theorem Ext.refl (h : AH) : Ext h h := ⟨rfl, Nat.le_refl _, rfl, fun o ho => .inl ⟨ho, rfl⟩⟩
theorem Ext.set (h : AH) (o : Nat) {z : List V} (hz : ∀ v ∈ z, Bdd h.next h.nobj v) : Ext h (h.set o z) :=
  ⟨rfl, Nat.le_refl _, rfl, fun o' ho' => by
    by_cases e : o' = o
    · subst e; refine .inr ?_; rw [show (h.set o' z).objs o' = z from updN_same _ _ _]; exact hz
    · exact .inl ⟨ho', updN_ne _ _ e⟩⟩
theorem Ext.set2 {h h2 : AH} (x : Ext h h2) (o : Nat) {z : List V} (hz : ∀ v ∈ z, Bdd h2.next h2.nobj v) : Ext h (h2.set o z) :=
  ⟨x.next, x.nobj, x.tips, fun o' ho' => by
    by_cases e : o' = o
    · subst e; refine .inr ?_; rw [show (h2.set o' z).objs o' = z from updN_same _ _ _]; exact hz
    · rcases x.objs o' ho' with ⟨a, b⟩ | a
      · exact .inl ⟨a, by rw [show (h2.set o z).objs o' = h2.objs o' from updN_ne _ _ e]; exact b⟩
      · exact .inr (by rw [show (h2.set o z).objs o' = h2.objs o' from updN_ne _ _ e]; exact a)⟩
theorem Ext.new (h : AH) {z : List V} (hz : ∀ v ∈ z, Bdd h.next (h.nobj + 1) v) : Ext h (h.new z) :=
  ⟨rfl, Nat.le_succ _, rfl, fun o' ho' => by
    by_cases e : o' = h.nobj
    · subst e; refine .inr ?_; rw [show (h.new z).objs h.nobj = z from updN_same _ _ _]; exact hz
    · exact .inl ⟨by have : (h.new z).nobj = h.nobj + 1 := rfl; omega, updN_ne _ _ e⟩⟩
/-- The end of a function that turns objects. -/
def FinS (h2 : AH) {Q : V → AH → Prop} (v : V) (h1 : AH) (_ : Lz Q) : Prop := GrW h2 h1 ∧ ∃ r', Wk v r' ∧ Bdd h2.next h2.nobj r' ∧ Q r' h2
theorem finS {h2 h1 : AH} {v : V} {Q : V → AH → Prop} {z : Lz Q} (g : GrW h2 h1) (hb : Bdd h2.next h2.nobj v) (hq : Q v h2) : FinS h2 v h1 z := ⟨g, v, .same v, hb, hq⟩
theorem finS_wk {h2 h1 : AH} {v r : V} {Q : V → AH → Prop} {z : Lz Q} (g : GrW h2 h1) (w : Wk v r) (hb : Bdd h2.next h2.nobj r) (hq : Q r h2) : FinS h2 v h1 z := ⟨g, r, w, hb, hq⟩

/-! ### Rules -/
section
variable {X : Cx} {h : AH} {Q : V → AH → Prop}
/-- A function that only makes things. -/
theorem fn_walk {k : Nat} {f : AFn} (H : Has (Ecx X) k f) {args : List V} (hl : args.length ≤ f.n)
    (hk : Wf h → acZ (Ecx X) (initEnv 0 args) h (Lz.mk (a := f.body)) (Lz.mk (a := fun (e : Ex) env h1 => match e with
      | .nrm => resZ env h1 [] (Lz.mk (a := f.res)) (Lz.mk (a := fun v => Fin h v h1 (Lz.mk (a := Q))))
      | .ret => resZ env h1 [] (Lz.mk (a := f.res)) (Lz.mk (a := fun v => Fin h v h1 (Lz.mk (a := Q))))
      | .exit _ => False))) : Ecx X k args h Q :=
  fn_pure H hl hk
/-- A function that turns objects: h2 is what is told of the heap behind it. -/
theorem fn_set {k : Nat} {f : AFn} (H : Has (Ecx X) k f) (h2 : AH) {args : List V} (hx : Wf h → (∀ v ∈ args, Bdd h.next h.nobj v) → Ext h h2) (hl : args.length ≤ f.n)
    (hk : Wf h → (∀ v ∈ args, Bdd h.next h.nobj v) → acZ (Ecx X) (initEnv 0 args) h (Lz.mk (a := f.body)) (Lz.mk (a := fun (e : Ex) env h1 => match e with
      | .nrm => resZ env h1 [] (Lz.mk (a := f.res)) (Lz.mk (a := fun v => FinS h2 v h1 (Lz.mk (a := Q))))
      | .ret => resZ env h1 [] (Lz.mk (a := f.res)) (Lz.mk (a := fun v => FinS h2 v h1 (Lz.mk (a := Q))))
      | .exit _ => False))) : Ecx X k args h Q := by
  refine Ecx.wf fun wf => Ecx.bdd fun hb => Ecx.weak ?_
  have X0 := hx wf hb
  refine Ecx.mono (H _ _ (fun v h1 => FinS h2 v h1 (Lz.mk (a := Q))) ⟨hl, hk wf hb⟩) fun r h1 ⟨G, r', w, b, q⟩ => ⟨r', h2, w, ⟨⟨by rw [X0.next]; exact Nat.le_refl _, G.next⟩, ⟨X0.nobj, G.nobj⟩, fun s e he => ?_, fun o ho => ⟨G.objs o ho, X0.objs o ho⟩⟩, b, q⟩
  have hs : s < h2.next := by
    rw [X0.tips] at he
    rw [X0.next]; exact (wf.tips s e he).2
  exact ⟨by rw [G.tips s hs]; exact he, .inl hs⟩
/-- Any function. -/
theorem fn_any {k : Nat} {f : AFn} (H : Has (Ecx X) k f) {args : List V} (hl : args.length ≤ f.n)
    (hk : Wf h → acZ (Ecx X) (initEnv 0 args) h (Lz.mk (a := f.body)) (Lz.mk (a := fun (e : Ex) env h1 => match e with
      | .nrm => resZ env h1 [] (Lz.mk (a := f.res)) (Lz.mk (a := fun v => Q v h1))
      | .ret => resZ env h1 [] (Lz.mk (a := f.res)) (Lz.mk (a := fun v => Q v h1))
      | .exit _ => False))) : Ecx X k args h Q :=
  Ecx.wf fun w => H _ _ _ ⟨hl, hk w⟩
theorem loopZ {A : AC} {env : Env} {Q : Ex → Env → AH → Prop} {z : Lz (AC.loop A)} {zQ : Lz Q} (I : Nat → Env → AH → Prop) {n : Nat}
    (round : ∀ n env h, I n env h → acZ (Ecx X) env h (Lz.mk (a := A)) (Lz.mk (a := fun (e : Ex) env' h' => match e with
      | .nrm => ∃ m, m < n ∧ I m env' h'
      | .ret => Q .ret env' h'
      | .exit m => Q (.exit m) env' h'))) (hI : I n env h) : acZ (Ecx X) env h z zQ :=
  awp_loop I round hI
theorem cutZ {A : AC} {env : Env} {Q : Ex → Env → AH → Prop} {z : Lz A} (M : Env → AH → Prop)
    (h1 : acZ (Ecx X) env h (Lz.mk (a := A)) (Lz.mk (a := fun (e : Ex) env' h' => match e with
      | .nrm => M env' h'
      | .ret => Q .ret env' h'
      | .exit m => Q (.exit m) env' h'))) (h2 : ∀ env' h', M env' h' → Q .nrm env' h') : acZ (Ecx X) env h z (Lz.mk (a := Q)) :=
  awp_mono h1 fun e env' h' hh => by
    cases e with
    | nrm => exact h2 _ _ hh
    | ret => exact hh
    | exit m => exact hh
theorem Own.appZ {h0 : AH} {e e1 st : Nat} {l : List V} (o : Own h0 h e e1 st l) {sz e2 : Nat} {m : List V} (he : m ≠ [] → e2 = e) (hb : (l.length + m.length) * sz ≤ 2 ^ 46) {K : V → AH → Prop} {zK : Lz K}
    (hk : ∀ e1' st' h', Own h0 h' e e1' st' (l ++ m) → h'.objs = h.objs → h'.nobj = h.nobj → K (.sl e1' st' (l ++ m)) h') : App h e sz e1 st l e2 m zK := o.app he hb hk
end
@[simp] theorem get_cons' (env : Env) (i : Nat) (v : V) (n : Nat) : get ((i, v) :: env) n = if n = i then v else get env n := Eq.trans rfl rfl
@[simp] theorem put_none' (env : Env) (v : V) : put env none v = env := Eq.trans rfl rfl
@[simp] theorem put_some' (env : Env) (d : Nat) (v : V) : put env (some d) v = (d, v) :: env := Eq.trans rfl rfl
attribute [-simp] get_cons put_none put_some
attribute [simp] IntKind.bits
end Go.Proofs.Ytajaoldljichaaa.Al
namespace Go.Proofs.Ytajaoldljichaaa.Al
open Go Go.RowKit
set_option linter.unusedSimpArgs false
set_option linter.unusedVariables false

section
variable (h : AH) (o o' : Nat) (z y : List V)
theorem new_objs_at (e : o' = h.nobj) : (h.new z).objs o' = z := by subst e; exact new_objs_same h z
theorem new_set_at (e : o = h.nobj) : (h.new z).set o y = h.new y := by subst e; exact new_set h z y
theorem new_set_ne (e : ¬ o = h.nobj) : (h.new z).set o y = (h.set o y).new z := by
  unfold AH.set AH.new; simp only [AH.mk.injEq, and_true]; funext j; simp only [updN]; split <;> split <;> simp_all
theorem set_objs_at (e : o' = o) : (h.set o z).objs o' = z := by subst e; exact set_objs_same h _ z
end
attribute [simp] new_objs_at new_set_at new_set_ne set_objs_at
@[simp] theorem nat_one_one (n : Nat) : n + 1 + 1 = n + 2 := rfl
@[simp] theorem nat_two_one (n : Nat) : n + 2 + 1 = n + 3 := rfl
@[simp] theorem nat_three_one (n : Nat) : n + 3 + 1 = n + 4 := rfl
@[simp] theorem nat_four_one (n : Nat) : n + 4 + 1 = n + 5 := rfl
@[simp] theorem nat_five_one (n : Nat) : n + 5 + 1 = n + 6 := rfl
@[simp] theorem nat_six_one (n : Nat) : n + 6 + 1 = n + 7 := rfl
@[simp] theorem nat_seven_one (n : Nat) : n + 7 + 1 = n + 8 := rfl
/-- Some objects more are no change. -/
theorem GrW.news {h2 h : AH} (g : GrW h2 h) (z : List V) : GrW h2 (h.new z) :=
  ⟨g.next, Nat.le_succ_of_le g.nobj, fun o ho => by rw [new_objs_ne h z (by have := g.nobj; omega)]; exact g.objs o ho, g.tips⟩
section
variable {X : Cx} {env : Env} {h : AH} {K : Env → AH → Prop} {H : List AH} {L : List (AH → Prop)} {r : List (DK × AOper)} {zK : Lz K}
@[simp] theorem drZ_pl_eqs {neg : Bool} {offs : List (EK × Nat)} {x y : AO} {d : Option Nat} {z : Lz ((DK.pl, ⟨d, none, AOp.eqs neg offs x y⟩) :: r)} : drZ (Ecx X) env h H L z zK = opZ (Ecx X) env h (Lz.mk (a := AOp.eqs neg offs x y)) (Lz.mk (a := fun v h' => h' = h ∧ drZ (Ecx X) (put env d v) h H L (Lz.mk (a := r)) zK)) := drZ_pl rfl
@[simp] theorem drZ_pl_bld {zl : List V} {ps : List (Nat × Nat × AO)} {d : Option Nat} {z : Lz ((DK.pl, ⟨d, none, AOp.bld zl ps⟩) :: r)} : drZ (Ecx X) env h H L z zK = opZ (Ecx X) env h (Lz.mk (a := AOp.bld zl ps)) (Lz.mk (a := fun v h' => h' = h ∧ drZ (Ecx X) (put env d v) h H L (Lz.mk (a := r)) zK)) := drZ_pl rfl
@[simp] theorem drZ_pl_bsl {e n : Nat} {g : Bool} {zl : List V} {ps : List (Nat × AO)} {d : Option Nat} {z : Lz ((DK.pl, ⟨d, none, AOp.bsl e g zl n ps⟩) :: r)} : drZ (Ecx X) env h H L z zK = opZ (Ecx X) env h (Lz.mk (a := AOp.bsl e g zl n ps)) (Lz.mk (a := fun v h' => h' = h ∧ drZ (Ecx X) (put env d v) h H L (Lz.mk (a := r)) zK)) := drZ_pl rfl
end
/-- An invariant that simp leaves alone. -/
def Iv {p : Prop} (_ : Lz p) : Prop := p
theorem iv {p : Prop} {z : Lz p} (h : p) : Iv z := h
theorem loopI {X : Cx} {h : AH} {A : AC} {env : Env} {Q : Ex → Env → AH → Prop} {z : Lz (AC.loop A)} {zQ : Lz Q} (I : Nat → Env → AH → Prop) {n : Nat}
    (round : ∀ n env h, I n env h → acZ (Ecx X) env h (Lz.mk (a := A)) (Lz.mk (a := fun (e : Ex) env' h' => match e with
      | .nrm => ∃ m, m < n ∧ Iv (Lz.mk (a := I m env' h'))
      | .ret => Q .ret env' h'
      | .exit m => Q (.exit m) env' h'))) (hI : I n env h) : acZ (Ecx X) env h z zQ :=
  loopZ I round hI
theorem Wk.t2 {a b : V} (w : Wk a b) (x : V) : Wk (.tup [a, x]) (.tup [b, x]) := .tup _ _ rfl fun i h1 h2 => by
  match i with
  | 0 => exact w
  | 1 => exact .same _
  | n + 2 => simp at h1; omega
theorem Wk.t3 {a b : V} (w : Wk a b) (x y : V) : Wk (.tup [a, x, y]) (.tup [b, x, y]) := .tup _ _ rfl fun i h1 h2 => by
  match i with
  | 0 => exact w
  | 1 => exact .same _
  | 2 => exact .same _
  | n + 3 => simp at h1; omega
end Go.Proofs.Ytajaoldljichaaa.Al
namespace Go.Proofs.Ytajaoldljichaaa.Al
open Go Go.RowKit
/-- The place of a byte in a string, or -1. -/
def idxB (s : List UInt8) (c : Int) : Int := Go.Lib.indexByte s c.toNat.toUInt8
theorem indexByte_ext {X : Cx} {k : Nat} {fn : Func} (hf : X.P.funcs[X.tbl k]? = some fn) (hname : (fn.name == "runtime.NumGoroutine") = false) (hb : fn.body.isNone = true) (hn : (Extern.findNext fn).isNone = true)
    (he : Extern.find fn = some Extern.BytealgIndexByte.indexByte) (s : List UInt8) (c : Int) {h : AH} {Q : V → AH → Prop} (hQ : Q (.int .i64 (idxB s c)) h) (hk0 : FK k := by decide) : Ecx X k [.str s, .int .u8 c] h Q := by
  intro g w cargs I rl
  have h0 : Extern.findNext fn = none := by cases hx : Extern.findNext fn <;> simp_all
  have hsz : cargs.size = 2 := by have := rl.1; simpa using this.symm
  have r0 := rl.2 0 (by simp) (by omega)
  have r1 := rl.2 1 (by simp) (by omega)
  simp only [List.getElem_cons_zero, List.getElem_cons_succ] at r0 r1
  obtain rfl : cargs = #[.string ⟨s.toArray⟩, .int .u8 c] := by
    refine Array.ext (by simp [hsz]) fun i h1 h2 => ?_
    match i with
    | 0 => generalize cargs[0] = u at r0 ⊢; cases r0; rfl
    | 1 => generalize cargs[1] = u at r1 ⊢; cases r1; rfl
    | n + 2 => omega
  refine .inr (.inl ⟨_, w, hk0, ?_, _, h, g, hQ, I, .int _ _, Stp.refl _ _ _⟩)
  rw [run_callFunc_extern hf hname hb h0 he, Go.Lib.run_indexByteString]
  rfl
/-- A panic. -/
theorem ecx_pan {X : Cx} {t : Nat} {p : Value} {h : AH} {Q : V → AH → Prop} (hZ : X.Z (.iface t p) h) : Ecx X 0 [.cval (.iface t p)] h Q := fun g w cargs I rl => by
  have hsz : cargs.size = 1 := by have := rl.1; simpa using this.symm
  have r0 := rl.2 0 (by simp) (by omega)
  simp only [List.getElem_cons_zero] at r0
  obtain rfl : cargs = #[.iface t p] := by
    refine Array.ext (by simp [hsz]) fun i h1 h2 => ?_
    have : i = 0 := by omega
    subst this
    generalize cargs[0] = u at r0 ⊢
    cases r0; rfl
  exact .inr (.inr (.inl ⟨rfl, t, p, rfl, h, g, hZ, I, Stp.refl _ _ _⟩))
/-- Of what a call is told less may be known. -/
theorem Ecx.wkL {X : Cx} {k : Nat} {args args' : List V} {h : AH} {Q : V → AH → Prop} (hw : WkL args args') (c : Ecx X k args' h Q) : Ecx X k args h Q := fun g w cargs I rl => by
  obtain ⟨hl, hg⟩ := hw.get
  refine c g w cargs I ⟨by rw [← hl]; exact rl.1, fun i h1 h2 => ?_⟩
  have ht : h.tips 0 = none := by
    cases e : h.tips 0 with
    | none => rfl
    | some e' => have := (I.tipB 0 e' e).1; omega
  exact (rl.2 i (by omega) h2).wk I.next ht (hg i (by omega) h1)
end Go.Proofs.Ytajaoldljichaaa.Al
