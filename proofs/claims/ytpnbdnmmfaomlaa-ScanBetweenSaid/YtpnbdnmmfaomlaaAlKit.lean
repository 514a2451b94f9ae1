/-
  The abstract layer, part 11: rules for proofs about abstract code. Conditions: none.
-/
import Derived.Test.YtpnbdnmmfaomlaaAlProg
import Derived.IntWalk
namespace Go.Proofs.Ytpnbdnmmfaomlaa.Al
open Go Go.RowKit
set_option linter.unusedSimpArgs false
set_option linter.unusedVariables false

section
variable {X : Cx}

/-! ### Loops -/
/-- A loop by an invariant that counts down. -/
theorem loop_rule {f : Env → AH → (Ex → Env → AH → Prop) → Prop} (hmono : ∀ env h Q Q', f env h Q → (∀ e env' h', Q e env' h' → Q' e env' h') → f env h Q') {Q : Ex → Env → AH → Prop} (I : Nat → Env → AH → Prop)
    (round : ∀ n env h, I n env h → f env h fun e env' h' => match e with
      | .nrm => ∃ m, m < n ∧ I m env' h'
      | .ret => Q .ret env' h'
      | .exit m => Q (.exit m) env' h') :
    ∀ n env h, I n env h → ∃ k, iter f k env h Q := by
  have key : ∀ n k, n < k → ∀ env h, I n env h → iter f k env h Q := by
    intro n
    induction n using Nat.strongRecOn with
    | _ n ih =>
      intro k hk env h hI
      obtain ⟨k, rfl⟩ : ∃ j, k = j + 1 := ⟨k - 1, by omega⟩
      refine hmono _ _ _ _ (round n env h hI) fun e env' h' hq => ?_
      cases e with
      | nrm => obtain ⟨m, hm, hI'⟩ := hq; exact ih m hm k (by omega) env' h' hI'
      | ret => exact hq
      | exit m => exact hq
  exact fun n env h hI => ⟨n + 1, key n (n + 1) (by omega) env h hI⟩

theorem gdP.mono {gd : Option (Nat × Bool)} {env : Env} {A B A' B' : Prop} (hk : gdP gd env A B) (ha : A → A') (hb : B → B') : gdP gd env A' B' := by
  rcases gdP_cases hk with ⟨a, k⟩ | ⟨b, k⟩
  · exact k _ _ (ha a)
  · exact k _ _ (hb b)

theorem nilK.mono {neg : Bool} {st : Nat} {l : List V} {K K' : Bool → Prop} (h : nilK neg st l K) (hk : ∀ b, K b → K' b) : nilK neg st l K' := by
  unfold nilK at *
  split
  · rename_i q; rw [if_pos q] at h; exact hk _ h
  · rename_i q; rw [if_neg q] at h
    split
    · rename_i q2; rw [if_pos q2] at h; exact ⟨fun e => ⟨hk _ (h.1 e).1, hk _ (h.1 e).2⟩, fun e => hk _ (h.2 e)⟩
    · rename_i q2; rw [if_neg q2] at h; exact hk _ h

theorem AOp.wp_mono {ρ : AO → V} {h : AH} {K K' : V → AH → Prop} (hK : ∀ v h', K v h' → K' v h') {o : AOp} (hk : o.wp (Ecx X) ρ h K) : o.wp (Ecx X) ρ h K' := by
  have hload : ∀ gg n c off h, loadC gg n c off (fun v => K v h) → loadC gg n c off (fun v => K' v h) := fun gg n c off h hh => by
    cases gg <;> exact ⟨hh.1, hK _ _ hh.2⟩
  cases o with
  | alloc z => exact hK _ _ hk
  | box x => exact ⟨hk.1, hK _ _ hk.2⟩
  | load gg n x =>
    simp only [AOp.wp] at *
    generalize ρ x = v at *
    cases v <;> first | exact hk.elim | exact hload _ _ _ _ _ hk
  | store n x v =>
    simp only [AOp.wp] at *
    generalize ρ x = u at *
    cases u <;> first | exact hk.elim | exact ⟨hk.1, hk.2.1, hk.2.2.1, hK _ _ hk.2.2.2⟩
  | mks e sz c =>
    simp only [AOp.wp] at *
    generalize ρ c = u at *
    cases u <;> first | exact hk.elim | skip
    rename_i k n
    cases k <;> first | exact hk.elim | exact ⟨hk.1, hk.2.1, hK _ _ hk.2.2⟩
  | app e sz x y =>
    simp only [AOp.wp] at *
    generalize ρ x = u at *
    generalize ρ y = v at *
    cases u <;> cases v <;> first | exact hk.elim | exact ⟨fun e => hK _ _ (hk.1 e), fun e => ⟨(hk.2 e).1, (hk.2 e).2.1, (hk.2 e).2.2.1, (hk.2 e).2.2.2.1, hK _ _ (hk.2 e).2.2.2.2⟩⟩
  | call f l =>
    simp only [AOp.wp] at *
    generalize ρ f = u at *
    cases u <;> first | exact hk.elim | exact Ecx.mono hk hK
  | _ => exact wp_heap (Y := ⟨id, id, fun _ => false⟩) rfl hk (fun v hv => hK v h hv)

theorem awpOps_mono : ∀ {l : List AOper} {env : Env} {h : AH} {K K' : Env → AH → Prop}, (∀ e h', K e h' → K' e h') → awpOps (Ecx X) l env h K → awpOps (Ecx X) l env h K'
  | [], _, _, _, _, hK, hk => hK _ _ hk
  | o :: r, env, h, K, K', hK, hk => by
    simp only [awpOps] at *
    exact gdP.mono hk (AOp.wp_mono fun v h' hh => awpOps_mono hK hh) (awpOps_mono hK)
theorem awpD_mono : ∀ {l : List (DK × AOper)} {env : Env} {h : AH} {H : List AH} {L : List (AH → Prop)} {K K' : Env → AH → Prop}, (∀ e h', K e h' → K' e h') → awpD (Ecx X) l env h H L K → awpD (Ecx X) l env h H L K'
  | [], _, _, _, _, _, _, hK, hk => hK _ _ hk
  | (.pl, o) :: r, env, h, H, L, K, K', hK, hk => by
    simp only [awpD] at *
    exact gdP.mono hk (fun ⟨v, a, c⟩ => ⟨v, a, awpD_mono hK c⟩) (awpD_mono hK)
  | (.eff, o) :: r, env, h, H, L, K, K', hK, hk => by
    simp only [awpD] at *
    exact gdP.mono hk (fun ⟨v, h', a, b, c⟩ => ⟨v, h', a, b, awpD_mono hK c⟩) (awpD_mono hK)
  | (.fl, o) :: r, env, h, H, L, K, K', hK, hk => by
    simp only [awpD] at *
    exact gdP.mono hk (fun ⟨v, a, b, c⟩ => ⟨v, a, b, awpD_mono hK c⟩) (awpD_mono hK)
theorem iter_mono {f : Env → AH → (Ex → Env → AH → Prop) → Prop} (hmono : ∀ env h Q Q', f env h Q → (∀ e env' h', Q e env' h' → Q' e env' h') → f env h Q') {Q Q' : Ex → Env → AH → Prop}
    (hq : ∀ e env h, Q e env h → Q' e env h) : ∀ n env h, iter f n env h Q → iter f n env h Q'
  | 0, _, _, hk => hk.elim
  | n + 1, env, h, hk => hmono _ _ _ _ hk fun e env' h' hh => by
    cases e with
    | nrm => exact iter_mono hmono hq n _ _ hh
    | ret => exact hq _ _ _ hh
    | exit m => exact hq _ _ _ hh
theorem awp_mono : ∀ {A : AC} {env : Env} {h : AH} {Q Q' : Ex → Env → AH → Prop}, awp (Ecx X) A env h Q → (∀ e env' h', Q e env' h' → Q' e env' h') → awp (Ecx X) A env h Q'
  | .skip, _, _, _, _, hk, hq => hq _ _ _ hk
  | .ret, _, _, _, _, hk, hq => hq _ _ _ hk
  | .exit n, _, _, _, _, hk, hq => hq _ _ _ hk
  | .seq A B, env, h, Q, Q', hk, hq => awp_mono (A := A) hk fun e env' h' hh => by
    cases e with
    | nrm => exact awp_mono (A := B) hh hq
    | ret => exact hq _ _ _ hh
    | exit m => exact hq _ _ _ hh
  | .cond c A B, env, h, Q, Q', hk, hq => by
    simp only [awp] at *
    generalize ev env c = v at *
    cases v <;> first | exact hk.elim | exact ⟨fun e => awp_mono (A := A) (hk.1 e) hq, fun e => awp_mono (A := B) (hk.2 e) hq⟩
  | .block n A, env, h, Q, Q', hk, hq => awp_mono (A := A) hk fun e env' h' hh => by
    cases e with
    | nrm => exact hq _ _ _ hh
    | ret => exact hq _ _ _ hh
    | exit m =>
      simp only at hh ⊢
      split
      · rename_i q; rw [if_pos q] at hh; exact hq _ _ _ hh
      · rename_i q; rw [if_neg q] at hh; exact hq _ _ _ hh
  | .loop A, env, h, Q, Q', ⟨n, hk⟩, hq => ⟨n, iter_mono (f := awp (Ecx X) A) (fun _ _ _ _ a b => awp_mono (A := A) a b) hq n env h hk⟩
  | .scope A, _, _, _, _, hk, hq => awp_mono (A := A) hk hq
  | .reg l, _, _, _, _, hk, hq => awpOps_mono (fun _ _ hh => hq _ _ _ hh) hk
  | .draw l, _, _, _, _, hk, hq => awpD_mono (fun _ _ hh => hq _ _ _ hh) hk
  | .keep l A, _, _, _, _, hk, hq => awp_mono (A := A) hk hq
  | .post A l, _, _, _, _, hk, hq => awp_mono (A := A) hk fun e env' h' hh => by
    cases e with
    | nrm => exact hq _ _ _ hh
    | ret => exact hq _ _ _ hh
    | exit m => exact hq _ _ _ hh

/-- A loop of abstract code. -/
theorem awp_loop {A : AC} {Q : Ex → Env → AH → Prop} (I : Nat → Env → AH → Prop)
    (round : ∀ n env h, I n env h → awp (Ecx X) A env h fun e env' h' => match e with
      | .nrm => ∃ m, m < n ∧ I m env' h'
      | .ret => Q .ret env' h'
      | .exit m => Q (.exit m) env' h') {n : Nat} {env : Env} {h : AH} (hI : I n env h) : awp (Ecx X) (.loop A) env h Q :=
  loop_rule (f := awp (Ecx X) A) (fun _ _ _ _ a b => awp_mono (A := A) a b) I round n env h hI

/-- What a piece of code does, told apart. -/
theorem awp_cut {A B : AC} {env : Env} {h : AH} {Q : Ex → Env → AH → Prop} (M : Env → AH → Prop) (h1 : awp (Ecx X) A env h fun e env' h' => match e with
      | .nrm => M env' h'
      | .ret => Q .ret env' h'
      | .exit m => Q (.exit m) env' h') (h2 : ∀ env' h', M env' h' → awp (Ecx X) B env' h' Q) : awp (Ecx X) (.seq A B) env h Q :=
  awp_mono (A := A) h1 fun e env' h' hh => by
    cases e with
    | nrm => exact h2 _ _ hh
    | ret => exact hh
    | exit m => exact hh

/-! ### Results -/
/-- A slice that this call has made from the heap h0 on, and may append to: cells e of an element, e1 as it says itself. -/
structure Own (h0 h : AH) (e e1 st : Nat) (l : List V) : Prop where
  gr : Gr h0 h
  el : l = [] ∨ e1 = e
  st : st = 1 ∨ st = 2 ∨ (h.tips st = some e ∧ h0.next ≤ st)

theorem Gr.new {h0 h : AH} (G : Gr h0 h) (z : List V) : Gr h0 (h.new z) :=
  ⟨G.next, Nat.le_succ_of_le G.nobj, fun o ho => by rw [← G.objs o ho]; exact updN_ne _ _ (by have := G.nobj; omega), G.tips⟩
theorem Gr.set {h0 h : AH} (G : Gr h0 h) {o : Nat} (ho : h0.nobj ≤ o) (z : List V) : Gr h0 (h.set o z) :=
  ⟨G.next, G.nobj, fun o' ho' => by rw [← G.objs o' ho']; exact updN_ne _ _ (by omega), G.tips⟩
theorem Gr.push {h0 h : AH} (G : Gr h0 h) {st : Nat} (hs : st ≤ 2 ∨ h0.next ≤ st) (e : Nat) : Gr h0 (h.push st e) := by
  refine ⟨by rw [push_next]; have := G.next; omega, by rw [push_nobj]; exact G.nobj, fun o ho => by rw [push_objs]; exact G.objs o ho, fun s hs' => ?_⟩
  have hne : s ≠ h.next := by have := G.next; omega
  rw [← G.tips s hs']
  unfold AH.push
  split
  · exact updN_ne _ _ hne
  · have e1 : ((h.drop st).grow e).tips s = (h.drop st).tips s := updN_ne _ _ hne
    rw [e1]; exact updN_ne _ _ (by omega)

theorem Own.app {h0 h : AH} {e e1 st : Nat} {l : List V} (o : Own h0 h e e1 st l) {sz e2 : Nat} {m : List V} (he : m ≠ [] → e2 = e) (hb : (l.length + m.length) * sz ≤ 2 ^ 46) {K : V → AH → Prop}
    (hk : ∀ e1' st' h', Own h0 h' e e1' st' (l ++ m) → h'.objs = h.objs → h'.nobj = h.nobj → K (.sl e1' st' (l ++ m)) h') : appK e sz e1 st l e2 m h K := by
  refine ⟨fun hm => ?_, fun hm => ⟨?_, o.el, he hm, hb, ?_⟩⟩
  · subst hm
    have := hk e1 st h (by simpa using o) rfl rfl
    simpa using this
  · rcases o.st with h1 | h1 | h1
    · exact .inl h1
    · exact .inr (.inl h1)
    · exact .inr (.inr h1.1)
  · refine hk e h.next _ ⟨o.gr.push ?_ e, .inr rfl, .inr (.inr ⟨push_new h st e, o.gr.next⟩)⟩ (push_objs h st e) (push_nobj h st e)
    rcases o.st with h1 | h1 | h1
    · omega
    · omega
    · exact .inr h1.2
theorem Own.nil (h : AH) (e : Nat) : Own h h e 0 1 [] := ⟨Gr.refl h, .inl rfl, .inl rfl⟩
theorem Own.full {h0 h : AH} (G : Gr h0 h) (e : Nat) (l : List V) : Own h0 h e e 2 l := ⟨G, .inr rfl, .inr (.inl rfl)⟩
theorem Own.wk {h0 h : AH} {e e1 st : Nat} {l : List V} (o : Own h0 h e e1 st l) : Wk (.sl e1 st l) (.sl e 0 l) := by
  rcases o.el with rfl | rfl
  · exact .nil _ _ _
  · exact .sl _ _ _

@[simp] theorem Bdd_bool (n m : Nat) (b : Bool) : Bdd n m (.bool b) := .bool b
@[simp] theorem Bdd_int (n m : Nat) (k : IntKind) (i : Int) : Bdd n m (.int k i) := .int k i
@[simp] theorem Bdd_str (n m : Nat) (s : List UInt8) : Bdd n m (.str s) := .str s
@[simp] theorem Bdd_nilp (n m : Nat) : Bdd n m .nilp := .nilp
@[simp] theorem Bdd_nilf (n m : Nat) : Bdd n m .nilf := .nilf
@[simp] theorem Bdd_sl0 (n m e st : Nat) (l : List V) : Bdd n m (.sl e st l) ↔ (st ≤ 2 ∨ st < n) ∧ ∀ v ∈ cellsOf l, Bdd n m v :=
  ⟨fun h => by cases h with | sl _ _ _ a b => exact ⟨a, b⟩, fun h => .sl _ _ _ h.1 h.2⟩
@[simp] theorem Bdd_agg (n m : Nat) (l : List V) : Bdd n m (.agg l) ↔ ∀ v ∈ l, Bdd n m v := ⟨fun h => by cases h with | agg _ b => exact b, .agg l⟩
@[simp] theorem Bdd_tup (n m : Nat) (l : List V) : Bdd n m (.tup l) ↔ ∀ v ∈ l, Bdd n m v := ⟨fun h => by cases h with | tup _ b => exact b, .tup l⟩
@[simp] theorem Bdd_ptr (n m o off : Nat) : Bdd n m (.ptr o off) ↔ o < m := ⟨fun h => by cases h with | ptr _ _ b => exact b, .ptr o off⟩

/-- The end of a function that makes nothing. -/
theorem done {h : AH} {v : V} {Q : V → AH → Prop} (hb : Bdd h.next h.nobj v) (hq : Q v h) : Gr h h ∧ ∃ r', Wk v r' ∧ Bdd h.next h.nobj r' ∧ Q r' h := ⟨Gr.refl h, v, .same v, hb, hq⟩
theorem wrap_i64 {x : Int} (h0 : -9223372036854775808 ≤ x) (h1 : x ≤ 9223372036854775807) : IntKind.i64.wrap x = x := IntWalk.i64_in x ⟨h0, h1⟩
theorem wrap_u64 {x : Int} (h0 : 0 ≤ x) (h1 : x ≤ 18446744073709551615) : IntKind.u64.wrap x = x := IntWalk.u64_in x ⟨h0, h1⟩
theorem wrap_u8' {x : Int} (h0 : 0 ≤ x) (h1 : x ≤ 255) : IntKind.u8.wrap x = x := IntWalk.u8_in x ⟨h0, h1⟩
theorem wrap_u32 {x : Int} (h0 : 0 ≤ x) (h1 : x ≤ 4294967295) : IntKind.u32.wrap x = x := IntWalk.u32_in x ⟨h0, h1⟩
/-- A function that only makes things. -/
theorem fn_pure {k : Nat} {f : AFn} (H : Has (Ecx X) k f) {args : List V} {h : AH} {Q : V → AH → Prop} (hl : args.length ≤ f.n)
    (hk : Wf h → awp (Ecx X) f.body (initEnv 0 args) h fun e env h1 => match e with
      | .nrm => resP env h1 f.res [] fun v => Gr h h1 ∧ ∃ r', Wk v r' ∧ Bdd h.next h.nobj r' ∧ Q r' h
      | .ret => resP env h1 f.res [] fun v => Gr h h1 ∧ ∃ r', Wk v r' ∧ Bdd h.next h.nobj r' ∧ Q r' h
      | .exit _ => False) : Ecx X k args h Q :=
  Ecx.pure (Ecx.wf fun w => H _ _ _ ⟨hl, hk w⟩)
end

/-! ### Equations for a walk -/
section
variable (E : Sig) (env : Env) (h : AH) (Q : Ex → Env → AH → Prop) (K : Env → AH → Prop)
@[simp] theorem awp_skip : awp E .skip env h Q = Q .nrm env h := rfl
@[simp] theorem awp_ret : awp E .ret env h Q = Q .ret env h := rfl
@[simp] theorem awp_exit (n : Nat) : awp E (.exit n) env h Q = Q (.exit n) env h := rfl
@[simp] theorem awp_seq (a b : AC) : awp E (.seq a b) env h Q = awp E a env h fun e env' h' => match e with
    | .nrm => awp E b env' h' Q
    | .ret => Q .ret env' h'
    | .exit m => Q (.exit m) env' h' := rfl
@[simp] theorem awp_cond (c : AO) (a b : AC) : awp E (.cond c a b) env h Q = match ev env c with
    | .bool t => (t = true → awp E a env h Q) ∧ (t = false → awp E b env h Q)
    | _ => False := rfl
@[simp] theorem awp_block (n : Nat) (a : AC) : awp E (.block n a) env h Q = awp E a env h fun e env' h' => match e with
    | .nrm => Q .nrm env' h'
    | .ret => Q .ret env' h'
    | .exit m => if m = n then Q .nrm env' h' else Q (.exit m) env' h' := rfl
@[simp] theorem awp_scope (a : AC) : awp E (.scope a) env h Q = awp E a env h Q := rfl
@[simp] theorem awp_reg (l : List AOper) : awp E (.reg l) env h Q = awpOps E l env h (Q .nrm) := rfl
@[simp] theorem awp_draw (l : List (DK × AOper)) : awp E (.draw l) env h Q = awpD E l env h [] [] (Q .nrm) := rfl
@[simp] theorem awp_keep (l : List Nat) (a : AC) : awp E (.keep l a) env h Q = awp E a (keepE l env) h Q := rfl
@[simp] theorem awp_post (a : AC) (l : List Nat) : awp E (.post a l) env h Q = awp E a env h fun e env' h' => match e with
    | .nrm => Q .nrm (keepE l env') h'
    | .ret => Q .ret env' h'
    | .exit m => Q (.exit m) env' h' := rfl
@[simp] theorem awpOps_nil : awpOps E [] env h K = K env h := rfl
@[simp] theorem awpOps_cons (o : AOper) (r : List AOper) : awpOps E (o :: r) env h K =
    gdP o.gd env (o.op.wp E (ev env) h fun v h' => awpOps E r (put env o.dst v) h' K) (awpOps E r (put env o.dst (.tup [])) h K) := rfl
@[simp] theorem awpD_nil (H : List AH) (L : List (AH → Prop)) : awpD E [] env h H L K = K env h := rfl
@[simp] theorem gdP_none (A B : Prop) : gdP none env A B = A := rfl
@[simp] theorem gdP_some (s : Nat) (t : Bool) (A B : Prop) : gdP (some (s, t)) env A B = match get env s with
    | .bool b => (b = t → A) ∧ (b ≠ t → B)
    | .tup [] => B
    | _ => False := rfl
@[simp] theorem ev_t (n : Nat) : ev env (.t n) = get env n := rfl
@[simp] theorem ev_c (v : V) : ev env (.c v) = v := rfl
@[simp] theorem get_cons (i : Nat) (v : V) (n : Nat) : get ((i, v) :: env) n = if n = i then v else get env n := rfl
@[simp] theorem put_none (v : V) : put env none v = env := rfl
@[simp] theorem put_some (d : Nat) (v : V) : put env (some d) v = (d, v) :: env := rfl
@[simp] theorem keepE_nil : keepE [] env = [] := rfl
@[simp] theorem keepE_cons (i : Nat) (l : List Nat) : keepE (i :: l) env = (i, get env i) :: keepE l env := rfl
@[simp] theorem initEnv_nil (i : Nat) : initEnv i [] = [] := rfl
@[simp] theorem initEnv_cons (i : Nat) (v : V) (l : List V) : initEnv i (v :: l) = (i, v) :: initEnv (i + 1) l := rfl
end

/-! ### A region whose order is open, walked -/
/-- Has one answer, and one only. -/
def detOp : AOp → Bool
  | .call .. => false
  | .isnil .. => false
  | .mv .. => true
  | .pick .. => true
  | .alloc .. => true
  | .box .. => true
  | .bld .. => true
  | .bsl .. => true
  | .load .. => true
  | .store .. => true
  | .nilchk .. => true
  | .bin .. => true
  | .beq .. => true
  | .eqs .. => true
  | .mks .. => true
  | .un .. => true
  | .conv .. => true
  | .fa .. => true
  | .fld .. => true
  | .ia .. => true
  | .ixs .. => true
  | .ext .. => true
  | .mkfn .. => true
  | .slc .. => true
  | .slcs .. => true
  | .len .. => true
  | .app .. => true
  | .mm .. => true
@[simp] theorem detOp_mv (x : AO) : detOp (.mv x) = true := Eq.trans rfl rfl
@[simp] theorem detOp_pick (c a b : AO) : detOp (.pick c a b) = true := Eq.trans rfl rfl
@[simp] theorem detOp_alloc (z : List V) : detOp (.alloc z) = true := Eq.trans rfl rfl
@[simp] theorem detOp_box (x : AO) : detOp (.box x) = true := Eq.trans rfl rfl
@[simp] theorem detOp_load (g : Bool) (n : Nat) (x : AO) : detOp (.load g n x) = true := Eq.trans rfl rfl
@[simp] theorem detOp_store (n : Nat) (x v : AO) : detOp (.store n x v) = true := Eq.trans rfl rfl
@[simp] theorem detOp_nilchk (x : AO) : detOp (.nilchk x) = true := Eq.trans rfl rfl
@[simp] theorem detOp_bin (op : BinOp) (x y : AO) : detOp (.bin op x y) = true := Eq.trans rfl rfl
@[simp] theorem detOp_beq (neg : Bool) (x y : AO) : detOp (.beq neg x y) = true := Eq.trans rfl rfl
@[simp] theorem detOp_mks (e sz : Nat) (cap : AO) : detOp (.mks e sz cap) = true := Eq.trans rfl rfl
@[simp] theorem detOp_isnil (neg ptr : Bool) (x : AO) : detOp (.isnil neg ptr x) = false := Eq.trans rfl rfl
@[simp] theorem detOp_un (op : UnOp) (x : AO) : detOp (.un op x) = true := Eq.trans rfl rfl
@[simp] theorem detOp_conv (k : IntKind) (x : AO) : detOp (.conv k x) = true := Eq.trans rfl rfl
@[simp] theorem detOp_fa (off : Nat) (x : AO) : detOp (.fa off x) = true := Eq.trans rfl rfl
@[simp] theorem detOp_fld (g : Bool) (off n : Nat) (x : AO) : detOp (.fld g off n x) = true := Eq.trans rfl rfl
@[simp] theorem detOp_ia (e : Nat) (x i : AO) : detOp (.ia e x i) = true := Eq.trans rfl rfl
@[simp] theorem detOp_ixs (x i : AO) : detOp (.ixs x i) = true := Eq.trans rfl rfl
@[simp] theorem detOp_ext (x : AO) (i : Nat) : detOp (.ext x i) = true := Eq.trans rfl rfl
@[simp] theorem detOp_mkfn (f : Nat) (first cap : List AO) : detOp (.mkfn f first cap) = true := Eq.trans rfl rfl
@[simp] theorem detOp_slc (e : Nat) (x : AO) (lo hi : Option AO) : detOp (.slc e x lo hi) = true := Eq.trans rfl rfl
@[simp] theorem detOp_slcs (x : AO) (lo hi : Option AO) : detOp (.slcs x lo hi) = true := Eq.trans rfl rfl
@[simp] theorem detOp_len (str : Bool) (x : AO) : detOp (.len str x) = true := Eq.trans rfl rfl
@[simp] theorem detOp_app (e sz : Nat) (x y : AO) : detOp (.app e sz x y) = true := Eq.trans rfl rfl
@[simp] theorem detOp_mm (mx : Bool) (x y : AO) : detOp (.mm mx x y) = true := Eq.trans rfl rfl
@[simp] theorem detOp_call (f : AO) (args : List AO) : detOp (.call f args) = false := Eq.trans rfl rfl
theorem wp_det {E : Sig} {o : AOp} (hd : detOp o = true) {ρ : AO → V} {h : AH} {K : V → AH → Prop} (hk : o.wp E ρ h K) : ∃ v h', o.wp E ρ h (fun v' h'' => v' = v ∧ h'' = h') ∧ K v h' := by
  have hload : ∀ gg n c off (h : AH), loadC gg n c off (fun v => K v h) → ∃ v, loadC gg n c off (fun v' => v' = v ∧ h = h) ∧ K v h := fun gg n c off h hh => by
    cases gg <;> exact ⟨_, ⟨hh.1, rfl, rfl⟩, hh.2⟩
  have hbin : ∀ op k a b, binI op k a b (fun v => K v h) → ∃ v, binI op k a b (fun v' => v' = v ∧ h = h) ∧ K v h := fun op k a b hh => by
    cases op <;> first | exact hh.elim | exact ⟨_, ⟨rfl, rfl⟩, hh⟩ | exact ⟨_, ⟨hh.1, rfl, rfl⟩, hh.2⟩
  have hsh : ∀ op k a b, shI op k a b (fun v => K v h) → ∃ v, shI op k a b (fun v' => v' = v ∧ h = h) ∧ K v h := fun op k a b hh => by
    cases op <;> first | exact hh.elim | exact ⟨_, ⟨hh.1, rfl, rfl⟩, hh.2⟩
  have hstr : ∀ op a b, binS op a b (fun v => K v h) → ∃ v, binS op a b (fun v' => v' = v ∧ h = h) ∧ K v h := fun op a b hh => by
    cases op <;> first | exact hh.elim | exact ⟨_, ⟨rfl, rfl⟩, hh⟩ | exact ⟨_, ⟨hh.1, rfl, rfl⟩, hh.2⟩
  cases o with
  | call | isnil => simp at hd
  | mv x => exact ⟨_, _, ⟨rfl, rfl⟩, hk⟩
  | alloc z => exact ⟨_, _, ⟨rfl, rfl⟩, hk⟩
  | box x => exact ⟨_, _, ⟨hk.1, rfl, rfl⟩, hk.2⟩
  | mkfn f a b => exact ⟨_, _, ⟨rfl, rfl⟩, hk⟩
  | pick c a b =>
    simp only [AOp.wp] at hk ⊢
    generalize ρ c = u at hk ⊢
    cases u <;> first | exact hk.elim | skip
    rename_i t
    cases t
    · exact ⟨_, _, ⟨fun e => (by cases e), fun _ => ⟨rfl, rfl⟩⟩, hk.2 rfl⟩
    · exact ⟨_, _, ⟨fun _ => ⟨rfl, rfl⟩, fun e => (by cases e)⟩, hk.1 rfl⟩
  | bld z parts =>
    simp only [AOp.wp] at hk ⊢
    split at hk
    · exact ⟨_, _, ⟨rfl, rfl⟩, hk⟩
    · exact hk.elim
  | bsl e gg z n parts =>
    simp only [AOp.wp] at hk ⊢
    split at hk
    · exact ⟨_, _, ⟨rfl, rfl⟩, hk⟩
    · exact hk.elim
  | load gg n x =>
    simp only [AOp.wp] at hk ⊢
    generalize ρ x = u at hk ⊢
    cases u <;> first | exact hk.elim | skip
    · obtain ⟨v, a, b⟩ := hload _ _ _ _ h hk
      exact ⟨v, h, a, b⟩
    · obtain ⟨v, a, b⟩ := hload _ _ _ _ h hk
      exact ⟨v, h, a, b⟩
  | fld gg off n x =>
    simp only [AOp.wp] at hk ⊢
    generalize ρ x = u at hk ⊢
    cases u <;> first | exact hk.elim | skip
    obtain ⟨v, a, b⟩ := hload _ _ _ _ h hk
    exact ⟨v, h, a, b⟩
  | store n x v =>
    simp only [AOp.wp] at hk ⊢
    generalize ρ x = u at hk ⊢
    cases u <;> first | exact hk.elim | exact ⟨_, _, ⟨hk.1, hk.2.1, hk.2.2.1, rfl, rfl⟩, hk.2.2.2⟩
  | bin op x y =>
    simp only [AOp.wp] at hk ⊢
    generalize ρ x = v at hk ⊢
    generalize ρ y = u at hk ⊢
    cases v <;> cases u <;> first | exact hk.elim | skip
    · simp only at *
      split at hk
      · rename_i q
        obtain ⟨v, a, b⟩ := hsh _ _ _ _ hk
        exact ⟨v, h, by rw [if_pos q]; simpa using a, b⟩
      · rename_i q
        obtain ⟨v, a, b⟩ := hbin _ _ _ _ hk.2
        exact ⟨v, h, by rw [if_neg q]; exact ⟨hk.1, by simpa using a⟩, b⟩
    · obtain ⟨v, a, b⟩ := hstr _ _ _ hk
      exact ⟨v, h, a, b⟩
  | un op x =>
    simp only [AOp.wp] at hk ⊢
    generalize ρ x = v at hk ⊢
    cases op <;> cases v <;> first | exact hk.elim | exact ⟨_, _, ⟨rfl, rfl⟩, hk⟩
  | eqs neg offs x y =>
    simp only [AOp.wp] at hk ⊢
    generalize ρ x = v at hk ⊢
    generalize ρ y = u at hk ⊢
    cases v <;> cases u <;> first | exact hk.elim | skip
    simp only at hk ⊢
    split at hk
    · exact ⟨_, _, ⟨rfl, rfl⟩, hk⟩
    · exact hk.elim
  | beq neg x y =>
    simp only [AOp.wp] at hk ⊢
    generalize ρ x = v at hk ⊢
    generalize ρ y = u at hk ⊢
    cases v <;> cases u <;> first | exact hk.elim | exact ⟨_, _, ⟨rfl, rfl⟩, hk⟩
  | mm mx x y =>
    simp only [AOp.wp] at hk ⊢
    generalize ρ x = v at hk ⊢
    generalize ρ y = u at hk ⊢
    cases v <;> cases u <;> first | exact hk.elim | exact ⟨_, _, ⟨hk.1, rfl, rfl⟩, hk.2⟩
  | ia e x i =>
    simp only [AOp.wp] at hk ⊢
    generalize ρ x = v at hk ⊢
    generalize ρ i = u at hk ⊢
    cases v <;> cases u <;> first | exact hk.elim | exact ⟨_, _, ⟨hk.1, hk.2.1, hk.2.2.1, rfl, rfl⟩, hk.2.2.2⟩
  | ixs x i =>
    simp only [AOp.wp] at hk ⊢
    generalize ρ x = v at hk ⊢
    generalize ρ i = u at hk ⊢
    cases v <;> cases u <;> first | exact hk.elim | exact ⟨_, _, ⟨hk.1, hk.2.1, rfl, rfl⟩, hk.2.2⟩
  | ext x i =>
    simp only [AOp.wp] at hk ⊢
    generalize ρ x = v at hk ⊢
    cases v <;> first | exact hk.elim | exact ⟨_, _, ⟨hk.1, rfl, rfl⟩, hk.2⟩
  | slc e x lo hi =>
    simp only [AOp.wp] at hk ⊢
    generalize ρ x = v at hk ⊢
    cases v <;> first | exact hk.elim | skip
    simp only at hk ⊢
    split at hk
    · exact ⟨_, _, ⟨hk.1, hk.2.1, hk.2.2.1, hk.2.2.2.1, rfl, rfl⟩, hk.2.2.2.2⟩
    · exact hk.elim
  | slcs x lo hi =>
    simp only [AOp.wp] at hk ⊢
    generalize ρ x = v at hk ⊢
    cases v <;> first | exact hk.elim | skip
    simp only at hk ⊢
    split at hk
    · exact ⟨_, _, ⟨hk.1, hk.2.1, hk.2.2.1, rfl, rfl⟩, hk.2.2.2⟩
    · exact hk.elim
  | len str x =>
    cases str <;> simp only [AOp.wp] at hk ⊢ <;> generalize ρ x = v at hk ⊢ <;> cases v <;> first | exact hk.elim | exact ⟨_, _, ⟨rfl, rfl⟩, hk⟩
  | app e sz x y =>
    simp only [AOp.wp] at hk ⊢
    generalize ρ x = v at hk ⊢
    generalize ρ y = u at hk ⊢
    cases v <;> cases u <;> first | exact hk.elim | skip
    rename_i e1 st l e2 st2 m
    by_cases hm : m = []
    · exact ⟨_, _, ⟨fun _ => ⟨rfl, rfl⟩, fun e => absurd hm e⟩, hk.1 hm⟩
    · obtain ⟨a, b, c, d, e⟩ := hk.2 hm
      exact ⟨_, _, ⟨fun e => absurd e hm, fun _ => ⟨a, b, c, d, rfl, rfl⟩⟩, e⟩
  | mks e sz c =>
    simp only [AOp.wp] at hk ⊢
    generalize ρ c = u at hk ⊢
    cases u <;> first | exact hk.elim | skip
    rename_i k n
    cases k <;> first | exact hk.elim | exact ⟨_, _, ⟨hk.1, hk.2.1, rfl, rfl⟩, hk.2.2⟩
  | _ =>
    rename_i x
    simp only [AOp.wp] at hk ⊢
    generalize ρ x = v at hk ⊢
    cases v <;> first | exact hk.elim | exact ⟨_, _, ⟨rfl, rfl⟩, hk⟩

section
variable {X : Cx} {env : Env} {h : AH} {K : Env → AH → Prop} {H : List AH} {L : List (AH → Prop)} {r : List (DK × AOper)} {o : AOper}
theorem gdP_congr {gd : Option (Nat × Bool)} {A A' B : Prop} (ha : A = A') : gdP gd env A B = gdP gd env A' B := by rw [ha]
@[simp] theorem awpD_pl {dst : Option Nat} {gd : Option (Nat × Bool)} {op : AOp} (hd : detOp op = true) : awpD (Ecx X) ((.pl, ⟨dst, gd, op⟩) :: r) env h H L K =
    gdP gd env (op.wp (Ecx X) (ev env) h fun v h' => h' = h ∧ awpD (Ecx X) r (put env dst v) h H L K) (awpD (Ecx X) r (put env dst (.tup [])) h H L K) :=
  gdP_congr (propext ⟨fun ⟨v, a, b⟩ => AOp.wp_mono (fun v' h' hh => ⟨hh.2, by rw [hh.1]; exact b⟩) a, fun hh => by
    obtain ⟨v, h', a, b, c⟩ := wp_det hd hh
    subst b; exact ⟨v, a, c⟩⟩)
@[simp] theorem awpD_eff {dst : Option Nat} {gd : Option (Nat × Bool)} {op : AOp} (hd : detOp op = true) : awpD (Ecx X) ((.eff, ⟨dst, gd, op⟩) :: r) env h H L K =
    gdP gd env (op.wp (Ecx X) (ev env) h fun v h' => (∀ c ∈ L, c h') ∧ awpD (Ecx X) r (put env dst v) h' (h :: H) L K) (awpD (Ecx X) r (put env dst (.tup [])) h H L K) :=
  gdP_congr (propext ⟨fun ⟨v, h', a, b, c⟩ => AOp.wp_mono (fun v' h'' hh => by rw [hh.1, hh.2]; exact ⟨b, c⟩) a, fun hh => by
    obtain ⟨v, h', a, b, c⟩ := wp_det hd hh
    exact ⟨v, h', a, b, c⟩⟩)
@[simp] theorem awpD_fl {dst : Option Nat} {gd : Option (Nat × Bool)} {op : AOp} (hd : detOp op = true) : awpD (Ecx X) ((.fl, ⟨dst, gd, op⟩) :: r) env h H L K =
    gdP gd env (op.wp (Ecx X) (ev env) h fun v h' => h' = h ∧ (∀ h' ∈ H, op.quiet (Ecx X) (ev env) v h') ∧ awpD (Ecx X) r (put env dst v) h H (op.quiet (Ecx X) (ev env) v :: L) K) (awpD (Ecx X) r (put env dst (.tup [])) h H L K) :=
  gdP_congr (propext ⟨fun ⟨v, a, b, c⟩ => AOp.wp_mono (fun v' h' hh => by rw [hh.1]; exact ⟨hh.2, b, c⟩) a, fun hh => by
    obtain ⟨v, h', a, b, c, d⟩ := wp_det hd hh
    subst b; exact ⟨v, a, c, d⟩⟩)
/-- The guard ahead of a call is asked first. -/
@[simp] theorem awpD_call_gd (d : DK) (dst : Option Nat) (gd : Nat × Bool) (f : AO) (args : List AO) : awpD (Ecx X) ((d, ⟨dst, some gd, .call f args⟩) :: r) env h H L K =
    gdP (some gd) env (awpD (Ecx X) ((d, ⟨dst, none, .call f args⟩) :: r) env h H L K) (awpD (Ecx X) r (put env dst (.tup [])) h H L K) := by
  cases d <;> rfl
/-- A call in such a region, that leaves the heap. -/
theorem awpD_call {dst : Option Nat} {f : AO} {args : List AO} {k : Nat} {first cap : List V} {as : List V} (v : V) (hf : ev env f = .fn k first cap) (ha : first ++ args.map (ev env) ++ cap = as)
    (hc : Ecx X k as h fun v' h' => v' = v ∧ h' = h) (hr : awpD (Ecx X) r (put env dst v) h H L K) : awpD (Ecx X) ((.pl, ⟨dst, none, .call f args⟩) :: r) env h H L K :=
  ⟨v, by simp only [AOp.quiet, AOp.wp, hf]; rw [ha]; exact hc, hr⟩
/-- A call in such a region, that turns the heap. -/
theorem awpD_call_eff {dst : Option Nat} {f : AO} {args : List AO} {k : Nat} {first cap : List V} {as : List V} (v : V) (h1 : AH) (hf : ev env f = .fn k first cap) (ha : first ++ args.map (ev env) ++ cap = as)
    (hc : Ecx X k as h fun v' h' => v' = v ∧ h' = h1) (hL : ∀ c ∈ L, c h1) (hr : awpD (Ecx X) r (put env dst v) h1 (h :: H) L K) : awpD (Ecx X) ((.eff, ⟨dst, none, .call f args⟩) :: r) env h H L K :=
  ⟨v, h1, by simp only [AOp.wp, hf]; rw [ha]; exact hc, hL, hr⟩
end
attribute [simp] List.getD_cons_zero List.getD_cons_succ List.getD_nil AOp.quiet AOp.wp binI shI binS isShift loadC slcK bnd fillV fillL setAt V.cells V.good V.isAgg resP tupV eqL eqLeaf
end Go.Proofs.Ytpnbdnmmfaomlaa.Al
