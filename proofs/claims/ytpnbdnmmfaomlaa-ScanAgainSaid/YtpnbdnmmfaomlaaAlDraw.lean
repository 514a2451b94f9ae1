/-
  The abstract layer, part 9: a region whose order is open does the same in every order. Conditions: those of drawOk, which the kernel runs.
-/
import Derived.Test.YtpnbdnmmfaomlaaAlRun
import Derived.Orders
namespace Go.Proofs.Ytpnbdnmmfaomlaa.Al
open Go Go.RowKit
set_option linter.unusedSimpArgs false
set_option linter.unusedVariables false

section
variable {X : Cx} {Y : Keys}

/-- What does not look at the heap answers alike in every heap. -/
theorem wp_heap {E : Sig} {ρ : AO → V} {o : AOp} (hl : lookOp Y o = false) {h h2 : AH} {K K' : V → AH → Prop} (hk : o.wp E ρ h K) (hK : ∀ v, K v h → K' v h2) : o.wp E ρ h2 K' := by
  have hload : ∀ gg n c off, loadC gg n c off (fun v => K v h) → loadC gg n c off (fun v => K' v h2) := fun gg n c off hh => by
    cases gg <;> exact ⟨hh.1, hK _ hh.2⟩
  have hbin : ∀ op k a b, binI op k a b (fun v => K v h) → binI op k a b (fun v => K' v h2) := fun op k a b hh => by
    cases op <;> first | exact hh.elim | exact hK _ hh | exact ⟨hh.1, hK _ hh.2⟩
  have hsh : ∀ op k a b, shI op k a b (fun v => K v h) → shI op k a b (fun v => K' v h2) := fun op k a b hh => by
    cases op <;> first | exact hh.elim | exact ⟨hh.1, hK _ hh.2⟩
  have hstr : ∀ op a b, binS op a b (fun v => K v h) → binS op a b (fun v => K' v h2) := fun op a b hh => by
    cases op <;> first | exact hh.elim | exact hK _ hh | exact ⟨hh.1, hK _ hh.2⟩
  have hnil : ∀ neg st l, nilK neg st l (fun b => K (.bool b) h) → nilK neg st l (fun b => K' (.bool b) h2) := fun neg st l hh => by
    unfold nilK at *
    split
    · rename_i q; rw [if_pos q] at hh; exact hK _ hh
    · rename_i q; rw [if_neg q] at hh
      split
      · rename_i q2; rw [if_pos q2] at hh; exact ⟨fun e => ⟨hK _ (hh.1 e).1, hK _ (hh.1 e).2⟩, fun e => hK _ (hh.2 e)⟩
      · rename_i q2; rw [if_neg q2] at hh; exact hK _ hh
  cases o with
  | load | call | alloc | box | store | app | mks => simp [lookOp, effOp] at hl
  | eqs neg offs x y =>
    simp only [AOp.wp] at *
    generalize ρ x = v at *
    generalize ρ y = u at *
    cases v <;> cases u <;> first | exact hk.elim | skip
    simp only at *
    split
    · rename_i q; simp only [q] at hk; exact hK _ hk
    · rename_i q; simp only [q] at hk
  | mv x => exact hK _ hk
  | pick c a b =>
    simp only [AOp.wp] at *
    split
    · rename_i t q; simp only [q] at hk; exact ⟨fun e => hK _ (hk.1 e), fun e => hK _ (hk.2 e)⟩
    · rename_i q; split at hk
      · rename_i t e; exact absurd e (q t)
      · exact hk
  | isnil neg ptr x =>
    cases ptr
    · simp only [AOp.wp] at *
      generalize ρ x = v at *
      cases v <;> first | exact hk.elim | exact hnil _ _ _ hk
    · simp only [AOp.wp] at *
      generalize ρ x = v at *
      cases v <;> first | exact hk.elim | exact hK _ hk
  | len str x =>
    cases str
    · simp only [AOp.wp] at *
      generalize ρ x = v at *
      cases v <;> first | exact hk.elim | exact hK _ hk
    · simp only [AOp.wp] at *
      generalize ρ x = v at *
      cases v <;> first | exact hk.elim | exact hK _ hk
  | bin op x y =>
    simp only [AOp.wp] at *
    generalize ρ x = v at *
    generalize ρ y = u at *
    cases v <;> cases u <;> first | exact hk.elim | exact hstr _ _ _ hk | skip
    simp only at *
    split
    · rename_i q; rw [if_pos q] at hk; exact hsh _ _ _ _ hk
    · rename_i q; rw [if_neg q] at hk; exact ⟨hk.1, hbin _ _ _ _ hk.2⟩
  | un op x =>
    simp only [AOp.wp] at *
    generalize ρ x = v at *
    cases op <;> cases v <;> first | exact hk.elim | exact hbin _ _ _ _ hk | exact hK _ hk
  | bld z parts =>
    simp only [AOp.wp] at *
    split
    · rename_i q; simp only [q] at hk; exact hK _ hk
    · rename_i q; simp only [q] at hk
  | bsl e gg z n parts =>
    simp only [AOp.wp] at *
    split
    · rename_i q; simp only [q] at hk; exact hK _ hk
    · rename_i q; simp only [q] at hk
  | slc e x lo hi =>
    simp only [AOp.wp] at *
    generalize ρ x = v at *
    cases v <;> first | exact hk.elim | skip
    simp only at *
    split
    · rename_i q1 q2; simp only [q1, q2] at hk
      exact ⟨hk.1, hk.2.1, hk.2.2.1, hk.2.2.2.1, hK _ hk.2.2.2.2⟩
    · rename_i q; split at hk
      · rename_i i j q1 q2; exact absurd q2 (q _ _ q1)
      · exact hk
  | slcs x lo hi =>
    simp only [AOp.wp] at *
    generalize ρ x = v at *
    cases v <;> first | exact hk.elim | skip
    simp only at *
    split
    · rename_i q1 q2; simp only [q1, q2] at hk
      exact ⟨hk.1, hk.2.1, hk.2.2.1, hK _ hk.2.2.2⟩
    · rename_i q; split at hk
      · rename_i i j q1 q2; exact absurd q2 (q _ _ q1)
      · exact hk
  | ia e x i =>
    simp only [AOp.wp] at *
    generalize ρ x = v at *
    generalize ρ i = u at *
    cases v <;> cases u <;> first | exact hk.elim | exact ⟨hk.1, hk.2.1, hk.2.2.1, hK _ hk.2.2.2⟩
  | ixs x i =>
    simp only [AOp.wp] at *
    generalize ρ x = v at *
    generalize ρ i = u at *
    cases v <;> cases u <;> first | exact hk.elim | exact ⟨hk.1, hk.2.1, hK _ hk.2.2⟩
  | mm mx x y =>
    simp only [AOp.wp] at *
    generalize ρ x = v at *
    generalize ρ y = u at *
    cases v <;> cases u <;> first | exact hk.elim | exact ⟨hk.1, hK _ hk.2⟩
  | beq neg x y =>
    simp only [AOp.wp] at *
    generalize ρ x = v at *
    generalize ρ y = u at *
    cases v <;> cases u <;> first | exact hk.elim | exact hK _ hk
  | ext x i =>
    simp only [AOp.wp] at *
    generalize ρ x = v at *
    cases v <;> first | exact hk.elim | exact ⟨hk.1, hK _ hk.2⟩
  | fld gg off n x =>
    simp only [AOp.wp] at *
    generalize ρ x = v at *
    cases v <;> first | exact hk.elim | exact hload _ _ _ _ hk
  | mkfn f a b => exact hK _ hk
  | _ =>
    rename_i x
    simp only [AOp.wp] at *
    generalize ρ x = v at *
    cases v <;> first | exact hk.elim | exact hK _ hk

theorem gdP_cases {gd : Option (Nat × Bool)} {env : Env} {A B : Prop} (hk : gdP gd env A B) : (A ∧ ∀ A' B' : Prop, A' → gdP gd env A' B') ∨ (B ∧ ∀ A' B' : Prop, B' → gdP gd env A' B') := by
  cases gd with
  | none => exact .inl ⟨hk, fun _ _ a => a⟩
  | some p =>
    obtain ⟨s, t⟩ := p
    simp only [gdP] at *
    generalize get env s = v at *
    cases v with
    | bool b =>
      by_cases e : b = t
      · exact .inl ⟨hk.1 e, fun _ _ a => ⟨fun _ => a, fun n => absurd e n⟩⟩
      · exact .inr ⟨hk.2 e, fun _ _ a => ⟨fun n => absurd n e, fun _ => a⟩⟩
    | tup l =>
      cases l with
      | nil => exact .inr ⟨hk, fun _ _ a => a⟩
      | cons _ _ => exact hk.elim
    | _ => exact hk.elim

/-- The run in the order of the text. -/
structure Tr (E : Sig) (l : List (DK × AOper)) (ε : Nat → Env) (η : Nat → AH) (val : Nat → V) : Prop where
  env : ∀ i (hi : i < l.length), ε (i + 1) = put (ε i) (l[i]).2.dst (val i)
  step : ∀ i (hi : i < l.length), gdP (l[i]).2.gd (ε i)
    ((l[i]).2.op.wp E (ev (ε i)) (η i) (fun v h' => v = val i ∧ h' = η (i + 1)) ∧ (isEff (l[i]).1 = false → η (i + 1) = η i) ∧ ((l[i]).1 = .fl → ∀ k, k ≤ l.length → (l[i]).2.op.quiet E (ev (ε i)) (val i) (η k)))
    (val i = .tup [] ∧ η (i + 1) = η i)

/-- What a load that floats owes to the heaps ahead. -/
def Fl (E : Sig) (l : List (DK × AOper)) (ε : Nat → Env) (val : Nat → V) (hh : AH) : Prop :=
  ∀ i (hi : i < l.length), (l[i]).1 = .fl → gdP (l[i]).2.gd (ε i) ((l[i]).2.op.quiet E (ev (ε i)) (val i) hh) True

theorem gdP_imp {gd : Option (Nat × Bool)} {env : Env} {A B A' B' : Prop} (hk : gdP gd env A B) (ha : A → A') (hb : B → B') : gdP gd env A' B' := by
  rcases gdP_cases hk with ⟨a, k⟩ | ⟨b, k⟩
  · exact k _ _ (ha a)
  · exact k _ _ (hb b)

/-- The run, step by step, before what floats is asked. -/
structure Tr0 (E : Sig) (l : List (DK × AOper)) (ε : Nat → Env) (η : Nat → AH) (val : Nat → V) : Prop where
  env : ∀ i (hi : i < l.length), ε (i + 1) = put (ε i) (l[i]).2.dst (val i)
  step : ∀ i (hi : i < l.length), gdP (l[i]).2.gd (ε i)
    ((l[i]).2.op.wp E (ev (ε i)) (η i) (fun v h' => v = val i ∧ h' = η (i + 1)) ∧ (isEff (l[i]).1 = false → η (i + 1) = η i)) (val i = .tup [] ∧ η (i + 1) = η i)

def cons {α : Type} (x : α) (f : Nat → α) : Nat → α
  | 0 => x
  | i + 1 => f i
theorem Tr0.cons {E : Sig} {z : DK × AOper} {l : List (DK × AOper)} {ε : Nat → Env} {η : Nat → AH} {val : Nat → V} {env : Env} {h : AH} {v : V} (T : Tr0 E l ε η val) (e1 : ε 0 = put env z.2.dst v)
    (hs : gdP z.2.gd env (z.2.op.wp E (ev env) h (fun v' h' => v' = v ∧ h' = η 0) ∧ (isEff z.1 = false → η 0 = h)) (v = .tup [] ∧ η 0 = h)) :
    Tr0 E (z :: l) (Al.cons env ε) (Al.cons h η) (Al.cons v val) := by
  refine ⟨fun i hi => ?_, fun i hi => ?_⟩
  · cases i with
    | zero => exact e1
    | succ i => exact T.env i (by simpa using hi)
  · cases i with
    | zero => exact hs
    | succ i => exact T.step i (by simpa using hi)

theorem Fl.cons {E : Sig} {z : DK × AOper} {l : List (DK × AOper)} {ε : Nat → Env} {val : Nat → V} {env : Env} {v : V} {hh : AH} (f : Fl E l ε val hh) (hz : z.1 = .fl → gdP z.2.gd env (z.2.op.quiet E (ev env) v hh) True) :
    Fl E (z :: l) (Al.cons env ε) (Al.cons v val) hh := fun i hi he => by
  cases i with
  | zero => exact hz he
  | succ i => exact f i (by simpa using hi) he

theorem trace0 {E : Sig} : ∀ (l : List (DK × AOper)) (env : Env) (h : AH) (H : List AH) (L : List (AH → Prop)) (K : Env → AH → Prop), (∀ c ∈ L, c h) → awpD E l env h H L K →
    ∃ ε η val, ε 0 = env ∧ η 0 = h ∧ Tr0 E l ε η val ∧ K (ε l.length) (η l.length) ∧ (∀ c ∈ L, ∀ k, k ≤ l.length → c (η k)) ∧ (∀ hh ∈ H, Fl E l ε val hh) ∧ ∀ k, k ≤ l.length → Fl E l ε val (η k)
  | [], env, h, H, L, K, hL, hk => ⟨fun _ => env, fun _ => h, fun _ => .undef, rfl, rfl, ⟨fun i hi => by simp at hi, fun i hi => by simp at hi⟩, hk, fun c hc k _ => hL c hc, fun _ _ i hi => by simp at hi, fun _ _ i hi => by simp at hi⟩
  | z :: l, env, h, H, L, K, hL, hk => by
    -- a step that leaves the heap, of a kind that does not float or is not wanted
    have plain : ∀ v, awpD E l (put env z.2.dst v) h H L K → gdP z.2.gd env (z.2.op.quiet E (ev env) v h) (v = .tup []) → (z.1 = .fl → gdP z.2.gd env False True) →
        ∃ ε η val, ε 0 = env ∧ η 0 = h ∧ Tr0 E (z :: l) ε η val ∧ K (ε (z :: l).length) (η (z :: l).length) ∧ (∀ c ∈ L, ∀ k, k ≤ (z :: l).length → c (η k)) ∧ (∀ hh ∈ H, Fl E (z :: l) ε val hh) ∧ ∀ k, k ≤ (z :: l).length → Fl E (z :: l) ε val (η k) := by
      intro v k2 k1 k3
      obtain ⟨ε, η, val, e1, e2, T, kK, c1, c2, c3⟩ := trace0 l _ _ H L K hL k2
      have hz : ∀ hh, z.1 = .fl → gdP z.2.gd env (z.2.op.quiet E (ev env) v hh) True := fun hh he => gdP_imp (k3 he) False.elim id
      refine ⟨Al.cons env ε, Al.cons h η, Al.cons v val, rfl, rfl, T.cons e1 (gdP_imp k1 (fun a => ⟨by rw [e2]; exact a, fun _ => e2⟩) (fun a => ⟨a, e2⟩)), kK, fun c hc k hk => ?_, fun hh hhH => (c2 hh hhH).cons (hz hh), fun k hk => ?_⟩
      · cases k with
        | zero => exact hL c hc
        | succ k => exact c1 c hc k (by simpa using hk)
      · cases k with
        | zero => refine Fl.cons ?_ (hz h); have := c3 0 (by omega); rw [e2] at this; exact this
        | succ k => exact (c3 k (by simpa using hk)).cons (hz _)
    obtain ⟨d, o⟩ := z
    cases d with
    | pl =>
      simp only [awpD] at hk
      rcases gdP_cases hk with ⟨⟨v, k1, k2⟩, kk⟩ | ⟨k2, kk⟩
      · exact plain v k2 (kk _ _ k1) (fun e => by cases e)
      · exact plain _ k2 (kk _ _ rfl) (fun e => by cases e)
    | eff =>
      simp only [awpD] at hk
      rcases gdP_cases hk with ⟨⟨v, h', k1, k3, k2⟩, kk⟩ | ⟨k2, kk⟩
      · obtain ⟨ε, η, val, e1, e2, T, kK, c1, c2, c3⟩ := trace0 l _ _ (h :: H) L K k3 k2
        have hz : ∀ hh, DK.eff = .fl → gdP o.gd env (o.op.quiet E (ev env) v hh) True := fun hh e => by cases e
        refine ⟨Al.cons env ε, Al.cons h η, Al.cons v val, rfl, rfl, T.cons e1 (kk _ _ ⟨by rw [e2]; exact k1, fun e => by cases e⟩), kK, fun c hc k hk => ?_, fun hh hhH => (c2 hh (by simp [hhH])).cons (hz hh), fun k hk => ?_⟩
        · cases k with
          | zero => exact hL c hc
          | succ k => exact c1 c hc k (by simpa using hk)
        · cases k with
          | zero => exact (c2 h (by simp)).cons (hz h)
          | succ k => exact (c3 k (by simpa using hk)).cons (hz _)
      · exact plain _ k2 (kk _ _ rfl) (fun e => by cases e)
    | fl =>
      simp only [awpD] at hk
      rcases gdP_cases hk with ⟨⟨v, k1, k3, k2⟩, kk⟩ | ⟨k2, kk⟩
      · obtain ⟨ε, η, val, e1, e2, T, kK, c1, c2, c3⟩ := trace0 l _ _ H (o.op.quiet E (ev env) v :: L) K (fun c hc => by
          rcases List.mem_cons.1 hc with rfl | hc
          · exact k1
          · exact hL c hc) k2
        have hc0 := c1 _ (List.mem_cons_self ..)
        refine ⟨Al.cons env ε, Al.cons h η, Al.cons v val, rfl, rfl, T.cons e1 (kk _ _ ⟨by rw [e2]; exact k1, fun _ => e2⟩), kK, fun c hc k hk => ?_, fun hh hhH => (c2 hh hhH).cons (fun _ => kk _ _ (k3 hh hhH)), fun k hk => ?_⟩
        · cases k with
          | zero => exact hL c hc
          | succ k => exact c1 c (by simp [hc]) k (by simpa using hk)
        · cases k with
          | zero => refine Fl.cons ?_ (fun _ => kk _ _ k1); have := c3 0 (by omega); rw [e2] at this; exact this
          | succ k => exact (c3 k (by simpa using hk)).cons (fun _ => kk _ _ (hc0 k (by simpa using hk)))
      · exact plain _ k2 (kk _ _ rfl) (fun _ => kk _ _ trivial)

theorem trace {E : Sig} (l : List (DK × AOper)) (env : Env) (h : AH) (K : Env → AH → Prop) (hk : awpD E l env h [] [] K) :
    ∃ ε η val, ε 0 = env ∧ η 0 = h ∧ Tr E l ε η val ∧ K (ε l.length) (η l.length) := by
  obtain ⟨ε, η, val, e1, e2, T, kK, _, _, c3⟩ := trace0 l env h [] [] K (by simp) hk
  refine ⟨ε, η, val, e1, e2, ⟨T.env, fun i hi => ?_⟩, kK⟩
  rcases gdP_cases (T.step i hi) with ⟨a, k⟩ | ⟨b, k⟩
  · refine k _ _ ⟨a.1, a.2, fun he j hj => ?_⟩
    have := c3 j hj i hi he
    rcases gdP_cases this with ⟨q, _⟩ | ⟨_, q⟩
    · exact q
    · exfalso
      -- the guard is wanted: the other way is shut
      have h1 := k True False trivial
      have h2 := q False True trivial
      revert h1 h2
      cases (l[i]).2.gd with
      | none => exact fun _ h => h
      | some p =>
        obtain ⟨s, t⟩ := p
        simp only [gdP]
        generalize Al.get (ε i) s = v
        cases v with
        | bool b =>
          intro h1 h2
          by_cases e : b = t
          · exact h2.1 e
          · exact h1.2 e
        | tup l => cases l <;> simp
        | _ => exact fun h => h.elim
  · exact k _ _ b

theorem kinds_snd (ops : Array Oper) (l : List AOper) : (kinds Y ops l).map (·.2) = l := by
  unfold kinds
  simp only [List.map_map]
  have : ∀ (l : List AOper) (k : Nat) (f : AOper × Nat → DK), (l.zipIdx k).map ((fun x : DK × AOper => x.2) ∘ fun p => (f p, p.1)) = l := by
    intro l
    induction l with
    | nil => intro k f; rfl
    | cons o l ih => intro k f; simp only [List.zipIdx_cons, List.map_cons]; rw [ih (k + 1) f]; rfl
  exact this l 0 _
theorem eff_looks {z : DK × AOper} (hk : kindOk Y z = true) (he : isEff z.1 = true) : looks Y z = true := by
  obtain ⟨d, o⟩ := z
  cases d <;> simp [isEff] at he
  simp only [kindOk] at hk
  simp only [looks]
  revert hk
  cases o.op <;> simp [lookOp, effOp]

theorem Tr.noeff {E : Sig} {l : List (DK × AOper)} {ε : Nat → Env} {η : Nat → AH} {val : Nat → V} (T : Tr E l ε η val) (i : Nat) (hi : i < l.length) (he : isEff (l[i]).1 = false) : η (i + 1) = η i := by
  rcases gdP_cases (T.step i hi) with ⟨a, _⟩ | ⟨a, _⟩
  · exact a.2.1 he
  · exact a.2
theorem Tr.same {E : Sig} {l : List (DK × AOper)} {ε : Nat → Env} {η : Nat → AH} {val : Nat → V} (T : Tr E l ε η val) (i : Nat) : ∀ j, i ≤ j → j ≤ l.length → (∀ k (hk : k < l.length), i ≤ k → k < j → isEff (l[k]).1 = false) → η j = η i
  | 0, h1, _, _ => by rw [show i = 0 by omega]
  | j + 1, h1, h2, hn => by
    by_cases e : i = j + 1
    · rw [e]
    · rw [T.noeff j (by omega) (hn j (by omega) (by omega) (by omega))]
      exact T.same i j (by omega) (by omega) (fun k hk a b => hn k hk a (by omega))

theorem Tr.get {E : Sig} {l : List (DK × AOper)} {ε : Nat → Env} {η : Nat → AH} {val : Nat → V} (T : Tr E l ε η val) (t : Nat) : ∀ i, i ≤ l.length →
    (∃ j, ∃ hj : j < l.length, j < i ∧ (l[j]).2.dst = some t ∧ (∀ k (hk : k < l.length), j < k → k < i → (l[k]).2.dst ≠ some t) ∧ get (ε i) t = val j) ∨
    ((∀ j (hj : j < l.length), j < i → (l[j]).2.dst ≠ some t) ∧ get (ε i) t = get (ε 0) t)
  | 0, _ => .inr ⟨fun _ _ h => by omega, rfl⟩
  | i + 1, hi => by
    have he := T.env i (by omega)
    by_cases hd : (l[i]).2.dst = some t
    · refine .inl ⟨i, by omega, by omega, hd, fun k hk a b => by omega, ?_⟩
      rw [he, hd]; simp [put, Al.get]
    · have hg : Al.get (ε (i + 1)) t = Al.get (ε i) t := by
        rw [he]
        cases hdd : (l[i]).2.dst with
        | none => rfl
        | some d =>
          simp only [put, Al.get]
          rw [if_neg (fun e => hd (by rw [hdd, e]))]
      rcases T.get t i (by omega) with ⟨j, hj, h1, h2, h3, h4⟩ | ⟨h1, h2⟩
      · refine .inl ⟨j, hj, by omega, h2, fun k hk a b => ?_, by rw [hg, h4]⟩
        by_cases e : k = i
        · subst e; exact hd
        · exact h3 k hk a (by omega)
      · refine .inr ⟨fun j hj a => ?_, by rw [hg, h2]⟩
        by_cases e : j = i
        · subst e; exact hd
        · exact h1 j hj (by omega)

/-! ### Which have come up -/
def cnt (listed : Array Bool) : Nat → Nat
  | 0 => 0
  | k + 1 => cnt listed k + if listed.getD k true then 0 else 1
theorem cnt_set (listed : Array Bool) (i : Nat) (hi : listed.getD i true = false) : ∀ k, cnt (listed.setIfInBounds i true) k + (if i < k then 1 else 0) = cnt listed k
  | 0 => by simp [cnt]
  | k + 1 => by
    have ih := cnt_set listed i hi k
    have hlt : i < listed.size := by
      rcases Nat.lt_or_ge i listed.size with h' | h'
      · exact h'
      · simp [Array.getD, Nat.not_lt.2 h'] at hi
    simp only [cnt]
    by_cases e : k = i
    · subst e
      have : (listed.setIfInBounds k true).getD k true = true := by simp [Array.getD, hlt]
      rw [this, hi]
      simp at ih ⊢
      omega
    · have : (listed.setIfInBounds i true).getD k true = listed.getD k true := by
        simp only [Array.getD_eq_getD_getElem?, Array.getElem?_setIfInBounds_ne (Ne.symm e)]
      rw [this]
      by_cases a : i < k
      · have h1 : i < k + 1 := by omega
        simp only [a, h1, if_true] at ih ⊢; omega
      · have h1 : ¬ i < k + 1 := by omega
        simp only [a, h1, if_false] at ih ⊢; omega
theorem cnt_zero {listed : Array Bool} : ∀ {k : Nat}, cnt listed k = 0 → ∀ i, i < k → listed.getD i true = true
  | 0, _, i, hi => by omega
  | k + 1, h, i, hi => by
    simp only [cnt] at h
    by_cases e : i = k
    · subst e
      by_cases hl : listed.getD i true = true
      · exact hl
      · rw [if_neg hl] at h; omega
    · have h2 : cnt listed k = 0 := by omega
      exact cnt_zero h2 i (by omega)

/-! ### The checks -/
theorem compOpers_get {N : Nat} {ops : Array Oper} : ∀ {l : List Oper} {m : List AOper}, compOpers X.P Y N ops l = some m → m.length = l.length ∧ ∀ i (h1 : i < m.length) (h2 : i < l.length), compOper X.P Y N ops l[i] = some m[i]
  | [], m, e => by simp [compOpers] at e; subst e; simp
  | o :: l, m, e => by
    unfold compOpers at e
    split at e
    · rename_i a b h1 h2
      obtain ⟨k1, k2⟩ := compOpers_get h2
      simp at e; subst e
      refine ⟨by simp [k1], fun i i1 i2 => ?_⟩
      cases i with
      | zero => exact h1
      | succ i => exact k2 i (by simpa using i1) (by simpa using i2)
    · simp at e

structure Pairs (Y : Keys) (ops : Array Oper) (l : List (DK × AOper)) : Prop where
  len : l.length = ops.size
  dst : ∀ i (h1 : i < ops.size) (h2 : i < l.length), (l[i]).2.dst = (ops[i]).dst
  dist : ∀ i j (hi : i < ops.size) (hj : j < ops.size), i < j → ∀ d, (ops[i]).dst = some d → (ops[j]).dst ≠ some d
  raw : ∀ i j (hi : i < ops.size) (hj : j < ops.size), i < j → ∀ d, (ops[i]).dst = some d → d ∈ (ops[j]).looksAt ops → bindsTo (ops[j]) i = true
  war : ∀ i j (hi : i < ops.size) (hj : j < ops.size), i < j → ∀ d, (ops[j]).dst = some d → d ∈ (ops[i]).looksAt ops → bindsTo (ops[j]) i = true
  mask : ∀ j (hj : j < ops.size) i, i < ops.size → ((Region.before ops).getD j 0).testBit i = true → ∃ e ∈ (ops[j]).after, Region.binds .any e = true ∧ e.on < j ∧ (e.on = i ∨ ((Region.before ops).getD e.on 0).testBit i = true)
  eff : ∀ i j (hi : i < l.length) (hj : j < l.length), i < j → (isEff (l[i]).1 = true ∧ looks Y (l[j]) = true ∨ looks Y (l[i]) = true ∧ isEff (l[j]).1 = true) → ((Region.before ops).getD j 0).testBit i = true
  kind : ∀ i (hi : i < l.length), kindOk Y (l[i]) = true
  down : ∀ j (hj : j < ops.size), ∀ e ∈ (ops[j]).after, Region.binds .any e = true → e.on < j

theorem pairs_of {N : Nat} {ops : Array Oper} {l : List (DK × AOper)} (hc : compOpers X.P Y N ops ops.toList = some (l.map (·.2))) (h1 : drawOk Y ops l = true) (h2 : edgesDown ops = true) : Pairs Y ops l := by
  obtain ⟨k1, k2⟩ := compOpers_get hc
  have hlen : l.length = ops.size := by simpa using k1
  have hdst : ∀ i (h1 : i < ops.size) (h2 : i < l.length), (l[i]).2.dst = (ops[i]).dst := fun i i1 i2 => by
    have := k2 i (by simpa using i2) (by simpa using i1)
    simpa using (compOper_op this).2.1
  simp only [drawOk, Bool.and_eq_true] at h1
  obtain ⟨⟨hm, hkd⟩, hp⟩ := h1
  have hpair : ∀ i j (hi : i < ops.size) (hj : j < ops.size) (hi2 : i < l.length) (hj2 : j < l.length), i < j → pairOk Y ops (Region.before ops) i j (ops[i]) (ops[j]) (l[i]) (l[j]) = true := fun i j hi hj hi2 hj2 hij => by
    have := List.all_eq_true.1 hp j (by simpa using hj)
    have := List.all_eq_true.1 this i (by simpa using hij)
    simpa [hi, hj, hi2, hj2] using this
  have hspec := fun i j hi hj hi2 hj2 hij => by
    have := hpair i j hi hj hi2 hj2 hij
    simp only [pairOk, Bool.and_eq_true] at this
    exact this
  refine ⟨hlen, hdst, fun i j hi hj hij d hd he => ?_, fun i j hi hj hij d hd hu => ?_, fun i j hi hj hij d hd hu => ?_, fun j hj i hi hb => ?_, fun i j hi hj hij hh => ?_, fun i hi => List.all_eq_true.1 hkd _ (List.getElem_mem hi), fun j hj e he hb => ?_⟩
  · have := (hspec i j hi hj (by omega) (by omega) hij).1.1
    simp [hd, he] at this
  · have := (hspec i j hi hj (by omega) (by omega) hij).1.1
    simp only [hd, Bool.and_eq_true, Bool.or_eq_true, Bool.not_eq_true'] at this
    rcases this.2 with h | h
    · simp [usesSlot, hu] at h
    · exact h
  · have := (hspec i j hi hj (by omega) (by omega) hij).1.2
    simp only [hd, Bool.or_eq_true, Bool.not_eq_true'] at this
    rcases this with h | h
    · simp [usesSlot, hu] at h
    · exact h
  · have := List.all_eq_true.1 hm j (by simpa using hj)
    simp only [hj, Array.getElem?_eq_getElem] at this
    have := List.all_eq_true.1 this i (by simpa using hi)
    simp only [hb, Bool.not_true, Bool.false_or] at this
    obtain ⟨q, hq, hqq⟩ := Array.any_eq_true.1 this
    simp only [Bool.and_eq_true, decide_eq_true_eq, Bool.or_eq_true, beq_iff_eq] at hqq
    exact ⟨(ops[j]).after[q], Array.getElem_mem hq, hqq.1.1, hqq.1.2, hqq.2⟩
  · have := (hspec i j (by omega) (by omega) hi hj hij).2
    simp only [Bool.or_eq_true, Bool.not_eq_true', Bool.or_eq_false_iff, Bool.and_eq_false_iff] at this
    rcases this with h | h
    · rcases hh with ⟨a, b⟩ | ⟨a, b⟩
      · rcases h.1 with c | c <;> simp_all
      · rcases h.2 with c | c <;> simp_all
    · exact h
  · have := List.all_eq_true.1 h2 j (by simpa using hj)
    simp only [hj, Array.getElem?_eq_getElem] at this
    have := Array.all_eq_true'.1 this e he
    simp only [hb, Bool.not_true, Bool.false_or, decide_eq_true_eq] at this
    exact this

/-! ### Any order -/
/-- Where an order stands. -/
structure At (X : Cx) (Y : Keys) (N : Nat) (ops : Array Oper) (l : List (DK × AOper)) (ε : Nat → Env) (η : Nat → AH) (val : Nat → V) (g0 : Gh) (w0 : World) (listed : Array Bool) (g : Gh) (w : World) (m : Nat) (a : Act) : Prop where
  sz : listed.size = ops.size
  closed : ∀ j (hj : j < ops.size), listed.getD j true = true → ∀ e ∈ (ops[j]).after, Region.binds .any e = true → listed.getD e.on false = true
  mle : m ≤ l.length
  eff : ∀ i (hi : i < l.length), isEff (l[i]).1 = true → (listed.getD i true = true ↔ i < m)
  inv : Inv X g w (η m)
  stp : Stp g0 w0 (η 0) g w (η m)
  slots : ∀ t, (∃ i, ∃ hi : i < l.length, listed.getD i true = true ∧ (l[i]).2.dst = some t ∧ Rel X g w (η m) (val i) (a.tmps.getD t undef)) ∨
    ((∀ i (hi : i < l.length), listed.getD i true = true → (l[i]).2.dst ≠ some t) ∧ Rel X g w (η m) (get (ε 0) t) (a.tmps.getD t undef))
  size : a.tmps.size = N
  defers : a.defers = []

theorem getD_true_false {listed : Array Bool} {i : Nat} (hi : i < listed.size) : listed.getD i true = listed.getD i false := by simp [Array.getD, hi]

theorem mask_listed {ops : Array Oper} {l : List (DK × AOper)} (Pr : Pairs Y ops l) {listed : Array Bool} (hsz : listed.size = ops.size)
    (closed : ∀ j (hj : j < ops.size), listed.getD j true = true → ∀ e ∈ (ops[j]).after, Region.binds .any e = true → listed.getD e.on false = true) :
    ∀ (n j : Nat), j < n → ∀ (hj : j < ops.size) (i : Nat), i < ops.size → (∀ e ∈ (ops[j]).after, Region.binds .any e = true → listed.getD e.on false = true) → ((Region.before ops).getD j 0).testBit i = true → listed.getD i true = true
  | 0, _, h, _, _, _, _, _ => by omega
  | n + 1, j, hjn, hj, i, hi, hpre, hb => by
    obtain ⟨e, he, hbind, hlt, h⟩ := Pr.mask j hj i hi hb
    have hl := hpre e he hbind
    have hes : e.on < ops.size := by omega
    rcases h with h | h
    · rw [← h, getD_true_false (by omega)]; exact hl
    · exact mask_listed Pr hsz closed n e.on (by omega) hes i hi (closed e.on hes (by rw [getD_true_false (by omega)]; exact hl)) h

theorem any_order (hY : X.tbl = Y.tbl) {N : Nat} {ops : Array Oper} {l : List (DK × AOper)} (hc : compOpers X.P Y N ops ops.toList = some (l.map (·.2))) (Pr : Pairs Y ops l) {ε : Nat → Env} {η : Nat → AH} {val : Nat → V}
    (T : Tr (Ecx X) l ε η val) {g0 : Gh} {w0 : World} {Qc : Exit → Act → World → Prop}
    (hq : ∀ g w a, Hold X N g w (η l.length) (ε l.length) a → Stp g0 w0 (η 0) g w (η l.length) → Qc .normal a w) :
    ∀ (fuel : Nat) (listed : Array Bool) (g : Gh) (w : World) (m : Nat) (a : Act), cnt listed ops.size ≤ fuel → At X Y N ops l ε η val g0 w0 listed g w m a → wpAny X.P .any ops Qc fuel listed a w := by
  have hlen := Pr.len
  -- all have come up
  have final : ∀ (listed : Array Bool) (g : Gh) (w : World) (m : Nat) (a : Act), At X Y N ops l ε η val g0 w0 listed g w m a → (∀ i, i < ops.size → listed.getD i true = true) → Qc .normal a w := by
    intro listed g w m a A hall
    have hm : η l.length = η m := T.same m l.length A.mle (Nat.le_refl _) (fun k hk h1 h2 => by
      cases he : isEff (l[k]).1 with
      | false => rfl
      | true => have := (A.eff k hk he).1 (hall k (by omega)); omega)
    refine hq g w a ⟨fun t => ?_, by rw [hm]; exact A.inv, A.size, A.defers⟩ (by rw [hm]; exact A.stp)
    rw [hm]
    rcases T.get t l.length (Nat.le_refl _) with ⟨j, hj, h1, h2, h3, h4⟩ | ⟨h1, h2⟩
    · rw [h4]
      rcases A.slots t with ⟨i, hi, s1, s2, s3⟩ | ⟨s1, s2⟩
      · have : i = j := by
          rcases Nat.lt_trichotomy i j with c | c | c
          · exact absurd ((Pr.dst j (by omega) hj).symm.trans h2) (Pr.dist i j (by omega) (by omega) c t ((Pr.dst i (by omega) hi).symm.trans s2))
          · exact c
          · exact absurd s2 (h3 i hi c (by omega))
        subst this; exact s3
      · exact absurd h2 (s1 j hj (hall j (by omega)))
    · rw [h2]
      rcases A.slots t with ⟨i, hi, s1, s2, s3⟩ | ⟨s1, s2⟩
      · exact absurd s2 (h1 i hi (by omega))
      · exact s2
  -- something may come up
  have progress : ∀ (listed : Array Bool), (∀ i, i < ops.size → listed.getD i true = true) ∨ ∃ i, i ∈ Region.ready .any ops listed := by
    intro listed
    have key : ∀ k, k ≤ ops.size → (∀ i, i < k → listed.getD i true = true) ∨ ∃ i, i ∈ Region.ready .any ops listed := by
      intro k
      induction k with
      | zero => intro _; exact .inl (fun i hi => by omega)
      | succ k ih =>
        intro hk
        rcases ih (by omega) with h | h
        · by_cases hl : listed.getD k true = true
          · refine .inl (fun i hi => ?_)
            by_cases e : i = k
            · rw [e]; exact hl
            · exact h i (by omega)
          · refine .inr ⟨k, mem_ready.2 ⟨by simpa using hl, ops[k]'(by omega), Array.getElem?_eq_getElem _, fun e he hb => ?_⟩⟩
            have hd := Pr.down k (by omega) e he hb
            have hks : k < listed.size := by
              rcases Nat.lt_or_ge k listed.size with c | c
              · exact c
              · exact absurd (by simp [Array.getD, Nat.not_lt.2 c]) hl
            rw [← getD_true_false (by omega)]; exact h e.on hd
        · exact .inr h
    exact key ops.size (Nat.le_refl _)
  intro fuel
  induction fuel with
  | zero =>
    intro listed g w m a hcnt A
    have hall := fun i hi => cnt_zero (Nat.le_zero.1 hcnt) i hi
    refine ⟨?_, final listed g w m a A hall⟩
    cases hr : Region.ready .any ops listed with
    | nil => rfl
    | cons i r =>
      have hi : i ∈ Region.ready .any ops listed := by rw [hr]; simp
      obtain ⟨h1, o, ho, _⟩ := mem_ready.1 hi
      have := hall i (Array.getElem?_eq_some_iff.1 ho).1
      rw [h1] at this; cases this
  | succ fuel ih =>
    intro listed g w m a hcnt A
    refine ⟨fun h0 => ?_, fun i hi => ?_⟩
    · rcases progress listed with h | ⟨i, hi⟩
      · exact final listed g w m a A h
      · rw [h0] at hi; cases hi
    · obtain ⟨hun, o, ho, hpre⟩ := mem_ready.1 hi
      obtain ⟨hio, hoe⟩ := Array.getElem?_eq_some_iff.1 ho
      have hil : i < l.length := by omega
      have hpre' : ∀ e ∈ (ops[i]).after, Region.binds .any e = true → listed.getD e.on false = true := by rw [hoe]; exact hpre
      have hcomp : compOper X.P Y N ops o = some (l[i]).2 := by
        have := (compOpers_get hc).2 i (by simpa using hil) (by simpa using hio)
        rw [← hoe]; simpa using this
      obtain ⟨c1, c2, c3⟩ := compOper_op hcomp
      -- an operand reads as it does in the text's order
      have hslot : ∀ t, t ∈ o.looksAt ops → Rel X g w (η m) (get (ε i) t) (a.tmps.getD t undef) := by
        intro t ht
        rcases T.get t i (by omega) with ⟨j, hj, h1, h2, h3, h4⟩ | ⟨h1, h2⟩
        · rw [h4]
          have hjd : (ops[j]).dst = some t := by rw [← Pr.dst j (by omega) hj]; exact h2
          have hbt := Pr.raw j i (by omega) hio h1 t hjd (by rw [hoe]; exact ht)
          have hjl : listed.getD j true = true := by
            simp only [bindsTo] at hbt
            obtain ⟨q, hq', hqq⟩ := Array.any_eq_true.1 hbt
            simp only [Bool.and_eq_true, beq_iff_eq] at hqq
            have := hpre' _ (Array.getElem_mem hq') hqq.2
            rw [hqq.1] at this
            rw [getD_true_false (by rw [A.sz]; omega)]; exact this
          rcases A.slots t with ⟨i', hi', s1, s2, s3⟩ | ⟨s1, s2⟩
          · have : i' = j := by
              rcases Nat.lt_trichotomy i' j with c | c | c
              · exact absurd hjd (Pr.dist i' j (by omega) (by omega) c t ((Pr.dst i' (by omega) hi').symm.trans s2))
              · exact c
              · exact absurd ((Pr.dst i' (by omega) hi').symm.trans s2) (Pr.dist j i' (by omega) (by omega) c t hjd)
            subst this; exact s3
          · exact absurd h2 (s1 j hj hjl)
        · rw [h2]
          rcases A.slots t with ⟨i', hi', s1, s2, s3⟩ | ⟨s1, s2⟩
          · exfalso
            rcases Nat.lt_trichotomy i' i with c | c | c
            · exact h1 i' hi' c s2
            · subst c; rw [hun] at s1; cases s1
            · have hbt := Pr.war i i' hio (by omega) c t (by rw [← Pr.dst i' (by omega) hi']; exact s2) (by rw [hoe]; exact ht)
              simp only [bindsTo] at hbt
              obtain ⟨q, hq', hqq⟩ := Array.any_eq_true.1 hbt
              simp only [Bool.and_eq_true, beq_iff_eq] at hqq
              have := A.closed i' (by omega) s1 _ (Array.getElem_mem hq') hqq.2
              rw [hqq.1, ← getD_true_false (by rw [A.sz]; omega), hun] at this
              cases this
          · exact s2
      have hoper : ∀ x ∈ o.op.operands, ∀ y, co Y x = some y → Rel X g w (η m) (ev (ε i) y) (a.eval x) := by
        intro x hx y hy
        cases x with
        | tmp t =>
          simp [co] at hy; subst hy
          refine hslot t ?_
          simp only [Oper.looksAt, List.mem_append, List.mem_filterMap]
          exact .inl ⟨.tmp t, by simpa using hx, rfl⟩
        | const v =>
          simp only [co] at hy; split at hy
          · rename_i u hu; simp at hy; subst hy; exact constV_rel hu
          · simp at hy
        | func f =>
          simp only [co] at hy; split at hy
          · rename_i k hk; simp at hy; subst hy
            have := Rel.fn (X := X) (g := g) (w := w) (h := η m) k [] [] #[] #[] rfl rfl (by simp) (by simp)
            rw [hY, fnKey_spec hk] at this
            exact this
          · simp at hy
        | global _ => simp [co] at hy; subst hy; exact .undef _
      have hguard : ∀ s t, (l[i]).2.gd = some (s, t) → Rel X g w (η m) (get (ε i) s) (a.tmps.getD s undef) := by
        intro s t hst
        refine hslot s ?_
        have hcomp' := hcomp
        unfold compOper at hcomp'
        rw [if_pos c3] at hcomp'
        simp only [c1] at hcomp'
        cases hg : o.guard with
        | none => rw [hg] at hcomp'; simp at hcomp'; rw [← hcomp'] at hst; simp at hst
        | some p =>
          obtain ⟨j, t'⟩ := p
          rw [hg] at hcomp'
          simp only at hcomp'
          split at hcomp'
          · rename_i oj hj
            split at hcomp'
            · rename_i s' hs'
              simp at hcomp'
              rw [← hcomp'] at hst
              simp at hst
              obtain ⟨rfl, rfl⟩ := hst
              simp only [Oper.looksAt, hg, hj, Option.bind_some, hs', Option.toList_some, List.mem_append]
              exact .inr (by simp)
            · simp at hcomp'
          · simp at hcomp'
      -- the effects that have come up are those ahead of this one, if this one looks
      have hheap : looks Y (l[i]) = true → η m = η i ∧ (∀ k (hk : k < l.length), isEff (l[k]).1 = true → k ≠ i → (k < m ↔ k < i)) := by
        intro hlook
        have heq : ∀ k (hk : k < l.length), isEff (l[k]).1 = true → k ≠ i → (k < m ↔ k < i) := by
          intro k hk he hne
          rw [← A.eff k hk he]
          constructor
          · intro hl
            rcases Nat.lt_or_ge k i with c | c
            · exact c
            · exfalso
              have hb := Pr.eff i k hil hk (by omega) (.inr ⟨hlook, he⟩)
              have := mask_listed Pr A.sz A.closed (k + 1) k (by omega) (by omega) i hio (A.closed k (by omega) hl) hb
              rw [hun] at this; cases this
          · intro hl
            have hb := Pr.eff k i hk hil hl (.inl ⟨he, hlook⟩)
            exact mask_listed Pr A.sz A.closed (i + 1) i (by omega) hio k (by omega) hpre' hb
        refine ⟨?_, heq⟩
        rcases Nat.le_total m i with c | c
        · refine (T.same m i c (by omega) (fun k hk h1 h2 => ?_)).symm
          cases he : isEff (l[k]).1 with
          | false => rfl
          | true => have := (heq k hk he (by omega)).2 h2; omega
        · refine T.same i m c A.mle (fun k hk h1 h2 => ?_)
          cases he : isEff (l[k]).1 with
          | false => rfl
          | true =>
            by_cases e : k = i
            · subst e; have := (A.eff k hk he).2 h2; rw [hun] at this; cases this
            · have := (heq k hk he e).1 h2; omega
      -- behind it
      have after : ∀ (m' : Nat) (g' : Gh) (w' : World) (x : Value), (m' = m ∧ isEff (l[i]).1 = false ∨ m' = i + 1 ∧ isEff (l[i]).1 = true) → Inv X g' w' (η m') → Stp g w (η m) g' w' (η m') → Rel X g' w' (η m') (val i) x →
          wpAny X.P .any ops Qc fuel (listed.setIfInBounds i true) (a.put o.dst x) w' := by
        intro m' g' w' x hm' I' S r
        have hins : i < listed.size := by rw [A.sz]; exact hio
        have hsame : ∀ k, k ≠ i → ∀ d, (listed.setIfInBounds i true).getD k d = listed.getD k d := fun k hk d => getD_set_ne d (Ne.symm hk)
        have hnew : ∀ d, (listed.setIfInBounds i true).getD i d = true := fun d => by simp [Array.getD, hins]
        refine ih _ g' w' m' _ ?_ ⟨by simp [A.sz], fun j hj hl e he hb => ?_, ?_, fun k hk he => ?_, I', A.stp.trans S, fun t => ?_, by rw [put_size]; exact A.size, by rw [put_defers']; exact A.defers⟩
        · have := cnt_set listed i hun ops.size
          rw [if_pos hio] at this; omega
        · by_cases e' : j = i
          · subst e'; exact getD_set_true (hpre' e he hb)
          · rw [hsame j e'] at hl; exact getD_set_true (A.closed j hj hl e he hb)
        · rcases hm' with ⟨rfl, _⟩ | ⟨rfl, _⟩
          · exact A.mle
          · omega
        · by_cases e : k = i
          · subst e
            rw [hnew]
            rcases hm' with ⟨_, h⟩ | ⟨rfl, _⟩
            · rw [h] at he; cases he
            · simp
          · rw [hsame k e]
            rcases hm' with ⟨rfl, h⟩ | ⟨rfl, h⟩
            · exact A.eff k hk he
            · rw [A.eff k hk he, (hheap (eff_looks (Pr.kind i hil) h)).2 k hk he e]; omega
        · by_cases hd : (l[i]).2.dst = some t
          · refine .inl ⟨i, hil, hnew true, hd, ?_⟩
            have hdo : o.dst = some t := by rw [← c2]; exact hd
            have hlt : t < a.tmps.size := by rw [hdo] at c3; simp [dstOk] at c3; rw [A.size]; exact c3
            have : ((a.put o.dst x).tmps).getD t undef = x := by rw [hdo]; simp [Act.put, Array.getD, hlt]
            rw [this]; exact r
          · have hne : ((a.put o.dst x).tmps).getD t undef = a.tmps.getD t undef := by
              rw [← c2]
              cases hdd : (l[i]).2.dst with
              | none => rfl
              | some d =>
                have : d ≠ t := fun e => hd (by rw [hdd, e])
                simp only [Act.put, Array.getD_eq_getD_getElem?, Array.getElem?_setIfInBounds_ne this]
            rw [hne]
            rcases A.slots t with ⟨k, hk, s1, s2, s3⟩ | ⟨s1, s2⟩
            · exact .inl ⟨k, hk, by
                by_cases e : k = i
                · subst e; exact hnew true
                · rw [hsame k e]; exact s1, s2, s3.stp S⟩
            · refine .inr ⟨fun k hk hl => ?_, s2.stp S⟩
              by_cases e : k = i
              · subst e; exact hd
              · rw [hsame k e] at hl; exact s1 k hk hl
      -- the operation itself
      unfold wpOp
      simp only [ho]
      rcases guard_spec hcomp hguard (T.step i hil) with ⟨⟨hk, hnoeff, hfl⟩, hw⟩ | ⟨⟨hv, hh⟩, hw⟩
      · rw [if_pos hw]
        refine .inl ?_
        by_cases hlook : looks Y (l[i]) = true
        · have hmi := (hheap hlook).1
          rw [← hmi] at hk
          refine op_sound hY c1 hoper A.inv hk fun v h' x g' w' ⟨q1, q2⟩ I' r S => ?_
          subst q1
          cases he : isEff (l[i]).1 with
          | true =>
            subst q2
            exact after (i + 1) g' w' x (.inr ⟨rfl, he⟩) I' S r
          | false =>
            have : h' = η m := by rw [q2, hnoeff he, hmi]
            subst this
            exact after m g' w' x (.inl ⟨rfl, he⟩) I' S r
        · have hl' : looks Y (l[i]) = false := by simpa using hlook
          have he : isEff (l[i]).1 = false := by
            cases hq : isEff (l[i]).1 with
            | false => rfl
            | true => rw [eff_looks (Pr.kind i hil) hq] at hl'; cases hl'
          have hk2 : (l[i]).2.op.quiet (Ecx X) (ev (ε i)) (val i) (η m) := by
            cases hd : (l[i]).1 with
            | eff => rw [hd] at he; cases he
            | fl => exact hfl hd m A.mle
            | pl =>
              have hl2 : lookOp Y (l[i]).2.op = false := by simpa [looks, hd] using hl'
              exact wp_heap hl2 hk (fun v hv => ⟨hv.1, rfl⟩)
          refine op_sound hY c1 hoper A.inv hk2 fun v h' x g' w' ⟨q1, q2⟩ I' r S => ?_
          subst q1; subst q2
          exact after m g' w' x (.inl ⟨rfl, he⟩) I' S r
      · rw [if_neg (by simp [hw])]
        have hr0 : Rel X g w (η m) (val i) undef := by rw [hv]; exact .tup [] #[] rfl (by simp)
        cases he : isEff (l[i]).1 with
        | false => exact after m g w undef (.inl ⟨rfl, he⟩) A.inv (Stp.refl _ _ _) hr0
        | true =>
          have hmi := (hheap (eff_looks (Pr.kind i hil) he)).1
          have : η (i + 1) = η m := by rw [hh, hmi]
          exact after (i + 1) g w undef (.inr ⟨rfl, he⟩) (by rw [this]; exact A.inv) (by rw [this]; exact Stp.refl _ _ _) (by rw [this]; exact hr0)
end
end Go.Proofs.Ytpnbdnmmfaomlaa.Al
