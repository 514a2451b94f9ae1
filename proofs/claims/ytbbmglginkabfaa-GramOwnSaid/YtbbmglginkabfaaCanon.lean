/-
  Reading step by step: what is written is read, what is read was written, and a reader that keeps its bytes reads the same; in plain lists. Conditions: each theorem's own.
-/
import Derived.Test.YtbbmglginkabfaaWireLaw4
namespace Go.Proofs.Ytbbmglginkabfaa.Al
open Go Go.RowKit
set_option linter.unusedSimpArgs false
set_option linter.unusedVariables false

abbrev Step (α : Type) := List Nat → Int → α × List Nat × Int
/-- A step that reads things as they are written, and only such. -/
structure Canon {α : Type} (step : Step α) (bytes : α → List Nat) (ok : α → Prop) : Prop where
  back : ∀ l a l', (∀ x ∈ l, x < 256) → step l 0 = (a, l', 0) → l = bytes a ++ l' ∧ ok a
  read : ∀ a r, ok a → step (bytes a ++ r) 0 = (a, r, 0)
  err : ∀ l e, e ≠ 0 → (step l e).2 = (l, e)
theorem rnum_back {l : List Nat} {most n : Nat} {l' : List Nat} (hb : ∀ x ∈ l, x < 256) (h : rnum l 0 most = (n, l', 0)) : l = vput n ++ l' ∧ n ≤ most := by
  unfold rnum at h
  rw [if_neg (by simp)] at h
  split at h
  · rename_i h1
    simp at h; exact absurd h.2.2 (by simpa using h1)
  · rename_i h1
    split at h
    · simp at h
    · simp at h
      obtain ⟨e1, e2⟩ := h
      rcases vtake_one l hb with ⟨a, b, c, d, e⟩ | ⟨a, _⟩
      · exact ⟨by rw [← e1, ← e2, d, List.take_append_drop], by omega⟩
      · exact absurd (by simpa using h1) (by simpa using a)
theorem canon_num (most : Nat) (hm : most < 2 ^ 63) : Canon (fun l e => rnum l e most) vput (fun n => n ≤ most) where
  back l n l' hb h := rnum_back hb h
  read n r hn := by
    have h3 := rnum_cut (n := n) (most := most) (c := (vput n ++ r).length) (by omega) hn r
    rw [List.take_length, if_neg (by simp), List.take_of_length_le (by simp)] at h3
    exact h3
  err l e he := by simp [rnum, he]
/-- One step, then another one. -/
def seq2 {α β : Type} (f : Step α) (g : Step β) : Step (α × β) := fun l e => (((f l e).1, (g (f l e).2.1 (f l e).2.2).1), (g (f l e).2.1 (f l e).2.2).2)
theorem Canon.seq {α β : Type} {f : Step α} {g : Step β} {bf : α → List Nat} {bg : β → List Nat} {pf : α → Prop} {pg : β → Prop} (F : Canon f bf pf) (G : Canon g bg pg) : Canon (seq2 f g) (fun p => bf p.1 ++ bg p.2) (fun p => pf p.1 ∧ pg p.2) where
  back l p l' hb h := by
    have h1 := congrArg Prod.fst h
    have h2 := congrArg Prod.snd h
    simp only [seq2] at h1 h2
    have he : (f l 0).2.2 = 0 := by
      by_cases he : (f l 0).2.2 = 0
      · exact he
      · rw [G.err _ _ he] at h2; exact absurd (congrArg Prod.snd h2) he
    obtain ⟨a1, a2⟩ := F.back l (f l 0).1 (f l 0).2.1 hb (Prod.ext rfl (Prod.ext rfl he))
    rw [he] at h1 h2
    have hb' : ∀ x ∈ (f l 0).2.1, x < 256 := fun x hx => hb x (by rw [a1]; exact List.mem_append_right _ hx)
    obtain ⟨b1, b2⟩ := G.back _ (g (f l 0).2.1 0).1 l' hb' (Prod.ext rfl h2)
    rw [← h1]
    exact ⟨by simp only [List.append_assoc, ← b1]; exact a1, a2, b2⟩
  read p r hp := by
    simp only [seq2, List.append_assoc, F.read p.1 _ hp.1, G.read p.2 r hp.2]
  err l e he := by simp only [seq2, F.err l e he, G.err l e he]
/-- The same, told in other words. -/
def stepMap {α β : Type} (φ : α → β) (f : Step α) : Step β := fun l e => (φ (f l e).1, (f l e).2)
theorem Canon.map {α β : Type} {f : Step α} {bf : α → List Nat} {pf : α → Prop} (F : Canon f bf pf) (φ : α → β) (ψ : β → α) (q : β → Prop) (h1 : ∀ a, pf a → q (φ a) ∧ ψ (φ a) = a) (h2 : ∀ b, q b → pf (ψ b) ∧ φ (ψ b) = b) : Canon (stepMap φ f) (fun b => bf (ψ b)) q where
  back l b l' hb h := by
    have e1 := congrArg Prod.fst h
    have e2 := congrArg Prod.snd h
    simp only [stepMap] at e1 e2
    obtain ⟨a1, a2⟩ := F.back l (f l 0).1 l' hb (Prod.ext rfl e2)
    rw [← e1, (h1 _ a2).2]
    exact ⟨a1, (h1 _ a2).1⟩
  read b r hb := by
    simp only [stepMap, F.read (ψ b) r (h2 b hb).1, (h2 b hb).2]
  err l e he := F.err l e he
theorem Canon.list {α : Type} {f : Step α} {bf : α → List Nat} {pf : α → Prop} (F : Canon f bf pf) : ∀ (n : Nat),
    (∀ l u l', (∀ x ∈ l, x < 256) → rlist f n l 0 = (u, l', 0) → l = u.flatMap bf ++ l' ∧ u.length = n ∧ ∀ a ∈ u, pf a) ∧
    (∀ u r, u.length = n → (∀ a ∈ u, pf a) → rlist f n (u.flatMap bf ++ r) 0 = (u, r, 0))
  | 0 => by
    refine ⟨fun l u l' hb h => ?_, fun u r hu hp => ?_⟩
    · simp [rlist] at h; obtain ⟨rfl, rfl⟩ := h; simp
    · have : u = [] := List.eq_nil_of_length_eq_zero hu
      subst this; simp [rlist]
  | n + 1 => by
    obtain ⟨i1, i2⟩ := F.list n
    refine ⟨fun l u l' hb h => ?_, fun u r hu hp => ?_⟩
    · rw [rlist_succ0] at h
      have h1 := congrArg Prod.fst h
      have h2 := congrArg Prod.snd h
      simp only at h1 h2
      have he : (f l 0).2.2 = 0 := by
        by_cases he : (f l 0).2.2 = 0
        · exact he
        · have : (rlist f n (f l 0).2.1 (f l 0).2.2).2 = ((f l 0).2.1, (f l 0).2.2) := by
            cases n with
            | zero => rfl
            | succ n => simp [rlist, he]
          rw [this] at h2
          exact absurd (congrArg Prod.snd h2) he
      obtain ⟨a1, a2⟩ := F.back l (f l 0).1 (f l 0).2.1 hb (Prod.ext rfl (Prod.ext rfl he))
      rw [he] at h1 h2
      have hb' : ∀ x ∈ (f l 0).2.1, x < 256 := fun x hx => hb x (by rw [a1]; exact List.mem_append_right _ hx)
      obtain ⟨b1, b2, b3⟩ := i1 _ (rlist f n (f l 0).2.1 0).1 l' hb' (Prod.ext rfl h2)
      subst h1
      refine ⟨by simp only [List.flatMap_cons, List.append_assoc, ← b1]; exact a1, by simp [b2], fun a ha => ?_⟩
      rcases List.mem_cons.1 ha with rfl | ha
      · exact a2
      · exact b3 a ha
    · cases u with
      | nil => simp at hu
      | cons a u =>
        simp only [List.flatMap_cons, List.append_assoc]
        rw [rlist_succ0, F.read a _ (hp a (by simp))]
        simp only
        rw [i2 u r (by simpa using hu) fun b hb => hp b (by simp [hb])]
/-- A list: how many, and then each. -/
theorem Canon.rread {α : Type} {f : Step α} {bf : α → List Nat} {pf : α → Prop} (F : Canon f bf pf) (many : Nat) (hm : many < 2 ^ 63) : Canon (rread f many) (fun u => vput u.length ++ u.flatMap bf) (fun u => u.length ≤ many ∧ ∀ a ∈ u, pf a) where
  back l u l' hb h := by
    unfold Al.rread at h
    simp only at h
    have h3 : (rlist f (rnum l 0 many).1 (rnum l 0 many).2.1 (rnum l 0 many).2.2).2.2 = 0 := by
      have := congrArg (fun p => p.2.2) h; simpa using this
    rw [if_neg (by simp [h3])] at h
    have he : (rnum l 0 many).2.2 = 0 := by
      by_cases he : (rnum l 0 many).2.2 = 0
      · exact he
      · have : (rlist f (rnum l 0 many).1 (rnum l 0 many).2.1 (rnum l 0 many).2.2).2 = ((rnum l 0 many).2.1, (rnum l 0 many).2.2) := by
          cases (rnum l 0 many).1 with
          | zero => rfl
          | succ n => simp [rlist, he]
        rw [this] at h3
        exact absurd h3 he
    obtain ⟨a1, a2⟩ := rnum_back (l := l) (most := many) (l' := (rnum l 0 many).2.1) (n := (rnum l 0 many).1) hb (Prod.ext rfl (Prod.ext rfl he))
    rw [he] at h
    have hb' : ∀ x ∈ (rnum l 0 many).2.1, x < 256 := fun x hx => hb x (by rw [a1]; exact List.mem_append_right _ hx)
    obtain ⟨b1, b2, b3⟩ := (F.list _).1 _ u l' hb' h
    exact ⟨by rw [b2, List.append_assoc, ← b1]; exact a1, by omega, b3⟩
  read u r hu := by
    unfold Al.rread
    simp only [List.append_assoc, (canon_num many hm).read u.length _ hu.1]
    rw [(F.list u.length).2 u r rfl hu.2]
    simp
  err l e he := by
    unfold Al.rread
    have : rnum l e many = (0, l, e) := by simp [rnum, he]
    simp [this, rlist, he]
theorem Canon.inj {α : Type} {f : Step α} {bf : α → List Nat} {pf : α → Prop} (F : Canon f bf pf) {a b : α} (ha : pf a) (hb : pf b) (h : bf a = bf b) : a = b := by
  have h1 := F.read a [] ha
  have h2 := F.read b [] hb
  rw [h, h2] at h1
  exact (congrArg Prod.fst h1).symm
/-- Nothing is left, nothing went wrong: just the bytes of what was read. -/
theorem rend_zero {l : List Nat} {e : Int} (h : rend l e = 0) : l = [] ∧ e = 0 := by
  unfold rend at h
  split at h
  · simp at h
  · rename_i hh
    subst h
    refine ⟨?_, rfl⟩
    cases l with
    | nil => rfl
    | cons a l => exfalso; apply hh; simp

/-! ### Read on, whatever is wrong -/
def wlst {α : Type} (step : Step α) : Nat → Step (List α)
  | 0, l, e => ([], l, e)
  | n + 1, l, e => ((step l e).1 :: (wlst step n (step l e).2.1 (step l e).2.2).1, (wlst step n (step l e).2.1 (step l e).2.2).2)
theorem wlst_state {α : Type} {step : Step α} (hs : ∀ l e, e ≠ 0 → (step l e).2 = (l, e)) : ∀ (n : Nat) (l : List Nat) (e : Int), (wlst step n l e).2 = (rlist step n l e).2
  | 0, l, e => rfl
  | n + 1, l, e => by
    unfold wlst rlist
    by_cases he : e = 0
    · rw [if_neg (by simp [he])]
      exact wlst_state hs n _ _
    · rw [if_pos he]
      simp only
      rw [wlst_state hs n, show (step l e).2.1 = l by rw [hs l e he], show (step l e).2.2 = e by rw [hs l e he]]
      cases n with
      | zero => rfl
      | succ n => simp [rlist, he]
theorem rlist_e {α : Type} {step : Step α} {n : Nat} {l : List Nat} {e : Int} (he : e ≠ 0) : rlist step n l e = ([], l, e) := by
  cases n with
  | zero => rfl
  | succ n => simp [rlist, he]
theorem rlist_ok {α : Type} {step : Step α} : ∀ (n : Nat) (l : List Nat) (e : Int), (rlist step n l e).2.2 = 0 → (rlist step n l e).1 = (wlst step n l e).1 ∧ (rlist step n l e).1.length = n
  | 0, l, e, _ => ⟨rfl, rfl⟩
  | n + 1, l, e, h => by
    by_cases he : e = 0
    · unfold rlist at h ⊢
      unfold wlst
      rw [if_neg (by simp [he])] at h ⊢
      simp only at h ⊢
      obtain ⟨i1, i2⟩ := rlist_ok n _ _ h
      exact ⟨by rw [i1], by simp [i2]⟩
    · rw [rlist_e he] at h; exact absurd h he
/-- Two steps that agree in what is left, and in what is read where nothing is wrong behind it. -/
structure Alike {α : Type} (f g : Step α) : Prop where
  state : ∀ l e, (f l e).2 = (g l e).2
  val : ∀ l e, (f l e).2.2 = 0 → (f l e).1 = (g l e).1
theorem Alike.rlist {α : Type} {f g : Step α} (A : Alike f g) (hs : ∀ l e, e ≠ 0 → (f l e).2 = (l, e)) : ∀ (n : Nat), Alike (rlist f n) (rlist g n)
  | 0 => ⟨fun l e => rfl, fun l e _ => rfl⟩
  | n + 1 => by
    have ih := A.rlist hs n
    refine ⟨fun l e => ?_, fun l e h => ?_⟩
    · by_cases he : e = 0
      · subst he
        rw [rlist_succ0, rlist_succ0]
        simp only
        rw [ih.state, A.state]
      · rw [rlist_e he, rlist_e he]
    · by_cases he : e = 0
      · subst he
        rw [rlist_succ0] at h ⊢
        rw [rlist_succ0]
        simp only at h ⊢
        have h0 : (f l 0).2.2 = 0 := by
          by_cases h0 : (f l 0).2.2 = 0
          · exact h0
          · rw [rlist_e h0] at h; exact absurd h h0
        rw [ih.val _ _ h, A.val l 0 h0, A.state]
      · rw [rlist_e he, rlist_e he]
theorem rlist_length {α : Type} {step : Step α} : ∀ (n : Nat) (l : List Nat) (e : Int), (rlist step n l e).1.length ≤ n
  | 0, l, e => by simp [rlist]
  | n + 1, l, e => by
    unfold rlist
    split
    · simp
    · simp; exact rlist_length n _ _
theorem rlist_all {α : Type} {step : Step α} {p : α → Prop} (hp : ∀ l e, p (step l e).1) : ∀ (n : Nat) (l : List Nat) (e : Int), ∀ a ∈ (rlist step n l e).1, p a
  | 0, l, e => by simp [rlist]
  | n + 1, l, e => by
    unfold rlist
    split
    · simp
    · intro a ha
      rcases List.mem_cons.1 ha with rfl | ha
      · exact hp _ _
      · exact rlist_all hp n _ _ a ha
theorem rread_length {α : Type} {step : Step α} (many : Nat) (l : List Nat) (e : Int) : (rread step many l e).1.length ≤ many := by
  unfold rread
  simp only
  split
  · simp
  · have h1 := rnum_le (l := l) (e := e) many
    have h2 := rlist_length (step := step) (rnum l e many).1 (rnum l e many).2.1 (rnum l e many).2.2
    omega
theorem rread_all {α : Type} {step : Step α} {p : α → Prop} (hp : ∀ l e, p (step l e).1) (many : Nat) (l : List Nat) (e : Int) : ∀ a ∈ (rread step many l e).1, p a := by
  unfold rread
  simp only
  split
  · simp
  · exact rlist_all hp _ _ _
end Go.Proofs.Ytbbmglginkabfaa.Al
