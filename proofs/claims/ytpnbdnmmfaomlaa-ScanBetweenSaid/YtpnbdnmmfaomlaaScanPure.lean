/-
  Layer 5: the laws of tokens, in plain lists. Conditions: each theorem's own.
-/
import Derived.Test.YtpnbdnmmfaomlaaScanLaw
namespace Go.Proofs.Ytpnbdnmmfaomlaa.Al
open Go Go.RowKit
set_option linter.unusedSimpArgs false
set_option linter.unusedVariables false
attribute [-simp] List.getD_eq_getElem?_getD Int.not_lt Int.not_le List.drop_one List.map_take

theorem runN_all {p : UInt8 → Bool} {t : Str} (h : ∀ c ∈ t, p c = true) (r : Str) : runN p (t ++ r) = t.length + runN p r := by
  induction t with
  | nil => simp
  | cons c t ih => rw [List.cons_append, runN_cons, if_pos (h c (by simp)), ih fun d hd => h d (by simp [hd])]; simp; omega
theorem runN_stop {p : UInt8 → Bool} {c : UInt8} (h : p c = false) (r : Str) : runN p (c :: r) = 0 := by rw [runN_cons]; simp [h]
theorem take_run (p : UInt8 → Bool) (s : Str) : ∀ c ∈ s.take (runN p s), p c = true := by
  rw [take_runN]; intro c hc; exact List.all_eq_true.1 (List.all_takeWhile (p := p)) c hc |> fun h => by simpa using h
/-- As it is written. -/
def tokText (t : Tok) : Str := if t.kind = 2 then 39 :: (t.text ++ [39]) else t.text
def goodTok (t : Tok) : Prop := (t.kind = 1 ∧ (∃ c r, t.text = c :: r ∧ letterB c = true) ∧ ∀ c ∈ t.text, partB c = true) ∨ (t.kind = 2 ∧ t.text ≠ [] ∧ ∀ c ∈ t.text, quotedB c = true) ∨ (t.kind = 3 ∧ ∃ c, t.text = [c] ∧ c ∈ marksL)
theorem tokText_pos {t : Tok} (h : goodTok t) : 1 ≤ (tokText t).length := by
  rcases h with ⟨h1, ⟨c, r, e, _⟩, _⟩ | ⟨h1, _⟩ | ⟨h1, c, e, _⟩
  · simp [tokText, h1, e]
  · simp [tokText, h1]
  · simp [tokText, h1, e]
theorem sfirst_cons (c : UInt8) (s : Str) : sfirst (c :: s) =
    if bt c = 35 then (0, [], runN notLf (c :: s))
    else if bt c = 13 ∨ bt c = 32 ∨ bt c = 9 ∨ bt c = 10 then (0, [], 1)
    else if letterB c then (1, (c :: s).take (runN partB (c :: s)), runN partB (c :: s))
    else if bt c = 39 then
      if runN quotedB s = 0 ∨ runN quotedB s = s.length ∨ bt (s.getD (runN quotedB s) 0) ≠ 39 then (0, [], 0) else (2, s.take (runN quotedB s), runN quotedB s + 2)
    else if c ∈ marksL then (3, [c], 1)
    else (0, [], 0) := by
  unfold sfirst
  simp only [List.getD_cons_zero, List.drop_succ_cons, List.drop_zero, List.length_cons, List.getD_cons_succ, List.take_succ_cons, List.take_zero, Nat.add_right_cancel_iff]
  rfl
theorem sfirst_tok {s : Str} (k : Nat) (hne : s ≠ []) (h0 : (sfirst s).2.2 ≠ 0) (h1 : (sfirst s).1 ≠ 0) :
    goodTok ⟨(sfirst s).1, (sfirst s).2.1, k⟩ ∧ tokText ⟨(sfirst s).1, (sfirst s).2.1, k⟩ = s.take (sfirst s).2.2 := by
  cases s with
  | nil => exact absurd rfl hne
  | cons c s =>
    rw [sfirst_cons] at h0 h1 ⊢
    by_cases c1 : bt c = 35
    · rw [if_pos c1] at h1; exact absurd rfl h1
    rw [if_neg c1] at h0 h1 ⊢
    by_cases c2 : bt c = 13 ∨ bt c = 32 ∨ bt c = 9 ∨ bt c = 10
    · rw [if_pos c2] at h1; exact absurd rfl h1
    rw [if_neg c2] at h0 h1 ⊢
    by_cases c3 : letterB c = true
    · rw [if_pos c3] at h0 h1 ⊢
      have hp : partB c = true := by simp only [letterB] at c3; simp [partB, partI, c3]
      refine ⟨.inl ⟨rfl, ⟨c, s.take (runN partB s), ?_, c3⟩, take_run partB (c :: s)⟩, rfl⟩
      simp [runN_cons, hp]
    rw [if_neg c3] at h0 h1 ⊢
    by_cases c4 : bt c = 39
    · rw [if_pos c4] at h0 h1 ⊢
      by_cases c5 : runN quotedB s = 0 ∨ runN quotedB s = s.length ∨ bt (s.getD (runN quotedB s) 0) ≠ 39
      · rw [if_pos c5] at h1; exact absurd rfl h1
      rw [if_neg c5] at h0 h1 ⊢
      have hle := runN_le quotedB s
      have c6 : runN quotedB s < s.length := by omega
      have c7 : s.getD (runN quotedB s) 0 = 39 := bt_inj.1 ((show bt (s.getD (runN quotedB s) 0) = 39 by omega).trans rfl)
      have c8 : c = 39 := bt_inj.1 (c4.trans rfl)
      refine ⟨.inr (.inl ⟨rfl, ?_, take_run quotedB s⟩), ?_⟩
      · intro e; have e2 := congrArg List.length e; simp only [List.length_take, List.length_nil] at e2; omega
      · simp only [tokText, if_true, List.take_succ_cons, c8]
        rw [List.take_succ_eq_append_getElem c6]
        have : s[runN quotedB s] = 39 := by rw [← c7]; simp [List.getD, List.getElem?_eq_getElem c6]
        rw [this]
    rw [if_neg c4] at h0 h1 ⊢
    by_cases c5 : c ∈ marksL
    · rw [if_pos c5]
      exact ⟨.inr (.inr ⟨rfl, c, rfl, c5⟩), rfl⟩
    · rw [if_neg c5] at h1; exact absurd rfl h1
theorem letterB_ne {c : UInt8} (h : letterB c = true) : bt c ≠ 35 ∧ ¬ (bt c = 13 ∨ bt c = 32 ∨ bt c = 9 ∨ bt c = 10) := by
  have := letterI_ne (c := bt c) h; omega
theorem sfirst_back {t : Tok} (g : goodTok t) (r : Str) : sfirst (tokText t ++ 32 :: r) = (t.kind, t.text, (tokText t).length) := by
  obtain ⟨kd, tx, p⟩ := t
  rcases g with ⟨h1, ⟨c, q, e, hc⟩, hp⟩ | ⟨h1, hne, hq⟩ | ⟨h1, c, e, hm⟩
  · simp only at h1 e hp
    subst h1; subst e
    have hl := letterB_ne hc
    have hr : runN partB (c :: (q ++ 32 :: r)) = (c :: q).length := by
      have := runN_all hp (32 :: r)
      rw [runN_stop (p := partB) (by decide)] at this
      simpa using this
    show sfirst (c :: (q ++ 32 :: r)) = _
    rw [sfirst_cons, if_neg hl.1, if_neg hl.2, if_pos hc, hr]
    simp [tokText]
  · simp only at h1 hne hq
    subst h1
    have hr : runN quotedB (tx ++ [39] ++ 32 :: r) = tx.length := by
      rw [List.append_assoc, runN_all hq]
      show _ + runN quotedB (39 :: (32 :: r)) = _
      rw [runN_stop (p := quotedB) (by decide)]; omega
    show sfirst (39 :: (tx ++ [39] ++ 32 :: r)) = _
    have hg : (tx ++ [39] ++ 32 :: r).getD tx.length 0 = 39 := by simp [List.getD]
    have hl : ¬ tx.length = 0 := by simpa using hne
    rw [sfirst_cons, if_neg (by decide), if_neg (by decide), if_neg (by decide), if_pos (by decide), hr, if_neg (by rw [hg]; simp [hne]; decide)]
    simp [tokText]
  · simp only at h1 e
    subst h1; subst e
    show sfirst (c :: 32 :: r) = _
    have hk := (marks_mem c).1 hm
    rw [sfirst_cons, if_neg (by omega), if_neg (by omega), if_neg (by simp only [letterB, letterI, Bool.or_eq_true, Bool.and_eq_true, decide_eq_true_eq]; omega), if_neg (by omega), if_pos hm]
    rfl
/-- Enough steps are enough. -/
theorem scanL_fuel : ∀ (n m : Nat) (s : Str) (k : Nat), s.length ≤ n → s.length ≤ m → scanL n s k = scanL m s k
  | 0, m, s, k, h1, h2 => by
    have : s = [] := List.eq_nil_of_length_eq_zero (by omega)
    subst this; rw [scanL_nil, scanL_nil]
  | n + 1, 0, s, k, h1, h2 => by
    have : s = [] := List.eq_nil_of_length_eq_zero (by omega)
    subst this; rw [scanL_nil, scanL_nil]
  | n + 1, m + 1, s, k, h1, h2 => by
    by_cases hne : s = []
    · subst hne; rw [scanL_nil, scanL_nil]
    rw [scanL_step k hne, scanL_step k hne]
    split
    · rfl
    · rename_i h0
      have hpos : 0 < s.length := List.length_pos_iff.2 hne
      rw [scanL_fuel n m (s.drop (sfirst s).2.2) _ (by simp; omega) (by simp; omega)]
/-- Each stands at its place. -/
def chain (s0 : Str) : Nat → List Tok → Prop
  | _, [] => True
  | k, t :: l => goodTok t ∧ k ≤ t.at' ∧ t.at' + (tokText t).length ≤ s0.length ∧ (s0.drop t.at').take (tokText t).length = tokText t ∧ chain s0 (t.at' + (tokText t).length) l
theorem chain_mono {s0 : Str} {k k' : Nat} (h : k ≤ k') : ∀ {l : List Tok}, chain s0 k' l → chain s0 k l
  | [], _ => trivial
  | t :: l, ⟨a, b, c⟩ => ⟨a, by omega, c⟩
theorem scanL_chain (s0 : Str) : ∀ (n k : Nat), k ≤ s0.length → chain s0 k (scanL n (s0.drop k) k).1
  | 0, k, h => trivial
  | n + 1, k, h => by
    by_cases hne : s0.drop k = []
    · rw [hne, scanL_nil]; trivial
    rw [scanL_step k hne]
    split
    · trivial
    · rename_i h0
      have hle := sfirst_le hne
      simp at hle
      have ih := scanL_chain s0 n (k + (sfirst (s0.drop k)).2.2) (by omega)
      rw [← List.drop_drop] at ih
      by_cases h1 : (sfirst (s0.drop k)).1 = 0
      · rw [if_pos h1]
        exact chain_mono (by omega) ih
      · rw [if_neg h1]
        obtain ⟨g, e⟩ := sfirst_tok k hne h0 h1
        have hlen : (tokText ⟨(sfirst (s0.drop k)).1, (sfirst (s0.drop k)).2.1, k⟩).length = (sfirst (s0.drop k)).2.2 := by rw [e]; simp; omega
        refine ⟨g, by simp, by rw [hlen]; simp; omega, by rw [hlen, e], ?_⟩
        rw [hlen]; exact ih
theorem scanR_chain (s : Str) : chain s 0 (scanR s).1 := by
  unfold scanR
  split
  · trivial
  · split
    · trivial
    · exact scanL_chain s s.length 0 (by omega)
/-- Parted by a space each. -/
def joined (l : List Tok) : Str := l.flatMap fun t => tokText t ++ [32]
theorem joined_len {s0 : Str} : ∀ {l : List Tok} {k : Nat}, k ≤ s0.length → chain s0 k l → (joined l).length + 2 * k ≤ 2 * s0.length
  | [], k, hk, _ => by simp [joined]; omega
  | t :: l, k, hk, ⟨g, a, b, _, c⟩ => by
    have ih := joined_len b c
    have := tokText_pos g
    simp [joined] at ih ⊢; omega
theorem chain_good {s0 : Str} : ∀ {l : List Tok} {k : Nat}, chain s0 k l → ∀ t ∈ l, goodTok t
  | [], k, _, t, ht => by simp at ht
  | u :: l, k, ⟨g, _, _, _, c⟩, t, ht => by
    rcases List.mem_cons.1 ht with rfl | ht
    · exact g
    · exact chain_good c t ht
theorem sfirst_space (r : Str) : sfirst (32 :: r) = (0, [], 1) := by rw [sfirst_cons, if_neg (by decide), if_pos (by decide)]
theorem scan_joined : ∀ (l : List Tok) (n k : Nat), (∀ t ∈ l, goodTok t) → (joined l).length ≤ n → (scanL n (joined l) k).2 = none ∧ (scanL n (joined l) k).1.map (fun t => (t.kind, t.text)) = l.map fun t => (t.kind, t.text)
  | [], n, k, _, _ => by simp [joined, scanL_nil]
  | t :: l, n, k, hg, hn => by
    have g := hg t (by simp)
    have hp := tokText_pos g
    have ej : joined (t :: l) = tokText t ++ 32 :: joined l := by simp [joined]
    rw [ej] at hn ⊢
    simp at hn
    obtain ⟨n, rfl⟩ : ∃ m, n = m + 2 := ⟨n - 2, by omega⟩
    have hk : t.kind ≠ 0 := by rcases g with ⟨h, _⟩ | ⟨h, _⟩ | ⟨h, _⟩ <;> omega
    have b := sfirst_back g (joined l)
    rw [scanL_step k (by simp), b]
    simp only [if_neg (show ¬ (tokText t).length = 0 by omega), if_neg hk, List.drop_left]
    rw [scanL_step _ (by simp), sfirst_space]
    simp only [if_neg (show ¬ 1 = 0 by omega), if_true, List.drop_succ_cons, List.drop_zero, List.nil_append]
    have ih := scan_joined l n (k + (tokText t).length + 1) (fun u hu => hg u (by simp [hu])) (by omega)
    exact ⟨ih.1, by simp [ih.2]⟩
/-! ### Between -/
theorem runN_lf {p : UInt8 → Bool} (hp : p 10 = false) (a g : Str) : runN p (a ++ 10 :: g) = runN p a := by
  induction a with
  | nil => rw [List.nil_append, runN_stop hp]; rfl
  | cons c a ih => rw [List.cons_append, runN_cons, runN_cons, ih]
theorem sfirst_lf {a : Str} (hne : a ≠ []) (g : Str) : sfirst (a ++ 10 :: g) = sfirst a := by
  cases a with
  | nil => exact absurd rfl hne
  | cons c a =>
    rw [List.cons_append, sfirst_cons, sfirst_cons]
    have h1 := runN_lf (p := notLf) (by decide) (c :: a) g
    have h2 := runN_lf (p := partB) (by decide) (c :: a) g
    have h3 := runN_lf (p := quotedB) (by decide) a g
    rw [List.cons_append] at h1 h2
    have l2 := runN_le partB (c :: a)
    have l3 := runN_le quotedB a
    rw [h1, h2, h3, ← List.cons_append, List.take_append_of_le_length l2, List.take_append_of_le_length l3]
    by_cases e : runN quotedB a = a.length
    · have eg : (a ++ 10 :: g).getD (runN quotedB a) 0 = 10 := by rw [e]; simp [List.getD]
      rw [eg]
      have p1 : (runN quotedB a = 0 ∨ runN quotedB a = (a ++ 10 :: g).length ∨ bt 10 ≠ 39) := .inr (.inr (by decide))
      have p2 : (runN quotedB a = 0 ∨ runN quotedB a = a.length ∨ bt (a.getD (runN quotedB a) 0) ≠ 39) := .inr (.inl e)
      rw [if_pos p1, if_pos p2]
    · have eg : (a ++ 10 :: g).getD (runN quotedB a) 0 = a.getD (runN quotedB a) 0 := by
        simp [List.getD, List.getElem?_append_left (show runN quotedB a < a.length by omega)]
      have en : ¬ runN quotedB a = (a ++ 10 :: g).length := by simp; omega
      rw [eg]
      simp only [e, en, false_or]
theorem scanL_lf : ∀ (n : Nat) (a g : Str) (k : Nat), a.length ≤ n →
    (∀ p, (scanL n a k).2 = some p → (scanL (n + (g.length + 1)) (a ++ 10 :: g) k).2 = some p) ∧
    ((scanL n a k).2 = none → scanL (n + (g.length + 1)) (a ++ 10 :: g) k = ((scanL n a k).1 ++ (scanL (g.length + 1) (10 :: g) (k + a.length)).1, (scanL (g.length + 1) (10 :: g) (k + a.length)).2))
  | 0, a, g, k, h => by
    have : a = [] := List.eq_nil_of_length_eq_zero (by omega)
    subst this
    exact ⟨fun p e => by simp [scanL] at e, fun _ => by simp [scanL_nil]⟩
  | n + 1, a, g, k, h => by
    by_cases hne : a = []
    · subst hne
      refine ⟨fun p e => by simp [scanL_nil] at e, fun _ => ?_⟩
      rw [scanL_nil]
      simp only [List.nil_append, List.length_nil, Nat.add_zero]
      rw [scanL_fuel (n + 1 + (g.length + 1)) (g.length + 1) _ _ (by simp) (by simp)]
    have hpos : 0 < a.length := List.length_pos_iff.2 hne
    have hle := sfirst_le hne
    rw [show n + 1 + (g.length + 1) = (n + (g.length + 1)) + 1 by omega, scanL_step k hne, scanL_step k (by simp), sfirst_lf hne]
    by_cases h0 : (sfirst a).2.2 = 0
    · rw [if_pos h0, if_pos h0]
      exact ⟨fun p e => e, fun e => by simp at e⟩
    rw [if_neg h0, if_neg h0, List.drop_append_of_le_length hle]
    obtain ⟨i1, i2⟩ := scanL_lf n (a.drop (sfirst a).2.2) g (k + (sfirst a).2.2) (by simp; omega)
    refine ⟨fun p e => i1 p e, fun e => ?_⟩
    rw [i2 e]
    have el : k + (sfirst a).2.2 + (a.drop (sfirst a).2.2).length = k + a.length := by simp; omega
    rw [el]
    simp
theorem scanL_shift (d : Nat) : ∀ (n : Nat) (s : Str) (k : Nat), scanL n s (k + d) = ((scanL n s k).1.map (fun t => ⟨t.kind, t.text, t.at' + d⟩), (scanL n s k).2.map (· + d))
  | 0, s, k => rfl
  | n + 1, s, k => by
    by_cases hne : s = []
    · subst hne; rw [scanL_nil, scanL_nil]; rfl
    rw [scanL_step _ hne, scanL_step _ hne]
    by_cases h0 : (sfirst s).2.2 = 0
    · rw [if_pos h0, if_pos h0]; rfl
    rw [if_neg h0, if_neg h0, show k + d + (sfirst s).2.2 = k + (sfirst s).2.2 + d by omega, scanL_shift d n _ (k + (sfirst s).2.2)]
    by_cases h1 : (sfirst s).1 = 0
    · rw [if_pos h1, if_pos h1]; simp
    · rw [if_neg h1, if_neg h1]; simp
/-- A remark is skipped. -/
theorem scanL_gap (r b : Str) (k : Nat) (hr : ∀ c ∈ r, notLf c = true) : scanL ((35 :: (r ++ 10 :: b)).length + 1) (10 :: 35 :: (r ++ 10 :: b)) k = scanL b.length b (k + (r.length + 3)) := by
  rw [scanL_step _ (by simp), show sfirst (10 :: 35 :: (r ++ 10 :: b)) = (0, [], 1) by rw [sfirst_cons, if_neg (by decide), if_pos (by decide)]]
  simp only [if_neg (show ¬ 1 = 0 by omega), if_true, List.drop_succ_cons, List.drop_zero, List.nil_append, List.length_cons]
  have hs : sfirst (35 :: (r ++ 10 :: b)) = (0, [], r.length + 1) := by
    rw [sfirst_cons, if_pos (by decide)]
    have := runN_all (t := 35 :: r) (p := notLf) (fun c hc => by rcases List.mem_cons.1 hc with rfl | hc; (· decide); exact hr c hc) (10 :: b)
    rw [runN_stop (p := notLf) (by decide)] at this
    simp only [List.cons_append, List.length_cons] at this
    rw [this]
  rw [scanL_step _ (by simp), hs]
  simp only [if_neg (show ¬ r.length + 1 = 0 by omega), if_true, List.drop_succ_cons, List.drop_left, List.nil_append]
  rw [show (r ++ 10 :: b).length = (r.length + b.length) + 1 by simp; omega, scanL_step _ (by simp), show sfirst (10 :: b) = (0, [], 1) by rw [sfirst_cons, if_neg (by decide), if_pos (by decide)]]
  simp only [if_neg (show ¬ 1 = 0 by omega), if_true, List.drop_succ_cons, List.drop_zero, List.nil_append]
  rw [scanL_fuel (r.length + b.length) b.length _ _ (by omega) (by omega), show k + 1 + (r.length + 1) + 1 = k + (r.length + 3) by omega]
end Go.Proofs.Ytpnbdnmmfaomlaa.Al
