/-
  Layer 4: the laws WordBack and WordTurns, by the abstract layer. Conditions: each theorem's own.
-/
import Derived.Test.YtpnbdnmmfaomlaaWordLaw
namespace Go.Proofs.Ytpnbdnmmfaomlaa.Al
open Go Go.RowKit
set_option linter.unusedSimpArgs false
set_option linter.unusedVariables false
attribute [-simp] List.getD_eq_getElem?_getD Int.not_lt Int.not_le List.map_take

/-! ### All is dropped, another word is put in -/
def dropsF : Nat → Nat → List Ed
  | _, 0 => []
  | i, k + 1 => ⟨i, true, 0⟩ :: dropsF (i + 1) k
def putsL (n : Nat) (v : List Int) : List Ed := v.map fun t => ⟨n, false, t⟩
theorem dropsF_snoc : ∀ (k i : Nat), dropsF i (k + 1) = dropsF i k ++ [⟨((i + k : Nat) : Int), true, 0⟩]
  | 0, i => rfl
  | k + 1, i => by
    show ⟨i, true, 0⟩ :: dropsF (i + 1) (k + 1) = _
    rw [dropsF_snoc k (i + 1), show i + 1 + k = i + (k + 1) by omega]; rfl
theorem dropsF_len : ∀ (k i : Nat), (dropsF i k).length = k
  | 0, i => rfl
  | k + 1, i => by simp [dropsF, dropsF_len k]
theorem mayF_puts {n : Nat} : ∀ {v : List Int} {a : Int} {d : Bool}, (∀ t ∈ v, 0 ≤ t ∧ t < 16) → a + (if d = true then 1 else 0) ≤ n → mayF (putsL n v) a d n = true
  | [], _, _, _, _ => rfl
  | t :: v, a, d, hv, ha => by
    have h1 := hv t (by simp)
    show (fineB ⟨n, false, t⟩ a d n && mayF (putsL n v) n false n) = true
    rw [mayF_puts (fun u hu => hv u (by simp [hu])) (by simp), Bool.and_true]
    refine fineB_iff.2 ⟨by simp, by simp, ?_, fun e => ?_, by simp, h1.1, h1.2⟩
    · simp; split at ha <;> omega
    · rw [e] at ha; simp at ha ⊢; omega
theorem mayF_drops {n : Nat} {v : List Int} (hv : ∀ t ∈ v, 0 ≤ t ∧ t < 16) : ∀ (k i : Nat) {a : Int} {d : Bool}, i + k = n → a + (if d = true then 1 else 0) ≤ i → mayF (dropsF i k ++ putsL n v) a d n = true
  | 0, i, a, d, hi, ha => by
    show mayF (putsL n v) a d n = true
    exact mayF_puts hv (by omega)
  | k + 1, i, a, d, hi, ha => by
    show (fineB ⟨i, true, 0⟩ a d n && mayF (dropsF (i + 1) k ++ putsL n v) i true n) = true
    rw [mayF_drops hv k (i + 1) (by omega) (by simp), Bool.and_true]
    refine fineB_iff.2 ⟨by simp, by simp; omega, ?_, fun e => ?_, by simp; omega, by simp, by simp⟩
    · simp; split at ha <;> omega
    · rw [e] at ha; simp at ha ⊢; omega
theorem appF_puts (w : List Int) : ∀ v : List Int, appF w (putsL w.length v) w.length = v
  | [] => by simp [putsL, appF]
  | t :: v => by
    show (w.take ((w.length : Nat) : Int).toNat).drop w.length ++ (t :: appF w (putsL w.length v) ((w.length : Nat) : Int).toNat) = t :: v
    rw [Int.toNat_natCast, appF_puts w v]; simp
theorem appF_drops (w v : List Int) : ∀ (k i : Nat), i + k = w.length → appF w (dropsF i k ++ putsL w.length v) i = v
  | 0, i, hi => by
    have : i = w.length := by omega
    subst this
    exact appF_puts w v
  | k + 1, i, hi => by
    show (w.take ((i : Nat) : Int).toNat).drop i ++ appF w (dropsF (i + 1) k ++ putsL w.length v) (((i : Nat) : Int).toNat + 1) = v
    rw [Int.toNat_natCast, appF_drops w v k (i + 1) (by omega), List.drop_eq_nil_of_le (by simp; omega)]; rfl
/-- How many tokens come. -/
def sizeF (l : List Ed) (s : Int) : Int := l.foldl (fun s x => if x.drop = true then s - 1 else s + 1) s
theorem sizeF_add : ∀ (l : List Ed) (s c : Int), sizeF l (s + c) = sizeF l s + c
  | [], s, c => rfl
  | x :: l, s, c => by
    show sizeF l (if x.drop = true then s + c - 1 else s + c + 1) = sizeF l (if x.drop = true then s - 1 else s + 1) + c
    split
    · rw [show s + c - 1 = (s - 1) + c by omega, sizeF_add l (s - 1) c]
    · rw [show s + c + 1 = (s + 1) + c by omega, sizeF_add l (s + 1) c]
theorem sizeF_bd : ∀ (l : List Ed) (s : Int), s - l.length ≤ sizeF l s ∧ sizeF l s ≤ s + l.length
  | [], s => by simp [sizeF]
  | x :: l, s => by
    have h1 := sizeF_bd l (s - 1)
    have h2 := sizeF_bd l (s + 1)
    show s - (l.length + 1 : Nat) ≤ sizeF l (if x.drop = true then s - 1 else s + 1) ∧ sizeF l (if x.drop = true then s - 1 else s + 1) ≤ s + (l.length + 1 : Nat)
    split <;> omega
theorem appF_size (w : List Int) : ∀ (l : List Ed) (i : Nat) (a : Int) (d : Bool), mayF l a d w.length = true → (i : Int) = a + (if d = true then 1 else 0) → i ≤ w.length → ((appF w l i).length : Int) + i = sizeF l w.length
  | [], i, a, d, _, _, hi => by simp [appF, sizeF]; omega
  | x :: l, i, a, d, hm, hia, hi => by
    rw [show mayF (x :: l) a d w.length = (fineB x a d w.length && mayF l x.at' x.drop w.length) from rfl, Bool.and_eq_true] at hm
    obtain ⟨hf, hm⟩ := hm
    obtain ⟨f1, f2, f3, f4, f5, f6, f7⟩ := fineB_at hf
    have hix : (i : Int) ≤ x.at' := by
      cases d
      · simp at hia; omega
      · have := f4 rfl; simp at hia; omega
    have hs : sizeF (x :: l) w.length = sizeF l w.length + (if x.drop = true then -1 else 1) := by
      show sizeF l (if x.drop = true then (w.length : Int) - 1 else w.length + 1) = _
      split
      · rw [show (w.length : Int) - 1 = w.length + (-1) by omega, sizeF_add]
      · rw [sizeF_add]
    rw [hs]
    show (((w.take x.at'.toNat).drop i ++ (if x.drop = true then appF w l (x.at'.toNat + 1) else x.tok :: appF w l x.at'.toNat)).length : Int) + i = _
    cases hd : x.drop
    · have ih := appF_size w l x.at'.toNat x.at' x.drop hm (by rw [hd]; simp; omega) (by omega)
      simp
      omega
    · have := (f5 hd).1
      have ih := appF_size w l (x.at'.toNat + 1) x.at' x.drop hm (by rw [hd]; simp; omega) (by omega)
      simp
      omega
theorem appF_mem {w : List Int} {p : Int → Prop} (hw : ∀ t ∈ w, p t) : ∀ {l : List Ed} {i : Nat}, (∀ x ∈ l, p x.tok) → ∀ t ∈ appF w l i, p t
  | [], i, _, t, ht => hw t (List.mem_of_mem_drop ht)
  | x :: l, i, hl, t, ht => by
    have ht : t ∈ (w.take x.at'.toNat).drop i ++ (if x.drop = true then appF w l (x.at'.toNat + 1) else x.tok :: appF w l x.at'.toNat) := ht
    rcases List.mem_append.1 ht with ht | ht
    · exact hw t (List.mem_of_mem_take (List.mem_of_mem_drop ht))
    · have hl2 := fun y hy => hl y (List.mem_cons_of_mem _ hy)
      split at ht
      · exact appF_mem hw hl2 t ht
      · rcases List.mem_cons.1 ht with rfl | ht
        · exact hl x (by simp)
        · exact appF_mem hw hl2 t ht
theorem mayF_tok : ∀ {l : List Ed} {a : Int} {d : Bool} {size : Int}, mayF l a d size = true → ∀ x ∈ l, 0 ≤ x.tok ∧ x.tok < 16
  | [], _, _, _, _, x, hx => by simp at hx
  | y :: l, a, d, size, h, x, hx => by
    rw [show mayF (y :: l) a d size = (fineB y a d size && mayF l y.at' y.drop size) from rfl, Bool.and_eq_true] at h
    rcases List.mem_cons.1 hx with rfl | hx
    · obtain ⟨f1, f2, f3, f4, f5, f6, f7⟩ := fineB_at h.1; exact ⟨f6, f7⟩
    · exact mayF_tok h.2 x hx

theorem wbyt_byte (w : List Int) : ∀ b ∈ wbyt w, b < 256 := by
  have hv : ∀ (n : Nat), ∀ x ∈ vput n, x < 256 := by
    intro n
    induction n using Nat.strongRecOn with
    | _ n ih =>
      rw [vput_eq]
      split
      · intro x hx; simp at hx; omega
      · intro x hx
        rcases List.mem_cons.1 hx with rfl | hx
        · omega
        · exact ih (n / 128) (by omega) x hx
  intro b hb
  simp only [wbyt, vputs] at hb
  rcases List.mem_append.1 hb with hb | hb
  · exact hv _ b hb
  · simp only [List.mem_flatten, List.mem_map] at hb
    obtain ⟨_, ⟨n, _, rfl⟩, hb⟩ := hb
    exact hv n b hb

section
variable {X : Cx} {h : AH} {Q : V → AH → Prop}
theorem back4_spec (L : L04 X) (w v : List Int) (b : List Nat) (hw : w.length ≤ maxLen) (hv : v.length ≤ maxLen) (hb : b.length ≤ maxLen) (hbb : ∀ x ∈ b, x < 256) (hQ : Q (.bool true) h) :
    Ecx X K.probatelaw04_WordBack [.sl 1 0 (ints w), .sl 1 0 (ints v), .sl 1 0 (u8s b)] h Q := by
  refine fn_walk L.back (by simp [A.probatelaw04_WordBack]) fun wf => ?_
  simp [A.probatelaw04_WordBack]
  refine ecall (awake4_spec L ?_)
  simp
  by_cases d1 : (60 : Int) < w.length
  · simp [d1]; exact fin (by simp) hQ
  by_cases d2 : (60 : Int) < v.length
  · simp [d1, d2]; exact fin (by simp) hQ
  by_cases d3 : (300 : Int) < b.length
  · simp [d1, d2, d3]; exact fin (by simp) hQ
  simp [d1, d2, d3]
  refine ecall (read4_spec L.p b _ _ (fun _ => rfl) (by simp) (by omega) hbb ?_)
  have hrc := readR_canon hbb
  simp [readV]
  by_cases hr : (readR b).2 = 0
  · obtain ⟨r1, r2⟩ := hrc hr
    generalize readR b = R at *
    have h24 := rightW_len r1
    simp [hr]
    refine ecall (bytes4_spec L.p R.1 _ (by omega) ?_)
    simp [wbytV, bytesR, r1, r2]
    refine ecall (same1_spec L.same1 _ _ _ _ (by unfold maxLen; omega) ?_)
    simp
    refine ecall (right_spec L.p R.1 _ (by omega) ?_)
    simp [r1]
    refine ecall (bytes4_spec L.p w _ (by omega) ?_)
    simp [wbytV]
    refine ecall (bytes4_spec L.p v _ (by omega) ?_)
    simp [wbytV]
    cases hrw : rightW w with
    | false =>
      simp [bytesR, hrw]
      refine ecall (right_spec L.p w _ (by omega) ?_)
      simp [hrw]
      exact fin (by simp) hQ
    | true =>
      have h24 := rightW_len hrw
      have hwl := wbyt_len hrw
      simp [bytesR, hrw]
      refine ecall (read4_spec L.p (wbyt w) _ _ (fun _ => rfl) (by simp) (by omega) (wbyt_byte w) ?_)
      simp [readV, readR_wbyt hrw]
      refine ecall (sameI_spec L.r.q.same _ _ _ _ (by omega) ?_)
      cases hrv : rightW v with
      | false =>
        simp [bytesR, hrv]
        exact fin (by simp) hQ
      | true =>
        simp [bytesR, hrv]
        refine ecall (same1_spec L.same1 _ _ _ _ (by unfold maxLen; omega) ?_)
        simp
        refine ecall (sameI_spec L.r.q.same _ _ _ _ (by omega) ?_)
        have : (wbyt w = wbyt v) = (w = v) := propext ⟨fun e => wbyt_inj hrw hrv e, fun e => by rw [e]⟩
        simp [this]
        exact fin (by simp) hQ
  · simp [hr]
    refine ecall (bytes4_spec L.p w _ (by omega) ?_)
    simp [wbytV]
    refine ecall (bytes4_spec L.p v _ (by omega) ?_)
    simp [wbytV]
    cases hrw : rightW w with
    | false =>
      simp [bytesR, hrw]
      refine ecall (right_spec L.p w _ (by omega) ?_)
      simp [hrw]
      exact fin (by simp) hQ
    | true =>
      have h24 := rightW_len hrw
      have hwl := wbyt_len hrw
      simp [bytesR, hrw]
      refine ecall (read4_spec L.p (wbyt w) _ _ (fun _ => rfl) (by simp) (by omega) (wbyt_byte w) ?_)
      simp [readV, readR_wbyt hrw]
      refine ecall (sameI_spec L.r.q.same _ _ _ _ (by omega) ?_)
      cases hrv : rightW v with
      | false =>
        simp [bytesR, hrv]
        exact fin (by simp) hQ
      | true =>
        simp [bytesR, hrv]
        refine ecall (same1_spec L.same1 _ _ _ _ (by unfold maxLen; omega) ?_)
        simp
        refine ecall (sameI_spec L.r.q.same _ _ _ _ (by omega) ?_)
        have : (wbyt w = wbyt v) = (w = v) := propext ⟨fun e => wbyt_inj hrw hrv e, fun e => by rw [e]⟩
        simp [this]
        exact fin (by simp) hQ
theorem Bdd_eds (l : List Ed) (n m : Nat) : ∀ v ∈ cellsOf (l.map edV), Bdd n m v := by
  induction l with
  | nil => simp [cellsOf]
  | cons a as ih =>
    intro v hv
    have hv : v ∈ edC a ++ cellsOf (as.map edV) := hv
    rcases List.mem_append.1 hv with hv | hv
    · simp [edC] at hv; rcases hv with rfl | rfl | rfl <;> simp
    · exact ih v hv
theorem turns4_spec (L : L04 X) (w v : List Int) (l : List Ed) (hw : w.length ≤ maxLen) (hv : v.length ≤ maxLen) (hl : l.length ≤ maxLen) (hQ : Q (.bool true) h) :
    Ecx X K.probatelaw04_WordTurns [.sl 1 0 (ints w), .sl 1 0 (ints v), .sl 3 0 (l.map edV)] h Q := by
  refine fn_walk L.turns (by simp [A.probatelaw04_WordTurns]) fun wf => ?_
  simp [A.probatelaw04_WordTurns]
  unfold maxLen at hw hv hl
  refine ecall (awake4_spec L ?_)
  simp
  refine ecall (right_spec L.p w _ (by omega) ?_)
  cases hrw : rightW w with
  | false => simp; exact fin (by simp) hQ
  | true =>
  simp
  refine ecall (right_spec L.p v _ (by omega) ?_)
  cases hrv : rightW v with
  | false => simp; exact fin (by simp) hQ
  | true =>
  simp
  by_cases d1 : (60 : Int) < l.length
  · simp [d1]; exact fin (by simp) hQ
  have w24 := rightW_len hrw
  have v24 := rightW_len hrv
  simp [d1]
  refine ecall (.wkL (.cons (.same _) (.cons (.nil _ 3 _) .nil)) (apply_spec L.p w [] _ _ (by omega) (by simp) ?_))
  have t1 : applyR w [] = (w, 0) := by simp [applyR, hrw, mayB, mayF, appF, Nat.not_lt.2 w24]
  simp only [applyV, t1]
  simp
  refine loopI (n := w.length) (fun m env h' => ∃ k e1 st, k ≤ w.length ∧ m = w.length - k ∧ env = [(0, .sl 1 0 (ints w)), (1, .sl 1 0 (ints v)), (2, .sl 3 0 (l.map edV)), (7, .sl 1 0 (ints w)), (8, .int .i64 0), (9, .sl e1 st ((dropsF 0 k).map edV)), (41, .int .i64 w.length), (42, .int .i64 k)] ∧ Own h h' 3 e1 st ((dropsF 0 k).map edV)) ?_
    ⟨0, 0, 1, by omega, by omega, rfl, Own.nil h 3⟩
  rintro m env h' ⟨k, e1, st, hk, rfl, rfl, ow⟩
  unfold A.probatelaw04_WordTurns.L0
  by_cases hlt : k < w.length
  · have hlt' : (k : Int) < w.length := by omega
    have hw1 : IntKind.i64.wrap ((k : Int) + 1) = ((k + 1 : Nat) : Int) := by rw [wrap_i64 (by omega) (by omega)]; rfl
    have hdl := dropsF_len k 0
    simp [hlt', fillV, fillL, V.cells, V.good, V.isAgg, setAt]
    refine ow.appZ (fun _ => rfl) (by simp; omega) fun e2 st2 h2 o2 _ _ => ?_
    have em : (dropsF 0 k).map edV ++ [V.agg [.int .i64 k, .bool true, .int .i64 0]] = (dropsF 0 (k + 1)).map edV := by
      rw [dropsF_snoc]; simp [edV, edC]
    rw [em] at o2 ⊢
    simp [hw1]
    exact ⟨w.length - (k + 1), by omega, iv ⟨k + 1, e2, st2, by omega, rfl, rfl, o2⟩⟩
  have hlt' : ¬ (k : Int) < w.length := by omega
  obtain rfl : k = w.length := by omega
  simp [hlt']
  refine loopI (n := v.length) (fun m env h' => ∃ k e1 st, k ≤ v.length ∧ m = v.length - k ∧ env = [(0, .sl 1 0 (ints w)), (1, .sl 1 0 (ints v)), (2, .sl 3 0 (l.map edV)), (7, .sl 1 0 (ints w)), (8, .int .i64 0), (9, .sl e1 st ((dropsF 0 w.length ++ putsL w.length (v.take k)).map edV)), (51, .sl 1 0 (ints v)), (52, .int .i64 v.length), (53, .int .i64 k)] ∧ Own h h' 3 e1 st ((dropsF 0 w.length ++ putsL w.length (v.take k)).map edV)) ?_
    ⟨0, e1, st, by omega, by omega, by simp [putsL], by simpa [putsL] using ow⟩
  rintro m env h2 ⟨k, e1, st, hk, rfl, rfl, ow⟩
  unfold A.probatelaw04_WordTurns.L1
  by_cases hlt : k < v.length
  · have hlt' : (k : Int) < v.length := by omega
    have hg := ints_get hlt
    have hw1 : IntKind.i64.wrap ((k : Int) + 1) = ((k + 1 : Nat) : Int) := by rw [wrap_i64 (by omega) (by omega)]; rfl
    have hdl := dropsF_len w.length 0
    simp [hlt', hg, fillV, fillL, V.cells, V.good, V.isAgg, setAt, -List.map_append]
    refine ow.appZ (fun _ => rfl) (by simp [putsL]; omega) fun e2 st2 h3 o2 _ _ => ?_
    have em : (dropsF 0 w.length ++ putsL w.length (v.take k)).map edV ++ [V.agg [.int .i64 w.length, .bool false, .int .i64 v[k]]] = (dropsF 0 w.length ++ putsL w.length (v.take (k + 1))).map edV := by
      rw [List.take_succ_eq_append_getElem hlt]; simp only [putsL, List.map_append, List.map_cons, List.map_nil, List.append_assoc]; rfl
    rw [em] at o2 ⊢
    simp [hw1, -List.map_append]
    exact ⟨v.length - (k + 1), by omega, iv ⟨k + 1, e2, st2, by omega, rfl, rfl, o2⟩⟩
  have hlt' : ¬ (k : Int) < v.length := by omega
  obtain rfl : k = v.length := by omega
  rw [List.take_length] at *
  have hvm := rightW_mem hrv
  have hmay : mayB (dropsF 0 w.length ++ putsL w.length v) w.length = true := mayF_drops hvm w.length 0 (by omega) (by simp)
  have happ := appF_drops w v w.length 0 (by omega)
  have t2 : applyR w (dropsF 0 w.length ++ putsL w.length v) = (v, 0) := by simp [applyR, hrw, hmay, happ, Nat.not_lt.2 v24]
  have hdl := dropsF_len w.length 0
  have hallen : (dropsF 0 w.length ++ putsL w.length v).length ≤ 48 := by simp [putsL]; omega
  generalize dropsF 0 w.length ++ putsL w.length v = all at *
  simp [hlt']
  have we : WkL [V.sl 1 0 (ints w), V.sl e1 st (all.map edV)] [V.sl 1 0 (ints w), V.sl 3 0 (all.map edV)] := .cons (.same _) (.cons ow.wk .nil)
  refine ecall (.wkL we (apply_spec L.p w all _ _ (by omega) (by omega) ?_))
  simp only [applyV, t2]
  simp
  refine ecall (sameI_spec L.r.q.same _ _ _ _ (by omega) ?_)
  simp
  refine ecall (sameI_spec L.r.q.same _ _ _ _ (by omega) ?_)
  simp
  refine ecall (.wkL (.cons ow.wk (.cons (.same _) .nil)) (may_spec L.p all w.length _ (by omega) ?_))
  simp [hmay]
  refine loopI (n := l.length) (fun m env h' => ∃ k, k ≤ l.length ∧ m = l.length - k ∧ Gr h h' ∧ env = [(0, .sl 1 0 (ints w)), (2, .sl 3 0 (l.map edV)), (15, .int .i64 (sizeF (l.take k) w.length)), (98, .sl 3 0 (l.map edV)), (99, .int .i64 l.length), (100, .int .i64 k)]) ?_
    ⟨0, by omega, by omega, ow.gr, by simp [sizeF]⟩
  clear we t1 t2 happ hdl hallen ow
  rintro m env h3 ⟨k, hk, rfl, g2, rfl⟩
  unfold A.probatelaw04_WordTurns.L2
  have hbd := sizeF_bd (l.take k) w.length
  have htk : (l.take k).length = k := by simp; omega
  by_cases hlt : k < l.length
  · have hlt' : (k : Int) < l.length := by omega
    have hg := eds_getD hlt
    have hw1 : IntKind.i64.wrap ((k : Int) + 1) = ((k + 1 : Nat) : Int) := by rw [wrap_i64 (by omega) (by omega)]; rfl
    have hsz : sizeF (l.take (k + 1)) w.length = if l[k].drop = true then sizeF (l.take k) w.length - 1 else sizeF (l.take k) w.length + 1 := by
      rw [List.take_succ_eq_append_getElem hlt]; simp only [sizeF, List.foldl_append, List.foldl_cons, List.foldl_nil]
    have hw2 : IntKind.i64.wrap (sizeF (l.take k) w.length - 1) = sizeF (l.take k) w.length - 1 := wrap_i64 (by omega) (by omega)
    have hw3 : IntKind.i64.wrap (sizeF (l.take k) w.length + 1) = sizeF (l.take k) w.length + 1 := wrap_i64 (by omega) (by omega)
    cases hd : l[k].drop
    · rw [hd] at hsz
      simp only [Bool.false_eq_true, if_false] at hsz
      simp [hlt', hg, V.cells, V.good, setAt, edC, hd, hw1, hw3]
      exact ⟨l.length - (k + 1), by omega, iv ⟨k + 1, by omega, rfl, by first | exact g2.new _ | exact g2, by rw [hsz]; rfl⟩⟩
    · rw [hd] at hsz
      simp only [if_true] at hsz
      simp [hlt', hg, V.cells, V.good, setAt, edC, hd, hw1, hw2]
      exact ⟨l.length - (k + 1), by omega, iv ⟨k + 1, by omega, rfl, by first | exact g2.new _ | exact g2, by rw [hsz]; rfl⟩⟩
  have hlt' : ¬ (k : Int) < l.length := by omega
  obtain rfl : k = l.length := by omega
  rw [List.take_length] at *
  simp [hlt']
  refine ecall (apply_spec L.p w l _ _ (by omega) (by omega) ?_)
  simp [applyV]
  refine ecall (may_spec L.p l w.length _ (by omega) ?_)
  cases hml : mayB l w.length with
  | false =>
    have t3 : applyR w l = ([], 2) := by simp [applyR, hrw, hml]
    rw [t3]
    simp
    exact fin_wk g2 (.same _) (by simp) hQ
  | true =>
    have hsz := appF_size w l 0 0 false hml (by simp) (by omega)
    simp at hsz
    simp
    by_cases hbig : 24 < (appF w l 0).length
    · have hbig' : (24 : Int) < sizeF l w.length := by omega
      have t3 : applyR w l = ([], 5) := by simp [applyR, hrw, hml, hbig]
      rw [t3]
      simp [hbig']
      exact fin_wk g2 (.same _) (by simp) hQ
    · have hbig' : ¬ (24 : Int) < sizeF l w.length := by omega
      have t3 : applyR w l = (appF w l 0, 0) := by simp [applyR, hrw, hml, hbig]
      rw [t3]
      simp [hbig', hsz]
      have hmm : rightW (appF w l 0) = true := rightW_mk (by omega) (appF_mem (p := fun t => 0 ≤ t ∧ t < 16) (rightW_mem hrw) (mayF_tok hml))
      refine ecall (right_spec L.p _ _ (by omega) ?_)
      simp [hmm]
      exact fin_wk g2 (.same _) (by simp) hQ
end
end Go.Proofs.Ytpnbdnmmfaomlaa.Al
