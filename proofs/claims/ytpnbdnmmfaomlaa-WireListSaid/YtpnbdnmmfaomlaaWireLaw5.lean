/-
  Layer 2: the law WireBack, by the abstract layer. Conditions: each theorem's own.
-/
import Derived.Test.YtpnbdnmmfaomlaaWireLaw4
namespace Go.Proofs.Ytpnbdnmmfaomlaa.Al
open Go Go.RowKit
set_option linter.unusedSimpArgs false
set_option linter.unusedVariables false
attribute [-simp] List.getD_eq_getElem?_getD Int.not_lt Int.not_le

theorem Own.appN {h0 h : AH} {e e1 st : Nat} {l : List V} (o : Own h0 h e e1 st l) {sz e2 : Nat} {m : List V} (hm : m ≠ []) (he : e2 = e) (hb : (l.length + m.length) * sz ≤ 2 ^ 46) {K : V → AH → Prop} {zK : Lz K}
    (hk : ∀ h', Own h0 h' e e h.next (l ++ m) → h'.objs = h.objs → h'.nobj = h.nobj → K (.sl e h.next (l ++ m)) h') : App h e sz e1 st l e2 m zK := by
  refine ⟨fun h0 => absurd h0 hm, fun _ => ⟨?_, o.el, he, hb, ?_⟩⟩
  · rcases o.st with h1 | h1 | h1
    · exact .inl h1
    · exact .inr (.inl h1)
    · exact .inr (.inr h1.1)
  · refine hk _ ⟨o.gr.push ?_ e, .inr rfl, .inr (.inr ⟨push_new h st e, o.gr.next⟩)⟩ (push_objs h st e) (push_nobj h st e)
    rcases o.st with h1 | h1 | h1
    · omega
    · omega
    · exact .inr h1.2
theorem tall_drop {l : List Th} {k : Nat} (hk : k < l.length) : tall (l.drop k) = tbytes l[k] ++ tall (l.drop (k + 1)) := by
  rw [List.drop_eq_getElem_cons hk]; rfl
theorem tbytes_byte (x : Th) : ∀ b ∈ tbytes x, b < 256 := by
  have hv : ∀ (n : Nat), ∀ x ∈ vput n, x < 256 := by
    intro n
    induction n using Nat.strongRecOn with
    | _ n ih =>
      rw [vput_eq]
      split
      · intro x hx; simp at hx; omega
      · intro x hx
        rcases List.mem_cons.1 hx with rfl | hx
        · omega
        · exact ih (n / 128) (by omega) x hx
  intro b hb
  unfold tbytes at hb
  split at hb
  · exact hv _ b hb
  · split at hb
    · exact hv _ b hb
    · split at hb
      · rcases List.mem_append.1 hb with hb | hb
        · exact hv _ b hb
        · simp only [vputs, List.mem_flatten, List.mem_map] at hb
          obtain ⟨_, ⟨n, _, rfl⟩, hb⟩ := hb
          exact hv n b hb
      · simp at hb
theorem tall_byte (l : List Th) : ∀ b ∈ tall l, b < 256 := by
  intro b hb
  simp only [tall, List.mem_flatten, List.mem_map] at hb
  obtain ⟨_, ⟨x, _, rfl⟩, hb⟩ := hb
  exact tbytes_byte x b hb

section
variable {X : Cx} {h : AH} {Q : V → AH → Prop}
theorem back_spec (L : L02 X) (l : List Th) (cut : Int) (hl : l.length ≤ maxLen) (hr : ∀ x ∈ l, Ranged x) (hQ : Q (.bool true) h) : Ecx X K.probatelaw02_WireBack [.sl 4 0 (l.map thV), .int .i64 cut] h Q := by
  refine fn_walk L.back (by simp [A.probatelaw02_WireBack]) fun wf => ?_
  simp [A.probatelaw02_WireBack]
  refine ecall (awake2_spec L ?_)
  simp
  refine ecall (large_spec L.large l hl (fun x hx => (hr x hx).len) ?_)
  cases hb : largeB l
  case true => simp; exact fin (by simp) hQ
  obtain ⟨h40, hf⟩ := fines_of hr hb
  have n3 := wf.next
  simp [fillV, V.cells, V.good]
  refine loopZ (n := l.length) (fun m env h' => ∃ k sw, k ≤ l.length ∧ m = l.length - k ∧ env = [(0, .sl 4 0 (l.map thV)), (1, .int .i64 cut), (5, .ptr h.nobj 0), (22, .sl 4 0 (l.map thV)), (23, .int .i64 l.length), (24, .int .i64 k)] ∧ h.nobj < h'.nobj ∧ Gr h h' ∧ WO h' h.nobj (tall (l.take k)) sw ∧ (sw ≤ 2 ∨ h.next ≤ sw)) ?_
    ⟨0, 1, by omega, by omega, rfl, by simp, (Gr.refl h).new _, by simpa [tall] using WO.new h, .inl (by omega)⟩
  rintro m env h' ⟨k, sw, hk, rfl, rfl, ho, g, wo, hsw⟩
  have hln := tall_len (l.take k) fun x hx => hf x (List.mem_of_mem_take hx)
  have hlk : (l.take k).length = k := by simp; omega
  unfold A.probatelaw02_WireBack.L0
  by_cases hlt : k < l.length
  · have hlt' : (k : Int) < l.length := by omega
    have hg := things_getD hlt
    have hsn : tall (l.take (k + 1)) = tall (l.take k) ++ tbytes l[k] := by rw [List.take_succ_eq_append_getElem hlt, tall_snoc]
    have hxl := hf l[k] (List.getElem_mem hlt)
    generalize l[k] = x at *
    have we := WE.new h' h.nobj sw (thC x)
    have wo2 : WO (h'.new (thC x)) h.nobj (tall (l.take k)) sw := wo.keep (by simp [show ¬ h.nobj = h'.nobj by omega]) (by simp) (by simp)
    simp [hlt', hg, V.cells, V.good, setAt, show (thC x).length = 4 from rfl, show (thC x).take 4 = thC x from rfl, show setAt [V.int IntKind.i64 0, V.int IntKind.i64 0, V.sl 0 1 [], V.int IntKind.i64 0] 0 (thC x) = thC x from rfl]
    refine ecall (write_spec L.write L.w hxl wo2 (by simp; omega) (by omega) fun h2 sw2 e2 w2 => ?_)
    obtain ⟨g2, hs2⟩ := g.we (we.trans e2) (Nat.le_refl _) hsw
    have hno : h.nobj < h2.nobj := by have := e2.nobj; simp at this; omega
    simp
    exact ⟨l.length - (k + 1), by omega, k + 1, by omega, rfl, by rw [wrap_i64 (by omega) (by omega)]; rfl, hno, g2, sw2, by rw [hsn]; exact w2, hs2⟩
  have hlt' : ¬ (k : Int) < l.length := by omega
  have hkl : k = l.length := by omega
  rw [hkl, List.take_length] at wo hln
  simp [hlt']
  have hBb := tall_byte l
  refine ecall (wbytes L.w wo (by omega) ?_)
  simp
  refine ecall (wnew L.r (fun _ => rfl) (by omega) (by omega) ?_)
  simp [fillL]
  have g2 := g.new (robj (tall l) 0)
  have r2 : (h'.new (robj (tall l) 0)).objs h'.nobj = robj (tall l) 0 := new_objs_same _ _
  have nb2 : (h'.new (robj (tall l) 0)).nobj = h'.nobj + 1 := rfl
  have nx2 : 3 ≤ (h'.new (robj (tall l) 0)).next := Nat.le_trans n3 g2.next
  generalize h'.new (robj (tall l) 0) = h2 at *
  refine (Own.full g2 1 []).appZ (fun _ => rfl) (by simp; omega) fun e3 st3 h3 o3 ob3 no3 => ?_
  simp [fillL, V.cells, V.good, V.isAgg] at o3 ⊢
  have nx3 : 3 ≤ h3.next := Nat.le_trans n3 o3.gr.next
  refine o3.appN (by simp) rfl (by simp; omega) fun h4 o4 ob4 no4 => ?_
  rw [show u8s (tall l) ++ [V.int .u8 0] = u8s (tall l ++ [0]) by simp [u8s, u8]] at o4 ⊢
  simp
  refine ecall (wnew L.r (fun _ => rfl) (by omega) (by simp; omega) ?_)
  simp
  have g5 := o4.gr.new (robj (tall l ++ [0]) 0)
  have hn4 : h4.nobj = h'.nobj + 1 := by omega
  have r5 : (h4.new (robj (tall l ++ [0]) 0)).objs h'.nobj = robj (tall l) 0 := by rw [new_objs_ne _ _ (by omega), ob4, ob3]; exact r2
  have m5 : (h4.new (robj (tall l ++ [0]) 0)).objs h4.nobj = robj (tall l ++ [0]) 0 := new_objs_same _ _
  have nb5 : (h4.new (robj (tall l ++ [0]) 0)).nobj = h4.nobj + 1 := rfl
  rw [hn4] at m5 nb5 ⊢
  generalize h4.new (robj (tall l ++ [0]) 0) = h5 at *
  refine loopZ (n := l.length) (fun m env h6 => ∃ k, k ≤ l.length ∧ m = l.length - k ∧ env = [(0, .sl 4 0 (l.map thV)), (1, .int .i64 cut), (8, .sl 1 0 (u8s (tall l))), (9, .ptr h'.nobj 0), (10, .ptr (h'.nobj + 1) 0), (42, .sl 4 0 (l.map thV)), (43, .int .i64 l.length), (44, .int .i64 k)] ∧
      h'.nobj + 1 < h6.nobj ∧ Gr h h6 ∧ h6.objs h'.nobj = robj (tall (l.drop k)) 0 ∧ h6.objs (h'.nobj + 1) = robj (tall (l.drop k) ++ [0]) 0) ?_
    ⟨0, by omega, by omega, rfl, by omega, g5, r5, m5⟩
  rintro m env h6 ⟨k, hk, rfl, rfl, nb6, g6, r6, m6⟩
  have hdl : ∀ k, (tall (l.drop k)).length ≤ 410 * 40 := fun k => by
    have h1 := tall_len (l.drop k) fun x hx => hf x (List.mem_of_mem_drop hx)
    have h2 : (l.drop k).length ≤ 40 := by simp; omega
    omega
  have rdk : ∀ k, Rd (tall (l.drop k)) 0 := fun k => ⟨by have := hdl k; unfold maxLen; omega, tall_byte _, fun e => absurd rfl e⟩
  have rdk2 : ∀ k, Rd (tall (l.drop k) ++ [0]) 0 := fun k => by
    refine ⟨by have := hdl k; rw [List.length_append]; unfold maxLen; simp; omega, fun x hx => ?_, fun e => absurd rfl e⟩
    rcases List.mem_append.1 hx with hx | hx
    · exact tall_byte _ x hx
    · simp at hx; omega
  unfold A.probatelaw02_WireBack.L1
  by_cases hlt : k < l.length
  · have hlt' : (k : Int) < l.length := by omega
    have hg := things_getD hlt
    have hxl := hf l[k] (List.getElem_mem hlt)
    have htd := tall_drop hlt
    have rd0 := rdk k
    have rd1 := rdk2 k
    have q1 : ¬ h6.nobj = h'.nobj := by omega
    have q2 : ¬ h6.nobj = h'.nobj + 1 := by omega
    have q3 : ¬ h'.nobj = h6.nobj := by omega
    have q4 : ¬ h'.nobj + 1 = h6.nobj := by omega
    generalize l[k] = x at *
    have w1 := rthing_whole hxl (tall (l.drop (k + 1)))
    have w2 := rthing_whole hxl (tall (l.drop (k + 1)) ++ [0])
    rw [← List.append_assoc, ← htd] at w2
    rw [← htd] at w1
    simp [hlt', hg, V.cells, V.good, setAt, show (thC x).length = 4 from rfl, show (thC x).take 4 = thC x from rfl, show setAt [V.int IntKind.i64 0, V.int IntKind.i64 0, V.sl 0 1 [], V.int IntKind.i64 0] 0 (thC x) = thC x from rfl]
    refine ecall (read_spec L.read L.r L.q.same hxl rd0 (by simp [q3, r6]) ?_)
    rw [w1]
    simp [q1, show (thC x).length = 4 from rfl, show (thC x).take 4 = thC x from rfl]
    refine ecall (read_spec L.read L.r L.q.same hxl rd1 (by simp [q4, m6]) ?_)
    rw [w2]
    simp
    exact ⟨l.length - (k + 1), by omega, k + 1, by omega, rfl, by rw [wrap_i64 (by omega) (by omega)]; rfl, by omega, ((g6.new _).set (by have := g.nobj; omega) _).set (by have := g.nobj; omega) _, rfl, rfl⟩
  have hlt' : ¬ (k : Int) < l.length := by omega
  have hkl : k = l.length := by omega
  rw [hkl, List.drop_length] at r6 m6
  have e0 : tall [] = [] := rfl
  rw [e0] at r6 m6
  simp [hlt']
  refine ecall (wend L.r r6 ?_)
  simp [rend]
  refine ecall (wleft L.r r6 ?_)
  simp
  refine ecall (wend L.r m6 ?_)
  simp [rend]
  refine ecall (wleft L.r m6 ?_)
  simp
  by_cases hc0 : cut < 0
  · simp [hc0]
    exact fin_wk g6 (.same _) (by simp) hQ
  by_cases hc1 : ((tall l).length : Int) ≤ cut
  · simp [hc0, hc1]
    exact fin_wk g6 (.same _) (by simp) hQ
  obtain ⟨c, rfl⟩ : ∃ c : Nat, cut = c := ⟨cut.toNat, by omega⟩
  have hc2 : c < (tall l).length := by omega
  have hc3 : (c : Int) ≤ (tall l).length := by omega
  simp [hc0, hc1, hc3]
  rw [show (u8s (tall l)).take c = u8s ((tall l).take c) by simp [u8s, List.map_take]]
  refine ecall (wnew L.r (fun _ => rfl) (by omega) (by simp; omega) ?_)
  simp
  have g7 := g6.new (robj ((tall l).take c) 0)
  have r7 : (h6.new (robj ((tall l).take c) 0)).objs h6.nobj = robj ((tall l).take c) 0 := new_objs_same _ _
  have nb7 : (h6.new (robj ((tall l).take c) 0)).nobj = h6.nobj + 1 := rfl
  have hcut := rall_cut l c hf hc2
  generalize h6.new (robj ((tall l).take c) 0) = h7 at *
  refine loopZ (n := l.length) (fun m env h8 => ∃ k lw e, k ≤ l.length ∧ m = l.length - k ∧ env = [(13, .ptr h6.nobj 0), (89, .sl 4 0 (l.map thV)), (90, .int .i64 l.length), (91, .int .i64 k)] ∧
      h6.nobj < h8.nobj ∧ Gr h h8 ∧ h8.objs h6.nobj = robj lw e ∧ Rd lw e ∧ rall (l.drop k) lw e = ([], 3)) ?_
    ⟨0, (tall l).take c, 0, by omega, by omega, rfl, by omega, g7, r7, ⟨by simp; unfold maxLen; omega, fun x hx => hBb x (List.mem_of_mem_take hx), fun e => absurd rfl e⟩, hcut⟩
  rintro m env h8 ⟨k, lw, e, hk, rfl, rfl, nb8, g8, r8, rd8, hall⟩
  unfold A.probatelaw02_WireBack.L2
  by_cases hlt : k < l.length
  · have hlt' : (k : Int) < l.length := by omega
    have hg := things_getD hlt
    have hxl := hf l[k] (List.getElem_mem hlt)
    rw [List.drop_eq_getElem_cons hlt, rall] at hall
    have q3 : ¬ h6.nobj = h8.nobj := by omega
    generalize l[k] = x at *
    simp [hlt', hg, V.cells, V.good, setAt, show (thC x).length = 4 from rfl, show (thC x).take 4 = thC x from rfl, show setAt [V.int IntKind.i64 0, V.int IntKind.i64 0, V.sl 0 1 [], V.int IntKind.i64 0] 0 (thC x) = thC x from rfl]
    refine ecall (read_spec L.read L.r L.q.same hxl rd8 (by simp [q3, r8]) ?_)
    simp
    exact ⟨l.length - (k + 1), by omega, k + 1, by omega, rfl, by rw [wrap_i64 (by omega) (by omega)]; rfl, by omega, (g8.new _).set (by have := g6.nobj; omega) _, _, _, rfl, rthing_rd x rd8, hall⟩
  have hlt' : ¬ (k : Int) < l.length := by omega
  have hkl : k = l.length := by omega
  rw [hkl, List.drop_length] at hall
  simp [rall] at hall
  obtain ⟨rfl, rfl⟩ := hall
  simp [hlt']
  refine ecall (wend L.r r8 ?_)
  simp [rend]
  refine ecall (wleft L.r r8 ?_)
  simp
  exact fin_wk g8 (.same _) (by simp) hQ
end
end Go.Proofs.Ytpnbdnmmfaomlaa.Al
