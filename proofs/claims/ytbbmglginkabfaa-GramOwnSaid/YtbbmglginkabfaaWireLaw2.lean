/-
  Layer 2: awake, and the law WireWrites, by the abstract layer. Conditions: each theorem's own.
-/
import Derived.Test.YtbbmglginkabfaaWireLaw
namespace Go.Proofs.Ytbbmglginkabfaa.Al
open Go Go.RowKit
set_option linter.unusedSimpArgs false
set_option linter.unusedVariables false
attribute [-simp] List.getD_eq_getElem?_getD Int.not_lt Int.not_le

section
variable {X : Cx} {h : AH} {Q : V → AH → Prop}
theorem vput_small {n : Nat} (h : n < 128) : vput n = [n] := by rw [vput_eq, if_pos h]
/-- What the laws of layer 2 call. -/
structure L02 (X : Cx) : Prop where
  w : LW X
  r : LR X
  q : LQ X
  rput : Has (Ecx X) K.probateref01_Put A.probateref01_Put
  rnums : Has (Ecx X) K.probateref02_Nums A.probateref02_Nums
  same1 : Has (Ecx X) K.probateref01_Same A.probateref01_Same
  awake : Has (Ecx X) K.probatelaw02_awake A.probatelaw02_awake
  large : Has (Ecx X) K.probatelaw02_large A.probatelaw02_large
  write : Has (Ecx X) K.probatelaw02_write A.probatelaw02_write
  read : Has (Ecx X) K.probatelaw02_read A.probatelaw02_read
  writes : Has (Ecx X) K.probatelaw02_WireWrites A.probatelaw02_WireWrites
  reads : Has (Ecx X) K.probatelaw02_WireReads A.probatelaw02_WireReads
  back : Has (Ecx X) K.probatelaw02_WireBack A.probatelaw02_WireBack
  list : Has (Ecx X) K.probatelaw02_WireList A.probatelaw02_WireList
  list1 : Has (Ecx X) K.probatelaw02_WireList_1 A.probatelaw02_WireList_1
  listT : Has (Ecx X) K.wire_List_Thing A.wire_List_Thing
  wlf : Has (Ecx X) K.wire_Reader_Left A.wire_Reader_Left
  qlf : Has (Ecx X) K.probateref02_Reader_Left A.probateref02_Reader_Left
  qwr : Has (Ecx X) K.probateref02_Reader_Wrong A.probateref02_Reader_Wrong
theorem awake2_spec (L : L02 X) (hQ : Q (.bool true) h) : Ecx X K.probatelaw02_awake [] h Q := by
  refine fn_walk L.awake (by simp [A.probatelaw02_awake]) fun wf => ?_
  have e5 : vput 2 ++ vputs [300, 1] ++ vput 1 = [2, 172, 2, 1, 1] := by simp [vputs, vput_small, vput_300]
  have t1 : rnums [2, 172, 2, 1, 1] 0 2 300 = ([300, 1], [1], 0) := by decide +kernel
  have t2 : rnum [1] 0 1 = (1, [], 0) := by decide +kernel
  have t3 : rnum [] 0 9 = (0, [], 3) := by decide +kernel
  have g0 : Gr h (h.new [.sl 0 1 []]) := (Gr.refl h).new _
  simp [A.probatelaw02_awake, fillV, V.cells, V.good, fillL, V.isAgg]
  refine ecall (wwnums L.w [300, 1] (by simp) (WO.new h) (by simp) fun h1 st1 a1 b1 => ?_)
  simp
  refine ecall (wwbool L.w true b1 (by simp [vputs, vput_small, vput_300]) fun h2 st2 a2 b2 => ?_)
  simp
  have a3 := a1.trans a2
  have g2 := (g0.we a3 (Nat.le_refl _) (by omega)).1
  simp only [List.nil_append, List.length_cons, List.length_nil, if_true, List.append_assoc] at b2
  have b3 : WO h2 h.nobj [2, 172, 2, 1, 1] st2 := by
    rw [← e5]; simpa using b2
  have g3 := g2.new (robj [2, 172, 2, 1, 1] 0)
  have ho3 : h.nobj ≤ h2.nobj := g2.nobj
  refine ecall (wbytes L.w b3 (by simp) ?_)
  simp
  refine ecall (wnew L.r (fun _ => rfl) (by simp) (by simp) ?_)
  simp
  have rd : ∀ (l : List Nat), l.length ≤ 5 → (∀ x ∈ l, x < 256) → Rd l 0 := fun l hl hb => ⟨by unfold maxLen; omega, hb, fun e => absurd rfl e⟩
  refine ecall (wnums L.r (o := h2.nobj) (l := [2, 172, 2, 1, 1]) (e := 0) 2 300 (rd _ (by simp) (by simp)) (by omega) (by omega) (by simp) ?_)
  simp only [t1]
  simp
  refine ecall (wleft L.wlf (o := h2.nobj) (l := [1]) (e := 0) (by simp) ?_)
  simp
  refine ecall (wbool L.r (o := h2.nobj) (l := [1]) (e := 0) (rd _ (by simp) (by simp)) (by simp) ?_)
  simp only [t2]
  simp
  refine ecall (wend L.r (o := h2.nobj) (l := []) (e := 0) (by simp) ?_)
  simp [rend]
  refine ecall (wnum L.r (o := h2.nobj) (l := []) (e := 0) 9 (rd _ (by simp) (by simp)) (by omega) (by simp) ?_)
  simp only [t3]
  simp [fillL, V.cells, V.good, V.isAgg]
  refine ecall (same1_spec L.same1 [2, 172, 2, 1, 1] [2, 172, 2, 1, 1] _ _ (by simp [maxLen]) ?_)
  simp [fillL, V.cells, V.good, V.isAgg]
  refine ecall (same2_spec L.q.same [300, 1] [300, 1] _ _ (by simp [maxLen]) ?_)
  simp
  refine ecall (wend L.r (o := h2.nobj) (l := []) (e := 3) (by simp) ?_)
  simp [rend]
  have g4 := g2.new (robj [] 3)
  exact fin_wk g4 (.same _) (by simp) hQ
/-- A writer, and beside it bytes that one appends to. -/
structure WS (h h1 : AH) (o sw ce st : Nat) (W1 W2 : List Nat) : Prop where
  n3 : 3 ≤ h.next
  gr : Gr h h1
  ho : h.nobj ≤ o
  wo : WO h1 o W1 sw
  fw : sw ≤ 2 ∨ h.next ≤ sw
  el : ce = 1
  tip : st = 2 ∨ (h1.tips st = some 1 ∧ st < h1.next)
  fs : st ≤ 2 ∨ h.next ≤ st
  ne : st ≤ 2 ∨ st ≠ sw
theorem WS.write {h h1 h2 : AH} {o sw sw1 ce st : Nat} {W1 W2 W3 : List Nat} (s : WS h h1 o sw ce st W1 W2) (e : WE h1 h2 o sw sw1) (w : WO h2 o W3 sw1) : WS h h2 o sw1 ce st W3 W2 := by
  obtain ⟨g, fr⟩ := s.gr.we e s.ho s.fw
  have hn := e.next
  refine ⟨s.n3, g, s.ho, w, fr, s.el, ?_, s.fs, ?_⟩
  · rcases s.tip with a | ⟨a, b⟩
    · exact .inl a
    · refine .inr ⟨?_, by omega⟩
      rw [e.tips st b (by have := s.ne; omega)]; exact a
  · rcases s.tip with a | ⟨a, b⟩
    · exact .inl (by omega)
    · have h1 := s.ne
      rcases e.st with c | c <;> omega
theorem WS.app {h h1 : AH} {o sw ce st : Nat} {W1 W2 : List Nat} (s : WS h h1 o sw ce st W1 W2) {m : List Nat} {e2 : Nat} (hm : m ≠ []) (he : e2 = 1) (hb : W2.length + m.length ≤ 2 ^ 46) {K : V → AH → Prop} {zK : Lz K}
    (hk : ∀ st' h2, WS h h2 o sw 1 st' W1 (W2 ++ m) → h2.objs = h1.objs → h2.nobj = h1.nobj → K (.sl 1 st' (u8s (W2 ++ m))) h2) : App h1 1 1 ce st (u8s W2) e2 (u8s m) zK := by
  have hnx := s.gr.next
  have n3 := s.n3
  refine ⟨fun h0 => absurd h0 (by intro e; apply hm; cases m with | nil => rfl | cons a b => simp [u8s] at e), fun _ => ⟨?_, .inr s.el, he, by simp; omega, ?_⟩⟩
  · rcases s.tip with a | a
    · exact .inr (.inl a)
    · exact .inr (.inr a.1)
  · rw [← u8s_append]
    have hne : sw < h1.next := by
      rcases s.wo.st with a | a | a
      · omega
      · omega
      · exact a.2
    refine hk _ _ ⟨n3, s.gr.push (by have := s.fs; omega) 1, s.ho, s.wo.keep (by rw [push_objs]) (by rw [push_next]; omega) ?_, s.fw, rfl, .inr ⟨push_new h1 st 1, by rw [push_next]; omega⟩, .inr hnx, .inr (by omega)⟩ (push_objs h1 st 1) (push_nobj h1 st 1)
    by_cases h2 : st ≤ 2
    · exact push_tips_le hne h2
    · exact push_tips_ne hne (by have := s.ne; omega)
def tall (l : List Th) : List Nat := (l.map tbytes).flatten
theorem tall_snoc (l : List Th) (x : Th) : tall (l ++ [x]) = tall l ++ tbytes x := by simp [tall]
theorem tall_len (l : List Th) (h : ∀ x ∈ l, Fine x) : (tall l).length ≤ 410 * l.length := by
  induction l with
  | nil => simp [tall]
  | cons a l ih =>
    have := ih fun n hn => h n (by simp [hn])
    have h1 := tbytes_len (h a (by simp))
    simp [tall] at this ⊢; omega
theorem writes_spec (L : L02 X) (l : List Th) (hl : l.length ≤ maxLen) (hr : ∀ x ∈ l, Ranged x) (hQ : Q (.bool true) h) : Ecx X K.probatelaw02_WireWrites [.sl 4 0 (l.map thV)] h Q := by
  refine fn_walk L.writes (by simp [A.probatelaw02_WireWrites]) fun wf => ?_
  simp [A.probatelaw02_WireWrites]
  refine ecall (awake2_spec L ?_)
  simp
  refine ecall (large_spec L.large l hl (fun x hx => (hr x hx).len) ?_)
  cases hb : largeB l
  case true => simp; exact fin (by simp) hQ
  obtain ⟨h40, hf⟩ := fines_of hr hb
  simp [fillV, fillL, V.cells, V.good]
  have n3 := wf.next
  have s0 : WS h (h.new [.sl 0 1 []]) h.nobj 1 1 2 [] [] := ⟨wf.next, (Gr.refl h).new _, Nat.le_refl _, WO.new h, .inl (by omega), rfl, .inl rfl, .inl (by omega), .inl (by omega)⟩
  refine loopZ (n := l.length) (fun m env h' => ∃ k ce st sw, k ≤ l.length ∧ m = l.length - k ∧ env = [(3, .ptr h.nobj 0), (4, .sl ce st (u8s (tall (l.take k)))), (14, .sl 4 0 (l.map thV)), (15, .int .i64 l.length), (16, .int .i64 k)] ∧ h.nobj < h'.nobj ∧ WS h h' h.nobj sw ce st (tall (l.take k)) (tall (l.take k))) ?_
    ⟨0, 1, 2, 1, by omega, by omega, by simp [tall], by simp, by simpa [tall] using s0⟩
  rintro m env h' ⟨k, ce, st, sw, hk, rfl, rfl, ho, ws⟩
  have hce := ws.el
  subst hce
  unfold A.probatelaw02_WireWrites.L0
  by_cases hlt : k < l.length
  · have hlt' : (k : Int) < l.length := by omega
    have hg := things_getD hlt
    have hsn : tall (l.take (k + 1)) = tall (l.take k) ++ tbytes l[k] := by rw [List.take_succ_eq_append_getElem hlt, tall_snoc]
    have hxl := hf l[k] (List.getElem_mem hlt)
    have hln := tall_len (l.take k) fun x hx => hf x (List.mem_of_mem_take hx)
    have hlk : (l.take k).length = k := by simp; omega
    generalize hx : l[k] = x at *
    have hln2 := tbytes_len hxl
    generalize hW : tall (l.take k) = W at *
    have ws1 := ws.write (WE.new h' h.nobj sw (thC x)) (ws.wo.keep (by simp [show ¬ h.nobj = h'.nobj by omega]) (by simp) (by simp))
    simp [hlt', hg, V.cells, V.good, setAt, show (thC x).length = 4 from rfl, show (thC x).take 4 = thC x from rfl, show setAt [V.int IntKind.i64 0, V.int IntKind.i64 0, V.sl 0 1 [], V.int IntKind.i64 0] 0 (thC x) = thC x from rfl]
    refine ecall (write_spec L.write L.w hxl ws1.wo (by simp; omega) (by omega) fun h2 sw2 e2 w2 => ?_)
    have ws2 := ws1.write e2 w2
    have hob : h2.objs h'.nobj = thC x := by rw [e2.objs _ (by simp) (by omega)]; simp
    have hno : h.nobj < h2.nobj := by have := e2.nobj; simp at this; omega
    have hnn := hxl.n
    have hll := hxl.l
    have hnb := hxl.nsm
    have hsum : (W ++ tbytes x).length ≤ 2 ^ 40 := by rw [List.length_append]; omega
    by_cases k1 : x.kind = 1
    · have ht : tbytes x = vput (tn x) := by simp [tbytes, k1]
      have hw : IntKind.u64.wrap ((tn x : Nat) : Int) = (tn x : Nat) := wrap_u64_nat (by omega)
      simp [hob, thC, k1, hnn, hw]
      refine ecall (rput_spec L.rput (tn x) (by omega) ?_)
      simp
      refine ws2.app (vput_ne _) rfl (by rw [← ht]; omega) fun st' h3 ws3 hobj hno3 => ?_
      rw [← ht] at ws3 ⊢
      simp
      refine ecall (wbytes L.w ws3.wo (by omega) ?_)
      simp
      refine ecall (same1_spec L.same1 _ _ _ _ (by unfold maxLen; omega) ?_)
      simp
      exact ⟨l.length - (k + 1), by omega, k + 1, by omega, rfl, _, _, ⟨⟨rfl, rfl, by rw [hsn]⟩, by rw [wrap_i64 (by omega) (by omega)]; rfl⟩, by omega, sw2, by rw [hsn]; exact ws3⟩
    · by_cases k2 : x.kind = 2
      · by_cases kn : x.n = 1
        · have ht : tbytes x = [1] := by simp [tbytes, k2, kn, vput_small]
          simp [hob, thC, k2, kn, fillL, V.cells, V.good, V.isAgg]
          rw [show [V.int .u8 1] = u8s [1] from rfl]
          refine ws2.app (by simp) rfl (by rw [← ht]; omega) fun st' h3 ws3 hobj hno3 => ?_
          rw [← ht] at ws3 ⊢
          simp
          refine ecall (wbytes L.w ws3.wo (by omega) ?_)
          simp
          refine ecall (same1_spec L.same1 _ _ _ _ (by unfold maxLen; omega) ?_)
          simp
          exact ⟨l.length - (k + 1), by omega, k + 1, by omega, rfl, _, _, ⟨⟨rfl, rfl, by rw [hsn]⟩, by rw [wrap_i64 (by omega) (by omega)]; rfl⟩, by omega, sw2, by rw [hsn]; exact ws3⟩
        · have ht : tbytes x = [0] := by simp [tbytes, k2, kn, vput_small]
          simp [hob, thC, k2, kn, fillL, V.cells, V.good, V.isAgg]
          rw [show [V.int .u8 0] = u8s [0] from rfl]
          refine ws2.app (by simp) rfl (by rw [← ht]; omega) fun st' h3 ws3 hobj hno3 => ?_
          rw [← ht] at ws3 ⊢
          simp
          refine ecall (wbytes L.w ws3.wo (by omega) ?_)
          simp
          refine ecall (same1_spec L.same1 _ _ _ _ (by unfold maxLen; omega) ?_)
          simp
          exact ⟨l.length - (k + 1), by omega, k + 1, by omega, rfl, _, _, ⟨⟨rfl, rfl, by rw [hsn]⟩, by rw [wrap_i64 (by omega) (by omega)]; rfl⟩, by omega, sw2, by rw [hsn]; exact ws3⟩
      · by_cases k3 : x.kind = 3
        · have ht : tbytes x = vput (tl x).length ++ vputs (tl x) := by simp [tbytes, k3]
          simp [hob, thC, k1, k2, k3, hll]
          refine ecall (rnums_spec L.rnums L.rput (tl x) 0 hxl.small (by have := hxl.len; omega) ?_)
          simp
          refine ws2.app (by intro e; exact vput_ne _ (List.append_eq_nil_iff.1 e).1) rfl (by rw [← ht]; omega) fun st' h3 ws3 hobj hno3 => ?_
          rw [← ht] at ws3 ⊢
          simp
          refine ecall (wbytes L.w ws3.wo (by omega) ?_)
          simp
          refine ecall (same1_spec L.same1 _ _ _ _ (by unfold maxLen; omega) ?_)
          simp
          exact ⟨l.length - (k + 1), by omega, k + 1, by omega, rfl, _, _, ⟨⟨rfl, rfl, by rw [hsn]⟩, by rw [wrap_i64 (by omega) (by omega)]; rfl⟩, by omega, sw2, by rw [hsn]; exact ws3⟩
        · have ht : tbytes x = [] := by simp [tbytes, k1, k2, k3]
          have ws3 := ws2
          rw [ht, List.append_nil] at ws3 hsn hsum
          simp [hob, thC, k1, k2, k3]
          refine ecall (wbytes L.w ws3.wo (by omega) ?_)
          simp
          refine ecall (same1_spec L.same1 _ _ _ _ (by unfold maxLen; omega) ?_)
          simp
          exact ⟨l.length - (k + 1), by omega, k + 1, by omega, rfl, _, _, ⟨⟨rfl, rfl, by rw [hsn]⟩, by rw [wrap_i64 (by omega) (by omega)]; rfl⟩, by omega, sw2, by rw [hsn]; exact ws3⟩
  · have hlt' : ¬ (k : Int) < l.length := by omega
    simp [hlt']
    exact fin_wk ws.gr (.same _) (by simp) hQ
end
end Go.Proofs.Ytbbmglginkabfaa.Al
