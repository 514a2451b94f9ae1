/-
  What the law ClosedMeans needs of this claim's texts (part 3). Conditions: each theorem's own.
-/
import Derived.Test.YtajaoldljichaaaAlKeys
import Derived.Test.YtajaoldljichaaaAlA
import Derived.Test.YtajaoldljichaaaAlB
import Derived.Test.YtajaoldljichaaaAlC
import Derived.Test.YtajaoldljichaaaSh1ClosedMeans
import Derived.Test.YtajaoldljichaaaSh2ClosedMeans
namespace Go.Proofs.Ytajaoldljichaaa.Al
open Go Go.RowKit
set_option linter.unusedSimpArgs false
set_option linter.unusedVariables false
attribute [-simp] List.getD_eq_getElem?_getD Int.not_lt Int.not_le List.map_take
/-- May an item be? -/
def okI (g : Gm) (x : It) : Bool := decide (0 ≤ x.prod) && decide (x.prod < g.prods.length) && decide (0 ≤ x.dot) && decide (x.dot ≤ (prG g x.prod).right.length)
theorem okI_iff {g : Gm} {x : It} : okI g x = true ↔ 0 ≤ x.prod ∧ x.prod < g.prods.length ∧ 0 ≤ x.dot ∧ x.dot ≤ (prG g x.prod).right.length := by simp [okI, and_assoc]
/-- The bit that an item lets be. -/
def bitI (g : Gm) (x : It) : Option Nat := if okI g x = true then match nextI g x with
  | some s => if s.non = true then none else some s.n.toNat
  | none => if (prG g x.prod).left = g.start ∧ x.frm = 0 then some 16 else none
  else none
def orB (n : Nat) : Option Nat → Nat
  | some t => n ||| 2 ^ t
  | none => n
def nextF (g : Gm) (l : List It) (n : Nat) : Nat := l.foldl (fun n x => orB n (bitI g x)) n
def nextN (g : Gm) (l : List It) : Nat := if rightG g = true then nextF g l 0 else 0
theorem bitI_lt {g : Gm} (r : RightG g) {x : It} {t : Nat} (h : bitI g x = some t) : t ≤ 16 := by
  unfold bitI at h
  split at h
  · next hk =>
    obtain ⟨a, b, c, d⟩ := okI_iff.1 hk
    split at h
    · next s hs =>
      split at h
      · cases h
      · next hn =>
        injection h with h
        obtain ⟨n, e, hn', e1, _⟩ := prG_get a b
        unfold nextI at hs
        obtain ⟨hlt, e2⟩ := List.getElem?_eq_some_iff.1 hs
        have hm : s ∈ (prG g x.prod).right := by rw [← e2]; exact List.getElem_mem _
        rw [e1] at hm
        have := (r.prods _ (List.getElem_mem hn')).2.2.2 s hm
        rw [if_neg (by simpa using hn)] at this
        have := r.head
        omega
    · split at h
      · injection h with h; omega
      · cases h
  · cases h
theorem orB_lt {n : Nat} {o : Option Nat} (hn : n < 2 ^ 32) (ho : ∀ t, o = some t → t ≤ 16) : orB n o < 2 ^ 32 := by
  cases o with
  | none => exact hn
  | some t => exact Nat.or_lt_two_pow hn (pow_lt32 (by have := ho t rfl; omega))
theorem nextF_lt {g : Gm} (r : RightG g) : ∀ (l : List It) (n : Nat), n < 2 ^ 32 → nextF g l n < 2 ^ 32
  | [], n, h => h
  | x :: l, n, h => nextF_lt r l _ (orB_lt h fun t e => bitI_lt r e)
theorem nextN_lt (g : Gm) (l : List It) : nextN g l < 2 ^ 32 := by
  unfold nextN
  split
  · next h => exact nextF_lt (rightG_iff.1 h) l 0 (by decide)
  · decide
theorem nextF_bit (g : Gm) (t : Nat) : ∀ (l : List It) (n : Nat), (nextF g l n).testBit t = (n.testBit t || l.any fun x => decide (bitI g x = some t))
  | [], n => by simp [nextF]
  | x :: l, n => by
    have ih := nextF_bit g t l (orB n (bitI g x))
    unfold nextF at ih ⊢
    rw [List.foldl_cons, ih, List.any_cons, ← Bool.or_assoc]
    congr 1
    cases h : bitI g x with
    | none => simp [orB]
    | some u => simp [orB, Nat.testBit_or, Nat.testBit_two_pow]
theorem nextN_bit {g : Gm} {l : List It} {t : Nat} : (nextN g l).testBit t = true ↔ rightG g = true ∧ ∃ x ∈ l, bitI g x = some t := by
  unfold nextN
  split
  · next h => rw [nextF_bit]; simp [h]
  · next h => simp [h]
structure LNx (X : Cx) : Prop where
  next : Has (Ecx X) K.chart_next A.chart_next
  next' : Has (Ecx X) K.chart_Next A.chart_Next
  gr : LGr X
section
variable {X : Cx} {h : AH} {Q : V → AH → Prop}
theorem chnext_spec (H : Has (Ecx X) K.chart_next A.chart_next) {g : Gm} (x : It) (hm : okI g x = true) (hr : (prG g x.prod).right.length < 2 ^ 30)
    (hQ : Q (nextV (nextI g x)) h) : Ecx X K.chart_next [gmV g, itV x] h Q := by
  refine fn_walk H (by simp [A.chart_next]) fun wf => ?_
  obtain ⟨p, d, fr⟩ := x
  obtain ⟨m0, m1, m2, m3⟩ := okI_iff.1 hm
  simp only at m0 m1 m2 m3 hr
  obtain ⟨n, rfl, hn, e1, e2⟩ := prG_get m0 m1
  obtain ⟨d, rfl⟩ : ∃ k : Nat, d = k := ⟨d.toNat, by omega⟩
  have gd : (gmC g).length = 4 ∧ (gmC g).getD 3 .undef = .sl 2 0 (g.prods.map prV) := ⟨rfl, rfl⟩
  simp [A.chart_next, gmV, itV, itC, V.cells, V.good, gd, e2, m0, m1, prV, prC]
  generalize hp : prG g n = q at *
  have gr := ((((Gr.refl h).new (gmC g)).new [V.int .i64 (n : Int), V.int .i64 (d : Int), V.int .i64 fr]).new [.bool false, .int .i64 0])
  by_cases c : d = q.right.length
  · have c' : (d : Int) = q.right.length := by omega
    have hn0 : nextI g ⟨n, d, fr⟩ = none := by simp [nextI, hp, c]
    rw [hn0] at hQ
    simp [c', setAt, V.cells, V.good]
    exact fin_wk ((((Gr.refl h).new _).new _).new _) (.same _) (by simp) hQ
  · have c' : ¬ (d : Int) = q.right.length := by omega
    have hlt : d < q.right.length := by omega
    have hlt' : (d : Int) < q.right.length := by omega
    have hn0 : nextI g ⟨n, d, fr⟩ = some q.right[d] := by simp [nextI, hp, hlt]
    rw [hn0] at hQ
    have hg : (q.right.map symV).getD d .undef = symV q.right[d] := Enc.getD hlt
    simp [c', hlt', hg, symV, symC, setAt, V.cells, V.good]
    exact fin_wk ((((Gr.refl h).new _).new _).new _) (.same _) (by simp) hQ
theorem nextF_snoc (g : Gm) (l : List It) (x : It) (n : Nat) : nextF g (l ++ [x]) n = orB (nextF g l n) (bitI g x) := by simp [nextF]
theorem next18_spec (L : LNx X) {g : Gm} {l : List It} (ok : GmOk g) (hl : l.length < 2 ^ 40)
    (hQ : Q (.int .u32 (nextN g l)) h) : Ecx X K.chart_Next [gmV g, setV l] h Q := by
  refine fn_walk L.next' (by simp [A.chart_Next]) fun wf => ?_
  have gd : (gmC g).length = 4 ∧ (gmC g).take 4 = gmC g ∧ (gmC g).getD 3 .undef = .sl 2 0 (g.prods.map prV) ∧ (gmC g).getD 2 .undef = .int .i64 g.start := ⟨rfl, rfl, rfl, rfl⟩
  have gr1 := (Gr.refl h).new (gmC g)
  simp [A.chart_Next, gmV, setV, V.cells, V.good, gd]
  refine ecall (right3R L.gr g ok ?_)
  cases c0 : rightG g with
  | false =>
    have : nextN g l = 0 := by simp [nextN, c0]
    rw [this] at hQ
    simp
    exact fin_wk gr1 (.same _) (by simp) hQ
  | true =>
    have rg := rightG_iff.1 c0
    have : nextN g l = nextF g l 0 := by simp [nextN, c0]
    rw [this] at hQ
    simp
    have b0 : (h.new (gmC g)).objs h.nobj = gmC g := by simp
    have b1 : (h.new (gmC g)).nobj = h.nobj + 1 := by simp
    generalize h.new (gmC g) = h1 at *
    refine loopI (n := l.length) (fun m env h' => ∃ k, k ≤ l.length ∧ m = l.length - k ∧ Gr h1 h' ∧ env = [(2, .ptr h.nobj 0), (5, .int .u32 (nextF g (l.take k) 0)), (13, .sl 3 0 (l.map itV)), (14, .int .i64 l.length), (15, .int .i64 k)]) ?_ ⟨0, by omega, by omega, Gr.refl _, by simp [nextF]⟩
    rintro m env h' ⟨k, hk, rfl, gr, rfl⟩
    unfold A.chart_Next.L0
    by_cases hlt : k < l.length
    · have hlt' : (k : Int) < l.length := by omega
      have hgk : (l.map itV).getD k .undef = itV l[k] := Enc.getD hlt
      have hw1 : IntKind.i64.wrap ((k : Int) + 1) = ((k + 1 : Nat) : Int) := by rw [wrap_i64 (by omega) (by omega)]; rfl
      have htk : l.take (k + 1) = l.take k ++ [l[k]] := List.take_succ_eq_append_getElem hlt
      have hsn := nextF_snoc g (l.take k) l[k] 0
      rw [← htk] at hsn
      generalize l[k] = x at *
      have hN := nextF_lt rg (l.take k) 0 (by decide)
      generalize nextF g (l.take k) 0 = N at *
      have ob : h'.objs h.nobj = gmC g := by rw [gr.objs _ (by omega)]; exact b0
      have lt0 : h.nobj < h'.nobj := by have := gr.nobj; omega
      have n1 : ¬ h.nobj = h'.nobj := by omega
      have n2 : ¬ h.nobj = h'.nobj + 1 := by omega
      have done : ∀ h2, Gr h1 h2 → nextF g (l.take (k + 1)) 0 = N → ∃ m, m < l.length - k ∧ ∃ k_1, k_1 ≤ l.length ∧ m = l.length - k_1 ∧ Gr h1 h2 ∧ [(2, V.ptr h.nobj 0), (5, V.int .u32 N), (13, V.sl 3 0 (l.map itV)), (14, V.int .i64 l.length), (15, V.int .i64 ((k + 1 : Nat) : Int))] = [(2, V.ptr h.nobj 0), (5, .int .u32 (nextF g (l.take k_1) 0)), (13, .sl 3 0 (l.map itV)), (14, .int .i64 l.length), (15, .int .i64 k_1)] := fun h2 g2 e => ⟨l.length - (k + 1), by omega, k + 1, by omega, rfl, g2, by rw [e]⟩
      simp [hlt', hgk, itV, itC, V.cells, V.good, n1, n2, ob, gd, setAt]
      obtain ⟨p, d, fr⟩ := x
      have bad : okI g ⟨p, d, fr⟩ = false → nextF g (l.take (k + 1)) 0 = N := fun q => by rw [hsn]; simp [bitI, q, orB]
      by_cases c1 : 0 ≤ p
      · by_cases c2 : p < g.prods.length
        · obtain ⟨n, rfl, hn, e1, e2⟩ := prG_get c1 c2
          have c1' : ¬ (n : Int) < 0 := by omega
          have c2' : ¬ (g.prods.length : Int) ≤ n := by omega
          have c2'' : n < g.prods.length := by omega
          by_cases c3 : 0 ≤ d
          · have c3' : ¬ d < 0 := by omega
            by_cases c4 : d ≤ (prG g n).right.length
            · have hok : okI g ⟨n, d, fr⟩ = true := okI_iff.2 ⟨c1, c2, c3, c4⟩
              have c4' : ¬ ((prG g n).right.length : Int) < d := by omega
              simp [c1', c2', c2'', c3', c4', ob, gd, n1, n2, V.cells, V.good, setAt, e2, prV, prC]
              have hrl : (prG g n).right.length ≤ 8 := by rw [e1]; exact (rg.prods _ (List.getElem_mem _)).2.2.1
              refine ecall (chnext_spec L.next ⟨n, d, fr⟩ hok (by simp only; omega) ?_)
              have hb : bitI g ⟨n, d, fr⟩ = match nextI g ⟨n, d, fr⟩ with
                | some s => if s.non = true then none else some s.n.toNat
                | none => if (prG g n).left = g.start ∧ fr = 0 then some 16 else none := by unfold bitI; rw [if_pos hok]
              have hbl := fun t => bitI_lt (x := ⟨n, d, fr⟩) (t := t) rg
              cases hx : nextI g ⟨n, d, fr⟩ with
              | none =>
                rw [hx] at hb
                by_cases c5 : (prG g n).left = g.start
                · by_cases c6 : fr = 0
                  · have ho : nextF g (l.take (k + 1)) 0 = N ||| 65536 := by rw [hsn, hb]; simp [c5, c6, orB]
                    have hor := or_u32 (a := N) (b := 65536) hN (by decide)
                    rw [show ((65536 : Nat) : Int) = 65536 from rfl] at hor
                    simp [nextV, ob, gd, n1, n2, V.cells, V.good, setAt, e2, prV, prC, c2'', c5, c6, hw1, hor]
                    exact ⟨l.length - (k + 1), by omega, iv ⟨k + 1, by omega, rfl, (gr.new _).new _, by rw [ho]; simp⟩⟩
                  · have ho : nextF g (l.take (k + 1)) 0 = N := by rw [hsn, hb]; simp [c5, c6, orB]
                    simp [nextV, ob, gd, n1, n2, V.cells, V.good, setAt, e2, prV, prC, c2'', c5, c6, hw1]
                    exact ⟨l.length - (k + 1), by omega, iv ⟨k + 1, by omega, rfl, (gr.new _).new _, by rw [ho]; simp⟩⟩
                · have ho : nextF g (l.take (k + 1)) 0 = N := by rw [hsn, hb]; simp [c5, orB]
                  simp [nextV, ob, gd, n1, n2, V.cells, V.good, setAt, e2, prV, prC, c2'', c5, hw1]
                  exact ⟨l.length - (k + 1), by omega, iv ⟨k + 1, by omega, rfl, (gr.new _).new _, by rw [ho]; simp⟩⟩
              | some s =>
                obtain ⟨sn, si⟩ := s
                rw [hx] at hb
                cases sn with
                | true =>
                  have ho : nextF g (l.take (k + 1)) 0 = N := by rw [hsn, hb]; simp [orB]
                  simp [nextV, symV, symC, ob, gd, n1, n2, V.cells, V.good, setAt, e2, prV, prC, c2'', hw1]
                  exact ⟨l.length - (k + 1), by omega, iv ⟨k + 1, by omega, rfl, (gr.new _).new _, by rw [ho]; simp⟩⟩
                | false =>
                  have ho : nextF g (l.take (k + 1)) 0 = N ||| 2 ^ si.toNat := by rw [hsn, hb]; simp [orB]
                  have hs0 : 0 ≤ si := by
                    unfold nextI at hx
                    obtain ⟨hq, e3⟩ := List.getElem?_eq_some_iff.1 hx
                    have hm := List.getElem_mem hq
                    rw [e3] at hm
                    simp only at hm
                    rw [e1] at hm
                    exact ((rg.prods _ (List.getElem_mem hn)).2.2.2 _ hm).1
                  have hs1 : si.toNat ≤ 16 := hbl _ (by rw [hb]; simp)
                  obtain ⟨si, rfl⟩ : ∃ n : Nat, si = n := ⟨si.toNat, by omega⟩
                  rw [show ((si : Nat) : Int).toNat = si from rfl] at hs1 ho
                  have hsh := shl1_u32' (t := si) (by omega)
                  have hor := or_u32 (a := N) (b := 2 ^ si) hN (pow_lt32 (by omega))
                  rw [show ((2 ^ si : Nat) : Int) = 2 ^ si by push_cast; rfl] at hsh hor
                  simp [nextV, symV, symC, ob, gd, n1, n2, V.cells, V.good, setAt, e2, prV, prC, c2'', hw1, hsh, hor]
                  exact ⟨l.length - (k + 1), by omega, iv ⟨k + 1, by omega, rfl, (gr.new _).new _, by rw [ho]; simp⟩⟩
            · have c4' : ((prG g n).right.length : Int) < d := by omega
              simp [c1', c2', c2'', c3', c4', ob, gd, n1, n2, V.cells, V.good, setAt, e2, prV, prC, hw1]
              exact ⟨l.length - (k + 1), by omega, iv ⟨k + 1, by omega, rfl, gr.new _, by rw [bad (by simp [okI, c4])]; simp⟩⟩
          · have c3' : d < 0 := by omega
            simp [c1', c2', c2'', c3', ob, gd, n1, n2, V.cells, V.good, setAt, e2, prV, prC, hw1]
            exact ⟨l.length - (k + 1), by omega, iv ⟨k + 1, by omega, rfl, gr.new _, by rw [bad (by simp [okI, c3])]; simp⟩⟩
        · have c1' : ¬ p < 0 := by omega
          have c2' : (g.prods.length : Int) ≤ p := by omega
          simp [c1', c2', ob, gd, n1, n2, V.cells, V.good, setAt, hw1]
          exact ⟨l.length - (k + 1), by omega, iv ⟨k + 1, by omega, rfl, gr.new _, by rw [bad (by simp [okI, c2])]; simp⟩⟩
      · have c1' : p < 0 := by omega
        simp [c1', ob, gd, n1, n2, V.cells, V.good, setAt, hw1]
        exact ⟨l.length - (k + 1), by omega, iv ⟨k + 1, by omega, rfl, gr.new _, by rw [bad (by simp [okI, c1])]; simp⟩⟩
    · have hlt' : ¬ (k : Int) < l.length := by omega
      obtain rfl : k = l.length := by omega
      rw [List.take_length]
      simp [hlt']
      exact fin_wk (gr1.trans gr) (.same _) (by simp) hQ
end
end Go.Proofs.Ytajaoldljichaaa.Al
namespace Go.Proofs.Ytajaoldljichaaa.Al
open Go Go.RowKit
set_option linter.unusedSimpArgs false
set_option linter.unusedVariables false
attribute [-simp] List.getD_eq_getElem?_getD Int.not_lt Int.not_le List.map_take
theorem mem_ofF2 {non : Int} : ∀ {l : List Pr} {i n : Nat} (hn : n < l.length), l[n].left = non → ((i + n : Nat) : Int) ∈ ofF non l i
  | p :: l, i, 0, _, h => by simp only [List.getElem_cons_zero] at h; simp [ofF, h]
  | p :: l, i, n + 1, hn, h => by
    have := mem_ofF2 (l := l) (i := i + 1) (n := n) (by simpa using hn) (by simpa using h)
    simp only [ofF, List.mem_append]
    right
    rw [show i + (n + 1) = i + 1 + n by omega]; exact this
theorem mem_ofG2 {g : Gm} {n : Nat} (hn : n < g.prods.length) : (n : Int) ∈ ofG g g.prods[n].left := by
  have := mem_ofF2 (non := g.prods[n].left) (i := 0) hn rfl
  simpa [ofG] using this
theorem prG_nat {g : Gm} {n : Nat} (hn : n < g.prods.length) : prG g (n : Int) = g.prods[n] := by simp [prG, List.getD_eq_getElem?_getD, hn]
theorem inS_mem {ss : List (List It)} {k : Pk} {i : Nat} (h : InS ss k) (e : k.2 = i) : ∃ hi : i < ss.length, k.1 ∈ ss[i] := by
  obtain ⟨j, hj, e2, h⟩ := h
  obtain rfl : i = j := by omega
  exact ⟨hj, h⟩
theorem setA_at {ss : List (List It)} {i : Nat} (hi : i < ss.length) : setA ss (i : Int) = ss[i] := by
  simp [setA, List.getD_eq_getElem?_getD, hi]
theorem next_drop {g : Gm} {x : It} {s : Sy} {r : List Sy} (h : (prG g x.prod).right.drop x.dot.toNat = s :: r) : nextI g x = some s ∧ (prG g x.prod).right.drop (x.dot.toNat + 1) = r := by
  have hlt : x.dot.toNat < (prG g x.prod).right.length := by
    refine Nat.lt_of_not_le fun hle => ?_
    rw [List.drop_eq_nil_of_le hle] at h; cases h
  rw [List.drop_eq_getElem_cons hlt] at h
  injection h with h1 h2
  exact ⟨by simp [nextI, hlt, h1], h2⟩
/-- Closed sets hold what a derivation leads to, or the token behind the last of them. -/
theorem closed_all {g : Gm} {w u : List Int} {ss : List (List It)} (hl : LookOk g w ss) (hc : ClosedP g w ss) {m : Nat} (hm : ss.length = m + 1) (hu : ∀ a (h1 : a < u.length), a < m → w.getD a 0 = u[a])
    {r : List Sy} {a b : Nat} (d : Dv g u r a b) : ∀ (x : It) (ha : a < ss.length), x ∈ ss[a] → (prG g x.prod).right.drop x.dot.toNat = r →
      (∃ hb : b < ss.length, (⟨x.prod, (prG g x.prod).right.length, x.frm⟩ : It) ∈ ss[b]) ∨ (m < b ∧ ∃ hm' : m < ss.length, ∃ hm2 : m < u.length, ∃ y ∈ ss[m], nextI g y = some ⟨false, u[m]⟩) := by
  have may := hl.2.2.2
  induction d with
  | nil a h =>
    intro x ha hx hr
    left
    refine ⟨ha, ?_⟩
    obtain ⟨q0, q1, q2, q3, q4, q5⟩ := mayI_iff.1 (may a ha x hx)
    have := List.drop_eq_nil_iff.1 hr
    have e : x.dot = (prG g x.prod).right.length := by omega
    rw [← e]; exact hx
  | tok s r a b hn hau he h ih =>
    intro x ha hx hr
    obtain ⟨n1, n2⟩ := next_drop hr
    obtain ⟨q0, q1, q2, q3, q4, q5⟩ := mayI_iff.1 (may a ha x hx)
    by_cases c : a < m
    · have hf := hc.2 a ha x hx
      have e : followsL g w ss x a = [(onI x, (a : Int) + 1)] := by
        unfold followsL
        rw [n1]
        have e0 : w.getD ((a : Nat) : Int).toNat 0 = s.n := by rw [show ((a : Nat) : Int).toNat = a from rfl, hu a hau c, he]
        have e1 : (a : Int) + 1 < ss.length := by omega
        simp only [hn, follows1L]
        rw [if_neg (by simp), if_pos ⟨e1, e0⟩]
      rw [e] at hf
      obtain ⟨h2, h3⟩ := inS_mem (i := a + 1) (hf (onI x, (a : Int) + 1) (by simp)) (by simp)
      exact ih (onI x) h2 h3 (by simp only [onI]; rw [show (x.dot + 1).toNat = x.dot.toNat + 1 by omega]; exact n2)
    · right
      obtain rfl : a = m := by omega
      have := h.le
      refine ⟨by omega, ha, hau, x, hx, ?_⟩
      rw [n1, he]; cases s; cases hn; rfl
  | non s r p a mid b hn hp hpl h1 h2 ih1 ih2 =>
    intro x ha hx hr
    obtain ⟨n1, n2⟩ := next_drop hr
    obtain ⟨q0, q1, q2, q3, q4, q5⟩ := mayI_iff.1 (may a ha x hx)
    have l1 := h1.le
    have l2 := h2.le
    obtain ⟨q, hq, rfl⟩ := List.getElem_of_mem hp
    have hf := hc.2 a ha x hx
    have e : followsL g w ss x a = beginsL g s.n a := by
      unfold followsL
      rw [n1]
      simp [hn]
    rw [e] at hf
    have hb0 : InS ss (⟨q, 0, a⟩, a) := hf _ (by
      unfold beginsL
      exact List.mem_map.2 ⟨q, by rw [← hpl]; exact mem_ofG2 hq, rfl⟩)
    obtain ⟨_, hb1⟩ := inS_mem (i := a) hb0 rfl
    have pq := prG_nat (g := g) hq
    rcases ih1 ⟨q, 0, a⟩ ha hb1 (by simp [pq]) with ⟨hb, h3⟩ | ⟨h3, h4⟩
    · simp only at h3
      have hf2 := hc.2 mid hb _ h3
      have e2 : followsL g w ss ⟨q, (prG g q).right.length, a⟩ mid = waitsF g (prG g q).left mid (setA ss (a : Int)) := by
        unfold followsL
        have : nextI g ⟨q, (prG g q).right.length, a⟩ = none := by simp [nextI]
        rw [this]; rfl
      rw [e2, setA_at ha] at hf2
      have hsn : s = ⟨true, (prG g q).left⟩ := by rw [pq, hpl]; cases s; cases hn; rfl
      have hi := hf2 (onI x, mid) (List.mem_filterMap.2 ⟨x, hx, by rw [n1, hsn]; simp⟩)
      obtain ⟨_, hi2⟩ := inS_mem (i := mid) hi rfl
      exact ih2 (onI x) hb hi2 (by simp only [onI]; rw [show (x.dot + 1).toNat = x.dot.toNat + 1 by omega]; exact n2)
    · right
      exact ⟨by omega, h4⟩
/-- The same, of a whole word. -/
theorem closed_word {g : Gm} {w u : List Int} {ss : List (List It)} (hl : LookOk g w ss) (hc : ClosedP g w ss) {m : Nat} (hm : ss.length = m + 1) (hu : ∀ a (h1 : a < u.length), a < m → w.getD a 0 = u[a])
    (d : DvN g u g.start 0 u.length) : (∃ hb : u.length < ss.length, ∃ x ∈ ss[u.length], okI g x = true ∧ nextI g x = none ∧ (prG g x.prod).left = g.start ∧ x.frm = 0) ∨ (m < u.length ∧ ∃ hm' : m < ss.length, ∃ hm2 : m < u.length, ∃ y ∈ ss[m], nextI g y = some ⟨false, u[m]⟩) := by
  obtain ⟨p, hp, hpl, h⟩ := DvN.iff.1 d
  obtain ⟨q, hq, rfl⟩ := List.getElem_of_mem hp
  have pq := prG_nat (g := g) hq
  have hb0 : InS ss (⟨q, 0, 0⟩, 0) := hc.1 _ (by
    unfold beginsL
    exact List.mem_map.2 ⟨q, by rw [← hpl]; exact mem_ofG2 hq, rfl⟩)
  obtain ⟨h0, hb1⟩ := inS_mem (i := 0) hb0 rfl
  rcases closed_all hl hc hm hu h ⟨q, 0, 0⟩ h0 hb1 (by simp [pq]) with ⟨hb, h3⟩ | h3
  · left
    refine ⟨hb, _, h3, ?_, ?_, ?_, rfl⟩
    · refine okI_iff.2 ⟨by simp, by simpa using hq, by simp, by simp⟩
    · simp [nextI]
    · simpa [pq] using hpl
  · exact .inr h3
end Go.Proofs.Ytajaoldljichaaa.Al
namespace Go.Proofs.Ytajaoldljichaaa.Al
def A.probateref08_In : AFn := ⟨18, [(4, none)], (.seq (.reg [⟨(some 2), none, .box (.t 0)⟩, ⟨(some 4), none, .mv (.c (.bool false))⟩])
  (.keep [1, 2] (.seq (.draw [(.pl, ⟨(some 5), none, .load true 4 (.t 2)⟩), (.pl, ⟨(some 6), none, .mv (.t 1)⟩), (.eff, ⟨(some 7), none, .call (.c (.fn K.probateref08_Spans [] [])) [(.t 5), (.t 6)]⟩), (.pl, ⟨(some 8), none, .fa 2 (.t 2)⟩), (.fl, ⟨(some 9), none, .load false 1 (.t 8)⟩), (.pl, ⟨(some 10), none, .ia 1 (.t 7) (.t 9)⟩), (.pl, ⟨(some 11), none, .load false 1 (.t 10)⟩), (.pl, ⟨(some 12), none, .ia 1 (.t 11) (.c (.int .i64 (0)))⟩), (.pl, ⟨(some 13), none, .load false 1 (.t 12)⟩), (.pl, ⟨(some 14), none, .mv (.t 1)⟩), (.pl, ⟨(some 15), none, .len false (.t 14)⟩), (.pl, ⟨(some 16), none, .ia 1 (.t 13) (.t 15)⟩), (.pl, ⟨(some 17), none, .load false 1 (.t 16)⟩), (.pl, ⟨(some 4), none, .mv (.t 17)⟩)]) .ret)))⟩
def A.probateref08_Spans.L2 : AC := .post (.seq (.seq (.reg [⟨(some 28), none, .mv (.t 9)⟩, ⟨(some 29), none, .fa 3 (.t 2)⟩, ⟨(some 30), none, .load false 1 (.t 29)⟩, ⟨(some 31), none, .mv (.t 7)⟩, ⟨(some 32), none, .ia 2 (.t 30) (.t 31)⟩, ⟨(some 33), none, .fa 1 (.t 32)⟩, ⟨(some 34), none, .load false 1 (.t 33)⟩, ⟨(some 35), none, .len false (.t 34)⟩, ⟨(some 36), none, .bin .lss (.t 28) (.t 35)⟩])
  (.keep [1, 2, 5, 6, 7, 8, 9, 36] (.cond (.t 36) .skip (.exit 4))))
  (.keep [1, 2, 5, 6, 7, 8, 9] (.seq (.block 5 (.seq (.reg [⟨(some 39), none, .fa 3 (.t 2)⟩, ⟨(some 40), none, .load false 1 (.t 39)⟩, ⟨(some 41), none, .mv (.t 7)⟩, ⟨(some 42), none, .ia 2 (.t 40) (.t 41)⟩, ⟨(some 43), none, .fa 1 (.t 42)⟩, ⟨(some 44), none, .load false 1 (.t 43)⟩, ⟨(some 45), none, .mv (.t 9)⟩, ⟨(some 46), none, .ia 2 (.t 44) (.t 45)⟩, ⟨(some 47), none, .load true 2 (.t 46)⟩, ⟨(some 10), none, .alloc [(.bool false), (.int .i64 (0))]⟩, ⟨none, none, .store 2 (.t 10) (.t 47)⟩])
  (.keep [1, 2, 5, 6, 7, 8, 9, 10] (.seq (.reg [⟨(some 48), none, .fa 0 (.t 10)⟩, ⟨(some 49), none, .load false 1 (.t 48)⟩])
  (.keep [1, 2, 5, 6, 7, 8, 9, 10, 49] (.cond (.t 49) (.reg [⟨(some 50), none, .mv (.t 8)⟩, ⟨(some 51), none, .mv (.t 5)⟩, ⟨(some 52), none, .fa 1 (.t 10)⟩, ⟨(some 53), none, .load false 1 (.t 52)⟩, ⟨(some 54), none, .ia 1 (.t 51) (.t 53)⟩, ⟨(some 55), none, .load false 1 (.t 54)⟩, ⟨(some 56), none, .bsl 1 false [(.sl 0 1 [])] 1 [(0, (.t 55))]⟩, ⟨(some 57), none, .app 1 24 (.t 50) (.t 56)⟩, ⟨(some 8), none, .mv (.t 57)⟩]) (.reg [⟨(some 58), none, .mv (.t 8)⟩, ⟨(some 59), none, .mv (.t 1)⟩, ⟨(some 60), none, .fa 1 (.t 10)⟩, ⟨(some 61), none, .load false 1 (.t 60)⟩, ⟨(some 62), none, .call (.c (.fn K.probateref08_token [] [])) [(.t 59), (.t 61)]⟩, ⟨(some 63), none, .bsl 1 false [(.sl 0 1 [])] 1 [(0, (.t 62))]⟩, ⟨(some 64), none, .app 1 24 (.t 58) (.t 63)⟩, ⟨(some 8), none, .mv (.t 64)⟩])))))))
  (.keep [1, 2, 5, 6, 7, 8, 9] (.reg [⟨(some 37), none, .mv (.t 9)⟩, ⟨(some 38), none, .bin .add (.t 37) (.c (.int .i64 (1)))⟩, ⟨(some 9), none, .mv (.t 38)⟩]))))) [1, 2, 5, 6, 7, 8, 9]
def A.probateref08_Spans.L4 : AC := .post (.seq (.seq (.reg [⟨(some 77), none, .mv (.t 13)⟩, ⟨(some 78), none, .mv (.t 1)⟩, ⟨(some 79), none, .len false (.t 78)⟩, ⟨(some 80), none, .bin .leq (.t 77) (.t 79)⟩])
  (.keep [1, 2, 5, 6, 7, 8, 11, 12, 13, 80] (.cond (.t 80) .skip (.exit 8))))
  (.keep [1, 2, 5, 6, 7, 8, 11, 12, 13] (.seq (.block 9 (.seq (.reg [⟨(some 83), none, .mv (.t 12)⟩, ⟨(some 84), none, .mv (.t 13)⟩, ⟨(some 85), none, .ia 1 (.t 83) (.t 84)⟩, ⟨(some 86), none, .load false 1 (.t 85)⟩, ⟨(some 87), none, .mv (.t 86)⟩, ⟨(some 88), (some (87, true)), .mv (.t 5)⟩, ⟨(some 89), (some (87, true)), .fa 3 (.t 2)⟩, ⟨(some 90), (some (87, true)), .load false 1 (.t 89)⟩, ⟨(some 91), (some (87, true)), .mv (.t 7)⟩, ⟨(some 92), (some (87, true)), .ia 2 (.t 90) (.t 91)⟩, ⟨(some 93), (some (87, true)), .fa 0 (.t 92)⟩, ⟨(some 94), (some (87, true)), .load false 1 (.t 93)⟩, ⟨(some 95), (some (87, true)), .ia 1 (.t 88) (.t 94)⟩, ⟨(some 96), (some (87, true)), .load false 1 (.t 95)⟩, ⟨(some 97), (some (87, true)), .mv (.t 11)⟩, ⟨(some 98), (some (87, true)), .ia 1 (.t 96) (.t 97)⟩, ⟨(some 99), (some (87, true)), .load false 1 (.t 98)⟩, ⟨(some 100), (some (87, true)), .mv (.t 13)⟩, ⟨(some 101), (some (87, true)), .ia 1 (.t 99) (.t 100)⟩, ⟨(some 102), (some (87, true)), .load false 1 (.t 101)⟩, ⟨(some 103), (some (87, true)), .un .not (.t 102)⟩, ⟨(some 104), none, .pick (.t 87) (.t 103) (.c (.bool false))⟩])
  (.keep [1, 2, 5, 6, 7, 8, 11, 12, 13, 104] (.cond (.t 104) (.seq (.reg [⟨(some 105), none, .mv (.t 5)⟩, ⟨(some 106), none, .fa 3 (.t 2)⟩, ⟨(some 107), none, .load false 1 (.t 106)⟩, ⟨(some 108), none, .mv (.t 7)⟩, ⟨(some 109), none, .ia 2 (.t 107) (.t 108)⟩, ⟨(some 110), none, .fa 0 (.t 109)⟩, ⟨(some 111), none, .load false 1 (.t 110)⟩, ⟨(some 112), none, .ia 1 (.t 105) (.t 111)⟩, ⟨(some 113), none, .load false 1 (.t 112)⟩, ⟨(some 114), none, .mv (.t 11)⟩, ⟨(some 115), none, .ia 1 (.t 113) (.t 114)⟩, ⟨(some 116), none, .load false 1 (.t 115)⟩, ⟨(some 117), none, .mv (.t 13)⟩, ⟨(some 118), none, .ia 1 (.t 116) (.t 117)⟩, ⟨none, none, .store 1 (.t 118) (.c (.bool true))⟩])
  (.keep [1, 2, 5, 7, 8, 11, 12, 13] (.reg [⟨(some 6), none, .mv (.c (.bool true))⟩]))) .skip))))
  (.keep [1, 2, 5, 6, 7, 8, 11, 12, 13] (.reg [⟨(some 81), none, .mv (.t 13)⟩, ⟨(some 82), none, .bin .add (.t 81) (.c (.int .i64 (1)))⟩, ⟨(some 13), none, .mv (.t 82)⟩]))))) [1, 2, 5, 6, 7, 8, 11, 12, 13]
def A.probateref08_Spans.L3 : AC := .post (.seq (.seq (.reg [⟨(some 65), none, .mv (.t 11)⟩, ⟨(some 66), none, .mv (.t 1)⟩, ⟨(some 67), none, .len false (.t 66)⟩, ⟨(some 68), none, .bin .leq (.t 65) (.t 67)⟩])
  (.keep [1, 2, 5, 6, 7, 8, 11, 68] (.cond (.t 68) .skip (.exit 6))))
  (.keep [1, 2, 5, 6, 7, 8, 11] (.seq (.block 7 (.seq (.reg [⟨(some 71), none, .mv (.t 8)⟩, ⟨(some 72), none, .mv (.t 11)⟩, ⟨(some 73), none, .mv (.t 1)⟩, ⟨(some 74), none, .len false (.t 73)⟩, ⟨(some 75), none, .call (.c (.fn K.probateref08_row [] [])) [(.t 71), (.t 72), (.t 74)]⟩, ⟨(some 12), none, .mv (.t 75)⟩])
  (.keep [1, 2, 5, 6, 7, 8, 11, 12] (.seq (.reg [⟨(some 76), none, .mv (.t 11)⟩, ⟨(some 13), none, .mv (.t 76)⟩])
  (.keep [1, 2, 5, 6, 7, 8, 11, 12, 13] (.block 8 (.loop A.probateref08_Spans.L4)))))))
  (.keep [1, 2, 5, 6, 7, 8, 11] (.reg [⟨(some 69), none, .mv (.t 11)⟩, ⟨(some 70), none, .bin .add (.t 69) (.c (.int .i64 (1)))⟩, ⟨(some 11), none, .mv (.t 70)⟩]))))) [1, 2, 5, 6, 7, 8, 11]
def A.probateref08_Spans.L1 : AC := .post (.seq (.seq (.reg [⟨(some 20), none, .mv (.t 7)⟩, ⟨(some 21), none, .fa 3 (.t 2)⟩, ⟨(some 22), none, .load false 1 (.t 21)⟩, ⟨(some 23), none, .len false (.t 22)⟩, ⟨(some 24), none, .bin .lss (.t 20) (.t 23)⟩])
  (.keep [1, 2, 5, 6, 7, 24] (.cond (.t 24) .skip (.exit 2))))
  (.keep [1, 2, 5, 6, 7] (.seq (.block 3 (.seq (.reg [⟨(some 27), none, .bsl 1 false [(.sl 0 1 [])] 0 []⟩, ⟨(some 8), none, .mv (.t 27)⟩])
  (.keep [1, 2, 5, 6, 7, 8] (.seq (.seq (.reg [⟨(some 9), none, .mv (.c (.int .i64 (0)))⟩])
  (.keep [1, 2, 5, 6, 7, 8, 9] (.block 4 (.loop A.probateref08_Spans.L2))))
  (.keep [1, 2, 5, 6, 7, 8] (.seq (.reg [⟨(some 11), none, .mv (.c (.int .i64 (0)))⟩])
  (.keep [1, 2, 5, 6, 7, 8, 11] (.block 6 (.loop A.probateref08_Spans.L3)))))))))
  (.keep [1, 2, 5, 6, 7] (.reg [⟨(some 25), none, .mv (.t 7)⟩, ⟨(some 26), none, .bin .add (.t 25) (.c (.int .i64 (1)))⟩, ⟨(some 7), none, .mv (.t 26)⟩]))))) [1, 2, 5, 6, 7]
def A.probateref08_Spans.L0 : AC := .post (.seq (.seq (.reg [⟨(some 19), none, .mv (.t 6)⟩])
  (.keep [1, 2, 5, 19] (.cond (.t 19) .skip (.exit 0))))
  (.keep [1, 2, 5] (.block 1 (.seq (.reg [⟨(some 6), none, .mv (.c (.bool false))⟩])
  (.keep [1, 2, 5, 6] (.seq (.reg [⟨(some 7), none, .mv (.c (.int .i64 (0)))⟩])
  (.keep [1, 2, 5, 6, 7] (.block 2 (.loop A.probateref08_Spans.L1))))))))) [1, 2, 5, 6]
def A.probateref08_Spans : AFn := ⟨120, [(4, none)], (.seq (.reg [⟨(some 2), none, .box (.t 0)⟩, ⟨(some 4), none, .mv (.c (.sl 0 1 []))⟩])
  (.keep [1, 2] (.seq (.reg [⟨(some 14), none, .fa 1 (.t 2)⟩, ⟨(some 15), none, .load false 1 (.t 14)⟩, ⟨(some 16), none, .mv (.t 1)⟩, ⟨(some 17), none, .len false (.t 16)⟩, ⟨(some 18), none, .call (.c (.fn K.probateref08_none [] [])) [(.t 15), (.t 17)]⟩, ⟨(some 5), none, .mv (.t 18)⟩])
  (.keep [1, 2, 5] (.seq (.seq (.reg [⟨(some 6), none, .mv (.c (.bool true))⟩])
  (.keep [1, 2, 5, 6] (.block 0 (.loop A.probateref08_Spans.L0))))
  (.keep [5] (.seq (.reg [⟨(some 119), none, .mv (.t 5)⟩, ⟨(some 4), none, .mv (.t 119)⟩]) .ret)))))))⟩
def A.probateref08_token.L0 : AC := .post (.seq (.seq (.reg [⟨(some 12), none, .mv (.t 6)⟩, ⟨(some 13), none, .mv (.t 0)⟩, ⟨(some 14), none, .len false (.t 13)⟩, ⟨(some 15), none, .bin .lss (.t 12) (.t 14)⟩])
  (.keep [0, 1, 5, 6, 15] (.cond (.t 15) .skip (.exit 0))))
  (.keep [0, 1, 5, 6] (.seq (.block 1 (.draw [(.pl, ⟨(some 18), none, .mv (.t 5)⟩), (.pl, ⟨(some 19), none, .mv (.t 6)⟩), (.pl, ⟨(some 20), none, .ia 1 (.t 18) (.t 19)⟩), (.pl, ⟨(some 21), none, .load false 1 (.t 20)⟩), (.pl, ⟨(some 22), none, .mv (.t 6)⟩), (.pl, ⟨(some 23), none, .bin .add (.t 22) (.c (.int .i64 (1)))⟩), (.pl, ⟨(some 24), none, .mv (.t 0)⟩), (.pl, ⟨(some 25), none, .mv (.t 6)⟩), (.pl, ⟨(some 26), none, .ia 1 (.t 24) (.t 25)⟩), (.pl, ⟨(some 27), none, .load false 1 (.t 26)⟩), (.pl, ⟨(some 28), none, .mv (.t 1)⟩), (.pl, ⟨(some 29), none, .bin .eql (.t 27) (.t 28)⟩), (.pl, ⟨(some 30), none, .ia 1 (.t 21) (.t 23)⟩), (.eff, ⟨none, none, .store 1 (.t 30) (.t 29)⟩)]))
  (.keep [0, 1, 5, 6] (.reg [⟨(some 16), none, .mv (.t 6)⟩, ⟨(some 17), none, .bin .add (.t 16) (.c (.int .i64 (1)))⟩, ⟨(some 6), none, .mv (.t 17)⟩]))))) [0, 1, 5, 6]
def A.probateref08_token : AFn := ⟨32, [(4, none)], (.seq (.reg [⟨(some 4), none, .mv (.c (.sl 0 1 []))⟩])
  (.keep [0, 1] (.seq (.reg [⟨(some 7), none, .mv (.t 0)⟩, ⟨(some 8), none, .len false (.t 7)⟩, ⟨(some 9), none, .call (.c (.fn K.probateref08_none [] [])) [(.c (.int .i64 (1))), (.t 8)]⟩, ⟨(some 10), none, .ia 1 (.t 9) (.c (.int .i64 (0)))⟩, ⟨(some 11), none, .load false 1 (.t 10)⟩, ⟨(some 5), none, .mv (.t 11)⟩])
  (.keep [0, 1, 5] (.seq (.seq (.reg [⟨(some 6), none, .mv (.c (.int .i64 (0)))⟩])
  (.keep [0, 1, 5, 6] (.block 0 (.loop A.probateref08_token.L0))))
  (.keep [5] (.seq (.reg [⟨(some 31), none, .mv (.t 5)⟩, ⟨(some 4), none, .mv (.t 31)⟩]) .ret)))))))⟩
end Go.Proofs.Ytajaoldljichaaa.Al
namespace Go.Proofs.Ytajaoldljichaaa.Al
def A.probateref08_none_o.L1 : AC := .post (.seq (.seq (.reg [⟨(some 16), none, .mv (.t 8)⟩, ⟨(some 17), none, .mv (.t 1)⟩, ⟨(some 18), none, .bin .leq (.t 16) (.t 17)⟩])
  (.keep [0, 1, 5, 6, 7, 8, 18] (.cond (.t 18) .skip (.exit 2))))
  (.keep [0, 1, 5, 6, 7, 8] (.seq (.block 3 (.reg [⟨(some 21), none, .mv (.t 7)⟩, ⟨(some 22), none, .mv (.t 1)⟩, ⟨(some 23), none, .bin .add (.t 22) (.c (.int .i64 (1)))⟩, ⟨(some 24), none, .mkso 1 1 [(.bool false)] (.t 23) (.t 23)⟩, ⟨(some 25), none, .bsl 1 false [(.sl 0 1 [])] 1 [(0, (.t 24))]⟩, ⟨(some 26), none, .app 1 24 (.t 21) (.t 25)⟩, ⟨(some 7), none, .mv (.t 26)⟩]))
  (.keep [0, 1, 5, 6, 7, 8] (.reg [⟨(some 19), none, .mv (.t 8)⟩, ⟨(some 20), none, .bin .add (.t 19) (.c (.int .i64 (1)))⟩, ⟨(some 8), none, .mv (.t 20)⟩]))))) [0, 1, 5, 6, 7, 8]
def A.probateref08_none_o.L0 : AC := .post (.seq (.seq (.reg [⟨(some 10), none, .mv (.t 6)⟩, ⟨(some 11), none, .mv (.t 0)⟩, ⟨(some 12), none, .bin .lss (.t 10) (.t 11)⟩])
  (.keep [0, 1, 5, 6, 12] (.cond (.t 12) .skip (.exit 0))))
  (.keep [0, 1, 5, 6] (.seq (.block 1 (.seq (.reg [⟨(some 15), none, .bsl 1 false [(.sl 0 1 [])] 0 []⟩, ⟨(some 7), none, .mv (.t 15)⟩])
  (.keep [0, 1, 5, 6, 7] (.seq (.seq (.reg [⟨(some 8), none, .mv (.c (.int .i64 (0)))⟩])
  (.keep [0, 1, 5, 6, 7, 8] (.block 2 (.loop A.probateref08_none_o.L1))))
  (.keep [0, 1, 5, 6, 7] (.reg [⟨(some 27), none, .mv (.t 5)⟩, ⟨(some 28), none, .mv (.t 7)⟩, ⟨(some 29), none, .bsl 1 false [(.sl 0 1 [])] 1 [(0, (.t 28))]⟩, ⟨(some 30), none, .app 1 24 (.t 27) (.t 29)⟩, ⟨(some 5), none, .mv (.t 30)⟩]))))))
  (.keep [0, 1, 5, 6] (.reg [⟨(some 13), none, .mv (.t 6)⟩, ⟨(some 14), none, .bin .add (.t 13) (.c (.int .i64 (1)))⟩, ⟨(some 6), none, .mv (.t 14)⟩]))))) [0, 1, 5, 6]
def A.probateref08_none_o : AFn := ⟨32, [(4, none)], (.seq (.reg [⟨(some 4), none, .mv (.c (.sl 0 1 []))⟩])
  (.keep [0, 1] (.seq (.reg [⟨(some 9), none, .bsl 1 false [(.sl 0 1 [])] 0 []⟩, ⟨(some 5), none, .mv (.t 9)⟩])
  (.keep [0, 1, 5] (.seq (.seq (.reg [⟨(some 6), none, .mv (.c (.int .i64 (0)))⟩])
  (.keep [0, 1, 5, 6] (.block 0 (.loop A.probateref08_none_o.L0))))
  (.keep [5] (.seq (.reg [⟨(some 31), none, .mv (.t 5)⟩, ⟨(some 4), none, .mv (.t 31)⟩]) .ret)))))))⟩
def A.probateref08_row_o.L2 : AC := .post (.seq (.seq (.reg [⟨(some 33), none, .mv (.t 11)⟩, ⟨(some 34), none, .mv (.t 2)⟩, ⟨(some 35), none, .bin .leq (.t 33) (.t 34)⟩, ⟨(some 36), none, .mv (.t 35)⟩, ⟨(some 37), (some (36, true)), .mv (.t 7)⟩, ⟨(some 38), (some (36, true)), .mv (.t 10)⟩, ⟨(some 39), (some (36, true)), .ia 1 (.t 37) (.t 38)⟩, ⟨(some 40), (some (36, true)), .load false 1 (.t 39)⟩, ⟨(some 41), none, .pick (.t 36) (.t 40) (.c (.bool false))⟩])
  (.keep [0, 2, 7, 8, 9, 10, 11, 41] (.cond (.t 41) .skip (.exit 4))))
  (.keep [0, 2, 7, 8, 9, 10, 11] (.seq (.block 5 (.seq (.reg [⟨(some 44), none, .mv (.t 0)⟩, ⟨(some 45), none, .mv (.t 8)⟩, ⟨(some 46), none, .ia 1 (.t 44) (.t 45)⟩, ⟨(some 47), none, .load false 1 (.t 46)⟩, ⟨(some 48), none, .mv (.t 10)⟩, ⟨(some 49), none, .ia 1 (.t 47) (.t 48)⟩, ⟨(some 50), none, .load false 1 (.t 49)⟩, ⟨(some 51), none, .mv (.t 11)⟩, ⟨(some 52), none, .ia 1 (.t 50) (.t 51)⟩, ⟨(some 53), none, .load false 1 (.t 52)⟩])
  (.keep [0, 2, 7, 8, 9, 10, 11, 53] (.cond (.t 53) (.reg [⟨(some 54), none, .mv (.t 9)⟩, ⟨(some 55), none, .mv (.t 11)⟩, ⟨(some 56), none, .ia 1 (.t 54) (.t 55)⟩, ⟨none, none, .store 1 (.t 56) (.c (.bool true))⟩]) .skip))))
  (.keep [0, 2, 7, 8, 9, 10, 11] (.reg [⟨(some 42), none, .mv (.t 11)⟩, ⟨(some 43), none, .bin .add (.t 42) (.c (.int .i64 (1)))⟩, ⟨(some 11), none, .mv (.t 43)⟩]))))) [0, 2, 7, 8, 9, 10, 11]
def A.probateref08_row_o.L1 : AC := .post (.seq (.seq (.reg [⟨(some 27), none, .mv (.t 10)⟩, ⟨(some 28), none, .mv (.t 2)⟩, ⟨(some 29), none, .bin .leq (.t 27) (.t 28)⟩])
  (.keep [0, 2, 7, 8, 9, 10, 29] (.cond (.t 29) .skip (.exit 2))))
  (.keep [0, 2, 7, 8, 9, 10] (.seq (.block 3 (.seq (.reg [⟨(some 32), none, .mv (.t 10)⟩, ⟨(some 11), none, .mv (.t 32)⟩])
  (.keep [0, 2, 7, 8, 9, 10, 11] (.block 4 (.loop A.probateref08_row_o.L2)))))
  (.keep [0, 2, 7, 8, 9, 10] (.reg [⟨(some 30), none, .mv (.t 10)⟩, ⟨(some 31), none, .bin .add (.t 30) (.c (.int .i64 (1)))⟩, ⟨(some 10), none, .mv (.t 31)⟩]))))) [0, 2, 7, 8, 9, 10]
def A.probateref08_row_o.L0 : AC := .post (.seq (.seq (.reg [⟨(some 18), none, .mv (.t 8)⟩, ⟨(some 19), none, .mv (.t 0)⟩, ⟨(some 20), none, .len false (.t 19)⟩, ⟨(some 21), none, .bin .lss (.t 18) (.t 20)⟩])
  (.keep [0, 2, 7, 8, 21] (.cond (.t 21) .skip (.exit 0))))
  (.keep [0, 2, 7, 8] (.seq (.block 1 (.seq (.reg [⟨(some 24), none, .mv (.t 2)⟩, ⟨(some 25), none, .bin .add (.t 24) (.c (.int .i64 (1)))⟩, ⟨(some 26), none, .mkso 1 1 [(.bool false)] (.t 25) (.t 25)⟩, ⟨(some 9), none, .mv (.t 26)⟩])
  (.keep [0, 2, 7, 8, 9] (.seq (.seq (.reg [⟨(some 10), none, .mv (.c (.int .i64 (0)))⟩])
  (.keep [0, 2, 7, 8, 9, 10] (.block 2 (.loop A.probateref08_row_o.L1))))
  (.keep [0, 2, 8, 9] (.reg [⟨(some 57), none, .mv (.t 9)⟩, ⟨(some 7), none, .mv (.t 57)⟩]))))))
  (.keep [0, 2, 7, 8] (.reg [⟨(some 22), none, .mv (.t 8)⟩, ⟨(some 23), none, .bin .add (.t 22) (.c (.int .i64 (1)))⟩, ⟨(some 8), none, .mv (.t 23)⟩]))))) [0, 2, 7, 8]
def A.probateref08_row_o : AFn := ⟨59, [(6, none)], (.seq (.reg [⟨(some 6), none, .mv (.c (.sl 0 1 []))⟩])
  (.keep [0, 1, 2] (.seq (.reg [⟨(some 12), none, .mv (.t 2)⟩, ⟨(some 13), none, .bin .add (.t 12) (.c (.int .i64 (1)))⟩, ⟨(some 14), none, .mkso 1 1 [(.bool false)] (.t 13) (.t 13)⟩, ⟨(some 7), none, .mv (.t 14)⟩])
  (.keep [0, 1, 2, 7] (.seq (.reg [⟨(some 15), none, .mv (.t 7)⟩, ⟨(some 16), none, .mv (.t 1)⟩, ⟨(some 17), none, .ia 1 (.t 15) (.t 16)⟩, ⟨none, none, .store 1 (.t 17) (.c (.bool true))⟩])
  (.keep [0, 2, 7] (.seq (.seq (.reg [⟨(some 8), none, .mv (.c (.int .i64 (0)))⟩])
  (.keep [0, 2, 7, 8] (.block 0 (.loop A.probateref08_row_o.L0))))
  (.keep [7] (.seq (.reg [⟨(some 58), none, .mv (.t 7)⟩, ⟨(some 6), none, .mv (.t 58)⟩]) .ret)))))))))⟩
end Go.Proofs.Ytajaoldljichaaa.Al
namespace Go.Proofs.Ytajaoldljichaaa.Al
open Go Go.RowKit
set_option linter.unusedSimpArgs false
set_option linter.unusedVariables false
attribute [-simp] List.getD_eq_getElem?_getD Int.not_lt Int.not_le List.map_take List.map_map
/-- Bools, as they lie. -/
def boolsV (f : Nat → Bool) (n : Nat) : List V := (List.range n).map fun b => .bool (f b)
@[simp] theorem boolsV_len (f : Nat → Bool) (n : Nat) : (boolsV f n).length = n := by simp [boolsV]
theorem boolsV_get {f : Nat → Bool} {n b : Nat} (h : b < n) : (boolsV f n).getD b .undef = .bool (f b) := by simp [boolsV, List.getD_eq_getElem?_getD, h]
theorem boolsV_congr {f g : Nat → Bool} {n : Nat} (h : ∀ b, b < n → f b = g b) : boolsV f n = boolsV g n := by
  unfold boolsV; exact List.map_congr_left fun b hb => by rw [h b (by simpa using hb)]
theorem boolsV_set (f : Nat → Bool) {n b : Nat} (h : b < n) (x : Bool) : (boolsV f n).set b (.bool x) = boolsV (fun b' => if b' = b then x else f b') n := by
  apply List.ext_getElem?
  intro i
  rw [List.getElem?_set]
  unfold boolsV
  by_cases e : b = i
  · subst e; simp [h]
  · rw [if_neg e]
    by_cases hi : i < n
    · simp [hi, show ¬ i = b from fun q => e q.symm]
    · simp [hi]
theorem repl_false (n : Nat) : repl [.bool false] n = boolsV (fun _ => false) n := by
  unfold repl boolsV
  induction n with
  | zero => rfl
  | succ n ih => 
    rw [List.replicate_succ, cellsOf_cons, ih, List.range_succ_eq_map]
    simp only [List.map_cons, List.map_map, V.cells]
    rfl
theorem Bdd_bools (n m : Nat) (f : Nat → Bool) (k : Nat) : ∀ v ∈ boolsV f k, Bdd n m v := by
  intro v hv
  obtain ⟨b, _, rfl⟩ := List.mem_map.1 hv
  simp
/-- Some objects more. -/
def rowsH (h : AH) (z : Nat → List V) : Nat → AH
  | 0 => h
  | k + 1 => (rowsH h z k).new (z k)
section
variable (h : AH) (z : Nat → List V)
@[simp] theorem rowsH_nobj : ∀ k, (rowsH h z k).nobj = h.nobj + k
  | 0 => rfl
  | k + 1 => by simp [rowsH, rowsH_nobj k]; omega
@[simp] theorem rowsH_next : ∀ k, (rowsH h z k).next = h.next
  | 0 => rfl
  | k + 1 => by simp [rowsH, rowsH_next k]
@[simp] theorem rowsH_tips : ∀ k, (rowsH h z k).tips = h.tips
  | 0 => rfl
  | k + 1 => by simp [rowsH, rowsH_tips k]
theorem rowsH_old {o : Nat} (ho : o < h.nobj) : ∀ k, (rowsH h z k).objs o = h.objs o
  | 0 => rfl
  | k + 1 => by rw [rowsH, new_objs_ne _ _ (by simp; omega), rowsH_old ho k]
theorem rowsH_at {i : Nat} : ∀ {k : Nat}, i < k → (rowsH h z k).objs (h.nobj + i) = z i
  | k + 1, hi => by
    by_cases e : i = k
    · subst e; rw [rowsH, new_objs_at _ _ _ (by simp)]
    · rw [rowsH, new_objs_ne _ _ (by simp; omega)]; exact rowsH_at (by omega)
theorem rowsH_gr (k : Nat) : Gr h (rowsH h z k) := ⟨by simp, by simp, fun o ho => rowsH_old h z ho k, fun s _ => by simp⟩
theorem rowsH_ext (hz : ∀ i, ∀ v ∈ z i, Bdd h.next h.nobj v) (k : Nat) : Ext h (rowsH h z k) := by
  refine ⟨by simp, by simp, by simp, fun o ho => ?_⟩
  simp at ho
  by_cases hlt : o < h.nobj
  · exact .inl ⟨hlt, rowsH_old h z hlt k⟩
  · obtain ⟨i, rfl⟩ : ∃ i, o = h.nobj + i := ⟨o - h.nobj, by omega⟩
    rw [rowsH_at h z (by omega)]
    exact .inr fun v hv => (hz i v hv).mono (by simp) (by simp)
theorem rowsH_grW {h1 : AH} {k : Nat} (g : Gr h h1) (hn : h.nobj + k ≤ h1.nobj) (ho : ∀ i, i < k → h1.objs (h.nobj + i) = z i) : GrW (rowsH h z k) h1 := by
  refine ⟨by simp; exact g.next, by simp; exact hn, fun o hl => ?_, fun s hs => by simp at hs ⊢; exact g.tips s hs⟩
  simp at hl
  by_cases hlt : o < h.nobj
  · rw [rowsH_old h z hlt, g.objs o hlt]; exact WkL.refl _
  · obtain ⟨i, rfl⟩ : ∃ i, o = h.nobj + i := ⟨o - h.nobj, by omega⟩
    rw [rowsH_at h z (by omega), ho i (by omega)]; exact WkL.refl _
end
/-- A table from which place to which: its rows lie in objects, one behind the other. -/
def refV (L b : Nat) : V := .sl 1 0 ((List.range (L + 1)).map fun a => .osl 1 (b + a) 0 (L + 1) (L + 1))
def matV (L N b : Nat) : V := .sl 1 0 ((List.range N).map fun n => refV L (b + n * (L + 1)))
/-- It is there. -/
def RefAt (h : AH) (L b : Nat) (c : Nat → Nat → Bool) : Prop := ∀ a, a ≤ L → h.objs (b + a) = boolsV (c a) (L + 1)
theorem refV_get {L b a : Nat} (ha : a ≤ L) : ((List.range (L + 1)).map fun a => V.osl 1 (b + a) 0 (L + 1) (L + 1)).getD a .undef = .osl 1 (b + a) 0 (L + 1) (L + 1) := by simp [List.getD_eq_getElem?_getD, show a < L + 1 by omega]
theorem matV_get {L N b n : Nat} (hn : n < N) : ((List.range N).map fun n => refV L (b + n * (L + 1))).getD n .undef = refV L (b + n * (L + 1)) := by simp [List.getD_eq_getElem?_getD, hn]
theorem cells_refs {α : Type} (l : List α) (f : α → V) (hf : ∀ a, (f a).cells = [f a]) : cellsOf (l.map f) = l.map f := by
  induction l with
  | nil => rfl
  | cons a l ih => simp only [List.map_cons, cellsOf_cons, hf, ih, List.singleton_append]
theorem Bdd_refV {n m L b : Nat} (h : b + (L + 1) ≤ m) : Bdd n m (refV L b) := by
  unfold refV
  rw [Bdd_sl0, cells_refs _ _ (fun _ => rfl)]
  refine ⟨by omega, fun v hv => ?_⟩
  obtain ⟨a, ha, rfl⟩ := List.mem_map.1 hv
  simp at ha
  exact .osl _ _ _ _ _ (by omega)
theorem Bdd_matV {n m L N b : Nat} (h : b + N * (L + 1) ≤ m) : Bdd n m (matV L N b) := by
  unfold matV
  rw [Bdd_sl0, cells_refs _ _ (fun _ => rfl)]
  refine ⟨by omega, fun v hv => ?_⟩
  obtain ⟨k, hk, rfl⟩ := List.mem_map.1 hv
  simp at hk
  have := Nat.mul_le_mul_right (L + 1) (show k + 1 ≤ N by omega)
  rw [Nat.add_mul] at this
  exact Bdd_refV (by omega)
/-- Tables of which less is known. -/
def RefWL (L : Nat) : List Nat → List V → Prop
  | [], [] => True
  | b :: bs, v :: vs => (∃ st, v = .sl 1 st ((List.range (L + 1)).map fun a => .osl 1 (b + a) 0 (L + 1) (L + 1))) ∧ RefWL L bs vs
  | _, _ => False
theorem RefWL.app {L : Nat} : ∀ {bs : List Nat} {vs : List V} {cs : List Nat} {us : List V}, RefWL L bs vs → RefWL L cs us → RefWL L (bs ++ cs) (vs ++ us)
  | [], [], _, _, _, h => h
  | b :: bs, v :: vs, _, _, ⟨a, c⟩, h => ⟨a, RefWL.app c h⟩
theorem RefWL.len {L : Nat} : ∀ {bs : List Nat} {vs : List V}, RefWL L bs vs → vs.length = bs.length
  | [], [], _ => rfl
  | b :: bs, v :: vs, ⟨_, c⟩ => by simp [RefWL.len c]
theorem RefWL.wkl {L : Nat} : ∀ {bs : List Nat} {vs : List V}, RefWL L bs vs → WkL (cellsOf vs) (cellsOf (bs.map (refV L)))
  | [], [], _ => .nil
  | b :: bs, v :: vs, ⟨⟨st, hv⟩, c⟩ => by
    subst hv
    simp only [List.map_cons, cellsOf_cons]
    exact .cons (.sl _ _ _) (RefWL.wkl c)
theorem RefWL.wk {L : Nat} {bs : List Nat} {vs : List V} (h : RefWL L bs vs) {e st : Nat} (he : vs = [] ∨ e = 1) : Wk (.sl e st vs) (.sl 1 0 (bs.map (refV L))) := by
  obtain ⟨a, b⟩ := h.wkl.get
  rcases he with rfl | rfl
  · match bs, h with
    | [], _ => exact .nil _ _ _
  · exact .sld _ _ _ _ (by simp [h.len]) (fun v hv => by
      obtain ⟨p, _, rfl⟩ := List.mem_map.1 hv
      rfl) a b
theorem matV_eq (L N b : Nat) : matV L N b = .sl 1 0 (((List.range N).map fun n => b + n * (L + 1)).map (refV L)) := by unfold matV; rw [List.map_map]; rfl
section
variable {X : Cx} {h : AH} {Q : V → AH → Prop}
theorem none_spec (H : Has (Ecx X) K.probateref08_none A.probateref08_none_o) (N L : Nat) (hN : N ≤ 2 ^ 20) (hL : L ≤ 2 ^ 20) (hQ : Q (matV L N h.nobj) (rowsH h (fun _ => boolsV (fun _ => false) (L + 1)) (N * (L + 1)))) :
    Ecx X K.probateref08_none [.int .i64 N, .int .i64 L] h Q := by
  refine fn_set H (rowsH h (fun _ => boolsV (fun _ => false) (L + 1)) (N * (L + 1))) (fun wf hb => rowsH_ext h _ (fun _ => Bdd_bools _ _ _ _) _) (by simp [A.probateref08_none_o]) fun wf hb => ?_
  have hwL : IntKind.i64.wrap ((L : Int) + 1) = ((L + 1 : Nat) : Int) := by rw [wrap_i64 (by omega) (by omega)]; rfl
  simp [A.probateref08_none_o, fillL]
  refine loopI (n := N) (fun mm env h' => ∃ n e st vs, n ≤ N ∧ mm = N - n ∧ Own h h' 1 e st vs ∧ (st ≤ 2 ∨ st < h'.next) ∧ RefWL L ((List.range n).map fun i => h.nobj + i * (L + 1)) vs ∧ h'.nobj = h.nobj + n * (L + 1) ∧ (∀ i, i < n * (L + 1) → h'.objs (h.nobj + i) = boolsV (fun _ => false) (L + 1)) ∧
      env = [(0, .int .i64 N), (1, .int .i64 L), (5, .sl e st vs), (6, .int .i64 n)]) ?_
    ⟨0, 1, 2, [], by omega, by omega, Own.full (Gr.refl h) 1 [], by omega, trivial, by simp, fun i hi => by omega, rfl⟩
  rintro mm env h' ⟨n, e, st, vs, hn, rfl, ow, hba, fa, nb, ob, rfl⟩
  unfold A.probateref08_none_o.L0
  have hvl : vs.length = n := by rw [fa.len]; simp
  by_cases hlt : n < N
  · have hlt' : (n : Int) < N := by omega
    have hw1 : IntKind.i64.wrap ((n : Int) + 1) = ((n + 1 : Nat) : Int) := by rw [wrap_i64 (by omega) (by omega)]; rfl
    have hmul : (n + 1) * (L + 1) = n * (L + 1) + (L + 1) := by rw [Nat.add_mul]; omega
    have n3 := wf.next
    have g3 := ow.gr.next
    simp [hlt', fillL]
    refine loopI (n := L + 1) (fun mm env h2 => ∃ a st1, a ≤ L + 1 ∧ mm = L + 1 - a ∧ Own h h2 1 e st vs ∧ Own h h2 1 1 st1 ((List.range a).map fun i => .osl 1 (h.nobj + n * (L + 1) + i) 0 (L + 1) (L + 1)) ∧ (st ≤ 2 ∨ st < h2.next) ∧ (st ≤ 2 ∨ ¬ st = st1) ∧ h2.nobj = h.nobj + n * (L + 1) + a ∧ (∀ i, i < n * (L + 1) + a → h2.objs (h.nobj + i) = boolsV (fun _ => false) (L + 1)) ∧
        env = [(0, .int .i64 N), (1, .int .i64 L), (5, .sl e st vs), (6, .int .i64 n), (7, .sl 1 st1 ((List.range a).map fun i => .osl 1 (h.nobj + n * (L + 1) + i) 0 (L + 1) (L + 1))), (8, .int .i64 a)]) ?_
      ⟨0, 2, by omega, by omega, ow, Own.full ow.gr 1 [], hba, by omega, by omega, fun i hi => ob i (by omega), rfl⟩
    clear ow ob nb hba g3 h'
    rintro mm env h2 ⟨a, st1, ha, rfl, ow, ow1, hba, hne, nb, ob, rfl⟩
    unfold A.probateref08_none_o.L1
    have g3 := ow.gr.next
    by_cases hal : a ≤ L
    · have hal' : (a : Int) ≤ L := by omega
      have hw2 : IntKind.i64.wrap ((a : Int) + 1) = ((a + 1 : Nat) : Int) := by rw [wrap_i64 (by omega) (by omega)]; rfl
      have hoff : h2.nobj = h.nobj + n * (L + 1) + a := nb
      simp [hal', hwL]
      refine ⟨by omega, by omega, ?_⟩
      rw [repl_false]
      have ow2 := ow.new (boolsV (fun _ => false) (L + 1))
      have ow3 := ow1.new (boolsV (fun _ => false) (L + 1))
      refine ow3.appF (by simp) rfl (by simp; omega) fun o4 => ?_
      have gp := o4.gr
      have hts : ((List.range a).map fun i => V.osl 1 (h.nobj + n * (L + 1) + i) 0 (L + 1) (L + 1)) ++ [.osl 1 h2.nobj 0 (L + 1) (L + 1)] = (List.range (a + 1)).map fun i => V.osl 1 (h.nobj + n * (L + 1) + i) 0 (L + 1) (L + 1) := by
        rw [List.range_succ, List.map_append, hoff]; rfl
      rw [hts] at o4 ⊢
      simp [hw2]
      exact ⟨L + 1 - (a + 1), by omega, iv ⟨a + 1, _, by omega, rfl, ow2.keep gp hba hne, o4, by rw [push_next, new_next]; omega, by rw [new_next]; omega, by rw [push_nobj, new_nobj]; omega, fun i hi => by
        rw [push_objs]
        by_cases e : h.nobj + i = h2.nobj
        · rw [new_objs_at _ _ _ e]
        · rw [new_objs_ne _ _ e]; exact ob i (by omega), rfl⟩⟩
    · have hal' : ¬ (a : Int) ≤ L := by omega
      obtain rfl : a = L + 1 := by omega
      have hx : ¬ ((L : Int) + 1 ≤ L) := by omega
      simp [hx, fillL, V.isAgg]
      refine ow.appF (by simp) rfl (by simp [hvl]; omega) fun o4 => ?_
      simp [hw1]
      exact ⟨N - (n + 1), by omega, iv ⟨n + 1, 1, _, _, by omega, rfl, o4, by rw [push_next]; omega, by
        rw [List.range_succ, List.map_append]; exact fa.app ⟨⟨st1, rfl⟩, trivial⟩, by rw [push_nobj]; omega, fun i hi => by rw [push_objs]; exact ob i (by omega), rfl⟩⟩
  · have hlt' : ¬ (n : Int) < N := by omega
    obtain rfl : n = N := by omega
    simp [hlt']
    refine finS_wk (rowsH_grW h _ ow.gr (by omega) ob) (by rw [matV_eq]; exact fa.wk ow.el) (Bdd_matV (by simp)) hQ
theorem ltS (b' b : Nat) : decide (b' < b + 1) = (decide (b' < b) || decide (b' = b)) := by apply Bool.eq_iff_iff.2; simp; omega
/-- A row of which it is told from where to where. -/
theorem rowL2 {o7 o9 L a k : Nat} {v0 : V} {f g : Nat → Bool} {c : Nat → Nat → Bool} {bs : List Nat} (hk : k < bs.length) (hL : L ≤ 2 ^ 20) (ha : a ≤ L) (hb : RefAt h L bs[k] c) (h7 : h.objs o7 = boolsV f (L + 1)) (h9 : h.objs o9 = boolsV g (L + 1)) (e0 st0 : Nat) (he0 : e0 = 1)
    (n79 : ¬ o7 = o9) (nb : ∀ a, a ≤ L → ¬ bs[k] + a = o9) {Q : Ex → Env → AH → Prop} {zQ : Lz Q} {z : Lz (AC.loop A.probateref08_row_o.L2)}
    (hQ : ∀ v, Q (.exit 4) ((0, .sl e0 st0 (bs.map (refV L))) :: (2, .int .i64 L) :: (7, .osl 1 o7 0 (L + 1) (L + 1)) :: (8, .int .i64 k) :: (9, .osl 1 o9 0 (L + 1) (L + 1)) :: (10, .int .i64 a) :: v) (h.set o9 (boolsV (fun b => g b || (decide (a ≤ b) && f a && c a b)) (L + 1)))) :
    acZ (Ecx X) [(0, .sl e0 st0 (bs.map (refV L))), (2, .int .i64 L), (7, .osl 1 o7 0 (L + 1) (L + 1)), (8, .int .i64 k), (9, .osl 1 o9 0 (L + 1) (L + 1)), (10, .int .i64 a), (11, .int .i64 a)] h z zQ := by
  subst he0
  refine loopI (n := L + 1 - a) (fun mm env h' => ∃ b, a ≤ b ∧ b ≤ L + 1 ∧ mm = L + 1 - b ∧ h' = h.set o9 (boolsV (fun b' => g b' || (decide (b' < b) && (decide (a ≤ b') && f a && c a b'))) (L + 1)) ∧
      env = [(0, .sl 1 st0 (bs.map (refV L))), (2, .int .i64 L), (7, .osl 1 o7 0 (L + 1) (L + 1)), (8, .int .i64 k), (9, .osl 1 o9 0 (L + 1) (L + 1)), (10, .int .i64 a), (11, .int .i64 b)]) ?_
    ⟨a, Nat.le_refl _, by omega, rfl, by
      have : boolsV (fun b' => g b' || (decide (b' < a) && (decide (a ≤ b') && f a && c a b'))) (L + 1) = boolsV g (L + 1) := boolsV_congr fun b' _ => by
        by_cases q : b' < a
        · simp [q, show ¬ a ≤ b' by omega]
        · simp [q]
      rw [this, ← h9, set_self rfl], rfl⟩
  rintro mm env h' ⟨b, hab, hbl, rfl, rfl, rfl⟩
  unfold A.probateref08_row_o.L2
  have q7 : (h.set o9 (boolsV (fun b' => g b' || (decide (b' < b) && (decide (a ≤ b') && f a && c a b'))) (L + 1))).objs o7 = boolsV f (L + 1) := by rw [set_objs_ne _ _ _ n79]; exact h7
  have q9 : (h.set o9 (boolsV (fun b' => g b' || (decide (b' < b) && (decide (a ≤ b') && f a && c a b'))) (L + 1))).objs o9 = boolsV (fun b' => g b' || (decide (b' < b) && (decide (a ≤ b') && f a && c a b'))) (L + 1) := by simp
  have qb : (h.set o9 (boolsV (fun b' => g b' || (decide (b' < b) && (decide (a ≤ b') && f a && c a b'))) (L + 1))).objs (bs[k] + a) = boolsV (c a) (L + 1) := by rw [set_objs_ne _ _ _ (nb a ha)]; exact hb a ha
  have hss : ∀ y, (h.set o9 (boolsV (fun b' => g b' || (decide (b' < b) && (decide (a ≤ b') && f a && c a b'))) (L + 1))).set o9 y = h.set o9 y := fun y => by simp
  have hga : (boolsV f (L + 1)).getD a .undef = .bool (f a) := boolsV_get (by omega)
  have hfa0 : f a = false → boolsV (fun b' => g b' || (decide (b' < b) && (decide (a ≤ b') && f a && c a b'))) (L + 1) = boolsV (fun b => g b || (decide (a ≤ b) && f a && c a b)) (L + 1) := fun e => by rw [e]; simp
  have hfin : b = L + 1 → boolsV (fun b' => g b' || (decide (b' < b) && (decide (a ≤ b') && f a && c a b'))) (L + 1) = boolsV (fun b => g b || (decide (a ≤ b) && f a && c a b)) (L + 1) := fun e => boolsV_congr fun b' hb' => by simp [show b' < b by omega]
  generalize hh : h.set o9 (boolsV (fun b' => g b' || (decide (b' < b) && (decide (a ≤ b') && f a && c a b'))) (L + 1)) = h2 at *
  have hal : a < L + 1 := by omega
  have hal' : (a : Int) < ((L : Int) + 1) := by omega
  by_cases hle : b ≤ L
  · have hle' : (b : Int) ≤ L := by omega
    have hbl' : b < L + 1 := by omega
    have hbl2 : (b : Int) < (L : Int) + 1 := by omega
    have hw1 : IntKind.i64.wrap ((b : Int) + 1) = ((b + 1 : Nat) : Int) := by rw [wrap_i64 (by omega) (by omega)]; rfl
    have hgk : (bs.map (refV L)).getD k .undef = refV L bs[k] := by simp [List.getD_eq_getElem?_getD, hk]
    have hkl : (k : Int) < bs.length := by omega
    have hgr : ((List.range (L + 1)).map fun a => V.osl 1 (bs[k] + a) 0 (L + 1) (L + 1)).getD a .undef = .osl 1 (bs[k] + a) 0 (L + 1) (L + 1) := refV_get ha
    have hgb : (boolsV (c a) (L + 1)).getD b .undef = .bool (c a b) := boolsV_get (by omega)
    have hset := boolsV_set (fun b' => g b' || (decide (b' < b) && (decide (a ≤ b') && f a && c a b'))) (n := L + 1) hbl' true
    cases hfa : f a with
    | false =>
      rw [hfa] at hga
      simp [hle', hal, hal', q7, hga]
      rw [← hh, hfa0 hfa]
      exact hQ _
    | true =>
      rw [hfa] at hga
      cases hc : c a b with
      | false =>
        rw [hc] at hgb
        simp [hle', hal, hal', q7, hga, hkl, hgk, refV, hgr, V.cells, qb, hgb, hbl', hbl2, hw1]
        exact ⟨L + 1 - (b + 1), by omega, iv ⟨b + 1, by omega, by omega, rfl, by
          rw [← hh]; congr 1; exact boolsV_congr fun b' _ => by rw [ltS, hfa]; by_cases e : b' = b <;> simp [e, hc], rfl⟩⟩
      | true =>
        rw [hc] at hgb
        simp [hle', hal, hal', q7, hga, hkl, hgk, refV, hgr, V.cells, V.good, setAt, qb, hgb, hbl', hbl2, q9, hset, hw1, hss]
        refine ⟨by omega, ?_⟩
        exact ⟨L + 1 - (b + 1), by omega, iv ⟨b + 1, by omega, by omega, rfl, by
          congr 1; exact boolsV_congr fun b' _ => by rw [ltS, hfa]; by_cases e : b' = b <;> simp [e, hc, hab], rfl⟩⟩
  · have hle' : ¬ (b : Int) ≤ L := by omega
    simp [hle']
    rw [← hh, hfin (by omega)]
    exact hQ _
def partR (f : Nat → Bool) (c : Nat → Nat → Bool) (n : Nat) : Nat → Bool := fun b => (List.range n).any fun a => decide (a ≤ b) && f a && c a b
theorem partR_succ (f : Nat → Bool) (c : Nat → Nat → Bool) (n b : Nat) : partR f c (n + 1) b = (partR f c n b || (decide (n ≤ b) && f n && c n b)) := by
  unfold partR; rw [List.range_succ, List.any_append]; simp
theorem partR_all {f : Nat → Bool} {c : Nat → Nat → Bool} {L b : Nat} (hb : b ≤ L) : partR f c (L + 1) b = stepW f c b := by
  unfold partR stepW
  apply Bool.eq_iff_iff.2
  simp only [List.any_eq_true, List.mem_range, Bool.and_eq_true, decide_eq_true_eq]
  constructor
  · rintro ⟨a, h1, ⟨h2, h3⟩, h4⟩; exact ⟨a, by omega, h3, h4⟩
  · rintro ⟨a, h1, h3, h4⟩; exact ⟨a, by omega, ⟨by omega, h3⟩, h4⟩
theorem row_spec (H : Has (Ecx X) K.probateref08_row A.probateref08_row_o) {L from' : Nat} (hL : L ≤ 2 ^ 20) (hf : from' ≤ L) (bs : List Nat) (cs : List (Nat → Nat → Bool)) (hlen : cs.length = bs.length) (hbl : bs.length ≤ 2 ^ 20)
    (hat : ∀ k (h1 : k < bs.length), RefAt h L bs[k] (cs[k]'(by omega)) ∧ bs[k] + (L + 1) ≤ h.nobj) (e0 st0 : Nat) (he : bs = [] ∨ e0 = 1)
    (hQ : ∀ h' o, Gr h h' → h.nobj ≤ o → o < h'.nobj → h'.objs o = boolsV (foldR cs fun b => decide (b = from')) (L + 1) → Q (.osl 1 o 0 (L + 1) (L + 1)) h') :
    Ecx X K.probateref08_row [.sl e0 st0 (bs.map (refV L)), .int .i64 from', .int .i64 L] h Q := by
  refine fn_any H (by simp [A.probateref08_row_o]) fun wf => ?_
  have hwL : IntKind.i64.wrap ((L : Int) + 1) = ((L + 1 : Nat) : Int) := by rw [wrap_i64 (by omega) (by omega)]; rfl
  have hfl : from' < L + 1 := by omega
  have hfl2 : (from' : Int) < (L : Int) + 1 := by omega
  have hset := boolsV_set (fun _ => false) hfl true
  simp [A.probateref08_row_o, hwL]
  refine ⟨by omega, by omega, ?_⟩
  rw [repl_false]
  simp [hfl, hfl2, V.cells, V.good, setAt, hset]
  refine ⟨by omega, ?_⟩
  have gr1 := (Gr.refl h).new (boolsV (fun b' => decide (b' = from')) (L + 1))
  have o1 : (h.new (boolsV (fun b' => decide (b' = from')) (L + 1))).objs h.nobj = boolsV (foldR (cs.take 0) fun b => decide (b = from')) (L + 1) := by
    rw [new_objs_same]; rfl
  have o2 : (h.new (boolsV (fun b' => decide (b' = from')) (L + 1))).nobj = h.nobj + 1 := by simp
  generalize h.new (boolsV (fun b' => decide (b' = from')) (L + 1)) = h1 at *
  refine loopI (n := bs.length) (fun mm env h' => ∃ k o, k ≤ bs.length ∧ mm = bs.length - k ∧ Gr h h' ∧ h.nobj ≤ o ∧ o < h'.nobj ∧ h'.objs o = boolsV (foldR (cs.take k) fun b => decide (b = from')) (L + 1) ∧
      env = [(0, .sl e0 st0 (bs.map (refV L))), (2, .int .i64 L), (7, .osl 1 o 0 (L + 1) (L + 1)), (8, .int .i64 k)]) ?_
    ⟨0, h.nobj, by omega, by omega, gr1, by omega, by omega, o1, rfl⟩
  clear gr1 o1 o2 h1
  rintro mm env h' ⟨k, o, hk, rfl, gr, lo, lt, ob, rfl⟩
  unfold A.probateref08_row_o.L0
  by_cases hlt : k < bs.length
  · have he0 : e0 = 1 := he.resolve_left (fun e => by rw [e] at hlt; simp at hlt)
    have hlt' : (k : Int) < bs.length := by omega
    have hw1 : IntKind.i64.wrap ((k : Int) + 1) = ((k + 1 : Nat) : Int) := by rw [wrap_i64 (by omega) (by omega)]; rfl
    obtain ⟨ra, rb⟩ := hat k hlt
    have hsu : foldR (cs.take (k + 1)) (fun b => decide (b = from')) = stepW (foldR (cs.take k) fun b => decide (b = from')) (cs[k]'(by omega)) := by
      unfold foldR; rw [List.take_succ_eq_append_getElem (by omega), List.foldl_append]; rfl
    generalize foldR (cs.take k) (fun b => decide (b = from')) = f at *
    generalize cs[k]'(by omega) = c at *
    simp [hlt', hwL]
    refine ⟨by omega, by omega, ?_⟩
    rw [repl_false]
    have gr2 := gr.new (boolsV (fun _ => false) (L + 1))
    have p0 : (h'.new (boolsV (fun _ => false) (L + 1))).objs h'.nobj = boolsV (partR f c 0) (L + 1) := by rw [new_objs_same]; rfl
    have p1 : (h'.new (boolsV (fun _ => false) (L + 1))).objs o = boolsV f (L + 1) := by rw [new_objs_ne _ _ (by omega)]; exact ob
    have p2 : (h'.new (boolsV (fun _ => false) (L + 1))).nobj = h'.nobj + 1 := by simp
    generalize h'.new (boolsV (fun _ => false) (L + 1)) = h2 at *
    have hon : h.nobj ≤ h'.nobj := gr.nobj
    refine loopI (n := L + 1) (fun mm env h3 => ∃ a, a ≤ L + 1 ∧ mm = L + 1 - a ∧ Gr h h3 ∧ h3.objs h'.nobj = boolsV (partR f c a) (L + 1) ∧ h3.objs o = boolsV f (L + 1) ∧ h'.nobj < h3.nobj ∧
        env = [(0, .sl e0 st0 (bs.map (refV L))), (2, .int .i64 L), (7, .osl 1 o 0 (L + 1) (L + 1)), (8, .int .i64 k), (9, .osl 1 h'.nobj 0 (L + 1) (L + 1)), (10, .int .i64 a)]) ?_
      ⟨0, by omega, by omega, gr2, p0, p1, by omega, rfl⟩
    clear gr2 p0 p1 p2 h2
    rintro mm env h3 ⟨a, ha, rfl, gr3, q0, q1, q2, rfl⟩
    unfold A.probateref08_row_o.L1
    by_cases hal : a ≤ L
    · have hal' : (a : Int) ≤ L := by omega
      have hw2 : IntKind.i64.wrap ((a : Int) + 1) = ((a + 1 : Nat) : Int) := by rw [wrap_i64 (by omega) (by omega)]; rfl
      simp [hal']
      refine rowL2 (h := h3) (o7 := o) (o9 := h'.nobj) (v0 := .undef) hlt hL hal (c := c) (fun a ha => (gr3.objs _ (by omega)).trans (ra a ha)) q1 q0 e0 st0 he0 (by omega) (fun a ha => by omega) (fun v => ?_)
      simp [hw2]
      exact ⟨L + 1 - (a + 1), by omega, iv ⟨a + 1, by omega, rfl, gr3.set (by omega) _, by rw [set_objs_same]; exact boolsV_congr fun b _ => by rw [partR_succ], by rw [set_objs_ne _ _ _ (by omega)]; exact q1, by rw [set_nobj]; exact q2, rfl⟩⟩
    · have hx : ¬ ((L : Int) + 1 ≤ L) := by omega
      obtain rfl : a = L + 1 := by omega
      simp [hx, hw1]
      exact ⟨bs.length - (k + 1), by omega, iv ⟨k + 1, h'.nobj, by omega, rfl, gr3, hon, q2, by rw [q0, hsu]; exact boolsV_congr fun b hb => partR_all (by omega), rfl⟩⟩
  · have hlt' : ¬ (k : Int) < bs.length := by omega
    obtain rfl : k = bs.length := by omega
    rw [← hlen, List.take_length] at ob
    simp [hlt']
    exact hQ h' o gr lo lt ob
/-- A token's table. -/
theorem token8_spec (HN : Has (Ecx X) K.probateref08_none A.probateref08_none_o) (H : Has (Ecx X) K.probateref08_token A.probateref08_token) (w : List Int) (t : Int) (e st : Nat) (he : w = [] ∨ e = 1) (hL : w.length ≤ 2 ^ 20)
    (hQ : ∀ h', Gr h h' → h.nobj + (w.length + 1) ≤ h'.nobj → RefAt h' w.length h.nobj (tokM w t) → Q (refV w.length h.nobj) h') : Ecx X K.probateref08_token [.sl e st (ints w), .int .i64 t] h Q := by
  refine fn_any H (by simp [A.probateref08_token]) fun wf => ?_
  have hil : (ints w).length = w.length := by simp [ints]
  simp [A.probateref08_token, hil]
  refine ecall (none_spec HN 1 w.length (by omega) hL ?_)
  have gr1 := rowsH_gr h (fun _ => boolsV (fun _ => false) (w.length + 1)) (1 * (w.length + 1))
  have o1 : ∀ a, a ≤ w.length → (rowsH h (fun _ => boolsV (fun _ => false) (w.length + 1)) (1 * (w.length + 1))).objs (h.nobj + a) = boolsV (fun _ => false) (w.length + 1) := fun a ha => rowsH_at h _ (by omega)
  have o2 : (rowsH h (fun _ => boolsV (fun _ => false) (w.length + 1)) (1 * (w.length + 1))).nobj = h.nobj + (w.length + 1) := by simp
  generalize rowsH h (fun _ => boolsV (fun _ => false) (w.length + 1)) (1 * (w.length + 1)) = h1 at *
  have hmv : matV w.length 1 h.nobj = .sl 1 0 [refV w.length h.nobj] := by simp [matV]
  rw [hmv]
  have hrc : (refV w.length h.nobj).cells = [refV w.length h.nobj] := rfl
  simp [hrc]
  have hrv : refV w.length h.nobj = .sl 1 0 ((List.range (w.length + 1)).map fun a => .osl 1 (h.nobj + a) 0 (w.length + 1) (w.length + 1)) := rfl
  rw [hrv]
  simp only [List.length_singleton, List.getD_cons_zero]
  refine ⟨by omega, ?_⟩
  refine loopI (n := w.length) (fun mm env h' => ∃ i, i ≤ w.length ∧ mm = w.length - i ∧ Gr h h' ∧ h.nobj + (w.length + 1) ≤ h'.nobj ∧ RefAt h' w.length h.nobj (fun a b => decide (a < i) && tokM w t a b) ∧
      env = [(0, .sl e st (ints w)), (1, .int .i64 t), (5, .sl 1 0 ((List.range (w.length + 1)).map fun a => .osl 1 (h.nobj + a) 0 (w.length + 1) (w.length + 1))), (6, .int .i64 i)]) ?_
    ⟨0, by omega, by omega, gr1, by omega, fun a ha => by rw [o1 a ha]; exact boolsV_congr fun b _ => by simp, rfl⟩
  clear gr1 o1 o2 h1
  rintro mm env h' ⟨i, hi, rfl, gr, nb, ra, rfl⟩
  unfold A.probateref08_token.L0
  by_cases hlt : i < w.length
  · obtain rfl : e = 1 := he.resolve_left (fun e => by rw [e] at hlt; simp at hlt)
    have hlt' : (i : Int) < w.length := by omega
    have hw1 : IntKind.i64.wrap ((i : Int) + 1) = ((i + 1 : Nat) : Int) := by rw [wrap_i64 (by omega) (by omega)]; rfl
    have hgw := ints_get hlt
    have hgr := refV_get (L := w.length) (b := h.nobj) (a := i) (by omega)
    have ob := ra i (by omega)
    have hi1 : i + 1 < w.length + 1 := by omega
    have hi2 : (i : Int) + 1 < (w.length : Int) + 1 := by omega
    have hi3 : (i : Int) < (w.length : Int) + 1 := by omega
    have hset := boolsV_set (fun _ => false) hi1 (decide (w[i] = t))
    simp [hlt', hil, hgw, hw1, hgr, V.cells, V.good, setAt, ob, hi1, hi2, hi3]
    refine ⟨by omega, by omega, ?_⟩
    exact ⟨w.length - (i + 1), by omega, iv ⟨i + 1, by omega, rfl, gr.set (by omega) _, by rw [set_nobj]; exact nb, fun a ha => by
      by_cases e : a = i
      · subst e
        rw [set_objs_same, hset]
        refine boolsV_congr fun b _ => ?_
        simp only [tokM, List.getElem?_eq_getElem hlt, Option.some.injEq]
        by_cases q : b = a + 1 <;> simp [q]
      · rw [set_objs_ne _ _ _ (by omega), ra a ha]
        refine boolsV_congr fun b _ => ?_
        have : decide (a < i + 1) = decide (a < i) := by apply Bool.eq_iff_iff.2; simp; omega
        simp only [this], rfl⟩⟩
  · have hlt' : ¬ (i : Int) < w.length := by omega
    obtain rfl : i = w.length := by omega
    simp [hlt', hil]
    refine hQ h' gr nb (fun a ha => ?_)
    rw [ra a ha]
    refine boolsV_congr fun b hb => ?_
    by_cases e : a < w.length
    · simp [e]
    · obtain rfl : a = w.length := by omega
      simp [tokM]
end
end Go.Proofs.Ytajaoldljichaaa.Al
namespace Go.Proofs.Ytajaoldljichaaa.Al
open Go Go.RowKit
set_option linter.unusedSimpArgs false
set_option linter.unusedVariables false
attribute [-simp] List.getD_eq_getElem?_getD Int.not_lt Int.not_le List.map_take List.map_map
/-- A grammar whose numbers are places. -/
structure GW (g : Gm) (N : Nat) : Prop where
  nons : g.nons = (N : Int)
  big : N ≤ 2 ^ 10
  prods : g.prods.length ≤ 2 ^ 20
  left : ∀ p ∈ g.prods, 0 ≤ p.left ∧ p.left < N
  len : ∀ p ∈ g.prods, p.right.length ≤ 2 ^ 20
  sym : ∀ p ∈ g.prods, ∀ s ∈ p.right, 0 ≤ s.n ∧ (s.non = true → s.n < N)
/-- The table of all nonterminals, as it lies. -/
structure MS (h h' : AH) (g : Gm) (L N : Nat) (M : Nat → Nat → Nat → Bool) : Prop where
  gr : Gr h h'
  ob : h'.objs h.nobj = gmC g
  nb : h.nobj + 1 + N * (L + 1) ≤ h'.nobj
  at' : ∀ n, n < N → RefAt h' L (h.nobj + 1 + n * (L + 1)) (M n)
theorem idx_inj {L n a n' a' : Nat} (ha : a ≤ L) (ha' : a' ≤ L) (h : n * (L + 1) + a = n' * (L + 1) + a') : n = n' ∧ a = a' := by
  have h1 : n = n' := by
    have e1 : (n * (L + 1) + a) / (L + 1) = n := by rw [Nat.mul_comm, Nat.mul_add_div (by omega), Nat.div_eq_of_lt (by omega)]; rfl
    have e2 : (n' * (L + 1) + a') / (L + 1) = n' := by rw [Nat.mul_comm, Nat.mul_add_div (by omega), Nat.div_eq_of_lt (by omega)]; rfl
    rw [← e1, h, e2]
  subst h1
  exact ⟨rfl, by omega⟩
theorem idx_lt {L N n a : Nat} (hn : n < N) (ha : a ≤ L) : n * (L + 1) + a < N * (L + 1) := by
  have := Nat.mul_le_mul_right (L + 1) (show n + 1 ≤ N by omega)
  rw [Nat.add_mul] at this
  omega
theorem MS.set {h h' : AH} {g : Gm} {L N : Nat} {M : Nat → Nat → Nat → Bool} (s : MS h h' g L N M) {n a b : Nat} (hn : n < N) (ha : a ≤ L) (hb : b ≤ L) :
    MS h (h'.set (h.nobj + 1 + n * (L + 1) + a) (boolsV (fun b' => decide (b' = b) || M n a b') (L + 1))) g L N (setM M n a b) := by
  refine ⟨s.gr.set (by omega) _, by rw [set_objs_ne _ _ _ (by omega)]; exact s.ob, by rw [set_nobj]; exact s.nb, fun n' hn' a' ha' => ?_⟩
  by_cases e : n' = n ∧ a' = a
  · obtain ⟨rfl, rfl⟩ := e
    rw [set_objs_same]
    refine boolsV_congr fun b' _ => ?_
    by_cases q : b' = b <;> simp [setM, q]
  · rw [set_objs_ne _ _ _ (fun q => e (by
      have := idx_inj (n := n') (n' := n) ha' ha (by omega)
      exact this)), s.at' n' hn' a' ha']
    refine boolsV_congr fun b' _ => ?_
    simp only [setM]
    rw [if_neg (fun q => e ⟨q.1, q.2.1⟩)]
theorem MS.to {h h' h2 : AH} {g : Gm} {L N : Nat} {M : Nat → Nat → Nat → Bool} (s : MS h h' g L N M) (G : Gr h h2) (hn : h'.nobj ≤ h2.nobj) (ho : ∀ o, o < h'.nobj → h2.objs o = h'.objs o) : MS h h2 g L N M := by
  have := s.nb
  have := s.gr.nobj
  refine ⟨G, by rw [ho _ (by omega)]; exact s.ob, by omega, fun n hn a ha => ?_⟩
  have := idx_lt (L := L) hn ha
  rw [ho _ (by omega)]; exact s.at' n hn a ha
theorem MS.gr' {h h' h2 : AH} {g : Gm} {L N : Nat} {M : Nat → Nat → Nat → Bool} (s : MS h h' g L N M) (G : Gr h' h2) : MS h h2 g L N M := s.to (s.gr.trans G) G.nobj G.objs
/-- The tables of a production's symbols. -/
structure LstAt (h h' : AH) (w : List Int) (N : Nat) (ss : List Sy) (bs : List Nat) : Prop where
  len : bs.length = ss.length
  non : ∀ (k : Nat) (s : Sy) (b : Nat), ss[k]? = some s → bs[k]? = some b → s.non = true → b = h.nobj + 1 + s.n.toNat * (w.length + 1)
  tok : ∀ (k : Nat) (s : Sy) (b : Nat), ss[k]? = some s → bs[k]? = some b → s.non = false → RefAt h' w.length b (tokM w s.n) ∧ h.nobj + 1 + N * (w.length + 1) ≤ b ∧ b + (w.length + 1) ≤ h'.nobj
theorem LstAt.to {h h' h2 : AH} {w : List Int} {N : Nat} {ss : List Sy} {bs : List Nat} (l : LstAt h h' w N ss bs) (hn : h'.nobj ≤ h2.nobj) (ho : ∀ o, o < h'.nobj → h2.objs o = h'.objs o) : LstAt h h2 w N ss bs :=
  ⟨l.len, l.non, fun k s b h1 h2' hn' => by
    obtain ⟨a, c, d⟩ := l.tok k s b h1 h2' hn'
    exact ⟨fun x hx => by rw [ho _ (by omega)]; exact a x hx, c, by omega⟩⟩
theorem LstAt.gr {h h' h2 : AH} {w : List Int} {N : Nat} {ss : List Sy} {bs : List Nat} (l : LstAt h h' w N ss bs) (G : Gr h' h2) : LstAt h h2 w N ss bs := l.to G.nobj G.objs
theorem Own.on {h0 h h2 : AH} {e e1 st : Nat} {l : List V} (o : Own h0 h e e1 st l) (ba : st ≤ 2 ∨ st < h.next) (G : Gr h h2) (n3 : 3 ≤ h.next) : Own h0 h2 e e1 st l :=
  ⟨o.gr.trans G, o.el, by
    rcases o.st with a | a | a
    · exact .inl a
    · exact .inr (.inl a)
    · exact .inr (.inr ⟨by rw [G.tips _ (by omega)]; exact a.1, a.2⟩)⟩
theorem LstAt.set {h h' : AH} {w : List Int} {N : Nat} {ss : List Sy} {bs : List Nat} (l : LstAt h h' w N ss bs) {o : Nat} (ho : o < h.nobj + 1 + N * (w.length + 1)) (z : List V) : LstAt h (h'.set o z) w N ss bs :=
  ⟨l.len, l.non, fun k s b h1 h2 hn => by
    obtain ⟨a, c, d⟩ := l.tok k s b h1 h2 hn
    exact ⟨fun x hx => by rw [set_objs_ne _ _ _ (by omega)]; exact a x hx, c, by rw [set_nobj]; exact d⟩⟩
theorem LstAt.snoc {h h' : AH} {w : List Int} {N : Nat} {ss : List Sy} {bs : List Nat} (l : LstAt h h' w N ss bs) {s : Sy} {b : Nat} (c1 : s.non = true → b = h.nobj + 1 + s.n.toNat * (w.length + 1))
    (c2 : s.non = false → RefAt h' w.length b (tokM w s.n) ∧ h.nobj + 1 + N * (w.length + 1) ≤ b ∧ b + (w.length + 1) ≤ h'.nobj) : LstAt h h' w N (ss ++ [s]) (bs ++ [b]) := by
  have split : ∀ (k : Nat) (s' : Sy) (b' : Nat), (ss ++ [s])[k]? = some s' → (bs ++ [b])[k]? = some b' → (ss[k]? = some s' ∧ bs[k]? = some b') ∨ (s' = s ∧ b' = b) := fun k s' b' h1 h2 => by
    have hl := l.len
    rw [List.getElem?_append] at h1 h2
    by_cases q : k < ss.length
    · rw [if_pos q] at h1; rw [if_pos (by omega)] at h2; exact .inl ⟨h1, h2⟩
    · rw [if_neg q] at h1; rw [if_neg (by omega)] at h2
      right
      have hk : k - ss.length = 0 := by
        cases hq : k - ss.length with
        | zero => rfl
        | succ m => rw [hq] at h1; simp at h1
      have hk2 : k - bs.length = 0 := by omega
      rw [hk] at h1; rw [hk2] at h2
      simp at h1 h2
      exact ⟨h1.symm, h2.symm⟩
  refine ⟨by simp [l.len], fun k s' b' h1 h2 hn => ?_, fun k s' b' h1 h2 hn => ?_⟩
  · rcases split k s' b' h1 h2 with ⟨x, y⟩ | ⟨rfl, rfl⟩
    · exact l.non k s' b' x y hn
    · exact c1 hn
  · rcases split k s' b' h1 h2 with ⟨x, y⟩ | ⟨rfl, rfl⟩
    · exact l.tok k s' b' x y hn
    · exact c2 hn
section
variable {X : Cx} {h : AH} {Q : V → AH → Prop}
theorem spansL2 (HN : Has (Ecx X) K.probateref08_none A.probateref08_none_o) (HT : Has (Ecx X) K.probateref08_token A.probateref08_token) (g : Gm) (w : List Int) {N : Nat} (gw : GW g N) (hL : w.length ≤ 2 ^ 10) (n3 : 3 ≤ h.next) {M : Nat → Nat → Nat → Bool} {i : Nat} (hi : i < g.prods.length) {e st : Nat} (he : w = [] ∨ e = 1) {more : Bool} {h' : AH} (ms : MS h h' g w.length N M)
    {Q : Ex → Env → AH → Prop} {zQ : Lz Q} {z : Lz (AC.loop A.probateref08_Spans.L2)}
    (hQ : ∀ h2 e8 s8 bs, MS h h2 g w.length N M → LstAt h h2 w N g.prods[i].right bs → (bs = [] ∨ e8 = 1) → Q (.exit 4) [(1, .sl e st (ints w)), (2, .ptr h.nobj 0), (5, matV w.length N (h.nobj + 1)), (6, .bool more), (7, .int .i64 i), (8, .sl e8 s8 (bs.map (refV w.length))), (9, .int .i64 g.prods[i].right.length), (36, .bool false)] h2) :
    acZ (Ecx X) [(1, .sl e st (ints w)), (2, .ptr h.nobj 0), (5, matV w.length N (h.nobj + 1)), (6, .bool more), (7, .int .i64 i), (8, .sl 1 2 []), (9, .int .i64 0)] h' z zQ := by
  have hgc : gmC g = [.int .i64 g.terms, .int .i64 g.nons, .int .i64 g.start, .sl 2 0 (g.prods.map prV)] := rfl
  have hgp : (g.prods.map prV).getD i .undef = prV g.prods[i] := Enc.getD hi
  have hil : (i : Int) < g.prods.length := by omega
  have hlen := gw.len _ (List.getElem_mem hi)
  have hsym := gw.sym _ (List.getElem_mem hi)
  generalize g.prods[i] = p at *
  have hpc : prC p = [.int .i64 p.left, .sl 2 0 (p.right.map symV)] := rfl
  refine loopI (n := p.right.length) (fun mm env h2 => ∃ k e8 s8 bs, k ≤ p.right.length ∧ mm = p.right.length - k ∧ MS h h2 g w.length N M ∧ LstAt h h2 w N (p.right.take k) bs ∧ Own h h2 1 e8 s8 (bs.map (refV w.length)) ∧ (s8 ≤ 2 ∨ s8 < h2.next) ∧
      env = [(1, .sl e st (ints w)), (2, .ptr h.nobj 0), (5, matV w.length N (h.nobj + 1)), (6, .bool more), (7, .int .i64 i), (8, .sl e8 s8 (bs.map (refV w.length))), (9, .int .i64 k)]) ?_
    ⟨0, 1, 2, [], by omega, by omega, ms, ⟨by simp, fun k s b h1 => by simp at h1, fun k s b h1 => by simp at h1⟩, Own.full ms.gr 1 [], by omega, rfl⟩
  clear ms h'
  rintro mm env h2 ⟨k, e8, s8, bs, hk, rfl, ms, la, ow, ba, rfl⟩
  unfold A.probateref08_Spans.L2
  have hbl : bs.length = k := by rw [la.len]; simp; omega
  by_cases hlt : k < p.right.length
  · have hlt' : (k : Int) < p.right.length := by omega
    have hgs : (p.right.map symV).getD k .undef = symV p.right[k] := Enc.getD hlt
    have hw1 : IntKind.i64.wrap ((k : Int) + 1) = ((k + 1 : Nat) : Int) := by rw [wrap_i64 (by omega) (by omega)]; rfl
    obtain ⟨s0, s1⟩ := hsym _ (List.getElem_mem hlt)
    have htk := List.take_succ_eq_append_getElem hlt
    generalize p.right[k] = s at *
    have hsc : symC s = [.bool s.non, .int .i64 s.n] := rfl
    have nb := ms.nb
    have n0 : ¬ h.nobj = h2.nobj := by have := Nat.le_trans (Nat.le_add_right _ _) nb; omega
    have q0 : (h2.new (symC s)).objs h2.nobj = symC s := by simp
    have ms2 := ms.gr' ((Gr.refl h2).new (symC s))
    have la2 := la.gr ((Gr.refl h2).new (symC s))
    have ow2 := ow.new (symC s)
    have ob2 := ms2.ob
    have ba2 : s8 ≤ 2 ∨ s8 < (h2.new (symC s)).next := ba
    have n33 : 3 ≤ (h2.new (symC s)).next := Nat.le_trans n3 ow.gr.next
    simp [ms.ob, hgc, hil, hgp, prV, hpc, V.cells, hlt', hgs, symV, V.good, hsc, setAt, n0]
    rw [← hsc]
    generalize h2.new (symC s) = h3 at *
    cases hn : s.non with
    | true =>
      obtain ⟨m, hm⟩ : ∃ m : Nat, s.n = (m : Int) := ⟨s.n.toNat, by omega⟩
      have hmN : m < N := by have := s1 hn; omega
      have hmN' : (m : Int) < N := by omega
      have hmg := matV_get (L := w.length) (N := N) (b := h.nobj + 1) hmN
      have em : ∀ b : Nat, bs.map (refV w.length) ++ [V.sl 1 0 ((List.range (w.length + 1)).map fun a => .osl 1 (b + a) 0 (w.length + 1) (w.length + 1))] = (bs ++ [b]).map (refV w.length) := fun b => by rw [List.map_append]; rfl
      have hmg' : ((List.range N).map fun n => refV w.length (h.nobj + 1 + n * (w.length + 1))).getD m .undef = .sl 1 0 ((List.range (w.length + 1)).map fun a => .osl 1 (h.nobj + 1 + m * (w.length + 1) + a) 0 (w.length + 1) (w.length + 1)) := hmg
      simp [q0, hsc, hn, hm, matV, hmN', hmg', fillL, V.isAgg, V.cells]
      refine ow2.appF (by simp) rfl (by simp [hbl]; omega) fun o5 => ?_
      rw [em] at o5 ⊢
      simp [hw1]
      exact ⟨p.right.length - (k + 1), by omega, iv ⟨k + 1, _, _, _, by omega, rfl, ms2.to o5.gr (by rw [push_nobj]; exact Nat.le_refl _) (fun o _ => by rw [push_objs]), by rw [htk]; exact (la2.to (by rw [push_nobj]; exact Nat.le_refl _) (fun o _ => by rw [push_objs])).snoc (fun _ => by rw [hm]; rfl) (fun q => by rw [hn] at q; cases q), o5, by rw [push_next]; omega, by simp [matV]⟩⟩
    | false =>
      simp [q0, hsc, hn]
      refine ecall (token8_spec HN HT w s.n e st he (by omega) fun h4 g4 nb4 ra4 => ?_)
      have em : ∀ b : Nat, bs.map (refV w.length) ++ [V.sl 1 0 ((List.range (w.length + 1)).map fun a => .osl 1 (b + a) 0 (w.length + 1) (w.length + 1))] = (bs ++ [b]).map (refV w.length) := fun b => by rw [List.map_append]; rfl
      have hrv : ∀ b, refV w.length b = .sl 1 0 ((List.range (w.length + 1)).map fun a => .osl 1 (b + a) 0 (w.length + 1) (w.length + 1)) := fun _ => rfl
      rw [hrv h3.nobj]
      simp [fillL, V.isAgg, V.cells]
      have ow4 := ow2.on ba2 g4 n33
      have nb3 := ms2.nb
      refine ow4.appF (by simp) rfl (by simp [hbl]; omega) fun o5 => ?_
      rw [em] at o5 ⊢
      simp [hw1]
      exact ⟨p.right.length - (k + 1), by omega, iv ⟨k + 1, _, _, _, by omega, rfl, (ms2.gr' g4).to o5.gr (by rw [push_nobj]; exact Nat.le_refl _) (fun o _ => by rw [push_objs]), by rw [htk]; exact ((la2.gr g4).to (by rw [push_nobj]; exact Nat.le_refl _) (fun o _ => by rw [push_objs])).snoc (fun q => by rw [hn] at q; cases q) (fun _ => ⟨fun a ha => by rw [push_objs]; exact ra4 a ha, nb3, by rw [push_nobj]; exact nb4⟩), o5, by rw [push_next]; omega, by simp⟩⟩
  · have hlt' : ¬ (k : Int) < p.right.length := by omega
    obtain rfl : k = p.right.length := by omega
    rw [List.take_length] at la
    simp [ms.ob, hgc, hil, hgp, prV, hpc, V.cells, hlt']
    exact hQ h2 e8 s8 bs ms la (by
      rcases ow.el with q | q
      · left; simpa using q
      · exact .inr q)
/-- What is told of the tables: it is so. -/
def Sound (g : Gm) (w : List Int) (M : Nat → Nat → Nat → Bool) : Prop := ∀ n a b, M n a b = true → DvN g w n a b
theorem LstAt.cs {g : Gm} {h h' : AH} {w : List Int} {N : Nat} {ss : List Sy} {bs : List Nat} {M : Nat → Nat → Nat → Bool} (l : LstAt h h' w N ss bs) (ms : MS h h' g w.length N M) (hs : ∀ s ∈ ss, 0 ≤ s.n ∧ (s.non = true → s.n < N)) :
    ∀ k (h1 : k < bs.length), RefAt h' w.length bs[k] ((ss.map (symC2 w M))[k]'(by rw [List.length_map, ← l.len]; exact h1)) ∧ bs[k] + (w.length + 1) ≤ h'.nobj := fun k h1 => by
  have hk : k < ss.length := by rw [← l.len]; exact h1
  obtain ⟨s0, s1⟩ := hs _ (List.getElem_mem hk)
  rw [List.getElem_map]
  cases hn : (ss[k]).non with
  | true =>
    have e := l.non k _ _ (List.getElem?_eq_getElem hk) (List.getElem?_eq_getElem h1) hn
    have hN : (ss[k]).n.toNat < N := by have := s1 hn; omega
    have hi := idx_lt (L := w.length) hN (Nat.le_refl _)
    have nb := ms.nb
    refine ⟨?_, by rw [e]; omega⟩
    have : symC2 w M ss[k] = M (ss[k]).n.toNat := by unfold symC2; rw [hn]; rfl
    rw [e, this]
    exact ms.at' _ hN
  | false =>
    obtain ⟨a, b, c⟩ := l.tok k _ _ (List.getElem?_eq_getElem hk) (List.getElem?_eq_getElem h1) hn
    have : symC2 w M ss[k] = tokM w (ss[k]).n := by unfold symC2; rw [hn]; rfl
    rw [this]
    exact ⟨a, c⟩
theorem spansL4 (g : Gm) (w : List Int) {N : Nat} (gw : GW g N) (hL : w.length ≤ 2 ^ 10) {M : Nat → Nat → Nat → Bool} {i a : Nat} (hi : i < g.prods.length) (ha : a ≤ w.length) {e st : Nat} {more : Bool} {v8 : V} {o12 : Nat} {f : Nat → Bool} {h' : AH} (ms : MS h h' g w.length N M) (so : Sound g w M)
    (h12 : h'.objs o12 = boolsV f (w.length + 1)) (l12 : h.nobj + 1 + N * (w.length + 1) ≤ o12) (lt12 : o12 < h'.nobj) (hf : ∀ b, b ≤ w.length → f b = true → DvN g w g.prods[i].left a b)
    {Q : Ex → Env → AH → Prop} {zQ : Lz Q} {z : Lz (AC.loop A.probateref08_Spans.L4)}
    (hQ : ∀ h2 M2 more2, MS h h2 g w.length N M2 → Sound g w M2 → h'.nobj ≤ h2.nobj → (∀ o, h.nobj + 1 + N * (w.length + 1) ≤ o → o < h'.nobj → h2.objs o = h'.objs o) → falses N w.length M2 ≤ falses N w.length M →
      (more2 = false → more = false ∧ M2 = M ∧ ∀ b, a ≤ b → b ≤ w.length → f b = true → M g.prods[i].left.toNat a b = true) → (more2 = true → more = true ∨ falses N w.length M2 < falses N w.length M) →
      Q (.exit 8) [(1, .sl e st (ints w)), (2, .ptr h.nobj 0), (5, matV w.length N (h.nobj + 1)), (6, .bool more2), (7, .int .i64 i), (8, v8), (11, .int .i64 a), (12, .osl 1 o12 0 (w.length + 1) (w.length + 1)), (13, .int .i64 ((w.length + 1 : Nat) : Int)), (80, .bool false)] h2) :
    acZ (Ecx X) [(1, .sl e st (ints w)), (2, .ptr h.nobj 0), (5, matV w.length N (h.nobj + 1)), (6, .bool more), (7, .int .i64 i), (8, v8), (11, .int .i64 a), (12, .osl 1 o12 0 (w.length + 1) (w.length + 1)), (13, .int .i64 a)] h' z zQ := by
  have hgc : gmC g = [.int .i64 g.terms, .int .i64 g.nons, .int .i64 g.start, .sl 2 0 (g.prods.map prV)] := rfl
  have hgp : (g.prods.map prV).getD i .undef = prV g.prods[i] := Enc.getD hi
  have hil : (i : Int) < g.prods.length := by omega
  have hiw : (ints w).length = w.length := by simp [ints]
  obtain ⟨l0, l1⟩ := gw.left _ (List.getElem_mem hi)
  generalize g.prods[i] = p at *
  have hpc : prC p = [.int .i64 p.left, .sl 2 0 (p.right.map symV)] := rfl
  obtain ⟨n, hn⟩ : ∃ n : Nat, p.left = (n : Int) := ⟨p.left.toNat, by omega⟩
  have hnN : n < N := by omega
  have hnN' : (n : Int) < N := by omega
  rw [hn, Int.toNat_natCast] at hQ
  have hal : a < w.length + 1 := by omega
  have hal' : (a : Int) < (w.length : Int) + 1 := by omega
  refine loopI (n := w.length + 1 - a) (fun mm env h2 => ∃ b M2 more2, a ≤ b ∧ b ≤ w.length + 1 ∧ mm = w.length + 1 - b ∧ MS h h2 g w.length N M2 ∧ Sound g w M2 ∧ h'.nobj ≤ h2.nobj ∧ (∀ o, h.nobj + 1 + N * (w.length + 1) ≤ o → o < h'.nobj → h2.objs o = h'.objs o) ∧ falses N w.length M2 ≤ falses N w.length M ∧
      (more2 = false → more = false ∧ M2 = M ∧ ∀ b', a ≤ b' → b' < b → f b' = true → M n a b' = true) ∧ (more2 = true → more = true ∨ falses N w.length M2 < falses N w.length M) ∧
      env = [(1, .sl e st (ints w)), (2, .ptr h.nobj 0), (5, matV w.length N (h.nobj + 1)), (6, .bool more2), (7, .int .i64 i), (8, v8), (11, .int .i64 a), (12, .osl 1 o12 0 (w.length + 1) (w.length + 1)), (13, .int .i64 b)]) ?_
    ⟨a, M, more, Nat.le_refl _, by omega, rfl, ms, so, Nat.le_refl _, fun _ _ _ => rfl, Nat.le_refl _, fun e => ⟨e, rfl, fun b' h1 h2 => by omega⟩, fun e => .inl e, rfl⟩
  rintro mm env h2 ⟨b, M2, more2, hab, hbl, rfl, ms2, so2, nb2, ob2, fl2, hm0, hm1, rfl⟩
  unfold A.probateref08_Spans.L4
  by_cases hle : b ≤ w.length
  · have hle' : (b : Int) ≤ w.length := by omega
    have hbl' : b < w.length + 1 := by omega
    have hbl2 : (b : Int) < (w.length : Int) + 1 := by omega
    have hw1 : IntKind.i64.wrap ((b : Int) + 1) = ((b + 1 : Nat) : Int) := by rw [wrap_i64 (by omega) (by omega)]; rfl
    have q12 : h2.objs o12 = boolsV f (w.length + 1) := (ob2 _ l12 lt12).trans h12
    have hgf : (boolsV f (w.length + 1)).getD b .undef = .bool (f b) := boolsV_get hbl'
    have hmg : ((List.range N).map fun n => refV w.length (h.nobj + 1 + n * (w.length + 1))).getD n .undef = .sl 1 0 ((List.range (w.length + 1)).map fun a => .osl 1 (h.nobj + 1 + n * (w.length + 1) + a) 0 (w.length + 1) (w.length + 1)) := matV_get hnN
    have hrg := refV_get (L := w.length) (b := h.nobj + 1 + n * (w.length + 1)) ha
    have hma := ms2.at' n hnN a ha
    have hgm : (boolsV (M2 n a) (w.length + 1)).getD b .undef = .bool (M2 n a b) := boolsV_get hbl'
    have hset := boolsV_set (M2 n a) hbl' true
    cases hfb : f b with
    | false =>
      rw [hfb] at hgf
      simp [hiw, hle', hbl', hbl2, q12, hgf, hw1]
      exact ⟨w.length + 1 - (b + 1), by omega, iv ⟨b + 1, M2, more2, by omega, by omega, rfl, ms2, so2, nb2, ob2, fl2, fun e => by
        obtain ⟨x, y, z⟩ := hm0 e
        refine ⟨x, y, fun b' h1 h2 h3 => ?_⟩
        by_cases q : b' = b
        · subst q; rw [hfb] at h3; cases h3
        · exact z b' h1 (by omega) h3, hm1, rfl⟩⟩
    | true =>
      rw [hfb] at hgf
      cases hM : M2 n a b with
      | true =>
        rw [hM] at hgm
        simp [hiw, hle', hbl', hbl2, q12, hgf, hw1, ms2.ob, hgc, hil, hgp, prV, hpc, V.cells, hn, matV, hnN', hmg, hal, hal', hrg, hma, hgm]
        exact ⟨w.length + 1 - (b + 1), by omega, iv ⟨b + 1, M2, more2, by omega, by omega, rfl, ms2, so2, nb2, ob2, fl2, fun e => by
          obtain ⟨x, y, z⟩ := hm0 e
          refine ⟨x, y, fun b' h1 h2 h3 => ?_⟩
          by_cases q : b' = b
          · subst q; rw [← y]; exact hM
          · exact z b' h1 (by omega) h3, hm1, rfl⟩⟩
      | false =>
        rw [hM] at hgm
        have hix := idx_lt (L := w.length) hnN ha
        have ms3 := ms2.set hnN ha hle
        have hfs := falses_set (N := N) hnN ha hle hM
        have nbm := ms.nb
        simp [hiw, hle', hbl', hbl2, q12, hgf, hw1, ms2.ob, hgc, hil, hgp, prV, hpc, V.cells, V.good, setAt, hn, matV, hnN', hmg, hal, hal', hrg, hma, hgm, hset]
        refine ⟨hle, ?_⟩
        exact ⟨w.length + 1 - (b + 1), by omega, iv ⟨b + 1, setM M2 n a b, true, by omega, by omega, rfl, ms3, fun n' a' b' q => by
            simp only [setM] at q
            split at q
            · rename_i c
              obtain ⟨rfl, rfl, rfl⟩ := c
              have := hf b' hle hfb
              rwa [hn] at this
            · exact so2 _ _ _ q, by rw [set_nobj]; exact nb2, fun o h1 h2 => by rw [set_objs_ne _ _ _ (by omega)]; exact ob2 o h1 h2, by omega, (fun e => nomatch e), (fun _ => .inr (by omega)), rfl⟩⟩
  · have hle' : ¬ (b : Int) ≤ w.length := by omega
    obtain rfl : b = w.length + 1 := by omega
    have hx : ¬ ((w.length : Int) + 1 ≤ w.length) := by omega
    simp [hiw, hx]
    have := hQ h2 M2 more2 ms2 so2 nb2 ob2 fl2 (fun e => by
      obtain ⟨x, y, z⟩ := hm0 e
      exact ⟨x, y, fun b' h1 h2 h3 => z b' h1 (by omega) h3⟩) hm1
    simpa using this
/-- It has all that a production tells, from the places before A. -/
def HoldsP (w : List Int) (M : Nat → Nat → Nat → Bool) (p : Pr) (A : Nat) : Prop := ∀ a b, a < A → RowR w.length (p.right.map (symC2 w M)) a b → M p.left.toNat a b = true
theorem spansL3 (HR : Has (Ecx X) K.probateref08_row A.probateref08_row_o) (g : Gm) (w : List Int) {N : Nat} (gw : GW g N) (hL : w.length ≤ 2 ^ 10) {M : Nat → Nat → Nat → Bool} {i : Nat} (hi : i < g.prods.length) {e st : Nat} {more : Bool} {e8 s8 : Nat} {bs : List Nat} {h' : AH} (ms : MS h h' g w.length N M) (so : Sound g w M)
    (la : LstAt h h' w N g.prods[i].right bs) (he8 : bs = [] ∨ e8 = 1) {Q : Ex → Env → AH → Prop} {zQ : Lz Q} {z : Lz (AC.loop A.probateref08_Spans.L3)}
    (hQ : ∀ h2 M2 more2, MS h h2 g w.length N M2 → Sound g w M2 → falses N w.length M2 ≤ falses N w.length M →
      (more2 = false → more = false ∧ M2 = M ∧ HoldsP w M g.prods[i] (w.length + 1)) → (more2 = true → more = true ∨ falses N w.length M2 < falses N w.length M) →
      Q (.exit 6) [(1, .sl e st (ints w)), (2, .ptr h.nobj 0), (5, matV w.length N (h.nobj + 1)), (6, .bool more2), (7, .int .i64 i), (8, .sl e8 s8 (bs.map (refV w.length))), (11, .int .i64 ((w.length + 1 : Nat) : Int)), (68, .bool false)] h2) :
    acZ (Ecx X) [(1, .sl e st (ints w)), (2, .ptr h.nobj 0), (5, matV w.length N (h.nobj + 1)), (6, .bool more), (7, .int .i64 i), (8, .sl e8 s8 (bs.map (refV w.length))), (11, .int .i64 0)] h' z zQ := by
  have hiw : (ints w).length = w.length := by simp [ints]
  have hlen := gw.len _ (List.getElem_mem hi)
  have hsym := gw.sym _ (List.getElem_mem hi)
  refine loopI (n := w.length + 1) (fun mm env h2 => ∃ a M2 more2, a ≤ w.length + 1 ∧ mm = w.length + 1 - a ∧ MS h h2 g w.length N M2 ∧ Sound g w M2 ∧ LstAt h h2 w N g.prods[i].right bs ∧ falses N w.length M2 ≤ falses N w.length M ∧
      (more2 = false → more = false ∧ M2 = M ∧ HoldsP w M g.prods[i] a) ∧ (more2 = true → more = true ∨ falses N w.length M2 < falses N w.length M) ∧
      env = [(1, .sl e st (ints w)), (2, .ptr h.nobj 0), (5, matV w.length N (h.nobj + 1)), (6, .bool more2), (7, .int .i64 i), (8, .sl e8 s8 (bs.map (refV w.length))), (11, .int .i64 a)]) ?_
    ⟨0, M, more, by omega, by omega, ms, so, la, Nat.le_refl _, fun q => ⟨q, rfl, fun a b h1 => by omega⟩, fun q => .inl q, rfl⟩
  clear ms so la h'
  rintro mm env h2 ⟨a, M2, more2, ha, rfl, ms2, so2, la2, fl2, hm0, hm1, rfl⟩
  unfold A.probateref08_Spans.L3
  by_cases hle : a ≤ w.length
  · have hle' : (a : Int) ≤ w.length := by omega
    have hw1 : IntKind.i64.wrap ((a : Int) + 1) = ((a + 1 : Nat) : Int) := by rw [wrap_i64 (by omega) (by omega)]; rfl
    have hcs := la2.cs ms2 hsym
    simp [hiw, hle']
    refine ecall (row_spec HR (L := w.length) (from' := a) (by omega) hle bs (g.prods[i].right.map (symC2 w M2)) (by rw [List.length_map, la2.len]) (by rw [la2.len]; exact hlen) hcs e8 s8 he8 fun h3 o3 g3 lo3 lt3 ob3 => ?_)
    have hfi : ∀ b, b ≤ w.length → (foldR (g.prods[i].right.map (symC2 w M2)) (fun b => decide (b = a)) b = true ↔ RowR w.length (g.prods[i].right.map (symC2 w M2)) a b) := fun b hb => by
      rw [foldR_iff _ _ b hb]
      constructor
      · rintro ⟨a', _, h2, h3⟩; simp at h2; subst h2; exact h3
      · intro h; exact ⟨a, hle, by simp, h⟩
    have nb2 := ms2.nb
    simp
    refine spansL4 (f := foldR (g.prods[i].right.map (symC2 w M2)) fun b => decide (b = a)) g w gw hL hi hle (ms2.gr' g3) so2 ob3 (by omega) lt3 (fun b hb hf => DvN.iff.2 ⟨_, List.getElem_mem hi, rfl, row_sound so2 _ _ _ (fun s hs => (hsym s hs).1) hle ((hfi b hb).1 hf)⟩) (fun h4 M4 more4 ms4 so4 nb4 ob4 fl4 x0 x1 => ?_)
    have la4 : LstAt h h4 w N g.prods[i].right bs := by
      have la3 := la2.gr g3
      exact ⟨la3.len, la3.non, fun k s b h1 h2 hn => by
        obtain ⟨c1, c2, c3⟩ := la3.tok k s b h1 h2 hn
        exact ⟨fun x hx => by rw [ob4 _ (by omega) (by omega)]; exact c1 x hx, c2, by omega⟩⟩
    simp [hw1]
    exact ⟨w.length + 1 - (a + 1), by omega, iv ⟨a + 1, M4, more4, by omega, rfl, ms4, so4, la4, by omega, fun q => by
      obtain ⟨y1, y2, y3⟩ := x0 q
      obtain ⟨z1, z2, z3⟩ := hm0 y1
      subst z2
      refine ⟨z1, y2, fun a' b h1 h2 => ?_⟩
      by_cases q : a' = a
      · subst q
        have := RowR.le hle h2
        exact y3 b this.1 this.2 ((hfi b this.2).2 h2)
      · exact z3 a' b (by omega) h2, fun q => by
      rcases x1 q with y | y
      · rcases hm1 y with z | z
        · exact .inl z
        · exact .inr (by omega)
      · exact .inr (by omega), rfl⟩⟩
  · obtain rfl : a = w.length + 1 := by omega
    have hx : ¬ ((w.length : Int) + 1 ≤ w.length) := by omega
    simp [hiw, hx]
    simpa using hQ h2 M2 more2 ms2 so2 fl2 hm0 hm1
/-- The table holds. -/
def HoldsM (g : Gm) (w : List Int) (M : Nat → Nat → Nat → Bool) : Prop := ∀ p ∈ g.prods, HoldsP w M p (w.length + 1)
/-- One turn. -/
theorem spansL1 (HN : Has (Ecx X) K.probateref08_none A.probateref08_none_o) (HT : Has (Ecx X) K.probateref08_token A.probateref08_token) (HR : Has (Ecx X) K.probateref08_row A.probateref08_row_o) (g : Gm) (w : List Int) {N : Nat} (gw : GW g N) (hL : w.length ≤ 2 ^ 10) (n3 : 3 ≤ h.next) {M : Nat → Nat → Nat → Bool} {e st : Nat} (he : w = [] ∨ e = 1) {h' : AH} (ms : MS h h' g w.length N M) (so : Sound g w M)
    {Q : Ex → Env → AH → Prop} {zQ : Lz Q} {z : Lz (AC.loop A.probateref08_Spans.L1)}
    (hQ : ∀ h2 M2 more2, MS h h2 g w.length N M2 → Sound g w M2 → (more2 = false → M2 = M ∧ HoldsM g w M) → (more2 = true → falses N w.length M2 < falses N w.length M) →
      Q (.exit 2) [(1, .sl e st (ints w)), (2, .ptr h.nobj 0), (5, matV w.length N (h.nobj + 1)), (6, .bool more2), (7, .int .i64 g.prods.length), (24, .bool false)] h2) :
    acZ (Ecx X) [(1, .sl e st (ints w)), (2, .ptr h.nobj 0), (5, matV w.length N (h.nobj + 1)), (6, .bool false), (7, .int .i64 0)] h' z zQ := by
  have hgc : gmC g = [.int .i64 g.terms, .int .i64 g.nons, .int .i64 g.start, .sl 2 0 (g.prods.map prV)] := rfl
  have hgb := gw.prods
  refine loopI (n := g.prods.length) (fun mm env h2 => ∃ i M2 more2, i ≤ g.prods.length ∧ mm = g.prods.length - i ∧ MS h h2 g w.length N M2 ∧ Sound g w M2 ∧
      (more2 = false → M2 = M ∧ ∀ p ∈ g.prods.take i, HoldsP w M p (w.length + 1)) ∧ (more2 = true → falses N w.length M2 < falses N w.length M) ∧
      env = [(1, .sl e st (ints w)), (2, .ptr h.nobj 0), (5, matV w.length N (h.nobj + 1)), (6, .bool more2), (7, .int .i64 i)]) ?_
    ⟨0, M, false, by omega, by omega, ms, so, fun _ => ⟨rfl, by simp⟩, (fun q => nomatch q), rfl⟩
  clear ms so h'
  rintro mm env h2 ⟨i, M2, more2, hi, rfl, ms2, so2, hm0, hm1, rfl⟩
  unfold A.probateref08_Spans.L1
  by_cases hlt : i < g.prods.length
  · have hlt' : (i : Int) < g.prods.length := by omega
    have hw1 : IntKind.i64.wrap ((i : Int) + 1) = ((i + 1 : Nat) : Int) := by rw [wrap_i64 (by omega) (by omega)]; rfl
    simp [ms2.ob, hgc, hlt', fillL]
    refine spansL2 HN HT g w gw hL n3 hlt he ms2 (fun h3 e8 s8 bs ms3 la3 he8 => ?_)
    simp
    refine spansL3 HR g w gw hL hlt ms3 so2 la3 he8 (fun h4 M4 more4 ms4 so4 fl4 x0 x1 => ?_)
    simp [hw1]
    exact ⟨g.prods.length - (i + 1), by omega, iv ⟨i + 1, M4, more4, by omega, rfl, ms4, so4, fun q => by
      obtain ⟨y1, y2, y3⟩ := x0 q
      obtain ⟨z1, z2⟩ := hm0 y1
      subst z1
      refine ⟨y2, fun p hp => ?_⟩
      rw [List.take_succ_eq_append_getElem hlt] at hp
      rcases List.mem_append.1 hp with hp | hp
      · exact z2 p hp
      · simp at hp; subst hp; exact y3, fun q => by
      rcases x1 q with y | y
      · have := hm1 y; omega
      · cases more2 with
        | false => have := (hm0 rfl).1; subst this; exact y
        | true => have := hm1 rfl; omega, rfl⟩⟩
  · have hlt' : ¬ (i : Int) < g.prods.length := by omega
    obtain rfl : i = g.prods.length := by omega
    rw [List.take_length] at hm0
    simp [ms2.ob, hgc, hlt']
    exact hQ h2 M2 more2 ms2 so2 hm0 hm1
theorem holds_all {g : Gm} {w : List Int} {N : Nat} (gw : GW g N) {M : Nat → Nat → Nat → Bool} (so : Sound g w M) (ho : HoldsM g w M) {n : Nat} {a b : Nat} (ha : a ≤ w.length) : M n a b = true ↔ DvN g w n a b := by
  refine ⟨so n a b, fun d => ?_⟩
  have := row_complete (N := N) (M := M) gw.left (fun p hp a b ha h => ho p hp a b (by omega) h) d
  obtain ⟨m, _, _, h3, h4⟩ := this
  cases h4
  simpa [symC2] using h3
structure LSp (X : Cx) : Prop where
  none : Has (Ecx X) K.probateref08_none A.probateref08_none_o
  token : Has (Ecx X) K.probateref08_token A.probateref08_token
  row : Has (Ecx X) K.probateref08_row A.probateref08_row_o
  spans : Has (Ecx X) K.probateref08_Spans A.probateref08_Spans
  isIn : Has (Ecx X) K.probateref08_In A.probateref08_In
/-- The table of all that comes: in an object behind the grammar's. -/
theorem spans_spec (L : LSp X) (g : Gm) (w : List Int) {N : Nat} (gw : GW g N) (hL : w.length ≤ 2 ^ 10) {e st : Nat} (he : w = [] ∨ e = 1)
    (hQ : ∀ M h', (∀ (n a b : Nat), a ≤ w.length → (M n a b = true ↔ DvN g w n a b)) → Gr h h' → MS h h' g w.length N M → Q (matV w.length N (h.nobj + 1)) h') : Ecx X K.probateref08_Spans [gmV g, .sl e st (ints w)] h Q := by
  refine fn_any L.spans (by simp [A.probateref08_Spans]) fun wf => ?_
  have hgc : gmC g = [.int .i64 g.terms, .int .i64 g.nons, .int .i64 g.start, .sl 2 0 (g.prods.map prV)] := rfl
  have hiw : (ints w).length = w.length := by simp [ints]
  have b0 : (h.new (gmC g)).objs h.nobj = gmC g := by simp
  have b1 : (h.new (gmC g)).nobj = h.nobj + 1 := by simp
  have gr := (Gr.refl h).new (gmC g)
  have n3 := wf.next
  simp [A.probateref08_Spans, gmV, V.cells, V.good]
  generalize h.new (gmC g) = h1 at *
  simp [b0, hgc, hiw, gw.nons]
  refine ecall (none_spec L.none N w.length (by have := gw.big; omega) (by omega) ?_)
  rw [b1]
  have ms0 : MS h (rowsH h1 (fun _ => boolsV (fun _ => false) (w.length + 1)) (N * (w.length + 1))) g w.length N (fun _ _ _ => false) := by
    refine ⟨gr.trans (rowsH_gr h1 _ _), by rw [rowsH_old _ _ (by omega)]; exact b0, by rw [rowsH_nobj, b1]; exact Nat.le_refl _, fun n hn a ha => ?_⟩
    have := idx_lt (L := w.length) hn ha
    rw [show h.nobj + 1 + n * (w.length + 1) + a = h1.nobj + (n * (w.length + 1) + a) by omega, rowsH_at _ _ this]
  simp
  refine loopI (n := 2 * falses N w.length (fun _ _ _ => false) + 1) (fun mm env h2 => ∃ M more, mm = 2 * falses N w.length M + (if more then 1 else 0) ∧ MS h h2 g w.length N M ∧ Sound g w M ∧ (more = false → HoldsM g w M) ∧
      env = [(1, .sl e st (ints w)), (2, .ptr h.nobj 0), (5, matV w.length N (h.nobj + 1)), (6, .bool more)]) ?_
    ⟨fun _ _ _ => false, true, rfl, ms0, (fun n a b q => nomatch q), (fun q => nomatch q), rfl⟩
  rintro mm env h2 ⟨M, more, rfl, ms, so, hm, rfl⟩
  unfold A.probateref08_Spans.L0
  cases more with
  | true =>
    simp
    refine spansL1 L.none L.token L.row g w gw hL n3 he ms so (fun h3 M3 more3 ms3 so3 x0 x1 => ?_)
    simp
    cases more3 with
    | true => exact ⟨_, by have := x1 rfl; show 2 * falses N w.length M3 + 1 < _; omega, iv ⟨M3, true, rfl, ms3, so3, (fun q => nomatch q), rfl⟩⟩
    | false =>
      obtain ⟨rfl, ho⟩ := x0 rfl
      exact ⟨2 * falses N w.length M3, by omega, iv ⟨M3, false, by simp, ms3, so3, fun _ => ho, rfl⟩⟩
  | false =>
    simp
    exact hQ M h2 (fun n a b ha => holds_all gw so (hm rfl) ha) ms.gr ms
/-- Does a nonterminal come to a part? -/
noncomputable def dvB (g : Gm) (w : List Int) (n : Int) (a b : Nat) : Bool := @decide (DvN g w n a b) (Classical.propDecidable _)
theorem dvB_iff {g : Gm} {w : List Int} {n : Int} {a b : Nat} : dvB g w n a b = true ↔ DvN g w n a b := by
  unfold dvB; exact @decide_eq_true_iff _ (Classical.propDecidable _)
/-- Does a word come of a grammar? -/
noncomputable def inG (g : Gm) (w : List Int) : Bool := dvB g w g.start 0 w.length
noncomputable def spanRow (g : Gm) (w : List Int) (k : Nat) : List V := boolsV (dvB g w ((k / (w.length + 1) : Nat) : Int) (k % (w.length + 1))) (w.length + 1)
/-- The same, told of one heap. -/
theorem spans_one (L : LSp X) (g : Gm) (w : List Int) {N : Nat} (gw : GW g N) (hL : w.length ≤ 2 ^ 10) {e st : Nat} (he : w = [] ∨ e = 1)
    (hQ : Q (matV w.length N (h.nobj + 1)) (rowsH (h.new (gmC g)) (spanRow g w) (N * (w.length + 1)))) : Ecx X K.probateref08_Spans [gmV g, .sl e st (ints w)] h Q := by
  refine Ecx.wf fun wf => Ecx.weak (spans_spec L g w gw hL he fun M h' hM gr ms => ?_)
  have nb := ms.nb
  refine ⟨_, _, .same _, ⟨by simp; exact gr.next, by simp; omega, fun s e' hs => ?_, fun o ho => ?_⟩, Bdd_matV (by simp), hQ⟩
  · simp at hs ⊢
    exact ⟨by rw [gr.tips _ (wf.tips _ _ hs).2]; exact hs, .inr hs⟩
  · simp at ho
    by_cases c : o < h.nobj
    · rw [rowsH_old _ _ (by simp; omega), new_objs_ne _ _ (by omega), gr.objs o c]
      exact ⟨WkL.refl _, .inl ⟨c, rfl⟩⟩
    · by_cases c2 : o = h.nobj
      · subst c2
        rw [rowsH_old _ _ (by simp), new_objs_same, ms.ob]
        exact ⟨WkL.refl _, .inr fun v hv => (gm_bdd g _ _ v hv)⟩
      · obtain ⟨k, rfl⟩ : ∃ k, o = h.nobj + 1 + k := ⟨o - h.nobj - 1, by omega⟩
        have hk : k < N * (w.length + 1) := by omega
        have e1 := rowsH_at (h.new (gmC g)) (spanRow g w) hk
        rw [new_nobj] at e1
        rw [e1]
        have hmod : k % (w.length + 1) ≤ w.length := by have := Nat.mod_lt k (show 0 < w.length + 1 by omega); omega
        have hdiv : k / (w.length + 1) < N := Nat.div_lt_of_lt_mul (by rw [Nat.mul_comm]; exact hk)
        have e2 := ms.at' _ hdiv _ hmod
        have e3 : h.nobj + 1 + k / (w.length + 1) * (w.length + 1) + k % (w.length + 1) = h.nobj + 1 + k := by
          have := Nat.div_add_mod k (w.length + 1)
          rw [Nat.mul_comm] at this; omega
        rw [e3] at e2
        have e4 : h'.objs (h.nobj + 1 + k) = spanRow g w k := by
          rw [e2]
          refine boolsV_congr fun b _ => Bool.eq_iff_iff.2 ?_
          rw [hM _ _ _ hmod, dvB_iff]
        rw [e4]
        exact ⟨WkL.refl _, .inr fun v hv => Bdd_bools _ _ _ _ v hv⟩
theorem in_spec (L : LSp X) (g : Gm) (w : List Int) {N : Nat} (gw : GW g N) (hs : 0 ≤ g.start ∧ g.start < N) (hL : w.length ≤ 2 ^ 10) {e st : Nat} (he : w = [] ∨ e = 1) (hQ : Q (.bool (inG g w)) h) : Ecx X K.probateref08_In [gmV g, .sl e st (ints w)] h Q := by
  refine fn_walk L.isIn (by simp [A.probateref08_In]) fun wf => ?_
  have hgc : gmC g = [.int .i64 g.terms, .int .i64 g.nons, .int .i64 g.start, .sl 2 0 (g.prods.map prV)] := rfl
  have hiw : (ints w).length = w.length := by simp [ints]
  have gr := (Gr.refl h).new (gmC g)
  have b0 : (h.new (gmC g)).objs h.nobj = gmC g := by simp
  have b1 : (h.new (gmC g)).nobj = h.nobj + 1 := by simp
  simp [A.probateref08_In, gmV, V.cells, V.good]
  generalize h.new (gmC g) = h1 at *
  simp [b0, hgc]
  rw [← hgc]
  refine dcallE _ _ (spans_one L g w gw hL he ⟨rfl, rfl⟩) ?_
  obtain ⟨n, hn⟩ : ∃ n : Nat, g.start = (n : Int) := ⟨g.start.toNat, by omega⟩
  have hnN : n < N := by omega
  have hnN' : (n : Int) < N := by omega
  have hgr2 : Gr h1 (rowsH (h1.new (gmC g)) (spanRow g w) (N * (w.length + 1))) := ((Gr.refl h1).new _).trans (rowsH_gr _ _ _)
  have q0 : (rowsH (h1.new (gmC g)) (spanRow g w) (N * (w.length + 1))).objs h.nobj = gmC g := by rw [hgr2.objs _ (by omega)]; exact b0
  have q1 : (rowsH (h1.new (gmC g)) (spanRow g w) (N * (w.length + 1))).objs (h1.nobj + 1 + n * (w.length + 1)) = boolsV (dvB g w n 0) (w.length + 1) := by
    have hi := idx_lt (L := w.length) hnN (Nat.zero_le _)
    have := rowsH_at (h1.new (gmC g)) (spanRow g w) (i := n * (w.length + 1)) (by omega)
    rw [new_nobj] at this
    rw [this]
    unfold spanRow
    rw [Nat.mul_div_cancel _ (by omega), Nat.mul_mod_left]
  generalize rowsH (h1.new (gmC g)) (spanRow g w) (N * (w.length + 1)) = h2 at *
  have hmg : ((List.range N).map fun n => refV w.length (h1.nobj + 1 + n * (w.length + 1))).getD n .undef = .sl 1 0 ((List.range (w.length + 1)).map fun a => .osl 1 (h1.nobj + 1 + n * (w.length + 1) + a) 0 (w.length + 1) (w.length + 1)) := matV_get hnN
  have hrg := refV_get (L := w.length) (b := h1.nobj + 1 + n * (w.length + 1)) (a := 0) (by omega)
  have hgb : (boolsV (dvB g w n 0) (w.length + 1)).getD w.length .undef = .bool (dvB g w n 0 w.length) := boolsV_get (by omega)
  have hin : inG g w = dvB g w n 0 w.length := by unfold inG; rw [hn]
  rw [hin] at hQ
  have hgc' : gmC g = [.int .i64 g.terms, .int .i64 g.nons, .int .i64 (n : Int), .sl 2 0 (g.prods.map prV)] := by rw [hgc, hn]
  simp [q0, hgc', matV, hnN', hmg, V.cells, hrg, q1, hgb, hiw]
  refine ⟨by rw [b0, hgc']; simp, by omega, fin_wk (gr.trans hgr2) (.same _) (by simp) hQ⟩
end
end Go.Proofs.Ytajaoldljichaaa.Al
namespace Go.Proofs.Ytajaoldljichaaa.Al
open Go Go.RowKit
set_option linter.unusedSimpArgs false
set_option linter.unusedVariables false
attribute [-simp] List.getD_eq_getElem?_getD Int.not_lt Int.not_le List.map_take
theorem gw_right {g : Gm} (h : rightG g = true) : GW g g.nons.toNat := by
  obtain ⟨⟨h1, h2, h3, h4, h5, h6, h7⟩, hp⟩ := rightG_iff.1 h
  refine ⟨by omega, by omega, by omega, fun p q => ?_, fun p q => ?_, fun p q s hs => ?_⟩
  · obtain ⟨a, b, c, d⟩ := hp p q; omega
  · obtain ⟨a, b, c, d⟩ := hp p q; omega
  · obtain ⟨a, b, c, d⟩ := hp p q
    obtain ⟨e, f⟩ := d s hs
    refine ⟨e, fun hn => ?_⟩
    rw [if_pos hn] at f
    omega
/-- What is not next at the last of closed sets does not stand there. -/
theorem closed_end {g : Gm} {w : List Int} {ss : List (List It)} (hl : LookOk g w ss) (hc : ClosedP g w ss) {m : Nat} (hm : ss.length = m + 1) (hi : m < ss.length) (h : inG g (w.take m) = true) : (nextN g ss[m]).testBit 16 = true := by
  have hlw := hl.2.2.1
  have hlen : (w.take m).length = m := by simp; omega
  have hd : DvN g (w.take m) g.start 0 (w.take m).length := dvB_iff.1 h
  rcases closed_word hl hc hm (u := w.take m) (fun a h1 h2 => by simp [List.getD_eq_getElem?_getD, show a < w.length by omega]) hd with ⟨hb, x, hx, e1, e2, e3, e4⟩ | ⟨h1, _⟩
  · refine nextN_bit.2 ⟨hl.1, x, ?_, ?_⟩
    · simp only [hlen] at hx; exact hx
    · unfold bitI; rw [if_pos e1, e2]; simp [e3, e4]
  · omega
theorem closed_tok {g : Gm} {w : List Int} {ss : List (List It)} (hl : LookOk g w ss) (hc : ClosedP g w ss) {m : Nat} (hm : ss.length = m + 1) (hi : m < ss.length) (hw : m < w.length) (h : inG g w = true) : (nextN g ss[m]).testBit (w[m]).toNat = true := by
  have hd : DvN g w g.start 0 w.length := dvB_iff.1 h
  rcases closed_word hl hc hm (u := w) (fun a h1 h2 => by simp [List.getD_eq_getElem?_getD, h1]) hd with ⟨hb, _⟩ | ⟨_, _, _, y, hy, e⟩
  · omega
  · refine nextN_bit.2 ⟨hl.1, y, hy, ?_⟩
    obtain ⟨q0, q1, q2, q3, q4, q5⟩ := mayI_iff.1 (hl.2.2.2 m hi y hy)
    unfold bitI; rw [if_pos (okI_iff.2 ⟨q0, q1, q2, q3⟩), e]; simp
structure LCm (X : Cx) (f : Nat) : Prop where
  cl : LCl2 X f
  lw : LLw X
  nx : LNx X
  sp : LSp X
  fits : Has (Ecx X) K.probateref04_Fits A.probateref04_Fits
  rt : Has (Ecx X) K.probateref04_Right A.probateref04_Right
section
variable {X : Cx} {h : AH} {Q : V → AH → Prop} {f : Nat}
theorem closedMeans_spec (L : LCm X f) (HA : Has (Ecx X) K.probatelaw19_awake A.probatelaw19_awake) (H : Has (Ecx X) K.probatelaw19_ClosedMeans A.probatelaw19_ClosedMeans) {g : Gm} {w : List Int} {ss : List (List It)}
    (hQ : Q (.bool true) h) : Ecx X K.probatelaw19_ClosedMeans [gmV g, .sl 1 0 (ints w), .sl 1 0 (ss.map setV)] h Q := by
  refine fn_walk H (by simp [A.probatelaw19_ClosedMeans]) fun wf => ?_
  have gr1 := (Gr.refl h).new (gmC g)
  have gd : (gmC g).length = 4 ∧ (gmC g).take 4 = gmC g := ⟨rfl, rfl⟩
  simp [A.probatelaw19_ClosedMeans, gmV, V.cells, V.good, gd]
  refine ecall (awake19_spec L.cl HA ?_)
  simp [gd]
  refine ecall (large17_spec L.lw g w ?_)
  by_cases c1 : large17 g w = true
  · simp [c1]
    exact fin_wk gr1 (.same _) (by simp) hQ
  have c1' : large17 g w = false := by simpa using c1
  simp [c1']
  refine ecall (large19_spec L.lw ss ?_)
  by_cases c2 : large19 ss = true
  · simp [c2]
    exact fin_wk gr1 (.same _) (by simp) hQ
  have c2' : large19 ss = false := by simpa using c2
  have hp : g.prods.length ≤ 20 ∧ w.length ≤ 40 ∧ ∀ p ∈ g.prods, p.right.length ≤ 20 := by
    simp only [large17, large9, Bool.or_eq_false_iff, Bool.and_eq_false_iff, decide_eq_false_iff_not, List.any_eq_false, decide_eq_true_eq] at c1'
    refine ⟨by omega, by omega, fun p hp => by have := c1'.1.1.1.2 p hp; omega⟩
  have hq : ss.length ≤ 30 ∧ ∀ x ∈ ss, x.length ≤ 200 := by
    simp only [large19, Bool.or_eq_false_iff, decide_eq_false_iff_not, List.any_eq_false, decide_eq_true_eq] at c2'
    exact ⟨by omega, fun x hx => by have := c2'.2 x hx; omega⟩
  have hz : SzG g ss := ⟨by omega, fun p hp' => by have := hp.2.2 p hp'; omega, by omega, fun x hx => by have := hq.2 x hx; omega⟩
  have hiw : (ints w).length = w.length := by simp [ints]
  by_cases c3 : (8 : Int) < w.length
  · simp [c2', c3, hiw]
    exact fin_wk gr1 (.same _) (by simp) hQ
  simp [c2', c3, hiw, gd]
  refine ecall (closed_spec L.cl.cl hz (by omega) ?_)
  by_cases c4 : LookOk g w ss ∧ ClosedP g w ss
  case neg =>
    rw [bP_f c4]
    simp
    exact fin_wk gr1 (.same _) (by simp) hQ
  obtain ⟨hl, hc⟩ := c4
  rw [bP_t ⟨hl, hc⟩]
  simp [gd]
  refine ecall (fitsR_spec L.fits L.rt _ _ _ _ w 0 (by omega) ?_)
  cases c5 : fitsW g.terms w with
  | false =>
    simp
    exact fin_wk gr1 (.same _) (by simp) hQ
  | true =>
    obtain ⟨m, hm⟩ : ∃ m, ss.length = m + 1 := ⟨ss.length - 1, by have := hl.2.1; omega⟩
    have hw1 : IntKind.i64.wrap ((ss.length : Int) - 1) = (m : Int) := by rw [wrap_i64 (by omega) (by omega)]; omega
    have hi : m < ss.length := by omega
    have hi' : (m : Int) < ss.length := by omega
    have hgm : (ss.map setV).getD m .undef = .sl 3 0 (ss[m].map itV) := by rw [Enc.getD hi]; rfl
    have hlw := hl.2.2.1
    have hlt := nextN_lt g ss[m]
    have okg : GmOk g := ⟨by unfold maxLen; omega, fun p hp' => by have := hp.2.2 p hp'; unfold maxLen; omega⟩
    have gw := gw_right hl.1
    have rg := rightG_iff.1 hl.1
    have hst : 0 ≤ g.start ∧ g.start < g.nons.toNat := by have := rg.head; omega
    have hle : (m : Int) ≤ w.length := by omega
    have he1 := closed_end hl hc hm hi
    have he2 := fun hw => closed_tok hl hc hm hi hw
    have hsl := hq.2 _ (List.getElem_mem hi)
    generalize ss[m] = sm at *
    have htk : (ints w).take m = ints (w.take m) := by simp [ints, List.map_take]
    simp [gd, hw1, hi', hgm, V.cells, hi]
    refine dcall (.int .u32 (nextN g sm)) (next18_spec L.nx okg (by omega) ⟨rfl, rfl⟩) ?_
    generalize nextN g sm = N at *
    have hsh : (N : Int).fdiv 65536 = (N : Int) >>> 16 := shr_u32i (a := N) (t := 16) (by omega)
    have hb := bit_u32i (a := N) (t := 16) hlt
    simp [gd, hiw, hle, htk]
    refine dcall (.bool (inG g (w.take m))) (in_spec L.sp g (w.take m) gw hst (by simp; omega) (.inr rfl) ⟨rfl, rfl⟩) ?_
    have hgo : ∀ c6, inG g (w.take m) = c6 → (c6 = true → N.testBit 16 = true) := fun c6 e q => he1 (by rw [e, q])
    generalize inG g (w.take m) = c6 at *
    have hb6 := hgo c6 rfl
    cases c6
    case' true => simp [hsh, hb, hb6 rfl, gd]
    case' false => simp [gd]
    all_goals
      refine ecall (in_spec L.sp g w gw hst (by omega) (.inr rfl) ?_)
      cases c7 : inG g w with
      | false =>
        simp
        exact fin_wk gr1 (.same _) (by simp) hQ
      | true =>
        by_cases c8 : m = w.length
        · have c8' : (m : Int) = w.length := by omega
          simp [c8', hiw]
          exact fin_wk gr1 (.same _) (by simp) hQ
        · have c8' : ¬ (m : Int) = w.length := by omega
          have hwm : m < w.length := by omega
          have hwm' : (m : Int) < w.length := by omega
          have htb := he2 hwm c7
          have hgw : (ints w).getD m .undef = .int .i64 w[m] := by simp [ints, List.getD_eq_getElem?_getD, hwm]
          have hwr : 0 ≤ w[m] ∧ w[m] < 16 := by
            simp only [fitsW, rightW, belowB, Bool.and_eq_true, List.all_eq_true, decide_eq_true_eq] at c5
            exact c5.1.2 _ (List.getElem_mem hwm)
          generalize w[m] = t at *
          obtain ⟨t, rfl⟩ : ∃ n : Nat, t = n := ⟨t.toNat, by omega⟩
          rw [show ((t : Nat) : Int).toNat = t from rfl] at htb
          have hsh2 := shr_u32i (a := N) (t := t) (by omega)
          have hb2 := bit_u32i (a := N) (t := t) hlt
          simp [c8', hiw, hwm, hwm', hgw, V.cells, hsh2, hb2, htb]
          exact fin_wk gr1 (.same _) (by simp) hQ
end
end Go.Proofs.Ytajaoldljichaaa.Al
