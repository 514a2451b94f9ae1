/-
  What the law LowerTells needs of this claim's texts (part 5). Conditions: each theorem's own.
-/
import Derived.Test.YtmobijebjkjnoaaChecked
import Derived.KernelRfl
import Derived.Test.YtmobijebjkjnoaaAlKeys
import Derived.Test.YtmobijebjkjnoaaAlArg
import Derived.Test.YtmobijebjkjnoaaAlA
import Derived.Test.YtmobijebjkjnoaaAlB
import Derived.Test.YtmobijebjkjnoaaAlC
import Derived.Test.YtmobijebjkjnoaaSh1LowerTells
import Derived.Test.YtmobijebjkjnoaaSh2LowerTells
import Derived.Test.YtmobijebjkjnoaaSh3LowerTells
import Derived.Test.YtmobijebjkjnoaaSh4LowerTells
namespace Go.Proofs.Ytmobijebjkjnoaa.Al
open Go Go.RowKit
set_option linter.unusedSimpArgs false
set_option linter.unusedVariables false
attribute [-simp] List.getD_eq_getElem?_getD Int.not_lt Int.not_le List.map_take List.map_map
/-- Entries of maps. -/
def fndS (s : Str) : List Str → Option Nat
  | [] => none
  | a :: l => if s = a then some 0 else (fndS s l).map (· + 1)
def entS : List Str → Nat → List V
  | [], _ => []
  | s :: l, i => .tup [.str s, .int .i64 (i : Int)] :: entS l (i + 1)
theorem plc_fnd (s : Str) : ∀ (l : List Str) (i : Nat), plc s l i = match fndS s l with
    | some j => ((i + j : Nat) : Int)
    | none => -1
  | [], i => rfl
  | a :: l, i => by
    unfold plc fndS
    by_cases c : a = s
    · rw [if_pos c, if_pos c.symm]; simp
    · rw [if_neg c, if_neg (fun e => c e.symm), plc_fnd s l (i + 1)]
      cases fndS s l with
      | none => rfl
      | some j => show ((i + 1 + j : Nat) : Int) = ((i + (j + 1) : Nat) : Int); omega
theorem fndS_none {s : Str} : ∀ {l : List Str}, fndS s l = none ↔ s ∉ l
  | [] => by simp [fndS]
  | a :: l => by
    unfold fndS
    by_cases c : s = a
    · rw [if_pos c]; simp [c]
    · rw [if_neg c]; simp [c, fndS_none (s := s) (l := l)]
theorem findE_entS (s : Str) : ∀ (l : List Str) (i k : Nat), findE .s (.str s) (entS l i) k = some ((fndS s l).map fun j => (k + j, .int .i64 ((i + j : Nat) : Int)))
  | [], i, k => rfl
  | a :: l, i, k => by
    unfold entS fndS
    by_cases c : s = a
    · simp [findE, eqLeaf, c]
    · simp only [findE, eqLeaf, decide_eq_false c, if_neg c]
      rw [findE_entS s l (i + 1) (k + 1)]
      cases fndS s l with
      | none => rfl
      | some j => simp; omega
theorem entS_app : ∀ (l : List Str) (s : Str) (i : Nat), entS (l ++ [s]) i = entS l i ++ [.tup [.str s, .int .i64 ((i + l.length : Nat) : Int)]]
  | [], s, i => by simp [entS]
  | a :: l, s, i => by
    simp only [List.cons_append, entS, entS_app l s (i + 1), List.length_cons]
    rw [show i + 1 + l.length = i + (l.length + 1) by omega]
def entK (l : List Int) : List V := l.map fun k => .tup [.int .i64 k, .int .i64 1]
theorem findE_entK (k : Int) : ∀ (l : List Int) (j : Nat), (k ∉ l ∧ findE .i (.int .i64 k) (entK l) j = some none) ∨ (k ∈ l ∧ ∃ i, ∃ h : i < l.length, l[i] = k ∧ findE .i (.int .i64 k) (entK l) j = some (some (j + i, .int .i64 1)))
  | [], j => .inl ⟨by simp, rfl⟩
  | a :: l, j => by
    by_cases c : k = a
    · exact .inr ⟨by simp [c], 0, by simp, by simp [c], by simp [entK, findE, eqLeaf, c]⟩
    · have hs : findE .i (.int .i64 k) (entK (a :: l)) j = findE .i (.int .i64 k) (entK l) (j + 1) := by simp [entK, findE, eqLeaf, c]
      rw [hs]
      rcases findE_entK k l (j + 1) with ⟨h1, h2⟩ | ⟨h1, i, h2, h3, h4⟩
      · exact .inl ⟨by simp [c, h1], h2⟩
      · exact .inr ⟨by simp [h1], i + 1, by simpa using h2, by simpa using h3, by rw [h4, show j + 1 + i = j + (i + 1) by omega]⟩
def insK (l : List Int) (k : Int) : List Int := if k ∈ l then l else l ++ [k]
theorem mem_insK (l : List Int) (k x : Int) : x ∈ insK l k ↔ x ∈ l ∨ x = k := by
  unfold insK
  split
  · rename_i h; exact ⟨.inl, fun e => e.elim id (fun e => e ▸ h)⟩
  · simp
/-- Entries of numbers. -/
def entI (l : List (Int × Int)) : List V := l.map fun p => .tup [.int .i64 p.1, .int .i64 p.2]
def fndI (k : Int) : List (Int × Int) → Option (Nat × Int)
  | [] => none
  | a :: l => if k = a.1 then some (0, a.2) else (fndI k l).map fun p => (p.1 + 1, p.2)
theorem findE_entI (k : Int) : ∀ (l : List (Int × Int)) (j : Nat), findE .i (.int .i64 k) (entI l) j = some ((fndI k l).map fun p => (j + p.1, .int .i64 p.2))
  | [], j => rfl
  | a :: l, j => by
    unfold fndI
    by_cases c : k = a.1
    · simp [entI, findE, eqLeaf, c]
    · have hs : findE .i (.int .i64 k) (entI (a :: l)) j = findE .i (.int .i64 k) (entI l) (j + 1) := by simp [entI, findE, eqLeaf, c]
      rw [hs, findE_entI k l (j + 1), if_neg c]
      cases fndI k l with
      | none => rfl
      | some p => simp; omega
theorem fndI_none {k : Int} : ∀ {l : List (Int × Int)}, (∀ p ∈ l, p.1 ≠ k) → fndI k l = none
  | [], _ => rfl
  | a :: l, h => by
    unfold fndI
    rw [if_neg (fun e => h a (by simp) e.symm), fndI_none (fun p hp => h p (by simp [hp]))]; rfl
/-- The lowerer. -/
def loC (t : Te) (e sn : Nat) (names : List Str) (m1 m2 m3 : Nat) (pv : V) : List V := [.sl 2 0 (t.rules.map rlV), .sl 3 0 (t.nodes.map ndV), .sl e sn (strs names), .mapr m1, .mapr m2, .mapr m3, pv]
/-- From h to h1 only these objects have been turned, and a slice of this stamp. -/
structure FR (h h1 : AH) (os : List Nat) (st : Nat) : Prop where
  next : h.next ≤ h1.next
  nobj : h.nobj ≤ h1.nobj
  objs : ∀ o, o < h.nobj → o ∉ os → h1.objs o = h.objs o
  tips : ∀ s, s < h.next → (s ≠ st ∨ s ≤ 2) → h1.tips s = h.tips s
theorem FR.refl (h : AH) (os : List Nat) (st : Nat) : FR h h os st := ⟨Nat.le_refl _, Nat.le_refl _, fun _ _ _ => rfl, fun _ _ _ => rfl⟩
theorem FR.new {h h1 : AH} {os : List Nat} {st : Nat} (f : FR h h1 os st) (z : List V) : FR h (h1.new z) os st :=
  ⟨f.next, Nat.le_succ_of_le f.nobj, fun o ho hn => by rw [new_objs_ne _ _ (by have := f.nobj; omega)]; exact f.objs o ho hn, f.tips⟩
theorem FR.set {h h1 : AH} {os : List Nat} {st : Nat} (f : FR h h1 os st) {o : Nat} (ho : o ∈ os ∨ h.nobj ≤ o) (z : List V) : FR h (h1.set o z) os st :=
  ⟨f.next, f.nobj, fun o' ho' hn => by
    rw [set_objs_ne _ _ _ (by rintro rfl; rcases ho with h | h; exact hn h; omega)]; exact f.objs o' ho' hn, f.tips⟩
theorem FR.push {h h1 : AH} {os : List Nat} {st : Nat} (f : FR h h1 os st) {s1 : Nat} (hs : s1 = st ∨ s1 ≤ 2 ∨ h.next ≤ s1) (e : Nat) : FR h (h1.push s1 e) os st := by
  have := f.next
  refine ⟨by rw [push_next]; omega, by rw [push_nobj]; exact f.nobj, fun o ho hn => by rw [push_objs]; exact f.objs o ho hn, fun s h1' h2 => ?_⟩
  by_cases c : s1 ≤ 2
  · have key : (h1.push s1 e).tips s = h1.tips s := by
      unfold AH.push; rw [if_pos c]; exact updN_ne _ _ (by omega)
    rw [key]; exact f.tips s h1' h2
  · rw [push_tips_at (by omega) (by omega)]; exact f.tips s h1' h2
theorem Gr.fr {h0 h h1 : AH} {os : List Nat} {st : Nat} (G : Gr h0 h) (f : FR h h1 os st) (ho : ∀ o ∈ os, h0.nobj ≤ o) (hs : st ≤ 2 ∨ h0.next ≤ st) : Gr h0 h1 := by
  have g1 := G.next
  have g2 := G.nobj
  exact ⟨Nat.le_trans g1 f.next, Nat.le_trans g2 f.nobj, fun o h' => (f.objs o (by omega) (fun e => by have := ho o e; omega)).trans (G.objs o h'), fun s h' => (f.tips s (by omega) (by omega)).trans (G.tips s h')⟩
structure LLo (X : Cx) : Prop where
  ru : LRu X
  right : Has (Ecx X) K.rules_Right A.rules_Right_o
  term : Has (Ecx X) K.lower_lowerer_term A.lower_lowerer_term
  alone : Has (Ecx X) K.lower_lowerer_alone A.lower_lowerer_alone
  number : Has (Ecx X) K.lower_lowerer_number A.lower_lowerer_number
  symbol : Has (Ecx X) K.lower_lowerer_symbol A.lower_lowerer_symbol
  all : Has (Ecx X) K.lower_all A.lower_all
  lay : Has (Ecx X) K.lower_lowerer_lay A.lower_lowerer_lay
  node : Has (Ecx X) K.lower_lowerer_node A.lower_lowerer_node
  lower : Has (Ecx X) K.lower_Lower A.lower_Lower
  gr : LGr X
section
variable {X : Cx} {h : AH} {Q : V → AH → Prop}
theorem term_spec (L : LLo X) (t : Te) {o m1 m2 m3 e sn : Nat} {names : List Str} {pv : V} (s : Str) (ho : h.objs o = loC t e sn names m1 m2 m3 pv) (h1 : h.objs m1 = entS names 0) (hno : ¬ o = m1) (hnl : names.length ≤ 2 ^ 30) (my : May 1 h e sn (strs names))
    (hQ0 : fndS s names ≠ none → Q (.tup []) h) (hQ1 : fndS s names = none → Q (.tup []) (((h.set m1 (entS (names ++ [s]) 0)).push sn 1).set o (loC t 1 h.next (names ++ [s]) m1 m2 m3 pv))) :
    Ecx X K.lower_lowerer_term [.ptr o 0, .str s] h Q := by
  refine fn_any L.term (by simp [A.lower_lowerer_term]) fun wf => ?_
  have hf := findE_entS s names 0 0
  have hno' : ¬ m1 = o := fun e => hno e.symm
  simp [A.lower_lowerer_term, ho, loC, h1, hf]
  cases hs : fndS s names with
  | some j => 
    simp
    exact hQ0 (by rw [hs]; simp)
  | none =>
    rw [hs] at hf
    have q := hQ1 hs
    have hsl : (strs names).length = names.length := by simp [strs]
    have he := entS_app names s 0
    simp only [Nat.zero_add] at he
    rw [he] at q
    simp [lkpV, ho, loC, h1, hf, hno, hno', hsl, fillL, V.isAgg]
    refine (show May 1 (h.set m1 (entS names 0 ++ [V.tup [V.str s, V.int .i64 (names.length : Int)]])) e sn (strs names) from ⟨my.el, my.st⟩).app (by simp) rfl (by simp [hsl]; omega) ?_
    simp [V.cells, V.good, setAt, ho, loC, hno, push_objs]
    simpa [loC, strs] using q
theorem all_spec (L : LLo X) (l : List Int) {kf : Nat} {first cap : List V} (f : Int → Sy) (hl : l.length ≤ 2 ^ 30) (hf : ∀ k ∈ l, ∀ {h' : AH} {Q' : V → AH → Prop}, Gr h h' → Q' (symV (f k)) h' → Ecx X kf (first ++ .int .i64 k :: cap) h' Q')
    (hQ : Q (.sl 2 0 ((l.map f).map symV)) h) : Ecx X K.lower_all [.sl 1 0 (ints l), .fn kf first cap] h Q := by
  refine fn_walk L.all (by simp [A.lower_all]) fun wf => ?_
  have hil : (ints l).length = l.length := by simp [ints]
  simp [A.lower_all, hil]
  refine loopI (n := l.length) (fun m env h' => ∃ k e st, k ≤ l.length ∧ m = l.length - k ∧ Own h h' 2 e st (((l.take k).map f).map symV) ∧ env = [(1, .fn kf first cap), (5, .sl e st (((l.take k).map f).map symV)), (8, .sl 1 0 (ints l)), (9, .int .i64 l.length), (10, .int .i64 k)]) ?_
    ⟨0, 0, 1, by omega, by omega, ⟨Gr.refl h, .inl rfl, .inl rfl⟩, rfl⟩
  rintro m env h' ⟨k, e, st, hk, rfl, ow, rfl⟩
  unfold A.lower_all.L0
  by_cases hlt : k < l.length
  · have hlt' : (k : Int) < l.length := by omega
    have hg := ints_get hlt
    have hw1 : IntKind.i64.wrap ((k : Int) + 1) = ((k + 1 : Nat) : Int) := by rw [wrap_i64 (by omega) (by omega)]; rfl
    have hts : ((l.take (k + 1)).map f).map symV = ((l.take k).map f).map symV ++ [symV (f l[k])] := by
      rw [List.take_succ_eq_append_getElem hlt, List.map_append, List.map_append]; rfl
    have hm := List.getElem_mem hlt
    have hsc : symC (f l[k]) = [.bool (f l[k]).non, .int .i64 (f l[k]).n] := rfl
    simp [hlt', hg, hil, V.cells]
    refine ecall (hf _ hm ow.gr ?_)
    simp [fillL, V.isAgg, symV, hsc]
    rw [show V.agg [.bool (f l[k]).non, .int .i64 (f l[k]).n] = symV (f l[k]) from rfl]
    refine ow.appZ (fun _ => rfl) (by simp; omega) fun e2 st2 h3 o3 ob3 no3 => ?_
    rw [← hts] at o3 ⊢
    simp [hw1]
    exact ⟨l.length - (k + 1), by omega, iv ⟨k + 1, e2, st2, by omega, rfl, o3, rfl⟩⟩
  · have hlt' : ¬ (k : Int) < l.length := by omega
    obtain rfl : k = l.length := by omega
    rw [List.take_length] at ow ⊢
    simp [hlt']
    exact fin_own ow (encS.cells _ _ _) (by simpa using hQ)
theorem lay_spec (L : LLo X) {o e sp : Nat} {c0 c1 c2 c3 c4 c5 : V} {ps : List Pr} (p : Pr) (ho : h.objs o = [c0, c1, c2, c3, c4, c5, .sl e sp (ps.map prV)]) (my : May 2 h e sp (ps.map prV)) (hl : ps.length ≤ 2 ^ 30)
    (hQ : Q (.tup []) ((h.push sp 2).set o [c0, c1, c2, c3, c4, c5, .sl 2 h.next ((ps ++ [p]).map prV)])) : Ecx X K.lower_lowerer_lay [.ptr o 0, .int .i64 p.left, .sl 2 0 (p.right.map symV)] h Q := by
  refine fn_any L.lay (by simp [A.lower_lowerer_lay]) fun wf => ?_
  simp [A.lower_lowerer_lay, ho, fillV, fillL, setAt, V.cells, V.good, V.isAgg]
  refine my.app (by simp) rfl (by simp; omega) ?_
  simp [V.cells, V.good, setAt, ho, push_objs]
  simpa [prV, prC] using hQ
end
end Go.Proofs.Ytmobijebjkjnoaa.Al
namespace Go.Proofs.Ytmobijebjkjnoaa.Al
open Go Go.RowKit
set_option linter.unusedSimpArgs false
set_option linter.unusedVariables false
attribute [-simp] List.getD_eq_getElem?_getD Int.not_lt Int.not_le List.map_take List.map_map
theorem mupF_entK {h : AH} {K : V → AH → Prop} {zK : Lz K} {m : Nat} {l : List Int} {k : Int} (hm : h.objs m = entK l) (hk : K (.tup []) (h.set m (entK (insK l k)))) : mupF h m (.int .i64 k) (.int .i64 1) (findE .i (.int .i64 k) (entK l) 0) zK := by
  rcases findE_entK k l 0 with ⟨h1, h2⟩ | ⟨h1, i, h2, h3, h4⟩
  · rw [h2]
    show K (.tup []) (h.set m (h.objs m ++ [.tup [.int .i64 k, .int .i64 1]]))
    rw [hm]
    unfold insK at hk
    rw [if_neg h1] at hk
    simpa [entK] using hk
  · rw [h4]
    show K (.tup []) (h.set m ((h.objs m).set (0 + i) (.tup [.int .i64 k, .int .i64 1])))
    unfold insK at hk
    rw [if_pos h1] at hk
    have : (h.objs m).set (0 + i) (.tup [.int .i64 k, .int .i64 1]) = entK l := by
      rw [hm, Nat.zero_add]
      apply List.ext_getElem?
      intro j
      rw [List.getElem?_set]
      split
      · rename_i e
        subst e
        simp [entK, h2, h3]
      · rfl
    rw [this]; exact hk
def kindAt (t : Te) (k : Int) : Int := match t.nodes[k.toNat]? with
  | some y => y.kind
  | none => 0
def aloA (rs : List Rl) (l : List Int) : List Int := rs.foldl (fun l r => insK l r.body) l
def aloX (t : Te) (kind : Int) (ks : List Int) (l : List Int) : List Int := ks.foldl (fun l k => if kind = 2 ∧ kindAt t k = 1 then insK l k else l) l
def aloB (t : Te) (ns : List Nd) (l : List Int) : List Int := ns.foldl (fun l x => aloX t x.kind x.kids l) l
def aloneK (t : Te) : List Int := aloB t t.nodes (aloA t.rules [])
theorem mem_aloA (i : Int) : ∀ (rs : List Rl) (l : List Int), i ∈ aloA rs l ↔ i ∈ l ∨ ∃ r ∈ rs, r.body = i
  | [], l => by simp [aloA]
  | r :: rs, l => by
    have := mem_aloA i rs (insK l r.body)
    unfold aloA at *
    rw [List.foldl_cons, this, mem_insK]
    simp only [List.mem_cons, exists_eq_or_imp]
    constructor
    · rintro ((h | h) | h)
      · exact .inl h
      · exact .inr (.inl h.symm)
      · exact .inr (.inr h)
    · rintro (h | h | h)
      · exact .inl (.inl h)
      · exact .inl (.inr h.symm)
      · exact .inr h
theorem mem_aloX (t : Te) (kind i : Int) : ∀ (ks l : List Int), i ∈ aloX t kind ks l ↔ i ∈ l ∨ (kind = 2 ∧ i ∈ ks ∧ kindAt t i = 1)
  | [], l => by simp [aloX]
  | k :: ks, l => by
    have := mem_aloX t kind i ks (if kind = 2 ∧ kindAt t k = 1 then insK l k else l)
    unfold aloX at *
    rw [List.foldl_cons, this]
    by_cases c : kind = 2 ∧ kindAt t k = 1
    · rw [if_pos c, mem_insK]
      constructor
      · rintro ((h | h) | h)
        · exact .inl h
        · exact .inr ⟨c.1, by simp [h], by rw [h]; exact c.2⟩
        · exact .inr ⟨h.1, by simp [h.2.1], h.2.2⟩
      · rintro (h | ⟨h1, h2, h3⟩)
        · exact .inl (.inl h)
        · rcases List.mem_cons.1 h2 with h2 | h2
          · exact .inl (.inr h2)
          · exact .inr ⟨h1, h2, h3⟩
    · rw [if_neg c]
      constructor
      · rintro (h | h)
        · exact .inl h
        · exact .inr ⟨h.1, by simp [h.2.1], h.2.2⟩
      · rintro (h | ⟨h1, h2, h3⟩)
        · exact .inl h
        · rcases List.mem_cons.1 h2 with h2 | h2
          · exact absurd ⟨h1, by rw [← h2]; exact h3⟩ c
          · exact .inr ⟨h1, h2, h3⟩
theorem mem_aloB (t : Te) (i : Int) : ∀ (ns : List Nd) (l : List Int), i ∈ aloB t ns l ↔ i ∈ l ∨ ∃ x ∈ ns, x.kind = 2 ∧ i ∈ x.kids ∧ kindAt t i = 1
  | [], l => by simp [aloB]
  | x :: ns, l => by
    have := mem_aloB t i ns (aloX t x.kind x.kids l)
    unfold aloB at *
    rw [List.foldl_cons, this, mem_aloX]
    simp only [List.mem_cons, exists_eq_or_imp, or_assoc]
/-- The program's test is the reference's. -/
theorem alone_has {t : Te} {i : Nat} (hi : i < t.nodes.length) (h7 : t.nodes[i].kind ≤ 7) : hasN t i = (decide (t.nodes[i].kind ≠ 7) && decide (t.nodes[i].kind ≠ 6) && !decide ((i : Int) ∈ aloneK t)) := by
  unfold hasN
  rw [List.getElem?_eq_getElem hi]
  simp only
  have hk : kindAt t (i : Int) = t.nodes[i].kind := by unfold kindAt; rw [Int.toNat_natCast, List.getElem?_eq_getElem hi]
  have e1 : decide (t.nodes[i].kind ≤ 5) = (decide (t.nodes[i].kind ≠ 7) && decide (t.nodes[i].kind ≠ 6)) := by
    apply Bool.eq_iff_iff.2; simp; omega
  rw [e1, Bool.and_assoc]
  congr 1
  apply Bool.eq_iff_iff.2
  simp only [Bool.and_eq_true, Bool.not_eq_true', decide_eq_false_iff_not, aloneK, mem_aloB, mem_aloA, hk]
  simp only [List.all_eq_true, decide_eq_true_eq, List.any_eq_false, kidT, Bool.and_eq_true]
  constructor
  · rintro ⟨h1, h2⟩ ((h | ⟨r, hr, he⟩) | ⟨x, hx, hx1, hx2, hx3⟩)
    · simp at h
    · exact h1 r hr he
    · apply h2 x hx
      rw [List.any_eq_true]
      exact ⟨_, hx2, by simp [hx1, hx3]⟩
  · intro h
    refine ⟨fun r hr he => h (.inl (.inr ⟨r, hr, he⟩)), fun x hx hq => ?_⟩
    rw [List.any_eq_true] at hq
    obtain ⟨m, hm, he⟩ := hq
    simp at he
    exact h (.inr ⟨x, hx, he.1.1, by rw [← he.1.2]; exact hm, he.2⟩)
section
variable {X : Cx} {h : AH} {Q : V → AH → Prop}
theorem aloneL2 (t : Te) {o m o7 k31 : Nat} {v : V} {h0 : AH} {kind : Int} {ks : List Int} {l : List Int} {Q : Ex → Env → AH → Prop} {zQ : Lz Q} {z : Lz (AC.loop A.lower_lowerer_alone.L2)} (hl : ks.length ≤ 2 ^ 30) (hin : ∀ k ∈ ks, 0 ≤ k ∧ k < t.nodes.length) (rest : List V)
    (gr : Gr h0 h) (hm0 : h0.nobj ≤ m) (ho : h.objs o = .sl 2 0 (t.rules.map rlV) :: .sl 3 0 (t.nodes.map ndV) :: rest) (h7 : h.objs o7 = [.int .i64 kind, v, .sl 1 0 (ints ks)]) (hm : h.objs m = entK l) (om : ¬ o = m) (o7m : ¬ o7 = m)
    (hex : Gr h0 (h.set m (entK (aloX t kind ks l))) → Q (.exit 4) [(0, .ptr o 0), (3, .mapr m), (7, .ptr o7 0), (29, .sl 3 0 (t.nodes.map ndV)), (30, .int .i64 t.nodes.length), (31, .int .i64 k31), (36, .sl 1 0 (ints ks)), (37, .int .i64 ks.length), (38, .int .i64 ks.length), (39, .bool false)] (h.set m (entK (aloX t kind ks l)))) :
    acZ (Ecx X) [(0, .ptr o 0), (3, .mapr m), (7, .ptr o7 0), (29, .sl 3 0 (t.nodes.map ndV)), (30, .int .i64 t.nodes.length), (31, .int .i64 k31), (36, .sl 1 0 (ints ks)), (37, .int .i64 ks.length), (38, .int .i64 0)] h z zQ := by
  refine loopI (n := ks.length) (fun mm env h' => ∃ j, j ≤ ks.length ∧ mm = ks.length - j ∧ h' = h.set m (entK (aloX t kind (ks.take j) l)) ∧ env = [(0, .ptr o 0), (3, .mapr m), (7, .ptr o7 0), (29, .sl 3 0 (t.nodes.map ndV)), (30, .int .i64 t.nodes.length), (31, .int .i64 k31), (36, .sl 1 0 (ints ks)), (37, .int .i64 ks.length), (38, .int .i64 j)]) ?_
    ⟨0, by omega, by omega, by rw [show aloX t kind (ks.take 0) l = l from rfl, ← hm, set_self rfl], rfl⟩
  rintro mm env h' ⟨j, hj, rfl, rfl, rfl⟩
  unfold A.lower_lowerer_alone.L2
  have hil : (ints ks).length = ks.length := by simp [ints]
  have ob : (h.set m (entK (aloX t kind (ks.take j) l))).objs o = .sl 2 0 (t.rules.map rlV) :: .sl 3 0 (t.nodes.map ndV) :: rest := by rw [set_objs_ne _ _ _ om]; exact ho
  have ob7 : (h.set m (entK (aloX t kind (ks.take j) l))).objs o7 = [.int .i64 kind, v, .sl 1 0 (ints ks)] := by rw [set_objs_ne _ _ _ o7m]; exact h7
  have obm : (h.set m (entK (aloX t kind (ks.take j) l))).objs m = entK (aloX t kind (ks.take j) l) := by simp
  have hss : ∀ z, (h.set m (entK (aloX t kind (ks.take j) l))).set m z = h.set m z := fun z => by simp
  generalize hh : h.set m (entK (aloX t kind (ks.take j) l)) = h2 at *
  by_cases hlt : j < ks.length
  · have hlt' : (j : Int) < ks.length := by omega
    have hgk := ints_get hlt
    have hw1 : IntKind.i64.wrap ((j : Int) + 1) = ((j + 1 : Nat) : Int) := by rw [wrap_i64 (by omega) (by omega)]; rfl
    have hink := hin _ (List.getElem_mem hlt)
    have hsu : aloX t kind (ks.take (j + 1)) l = if kind = 2 ∧ kindAt t ks[j] = 1 then insK (aloX t kind (ks.take j) l) ks[j] else aloX t kind (ks.take j) l := by
      unfold aloX; rw [List.take_succ_eq_append_getElem hlt, List.foldl_append]; rfl
    obtain ⟨c, hc⟩ : ∃ c : Nat, ks[j] = (c : Int) := ⟨ks[j].toNat, by omega⟩
    rw [hc] at hgk hsu hink
    have hcn : c < t.nodes.length := by omega
    have hcn' : (c : Int) < t.nodes.length := by omega
    have hgc : (t.nodes.map ndV).getD c .undef = ndV t.nodes[c] := Enc.getD hcn
    have hka : kindAt t (c : Int) = t.nodes[c].kind := by unfold kindAt; rw [Int.toNat_natCast, List.getElem?_eq_getElem hcn]
    rw [hka] at hsu
    generalize t.nodes[c] = y at *
    have hyc : ndC y = [.int .i64 y.kind, .str y.name, .sl 1 0 (ints y.kids)] := rfl
    by_cases c1 : kind = 2
    · by_cases c2 : y.kind = 1
      · rw [if_pos ⟨c1, c2⟩] at hsu
        simp [hlt', hgk, hil, V.cells, ob7, ob, hcn', hgc, ndV, hyc, c1, c2]
        rw [obm]
        refine mupF_entK obm ?_
        simp [hw1]
        exact ⟨ks.length - (j + 1), by omega, iv ⟨j + 1, by omega, rfl, by rw [hss, hsu], rfl⟩⟩
      · rw [if_neg (fun e => c2 e.2)] at hsu
        simp [hlt', hgk, hil, V.cells, ob7, ob, hcn', hgc, ndV, hyc, c1, c2, hw1]
        exact ⟨ks.length - (j + 1), by omega, iv ⟨j + 1, by omega, rfl, by rw [hsu, hh], rfl⟩⟩
    · rw [if_neg (fun e => c1 e.1)] at hsu
      simp [hlt', hgk, hil, V.cells, ob7, ob, hcn', hgc, ndV, hyc, c1, hw1]
      exact ⟨ks.length - (j + 1), by omega, iv ⟨j + 1, by omega, rfl, by rw [hsu, hh], rfl⟩⟩
  · have hlt' : ¬ (j : Int) < ks.length := by omega
    obtain rfl : j = ks.length := by omega
    rw [List.take_length] at hh
    simp [hlt']
    rw [← hh]
    exact hex (gr.set hm0 _)
theorem alone_spec (L : LLo X) (t : Te) (rt : RTe t) {o : Nat} {rest : List V} (ob : o < h.nobj) (ho : h.objs o = .sl 2 0 (t.rules.map rlV) :: .sl 3 0 (t.nodes.map ndV) :: rest)
    (hQ : ∀ h', Gr h h' → h.nobj < h'.nobj → h'.objs h.nobj = entK (aloneK t) → Q (.mapr h.nobj) h') : Ecx X K.lower_lowerer_alone [.ptr o 0] h Q := by
  refine fn_any L.alone (by simp [A.lower_lowerer_alone]) fun wf => ?_
  have hn := rt.n1
  have hr := rt.r1
  have om : ¬ o = h.nobj := by omega
  simp [A.lower_lowerer_alone, ho, om]
  refine loopI (n := t.rules.length) (fun mm env h' => ∃ k, k ≤ t.rules.length ∧ mm = t.rules.length - k ∧ Gr h h' ∧ h.nobj < h'.nobj ∧ h'.objs h.nobj = entK (aloA (t.rules.take k) []) ∧ env = [(0, .ptr o 0), (3, .mapr h.nobj), (15, .sl 2 0 (t.rules.map rlV)), (16, .int .i64 t.rules.length), (17, .int .i64 k)]) ?_
    ⟨0, by omega, by omega, (Gr.refl h).new [], by simp, by simp [aloA, entK], rfl⟩
  rintro mm env h' ⟨k, hk, rfl, gr, nb, om', rfl⟩
  unfold A.lower_lowerer_alone.L0
  by_cases hlt : k < t.rules.length
  · have hlt' : (k : Int) < t.rules.length := by omega
    have hg : (t.rules.map rlV).getD k .undef = rlV t.rules[k] := Enc.getD hlt
    have hw1 : IntKind.i64.wrap ((k : Int) + 1) = ((k + 1 : Nat) : Int) := by rw [wrap_i64 (by omega) (by omega)]; rfl
    have hsu : aloA (t.rules.take (k + 1)) [] = insK (aloA (t.rules.take k) []) t.rules[k].body := by
      unfold aloA; rw [List.take_succ_eq_append_getElem hlt, List.foldl_append]; rfl
    generalize t.rules[k] = r at *
    have hrc : rlC r = [.str r.name, .int .i64 r.body] := rfl
    have n1 : ¬ h.nobj = h'.nobj := by omega
    have q0 : (h'.new (rlC r)).objs h'.nobj = rlC r := by simp
    have q1 : (h'.new (rlC r)).objs h.nobj = entK (aloA (t.rules.take k) []) := by simp [n1, om']
    have q2 : (h'.new (rlC r)).nobj = h'.nobj + 1 := by simp
    have q3 := gr.new (rlC r)
    simp [hlt', hg, rlV, V.cells, V.good, hrc, setAt]
    rw [← hrc]
    generalize h'.new (rlC r) = h2 at *
    simp [q0, hrc, q1]
    refine mupF_entK q1 ?_
    simp [hw1]
    exact ⟨t.rules.length - (k + 1), by omega, iv ⟨k + 1, by omega, rfl, q3.set (by omega) _, by rw [set_nobj]; omega, by rw [set_objs_same, hsu], rfl⟩⟩
  · have hlt' : ¬ (k : Int) < t.rules.length := by omega
    obtain rfl : k = t.rules.length := by omega
    rw [List.take_length] at om'
    have ob' : h'.objs o = .sl 2 0 (t.rules.map rlV) :: .sl 3 0 (t.nodes.map ndV) :: rest := (gr.objs _ ob).trans ho
    simp [hlt', ob']
    refine loopI (n := t.nodes.length) (fun mm env h2 => ∃ k, k ≤ t.nodes.length ∧ mm = t.nodes.length - k ∧ Gr h h2 ∧ h.nobj < h2.nobj ∧ h2.objs h.nobj = entK (aloB t (t.nodes.take k) (aloA t.rules [])) ∧ env = [(0, .ptr o 0), (3, .mapr h.nobj), (29, .sl 3 0 (t.nodes.map ndV)), (30, .int .i64 t.nodes.length), (31, .int .i64 k)]) ?_
      ⟨0, by omega, by omega, gr, nb, by simpa [aloB] using om', rfl⟩
    clear gr nb om' ob' h'
    rintro mm env h' ⟨k, hk, rfl, gr, nb, om', rfl⟩
    unfold A.lower_lowerer_alone.L1
    by_cases hlt : k < t.nodes.length
    · have hlt' : (k : Int) < t.nodes.length := by omega
      have hg : (t.nodes.map ndV).getD k .undef = ndV t.nodes[k] := Enc.getD hlt
      have hw1 : IntKind.i64.wrap ((k : Int) + 1) = ((k + 1 : Nat) : Int) := by rw [wrap_i64 (by omega) (by omega)]; rfl
      have hsu : aloB t (t.nodes.take (k + 1)) (aloA t.rules []) = aloX t t.nodes[k].kind t.nodes[k].kids (aloB t (t.nodes.take k) (aloA t.rules [])) := by
        unfold aloB; rw [List.take_succ_eq_append_getElem hlt, List.foldl_append]; rfl
      have hin := rt.in hlt
      have hkl := rt.kids_len hlt
      generalize t.nodes[k] = x at *
      have hxc : ndC x = [.int .i64 x.kind, .str x.name, .sl 1 0 (ints x.kids)] := rfl
      have n1 : ¬ h.nobj = h'.nobj := by omega
      have q0 : (h'.new (ndC x)).objs h'.nobj = ndC x := by simp
      have q1 : (h'.new (ndC x)).objs h.nobj = entK (aloB t (t.nodes.take k) (aloA t.rules [])) := by simp [n1, om']
      have q2 : (h'.new (ndC x)).nobj = h'.nobj + 1 := by simp
      have q3 := gr.new (ndC x)
      have hil : (ints x.kids).length = x.kids.length := by simp [ints]
      simp [hlt', hg, ndV, V.cells, V.good, hxc, setAt]
      rw [← hxc]
      generalize h'.new (ndC x) = h2 at *
      refine aloneL2 t (o := o) (m := h.nobj) (o7 := h'.nobj) (k31 := k) (v := .str x.name) (h0 := h) (by omega) hin rest q3 (Nat.le_refl _) ((q3.objs _ ob).trans ho) (by rw [q0, hxc]) q1 om (by omega) fun g4 => ?_
      simp [hw1]
      exact ⟨t.nodes.length - (k + 1), by omega, iv ⟨k + 1, by omega, rfl, g4, by rw [set_nobj]; omega, by rw [set_objs_same, hsu], rfl⟩⟩
    · have hlt' : ¬ (k : Int) < t.nodes.length := by omega
      obtain rfl : k = t.nodes.length := by omega
      rw [List.take_length] at om'
      simp [hlt']
      exact hQ h' gr nb om'
end
end Go.Proofs.Ytmobijebjkjnoaa.Al
namespace Go.Proofs.Ytmobijebjkjnoaa.Al
open Go Go.RowKit
set_option linter.unusedSimpArgs false
set_option linter.unusedVariables false
attribute [-simp] List.getD_eq_getElem?_getD Int.not_lt Int.not_le List.map_take List.map_map
def tstep (out : List Str) (n : Nd) : List Str := if n.kind = 7 ∧ plc n.name out 0 < 0 then out ++ [n.name] else out
theorem termsF_snoc : ∀ (l : List Nd) (n : Nd) (out : List Str), termsF (l ++ [n]) out = tstep (termsF l out) n
  | [], n, out => rfl
  | a :: l, n, out => by simp only [List.cons_append, termsF]; exact termsF_snoc l n _
theorem plc_neg (s : Str) (l : List Str) : plc s l 0 < 0 ↔ fndS s l = none := by
  rw [plc_fnd]
  cases fndS s l <;> simp <;> omega
theorem termsF_mem {s : Str} : ∀ (l : List Nd) (out : List Str), s ∈ out → s ∈ termsF l out
  | [], out, h => h
  | n :: l, out, h => by
    unfold termsF
    refine termsF_mem l _ ?_
    split
    · simp [h]
    · exact h
theorem termsF_has : ∀ (l : List Nd) (out : List Str) (n : Nd), n ∈ l → n.kind = 7 → n.name ∈ termsF l out
  | a :: l, out, n, h, h7 => by
    unfold termsF
    rcases List.mem_cons.1 h with rfl | h
    · refine termsF_mem l _ ?_
      by_cases c : plc n.name out 0 < 0
      · rw [if_pos ⟨h7, c⟩]; simp
      · rw [if_neg (fun e => c e.2)]
        rw [plc_neg, fndS_none] at c
        exact Classical.not_not.1 c
    · exact termsF_has l _ n h h7
/-- The entries of nodes that have nonterminals of their own. -/
def ownE (t : Te) (k : Nat) : List (Int × Int) := ((List.range k).filter (hasN t)).map fun i : Nat => ((i : Int), ownN t i)
theorem ownE_succ (t : Te) (k : Nat) : ownE t (k + 1) = if hasN t k then ownE t k ++ [((k : Int), ownN t k)] else ownE t k := by
  unfold ownE
  rw [List.range_succ, List.filter_append, List.map_append]
  cases hh : hasN t k <;> simp [List.filter, hh]
theorem ownE_fresh (t : Te) (k : Nat) : fndI (k : Int) (ownE t k) = none := by
  refine fndI_none fun p hp => ?_
  unfold ownE at hp
  obtain ⟨i, hi, rfl⟩ := List.mem_map.1 hp
  have := List.mem_range.1 (List.mem_filter.1 hi).1
  show (i : Int) ≠ k
  omega
theorem fndI_app {k : Int} : ∀ {l m : List (Int × Int)}, fndI k l = none → fndI k (l ++ m) = (fndI k m).map fun p => (p.1 + l.length, p.2)
  | [], m, _ => by cases h : fndI k m <;> simp [h]
  | a :: l, m, h => by
    unfold fndI at h
    split at h
    · simp at h
    · rename_i c
      have h' : fndI k l = none := by cases hq : fndI k l <;> simp [hq] at h ⊢
      simp only [List.cons_append, fndI, if_neg c, fndI_app h']
      cases fndI k m <;> simp; omega
theorem fndI_app_some {k : Int} {p : Nat × Int} : ∀ {l m : List (Int × Int)}, fndI k l = some p → fndI k (l ++ m) = some p
  | [], m, h => by simp [fndI] at h
  | a :: l, m, h => by
    unfold fndI at h
    simp only [List.cons_append, fndI]
    split at h
    · rename_i c; rw [if_pos c]; exact h
    · rename_i c
      rw [if_neg c]
      cases hq : fndI k l with
      | none => rw [hq] at h; simp at h
      | some q => rw [hq] at h; rw [fndI_app_some hq]; exact h
theorem ownE_find (t : Te) {n : Nat} (hh : hasN t n = true) : ∀ k, n < k → ∃ i, fndI (n : Int) (ownE t k) = some (i, ownN t n)
  | 0, h => by omega
  | k + 1, h => by
    rw [ownE_succ]
    by_cases e : n = k
    · subst e
      rw [hh, if_pos rfl, fndI_app (ownE_fresh t n)]
      exact ⟨_, by simp [fndI]; rfl⟩
    · obtain ⟨i, hi⟩ := ownE_find t hh k (by omega)
      split
      · exact ⟨i, fndI_app_some hi⟩
      · exact ⟨i, hi⟩
theorem ownE_len (t : Te) (k : Nat) : (ownE t k).length = cntN t k := by
  unfold ownE cntN; rw [List.length_map, List.countP_eq_length_filter]
theorem entI_app (l : List (Int × Int)) (p : Int × Int) : entI (l ++ [p]) = entI l ++ [.tup [.int .i64 p.1, .int .i64 p.2]] := by simp [entI]
/-- A kid that is asked for its symbol has one. -/
theorem kid_has {t : Te} (rt : RTe t) {n k : Nat} (hn : n < t.nodes.length) (hk : (k : Int) ∈ t.nodes[n].kids) (hkn : k < t.nodes.length) (h5 : t.nodes[k].kind ≤ 5) (hc : ¬ (t.nodes[n].kind = 2 ∧ t.nodes[k].kind = 1)) : hasN t k = true := by
  unfold hasN
  rw [List.getElem?_eq_getElem hkn]
  simp only [Bool.and_eq_true, decide_eq_true_eq, List.all_eq_true, Bool.not_eq_true', List.any_eq_false]
  refine ⟨⟨h5, fun r hr => rt.nobody hn hk hr⟩, fun y hy hq => ?_⟩
  unfold kidT at hq
  rw [List.any_eq_true] at hq
  obtain ⟨m, hm, he⟩ := hq
  simp at he
  obtain ⟨j, hj, rfl⟩ := List.getElem_of_mem hy
  obtain rfl := rt.one hn hj hk (by rw [← he.1.2]; exact hm)
  exact hc ⟨he.1.1, he.2⟩
/-- What the lowerer knows when all is numbered. -/
structure LoF (h : AH) (o m1 m2 m3 : Nat) (t : Te) : Prop where
  ob : ∃ e sn pv, h.objs o = loC t e sn (termsT t) m1 m2 m3 pv
  o1 : h.objs m1 = entS (termsT t) 0
  o2 : h.objs m2 = entS (rnames t) 0
  o3 : h.objs m3 = entI (ownE t t.nodes.length)
  lt : o < h.nobj ∧ m1 < h.nobj ∧ m2 < h.nobj ∧ m3 < h.nobj
  ne : ¬ o = m1 ∧ ¬ o = m2 ∧ ¬ o = m3
theorem LoF.gr {h h' : AH} {o m1 m2 m3 : Nat} {t : Te} (f : LoF h o m1 m2 m3 t) (g : Gr h h') : LoF h' o m1 m2 m3 t :=
  ⟨by rw [g.objs _ f.lt.1]; exact f.ob, by rw [g.objs _ f.lt.2.1]; exact f.o1, by rw [g.objs _ f.lt.2.2.1]; exact f.o2, by rw [g.objs _ f.lt.2.2.2]; exact f.o3, by have := g.nobj; have := f.lt; omega, f.ne⟩
theorem kindR {t : Te} (rt : RTe t) {n : Nat} (hn : n < t.nodes.length) : 1 ≤ t.nodes[n].kind ∧ t.nodes[n].kind ≤ 7 := by
  have := fineT_kind (rt.fine _ (List.getElem_mem hn)); omega
section
variable {X : Cx} {h : AH} {Q : V → AH → Prop}
theorem symbol_spec (L : LLo X) (t : Te) (rt : RTe t) {o m1 m2 m3 : Nat} (f : LoF h o m1 m2 m3 t) (n : Nat) (hn : n < t.nodes.length) (hh : t.nodes[n].kind ≤ 5 → hasN t n = true) (hQ : Q (symV (symT t n)) h) :
    Ecx X K.lower_lowerer_symbol [.ptr o 0, .int .i64 n] h Q := by
  refine fn_walk L.symbol (by simp [A.lower_lowerer_symbol]) fun wf => ?_
  obtain ⟨e, sn, pv, ob⟩ := f.ob
  obtain ⟨l0, l1, l2, l3⟩ := f.lt
  have hii : (n : Int) < t.nodes.length := by omega
  have hg : (t.nodes.map ndV).getD n .undef = ndV t.nodes[n] := Enc.getD hn
  have hsy : symT t n = if t.nodes[n].kind = 7 then ⟨false, plc t.nodes[n].name (termsT t) 0⟩ else if t.nodes[n].kind = 6 then ⟨true, plc t.nodes[n].name (rnames t) 0⟩ else ⟨true, ownN t n⟩ := by
    unfold symT; rw [List.getElem?_eq_getElem hn]
  rw [hsy] at hQ
  have h7 : t.nodes[n].kind = 7 → t.nodes[n].name ∈ termsT t := fun e => termsF_has _ _ _ (List.getElem_mem hn) e
  have h6 : t.nodes[n].kind = 6 → t.nodes[n].name ∈ rnames t := fun e => by
    have := fineT_kind (rt.fine _ (List.getElem_mem hn)); rcases this with a | a | a | a | a <;> first | exact a.2.2 | omega
  have hkk := kindR rt hn
  generalize t.nodes[n] = nd at *
  have gr := ((Gr.refl h).new [.bool false, .int .i64 0]).new (ndC nd)
  have n1 : ¬ o = h.nobj := by omega
  have n2 : ¬ o = h.nobj + 1 := by omega
  have n3 : ¬ h.nobj = h.nobj + 1 := by omega
  have b0 : ((h.new [.bool false, .int .i64 0]).new (ndC nd)).objs o = loC t e sn (termsT t) m1 m2 m3 pv := by simp [n1, n2, ob]
  have b1 : ((h.new [.bool false, .int .i64 0]).new (ndC nd)).objs h.nobj = [.bool false, .int .i64 0] := by simp
  have b2 : ((h.new [.bool false, .int .i64 0]).new (ndC nd)).objs (h.nobj + 1) = ndC nd := by simp
  have b3 : ((h.new [.bool false, .int .i64 0]).new (ndC nd)).objs m1 = entS (termsT t) 0 := by simp [show ¬ m1 = h.nobj by omega, show ¬ m1 = h.nobj + 1 by omega, f.o1]
  have b4 : ((h.new [.bool false, .int .i64 0]).new (ndC nd)).objs m2 = entS (rnames t) 0 := by simp [show ¬ m2 = h.nobj by omega, show ¬ m2 = h.nobj + 1 by omega, f.o2]
  have b5 : ((h.new [.bool false, .int .i64 0]).new (ndC nd)).objs m3 = entI (ownE t t.nodes.length) := by simp [show ¬ m3 = h.nobj by omega, show ¬ m3 = h.nobj + 1 by omega, f.o3]
  have hnc : ndC nd = [.int .i64 nd.kind, .str nd.name, .sl 1 0 (ints nd.kids)] := rfl
  simp [A.lower_lowerer_symbol, ob, loC, hii, hg, ndV, hnc, V.cells, V.good, setAt, n1, n3]
  rw [← hnc]
  generalize (h.new [.bool false, .int .i64 0]).new (ndC nd) = h2 at *
  by_cases c7 : nd.kind = 7
  · rw [if_pos c7] at hQ
    have hf := findE_entS nd.name (termsT t) 0 0
    have hp := plc_fnd nd.name (termsT t) 0
    have hm := h7 c7
    cases hx : fndS nd.name (termsT t) with
    | none => exact absurd hm (fndS_none.1 hx)
    | some j =>
      rw [hx] at hf hp
      simp only [Option.map_some] at hf hp
      simp [b2, hnc, c7, b0, loC, b3, hf, fillV, setAt, V.cells, V.good, b1]
      rw [hp] at hQ
      exact fin_wk (gr.set (by omega) _) (.same _) (by simp) (by simpa [symV, symC] using hQ)
  rw [if_neg c7] at hQ
  by_cases c6 : nd.kind = 6
  · rw [if_pos c6] at hQ
    have hf := findE_entS nd.name (rnames t) 0 0
    have hp := plc_fnd nd.name (rnames t) 0
    have hm := h6 c6
    cases hx : fndS nd.name (rnames t) with
    | none => exact absurd hm (fndS_none.1 hx)
    | some j =>
      rw [hx] at hf hp
      simp only [Option.map_some] at hf hp
      simp [b2, hnc, c7, c6, b0, loC, b4, hf, fillV, setAt, V.cells, V.good, b1]
      rw [hp] at hQ
      exact fin_wk (gr.set (by omega) _) (.same _) (by simp) (by simpa [symV, symC] using hQ)
  rw [if_neg c6] at hQ
  obtain ⟨i, hi⟩ := ownE_find t (hh (by omega)) t.nodes.length hn
  have hf := findE_entI n (ownE t t.nodes.length) 0
  rw [hi] at hf
  simp only [Option.map_some] at hf
  simp [b2, hnc, c7, c6, b0, loC, b5, hf, fillV, setAt, V.cells, V.good, b1]
  exact fin_wk (gr.set (by omega) _) (.same _) (by simp) (by simpa [symV, symC] using hQ)
theorem number_spec (L : LLo X) (t : Te) (rt : RTe t) {o m1 m2 m3 : Nat} (ho : h.objs o = loC t 0 1 [] m1 m2 m3 (.sl 0 1 [])) (hm1 : h.objs m1 = []) (hm2 : h.objs m2 = []) (hm3 : h.objs m3 = [])
    (lt : o < h.nobj ∧ m1 < h.nobj ∧ m2 < h.nobj ∧ m3 < h.nobj) (ne : ¬ o = m1 ∧ ¬ o = m2 ∧ ¬ o = m3) (nm : ¬ m1 = m2 ∧ ¬ m1 = m3 ∧ ¬ m2 = m3)
    (hQ : ∀ h' e sn, FR h h' [o, m1, m2, m3] 1 → h'.objs o = loC t e sn (termsT t) m1 m2 m3 (.sl 0 1 []) → (strs (termsT t) = [] ∨ e = 1) → LoF h' o m1 m2 m3 t → Q (.tup []) h') : Ecx X K.lower_lowerer_number [.ptr o 0] h Q := by
  refine fn_any L.number (by simp [A.lower_lowerer_number]) fun wf => ?_
  have hn := rt.n1
  have hr := rt.r1
  obtain ⟨l0, l1, l2, l3⟩ := lt
  obtain ⟨e1, e2, e3⟩ := ne
  obtain ⟨f1, f2, f3⟩ := nm
  simp [A.lower_lowerer_number, ho, loC]
  refine loopI (n := t.rules.length) (fun mm env h' => ∃ k, k ≤ t.rules.length ∧ mm = t.rules.length - k ∧ FR h h' [o, m1, m2, m3] 1 ∧ h'.objs o = loC t 0 1 [] m1 m2 m3 (.sl 0 1 []) ∧ h'.objs m1 = [] ∧ h'.objs m3 = [] ∧ h'.objs m2 = entS ((rnames t).take k) 0 ∧
      env = [(0, .ptr o 0), (12, .sl 2 0 (t.rules.map rlV)), (13, .int .i64 t.rules.length), (14, .int .i64 k)]) ?_
    ⟨0, by omega, by omega, FR.refl _ _ _, ho, hm1, hm3, by simpa [entS] using hm2, rfl⟩
  rintro mm env h' ⟨k, hk, rfl, fr, bo, bm1, bm3, bm2, rfl⟩
  unfold A.lower_lowerer_number.L0
  have nb := fr.nobj
  by_cases hlt : k < t.rules.length
  · have hlt' : (k : Int) < t.rules.length := by omega
    have hg : (t.rules.map rlV).getD k .undef = rlV t.rules[k] := Enc.getD hlt
    have hw1 : IntKind.i64.wrap ((k : Int) + 1) = ((k + 1 : Nat) : Int) := by rw [wrap_i64 (by omega) (by omega)]; rfl
    have hrl : (rnames t).length = t.rules.length := by simp [rnames]
    have htk : (rnames t).take (k + 1) = (rnames t).take k ++ [t.rules[k].name] := by
      rw [List.take_succ_eq_append_getElem (by omega)]; simp [rnames]
    have hnin : t.rules[k].name ∉ (rnames t).take k := by
      have hnd := rt.names
      rw [← List.take_append_drop (k + 1) (rnames t), htk] at hnd
      have := (List.nodup_append.1 (List.nodup_append.1 hnd).1).2.2
      intro he
      exact this _ he _ (by simp) rfl
    have hf := findE_entS t.rules[k].name ((rnames t).take k) 0 0
    rw [fndS_none.2 hnin] at hf
    simp only [Option.map_none] at hf
    have hea := entS_app ((rnames t).take k) t.rules[k].name 0
    rw [← htk] at hea
    have htl : ((rnames t).take k).length = k := by simp [hrl]; omega
    rw [htl, Nat.zero_add] at hea
    generalize t.rules[k] = r at *
    have hrc : rlC r = [.str r.name, .int .i64 r.body] := rfl
    have p1 : ¬ o = h'.nobj := by omega
    have p2 : ¬ m1 = h'.nobj := by omega
    have p3 : ¬ m2 = h'.nobj := by omega
    have p4 : ¬ m3 = h'.nobj := by omega
    have q0 : (h'.new (rlC r)).objs h'.nobj = rlC r := by simp
    have q1 : (h'.new (rlC r)).objs o = loC t 0 1 [] m1 m2 m3 (.sl 0 1 []) := by simp [p1, bo]
    have q2 : (h'.new (rlC r)).objs m1 = [] := by simp [p2, bm1]
    have q3 : (h'.new (rlC r)).objs m2 = entS ((rnames t).take k) 0 := by simp [p3, bm2]
    have q4 : (h'.new (rlC r)).objs m3 = [] := by simp [p4, bm3]
    have q5 := fr.new (rlC r)
    simp [hlt', hg, rlV, V.cells, V.good, hrc, setAt]
    rw [← hrc]
    generalize h'.new (rlC r) = h2 at *
    have g1 : ¬ o = m2 := e2
    have g2 : ¬ m3 = m2 := fun e => f3 e.symm
    simp [q1, loC, q0, hrc, q3, hf, mupF, hw1]
    exact ⟨t.rules.length - (k + 1), by omega, iv ⟨k + 1, by omega, rfl, q5.set (.inl (by simp)) _, by rw [set_objs_ne _ _ _ g1]; exact q1, by rw [set_objs_ne _ _ _ f1]; exact q2, by rw [set_objs_ne _ _ _ g2]; exact q4, by rw [set_objs_same, hea], rfl⟩⟩
  · have hlt' : ¬ (k : Int) < t.rules.length := by omega
    obtain rfl : k = t.rules.length := by omega
    rw [List.take_of_length_le (by simp [rnames])] at bm2
    simp [hlt']
    refine ecall (alone_spec L t rt (o := o) (by omega) (by rw [bo]; rfl) fun h3 g3 n3 a3 => ?_)
    have bo3 : h3.objs o = loC t 0 1 [] m1 m2 m3 (.sl 0 1 []) := (g3.objs _ (by omega)).trans bo
    have fr3 : FR h h3 [o, m1, m2, m3] 1 := ⟨Nat.le_trans fr.next g3.next, Nat.le_trans fr.nobj g3.nobj, fun x hx hn => (g3.objs _ (by omega)).trans (fr.objs x hx hn), fun s hs hn => (g3.tips s (by have := fr.next; omega)).trans (fr.tips s hs hn)⟩
    have g1' : h3.objs m1 = [] := (g3.objs _ (by omega)).trans bm1
    have g2' : h3.objs m2 = entS (rnames t) 0 := (g3.objs _ (by omega)).trans bm2
    have g3' : h3.objs m3 = [] := (g3.objs _ (by omega)).trans bm3
    simp [bo3, loC]
    refine loopI (n := t.nodes.length) (fun mm env h4 => ∃ k e sn, k ≤ t.nodes.length ∧ mm = t.nodes.length - k ∧ FR h h4 [o, m1, m2, m3] 1 ∧ h4.objs o = loC t e sn (termsF (t.nodes.take k) []) m1 m2 m3 (.sl 0 1 []) ∧ h4.objs m1 = entS (termsF (t.nodes.take k) []) 0 ∧ h4.objs m2 = entS (rnames t) 0 ∧ h4.objs m3 = entI (ownE t k) ∧
        May 1 h4 e sn (strs (termsF (t.nodes.take k) [])) ∧ (sn ≤ 2 ∨ h.next ≤ sn) ∧ h4.objs h'.nobj = entK (aloneK t) ∧ h'.nobj < h4.nobj ∧
        env = [(0, .ptr o 0), (4, .mapr h'.nobj), (5, .int .i64 ((t.rules.length + cntN t k : Nat) : Int)), (39, .sl 3 0 (t.nodes.map ndV)), (40, .int .i64 t.nodes.length), (41, .int .i64 k)]) ?_
      ⟨0, 0, 1, by omega, by omega, fr3, bo3, by simpa [termsF, entS] using g1', g2', by simpa [ownE, entI] using g3', ⟨.inl rfl, .inl rfl⟩, by omega, a3, n3, by simp [cntN]⟩
    clear fr bo bm1 bm2 bm3 fr3 g1' g2' g3' bo3 a3
    rintro mm env h4 ⟨k, e, sn, hk, rfl, fr, bo, bm1, bm2, bm3, my, hsn, ba, na, rfl⟩
    unfold A.lower_lowerer_number.L1
    by_cases hlt : k < t.nodes.length
    · have hlt' : (k : Int) < t.nodes.length := by omega
      have hg : (t.nodes.map ndV).getD k .undef = ndV t.nodes[k] := Enc.getD hlt
      have hw1 : IntKind.i64.wrap ((k : Int) + 1) = ((k + 1 : Nat) : Int) := by rw [wrap_i64 (by omega) (by omega)]; rfl
      have hts : termsF (t.nodes.take (k + 1)) [] = tstep (termsF (t.nodes.take k) []) t.nodes[k] := by
        rw [List.take_succ_eq_append_getElem hlt, termsF_snoc]
      have hah := alone_has hlt (kindR rt hlt).2
      have hoe := ownE_succ t k
      have hce := cntN_succ t k
      have hcl := cntN_le t k
      have hkk := kindR rt hlt
      have htl := (termsF_len (t.nodes.take k) []).1
      have htl2 : (termsF (t.nodes.take k) []).length ≤ 200 := by simp at htl; omega
      generalize hT : termsF (t.nodes.take k) [] = T at *
      generalize t.nodes[k] = x at *
      have hxc : ndC x = [.int .i64 x.kind, .str x.name, .sl 1 0 (ints x.kids)] := rfl
      have p1 : ¬ o = h4.nobj := by omega
      have p2 : ¬ m1 = h4.nobj := by omega
      have p3 : ¬ m2 = h4.nobj := by omega
      have p4 : ¬ m3 = h4.nobj := by omega
      have p5 : ¬ h'.nobj = h4.nobj := by omega
      have q0 : (h4.new (ndC x)).objs h4.nobj = ndC x := by simp
      have q1 : (h4.new (ndC x)).objs o = loC t e sn T m1 m2 m3 (.sl 0 1 []) := by simp [p1, bo]
      have q2 : (h4.new (ndC x)).objs m1 = entS T 0 := by simp [p2, bm1]
      have q3 : (h4.new (ndC x)).objs m2 = entS (rnames t) 0 := by simp [p3, bm2]
      have q4 : (h4.new (ndC x)).objs m3 = entI (ownE t k) := by simp [p4, bm3]
      have q5 : (h4.new (ndC x)).objs h'.nobj = entK (aloneK t) := by simp [p5, ba]
      have q6 := fr.new (ndC x)
      have q7 : (h4.new (ndC x)).nobj = h4.nobj + 1 := by simp
      have q8 : May 1 (h4.new (ndC x)) e sn (strs T) := ⟨my.el, my.st⟩
      have p6 : ¬ h'.nobj = o := by omega
      have p7 : ¬ h'.nobj = m1 := by omega
      have p8 : ¬ h'.nobj = m3 := by omega
      simp [hlt', hg, ndV, V.cells, V.good, hxc, setAt]
      rw [← hxc]
      generalize h4.new (ndC x) = h5 at *
      by_cases c7 : x.kind = 7
      · have hh : hasN t k = false := by rw [hah]; simp [c7]
        rw [hh, if_neg (by simp)] at hoe hce
        simp [q0, hxc, c7]
        refine ecall (term_spec L t (o := o) x.name q1 q2 e1 (by omega) q8 (fun hs => ?_) (fun hs => ?_))
        · have hte : tstep T x = T := by unfold tstep; rw [if_neg (fun e => hs ((plc_neg _ _).1 e.2))]
          rw [hte] at hts
          simp [hw1]
          exact ⟨t.nodes.length - (k + 1), by omega, iv ⟨k + 1, e, sn, by omega, rfl, q6, by rw [hts]; exact q1, by rw [hts]; exact q2, q3, by rw [hoe]; exact q4, by rw [hts]; exact q8, hsn, q5, by omega, by rw [hce]; simp⟩⟩
        · have hte : tstep T x = T ++ [x.name] := by unfold tstep; rw [if_pos ⟨c7, (plc_neg _ _).2 hs⟩]
          rw [hte] at hts
          have d1 : ¬ m1 = o := fun e => e1 e.symm
          have d2 : ¬ m2 = o := fun e => e2 e.symm
          have d3 : ¬ m3 = o := fun e => e3 e.symm
          have d4 : ¬ m2 = m1 := fun e => f1 e.symm
          have d5 : ¬ m3 = m1 := fun e => f2 e.symm
          simp [hw1]
          exact ⟨t.nodes.length - (k + 1), by omega, iv ⟨k + 1, 1, h5.next, by omega, rfl,
            ((q6.set (o := m1) (.inl (by simp)) _).push (s1 := sn) (by omega) 1).set (.inl (by simp)) _, by rw [set_objs_same, hts],
            by rw [set_objs_ne _ _ _ d1, push_objs, set_objs_same, hts], by rw [set_objs_ne _ _ _ d2, push_objs, set_objs_ne _ _ _ d4]; exact q3,
            by rw [set_objs_ne _ _ _ d3, push_objs, set_objs_ne _ _ _ d5, hoe]; exact q4, ⟨.inr rfl, .inr (.inr (by rw [set_tips]; exact push_new _ _ _))⟩, .inr q6.next,
            by rw [set_objs_ne _ _ _ p6, push_objs, set_objs_ne _ _ _ p7]; exact q5, by rw [set_nobj, push_nobj, set_nobj]; omega, by rw [hce]; simp⟩⟩
      · have hte : tstep T x = T := by unfold tstep; rw [if_neg (fun e => c7 e.1)]
        rw [hte] at hts
        by_cases c6 : x.kind = 6
        · have hh : hasN t k = false := by rw [hah]; simp [c6]
          rw [hh, if_neg (by simp)] at hoe hce
          simp [q0, hxc, c7, c6, hw1]
          exact ⟨t.nodes.length - (k + 1), by omega, iv ⟨k + 1, e, sn, by omega, rfl, q6, by rw [hts]; exact q1, by rw [hts]; exact q2, q3, by rw [hoe]; exact q4, by rw [hts]; exact q8, hsn, q5, by omega, by rw [hce]; simp⟩⟩
        · rcases findE_entK (k : Int) (aloneK t) 0 with ⟨a1, a2⟩ | ⟨a1, i, a2, a3, a4⟩
          · have hh : hasN t k = true := by rw [hah]; simp [c6, c7, a1]
            rw [hh, if_pos rfl] at hoe hce
            have hfi := findE_entI (k : Int) (ownE t k) 0
            rw [ownE_fresh] at hfi
            simp only [Option.map_none] at hfi
            have hw2 : IntKind.i64.wrap ((t.rules.length : Int) + (cntN t k : Int) + 1) = (t.rules.length : Int) + (cntN t k : Int) + 1 := wrap_i64 (by omega) (by omega)
            have how : ownN t k = ((t.rules.length + cntN t k : Nat) : Int) := by unfold ownN; rw [hh]; rfl
            have hen := entI_app (ownE t k) ((k : Int), ownN t k)
            rw [← hoe, how] at hen
            have d1 : ¬ m1 = m3 := f2
            have d2 : ¬ m2 = m3 := f3
            simp [q0, hxc, c7, c6, q5, a2, q1, loC, q4, hfi, mupF, hw1, hw2]
            exact ⟨t.nodes.length - (k + 1), by omega, iv ⟨k + 1, e, sn, by omega, rfl, q6.set (.inl (by simp)) _, by rw [set_objs_ne _ _ _ e3, hts]; exact q1, by rw [set_objs_ne _ _ _ d1, hts]; exact q2, by rw [set_objs_ne _ _ _ d2]; exact q3,
              by rw [set_objs_same, hen]; simp, by rw [hts]; exact ⟨q8.el, q8.st⟩, hsn, by rw [set_objs_ne _ _ _ p8]; exact q5, by rw [set_nobj]; omega, by rw [hce]; simp; omega⟩⟩
          · have hh : hasN t k = false := by rw [hah]; simp [a1]
            rw [hh, if_neg (by simp)] at hoe hce
            simp [q0, hxc, c7, c6, q5, a4, hw1]
            exact ⟨t.nodes.length - (k + 1), by omega, iv ⟨k + 1, e, sn, by omega, rfl, q6, by rw [hts]; exact q1, by rw [hts]; exact q2, q3, by rw [hoe]; exact q4, by rw [hts]; exact q8, hsn, q5, by omega, by rw [hce]; simp⟩⟩
    · have hlt' : ¬ (k : Int) < t.nodes.length := by omega
      obtain rfl : k = t.nodes.length := by omega
      rw [List.take_length] at *
      have nb4 := fr.nobj
      simp [hlt']
      exact hQ h4 e sn fr bo my.el ⟨⟨e, sn, _, bo⟩, bm1, bm2, bm3, by omega, ⟨e1, e2, e3⟩⟩
end
end Go.Proofs.Ytmobijebjkjnoaa.Al
namespace Go.Proofs.Ytmobijebjkjnoaa.Al
open Go Go.RowKit
set_option linter.unusedSimpArgs false
set_option linter.unusedVariables false
attribute [-simp] List.getD_eq_getElem?_getD Int.not_lt Int.not_le List.map_take List.map_map
/-- A lowerer that lays productions: its object, from h0 on. -/
structure NS (t : Te) (h0 h : AH) (o m1 m2 m3 e sn sp0 : Nat) (ps : List Pr) : Prop where
  ob : ∃ e1 sp, h.objs o = loC t e sn (termsT t) m1 m2 m3 (.sl e1 sp (ps.map prV)) ∧ May 2 h e1 sp (ps.map prV) ∧ (sp = sp0 ∨ h0.next ≤ sp)
  fr : FR h0 h [o] sp0
  lf : LoF h o m1 m2 m3 t
theorem prodsT_right {t : Te} (rt : RTe t) (n : Nat) (left : Int) : ∀ p ∈ prodsT t n left, p.right.length ≤ 200 := by
  unfold prodsT
  split
  · rename_i x hx
    obtain ⟨hn, rfl⟩ := List.getElem?_eq_some_iff.1 hx
    have := rt.kids_len hn
    repeat' split
    · simp
    · simp [symsT]; omega
    · intro p hp
      obtain ⟨k, hk, rfl⟩ := List.mem_map.1 hp
      unfold altP
      split
      · rename_i y hy
        obtain ⟨hm, rfl⟩ := List.getElem?_eq_some_iff.1 hy
        have := rt.kids_len hm
        split
        · simp [symsT]; omega
        · simp
      · simp
    all_goals simp
  · simp
theorem lowP_right {t : Te} (rt : RTe t) : ∀ p ∈ lowP t, p.right.length ≤ 200 := by
  intro p hp
  unfold lowP lowA lowB at hp
  simp only [List.mem_append, List.mem_flatMap] at hp
  rcases hp with ⟨i, _, hp⟩ | ⟨i, _, hp⟩
  · exact prodsT_right rt _ _ p hp
  · split at hp
    · exact prodsT_right rt _ _ p hp
    · simp at hp
theorem lowG_ok {t : Te} (rt : RTe t) : GmOk (lowG t) := by
  have h1 := lowA_len rt t.rules.length rt.r1
  have h2 := lowB_len rt t.nodes.length rt.n1
  refine ⟨?_, fun p hp => ?_⟩
  · simp only [lowG, lowP, List.length_append, maxLen]; omega
  · have := lowP_right rt p hp
    unfold maxLen; omega
section
variable {X : Cx} {h : AH} {Q : V → AH → Prop}
theorem NS.new {t : Te} {h0 h : AH} {o m1 m2 m3 e sn sp0 : Nat} {ps : List Pr} (n : NS t h0 h o m1 m2 m3 e sn sp0 ps) (z : List V) : NS t h0 (h.new z) o m1 m2 m3 e sn sp0 ps := by
  obtain ⟨e1, sp, b1, b2, b3⟩ := n.ob
  have := n.lf.lt.1
  exact ⟨⟨e1, sp, by rw [new_objs_ne _ _ (by omega)]; exact b1, ⟨b2.el, b2.st⟩, b3⟩, n.fr.new z, n.lf.gr ((Gr.refl h).new z)⟩
/-- One production more. -/
theorem NS.lay (L : LLo X) {t : Te} {h0 h : AH} {o m1 m2 m3 e sn sp0 : Nat} {ps : List Pr} (n : NS t h0 h o m1 m2 m3 e sn sp0 ps) (hl : ps.length ≤ 2 ^ 30) (p : Pr) {e2 st : Nat} {v : V} (hv : Wk v (.sl 2 0 (p.right.map symV))) :
    ∃ h', NS t h0 h' o m1 m2 m3 e sn sp0 (ps ++ [p]) ∧ h'.nobj = h.nobj ∧ (∀ x, x ≠ o → h'.objs x = h.objs x) ∧ ∀ {Q : V → AH → Prop}, Q (.tup []) h' → Ecx X K.lower_lowerer_lay [.ptr o 0, .int .i64 p.left, v] h Q := by
  obtain ⟨e1, sp, b1, b2, b3⟩ := n.ob
  have lt := n.lf.lt
  have ne := n.lf.ne
  refine ⟨_, ⟨⟨2, h.next, by rw [set_objs_same]; rfl, ⟨.inr rfl, .inr (.inr (by rw [set_tips]; exact push_new _ _ _))⟩, .inr n.fr.next⟩, ?_, ?_⟩, by rw [set_nobj, push_nobj], fun x hx => by rw [set_objs_ne _ _ _ hx, push_objs], fun {Q} hQ => Ecx.wkL (.cons (.same _) (.cons (.same _) (.cons hv .nil))) (lay_spec L p (by rw [b1]; rfl) b2 hl hQ)⟩
  · refine (n.fr.push (s1 := sp) ?_ 2).set (.inl (by simp)) _
    rcases b3 with b3 | b3
    · exact .inl b3
    · exact .inr (.inr b3)
  · exact ⟨⟨e, sn, _, by rw [set_objs_same]; rfl⟩, by rw [set_objs_ne _ _ _ (fun q => ne.1 q.symm), push_objs]; exact n.lf.o1, by rw [set_objs_ne _ _ _ (fun q => ne.2.1 q.symm), push_objs]; exact n.lf.o2, by rw [set_objs_ne _ _ _ (fun q => ne.2.2 q.symm), push_objs]; exact n.lf.o3, by rw [set_nobj, push_nobj]; exact lt, ne⟩
theorem nodeL0 (L : LLo X) (t : Te) (rt : RTe t) {h0 : AH} {o m1 m2 m3 e sn sp0 : Nat} {ps : List Pr} (ns : NS t h0 h o m1 m2 m3 e sn sp0 ps) (hps : ps.length ≤ 2 ^ 29) (left : Int) (ks : List Int) (hkl : ks.length ≤ 200) (hin : ∀ k ∈ ks, 0 ≤ k ∧ k < t.nodes.length)
    (hch : ∀ k : Nat, (k : Int) ∈ ks → (hkn : k < t.nodes.length) → t.nodes[k].kind ≠ 1 → t.nodes[k].kind ≤ 5 → hasN t k = true) {Q : Ex → Env → AH → Prop} {zQ : Lz Q} {z : Lz (AC.loop A.lower_lowerer_node.L0)}
    (hQ : ∀ h', NS t h0 h' o m1 m2 m3 e sn sp0 (ps ++ ks.map (altP t left)) → h.nobj ≤ h'.nobj → (∀ x, x < h.nobj → x ≠ o → h'.objs x = h.objs x) → Q (.exit 1) [(0, .ptr o 0), (1, .int .i64 left), (6, .fn K.lower_lowerer_symbol [.ptr o 0] []), (44, .sl 1 0 (ints ks)), (45, .int .i64 ks.length), (46, .int .i64 ks.length), (47, .bool false)] h') :
    acZ (Ecx X) [(0, .ptr o 0), (1, .int .i64 left), (6, .fn K.lower_lowerer_symbol [.ptr o 0] []), (44, .sl 1 0 (ints ks)), (45, .int .i64 ks.length), (46, .int .i64 0)] h z zQ := by
  have hil : (ints ks).length = ks.length := by simp [ints]
  refine loopI (n := ks.length) (fun mm env h' => ∃ k, k ≤ ks.length ∧ mm = ks.length - k ∧ NS t h0 h' o m1 m2 m3 e sn sp0 (ps ++ (ks.take k).map (altP t left)) ∧ h.nobj ≤ h'.nobj ∧ (∀ x, x < h.nobj → x ≠ o → h'.objs x = h.objs x) ∧
    env = [(0, .ptr o 0), (1, .int .i64 left), (6, .fn K.lower_lowerer_symbol [.ptr o 0] []), (44, .sl 1 0 (ints ks)), (45, .int .i64 ks.length), (46, .int .i64 k)]) ?_
    ⟨0, by omega, by omega, by simpa using ns, Nat.le_refl _, fun _ _ _ => rfl, rfl⟩
  rintro mm env h' ⟨k, hk, rfl, ns1, nb, ho, rfl⟩
  unfold A.lower_lowerer_node.L0
  by_cases hlt : k < ks.length
  · have hlt' : (k : Int) < ks.length := by omega
    have hgk := ints_get hlt
    have hw1 : IntKind.i64.wrap ((k : Int) + 1) = ((k + 1 : Nat) : Int) := by rw [wrap_i64 (by omega) (by omega)]; rfl
    have hts : (ks.take (k + 1)).map (altP t left) = (ks.take k).map (altP t left) ++ [altP t left ks[k]] := by
      rw [List.take_succ_eq_append_getElem hlt, List.map_append]; rfl
    have hink := hin _ (List.getElem_mem hlt)
    have hmem := List.getElem_mem hlt
    obtain ⟨c, hc⟩ : ∃ c : Nat, ks[k] = (c : Int) := ⟨ks[k].toNat, by omega⟩
    rw [hc] at hgk hts hink hmem
    have hcn : c < t.nodes.length := by omega
    have hcn' : (c : Int) < t.nodes.length := by omega
    have hgc : (t.nodes.map ndV).getD c .undef = ndV t.nodes[c] := Enc.getD hcn
    have hap : altP t left c = if t.nodes[c].kind = 1 then ⟨left, symsT t t.nodes[c].kids⟩ else ⟨left, [symT t c]⟩ := by
      unfold altP; rw [Int.toNat_natCast, List.getElem?_eq_getElem hcn]
    have hinc := rt.in hcn
    have hlc := rt.kids_len hcn
    have hcc := hch c hmem hcn
    have hgr : t.nodes[c].kind = 1 → ∀ m : Nat, (m : Int) ∈ t.nodes[c].kids → (hmn : m < t.nodes.length) → t.nodes[m].kind ≤ 5 → hasN t m = true := fun k1 m hm hmn h5 => kid_has rt hcn hm hmn h5 (fun e => by omega)
    obtain ⟨e1, sp, ob, my, hsp⟩ := ns1.ob
    have hpl : (ps ++ (ks.take k).map (altP t left)).length ≤ 2 ^ 30 := by simp; omega
    generalize hy : t.nodes[c] = y at *
    have hyc : ndC y = [.int .i64 y.kind, .str y.name, .sl 1 0 (ints y.kids)] := rfl
    by_cases c1 : y.kind = 1
    · rw [if_pos c1] at hap
      simp [hlt', hgk, hil, V.cells, ob, loC, hcn', hgc, ndV, hyc, c1]
      refine ecall (all_spec L y.kids (fun m => symT t m.toNat) (by omega) (fun k hk {h''} {Q'} g hq => ?_) ?_)
      · obtain ⟨m, rfl⟩ : ∃ m : Nat, k = (m : Int) := ⟨k.toNat, by have := hinc k hk; omega⟩
        have hmn : m < t.nodes.length := by have := hinc _ hk; omega
        exact symbol_spec L t rt (ns1.lf.gr g) m hmn (hgr c1 m hk hmn) (by simpa using hq)
      obtain ⟨h3, ns3, r1, r2, r3⟩ := NS.lay L ns1 hpl ⟨left, symsT t y.kids⟩ (e2 := 0) (st := 0) (v := .sl 2 0 ((y.kids.map fun m => symT t m.toNat).map symV)) (.same _)
      simp
      refine ecall (r3 ?_)
      simp [hw1]
      exact ⟨ks.length - (k + 1), by omega, iv ⟨k + 1, by omega, rfl, by rw [hts, hap, ← List.append_assoc]; exact ns3, by omega, fun x hx hxo => by rw [r2 _ hxo]; exact ho x hx hxo, rfl⟩⟩
    · rw [if_neg c1] at hap
      have hsc : ∀ y : Sy, symC y = [.bool y.non, .int .i64 y.n] := fun _ => rfl
      simp [hlt', hgk, hil, V.cells, ob, loC, hcn', hgc, ndV, hyc, c1]
      refine ecall (symbol_spec L t rt ns1.lf c hcn (by rw [hy]; exact hcc c1) ?_)
      obtain ⟨h3, ns3, r1, r2, r3⟩ := NS.lay L ns1 hpl ⟨left, [symT t c]⟩ (e2 := 0) (st := 0) (v := .sl 2 2 [symV (symT t c)]) (.sl _ _ _)
      simp [fillL, V.isAgg, symV, hsc]
      refine ecall (r3 ?_)
      simp [hw1]
      exact ⟨ks.length - (k + 1), by omega, iv ⟨k + 1, by omega, rfl, by rw [hts, hap, ← List.append_assoc]; exact ns3, by omega, fun x hx hxo => by rw [r2 _ hxo]; exact ho x hx hxo, rfl⟩⟩
  · have hlt' : ¬ (k : Int) < ks.length := by omega
    obtain rfl : k = ks.length := by omega
    rw [List.take_length] at ns1
    simp [hlt']
    exact hQ h' ns1 nb ho
theorem node_spec (L : LLo X) (t : Te) (rt : RTe t) {h0 : AH} {o m1 m2 m3 e sn sp0 : Nat} {ps : List Pr} (ns : NS t h0 h o m1 m2 m3 e sn sp0 ps) (hps : ps.length ≤ 2 ^ 29) (n : Nat) (hn : n < t.nodes.length) (left : Int)
    (hQ : ∀ h', NS t h0 h' o m1 m2 m3 e sn sp0 (ps ++ prodsT t n left) → h.nobj ≤ h'.nobj → (∀ x, x < h.nobj → x ≠ o → h'.objs x = h.objs x) → Q (.tup []) h') : Ecx X K.lower_lowerer_node [.ptr o 0, .int .i64 left, .int .i64 n] h Q := by
  refine fn_any L.node (by simp [A.lower_lowerer_node]) fun wf => ?_
  obtain ⟨e1, sp, ob, my, hsp⟩ := ns.ob
  have hii : (n : Int) < t.nodes.length := by omega
  have hg : (t.nodes.map ndV).getD n .undef = ndV t.nodes[n] := Enc.getD hn
  have hp : prodsT t n left = (if 6 ≤ t.nodes[n].kind then [⟨left, [symT t n]⟩] else if t.nodes[n].kind = 1 then [⟨left, symsT t t.nodes[n].kids⟩] else if t.nodes[n].kind = 2 then t.nodes[n].kids.map (altP t left)
    else if t.nodes[n].kind = 3 then [⟨left, [symT t (t.nodes[n].kids.headD 0).toNat, ⟨true, left⟩]⟩, ⟨left, []⟩]
    else if t.nodes[n].kind = 4 then [⟨left, [symT t (t.nodes[n].kids.headD 0).toNat, ⟨true, left⟩]⟩, ⟨left, [symT t (t.nodes[n].kids.headD 0).toNat]⟩]
    else [⟨left, [symT t (t.nodes[n].kids.headD 0).toNat]⟩, ⟨left, []⟩]) := by
    unfold prodsT; rw [List.getElem?_eq_getElem hn]
  have hfk := fineT_kind (rt.fine _ (List.getElem_mem hn))
  have hin := rt.in hn
  have hkl := rt.kids_len hn
  have hch : ∀ k : Nat, (k : Int) ∈ t.nodes[n].kids → (hkn : k < t.nodes.length) → ¬ (t.nodes[n].kind = 2 ∧ t.nodes[k].kind = 1) → t.nodes[k].kind ≤ 5 → hasN t k = true := fun k hk hkn hc h5 => kid_has rt hn hk hkn h5 hc
  have hself : t.nodes[n].kind = 6 ∨ t.nodes[n].kind = 7 → t.nodes[n].kind ≤ 5 → hasN t n = true := fun a b => by omega
  rw [hp] at hQ
  generalize hx : t.nodes[n] = x at *
  have hxc : ndC x = [.int .i64 x.kind, .str x.name, .sl 1 0 (ints x.kids)] := rfl
  have lt := ns.lf.lt
  have ns2 := (ns.new (ndC x)).new [.bool true, .int .i64 left]
  have b1 : ((h.new (ndC x)).new [.bool true, .int .i64 left]).objs h.nobj = ndC x := by simp
  have b2 : ((h.new (ndC x)).new [.bool true, .int .i64 left]).objs (h.nobj + 1) = [.bool true, .int .i64 left] := by simp
  have b3 : ((h.new (ndC x)).new [.bool true, .int .i64 left]).nobj = h.nobj + 2 := by simp
  have b4 : ∀ y, y < h.nobj → ((h.new (ndC x)).new [.bool true, .int .i64 left]).objs y = h.objs y := fun y hy => by simp [show ¬ y = h.nobj by omega, show ¬ y = h.nobj + 1 by omega]
  have n0 : ¬ h.nobj = h.nobj + 1 := by omega
  simp [A.lower_lowerer_node, ob, loC, hii, hg, ndV, hxc, V.cells, V.good, setAt, fillV]
  rw [← hxc]
  generalize ((h.new (ndC x)).new [.bool true, .int .i64 left]) = h2 at *
  have ne1 : ¬ h.nobj = o := by omega
  have ne2 : ¬ h.nobj + 1 = o := by omega
  by_cases k1 : x.kind = 1
  · rw [if_neg (by omega), if_pos k1] at hQ
    simp [b1, hxc, k1]
    refine ecall (all_spec L x.kids (fun m => symT t m.toNat) (by omega) (fun k hk {h'} {Q'} g hq => ?_) ?_)
    · obtain ⟨c, rfl⟩ : ∃ c : Nat, k = (c : Int) := ⟨k.toNat, by have := hin k hk; omega⟩
      have hcn : c < t.nodes.length := by have := hin _ hk; omega
      exact symbol_spec L t rt (ns2.lf.gr g) c hcn (hch c hk hcn (by omega)) (by simpa using hq)
    obtain ⟨h3, ns3, r1, r2, r3⟩ := NS.lay L ns2 (by omega) ⟨left, symsT t x.kids⟩ (e2 := 0) (st := 0) (v := .sl 2 0 ((x.kids.map fun m => symT t m.toNat).map symV)) (.same _)
    simp
    refine ecall (r3 ?_)
    simp
    exact hQ _ ns3 (by omega) (fun y hy hyo => by rw [r2 _ hyo]; exact b4 y hy)
  by_cases k2 : x.kind = 2
  · rw [if_neg (by omega), if_neg k1, if_pos k2] at hQ
    have hil : (ints x.kids).length = x.kids.length := by simp [ints]
    simp [b1, hxc, k1, k2, hil]
    refine nodeL0 L t rt ns2 (by omega) left x.kids (by omega) hin (fun k hk hkn hc h5 => hch k hk hkn (fun e => hc e.2) h5) (fun h3 ns3 r1 r2 => ?_)
    simp
    exact hQ _ ns3 (by omega) (fun y hy hyo => by rw [r2 _ (by omega) hyo]; exact b4 y hy)
  by_cases k67 : x.kind = 6 ∨ x.kind = 7
  · rw [if_pos (by omega)] at hQ
    have k3 : ¬ x.kind = 3 := by omega
    have k4 : ¬ x.kind = 4 := by omega
    have k5 : ¬ x.kind = 5 := by omega
    simp [b1, hxc, k1, k2, k3, k4, k5]
    refine ecall (symbol_spec L t rt ns2.lf n hn (by rw [hx]; exact hself k67) ?_)
    obtain ⟨h3, ns3, r1, r2, r3⟩ := NS.lay L ns2 (by omega) ⟨left, [symT t n]⟩ (e2 := 0) (st := 0) (v := .sl 2 2 [symV (symT t n)]) (.sl _ _ _)
    have hsc : ∀ y : Sy, symC y = [.bool y.non, .int .i64 y.n] := fun _ => rfl
    simp [fillL, V.isAgg, symV, hsc]
    refine ecall (r3 ?_)
    simp
    exact hQ _ ns3 (by omega) (fun y hy hyo => by rw [r2 _ hyo]; exact b4 y hy)
  rw [if_neg (by omega), if_neg k1, if_neg k2] at hQ
  have hk1 : x.kids.length = 1 := by omega
  obtain ⟨c, hc⟩ : ∃ c, x.kids = [c] := by
    match hx : x.kids, hk1 with
    | [c], _ => exact ⟨c, rfl⟩
  obtain ⟨c, rfl⟩ : ∃ c' : Nat, c = (c' : Int) := ⟨c.toNat, by have := hin c (by rw [hc]; simp); omega⟩
  have hcn : c < t.nodes.length := by have := hin c (by rw [hc]; simp); omega
  simp only [hc, List.headD_cons, Int.toNat_natCast] at hQ
  have hxc' : ndC x = [.int .i64 x.kind, .str x.name, .sl 1 0 [.int .i64 (c : Int)]] := by rw [hxc, hc]; rfl
  have hsc : ∀ y : Sy, symC y = [.bool y.non, .int .i64 y.n] := fun _ => rfl
  have hcs := hch c (by rw [hc]; simp) hcn (by omega)
  by_cases k3 : x.kind = 3
  · rw [if_pos k3] at hQ
    simp [b1, hxc', k1, k2, k3, V.cells]
    refine dcall (symV (symT t c)) (symbol_spec L t rt ns2.lf c hcn hcs ⟨rfl, rfl⟩) ?_
    obtain ⟨h3, ns3, r1, r2, r3⟩ := NS.lay L ns2 (by omega) ⟨left, [symT t c, ⟨true, left⟩]⟩ (e2 := 0) (st := 0) (v := .sl 2 2 [symV (symT t c), symV ⟨true, left⟩]) (.sl _ _ _)
    simp [fillL, V.isAgg, symV, hsc, b2]
    refine dcallE _ _ (r3 ⟨rfl, rfl⟩) ?_
    simp
    obtain ⟨h4, ns4, s1, s2, s3⟩ := NS.lay L ns3 (by simp; omega) ⟨left, []⟩ (e2 := 0) (st := 0) (v := .sl 0 1 []) (.nil _ _ _)
    refine ecall (s3 ?_)
    simp
    exact hQ _ (by simpa using ns4) (by omega) (fun y hy hyo => by rw [s2 _ hyo, r2 _ hyo]; exact b4 y hy)
  rw [if_neg k3] at hQ
  by_cases k4 : x.kind = 4
  · rw [if_pos k4] at hQ
    simp [b1, hxc', k1, k2, k4, V.cells]
    refine dcall (symV (symT t c)) (symbol_spec L t rt ns2.lf c hcn hcs ⟨rfl, rfl⟩) ?_
    obtain ⟨h3, ns3, r1, r2, r3⟩ := NS.lay L ns2 (by omega) ⟨left, [symT t c, ⟨true, left⟩]⟩ (e2 := 0) (st := 0) (v := .sl 2 2 [symV (symT t c), symV ⟨true, left⟩]) (.sl _ _ _)
    simp [fillL, V.isAgg, symV, hsc, b2]
    refine dcallE _ _ (r3 ⟨rfl, rfl⟩) ?_
    have b1' : h3.objs h.nobj = ndC x := by rw [r2 _ ne1]; exact b1
    simp [b1', hxc', V.cells]
    refine ecall (symbol_spec L t rt ns3.lf c hcn hcs ?_)
    obtain ⟨h4, ns4, s1, s2, s3⟩ := NS.lay L ns3 (by simp; omega) ⟨left, [symT t c]⟩ (e2 := 0) (st := 0) (v := .sl 2 2 [symV (symT t c)]) (.sl _ _ _)
    simp [fillL, V.isAgg, symV, hsc]
    refine ecall (s3 ?_)
    simp
    exact hQ _ (by simpa using ns4) (by omega) (fun y hy hyo => by rw [s2 _ hyo, r2 _ hyo]; exact b4 y hy)
  · rw [if_neg k4] at hQ
    have k5 : x.kind = 5 := by omega
    simp [b1, hxc', k1, k2, k3, k4, k5, V.cells]
    refine ecall (symbol_spec L t rt ns2.lf c hcn hcs ?_)
    obtain ⟨h3, ns3, r1, r2, r3⟩ := NS.lay L ns2 (by omega) ⟨left, [symT t c]⟩ (e2 := 0) (st := 0) (v := .sl 2 2 [symV (symT t c)]) (.sl _ _ _)
    simp [fillL, V.isAgg, symV, hsc]
    refine ecall (r3 ?_)
    simp
    obtain ⟨h4, ns4, s1, s2, s3⟩ := NS.lay L ns3 (by simp; omega) ⟨left, []⟩ (e2 := 0) (st := 0) (v := .sl 0 1 []) (.nil _ _ _)
    refine ecall (s3 ?_)
    simp
    exact hQ _ (by simpa using ns4) (by omega) (fun y hy hyo => by rw [s2 _ hyo, r2 _ hyo]; exact b4 y hy)
theorem lower_spec (L : LLo X) (t : Te) (hr : t.rules.length < 2 ^ 30) (hn : t.nodes.length < 2 ^ 30) (hrn : ∀ r ∈ t.rules, r.name.length ≤ 2 ^ 30) (hnn : ∀ n ∈ t.nodes, n.name.length ≤ 2 ^ 30) (hks : ∀ n ∈ t.nodes, n.kids.length ≤ 2 ^ 30)
    (hQ : Q (lowV (lowRes t)) h) : Ecx X K.lower_Lower [teV t] h Q := by
  refine fn_walk L.lower (by simp [A.lower_Lower]) fun wf => ?_
  have htc : teC t = [.sl 2 0 (t.rules.map rlV), .sl 3 0 (t.nodes.map ndV)] := rfl
  have z4 : (AH.new (h.new (teC t)) [V.int .i64 0, .int .i64 0, .int .i64 0, .sl 0 1 []]).nobj = h.nobj + 2 := by simp
  have gr := ((Gr.refl h).new (teC t)).new [V.int .i64 0, .int .i64 0, .int .i64 0, .sl 0 1 []]
  have b0 : (AH.new (h.new (teC t)) [V.int .i64 0, .int .i64 0, .int .i64 0, .sl 0 1 []]).objs h.nobj = teC t := by simp
  have b1 : (AH.new (h.new (teC t)) [V.int .i64 0, .int .i64 0, .int .i64 0, .sl 0 1 []]).objs (h.nobj + 1) = [V.int .i64 0, .int .i64 0, .int .i64 0, .sl 0 1 []] := by simp
  have hbd := Bdd_lowV h.next h.nobj (lowRes t)
  simp [A.lower_Lower, teV, V.cells, V.good]
  generalize AH.new (h.new (teC t)) [V.int .i64 0, .int .i64 0, .int .i64 0, .sl 0 1 []] = h1 at *
  simp [b0, htc]
  rw [← htc]
  refine ecall (ruRight_spec L.ru L.right t hr hn hrn hnn hks ?_)
  have m1 : ¬ h.nobj = h.nobj + 1 := by omega
  have hRe := right_eq t
  cases hR : rightP t with
  | false =>
    have hl : lowRes t = (⟨0, 0, 0, []⟩, [], 1) := by unfold lowRes; rw [← hRe, hR]; rfl
    rw [hl] at hQ hbd
    simp [fillV, setAt, V.cells, V.good, b1]
    refine fin_wk (gr.set (by omega) _) ?_ hbd hQ
    exact Wk.l3 (Wk.a4 (.nil _ 2 _) _ _ _) (.nil _ 1 _) (.same _)
  | true =>
  have rt : RTe t := rte_of hR
  have hN := rt.n1
  have hRu := rt.r1
  have htl : (termsT t).length ≤ 200 := by have := (termsF_len t.nodes []).1; unfold termsT; simp at this; omega
  simp [b0, htc, fillV, setAt, V.cells, V.good]
  obtain ⟨h5, hh5⟩ : ∃ h5, h5 = ((((h1.new []).new []).new []).new [.sl 2 0 (t.rules.map rlV), .sl 3 0 (t.nodes.map ndV), .sl 0 1 [], .mapr h1.nobj, .mapr (h1.nobj + 1), .mapr (h1.nobj + 2), .sl 0 1 []]) := ⟨_, rfl⟩
  rw [← hh5]
  have gr5 : Gr h h5 := by rw [hh5]; exact (((gr.new []).new []).new []).new _
  have w0 : h5.nobj = h1.nobj + 4 := by rw [hh5]; simp
  have w1 : h5.objs (h1.nobj + 3) = loC t 0 1 [] h1.nobj (h1.nobj + 1) (h1.nobj + 2) (.sl 0 1 []) := by rw [hh5]; simp [loC, strs]
  have w2 : h5.objs h1.nobj = [] := by rw [hh5]; simp [show ¬ h1.nobj = h1.nobj + 1 by omega, show ¬ h1.nobj = h1.nobj + 2 by omega, show ¬ h1.nobj = h1.nobj + 3 by omega]
  have w3 : h5.objs (h1.nobj + 1) = [] := by rw [hh5]; simp [show ¬ h1.nobj + 1 = h1.nobj + 2 by omega, show ¬ h1.nobj + 1 = h1.nobj + 3 by omega]
  have w4 : h5.objs (h1.nobj + 2) = [] := by rw [hh5]; simp [show ¬ h1.nobj + 2 = h1.nobj + 3 by omega]
  have w5 : h5.objs h.nobj = teC t := by rw [hh5]; simp [show ¬ h.nobj = h1.nobj by omega, show ¬ h.nobj = h1.nobj + 1 by omega, show ¬ h.nobj = h1.nobj + 2 by omega, show ¬ h.nobj = h1.nobj + 3 by omega, b0]
  have w6 : h5.objs (h.nobj + 1) = [V.int .i64 0, .int .i64 0, .int .i64 0, .sl 0 1 []] := by
    rw [hh5, new_objs_ne _ _ (by simp only [new_nobj]; omega), new_objs_ne _ _ (by simp only [new_nobj]; omega), new_objs_ne _ _ (by simp only [new_nobj]; omega), new_objs_ne _ _ (by omega)]; exact b1
  clear hh5
  rw [show h1.nobj + 1 + 2 = h1.nobj + 3 by omega]
  obtain ⟨o, ho⟩ : ∃ o, o = h1.nobj + 3 := ⟨_, rfl⟩
  obtain ⟨a1, ha1⟩ : ∃ a1, a1 = h1.nobj := ⟨_, rfl⟩
  obtain ⟨a2, ha2⟩ : ∃ a2, a2 = h1.nobj + 1 := ⟨_, rfl⟩
  obtain ⟨a3, ha3⟩ : ∃ a3, a3 = h1.nobj + 2 := ⟨_, rfl⟩
  rw [← ho, ← ha2, ← ha3] at w1
  rw [← ha1] at w1 w2
  rw [← ha2] at w3
  rw [← ha3] at w4
  rw [← ho]
  refine ecall (number_spec L t rt w1 w2 w3 w4 (by omega) (by omega) (by omega) fun h6 e sn fr6 ob6 el6 lf6 => ?_)
  have gr6 : Gr h h6 := gr5.fr fr6 (fun x hx => by simp at hx; omega) (by omega)
  have v5 : h6.objs h.nobj = teC t := by rw [fr6.objs _ (by omega) (by simp; omega)]; exact w5
  have v6 : h6.objs (h.nobj + 1) = [V.int .i64 0, .int .i64 0, .int .i64 0, .sl 0 1 []] := by rw [fr6.objs _ (by omega) (by simp; omega)]; exact w6
  have v0 := fr6.nobj
  have ns6 : NS t h6 h6 o a1 a2 a3 e sn 1 (lowA t 0) := ⟨⟨0, 1, by simpa [lowA] using ob6, ⟨.inl rfl, .inl rfl⟩, .inl rfl⟩, FR.refl _ _ _, lf6⟩
  have hbody : ∀ k (hk : k < t.rules.length), (t.rules.getD k ⟨[], 0⟩) = t.rules[k] := fun k hk => by simp [List.getD_eq_getElem?_getD, hk]
  have hon : h.nobj + 1 < o := by omega
  have ho6 : o < h6.nobj := by omega
  clear w0 w1 w2 w3 w4 w5 w6 gr5 fr6 ob6 b0 b1 gr lf6
  simp [v5, htc]
  refine loopI (n := t.rules.length) (fun mm env h' => ∃ k, k ≤ t.rules.length ∧ mm = t.rules.length - k ∧ NS t h6 h' o a1 a2 a3 e sn 1 (lowA t k) ∧ h'.objs h.nobj = teC t ∧ h'.objs (h.nobj + 1) = [V.int .i64 0, .int .i64 0, .int .i64 0, .sl 0 1 []] ∧ h6.nobj ≤ h'.nobj ∧
      env = [(1, .ptr h.nobj 0), (2, .ptr (h.nobj + 1) 0), (5, .ptr o 0), (25, .sl 2 0 (t.rules.map rlV)), (26, .int .i64 t.rules.length), (27, .int .i64 k)]) ?_
    ⟨0, by omega, by omega, ns6, v5, v6, Nat.le_refl _, rfl⟩
  rintro mm env h' ⟨k, hk, rfl, ns, u5, u6, nb, rfl⟩
  unfold A.lower_Lower.L0
  have hl1 := lowA_len rt k (by omega)
  by_cases hlt : k < t.rules.length
  · have hlt' : (k : Int) < t.rules.length := by omega
    have hg : (t.rules.map rlV).getD k .undef = rlV t.rules[k] := Enc.getD hlt
    have hw1 : IntKind.i64.wrap ((k : Int) + 1) = ((k + 1 : Nat) : Int) := by rw [wrap_i64 (by omega) (by omega)]; rfl
    have hbd1 := rt.body (List.getElem_mem hlt)
    have hsu := lowA_succ t k
    rw [hbody k hlt] at hsu
    obtain ⟨B, hB⟩ : ∃ B : Nat, t.rules[k].body = (B : Int) := ⟨t.rules[k].body.toNat, by omega⟩
    rw [hB, Int.toNat_natCast] at hsu
    have hrc : rlC t.rules[k] = [.str t.rules[k].name, .int .i64 (B : Int)] := by rw [← hB]; rfl
    generalize t.rules[k] = r at *
    have n0 : ¬ h.nobj = h'.nobj := by omega
    have n1 : ¬ h.nobj + 1 = h'.nobj := by omega
    have q0 : (h'.new (rlC r)).objs h'.nobj = rlC r := by simp
    have q1 : (h'.new (rlC r)).objs h.nobj = teC t := by simp [n0, u5]
    have q2 : (h'.new (rlC r)).objs (h.nobj + 1) = [V.int .i64 0, .int .i64 0, .int .i64 0, .sl 0 1 []] := by simp [n1, u6]
    have q3 : (h'.new (rlC r)).nobj = h'.nobj + 1 := by simp
    have ns2 := ns.new (rlC r)
    simp [hlt', hg, rlV, V.cells, V.good, hrc, setAt]
    rw [← hrc]
    generalize h'.new (rlC r) = h2 at *
    refine ecall (node_spec L t rt ns2 (by omega) B (by omega) k fun h3 ns3 r1 r2 => ?_)
    rw [← hsu] at ns3
    simp [hw1]
    exact ⟨t.rules.length - (k + 1), by omega, iv ⟨k + 1, by omega, rfl, ns3, by rw [r2 _ (by omega) (by omega)]; exact q1, by rw [r2 _ (by omega) (by omega)]; exact q2, by omega, rfl⟩⟩
  · have hlt' : ¬ (k : Int) < t.rules.length := by omega
    obtain rfl : k = t.rules.length := by omega
    simp [hlt', u5, htc]
    refine loopI (n := t.nodes.length) (fun mm env h2 => ∃ k, k ≤ t.nodes.length ∧ mm = t.nodes.length - k ∧ NS t h6 h2 o a1 a2 a3 e sn 1 (lowA t t.rules.length ++ lowB t k) ∧ h2.objs h.nobj = teC t ∧ h2.objs (h.nobj + 1) = [V.int .i64 0, .int .i64 0, .int .i64 0, .sl 0 1 []] ∧ h6.nobj ≤ h2.nobj ∧
        env = [(1, .ptr h.nobj 0), (2, .ptr (h.nobj + 1) 0), (5, .ptr o 0), (40, .int .i64 t.nodes.length), (41, .int .i64 k)]) ?_
      ⟨0, by omega, by omega, by simpa [lowB] using ns, u5, u6, nb, rfl⟩
    clear ns u5 u6 nb h'
    rintro mm env h' ⟨k, hk, rfl, ns, u5, u6, nb, rfl⟩
    unfold A.lower_Lower.L1
    have hl2 := lowB_len rt k (by omega)
    obtain ⟨e1, sp, ob, my, hsp⟩ := ns.ob
    have o3 := ns.lf.o3
    by_cases hlt : k < t.nodes.length
    · have hlt' : (k : Int) < t.nodes.length := by omega
      have hw1 : IntKind.i64.wrap ((k : Int) + 1) = ((k + 1 : Nat) : Int) := by rw [wrap_i64 (by omega) (by omega)]; rfl
      have hsu := lowB_succ t k
      have hf := findE_entI (k : Int) (ownE t t.nodes.length) 0
      cases hh : hasN t k with
      | false =>
        rw [hh, if_neg (by simp), List.append_nil] at hsu
        have hno : fndI (k : Int) (ownE t t.nodes.length) = none := fndI_none fun p hp => by
          unfold ownE at hp
          obtain ⟨i, hi, rfl⟩ := List.mem_map.1 hp
          have := (List.mem_filter.1 hi).2
          show (i : Int) ≠ k
          intro q
          rw [show i = k by omega, hh] at this
          cases this
        rw [hno] at hf
        simp only [Option.map_none] at hf
        simp [hlt', ob, loC, o3, hf, lkpV, hw1]
        exact ⟨t.nodes.length - (k + 1), by omega, iv ⟨k + 1, by omega, rfl, by rw [hsu]; exact ns, u5, u6, nb, rfl⟩⟩
      | true =>
        rw [hh, if_pos rfl] at hsu
        obtain ⟨i, hi⟩ := ownE_find t hh t.nodes.length hlt
        rw [hi] at hf
        simp only [Option.map_some] at hf
        simp [hlt', ob, loC, o3, hf, lkpV]
        refine ecall (node_spec L t rt ns (by simp; omega) k hlt (ownN t k) fun h3 ns3 r1 r2 => ?_)
        rw [List.append_assoc, ← hsu] at ns3
        simp [hw1]
        exact ⟨t.nodes.length - (k + 1), by omega, iv ⟨k + 1, by omega, rfl, ns3, by rw [r2 _ (by omega) (by omega)]; exact u5, by rw [r2 _ (by omega) (by omega)]; exact u6, by omega, rfl⟩⟩
    · have hlt' : ¬ (k : Int) < t.nodes.length := by omega
      obtain rfl : k = t.nodes.length := by omega
      have hgr : Gr h h' := gr6.fr ns.fr (fun x hx => by simp at hx; omega) (by omega)
      have hcl := cntN_le t t.nodes.length
      have hel : (entI (ownE t t.nodes.length)).length = cntN t t.nodes.length := by unfold entI; rw [List.length_map, ownE_len]
      have hw2 : IntKind.i64.wrap ((t.rules.length : Int) + (cntN t t.nodes.length : Int)) = (t.rules.length : Int) + (cntN t t.nodes.length : Int) := wrap_i64 (by omega) (by omega)
      have hgm : gmV (lowG t) = .agg [.int .i64 ((termsT t).length : Int), .int .i64 ((t.rules.length + cntN t t.nodes.length : Nat) : Int), .int .i64 0, .sl 2 0 ((lowA t t.rules.length ++ lowB t t.nodes.length).map prV)] := rfl
      have hsl : (strs (termsT t)).length = (termsT t).length := by simp [strs]
      rw [← show lowP t = lowA t t.rules.length ++ lowB t t.nodes.length from rfl] at *
      have n0 : ¬ h.nobj = h'.nobj := by omega
      have n1 : ¬ h.nobj + 1 = h'.nobj := by omega
      have n2 : ¬ o = h'.nobj := by omega
      have n3 : ¬ a3 = h'.nobj := by have := ns.lf.lt; omega
      simp [hlt', ob, loC, o3, hel, hw2, u5, htc, fillV, setAt, V.cells, V.good, hsl, n0, n2, n3]
      have gz : GmOk (lowG t) := lowG_ok rt
      have gr2 := hgr.new [.int .i64 ((termsT t).length : Int), .int .i64 ((t.rules.length : Int) + (cntN t t.nodes.length : Int)), .int .i64 0, .sl e1 sp ((lowP t).map prV)]
      refine ⟨by simp [flZ, AOp.wp, ev, mlenK, n3, o3, hel], ?_⟩
      refine ecall (Ecx.wkL (.cons (by rw [hgm]; simpa using Wk.a4 (Wk.sln my.el) _ _ _) .nil) (right3R L.gr (lowG t) gz ?_))
      have q1 : (h'.new [.int .i64 ((termsT t).length : Int), .int .i64 ((t.rules.length : Int) + (cntN t t.nodes.length : Int)), .int .i64 0, .sl e1 sp ((lowP t).map prV)]).objs (h.nobj + 1) = [V.int .i64 0, .int .i64 0, .int .i64 0, .sl 0 1 []] := by rw [new_objs_ne _ _ n1]; exact u6
      have q2 : (h'.new [.int .i64 ((termsT t).length : Int), .int .i64 ((t.rules.length : Int) + (cntN t t.nodes.length : Int)), .int .i64 0, .sl e1 sp ((lowP t).map prV)]).objs o = loC t e sn (termsT t) a1 a2 a3 (.sl e1 sp ((lowP t).map prV)) := by rw [new_objs_ne _ _ n2]; exact ob
      have q3 : (h'.new [.int .i64 ((termsT t).length : Int), .int .i64 ((t.rules.length : Int) + (cntN t t.nodes.length : Int)), .int .i64 0, .sl e1 sp ((lowP t).map prV)]).objs h'.nobj = [.int .i64 ((termsT t).length : Int), .int .i64 ((t.rules.length : Int) + (cntN t t.nodes.length : Int)), .int .i64 0, .sl e1 sp ((lowP t).map prV)] := by rw [new_objs_same]
      have q4 : ¬ o = h.nobj + 1 := by omega
      generalize (h'.new [.int .i64 ((termsT t).length : Int), .int .i64 ((t.rules.length : Int) + (cntN t t.nodes.length : Int)), .int .i64 0, .sl e1 sp ((lowP t).map prV)]) = h7 at *
      cases hrg : rightG (lowG t) with
      | false =>
        have hl : lowRes t = (⟨0, 0, 0, []⟩, [], 5) := by unfold lowRes; rw [← hRe, hR, hrg]; rfl
        rw [hl] at hQ hbd
        simp [fillV, setAt, V.cells, V.good, q1]
        refine fin_wk (gr2.set (by omega) _) ?_ hbd hQ
        exact Wk.l3 (Wk.a4 (.nil _ 2 _) _ _ _) (.nil _ 1 _) (.same _)
      | true =>
        have hl : lowRes t = (lowG t, termsT t, 0) := by unfold lowRes; rw [← hRe, hR, hrg]; rfl
        rw [hl] at hQ hbd
        simp [q1, q2, q3, loC, setAt, V.cells, V.good, q4]
        refine fin_wk (gr2.set (by omega) _) ?_ hbd hQ
        exact Wk.l3 (by rw [hgm]; simpa using Wk.a4 (Wk.sln my.el) _ _ _) (Wk.sln el6) (.same _)
end
end Go.Proofs.Ytmobijebjkjnoaa.Al
namespace Go.Proofs.Ytmobijebjkjnoaa.Al
open Go Go.RowKit
set_option linter.unusedSimpArgs false
set_option linter.unusedVariables false
attribute [-simp] List.getD_eq_getElem?_getD Int.not_lt Int.not_le List.map_take List.map_map
theorem Wk.sldL {e st : Nat} {l m : List V} (h : WkL (cellsOf l) (cellsOf m)) (hl : l.length = m.length) (hm : ∀ v ∈ m, v.cells.length = e) : Wk (.sl e st l) (.sl e 0 m) :=
  .sld _ _ _ _ hl hm h.get.1 h.get.2
structure L08 (X : Cx) : Prop where
  lo : LLo X
  rl : LRL X
  large : Has (Ecx X) K.probatelaw06_Large A.probatelaw06_Large
  own : Has (Ecx X) K.probatelaw06_Own A.probatelaw06_Own
  same : Has (Ecx X) K.probateref03_Same A.probateref03_Same
  names : Has (Ecx X) K.probatelaw08_names A.probatelaw08_names
  awake : Has (Ecx X) K.probatelaw08_awake A.probatelaw08_awake
section
variable {X : Cx} {h : AH} {Q : V → AH → Prop}
theorem names_spec (H : Has (Ecx X) K.probatelaw08_names A.probatelaw08_names) (a b : List Str) (s t : Nat) (ha : a.length < 2 ^ 62) (hQ : Q (.bool (decide (a = b))) h) : Ecx X K.probatelaw08_names [.sl 1 s (strs a), .sl 1 t (strs b)] h Q := by
  refine fn_walk H (by simp [A.probatelaw08_names]) fun wf => ?_
  have hal : (strs a).length = a.length := by simp [strs]
  have hbl : (strs b).length = b.length := by simp [strs]
  by_cases hl : a.length = b.length
  · have hl' : (a.length : Int) = b.length := by omega
    simp [A.probatelaw08_names, hl', hal, hbl]
    refine loopI (n := a.length) (fun m env h' => ∃ k, k ≤ a.length ∧ m = a.length - k ∧ h' = h ∧ env = [(0, .sl 1 s (strs a)), (1, .sl 1 t (strs b)), (12, .int .i64 b.length), (13, .int .i64 k)] ∧ a.take k = b.take k) ?_ ⟨0, by omega, by omega, rfl, by rfl, rfl⟩
    rintro m env h' ⟨k, hk, rfl, rfl, rfl, he⟩
    unfold A.probatelaw08_names.L0
    by_cases hlt : k < a.length
    · have hlt' : (k : Int) < b.length := by omega
      have hlb : k < b.length := by omega
      have hga : (strs a).getD k .undef = .str a[k] := by simp [strs, List.getD_eq_getElem?_getD, hlt]
      have hgb : (strs b).getD k .undef = .str b[k] := by simp [strs, List.getD_eq_getElem?_getD, hlb]
      have hw1 : IntKind.i64.wrap ((k : Int) + 1) = ((k + 1 : Nat) : Int) := by rw [wrap_i64 (by omega) (by omega)]; rfl
      by_cases e : a[k] = b[k]
      · simp [hl', hlt', hga, hgb, hal, hbl, V.cells, V.good, e, hw1]
        exact ⟨a.length - (k + 1), by omega, iv ⟨k + 1, by omega, rfl, rfl, rfl, take_ext2 hlt hlb he e⟩⟩
      · have hf : decide (a = b) = false := by
          simp only [decide_eq_false_iff_not]; rintro rfl; exact e rfl
        rw [hf] at hQ
        simp [hl', hlt', hga, hgb, hal, hbl, V.cells, e]
        exact fin (by simp) hQ
    · have hlt' : ¬ (k : Int) < b.length := by omega
      simp [hl', hlt']
      refine fin (by simp) ?_
      have hk : k = a.length := by omega
      rw [hk, List.take_length, hl, List.take_length] at he
      simpa [he] using hQ
  · have hl' : ¬ (a.length : Int) = b.length := by omega
    simp [A.probatelaw08_names, hl', hal, hbl, hl]
    refine fin (by simp) ?_
    have : decide (a = b) = false := by simp; intro h; exact hl (by rw [h])
    rw [this] at hQ; exact hQ
def awT : Te := ⟨[⟨[115], 3⟩], [⟨7, [97], []⟩, ⟨3, [], [0]⟩, ⟨7, [98], []⟩, ⟨1, [], [1, 2]⟩]⟩
def awG : Gm := ⟨2, 2, 0, [⟨0, [⟨true, 1⟩, ⟨false, 1⟩]⟩, ⟨1, [⟨false, 0⟩, ⟨true, 1⟩]⟩, ⟨1, []⟩]⟩
theorem awT_low : lowRes awT = (awG, [[97], [98]], 0) := by decide +kernel
theorem nilT_low : lowRes ⟨[], []⟩ = (⟨0, 0, 0, []⟩, [], 1) := by decide +kernel
theorem awake8_spec (L : L08 X) (hQ : Q (.bool true) h) : Ecx X K.probatelaw08_awake [] h Q := by
  refine fn_walk L.awake (by simp [A.probatelaw08_awake]) fun wf => ?_
  simp [A.probatelaw08_awake, fillL, fillV, setAt, V.cells, V.good, V.isAgg]
  have hT : WkL [V.agg [V.sl 2 2 [V.agg [V.str [115], V.int IntKind.i64 3]], V.sl 3 2 [V.agg [V.int IntKind.i64 7, V.str [97], V.sl 0 1 []], V.agg [V.int IntKind.i64 3, V.str [], V.sl 1 2 [V.int IntKind.i64 0]], V.agg [V.int IntKind.i64 7, V.str [98], V.sl 0 1 []], V.agg [V.int IntKind.i64 1, V.str [], V.sl 1 2 [V.int IntKind.i64 1, V.int IntKind.i64 2]]]]] [teV awT] := by
    refine .cons (Wk.l2 (.sl _ _ _) (Wk.sldL ?_ rfl ?_)) .nil
    · exact .cons (.same _) (.cons (.same _) (.cons (.nil _ _ _) (.cons (.same _) (.cons (.same _) (.cons (.sl _ _ _) (.cons (.same _) (.cons (.same _) (.cons (.nil _ _ _) (.cons (.same _) (.cons (.same _) (.cons (.sl _ _ _) .nil)))))))))))
    · intro v hv
      obtain ⟨x, _, rfl⟩ := List.mem_map.1 hv
      rfl
  refine ecall (Ecx.wkL hT (lower_spec L.lo awT (by decide) (by decide) (by decide) (by decide) (by decide) ?_))
  rw [awT_low]
  have hgA : gmV awG = .agg [.int .i64 2, .int .i64 2, .int .i64 0, .sl 2 0 (awG.prods.map prV)] := rfl
  simp [lowV, hgA, V.cells, V.good, setAt]
  have hN : WkL [V.agg [V.sl 0 1 [], V.sl 0 1 []]] [teV ⟨[], []⟩] := .cons (Wk.l2 (.nil _ _ _) (.nil _ _ _)) .nil
  refine ecall (Ecx.wkL hN (lower_spec L.lo ⟨[], []⟩ (by decide) (by decide) (by decide) (by decide) (by decide) ?_))
  rw [nilT_low]
  have hgZ : gmV ⟨0, 0, 0, []⟩ = .agg [.int .i64 0, .int .i64 0, .int .i64 0, .sl 2 0 []] := rfl
  simp [lowV, hgZ, V.cells, V.good, setAt]
  have hW : Wk (V.agg [V.int IntKind.i64 2, V.int IntKind.i64 2, V.int IntKind.i64 0, V.sl 2 2 [V.agg [V.int IntKind.i64 0, V.sl 2 2 [V.agg [V.bool true, V.int IntKind.i64 1], V.agg [V.bool false, V.int IntKind.i64 1]]],
      V.agg [V.int IntKind.i64 1, V.sl 2 2 [V.agg [V.bool false, V.int IntKind.i64 0], V.agg [V.bool true, V.int IntKind.i64 1]]], V.agg [V.int IntKind.i64 1, V.sl 0 1 []]]]) (gmV awG) :=
    Wk.a4 (PrWL.wk (show PrWL [V.agg [V.int IntKind.i64 0, V.sl 2 2 [V.agg [V.bool true, V.int IntKind.i64 1], V.agg [V.bool false, V.int IntKind.i64 1]]],
      V.agg [V.int IntKind.i64 1, V.sl 2 2 [V.agg [V.bool false, V.int IntKind.i64 0], V.agg [V.bool true, V.int IntKind.i64 1]]], V.agg [V.int IntKind.i64 1, V.sl 0 1 []]]
      [⟨0, [⟨true, 1⟩, ⟨false, 1⟩]⟩, ⟨1, [⟨false, 0⟩, ⟨true, 1⟩]⟩, ⟨1, []⟩] from ⟨⟨2, 2, rfl, .inr rfl⟩, ⟨2, 2, rfl, .inr rfl⟩, ⟨0, 1, rfl, .inl rfl⟩, trivial⟩) (.inr rfl)) _ _ _
  refine ecall (Ecx.wkL (.cons (.same _) (.cons hW .nil)) (same3R_spec L.same awG awG (by decide) (by decide) ?_))
  simp
  refine ecall (names_spec L.names [[97], [98]] [[97], [98]] 0 2 (by decide) ?_)
  simp
  exact fin_wk (((((Gr.refl h).new _).new _).new _).new _ |>.new _) (.same _) (by simp) hQ
structure TeSm (t : Te) : Prop where
  r : t.rules.length ≤ 30
  n : t.nodes.length ≤ 210
  rn : ∀ r ∈ t.rules, r.name.length ≤ 2 ^ 30
  nn : ∀ n ∈ t.nodes, n.name.length ≤ 2 ^ 30
  ks : ∀ n ∈ t.nodes, n.kids.length ≤ 2 ^ 30
theorem sm_of {t : Te} (h : largeT t = false) : TeSm t := by
  unfold largeT at h
  simp only [Bool.or_eq_false_iff, decide_eq_false_iff_not, List.any_eq_false] at h
  obtain ⟨⟨⟨h1, h2⟩, h3⟩, h4⟩ := h
  refine ⟨by omega, by omega, fun r hr => ?_, fun n hn => ?_, fun n hn => ?_⟩
  · have := h3 r hr; simp at this; omega
  · have := h4 n hn; simp at this; omega
  · have := h4 n hn; simp at this; omega
theorem lowRes_sm (t : Te) : (lowRes t).1.prods.length ≤ 2 ^ 40 ∧ (∀ p ∈ (lowRes t).1.prods, p.right.length ≤ 2 ^ 40) ∧ (lowRes t).2.1.length < 2 ^ 62 := by
  unfold lowRes
  cases h : rightD t with
  | false => simp
  | true =>
    have rt : RTe t := rte_of (by rw [right_eq]; exact h)
    simp only [if_true]
    split
    · have h1 := lowA_len rt t.rules.length rt.r1
      have h2 := lowB_len rt t.nodes.length rt.n1
      have h3 := (termsF_len t.nodes []).1
      have h4 := rt.n1
      refine ⟨by simp only [lowG, lowP, List.length_append]; omega, fun p hp => ?_, by show (termsF t.nodes []).length < 2 ^ 62; simp at h3; omega⟩
      have := lowP_right rt p hp; omega
    · simp
theorem tells8_spec (L : L08 X) (H : Has (Ecx X) K.probatelaw08_LowerTells A.probatelaw08_LowerTells) (t : Te) (ok : TeOk t) (hQ : Q (.bool true) h) : Ecx X K.probatelaw08_LowerTells [teV t] h Q := by
  refine fn_walk H (by simp [A.probatelaw08_LowerTells]) fun wf => ?_
  have htc : teC t = [.sl 2 0 (t.rules.map rlV), .sl 3 0 (t.nodes.map ndV)] := rfl
  have gr := (Gr.refl h).new (teC t)
  have b0 : (h.new (teC t)).objs h.nobj = teC t := by simp
  have b1 : (h.new (teC t)).nobj = h.nobj + 1 := by simp
  simp [A.probatelaw08_LowerTells, teV, V.cells, V.good]
  generalize h.new (teC t) = h1 at *
  refine ecall (awake8_spec L ?_)
  simp [b0, htc]
  rw [← htc]
  refine ecall (largeT_spec L.large t ok ?_)
  cases hl : largeT t with
  | true =>
    simp
    exact fin_wk gr (.same _) (by simp) hQ
  | false =>
  have sm := sm_of hl
  obtain ⟨s1, s2, s3⟩ := lowRes_sm t
  simp [b0, htc]
  rw [← htc]
  refine ecall (lower_spec L.lo t (by have := sm.r; omega) (by have := sm.n; omega) sm.rn sm.nn sm.ks ?_)
  generalize hR : lowRes t = R at *
  obtain ⟨g, l, e⟩ := R
  simp only at s1 s2 s3
  have hgc : gmC g = [.int .i64 g.terms, .int .i64 g.nons, .int .i64 g.start, .sl 2 0 (g.prods.map prV)] := rfl
  have n0 : ¬ h.nobj = h1.nobj := by omega
  have gr2 := gr.new (gmC g)
  have c0 : (h1.new (gmC g)).objs h.nobj = teC t := by rw [new_objs_ne _ _ n0]; exact b0
  have c1 : (h1.new (gmC g)).objs h1.nobj = gmC g := by simp
  have c2 : (h1.new (gmC g)).nobj = h1.nobj + 1 := by simp
  rw [hgc] at gr2 c0 c1 c2
  simp [lowV, gmV, V.cells, V.good, hgc, setAt, n0]
  generalize h1.new [.int .i64 g.terms, .int .i64 g.nons, .int .i64 g.start, .sl 2 0 (g.prods.map prV)] = h2 at *
  simp [b0, htc]
  rw [← htc]
  refine ecall (own6_spec L.own t (by have := sm.r; omega) (by have := sm.n; omega) ?_)
  simp
  refine ecall (lower8_spec L.rl t (by have := sm.r; omega) (by have := sm.n; omega) sm.rn sm.nn sm.ks ?_)
  rw [hR]
  simp [lowV, gmV, V.cells, V.good, hgc, setAt]
  have n1 : ¬ h1.nobj = h2.nobj := by omega
  have gr3 := gr2.new [.int .i64 g.terms, .int .i64 g.nons, .int .i64 g.start, .sl 2 0 (g.prods.map prV)]
  simp [n1, c1]
  refine ecall (same3R_spec L.same g g s1 s2 ?_)
  simp
  refine ecall (names_spec L.names l l 0 0 s3 ?_)
  simp
  exact fin_wk gr3 (.same _) (by simp) hQ
end
end Go.Proofs.Ytmobijebjkjnoaa.Al
namespace Go.Proofs.Ytmobijebjkjnoaa.Al
open Go
def yK : Keys := ⟨fun k => ([0, 0, 1, 2, 0, 0, 0, 0, 0, 0, 0, 0, 0, 0, 0, 0, 0, 0, 0, 0, 0, 0, 0, 0, 0, 0, 0, 0, 0, 0, 0, 0, 0, 0, 0, 0, 0, 0, 0, 0, 0, 0, 0, 0, 0, 0, 0, 0, 0, 52, 41, 0, 0, 0, 0, 0, 0, 0, 0, 0, 0, 0, 0, 0, 0, 0, 0, 0, 0, 0, 0, 0, 0, 16, 24, 0, 11, 0, 17, 0, 0, 0, 0, 0, 0, 0, 0, 64, 60, 61, 0, 0, 0, 0, 0, 0, 33, 34, 35, 0, 0, 0, 67, 68, 69, 70, 71, 72, 0, 0, 56, 57, 58, 59, 0, 73, 74, 66, 75, 76, 77, 78, 79, 80, 81, 82, 83, 84, 85, 86, 87, 88, 89, 90, 91, 92, 93, 94, 95, 96, 97, 0, 0, 0, 0, 0, 3, 4, 5, 0, 0, 0, 0, 0, 0, 0, 0, 0, 0, 0, 0, 0, 0, 0, 0, 0, 0, 0, 0, 0, 0, 0, 0, 0, 0, 0, 0, 0, 0, 0, 0, 0, 0, 13, 6, 7, 8, 9, 10, 12, 14, 15, 0, 0, 0, 0, 20, 0, 0, 0, 0, 0, 0, 0, 0, 0, 0, 0, 0, 0, 32, 0, 0, 0, 0, 0, 0, 0, 0, 0, 0, 0, 0, 0, 0, 0, 0, 0, 0, 0, 0, 0, 0, 0, 0, 0, 0, 0, 0, 0, 0, 0, 25, 18, 19, 21, 22, 23, 26, 27, 28, 29, 30, 31, 0, 0, 0, 0, 0, 42, 43, 0, 0, 0, 0, 0, 0, 0, 0, 0, 0, 0, 0, 0, 0, 0, 0, 0, 0, 0, 0, 0, 0, 0, 0, 0, 0, 0, 0, 47, 48, 36, 37, 38, 39, 40, 44, 45, 46, 49, 50, 51, 53, 54, 55, 0, 0, 0, 0, 0, 62, 63, 0, 0, 0, 0, 0, 0, 0, 0, 0, 0, 0, 0, 0, 0, 0, 0, 0, 0, 65, 0, 0, 0, 0, 0, 0, 0, 0, 0, 0, 0, 0, 0, 0, 0, 0, 0, 0, 0, 0] : List Nat).getD k 0, fun k => ([1, 2, 3, 146, 147, 148, 184, 185, 186, 187, 188, 76, 189, 183, 190, 191, 73, 78, 243, 244, 196, 245, 246, 247, 74, 242, 248, 249, 250, 251, 252, 253, 210, 96, 97, 98, 291, 292, 293, 294, 295, 50, 259, 260, 296, 297, 298, 289, 290, 299, 300, 301, 49, 302, 303, 304, 110, 111, 112, 113, 88, 89, 310, 311, 87, 330, 117, 102, 103, 104, 105, 106, 107, 115, 116, 118, 119, 120, 121, 122, 123, 124, 125, 126, 127, 128, 129, 130, 131, 132, 133, 134, 135, 136, 137, 138, 139, 140] : List Nat).getD k 0, fun k => ([33, 34, 35, 37, 38, 39, 40, 45, 81, 82, 83, 85, 94, 95, 108, 109, 243, 244, 259, 292, 294] : List Nat).contains k, fun _ => false⟩
noncomputable abbrev cxOf (W0 : World) : Cx := ⟨Try.prog, yK.tbl, W0⟩
end Go.Proofs.Ytmobijebjkjnoaa.Al
namespace Go.Proofs.Ytmobijebjkjnoaa.Al
open Go
theorem tie_probateref03_Same : compFn Try.prog yK Try.f11 = some A.probateref03_Same.strip := by kernel_rfl
theorem has_probateref03_Same (W0 : World) : Has (Ecx (cxOf W0)) K.probateref03_Same A.probateref03_Same := fn_sound Try.checked.mixed rfl (by exact Try.func11) (by kernel_rfl) tie_probateref03_Same
theorem tie_probateref03_Right : compFn Try.prog yK Try.f24 = some A.probateref03_Right.strip := by kernel_rfl
theorem has_probateref03_Right (W0 : World) : Has (Ecx (cxOf W0)) K.probateref03_Right A.probateref03_Right := fn_sound Try.checked.mixed rfl (by exact Try.func24) (by kernel_rfl) tie_probateref03_Right
end Go.Proofs.Ytmobijebjkjnoaa.Al
namespace Go.Proofs.Ytmobijebjkjnoaa.Al
open Go
theorem tie_gram_Right : compFn Try.prog yK Try.f16 = some A.gram_Right.strip := by kernel_rfl
theorem has_gram_Right (W0 : World) : Has (Ecx (cxOf W0)) K.gram_Right A.gram_Right := fn_sound Try.checked.mixed rfl (by exact Try.func16) (by kernel_rfl) tie_gram_Right
theorem tie_gram_Right_1 : compFn Try.prog yK Try.f34 = some A.gram_Right_1.strip := by kernel_rfl
theorem has_gram_Right_1 (W0 : World) : Has (Ecx (cxOf W0)) K.gram_Right_1 A.gram_Right_1 := fn_sound Try.checked.mixed rfl (by exact Try.func34) (by kernel_rfl) tie_gram_Right_1
theorem tie_gram_fits : compFn Try.prog yK Try.f35 = some A.gram_fits.strip := by kernel_rfl
theorem has_gram_fits (W0 : World) : Has (Ecx (cxOf W0)) K.gram_fits A.gram_fits := fn_sound Try.checked.mixed rfl (by exact Try.func35) (by kernel_rfl) tie_gram_fits
theorem tie_gram_there : compFn Try.prog yK Try.f57 = some A.gram_there.strip := by kernel_rfl
theorem has_gram_there (W0 : World) : Has (Ecx (cxOf W0)) K.gram_there A.gram_there := fn_sound Try.checked.mixed rfl (by exact Try.func57) (by kernel_rfl) tie_gram_there
theorem tie_gram_fits_1 : compFn Try.prog yK Try.f59 = some A.gram_fits_1.strip := by kernel_rfl
theorem has_gram_fits_1 (W0 : World) : Has (Ecx (cxOf W0)) K.gram_fits_1 A.gram_fits_1 := fn_sound Try.checked.mixed rfl (by exact Try.func59) (by kernel_rfl) tie_gram_fits_1
end Go.Proofs.Ytmobijebjkjnoaa.Al
namespace Go.Proofs.Ytmobijebjkjnoaa.Al
open Go
theorem tie_probateref05_Scan : compFn Try.prog yK Try.f41 = some A.probateref05_Scan.strip := by kernel_rfl
theorem has_probateref05_Scan (W0 : World) : Has (Ecx (cxOf W0)) K.probateref05_Scan A.probateref05_Scan := fn_sound Try.checked.mixed rfl (by exact Try.func41) (by kernel_rfl) tie_probateref05_Scan
theorem tie_probateref05_letter : compFn Try.prog yK Try.f60 = some A.probateref05_letter.strip := by kernel_rfl
theorem has_probateref05_letter (W0 : World) : Has (Ecx (cxOf W0)) K.probateref05_letter A.probateref05_letter := fn_sound Try.checked.mixed rfl (by exact Try.func60) (by kernel_rfl) tie_probateref05_letter
theorem tie_probateref05_part : compFn Try.prog yK Try.f61 = some A.probateref05_part.strip := by kernel_rfl
theorem has_probateref05_part (W0 : World) : Has (Ecx (cxOf W0)) K.probateref05_part A.probateref05_part := fn_sound Try.checked.mixed rfl (by exact Try.func61) (by kernel_rfl) tie_probateref05_part
end Go.Proofs.Ytmobijebjkjnoaa.Al
namespace Go.Proofs.Ytmobijebjkjnoaa.Al
open Go
theorem tie_probatelaw06_Large : compFn Try.prog yK Try.f7 = some A.probatelaw06_Large.strip := by kernel_rfl
theorem has_probatelaw06_Large (W0 : World) : Has (Ecx (cxOf W0)) K.probatelaw06_Large A.probatelaw06_Large := fn_sound Try.checked.mixed rfl (by exact Try.func7) (by kernel_rfl) tie_probatelaw06_Large
theorem tie_probatelaw06_Own : compFn Try.prog yK Try.f10 = some A.probatelaw06_Own.strip := by kernel_rfl
theorem has_probatelaw06_Own (W0 : World) : Has (Ecx (cxOf W0)) K.probatelaw06_Own A.probatelaw06_Own := fn_sound Try.checked.mixed rfl (by exact Try.func10) (by kernel_rfl) tie_probatelaw06_Own
theorem tie_probateref06_Right : compFn Try.prog yK Try.f20 = some A.probateref06_Right.strip := by kernel_rfl
theorem has_probateref06_Right (W0 : World) : Has (Ecx (cxOf W0)) K.probateref06_Right A.probateref06_Right := fn_sound Try.checked.mixed rfl (by exact Try.func20) (by kernel_rfl) tie_probateref06_Right
theorem tie_probateref06_under : compFn Try.prog yK Try.f42 = some A.probateref06_under.strip := by kernel_rfl
theorem has_probateref06_under (W0 : World) : Has (Ecx (cxOf W0)) K.probateref06_under A.probateref06_under := fn_sound Try.checked.mixed rfl (by exact Try.func42) (by kernel_rfl) tie_probateref06_under
theorem tie_probateref06_Tree_fine : compFn Try.prog yK Try.f43 = some A.probateref06_Tree_fine.strip := by kernel_rfl
theorem has_probateref06_Tree_fine (W0 : World) : Has (Ecx (cxOf W0)) K.probateref06_Tree_fine A.probateref06_Tree_fine := fn_sound Try.checked.mixed rfl (by exact Try.func43) (by kernel_rfl) tie_probateref06_Tree_fine
theorem tie_probateref06_Tree_rule : compFn Try.prog yK Try.f62 = some A.probateref06_Tree_rule.strip := by kernel_rfl
theorem has_probateref06_Tree_rule (W0 : World) : Has (Ecx (cxOf W0)) K.probateref06_Tree_rule A.probateref06_Tree_rule := fn_sound Try.checked.mixed rfl (by exact Try.func62) (by kernel_rfl) tie_probateref06_Tree_rule
theorem tie_probateref06_quote : compFn Try.prog yK Try.f63 = some A.probateref06_quote.strip := by kernel_rfl
theorem has_probateref06_quote (W0 : World) : Has (Ecx (cxOf W0)) K.probateref06_quote A.probateref06_quote := fn_sound Try.checked.mixed rfl (by exact Try.func63) (by kernel_rfl) tie_probateref06_quote
end Go.Proofs.Ytmobijebjkjnoaa.Al
namespace Go.Proofs.Ytmobijebjkjnoaa.Al
open Go
theorem tie_probatelaw08_LowerTells : compFn Try.prog yK Try.f3 = some A.probatelaw08_LowerTells.strip := by kernel_rfl
theorem has_probatelaw08_LowerTells (W0 : World) : Has (Ecx (cxOf W0)) K.probatelaw08_LowerTells A.probatelaw08_LowerTells := fn_sound Try.checked.mixed rfl (by exact Try.func3) (by kernel_rfl) tie_probatelaw08_LowerTells
theorem tie_probatelaw08_awake : compFn Try.prog yK Try.f6 = some A.probatelaw08_awake.strip := by kernel_rfl
theorem has_probatelaw08_awake (W0 : World) : Has (Ecx (cxOf W0)) K.probatelaw08_awake A.probatelaw08_awake := fn_sound Try.checked.mixed rfl (by exact Try.func6) (by kernel_rfl) tie_probatelaw08_awake
theorem tie_probateref08_Lower : compFn Try.prog yK Try.f9 = some A.probateref08_Lower.strip := by kernel_rfl
theorem has_probateref08_Lower (W0 : World) : Has (Ecx (cxOf W0)) K.probateref08_Lower A.probateref08_Lower := fn_sound Try.checked.mixed rfl (by exact Try.func9) (by kernel_rfl) tie_probateref08_Lower
theorem tie_probatelaw08_names : compFn Try.prog yK Try.f12 = some A.probatelaw08_names.strip := by kernel_rfl
theorem has_probatelaw08_names (W0 : World) : Has (Ecx (cxOf W0)) K.probatelaw08_names A.probatelaw08_names := fn_sound Try.checked.mixed rfl (by exact Try.func12) (by kernel_rfl) tie_probatelaw08_names
theorem tie_probateref08_Terms : compFn Try.prog yK Try.f21 = some A.probateref08_Terms.strip := by kernel_rfl
theorem has_probateref08_Terms (W0 : World) : Has (Ecx (cxOf W0)) K.probateref08_Terms A.probateref08_Terms := fn_sound Try.checked.mixed rfl (by exact Try.func21) (by kernel_rfl) tie_probateref08_Terms
theorem tie_probateref08_prods : compFn Try.prog yK Try.f22 = some A.probateref08_prods.strip := by kernel_rfl
theorem has_probateref08_prods (W0 : World) : Has (Ecx (cxOf W0)) K.probateref08_prods A.probateref08_prods := fn_sound Try.checked.mixed rfl (by exact Try.func22) (by kernel_rfl) tie_probateref08_prods
theorem tie_probateref08_own : compFn Try.prog yK Try.f23 = some A.probateref08_own.strip := by kernel_rfl
theorem has_probateref08_own (W0 : World) : Has (Ecx (cxOf W0)) K.probateref08_own A.probateref08_own := fn_sound Try.checked.mixed rfl (by exact Try.func23) (by kernel_rfl) tie_probateref08_own
theorem tie_probateref08_place : compFn Try.prog yK Try.f44 = some A.probateref08_place.strip := by kernel_rfl
theorem has_probateref08_place (W0 : World) : Has (Ecx (cxOf W0)) K.probateref08_place A.probateref08_place := fn_sound Try.checked.mixed rfl (by exact Try.func44) (by kernel_rfl) tie_probateref08_place
theorem tie_probateref08_symbol : compFn Try.prog yK Try.f45 = some A.probateref08_symbol.strip := by kernel_rfl
theorem has_probateref08_symbol (W0 : World) : Has (Ecx (cxOf W0)) K.probateref08_symbol A.probateref08_symbol := fn_sound Try.checked.mixed rfl (by exact Try.func45) (by kernel_rfl) tie_probateref08_symbol
theorem tie_probateref08_symbols : compFn Try.prog yK Try.f46 = some A.probateref08_symbols.strip := by kernel_rfl
theorem has_probateref08_symbols (W0 : World) : Has (Ecx (cxOf W0)) K.probateref08_symbols A.probateref08_symbols := fn_sound Try.checked.mixed rfl (by exact Try.func46) (by kernel_rfl) tie_probateref08_symbols
theorem tie_probateref08_rule : compFn Try.prog yK Try.f49 = some A.probateref08_rule.strip := by kernel_rfl
theorem has_probateref08_rule (W0 : World) : Has (Ecx (cxOf W0)) K.probateref08_rule A.probateref08_rule := fn_sound Try.checked.mixed rfl (by exact Try.func49) (by kernel_rfl) tie_probateref08_rule
end Go.Proofs.Ytmobijebjkjnoaa.Al
namespace Go.Proofs.Ytmobijebjkjnoaa.Al
open Go
theorem tie_slices_ContainsFunc_Rule : compFn Try.prog yK Try.f29 = some A.slices_ContainsFunc_Rule.strip := by kernel_rfl
theorem has_slices_ContainsFunc_Rule (W0 : World) : Has (Ecx (cxOf W0)) K.slices_ContainsFunc_Rule A.slices_ContainsFunc_Rule := fn_sound Try.checked.mixed rfl (by exact Try.func29) (by kernel_rfl) tie_slices_ContainsFunc_Rule
theorem tie_slices_Equal_int : compFn Try.prog yK Try.f32 = some A.slices_Equal_int.strip := by kernel_rfl
theorem has_slices_Equal_int (W0 : World) : Has (Ecx (cxOf W0)) K.slices_Equal_int A.slices_Equal_int := fn_sound Try.checked.mixed rfl (by exact Try.func32) (by kernel_rfl) tie_slices_Equal_int
theorem tie_slices_ContainsFunc_Prod : compFn Try.prog yK Try.f33 = some A.slices_ContainsFunc_Prod.strip := by kernel_rfl
theorem has_slices_ContainsFunc_Prod (W0 : World) : Has (Ecx (cxOf W0)) K.slices_ContainsFunc_Prod A.slices_ContainsFunc_Prod := fn_sound Try.checked.mixed rfl (by exact Try.func33) (by kernel_rfl) tie_slices_ContainsFunc_Prod
theorem tie_slices_IndexFunc_Rule : compFn Try.prog yK Try.f53 = some A.slices_IndexFunc_Rule.strip := by kernel_rfl
theorem has_slices_IndexFunc_Rule (W0 : World) : Has (Ecx (cxOf W0)) K.slices_IndexFunc_Rule A.slices_IndexFunc_Rule := fn_sound Try.checked.mixed rfl (by exact Try.func53) (by kernel_rfl) tie_slices_IndexFunc_Rule
theorem tie_slices_Contains_byte : compFn Try.prog yK Try.f55 = some A.slices_Contains_byte.strip := by kernel_rfl
theorem has_slices_Contains_byte (W0 : World) : Has (Ecx (cxOf W0)) K.slices_Contains_byte A.slices_Contains_byte := fn_sound Try.checked.mixed rfl (by exact Try.func55) (by kernel_rfl) tie_slices_Contains_byte
theorem tie_slices_IndexFunc_Prod : compFn Try.prog yK Try.f56 = some A.slices_IndexFunc_Prod.strip := by kernel_rfl
theorem has_slices_IndexFunc_Prod (W0 : World) : Has (Ecx (cxOf W0)) K.slices_IndexFunc_Prod A.slices_IndexFunc_Prod := fn_sound Try.checked.mixed rfl (by exact Try.func56) (by kernel_rfl) tie_slices_IndexFunc_Prod
theorem tie_slices_ContainsFunc_Sym : compFn Try.prog yK Try.f58 = some A.slices_ContainsFunc_Sym.strip := by kernel_rfl
theorem has_slices_ContainsFunc_Sym (W0 : World) : Has (Ecx (cxOf W0)) K.slices_ContainsFunc_Sym A.slices_ContainsFunc_Sym := fn_sound Try.checked.mixed rfl (by exact Try.func58) (by kernel_rfl) tie_slices_ContainsFunc_Sym
theorem tie_slices_Index_byte : compFn Try.prog yK Try.f65 = some A.slices_Index_byte.strip := by kernel_rfl
theorem has_slices_Index_byte (W0 : World) : Has (Ecx (cxOf W0)) K.slices_Index_byte A.slices_Index_byte := fn_sound Try.checked.mixed rfl (by exact Try.func65) (by kernel_rfl) tie_slices_Index_byte
theorem tie_slices_IndexFunc_Sym : compFn Try.prog yK Try.f66 = some A.slices_IndexFunc_Sym.strip := by kernel_rfl
theorem has_slices_IndexFunc_Sym (W0 : World) : Has (Ecx (cxOf W0)) K.slices_IndexFunc_Sym A.slices_IndexFunc_Sym := fn_sound Try.checked.mixed rfl (by exact Try.func66) (by kernel_rfl) tie_slices_IndexFunc_Sym
theorem tie_strings_Cut : compFn Try.prog yK Try.f67 = some A.strings_Cut.strip := by kernel_rfl
theorem has_strings_Cut (W0 : World) : Has (Ecx (cxOf W0)) K.strings_Cut A.strings_Cut := fn_sound Try.checked.mixed rfl (by exact Try.func67) (by kernel_rfl) tie_strings_Cut
theorem tie_strings_IndexByte : compFn Try.prog yK Try.f72 = some A.strings_IndexByte.strip := by kernel_rfl
theorem has_strings_IndexByte (W0 : World) : Has (Ecx (cxOf W0)) K.strings_IndexByte A.strings_IndexByte := fn_sound Try.checked.mixed rfl (by exact Try.func72) (by kernel_rfl) tie_strings_IndexByte
theorem tie_stringslite_Cut : compFn Try.prog yK Try.f73 = some A.stringslite_Cut.strip := by kernel_rfl
theorem has_stringslite_Cut (W0 : World) : Has (Ecx (cxOf W0)) K.stringslite_Cut A.stringslite_Cut := fn_sound Try.checked.mixed rfl (by exact Try.func73) (by kernel_rfl) tie_stringslite_Cut
theorem tie_stringslite_IndexByte : compFn Try.prog yK Try.f74 = some A.stringslite_IndexByte.strip := by kernel_rfl
theorem has_stringslite_IndexByte (W0 : World) : Has (Ecx (cxOf W0)) K.stringslite_IndexByte A.stringslite_IndexByte := fn_sound Try.checked.mixed rfl (by exact Try.func74) (by kernel_rfl) tie_stringslite_IndexByte
theorem tie_stringslite_Index : compFn Try.prog yK Try.f75 = some A.stringslite_Index.strip := by kernel_rfl
theorem has_stringslite_Index (W0 : World) : Has (Ecx (cxOf W0)) K.stringslite_Index A.stringslite_Index := fn_sound Try.checked.mixed rfl (by exact Try.func75) (by kernel_rfl) tie_stringslite_Index
end Go.Proofs.Ytmobijebjkjnoaa.Al
namespace Go.Proofs.Ytmobijebjkjnoaa.Al
open Go
theorem tie_lower_Lower : compFn Try.prog yK Try.f8 = some A.lower_Lower.strip := by kernel_rfl
theorem has_lower_Lower (W0 : World) : Has (Ecx (cxOf W0)) K.lower_Lower A.lower_Lower := fn_sound Try.checked.mixed rfl (by exact Try.func8) (by kernel_rfl) tie_lower_Lower
theorem tie_lower_lowerer_number : compFn Try.prog yK Try.f18 = some A.lower_lowerer_number.strip := by kernel_rfl
theorem has_lower_lowerer_number (W0 : World) : Has (Ecx (cxOf W0)) K.lower_lowerer_number A.lower_lowerer_number := fn_sound Try.checked.mixed rfl (by exact Try.func18) (by kernel_rfl) tie_lower_lowerer_number
theorem tie_lower_lowerer_node : compFn Try.prog yK Try.f19 = some A.lower_lowerer_node.strip := by kernel_rfl
theorem has_lower_lowerer_node (W0 : World) : Has (Ecx (cxOf W0)) K.lower_lowerer_node A.lower_lowerer_node := fn_sound Try.checked.mixed rfl (by exact Try.func19) (by kernel_rfl) tie_lower_lowerer_node
theorem tie_lower_lowerer_alone : compFn Try.prog yK Try.f36 = some A.lower_lowerer_alone.strip := by kernel_rfl
theorem has_lower_lowerer_alone (W0 : World) : Has (Ecx (cxOf W0)) K.lower_lowerer_alone A.lower_lowerer_alone := fn_sound Try.checked.mixed rfl (by exact Try.func36) (by kernel_rfl) tie_lower_lowerer_alone
theorem tie_lower_lowerer_term : compFn Try.prog yK Try.f37 = some A.lower_lowerer_term.strip := by kernel_rfl
theorem has_lower_lowerer_term (W0 : World) : Has (Ecx (cxOf W0)) K.lower_lowerer_term A.lower_lowerer_term := fn_sound Try.checked.mixed rfl (by exact Try.func37) (by kernel_rfl) tie_lower_lowerer_term
theorem tie_lower_lowerer_symbol : compFn Try.prog yK Try.f38 = some A.lower_lowerer_symbol.strip := by kernel_rfl
theorem has_lower_lowerer_symbol (W0 : World) : Has (Ecx (cxOf W0)) K.lower_lowerer_symbol A.lower_lowerer_symbol := fn_sound Try.checked.mixed rfl (by exact Try.func38) (by kernel_rfl) tie_lower_lowerer_symbol
theorem tie_lower_lowerer_lay : compFn Try.prog yK Try.f39 = some A.lower_lowerer_lay.strip := by kernel_rfl
theorem has_lower_lowerer_lay (W0 : World) : Has (Ecx (cxOf W0)) K.lower_lowerer_lay A.lower_lowerer_lay := fn_sound Try.checked.mixed rfl (by exact Try.func39) (by kernel_rfl) tie_lower_lowerer_lay
theorem tie_lower_all : compFn Try.prog yK Try.f40 = some A.lower_all.strip := by kernel_rfl
theorem has_lower_all (W0 : World) : Has (Ecx (cxOf W0)) K.lower_all A.lower_all := fn_sound Try.checked.mixed rfl (by exact Try.func40) (by kernel_rfl) tie_lower_all
end Go.Proofs.Ytmobijebjkjnoaa.Al
namespace Go.Proofs.Ytmobijebjkjnoaa.Al
open Go
theorem tie_rules_Right : compFn Try.prog yK Try.f15 = some A.rules_Right.strip := by kernel_rfl
theorem has_rules_Right (W0 : World) : Has (Ecx (cxOf W0)) K.rules_Right A.rules_Right := fn_sound Try.checked.mixed rfl (by exact Try.func15) (by kernel_rfl) tie_rules_Right
theorem tie_rules_token : compFn Try.prog yK Try.f28 = some A.rules_token.strip := by kernel_rfl
theorem has_rules_token (W0 : World) : Has (Ecx (cxOf W0)) K.rules_token A.rules_token := fn_sound Try.checked.mixed rfl (by exact Try.func28) (by kernel_rfl) tie_rules_token
theorem tie_rules_Right_1 : compFn Try.prog yK Try.f30 = some A.rules_Right_1.strip := by kernel_rfl
theorem has_rules_Right_1 (W0 : World) : Has (Ecx (cxOf W0)) K.rules_Right_1 A.rules_Right_1 := fn_sound Try.checked.mixed rfl (by exact Try.func30) (by kernel_rfl) tie_rules_Right_1
theorem tie_rules_Tree_fine : compFn Try.prog yK Try.f31 = some A.rules_Tree_fine.strip := by kernel_rfl
theorem has_rules_Tree_fine (W0 : World) : Has (Ecx (cxOf W0)) K.rules_Tree_fine A.rules_Tree_fine := fn_sound Try.checked.mixed rfl (by exact Try.func31) (by kernel_rfl) tie_rules_Tree_fine
theorem tie_rules_Tree_fine_1 : compFn Try.prog yK Try.f54 = some A.rules_Tree_fine_1.strip := by kernel_rfl
theorem has_rules_Tree_fine_1 (W0 : World) : Has (Ecx (cxOf W0)) K.rules_Tree_fine_1 A.rules_Tree_fine_1 := fn_sound Try.checked.mixed rfl (by exact Try.func54) (by kernel_rfl) tie_rules_Tree_fine_1
end Go.Proofs.Ytmobijebjkjnoaa.Al
namespace Go.Proofs.Ytmobijebjkjnoaa.Al
open Go
theorem tie_scan_Scan : compFn Try.prog yK Try.f52 = some A.scan_Scan.strip := by kernel_rfl
theorem has_scan_Scan (W0 : World) : Has (Ecx (cxOf W0)) K.scan_Scan A.scan_Scan := fn_sound Try.checked.mixed rfl (by exact Try.func52) (by kernel_rfl) tie_scan_Scan
theorem tie_scan_first : compFn Try.prog yK Try.f64 = some A.scan_first.strip := by kernel_rfl
theorem has_scan_first (W0 : World) : Has (Ecx (cxOf W0)) K.scan_first A.scan_first := fn_sound Try.checked.mixed rfl (by exact Try.func64) (by kernel_rfl) tie_scan_first
theorem tie_scan_letter : compFn Try.prog yK Try.f68 = some A.scan_letter.strip := by kernel_rfl
theorem has_scan_letter (W0 : World) : Has (Ecx (cxOf W0)) K.scan_letter A.scan_letter := fn_sound Try.checked.mixed rfl (by exact Try.func68) (by kernel_rfl) tie_scan_letter
theorem tie_scan_run : compFn Try.prog yK Try.f69 = some A.scan_run.strip := by kernel_rfl
theorem has_scan_run (W0 : World) : Has (Ecx (cxOf W0)) K.scan_run A.scan_run := fn_sound Try.checked.mixed rfl (by exact Try.func69) (by kernel_rfl) tie_scan_run
theorem tie_scan_part : compFn Try.prog yK Try.f70 = some A.scan_part.strip := by kernel_rfl
theorem has_scan_part (W0 : World) : Has (Ecx (cxOf W0)) K.scan_part A.scan_part := fn_sound Try.checked.mixed rfl (by exact Try.func70) (by kernel_rfl) tie_scan_part
theorem tie_scan_quoted : compFn Try.prog yK Try.f71 = some A.scan_quoted.strip := by kernel_rfl
theorem has_scan_quoted (W0 : World) : Has (Ecx (cxOf W0)) K.scan_quoted A.scan_quoted := fn_sound Try.checked.mixed rfl (by exact Try.func71) (by kernel_rfl) tie_scan_quoted
end Go.Proofs.Ytmobijebjkjnoaa.Al
namespace Go.Proofs.Ytmobijebjkjnoaa.Al
open Go
theorem tie_o_rules_Right : compFn Try.prog ({ yK with om := fun n => ([1000098] : List Nat).contains n }) Try.f15 = some A.rules_Right_o.strip := by kernel_rfl
theorem has_o_rules_Right (W0 : World) : Has (Ecx (cxOf W0)) K.rules_Right A.rules_Right_o := fn_sound (Y := ({ yK with om := fun n => ([1000098] : List Nat).contains n })) Try.checked.mixed rfl (by exact Try.func15) (by kernel_rfl) tie_o_rules_Right
end Go.Proofs.Ytmobijebjkjnoaa.Al
namespace Go.Proofs.Ytmobijebjkjnoaa.Al
open Go Go.RowKit
theorem ext_indexByte (W : World) (s : Str) (c : Int) (h : AH) (Q : V → AH → Prop) (hQ : Q (.int .i64 (idxB s c)) h) : Ecx (cxOf W) K.bytealg_IndexByteString [.str s, .int .u8 c] h Q :=
  indexByte_ext (X := cxOf W) (fn := Try.f76) (by exact Try.func76) (by kernel_rfl) (by kernel_rfl) (by kernel_rfl) (by kernel_rfl) s c hQ
theorem ls (W : World) : LS (cxOf W) := ⟨has_scan_letter W, has_scan_part W, has_scan_quoted W, has_scan_run W, has_scan_first W, has_scan_Scan W, has_strings_Cut W, has_strings_IndexByte W, has_stringslite_Cut W, has_stringslite_IndexByte W, has_stringslite_Index W, ext_indexByte W⟩
theorem lru (W : World) : LRu (cxOf W) := ⟨ls W, has_rules_token W, has_rules_Tree_fine W, has_rules_Tree_fine_1 W, has_rules_Right W, has_rules_Right_1 W, has_slices_ContainsFunc_Rule W, has_slices_IndexFunc_Rule W, has_slices_Contains_byte W, has_slices_Index_byte W, has_slices_Equal_int W⟩
theorem lgr8 (W : World) : LGr (cxOf W) := ⟨has_gram_there W, has_gram_fits W, has_gram_fits_1 W, has_gram_Right W, has_gram_Right_1 W, has_slices_ContainsFunc_Prod W, has_slices_ContainsFunc_Sym W, has_slices_IndexFunc_Prod W, has_slices_IndexFunc_Sym W⟩
theorem llo (W : World) : LLo (cxOf W) := ⟨lru W, has_o_rules_Right W, has_lower_lowerer_term W, has_lower_lowerer_alone W, has_lower_lowerer_number W, has_lower_lowerer_symbol W, has_lower_all W, has_lower_lowerer_lay W, has_lower_lowerer_node W, has_lower_Lower W, lgr8 W⟩
theorem arg_node {u : V} (a : Arg Try.prog 58 u) : ∃ x : Nd, u = ndV x ∧ (x.name.length ≤ maxLen ∧ x.kids.length ≤ maxLen) := by
  obtain ⟨l, rfl, t⟩ := arg_struct Try.underlying58 a
  obtain ⟨a0, r, rfl, y0, t⟩ := tys_cons t
  obtain ⟨a1, r, rfl, y1, t⟩ := tys_cons t
  obtain ⟨a2, r, rfl, y2, t⟩ := tys_cons t
  obtain rfl := tys_nil t
  obtain ⟨n, rfl, _, _⟩ := ty_i64 (by kernel_rfl) y0
  obtain ⟨s, rfl, hs⟩ := ty_str (by kernel_rfl) y1
  obtain ⟨m, rfl, hm, hl⟩ := ty_sl (e := 3) (by kernel_rfl) y2
  obtain ⟨l, rfl, _⟩ := list_form (f := .int .i64) (p := fun _ => True) (fun v hv => by obtain ⟨n, e, _, h2⟩ := arg_i64 Try.underlying3 hv; exact ⟨n, e, trivial⟩) m hl
  rw [show Try.prog.cellsOf 3 = 1 by kernel_rfl]
  exact ⟨⟨n, s, l⟩, rfl, hs, by simpa using hm⟩
theorem arg_rule {u : V} (a : Arg Try.prog 56 u) : ∃ x : Rl, u = rlV x ∧ x.name.length ≤ maxLen := by
  obtain ⟨l, rfl, t⟩ := arg_struct Try.underlying56 a
  obtain ⟨a0, r, rfl, y0, t⟩ := tys_cons t
  obtain ⟨a1, r, rfl, y1, t⟩ := tys_cons t
  obtain rfl := tys_nil t
  obtain ⟨s, rfl, hs⟩ := ty_str (by kernel_rfl) y0
  obtain ⟨n, rfl, _, _⟩ := ty_i64 (by kernel_rfl) y1
  exact ⟨⟨s, n⟩, rfl, hs⟩
theorem arg_tree {u : V} (a : Arg Try.prog 25 u) : ∃ t : Te, u = teV t ∧ TeOk t := by
  obtain ⟨l, rfl, t⟩ := arg_struct Try.underlying25 a
  obtain ⟨a0, r, rfl, y0, t⟩ := tys_cons t
  obtain ⟨a1, r, rfl, y1, t⟩ := tys_cons t
  obtain rfl := tys_nil t
  obtain ⟨m, rfl, hm, hl⟩ := ty_sl (e := 56) (by kernel_rfl) y0
  obtain ⟨rs, rfl, hr⟩ := list_form (f := rlV) (fun v hv => arg_rule hv) m hl
  obtain ⟨m2, rfl, hm2, hl2⟩ := ty_sl (e := 58) (by kernel_rfl) y1
  obtain ⟨ns, rfl, hn⟩ := list_form (f := ndV) (fun v hv => arg_node hv) m2 hl2
  rw [show Try.prog.cellsOf 56 = 2 by kernel_rfl, show Try.prog.cellsOf 58 = 3 by kernel_rfl]
  exact ⟨⟨rs, ns⟩, rfl, ⟨by simpa using hm, by simpa using hm2, hr, fun n h => (hn n h).1, fun n h => (hn n h).2⟩⟩
end Go.Proofs.Ytmobijebjkjnoaa.Al
namespace Go.Proofs.Ytmobijebjkjnoaa.Al
open Go Go.RowKit
theorem lsr (W : World) : LSR (cxOf W) := ⟨has_probateref05_letter W, has_probateref05_part W, has_probateref05_Scan W⟩
theorem lr6 (W : World) : LR6 (cxOf W) := ⟨lsr W, has_probateref06_under W, has_probateref06_Right W, has_probateref06_Tree_fine W, has_probateref06_Tree_rule W, has_probateref06_quote W⟩
theorem lr8 (W : World) : LR8 (cxOf W) := ⟨has_probateref08_Terms W, has_probateref08_place W, has_probateref08_rule W, has_probateref08_own W, has_probateref08_symbol W, has_probateref08_symbols W⟩
theorem lrl (W : World) : LRL (cxOf W) := ⟨lr8 W, lr6 W, has_probateref08_prods W, has_probateref08_Lower W, has_probateref03_Right W⟩
theorem l08 (W : World) : L08 (cxOf W) := ⟨llo W, lrl W, has_probatelaw06_Large W, has_probatelaw06_Own W, has_probateref03_Same W, has_probatelaw08_names W, has_probatelaw08_awake W⟩
theorem law_LowerTells (W : World) {u0 : V} (a0 : Arg Try.prog 25 u0) : Ecx (cxOf W) K.probatelaw08_LowerTells [u0] iniH fun r _ => r = .bool true := by
  obtain ⟨t, rfl, ok⟩ := arg_tree a0
  exact tells8_spec (l08 W) (has_probatelaw08_LowerTells W) t ok rfl
end Go.Proofs.Ytmobijebjkjnoaa.Al
