/-
  What the law ShowTells needs of this claim's texts (part 3). Conditions: each theorem's own.
-/
import Derived.Test.YtdbbgkdepjidjaaChecked
import Derived.KernelRfl
import Derived.Test.YtdbbgkdepjidjaaAlKeys
import Derived.Tactics
import Derived.Tactics2
import Derived.Defers
import Derived.Recover
import Derived.Laws.Pointers
import Derived.RegionTactic
import Derived.Ground.NamesProg
import Derived.Shelf.Lay
import Derived.Shelf.Strings.OnBuilder
import Derived.Shelf.Strings.Builder1
import Derived.Test.YtdbbgkdepjidjaaAlArg
import Derived.Test.YtdbbgkdepjidjaaAlA
import Derived.Test.YtdbbgkdepjidjaaAlB
import Derived.Test.YtdbbgkdepjidjaaAlC
import Derived.Test.YtdbbgkdepjidjaaSh1ShowTells
import Derived.Test.YtdbbgkdepjidjaaSh2ShowTells
namespace Go.Proofs.Ytdbbgkdepjidjaa.Al
open Go Go.RowKit
set_option linter.unusedSimpArgs false
set_option linter.unusedVariables false
attribute [-simp] List.getD_eq_getElem?_getD Int.not_lt Int.not_le List.map_take List.map_map List.length_flatMap
/-! ### In plain Lean -/
/-- With spaces between. -/
def spJ (l : List Str) : Str := match l with
  | [] => []
  | x :: r => x ++ r.flatMap fun y => 32 :: y
def toksT (t : Te) (r : Rl) : List Str := tokW t t.nodes.length r.body
def lineT (t : Te) (r : Rl) : Str := spJ ([r.name, [58]] ++ toksT t r ++ [[59]]) ++ [10]
def textT (t : Te) : Str := t.rules.flatMap (lineT t)
def showP (t : Te) : Str × Int := if rightP t = true then (if 4000 < (textT t).length then ([], 5) else (textT t, 0)) else ([], 1)
def toksP (t : Te) (i : Int) : List Str × Int := if rightP t = true then (if i < 0 ∨ (t.rules.length : Int) ≤ i then ([], 11) else (match t.rules[i.toNat]? with
  | some r => (toksT t r, 0)
  | none => ([], 0))) else ([], 1)
theorem lineT_eq (t : Te) (r : Rl) : lineT t r = r.name ++ [32, 58] ++ (toksT t r).flatMap (fun y => 32 :: y) ++ [32, 59, 10] := by simp [lineT, spJ]
/-- A tree whose text can be told. -/
structure TBo (t : Te) : Prop where
  ok : TOk t
  rl : t.rules.length ≤ 24
  bd : ∀ r ∈ t.rules, ∃ m : Nat, r.body = (m : Int) ∧ m < t.nodes.length
  ln : ∀ r ∈ t.rules, (lineT t r).length ≤ 2 ^ 30
  tl : ∀ r ∈ t.rules, (toksT t r).length ≤ 2 ^ 20
theorem textT_len {t : Te} (T : TBo t) (i : Nat) : ((t.rules.take i).flatMap (lineT t)).length ≤ 2 ^ 35 := by
  have key : ∀ l : List Rl, (∀ r ∈ l, (lineT t r).length ≤ 2 ^ 30) → (l.flatMap (lineT t)).length ≤ l.length * 2 ^ 30 := fun l => by
    induction l with
    | nil => simp
    | cons a l ih =>
      intro h
      have h1 := h a (by simp)
      have h2 := ih fun r hr => h r (by simp [hr])
      simp only [List.flatMap_cons, List.length_append, List.length_cons]
      omega
  have h1 := key (t.rules.take i) fun r hr => T.ln r (List.mem_of_mem_take hr)
  have h2 : (t.rules.take i).length ≤ 24 := by rw [List.length_take]; have := T.rl; omega
  omega
/-- The kind of a strings.Builder. -/
abbrev tbT : Nat := 58
abbrev u8T : Nat := 5
structure L07 (X : Cx) : Prop where
  w : LWr X
  wr : LWrR X
  ru : LRu X
  right : Has (Ecx X) K.rules_Right A.rules_Right_o
  r6 : LR6 X
  tokens : Has (Ecx X) K.show_Tokens A.show_Tokens
  text : Has (Ecx X) K.show_Text (A.show_Text)
  textR : Has (Ecx X) K.probateref07_Text A.probateref07_Text
  wstr : Has (Ecx X) K.strings_Builder_WriteString A.strings_Builder_WriteString
  len : Has (Ecx X) K.strings_Builder_Len A.strings_Builder_Len
  join : ∀ (l : List Str) (e st : Nat) (h : AH) (Q : V → AH → Prop), (l = [] ∨ e = 1) → (spJ l).length ≤ 2 ^ 40 → l.length ≤ 2 ^ 40 → Q (.str (spJ l)) h → Ecx X K.strings_Join [.sl e st (strs l), .str [32]] h Q
  copy : ∀ (o : Nat) (h : AH) (a r : V) (Q : V → AH → Prop), h.objs o = [a, r] → (a = .nilp ∨ a = .ptr o 0) → Q (.tup []) (h.set o [.ptr o 0, r]) → Ecx X K.strings_Builder_copyCheck [.tp o tbT 2] h Q
  bstr : ∀ (o : Nat) (h : AH) (a : V) (st : Nat) (l : Str) (Q : V → AH → Prop), h.objs o = [a, .tys u8T (.sl 1 st (bytesV l))] → l ≠ [] → 3 ≤ st → h.tips st = some 1 → l.length ≤ 2 ^ 40 → Q (.str l) (h.drop st) → Ecx X K.strings_Builder_String [.tp o tbT 2] h Q
section
variable {X : Cx} {h : AH} {t : Te} {Q : V → AH → Prop}
theorem rText (L : L07 X) (S : TeSm t) (T : rightP t = true → TBo t) (hQ : Q (.tup [.str (showP t).1, .int .i64 (showP t).2]) h) : Ecx X K.probateref07_Text [teV t] h Q := by
  refine fn_walk L.textR (by simp [A.probateref07_Text]) fun wf => ?_
  have htc : teC t = [.sl 2 0 (t.rules.map rlV), .sl 3 0 (t.nodes.map ndV)] := rfl
  have htv : V.agg [.sl 2 0 (t.rules.map rlV), .sl 3 0 (t.nodes.map ndV)] = teV t := rfl
  have sr := S.r; have sn := S.n
  simp [A.probateref07_Text, teV, htc, V.cells, V.good]
  rw [htv]
  refine ecall (rRight_spec L.r6 t (by omega) (by omega) S.rn S.nn S.ks ?_)
  rw [← right_eq]
  by_cases hr : rightP t = true
  case neg =>
    simp [hr]
    exact fin_wk ((Gr.refl h).new _) (.same _) (by simp) (by simpa [showP, hr] using hQ)
  have T := T hr
  have gr := (Gr.refl h).new [V.sl 2 0 (t.rules.map rlV), .sl 3 0 (t.nodes.map ndV)]
  have o1 : (h.new [V.sl 2 0 (t.rules.map rlV), .sl 3 0 (t.nodes.map ndV)]).objs h.nobj = [V.sl 2 0 (t.rules.map rlV), .sl 3 0 (t.nodes.map ndV)] := by simp
  have nb : (h.new [V.sl 2 0 (t.rules.map rlV), .sl 3 0 (t.nodes.map ndV)]).nobj = h.nobj + 1 := by simp
  simp [hr]
  generalize (h.new [V.sl 2 0 (t.rules.map rlV), .sl 3 0 (t.nodes.map ndV)]) = h1 at *
  have trl := T.rl
  refine loopI (n := t.rules.length) (fun m env h' => ∃ k, k ≤ t.rules.length ∧ m = t.rules.length - k ∧ Gr h1 h' ∧
    env = [(1, .ptr h.nobj 0), (4, .str ((t.rules.take k).flatMap (lineT t))), (5, .int .i64 k)]) ?_ ⟨0, by omega, by omega, Gr.refl _, rfl⟩
  rintro m env h2 ⟨k, hk, rfl, g2, rfl⟩
  unfold A.probateref07_Text.L0
  have o2 : h2.objs h.nobj = [V.sl 2 0 (t.rules.map rlV), .sl 3 0 (t.nodes.map ndV)] := by rw [g2.objs _ (by omega)]; exact o1
  have hl1 := textT_len T k
  by_cases hlt : k < t.rules.length
  · have hlt' : (k : Int) < t.rules.length := by omega
    have hg : (t.rules.map rlV).getD k .undef = rlV t.rules[k] := Enc.getD hlt
    have hw1 : IntKind.i64.wrap ((k : Int) + 1) = ((k + 1 : Nat) : Int) := by rw [wrap_i64 (by omega) (by omega)]; rfl
    have hmem := List.getElem_mem hlt
    obtain ⟨b, e1, e2⟩ := T.bd _ hmem
    have hln := T.ln _ hmem
    have htl := T.tl _ hmem
    have hle := lineT_eq t t.rules[k]
    have htk : (t.rules.take (k + 1)).flatMap (lineT t) = (t.rules.take k).flatMap (lineT t) ++ lineT t t.rules[k] := by rw [List.take_succ_eq_append_getElem hlt, List.flatMap_append]; simp
    have htd : toksT t t.rules[k] = tokW t t.nodes.length b := by unfold toksT; rw [e1]
    have hrv : rlV t.rules[k] = .agg [.str t.rules[k].name, .int .i64 b] := by rw [← e1]; rfl
    rw [hrv] at hg
    rw [hle] at hln
    rw [htd] at htl hln
    generalize t.rules[k].name = name at *
    generalize (t.rules.take k).flatMap (lineT t) = out at *
    obtain ⟨e, st, h3, d, ow⟩ := rNode L.wr T.ok t.nodes.length h2 b e2 e2 (by omega)
    generalize tokW t t.nodes.length b = tk at *
    simp only [List.length_append, List.length_cons, List.length_nil] at hln
    have hsl : (strs tk).length = tk.length := by simp [strs]
    have hpre : ∀ j, (List.flatMap (fun y => (32 : UInt8) :: y) (tk.take j)).length ≤ (List.flatMap (fun y => (32 : UInt8) :: y) tk).length := fun j => by
      have : tk.flatMap (fun y => (32 : UInt8) :: y) = (tk.take j).flatMap (fun y => 32 :: y) ++ (tk.drop j).flatMap (fun y => 32 :: y) := by rw [← List.flatMap_append, List.take_append_drop]
      rw [this, List.length_append]; omega
    have o3 : h3.objs h.nobj = [V.sl 2 0 (t.rules.map rlV), .sl 3 0 (t.nodes.map ndV)] := by rw [ow.gr.objs _ (by have := g2.nobj; omega)]; exact o2
    simp [o2, hlt', hg, V.cells]
    refine ⟨by omega, by omega, ?_⟩
    rw [htv]
    refine dcallE _ _ d ?_
    simp
    refine loopI (n := tk.length) (fun m env h' => ∃ j, j ≤ tk.length ∧ m = tk.length - j ∧ h' = h3 ∧
      env = [(1, .ptr h.nobj 0), (4, .str (out ++ (name ++ [32, 58] ++ (tk.take j).flatMap fun y => 32 :: y))), (5, .int .i64 k), (6, .sl e st (strs tk)), (7, .int .i64 j)]) ?_ ⟨0, by omega, by omega, rfl, by simp⟩
    rintro m env h' ⟨j, hj, rfl, rfl, rfl⟩
    unfold A.probateref07_Text.L1
    have hpj := hpre j
    have hpj1 := hpre (j + 1)
    by_cases hlj : j < tk.length
    · have hlj' : (j : Int) < tk.length := by omega
      have hgj : (strs tk).getD j .undef = .str tk[j] := by simp [strs, List.getD, hlj]
      have hw2 : IntKind.i64.wrap ((j : Int) + 1) = ((j + 1 : Nat) : Int) := by rw [wrap_i64 (by omega) (by omega)]; rfl
      have htj : (tk.take (j + 1)).flatMap (fun y => (32 : UInt8) :: y) = (tk.take j).flatMap (fun y => 32 :: y) ++ 32 :: tk[j] := by rw [List.take_succ_eq_append_getElem hlj, List.flatMap_append]; simp
      have he1 : e = 1 := ow.el.resolve_left (by intro q; simp [strs] at q; rw [q] at hlj; simp at hlj)
      subst he1
      rw [htj, List.length_append, List.length_cons] at hpj1
      simp [hsl, hlj', hgj, V.cells, hw2, -Int.natCast_add]
      refine ⟨by omega, by omega, tk.length - (j + 1), by omega, iv ⟨j + 1, by omega, rfl, rfl, ?_⟩⟩
      rw [htj]; simp
    · have hlj' : ¬ (j : Int) < tk.length := by omega
      obtain rfl : j = tk.length := by omega
      rw [List.take_length] at *
      simp [hsl, hlj', hw1, -Int.natCast_add]
      refine ⟨by omega, t.rules.length - (k + 1), by omega, iv ⟨k + 1, by omega, rfl, g2.trans' ow.gr, ?_⟩⟩
      rw [htk, hle, htd]; simp
  · have hlt' : ¬ (k : Int) < t.rules.length := by omega
    obtain rfl : k = t.rules.length := by omega
    rw [List.take_length] at *
    have e : (t.rules.flatMap (lineT t)) = textT t := rfl
    rw [e] at *
    by_cases c : 4000 < (textT t).length
    · have c' : (4000 : Int) < (textT t).length := by omega
      simp [o2, hlt', c', c]
      exact fin_wk (gr.trans' g2) (.same _) (by simp) (by simpa [showP, hr, c] using hQ)
    · have c' : ¬ (4000 : Int) < (textT t).length := by omega
      simp [o2, hlt', c', c]
      exact fin_wk (gr.trans' g2) (.same _) (by simp) (by simpa [showP, hr, c] using hQ)
/-- A builder that holds l. -/
structure BO (h : AH) (b st : Nat) (l : Str) : Prop where
  ob : ∃ a v, h.objs b = [a, v] ∧ (a = .nilp ∨ a = .ptr b 0) ∧ ((l = [] ∧ v = .sl 0 1 [] ∧ st = 1) ∨ (l ≠ [] ∧ v = .tys u8T (.sl 1 st (bytesV l)) ∧ 3 ≤ st ∧ st < h.next ∧ h.tips st = some 1))
  lt : b < h.nobj
  lo : 3 ≤ h.next ∧ ∀ s, s ≤ 2 → h.tips s = none
theorem BO.keep {h h1 : AH} {b st o so s1 : Nat} {l : Str} (r : BO h b st l) (g : SWE h h1 o so s1) (hb : b ≠ o) (hs : so ≤ 2 ∨ so ≠ st) (lo : 3 ≤ h1.next ∧ ∀ s, s ≤ 2 → h1.tips s = none) : BO h1 b st l := by
  obtain ⟨a, v, ob, ha, m⟩ := r.ob
  refine ⟨⟨a, v, by rw [g.objs b r.lt hb]; exact ob, ha, ?_⟩, Nat.lt_of_lt_of_le r.lt g.nobj, lo⟩
  rcases m with m | ⟨m1, m2, m3, m4, m5⟩
  · exact .inl m
  · have := g.next
    exact .inr ⟨m1, m2, m3, by omega, by rw [g.tips st m4 (by omega)]; exact m5⟩
theorem bytesV_app (a b : Str) : bytesV (a ++ b) = bytesV a ++ bytesV b := by simp [bytesV]
theorem bytesV_len (a : Str) : (bytesV a).length = a.length := by simp [bytesV]
theorem bWrite (L : L07 X) {b st : Nat} {l : Str} (r : BO h b st l) (s : Str) (hs : s ≠ []) (hl : l.length + s.length ≤ 2 ^ 40) :
    ∃ h1, Det X K.strings_Builder_WriteString [.tp b tbT 2, .str s] h (.tup [.int .i64 s.length, .cval .nilIface]) h1 ∧ SWE h h1 b st h.next ∧ BO h1 b h.next (l ++ s) := by
  obtain ⟨a, v, ob, ha, m⟩ := r.ob
  have hb0 : bytesV s ≠ [] := by simpa [bytesV] using hs
  have st2 : st ≤ 2 → st = 1 := by
    rcases m with ⟨_, _, q⟩ | ⟨_, _, q, _⟩
    · exact fun _ => q
    · omega
  refine ⟨(((h.set b [.ptr b 0, v]).push st 1).set b [.ptr b 0, .tys u8T (.sl 1 h.next (bytesV (l ++ s)))]), ?_, ?_, ?_⟩
  · refine fn_any L.wstr (by simp [A.strings_Builder_WriteString]) fun wf => ?_
    simp [A.strings_Builder_WriteString]
    refine ecall (L.copy b h a _ _ ob ha ?_)
    rcases m with ⟨rfl, rfl, rfl⟩ | ⟨m1, rfl, m3, m4, m5⟩
    · simp [V.cells, hs]
      refine ⟨by omega, ?_⟩
      simp [setAt, V.cells, V.good, push_objs]
    · simp [V.cells]
      have m1 : May 1 (h.set b [.ptr b 0, .tys u8T (.sl 1 st (bytesV l))]) 1 st (bytesV l) := ⟨.inr rfl, .inr (.inr m5)⟩
      refine m1.app hb0 rfl (by simp [bytesV_len]; omega) ?_
      simp [setAt, V.cells, V.good, push_objs, bytesV_app]
  · refine ⟨by rw [set_next, push_next]; simp, by rw [set_nobj, push_nobj]; simp, fun o' _ hn => by rw [set_objs_ne _ _ _ hn, push_objs, set_objs_ne _ _ _ hn], fun k hk hn => ?_, .inr (Nat.le_refl _)⟩
    rw [set_tips]
    by_cases c : st ≤ 2
    · unfold AH.push; rw [if_pos c]; exact updN_ne _ _ (by simp; omega)
    · exact push_tips_at (by simpa using hk) (by omega)
  · refine ⟨⟨.ptr b 0, _, set_objs_same _ _ _, .inr rfl, .inr ⟨by simp [hs], rfl, r.lo.1, by rw [set_next, push_next]; simp, by rw [set_tips]; exact push_new _ _ _⟩⟩, by rw [set_nobj, push_nobj]; exact r.lt, by rw [set_next, set_tips]; exact push_low (h := h.set b [.ptr b 0, v]) r.lo _ _⟩
theorem SWE.gr {h0 h h1 : AH} {o st st1 : Nat} (G : Gr h0 h) (f : SWE h h1 o st st1) (ho : h0.nobj ≤ o) (hs : st ≤ 2 ∨ h0.next ≤ st) : Gr h0 h1 := by
  have g1 := G.next
  have g2 := G.nobj
  exact ⟨Nat.le_trans g1 f.next, Nat.le_trans g2 f.nobj, fun o' h' => (f.objs o' (by omega) (by omega)).trans (G.objs o' h'), fun s h' => (f.tips s (by omega) (by omega)).trans (G.tips s h')⟩
theorem bLen (L : L07 X) {b st : Nat} {l : Str} (r : BO h b st l) (hl : l.length ≤ 2 ^ 40) (hQ : Q (.int .i64 l.length) h) : Ecx X K.strings_Builder_Len [.tp b tbT 2] h Q := by
  obtain ⟨a, v, ob, ha, m⟩ := r.ob
  refine fn_walk L.len (by simp [A.strings_Builder_Len]) fun wf => ?_
  rcases m with ⟨rfl, rfl, rfl⟩ | ⟨m1, rfl, m3, m4, m5⟩
  · simp [A.strings_Builder_Len, ob, V.cells]
    exact fin (by simp) (by simpa using hQ)
  · simp [A.strings_Builder_Len, ob, V.cells, bytesV_len]
    exact fin (by simp) hQ
theorem wText (L : L07 X) (S : TeSm t) (T : rightP t = true → TBo t) (hQ : Q (.tup [.str (showP t).1, .int .i64 (showP t).2]) h) : Ecx X K.show_Text [teV t] h Q := by
  refine fn_walk L.text (by simp [A.show_Text]) fun wf => ?_
  have htc : teC t = [.sl 2 0 (t.rules.map rlV), .sl 3 0 (t.nodes.map ndV)] := rfl
  have htv : V.agg [.sl 2 0 (t.rules.map rlV), .sl 3 0 (t.nodes.map ndV)] = teV t := rfl
  have sr := S.r; have sn := S.n
  simp [A.show_Text, teV, htc, V.cells, V.good]
  rw [htv]
  refine ecall (ruRight_spec L.ru L.right t (by omega) (by omega) S.rn S.nn S.ks ?_)
  by_cases hr : rightP t = true
  case neg =>
    simp [hr]
    exact fin_wk ((Gr.refl h).new _) (.same _) (by simp) (by simpa [showP, hr] using hQ)
  have T := T hr
  simp [hr, fillV, fillL, setAt, V.cells, V.isAgg]
  have gr := (((Gr.refl h).new [V.sl 2 0 (List.map rlV t.rules), V.sl 3 0 (List.map ndV t.nodes)]).new [V.sl 2 0 (List.map rlV t.rules), V.sl 3 0 (List.map ndV t.nodes), V.sl 0 1 []]).new [V.nilp, V.sl 0 1 []]
  have oW : (((h.new [V.sl 2 0 (List.map rlV t.rules), V.sl 3 0 (List.map ndV t.nodes)]).new [V.sl 2 0 (List.map rlV t.rules), V.sl 3 0 (List.map ndV t.nodes), V.sl 0 1 []]).new [V.nilp, V.sl 0 1 []]).objs (h.nobj + 1) = [V.sl 2 0 (List.map rlV t.rules), V.sl 3 0 (List.map ndV t.nodes), V.sl 0 1 []] := by simp
  have bo : BO (((h.new [V.sl 2 0 (List.map rlV t.rules), V.sl 3 0 (List.map ndV t.nodes)]).new [V.sl 2 0 (List.map rlV t.rules), V.sl 3 0 (List.map ndV t.nodes), V.sl 0 1 []]).new [V.nilp, V.sl 0 1 []]) (h.nobj + 2) 1 [] :=
    ⟨⟨.nilp, _, by simp, .inl rfl, .inl ⟨rfl, rfl, rfl⟩⟩, by simp, by simpa using wf.lo⟩
  have nb : (((h.new [V.sl 2 0 (List.map rlV t.rules), V.sl 3 0 (List.map ndV t.nodes)]).new [V.sl 2 0 (List.map rlV t.rules), V.sl 3 0 (List.map ndV t.nodes), V.sl 0 1 []]).new [V.nilp, V.sl 0 1 []]).nobj = h.nobj + 3 := by simp
  generalize (((h.new [V.sl 2 0 (List.map rlV t.rules), V.sl 3 0 (List.map ndV t.nodes)]).new [V.sl 2 0 (List.map rlV t.rules), V.sl 3 0 (List.map ndV t.nodes), V.sl 0 1 []]).new [V.nilp, V.sl 0 1 []]) = h1 at *
  have trl := T.rl
  refine loopI (n := t.rules.length) (fun m env h' => ∃ k st v, k ≤ t.rules.length ∧ m = t.rules.length - k ∧ Gr h h' ∧ BO h' (h.nobj + 2) st ((t.rules.take k).flatMap (lineT t)) ∧ (st ≤ 2 ∨ h.next ≤ st) ∧ h'.objs (h.nobj + 1) = [V.sl 2 0 (List.map rlV t.rules), V.sl 3 0 (List.map ndV t.nodes), v] ∧ h.nobj + 3 ≤ h'.nobj ∧
    env = [(4, .ptr (h.nobj + 1) 0), (5, .tp (h.nobj + 2) tbT 2), (15, .sl 2 0 (t.rules.map rlV)), (16, .int .i64 t.rules.length), (17, .int .i64 k)]) ?_ ⟨0, 1, _, by omega, by omega, gr, by simpa using bo, .inl (by omega), oW, by omega, rfl⟩
  rintro m env h2 ⟨k, st, v, hk, rfl, g2, bo2, hst, oW2, nb2, rfl⟩
  unfold A.show_Text.L0
  have hl1 := textT_len T k
  by_cases hlt : k < t.rules.length
  · have hlt' : (k : Int) < t.rules.length := by omega
    have hg : (t.rules.map rlV).getD k .undef = rlV t.rules[k] := Enc.getD hlt
    have hw1 : IntKind.i64.wrap ((k : Int) + 1) = ((k + 1 : Nat) : Int) := by rw [wrap_i64 (by omega) (by omega)]; rfl
    have hmem := List.getElem_mem hlt
    obtain ⟨b, e1, e2⟩ := T.bd _ hmem
    have hln := T.ln _ hmem
    have htl := T.tl _ hmem
    have htk : (t.rules.take (k + 1)).flatMap (lineT t) = (t.rules.take k).flatMap (lineT t) ++ lineT t t.rules[k] := by rw [List.take_succ_eq_append_getElem hlt, List.flatMap_append]; simp
    have htd : toksT t t.rules[k] = tokW t t.nodes.length b := by unfold toksT; rw [e1]
    have hrv : rlV t.rules[k] = .agg [.str t.rules[k].name, .int .i64 b] := by rw [← e1]; rfl
    rw [hrv] at hg
    have hlt2 : lineT t t.rules[k] = spJ ([t.rules[k].name, [58]] ++ tokW t t.nodes.length b ++ [[59]]) ++ [10] := by unfold lineT; rw [htd]
    rw [hlt2] at hln htk
    rw [htd] at htl
    generalize t.rules[k].name = name at *
    generalize hout : (t.rules.take k).flatMap (lineT t) = out at *
    have q1 : ¬ h.nobj + 1 = h2.nobj := by omega
    have q2 : ¬ h.nobj + 2 = h.nobj + 1 := by omega
    have q3 : ¬ h2.nobj = h.nobj + 1 := by omega
    -- the writer anew
    generalize hA : (h2.set (h.nobj + 1) [V.sl 2 0 (List.map rlV t.rules), V.sl 3 0 (List.map ndV t.nodes), V.sl 0 1 []]).new [.str name, .int .i64 b] = hA'
    have gA : SWE h2 hA' (h.nobj + 1) 1 1 := by rw [← hA]; exact ((SWE.refl h2 _ 1).set (.inl rfl) _).new _
    have loA : 3 ≤ hA'.next ∧ ∀ s, s ≤ 2 → hA'.tips s = none := by rw [← hA]; simpa using bo2.lo
    have wA : WrO hA' (h.nobj + 1) t 1 [] := ⟨⟨0, by rw [← hA]; simp [strs, q1], ⟨.inl rfl, .inl rfl⟩⟩, by rw [← hA]; simp; omega, loA, .inl (by omega)⟩
    have oR : hA'.objs h2.nobj = [.str name, .int .i64 b] := by rw [← hA]; simp
    have nA : hA'.nobj = h2.nobj + 1 := by rw [← hA]; simp
    obtain ⟨h3, d3, g3, w3⟩ := wPut L.w wA [name, [58]] (by simp) (by simp) (st2 := 2)
    obtain ⟨h4, st4, d4, g4, w4⟩ := wNode L.w T.ok t.nodes.length h3 _ _ _ b w3 e2 e2 (by simp; omega)
    obtain ⟨h5, d5, g5, w5⟩ := wPut L.w w4 [[59]] (by simp) (by simp; omega) (st2 := 2)
    have gall := gA.trans (g3.trans (g4.trans g5))
    have bo5 := bo2.keep gall q2 (.inl (by omega)) w5.lo
    obtain ⟨e5, ob5, m5⟩ := w5.ob
    simp only [List.nil_append] at ob5 m5
    generalize hline : [name, [58]] ++ tokW t t.nodes.length b ++ [[59]] = line at *
    have hll : line.length ≤ 2 ^ 40 := by rw [← hline]; simp; omega
    have hsl : (spJ line).length ≤ 2 ^ 30 := by rw [List.length_append] at hln; omega
    obtain ⟨h6, d6, g6, bo6⟩ := bWrite L bo5 (spJ line ++ [10]) (by simp) (by simp; omega)
    have nA5 := gall.nobj
    have oR3 : h3.objs h2.nobj = [.str name, .int .i64 b] := by rw [g3.objs _ (by omega) q3]; exact oR
    have G5 := SWE.gr g2 gall (by omega) (.inl (by omega))
    have G6 := SWE.gr G5 g6 (by omega) hst
    have oW6 : h6.objs (h.nobj + 1) = _ := (g6.objs _ w5.lt (by omega)).trans ob5
    have nA6 := g6.nobj
    simp [hlt', hg, V.cells, V.good, setAt, oW2, q1, q3]
    rw [hA]
    refine ecall (d3.to ?_)
    simp [oR3, V.cells]
    refine ecall (d4.to ?_)
    simp [fillL]
    refine ecall (d5.to ?_)
    simp [ob5, V.cells]
    refine ecall (L.join line e5 _ _ _ (by rcases m5.el with q | q
                                           · exact .inl (by simpa [strs] using q)
                                           · exact .inr q) (by omega) hll ?_)
    simp
    refine ⟨by omega, ?_⟩
    refine ecall (d6.to ?_)
    simp [hw1, -Int.natCast_add]
    refine ⟨t.rules.length - (k + 1), by omega, iv ⟨k + 1, h5.next, .sl e5 h4.next (strs line), by omega, rfl, G6, ?_, ?_, oW6, by omega, rfl⟩⟩
    · rw [htk]; exact bo6
    · have := G5.next; omega
  · have hlt' : ¬ (k : Int) < t.rules.length := by omega
    obtain rfl : k = t.rules.length := by omega
    rw [List.take_length] at *
    change BO h2 (h.nobj + 2) st (textT t) at bo2
    change (textT t).length ≤ 2 ^ 35 at hl1
    obtain ⟨a, v2, ob, ha, m⟩ := bo2.ob
    simp [hlt']
    refine ecall (bLen L bo2 (by omega) ?_)
    by_cases c : 4000 < (textT t).length
    · have c' : (4000 : Int) < (textT t).length := by omega
      simp [c', c]
      exact fin_wk g2 (.same _) (by simp) (by simpa [showP, hr, c] using hQ)
    · have c' : ¬ (4000 : Int) < (textT t).length := by omega
      simp [c', c]
      have hne : textT t ≠ [] := by
        intro q
        have h0 : 0 < t.rules.length := by
          have := hr
          unfold rightP at this
          simp only [Bool.and_eq_true, decide_eq_true_eq] at this
          exact this.1.1.1
        have h1 : lineT t t.rules[0] = [] := by
          have : ∀ r ∈ t.rules, lineT t r = [] := by simpa [textT] using q
          exact this _ (List.getElem_mem h0)
        simp [lineT] at h1
      rcases m with ⟨m1, _⟩ | ⟨m1, rfl, m3, m4, m5⟩
      · exact absurd m1 hne
      refine ecall (L.bstr (h.nobj + 2) h2 a st (textT t) _ ob hne m3 m5 (by omega) ?_)
      simp
      refine fin_wk (h1 := h2.drop st) ?_ (.same _) (by simp) (by simpa [showP, hr, c] using hQ)
      refine ⟨g2.next, g2.nobj, g2.objs, fun s hs => ?_⟩
      rw [← g2.tips s hs]
      exact updN_ne _ _ (by omega)
theorem wTokens (L : L07 X) (S : TeSm t) (T : rightP t = true → TBo t) (i : Int) (hQ : Q (.tup [.sl 1 0 (strs (toksP t i).1), .int .i64 (toksP t i).2]) h) : Ecx X K.show_Tokens [teV t, .int .i64 i] h Q := by
  refine fn_walk L.tokens (by simp [A.show_Tokens]) fun wf => ?_
  have htc : teC t = [.sl 2 0 (t.rules.map rlV), .sl 3 0 (t.nodes.map ndV)] := rfl
  have htv : V.agg [.sl 2 0 (t.rules.map rlV), .sl 3 0 (t.nodes.map ndV)] = teV t := rfl
  have sr := S.r; have sn := S.n
  have wk0 : Wk (.sl 0 1 []) (.sl 1 0 (strs [])) := .nil _ _ _
  simp [A.show_Tokens, teV, htc, V.cells, V.good]
  rw [htv]
  refine ecall (ruRight_spec L.ru L.right t (by omega) (by omega) S.rn S.nn S.ks ?_)
  by_cases hr : rightP t = true
  case neg =>
    simp [hr]
    exact fin_wk ((Gr.refl h).new _) (wk0.t2 _) (by simp [strs]) (by simpa [toksP, hr] using hQ)
  have T := T hr
  by_cases c1 : i < 0
  · simp [hr, c1]
    exact fin_wk ((Gr.refl h).new _) (wk0.t2 _) (by simp [strs]) (by simpa [toksP, hr, c1] using hQ)
  by_cases c2 : (t.rules.length : Int) ≤ i
  · simp [hr, c1, c2]
    exact fin_wk ((Gr.refl h).new _) (wk0.t2 _) (by simp [strs]) (by simpa [toksP, hr, c1, c2] using hQ)
  obtain ⟨k, rfl⟩ : ∃ k : Nat, i = (k : Int) := ⟨i.toNat, by omega⟩
  have hlt : k < t.rules.length := by omega
  have hlt' : (k : Int) < t.rules.length := by omega
  have hg : (t.rules.map rlV).getD k .undef = rlV t.rules[k] := Enc.getD hlt
  have hmem := List.getElem_mem hlt
  obtain ⟨b, e1, e2⟩ := T.bd _ hmem
  have htl := T.tl _ hmem
  have htd : toksT t t.rules[k] = tokW t t.nodes.length b := by unfold toksT; rw [e1]
  have hrv : rlV t.rules[k] = .agg [.str t.rules[k].name, .int .i64 b] := by rw [← e1]; rfl
  rw [hrv] at hg
  have hp : toksP t (k : Int) = (tokW t t.nodes.length b, 0) := by simp [toksP, hr, c1, c2, hlt, htd]
  rw [hp] at hQ
  rw [htd] at htl
  simp only at hQ
  generalize hA : (h.new [V.sl 2 0 (List.map rlV t.rules), V.sl 3 0 (List.map ndV t.nodes)]).new [V.sl 2 0 (List.map rlV t.rules), V.sl 3 0 (List.map ndV t.nodes), V.sl 0 1 []] = hA'
  have gA : Gr h hA' := by rw [← hA]; exact ((Gr.refl h).new _).new _
  have wA : WrO hA' (h.nobj + 1) t 1 [] := ⟨⟨0, by rw [← hA]; simp [strs], ⟨.inl rfl, .inl rfl⟩⟩, by rw [← hA]; simp, by rw [← hA]; simpa using wf.lo, .inl (by omega)⟩
  have oA : hA'.objs h.nobj = [V.sl 2 0 (List.map rlV t.rules), V.sl 3 0 (List.map ndV t.nodes)] := by rw [← hA]; simp
  obtain ⟨h4, st4, d4, g4, w4⟩ := wNode L.w T.ok t.nodes.length hA' _ _ _ b wA e2 e2 (by simp; omega)
  obtain ⟨e5, ob5, m5⟩ := w4.ob
  simp only [List.nil_append] at ob5 m5
  simp [hr, c1, c2, fillV, fillL, setAt, V.cells, V.isAgg, V.good, hlt', hg]
  rw [hA]
  refine ecall (d4.to ?_)
  simp [ob5, V.cells]
  refine fin_wk (SWE.gr gA g4 (by omega) (.inl (by omega))) (r := .tup [.sl 1 0 (strs (tokW t t.nodes.length b)), .int .i64 0]) (Wk.t2 ?_ _) ?_ hQ
  · rcases m5.el with q | q
    · have : tokW t t.nodes.length b = [] := by simpa [strs] using q
      rw [this]; exact .nil _ _ _
    · rw [q]; exact .sl _ _ _
  · simp only [Bdd_tup, List.mem_cons, List.not_mem_nil, or_false]
    rintro v (rfl | rfl)
    · exact .sl _ _ _ (by omega) (Bdd_strs _ _ _)
    · simp
end
end Go.Proofs.Ytdbbgkdepjidjaa.Al
namespace Go.Proofs.Ytdbbgkdepjidjaa.Al
open Go Go.RowKit
set_option linter.unusedSimpArgs false
set_option linter.unusedVariables false
attribute [-simp] List.length_flatMap
section
variable {t : Te}
theorem tokenT_len {s : Str} {k : Nat} (h : tokenT s k = true) : s.length ≤ 4000 := by
  unfold tokenT at h
  refine Classical.byContradiction fun c => ?_
  have : scanR s = ([], 0, 5) := by unfold scanR; rw [if_pos (by omega)]
  rw [this] at h
  simp at h
theorem name_len (R : RTe t) : ∀ x ∈ t.nodes, x.name.length ≤ 4000 := fun x hx => by
  have hf := R.fine x hx
  unfold fineT at hf
  split at hf
  · simp only [Bool.and_eq_true, decide_eq_true_eq] at hf
    obtain ⟨r, hr, e⟩ := List.mem_map.1 hf.2
    rw [← e]; exact tokenT_len (R.tok r hr)
  · split at hf
    · simp only [Bool.and_eq_true] at hf
      have := hf.2
      unfold quoteT at this
      simp only [Bool.and_eq_true, decide_eq_true_eq] at this
      omega
    · simp only [Bool.and_eq_true, decide_eq_true_eq] at hf
      rw [hf.1]; simp
theorem kind_fine (R : RTe t) : ∀ x ∈ t.nodes, x.kind = 6 ∨ x.kind = 7 ∨ x.kind = 1 ∨ x.kind = 2 ∨ (3 ≤ x.kind ∧ x.kind ≤ 5 ∧ x.kids.length = 1) := fun x hx => by
  have hf := R.fine x hx
  unfold fineT at hf
  split at hf
  · rename_i c; exact .inl c
  · split at hf
    · rename_i c; exact .inr (.inl c)
    · simp only [Bool.and_eq_true, Bool.or_eq_true, decide_eq_true_eq] at hf
      obtain ⟨_, (⟨h1, h2⟩ | ⟨h1, h2⟩) | ⟨⟨h1, h2⟩, h3⟩⟩ := hf
      · exact .inr (.inr (.inl h1))
      · exact .inr (.inr (.inr (.inl h1)))
      · exact .inr (.inr (.inr (.inr ⟨h1, h2, h3⟩)))
/-- Every token is short. -/
theorem brk_mem {l : List Str} {s : Str} (h : s ∈ brk l) : s ∈ l ∨ s.length = 1 := by
  simp only [brk, List.mem_cons, List.mem_append, List.not_mem_nil, or_false] at h
  rcases h with h | h | h
  · right; rw [h]; rfl
  · exact .inl h
  · right; rw [h]; rfl
theorem eachW_mem {sep : List Str} {one : Int → List Str} {l : List Int} {s : Str} (h : s ∈ eachW sep one l) : s ∈ sep ∨ ∃ k ∈ l, s ∈ one k := by
  cases l with
  | nil => simp [eachW] at h
  | cons a l =>
    simp only [eachW, List.mem_append, List.mem_flatMap] at h
    rcases h with h | ⟨k, hk, h | h⟩
    · exact .inr ⟨a, by simp, h⟩
    · exact .inl h
    · exact .inr ⟨k, by simp [hk], h⟩
theorem tokW_short (hn : ∀ x ∈ t.nodes, x.name.length ≤ 4000) : ∀ (f : Nat) (n : Int), ∀ s ∈ tokW t f n, s.length ≤ 4002
  | 0, n, s, h => by simp [tokW] at h
  | f + 1, n, s, h => by
    have ih := tokW_short hn f
    have ha : ∀ n, ∀ s ∈ atomW t (tokW t f) n, s.length ≤ 4002 := fun n s h => by
      unfold atomW at h
      split at h
      · exact ih n s h
      · rcases brk_mem h with h | h
        · exact ih n s h
        · omega
    have hi : ∀ n, ∀ s ∈ itemW t (tokW t f) n, s.length ≤ 4002 := fun n s h => by
      unfold itemW at h
      split at h
      · exact ih n s h
      · exact ha n s h
    have hl : ∀ n, ∀ s ∈ altW t (tokW t f) n, s.length ≤ 4002 := fun n s h => by
      unfold altW at h
      split at h
      · exact ih n s h
      · exact hi n s h
    rw [tokW] at h
    split at h
    · simp at h
    · rename_i x hx
      have hm := hn x (List.mem_of_getElem? hx)
      split at h
      · simp at h; rw [h]; omega
      split at h
      · simp at h; rw [h]; simp; omega
      split at h
      · rcases eachW_mem h with h | ⟨k, _, h⟩
        · simp at h
        · exact hi k s h
      split at h
      · rcases eachW_mem h with h | ⟨k, _, h⟩
        · simp at h; rw [h]; simp
        · exact hl k s h
      · rcases List.mem_append.1 h with h | h
        · exact ha _ s h
        · simp at h; rw [h]; unfold markW; repeat' split
          all_goals simp
/-- How many nodes lie below. -/
def szW (t : Te) : Nat → Int → Nat
  | 0, _ => 1
  | f + 1, n => match t.nodes[n.toNat]? with
    | none => 1
    | some x => 1 + (x.kids.map (szW t f)).sum
theorem szW_fuel (hlt : ∀ i (h : i < t.nodes.length), ∀ k ∈ t.nodes[i].kids, 0 ≤ k ∧ k < i) : ∀ (f f' n : Nat), n < f → n < f' → n < t.nodes.length → szW t f n = szW t f' n
  | 0, f', n, h, _, _ => by omega
  | f + 1, 0, n, _, h, _ => by omega
  | f + 1, f' + 1, n, h1, h2, h3 => by
    rw [szW, szW]
    simp only [Int.toNat_natCast, List.getElem?_eq_getElem h3]
    congr 2
    refine List.map_congr_left fun k hk => ?_
    obtain ⟨a, b⟩ := hlt n h3 k hk
    obtain ⟨m, rfl⟩ : ∃ m : Nat, k = (m : Int) := ⟨k.toNat, by omega⟩
    exact szW_fuel hlt f f' m (by omega) (by omega) (by omega)
theorem sum_le {α : Type} (g k : α → Nat) (c : Nat) : ∀ (l : List α), (∀ a ∈ l, g a ≤ k a + c) → (l.map g).sum ≤ (l.map k).sum + c * l.length
  | [], _ => by simp
  | a :: l, h => by
    have h1 := h a (by simp)
    have h2 := sum_le g k c l fun b hb => h b (by simp [hb])
    simp only [List.map_cons, List.sum_cons, List.length_cons, Nat.mul_add, Nat.mul_one]; omega
theorem eachW_sum (sep : List Str) (one : Int → List Str) (l : List Int) : (eachW sep one l).length + (if l = [] then 0 else sep.length) = (l.map fun k => (one k).length + sep.length).sum := by
  cases l with
  | nil => simp [eachW]
  | cons a l =>
    have : (l.flatMap fun k => sep ++ one k).length = (l.map fun k => (one k).length + sep.length).sum := by
      induction l with
      | nil => simp
      | cons b l ih => simp only [List.flatMap_cons, List.length_append, List.map_cons, List.sum_cons, ih]; omega
    simp only [eachW, List.length_append, this, List.map_cons, List.sum_cons]
    rw [if_neg (by simp)]; omega
theorem tokW_sz (T : ∀ x ∈ t.nodes, x.kind = 6 ∨ x.kind = 7 ∨ x.kind = 1 ∨ x.kind = 2 ∨ (3 ≤ x.kind ∧ x.kind ≤ 5 ∧ x.kids.length = 1)) : ∀ (f : Nat) (n : Int), (tokW t f n).length + 3 ≤ 4 * szW t f n
  | 0, n => by simp [tokW, szW]
  | f + 1, n => by
    have ih := tokW_sz T f
    have ha : ∀ n, (atomW t (tokW t f) n).length + 1 ≤ 4 * szW t f n := fun n => by
      have := ih n
      unfold atomW
      split
      · omega
      · rw [brk_len]; omega
    have hi : ∀ n, (itemW t (tokW t f) n).length + 1 ≤ 4 * szW t f n := fun n => by
      have := ih n
      unfold itemW
      split
      · omega
      · exact ha n
    have hl : ∀ n, (altW t (tokW t f) n).length + 1 ≤ 4 * szW t f n := fun n => by
      have := ih n
      unfold altW
      split
      · omega
      · exact hi n
    have h4 : ∀ l : List Int, (l.map fun k => 4 * szW t f k).sum = 4 * (l.map (szW t f)).sum := fun l => by
      induction l with
      | nil => simp
      | cons a l ih => simp only [List.map_cons, List.sum_cons, ih]; omega
    cases hx : t.nodes[n.toNat]? with
    | none => rw [tokW, szW, hx]; simp
    | some x =>
      rw [tokW, szW, hx]
      simp only
      have hk := T x (List.mem_of_getElem? hx)
      split
      · simp; omega
      split
      · simp; omega
      split
      · have e := eachW_sum [] (itemW t (tokW t f)) x.kids
        have s := sum_le (fun k => (itemW t (tokW t f) k).length + ([] : List Str).length) (fun k => 4 * szW t f k) 0 x.kids (fun a _ => by have := hi a; simp; omega)
        rw [h4] at s
        simp at e s ⊢
        omega
      split
      · have e := eachW_sum [[124]] (altW t (tokW t f)) x.kids
        have s := sum_le (fun k => (altW t (tokW t f) k).length + ([[124]] : List Str).length) (fun k => 4 * szW t f k) 0 x.kids (fun a _ => by have := hl a; simp; omega)
        rw [h4] at s
        have : (if x.kids = [] then 0 else ([[124]] : List Str).length) ≤ 1 := by split <;> simp
        simp only [Nat.zero_mul, Nat.add_zero] at s
        omega
      · obtain ⟨k1, k2, k3⟩ : 3 ≤ x.kind ∧ x.kind ≤ 5 ∧ x.kids.length = 1 := by omega
        obtain ⟨k, hk⟩ := List.length_eq_one_iff.1 k3
        rw [hk]
        have := ha k
        simp; omega
theorem runS_sz (hlt : ∀ i (h : i < t.nodes.length), ∀ k ∈ t.nodes[i].kids, 0 ≤ k ∧ k < i) : ∀ (k a : Nat) (st st' : List Int), runS t k a st = some st' → (∀ x ∈ st, 0 ≤ x ∧ x < (a : Int)) →
    (st'.map (szW t t.nodes.length)).sum = (st.map (szW t t.nodes.length)).sum + k ∧ (∀ x ∈ st', 0 ≤ x ∧ x < ((a + k : Nat) : Int)) ∧ (0 < k → st'.getLast? = some ((a + k - 1 : Nat) : Int))
  | 0, a, st, st', h, hb => by simp [runS] at h; subst h; exact ⟨by simp, by simpa using hb, fun q => by omega⟩
  | k + 1, a, st, st', h, hb => by
    rw [runS] at h
    cases hst : stpS t a st with
    | none => rw [hst] at h; cases h
    | some s2 =>
      rw [hst] at h
      unfold stpS at hst
      split at hst
      · rename_i nd hnd
        obtain ⟨ha, rfl⟩ := List.getElem?_eq_some_iff.1 hnd
        split at hst
        · rename_i c
          obtain ⟨c1, c2, c3⟩ := c
          obtain rfl := Option.some.inj hst
          obtain ⟨q1, q2, q3⟩ := runS_sz hlt k (a + 1) _ _ h (fun x hx => by
            rcases List.mem_append.1 hx with q | q
            · have := hb x (List.mem_of_mem_take q); omega
            · rw [List.mem_singleton] at q; omega)
          have e1 : (st.map (szW t t.nodes.length)).sum = ((st.take (st.length - t.nodes[a].kids.length)).map (szW t t.nodes.length)).sum + (t.nodes[a].kids.map (szW t t.nodes.length)).sum := by
            conv => lhs; rw [← List.take_append_drop (st.length - t.nodes[a].kids.length) st, c3]
            simp
          have e2 : szW t t.nodes.length a = 1 + (t.nodes[a].kids.map (szW t t.nodes.length)).sum := by
            rw [szW_fuel hlt t.nodes.length (t.nodes.length + 1) a ha (by omega) ha, szW]
            simp only [Int.toNat_natCast, List.getElem?_eq_getElem ha]
          refine ⟨?_, fun x hx => by have := q2 x hx; omega, fun _ => ?_⟩
          · rw [q1, e1]
            simp only [List.map_append, List.sum_append, List.map_cons, List.map_nil, List.sum_cons, List.sum_nil]
            omega
          · by_cases k0 : 0 < k
            · rw [q3 k0]; congr 2; omega
            · obtain rfl : k = 0 := by omega
              simp [runS] at h
              rw [← h]; simp
        · cases hst
      · cases hst
theorem rightS_sz (hlt : ∀ i (h : i < t.nodes.length), ∀ k ∈ t.nodes[i].kids, 0 ≤ k ∧ k < i) : ∀ (rs : List Rl) (seen : List Str) (a b : Nat), rightS t rs seen a = some b → ∀ r ∈ rs, ∃ m : Nat, r.body = (m : Int) ∧ m < t.nodes.length ∧ szW t t.nodes.length m ≤ t.nodes.length
  | [], seen, a, b, h, r, hr => by simp at hr
  | q :: rs, seen, a, b, h, r, hr => by
    unfold rightS at h
    split at h
    · rename_i c
      obtain ⟨c1, c2, c3, c4⟩ := c
      split at h
      · rename_i v hv
        rcases List.mem_cons.1 hr with rfl | hr
        · obtain ⟨s1, s2, s3⟩ := runS_sz hlt _ _ _ _ hv (by simp)
          have s3 := s3 (by omega)
          simp at s3 s1
          refine ⟨r.body.toNat, by omega, by omega, ?_⟩
          have e : v = ((r.body.toNat : Nat) : Int) := by omega
          rw [← e, s1]; omega
        · exact rightS_sz hlt rs _ _ _ h r hr
      · cases h
    · cases h
theorem spJ_len (B : Nat) : ∀ (l : List Str), (∀ s ∈ l, s.length ≤ B) → (l.flatMap fun y => (32 : UInt8) :: y).length ≤ (B + 1) * l.length
  | [], _ => by simp
  | a :: l, h => by
    have h1 := h a (by simp)
    have h2 := spJ_len B l fun s hs => h s (by simp [hs])
    simp only [List.flatMap_cons, List.length_append, List.length_cons, Nat.mul_add, Nat.mul_one]; omega
theorem tbo_of (h : rightP t = true) (S : TeSm t) : TBo t := by
  have R := rte_of h
  have hk := kind_fine R
  have hr := h
  unfold rightP at hr
  simp only [Bool.and_eq_true, decide_eq_true_eq] at hr
  have hb := rightS_sz R.lt _ _ _ _ hr.2
  have hn1 := R.n1
  have tl : ∀ r ∈ t.rules, (toksT t r).length ≤ 800 := fun r hr => by
    obtain ⟨m, e1, e2, e3⟩ := hb r hr
    unfold toksT
    rw [e1]
    have := tokW_sz hk t.nodes.length m
    omega
  refine ⟨⟨R.lt, fun x hx => by have := name_len R x hx; omega, fun x hx => S.ks x hx, hk, by omega⟩, R.r1, fun r hr => ?_, fun r hr => ?_, fun r hr => by have := tl r hr; omega⟩
  · obtain ⟨m, e1, e2, _⟩ := hb r hr
    exact ⟨m, e1, e2⟩
  · have h1 := tl r hr
    have h2 := spJ_len 4002 (toksT t r) (tokW_short (name_len R) _ _)
    have h3 := tokenT_len (R.tok r hr)
    rw [lineT_eq]
    simp only [List.length_append, List.length_cons, List.length_nil]
    have : 4003 * (toksT t r).length ≤ 4003 * 800 := Nat.mul_le_mul_left _ h1
    omega
end
end Go.Proofs.Ytdbbgkdepjidjaa.Al
namespace Go.Proofs.Ytdbbgkdepjidjaa.Al
open Go Go.RowKit
set_option linter.unusedSimpArgs false
set_option linter.unusedVariables false
attribute [-simp] List.getD_eq_getElem?_getD Int.not_lt Int.not_le List.map_take List.map_map
structure L07L (X : Cx) : Prop where
  l : L07 X
  large : Has (Ecx X) K.probatelaw06_Large A.probatelaw06_Large
  own : Has (Ecx X) K.probatelaw06_Own A.probatelaw06_Own
  awake : Has (Ecx X) K.probatelaw07_awake A.probatelaw07_awake
section
variable {X : Cx} {h : AH} {Q : V → AH → Prop}
def awTe7 : Te := ⟨[⟨[115], 5⟩], [⟨7, [97], []⟩, ⟨6, [115], []⟩, ⟨1, [], [0, 1]⟩, ⟨3, [], [2]⟩, ⟨1, [], []⟩, ⟨2, [], [3, 4]⟩]⟩
def awS7 : Str := [115, 32, 58, 32, 40, 32, 39, 97, 39, 32, 115, 32, 41, 32, 42, 32, 124, 32, 59, 10]
theorem aw7_show : showP awTe7 = (awS7, 0) := by decide +kernel
theorem aw7_toks : toksP awTe7 0 = ([[40], [39, 97, 39], [115], [41], [42], [124]], 0) := by decide +kernel
theorem aw7_toks1 : toksP awTe7 1 = ([], 11) := by decide +kernel
theorem aw7_none : showP noTe = ([], 1) := by decide +kernel
theorem aw7_sm : TeSm awTe7 := ⟨by decide, by decide, by decide, by decide, by decide⟩
theorem aw7_sm0 : TeSm noTe := ⟨by decide, by decide, by decide, by decide, by decide⟩
theorem wk_awTe7 : Wk (.agg [.sl 2 2 [.agg [.str [115], .int .i64 5]], .sl 3 2 [.agg [.int .i64 7, .str [97], .sl 0 1 []], .agg [.int .i64 6, .str [115], .sl 0 1 []], .agg [.int .i64 1, .str [], .sl 1 2 [.int .i64 0, .int .i64 1]], .agg [.int .i64 3, .str [], .sl 1 2 [.int .i64 2]], .agg [.int .i64 1, .str [], .sl 0 1 []], .agg [.int .i64 2, .str [], .sl 1 2 [.int .i64 3, .int .i64 4]]]]) (teV awTe7) :=
  wk_tree (R := awTe7.rules) (l := awTe7.nodes) (.inr rfl) (.inr rfl) (.cons (.cons (.same _) (.cons (.same _) (.cons (wk_kids (kids := []) (.inl rfl)) .nil))) (.cons (.cons (.same _) (.cons (.same _) (.cons (wk_kids (kids := []) (.inl rfl)) .nil)))
      (.cons (.cons (.same _) (.cons (.same _) (.cons (wk_kids (kids := [0, 1]) (.inr rfl)) .nil))) (.cons (.cons (.same _) (.cons (.same _) (.cons (wk_kids (kids := [2]) (.inr rfl)) .nil))) (.cons (.cons (.same _) (.cons (.same _) (.cons (wk_kids (kids := []) (.inl rfl)) .nil)))
      (.cons (.cons (.same _) (.cons (.same _) (.cons (wk_kids (kids := [3, 4]) (.inr rfl)) .nil))) .nil))))))
theorem awake7_spec (L : L07L X) (hQ : Q (.bool true) h) : Ecx X K.probatelaw07_awake [] h Q := by
  refine fn_walk L.awake (by simp [A.probatelaw07_awake]) fun wf => ?_
  simp [A.probatelaw07_awake, fillL, fillV, V.isAgg, V.cells, V.good, setAt]
  refine ecall (Ecx.wkL (.cons wk_awTe7 .nil) (wText L.l aw7_sm (fun hr => tbo_of hr aw7_sm) ?_))
  rw [aw7_show]
  simp
  refine ecall (Ecx.wkL (.cons wk_awTe7 (.cons (.same _) .nil)) (wTokens L.l aw7_sm (fun hr => tbo_of hr aw7_sm) 0 ?_))
  rw [aw7_toks]
  have hN : Wk (V.agg [V.sl 0 1 [], V.sl 0 1 []]) (teV noTe) := wk_tree (R := []) (l := []) (.inl rfl) (.inl rfl) .nil
  simp
  refine ecall (Ecx.wkL (.cons hN .nil) (wText L.l aw7_sm0 (fun hr => tbo_of hr aw7_sm0) ?_))
  rw [aw7_none]
  simp
  refine ecall (Ecx.wkL (.cons wk_awTe7 (.cons (.same _) .nil)) (wTokens L.l aw7_sm (fun hr => tbo_of hr aw7_sm) 1 ?_))
  rw [aw7_toks1]
  simp [awS7, strs, V.cells]
  exact fin_wk ((Gr.refl h).new _) (.same _) (by simp) hQ
theorem show_tells (L : L07L X) (H : Has (Ecx X) K.probatelaw07_ShowTells A.probatelaw07_ShowTells) (t : Te) (ht : TeOk t) (i : Int) (hQ : Q (.bool true) h) : Ecx X K.probatelaw07_ShowTells [teV t, .int .i64 i] h Q := by
  refine fn_walk H (by simp [A.probatelaw07_ShowTells]) fun wf => ?_
  have htc : teC t = [.sl 2 0 (t.rules.map rlV), .sl 3 0 (t.nodes.map ndV)] := rfl
  have htv : V.agg [.sl 2 0 (t.rules.map rlV), .sl 3 0 (t.nodes.map ndV)] = teV t := rfl
  have gr := (Gr.refl h).new [V.sl 2 0 (t.rules.map rlV), .sl 3 0 (t.nodes.map ndV)]
  have oA : (h.new [V.sl 2 0 (t.rules.map rlV), .sl 3 0 (t.nodes.map ndV)]).objs h.nobj = [V.sl 2 0 (t.rules.map rlV), .sl 3 0 (t.nodes.map ndV)] := by simp
  have nb : (h.new [V.sl 2 0 (t.rules.map rlV), .sl 3 0 (t.nodes.map ndV)]).nobj = h.nobj + 1 := by simp
  simp [A.probatelaw07_ShowTells, teV, htc, V.cells, V.good]
  generalize (h.new [V.sl 2 0 (t.rules.map rlV), .sl 3 0 (t.nodes.map ndV)]) = h1 at *
  refine ecall (awake7_spec L ?_)
  simp [oA]
  rw [htv]
  refine ecall (largeT_spec L.large t ht ?_)
  by_cases c2 : largeT t = true
  · simp [c2]
    exact fin_wk gr (.same _) (by simp) hQ
  have c2' : largeT t = false := by simpa using c2
  have S := sm_of c2'
  have T : rightP t = true → TBo t := fun hr => tbo_of hr S
  have sr := S.r; have sn := S.n
  simp [c2', oA]
  rw [htv]
  refine ecall (wText L.l S T ?_)
  simp [oA]
  rw [htv]
  refine ecall (own6_spec L.own _ (by omega) (by omega) ?_)
  simp
  refine ecall (rText L.l S T ?_)
  simp [oA]
  rw [htv]
  refine ecall (wTokens L.l S T i ?_)
  simp [oA]
  rw [htv]
  refine ecall (own6_spec L.own _ (by omega) (by omega) ?_)
  simp
  refine ecall (rRight_spec L.l.r6 t (by omega) (by omega) S.rn S.nn S.ks ?_)
  rw [← right_eq]
  by_cases hr : rightP t = true
  case neg =>
    have e1 : toksP t i = ([], 1) := by simp [toksP, hr]
    simp [hr, e1, strs]
    exact fin_wk gr (.same _) (by simp) hQ
  have TB := T hr
  by_cases c3 : i < 0
  · have e1 : toksP t i = ([], 11) := by simp [toksP, hr, c3]
    simp [hr, e1, c3, strs]
    exact fin_wk gr (.same _) (by simp) hQ
  by_cases c4 : (t.rules.length : Int) ≤ i
  · have e1 : toksP t i = ([], 11) := by simp [toksP, hr, c3, c4]
    simp [hr, e1, c3, c4, strs, oA]
    exact fin_wk gr (.same _) (by simp) hQ
  obtain ⟨k, rfl⟩ : ∃ k : Nat, i = (k : Int) := ⟨i.toNat, by omega⟩
  have hlt : k < t.rules.length := by omega
  have hlt' : (k : Int) < t.rules.length := by omega
  have hg : (t.rules.map rlV).getD k .undef = rlV t.rules[k] := Enc.getD hlt
  have hmem := List.getElem_mem hlt
  obtain ⟨b, e1, e2⟩ := TB.bd _ hmem
  have htl := TB.tl _ hmem
  have htd : toksT t t.rules[k] = tokW t t.nodes.length b := by unfold toksT; rw [e1]
  have hrv : rlV t.rules[k] = .agg [.str t.rules[k].name, .int .i64 b] := by rw [← e1]; rfl
  rw [hrv] at hg
  have hp : toksP t (k : Int) = (tokW t t.nodes.length b, 0) := by simp [toksP, hr, c3, c4, hlt, htd]
  rw [htd] at htl
  obtain ⟨e, st, h3, d, ow⟩ := rNode L.l.wr TB.ok t.nodes.length h1 b e2 e2 (by omega)
  simp [hr, hp, c3, c4, oA]
  rw [htv]
  refine dcall (teV t) (own6_spec L.own _ (by omega) (by omega) ⟨rfl, rfl⟩) ?_
  simp [oA, hlt', hg, V.cells]
  refine dcallE _ _ d ?_
  generalize tokW t t.nodes.length b = tk at *
  have hsl : (strs tk).length = tk.length := by simp [strs]
  simp [hsl]
  refine loopI (n := tk.length) (fun m env h' => ∃ j, j ≤ tk.length ∧ m = tk.length - j ∧ h' = h3 ∧
    env = [(9, .sl 1 0 (strs tk)), (11, .sl e st (strs tk)), (90, .int .i64 tk.length), (91, .int .i64 j)]) ?_ ⟨0, by omega, by omega, rfl, rfl⟩
  rintro m env h' ⟨j, hj, rfl, rfl, rfl⟩
  unfold A.probatelaw07_ShowTells.L0
  by_cases hlj : j < tk.length
  · have hlj' : (j : Int) < tk.length := by omega
    have hgj : (strs tk).getD j .undef = .str tk[j] := by simp [strs, List.getD, hlj]
    have hw2 : IntKind.i64.wrap ((j : Int) + 1) = ((j + 1 : Nat) : Int) := by rw [wrap_i64 (by omega) (by omega)]; rfl
    have he1 : e = 1 := ow.el.resolve_left (by intro q; simp [strs] at q; rw [q] at hlj; simp at hlj)
    subst he1
    simp [hsl, hlj', hgj, V.cells, hw2, -Int.natCast_add]
    exact ⟨tk.length - (j + 1), by omega, iv ⟨j + 1, by omega, rfl, rfl, rfl⟩⟩
  · have hlj' : ¬ (j : Int) < tk.length := by omega
    obtain rfl : j = tk.length := by omega
    simp [hsl, hlj']
    exact fin_wk (gr.trans' ow.gr) (.same _) (by simp) hQ
end
end Go.Proofs.Ytdbbgkdepjidjaa.Al
namespace Go.Proofs.Ytdbbgkdepjidjaa.Al
open Go
def yK : Keys := ⟨fun k => ([0, 0, 1, 2, 0, 0, 0, 0, 0, 0, 0, 0, 0, 0, 0, 0, 0, 0, 0, 0, 0, 0, 0, 0, 0, 0, 0, 0, 0, 0, 0, 0, 0, 0, 0, 0, 0, 0, 0, 0, 0, 0, 0, 0, 0, 0, 0, 0, 0, 32, 23, 0, 0, 0, 0, 0, 0, 0, 0, 0, 0, 0, 0, 0, 0, 0, 0, 0, 0, 0, 0, 0, 0, 0, 0, 0, 0, 0, 0, 0, 0, 0, 0, 0, 0, 0, 0, 54, 46, 47, 0, 0, 0, 0, 0, 0, 0, 0, 0, 0, 0, 0, 61, 62, 63, 64, 65, 66, 0, 0, 0, 0, 0, 0, 0, 71, 72, 0, 78, 79, 83, 84, 85, 86, 87, 88, 89, 90, 91, 92, 93, 94, 95, 96, 97, 98, 99, 100, 101, 102, 104, 0, 0, 0, 0, 0, 0, 0, 0, 0, 0, 0, 3, 4, 5, 0, 0, 0, 0, 0, 0, 0, 0, 0, 0, 0, 0, 0, 0, 0, 0, 0, 0, 0, 0, 0, 0, 0, 0, 0, 0, 0, 0, 0, 0, 7, 0, 0, 10, 0, 0, 14, 0, 15, 0, 0, 12, 16, 6, 8, 9, 11, 13, 0, 0, 0, 0, 0, 0, 0, 31, 0, 0, 0, 0, 0, 0, 0, 0, 0, 0, 0, 0, 0, 0, 0, 0, 0, 0, 0, 0, 0, 0, 0, 0, 0, 0, 0, 0, 0, 0, 0, 0, 0, 0, 0, 0, 0, 0, 0, 27, 28, 29, 30, 33, 34, 0, 0, 0, 24, 25, 35, 36, 37, 17, 18, 19, 20, 21, 22, 26, 0, 0, 0, 0, 0, 0, 0, 0, 0, 0, 0, 0, 0, 0, 0, 0, 0, 0, 0, 0, 0, 0, 0, 0, 0, 0, 0, 0, 0, 0, 0, 51, 52, 53, 55, 56, 0, 0, 0, 48, 49, 38, 39, 40, 41, 42, 43, 44, 45, 50, 0, 0, 0, 0, 0, 0, 0, 0, 0, 60, 67, 68, 69, 0, 57, 58, 59, 0, 0, 0, 73, 74, 75, 76, 77, 70, 80, 81, 82, 103, 0, 0, 0, 0, 0, 0, 0, 0, 0, 0, 0, 0, 0, 0, 0, 0, 0, 0, 0, 0, 0, 0, 0, 0, 0, 0, 0, 0, 0, 0, 0, 0, 0, 0, 0, 0, 0, 0, 0, 0, 0, 0, 0, 0, 0, 0, 0, 0, 0, 0, 0, 0, 0, 0, 0, 0, 0, 0, 0, 0, 0, 0, 0, 0, 0, 0, 0] : List Nat).getD k 0, fun k => ([1, 2, 3, 152, 153, 154, 198, 185, 199, 200, 188, 201, 196, 202, 191, 193, 197, 264, 265, 266, 267, 268, 269, 50, 259, 260, 270, 250, 251, 252, 253, 210, 49, 254, 255, 261, 262, 263, 312, 313, 314, 315, 316, 317, 318, 319, 88, 89, 310, 311, 320, 302, 303, 304, 87, 305, 306, 335, 336, 337, 330, 102, 103, 104, 105, 106, 107, 331, 332, 333, 346, 115, 116, 341, 342, 343, 344, 345, 118, 119, 347, 348, 349, 120, 121, 122, 123, 124, 125, 126, 127, 128, 129, 130, 131, 132, 133, 134, 135, 136, 137, 138, 139, 350, 140] : List Nat).getD k 0, fun k => ([33, 34, 35, 37, 38, 39, 40, 45, 81, 82, 83, 85, 94, 95, 108, 109, 202, 242, 243, 244, 248, 249, 259, 270, 289, 290, 292, 294, 300, 301, 317, 320] : List Nat).contains k, fun _ => false⟩
noncomputable abbrev cxZ (W0 : World) (Z : Value → AH → Prop) : Cx := ⟨Try.prog, yK.tbl, W0, Z⟩
noncomputable abbrev cxOf (W0 : World) : Cx := cxZ W0 fun _ _ => False
end Go.Proofs.Ytdbbgkdepjidjaa.Al
namespace Go.Proofs.Ytdbbgkdepjidjaa.Al
open Go
theorem tie_rules_Right : compFn Try.prog yK Try.f14 = some A.rules_Right.strip := by kernel_rfl
theorem has_rules_Right (W0 : World) {Z : Value → AH → Prop} : Has (Ecx (cxZ W0 Z)) K.rules_Right A.rules_Right := fn_sound Try.checked.mixed rfl (by exact Try.func14) (by kernel_rfl) tie_rules_Right
theorem tie_rules_token : compFn Try.prog yK Try.f27 = some A.rules_token.strip := by kernel_rfl
theorem has_rules_token (W0 : World) {Z : Value → AH → Prop} : Has (Ecx (cxZ W0 Z)) K.rules_token A.rules_token := fn_sound Try.checked.mixed rfl (by exact Try.func27) (by kernel_rfl) tie_rules_token
theorem tie_rules_Right_1 : compFn Try.prog yK Try.f29 = some A.rules_Right_1.strip := by kernel_rfl
theorem has_rules_Right_1 (W0 : World) {Z : Value → AH → Prop} : Has (Ecx (cxZ W0 Z)) K.rules_Right_1 A.rules_Right_1 := fn_sound Try.checked.mixed rfl (by exact Try.func29) (by kernel_rfl) tie_rules_Right_1
theorem tie_rules_Tree_fine : compFn Try.prog yK Try.f30 = some A.rules_Tree_fine.strip := by kernel_rfl
theorem has_rules_Tree_fine (W0 : World) {Z : Value → AH → Prop} : Has (Ecx (cxZ W0 Z)) K.rules_Tree_fine A.rules_Tree_fine := fn_sound Try.checked.mixed rfl (by exact Try.func30) (by kernel_rfl) tie_rules_Tree_fine
theorem tie_rules_Tree_fine_1 : compFn Try.prog yK Try.f52 = some A.rules_Tree_fine_1.strip := by kernel_rfl
theorem has_rules_Tree_fine_1 (W0 : World) {Z : Value → AH → Prop} : Has (Ecx (cxZ W0 Z)) K.rules_Tree_fine_1 A.rules_Tree_fine_1 := fn_sound Try.checked.mixed rfl (by exact Try.func52) (by kernel_rfl) tie_rules_Tree_fine_1
end Go.Proofs.Ytdbbgkdepjidjaa.Al
namespace Go.Proofs.Ytdbbgkdepjidjaa.Al
open Go Go.RowKit
set_option linter.unusedSimpArgs false
set_option linter.unusedVariables false
attribute [-simp] List.getD_eq_getElem?_getD Int.not_lt Int.not_le List.map_take List.map_map
/-! ### What holds where calls panic may be another thing -/
theorem Rel.z {X X' : Cx} (ht : X'.tbl = X.tbl) {g : Gh} {w : World} {h : AH} {v : V} {x : Value} (r : Rel X g w h v x) : Rel X' g w h v x := by
  induction r with
  | bool b => exact .bool b
  | int k n => exact .int k n
  | str s => exact .str s
  | slnil e st hst => exact .slnil e st hst
  | slemp e a => exact .slemp e a
  | sl e st l b' off cap x h1 hs hcap he hc ho hp hr h2 h3 ih => exact .sl e st l b' off cap x h1 hs hcap he hc ho hp ih h2 h3
  | agg l cs hl ho hr ih => exact .agg l cs hl ho ih
  | ptr o off hn hm => exact .ptr o off hn hm
  | mapr o hn hm => exact .mapr o hn hm
  | mapn => exact .mapn
  | osl e o off len cap c hn hm hc hk => exact .osl e o off len cap c hn hm hc hk
  | rptr l off b' base x hc ho hp hr ih => exact .rptr l off b' base x hc ho hp ih
  | nilp => exact .nilp
  | fn f first cap fs cs h0 hf hcl hr1 hr2 ih1 ih2 => rw [← ht]; exact .fn f first cap fs cs h0 hf hcl ih1 ih2
  | nilf => exact .nilf
  | tup l cs hl hr ih => exact .tup l cs hl ih
  | cval c => exact .cval c
  | tp o t n hn hm hs => exact .tp o t n hn hm hs
  | tys t v a n c r ht ih => exact .tys t v a n c ih ht
  | undef v => exact .undef v
theorem Inv.z {X X' : Cx} (ht : X'.tbl = X.tbl) (hw : X'.W0 = X.W0) {g : Gh} {w : World} {h : AH} (I : Inv X g w h) : Inv X' g w h where
  below := by rw [hw]; exact I.below
  next := I.next
  objs o ho hm hne := by
    obtain ⟨cs, t, a, b, c, d⟩ := I.objs o ho hm hne
    exact ⟨cs, t, a, b, c, fun i i1 i2 => (d i i1 i2).z ht⟩
  maps o ho hm := by
    obtain ⟨es, a, b, c, d⟩ := I.maps o ho hm
    exact ⟨es, a, b, c, fun i i1 i2 => (d i i1 i2).z ht⟩
  objL := I.objL
  objB := by rw [hw]; exact I.objB
  objI := I.objI
  tipB := by rw [hw]; exact I.tipB
  tipI := I.tipI
  tipO := I.tipO
  pubB := I.pubB
/-- An object's cell in the world. -/
theorem Inv.cell {X : Cx} {g : Gh} {w : World} {h : AH} (I : Inv X g w h) {o : Nat} (hn : o < h.nobj) (hm : g.mp o = false) {i : Nat} {v : V} (hv : (h.objs o)[i]? = some v) :
    ∃ x, w.cell? ⟨g.obj o, i, none⟩ = some x ∧ Rel X g w h v x ∧ w.frozen? ⟨g.obj o, i, none⟩ = false := by
  obtain ⟨hi, rfl⟩ := List.getElem?_eq_some_iff.1 hv
  obtain ⟨cs, t, c1, c2, c3, c4⟩ := I.objs o hn hm (fun e => by rw [e] at hi; simp at hi)
  have hci : i < cs.size := by omega
  refine ⟨cs[i], ?_, c4 i hi hci, ?_⟩
  · simp [World.cell?, c1, hci]
  · simp [World.frozen?, c1]
end Go.Proofs.Ytdbbgkdepjidjaa.Al
namespace Go.Proofs
open Go.Shelf Go.RowKit
shelf_lay Lays.n156 Nm 156 at Try as Try.layJoin
theorem Try.bldExtra : Builder.Extra Try.prog Try.layJoin_ren where
  sizeBuilder := by kernel_rfl
  liesBuilder := by kernel_rfl
  t5 := Try.underlying5
  a5 := Try.isAgg5
  z5 := Try.sizeOf5
  v5 := Try.zeroValue5
  infoByte := by kernel_rfl
  cellsByte := by kernel_rfl
  sizeByte := by kernel_rfl
  neB5 := by decide
end Go.Proofs
namespace Go.Proofs.Ytdbbgkdepjidjaa.Al
open Go Go.RowKit Go.Shelf
set_option linter.unusedSimpArgs false
set_option linter.unusedVariables false
theorem arg1 {X : Cx} {g : Gh} {w : World} {h : AH} {v : V} {cargs : Array Value} (rl : RelL X g w h [v] cargs) : ∃ a, cargs = #[a] ∧ Rel X g w h v a := by
  have hsz : cargs.size = 1 := by have := rl.1; simpa using this.symm
  have r0 := rl.2 0 (by simp) (by omega)
  simp only [List.getElem_cons_zero] at r0
  exact ⟨cargs[0], by
    refine Array.ext (by simp [hsz]) fun i h1 h2 => ?_
    have : i = 0 := by omega
    subst this; rfl, r0⟩
theorem copy_ok (W : World) {Z : Value → AH → Prop} (o : Nat) (h : AH) (a r : V) (Q : V → AH → Prop) (ob : h.objs o = [a, r]) (ha : a = .nilp ∨ a = .ptr o 0) (hQ : Q (.tup []) (h.set o [.ptr o 0, r])) :
    Ecx (cxZ W Z) K.strings_Builder_copyCheck [.tp o tbT 2] h Q := by
  intro g w cargs I rl
  obtain ⟨a0, rfl, r0⟩ := arg1 rl
  cases r0 with
  | tp _ _ _ hn hm hs =>
  obtain ⟨x, k1, k2, k3⟩ := I.cell hn hm (i := 0) (v := a) (by rw [ob]; rfl)
  refine .inl ⟨_, by decide, by exact Try.func44, by kernel_rfl, by kernel_rfl, ?_⟩
  obtain ⟨w3, e3, I3, S3⟩ := store_obj I o 0 hn hm (by rw [ob]; simp) [.ptr o 0] [.pointer (some ⟨g.obj o, 0, none⟩)] rfl (by rw [ob]; simp) (fun i hi => by
    have : i = 0 := by simpa using hi
    subst this; rfl) (fun i i1 i2 => by
    have : i = 0 := by simpa using i1
    subst this; exact .ptr o 0 hn hm)
  rw [ob] at I3 S3
  have hw : w3 = w.setCell ⟨g.obj o, 0, none⟩ (.pointer (some ⟨g.obj o, 0, none⟩)) := by
    simp [storeCells, go_sem, k1, k3] at e3
    exact e3.symm
  subst hw
  rcases ha with rfl | rfl
  · cases k2
    refine (Any.Builder_copyCheck_fresh (P := Try.prog) (ρ := Try.layJoin_ren) { Try.layJoin with } Try.bldExtra.toX72 (g.obj o) w k1 hs k3).mono ?_
    rintro e w' ⟨rfl, rfl⟩
    exact .inl ⟨_, rfl, _, _, _, hQ, I3, .tup [] #[] rfl (by simp), S3⟩
  · cases k2
    refine (Any.Builder_copyCheck_used (P := Try.prog) (ρ := Try.layJoin_ren) { Try.layJoin with } Try.bldExtra.toX72 (g.obj o) w k1).mono ?_
    rintro e w' ⟨rfl, rfl⟩
    rw [set_self ob] at hQ
    exact .inl ⟨_, rfl, _, _, _, hQ, I, .tup [] #[] rfl (by simp), Stp.refl _ _ _⟩
/-- Only new blocks. -/
theorem below_inv {X : Cx} {g : Gh} {w w' : World} {h : AH} (I : Inv X g w h) (B : Below w.heap.size w w') : Inv X g w' h ∧ Stp g w h g w' h := by
  have hblk : ∀ k, k < w.heap.size → w'.heap[k]? = w.heap[k]? := fun k hk => B.block k hk
  have hsz : w.heap.size ≤ w'.heap.size := B.size
  have S : Stp g w h g w' h :=
    { next := Nat.le_refl _
      nobj := Nat.le_refl _
      obj := fun _ _ => rfl
      mp := fun _ _ => rfl
      pub := fun _ => Nat.le_refl _
      cell := fun b o hb => World.cell?_of_block (hblk b (I.pub_lt hb))
      tip := fun s _ e he => ⟨he, rfl, rfl⟩
      row := fun s _ e he off n r => by
        obtain ⟨c, t, hh, hl⟩ := r
        exact ⟨c, t, by rw [hblk _ (I.tipB s e he).2.2.2]; exact hh, hl⟩
      shape := fun b s hs => shape_blk hs (hblk b (shape_lt hs)) }
  refine ⟨?_, S⟩
  exact
    { below := I.below.trans ⟨B.1, B.2, B.3, hsz, fun k hk => hblk k (Nat.lt_of_lt_of_le hk I.size)⟩
      next := I.next
      objs := fun o ho hm hne => by
        obtain ⟨cs, t, h1, h2, h3, h4⟩ := I.objs o ho hm hne
        exact ⟨cs, t, by rw [hblk _ (I.objL ho)]; exact h1, h2, h3, fun i i1 i2 => (h4 i i1 i2).stp S⟩
      maps := fun o ho hm => (I.maps o ho hm).stp S rfl (fun _ _ e => by rw [hblk _ (I.objL ho)]; exact e) rfl
      objL := fun ho => Nat.lt_of_lt_of_le (I.objL ho) hsz
      objB := I.objB
      objI := I.objI
      tipB := fun s e he => by
        obtain ⟨a, b, c, d⟩ := I.tipB s e he
        exact ⟨a, b, c, Nat.lt_of_lt_of_le d hsz⟩
      tipI := I.tipI
      tipO := I.tipO
      pubB := fun b hb => I.pubB b (Nat.le_trans hsz hb) }
theorem spJ_join (l : List Str) : Go.Lib.join l [32] = spJ l := by
  cases l with
  | nil => rfl
  | cons a l =>
    rw [Go.Lib.join_cons, spJ]
    rfl
theorem join_ok (W : World) {Z : Value → AH → Prop} (l : List Str) (e st : Nat) (h : AH) (Q : V → AH → Prop) (he : l = [] ∨ e = 1) (hl : (spJ l).length ≤ 2 ^ 40) (hn : l.length ≤ 2 ^ 40) (hQ : Q (.str (spJ l)) h) :
    Ecx (cxZ W Z) K.strings_Join [.sl e st (strs l), .str [32]] h Q := by
  intro g w cargs I rl
  have hsz : cargs.size = 2 := by have := rl.1; simpa using this.symm
  have r0 := rl.2 0 (by simp) (by omega)
  have r1 := rl.2 1 (by simp) (by omega)
  simp only [List.getElem_cons_zero, List.getElem_cons_succ] at r0 r1
  obtain ⟨x, hc⟩ : ∃ x, cargs = #[x, .string ⟨#[32]⟩] := ⟨cargs[0], by
    refine Array.ext (by simp [hsz]) fun i h1 h2 => ?_
    match i with
    | 0 => rfl
    | 1 => generalize cargs[1] = u at r1 ⊢; cases r1; rfl
    | n + 2 => omega⟩
  subst hc
  simp only [List.getElem_toArray, List.getElem_cons_zero] at r0
  refine .inl ⟨_, by decide, by exact Try.func20, by kernel_rfl, by kernel_rfl, ?_⟩
  by_cases hl0 : l = []
  · subst hl0
    have hx : ∃ a c, x = .slice a 0 c := by
      cases r0 with
      | slnil => exact ⟨_, _, rfl⟩
      | slemp => exact ⟨_, _, rfl⟩
      | sl => exact ⟨_, _, rfl⟩
    obtain ⟨a, c, rfl⟩ := hx
    refine (Any.strings_Join_none (P := Try.prog) (ρ := Try.layJoin_ren) Try.layJoin Try.bldExtra a c ⟨#[32]⟩ w).mono ?_
    rintro e w' ⟨rfl, rfl⟩
    exact .inl ⟨_, rfl, _, _, _, hQ, I, .str [], Stp.refl _ _ _⟩
  · have he1 : e = 1 := he.resolve_left hl0
    subst he1
    have hcl : cellsOf (strs l) = strs l := by
      clear r0 r1 hl hn hQ rl he hl0
      induction l with
      | nil => rfl
      | cons a l ih => simp only [strs, List.map_cons, cellsOf_cons, V.cells, List.singleton_append] at *; rw [ih]
    have hsl : (strs l).length = l.length := by simp [strs]
    generalize hv : strs l = L at r0
    cases r0 with
    | slnil => exact absurd (by simpa [strs] using hv) hl0
    | slemp => exact absurd (by simpa [strs] using hv) hl0
    | sl _ _ _ b off cap xf k1 ks kcap ke kc ko kp kr k2 k3 =>
    subst hv
    have hcell : ∀ j s, l[j]? = some s → w.cell? ⟨b, off + j, none⟩ = some (.string ⟨s.toArray⟩) := fun j s hj => by
      obtain ⟨hj1, hj2⟩ := List.getElem?_eq_some_iff.1 hj
      have hjc : j < (cellsOf (strs l)).length := by rw [hcl, hsl]; exact hj1
      rw [kc j hjc]
      have r := kr j hjc
      have : (cellsOf (strs l))[j] = .str s := by
        have h1 : (cellsOf (strs l))[j]? = some (.str s) := by rw [hcl]; simp [strs, hj]
        exact (List.getElem_eq_iff hjc).2 h1
      rw [this] at r
      generalize xf j = u at r
      cases r; rfl
    have hb : b < w.heap.size := by
      have h0 : 0 < l.length := List.length_pos_iff.2 hl0
      have := hcell 0 l[0] (by simp [h0])
      exact World.block_lt_of_cell? _ _ this
    have key := Any.strings_Join (P := Try.prog) (ρ := Try.layJoin_ren) Try.layJoin Try.bldExtra b off cap (l.map fun s => (⟨s.toArray⟩ : ByteArray)) ⟨#[32]⟩ w (fun j x hx => by
      rw [List.getElem?_map] at hx
      cases hj : l[j]? with
      | none => rw [hj] at hx; cases hx
      | some s => rw [hj] at hx; cases hx; exact hcell j s hj) hb (by simp; omega) (by simp; rw [hsl] at kcap; exact kcap) (by
      have : (l.map fun s => (⟨s.toArray⟩ : ByteArray)).map (·.data.toList) = l := by rw [List.map_map]; exact (List.map_congr_left (fun _ _ => rfl)).trans (List.map_id l)
      rw [this]
      show (Go.Lib.join l [32]).length ≤ _
      rw [spJ_join]; omega)
    have hm : (l.map fun s => (⟨s.toArray⟩ : ByteArray)).map (·.data.toList) = l := by rw [List.map_map]; exact (List.map_congr_left (fun _ _ => rfl)).trans (List.map_id l)
    rw [hm, List.length_map] at key
    rw [hsl]
    refine key.mono ?_
    rintro e w' ⟨rfl, B⟩
    obtain ⟨I', S⟩ := below_inv I B
    refine .inl ⟨_, rfl, _, _, _, hQ, I', ?_, S⟩
    show Rel _ _ _ _ _ (.string ⟨(Go.Lib.join l [32]).toArray⟩)
    rw [spJ_join]; exact .str _
set_option maxHeartbeats 1000000 in
set_option maxRecDepth 100000 in
/-- What String tells, and what becomes of the world. -/
theorem str_walk {P : Program} {ρ : Ren} (L : Lays.n169 P ρ) (X : Builder.Extra P ρ) (b r k cap : Nat) (l : List UInt8) (w : World) (c0 : w.cell? ⟨b, 1, none⟩ = some (.slice (some ⟨r, 0, none⟩) l.length cap)) (hsh : w.shape? r = some (ρ.t 5, k))
    (h0 : l ≠ []) (hcap : l.length ≤ cap) (hk : cap ≤ k) (h63 : l.length ≤ 2 ^ 40) (hcell : ∀ j x, l[j]? = some x → w.cell? ⟨r, j, none⟩ = some (.int .u8 x.toNat)) :
    Calls P (ρ.f 169) #[.pointer (some ⟨b, 0, none⟩)] w fun e w' => e = .returned (.string ⟨l.toArray⟩) ∧ w' = w.drew.freeze ⟨r, 0, none⟩ l.length := by
  have hl0 : l.length ≠ 0 := by simpa using h0
  have c1 : w.drew.cell? ⟨b, 1, none⟩ = some (.slice (some ⟨r, 0, none⟩) l.length cap) := c0
  have hSD : (Builtin.unsafeSliceData_ #[(ρ.t 37)] (ρ.t 127) #[.slice (some ⟨r, 0, none⟩) l.length cap]).run P w.drew = .ok (.pointer (some ⟨r, 0, none⟩)) w.drew :=
    Go.Lib.run_unsafeSliceData_row _ _ _ _ _ _ (by omega)
  have hUS : (Builtin.unsafeString_ #[(ρ.t 127), (ρ.t 3)] (ρ.t 9) #[.pointer (some ⟨r, 0, none⟩), .int .i64 l.length]).run P w.drew = .ok (.string ⟨l.toArray⟩) (w.drew.freeze ⟨r, 0, none⟩ l.length) := by
    refine Go.Lib.run_unsafeString_row w.drew (ρ.t 127) (ρ.t 3) (ρ.t 9) (ρ.t 5) L.t127 X.cellsByte r k hsh l h0 (by omega) (by omega) ?_
    intro j x hx
    rw [Addr.add_lit, Nat.zero_add]
    exact hcell j x hx
  clear hcell hsh hcap hk c0
  have mixed := L.mixed
  have t72 := L.t72; have a72 := L.a72; have z72 := L.z72; have v72 := L.v72; have u72 := run_underlying L.t72
  have t70 := L.t70; have a70 := L.a70; have z70 := L.z70; have v70 := L.v70; have u70 := run_underlying L.t70
  have t37 := L.t37; have a37 := L.a37; have z37 := L.z37; have v37 := L.v37; have u37 := run_underlying L.t37
  have t127 := L.t127; have a127 := L.a127; have z127 := L.z127; have v127 := L.v127; have u127 := run_underlying L.t127
  have t3 := L.t3; have a3 := L.a3; have z3 := L.z3; have v3 := L.v3; have u3 := run_underlying L.t3
  have t9 := L.t9; have a9 := L.a9; have z9 := L.z9; have v9 := L.v9; have u9 := run_underlying L.t9
  have t5 := X.t5; have a5 := X.a5; have z5 := X.z5; have v5 := X.v5; have u5 := run_underlying X.t5
  go_enter L.f169, Body.n169_ntmps ρ
  go_wp2
  go_region_o
  all_goals (go_wp2; go_ret; exact ⟨rfl, rfl⟩)
theorem freeze_ne (w : World) (b n k : Nat) (hk : k ≠ b) : (w.freeze ⟨b, 0, none⟩ n).heap[k]? = w.heap[k]? := by
  unfold World.freeze
  split
  · rfl
  · rw [Array.getElem?_modify, if_neg (fun e => hk e.symm)]
theorem freeze_at (w : World) (b n : Nat) {cs : Array Value} {t : TypeId} {fz : Nat × Nat} (hb : w.heap[b]? = some (.cells cs t fz)) : ∃ fz', (w.freeze ⟨b, 0, none⟩ n).heap[b]? = some (.cells cs t fz') := by
  unfold World.freeze
  split
  · exact ⟨fz, hb⟩
  · obtain ⟨lo, hi⟩ := fz
    refine ⟨_, by rw [Array.getElem?_modify, if_pos rfl, hb]; rfl⟩
theorem freeze_size (w : World) (b n : Nat) : (w.freeze ⟨b, 0, none⟩ n).heap.size = w.heap.size := by
  unfold World.freeze; split <;> simp
theorem freeze_str (w : World) (b n : Nat) : (w.freeze ⟨b, 0, none⟩ n).os = w.os ∧ (w.freeze ⟨b, 0, none⟩ n).tape = w.tape ∧ (w.freeze ⟨b, 0, none⟩ n).output = w.output := by
  unfold World.freeze; split <;> exact ⟨rfl, rfl, rfl⟩
/-- A row that is frozen is no longer grown. -/
theorem freeze_inv {X : Cx} {g : Gh} {w : World} {h : AH} (I : Inv X g w h) {st e : Nat} (ht : h.tips st = some e) (n : Nat) {cs : Array Value} {t : TypeId} {fz : Nat × Nat} (hb : w.heap[g.tip st]? = some (.cells cs t fz)) :
    Inv X g (w.freeze ⟨g.tip st, 0, none⟩ n) (h.drop st) ∧ Stp g w h g (w.freeze ⟨g.tip st, 0, none⟩ n) (h.drop st) := by
  generalize hw : w.freeze ⟨g.tip st, 0, none⟩ n = w'
  have hne : ∀ k, k ≠ g.tip st → w'.heap[k]? = w.heap[k]? := fun k hk => by rw [← hw]; exact freeze_ne _ _ _ _ hk
  obtain ⟨fz', hat⟩ := freeze_at w (g.tip st) n hb
  rw [hw] at hat
  have hsz : w'.heap.size = w.heap.size := by rw [← hw]; exact freeze_size _ _ _
  obtain ⟨s1, s2, s3⟩ := freeze_str w (g.tip st) n
  rw [hw] at s1 s2 s3
  have hdt : ∀ s e', (h.drop st).tips s = some e' → s ≠ st ∧ h.tips s = some e' := fun s e' he => by
    by_cases c : s = st
    · subst c
      have : (h.drop s).tips s = none := updN_same _ _ _
      rw [this] at he; cases he
    · have : (h.drop st).tips s = h.tips s := updN_ne _ _ c
      rw [this] at he; exact ⟨c, he⟩
  have hcell : ∀ k o, w'.cell? ⟨k, o, none⟩ = w.cell? ⟨k, o, none⟩ := fun k o => by
    by_cases c : k = g.tip st
    · subst c; simp [World.cell?, hat, hb]
    · exact World.cell?_of_block (hne k c)
  have S : Stp g w h g w' (h.drop st) :=
    { next := Nat.le_refl _
      nobj := Nat.le_refl _
      obj := fun _ _ => rfl
      mp := fun _ _ => rfl
      pub := fun _ => Nat.le_refl _
      cell := fun b o _ => hcell b o
      tip := fun s _ e' he => ⟨(hdt s e' he).2, rfl, rfl⟩
      row := fun s _ e' he off k r => by
        obtain ⟨q1, q2⟩ := hdt s e' he
        obtain ⟨c, t, hh, hl⟩ := r
        exact ⟨c, t, by rw [hne _ (fun q => q1 (I.tipI _ _ _ _ q2 ht q))]; exact hh, hl⟩
      shape := fun b s hs => by
        by_cases c : b = g.tip st
        · subst c
          unfold World.shape? at hs ⊢
          rw [hb] at hs
          rw [hat]; exact hs
        · exact shape_blk hs (hne b c) }
  refine ⟨?_, S⟩
  exact
    { below := I.below.trans ⟨s1, s2, s3, Nat.le_of_eq hsz.symm, fun k hk => hne k (by have := (I.tipB st e ht).2.2.1; omega)⟩
      next := I.next
      objs := fun o ho hm hne' => by
        obtain ⟨cs, t, h1, h2, h3, h4⟩ := I.objs o ho hm hne'
        exact ⟨cs, t, by rw [hne _ (I.tipO o st e ho ht)]; exact h1, h2, h3, fun i i1 i2 => (h4 i i1 i2).stp S⟩
      maps := fun o ho hm => (I.maps o ho hm).stp S rfl (fun _ _ q => by rw [hne _ (I.tipO o st e ho ht)]; exact q) rfl
      objL := fun ho => by rw [hsz]; exact I.objL ho
      objB := I.objB
      objI := I.objI
      tipB := fun s e' he => by
        obtain ⟨q1, q2⟩ := hdt s e' he
        obtain ⟨a, b, c, d⟩ := I.tipB s e' q2
        exact ⟨a, b, c, by rw [hsz]; exact d⟩
      tipI := fun s e' s' e'' h1 h2 => I.tipI s e' s' e'' (hdt s e' h1).2 (hdt s' e'' h2).2
      tipO := fun o s e' ho he => I.tipO o s e' ho (hdt s e' he).2
      pubB := fun b hb' => I.pubB b (by rw [← hsz]; exact hb') }
theorem bstr_ok (W : World) {Z : Value → AH → Prop} (o : Nat) (h : AH) (a : V) (st : Nat) (l : Str) (Q : V → AH → Prop) (ob : h.objs o = [a, .tys u8T (.sl 1 st (bytesV l))]) (hl0 : l ≠ []) (h3 : 3 ≤ st) (ht : h.tips st = some 1) (hl : l.length ≤ 2 ^ 40) (hQ : Q (.str l) (h.drop st)) :
    Ecx (cxZ W Z) K.strings_Builder_String [.tp o tbT 2] h Q := by
  intro g w cargs I rl
  obtain ⟨a0, rfl, r0⟩ := arg1 rl
  cases r0 with
  | tp _ _ _ hn hm hs =>
  obtain ⟨x, k1, k2, k3⟩ := I.cell hn hm (i := 1) (v := .tys u8T (.sl 1 st (bytesV l))) (by rw [ob]; rfl)
  refine .inl ⟨_, by decide, by exact Try.func22, by kernel_rfl, by kernel_rfl, ?_⟩
  have hcl : cellsOf (bytesV l) = bytesV l := by
    clear hl0 ht hl hQ k1 k2 k3 ob rl
    induction l with
    | nil => rfl
    | cons a l ih => simp only [bytesV, List.map_cons, cellsOf_cons, V.cells, List.singleton_append] at *; rw [ih]
  have hbl : (bytesV l).length = l.length := bytesV_len l
  cases k2 with
  | tys _ _ ad n c r0 ht0 =>
  generalize hv : bytesV l = Lb at r0
  cases r0 with
  | slnil => omega
  | slemp => omega
  | sl _ _ _ b off cap xf q1 ks kcap ke kc ko kp kr q2 q3 =>
  subst hv
  obtain ⟨rfl, k, hsh, hck⟩ := ht0 b off none rfl
  obtain ⟨_, hbt, hpub, cs, t, hh, hlc⟩ := q3 1 ht
  have hcell : ∀ j s, l[j]? = some s → w.cell? ⟨b, j, none⟩ = some (.int .u8 s.toNat) := fun j s hj => by
    obtain ⟨hj1, hj2⟩ := List.getElem?_eq_some_iff.1 hj
    have hjc : j < (cellsOf (bytesV l)).length := by rw [hcl, hbl]; exact hj1
    have e0 := kc j hjc
    rw [Nat.zero_add] at e0
    rw [e0]
    have r := kr j hjc
    have : (cellsOf (bytesV l))[j] = .int .u8 s.toNat := by
      have h1 : (cellsOf (bytesV l))[j]? = some (.int .u8 s.toNat) := by rw [hcl]; simp [bytesV, hj]
      exact (List.getElem_eq_iff hjc).2 h1
    rw [this] at r
    generalize xf j = u at r
    cases r; rfl
  rw [hbl] at k1 kcap
  subst hbt
  refine (str_walk (P := Try.prog) (ρ := Try.layJoin_ren) { Try.layJoin with } Try.bldExtra (g.obj o) (g.tip st) k _ l w k1 hsh hl0 kcap hck hl hcell).mono ?_
  rintro e w' ⟨rfl, rfl⟩
  obtain ⟨I', S⟩ := freeze_inv I.drew ht l.length (cs := cs) (t := t) (fz := (0, 0)) hh
  exact .inl ⟨_, rfl, _, _, _, hQ, I', .str l, (Stp.drew g w h).trans S⟩
end Go.Proofs.Ytdbbgkdepjidjaa.Al
namespace Go.Proofs.Ytdbbgkdepjidjaa.Al
open Go
theorem tie_strings_Builder_WriteString : compFn Try.prog yK Try.f19 = some A.strings_Builder_WriteString.strip := by kernel_rfl
theorem has_strings_Builder_WriteString (W0 : World) {Z : Value → AH → Prop} : Has (Ecx (cxZ W0 Z)) K.strings_Builder_WriteString A.strings_Builder_WriteString := fn_sound Try.checked.mixed rfl (by exact Try.func19) (by kernel_rfl) tie_strings_Builder_WriteString
theorem tie_strings_Builder_Len : compFn Try.prog yK Try.f21 = some A.strings_Builder_Len.strip := by kernel_rfl
theorem has_strings_Builder_Len (W0 : World) {Z : Value → AH → Prop} : Has (Ecx (cxZ W0 Z)) K.strings_Builder_Len A.strings_Builder_Len := fn_sound Try.checked.mixed rfl (by exact Try.func21) (by kernel_rfl) tie_strings_Builder_Len
theorem tie_slices_ContainsFunc_Rule : compFn Try.prog yK Try.f28 = some A.slices_ContainsFunc_Rule.strip := by kernel_rfl
theorem has_slices_ContainsFunc_Rule (W0 : World) {Z : Value → AH → Prop} : Has (Ecx (cxZ W0 Z)) K.slices_ContainsFunc_Rule A.slices_ContainsFunc_Rule := fn_sound Try.checked.mixed rfl (by exact Try.func28) (by kernel_rfl) tie_slices_ContainsFunc_Rule
theorem tie_slices_Equal_int : compFn Try.prog yK Try.f31 = some A.slices_Equal_int.strip := by kernel_rfl
theorem has_slices_Equal_int (W0 : World) {Z : Value → AH → Prop} : Has (Ecx (cxZ W0 Z)) K.slices_Equal_int A.slices_Equal_int := fn_sound Try.checked.mixed rfl (by exact Try.func31) (by kernel_rfl) tie_slices_Equal_int
theorem tie_slices_IndexFunc_Rule : compFn Try.prog yK Try.f51 = some A.slices_IndexFunc_Rule.strip := by kernel_rfl
theorem has_slices_IndexFunc_Rule (W0 : World) {Z : Value → AH → Prop} : Has (Ecx (cxZ W0 Z)) K.slices_IndexFunc_Rule A.slices_IndexFunc_Rule := fn_sound Try.checked.mixed rfl (by exact Try.func51) (by kernel_rfl) tie_slices_IndexFunc_Rule
theorem tie_slices_Contains_byte : compFn Try.prog yK Try.f53 = some A.slices_Contains_byte.strip := by kernel_rfl
theorem has_slices_Contains_byte (W0 : World) {Z : Value → AH → Prop} : Has (Ecx (cxZ W0 Z)) K.slices_Contains_byte A.slices_Contains_byte := fn_sound Try.checked.mixed rfl (by exact Try.func53) (by kernel_rfl) tie_slices_Contains_byte
theorem tie_slices_Index_byte : compFn Try.prog yK Try.f60 = some A.slices_Index_byte.strip := by kernel_rfl
theorem has_slices_Index_byte (W0 : World) {Z : Value → AH → Prop} : Has (Ecx (cxZ W0 Z)) K.slices_Index_byte A.slices_Index_byte := fn_sound Try.checked.mixed rfl (by exact Try.func60) (by kernel_rfl) tie_slices_Index_byte
theorem tie_strings_Cut : compFn Try.prog yK Try.f61 = some A.strings_Cut.strip := by kernel_rfl
theorem has_strings_Cut (W0 : World) {Z : Value → AH → Prop} : Has (Ecx (cxZ W0 Z)) K.strings_Cut A.strings_Cut := fn_sound Try.checked.mixed rfl (by exact Try.func61) (by kernel_rfl) tie_strings_Cut
theorem tie_strings_IndexByte : compFn Try.prog yK Try.f66 = some A.strings_IndexByte.strip := by kernel_rfl
theorem has_strings_IndexByte (W0 : World) {Z : Value → AH → Prop} : Has (Ecx (cxZ W0 Z)) K.strings_IndexByte A.strings_IndexByte := fn_sound Try.checked.mixed rfl (by exact Try.func66) (by kernel_rfl) tie_strings_IndexByte
theorem tie_stringslite_Cut : compFn Try.prog yK Try.f71 = some A.stringslite_Cut.strip := by kernel_rfl
theorem has_stringslite_Cut (W0 : World) {Z : Value → AH → Prop} : Has (Ecx (cxZ W0 Z)) K.stringslite_Cut A.stringslite_Cut := fn_sound Try.checked.mixed rfl (by exact Try.func71) (by kernel_rfl) tie_stringslite_Cut
theorem tie_stringslite_IndexByte : compFn Try.prog yK Try.f72 = some A.stringslite_IndexByte.strip := by kernel_rfl
theorem has_stringslite_IndexByte (W0 : World) {Z : Value → AH → Prop} : Has (Ecx (cxZ W0 Z)) K.stringslite_IndexByte A.stringslite_IndexByte := fn_sound Try.checked.mixed rfl (by exact Try.func72) (by kernel_rfl) tie_stringslite_IndexByte
theorem tie_stringslite_Index : compFn Try.prog yK Try.f78 = some A.stringslite_Index.strip := by kernel_rfl
theorem has_stringslite_Index (W0 : World) {Z : Value → AH → Prop} : Has (Ecx (cxZ W0 Z)) K.stringslite_Index A.stringslite_Index := fn_sound Try.checked.mixed rfl (by exact Try.func78) (by kernel_rfl) tie_stringslite_Index
end Go.Proofs.Ytdbbgkdepjidjaa.Al
namespace Go.Proofs.Ytdbbgkdepjidjaa.Al
open Go
theorem tie_scan_Scan : compFn Try.prog yK Try.f32 = some A.scan_Scan.strip := by kernel_rfl
theorem has_scan_Scan (W0 : World) {Z : Value → AH → Prop} : Has (Ecx (cxZ W0 Z)) K.scan_Scan A.scan_Scan := fn_sound Try.checked.mixed rfl (by exact Try.func32) (by kernel_rfl) tie_scan_Scan
theorem tie_scan_first : compFn Try.prog yK Try.f54 = some A.scan_first.strip := by kernel_rfl
theorem has_scan_first (W0 : World) {Z : Value → AH → Prop} : Has (Ecx (cxZ W0 Z)) K.scan_first A.scan_first := fn_sound Try.checked.mixed rfl (by exact Try.func54) (by kernel_rfl) tie_scan_first
theorem tie_scan_letter : compFn Try.prog yK Try.f62 = some A.scan_letter.strip := by kernel_rfl
theorem has_scan_letter (W0 : World) {Z : Value → AH → Prop} : Has (Ecx (cxZ W0 Z)) K.scan_letter A.scan_letter := fn_sound Try.checked.mixed rfl (by exact Try.func62) (by kernel_rfl) tie_scan_letter
theorem tie_scan_run : compFn Try.prog yK Try.f63 = some A.scan_run.strip := by kernel_rfl
theorem has_scan_run (W0 : World) {Z : Value → AH → Prop} : Has (Ecx (cxZ W0 Z)) K.scan_run A.scan_run := fn_sound Try.checked.mixed rfl (by exact Try.func63) (by kernel_rfl) tie_scan_run
theorem tie_scan_part : compFn Try.prog yK Try.f64 = some A.scan_part.strip := by kernel_rfl
theorem has_scan_part (W0 : World) {Z : Value → AH → Prop} : Has (Ecx (cxZ W0 Z)) K.scan_part A.scan_part := fn_sound Try.checked.mixed rfl (by exact Try.func64) (by kernel_rfl) tie_scan_part
theorem tie_scan_quoted : compFn Try.prog yK Try.f65 = some A.scan_quoted.strip := by kernel_rfl
theorem has_scan_quoted (W0 : World) {Z : Value → AH → Prop} : Has (Ecx (cxZ W0 Z)) K.scan_quoted A.scan_quoted := fn_sound Try.checked.mixed rfl (by exact Try.func65) (by kernel_rfl) tie_scan_quoted
end Go.Proofs.Ytdbbgkdepjidjaa.Al
namespace Go.Proofs.Ytdbbgkdepjidjaa.Al
open Go
theorem tie_o_rules_Right : compFn Try.prog ({ yK with om := fun n => ([1000098] : List Nat).contains n }) Try.f14 = some A.rules_Right_o.strip := by kernel_rfl
theorem has_o_rules_Right (W0 : World) {Z : Value → AH → Prop} : Has (Ecx (cxZ W0 Z)) K.rules_Right A.rules_Right_o := fn_sound (Y := ({ yK with om := fun n => ([1000098] : List Nat).contains n })) Try.checked.mixed rfl (by exact Try.func14) (by kernel_rfl) tie_o_rules_Right
end Go.Proofs.Ytdbbgkdepjidjaa.Al
namespace Go.Proofs.Ytdbbgkdepjidjaa.Al
open Go Go.RowKit
theorem ext_indexByte (W : World) {Z : Value → AH → Prop} (s : Str) (c : Int) (h : AH) (Q : V → AH → Prop) (hQ : Q (.int .i64 (idxB s c)) h) : Ecx (cxZ W Z) K.bytealg_IndexByteString [.str s, .int .u8 c] h Q :=
  indexByte_ext (X := cxZ W Z) (fn := Try.f79) (by exact Try.func79) (by kernel_rfl) (by kernel_rfl) (by kernel_rfl) (by kernel_rfl) s c hQ
theorem ls (W : World) {Z : Value → AH → Prop} : LS (cxZ W Z) := ⟨has_scan_letter W, has_scan_part W, has_scan_quoted W, has_scan_run W, has_scan_first W, has_scan_Scan W, has_strings_Cut W, has_strings_IndexByte W, has_stringslite_Cut W, has_stringslite_IndexByte W, has_stringslite_Index W, ext_indexByte W⟩
theorem lru (W : World) {Z : Value → AH → Prop} : LRu (cxZ W Z) := ⟨ls W, has_rules_token W, has_rules_Tree_fine W, has_rules_Tree_fine_1 W, has_rules_Right W, has_rules_Right_1 W, has_slices_ContainsFunc_Rule W, has_slices_IndexFunc_Rule W, has_slices_Contains_byte W, has_slices_Index_byte W, has_slices_Equal_int W⟩
theorem arg_node {u : V} (a : Arg Try.prog 51 u) : ∃ x : Nd, u = ndV x ∧ (x.name.length ≤ maxLen ∧ x.kids.length ≤ maxLen) := by
  obtain ⟨l, rfl, t⟩ := arg_struct Try.underlying51 a
  obtain ⟨a0, r, rfl, y0, t⟩ := tys_cons t
  obtain ⟨a1, r, rfl, y1, t⟩ := tys_cons t
  obtain ⟨a2, r, rfl, y2, t⟩ := tys_cons t
  obtain rfl := tys_nil t
  obtain ⟨n, rfl, _, _⟩ := ty_i64 (by kernel_rfl) y0
  obtain ⟨s, rfl, hs⟩ := ty_str (by kernel_rfl) y1
  obtain ⟨m, rfl, hm, hl⟩ := ty_sl (e := 3) (by kernel_rfl) y2
  obtain ⟨l, rfl, _⟩ := list_form (f := .int .i64) (p := fun _ => True) (fun v hv => by obtain ⟨n, e, _, h2⟩ := arg_i64 Try.underlying3 hv; exact ⟨n, e, trivial⟩) m hl
  rw [show Try.prog.cellsOf 3 = 1 by kernel_rfl]
  exact ⟨⟨n, s, l⟩, rfl, hs, by simpa using hm⟩
theorem arg_rule {u : V} (a : Arg Try.prog 43 u) : ∃ x : Rl, u = rlV x ∧ x.name.length ≤ maxLen := by
  obtain ⟨l, rfl, t⟩ := arg_struct Try.underlying43 a
  obtain ⟨a0, r, rfl, y0, t⟩ := tys_cons t
  obtain ⟨a1, r, rfl, y1, t⟩ := tys_cons t
  obtain rfl := tys_nil t
  obtain ⟨s, rfl, hs⟩ := ty_str (by kernel_rfl) y0
  obtain ⟨n, rfl, _, _⟩ := ty_i64 (by kernel_rfl) y1
  exact ⟨⟨s, n⟩, rfl, hs⟩
theorem arg_tree {u : V} (a : Arg Try.prog 25 u) : ∃ t : Te, u = teV t ∧ TeOk t := by
  obtain ⟨l, rfl, t⟩ := arg_struct Try.underlying25 a
  obtain ⟨a0, r, rfl, y0, t⟩ := tys_cons t
  obtain ⟨a1, r, rfl, y1, t⟩ := tys_cons t
  obtain rfl := tys_nil t
  obtain ⟨m, rfl, hm, hl⟩ := ty_sl (e := 43) (by kernel_rfl) y0
  obtain ⟨rs, rfl, hr⟩ := list_form (f := rlV) (fun v hv => arg_rule hv) m hl
  obtain ⟨m2, rfl, hm2, hl2⟩ := ty_sl (e := 51) (by kernel_rfl) y1
  obtain ⟨ns, rfl, hn⟩ := list_form (f := ndV) (fun v hv => arg_node hv) m2 hl2
  rw [show Try.prog.cellsOf 43 = 2 by kernel_rfl, show Try.prog.cellsOf 51 = 3 by kernel_rfl]
  exact ⟨⟨rs, ns⟩, rfl, ⟨by simpa using hm, by simpa using hm2, hr, fun n h => (hn n h).1, fun n h => (hn n h).2⟩⟩
end Go.Proofs.Ytdbbgkdepjidjaa.Al
namespace Go.Proofs.Ytdbbgkdepjidjaa.Al
open Go
theorem tie_probateref05_Scan : compFn Try.prog yK Try.f23 = some A.probateref05_Scan.strip := by kernel_rfl
theorem has_probateref05_Scan (W0 : World) {Z : Value → AH → Prop} : Has (Ecx (cxZ W0 Z)) K.probateref05_Scan A.probateref05_Scan := fn_sound Try.checked.mixed rfl (by exact Try.func23) (by kernel_rfl) tie_probateref05_Scan
theorem tie_probateref05_letter : compFn Try.prog yK Try.f46 = some A.probateref05_letter.strip := by kernel_rfl
theorem has_probateref05_letter (W0 : World) {Z : Value → AH → Prop} : Has (Ecx (cxZ W0 Z)) K.probateref05_letter A.probateref05_letter := fn_sound Try.checked.mixed rfl (by exact Try.func46) (by kernel_rfl) tie_probateref05_letter
theorem tie_probateref05_part : compFn Try.prog yK Try.f47 = some A.probateref05_part.strip := by kernel_rfl
theorem has_probateref05_part (W0 : World) {Z : Value → AH → Prop} : Has (Ecx (cxZ W0 Z)) K.probateref05_part A.probateref05_part := fn_sound Try.checked.mixed rfl (by exact Try.func47) (by kernel_rfl) tie_probateref05_part
end Go.Proofs.Ytdbbgkdepjidjaa.Al
namespace Go.Proofs.Ytdbbgkdepjidjaa.Al
open Go
theorem tie_probatelaw06_Large : compFn Try.prog yK Try.f7 = some A.probatelaw06_Large.strip := by kernel_rfl
theorem has_probatelaw06_Large (W0 : World) {Z : Value → AH → Prop} : Has (Ecx (cxZ W0 Z)) K.probatelaw06_Large A.probatelaw06_Large := fn_sound Try.checked.mixed rfl (by exact Try.func7) (by kernel_rfl) tie_probatelaw06_Large
theorem tie_probatelaw06_Own : compFn Try.prog yK Try.f10 = some A.probatelaw06_Own.strip := by kernel_rfl
theorem has_probatelaw06_Own (W0 : World) {Z : Value → AH → Prop} : Has (Ecx (cxZ W0 Z)) K.probatelaw06_Own A.probatelaw06_Own := fn_sound Try.checked.mixed rfl (by exact Try.func10) (by kernel_rfl) tie_probatelaw06_Own
theorem tie_probateref06_Right : compFn Try.prog yK Try.f12 = some A.probateref06_Right.strip := by kernel_rfl
theorem has_probateref06_Right (W0 : World) {Z : Value → AH → Prop} : Has (Ecx (cxZ W0 Z)) K.probateref06_Right A.probateref06_Right := fn_sound Try.checked.mixed rfl (by exact Try.func12) (by kernel_rfl) tie_probateref06_Right
theorem tie_probateref06_under : compFn Try.prog yK Try.f24 = some A.probateref06_under.strip := by kernel_rfl
theorem has_probateref06_under (W0 : World) {Z : Value → AH → Prop} : Has (Ecx (cxZ W0 Z)) K.probateref06_under A.probateref06_under := fn_sound Try.checked.mixed rfl (by exact Try.func24) (by kernel_rfl) tie_probateref06_under
theorem tie_probateref06_Tree_fine : compFn Try.prog yK Try.f25 = some A.probateref06_Tree_fine.strip := by kernel_rfl
theorem has_probateref06_Tree_fine (W0 : World) {Z : Value → AH → Prop} : Has (Ecx (cxZ W0 Z)) K.probateref06_Tree_fine A.probateref06_Tree_fine := fn_sound Try.checked.mixed rfl (by exact Try.func25) (by kernel_rfl) tie_probateref06_Tree_fine
theorem tie_probateref06_Tree_rule : compFn Try.prog yK Try.f48 = some A.probateref06_Tree_rule.strip := by kernel_rfl
theorem has_probateref06_Tree_rule (W0 : World) {Z : Value → AH → Prop} : Has (Ecx (cxZ W0 Z)) K.probateref06_Tree_rule A.probateref06_Tree_rule := fn_sound Try.checked.mixed rfl (by exact Try.func48) (by kernel_rfl) tie_probateref06_Tree_rule
theorem tie_probateref06_quote : compFn Try.prog yK Try.f49 = some A.probateref06_quote.strip := by kernel_rfl
theorem has_probateref06_quote (W0 : World) {Z : Value → AH → Prop} : Has (Ecx (cxZ W0 Z)) K.probateref06_quote A.probateref06_quote := fn_sound Try.checked.mixed rfl (by exact Try.func49) (by kernel_rfl) tie_probateref06_quote
end Go.Proofs.Ytdbbgkdepjidjaa.Al
namespace Go.Proofs.Ytdbbgkdepjidjaa.Al
open Go
theorem tie_probatelaw07_ShowTells : compFn Try.prog yK Try.f3 = some A.probatelaw07_ShowTells.strip := by kernel_rfl
theorem has_probatelaw07_ShowTells (W0 : World) {Z : Value → AH → Prop} : Has (Ecx (cxZ W0 Z)) K.probatelaw07_ShowTells A.probatelaw07_ShowTells := fn_sound Try.checked.mixed rfl (by exact Try.func3) (by kernel_rfl) tie_probatelaw07_ShowTells
theorem tie_probatelaw07_awake : compFn Try.prog yK Try.f6 = some A.probatelaw07_awake.strip := by kernel_rfl
theorem has_probatelaw07_awake (W0 : World) {Z : Value → AH → Prop} : Has (Ecx (cxZ W0 Z)) K.probatelaw07_awake A.probatelaw07_awake := fn_sound Try.checked.mixed rfl (by exact Try.func6) (by kernel_rfl) tie_probatelaw07_awake
theorem tie_probateref07_Text : compFn Try.prog yK Try.f9 = some A.probateref07_Text.strip := by kernel_rfl
theorem has_probateref07_Text (W0 : World) {Z : Value → AH → Prop} : Has (Ecx (cxZ W0 Z)) K.probateref07_Text A.probateref07_Text := fn_sound Try.checked.mixed rfl (by exact Try.func9) (by kernel_rfl) tie_probateref07_Text
theorem tie_probateref07_Node : compFn Try.prog yK Try.f13 = some A.probateref07_Node.strip := by kernel_rfl
theorem has_probateref07_Node (W0 : World) {Z : Value → AH → Prop} : Has (Ecx (cxZ W0 Z)) K.probateref07_Node A.probateref07_Node := fn_sound Try.checked.mixed rfl (by exact Try.func13) (by kernel_rfl) tie_probateref07_Node
theorem tie_probateref07_item : compFn Try.prog yK Try.f26 = some A.probateref07_item.strip := by kernel_rfl
theorem has_probateref07_item (W0 : World) {Z : Value → AH → Prop} : Has (Ecx (cxZ W0 Z)) K.probateref07_item A.probateref07_item := fn_sound Try.checked.mixed rfl (by exact Try.func26) (by kernel_rfl) tie_probateref07_item
theorem tie_probateref07_brackets : compFn Try.prog yK Try.f50 = some A.probateref07_brackets.strip := by kernel_rfl
theorem has_probateref07_brackets (W0 : World) {Z : Value → AH → Prop} : Has (Ecx (cxZ W0 Z)) K.probateref07_brackets A.probateref07_brackets := fn_sound Try.checked.mixed rfl (by exact Try.func50) (by kernel_rfl) tie_probateref07_brackets
end Go.Proofs.Ytdbbgkdepjidjaa.Al
namespace Go.Proofs.Ytdbbgkdepjidjaa.Al
open Go
theorem tie_show_Text : compFn Try.prog yK Try.f8 = some A.show_Text.strip := by kernel_rfl
theorem has_show_Text (W0 : World) {Z : Value → AH → Prop} : Has (Ecx (cxZ W0 Z)) K.show_Text A.show_Text := fn_sound Try.checked.mixed rfl (by exact Try.func8) (by kernel_rfl) tie_show_Text
theorem tie_show_Tokens : compFn Try.prog yK Try.f11 = some A.show_Tokens.strip := by kernel_rfl
theorem has_show_Tokens (W0 : World) {Z : Value → AH → Prop} : Has (Ecx (cxZ W0 Z)) K.show_Tokens A.show_Tokens := fn_sound Try.checked.mixed rfl (by exact Try.func11) (by kernel_rfl) tie_show_Tokens
theorem tie_show_writer_put : compFn Try.prog yK Try.f17 = some A.show_writer_put.strip := by kernel_rfl
theorem has_show_writer_put (W0 : World) {Z : Value → AH → Prop} : Has (Ecx (cxZ W0 Z)) K.show_writer_put A.show_writer_put := fn_sound Try.checked.mixed rfl (by exact Try.func17) (by kernel_rfl) tie_show_writer_put
theorem tie_show_writer_node : compFn Try.prog yK Try.f18 = some A.show_writer_node.strip := by kernel_rfl
theorem has_show_writer_node (W0 : World) {Z : Value → AH → Prop} : Has (Ecx (cxZ W0 Z)) K.show_writer_node A.show_writer_node := fn_sound Try.checked.mixed rfl (by exact Try.func18) (by kernel_rfl) tie_show_writer_node
theorem tie_show_each : compFn Try.prog yK Try.f38 = some A.show_each.strip := by kernel_rfl
theorem has_show_each (W0 : World) {Z : Value → AH → Prop} : Has (Ecx (cxZ W0 Z)) K.show_each A.show_each := fn_sound Try.checked.mixed rfl (by exact Try.func38) (by kernel_rfl) tie_show_each
theorem tie_show_writer_item : compFn Try.prog yK Try.f39 = some A.show_writer_item.strip := by kernel_rfl
theorem has_show_writer_item (W0 : World) {Z : Value → AH → Prop} : Has (Ecx (cxZ W0 Z)) K.show_writer_item A.show_writer_item := fn_sound Try.checked.mixed rfl (by exact Try.func39) (by kernel_rfl) tie_show_writer_item
theorem tie_show_writer_alternative : compFn Try.prog yK Try.f40 = some A.show_writer_alternative.strip := by kernel_rfl
theorem has_show_writer_alternative (W0 : World) {Z : Value → AH → Prop} : Has (Ecx (cxZ W0 Z)) K.show_writer_alternative A.show_writer_alternative := fn_sound Try.checked.mixed rfl (by exact Try.func40) (by kernel_rfl) tie_show_writer_alternative
theorem tie_show_writer_node_1 : compFn Try.prog yK Try.f41 = some A.show_writer_node_1.strip := by kernel_rfl
theorem has_show_writer_node_1 (W0 : World) {Z : Value → AH → Prop} : Has (Ecx (cxZ W0 Z)) K.show_writer_node_1 A.show_writer_node_1 := fn_sound Try.checked.mixed rfl (by exact Try.func41) (by kernel_rfl) tie_show_writer_node_1
theorem tie_show_repeated : compFn Try.prog yK Try.f42 = some A.show_repeated.strip := by kernel_rfl
theorem has_show_repeated (W0 : World) {Z : Value → AH → Prop} : Has (Ecx (cxZ W0 Z)) K.show_repeated A.show_repeated := fn_sound Try.checked.mixed rfl (by exact Try.func42) (by kernel_rfl) tie_show_repeated
theorem tie_show_writer_atom : compFn Try.prog yK Try.f43 = some A.show_writer_atom.strip := by kernel_rfl
theorem has_show_writer_atom (W0 : World) {Z : Value → AH → Prop} : Has (Ecx (cxZ W0 Z)) K.show_writer_atom A.show_writer_atom := fn_sound Try.checked.mixed rfl (by exact Try.func43) (by kernel_rfl) tie_show_writer_atom
theorem tie_show_writer_bracketed : compFn Try.prog yK Try.f57 = some A.show_writer_bracketed.strip := by kernel_rfl
theorem has_show_writer_bracketed (W0 : World) {Z : Value → AH → Prop} : Has (Ecx (cxZ W0 Z)) K.show_writer_bracketed A.show_writer_bracketed := fn_sound Try.checked.mixed rfl (by exact Try.func57) (by kernel_rfl) tie_show_writer_bracketed
end Go.Proofs.Ytdbbgkdepjidjaa.Al
namespace Go.Proofs.Ytdbbgkdepjidjaa.Al
open Go Go.RowKit
set_option linter.unusedVariables false
theorem lwr (W : World) : LWr (cxOf W) := ⟨has_show_writer_put W, has_show_repeated W, has_show_writer_bracketed W, has_show_writer_atom W, has_show_writer_item W, has_show_each W, has_show_writer_alternative W, has_show_writer_node W, has_show_writer_node_1 W⟩
theorem lwrR (W : World) : LWrR (cxOf W) := ⟨has_probateref07_brackets W, has_probateref07_item W, has_probateref07_Node W⟩
theorem lr6s (W : World) : LR6 (cxOf W) := ⟨⟨has_probateref05_letter W, has_probateref05_part W, has_probateref05_Scan W⟩, has_probateref06_under W, has_probateref06_Right W, has_probateref06_Tree_fine W, has_probateref06_Tree_rule W, has_probateref06_quote W⟩
theorem l07 (W : World) : L07 (cxOf W) := ⟨lwr W, lwrR W, lru W, has_o_rules_Right W, lr6s W, has_show_Tokens W, has_show_Text W, has_probateref07_Text W, has_strings_Builder_WriteString W, has_strings_Builder_Len W, join_ok W, copy_ok W, bstr_ok W⟩
theorem l07L (W : World) : L07L (cxOf W) := ⟨l07 W, has_probatelaw06_Large W, has_probatelaw06_Own W, has_probatelaw07_awake W⟩
theorem law_ShowTells (W : World) {u0 u1 : V} (a0 : Arg Try.prog 25 u0) (a1 : Arg Try.prog 3 u1) : Ecx (cxOf W) K.probatelaw07_ShowTells [u0, u1] iniH fun r _ => r = .bool true := by
  obtain ⟨t, rfl, ht⟩ := arg_tree a0
  obtain ⟨i, rfl, hi⟩ := arg_int Try.underlying3 a1
  exact show_tells (l07L W) (has_probatelaw07_ShowTells W) t ht i rfl
end Go.Proofs.Ytdbbgkdepjidjaa.Al
