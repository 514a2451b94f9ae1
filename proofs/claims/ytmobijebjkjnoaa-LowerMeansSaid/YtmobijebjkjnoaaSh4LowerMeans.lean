/-
  What the law LowerMeans needs of this claim's texts (part 4). Conditions: each theorem's own.
-/
import Derived.Test.YtmobijebjkjnoaaAlA
import Derived.Test.YtmobijebjkjnoaaAlB
import Derived.Test.YtmobijebjkjnoaaAlC
import Derived.Test.YtmobijebjkjnoaaAlKeys
import Derived.Test.YtmobijebjkjnoaaSh1LowerMeans
import Derived.Test.YtmobijebjkjnoaaSh2LowerMeans
import Derived.Test.YtmobijebjkjnoaaSh3LowerMeans
namespace Go.Proofs.Ytmobijebjkjnoaa.Al
open Go Go.RowKit
set_option linter.unusedSimpArgs false
set_option linter.unusedVariables false
attribute [-simp] List.getD_eq_getElem?_getD Int.not_lt Int.not_le List.map_take List.map_map
abbrev Tb := Nat → Nat → Nat → Bool
/-- A rule's body, by its name. -/
def bodyN (t : Te) (s : Str) : Nat := (t.rules.getD (plc s (rnames t) 0).toNat ⟨[], 0⟩).body.toNat
/-- What a node means from a place, by what all mean so far. -/
noncomputable def mF (t : Te) (terms : List Str) (w : List Int) (M : Tb) (x : Nd) (a : Nat) : Nat → Bool :=
  if x.kind = 7 then tokM w (plc x.name terms 0) a
  else if x.kind = 6 then M (bodyN t x.name) a
  else if x.kind = 1 then foldR (x.kids.map fun k => M k.toNat) fun b => decide (b = a)
  else if x.kind = 3 then starB w.length (M (x.kids.headD 0).toNat) a
  else if x.kind = 4 then foldR [M (x.kids.headD 0).toNat, starB w.length (M (x.kids.headD 0).toNat)] fun b => decide (b = a)
  else fun b => (decide (x.kind = 5) && decide (b = a)) || x.kids.any fun k => M k.toNat a b
structure LMn (X : Cx) : Prop where
  none : Has (Ecx X) K.probateref08_none A.probateref08_none_o
  token : Has (Ecx X) K.probateref08_token A.probateref08_token
  row : Has (Ecx X) K.probateref08_row A.probateref08_row_o
  star : Has (Ecx X) K.probateref08_star A.probateref08_star_o
  stars : Has (Ecx X) K.probateref08_stars A.probateref08_stars
  place : Has (Ecx X) K.probateref08_place A.probateref08_place
  rule : Has (Ecx X) K.probateref08_rule A.probateref08_rule
  means : Has (Ecx X) K.probateref08_means A.probateref08_means_o
  Means : Has (Ecx X) K.probateref08_Means A.probateref08_Means
section
variable {X : Cx} {h : AH} {Q : V → AH → Prop}
/-- The kids' tables. -/
theorem meansL0 {L N b0 : Nat} {x : Nd} {w : V} {v3 : V} {a : Int} (ks : List Int) (hkl : ks.length ≤ 2 ^ 10) (hin : ∀ k ∈ ks, 0 ≤ k ∧ k < N) {o6 o13 : Nat} (hx : x.kids = ks) {h0 : AH} {h' : AH} (gr : Gr h0 h') (ob : h'.objs o13 = ndC x) {Q : Ex → Env → AH → Prop} {zQ : Lz Q} {z : Lz (AC.loop A.probateref08_means_o.L0)}
    (hQ : ∀ h2 e st, Gr h0 h2 → h2.objs = h'.objs → h2.nobj = h'.nobj → (ks = [] ∨ e = 1) → Q (.exit 0) [(2, w), (3, v3), (4, matV L N b0), (5, .int .i64 a), (6, .ptr o6 0), (13, .ptr o13 0), (14, .sl e st ((ks.map fun k => b0 + k.toNat * (L + 1)).map (refV L))), (15, .int .i64 ks.length), (30, .bool false)] h2) :
    acZ (Ecx X) [(2, w), (3, v3), (4, matV L N b0), (5, .int .i64 a), (6, .ptr o6 0), (13, .ptr o13 0), (14, .sl 1 2 []), (15, .int .i64 0)] h' z zQ := by
  have hil : (ints ks).length = ks.length := by simp [ints]
  have hxc : ndC x = [.int .i64 x.kind, .str x.name, .sl 1 0 (ints ks)] := by rw [← hx]; rfl
  refine loopI (n := ks.length) (fun mm env h2 => ∃ k e st, k ≤ ks.length ∧ mm = ks.length - k ∧ Own h0 h2 1 e st (((ks.take k).map fun k => b0 + k.toNat * (L + 1)).map (refV L)) ∧ h2.objs = h'.objs ∧ h2.nobj = h'.nobj ∧
      env = [(2, w), (3, v3), (4, matV L N b0), (5, .int .i64 a), (6, .ptr o6 0), (13, .ptr o13 0), (14, .sl e st (((ks.take k).map fun k => b0 + k.toNat * (L + 1)).map (refV L))), (15, .int .i64 k)]) ?_
    ⟨0, 1, 2, by omega, by omega, Own.full gr 1 [], rfl, rfl, rfl⟩
  rintro mm env h2 ⟨k, e, st, hk, rfl, ow, ob2, nb2, rfl⟩
  unfold A.probateref08_means_o.L0
  have q : h2.objs o13 = [.int .i64 x.kind, .str x.name, .sl 1 0 (ints ks)] := by rw [ob2, ob]; exact hxc
  by_cases hlt : k < ks.length
  · have hlt' : (k : Int) < ks.length := by omega
    have hgk := ints_get hlt
    have hw1 : IntKind.i64.wrap ((k : Int) + 1) = ((k + 1 : Nat) : Int) := by rw [wrap_i64 (by omega) (by omega)]; rfl
    have hink := hin _ (List.getElem_mem hlt)
    have hts : ((ks.take (k + 1)).map fun k => b0 + k.toNat * (L + 1)).map (refV L) = (((ks.take k).map fun k => b0 + k.toNat * (L + 1)).map (refV L)) ++ [refV L (b0 + ks[k].toNat * (L + 1))] := by
      rw [List.take_succ_eq_append_getElem hlt, List.map_append, List.map_append]; rfl
    obtain ⟨m, hm⟩ : ∃ m : Nat, ks[k] = (m : Int) := ⟨ks[k].toNat, by omega⟩
    rw [hm] at hgk hink
    rw [hm, Int.toNat_natCast] at hts
    have hmN : m < N := by omega
    have hmN' : (m : Int) < N := by omega
    have hmg : ((List.range N).map fun n => refV L (b0 + n * (L + 1))).getD m .undef = .sl 1 0 ((List.range (L + 1)).map fun a => .osl 1 (b0 + m * (L + 1) + a) 0 (L + 1) (L + 1)) := matV_get hmN
    simp [q, hil, hlt', hgk, V.cells, matV, hmN', hmg, fillL, V.isAgg]
    refine ow.appZ (fun _ => rfl) (by simp; omega) fun e2 st2 h3 o3 ob3 no3 => ?_
    rw [show V.sl 1 0 ((List.range (L + 1)).map fun a => V.osl 1 (b0 + m * (L + 1) + a) 0 (L + 1) (L + 1)) = refV L (b0 + m * (L + 1)) from rfl, ← hts] at o3 ⊢
    simp [hw1]
    exact ⟨ks.length - (k + 1), by omega, iv ⟨k + 1, e2, st2, by omega, rfl, o3, by rw [ob3, ob2], by rw [no3, nb2], rfl⟩⟩
  · have hlt' : ¬ (k : Int) < ks.length := by omega
    obtain rfl : k = ks.length := by omega
    rw [List.take_length] at ow ⊢
    simp [q, hil, hlt']
    exact hQ h2 e st ow.gr ob2 nb2 (by
      rcases ow.el with q | q
      · left; simpa using q
      · exact .inr q)
/-- One kid's part is added. -/
theorem meansL2 {L a k o17 : Nat} {e14 st14 : Nat} {bs : List Nat} {v13 : V} (hL : L ≤ 2 ^ 10) (ha : a ≤ L) (hk : k < bs.length) (he : e14 = 1) {c : Nat → Bool} {f : Nat → Bool} {h' : AH} (rc : h'.objs (bs[k] + a) = boolsV c (L + 1)) (ob : h'.objs o17 = boolsV f (L + 1)) (hno : ¬ bs[k] + a = o17) {Q : Ex → Env → AH → Prop} {zQ : Lz Q} {z : Lz (AC.loop A.probateref08_means_o.L2)}
    (hQ : Q (.exit 5) [(5, .int .i64 a), (13, v13), (14, .sl e14 st14 (bs.map (refV L))), (16, .int .i64 L), (17, .osl 1 o17 0 (L + 1) (L + 1)), (18, .int .i64 k), (19, .int .i64 ((L + 1 : Nat) : Int)), (107, .bool false)] (h'.set o17 (boolsV (fun b => f b || c b) (L + 1)))) :
    acZ (Ecx X) [(5, .int .i64 a), (13, v13), (14, .sl e14 st14 (bs.map (refV L))), (16, .int .i64 L), (17, .osl 1 o17 0 (L + 1) (L + 1)), (18, .int .i64 k), (19, .int .i64 0)] h' z zQ := by
  subst he
  have hal : (a : Int) < (L : Int) + 1 := by omega
  have hkl : (k : Int) < bs.length := by omega
  refine loopI (n := L + 1) (fun mm env h2 => ∃ b, b ≤ L + 1 ∧ mm = L + 1 - b ∧ h2 = h'.set o17 (boolsV (fun b' => f b' || (decide (b' < b) && c b')) (L + 1)) ∧
      env = [(5, .int .i64 a), (13, v13), (14, .sl 1 st14 (bs.map (refV L))), (16, .int .i64 L), (17, .osl 1 o17 0 (L + 1) (L + 1)), (18, .int .i64 k), (19, .int .i64 b)]) ?_
    ⟨0, by omega, by omega, by
      have : boolsV (fun b' => f b' || (decide (b' < 0) && c b')) (L + 1) = boolsV f (L + 1) := boolsV_congr fun b' _ => by simp
      rw [this, ← ob, set_self rfl], rfl⟩
  rintro mm env h2 ⟨b, hb, rfl, rfl, rfl⟩
  unfold A.probateref08_means_o.L2
  have q0 : (h'.set o17 (boolsV (fun b' => f b' || (decide (b' < b) && c b')) (L + 1))).objs o17 = boolsV (fun b' => f b' || (decide (b' < b) && c b')) (L + 1) := by simp
  have q1 : (h'.set o17 (boolsV (fun b' => f b' || (decide (b' < b) && c b')) (L + 1))).objs (bs[k] + a) = boolsV c (L + 1) := by rw [set_objs_ne _ _ _ hno]; exact rc
  have hss : ∀ y, (h'.set o17 (boolsV (fun b' => f b' || (decide (b' < b) && c b')) (L + 1))).set o17 y = h'.set o17 y := fun y => by simp
  generalize hh : h'.set o17 (boolsV (fun b' => f b' || (decide (b' < b) && c b')) (L + 1)) = h2 at *
  by_cases hle : b ≤ L
  · have hle' : (b : Int) ≤ L := by omega
    have hbl : b < L + 1 := by omega
    have hbl2 : (b : Int) < (L : Int) + 1 := by omega
    have hw1 : IntKind.i64.wrap ((b : Int) + 1) = ((b + 1 : Nat) : Int) := by rw [wrap_i64 (by omega) (by omega)]; rfl
    have g0 : (boolsV (fun b' => f b' || (decide (b' < b) && c b')) (L + 1)).getD b .undef = .bool (f b) := by rw [boolsV_get hbl]; simp
    have g1 : (boolsV c (L + 1)).getD b .undef = .bool (c b) := boolsV_get hbl
    have hgk : (bs.map (refV L)).getD k .undef = refV L bs[k] := by simp [List.getD_eq_getElem?_getD, hk]
    have hgr : ((List.range (L + 1)).map fun a => V.osl 1 (bs[k] + a) 0 (L + 1) (L + 1)).getD a .undef = .osl 1 (bs[k] + a) 0 (L + 1) (L + 1) := refV_get ha
    have hset := fun y => boolsV_set (fun b' => f b' || (decide (b' < b) && c b')) hbl y
    cases hfb : f b with
    | true =>
      rw [hfb] at g0
      simp [hle', hbl, hbl2, q0, g0, V.cells, V.good, setAt, hset, hw1, hss]
      refine ⟨hle, ?_⟩
      exact ⟨L + 1 - (b + 1), by omega, iv ⟨b + 1, by omega, rfl, by
        congr 1; exact boolsV_congr fun b' _ => by rw [ltS]; by_cases e : b' = b <;> simp [e, hfb], rfl⟩⟩
    | false =>
      rw [hfb] at g0
      simp [hle', hbl, hbl2, q0, g0, V.cells, V.good, setAt, hkl, hgk, refV, hal, hgr, q1, g1, hset, hw1, hss]
      refine ⟨hle, ?_⟩
      exact ⟨L + 1 - (b + 1), by omega, iv ⟨b + 1, by omega, rfl, by
        congr 1; exact boolsV_congr fun b' _ => by rw [ltS]; by_cases e : b' = b <;> simp [e, hfb], rfl⟩⟩
  · obtain rfl : b = L + 1 := by omega
    have hx : ¬ ((L : Int) + 1 ≤ L) := by omega
    simp [hx]
    have e : boolsV (fun b' => f b' || (decide (b' < L + 1) && c b')) (L + 1) = boolsV (fun b => f b || c b) (L + 1) := boolsV_congr fun b' hb' => by simp [hb']
    rw [← hh, e]
    simpa using hQ
theorem means_spec (L8 : LMn X) (t : Te) (rt : RTe t) (terms : List Str) (htl : terms.length ≤ 2 ^ 20) (w : List Int) (hL : w.length ≤ 2 ^ 10) {b0 : Nat} {M : Tb} (hb0 : b0 + t.nodes.length * (w.length + 1) ≤ h.nobj) (hM : ∀ n, n < t.nodes.length → RefAt h w.length (b0 + n * (w.length + 1)) (M n))
    {n a : Nat} (hn : n < t.nodes.length) (ha : a ≤ w.length) {e2 s2 e3 s3 : Nat} (he2 : w = [] ∨ e2 = 1) (he3 : strs terms = [] ∨ e3 = 1)
    (hQ : ∀ h' o, Gr h h' → o < h'.nobj → h'.objs o = boolsV (mF t terms w M t.nodes[n] a) (w.length + 1) → (h.nobj ≤ o ∨ (t.nodes[n].kind = 6 ∧ o = b0 + bodyN t t.nodes[n].name * (w.length + 1) + a ∧ bodyN t t.nodes[n].name < t.nodes.length)) → Q (.osl 1 o 0 (w.length + 1) (w.length + 1)) h') :
    Ecx X K.probateref08_means [teV t, .int .i64 n, .sl e2 s2 (ints w), .sl e3 s3 (strs terms), matV w.length t.nodes.length b0, .int .i64 a] h Q := by
  refine fn_any L8.means (by simp [A.probateref08_means_o]) fun wf => ?_
  have htc : teC t = [.sl 2 0 (t.rules.map rlV), .sl 3 0 (t.nodes.map ndV)] := rfl
  have hg : (t.nodes.map ndV).getD n .undef = ndV t.nodes[n] := Enc.getD hn
  have hnn : (n : Int) < t.nodes.length := by omega
  have hfk := fineT_kind (rt.fine _ (List.getElem_mem hn))
  have hin := rt.in hn
  have hkl := rt.kids_len hn
  have hiw : (ints w).length = w.length := by simp [ints]
  have hwL : IntKind.i64.wrap ((w.length : Int) + 1) = ((w.length + 1 : Nat) : Int) := by rw [wrap_i64 (by omega) (by omega)]; rfl
  generalize hx : t.nodes[n] = x at *
  have hxc : ndC x = [.int .i64 x.kind, .str x.name, .sl 1 0 (ints x.kids)] := rfl
  have gr1 := ((Gr.refl h).new (teC t)).new (ndC x)
  have o0 : ((h.new (teC t)).new (ndC x)).objs h.nobj = teC t := by simp
  have o1 : ((h.new (teC t)).new (ndC x)).objs (h.nobj + 1) = ndC x := by simp
  have o2 : ((h.new (teC t)).new (ndC x)).nobj = h.nobj + 2 := by simp
  simp [A.probateref08_means_o, teV, V.cells, V.good, htc, hnn, hg, ndV, hxc, setAt, fillL]
  rw [← htc, ← hxc]
  generalize (h.new (teC t)).new (ndC x) = h1 at *
  refine meansL0 x.kids (by omega) hin (o6 := h.nobj) (o13 := h.nobj + 1) rfl gr1 o1 (fun h2 e st gr2 ob2 nb2 he => ?_)
  have p0 : h2.objs h.nobj = teC t := by rw [ob2]; exact o0
  have p1 : h2.objs (h.nobj + 1) = [.int .i64 x.kind, .str x.name, .sl 1 0 (ints x.kids)] := by rw [ob2]; exact o1
  have p2 : h2.nobj = h.nobj + 2 := by rw [nb2, o2]
  have hM2 : ∀ n, n < t.nodes.length → RefAt h2 w.length (b0 + n * (w.length + 1)) (M n) ∧ b0 + n * (w.length + 1) + (w.length + 1) ≤ h.nobj := fun n hn => by
    have hi := idx_lt (L := w.length) hn (Nat.le_refl _)
    exact ⟨fun a ha => by rw [gr2.objs _ (by omega)]; exact hM n hn a ha, by omega⟩
  clear ob2 nb2 gr1 o0 o1 o2
  obtain ⟨bs, hbs⟩ : ∃ bs, bs = x.kids.map fun k => b0 + k.toNat * (w.length + 1) := ⟨_, rfl⟩
  have hbl : bs.length = x.kids.length := by rw [hbs]; simp
  have hbk : ∀ k (h1 : k < bs.length), bs[k] = b0 + (x.kids[k]'(by omega)).toNat * (w.length + 1) := fun k h1 => by subst hbs; simp
  have hat : ∀ k (h1 : k < bs.length), RefAt h2 w.length bs[k] ((x.kids.map fun k => M k.toNat)[k]'(by simp; omega)) ∧ bs[k] + (w.length + 1) ≤ h2.nobj := fun k h1 => by
    have hi := hin _ (List.getElem_mem (show k < x.kids.length by omega))
    obtain ⟨q1, q2⟩ := hM2 (x.kids[k]'(by omega)).toNat (by omega)
    rw [hbk k h1]
    refine ⟨by simpa using q1, by omega⟩
  rw [← hbs]
  have he' : bs = [] ∨ e = 1 := he.imp (fun q => by rw [hbs, q]; rfl) id
  simp [hiw, p1]
  by_cases k7 : x.kind = 7
  · have hmf : mF t terms w M x a = tokM w (plc x.name terms 0) a := by unfold mF; rw [if_pos k7]
    rw [hmf] at hQ
    simp [k7, p1]
    refine ecall (place_spec L8.place terms e3 s3 he3 x.name (by omega) ?_)
    simp
    refine ecall (token8_spec L8.none L8.token w (plc x.name terms 0) e2 s2 he2 (by omega) fun h3 g3 nb3 ra3 => ?_)
    have hrv : refV w.length h2.nobj = .sl 1 0 ((List.range (w.length + 1)).map fun a => .osl 1 (h2.nobj + a) 0 (w.length + 1) (w.length + 1)) := rfl
    have hrg := refV_get (L := w.length) (b := h2.nobj) ha
    have hal : (a : Int) < (w.length : Int) + 1 := by omega
    rw [hrv]
    simp [hal, hrg, V.cells]
    exact hQ h3 _ (gr2.trans g3) (by omega) (ra3 a ha) (.inl (by omega))
  by_cases k6 : x.kind = 6
  · have hmf : mF t terms w M x a = M (bodyN t x.name) a := by unfold mF; rw [if_neg k7, if_pos k6]
    rw [hmf] at hQ
    have hmem : x.name ∈ rnames t := by rcases hfk with q | q | q | q | q <;> first | exact q.2.2 | omega
    have hp := plc_fnd x.name (rnames t) 0
    cases hf : fndS x.name (rnames t) with
    | none => exact absurd hmem (fndS_none.1 hf)
    | some j =>
      rw [hf] at hp
      simp only [Nat.zero_add] at hp
      have hj : j < t.rules.length := by have := fndS_lt hf; simpa [rnames] using this
      have hj' : (j : Int) < t.rules.length := by omega
      have hgr : (t.rules.map rlV).getD j .undef = rlV t.rules[j] := Enc.getD hj
      have hb := rt.body (List.getElem_mem hj)
      have hgj : t.rules.getD j ⟨[], 0⟩ = t.rules[j] := by simp [List.getD_eq_getElem?_getD, hj]
      have hbd : bodyN t x.name = t.rules[j].body.toNat := by unfold bodyN; rw [hp, Int.toNat_natCast, hgj]
      obtain ⟨m, hm⟩ : ∃ m : Nat, t.rules[j].body = (m : Int) := ⟨t.rules[j].body.toNat, by omega⟩
      rw [hm, Int.toNat_natCast] at hbd
      have hmN : m < t.nodes.length := by omega
      have hmN' : (m : Int) < t.nodes.length := by omega
      have hrc : rlC t.rules[j] = [.str t.rules[j].name, .int .i64 (m : Int)] := by rw [← hm]; rfl
      have hmg : ((List.range t.nodes.length).map fun n => refV w.length (b0 + n * (w.length + 1))).getD m .undef = .sl 1 0 ((List.range (w.length + 1)).map fun a => .osl 1 (b0 + m * (w.length + 1) + a) 0 (w.length + 1) (w.length + 1)) := matV_get hmN
      have hrg := refV_get (L := w.length) (b := b0 + m * (w.length + 1)) ha
      have hal : (a : Int) < (w.length : Int) + 1 := by omega
      simp [k7, k6, p1, p0, htc]
      rw [← htc]
      refine dcall (.int .i64 (plc x.name (rnames t) 0)) (rule_spec L8.rule t x.name (by have := rt.r1; omega) ⟨rfl, rfl⟩) ?_
      simp [hp, p0, htc, hj', hgr, rlV, hrc, V.cells, matV, hmN', hmg, hal, hrg]
      obtain ⟨q1, q2⟩ := hM2 m hmN
      rw [hbd] at hQ
      exact hQ h2 _ gr2 (by omega) (q1 a ha) (.inr ⟨k6, by omega, hmN⟩)
  by_cases k1 : x.kind = 1
  · have hmf : mF t terms w M x a = foldR (x.kids.map fun k => M k.toNat) fun b => decide (b = a) := by unfold mF; rw [if_neg k7, if_neg k6, if_pos k1]
    rw [hmf] at hQ
    simp [k7, k6, k1]
    refine ecall (row_spec L8.row (by omega) ha bs (x.kids.map fun k => M k.toNat) (by simp [hbl]) (by omega) hat e st he' fun h3 o g3 lo lt ob => ?_)
    simp
    exact hQ h3 o (gr2.trans g3) lt ob (.inl (by omega))
  have hhd : (3 ≤ x.kind ∧ x.kind ≤ 5) → ∃ c : Nat, x.kids = [(c : Int)] ∧ c < t.nodes.length ∧ bs = [b0 + c * (w.length + 1)] := fun q => by
    have hk1 : x.kids.length = 1 := by omega
    obtain ⟨c, hc⟩ : ∃ c, x.kids = [c] := by
      match hx : x.kids, hk1 with
      | [c], _ => exact ⟨c, rfl⟩
    have := hin c (by rw [hc]; simp)
    refine ⟨c.toNat, by rw [hc]; simp; omega, by omega, by rw [hbs, hc]; rfl⟩
  by_cases k3 : x.kind = 3
  · obtain ⟨c, hc, hcn, hbc⟩ := hhd (by omega)
    have hmf : mF t terms w M x a = starB w.length (M c) a := by unfold mF; rw [if_neg k7, if_neg k6, if_neg k1, if_pos k3, hc]; simp
    rw [hmf] at hQ
    obtain ⟨q1, q2⟩ := hM2 c hcn
    obtain rfl : e = 1 := he'.resolve_left (fun q => by rw [hbc] at q; simp at q)
    simp [k7, k6, k1, k3, hbc, refV, V.cells]
    rw [show V.sl 1 0 ((List.range (w.length + 1)).map fun a => V.osl 1 (b0 + c * (w.length + 1) + a) 0 (w.length + 1) (w.length + 1)) = refV w.length (b0 + c * (w.length + 1)) from rfl]
    refine ecall (star_spec L8.star hL ha q1 (by omega) fun h3 o g3 lo lt ob => ?_)
    simp
    exact hQ h3 o (gr2.trans g3) lt ob (.inl (by omega))
  have hal : a < w.length + 1 := by omega
  have hal' : (a : Int) < (w.length : Int) + 1 := by omega
  have hset := fun y => boolsV_set (fun _ => false) hal y
  have hbl2 : bs.length ≤ 200 := by omega
  simp [k7, k6, k1, k3, hwL]
  refine ⟨by omega, by omega, ?_⟩
  rw [repl_false]
  have gr3 := gr2.new (boolsV (fun b => decide (b = a) && decide (x.kind = 5)) (w.length + 1))
  have n1 : ¬ h.nobj + 1 = h2.nobj := by omega
  have r0 : (h2.new (boolsV (fun b => decide (b = a) && decide (x.kind = 5)) (w.length + 1))).objs h2.nobj = boolsV (fun b => (decide (x.kind = 5) && decide (b = a)) || (x.kids.take 0).any fun k => M k.toNat a b) (w.length + 1) := by
    rw [new_objs_same]; exact boolsV_congr fun b _ => by simp [Bool.and_comm]
  have r1 : (h2.new (boolsV (fun b => decide (b = a) && decide (x.kind = 5)) (w.length + 1))).objs (h.nobj + 1) = [.int .i64 x.kind, .str x.name, .sl 1 0 (ints x.kids)] := by rw [new_objs_ne _ _ n1]; exact p1
  have r2 : (h2.new (boolsV (fun b => decide (b = a) && decide (x.kind = 5)) (w.length + 1))).nobj = h.nobj + 3 := by rw [new_nobj, p2]
  have r3 : h2.nobj = h.nobj + 2 := p2
  simp [n1, p1, hal, hal', V.cells, V.good, setAt, hset]
  refine ⟨ha, ?_⟩
  generalize h2.new (boolsV (fun b => decide (b = a) && decide (x.kind = 5)) (w.length + 1)) = h3 at *
  obtain ⟨o17, ho17⟩ : ∃ o17, h2.nobj = o17 := ⟨_, rfl⟩
  rw [ho17] at r0 ⊢
  refine loopI (n := bs.length) (fun mm env h4 => ∃ k, k ≤ bs.length ∧ mm = bs.length - k ∧ Gr h h4 ∧ h4.objs o17 = boolsV (fun b => (decide (x.kind = 5) && decide (b = a)) || (x.kids.take k).any fun k => M k.toNat a b) (w.length + 1) ∧ h4.objs (h.nobj + 1) = [.int .i64 x.kind, .str x.name, .sl 1 0 (ints x.kids)] ∧ o17 < h4.nobj ∧
      env = [(5, .int .i64 a), (13, .ptr (h.nobj + 1) 0), (14, .sl e st (bs.map (refV w.length))), (16, .int .i64 w.length), (17, .osl 1 o17 0 (w.length + 1) (w.length + 1)), (18, .int .i64 k)]) ?_
    ⟨0, by omega, by omega, gr3, r0, r1, by omega, rfl⟩
  clear gr3 r0 r1 r2 h3
  rintro mm env h4 ⟨k, hk, rfl, gr4, u0, u1, u2, rfl⟩
  unfold A.probateref08_means_o.L1
  by_cases hlt : k < bs.length
  · have hlt' : (k : Int) < bs.length := by omega
    have hw1 : IntKind.i64.wrap ((k : Int) + 1) = ((k + 1 : Nat) : Int) := by rw [wrap_i64 (by omega) (by omega)]; rfl
    have he1 : e = 1 := he'.resolve_left (fun q => by rw [q] at hlt; simp at hlt)
    have hkk : k < x.kids.length := by omega
    have hik := hin _ (List.getElem_mem hkk)
    obtain ⟨q1, q2⟩ := hM2 (x.kids[k]).toNat (by omega)
    have hbe := hbk k hlt
    have hbo : bs[k] + (w.length + 1) ≤ h.nobj := by rw [hbe]; exact q2
    have hrow : h4.objs (bs[k] + a) = boolsV (M (x.kids[k]).toNat a) (w.length + 1) := by
      rw [gr4.objs _ (by omega), hbe]
      exact hM _ (by omega) a ha
    simp [hlt']
    refine meansL2 hL ha hlt he1 hrow u0 (by omega) ?_
    simp [hw1]
    exact ⟨bs.length - (k + 1), by omega, iv ⟨k + 1, by omega, rfl, gr4.set (by omega) _, by
      rw [set_objs_same, List.take_succ_eq_append_getElem hkk]
      exact boolsV_congr fun b _ => by rw [List.any_append]; simp [Bool.or_assoc], by rw [set_objs_ne _ _ _ (by omega)]; exact u1, by rw [set_nobj]; exact u2, rfl⟩⟩
  · have hlt' : ¬ (k : Int) < bs.length := by omega
    obtain rfl : k = bs.length := by omega
    rw [hbl, List.take_length] at u0
    by_cases k4 : x.kind = 4
    · obtain ⟨c, hc, hcn, hbc⟩ := hhd (by omega)
      have hmf : mF t terms w M x a = foldR [M c, starB w.length (M c)] fun b => decide (b = a) := by unfold mF; rw [if_neg k7, if_neg k6, if_neg k1, if_neg k3, if_pos k4, hc]; simp
      rw [hmf] at hQ
      obtain ⟨q1, q2⟩ := hM2 c hcn
      have q1' : RefAt h4 w.length (b0 + c * (w.length + 1)) (M c) := fun a ha => by rw [gr4.objs _ (by omega)]; exact hM c hcn a ha
      obtain rfl : e = 1 := he'.resolve_left (fun q => by rw [hbc] at q; simp at q)
      simp [hlt', u1, k4, hbc, refV, V.cells]
      rw [show V.sl 1 0 ((List.range (w.length + 1)).map fun a => V.osl 1 (b0 + c * (w.length + 1) + a) 0 (w.length + 1) (w.length + 1)) = refV w.length (b0 + c * (w.length + 1)) from rfl]
      refine dcallE _ _ (stars_spec L8.star L8.stars hL q1' (by have := gr4.nobj; omega) ⟨rfl, rfl⟩) ?_
      have G5 := rowsH_gr h4 (fun a => boolsV (starB w.length (M c) a) (w.length + 1)) (w.length + 1)
      have v0 : RefAt (rowsH h4 (fun a => boolsV (starB w.length (M c) a) (w.length + 1)) (w.length + 1)) w.length h4.nobj (starB w.length (M c)) := fun a ha => rowsH_at h4 _ (by omega)
      have v1 : (rowsH h4 (fun a => boolsV (starB w.length (M c) a) (w.length + 1)) (w.length + 1)).nobj = h4.nobj + (w.length + 1) := rowsH_nobj _ _ _
      generalize rowsH h4 (fun a => boolsV (starB w.length (M c) a) (w.length + 1)) (w.length + 1) = h5 at *
      have g4n := gr4.nobj
      simp [fillL, V.isAgg, V.cells, refV]
      refine dcallE _ _ (row_one L8.row (by omega) ha [b0 + c * (w.length + 1), h4.nobj] [M c, starB w.length (M c)] rfl (by simp) (fun k h1 => ?_) 1 2 (.inr rfl) ⟨rfl, rfl⟩) ?_
      · match k, h1 with
        | 0, _ => exact ⟨fun a ha => by show h5.objs (b0 + c * (w.length + 1) + a) = _; rw [G5.objs _ (by omega)]; exact q1' a ha, show b0 + c * (w.length + 1) + (w.length + 1) ≤ h5.nobj by omega⟩
        | 1, _ => exact ⟨v0, show h4.nobj + (w.length + 1) ≤ h5.nobj by omega⟩
      simp
      exact hQ _ h5.nobj ((gr4.trans G5).new _) (by simp) (by simp) (.inl (by omega))
    · have hmf : mF t terms w M x a = fun b => (decide (x.kind = 5) && decide (b = a)) || x.kids.any fun k => M k.toNat a b := by unfold mF; rw [if_neg k7, if_neg k6, if_neg k1, if_neg k3, if_neg k4]
      rw [hmf] at hQ
      simp [hlt', u1, k4]
      exact hQ h4 o17 gr4 u2 u0 (.inl (by omega))
end
end Go.Proofs.Ytmobijebjkjnoaa.Al
namespace Go.Proofs.Ytmobijebjkjnoaa.Al
open Go Go.RowKit
set_option linter.unusedSimpArgs false
set_option linter.unusedVariables false
attribute [-simp] List.getD_eq_getElem?_getD Int.not_lt Int.not_le List.map_take List.map_map
/-- The table of all nodes, as it lies. -/
structure MT (h h' : AH) (z : List V) (L N : Nat) (M : Tb) : Prop where
  gr : Gr h h'
  ob : h'.objs h.nobj = z
  nb : h.nobj + 1 + N * (L + 1) ≤ h'.nobj
  at' : ∀ n, n < N → RefAt h' L (h.nobj + 1 + n * (L + 1)) (M n)
theorem MT.set {h h' : AH} {z : List V} {L N : Nat} {M : Tb} (s : MT h h' z L N M) {n a b : Nat} (hn : n < N) (ha : a ≤ L) (hb : b ≤ L) :
    MT h (h'.set (h.nobj + 1 + n * (L + 1) + a) (boolsV (fun b' => decide (b' = b) || M n a b') (L + 1))) z L N (setM M n a b) := by
  refine ⟨s.gr.set (by omega) _, by rw [set_objs_ne _ _ _ (by omega)]; exact s.ob, by rw [set_nobj]; exact s.nb, fun n' hn' a' ha' => ?_⟩
  by_cases e : n' = n ∧ a' = a
  · obtain ⟨rfl, rfl⟩ := e
    rw [set_objs_same]
    refine boolsV_congr fun b' _ => ?_
    by_cases q : b' = b <;> simp [setM, q]
  · rw [set_objs_ne _ _ _ (fun q => e (by
      have := idx_inj (n := n') (n' := n) ha' ha (by omega)
      exact this)), s.at' n' hn' a' ha']
    refine boolsV_congr fun b' _ => ?_
    simp only [setM]
    rw [if_neg (fun q => e ⟨q.1, q.2.1⟩)]
theorem MT.gr' {h h' h2 : AH} {z : List V} {L N : Nat} {M : Tb} (s : MT h h' z L N M) (G : Gr h' h2) : MT h h2 z L N M := by
  have := s.nb
  have := s.gr.nobj
  have := G.nobj
  refine ⟨s.gr.trans G, by rw [G.objs _ (by omega)]; exact s.ob, by omega, fun n hn a ha => ?_⟩
  have := idx_lt (L := L) hn ha
  rw [G.objs _ (by omega)]; exact s.at' n hn a ha
def SoundP (P : Nat → Nat → Nat → Prop) (M : Tb) : Prop := ∀ n a b, M n a b = true → P n a b
/-- It has all that a node means, from the places before A. -/
def HoldsN (t : Te) (terms : List Str) (w : List Int) (M : Tb) (n : Nat) (A : Nat) : Prop := ∀ (hn : n < t.nodes.length) (a b : Nat), a < A → b ≤ w.length → mF t terms w M t.nodes[n] a b = true → M n a b = true
section
variable {X : Cx} {h : AH} {Q : V → AH → Prop}
theorem MeansL3 (P : Nat → Nat → Nat → Prop) {z0 : List V} {v1 v2 : V} {L N : Nat} {s2l : List V} {e2 st2 : Nat} (hv2 : v2 = .sl e2 st2 s2l) (hl2 : s2l.length = L) (hL : L ≤ 2 ^ 10) {M : Tb} {n a : Nat} (hn : n < N) (hN : N ≤ 2 ^ 20) (ha : a ≤ L) {more : Bool} {o11 : Nat} {f : Nat → Bool} {h' : AH} (ms : MT h h' z0 L N M) (so : SoundP P M)
    (h11 : h'.objs o11 = boolsV f (L + 1)) (hf : ∀ b, b ≤ L → f b = true → P n a b)
    {Q : Ex → Env → AH → Prop} {zQ : Lz Q} {z : Lz (AC.loop A.probateref08_Means.L3)}
    (hQ : ∀ h2 M2 more2, MT h h2 z0 L N M2 → SoundP P M2 → falses N L M2 ≤ falses N L M →
      (more2 = false → more = false ∧ M2 = M ∧ ∀ b, b ≤ L → f b = true → M n a b = true) → (more2 = true → more = true ∨ falses N L M2 < falses N L M) →
      Q (.exit 6) [(1, v1), (2, v2), (3, .ptr h.nobj 0), (7, matV L N (h.nobj + 1)), (8, .bool more2), (9, .int .i64 n), (10, .int .i64 a), (11, .osl 1 o11 0 (L + 1) (L + 1)), (12, .int .i64 ((L + 1 : Nat) : Int)), (43, .bool false)] h2) :
    acZ (Ecx X) [(1, v1), (2, v2), (3, .ptr h.nobj 0), (7, matV L N (h.nobj + 1)), (8, .bool more), (9, .int .i64 n), (10, .int .i64 a), (11, .osl 1 o11 0 (L + 1) (L + 1)), (12, .int .i64 0)] h' z zQ := by
  subst hv2
  have hnN' : (n : Int) < N := by omega
  have hal : a < L + 1 := by omega
  have hal' : (a : Int) < (L : Int) + 1 := by omega
  refine loopI (n := L + 1) (fun mm env h2 => ∃ b M2 more2, b ≤ L + 1 ∧ mm = L + 1 - b ∧ MT h h2 z0 L N M2 ∧ SoundP P M2 ∧ h2.objs o11 = boolsV f (L + 1) ∧ falses N L M2 ≤ falses N L M ∧
      (more2 = false → more = false ∧ M2 = M ∧ ∀ b', b' < b → f b' = true → M n a b' = true) ∧ (more2 = true → more = true ∨ falses N L M2 < falses N L M) ∧
      env = [(1, v1), (2, .sl e2 st2 s2l), (3, .ptr h.nobj 0), (7, matV L N (h.nobj + 1)), (8, .bool more2), (9, .int .i64 n), (10, .int .i64 a), (11, .osl 1 o11 0 (L + 1) (L + 1)), (12, .int .i64 b)]) ?_
    ⟨0, M, more, by omega, by omega, ms, so, h11, Nat.le_refl _, fun e => ⟨e, rfl, fun b' h1 => by omega⟩, fun e => .inl e, rfl⟩
  rintro mm env h2 ⟨b, M2, more2, hbl, rfl, ms2, so2, q11, fl2, hm0, hm1, rfl⟩
  unfold A.probateref08_Means.L3
  by_cases hle : b ≤ L
  · have hle' : (b : Int) ≤ L := by omega
    have hbl' : b < L + 1 := by omega
    have hbl2 : (b : Int) < (L : Int) + 1 := by omega
    have hw1 : IntKind.i64.wrap ((b : Int) + 1) = ((b + 1 : Nat) : Int) := by rw [wrap_i64 (by omega) (by omega)]; rfl
    have hgf : (boolsV f (L + 1)).getD b .undef = .bool (f b) := boolsV_get hbl'
    have hmg : ((List.range N).map fun n => refV L (h.nobj + 1 + n * (L + 1))).getD n .undef = .sl 1 0 ((List.range (L + 1)).map fun a => .osl 1 (h.nobj + 1 + n * (L + 1) + a) 0 (L + 1) (L + 1)) := matV_get hn
    have hrg := refV_get (L := L) (b := h.nobj + 1 + n * (L + 1)) ha
    have hma := ms2.at' n hn a ha
    have hgm : (boolsV (M2 n a) (L + 1)).getD b .undef = .bool (M2 n a b) := boolsV_get hbl'
    have hset := boolsV_set (M2 n a) hbl' true
    cases hfb : f b with
    | false =>
      rw [hfb] at hgf
      simp [hl2, hle', hbl', hbl2, q11, hgf, hw1]
      exact ⟨L + 1 - (b + 1), by omega, iv ⟨b + 1, M2, more2, by omega, rfl, ms2, so2, q11, fl2, fun e => by
        obtain ⟨x, y, z⟩ := hm0 e
        refine ⟨x, y, fun b' h2 h3 => ?_⟩
        by_cases q : b' = b
        · subst q; rw [hfb] at h3; cases h3
        · exact z b' (by omega) h3, hm1, rfl⟩⟩
    | true =>
      rw [hfb] at hgf
      cases hM : M2 n a b with
      | true =>
        rw [hM] at hgm
        simp [hl2, hle', hbl', hbl2, q11, hgf, hw1, V.cells, matV, hnN', hmg, hal, hal', hrg, hma, hgm]
        exact ⟨L + 1 - (b + 1), by omega, iv ⟨b + 1, M2, more2, by omega, rfl, ms2, so2, q11, fl2, fun e => by
          obtain ⟨x, y, z⟩ := hm0 e
          refine ⟨x, y, fun b' h2 h3 => ?_⟩
          by_cases q : b' = b
          · subst q; rw [← y]; exact hM
          · exact z b' (by omega) h3, hm1, rfl⟩⟩
      | false =>
        rw [hM] at hgm
        have hix := idx_lt (L := L) hn ha
        have ms3 := ms2.set hn ha hle
        have hfs := falses_set (N := N) hn ha hle hM
        have nbm := ms2.nb
        have hne : ¬ o11 = h.nobj + 1 + n * (L + 1) + a := fun e => by
          rw [e, hma] at q11
          have := congrArg (fun l => l.getD b V.undef) q11
          simp only [hgm, hgf] at this
          cases this
        simp [hl2, hle', hbl', hbl2, q11, hgf, hw1, V.cells, V.good, setAt, matV, hnN', hmg, hal, hal', hrg, hma, hgm, hset]
        refine ⟨hle, ?_⟩
        exact ⟨L + 1 - (b + 1), by omega, iv ⟨b + 1, setM M2 n a b, true, by omega, rfl, ms3, fun n' a' b' q => by
            simp only [setM] at q
            split at q
            · rename_i c
              obtain ⟨rfl, rfl, rfl⟩ := c
              exact hf b' hle hfb
            · exact so2 _ _ _ q, by rw [set_objs_ne _ _ _ hne]; exact q11, by omega, (fun e => nomatch e), (fun _ => .inr (by omega)), rfl⟩⟩
  · have hle' : ¬ (b : Int) ≤ L := by omega
    obtain rfl : b = L + 1 := by omega
    have hx : ¬ ((L : Int) + 1 ≤ L) := by omega
    simp [hl2, hx]
    have := hQ h2 M2 more2 ms2 so2 fl2 (fun e => by
      obtain ⟨x, y, z⟩ := hm0 e
      exact ⟨x, y, fun b' h2 h3 => z b' (by omega) h3⟩) hm1
    simpa using this
/-- What a table's node means holds of it. -/
def StepP (t : Te) (terms : List Str) (w : List Int) (P : Nat → Nat → Nat → Prop) : Prop := ∀ M, SoundP P M → ∀ (n : Nat) (hn : n < t.nodes.length) (a b : Nat), a ≤ w.length → b ≤ w.length → mF t terms w M t.nodes[n] a b = true → P n a b
theorem MeansL2 (L8 : LMn X) (t : Te) (rt : RTe t) (terms : List Str) (htl : terms.length ≤ 2 ^ 20) (w : List Int) (hL : w.length ≤ 2 ^ 10) (P : Nat → Nat → Nat → Prop) (hP : StepP t terms w P) {e2 s2 e3 s3 : Nat} (he2 : w = [] ∨ e2 = 1) (he3 : strs terms = [] ∨ e3 = 1)
    {M : Tb} {n : Nat} (hn : n < t.nodes.length) {more : Bool} {h' : AH} (ms : MT h h' (teC t) w.length t.nodes.length M) (so : SoundP P M)
    {Q : Ex → Env → AH → Prop} {zQ : Lz Q} {z : Lz (AC.loop A.probateref08_Means.L2)}
    (hQ : ∀ h2 M2 more2, MT h h2 (teC t) w.length t.nodes.length M2 → SoundP P M2 → falses t.nodes.length w.length M2 ≤ falses t.nodes.length w.length M →
      (more2 = false → more = false ∧ M2 = M ∧ HoldsN t terms w M n (w.length + 1)) → (more2 = true → more = true ∨ falses t.nodes.length w.length M2 < falses t.nodes.length w.length M) →
      Q (.exit 4) [(1, .sl e3 s3 (strs terms)), (2, .sl e2 s2 (ints w)), (3, .ptr h.nobj 0), (7, matV w.length t.nodes.length (h.nobj + 1)), (8, .bool more2), (9, .int .i64 n), (10, .int .i64 ((w.length + 1 : Nat) : Int)), (30, .bool false)] h2) :
    acZ (Ecx X) [(1, .sl e3 s3 (strs terms)), (2, .sl e2 s2 (ints w)), (3, .ptr h.nobj 0), (7, matV w.length t.nodes.length (h.nobj + 1)), (8, .bool more), (9, .int .i64 n), (10, .int .i64 0)] h' z zQ := by
  have hiw : (ints w).length = w.length := by simp [ints]
  have htc : teC t = [.sl 2 0 (t.rules.map rlV), .sl 3 0 (t.nodes.map ndV)] := rfl
  have n1 := rt.n1
  refine loopI (n := w.length + 1) (fun mm env h2 => ∃ a M2 more2, a ≤ w.length + 1 ∧ mm = w.length + 1 - a ∧ MT h h2 (teC t) w.length t.nodes.length M2 ∧ SoundP P M2 ∧ falses t.nodes.length w.length M2 ≤ falses t.nodes.length w.length M ∧
      (more2 = false → more = false ∧ M2 = M ∧ HoldsN t terms w M n a) ∧ (more2 = true → more = true ∨ falses t.nodes.length w.length M2 < falses t.nodes.length w.length M) ∧
      env = [(1, .sl e3 s3 (strs terms)), (2, .sl e2 s2 (ints w)), (3, .ptr h.nobj 0), (7, matV w.length t.nodes.length (h.nobj + 1)), (8, .bool more2), (9, .int .i64 n), (10, .int .i64 a)]) ?_
    ⟨0, M, more, by omega, by omega, ms, so, Nat.le_refl _, fun q => ⟨q, rfl, fun hn a b h1 => by omega⟩, fun q => .inl q, rfl⟩
  clear ms so h'
  rintro mm env h2 ⟨a, M2, more2, ha, rfl, ms2, so2, fl2, hm0, hm1, rfl⟩
  unfold A.probateref08_Means.L2
  by_cases hle : a ≤ w.length
  · have hle' : (a : Int) ≤ w.length := by omega
    have hw1 : IntKind.i64.wrap ((a : Int) + 1) = ((a + 1 : Nat) : Int) := by rw [wrap_i64 (by omega) (by omega)]; rfl
    have nb2 := ms2.nb
    simp [hiw, hle', ms2.ob, htc]
    rw [← htc]
    refine ecall (means_spec L8 t rt terms htl w hL (M := M2) nb2 ms2.at' hn hle he2 he3 fun h3 o g3 lt3 ob3 _ => ?_)
    simp
    refine MeansL3 (v1 := .sl e3 s3 (strs terms)) P rfl hiw hL hn (by omega) hle (ms2.gr' g3) so2 ob3 (fun b hb hf => hP M2 so2 n hn a b hle hb hf) (fun h4 M4 more4 ms4 so4 fl4 x0 x1 => ?_)
    simp [hw1]
    exact ⟨w.length + 1 - (a + 1), by omega, iv ⟨a + 1, M4, more4, by omega, rfl, ms4, so4, by omega, fun q => by
      obtain ⟨y1, y2, y3⟩ := x0 q
      obtain ⟨z1, z2, z3⟩ := hm0 y1
      subst z2
      refine ⟨z1, y2, fun hn' a' b h1 hb h2 => ?_⟩
      by_cases q : a' = a
      · subst q; exact y3 b hb h2
      · exact z3 hn' a' b (by omega) hb h2, fun q => by
      rcases x1 q with y | y
      · rcases hm1 y with z | z
        · exact .inl z
        · exact .inr (by omega)
      · exact .inr (by omega), rfl⟩⟩
  · obtain rfl : a = w.length + 1 := by omega
    have hx : ¬ ((w.length : Int) + 1 ≤ w.length) := by omega
    simp [hiw, hx]
    simpa using hQ h2 M2 more2 ms2 so2 fl2 hm0 hm1
def HoldsT (t : Te) (terms : List Str) (w : List Int) (M : Tb) : Prop := ∀ n, HoldsN t terms w M n (w.length + 1)
theorem MeansL1 (L8 : LMn X) (t : Te) (rt : RTe t) (terms : List Str) (htl : terms.length ≤ 2 ^ 20) (w : List Int) (hL : w.length ≤ 2 ^ 10) (P : Nat → Nat → Nat → Prop) (hP : StepP t terms w P) {e2 s2 e3 s3 : Nat} (he2 : w = [] ∨ e2 = 1) (he3 : strs terms = [] ∨ e3 = 1)
    {M : Tb} {h' : AH} (ms : MT h h' (teC t) w.length t.nodes.length M) (so : SoundP P M)
    {Q : Ex → Env → AH → Prop} {zQ : Lz Q} {z : Lz (AC.loop A.probateref08_Means.L1)}
    (hQ : ∀ h2 M2 more2, MT h h2 (teC t) w.length t.nodes.length M2 → SoundP P M2 → (more2 = false → M2 = M ∧ HoldsT t terms w M) → (more2 = true → falses t.nodes.length w.length M2 < falses t.nodes.length w.length M) →
      Q (.exit 2) [(1, .sl e3 s3 (strs terms)), (2, .sl e2 s2 (ints w)), (3, .ptr h.nobj 0), (7, matV w.length t.nodes.length (h.nobj + 1)), (8, .bool more2), (9, .int .i64 t.nodes.length), (24, .bool false)] h2) :
    acZ (Ecx X) [(1, .sl e3 s3 (strs terms)), (2, .sl e2 s2 (ints w)), (3, .ptr h.nobj 0), (7, matV w.length t.nodes.length (h.nobj + 1)), (8, .bool false), (9, .int .i64 0)] h' z zQ := by
  have htc : teC t = [.sl 2 0 (t.rules.map rlV), .sl 3 0 (t.nodes.map ndV)] := rfl
  have n1 := rt.n1
  refine loopI (n := t.nodes.length) (fun mm env h2 => ∃ i M2 more2, i ≤ t.nodes.length ∧ mm = t.nodes.length - i ∧ MT h h2 (teC t) w.length t.nodes.length M2 ∧ SoundP P M2 ∧
      (more2 = false → M2 = M ∧ ∀ n, n < i → HoldsN t terms w M n (w.length + 1)) ∧ (more2 = true → falses t.nodes.length w.length M2 < falses t.nodes.length w.length M) ∧
      env = [(1, .sl e3 s3 (strs terms)), (2, .sl e2 s2 (ints w)), (3, .ptr h.nobj 0), (7, matV w.length t.nodes.length (h.nobj + 1)), (8, .bool more2), (9, .int .i64 i)]) ?_
    ⟨0, M, false, by omega, by omega, ms, so, fun _ => ⟨rfl, fun n h => by omega⟩, (fun q => nomatch q), rfl⟩
  clear ms so h'
  rintro mm env h2 ⟨i, M2, more2, hi, rfl, ms2, so2, hm0, hm1, rfl⟩
  unfold A.probateref08_Means.L1
  by_cases hlt : i < t.nodes.length
  · have hlt' : (i : Int) < t.nodes.length := by omega
    have hw1 : IntKind.i64.wrap ((i : Int) + 1) = ((i + 1 : Nat) : Int) := by rw [wrap_i64 (by omega) (by omega)]; rfl
    simp [ms2.ob, htc, hlt']
    refine MeansL2 L8 t rt terms htl w hL P hP he2 he3 hlt ms2 so2 (fun h4 M4 more4 ms4 so4 fl4 x0 x1 => ?_)
    simp [hw1]
    exact ⟨t.nodes.length - (i + 1), by omega, iv ⟨i + 1, M4, more4, by omega, rfl, ms4, so4, fun q => by
      obtain ⟨y1, y2, y3⟩ := x0 q
      obtain ⟨z1, z2⟩ := hm0 y1
      subst z1
      refine ⟨y2, fun n hn => ?_⟩
      by_cases e : n = i
      · subst e; exact y3
      · exact z2 n (by omega), fun q => by
      rcases x1 q with y | y
      · have := hm1 y; omega
      · cases more2 with
        | false => have := (hm0 rfl).1; subst this; exact y
        | true => have := hm1 rfl; omega, rfl⟩⟩
  · have hlt' : ¬ (i : Int) < t.nodes.length := by omega
    obtain rfl : i = t.nodes.length := by omega
    simp [ms2.ob, htc, hlt']
    exact hQ h2 M2 more2 ms2 so2 (fun q => by
      obtain ⟨a, b⟩ := hm0 q
      refine ⟨a, fun n hn => b n hn hn⟩) hm1
theorem Means_spec (L8 : LMn X) (t : Te) (rt : RTe t) (terms : List Str) (htl : terms.length ≤ 2 ^ 20) (w : List Int) (hL : w.length ≤ 2 ^ 10) (P : Nat → Nat → Nat → Prop) (hP : StepP t terms w P) {e2 s2 e3 s3 : Nat} (he2 : w = [] ∨ e2 = 1) (he3 : strs terms = [] ∨ e3 = 1)
    (ans : Bool) (hans : ∀ M, SoundP P M → HoldsT t terms w M → M (t.rules[0]'(by have := rt.r0; omega)).body.toNat 0 w.length = ans) (hQ : Q (.bool ans) h) :
    Ecx X K.probateref08_Means [teV t, .sl e3 s3 (strs terms), .sl e2 s2 (ints w)] h Q := by
  refine fn_walk L8.Means (by simp [A.probateref08_Means]) fun wf => ?_
  have htc : teC t = [.sl 2 0 (t.rules.map rlV), .sl 3 0 (t.nodes.map ndV)] := rfl
  have hiw : (ints w).length = w.length := by simp [ints]
  have r0 := rt.r0
  have n1 := rt.n1
  have gr := (Gr.refl h).new (teC t)
  have b0 : (h.new (teC t)).objs h.nobj = teC t := by simp
  have b1 : (h.new (teC t)).nobj = h.nobj + 1 := by simp
  simp [A.probateref08_Means, teV, V.cells, V.good]
  generalize h.new (teC t) = h1 at *
  simp [b0, htc, hiw]
  refine ecall (none_spec L8.none t.nodes.length w.length (by omega) (by omega) ?_)
  have ms0 : MT h (rowsH h1 (fun _ => boolsV (fun _ => false) (w.length + 1)) (t.nodes.length * (w.length + 1))) (teC t) w.length t.nodes.length (fun _ _ _ => false) := by
    refine ⟨gr.trans (rowsH_gr h1 _ _), by rw [rowsH_old _ _ (by omega)]; exact b0, by rw [rowsH_nobj, b1]; exact Nat.le_refl _, fun n hn a ha => ?_⟩
    have := idx_lt (L := w.length) hn ha
    rw [show h.nobj + 1 + n * (w.length + 1) + a = h1.nobj + (n * (w.length + 1) + a) by omega, rowsH_at _ _ this]
  simp [b1]
  refine loopI (n := 2 * falses t.nodes.length w.length (fun _ _ _ => false) + 1) (fun mm env h2 => ∃ M more, mm = 2 * falses t.nodes.length w.length M + (if more then 1 else 0) ∧ MT h h2 (teC t) w.length t.nodes.length M ∧ SoundP P M ∧ (more = false → HoldsT t terms w M) ∧
      env = [(1, .sl e3 s3 (strs terms)), (2, .sl e2 s2 (ints w)), (3, .ptr h.nobj 0), (7, matV w.length t.nodes.length (h.nobj + 1)), (8, .bool more)]) ?_
    ⟨fun _ _ _ => false, true, rfl, ms0, (fun n a b q => nomatch q), (fun q => nomatch q), rfl⟩
  rintro mm env h2 ⟨M, more, rfl, ms, so, hm, rfl⟩
  unfold A.probateref08_Means.L0
  cases more with
  | true =>
    simp
    refine MeansL1 L8 t rt terms htl w hL P hP he2 he3 ms so (fun h3 M3 more3 ms3 so3 x0 x1 => ?_)
    simp
    cases more3 with
    | true => exact ⟨_, by have := x1 rfl; show 2 * falses t.nodes.length w.length M3 + 1 < _; omega, iv ⟨M3, true, rfl, ms3, so3, (fun q => nomatch q), rfl⟩⟩
    | false =>
      obtain ⟨rfl, ho⟩ := x0 rfl
      exact ⟨2 * falses t.nodes.length w.length M3, by omega, iv ⟨M3, false, by simp, ms3, so3, fun _ => ho, rfl⟩⟩
  | false =>
    have hb := rt.body (List.getElem_mem (show 0 < t.rules.length by omega))
    have hh := hans M so (hm rfl)
    have hgr : (t.rules.map rlV).getD 0 .undef = rlV t.rules[0] := Enc.getD (by omega)
    obtain ⟨m, hm'⟩ : ∃ m : Nat, t.rules[0].body = (m : Int) := ⟨t.rules[0].body.toNat, by omega⟩
    rw [hm', Int.toNat_natCast] at hh
    have hmN : m < t.nodes.length := by omega
    have hmN' : (m : Int) < t.nodes.length := by omega
    have hrc : rlC t.rules[0] = [.str t.rules[0].name, .int .i64 (m : Int)] := by rw [← hm']; rfl
    have hmg : ((List.range t.nodes.length).map fun n => refV w.length (h.nobj + 1 + n * (w.length + 1))).getD m .undef = .sl 1 0 ((List.range (w.length + 1)).map fun a => .osl 1 (h.nobj + 1 + m * (w.length + 1) + a) 0 (w.length + 1) (w.length + 1)) := matV_get hmN
    have hrg := refV_get (L := w.length) (b := h.nobj + 1 + m * (w.length + 1)) (a := 0) (by omega)
    have hma : h2.objs (h.nobj + 1 + m * (w.length + 1)) = boolsV (M m 0) (w.length + 1) := ms.at' m hmN 0 (by omega)
    have hgb : (boolsV (M m 0) (w.length + 1)).getD w.length .undef = .bool (M m 0 w.length) := boolsV_get (by omega)
    have hr0 : 0 < t.rules.length := by omega
    have hr0' : (0 : Int) < t.rules.length := by omega
    rw [hh] at hgb
    simp [ms.ob, htc, hr0, hr0', hgr, rlV, hrc, V.cells, matV, hmN', hmg, hrg, hma, hgb, hiw]
    exact ⟨by omega, fin_wk ms.gr (.same _) (by simp) hQ⟩
end
end Go.Proofs.Ytmobijebjkjnoaa.Al
namespace Go.Proofs.Ytmobijebjkjnoaa.Al
open Go Go.RowKit
set_option linter.unusedSimpArgs false
set_option linter.unusedVariables false
theorem prodsT_left (t : Te) (n : Nat) (left : Int) : ∀ p ∈ prodsT t n left, p.left = left := by
  unfold prodsT
  split
  · rename_i x hx
    repeat' split
    all_goals first
      | (intro p hp; simp at hp; rcases hp with rfl | rfl <;> rfl)
      | (intro p hp; simp at hp; rw [hp])
      | (intro p hp
         obtain ⟨k, _, rfl⟩ := List.mem_map.1 hp
         unfold altP
         split
         · split <;> rfl
         · rfl)
  · simp
/-- A node lies below a rule's body, or is one. -/
theorem RTe.where {t : Te} (rt : RTe t) {m : Nat} (hm : m < t.nodes.length) : (∃ i, ∃ h : i < t.rules.length, t.rules[i].body = m) ∨ ∃ n, ∃ h : n < t.nodes.length, (m : Int) ∈ t.nodes[n].kids := by
  have : (m : Int) ∈ iotaI t.nodes.length := by unfold iotaI; exact List.mem_map.2 ⟨m, by simpa using hm, rfl⟩
  rcases List.mem_append.1 (rt.perm.mem_iff.2 this) with h | h
  · obtain ⟨x, hx, hk⟩ := List.mem_flatMap.1 h
    obtain ⟨n, hn, rfl⟩ := List.getElem_of_mem hx
    exact .inr ⟨n, hn, hk⟩
  · obtain ⟨r, hr, he⟩ := List.mem_map.1 h
    obtain ⟨i, hi, rfl⟩ := List.getElem_of_mem hr
    exact .inl ⟨i, hi, he⟩
theorem in_lowA {t : Te} {i : Nat} (hi : i < t.rules.length) {n : Nat} (hb : t.rules[i].body = n) {p : Pr} (hp : p ∈ prodsT t n i) : p ∈ lowP t := by
  unfold lowP lowA
  refine List.mem_append.2 (.inl (List.mem_flatMap.2 ⟨i, by simpa using hi, ?_⟩))
  have hg : t.rules.getD i ⟨[], 0⟩ = t.rules[i] := by simp [List.getD_eq_getElem?_getD, hi]
  rw [hg, hb, Int.toNat_natCast]; exact hp
theorem in_lowB {t : Te} {n : Nat} (hn : n < t.nodes.length) (hh : hasN t n = true) {p : Pr} (hp : p ∈ prodsT t n (ownN t n)) : p ∈ lowP t := by
  unfold lowP lowB
  refine List.mem_append.2 (.inr (List.mem_flatMap.2 ⟨n, by simpa using hn, ?_⟩))
  rw [if_pos hh]; exact hp
end Go.Proofs.Ytmobijebjkjnoaa.Al
namespace Go.Proofs.Ytmobijebjkjnoaa.Al
open Go Go.RowKit
set_option linter.unusedSimpArgs false
set_option linter.unusedVariables false
/-- A nonterminal tells what a node means. -/
def LeftS (t : Te) (n : Nat) (l : Int) : Prop := (∃ i, ∃ h : i < t.rules.length, t.rules[i].body = n ∧ l = i) ∨ (n < t.nodes.length ∧ hasN t n = true ∧ l = ownN t n)
theorem ownN_has {t : Te} {n : Nat} (h : hasN t n = true) : ownN t n = ((t.rules.length + cntN t n : Nat) : Int) := by unfold ownN; rw [h]; rfl
theorem cntN_mono (t : Te) {a b : Nat} (h : a ≤ b) : cntN t a ≤ cntN t b := by
  induction h with
  | refl => exact Nat.le_refl _
  | step _ ih => rw [cntN_succ]; omega
theorem cntN_lt (t : Te) {a b : Nat} (h : a < b) (ha : hasN t a = true) : cntN t a < cntN t b := by
  have h1 := cntN_succ t a
  rw [ha] at h1
  have h2 := cntN_mono t (show a + 1 ≤ b from h)
  simp at h1
  omega
theorem LeftS.inj {t : Te} {n m : Nat} {l : Int} (a : LeftS t n l) (b : LeftS t m l) : n = m := by
  rcases a with ⟨i, hi, e, rfl⟩ | ⟨hn, hh, rfl⟩ <;> rcases b with ⟨j, hj, e2, q⟩ | ⟨hm, hh2, q⟩
  · have : i = j := by omega
    subst this; rw [e] at e2; omega
  · rw [ownN_has hh2] at q; omega
  · rw [ownN_has hh] at q; omega
  · rw [ownN_has hh, ownN_has hh2] at q
    rcases Nat.lt_trichotomy n m with c | c | c
    · have := cntN_lt t c hh; omega
    · exact c
    · have := cntN_lt t c hh2; omega
theorem LeftS.prod {t : Te} {n : Nat} {l : Int} (a : LeftS t n l) {p : Pr} (hp : p ∈ prodsT t n l) : p ∈ lowP t := by
  rcases a with ⟨i, hi, e, rfl⟩ | ⟨hn, hh, rfl⟩
  · exact in_lowA hi e hp
  · exact in_lowB hn hh hp
theorem LeftS.of {t : Te} (rt : RTe t) {p : Pr} (hp : p ∈ lowP t) : ∃ n, n < t.nodes.length ∧ LeftS t n p.left ∧ p ∈ prodsT t n p.left := by
  rcases List.mem_append.1 hp with h | h
  · obtain ⟨i, hi, h⟩ := List.mem_flatMap.1 h
    rw [List.mem_range] at hi
    have hg : t.rules.getD i ⟨[], 0⟩ = t.rules[i] := by simp [List.getD_eq_getElem?_getD, hi]
    rw [hg] at h
    have hb := rt.body (List.getElem_mem hi)
    have hl := prodsT_left _ _ _ _ h
    rw [hl]
    exact ⟨_, by omega, .inl ⟨i, hi, by omega, rfl⟩, h⟩
  · obtain ⟨n, hn, h⟩ := List.mem_flatMap.1 h
    rw [List.mem_range] at hn
    split at h
    · rename_i hh
      have hl := prodsT_left _ _ _ _ h
      rw [hl]
      exact ⟨n, hn, .inr ⟨hn, hh, rfl⟩, h⟩
    · simp at h
theorem DvN.prod {t : Te} {w : List Int} {n : Nat} {l : Int} (a : LeftS t n l) {r : List Sy} (hp : (⟨l, r⟩ : Pr) ∈ prodsT t n l) {x y : Nat} (d : Dv (lowG t) w r x y) : DvN (lowG t) w l x y :=
  DvN.iff.2 ⟨⟨l, r⟩, a.prod hp, rfl, d⟩
/-- What a node means, by what its nonterminals come to. -/
def PN (t : Te) (w : List Int) (n a b : Nat) : Prop := ∀ h : n < t.nodes.length,
  (6 ≤ t.nodes[n].kind → Dv (lowG t) w [symT t n] a b) ∧ (t.nodes[n].kind ≤ 5 → ∀ l, LeftS t n l → DvN (lowG t) w l a b) ∧ (t.nodes[n].kind = 1 → Dv (lowG t) w (symsT t t.nodes[n].kids) a b)
theorem symT_at {t : Te} {n : Nat} (h : n < t.nodes.length) : symT t n = if t.nodes[n].kind = 7 then ⟨false, plc t.nodes[n].name (termsT t) 0⟩ else if t.nodes[n].kind = 6 then ⟨true, plc t.nodes[n].name (rnames t) 0⟩ else ⟨true, ownN t n⟩ := by
  unfold symT; rw [List.getElem?_eq_getElem h]
theorem PN.kid {t : Te} (rt : RTe t) {w : List Int} {n k : Nat} (hn : n < t.nodes.length) (hk : k < t.nodes.length) (hm : (k : Int) ∈ t.nodes[n].kids) (hc : ¬ (t.nodes[n].kind = 2 ∧ t.nodes[k].kind = 1)) {a b : Nat} (p : PN t w k a b) : Dv (lowG t) w [symT t k] a b := by
  obtain ⟨p1, p2, p3⟩ := p hk
  by_cases h6 : 6 ≤ t.nodes[k].kind
  · exact p1 h6
  · have hh := kid_has rt hn hm hk (by omega) hc
    have := p2 (by omega) _ (.inr ⟨hk, hh, rfl⟩)
    rw [symT_at hk, if_neg (by omega), if_neg (by omega)]
    exact this
theorem ref_body {t : Te} (rt : RTe t) {s : Str} (hm : s ∈ rnames t) : ∃ j, ∃ h : j < t.rules.length, plc s (rnames t) 0 = j ∧ t.rules[j].body = (bodyN t s : Nat) ∧ bodyN t s < t.nodes.length := by
  have hp := plc_fnd s (rnames t) 0
  cases hf : fndS s (rnames t) with
  | none => exact absurd hm (fndS_none.1 hf)
  | some j =>
    rw [hf] at hp
    simp only [Nat.zero_add] at hp
    have hj : j < t.rules.length := by have := fndS_lt hf; simpa [rnames] using this
    have hb := rt.body (List.getElem_mem hj)
    have hgj : t.rules.getD j ⟨[], 0⟩ = t.rules[j] := by simp [List.getD_eq_getElem?_getD, hj]
    have hbd : bodyN t s = t.rules[j].body.toNat := by unfold bodyN; rw [hp, Int.toNat_natCast, hgj]
    exact ⟨j, hj, hp, by omega, by omega⟩
/-- A rule's body means what the rule's number comes to. -/
theorem PN.body {t : Te} (rt : RTe t) {w : List Int} {n i : Nat} (hn : n < t.nodes.length) (hi : i < t.rules.length) (hb : t.rules[i].body = n) {a b : Nat} (p : PN t w n a b) : DvN (lowG t) w i a b := by
  obtain ⟨p1, p2, p3⟩ := p hn
  have hl : LeftS t n i := .inl ⟨i, hi, hb, rfl⟩
  by_cases h6 : 6 ≤ t.nodes[n].kind
  · refine DvN.prod hl ?_ (p1 h6)
    unfold prodsT
    rw [List.getElem?_eq_getElem hn]
    simp only
    rw [if_pos h6]; simp
  · exact p2 (by omega) _ hl
theorem rowM_dv {t : Te} {w : List Int} {M : Tb} : ∀ (ks : List Int) (a b : Nat), (∀ k ∈ ks, ∀ a b, M k.toNat a b = true → a ≤ w.length → Dv (lowG t) w [symT t k.toNat] a b) → a ≤ w.length → RowR w.length (ks.map fun k => M k.toNat) a b → Dv (lowG t) w (symsT t ks) a b
  | [], a, b, _, ha, h => by cases h; exact .nil _ ha
  | k :: ks, a, b, h0, ha, ⟨m, h1, h2, h3, h4⟩ => by
    have ih := rowM_dv ks m b (fun s hs => h0 s (by simp [hs])) h2 h4
    exact (h0 k (by simp) a m h3 ha).app ih
theorem StepP_low {t : Te} (rt : RTe t) (w : List Int) : StepP t (termsT t) w (PN t w) := by
  intro M so n hn a b ha hb hm hn'
  have hkd := fineT_kind (rt.fine _ (List.getElem_mem hn))
  have hin := rt.in hn
  have kidS : ∀ k ∈ t.nodes[n].kids, ¬ (t.nodes[n].kind = 2 ∧ (t.nodes.getD k.toNat ⟨0, [], []⟩).kind = 1) → ∀ a b, M k.toNat a b = true → Dv (lowG t) w [symT t k.toNat] a b := fun k hk hc a b h => by
    have h0 := hin k hk
    have hk' : k.toNat < t.nodes.length := by omega
    have hg : t.nodes.getD k.toNat ⟨0, [], []⟩ = t.nodes[k.toNat] := by simp [List.getD_eq_getElem?_getD, hk']
    rw [hg] at hc
    exact (so _ _ _ h).kid rt hn hk' (by rw [show ((k.toNat : Nat) : Int) = k by omega]; exact hk) hc
  have single : (3 ≤ t.nodes[n].kind ∧ t.nodes[n].kind ≤ 5) → ∃ c : Nat, t.nodes[n].kids = [(c : Int)] ∧ t.nodes[n].kids.headD 0 = (c : Int) ∧ ∀ a b, M c a b = true → Dv (lowG t) w [symT t c] a b := fun q => by
    have hl : t.nodes[n].kids.length = 1 := by omega
    obtain ⟨c, hc⟩ : ∃ c, t.nodes[n].kids = [c] := by
      match hx : t.nodes[n].kids, hl with
      | [c], _ => exact ⟨c, rfl⟩
    have h0 := hin c (by rw [hc]; simp)
    have := kidS c (by rw [hc]; simp) (fun e => by omega)
    exact ⟨c.toNat, by rw [hc]; congr 1; omega, by rw [hc]; simp; omega, this⟩
  have hpr : ∀ l, prodsT t n l = if 6 ≤ t.nodes[n].kind then [⟨l, [symT t n]⟩] else if t.nodes[n].kind = 1 then [⟨l, symsT t t.nodes[n].kids⟩] else if t.nodes[n].kind = 2 then t.nodes[n].kids.map (altP t l)
    else if t.nodes[n].kind = 3 then [⟨l, [symT t (t.nodes[n].kids.headD 0).toNat, ⟨true, l⟩]⟩, ⟨l, []⟩]
    else if t.nodes[n].kind = 4 then [⟨l, [symT t (t.nodes[n].kids.headD 0).toNat, ⟨true, l⟩]⟩, ⟨l, [symT t (t.nodes[n].kids.headD 0).toNat]⟩]
    else [⟨l, [symT t (t.nodes[n].kids.headD 0).toNat]⟩, ⟨l, []⟩] := fun l => by unfold prodsT; rw [List.getElem?_eq_getElem hn]
  have star : ∀ l, LeftS t n l → ∀ c : Nat, (∀ a b, M c a b = true → Dv (lowG t) w [symT t c] a b) → (⟨l, [symT t c, ⟨true, l⟩]⟩ : Pr) ∈ prodsT t n l → ∀ {m}, StarR w.length (M c) a m → ∀ b, DvN (lowG t) w l m b → DvN (lowG t) w l a b := fun l hl c hc hp m s => by
    induction s with
    | refl => exact fun b d => d
    | snoc m b h h1 h2 h3 ih => exact fun e d => ih _ (DvN.prod hl hp (Dv.app (ss := [symT t c]) (hc _ _ h3) d))
  unfold mF at hm
  have hsy := symT_at hn
  by_cases k7 : t.nodes[n].kind = 7
  · rw [if_pos k7] at hm
    refine ⟨fun _ => ?_, fun e => by omega, fun e => by omega⟩
    rw [hsy, if_pos k7]
    unfold tokM at hm
    simp only [Bool.and_eq_true, decide_eq_true_eq] at hm
    obtain ⟨rfl, e⟩ := hm
    obtain ⟨hlt, e⟩ := List.getElem?_eq_some_iff.1 e
    exact (Dv.cons_tok rfl).2 ⟨hlt, e, .nil _ hlt⟩
  rw [if_neg k7] at hm
  by_cases k6 : t.nodes[n].kind = 6
  · rw [if_pos k6] at hm
    refine ⟨fun _ => ?_, fun e => by omega, fun e => by omega⟩
    have hmem : t.nodes[n].name ∈ rnames t := by rcases hkd with q | q | q | q | q <;> first | exact q.2.2 | omega
    obtain ⟨j, hj, e1, e2, e3⟩ := ref_body rt hmem
    rw [hsy, if_neg k7, if_pos k6, e1]
    exact PN.body rt e3 hj e2 (so _ _ _ hm)
  rw [if_neg k6] at hm
  by_cases k1 : t.nodes[n].kind = 1
  · rw [if_pos k1] at hm
    obtain ⟨a', ha', h1, h2⟩ := (foldR_iff _ _ b hb).1 hm
    simp at h1; subst h1
    have hd : Dv (lowG t) w (symsT t t.nodes[n].kids) a' b := rowM_dv _ _ _ (fun k hk a b h _ => kidS k hk (fun e => by omega) a b h) ha h2
    refine ⟨fun e => by omega, fun _ l hl => DvN.prod hl ?_ hd, fun _ => hd⟩
    rw [hpr, if_neg (by omega), if_pos k1]; simp
  rw [if_neg k1] at hm
  refine ⟨fun e => by omega, fun _ l hl => ?_, fun e => absurd e k1⟩
  by_cases k3 : t.nodes[n].kind = 3
  · rw [if_pos k3] at hm
    obtain ⟨c, _, hc, hs⟩ := single (by omega)
    rw [hc, Int.toNat_natCast] at hm
    have hp := hpr l
    rw [if_neg (by omega), if_neg k1, if_neg (by omega), if_pos k3, hc, Int.toNat_natCast] at hp
    exact star l hl c hs (by rw [hp]; simp) (starB_iff.1 hm) b (DvN.prod hl (r := []) (by rw [hp]; simp) (.nil _ hb))
  rw [if_neg k3] at hm
  by_cases k4 : t.nodes[n].kind = 4
  · rw [if_pos k4] at hm
    obtain ⟨c, _, hc, hs⟩ := single (by omega)
    rw [hc, Int.toNat_natCast] at hm
    have hp := hpr l
    rw [if_neg (by omega), if_neg k1, if_neg (by omega), if_neg k3, if_pos k4, hc, Int.toNat_natCast] at hp
    obtain ⟨a', ha', h1, m, h2, h3, h4, m2, h5, h6, h7, h8⟩ := (foldR_iff _ _ b hb).1 hm
    simp at h1; subst h1
    cases h8
    have one : ∀ {x y}, M c x y = true → DvN (lowG t) w l x y := fun h => DvN.prod hl (r := [symT t c]) (by rw [hp]; simp) (hs _ _ h)
    have hcons : ∀ {x y z}, M c x y = true → DvN (lowG t) w l y z → DvN (lowG t) w l x z := fun h d => DvN.prod hl (r := [symT t c, ⟨true, l⟩]) (by rw [hp]; simp) (Dv.app (ss := [symT t c]) (hs _ _ h) d)
    have go : ∀ {x y}, StarR w.length (M c) x y → ∀ z, DvN (lowG t) w l y z → DvN (lowG t) w l x z := fun s => by
      induction s with
      | refl => exact fun b d => d
      | snoc m b h h1 h2 h3 ih => exact fun e d => ih _ (hcons h3 d)
    cases starB_iff.1 h7 with
    | refl => exact one h4
    | snoc m' _ s _ _ h => exact hcons h4 (go s _ (one h))
  rw [if_neg k4] at hm
  simp only [Bool.or_eq_true, Bool.and_eq_true, decide_eq_true_eq, List.any_eq_true] at hm
  by_cases k2 : t.nodes[n].kind = 2
  · rcases hm with ⟨e, _⟩ | ⟨k, hk, h⟩
    · omega
    · have h0 := hin k hk
      have hk' : k.toNat < t.nodes.length := by omega
      have hp : altP t l k ∈ prodsT t n l := by rw [hpr, if_neg (by omega), if_neg k1, if_pos k2]; exact List.mem_map.2 ⟨k, hk, rfl⟩
      unfold altP at hp
      rw [List.getElem?_eq_getElem hk'] at hp
      simp only at hp
      have hg : t.nodes.getD k.toNat ⟨0, [], []⟩ = t.nodes[k.toNat] := by simp [List.getD_eq_getElem?_getD, hk']
      split at hp
      · rename_i c
        exact DvN.prod hl hp ((so _ _ _ h hk').2.2 c)
      · rename_i c
        exact DvN.prod hl hp (kidS k hk (fun e => c (by rw [← hg]; exact e.2)) _ _ h)
  · obtain ⟨c, hcs, hc, hs⟩ := single (by omega)
    have hp := hpr l
    rw [if_neg (by omega), if_neg k1, if_neg k2, if_neg k3, if_neg k4, hc, Int.toNat_natCast] at hp
    rcases hm with ⟨_, e⟩ | ⟨k, hk, h⟩
    · subst e
      exact DvN.prod hl (r := []) (by rw [hp]; simp) (.nil _ hb)
    · rw [hcs] at hk
      simp at hk
      subst hk
      exact DvN.prod hl (r := [symT t c]) (by rw [hp]; simp) (hs _ _ (by simpa using h))
/-- Of each nonterminal: what its node means. -/
noncomputable def tabL (t : Te) (w : List Int) (M : Tb) (l a b : Nat) : Bool := @decide (∃ n, ∃ h : n < t.nodes.length, LeftS t n (l : Int) ∧ mF t (termsT t) w M t.nodes[n] a b = true) (Classical.propDecidable _)
theorem tabL_iff {t : Te} {w : List Int} {M : Tb} {l a b : Nat} : tabL t w M l a b = true ↔ ∃ n, ∃ h : n < t.nodes.length, LeftS t n (l : Int) ∧ mF t (termsT t) w M t.nodes[n] a b = true := by
  unfold tabL; exact @decide_eq_true_iff _ (Classical.propDecidable _)
theorem StarR.cons {L : Nat} {c : Nat → Nat → Bool} {a m b : Nat} (h1 : a ≤ m) (h2 : m ≤ L) (h3 : c a m = true) (s : StarR L c m b) : StarR L c a b := by
  induction s with
  | refl => exact .snoc _ _ _ (.refl _) h1 h2 h3
  | snoc m' b h h1' h2' h3' ih => exact .snoc _ _ _ ih h1' h2' h3'
theorem rowM_of {t : Te} {w : List Int} {M : Tb} : ∀ (ks : List Int) (a b : Nat), (∀ k ∈ ks, ∀ a b, a ≤ w.length → b ≤ w.length → symC2 w (tabL t w M) (symT t k.toNat) a b = true → M k.toNat a b = true) → a ≤ w.length → RowR w.length ((symsT t ks).map (symC2 w (tabL t w M))) a b → RowR w.length (ks.map fun k => M k.toNat) a b
  | [], a, b, _, ha, h => h
  | k :: ks, a, b, h0, ha, ⟨m, h1, h2, h3, h4⟩ => ⟨m, h1, h2, h0 k (by simp) a m ha h2 h3, rowM_of ks m b (fun s hs => h0 s (by simp [hs])) h2 h4⟩
theorem tab_complete {t : Te} (rt : RTe t) {w : List Int} {M : Tb} (ho : HoldsT t (termsT t) w M) {p : Pr} (hp : p ∈ lowP t) {a b : Nat} (ha : a ≤ w.length) (hr : RowR w.length (p.right.map (symC2 w (tabL t w M))) a b) : tabL t w M p.left.toNat a b = true := by
  have hb := (RowR.le ha hr).2
  obtain ⟨n, hn, hl, hpn⟩ := LeftS.of rt hp
  have hl0 : 0 ≤ p.left := by
    rcases hl with ⟨i, _, _, e⟩ | ⟨_, hh, e⟩
    · omega
    · rw [ownN_has hh] at e; omega
  rw [tabL_iff]
  have hlc : ((p.left.toNat : Nat) : Int) = p.left := by omega
  refine ⟨n, hn, by rw [hlc]; exact hl, ?_⟩
  have hkd := fineT_kind (rt.fine _ (List.getElem_mem hn))
  have hin := rt.in hn
  have k15 : ¬ 6 ≤ t.nodes[n].kind → (¬ t.nodes[n].kind = 7 ∧ ¬ t.nodes[n].kind = 6) ∧ (¬ t.nodes[n].kind = 1 → ¬ t.nodes[n].kind = 2 → ¬ t.nodes[n].kind = 3 → ¬ t.nodes[n].kind = 4 → t.nodes[n].kind = 5) := fun h => ⟨⟨by omega, by omega⟩, fun a b c d => by omega⟩
  have num : ∀ {m : Nat} {l : Int} (hm : m < t.nodes.length), 0 ≤ l → LeftS t m l → ∀ {a b}, symC2 w (tabL t w M) ⟨true, l⟩ a b = true → mF t (termsT t) w M t.nodes[m] a b = true := fun {m l} hm h0 hl a b h => by
    unfold symC2 at h
    rw [if_pos rfl] at h
    obtain ⟨n', hn', hl', h⟩ := tabL_iff.1 h
    simp only at hl'
    rw [show ((l.toNat : Nat) : Int) = l by omega] at hl'
    obtain rfl := hl.inj hl'
    exact h
  have two : ∀ {m : Nat} (hm : m < t.nodes.length), 6 ≤ t.nodes[m].kind → ∀ {a b}, a ≤ w.length → b ≤ w.length → symC2 w (tabL t w M) (symT t m) a b = true → mF t (termsT t) w M t.nodes[m] a b = true := fun {m} hm h6 a b ha hb h => by
    have hkd := fineT_kind (rt.fine _ (List.getElem_mem hm))
    have hsy := symT_at hm
    unfold mF
    by_cases k7 : t.nodes[m].kind = 7
    · rw [if_pos k7] at hsy ⊢
      rw [hsy] at h
      unfold symC2 at h
      rw [if_neg (by simp)] at h
      exact h
    · have k6 : t.nodes[m].kind = 6 := by omega
      have hmem : t.nodes[m].name ∈ rnames t := by rcases hkd with q | q | q | q | q <;> first | exact q.2.2 | omega
      obtain ⟨j, hj, e1, e2, e3⟩ := ref_body rt hmem
      rw [if_neg k7, if_pos k6, e1] at hsy
      rw [if_neg k7, if_pos k6]
      rw [hsy] at h
      exact ho _ e3 _ _ (by omega) hb (num e3 (by omega) (.inl ⟨j, hj, e2, rfl⟩) h)
  have kidS : ∀ {n : Nat} (hn : n < t.nodes.length), ∀ k ∈ t.nodes[n].kids, ¬ (t.nodes[n].kind = 2 ∧ (t.nodes.getD k.toNat ⟨0, [], []⟩).kind = 1) → ∀ a b, a ≤ w.length → b ≤ w.length → symC2 w (tabL t w M) (symT t k.toNat) a b = true → M k.toNat a b = true := fun {n} hn k hk hc a b ha hb h => by
    have h0 := rt.in hn k hk
    have hk' : k.toNat < t.nodes.length := by omega
    have hg : t.nodes.getD k.toNat ⟨0, [], []⟩ = t.nodes[k.toNat] := by simp [List.getD_eq_getElem?_getD, hk']
    rw [hg] at hc
    refine ho _ hk' _ _ (by omega) hb ?_
    by_cases h6 : 6 ≤ t.nodes[k.toNat].kind
    · exact two hk' h6 ha hb h
    · have hh := kid_has rt hn (by rw [show ((k.toNat : Nat) : Int) = k by omega]; exact hk) hk' (by omega) hc
      rw [symT_at hk', if_neg (by omega), if_neg (by omega)] at h
      exact num hk' (by rw [ownN_has hh]; omega) (.inr ⟨hk', hh, rfl⟩) h
  have single : (3 ≤ t.nodes[n].kind ∧ t.nodes[n].kind ≤ 5) → ∃ c : Nat, t.nodes[n].kids = [(c : Int)] ∧ t.nodes[n].kids.headD 0 = (c : Int) ∧ ∀ a b, a ≤ w.length → b ≤ w.length → symC2 w (tabL t w M) (symT t c) a b = true → M c a b = true := fun q => by
    have hl : t.nodes[n].kids.length = 1 := by omega
    obtain ⟨c, hc⟩ : ∃ c, t.nodes[n].kids = [c] := by
      match hx : t.nodes[n].kids, hl with
      | [c], _ => exact ⟨c, rfl⟩
    have h0 := hin c (by rw [hc]; simp)
    have := kidS hn c (by rw [hc]; simp) (fun e => by omega)
    exact ⟨c.toNat, by rw [hc]; congr 1; omega, by rw [hc]; simp; omega, this⟩
  have hpr : ∀ l, prodsT t n l = if 6 ≤ t.nodes[n].kind then [⟨l, [symT t n]⟩] else if t.nodes[n].kind = 1 then [⟨l, symsT t t.nodes[n].kids⟩] else if t.nodes[n].kind = 2 then t.nodes[n].kids.map (altP t l)
    else if t.nodes[n].kind = 3 then [⟨l, [symT t (t.nodes[n].kids.headD 0).toNat, ⟨true, l⟩]⟩, ⟨l, []⟩]
    else if t.nodes[n].kind = 4 then [⟨l, [symT t (t.nodes[n].kids.headD 0).toNat, ⟨true, l⟩]⟩, ⟨l, [symT t (t.nodes[n].kids.headD 0).toNat]⟩]
    else [⟨l, [symT t (t.nodes[n].kids.headD 0).toNat]⟩, ⟨l, []⟩] := fun l => by unfold prodsT; rw [List.getElem?_eq_getElem hn]
  obtain ⟨l, r⟩ := p
  simp only at hl hl0 hr hpn
  have hp' := hpr l
  by_cases h6 : 6 ≤ t.nodes[n].kind
  · rw [hp', if_pos h6] at hpn
    simp at hpn
    subst hpn
    obtain ⟨m, h1, h2, h3, h4⟩ := hr
    cases h4
    exact two hn h6 ha hb h3
  rw [if_neg h6] at hp'
  obtain ⟨⟨n7, n6⟩, k15⟩ := k15 h6
  unfold mF
  rw [if_neg (by omega), if_neg (by omega)]
  by_cases k1 : t.nodes[n].kind = 1
  · rw [hp', if_pos k1] at hpn
    simp at hpn
    subst hpn
    rw [if_pos k1]
    exact (foldR_iff _ _ b hb).2 ⟨a, ha, by simp, rowM_of _ _ _ (fun k hk => kidS hn k hk (fun e => by omega)) ha hr⟩
  rw [if_neg k1] at hp' ⊢
  by_cases k2 : t.nodes[n].kind = 2
  · rw [hp', if_pos k2] at hpn
    obtain ⟨k, hk, hpk⟩ := List.mem_map.1 hpn
    rw [if_neg (by omega), if_neg (by omega)]
    simp only [Bool.or_eq_true, List.any_eq_true]
    have h0 := hin k hk
    have hk' : k.toNat < t.nodes.length := by omega
    have hg : t.nodes.getD k.toNat ⟨0, [], []⟩ = t.nodes[k.toNat] := by simp [List.getD_eq_getElem?_getD, hk']
    refine .inr ⟨k, hk, ?_⟩
    unfold altP at hpk
    rw [List.getElem?_eq_getElem hk'] at hpk
    simp only at hpk
    split at hpk
    · rename_i c
      cases hpk
      refine ho _ hk' _ _ (by omega) hb ?_
      unfold mF
      rw [if_neg (by omega), if_neg (by omega), if_pos c]
      exact (foldR_iff _ _ b hb).2 ⟨a, ha, by simp, rowM_of _ _ _ (fun k2 hk2 => kidS hk' k2 hk2 (fun e => by omega)) ha hr⟩
    · rename_i c
      cases hpk
      obtain ⟨m, h1, h2, h3, h4⟩ := hr
      cases h4
      exact kidS hn k hk (fun e => c (by rw [← hg]; exact e.2)) a b ha hb h3
  rw [if_neg k2] at hp'
  obtain ⟨c, hcs, hc, hs⟩ := single (by omega)
  rw [hc, Int.toNat_natCast] at hp'
  by_cases k3 : t.nodes[n].kind = 3
  · rw [hp', if_pos k3] at hpn
    rw [if_pos k3, hc, Int.toNat_natCast, starB_iff]
    simp at hpn
    rcases hpn with rfl | rfl
    · obtain ⟨m, h1, h2, h3, m2, h4, h5, h6, h7⟩ := hr
      cases h7
      have := num hn hl0 hl h6
      unfold mF at this
      rw [if_neg n7, if_neg n6, if_neg k1, if_pos k3, hc, Int.toNat_natCast, starB_iff] at this
      exact .cons h1 h2 (hs _ _ ha h2 h3) this
    · cases hr; exact .refl _
  rw [if_neg k3] at hp' ⊢
  by_cases k4 : t.nodes[n].kind = 4
  · rw [hp', if_pos k4] at hpn
    rw [if_pos k4, hc, Int.toNat_natCast]
    simp at hpn
    rcases hpn with rfl | rfl
    · obtain ⟨m, h1, h2, h3, m2, h4, h5, h6, h7⟩ := hr
      cases h7
      have := num hn hl0 hl h6
      unfold mF at this
      rw [if_neg n7, if_neg n6, if_neg k1, if_neg k3, if_pos k4, hc, Int.toNat_natCast, foldR_iff _ _ b hb] at this
      obtain ⟨x, hx, e, y, y1, y2, y3, z, z1, z2, z3, z4⟩ := this
      simp at e; subst e
      cases z4
      exact (foldR_iff _ _ b hb).2 ⟨a, ha, by simp, x, h1, h2, hs _ _ ha h2 h3, b, h4, hb, starB_iff.2 (.cons y1 y2 y3 (starB_iff.1 z3)), rfl⟩
    · obtain ⟨m, h1, h2, h3, h4⟩ := hr
      cases h4
      exact (foldR_iff _ _ b hb).2 ⟨a, ha, by simp, b, h1, hb, hs _ _ ha hb h3, b, Nat.le_refl _, hb, starB_iff.2 (.refl _), rfl⟩
  rw [if_neg k4] at hp' ⊢
  have k5 : t.nodes[n].kind = 5 := k15 k1 k2 k3 k4
  rw [hp'] at hpn
  simp at hpn
  simp only [Bool.or_eq_true, Bool.and_eq_true, decide_eq_true_eq, List.any_eq_true]
  rcases hpn with rfl | rfl
  · obtain ⟨m, h1, h2, h3, h4⟩ := hr
    cases h4
    exact .inr ⟨c, by rw [hcs]; simp, by simpa using hs _ _ ha hb h3⟩
  · cases hr; exact .inl ⟨k5, rfl⟩
/-- The tree and its grammar answer alike. -/
theorem means_in {t : Te} (rt : RTe t) {N : Nat} (gw : GW (lowG t) N) (w : List Int) (M : Tb) (so : SoundP (PN t w) M) (ho : HoldsT t (termsT t) w M) : M (t.rules[0]'(by have := rt.r0; omega)).body.toNat 0 w.length = inG (lowG t) w := by
  have r0 := rt.r0
  have hb := rt.body (List.getElem_mem (show 0 < t.rules.length by omega))
  have hbn : t.rules[0].body = ((t.rules[0].body.toNat : Nat) : Int) := by omega
  have hlt : t.rules[0].body.toNat < t.nodes.length := by omega
  refine Bool.eq_iff_iff.2 ⟨fun h => ?_, fun h => ?_⟩
  · exact dvB_iff.2 (PN.body rt hlt (by omega) hbn (so _ _ _ h))
  · have d := dvB_iff.1 h
    have := row_complete (N := N) (M := tabL t w M) gw.left (fun p hp a b ha hr => tab_complete rt ho hp ha hr) d
    obtain ⟨m, _, _, h3, h4⟩ := this
    cases h4
    unfold symC2 at h3
    rw [if_pos rfl] at h3
    obtain ⟨n, hn, hl, hm⟩ := tabL_iff.1 h3
    have : n = t.rules[0].body.toNat := hl.inj (.inl ⟨0, by omega, hbn, rfl⟩)
    subst this
    exact ho _ hn _ _ (by omega) (Nat.le_refl _) hm
end Go.Proofs.Ytmobijebjkjnoaa.Al
namespace Go.Proofs.Ytmobijebjkjnoaa.Al
open Go Go.RowKit
set_option linter.unusedSimpArgs false
set_option linter.unusedVariables false
attribute [-simp] List.getD_eq_getElem?_getD Int.not_lt Int.not_le List.map_take List.map_map
theorem gw_of {g : Gm} (h : rightG g = true) : GW g g.nons.toNat := by
  obtain ⟨⟨h1, h2, h3, h4, h5, h6, h7⟩, hp⟩ := rightG_iff.1 h
  refine ⟨by omega, by omega, by omega, fun p q => ?_, fun p q => ?_, fun p q s hs => ?_⟩
  · obtain ⟨a, b, c, d⟩ := hp p q; omega
  · obtain ⟨a, b, c, d⟩ := hp p q; omega
  · obtain ⟨a, b, c, d⟩ := hp p q
    obtain ⟨e, f⟩ := d s hs
    refine ⟨e, fun hn => ?_⟩
    rw [if_pos hn] at f
    omega
/-- A word of terminals, from bytes. -/
def wordB (T : Nat) (l : List Nat) : List Int := if 0 < T then l.map fun x : Nat => (x : Int).tmod T else []
theorem wordB_len (T : Nat) (l : List Nat) : (wordB T l).length ≤ l.length := by unfold wordB; split <;> simp
section
variable {X : Cx} {h : AH} {Q : V → AH → Prop}
theorem meansLL0 (g : Gm) {T : Nat} (hT : g.terms = (T : Int)) (hTb : T ≤ 16) (bs : List Nat) (hb : ∀ x ∈ bs, x < 256) (hbl : bs.length ≤ 2 ^ 10) {o5 : Nat} {v2 v6 : V} {e1 s1 : Nat} (he1 : bs = [] ∨ e1 = 1) {h' : AH} (gr : Gr h h') (ho : h'.objs o5 = gmC g) {Q : Ex → Env → AH → Prop} {zQ : Lz Q} {z : Lz (AC.loop A.probatelaw08_LowerMeans.L0)}
    (hQ : ∀ h2 e8 s8, Gr h h2 → h2.objs = h'.objs → (wordB T bs = [] ∨ e8 = 1) → Q (.exit 0) [(2, v2), (5, .ptr o5 0), (6, v6), (8, .sl e8 s8 (ints (wordB T bs))), (37, .sl e1 s1 (u8s bs)), (38, .int .i64 bs.length), (39, .int .i64 bs.length), (40, .bool false)] h2) :
    acZ (Ecx X) [(2, v2), (5, .ptr o5 0), (6, v6), (8, .sl 0 1 []), (37, .sl e1 s1 (u8s bs)), (38, .int .i64 bs.length), (39, .int .i64 0)] h' z zQ := by
  have hgc : gmC g = [.int .i64 (T : Int), .int .i64 g.nons, .int .i64 g.start, .sl 2 0 (g.prods.map prV)] := by rw [← hT]; rfl
  refine loopI (n := bs.length) (fun mm env h2 => ∃ k e8 s8, k ≤ bs.length ∧ mm = bs.length - k ∧ Own h h2 1 e8 s8 (ints (wordB T (bs.take k))) ∧ h2.objs = h'.objs ∧
      env = [(2, v2), (5, .ptr o5 0), (6, v6), (8, .sl e8 s8 (ints (wordB T (bs.take k)))), (37, .sl e1 s1 (u8s bs)), (38, .int .i64 bs.length), (39, .int .i64 k)]) ?_
    ⟨0, 0, 1, by omega, by omega, by
      have : wordB T (bs.take 0) = [] := by unfold wordB; simp
      rw [this]; exact ⟨gr, .inl rfl, .inl rfl⟩, rfl, by
      have : wordB T (bs.take 0) = [] := by unfold wordB; simp
      rw [this]; rfl⟩
  rintro mm env h2 ⟨k, e8, s8, hk, rfl, ow, ob, rfl⟩
  unfold A.probatelaw08_LowerMeans.L0
  by_cases hlt : k < bs.length
  · have hlt' : (k : Int) < bs.length := by omega
    have hw1 : IntKind.i64.wrap ((k : Int) + 1) = ((k + 1 : Nat) : Int) := by rw [wrap_i64 (by omega) (by omega)]; rfl
    have hx := hb _ (List.getElem_mem hlt)
    have he : e1 = 1 := he1.resolve_left (fun q => by rw [q] at hlt; simp at hlt)
    have hgk : (u8s bs).getD k .undef = .int .u8 bs[k] := by simp [u8s, u8, List.getD_eq_getElem?_getD, hlt]
    have hul : (u8s bs).length = bs.length := by simp [u8s]
    have hcv : IntKind.i64.wrap (bs[k] : Int) = bs[k] := wrap_i64 (by omega) (by omega)
    have htk := List.take_succ_eq_append_getElem hlt
    have q5 : h2.objs o5 = gmC g := by rw [ob]; exact ho
    subst he
    by_cases c : 0 < T
    · have c' : (0 : Int) < T := by omega
      have c0 : ¬ (T : Int) = 0 := by omega
      have c1 : ¬ T = 0 := by omega
      have hwt : wordB T (bs.take (k + 1)) = wordB T (bs.take k) ++ [(bs[k] : Int).tmod T] := by unfold wordB; rw [if_pos c, if_pos c, htk, List.map_append]; rfl
      have hwl := wordB_len T (bs.take k)
      rw [List.length_take] at hwl
      simp [hlt', hul, hlt, hgk, V.cells, q5, hgc, c', c, c0, c1, hcv]
      refine ow.appZ (fun _ => rfl) (by simp [ints]; omega) fun e2 st2 h3 o3 ob3 no3 => ?_
      rw [show ints (wordB T (bs.take k)) ++ [V.int IntKind.i64 ((bs[k] : Int).tmod T)] = ints (wordB T (bs.take (k + 1))) by rw [hwt]; simp [ints]] at o3 ⊢
      simp [hw1]
      exact ⟨bs.length - (k + 1), by omega, iv ⟨k + 1, e2, st2, by omega, rfl, o3, by rw [ob3, ob], rfl⟩⟩
    · obtain rfl : T = 0 := by omega
      have hwt : ∀ l, wordB 0 l = [] := fun l => by unfold wordB; simp
      simp only [hwt] at ow ⊢
      simp [hlt', hul, hlt, hgk, V.cells, q5, hgc, hw1]
      exact ⟨bs.length - (k + 1), by omega, iv ⟨k + 1, e8, s8, by omega, rfl, by rw [hwt]; exact ow, ob, by rw [hwt]; rfl⟩⟩
  · have hlt' : ¬ (k : Int) < bs.length := by omega
    obtain rfl : k = bs.length := by omega
    rw [List.take_length] at ow ⊢
    simp [hlt']
    exact hQ h2 e8 s8 ow.gr ob (by
      rcases ow.el with q | q
      · left; simpa [ints] using q
      · exact .inr q)
theorem means8_spec (L : L08 X) (LS : LSp X) (LM : LMn X) (H : Has (Ecx X) K.probatelaw08_LowerMeans A.probatelaw08_LowerMeans) (t : Te) (ok : TeOk t) (bs : List Nat) (hb : ∀ x ∈ bs, x < 256) (hQ : Q (.bool true) h) : Ecx X K.probatelaw08_LowerMeans [teV t, .sl 1 0 (u8s bs)] h Q := by
  refine fn_walk H (by simp [A.probatelaw08_LowerMeans]) fun wf => ?_
  have htc : teC t = [.sl 2 0 (t.rules.map rlV), .sl 3 0 (t.nodes.map ndV)] := rfl
  have gr := (Gr.refl h).new (teC t)
  have b0 : (h.new (teC t)).objs h.nobj = teC t := by simp
  have b1 : (h.new (teC t)).nobj = h.nobj + 1 := by simp
  have hul : (u8s bs).length = bs.length := by simp [u8s]
  simp [A.probatelaw08_LowerMeans, teV, V.cells, V.good]
  generalize h.new (teC t) = h1 at *
  refine ecall (awake8_spec L ?_)
  simp [b0, htc]
  rw [← htc]
  refine ecall (largeT_spec L.large t ok ?_)
  cases hl : largeT t with
  | true =>
    simp
    exact fin_wk gr (.same _) (by simp) hQ
  | false =>
  have sm := sm_of hl
  by_cases c1 : (30 : Int) < t.nodes.length
  · simp [b0, htc, c1]
    exact fin_wk gr (.same _) (by simp) hQ
  by_cases c2 : (6 : Int) < bs.length
  · simp [b0, htc, c1, c2, hul]
    exact fin_wk gr (.same _) (by simp) hQ
  simp [b0, htc, c1, c2, hul]
  rw [← htc]
  have smr := sm.r
  have smn := sm.n
  refine ecall (lower_spec L.lo t (by omega) (by omega) sm.rn sm.nn sm.ks ?_)
  have hrq := right_eq t
  by_cases he : (lowRes t).2.2 = 0
  case neg =>
    have hcase : ∃ e, lowRes t = (⟨0, 0, 0, []⟩, [], e) ∧ e ≠ 0 := by
      unfold lowRes at he ⊢
      cases hR : rightD t with
      | false => exact ⟨1, by simp, by omega⟩
      | true =>
        cases hG : rightG (lowG t) with
        | true => rw [hR, hG] at he; simp at he
        | false => exact ⟨5, by simp, by omega⟩
    obtain ⟨e, hR, hne⟩ := hcase
    have hgZ : gmV ⟨0, 0, 0, []⟩ = .agg [.int .i64 0, .int .i64 0, .int .i64 0, .sl 2 0 []] := rfl
    rw [hR]
    simp [lowV, hgZ, V.cells, V.good, setAt, strs, hne]
    exact fin_wk (gr.new _) (.same _) (by simp) hQ
  have hD : rightD t = true := by
    cases hR : rightD t with
    | true => rfl
    | false => unfold lowRes at he; rw [hR] at he; simp at he
  have hG : rightG (lowG t) = true := by
    cases hG : rightG (lowG t) with
    | true => rfl
    | false => unfold lowRes at he; rw [hD, hG] at he; simp at he
  have rt : RTe t := rte_of (by rw [hrq]; exact hD)
  have hR : lowRes t = (lowG t, termsT t, 0) := by unfold lowRes; rw [hD, hG]; rfl
  have RG := rightG_iff.1 hG
  have gw := gw_of hG
  have hT : (lowG t).terms = ((termsT t).length : Int) := rfl
  have hTb : (termsT t).length ≤ 16 := by have := RG.head.2.1; rw [hT] at this; omega
  have hst : 0 ≤ (lowG t).start ∧ (lowG t).start < (lowG t).nons.toNat := by
    have := RG.head.2.2.2.2.1
    have := RG.head.2.2.2.2.2.1
    omega
  rw [hR]
  have hgc : gmC (lowG t) = [.int .i64 (lowG t).terms, .int .i64 (lowG t).nons, .int .i64 (lowG t).start, .sl 2 0 ((lowG t).prods.map prV)] := rfl
  have n0 : ¬ h.nobj = h1.nobj := by omega
  have gr2 := gr.new (gmC (lowG t))
  have d1 : (h1.new (gmC (lowG t))).objs h1.nobj = gmC (lowG t) := by simp
  have d0 : (h1.new (gmC (lowG t))).objs h.nobj = teC t := by rw [new_objs_ne _ _ n0]; exact b0
  simp [lowV, gmV, V.cells, V.good, hgc, setAt]
  rw [← hgc]
  generalize h1.new (gmC (lowG t)) = h2 at *
  refine meansLL0 (lowG t) hT hTb bs hb (by omega) (.inr rfl) gr2 d1 (fun h3 e8 s8 gr3 ob3 he8 => ?_)
  have hwl := wordB_len (termsT t).length bs
  generalize wordB (termsT t).length bs = w at *
  have q1 : h3.objs h1.nobj = gmC (lowG t) := by rw [ob3]; exact d1
  have q0 : h3.objs h.nobj = teC t := by rw [ob3]; exact d0
  simp [q1, hgc]
  rw [← hgc]
  refine dcall (.bool (inG (lowG t) w)) (in_spec LS (lowG t) w gw hst (by omega) he8 ⟨rfl, rfl⟩) ?_
  simp [q0, htc]
  rw [← htc]
  refine dcall (teV t) (own6_spec L.own t (by omega) (by omega) ⟨rfl, rfl⟩) ?_
  simp
  refine dcall (.bool (inG (lowG t) w)) (Means_spec LM t rt (termsT t) (by omega) w (by omega) (PN t w) (StepP_low rt w) he8 (.inr rfl) _ (fun M so ho => means_in rt gw w M so ho) ⟨rfl, rfl⟩) ?_
  simp
  exact fin_wk gr3 (.same _) (by simp) hQ
end
end Go.Proofs.Ytmobijebjkjnoaa.Al
namespace Go.Proofs.Ytmobijebjkjnoaa.Al
open Go
theorem tie_o_probateref08_none : compFn Try.prog ({ yK with om := fun n => ([24] : List Nat).contains n }) Try.f26 = some A.probateref08_none_o.strip := by kernel_rfl
theorem has_o_probateref08_none (W0 : World) : Has (Ecx (cxOf W0)) K.probateref08_none A.probateref08_none_o := fn_sound (Y := ({ yK with om := fun n => ([24] : List Nat).contains n })) Try.checked.mixed rfl (by exact Try.func26) (by kernel_rfl) tie_o_probateref08_none
theorem tie_o_probateref08_means : compFn Try.prog ({ yK with om := fun n => ([92] : List Nat).contains n }) Try.f27 = some A.probateref08_means_o.strip := by kernel_rfl
theorem has_o_probateref08_means (W0 : World) : Has (Ecx (cxOf W0)) K.probateref08_means A.probateref08_means_o := fn_sound (Y := ({ yK with om := fun n => ([92] : List Nat).contains n })) Try.checked.mixed rfl (by exact Try.func27) (by kernel_rfl) tie_o_probateref08_means
theorem tie_o_probateref08_row : compFn Try.prog ({ yK with om := fun n => ([14, 26] : List Nat).contains n }) Try.f48 = some A.probateref08_row_o.strip := by kernel_rfl
theorem has_o_probateref08_row (W0 : World) : Has (Ecx (cxOf W0)) K.probateref08_row A.probateref08_row_o := fn_sound (Y := ({ yK with om := fun n => ([14, 26] : List Nat).contains n })) Try.checked.mixed rfl (by exact Try.func48) (by kernel_rfl) tie_o_probateref08_row
theorem tie_o_probateref08_star : compFn Try.prog ({ yK with om := fun n => ([13] : List Nat).contains n }) Try.f50 = some A.probateref08_star_o.strip := by kernel_rfl
theorem has_o_probateref08_star (W0 : World) : Has (Ecx (cxOf W0)) K.probateref08_star A.probateref08_star_o := fn_sound (Y := ({ yK with om := fun n => ([13] : List Nat).contains n })) Try.checked.mixed rfl (by exact Try.func50) (by kernel_rfl) tie_o_probateref08_star
end Go.Proofs.Ytmobijebjkjnoaa.Al
namespace Go.Proofs.Ytmobijebjkjnoaa.Al
open Go Go.RowKit
theorem lsp (W : World) : LSp (cxOf W) := ⟨has_o_probateref08_none W, has_probateref08_token W, has_o_probateref08_row W, has_probateref08_Spans W, has_probateref08_In W⟩
theorem lmn (W : World) : LMn (cxOf W) := ⟨has_o_probateref08_none W, has_probateref08_token W, has_o_probateref08_row W, has_o_probateref08_star W, has_probateref08_stars W, has_probateref08_place W, has_probateref08_rule W, has_o_probateref08_means W, has_probateref08_Means W⟩
theorem arg_bytes8 {u : V} (a : Arg Try.prog 43 u) : ∃ l : List Nat, u = .sl 1 0 (u8s l) ∧ l.length ≤ maxLen ∧ ∀ x ∈ l, x < 256 := by
  obtain ⟨l, rfl, hl, h⟩ := arg_sl Try.underlying43 a
  obtain ⟨m, rfl, hm⟩ := list_form (f := u8) (fun v hv => arg_u8 (by kernel_rfl) hv) l h
  rw [show Try.prog.cellsOf 5 = 1 by kernel_rfl]
  exact ⟨m, rfl, by simpa using hl, hm⟩
theorem law_LowerMeans (W : World) {u0 u1 : V} (a0 : Arg Try.prog 25 u0) (a1 : Arg Try.prog 43 u1) : Ecx (cxOf W) K.probatelaw08_LowerMeans [u0, u1] iniH fun r _ => r = .bool true := by
  obtain ⟨t, rfl, ok⟩ := arg_tree a0
  obtain ⟨b, rfl, hbl, hbb⟩ := arg_bytes8 a1
  exact means8_spec (l08 W) (lsp W) (lmn W) (has_probatelaw08_LowerMeans W) t ok b hbb rfl
end Go.Proofs.Ytmobijebjkjnoaa.Al
