/-
  The abstract layer, part 13: a law's call, from its arguments as they are handed in to its one answer. Conditions: the arguments' types are built of numbers, bools, strings, slices and structs.
-/
import Derived.Test.YtajaoldljichaaaAlB
import Derived.WideShapes
import Derived.ChangeAt
namespace Go.Proofs.Ytajaoldljichaaa.Al
open Go Go.RowKit Go.WideShapes
set_option linter.unusedSimpArgs false
set_option linter.unusedVariables false

section
variable {X : Cx}
/-- An argument, read. -/
def Arg (P : Program) (t : TypeId) (u : V) : Prop := Ty P t u.cells ∧ tyAgg P t = some u.isAgg
theorem arg_rel {H : Type} {enc : TypeId × Value → H} {W : World} {base n : Nat} {t : TypeId} {v : Value} {d : DataW H} {ps : List MemPlace} (hW : X.W0 = W) (ho : okTy X.P n t = true) (hv : Value.okWide X.P W .any base t v)
    (ht : DataW.Trod enc X.P W 0 (fun _ => true) true t v d ps) : ∃ u, Rel X (iniG W) W iniH u v ∧ Arg X.P t u := by
  obtain ⟨fuel, ht⟩ := ht
  obtain ⟨l, ⟨r1, r2, r3⟩, ty⟩ := trod_rel W hW fuel n t _ d ps ho ht
  have one : v.cells = #[v] → tyAgg X.P t = some false → ∃ u, Rel X (iniG W) W iniH u v ∧ Arg X.P t u := fun e ha => by
    rw [e] at r1 r3
    obtain ⟨u, rfl⟩ : ∃ u, l = [u] := List.length_eq_one_iff.1 (by simpa using r1)
    have hleaf : u.cells = [u] ∧ u.isAgg = false := by
      cases ty with
      | struct hs _ _ => unfold tyAgg at ha; simp [hs] at ha
      | _ => exact ⟨rfl, rfl⟩
    exact ⟨u, r3 0 (by simp) (by simp), by unfold Arg; rw [hleaf.1, hleaf.2]; exact ⟨ty, ha⟩⟩
  cases n with
  | zero => simp [okTy] at ho
  | succ n =>
    unfold okTy at ho
    cases hu : X.P.underlying t with
    | none => simp [hu] at ho
    | some dd =>
      rw [hu] at ho
      cases dd <;> simp only at ho <;> first | (simp at ho; done) | skip
      case bool => obtain ⟨b, rfl⟩ := okWide_bool hu hv; exact one rfl (by simp [tyAgg, hu])
      case int k => obtain ⟨b, rfl⟩ := okWide_int hu hv; exact one rfl (by simp [tyAgg, hu])
      case string => obtain ⟨b, rfl⟩ := okWide_string hu hv; exact one rfl (by simp [tyAgg, hu])
      case slice e => obtain ⟨a, len, cap, rfl⟩ := okWide_slice hu hv; exact one rfl (by simp [tyAgg, hu])
      case struct fs =>
        obtain ⟨cs, rfl, hs⟩ := okWide_struct hu hv
        simp only [Value.cells] at r1 r2 r3
        exact ⟨.agg l, .agg l cs (by simpa using r1) (fun i h2 => by simpa using r2 i (by simpa using h2)) (fun i h1 h2 => by simpa using r3 i h1 (by simpa using h2)), ty, by simp [tyAgg, hu, V.isAgg]⟩

/-- A law's call. -/
theorem entry {W : World} {k : Nat} {args : List V} {vs : Array Value} {fn : Func} (hW : X.W0 = W) (hZ : ∀ p h, ¬ X.Z p h) (hf : X.P.funcs[X.tbl k]? = some fn) (hn : (fn.name == "runtime.NumGoroutine") = false) (hb : fn.body.isNone = false)
    (c : Ecx X k args iniH fun r _ => r = .bool true) (hr : RelL X (iniG W) W iniH args vs) (hk : FK k := by decide) : Calls X.P (X.tbl k) vs W fun e w' => e = .returned (.bool true) ∧ Below W.heap.size W w' := by
  subst hW
  have fin : ∀ (x : Value) (w' : World), (∃ r h' g', (r = V.bool true) ∧ Inv X g' w' h' ∧ Rel X g' w' h' r x ∧ Stp (iniG X.W0) X.W0 iniH g' w' h') → x = .bool true ∧ Below X.W0.heap.size X.W0 w' := by
    rintro x w' ⟨r, h', g', rfl, I', rx, _⟩
    cases rx
    exact ⟨rfl, I'.below⟩
  rcases c (iniG X.W0) X.W0 vs iniInv hr with ⟨fn', _, h1, h2, h3, h4⟩ | ⟨x, w', _, h1, h2⟩ | ⟨_, t, p, _, h', g', z, _⟩ | ⟨l, _, _, _, _, h1, _⟩
  · exact h4.mono fun e w' c => by
      rcases c with ⟨x, he, r⟩ | ⟨p, he, z⟩
      · obtain ⟨rfl, b⟩ := fin x w' r
        exact ⟨he, b⟩
      · obtain ⟨h', g', z, _⟩ := z
        exact absurd z (hZ p h')
  · exfalso
    have : (callFunc (X.tbl k) vs).run X.P X.W0 = .ok (.enter (X.tbl k) vs) X.W0 := by
      have h2' : ¬ fn.name = "runtime.NumGoroutine" := by simpa using hn
      simp [callFunc, hf, h2', hb]
      cases hbb : fn.body with
      | none => simp [hbb] at hb
      | some b => simp
    rw [this] at h1
    simp at h1
  · exact absurd z (hZ _ h')
  · exact absurd hk.2 (by simp [h1, YK])

theorem relL_nil {g : Gh} {w : World} {h : AH} : RelL X g w h [] #[] := ⟨rfl, fun i h1 => by simp at h1⟩
theorem relL_cons {g : Gh} {w : World} {h : AH} {u : V} {v : Value} {l : List V} {vs : List Value} (r : Rel X g w h u v) (s : RelL X g w h l ⟨vs⟩) : RelL X g w h (u :: l) ⟨v :: vs⟩ := by
  obtain ⟨s1, s2⟩ := s
  refine ⟨by simpa using s1, fun i h1 h2 => ?_⟩
  cases i with
  | zero => exact r
  | succ i => exact s2 i (by simpa using h1) (by simpa using h2)

/-! ### Reading an argument -/
theorem arg_int {P : Program} {t : TypeId} {k : IntKind} {u : V} (h : P.underlying t = some (.int k)) (a : Arg P t u) : ∃ n, u = .int k n ∧ k.min ≤ n ∧ n ≤ k.max := by
  obtain ⟨ty, ag⟩ := a
  have : u.isAgg = false := by simpa [tyAgg, h] using ag.symm
  have hc : u.cells = [u] := by cases u <;> first | rfl | simp [V.isAgg] at this
  rw [hc] at ty
  cases ty with
  | int h' n h1 h2 => rw [h] at h'; injection h' with h'; injection h' with h'; subst h'; exact ⟨n, rfl, h1, h2⟩
  | bool h' b => rw [h] at h'; simp at h'
  | str h' s h1 => rw [h] at h'; simp at h'
  | sl h' l h1 h2 h3 => rw [h] at h'; simp at h'
  | struct h' => rw [h] at h'; simp at h'
theorem arg_bool {P : Program} {t : TypeId} {u : V} (h : P.underlying t = some .bool) (a : Arg P t u) : ∃ b, u = .bool b := by
  obtain ⟨ty, ag⟩ := a
  have : u.isAgg = false := by simpa [tyAgg, h] using ag.symm
  have hc : u.cells = [u] := by cases u <;> first | rfl | simp [V.isAgg] at this
  rw [hc] at ty
  cases ty with
  | bool h' b => exact ⟨b, rfl⟩
  | int h' n h1 h2 => rw [h] at h'; simp at h'
  | str h' s h1 => rw [h] at h'; simp at h'
  | sl h' l h1 h2 h3 => rw [h] at h'; simp at h'
  | struct h' => rw [h] at h'; simp at h'
theorem arg_str {P : Program} {t : TypeId} {u : V} (h : P.underlying t = some .string) (a : Arg P t u) : ∃ s, u = .str s ∧ s.length ≤ maxLen := by
  obtain ⟨ty, ag⟩ := a
  have : u.isAgg = false := by simpa [tyAgg, h] using ag.symm
  have hc : u.cells = [u] := by cases u <;> first | rfl | simp [V.isAgg] at this
  rw [hc] at ty
  cases ty with
  | str h' b h1 => exact ⟨b, rfl, h1⟩
  | bool h' b => rw [h] at h'; simp at h'
  | int h' n h1 h2 => rw [h] at h'; simp at h'
  | sl h' l h1 h2 h3 => rw [h] at h'; simp at h'
  | struct h' => rw [h] at h'; simp at h'
theorem arg_sl {P : Program} {t e : TypeId} {u : V} (h : P.underlying t = some (.slice e)) (a : Arg P t u) : ∃ l, u = .sl (P.cellsOf e) 0 l ∧ l.length ≤ maxLen ∧ ∀ v ∈ l, Arg P e v := by
  obtain ⟨ty, ag⟩ := a
  have : u.isAgg = false := by simpa [tyAgg, h] using ag.symm
  have hc : u.cells = [u] := by cases u <;> first | rfl | simp [V.isAgg] at this
  rw [hc] at ty
  cases ty with
  | sl h' l h1 h2 h3 => rw [h] at h'; injection h' with h'; injection h' with h'; subst h'; exact ⟨l, rfl, h1, fun v hv => ⟨h2 v hv, h3 v hv⟩⟩
  | bool h' b => rw [h] at h'; simp at h'
  | int h' n h1 h2 => rw [h] at h'; simp at h'
  | str h' s h1 => rw [h] at h'; simp at h'
  | struct h' => rw [h] at h'; simp at h'
theorem arg_struct {P : Program} {t : TypeId} {fs : Array Field} {u : V} (h : P.underlying t = some (.struct fs)) (a : Arg P t u) : ∃ l, u = .agg l ∧ Tys P fs.toList l := by
  obtain ⟨ty, ag⟩ := a
  have : u.isAgg = true := by simpa [tyAgg, h] using ag.symm
  cases u <;> simp [V.isAgg] at this
  rename_i l
  simp only [V.cells] at ty
  cases ty with
  | struct h' l h1 => rw [h] at h'; injection h' with h'; injection h' with h'; subst h'; exact ⟨_, rfl, h1⟩
  | bool h' b => rw [h] at h'; simp at h'
  | int h' n h1 h2 => rw [h] at h'; simp at h'
  | str h' s h1 => rw [h] at h'; simp at h'
  | sl h' l h1 h2 h3 => rw [h] at h'; simp at h'
theorem arg_u64 {P : Program} {t : TypeId} {u : V} (h : P.underlying t = some (.int .u64)) (a : Arg P t u) : ∃ n : Nat, u = .int .u64 n ∧ n < 2 ^ 64 := by
  obtain ⟨n, rfl, h1, h2⟩ := arg_int h a
  have e1 : IntKind.u64.min = 0 := rfl
  have e2 : IntKind.u64.max = 18446744073709551615 := rfl
  exact ⟨n.toNat, by rw [Int.toNat_of_nonneg (by omega)], by omega⟩
theorem arg_u8 {P : Program} {t : TypeId} {u : V} (h : P.underlying t = some (.int .u8)) (a : Arg P t u) : ∃ n : Nat, u = .int .u8 n ∧ n < 256 := by
  obtain ⟨n, rfl, h1, h2⟩ := arg_int h a
  have e1 : IntKind.u8.min = 0 := rfl
  have e2 : IntKind.u8.max = 255 := rfl
  exact ⟨n.toNat, by rw [Int.toNat_of_nonneg (by omega)], by omega⟩
/-! ### Reading a struct's fields -/
theorem ty_int {P : Program} {t : TypeId} {k : IntKind} {l : List V} (h : P.underlying t = some (.int k)) (a : Ty P t l) : ∃ n, l = [.int k n] ∧ k.min ≤ n ∧ n ≤ k.max := by
  cases a with
  | int h' n h1 h2 => rw [h] at h'; injection h' with h'; injection h' with h'; subst h'; exact ⟨n, rfl, h1, h2⟩
  | bool h' b => rw [h] at h'; simp at h'
  | str h' s h1 => rw [h] at h'; simp at h'
  | sl h' l h1 h2 h3 => rw [h] at h'; simp at h'
  | struct h' => rw [h] at h'; simp at h'
theorem ty_bool {P : Program} {t : TypeId} {l : List V} (h : P.underlying t = some .bool) (a : Ty P t l) : ∃ b, l = [.bool b] := by
  cases a with
  | bool h' b => exact ⟨b, rfl⟩
  | int h' n h1 h2 => rw [h] at h'; simp at h'
  | str h' s h1 => rw [h] at h'; simp at h'
  | sl h' l h1 h2 h3 => rw [h] at h'; simp at h'
  | struct h' => rw [h] at h'; simp at h'
theorem ty_str {P : Program} {t : TypeId} {l : List V} (h : P.underlying t = some .string) (a : Ty P t l) : ∃ s, l = [.str s] ∧ s.length ≤ maxLen := by
  cases a with
  | str h' s h1 => exact ⟨s, rfl, h1⟩
  | bool h' b => rw [h] at h'; simp at h'
  | int h' n h1 h2 => rw [h] at h'; simp at h'
  | sl h' l h1 h2 h3 => rw [h] at h'; simp at h'
  | struct h' => rw [h] at h'; simp at h'
theorem ty_sl {P : Program} {t e : TypeId} {l : List V} (h : P.underlying t = some (.slice e)) (a : Ty P t l) : ∃ m, l = [.sl (P.cellsOf e) 0 m] ∧ m.length ≤ maxLen ∧ ∀ v ∈ m, Arg P e v := by
  cases a with
  | sl h' m h1 h2 h3 => rw [h] at h'; injection h' with h'; injection h' with h'; subst h'; exact ⟨m, rfl, h1, fun v hv => ⟨h2 v hv, h3 v hv⟩⟩
  | bool h' b => rw [h] at h'; simp at h'
  | int h' n h1 h2 => rw [h] at h'; simp at h'
  | str h' s h1 => rw [h] at h'; simp at h'
  | struct h' => rw [h] at h'; simp at h'
theorem ty_struct {P : Program} {t : TypeId} {fs : Array Field} {l : List V} (h : P.underlying t = some (.struct fs)) (a : Ty P t l) : Tys P fs.toList l := by
  cases a with
  | struct h' _ h1 => rw [h] at h'; injection h' with h'; injection h' with h'; subst h'; exact h1
  | bool h' b => rw [h] at h'; simp at h'
  | int h' n h1 h2 => rw [h] at h'; simp at h'
  | str h' s h1 => rw [h] at h'; simp at h'
  | sl h' l h1 h2 h3 => rw [h] at h'; simp at h'
theorem tys_cons {P : Program} {f : Field} {r : List Field} {l : List V} (a : Tys P (f :: r) l) : ∃ x y, l = x ++ y ∧ Ty P f.type x ∧ Tys P r y := by
  cases a with
  | cons _ _ x y hx hy => exact ⟨x, y, rfl, hx, hy⟩
theorem tys_nil {P : Program} {l : List V} (a : Tys P [] l) : l = [] := by
  cases a with
  | nil => rfl
theorem arg_i64 {P : Program} {t : TypeId} {u : V} (h : P.underlying t = some (.int .i64)) (a : Arg P t u) : ∃ n : Int, u = .int .i64 n ∧ -(2 : Int) ^ 63 ≤ n ∧ n < 2 ^ 63 := by
  obtain ⟨n, rfl, h1, h2⟩ := arg_int h a
  have e1 : IntKind.i64.min = -9223372036854775808 := rfl
  have e2 : IntKind.i64.max = 9223372036854775807 := rfl
  exact ⟨n, rfl, by omega, by omega⟩
theorem ty_i64 {P : Program} {t : TypeId} {l : List V} (h : P.underlying t = some (.int .i64)) (a : Ty P t l) : ∃ n : Int, l = [.int .i64 n] ∧ -(2 : Int) ^ 63 ≤ n ∧ n < 2 ^ 63 := by
  obtain ⟨n, rfl, h1, h2⟩ := ty_int h a
  have e1 : IntKind.i64.min = -9223372036854775808 := rfl
  have e2 : IntKind.i64.max = 9223372036854775807 := rfl
  exact ⟨n, rfl, by omega, by omega⟩
/-- A list of things that are each of a form. -/
theorem list_form {α : Type} {f : α → V} {p : α → Prop} {q : V → Prop} (hq : ∀ v, q v → ∃ a, v = f a ∧ p a) : ∀ (l : List V), (∀ v ∈ l, q v) → ∃ m : List α, l = m.map f ∧ ∀ a ∈ m, p a
  | [], _ => ⟨[], rfl, by simp⟩
  | v :: l, h => by
    obtain ⟨a, rfl, ha⟩ := hq v (h v (by simp))
    obtain ⟨m, rfl, hm⟩ := list_form hq l (fun w hw => h w (by simp [hw]))
    exact ⟨a :: m, rfl, fun b hb => by rcases List.mem_cons.1 hb with rfl | hb; exact ha; exact hm b hb⟩
end
end Go.Proofs.Ytajaoldljichaaa.Al
