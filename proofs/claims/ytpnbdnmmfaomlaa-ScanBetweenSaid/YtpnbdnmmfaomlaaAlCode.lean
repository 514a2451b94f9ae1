/-
  The abstract layer, part 2: abstract operations and code, and what they do (by their weakest condition). Conditions: none.
-/
import Derived.Test.YtpnbdnmmfaomlaaAlBase
namespace Go.Proofs.Ytpnbdnmmfaomlaa.Al
open Go Go.RowKit

abbrev Env := List (Nat × V)
/-- What a call of a function (by its key) does. -/
abbrev Sig := Nat → List V → AH → (V → AH → Prop) → Prop

inductive AO where
  | t (n : Nat)
  | c (v : V)
  deriving Inhabited

/-- A plain field: a number, a string, a bool. -/
inductive EK where
  | i
  | s
  | b
  deriving Inhabited

inductive AOp where
  | mv (x : AO)
  | pick (c a b : AO)
  | alloc (z : List V)
  | box (x : AO)
  | bld (z : List V) (parts : List (Nat × Nat × AO))
  | bsl (e : Nat) (g : Bool) (z : List V) (n : Nat) (parts : List (Nat × AO))
  | load (g : Bool) (n : Nat) (x : AO)
  | store (n : Nat) (x v : AO)
  | nilchk (x : AO)
  | bin (op : BinOp) (x y : AO)
  | beq (neg : Bool) (x y : AO)
  | eqs (neg : Bool) (offs : List (EK × Nat)) (x y : AO)
  | mks (e sz : Nat) (cap : AO)
  | isnil (neg ptr : Bool) (x : AO)
  | un (op : UnOp) (x : AO)
  | conv (k : IntKind) (x : AO)
  | fa (off : Nat) (x : AO)
  | fld (g : Bool) (off n : Nat) (x : AO)
  | ia (e : Nat) (x i : AO)
  | ixs (x i : AO)
  | ext (x : AO) (i : Nat)
  | mkfn (f : Nat) (first cap : List AO)
  | slc (e : Nat) (x : AO) (lo hi : Option AO)
  | slcs (x : AO) (lo hi : Option AO)
  | len (str : Bool) (x : AO)
  | app (e sz : Nat) (x y : AO)
  | mm (mx : Bool) (x y : AO)
  | call (f : AO) (args : List AO)
  deriving Inhabited

/-- In a region whose order is open: plain, turning the heap, or a load that may float. -/
inductive DK where
  | pl
  | eff
  | fl
  deriving Inhabited

structure AOper where
  dst : Option Nat
  gd : Option (Nat × Bool)
  op : AOp
  deriving Inhabited

inductive AC where
  | skip
  | ret
  | exit (n : Nat)
  | seq (a b : AC)
  | cond (c : AO) (a b : AC)
  | block (n : Nat) (a : AC)
  | loop (a : AC)
  | scope (a : AC)
  | reg (l : List AOper)
  | draw (l : List (DK × AOper))
  | keep (l : List Nat) (a : AC)
  | post (a : AC) (l : List Nat)
  deriving Inhabited

/-- ntmps, the results' slots (and, where a result lies in memory, whether it is a struct, and its cells), the body. -/
structure AFn where
  n : Nat
  res : List (Nat × Option (Bool × Nat))
  body : AC
  deriving Inhabited

/-! ### The heap -/
def updN {α : Type} (f : Nat → α) (i : Nat) (x : α) : Nat → α := fun j => if j = i then x else f j
theorem updN_same {α : Type} (f : Nat → α) (i : Nat) (x : α) : updN f i x i = x := by simp [updN]
theorem updN_ne {α : Type} (f : Nat → α) {i j : Nat} (x : α) (h : j ≠ i) : updN f i x j = f j := by simp [updN, h]
def AH.new (h : AH) (z : List V) : AH := { h with objs := updN h.objs h.nobj z, nobj := h.nobj + 1 }
def AH.set (h : AH) (o : Nat) (z : List V) : AH := { h with objs := updN h.objs o z }
def AH.grow (h : AH) (e : Nat) : AH := { h with tips := updN h.tips h.next (some e), next := h.next + 1 }
def AH.drop (h : AH) (st : Nat) : AH := { h with tips := updN h.tips st none }
def AH.push (h : AH) (st e : Nat) : AH := if st ≤ 2 then h.grow e else (h.drop st).grow e

/-! ### Operations -/
def V.good : V → Bool
  | .tup _ | .undef => false
  | _ => true
def setAt : List V → Nat → List V → List V
  | cs, _, [] => cs
  | cs, off, v :: r => setAt (cs.set off v) (off + 1) r
def fillV : List V → List (Nat × Nat × V) → Option (List V)
  | cs, [] => some cs
  | cs, (off, size, v) :: r => if v.cells.length = size ∧ off + size ≤ cs.length ∧ v.good = true then fillV (setAt cs off v.cells) r else none
def fillL (e : Nat) (g : Bool) : List V → List (Nat × V) → Option (List V)
  | l, [] => some l
  | l, (i, v) :: r => if v.cells.length = e ∧ i < l.length ∧ v.good = true ∧ v.isAgg = g then fillL e g (l.set i v) r else none
def loadC (g : Bool) (n : Nat) (c : List V) (off : Nat) (K : V → Prop) : Prop :=
  match g with
  | true => off + n ≤ c.length ∧ K (.agg ((c.drop off).take n))
  | false => off < c.length ∧ K (c.getD off .undef)
def bitAnd (k : IntKind) (x y : Int) : Int := k.wrap (BitVec.ofInt k.bits x &&& BitVec.ofInt k.bits y).toNat
def bitOr (k : IntKind) (x y : Int) : Int := k.wrap (BitVec.ofInt k.bits x ||| BitVec.ofInt k.bits y).toNat
def bitXor (k : IntKind) (x y : Int) : Int := k.wrap (BitVec.ofInt k.bits x ^^^ BitVec.ofInt k.bits y).toNat
def bitAndNot (k : IntKind) (x y : Int) : Int := k.wrap (BitVec.ofInt k.bits x &&& ~~~ BitVec.ofInt k.bits y).toNat
/-- Whole numbers of one kind. -/
def binI (op : BinOp) (k : IntKind) (x y : Int) (K : V → Prop) : Prop :=
  match op with
  | .add => K (.int k (k.wrap (x + y)))
  | .sub => K (.int k (k.wrap (x - y)))
  | .mul => K (.int k (k.wrap (x * y)))
  | .quo => y ≠ 0 ∧ K (.int k (k.wrap (x.tdiv y)))
  | .rem => y ≠ 0 ∧ K (.int k (x.tmod y))
  | .and => K (.int k (bitAnd k x y))
  | .or => K (.int k (bitOr k x y))
  | .xor => K (.int k (bitXor k x y))
  | .andNot => K (.int k (bitAndNot k x y))
  | .eql => K (.bool (decide (x = y)))
  | .neq => K (.bool (!decide (x = y)))
  | .lss => K (.bool (decide (x < y)))
  | .leq => K (.bool (decide (x ≤ y)))
  | .gtr => K (.bool (decide (y < x)))
  | .geq => K (.bool (decide (y ≤ x)))
  | _ => False
def shI (op : BinOp) (k : IntKind) (x y : Int) (K : V → Prop) : Prop :=
  match op with
  | .shl => 0 ≤ y ∧ K (.int k (k.wrap (x * 2 ^ (min y.toNat k.bits))))
  | .shr => 0 ≤ y ∧ K (.int k (x.fdiv (2 ^ (min y.toNat k.bits))))
  | _ => False
def binS (op : BinOp) (s t : List UInt8) (K : V → Prop) : Prop :=
  match op with
  | .add => s.length + t.length ≤ 2 ^ 60 ∧ K (.str (s ++ t))
  | .eql => K (.bool (decide (s = t)))
  | .neq => K (.bool (!decide (s = t)))
  | .lss => K (.bool (Op.bytesLess s t))
  | .leq => K (.bool (Op.bytesLess s t || decide (s = t)))
  | .gtr => K (.bool !(Op.bytesLess s t || decide (s = t)))
  | .geq => K (.bool !(Op.bytesLess s t))
  | _ => False
def isShift : BinOp → Bool
  | .shl | .shr => true
  | _ => false
def appK (e sz e1 st : Nat) (l : List V) (e2 : Nat) (m : List V) (h : AH) (K : V → AH → Prop) : Prop :=
  (m = [] → K (.sl e1 st l) h) ∧
  (m ≠ [] → (st = 1 ∨ st = 2 ∨ h.tips st = some e) ∧ (l = [] ∨ e1 = e) ∧ e2 = e ∧ (l.length + m.length) * sz ≤ 2 ^ 46 ∧ K (.sl e h.next (l ++ m)) (h.push st e))
def bytesV (s : List UInt8) : List V := s.map fun b => .int .u8 b.toNat
def nilK (neg : Bool) (st : Nat) (l : List V) (K : Bool → Prop) : Prop :=
  if st = 1 then K (!neg) else if st = 0 then (l = [] → K true ∧ K false) ∧ (l ≠ [] → K neg) else K neg
def slcK (l : List V) (st : Nat) (lo hi : Int) (K : List V → Nat → Prop) : Prop :=
  0 ≤ lo ∧ lo ≤ hi ∧ hi ≤ l.length ∧ K ((l.take hi.toNat).drop lo.toNat) (if st = 1 then 1 else 0)
/-- A bound of a slice expression. -/
def bnd (ρ : AO → V) (d : Int) : Option AO → Option Int
  | none => some d
  | some x => match ρ x with
    | .int _ n => some n
    | _ => none

def eqLeaf : EK → V → V → Option Bool
  | .i, .int k a, .int k' b => if k = k' then some (decide (a = b)) else none
  | .s, .str a, .str b => some (decide (a = b))
  | .b, .bool a, .bool b => some (decide (a = b))
  | _, _, _ => none
/-- Equality of structs of plain fields. -/
def eqL (l m : List V) : List (EK × Nat) → Option Bool
  | [] => some true
  | o :: r => match eqLeaf o.1 (l.getD o.2 .undef) (m.getD o.2 .undef), eqL l m r with
    | some b, some c => some (b && c)
    | _, _ => none

def AOp.wp (E : Sig) (ρ : AO → V) (h : AH) (K : V → AH → Prop) : AOp → Prop
  | .mv x => K (ρ x) h
  | .pick c a b => match ρ c with
    | .bool t => (t = true → K (ρ a) h) ∧ (t = false → K (ρ b) h)
    | _ => False
  | .alloc z => K (.ptr h.nobj 0) (h.new z)
  | .box x => (ρ x).good = true ∧ K (.ptr h.nobj 0) (h.new (ρ x).cells)
  | .bld z parts => match fillV z (parts.map fun p => (p.1, p.2.1, ρ p.2.2)) with
    | some cs => K (.agg cs) h
    | none => False
  | .bsl e g z n parts => match fillL e g (List.replicate n (if g then .agg z else z.headD .undef)) (parts.map fun p => (p.1, ρ p.2)) with
    | some l => K (.sl e 2 l) h
    | none => False
  | .load g n x => match ρ x with
    | .ptr o off => loadC g n (h.objs o) off (fun v => K v h)
    | .rptr l off => loadC g n l off (fun v => K v h)
    | _ => False
  | .store n x v => match ρ x with
    | .ptr o off => (ρ v).cells.length = n ∧ (ρ v).good = true ∧ off + n ≤ (h.objs o).length ∧ K (.tup []) (h.set o (setAt (h.objs o) off (ρ v).cells))
    | _ => False
  | .nilchk x => match ρ x with
    | .ptr o off => K (.ptr o off) h
    | .rptr l off => K (.rptr l off) h
    | .fn f a b => K (.fn f a b) h
    | _ => False
  | .bin op x y => match ρ x, ρ y with
    | .int k a, .int k' b => if isShift op then shI op k a b (fun v => K v h) else k = k' ∧ binI op k a b (fun v => K v h)
    | .str s, .str t => binS op s t (fun v => K v h)
    | _, _ => False
  | .beq neg x y => match ρ x, ρ y with
    | .bool a, .bool b => K (.bool (xor neg (decide (a = b)))) h
    | _, _ => False
  | .eqs neg offs x y => match ρ x, ρ y with
    | .agg l, .agg m => match eqL l m offs with
      | some b => K (.bool (xor neg b)) h
      | none => False
    | _, _ => False
  | .mks e sz cap => match ρ cap with
    | .int .i64 n => 0 ≤ n ∧ n * sz ≤ 2 ^ 46 ∧ K (.sl e h.next []) (h.push 2 e)
    | _ => False
  | .isnil neg false x => match ρ x with
    | .sl _ st l => nilK neg st l (fun b => K (.bool b) h)
    | _ => False
  | .isnil neg true x => match ρ x with
    | .nilp => K (.bool !neg) h
    | .ptr _ _ => K (.bool neg) h
    | .rptr _ _ => K (.bool neg) h
    | _ => False
  | .un op x => match op, ρ x with
    | .not, .bool b => K (.bool !b) h
    | .neg, .int k n => K (.int k (k.wrap (0 - n))) h
    | .xor, .int k n => binI .xor k (if k.signed then -1 else k.max) n (fun v => K v h)
    | _, _ => False
  | .conv k x => match ρ x with
    | .int _ n => K (.int k (k.wrap n)) h
    | _ => False
  | .fa off x => match ρ x with
    | .ptr o f => K (.ptr o (f + off)) h
    | .rptr l f => K (.rptr l (f + off)) h
    | _ => False
  | .fld g off n x => match ρ x with
    | .agg l => loadC g n l off (fun v => K v h)
    | _ => False
  | .ia e x i => match ρ x, ρ i with
    | .sl e' _ l, .int _ n => e' = e ∧ 0 ≤ n ∧ n < l.length ∧ K (.rptr (l.getD n.toNat .undef).cells 0) h
    | _, _ => False
  | .ixs x i => match ρ x, ρ i with
    | .str s, .int _ n => 0 ≤ n ∧ n < s.length ∧ K (.int .u8 (s.getD n.toNat 0).toNat) h
    | _, _ => False
  | .ext x i => match ρ x with
    | .tup l => i < l.length ∧ K (l.getD i .undef) h
    | _ => False
  | .mkfn f first cap => K (.fn f (first.map ρ) (cap.map ρ)) h
  | .slc e x lo hi => match ρ x with
    | .sl e' st l => match bnd ρ 0 lo, bnd ρ l.length hi with
      | some a, some b => (l = [] ∨ e' = e) ∧ slcK l st a b (fun m st' => K (.sl e' st' m) h)
      | _, _ => False
    | _ => False
  | .slcs x lo hi => match ρ x with
    | .str s => match bnd ρ 0 lo, bnd ρ s.length hi with
      | some a, some b => 0 ≤ a ∧ a ≤ b ∧ b ≤ s.length ∧ K (.str ((s.take b.toNat).drop a.toNat)) h
      | _, _ => False
    | _ => False
  | .len false x => match ρ x with
    | .sl _ _ l => K (.int .i64 l.length) h
    | _ => False
  | .len true x => match ρ x with
    | .str s => K (.int .i64 s.length) h
    | _ => False
  | .app e sz x y => match ρ x, ρ y with
    | .sl e1 st l, .sl e2 _ m => appK e sz e1 st l e2 m h K
    | _, _ => False
  | .mm mx x y => match ρ x, ρ y with
    | .int k a, .int k' b => k = k' ∧ K (.int k (if mx then max a b else min a b)) h
    | _, _ => False
  | .call f args => match ρ f with
    | .fn k first cap => E k (first ++ args.map ρ ++ cap) h K
    | _ => False

/-! ### Code -/
def get : Env → Nat → V
  | [], _ => .undef
  | (i, v) :: r, n => if n = i then v else get r n
def ev (env : Env) : AO → V
  | .t n => get env n
  | .c v => v
def put (env : Env) : Option Nat → V → Env
  | none, _ => env
  | some d, v => (d, v) :: env
def gdP : Option (Nat × Bool) → Env → Prop → Prop → Prop
  | none, _, A, _ => A
  | some (s, t), env, A, B => match get env s with
    | .bool b => (b = t → A) ∧ (b ≠ t → B)
    | .tup [] => B
    | _ => False

def awpOps (E : Sig) : List AOper → Env → AH → (Env → AH → Prop) → Prop
  | [], env, h, K => K env h
  | o :: r, env, h, K =>
    gdP o.gd env (o.op.wp E (ev env) h fun v h' => awpOps E r (put env o.dst v) h' K) (awpOps E r (put env o.dst (.tup [])) h K)

/-- It answers v, and leaves the heap. -/
def AOp.quiet (E : Sig) (o : AOp) (ρ : AO → V) (v : V) (h : AH) : Prop := o.wp E ρ h fun v' h' => v' = v ∧ h' = h
/-- A region whose order is open: each operation has one answer; only the marked ones turn the heap; a load that floats answers alike in every heap of the region (H: those that were, L: what the later ones owe). -/
def awpD (E : Sig) : List (DK × AOper) → Env → AH → List AH → List (AH → Prop) → (Env → AH → Prop) → Prop
  | [], env, h, _, _, K => K env h
  | (.pl, o) :: r, env, h, H, L, K =>
    gdP o.gd env (∃ v, o.op.quiet E (ev env) v h ∧ awpD E r (put env o.dst v) h H L K) (awpD E r (put env o.dst (.tup [])) h H L K)
  | (.eff, o) :: r, env, h, H, L, K =>
    gdP o.gd env (∃ v h', o.op.wp E (ev env) h (fun v' h'' => v' = v ∧ h'' = h') ∧ (∀ c ∈ L, c h') ∧ awpD E r (put env o.dst v) h' (h :: H) L K) (awpD E r (put env o.dst (.tup [])) h H L K)
  | (.fl, o) :: r, env, h, H, L, K =>
    gdP o.gd env (∃ v, o.op.quiet E (ev env) v h ∧ (∀ h' ∈ H, o.op.quiet E (ev env) v h') ∧ awpD E r (put env o.dst v) h H (o.op.quiet E (ev env) v :: L) K) (awpD E r (put env o.dst (.tup [])) h H L K)

inductive Ex where
  | nrm
  | ret
  | exit (n : Nat)

def iter (f : Env → AH → (Ex → Env → AH → Prop) → Prop) : Nat → Env → AH → (Ex → Env → AH → Prop) → Prop
  | 0, _, _, _ => False
  | n + 1, env, h, Q => f env h fun e env' h' => match e with
    | .nrm => iter f n env' h' Q
    | .ret => Q .ret env' h'
    | .exit m => Q (.exit m) env' h'

def keepE (l : List Nat) (env : Env) : Env := l.map fun i => (i, get env i)

def awp (E : Sig) : AC → Env → AH → (Ex → Env → AH → Prop) → Prop
  | .skip, env, h, Q => Q .nrm env h
  | .ret, env, h, Q => Q .ret env h
  | .exit n, env, h, Q => Q (.exit n) env h
  | .seq a b, env, h, Q => awp E a env h fun e env' h' => match e with
    | .nrm => awp E b env' h' Q
    | .ret => Q .ret env' h'
    | .exit m => Q (.exit m) env' h'
  | .cond c a b, env, h, Q => match ev env c with
    | .bool t => (t = true → awp E a env h Q) ∧ (t = false → awp E b env h Q)
    | _ => False
  | .block n a, env, h, Q => awp E a env h fun e env' h' => match e with
    | .nrm => Q .nrm env' h'
    | .ret => Q .ret env' h'
    | .exit m => if m = n then Q .nrm env' h' else Q (.exit m) env' h'
  | .loop a, env, h, Q => ∃ n, iter (awp E a) n env h Q
  | .scope a, env, h, Q => awp E a env h Q
  | .reg l, env, h, Q => awpOps E l env h (Q .nrm)
  | .draw l, env, h, Q => awpD E l env h [] [] (Q .nrm)
  | .keep l a, env, h, Q => awp E a (keepE l env) h Q
  | .post a l, env, h, Q => awp E a env h fun e env' h' => match e with
    | .nrm => Q .nrm (keepE l env') h'
    | .ret => Q .ret env' h'
    | .exit m => Q (.exit m) env' h'

def initEnv : Nat → List V → Env
  | _, [] => []
  | i, v :: r => (i, v) :: initEnv (i + 1) r
def tupV : List V → V
  | [v] => v
  | l => .tup l
/-- The results, read behind the body. -/
def resP (env : Env) (h : AH) : List (Nat × Option (Bool × Nat)) → List V → (V → Prop) → Prop
  | [], acc, K => K (tupV acc.reverse)
  | (s, none) :: r, acc, K => resP env h r (get env s :: acc) K
  | (s, some (g, n)) :: r, acc, K => match get env s with
    | .ptr o off => loadC g n (h.objs o) off fun v => resP env h r (v :: acc) K
    | _ => False
def afn (E : Sig) (f : AFn) (args : List V) (h : AH) (Q : V → AH → Prop) : Prop :=
  args.length ≤ f.n ∧ awp E f.body (initEnv 0 args) h fun e env h' => match e with
    | .nrm => resP env h' f.res [] fun v => Q v h'
    | .ret => resP env h' f.res [] fun v => Q v h'
    | .exit _ => False

/-- The body of key k is f. -/
def Has (E : Sig) (k : Nat) (f : AFn) : Prop := ∀ args h Q, afn E f args h Q → E k args h Q

end Go.Proofs.Ytpnbdnmmfaomlaa.Al
