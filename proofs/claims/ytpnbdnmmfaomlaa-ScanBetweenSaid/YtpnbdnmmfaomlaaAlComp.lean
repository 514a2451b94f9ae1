/-
  The abstract layer, part 3: the model's code as abstract code, by a program that the kernel runs. Conditions: none.
-/
import Derived.Test.YtpnbdnmmfaomlaaAlCode
namespace Go.Proofs.Ytpnbdnmmfaomlaa.Al
open Go Go.RowKit

def leafV : Value → Option V
  | .bool b => some (.bool b)
  | .int k n => some (.int k n)
  | .string s => some (.str s.data.toList)
  | .pointer none => some .nilp
  | .slice none 0 0 => some (.sl 0 1 [])
  | .nilFunc => some .nilf
  | _ => none
def leafVs : List Value → Option (List V)
  | [] => some []
  | v :: r => match leafV v, leafVs r with
    | some a, some b => some (a :: b)
    | _, _ => none
def constV : Value → Option V
  | .agg cs => (leafVs cs.toList).map .agg
  | v => leafV v

/-- How functions are named here. -/
structure Keys where
  tbl : Nat → Nat
  key : Nat → Nat
  eff : Nat → Bool

section
variable (P : Program) (Y : Keys)

def tyAgg (t : TypeId) : Option Bool :=
  match P.underlying t with
  | some (.struct _) | some (.array ..) => some true
  | some _ => some false
  | none => none
def tySize (t : TypeId) : Option Nat := match P.info? t with
  | some i => some i.size
  | none => none
def tyBytes (t : TypeId) : Option Nat := match P.info? t with
  | some i => some i.bytes
  | none => none
def tyZero (t : TypeId) : Option (List V) := match P.info? t with
  | some i => match i.zero with
    | some z => match leafVs z.cells.toList with
      | some l => if z.cells.all (·.oneCell') then some l else none
      | none => none
    | none => none
  | none => none
def tyElem (t : TypeId) : Option TypeId := match P.underlying t with
  | some (.slice e) => some e
  | _ => none

def fnKey (f : Nat) : Option Nat := if Y.tbl (Y.key f) = f then some (Y.key f) else none

def co : Operand → Option AO
  | .tmp n => some (.t n)
  | .const v => match constV v with
    | some a => some (.c a)
    | none => none
  | .func f => match fnKey Y f with
    | some k => some (.c (.fn k [] []))
    | none => none
  | .global _ => some (.c .undef)
def cos : List Operand → Option (List AO)
  | [] => some []
  | x :: r => match co Y x, cos r with
    | some a, some b => some (a :: b)
    | _, _ => none
def coo : Option Operand → Option (Option AO)
  | none => some none
  | some x => match co Y x with
    | some a => some (some a)
    | none => none

def partsS (places : List (Nat × Nat)) : List (Nat × Operand) → Option (List (Nat × Nat × AO))
  | [] => some []
  | (i, x) :: r => match places[i]?, co Y x, partsS places r with
    | some p, some a, some b => some ((p.1, p.2, a) :: b)
    | _, _, _ => none
def partsL : List (Nat × Operand) → Option (List (Nat × AO))
  | [] => some []
  | (i, x) :: r => match co Y x, partsL r with
    | some a, some b => some ((i, a) :: b)
    | _, _ => none

def isNilS : Operand → Bool
  | .const (.slice none 0 0) => true
  | _ => false
def isNilP : Operand → Bool
  | .const (.pointer none) => true
  | _ => false

def ekOf (t : TypeId) : Option EK := match P.underlying t with
  | some (.int _) => some .i
  | some .string => some .s
  | some .bool => some .b
  | _ => none
def eqOffs : List Field → Option (List (EK × Nat))
  | [] => some []
  | f :: r => if f.name == "_" then none else match ekOf P f.type, eqOffs r with
    | some k, some l => some ((k, f.offset) :: l)
    | _, _ => none
def compEqs (neg : Bool) (t : TypeId) (fields : Array Field) (a b : AO) : Option AOp :=
  if P.eqGuardType P.depth t || P.stoodInHeld t then none else match eqOffs P fields.toList with
    | some l => some (.eqs neg l a b)
    | none => none

def compBin (op : BinOp) (t : TypeId) (x y : Operand) : Option AOp :=
  match op, isNilS y || isNilP y with
  | .eql, true => match P.underlying t, co Y x with
    | some (.slice _), some a => if isNilS y then some (.isnil false false a) else none
    | some (.pointer _), some a => if isNilP y then some (.isnil false true a) else none
    | _, _ => none
  | .neq, true => match P.underlying t, co Y x with
    | some (.slice _), some a => if isNilS y then some (.isnil true false a) else none
    | some (.pointer _), some a => if isNilP y then some (.isnil true true a) else none
    | _, _ => none
  | _, _ => match P.underlying t, co Y x, co Y y with
    | some (.int _), some a, some b => some (.bin op a b)
    | some .string, some a, some b => some (.bin op a b)
    | some .bool, some a, some b => match op with
      | .eql => some (.beq false a b)
      | .neq => some (.beq true a b)
      | _ => none
    | some (.struct fields), some a, some b => match op with
      | .eql => compEqs P false t fields a b
      | .neq => compEqs P true t fields a b
      | _ => none
    | _, _, _ => none

def compCall (c : Call) : Option AOp :=
  match c.callee with
  | .value f => match co Y f, cos Y c.args.toList with
    | some a, some l => some (.call a l)
    | _, _ => none
  | .builtin .len => match c.args.toList, c.argTypes.toList with
    | [x], [t] => match P.underlying t, co Y x with
      | some (.slice _), some a => some (.len false a)
      | some .string, some a => some (.len true a)
      | _, _ => none
    | _, _ => none
  | .builtin .append => match c.args.toList, c.argTypes.toList with
    | [x, y], [t, t2] => match P.underlying t, P.underlying t2, co Y x, co Y y with
      | some (.slice e), some (.slice e2), some a, some b => match tySize P e, tyBytes P e, tyZero P e with
        | some n, some m, some z => if t = t2 ∧ e = e2 ∧ 0 < n ∧ 0 < m ∧ z.length = n then some (.app n m a b) else none
        | _, _, _ => none
      | _, _, _, _ => none
    | _, _ => none
  | .builtin .max => match c.args.toList, c.argTypes.toList with
    | [x, y], [t, _] => match P.underlying t, co Y x, co Y y with
      | some (.int _), some a, some b => some (.mm true a b)
      | _, _, _ => none
    | _, _ => none
  | .builtin .min => match c.args.toList, c.argTypes.toList with
    | [x, y], [t, _] => match P.underlying t, co Y x, co Y y with
      | some (.int _), some a, some b => some (.mm false a b)
      | _, _, _ => none
    | _, _ => none
  | _ => none

def isZero : Operand → Bool
  | .const (.int .i64 0) => true
  | _ => false
def compMake (t : TypeId) (cap : Operand) : Option AOp :=
  match tyElem P t, co Y cap with
  | some e, some c => match tySize P e, tyBytes P e, tyZero P e with
    | some n, some m, some z => if 0 < n ∧ 0 < m ∧ z.length = n then some (.mks n m c) else none
    | _, _, _ => none
  | _, _ => none
def compOp : Op → Option AOp
  | .move x | .assign x => (co Y x).map .mv
  | .pick c a b => match co Y c, co Y a, co Y b with
    | some c, some a, some b => some (.pick c a b)
    | _, _, _ => none
  | .alloc t => (tyZero P t).map .alloc
  | .box _ x => (co Y x).map .box
  | .build t parts => match P.underlying t, tyZero P t with
    | some (.struct fields), some z => match fields.toList.mapM (fun f => (P.info? f.type).map fun i => (f.offset, i.size)) with
      | some places => (partsS Y places parts.toList).map (.bld z)
      | none => none
    | _, _ => none
  | .buildSlice t n parts => match tyElem P t with
    | some e => match tySize P e, tyAgg P e, tyZero P e, partsL Y parts.toList with
      | some s, some g, some z, some l => if 0 < s ∧ z.length = s ∧ n * s ≤ 2 ^ 24 ∧ (g = false → s = 1) then some (.bsl s g z n l) else none
      | _, _, _, _ => none
    | none => none
  | .load t x => match tyAgg P t, tySize P t, co Y x with
    | some g, some n, some a => some (.load g n a)
    | _, _, _ => none
  | .store t x v => match tySize P t, co Y x, co Y v with
    | some n, some a, some b => some (.store n a b)
    | _, _, _ => none
  | .nilCheck x => (co Y x).map .nilchk
  | .binOp op t x y _ => compBin P Y op t x y
  | .unOp op _ x => match op with
    | .not | .neg | .xor => (co Y x).map (.un op)
    | _ => none
  | .convert src dst x => match P.underlying src, P.underlying dst, co Y x with
    | some (.int _), some (.int k), some a => some (.conv k a)
    | _, _, _ => none
  | .fieldAddr s x f => match P.underlying s, co Y x with
    | some (.struct fields), some a => match fields[f]? with
      | some fl => match tySize P fl.type with
        | some n => if n = 0 then none else some (.fa fl.offset a)
        | none => none
      | none => none
    | _, _ => none
  | .field s x f => match P.underlying s, co Y x with
    | some (.struct fields), some a => match fields[f]? with
      | some fl => match tySize P fl.type, tyAgg P fl.type with
        | some n, some g => some (.fld g fl.offset n a)
        | _, _ => none
      | none => none
    | _, _ => none
  | .indexAddr t x i => match tyElem P t with
    | some e => match tySize P e, co Y x, co Y i with
      | some n, some a, some b => some (.ia n a b)
      | _, _, _ => none
    | none => none
  | .index t x i => match P.underlying t, co Y x, co Y i with
    | some .string, some a, some b => some (.ixs a b)
    | _, _, _ => none
  | .extract x i => (co Y x).map (.ext · i)
  | .makeFunc (.func f) first cap => match fnKey Y f, cos Y first.toList, cos Y cap.toList with
    | some k, some a, some b => some (.mkfn k a b)
    | _, _, _ => none
  | .makeSlice t l cap => if isZero l then compMake P Y t cap else none
  | .slice t x lo hi none => match P.underlying t, co Y x, coo Y lo, coo Y hi with
    | some .string, some a, some l, some h => some (.slcs a l h)
    | some (.slice e), some a, some l, some h => (tySize P e).map (.slc · a l h)
    | _, _, _, _ => none
  | .call c => compCall P Y c
  | _ => none

def dstOk (N : Nat) : Option Nat → Bool
  | none => true
  | some d => decide (d < N)
def compOper (N : Nat) (ops : Array Oper) (o : Oper) : Option AOper :=
  if dstOk N o.dst then
    match compOp P Y o.op with
    | some a => match o.guard with
      | none => some ⟨o.dst, none, a⟩
      | some (j, t) => match ops[j]? with
        | some oj => match oj.dst with
          | some s => some ⟨o.dst, some (s, t), a⟩
          | none => none
        | none => none
    | none => none
  else none
def compOpers (N : Nat) (ops : Array Oper) : List Oper → Option (List AOper)
  | [] => some []
  | o :: r => match compOper P Y N ops o, compOpers N ops r with
    | some a, some b => some (a :: b)
    | _, _ => none

/-- Does the operation turn the heap? -/
def effOp : AOp → Bool
  | .alloc _ | .box _ | .store .. | .app .. | .mks .. => true
  | .call (.c (.fn k _ _)) _ => Y.eff k
  | _ => false
/-- Does it look at the heap? -/
def lookOp : AOp → Bool
  | .load .. | .call .. => true
  | o => effOp Y o

def bindsTo (o : Oper) (i : Nat) : Bool := o.after.any fun e => e.on == i && Region.binds .any e
def usesSlot (ops : Array Oper) (o : Oper) (s : Nat) : Bool := (o.looksAt ops).contains s
/-- The masks are backed by edges. -/
def maskOk (ops : Array Oper) (b : Array Nat) : Bool :=
  (List.range ops.size).all fun j => match ops[j]? with
    | some o => (List.range ops.size).all fun i => !(b.getD j 0).testBit i || o.after.any fun e => Region.binds .any e && decide (e.on < j) && (e.on == i || (b.getD e.on 0).testBit i)
    | none => false
def isLoad : AOp → Bool
  | .load .. => true
  | _ => false
/-- The kinds of a region's operations: a load that some turning operation is not ordered with floats. -/
def kindOf (b : Array Nat) (l : List AOper) (j : Nat) (a : AOper) : DK :=
  if effOp Y a.op then .eff else
  if isLoad a.op && l.zipIdx.any fun p => effOp Y p.1.op && !(if p.2 < j then (b.getD j 0).testBit p.2 else (b.getD p.2 0).testBit j) then .fl else .pl
def kinds (ops : Array Oper) (l : List AOper) : List (DK × AOper) :=
  let b := Region.before ops
  l.zipIdx.map fun p => (kindOf Y b l p.2 p.1, p.1)
def isEff : DK → Bool
  | .eff => true
  | _ => false
def looks (z : DK × AOper) : Bool := match z.1 with
  | .fl => false
  | _ => lookOp Y z.2.op
/-- Its kind is right. -/
def kindOk (z : DK × AOper) : Bool := match z.1 with
  | .eff => effOp Y z.2.op
  | .fl => isLoad z.2.op
  | .pl => !effOp Y z.2.op
def pairOk (ops : Array Oper) (b : Array Nat) (i j : Nat) (oi oj : Oper) (zi zj : DK × AOper) : Bool :=
  (match oi.dst with
    | some d => (oj.dst != some d) && (!usesSlot ops oj d || bindsTo oj i)
    | none => true) &&
  (match oj.dst with
    | some d => !usesSlot ops oi d || bindsTo oj i
    | none => true) &&
  (!(isEff zi.1 && looks Y zj || looks Y zi && isEff zj.1) || (b.getD j 0).testBit i)
/-- Everything that a later operation owes to an earlier one is said by edges. -/
def drawOk (ops : Array Oper) (z : List (DK × AOper)) : Bool :=
  maskOk ops (Region.before ops) && z.all (kindOk Y) &&
  (List.range ops.size).all fun j => (List.range j).all fun i =>
    match ops[i]?, ops[j]?, z[i]?, z[j]? with
    | some oi, some oj, some zi, some zj => pairOk Y ops (Region.before ops) i j oi oj zi zj
    | _, _, _, _ => false
def edgesDown (ops : Array Oper) : Bool :=
  (List.range ops.size).all fun j => match ops[j]? with
    | some o => o.after.all fun e => !Region.binds .any e || decide (e.on < j)
    | none => false

def comp (N : Nat) : Code → Option AC
  | .skip => some .skip
  | .label _ => some .skip
  | .ret => some .ret
  | .exit n => some (.exit n)
  | .seq a b => match comp N a, comp N b with
    | some x, some y => some (.seq x y)
    | _, _ => none
  | .cond c a b => match co Y c, comp N a, comp N b with
    | some z, some x, some y => some (.cond z x y)
    | _, _, _ => none
  | .block n a => match comp N a with
    | some x => some (.block n x)
    | none => none
  | .loop a => match comp N a with
    | some x => some (.loop x)
    | none => none
  | .scope a => match comp N a with
    | some x => some (.scope x)
    | none => none
  | .region _ ops d => match compOpers P Y N ops ops.toList with
    | some l => match d with
      | false => some (.reg l)
      | true => if drawOk Y ops (kinds Y ops l) && edgesDown ops then some (.draw (kinds Y ops l)) else none
    | none => none
  | _ => none

def AC.strip : AC → AC
  | .seq a b => .seq a.strip b.strip
  | .cond c a b => .cond c a.strip b.strip
  | .block n a => .block n a.strip
  | .loop a => .loop a.strip
  | .scope a => .scope a.strip
  | .keep _ a => a.strip
  | .post a _ => a.strip
  | a => a

def resSlots : List ResultVar → Option (List (Nat × Option (Bool × Nat)))
  | [] => some []
  | .tmp t :: r => match resSlots r with
    | some l => some ((t, none) :: l)
    | none => none
  | .cell a t :: r => match tyAgg P t, tySize P t, resSlots r with
    | some g, some n, some l => some ((a, some (g, n)) :: l)
    | _, _, _ => none
/-- A function of the program as an abstract one. -/
def compFn (f : Func) : Option AFn :=
  match f.body, resSlots P f.results.toList with
  | some c, some r => match comp P Y f.ntmps c with
    | some a => some ⟨f.ntmps, r, a⟩
    | none => none
  | _, _ => none
def AFn.strip (f : AFn) : AFn := { f with body := f.body.strip }
end

end Go.Proofs.Ytpnbdnmmfaomlaa.Al
