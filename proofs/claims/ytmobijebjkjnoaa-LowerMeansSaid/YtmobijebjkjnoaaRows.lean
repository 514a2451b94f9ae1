/-
  No cell of these rows narrows 'for every input' (looked for: loops, veiled, ifaces, maps, wideKeys, modest, calm, conditions, laid).
  DERIVED. THE GIVEN ROWS OF THIS SEAT. 3 by the template 'for every input the law returns true; each argument reads behind the call as it read before'; 0 by the template 'total and deterministic' (their statements: YtmobijebjkjnoaaTotals.lean).
  GIVEN WITH THE SEED: the statements are not yours to turn. If you find one false, say at which input.
  Laid BY PROGRAM, IN A SANDBOX (cutbox-rows.mjs): the forced cells as the released guide's own fill.sh prints them over the translation cedd217366c28d23… (all of the seat's roots in one cut). By AI agents, Wed Nov 11 2026. No macro, syntax, notation, axiom, sorry.
-/
import Derived.Test.YtmobijebjkjnoaaChecked
import GoSem.Claim
import GoSem.ClaimJoined
import GoSem.ClaimMapViews
import Derived.JoinedTies
import Derived.KernelRfl
namespace Go.Proofs.Ytmobijebjkjnoaa
/- THE CELL 'sum', in the pinned program and in every row, IS THE sha256 OF THE DUMP (.gsa) THAT YtmobijebjkjnoaaProg.lean LOADS. Nothing in Lean hashes anything: it is a label: what it is worth is what the hold of that sum in a sandbox is worth. -/
noncomputable def Try.pinned : Pinned := { name := "ytmobijebjkjnoaa", sum := "cedd217366c28d2372142260edebb32ce89d475f133d2cd015fe111f4d9abc53", checked := Try.checked }
namespace Rows
def none {H : Type} : Left H := { results := [], args := [] }

/-- 'probatelaw08.LowerTells': WHATEVER THE INPUT: true; the input reads as it did. -/
def lowerTellsSpec : ChangeSpec := { name := "lowerTells", fn := fun _ => fun
  | [d] => { results := [.lit (.bool true)], args := [d] }
  | _ => none }
def lowerTellsRow : OpenClaim := { program := "ytmobijebjkjnoaa", sum := "cedd217366c28d2372142260edebb32ce89d475f133d2cd015fe111f4d9abc53", func := "probate/probatelaw08.LowerTells", spec := "lowerTells", inPlace := ["internal/bytealg.IndexByteString", "internal/bytealg.IndexString"], unfollowed := true, recurses := true, named := ["internal/bytealg.MaxLen"], apart := false }
def LowerTellsSaid : Prop := lowerTellsRow.holds Try.pinned (OpenSpec.ofChange lowerTellsSpec)

/-- ITS FALSE NEIGHBOUR: 'it returns false'. Refute it at one input. -/
def lowerTellsWrong : ChangeSpec := { name := "lowerTells", fn := fun _ => fun
  | [d] => { results := [.lit (.bool false)], args := [d] }
  | _ => none }
def LowerTellsWrongFalsely : Prop := lowerTellsRow.holds Try.pinned (OpenSpec.ofChange lowerTellsWrong)

/-- 'probatelaw08.LowerMeans': WHATEVER THE INPUT: true; the input reads as it did. -/
def lowerMeansSpec : ChangeSpec := { name := "lowerMeans", fn := fun _ => fun
  | [d1, d2] => { results := [.lit (.bool true)], args := [d1, d2] }
  | _ => none }
def lowerMeansRow : OpenClaim := { program := "ytmobijebjkjnoaa", sum := "cedd217366c28d2372142260edebb32ce89d475f133d2cd015fe111f4d9abc53", func := "probate/probatelaw08.LowerMeans", spec := "lowerMeans", inPlace := ["internal/bytealg.IndexByteString", "internal/bytealg.IndexString"], unfollowed := true, recurses := true, named := ["internal/bytealg.MaxLen"], apart := false }
def LowerMeansSaid : Prop := lowerMeansRow.holds Try.pinned (OpenSpec.ofChange lowerMeansSpec)

/-- ITS FALSE NEIGHBOUR: 'it returns false'. Refute it at one input. -/
def lowerMeansWrong : ChangeSpec := { name := "lowerMeans", fn := fun _ => fun
  | [d1, d2] => { results := [.lit (.bool false)], args := [d1, d2] }
  | _ => none }
def LowerMeansWrongFalsely : Prop := lowerMeansRow.holds Try.pinned (OpenSpec.ofChange lowerMeansWrong)

/-- 'probatelaw08.LowerShape': WHATEVER THE INPUT: true; the input reads as it did. -/
def lowerShapeSpec : ChangeSpec := { name := "lowerShape", fn := fun _ => fun
  | [d] => { results := [.lit (.bool true)], args := [d] }
  | _ => none }
def lowerShapeRow : OpenClaim := { program := "ytmobijebjkjnoaa", sum := "cedd217366c28d2372142260edebb32ce89d475f133d2cd015fe111f4d9abc53", func := "probate/probatelaw08.LowerShape", spec := "lowerShape", inPlace := ["internal/bytealg.IndexByteString", "internal/bytealg.IndexString"], unfollowed := true, recurses := true, named := ["internal/bytealg.MaxLen"], apart := false }
def LowerShapeSaid : Prop := lowerShapeRow.holds Try.pinned (OpenSpec.ofChange lowerShapeSpec)

/-- ITS FALSE NEIGHBOUR: 'it returns false'. Refute it at one input. -/
def lowerShapeWrong : ChangeSpec := { name := "lowerShape", fn := fun _ => fun
  | [d] => { results := [.lit (.bool false)], args := [d] }
  | _ => none }
def LowerShapeWrongFalsely : Prop := lowerShapeRow.holds Try.pinned (OpenSpec.ofChange lowerShapeWrong)

/- THE SECOND FORM. 'bulk': how many values and letters a reading holds, each counted each time it is reached (what is shared counts as often as it is met; a slice's spare places count too). A statement '..UptoSaid' is the law's where the arguments, and the package variables that the reading takes, are together of bulk at most 1048576: NARROWER than '..Said'. Prove '..Said' where nothing that the law and all that it calls make is longer than what came in: it says more and counts as full. Else prove '..UptoSaid'. A law counts once. -/
mutual
def uptoBulk {H : Type} : DataW H → Nat
  | .lit (.string bytes) => bytes.length + 1
  | .lit _ => 1
  | .nil => 1
  | .ptr d => uptoBulk d + 1
  | .slice elems spare => uptoBulkAll elems + uptoBulkAll spare + 1
  | .agg parts => uptoBulkAll parts + 1
  | .iface _ d => uptoBulk d + 1
  | .map entries => uptoBulkEntries entries + 1
  | .held _ => 1
def uptoBulkAll {H : Type} : List (DataW H) → Nat
  | [] => 0
  | d :: r => uptoBulk d + uptoBulkAll r
def uptoBulkEntries {H : Type} : List (Lit × DataW H) → Nat
  | [] => 0
  | x :: r => uptoBulkEntry x + uptoBulkEntries r
def uptoBulkEntry {H : Type} : Lit × DataW H → Nat
  | (.string bytes, d) => bytes.length + uptoBulk d + 1
  | (_, d) => uptoBulk d + 1
 end
def uptoSmall : (H : Type) → List (DataW H) → Bool := fun _ ds => decide (uptoBulkAll ds ≤ 1048576)
def OpenSpec.upto (s : _root_.Go.ChangeSpec) : _root_.Go.OpenSpec := { _root_.Go.OpenSpec.ofChange s with cond := some uptoSmall }

/-- 'probatelaw08.LowerTells', WHERE WHAT IT READS IS OF BULK AT MOST 1048576: true; the input reads as it did. -/
def lowerTellsUptoRow : OpenClaim := { program := "ytmobijebjkjnoaa", sum := "cedd217366c28d2372142260edebb32ce89d475f133d2cd015fe111f4d9abc53", func := "probate/probatelaw08.LowerTells", spec := "lowerTells", inPlace := ["internal/bytealg.IndexByteString", "internal/bytealg.IndexString"], unfollowed := true, recurses := true, named := ["internal/bytealg.MaxLen"], apart := false, narrowed := true }
def LowerTellsUptoSaid : Prop := lowerTellsUptoRow.holds Try.pinned (OpenSpec.upto lowerTellsSpec)

/-- 'probatelaw08.LowerMeans', WHERE WHAT IT READS IS OF BULK AT MOST 1048576: true; the input reads as it did. -/
def lowerMeansUptoRow : OpenClaim := { program := "ytmobijebjkjnoaa", sum := "cedd217366c28d2372142260edebb32ce89d475f133d2cd015fe111f4d9abc53", func := "probate/probatelaw08.LowerMeans", spec := "lowerMeans", inPlace := ["internal/bytealg.IndexByteString", "internal/bytealg.IndexString"], unfollowed := true, recurses := true, named := ["internal/bytealg.MaxLen"], apart := false, narrowed := true }
def LowerMeansUptoSaid : Prop := lowerMeansUptoRow.holds Try.pinned (OpenSpec.upto lowerMeansSpec)

/-- 'probatelaw08.LowerShape', WHERE WHAT IT READS IS OF BULK AT MOST 1048576: true; the input reads as it did. -/
def lowerShapeUptoRow : OpenClaim := { program := "ytmobijebjkjnoaa", sum := "cedd217366c28d2372142260edebb32ce89d475f133d2cd015fe111f4d9abc53", func := "probate/probatelaw08.LowerShape", spec := "lowerShape", inPlace := ["internal/bytealg.IndexByteString", "internal/bytealg.IndexString"], unfollowed := true, recurses := true, named := ["internal/bytealg.MaxLen"], apart := false, narrowed := true }
def LowerShapeUptoSaid : Prop := lowerShapeUptoRow.holds Try.pinned (OpenSpec.upto lowerShapeSpec)

end Rows
end Go.Proofs.Ytmobijebjkjnoaa
