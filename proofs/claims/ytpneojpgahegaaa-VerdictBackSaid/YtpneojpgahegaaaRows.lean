/-
  No cell of these rows narrows 'for every input' (looked for: loops, veiled, ifaces, maps, wideKeys, modest, calm, conditions, laid).
  DERIVED. THE GIVEN ROWS OF THIS SEAT. 3 by the template 'for every input the law returns true; each argument reads behind the call as it read before'; 0 by the template 'total and deterministic' (their statements: YtpneojpgahegaaaTotals.lean).
  GIVEN WITH THE SEED: the statements are not yours to turn. If you find one false, say at which input.
  Laid BY PROGRAM, IN A SANDBOX (cutbox-rows.mjs): the forced cells as the released guide's own fill.sh prints them over the translation 4e35b22f742eaf7c… (all of the seat's roots in one cut). By AI agents, Wed Nov 11 2026. No macro, syntax, notation, axiom, sorry.
-/
import Derived.Test.YtpneojpgahegaaaChecked
import GoSem.Claim
import GoSem.ClaimJoined
import GoSem.ClaimMapViews
import Derived.JoinedTies
import Derived.KernelRfl
namespace Go.Proofs.Ytpneojpgahegaaa
/- THE CELL 'sum', in the pinned program and in every row, IS THE sha256 OF THE DUMP (.gsa) THAT YtpneojpgahegaaaProg.lean LOADS. Nothing in Lean hashes anything: it is a label: what it is worth is what the hold of that sum in a sandbox is worth. -/
noncomputable def Try.pinned : Pinned := { name := "ytpneojpgahegaaa", sum := "4e35b22f742eaf7c9ce62f40dc9d3582707cac68a58fe1cc5371ceb8709fb110", checked := Try.checked }
namespace Rows
def none {H : Type} : Left H := { results := [], args := [] }

/-- 'probatelaw20.VerdictTells': WHATEVER THE INPUT: true; the input reads as it did. -/
def verdictTellsSpec : ChangeSpec := { name := "verdictTells", fn := fun _ => fun
  | [d1, d2, d3, d4, d5] => { results := [.lit (.bool true)], args := [d1, d2, d3, d4, d5] }
  | _ => none }
def verdictTellsRow : OpenClaim := { program := "ytpneojpgahegaaa", sum := "4e35b22f742eaf7c9ce62f40dc9d3582707cac68a58fe1cc5371ceb8709fb110", func := "probate/probatelaw20.VerdictTells", spec := "verdictTells", unfollowed := true, recurses := true, apart := false }
def VerdictTellsSaid : Prop := verdictTellsRow.holds Try.pinned (OpenSpec.ofChange verdictTellsSpec)

/-- ITS FALSE NEIGHBOUR: 'it returns false'. Refute it at one input. -/
def verdictTellsWrong : ChangeSpec := { name := "verdictTells", fn := fun _ => fun
  | [d1, d2, d3, d4, d5] => { results := [.lit (.bool false)], args := [d1, d2, d3, d4, d5] }
  | _ => none }
def VerdictTellsWrongFalsely : Prop := verdictTellsRow.holds Try.pinned (OpenSpec.ofChange verdictTellsWrong)

/-- 'probatelaw20.VerdictBack': WHATEVER THE INPUT: true; the input reads as it did. -/
def verdictBackSpec : ChangeSpec := { name := "verdictBack", fn := fun _ => fun
  | [d1, d2, d3] => { results := [.lit (.bool true)], args := [d1, d2, d3] }
  | _ => none }
def verdictBackRow : OpenClaim := { program := "ytpneojpgahegaaa", sum := "4e35b22f742eaf7c9ce62f40dc9d3582707cac68a58fe1cc5371ceb8709fb110", func := "probate/probatelaw20.VerdictBack", spec := "verdictBack", unfollowed := true, recurses := true, apart := false }
def VerdictBackSaid : Prop := verdictBackRow.holds Try.pinned (OpenSpec.ofChange verdictBackSpec)

/-- ITS FALSE NEIGHBOUR: 'it returns false'. Refute it at one input. -/
def verdictBackWrong : ChangeSpec := { name := "verdictBack", fn := fun _ => fun
  | [d1, d2, d3] => { results := [.lit (.bool false)], args := [d1, d2, d3] }
  | _ => none }
def VerdictBackWrongFalsely : Prop := verdictBackRow.holds Try.pinned (OpenSpec.ofChange verdictBackWrong)

/-- 'probatelaw20.VerdictProofs': WHATEVER THE INPUT: true; the input reads as it did. -/
def verdictProofsSpec : ChangeSpec := { name := "verdictProofs", fn := fun _ => fun
  | [d1, d2, d3] => { results := [.lit (.bool true)], args := [d1, d2, d3] }
  | _ => none }
def verdictProofsRow : OpenClaim := { program := "ytpneojpgahegaaa", sum := "4e35b22f742eaf7c9ce62f40dc9d3582707cac68a58fe1cc5371ceb8709fb110", func := "probate/probatelaw20.VerdictProofs", spec := "verdictProofs", unfollowed := true, recurses := true, apart := false }
def VerdictProofsSaid : Prop := verdictProofsRow.holds Try.pinned (OpenSpec.ofChange verdictProofsSpec)

/-- ITS FALSE NEIGHBOUR: 'it returns false'. Refute it at one input. -/
def verdictProofsWrong : ChangeSpec := { name := "verdictProofs", fn := fun _ => fun
  | [d1, d2, d3] => { results := [.lit (.bool false)], args := [d1, d2, d3] }
  | _ => none }
def VerdictProofsWrongFalsely : Prop := verdictProofsRow.holds Try.pinned (OpenSpec.ofChange verdictProofsWrong)

/- THE SECOND FORM. 'bulk': how many values and letters a reading holds, each counted each time it is reached (what is shared counts as often as it is met; a slice's spare places count too). A statement '..UptoSaid' is the law's where the arguments, and the package variables that the reading takes, are together of bulk at most 1048576: NARROWER than '..Said'. Prove '..Said' where nothing that the law and all that it calls make is longer than what came in: it says more and counts as full. Else prove '..UptoSaid'. A law counts once. -/
mutual
def uptoBulk {H : Type} : DataW H → Nat
  | .lit (.string bytes) => bytes.length + 1
  | .lit _ => 1
  | .nil => 1
  | .ptr d => uptoBulk d + 1
  | .slice elems spare => uptoBulkAll elems + uptoBulkAll spare + 1
  | .agg parts => uptoBulkAll parts + 1
  | .iface _ d => uptoBulk d + 1
  | .map entries => uptoBulkEntries entries + 1
  | .held _ => 1
def uptoBulkAll {H : Type} : List (DataW H) → Nat
  | [] => 0
  | d :: r => uptoBulk d + uptoBulkAll r
def uptoBulkEntries {H : Type} : List (Lit × DataW H) → Nat
  | [] => 0
  | x :: r => uptoBulkEntry x + uptoBulkEntries r
def uptoBulkEntry {H : Type} : Lit × DataW H → Nat
  | (.string bytes, d) => bytes.length + uptoBulk d + 1
  | (_, d) => uptoBulk d + 1
 end
def uptoSmall : (H : Type) → List (DataW H) → Bool := fun _ ds => decide (uptoBulkAll ds ≤ 1048576)
def OpenSpec.upto (s : _root_.Go.ChangeSpec) : _root_.Go.OpenSpec := { _root_.Go.OpenSpec.ofChange s with cond := some uptoSmall }

/-- 'probatelaw20.VerdictTells', WHERE WHAT IT READS IS OF BULK AT MOST 1048576: true; the input reads as it did. -/
def verdictTellsUptoRow : OpenClaim := { program := "ytpneojpgahegaaa", sum := "4e35b22f742eaf7c9ce62f40dc9d3582707cac68a58fe1cc5371ceb8709fb110", func := "probate/probatelaw20.VerdictTells", spec := "verdictTells", unfollowed := true, recurses := true, apart := false, narrowed := true }
def VerdictTellsUptoSaid : Prop := verdictTellsUptoRow.holds Try.pinned (OpenSpec.upto verdictTellsSpec)

/-- 'probatelaw20.VerdictBack', WHERE WHAT IT READS IS OF BULK AT MOST 1048576: true; the input reads as it did. -/
def verdictBackUptoRow : OpenClaim := { program := "ytpneojpgahegaaa", sum := "4e35b22f742eaf7c9ce62f40dc9d3582707cac68a58fe1cc5371ceb8709fb110", func := "probate/probatelaw20.VerdictBack", spec := "verdictBack", unfollowed := true, recurses := true, apart := false, narrowed := true }
def VerdictBackUptoSaid : Prop := verdictBackUptoRow.holds Try.pinned (OpenSpec.upto verdictBackSpec)

/-- 'probatelaw20.VerdictProofs', WHERE WHAT IT READS IS OF BULK AT MOST 1048576: true; the input reads as it did. -/
def verdictProofsUptoRow : OpenClaim := { program := "ytpneojpgahegaaa", sum := "4e35b22f742eaf7c9ce62f40dc9d3582707cac68a58fe1cc5371ceb8709fb110", func := "probate/probatelaw20.VerdictProofs", spec := "verdictProofs", unfollowed := true, recurses := true, apart := false, narrowed := true }
def VerdictProofsUptoSaid : Prop := verdictProofsUptoRow.holds Try.pinned (OpenSpec.upto verdictProofsSpec)

end Rows
end Go.Proofs.Ytpneojpgahegaaa
