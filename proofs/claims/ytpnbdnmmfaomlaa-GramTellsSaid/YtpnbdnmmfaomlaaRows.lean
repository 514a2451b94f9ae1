/-
  No cell of these rows narrows 'for every input' (looked for: loops, veiled, ifaces, maps, wideKeys, modest, calm, conditions, laid).
  DERIVED. THE GIVEN ROWS OF THIS SEAT. 17 by the template 'for every input the law returns true; each argument reads behind the call as it read before'; 0 by the template 'total and deterministic' (their statements: YtpnbdnmmfaomlaaTotals.lean).
  GIVEN WITH THE SEED: the statements are not yours to turn. If you find one false, say at which input.
  Laid BY PROGRAM, IN A SANDBOX (cutbox-rows.mjs): the forced cells as the released guide's own fill.sh prints them over the translation f5cc86a2d3de0f0a… (all of the seat's roots in one cut). By AI agents, Wed Nov 11 2026. No macro, syntax, notation, axiom, sorry.
-/
import Derived.Test.YtpnbdnmmfaomlaaChecked
import GoSem.Claim
import GoSem.ClaimJoined
import GoSem.ClaimMapViews
import Derived.JoinedTies
import Derived.KernelRfl
namespace Go.Proofs.Ytpnbdnmmfaomlaa
/- THE CELL 'sum', in the pinned program and in every row, IS THE sha256 OF THE DUMP (.gsa) THAT YtpnbdnmmfaomlaaProg.lean LOADS. Nothing in Lean hashes anything: it is a label: what it is worth is what the hold of that sum in a sandbox is worth. -/
noncomputable def Try.pinned : Pinned := { name := "ytpnbdnmmfaomlaa", sum := "f5cc86a2d3de0f0a509c815a910ffe1cfd7b6eaa8085ce4f78511655bebf2ca6", checked := Try.checked }
namespace Rows
def none {H : Type} : Left H := { results := [], args := [] }

/-- 'probatelaw01.VaryTells': WHATEVER THE INPUT: true; the input reads as it did. -/
def varyTellsSpec : ChangeSpec := { name := "varyTells", fn := fun _ => fun
  | [d1, d2] => { results := [.lit (.bool true)], args := [d1, d2] }
  | _ => none }
def varyTellsRow : OpenClaim := { program := "ytpnbdnmmfaomlaa", sum := "f5cc86a2d3de0f0a509c815a910ffe1cfd7b6eaa8085ce4f78511655bebf2ca6", func := "probate/probatelaw01.VaryTells", spec := "varyTells", recurses := true, apart := false }
def VaryTellsSaid : Prop := varyTellsRow.holds Try.pinned (OpenSpec.ofChange varyTellsSpec)

/-- ITS FALSE NEIGHBOUR: 'it returns false'. Refute it at one input. -/
def varyTellsWrong : ChangeSpec := { name := "varyTells", fn := fun _ => fun
  | [d1, d2] => { results := [.lit (.bool false)], args := [d1, d2] }
  | _ => none }
def VaryTellsWrongFalsely : Prop := varyTellsRow.holds Try.pinned (OpenSpec.ofChange varyTellsWrong)

/-- 'probatelaw01.VaryBack': WHATEVER THE INPUT: true; the input reads as it did. -/
def varyBackSpec : ChangeSpec := { name := "varyBack", fn := fun _ => fun
  | [d1, d2, d3] => { results := [.lit (.bool true)], args := [d1, d2, d3] }
  | _ => none }
def varyBackRow : OpenClaim := { program := "ytpnbdnmmfaomlaa", sum := "f5cc86a2d3de0f0a509c815a910ffe1cfd7b6eaa8085ce4f78511655bebf2ca6", func := "probate/probatelaw01.VaryBack", spec := "varyBack", apart := false }
def VaryBackSaid : Prop := varyBackRow.holds Try.pinned (OpenSpec.ofChange varyBackSpec)

/-- ITS FALSE NEIGHBOUR: 'it returns false'. Refute it at one input. -/
def varyBackWrong : ChangeSpec := { name := "varyBack", fn := fun _ => fun
  | [d1, d2, d3] => { results := [.lit (.bool false)], args := [d1, d2, d3] }
  | _ => none }
def VaryBackWrongFalsely : Prop := varyBackRow.holds Try.pinned (OpenSpec.ofChange varyBackWrong)

/-- 'probatelaw01.VaryOne': WHATEVER THE INPUT: true; the input reads as it did. -/
def varyOneSpec : ChangeSpec := { name := "varyOne", fn := fun _ => fun
  | [d] => { results := [.lit (.bool true)], args := [d] }
  | _ => none }
def varyOneRow : OpenClaim := { program := "ytpnbdnmmfaomlaa", sum := "f5cc86a2d3de0f0a509c815a910ffe1cfd7b6eaa8085ce4f78511655bebf2ca6", func := "probate/probatelaw01.VaryOne", spec := "varyOne", apart := false }
def VaryOneSaid : Prop := varyOneRow.holds Try.pinned (OpenSpec.ofChange varyOneSpec)

/-- ITS FALSE NEIGHBOUR: 'it returns false'. Refute it at one input. -/
def varyOneWrong : ChangeSpec := { name := "varyOne", fn := fun _ => fun
  | [d] => { results := [.lit (.bool false)], args := [d] }
  | _ => none }
def VaryOneWrongFalsely : Prop := varyOneRow.holds Try.pinned (OpenSpec.ofChange varyOneWrong)

/-- 'probatelaw02.WireWrites': WHATEVER THE INPUT: true; the input reads as it did. -/
def wireWritesSpec : ChangeSpec := { name := "wireWrites", fn := fun _ => fun
  | [d] => { results := [.lit (.bool true)], args := [d] }
  | _ => none }
def wireWritesRow : OpenClaim := { program := "ytpnbdnmmfaomlaa", sum := "f5cc86a2d3de0f0a509c815a910ffe1cfd7b6eaa8085ce4f78511655bebf2ca6", func := "probate/probatelaw02.WireWrites", spec := "wireWrites", unfollowed := true, recurses := true, apart := false }
def WireWritesSaid : Prop := wireWritesRow.holds Try.pinned (OpenSpec.ofChange wireWritesSpec)

/-- ITS FALSE NEIGHBOUR: 'it returns false'. Refute it at one input. -/
def wireWritesWrong : ChangeSpec := { name := "wireWrites", fn := fun _ => fun
  | [d] => { results := [.lit (.bool false)], args := [d] }
  | _ => none }
def WireWritesWrongFalsely : Prop := wireWritesRow.holds Try.pinned (OpenSpec.ofChange wireWritesWrong)

/-- 'probatelaw02.WireReads': WHATEVER THE INPUT: true; the input reads as it did. -/
def wireReadsSpec : ChangeSpec := { name := "wireReads", fn := fun _ => fun
  | [d1, d2] => { results := [.lit (.bool true)], args := [d1, d2] }
  | _ => none }
def wireReadsRow : OpenClaim := { program := "ytpnbdnmmfaomlaa", sum := "f5cc86a2d3de0f0a509c815a910ffe1cfd7b6eaa8085ce4f78511655bebf2ca6", func := "probate/probatelaw02.WireReads", spec := "wireReads", unfollowed := true, recurses := true, apart := false }
def WireReadsSaid : Prop := wireReadsRow.holds Try.pinned (OpenSpec.ofChange wireReadsSpec)

/-- ITS FALSE NEIGHBOUR: 'it returns false'. Refute it at one input. -/
def wireReadsWrong : ChangeSpec := { name := "wireReads", fn := fun _ => fun
  | [d1, d2] => { results := [.lit (.bool false)], args := [d1, d2] }
  | _ => none }
def WireReadsWrongFalsely : Prop := wireReadsRow.holds Try.pinned (OpenSpec.ofChange wireReadsWrong)

/-- 'probatelaw02.WireBack': WHATEVER THE INPUT: true; the input reads as it did. -/
def wireBackSpec : ChangeSpec := { name := "wireBack", fn := fun _ => fun
  | [d1, d2] => { results := [.lit (.bool true)], args := [d1, d2] }
  | _ => none }
def wireBackRow : OpenClaim := { program := "ytpnbdnmmfaomlaa", sum := "f5cc86a2d3de0f0a509c815a910ffe1cfd7b6eaa8085ce4f78511655bebf2ca6", func := "probate/probatelaw02.WireBack", spec := "wireBack", unfollowed := true, recurses := true, apart := false }
def WireBackSaid : Prop := wireBackRow.holds Try.pinned (OpenSpec.ofChange wireBackSpec)

/-- ITS FALSE NEIGHBOUR: 'it returns false'. Refute it at one input. -/
def wireBackWrong : ChangeSpec := { name := "wireBack", fn := fun _ => fun
  | [d1, d2] => { results := [.lit (.bool false)], args := [d1, d2] }
  | _ => none }
def WireBackWrongFalsely : Prop := wireBackRow.holds Try.pinned (OpenSpec.ofChange wireBackWrong)

/-- 'probatelaw02.WireList': WHATEVER THE INPUT: true; the input reads as it did. -/
def wireListSpec : ChangeSpec := { name := "wireList", fn := fun _ => fun
  | [d1, d2, d3] => { results := [.lit (.bool true)], args := [d1, d2, d3] }
  | _ => none }
def wireListRow : OpenClaim := { program := "ytpnbdnmmfaomlaa", sum := "f5cc86a2d3de0f0a509c815a910ffe1cfd7b6eaa8085ce4f78511655bebf2ca6", func := "probate/probatelaw02.WireList", spec := "wireList", unfollowed := true, recurses := true, apart := false }
def WireListSaid : Prop := wireListRow.holds Try.pinned (OpenSpec.ofChange wireListSpec)

/-- ITS FALSE NEIGHBOUR: 'it returns false'. Refute it at one input. -/
def wireListWrong : ChangeSpec := { name := "wireList", fn := fun _ => fun
  | [d1, d2, d3] => { results := [.lit (.bool false)], args := [d1, d2, d3] }
  | _ => none }
def WireListWrongFalsely : Prop := wireListRow.holds Try.pinned (OpenSpec.ofChange wireListWrong)

/-- 'probatelaw05.ScanTells': WHATEVER THE INPUT: true; the input reads as it did. -/
def scanTellsSpec : ChangeSpec := { name := "scanTells", fn := fun _ => fun
  | [d] => { results := [.lit (.bool true)], args := [d] }
  | _ => none }
def scanTellsRow : OpenClaim := { program := "ytpnbdnmmfaomlaa", sum := "f5cc86a2d3de0f0a509c815a910ffe1cfd7b6eaa8085ce4f78511655bebf2ca6", func := "probate/probatelaw05.ScanTells", spec := "scanTells", inPlace := ["internal/bytealg.IndexByteString", "internal/bytealg.IndexString"], unfollowed := true, recurses := true, named := ["internal/bytealg.MaxLen"], apart := false }
def ScanTellsSaid : Prop := scanTellsRow.holds Try.pinned (OpenSpec.ofChange scanTellsSpec)

/-- ITS FALSE NEIGHBOUR: 'it returns false'. Refute it at one input. -/
def scanTellsWrong : ChangeSpec := { name := "scanTells", fn := fun _ => fun
  | [d] => { results := [.lit (.bool false)], args := [d] }
  | _ => none }
def ScanTellsWrongFalsely : Prop := scanTellsRow.holds Try.pinned (OpenSpec.ofChange scanTellsWrong)

/-- 'probatelaw05.ScanAgain': WHATEVER THE INPUT: true; the input reads as it did. -/
def scanAgainSpec : ChangeSpec := { name := "scanAgain", fn := fun _ => fun
  | [d] => { results := [.lit (.bool true)], args := [d] }
  | _ => none }
def scanAgainRow : OpenClaim := { program := "ytpnbdnmmfaomlaa", sum := "f5cc86a2d3de0f0a509c815a910ffe1cfd7b6eaa8085ce4f78511655bebf2ca6", func := "probate/probatelaw05.ScanAgain", spec := "scanAgain", inPlace := ["internal/bytealg.IndexByteString", "internal/bytealg.IndexString"], unfollowed := true, recurses := true, named := ["internal/bytealg.MaxLen"], apart := false }
def ScanAgainSaid : Prop := scanAgainRow.holds Try.pinned (OpenSpec.ofChange scanAgainSpec)

/-- ITS FALSE NEIGHBOUR: 'it returns false'. Refute it at one input. -/
def scanAgainWrong : ChangeSpec := { name := "scanAgain", fn := fun _ => fun
  | [d] => { results := [.lit (.bool false)], args := [d] }
  | _ => none }
def ScanAgainWrongFalsely : Prop := scanAgainRow.holds Try.pinned (OpenSpec.ofChange scanAgainWrong)

/-- 'probatelaw05.ScanBetween': WHATEVER THE INPUT: true; the input reads as it did. -/
def scanBetweenSpec : ChangeSpec := { name := "scanBetween", fn := fun _ => fun
  | [d1, d2, d3] => { results := [.lit (.bool true)], args := [d1, d2, d3] }
  | _ => none }
def scanBetweenRow : OpenClaim := { program := "ytpnbdnmmfaomlaa", sum := "f5cc86a2d3de0f0a509c815a910ffe1cfd7b6eaa8085ce4f78511655bebf2ca6", func := "probate/probatelaw05.ScanBetween", spec := "scanBetween", inPlace := ["internal/bytealg.IndexByteString", "internal/bytealg.IndexString"], unfollowed := true, recurses := true, named := ["internal/bytealg.MaxLen"], apart := false }
def ScanBetweenSaid : Prop := scanBetweenRow.holds Try.pinned (OpenSpec.ofChange scanBetweenSpec)

/-- ITS FALSE NEIGHBOUR: 'it returns false'. Refute it at one input. -/
def scanBetweenWrong : ChangeSpec := { name := "scanBetween", fn := fun _ => fun
  | [d1, d2, d3] => { results := [.lit (.bool false)], args := [d1, d2, d3] }
  | _ => none }
def ScanBetweenWrongFalsely : Prop := scanBetweenRow.holds Try.pinned (OpenSpec.ofChange scanBetweenWrong)

/-- 'probatelaw04.WordTells': WHATEVER THE INPUT: true; the input reads as it did. -/
def wordTellsSpec : ChangeSpec := { name := "wordTells", fn := fun _ => fun
  | [d1, d2, d3, d4, d5] => { results := [.lit (.bool true)], args := [d1, d2, d3, d4, d5] }
  | _ => none }
def wordTellsRow : OpenClaim := { program := "ytpnbdnmmfaomlaa", sum := "f5cc86a2d3de0f0a509c815a910ffe1cfd7b6eaa8085ce4f78511655bebf2ca6", func := "probate/probatelaw04.WordTells", spec := "wordTells", unfollowed := true, recurses := true, apart := false }
def WordTellsSaid : Prop := wordTellsRow.holds Try.pinned (OpenSpec.ofChange wordTellsSpec)

/-- ITS FALSE NEIGHBOUR: 'it returns false'. Refute it at one input. -/
def wordTellsWrong : ChangeSpec := { name := "wordTells", fn := fun _ => fun
  | [d1, d2, d3, d4, d5] => { results := [.lit (.bool false)], args := [d1, d2, d3, d4, d5] }
  | _ => none }
def WordTellsWrongFalsely : Prop := wordTellsRow.holds Try.pinned (OpenSpec.ofChange wordTellsWrong)

/-- 'probatelaw04.WordBack': WHATEVER THE INPUT: true; the input reads as it did. -/
def wordBackSpec : ChangeSpec := { name := "wordBack", fn := fun _ => fun
  | [d1, d2, d3] => { results := [.lit (.bool true)], args := [d1, d2, d3] }
  | _ => none }
def wordBackRow : OpenClaim := { program := "ytpnbdnmmfaomlaa", sum := "f5cc86a2d3de0f0a509c815a910ffe1cfd7b6eaa8085ce4f78511655bebf2ca6", func := "probate/probatelaw04.WordBack", spec := "wordBack", unfollowed := true, recurses := true, apart := false }
def WordBackSaid : Prop := wordBackRow.holds Try.pinned (OpenSpec.ofChange wordBackSpec)

/-- ITS FALSE NEIGHBOUR: 'it returns false'. Refute it at one input. -/
def wordBackWrong : ChangeSpec := { name := "wordBack", fn := fun _ => fun
  | [d1, d2, d3] => { results := [.lit (.bool false)], args := [d1, d2, d3] }
  | _ => none }
def WordBackWrongFalsely : Prop := wordBackRow.holds Try.pinned (OpenSpec.ofChange wordBackWrong)

/-- 'probatelaw04.WordTurns': WHATEVER THE INPUT: true; the input reads as it did. -/
def wordTurnsSpec : ChangeSpec := { name := "wordTurns", fn := fun _ => fun
  | [d1, d2, d3] => { results := [.lit (.bool true)], args := [d1, d2, d3] }
  | _ => none }
def wordTurnsRow : OpenClaim := { program := "ytpnbdnmmfaomlaa", sum := "f5cc86a2d3de0f0a509c815a910ffe1cfd7b6eaa8085ce4f78511655bebf2ca6", func := "probate/probatelaw04.WordTurns", spec := "wordTurns", unfollowed := true, recurses := true, apart := false }
def WordTurnsSaid : Prop := wordTurnsRow.holds Try.pinned (OpenSpec.ofChange wordTurnsSpec)

/-- ITS FALSE NEIGHBOUR: 'it returns false'. Refute it at one input. -/
def wordTurnsWrong : ChangeSpec := { name := "wordTurns", fn := fun _ => fun
  | [d1, d2, d3] => { results := [.lit (.bool false)], args := [d1, d2, d3] }
  | _ => none }
def WordTurnsWrongFalsely : Prop := wordTurnsRow.holds Try.pinned (OpenSpec.ofChange wordTurnsWrong)

/-- 'probatelaw03.GramTells': WHATEVER THE INPUT: true; the input reads as it did. -/
def gramTellsSpec : ChangeSpec := { name := "gramTells", fn := fun _ => fun
  | [d1, d2, d3, d4] => { results := [.lit (.bool true)], args := [d1, d2, d3, d4] }
  | _ => none }
def gramTellsRow : OpenClaim := { program := "ytpnbdnmmfaomlaa", sum := "f5cc86a2d3de0f0a509c815a910ffe1cfd7b6eaa8085ce4f78511655bebf2ca6", func := "probate/probatelaw03.GramTells", spec := "gramTells", unfollowed := true, recurses := true, apart := false }
def GramTellsSaid : Prop := gramTellsRow.holds Try.pinned (OpenSpec.ofChange gramTellsSpec)

/-- ITS FALSE NEIGHBOUR: 'it returns false'. Refute it at one input. -/
def gramTellsWrong : ChangeSpec := { name := "gramTells", fn := fun _ => fun
  | [d1, d2, d3, d4] => { results := [.lit (.bool false)], args := [d1, d2, d3, d4] }
  | _ => none }
def GramTellsWrongFalsely : Prop := gramTellsRow.holds Try.pinned (OpenSpec.ofChange gramTellsWrong)

/-- 'probatelaw03.GramBack': WHATEVER THE INPUT: true; the input reads as it did. -/
def gramBackSpec : ChangeSpec := { name := "gramBack", fn := fun _ => fun
  | [d1, d2, d3] => { results := [.lit (.bool true)], args := [d1, d2, d3] }
  | _ => none }
def gramBackRow : OpenClaim := { program := "ytpnbdnmmfaomlaa", sum := "f5cc86a2d3de0f0a509c815a910ffe1cfd7b6eaa8085ce4f78511655bebf2ca6", func := "probate/probatelaw03.GramBack", spec := "gramBack", unfollowed := true, recurses := true, apart := false }
def GramBackSaid : Prop := gramBackRow.holds Try.pinned (OpenSpec.ofChange gramBackSpec)

/-- ITS FALSE NEIGHBOUR: 'it returns false'. Refute it at one input. -/
def gramBackWrong : ChangeSpec := { name := "gramBack", fn := fun _ => fun
  | [d1, d2, d3] => { results := [.lit (.bool false)], args := [d1, d2, d3] }
  | _ => none }
def GramBackWrongFalsely : Prop := gramBackRow.holds Try.pinned (OpenSpec.ofChange gramBackWrong)

/-- 'probatelaw03.GramOf': WHATEVER THE INPUT: true; the input reads as it did. -/
def gramOfSpec : ChangeSpec := { name := "gramOf", fn := fun _ => fun
  | [d1, d2] => { results := [.lit (.bool true)], args := [d1, d2] }
  | _ => none }
def gramOfRow : OpenClaim := { program := "ytpnbdnmmfaomlaa", sum := "f5cc86a2d3de0f0a509c815a910ffe1cfd7b6eaa8085ce4f78511655bebf2ca6", func := "probate/probatelaw03.GramOf", spec := "gramOf", unfollowed := true, recurses := true, apart := false }
def GramOfSaid : Prop := gramOfRow.holds Try.pinned (OpenSpec.ofChange gramOfSpec)

/-- ITS FALSE NEIGHBOUR: 'it returns false'. Refute it at one input. -/
def gramOfWrong : ChangeSpec := { name := "gramOf", fn := fun _ => fun
  | [d1, d2] => { results := [.lit (.bool false)], args := [d1, d2] }
  | _ => none }
def GramOfWrongFalsely : Prop := gramOfRow.holds Try.pinned (OpenSpec.ofChange gramOfWrong)

/-- 'probatelaw03.GramOwn': WHATEVER THE INPUT: true; the input reads as it did. -/
def gramOwnSpec : ChangeSpec := { name := "gramOwn", fn := fun _ => fun
  | [d] => { results := [.lit (.bool true)], args := [d] }
  | _ => none }
def gramOwnRow : OpenClaim := { program := "ytpnbdnmmfaomlaa", sum := "f5cc86a2d3de0f0a509c815a910ffe1cfd7b6eaa8085ce4f78511655bebf2ca6", func := "probate/probatelaw03.GramOwn", spec := "gramOwn", unfollowed := true, recurses := true, apart := false }
def GramOwnSaid : Prop := gramOwnRow.holds Try.pinned (OpenSpec.ofChange gramOwnSpec)

/-- ITS FALSE NEIGHBOUR: 'it returns false'. Refute it at one input. -/
def gramOwnWrong : ChangeSpec := { name := "gramOwn", fn := fun _ => fun
  | [d] => { results := [.lit (.bool false)], args := [d] }
  | _ => none }
def GramOwnWrongFalsely : Prop := gramOwnRow.holds Try.pinned (OpenSpec.ofChange gramOwnWrong)

/- THE SECOND FORM. 'bulk': how many values and letters a reading holds, each counted each time it is reached (what is shared counts as often as it is met; a slice's spare places count too). A statement '..UptoSaid' is the law's where the arguments, and the package variables that the reading takes, are together of bulk at most 1048576: NARROWER than '..Said'. Prove '..Said' where nothing that the law and all that it calls make is longer than what came in: it says more and counts as full. Else prove '..UptoSaid'. A law counts once. -/
mutual
def uptoBulk {H : Type} : DataW H → Nat
  | .lit (.string bytes) => bytes.length + 1
  | .lit _ => 1
  | .nil => 1
  | .ptr d => uptoBulk d + 1
  | .slice elems spare => uptoBulkAll elems + uptoBulkAll spare + 1
  | .agg parts => uptoBulkAll parts + 1
  | .iface _ d => uptoBulk d + 1
  | .map entries => uptoBulkEntries entries + 1
  | .held _ => 1
def uptoBulkAll {H : Type} : List (DataW H) → Nat
  | [] => 0
  | d :: r => uptoBulk d + uptoBulkAll r
def uptoBulkEntries {H : Type} : List (Lit × DataW H) → Nat
  | [] => 0
  | x :: r => uptoBulkEntry x + uptoBulkEntries r
def uptoBulkEntry {H : Type} : Lit × DataW H → Nat
  | (.string bytes, d) => bytes.length + uptoBulk d + 1
  | (_, d) => uptoBulk d + 1
 end
def uptoSmall : (H : Type) → List (DataW H) → Bool := fun _ ds => decide (uptoBulkAll ds ≤ 1048576)
def OpenSpec.upto (s : _root_.Go.ChangeSpec) : _root_.Go.OpenSpec := { _root_.Go.OpenSpec.ofChange s with cond := some uptoSmall }

/-- 'probatelaw01.VaryTells', WHERE WHAT IT READS IS OF BULK AT MOST 1048576: true; the input reads as it did. -/
def varyTellsUptoRow : OpenClaim := { program := "ytpnbdnmmfaomlaa", sum := "f5cc86a2d3de0f0a509c815a910ffe1cfd7b6eaa8085ce4f78511655bebf2ca6", func := "probate/probatelaw01.VaryTells", spec := "varyTells", recurses := true, apart := false, narrowed := true }
def VaryTellsUptoSaid : Prop := varyTellsUptoRow.holds Try.pinned (OpenSpec.upto varyTellsSpec)

/-- 'probatelaw01.VaryBack', WHERE WHAT IT READS IS OF BULK AT MOST 1048576: true; the input reads as it did. -/
def varyBackUptoRow : OpenClaim := { program := "ytpnbdnmmfaomlaa", sum := "f5cc86a2d3de0f0a509c815a910ffe1cfd7b6eaa8085ce4f78511655bebf2ca6", func := "probate/probatelaw01.VaryBack", spec := "varyBack", apart := false, narrowed := true }
def VaryBackUptoSaid : Prop := varyBackUptoRow.holds Try.pinned (OpenSpec.upto varyBackSpec)

/-- 'probatelaw01.VaryOne', WHERE WHAT IT READS IS OF BULK AT MOST 1048576: true; the input reads as it did. -/
def varyOneUptoRow : OpenClaim := { program := "ytpnbdnmmfaomlaa", sum := "f5cc86a2d3de0f0a509c815a910ffe1cfd7b6eaa8085ce4f78511655bebf2ca6", func := "probate/probatelaw01.VaryOne", spec := "varyOne", apart := false, narrowed := true }
def VaryOneUptoSaid : Prop := varyOneUptoRow.holds Try.pinned (OpenSpec.upto varyOneSpec)

/-- 'probatelaw02.WireWrites', WHERE WHAT IT READS IS OF BULK AT MOST 1048576: true; the input reads as it did. -/
def wireWritesUptoRow : OpenClaim := { program := "ytpnbdnmmfaomlaa", sum := "f5cc86a2d3de0f0a509c815a910ffe1cfd7b6eaa8085ce4f78511655bebf2ca6", func := "probate/probatelaw02.WireWrites", spec := "wireWrites", unfollowed := true, recurses := true, apart := false, narrowed := true }
def WireWritesUptoSaid : Prop := wireWritesUptoRow.holds Try.pinned (OpenSpec.upto wireWritesSpec)

/-- 'probatelaw02.WireReads', WHERE WHAT IT READS IS OF BULK AT MOST 1048576: true; the input reads as it did. -/
def wireReadsUptoRow : OpenClaim := { program := "ytpnbdnmmfaomlaa", sum := "f5cc86a2d3de0f0a509c815a910ffe1cfd7b6eaa8085ce4f78511655bebf2ca6", func := "probate/probatelaw02.WireReads", spec := "wireReads", unfollowed := true, recurses := true, apart := false, narrowed := true }
def WireReadsUptoSaid : Prop := wireReadsUptoRow.holds Try.pinned (OpenSpec.upto wireReadsSpec)

/-- 'probatelaw02.WireBack', WHERE WHAT IT READS IS OF BULK AT MOST 1048576: true; the input reads as it did. -/
def wireBackUptoRow : OpenClaim := { program := "ytpnbdnmmfaomlaa", sum := "f5cc86a2d3de0f0a509c815a910ffe1cfd7b6eaa8085ce4f78511655bebf2ca6", func := "probate/probatelaw02.WireBack", spec := "wireBack", unfollowed := true, recurses := true, apart := false, narrowed := true }
def WireBackUptoSaid : Prop := wireBackUptoRow.holds Try.pinned (OpenSpec.upto wireBackSpec)

/-- 'probatelaw02.WireList', WHERE WHAT IT READS IS OF BULK AT MOST 1048576: true; the input reads as it did. -/
def wireListUptoRow : OpenClaim := { program := "ytpnbdnmmfaomlaa", sum := "f5cc86a2d3de0f0a509c815a910ffe1cfd7b6eaa8085ce4f78511655bebf2ca6", func := "probate/probatelaw02.WireList", spec := "wireList", unfollowed := true, recurses := true, apart := false, narrowed := true }
def WireListUptoSaid : Prop := wireListUptoRow.holds Try.pinned (OpenSpec.upto wireListSpec)

/-- 'probatelaw05.ScanTells', WHERE WHAT IT READS IS OF BULK AT MOST 1048576: true; the input reads as it did. -/
def scanTellsUptoRow : OpenClaim := { program := "ytpnbdnmmfaomlaa", sum := "f5cc86a2d3de0f0a509c815a910ffe1cfd7b6eaa8085ce4f78511655bebf2ca6", func := "probate/probatelaw05.ScanTells", spec := "scanTells", inPlace := ["internal/bytealg.IndexByteString", "internal/bytealg.IndexString"], unfollowed := true, recurses := true, named := ["internal/bytealg.MaxLen"], apart := false, narrowed := true }
def ScanTellsUptoSaid : Prop := scanTellsUptoRow.holds Try.pinned (OpenSpec.upto scanTellsSpec)

/-- 'probatelaw05.ScanAgain', WHERE WHAT IT READS IS OF BULK AT MOST 1048576: true; the input reads as it did. -/
def scanAgainUptoRow : OpenClaim := { program := "ytpnbdnmmfaomlaa", sum := "f5cc86a2d3de0f0a509c815a910ffe1cfd7b6eaa8085ce4f78511655bebf2ca6", func := "probate/probatelaw05.ScanAgain", spec := "scanAgain", inPlace := ["internal/bytealg.IndexByteString", "internal/bytealg.IndexString"], unfollowed := true, recurses := true, named := ["internal/bytealg.MaxLen"], apart := false, narrowed := true }
def ScanAgainUptoSaid : Prop := scanAgainUptoRow.holds Try.pinned (OpenSpec.upto scanAgainSpec)

/-- 'probatelaw05.ScanBetween', WHERE WHAT IT READS IS OF BULK AT MOST 1048576: true; the input reads as it did. -/
def scanBetweenUptoRow : OpenClaim := { program := "ytpnbdnmmfaomlaa", sum := "f5cc86a2d3de0f0a509c815a910ffe1cfd7b6eaa8085ce4f78511655bebf2ca6", func := "probate/probatelaw05.ScanBetween", spec := "scanBetween", inPlace := ["internal/bytealg.IndexByteString", "internal/bytealg.IndexString"], unfollowed := true, recurses := true, named := ["internal/bytealg.MaxLen"], apart := false, narrowed := true }
def ScanBetweenUptoSaid : Prop := scanBetweenUptoRow.holds Try.pinned (OpenSpec.upto scanBetweenSpec)

/-- 'probatelaw04.WordTells', WHERE WHAT IT READS IS OF BULK AT MOST 1048576: true; the input reads as it did. -/
def wordTellsUptoRow : OpenClaim := { program := "ytpnbdnmmfaomlaa", sum := "f5cc86a2d3de0f0a509c815a910ffe1cfd7b6eaa8085ce4f78511655bebf2ca6", func := "probate/probatelaw04.WordTells", spec := "wordTells", unfollowed := true, recurses := true, apart := false, narrowed := true }
def WordTellsUptoSaid : Prop := wordTellsUptoRow.holds Try.pinned (OpenSpec.upto wordTellsSpec)

/-- 'probatelaw04.WordBack', WHERE WHAT IT READS IS OF BULK AT MOST 1048576: true; the input reads as it did. -/
def wordBackUptoRow : OpenClaim := { program := "ytpnbdnmmfaomlaa", sum := "f5cc86a2d3de0f0a509c815a910ffe1cfd7b6eaa8085ce4f78511655bebf2ca6", func := "probate/probatelaw04.WordBack", spec := "wordBack", unfollowed := true, recurses := true, apart := false, narrowed := true }
def WordBackUptoSaid : Prop := wordBackUptoRow.holds Try.pinned (OpenSpec.upto wordBackSpec)

/-- 'probatelaw04.WordTurns', WHERE WHAT IT READS IS OF BULK AT MOST 1048576: true; the input reads as it did. -/
def wordTurnsUptoRow : OpenClaim := { program := "ytpnbdnmmfaomlaa", sum := "f5cc86a2d3de0f0a509c815a910ffe1cfd7b6eaa8085ce4f78511655bebf2ca6", func := "probate/probatelaw04.WordTurns", spec := "wordTurns", unfollowed := true, recurses := true, apart := false, narrowed := true }
def WordTurnsUptoSaid : Prop := wordTurnsUptoRow.holds Try.pinned (OpenSpec.upto wordTurnsSpec)

/-- 'probatelaw03.GramTells', WHERE WHAT IT READS IS OF BULK AT MOST 1048576: true; the input reads as it did. -/
def gramTellsUptoRow : OpenClaim := { program := "ytpnbdnmmfaomlaa", sum := "f5cc86a2d3de0f0a509c815a910ffe1cfd7b6eaa8085ce4f78511655bebf2ca6", func := "probate/probatelaw03.GramTells", spec := "gramTells", unfollowed := true, recurses := true, apart := false, narrowed := true }
def GramTellsUptoSaid : Prop := gramTellsUptoRow.holds Try.pinned (OpenSpec.upto gramTellsSpec)

/-- 'probatelaw03.GramBack', WHERE WHAT IT READS IS OF BULK AT MOST 1048576: true; the input reads as it did. -/
def gramBackUptoRow : OpenClaim := { program := "ytpnbdnmmfaomlaa", sum := "f5cc86a2d3de0f0a509c815a910ffe1cfd7b6eaa8085ce4f78511655bebf2ca6", func := "probate/probatelaw03.GramBack", spec := "gramBack", unfollowed := true, recurses := true, apart := false, narrowed := true }
def GramBackUptoSaid : Prop := gramBackUptoRow.holds Try.pinned (OpenSpec.upto gramBackSpec)

/-- 'probatelaw03.GramOf', WHERE WHAT IT READS IS OF BULK AT MOST 1048576: true; the input reads as it did. -/
def gramOfUptoRow : OpenClaim := { program := "ytpnbdnmmfaomlaa", sum := "f5cc86a2d3de0f0a509c815a910ffe1cfd7b6eaa8085ce4f78511655bebf2ca6", func := "probate/probatelaw03.GramOf", spec := "gramOf", unfollowed := true, recurses := true, apart := false, narrowed := true }
def GramOfUptoSaid : Prop := gramOfUptoRow.holds Try.pinned (OpenSpec.upto gramOfSpec)

/-- 'probatelaw03.GramOwn', WHERE WHAT IT READS IS OF BULK AT MOST 1048576: true; the input reads as it did. -/
def gramOwnUptoRow : OpenClaim := { program := "ytpnbdnmmfaomlaa", sum := "f5cc86a2d3de0f0a509c815a910ffe1cfd7b6eaa8085ce4f78511655bebf2ca6", func := "probate/probatelaw03.GramOwn", spec := "gramOwn", unfollowed := true, recurses := true, apart := false, narrowed := true }
def GramOwnUptoSaid : Prop := gramOwnUptoRow.holds Try.pinned (OpenSpec.upto gramOwnSpec)

end Rows
end Go.Proofs.Ytpnbdnmmfaomlaa
