/-
  What the law ClosedMeans needs of this claim's texts (part 4). Conditions: each theorem's own.
-/
import Derived.Test.YtajaoldljichaaaChecked
import Derived.KernelRfl
import Derived.Test.YtajaoldljichaaaAlKeys
import Derived.Test.YtajaoldljichaaaAlArg
import Derived.Test.YtajaoldljichaaaAlA
import Derived.Test.YtajaoldljichaaaAlB
import Derived.Test.YtajaoldljichaaaAlC
import Derived.Test.YtajaoldljichaaaSh1ClosedMeans
import Derived.Test.YtajaoldljichaaaSh2ClosedMeans
import Derived.Test.YtajaoldljichaaaSh3ClosedMeans
namespace Go.Proofs.Ytajaoldljichaaa.Al
open Go
def yK : Keys := ⟨fun k => ([0, 0, 1, 2, 0, 0, 0, 0, 0, 0, 0, 0, 0, 0, 0, 0, 0, 0, 0, 0, 0, 0, 0, 0, 0, 0, 0, 0, 0, 0, 0, 0, 0, 0, 0, 0, 28, 0, 0, 0, 0, 0, 0, 0, 0, 0, 0, 0, 0, 0, 0, 0, 0, 0, 0, 0, 0, 0, 0, 0, 0, 0, 31, 0, 12, 0, 0, 0, 0, 0, 0, 0, 0, 32, 18, 0, 0, 0, 42, 19, 0, 0, 0, 0, 0, 0, 0, 0, 0, 0, 0, 0, 0, 0, 0, 0, 46, 47, 48, 0, 0, 0, 0, 0, 0, 0, 0, 0, 0, 0, 61, 62, 63, 64, 0, 0, 0, 69, 0, 0, 0, 0, 0, 0, 70, 71, 72, 73, 74, 75, 76, 77, 78, 79, 80, 81, 82, 83, 84, 85, 86, 3, 0, 0, 0, 4, 0, 0, 0, 0, 0, 0, 0, 0, 0, 5, 6, 7, 8, 9, 10, 11, 0, 0, 0, 0, 0, 0, 0, 0, 0, 0, 0, 0, 0, 0, 0, 0, 0, 0, 0, 0, 13, 14, 0, 0, 0, 0, 0, 0, 0, 0, 0, 0, 0, 0, 0, 0, 0, 0, 0, 0, 0, 15, 16, 17, 20, 21, 22, 23, 24, 25, 26, 27, 29, 30, 0, 0, 0, 0, 0, 0, 0, 0, 0, 0, 0, 0, 0, 0, 0, 0, 0, 0, 0, 0, 0, 0, 0, 0, 0, 33, 34, 0, 0, 0, 0, 0, 49, 0, 0, 0, 0, 0, 0, 0, 0, 0, 0, 0, 0, 0, 0, 0, 0, 0, 0, 0, 0, 0, 0, 35, 36, 37, 38, 39, 40, 41, 43, 44, 45, 0, 0, 59, 0, 0, 0, 0, 0, 50, 51, 0, 0, 0, 0, 0, 0, 0, 0, 0, 0, 0, 0, 0, 0, 0, 0, 0, 0, 0, 0, 0, 0, 0, 0, 0, 0, 0, 0, 0, 0, 52, 53, 54, 55, 56, 57, 58, 60, 68, 0, 0, 0, 0, 0, 0, 0, 0, 65, 66, 67, 0, 0, 0, 0, 0, 0, 0, 0, 0, 0, 0, 0, 0, 0, 0, 0, 0, 0, 0, 0, 0, 0, 0, 0, 0, 0, 0, 0, 0, 0, 0, 0, 0, 0, 0, 0, 0, 0, 0, 0, 0, 0, 0, 0, 0, 0, 0, 0, 0, 0, 0, 0, 0, 0, 0, 0, 0, 0, 0, 0, 0, 0, 0, 0, 0, 0, 0, 0, 0, 0, 0, 0, 0, 0, 0, 0, 0] : List Nat).getD k 0, fun k => ([1, 2, 3, 141, 145, 155, 156, 157, 158, 159, 160, 161, 64, 182, 183, 203, 204, 205, 74, 79, 206, 207, 208, 209, 210, 211, 212, 213, 36, 214, 215, 62, 73, 241, 242, 271, 272, 273, 274, 275, 276, 277, 78, 278, 279, 280, 96, 97, 98, 248, 289, 290, 321, 322, 323, 324, 325, 326, 327, 283, 328, 110, 111, 112, 113, 338, 339, 340, 329, 117, 124, 125, 126, 127, 128, 129, 130, 131, 132, 133, 134, 135, 136, 137, 138, 139, 140] : List Nat).getD k 0, fun k => ([33, 34, 35, 37, 38, 39, 40, 45, 81, 82, 83, 85, 94, 95, 108, 109, 202, 242, 243, 244, 248, 249, 259, 270, 289, 290, 292, 294, 300, 301, 317, 320] : List Nat).contains k, fun _ => false⟩
noncomputable abbrev cxZ (W0 : World) (Z : Value → AH → Prop) : Cx := ⟨Try.prog, yK.tbl, W0, Z⟩
noncomputable abbrev cxOf (W0 : World) : Cx := cxZ W0 fun _ _ => False
end Go.Proofs.Ytajaoldljichaaa.Al
namespace Go.Proofs.Ytajaoldljichaaa.Al
open Go
theorem has_all (W0 : World) {Z : Value → AH → Prop} (hZ : ∀ p h, ¬ Z p h) : HasC (cxZ W0 Z) (yK.tbl K.closed_looker_all) := by
  have hb : ∃ c0 c1 c2 ca bo, Try.f36.body = some (.seq c0 (.seq (.seq c1 (.block 0 (.rangeFunc (.tmp 6) #[7] ca bo))) c2)) ∧ comp Try.prog yK 15 c0 = some A.closed_all.C0.strip ∧ comp Try.prog yK 15 c1 = some A.closed_all.C1.strip ∧ comp Try.prog yK 15 c2 = some A.closed_all.C2.strip ∧
      comp Try.prog yK 15 ca = some A.closed_all.As.strip ∧ comp Try.prog yK 15 bo = some A.closed_all.Bo.strip ∧ rngF Try.prog (yK.tbl K.closed_looker_all) = some (#[7], ca, bo) := 
    ⟨_, _, _, _, _, rfl, by kernel_rfl, by kernel_rfl, by kernel_rfl, by kernel_rfl, by kernel_rfl, by kernel_rfl⟩
  obtain ⟨c0, c1, c2, ca, bo, hb, h0, h1, h2, h3, h4, h5⟩ := hb
  intro args h Q hl hk
  exact fn_range Try.checked.mixed rfl (by exact Try.func36) (by kernel_rfl) (by decide) hb rfl (by kernel_rfl) h0 h1 h2 h3 h4 h5 (by decide) hZ rfl hl hk
end Go.Proofs.Ytajaoldljichaaa.Al
namespace Go.Proofs.Ytajaoldljichaaa.Al
open Go
def yPush : Keys := { yK with om := fun n => ([1000011] : List Nat).contains n }
theorem has_push (W0 : World) {Z : Value → AH → Prop} : HasPush (cxZ W0 Z) K.tree_stack_part_push := by
  have hb : ∃ c0 id ops, Try.f56.body = some (.seq c0 (.region id ops true)) ∧ comp Try.prog yPush 14 c0 = some A.tree_push.C0.strip ∧ compOpers Try.prog yPush 14 ops ops.toList = some A.tree_push.R ∧ depsOf ops = A.tree_push.D ∧ edgesDown ops = true :=
    ⟨_, _, _, rfl, by kernel_rfl, by kernel_rfl, by kernel_rfl, by kernel_rfl⟩
  obtain ⟨c0, id, ops, hb, h0, h1, h2, h3⟩ := hb
  intro args h Q hl hk
  exact push_has (X := cxZ W0 Z) (k := K.tree_stack_part_push) (Y := yPush) Try.checked.mixed rfl (by exact Try.func56) (by kernel_rfl) (by decide) hb rfl (by kernel_rfl) h0 h1 h2 h3 hl hk
end Go.Proofs.Ytajaoldljichaaa.Al
namespace Go.Proofs.Ytajaoldljichaaa.Al
open Go
theorem tie_closed_Closed : compFn Try.prog yK Try.f8 = some A.closed_Closed.strip := by kernel_rfl
theorem has_closed_Closed (W0 : World) {Z : Value → AH → Prop} : Has (Ecx (cxZ W0 Z)) K.closed_Closed A.closed_Closed := fn_sound Try.checked.mixed rfl (by exact Try.func8) (by kernel_rfl) tie_closed_Closed
theorem tie_closed_Alone : compFn Try.prog yK Try.f10 = some A.closed_Alone.strip := by kernel_rfl
theorem has_closed_Alone (W0 : World) {Z : Value → AH → Prop} : Has (Ecx (cxZ W0 Z)) K.closed_Alone A.closed_Alone := fn_sound Try.checked.mixed rfl (by exact Try.func10) (by kernel_rfl) tie_closed_Alone
theorem tie_closed_look : compFn Try.prog yK Try.f16 = some A.closed_look.strip := by kernel_rfl
theorem has_closed_look (W0 : World) {Z : Value → AH → Prop} : Has (Ecx (cxZ W0 Z)) K.closed_look A.closed_look := fn_sound Try.checked.mixed rfl (by exact Try.func16) (by kernel_rfl) tie_closed_look
theorem tie_closed_looker_closed : compFn Try.prog yK Try.f17 = some A.closed_looker_closed.strip := by kernel_rfl
theorem has_closed_looker_closed (W0 : World) {Z : Value → AH → Prop} : Has (Ecx (cxZ W0 Z)) K.closed_looker_closed A.closed_looker_closed := fn_sound Try.checked.mixed rfl (by exact Try.func17) (by kernel_rfl) tie_closed_looker_closed
theorem tie_closed_looker_other : compFn Try.prog yK Try.f26 = some A.closed_looker_other.strip := by kernel_rfl
theorem has_closed_looker_other (W0 : World) {Z : Value → AH → Prop} : Has (Ecx (cxZ W0 Z)) K.closed_looker_other A.closed_looker_other := fn_sound Try.checked.mixed rfl (by exact Try.func26) (by kernel_rfl) tie_closed_looker_other
theorem tie_closed_looker_may : compFn Try.prog yK Try.f35 = some A.closed_looker_may.strip := by kernel_rfl
theorem has_closed_looker_may (W0 : World) {Z : Value → AH → Prop} : Has (Ecx (cxZ W0 Z)) K.closed_looker_may A.closed_looker_may := fn_sound Try.checked.mixed rfl (by exact Try.func35) (by kernel_rfl) tie_closed_looker_may
theorem tie_closed_looker_begins : compFn Try.prog yK Try.f37 = some A.closed_looker_begins.strip := by kernel_rfl
theorem has_closed_looker_begins (W0 : World) {Z : Value → AH → Prop} : Has (Ecx (cxZ W0 Z)) K.closed_looker_begins A.closed_looker_begins := fn_sound Try.checked.mixed rfl (by exact Try.func37) (by kernel_rfl) tie_closed_looker_begins
theorem tie_closed_looker_follows : compFn Try.prog yK Try.f38 = some A.closed_looker_follows.strip := by kernel_rfl
theorem has_closed_looker_follows (W0 : World) {Z : Value → AH → Prop} : Has (Ecx (cxZ W0 Z)) K.closed_looker_follows A.closed_looker_follows := fn_sound Try.checked.mixed rfl (by exact Try.func38) (by kernel_rfl) tie_closed_looker_follows
theorem tie_closed_looker_has : compFn Try.prog yK Try.f43 = some A.closed_looker_has.strip := by kernel_rfl
theorem has_closed_looker_has (W0 : World) {Z : Value → AH → Prop} : Has (Ecx (cxZ W0 Z)) K.closed_looker_has A.closed_looker_has := fn_sound Try.checked.mixed rfl (by exact Try.func43) (by kernel_rfl) tie_closed_looker_has
theorem tie_closed_looker_leads : compFn Try.prog yK Try.f44 = some A.closed_looker_leads.strip := by kernel_rfl
theorem has_closed_looker_leads (W0 : World) {Z : Value → AH → Prop} : Has (Ecx (cxZ W0 Z)) K.closed_looker_leads A.closed_looker_leads := fn_sound Try.checked.mixed rfl (by exact Try.func44) (by kernel_rfl) tie_closed_looker_leads
theorem tie_closed_looker_begins_1 : compFn Try.prog yK Try.f52 = some A.closed_looker_begins_1.strip := by kernel_rfl
theorem has_closed_looker_begins_1 (W0 : World) {Z : Value → AH → Prop} : Has (Ecx (cxZ W0 Z)) K.closed_looker_begins_1 A.closed_looker_begins_1 := fn_sound Try.checked.mixed rfl (by exact Try.func52) (by kernel_rfl) tie_closed_looker_begins_1
theorem tie_closed_looker_next : compFn Try.prog yK Try.f53 = some A.closed_looker_next.strip := by kernel_rfl
theorem has_closed_looker_next (W0 : World) {Z : Value → AH → Prop} : Has (Ecx (cxZ W0 Z)) K.closed_looker_next A.closed_looker_next := fn_sound Try.checked.mixed rfl (by exact Try.func53) (by kernel_rfl) tie_closed_looker_next
theorem tie_closed_looker_waits : compFn Try.prog yK Try.f54 = some A.closed_looker_waits.strip := by kernel_rfl
theorem has_closed_looker_waits (W0 : World) {Z : Value → AH → Prop} : Has (Ecx (cxZ W0 Z)) K.closed_looker_waits A.closed_looker_waits := fn_sound Try.checked.mixed rfl (by exact Try.func54) (by kernel_rfl) tie_closed_looker_waits
theorem tie_closed_looker_follows_1 : compFn Try.prog yK Try.f55 = some A.closed_looker_follows_1.strip := by kernel_rfl
theorem has_closed_looker_follows_1 (W0 : World) {Z : Value → AH → Prop} : Has (Ecx (cxZ W0 Z)) K.closed_looker_follows_1 A.closed_looker_follows_1 := fn_sound Try.checked.mixed rfl (by exact Try.func55) (by kernel_rfl) tie_closed_looker_follows_1
theorem tie_closed_looker_leads_1 : compFn Try.prog yK Try.f60 = some A.closed_looker_leads_1.strip := by kernel_rfl
theorem has_closed_looker_leads_1 (W0 : World) {Z : Value → AH → Prop} : Has (Ecx (cxZ W0 Z)) K.closed_looker_leads_1 A.closed_looker_leads_1 := fn_sound Try.checked.mixed rfl (by exact Try.func60) (by kernel_rfl) tie_closed_looker_leads_1
theorem tie_closed_looker_waits_1 : compFn Try.prog yK Try.f65 = some A.closed_looker_waits_1.strip := by kernel_rfl
theorem has_closed_looker_waits_1 (W0 : World) {Z : Value → AH → Prop} : Has (Ecx (cxZ W0 Z)) K.closed_looker_waits_1 A.closed_looker_waits_1 := fn_sound Try.checked.mixed rfl (by exact Try.func65) (by kernel_rfl) tie_closed_looker_waits_1
end Go.Proofs.Ytajaoldljichaaa.Al
namespace Go.Proofs.Ytajaoldljichaaa.Al
open Go
theorem tie_gram_Right : compFn Try.prog yK Try.f32 = some A.gram_Right.strip := by kernel_rfl
theorem has_gram_Right (W0 : World) {Z : Value → AH → Prop} : Has (Ecx (cxZ W0 Z)) K.gram_Right A.gram_Right := fn_sound Try.checked.mixed rfl (by exact Try.func32) (by kernel_rfl) tie_gram_Right
theorem tie_gram_Of : compFn Try.prog yK Try.f42 = some A.gram_Of.strip := by kernel_rfl
theorem has_gram_Of (W0 : World) {Z : Value → AH → Prop} : Has (Ecx (cxZ W0 Z)) K.gram_Of A.gram_Of := fn_sound Try.checked.mixed rfl (by exact Try.func42) (by kernel_rfl) tie_gram_Of
theorem tie_gram_Right_1 : compFn Try.prog yK Try.f47 = some A.gram_Right_1.strip := by kernel_rfl
theorem has_gram_Right_1 (W0 : World) {Z : Value → AH → Prop} : Has (Ecx (cxZ W0 Z)) K.gram_Right_1 A.gram_Right_1 := fn_sound Try.checked.mixed rfl (by exact Try.func47) (by kernel_rfl) tie_gram_Right_1
theorem tie_gram_fits : compFn Try.prog yK Try.f48 = some A.gram_fits.strip := by kernel_rfl
theorem has_gram_fits (W0 : World) {Z : Value → AH → Prop} : Has (Ecx (cxZ W0 Z)) K.gram_fits A.gram_fits := fn_sound Try.checked.mixed rfl (by exact Try.func48) (by kernel_rfl) tie_gram_fits
theorem tie_gram_there : compFn Try.prog yK Try.f62 = some A.gram_there.strip := by kernel_rfl
theorem has_gram_there (W0 : World) {Z : Value → AH → Prop} : Has (Ecx (cxZ W0 Z)) K.gram_there A.gram_there := fn_sound Try.checked.mixed rfl (by exact Try.func62) (by kernel_rfl) tie_gram_there
theorem tie_gram_fits_1 : compFn Try.prog yK Try.f64 = some A.gram_fits_1.strip := by kernel_rfl
theorem has_gram_fits_1 (W0 : World) {Z : Value → AH → Prop} : Has (Ecx (cxZ W0 Z)) K.gram_fits_1 A.gram_fits_1 := fn_sound Try.checked.mixed rfl (by exact Try.func64) (by kernel_rfl) tie_gram_fits_1
end Go.Proofs.Ytajaoldljichaaa.Al
namespace Go.Proofs.Ytajaoldljichaaa.Al
open Go
theorem tie_slices_Equal_int : compFn Try.prog yK Try.f24 = some A.slices_Equal_int.strip := by kernel_rfl
theorem has_slices_Equal_int (W0 : World) {Z : Value → AH → Prop} : Has (Ecx (cxZ W0 Z)) K.slices_Equal_int A.slices_Equal_int := fn_sound Try.checked.mixed rfl (by exact Try.func24) (by kernel_rfl) tie_slices_Equal_int
theorem tie_slices_ContainsFunc_Node : compFn Try.prog yK Try.f25 = some A.slices_ContainsFunc_Node.strip := by kernel_rfl
theorem has_slices_ContainsFunc_Node (W0 : World) {Z : Value → AH → Prop} : Has (Ecx (cxZ W0 Z)) K.slices_ContainsFunc_Node A.slices_ContainsFunc_Node := fn_sound Try.checked.mixed rfl (by exact Try.func25) (by kernel_rfl) tie_slices_ContainsFunc_Node
theorem tie_slices_IndexFunc_Node : compFn Try.prog yK Try.f41 = some A.slices_IndexFunc_Node.strip := by kernel_rfl
theorem has_slices_IndexFunc_Node (W0 : World) {Z : Value → AH → Prop} : Has (Ecx (cxZ W0 Z)) K.slices_IndexFunc_Node A.slices_IndexFunc_Node := fn_sound Try.checked.mixed rfl (by exact Try.func41) (by kernel_rfl) tie_slices_IndexFunc_Node
theorem tie_slices_ContainsFunc_Prod : compFn Try.prog yK Try.f46 = some A.slices_ContainsFunc_Prod.strip := by kernel_rfl
theorem has_slices_ContainsFunc_Prod (W0 : World) {Z : Value → AH → Prop} : Has (Ecx (cxZ W0 Z)) K.slices_ContainsFunc_Prod A.slices_ContainsFunc_Prod := fn_sound Try.checked.mixed rfl (by exact Try.func46) (by kernel_rfl) tie_slices_ContainsFunc_Prod
theorem tie_slices_ContainsFunc_int_2 : compFn Try.prog yK Try.f59 = some A.slices_ContainsFunc_int_2.strip := by kernel_rfl
theorem has_slices_ContainsFunc_int_2 (W0 : World) {Z : Value → AH → Prop} : Has (Ecx (cxZ W0 Z)) K.slices_ContainsFunc_int_2 A.slices_ContainsFunc_int_2 := fn_sound Try.checked.mixed rfl (by exact Try.func59) (by kernel_rfl) tie_slices_ContainsFunc_int_2
theorem tie_slices_IndexFunc_Prod : compFn Try.prog yK Try.f61 = some A.slices_IndexFunc_Prod.strip := by kernel_rfl
theorem has_slices_IndexFunc_Prod (W0 : World) {Z : Value → AH → Prop} : Has (Ecx (cxZ W0 Z)) K.slices_IndexFunc_Prod A.slices_IndexFunc_Prod := fn_sound Try.checked.mixed rfl (by exact Try.func61) (by kernel_rfl) tie_slices_IndexFunc_Prod
theorem tie_slices_ContainsFunc_Sym : compFn Try.prog yK Try.f63 = some A.slices_ContainsFunc_Sym.strip := by kernel_rfl
theorem has_slices_ContainsFunc_Sym (W0 : World) {Z : Value → AH → Prop} : Has (Ecx (cxZ W0 Z)) K.slices_ContainsFunc_Sym A.slices_ContainsFunc_Sym := fn_sound Try.checked.mixed rfl (by exact Try.func63) (by kernel_rfl) tie_slices_ContainsFunc_Sym
theorem tie_slices_IndexFunc_int_2 : compFn Try.prog yK Try.f68 = some A.slices_IndexFunc_int_2.strip := by kernel_rfl
theorem has_slices_IndexFunc_int_2 (W0 : World) {Z : Value → AH → Prop} : Has (Ecx (cxZ W0 Z)) K.slices_IndexFunc_int_2 A.slices_IndexFunc_int_2 := fn_sound Try.checked.mixed rfl (by exact Try.func68) (by kernel_rfl) tie_slices_IndexFunc_int_2
theorem tie_slices_IndexFunc_Sym : compFn Try.prog yK Try.f69 = some A.slices_IndexFunc_Sym.strip := by kernel_rfl
theorem has_slices_IndexFunc_Sym (W0 : World) {Z : Value → AH → Prop} : Has (Ecx (cxZ W0 Z)) K.slices_IndexFunc_Sym A.slices_IndexFunc_Sym := fn_sound Try.checked.mixed rfl (by exact Try.func69) (by kernel_rfl) tie_slices_IndexFunc_Sym
end Go.Proofs.Ytajaoldljichaaa.Al
namespace Go.Proofs.Ytajaoldljichaaa.Al
open Go
theorem tie_tree_Replay : compFn Try.prog yK Try.f22 = some A.tree_Replay.strip := by kernel_rfl
theorem has_tree_Replay (W0 : World) {Z : Value → AH → Prop} : Has (Ecx (cxZ W0 Z)) K.tree_Replay A.tree_Replay := fn_sound Try.checked.mixed rfl (by exact Try.func22) (by kernel_rfl) tie_tree_Replay
theorem tie_tree_Nodes : compFn Try.prog yK Try.f23 = some A.tree_Nodes.strip := by kernel_rfl
theorem has_tree_Nodes (W0 : World) {Z : Value → AH → Prop} : Has (Ecx (cxZ W0 Z)) K.tree_Nodes A.tree_Nodes := fn_sound Try.checked.mixed rfl (by exact Try.func23) (by kernel_rfl) tie_tree_Nodes
theorem tie_tree_replayer_run : compFn Try.prog yK Try.f57 = some A.tree_replayer_run.strip := by kernel_rfl
theorem has_tree_replayer_run (W0 : World) {Z : Value → AH → Prop} : Has (Ecx (cxZ W0 Z)) K.tree_replayer_run A.tree_replayer_run := fn_sound Try.checked.mixed rfl (by exact Try.func57) (by kernel_rfl) tie_tree_replayer_run
theorem tie_tree_stack_part_pop : compFn Try.prog yK Try.f66 = some A.tree_stack_part_pop.strip := by kernel_rfl
theorem has_tree_stack_part_pop (W0 : World) {Z : Value → AH → Prop} : Has (Ecx (cxZ W0 Z)) K.tree_stack_part_pop A.tree_stack_part_pop := fn_sound Try.checked.mixed rfl (by exact Try.func66) (by kernel_rfl) tie_tree_stack_part_pop
theorem tie_tree_replayer_here : compFn Try.prog yK Try.f67 = some A.tree_replayer_here.strip := by kernel_rfl
theorem has_tree_replayer_here (W0 : World) {Z : Value → AH → Prop} : Has (Ecx (cxZ W0 Z)) K.tree_replayer_here A.tree_replayer_here := fn_sound Try.checked.mixed rfl (by exact Try.func67) (by kernel_rfl) tie_tree_replayer_here
end Go.Proofs.Ytajaoldljichaaa.Al
namespace Go.Proofs.Ytajaoldljichaaa.Al
open Go
theorem tie_o_tree_replay : compFn Try.prog ({ yK with om := fun n => ([3000325] : List Nat).contains n }) Try.f40 = some A.tree_replay_o.strip := by kernel_rfl
theorem has_o_tree_replay (W0 : World) {Z : Value → AH → Prop} : Has (Ecx (cxZ W0 Z)) K.tree_replay A.tree_replay_o := fn_sound (Y := ({ yK with om := fun n => ([3000325] : List Nat).contains n })) Try.checked.mixed rfl (by exact Try.func40) (by kernel_rfl) tie_o_tree_replay
theorem tie_o_tree_replayer_open : compFn Try.prog ({ yK with om := fun n => ([1000020, 3000325] : List Nat).contains n }) Try.f58 = some A.tree_replayer_open_o.strip := by kernel_rfl
theorem has_o_tree_replayer_open (W0 : World) {Z : Value → AH → Prop} : Has (Ecx (cxZ W0 Z)) K.tree_replayer_open A.tree_replayer_open_o := fn_sound (Y := ({ yK with om := fun n => ([1000020, 3000325] : List Nat).contains n })) Try.checked.mixed rfl (by exact Try.func58) (by kernel_rfl) tie_o_tree_replayer_open
end Go.Proofs.Ytajaoldljichaaa.Al
namespace Go.Proofs.Ytajaoldljichaaa.Al
open Go
theorem tie_probatelaw09_Large : compFn Try.prog yK Try.f15 = some A.probatelaw09_Large.strip := by kernel_rfl
theorem has_probatelaw09_Large (W0 : World) {Z : Value → AH → Prop} : Has (Ecx (cxZ W0 Z)) K.probatelaw09_Large A.probatelaw09_Large := fn_sound Try.checked.mixed rfl (by exact Try.func15) (by kernel_rfl) tie_probatelaw09_Large
end Go.Proofs.Ytajaoldljichaaa.Al
namespace Go.Proofs.Ytajaoldljichaaa.Al
open Go
theorem tie_probatelaw17_Large : compFn Try.prog yK Try.f6 = some A.probatelaw17_Large.strip := by kernel_rfl
theorem has_probatelaw17_Large (W0 : World) {Z : Value → AH → Prop} : Has (Ecx (cxZ W0 Z)) K.probatelaw17_Large A.probatelaw17_Large := fn_sound Try.checked.mixed rfl (by exact Try.func6) (by kernel_rfl) tie_probatelaw17_Large
end Go.Proofs.Ytajaoldljichaaa.Al
namespace Go.Proofs.Ytajaoldljichaaa.Al
open Go
theorem tie_probatelaw19_ClosedMeans : compFn Try.prog yK Try.f4 = some A.probatelaw19_ClosedMeans.strip := by kernel_rfl
theorem has_probatelaw19_ClosedMeans (W0 : World) {Z : Value → AH → Prop} : Has (Ecx (cxZ W0 Z)) K.probatelaw19_ClosedMeans A.probatelaw19_ClosedMeans := fn_sound Try.checked.mixed rfl (by exact Try.func4) (by kernel_rfl) tie_probatelaw19_ClosedMeans
theorem tie_probatelaw19_awake : compFn Try.prog yK Try.f5 = some A.probatelaw19_awake.strip := by kernel_rfl
theorem has_probatelaw19_awake (W0 : World) {Z : Value → AH → Prop} : Has (Ecx (cxZ W0 Z)) K.probatelaw19_awake A.probatelaw19_awake := fn_sound Try.checked.mixed rfl (by exact Try.func5) (by kernel_rfl) tie_probatelaw19_awake
theorem tie_probatelaw19_large : compFn Try.prog yK Try.f7 = some A.probatelaw19_large.strip := by kernel_rfl
theorem has_probatelaw19_large (W0 : World) {Z : Value → AH → Prop} : Has (Ecx (cxZ W0 Z)) K.probatelaw19_large A.probatelaw19_large := fn_sound Try.checked.mixed rfl (by exact Try.func7) (by kernel_rfl) tie_probatelaw19_large
end Go.Proofs.Ytajaoldljichaaa.Al
namespace Go.Proofs.Ytajaoldljichaaa.Al
open Go Go.RowKit
theorem lgr9 (W : World) : LGr (cxOf W) := ⟨has_gram_there W, has_gram_fits W, has_gram_fits_1 W, has_gram_Right W, has_gram_Right_1 W, has_slices_ContainsFunc_Prod W, has_slices_ContainsFunc_Sym W, has_slices_IndexFunc_Prod W, has_slices_IndexFunc_Sym W⟩
theorem lcl9 (W : World) : LCl (cxOf W) (yK.tbl K.closed_looker_all) := ⟨has_all W (fun _ _ => id), has_closed_looker_has W, has_closed_looker_may W, has_closed_looker_next W, has_closed_looker_begins W, has_closed_looker_begins_1 W, ⟨_, by exact Try.func52, by kernel_rfl, by kernel_rfl⟩,
  has_closed_looker_waits W, has_closed_looker_waits_1 W, ⟨_, by exact Try.func65, by kernel_rfl, by kernel_rfl⟩, has_closed_looker_follows W, has_closed_looker_follows_1 W, ⟨_, by exact Try.func55, by kernel_rfl, by kernel_rfl⟩,
  has_closed_look W, has_closed_looker_closed W, has_closed_Closed W, has_gram_Of W, lgr9 W⟩
theorem ltr9 (W : World) : LTr (cxOf W) := ⟨has_push W, has_tree_stack_part_pop W, has_tree_replayer_here W, has_tree_replayer_run W, has_o_tree_replayer_open W, has_o_tree_replay W, has_tree_Replay W, has_tree_Nodes W⟩
theorem lcl29 (W : World) : LCl2 (cxOf W) (yK.tbl K.closed_looker_all) := ⟨lcl9 W, ⟨ltr9 W, lgr9 W⟩, has_closed_looker_leads W, has_closed_looker_leads_1 W, has_closed_looker_other W, has_closed_Alone W, has_slices_ContainsFunc_int_2 W, has_slices_IndexFunc_int_2 W, has_slices_ContainsFunc_Node W, has_slices_IndexFunc_Node W, has_slices_Equal_int W⟩
theorem llw9 (W : World) : LLw (cxOf W) := ⟨has_probatelaw09_Large W, has_probatelaw17_Large W, has_probatelaw19_large W⟩
theorem list9_ints (m : List V) (h : ∀ v ∈ m, Arg Try.prog 3 v) : ∃ l : List Int, m = ints l ∧ ∀ n ∈ l, n < 2 ^ 63 :=
  list_form (f := .int .i64) (fun v hv => by obtain ⟨n, e, _, h2⟩ := arg_i64 Try.underlying3 hv; exact ⟨n, e, h2⟩) m h
theorem arg9_ints {u : V} (a : Arg Try.prog 25 u) : ∃ l : List Int, u = .sl 1 0 (ints l) ∧ l.length ≤ maxLen ∧ ∀ n ∈ l, n < 2 ^ 63 := by
  obtain ⟨m, rfl, hm, h⟩ := arg_sl (e := 3) (by kernel_rfl) a
  obtain ⟨l, rfl, hr⟩ := list9_ints m h
  rw [show Try.prog.cellsOf 3 = 1 by kernel_rfl]
  exact ⟨l, rfl, by simpa using hm, hr⟩
theorem arg9_sym {u : V} (a : Arg Try.prog 37 u) : ∃ x : Sy, u = symV x ∧ True := by
  obtain ⟨l, rfl, t⟩ := arg_struct Try.underlying37 a
  obtain ⟨a0, r, rfl, y0, t⟩ := tys_cons t
  obtain ⟨a1, r, rfl, y1, t⟩ := tys_cons t
  obtain rfl := tys_nil t
  obtain ⟨b, rfl⟩ := ty_bool (by kernel_rfl) y0
  obtain ⟨n, rfl, _, _⟩ := ty_i64 (by kernel_rfl) y1
  exact ⟨⟨b, n⟩, rfl, trivial⟩
theorem arg9_prod {u : V} (a : Arg Try.prog 40 u) : ∃ x : Pr, u = prV x ∧ x.right.length ≤ maxLen := by
  obtain ⟨l, rfl, t⟩ := arg_struct Try.underlying40 a
  obtain ⟨a0, r, rfl, y0, t⟩ := tys_cons t
  obtain ⟨a1, r, rfl, y1, t⟩ := tys_cons t
  obtain rfl := tys_nil t
  obtain ⟨n, rfl, _, _⟩ := ty_i64 (by kernel_rfl) y0
  obtain ⟨m, rfl, hm, hl⟩ := ty_sl (e := 37) (by kernel_rfl) y1
  obtain ⟨l, rfl, _⟩ := list_form (f := symV) (fun v hv => arg9_sym hv) m hl
  rw [show Try.prog.cellsOf 37 = 2 by kernel_rfl]
  exact ⟨⟨n, l⟩, rfl, by simpa using hm⟩
theorem arg9_gram {u : V} (a : Arg Try.prog 24 u) : ∃ g : Gm, u = gmV g ∧ GmOk g := by
  obtain ⟨l, rfl, t⟩ := arg_struct Try.underlying24 a
  obtain ⟨a0, r, rfl, y0, t⟩ := tys_cons t
  obtain ⟨a1, r, rfl, y1, t⟩ := tys_cons t
  obtain ⟨a2, r, rfl, y2, t⟩ := tys_cons t
  obtain ⟨a3, r, rfl, y3, t⟩ := tys_cons t
  obtain rfl := tys_nil t
  obtain ⟨n0, rfl, _, _⟩ := ty_i64 (by kernel_rfl) y0
  obtain ⟨n1, rfl, _, _⟩ := ty_i64 (by kernel_rfl) y1
  obtain ⟨n2, rfl, _, _⟩ := ty_i64 (by kernel_rfl) y2
  obtain ⟨m, rfl, hm, hl⟩ := ty_sl (e := 40) (by kernel_rfl) y3
  obtain ⟨l, rfl, hr⟩ := list_form (f := prV) (fun v hv => arg9_prod hv) m hl
  rw [show Try.prog.cellsOf 40 = 2 by kernel_rfl]
  exact ⟨⟨n0, n1, n2, l⟩, rfl, ⟨by simpa using hm, hr⟩⟩
theorem arg9_item {u : V} (a : Arg Try.prog 42 u) : ∃ x : It, u = itV x ∧ True := by
  obtain ⟨l, rfl, t⟩ := arg_struct Try.underlying42 a
  obtain ⟨a0, r, rfl, y0, t⟩ := tys_cons t
  obtain ⟨a1, r, rfl, y1, t⟩ := tys_cons t
  obtain ⟨a2, r, rfl, y2, t⟩ := tys_cons t
  obtain rfl := tys_nil t
  obtain ⟨n0, rfl, _, _⟩ := ty_i64 (by kernel_rfl) y0
  obtain ⟨n1, rfl, _, _⟩ := ty_i64 (by kernel_rfl) y1
  obtain ⟨n2, rfl, _, _⟩ := ty_i64 (by kernel_rfl) y2
  exact ⟨⟨n0, n1, n2⟩, rfl, trivial⟩
theorem arg9_set {u : V} (a : Arg Try.prog 34 u) : ∃ l : List It, u = setV l ∧ l.length ≤ maxLen := by
  obtain ⟨m, rfl, hm, h⟩ := arg_sl (e := 42) (by kernel_rfl) a
  obtain ⟨l, rfl, _⟩ := list_form (f := itV) (fun v hv => arg9_item hv) m h
  rw [show Try.prog.cellsOf 42 = 3 by kernel_rfl]
  exact ⟨l, rfl, by simpa using hm⟩
theorem arg9_sets {u : V} (a : Arg Try.prog 26 u) : ∃ l : List (List It), u = .sl 1 0 (l.map setV) ∧ l.length ≤ maxLen := by
  obtain ⟨m, rfl, hm, h⟩ := arg_sl (e := 34) (by kernel_rfl) a
  obtain ⟨l, rfl, _⟩ := list_form (f := setV) (fun v hv => arg9_set hv) m h
  rw [show Try.prog.cellsOf 34 = 1 by kernel_rfl]
  exact ⟨l, rfl, by simpa using hm⟩
end Go.Proofs.Ytajaoldljichaaa.Al
namespace Go.Proofs.Ytajaoldljichaaa.Al
open Go
theorem tie_o_probateref08_none : compFn Try.prog ({ yK with om := fun n => ([24] : List Nat).contains n }) Try.f49 = some A.probateref08_none_o.strip := by kernel_rfl
theorem has_o_probateref08_none (W0 : World) {Z : Value → AH → Prop} : Has (Ecx (cxZ W0 Z)) K.probateref08_none A.probateref08_none_o := fn_sound (Y := ({ yK with om := fun n => ([24] : List Nat).contains n })) Try.checked.mixed rfl (by exact Try.func49) (by kernel_rfl) tie_o_probateref08_none
theorem tie_o_probateref08_row : compFn Try.prog ({ yK with om := fun n => ([14, 26] : List Nat).contains n }) Try.f51 = some A.probateref08_row_o.strip := by kernel_rfl
theorem has_o_probateref08_row (W0 : World) {Z : Value → AH → Prop} : Has (Ecx (cxZ W0 Z)) K.probateref08_row A.probateref08_row_o := fn_sound (Y := ({ yK with om := fun n => ([14, 26] : List Nat).contains n })) Try.checked.mixed rfl (by exact Try.func51) (by kernel_rfl) tie_o_probateref08_row
end Go.Proofs.Ytajaoldljichaaa.Al
namespace Go.Proofs.Ytajaoldljichaaa.Al
open Go
theorem tie_chart_Next : compFn Try.prog yK Try.f13 = some A.chart_Next.strip := by kernel_rfl
theorem has_chart_Next (W0 : World) {Z : Value → AH → Prop} : Has (Ecx (cxZ W0 Z)) K.chart_Next A.chart_Next := fn_sound Try.checked.mixed rfl (by exact Try.func13) (by kernel_rfl) tie_chart_Next
theorem tie_chart_next : compFn Try.prog yK Try.f33 = some A.chart_next.strip := by kernel_rfl
theorem has_chart_next (W0 : World) {Z : Value → AH → Prop} : Has (Ecx (cxZ W0 Z)) K.chart_next A.chart_next := fn_sound Try.checked.mixed rfl (by exact Try.func33) (by kernel_rfl) tie_chart_next
end Go.Proofs.Ytajaoldljichaaa.Al
namespace Go.Proofs.Ytajaoldljichaaa.Al
open Go
theorem tie_probateref04_Fits : compFn Try.prog yK Try.f12 = some A.probateref04_Fits.strip := by kernel_rfl
theorem has_probateref04_Fits (W0 : World) {Z : Value → AH → Prop} : Has (Ecx (cxZ W0 Z)) K.probateref04_Fits A.probateref04_Fits := fn_sound Try.checked.mixed rfl (by exact Try.func12) (by kernel_rfl) tie_probateref04_Fits
theorem tie_probateref04_Right : compFn Try.prog yK Try.f31 = some A.probateref04_Right.strip := by kernel_rfl
theorem has_probateref04_Right (W0 : World) {Z : Value → AH → Prop} : Has (Ecx (cxZ W0 Z)) K.probateref04_Right A.probateref04_Right := fn_sound Try.checked.mixed rfl (by exact Try.func31) (by kernel_rfl) tie_probateref04_Right
end Go.Proofs.Ytajaoldljichaaa.Al
namespace Go.Proofs.Ytajaoldljichaaa.Al
open Go
theorem tie_probateref08_In : compFn Try.prog yK Try.f14 = some A.probateref08_In.strip := by kernel_rfl
theorem has_probateref08_In (W0 : World) {Z : Value → AH → Prop} : Has (Ecx (cxZ W0 Z)) K.probateref08_In A.probateref08_In := fn_sound Try.checked.mixed rfl (by exact Try.func14) (by kernel_rfl) tie_probateref08_In
theorem tie_probateref08_Spans : compFn Try.prog yK Try.f34 = some A.probateref08_Spans.strip := by kernel_rfl
theorem has_probateref08_Spans (W0 : World) {Z : Value → AH → Prop} : Has (Ecx (cxZ W0 Z)) K.probateref08_Spans A.probateref08_Spans := fn_sound Try.checked.mixed rfl (by exact Try.func34) (by kernel_rfl) tie_probateref08_Spans
theorem tie_probateref08_token : compFn Try.prog yK Try.f50 = some A.probateref08_token.strip := by kernel_rfl
theorem has_probateref08_token (W0 : World) {Z : Value → AH → Prop} : Has (Ecx (cxZ W0 Z)) K.probateref08_token A.probateref08_token := fn_sound Try.checked.mixed rfl (by exact Try.func50) (by kernel_rfl) tie_probateref08_token
end Go.Proofs.Ytajaoldljichaaa.Al
namespace Go.Proofs.Ytajaoldljichaaa.Al
open Go Go.RowKit
theorem lsp9 (W : World) : LSp (cxOf W) := ⟨has_o_probateref08_none W, has_probateref08_token W, has_o_probateref08_row W, has_probateref08_Spans W, has_probateref08_In W⟩
theorem lnx9 (W : World) : LNx (cxOf W) := ⟨has_chart_next W, has_chart_Next W, lgr9 W⟩
theorem law_ClosedMeans (W : World) {u0 u1 u2 : V} (a0 : Arg Try.prog 24 u0) (a1 : Arg Try.prog 25 u1) (a2 : Arg Try.prog 26 u2) : Ecx (cxOf W) K.probatelaw19_ClosedMeans [u0, u1, u2] iniH fun r _ => r = .bool true := by
  obtain ⟨g, rfl, ok⟩ := arg9_gram a0
  obtain ⟨w, rfl, _, _⟩ := arg9_ints a1
  obtain ⟨ss, rfl, hs⟩ := arg9_sets a2
  exact closedMeans_spec ⟨lcl29 W, llw9 W, lnx9 W, lsp9 W, has_probateref04_Fits W, has_probateref04_Right W⟩ (has_probatelaw19_awake W) (has_probatelaw19_ClosedMeans W) rfl
end Go.Proofs.Ytajaoldljichaaa.Al
