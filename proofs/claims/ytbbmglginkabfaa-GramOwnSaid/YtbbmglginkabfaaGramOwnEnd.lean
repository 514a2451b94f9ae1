/-
  Layer 3: the call of the law GramOwn. Conditions: none.
-/
import Derived.Test.YtbbmglginkabfaaEndG
import Derived.Test.YtbbmglginkabfaaGramOwn
namespace Go.Proofs.Ytbbmglginkabfaa.Al
open Go Go.RowKit
theorem law_GramOwn (W : World) {u0 : V} (a0 : Arg Try.prog 58 u0) : Ecx (cxOf W) K.probatelaw03_GramOwn [u0] iniH fun r _ => r = .bool true := by
  obtain ⟨g, rfl, og⟩ := arg_gram a0
  exact own_spec (l03 W) (has_probatelaw03_GramOwn W) (has_o_gram_Clone W) (has_o_slices_Clone_Sym W) g og rfl
end Go.Proofs.Ytbbmglginkabfaa.Al
