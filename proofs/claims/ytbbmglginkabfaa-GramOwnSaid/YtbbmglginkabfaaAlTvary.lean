/-
  The tie: the abstract functions of vary are the program's own. Conditions: none.
-/
import Derived.Test.YtbbmglginkabfaaAlTieK
import Derived.Test.YtbbmglginkabfaaAlFvary
namespace Go.Proofs.Ytbbmglginkabfaa.Al
open Go
theorem tie_vary_Take : compFn Try.prog yK Try.f41 = some A.vary_Take.strip := by kernel_rfl
theorem has_vary_Take (W0 : World) : Has (Ecx (cxOf W0)) K.vary_Take A.vary_Take := fn_sound Try.checked.mixed rfl (by exact Try.func41) (by kernel_rfl) tie_vary_Take
theorem tie_vary_Put : compFn Try.prog yK Try.f55 = some A.vary_Put.strip := by kernel_rfl
theorem has_vary_Put (W0 : World) : Has (Ecx (cxOf W0)) K.vary_Put A.vary_Put := fn_sound Try.checked.mixed rfl (by exact Try.func55) (by kernel_rfl) tie_vary_Put
theorem tie_vary_end : compFn Try.prog yK Try.f56 = some A.vary_end.strip := by kernel_rfl
theorem has_vary_end (W0 : World) : Has (Ecx (cxOf W0)) K.vary_end A.vary_end := fn_sound Try.checked.mixed rfl (by exact Try.func56) (by kernel_rfl) tie_vary_end
end Go.Proofs.Ytbbmglginkabfaa.Al
