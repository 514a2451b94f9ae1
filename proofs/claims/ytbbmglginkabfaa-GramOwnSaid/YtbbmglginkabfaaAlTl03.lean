/-
  The tie: the abstract functions of l03 are the program's own. Conditions: none.
-/
import Derived.Test.YtbbmglginkabfaaAlTieK
import Derived.Test.YtbbmglginkabfaaAlFl03
namespace Go.Proofs.Ytbbmglginkabfaa.Al
open Go
theorem tie_probatelaw03_GramOwn : compFn Try.prog yK Try.f7 = some A.probatelaw03_GramOwn.strip := by kernel_rfl
theorem has_probatelaw03_GramOwn (W0 : World) : Has (Ecx (cxOf W0)) K.probatelaw03_GramOwn A.probatelaw03_GramOwn := fn_sound Try.checked.mixed rfl (by exact Try.func7) (by kernel_rfl) tie_probatelaw03_GramOwn
theorem tie_probatelaw03_awake : compFn Try.prog yK Try.f31 = some A.probatelaw03_awake.strip := by kernel_rfl
theorem has_probatelaw03_awake (W0 : World) : Has (Ecx (cxOf W0)) K.probatelaw03_awake A.probatelaw03_awake := fn_sound Try.checked.mixed rfl (by exact Try.func31) (by kernel_rfl) tie_probatelaw03_awake
theorem tie_probatelaw03_large : compFn Try.prog yK Try.f32 = some A.probatelaw03_large.strip := by kernel_rfl
theorem has_probatelaw03_large (W0 : World) : Has (Ecx (cxOf W0)) K.probatelaw03_large A.probatelaw03_large := fn_sound Try.checked.mixed rfl (by exact Try.func32) (by kernel_rfl) tie_probatelaw03_large
theorem tie_probatelaw03_small : compFn Try.prog yK Try.f45 = some A.probatelaw03_small.strip := by kernel_rfl
theorem has_probatelaw03_small (W0 : World) : Has (Ecx (cxOf W0)) K.probatelaw03_small A.probatelaw03_small := fn_sound Try.checked.mixed rfl (by exact Try.func45) (by kernel_rfl) tie_probatelaw03_small
theorem tie_probateref03_Same : compFn Try.prog yK Try.f47 = some A.probateref03_Same.strip := by kernel_rfl
theorem has_probateref03_Same (W0 : World) : Has (Ecx (cxOf W0)) K.probateref03_Same A.probateref03_Same := fn_sound Try.checked.mixed rfl (by exact Try.func47) (by kernel_rfl) tie_probateref03_Same
end Go.Proofs.Ytbbmglginkabfaa.Al
