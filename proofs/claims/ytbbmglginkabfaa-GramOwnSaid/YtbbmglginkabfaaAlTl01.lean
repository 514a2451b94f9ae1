/-
  The tie: the abstract functions of l01 are the program's own. Conditions: none.
-/
import Derived.Test.YtbbmglginkabfaaAlTieK
import Derived.Test.YtbbmglginkabfaaAlFl01
namespace Go.Proofs.Ytbbmglginkabfaa.Al
open Go
theorem tie_probateref01_Put : compFn Try.prog yK Try.f11 = some A.probateref01_Put.strip := by kernel_rfl
theorem has_probateref01_Put (W0 : World) : Has (Ecx (cxOf W0)) K.probateref01_Put A.probateref01_Put := fn_sound Try.checked.mixed rfl (by exact Try.func11) (by kernel_rfl) tie_probateref01_Put
theorem tie_probateref01_Same : compFn Try.prog yK Try.f13 = some A.probateref01_Same.strip := by kernel_rfl
theorem has_probateref01_Same (W0 : World) : Has (Ecx (cxOf W0)) K.probateref01_Same A.probateref01_Same := fn_sound Try.checked.mixed rfl (by exact Try.func13) (by kernel_rfl) tie_probateref01_Same
theorem tie_probateref01_Take : compFn Try.prog yK Try.f42 = some A.probateref01_Take.strip := by kernel_rfl
theorem has_probateref01_Take (W0 : World) : Has (Ecx (cxOf W0)) K.probateref01_Take A.probateref01_Take := fn_sound Try.checked.mixed rfl (by exact Try.func42) (by kernel_rfl) tie_probateref01_Take
end Go.Proofs.Ytbbmglginkabfaa.Al
