/-
  The tie: the abstract functions of l01 are the program's own. Conditions: none.
-/
import Derived.Test.YtpnbdnmmfaomlaaAlTieK
import Derived.Test.YtpnbdnmmfaomlaaAlFl01
namespace Go.Proofs.Ytpnbdnmmfaomlaa.Al
open Go
theorem tie_probatelaw01_VaryTells : compFn Try.prog yK Try.f3 = some A.probatelaw01_VaryTells.strip := by kernel_rfl
theorem has_probatelaw01_VaryTells (W0 : World) : Has (Ecx (cxOf W0)) K.probatelaw01_VaryTells A.probatelaw01_VaryTells := fn_sound Try.checked.mixed rfl (by exact Try.func3) (by kernel_rfl) tie_probatelaw01_VaryTells
theorem tie_probatelaw01_VaryBack : compFn Try.prog yK Try.f4 = some A.probatelaw01_VaryBack.strip := by kernel_rfl
theorem has_probatelaw01_VaryBack (W0 : World) : Has (Ecx (cxOf W0)) K.probatelaw01_VaryBack A.probatelaw01_VaryBack := fn_sound Try.checked.mixed rfl (by exact Try.func4) (by kernel_rfl) tie_probatelaw01_VaryBack
theorem tie_probatelaw01_VaryOne : compFn Try.prog yK Try.f5 = some A.probatelaw01_VaryOne.strip := by kernel_rfl
theorem has_probatelaw01_VaryOne (W0 : World) : Has (Ecx (cxOf W0)) K.probatelaw01_VaryOne A.probatelaw01_VaryOne := fn_sound Try.checked.mixed rfl (by exact Try.func5) (by kernel_rfl) tie_probatelaw01_VaryOne
theorem tie_probatelaw01_awake : compFn Try.prog yK Try.f20 = some A.probatelaw01_awake.strip := by kernel_rfl
theorem has_probatelaw01_awake (W0 : World) : Has (Ecx (cxOf W0)) K.probatelaw01_awake A.probatelaw01_awake := fn_sound Try.checked.mixed rfl (by exact Try.func20) (by kernel_rfl) tie_probatelaw01_awake
theorem tie_probateref01_Take : compFn Try.prog yK Try.f22 = some A.probateref01_Take.strip := by kernel_rfl
theorem has_probateref01_Take (W0 : World) : Has (Ecx (cxOf W0)) K.probateref01_Take A.probateref01_Take := fn_sound Try.checked.mixed rfl (by exact Try.func22) (by kernel_rfl) tie_probateref01_Take
theorem tie_probateref01_Same : compFn Try.prog yK Try.f23 = some A.probateref01_Same.strip := by kernel_rfl
theorem has_probateref01_Same (W0 : World) : Has (Ecx (cxOf W0)) K.probateref01_Same A.probateref01_Same := fn_sound Try.checked.mixed rfl (by exact Try.func23) (by kernel_rfl) tie_probateref01_Same
theorem tie_probateref01_Put : compFn Try.prog yK Try.f25 = some A.probateref01_Put.strip := by kernel_rfl
theorem has_probateref01_Put (W0 : World) : Has (Ecx (cxOf W0)) K.probateref01_Put A.probateref01_Put := fn_sound Try.checked.mixed rfl (by exact Try.func25) (by kernel_rfl) tie_probateref01_Put
end Go.Proofs.Ytpnbdnmmfaomlaa.Al
