/-
  The tie: the abstract functions of l03 are the program's own. Conditions: none.
-/
import Derived.Test.YtpnbdnmmfaomlaaAlTieK
import Derived.Test.YtpnbdnmmfaomlaaAlFl03
namespace Go.Proofs.Ytpnbdnmmfaomlaa.Al
open Go
theorem tie_probatelaw03_GramTells : compFn Try.prog yK Try.f16 = some A.probatelaw03_GramTells.strip := by kernel_rfl
theorem has_probatelaw03_GramTells (W0 : World) : Has (Ecx (cxOf W0)) K.probatelaw03_GramTells A.probatelaw03_GramTells := fn_sound Try.checked.mixed rfl (by exact Try.func16) (by kernel_rfl) tie_probatelaw03_GramTells
theorem tie_probatelaw03_GramBack : compFn Try.prog yK Try.f17 = some A.probatelaw03_GramBack.strip := by kernel_rfl
theorem has_probatelaw03_GramBack (W0 : World) : Has (Ecx (cxOf W0)) K.probatelaw03_GramBack A.probatelaw03_GramBack := fn_sound Try.checked.mixed rfl (by exact Try.func17) (by kernel_rfl) tie_probatelaw03_GramBack
theorem tie_probatelaw03_GramOf : compFn Try.prog yK Try.f18 = some A.probatelaw03_GramOf.strip := by kernel_rfl
theorem has_probatelaw03_GramOf (W0 : World) : Has (Ecx (cxOf W0)) K.probatelaw03_GramOf A.probatelaw03_GramOf := fn_sound Try.checked.mixed rfl (by exact Try.func18) (by kernel_rfl) tie_probatelaw03_GramOf
theorem tie_probatelaw03_GramOwn : compFn Try.prog yK Try.f19 = some A.probatelaw03_GramOwn.strip := by kernel_rfl
theorem has_probatelaw03_GramOwn (W0 : World) : Has (Ecx (cxOf W0)) K.probatelaw03_GramOwn A.probatelaw03_GramOwn := fn_sound Try.checked.mixed rfl (by exact Try.func19) (by kernel_rfl) tie_probatelaw03_GramOwn
theorem tie_probatelaw03_awake : compFn Try.prog yK Try.f66 = some A.probatelaw03_awake.strip := by kernel_rfl
theorem has_probatelaw03_awake (W0 : World) : Has (Ecx (cxOf W0)) K.probatelaw03_awake A.probatelaw03_awake := fn_sound Try.checked.mixed rfl (by exact Try.func66) (by kernel_rfl) tie_probatelaw03_awake
theorem tie_probatelaw03_large : compFn Try.prog yK Try.f67 = some A.probatelaw03_large.strip := by kernel_rfl
theorem has_probatelaw03_large (W0 : World) : Has (Ecx (cxOf W0)) K.probatelaw03_large A.probatelaw03_large := fn_sound Try.checked.mixed rfl (by exact Try.func67) (by kernel_rfl) tie_probatelaw03_large
theorem tie_probateref03_Bytes : compFn Try.prog yK Try.f69 = some A.probateref03_Bytes.strip := by kernel_rfl
theorem has_probateref03_Bytes (W0 : World) : Has (Ecx (cxOf W0)) K.probateref03_Bytes A.probateref03_Bytes := fn_sound Try.checked.mixed rfl (by exact Try.func69) (by kernel_rfl) tie_probateref03_Bytes
theorem tie_probateref03_Read : compFn Try.prog yK Try.f71 = some A.probateref03_Read.strip := by kernel_rfl
theorem has_probateref03_Read (W0 : World) : Has (Ecx (cxOf W0)) K.probateref03_Read A.probateref03_Read := fn_sound Try.checked.mixed rfl (by exact Try.func71) (by kernel_rfl) tie_probateref03_Read
theorem tie_probateref03_Right : compFn Try.prog yK Try.f73 = some A.probateref03_Right.strip := by kernel_rfl
theorem has_probateref03_Right (W0 : World) : Has (Ecx (cxOf W0)) K.probateref03_Right A.probateref03_Right := fn_sound Try.checked.mixed rfl (by exact Try.func73) (by kernel_rfl) tie_probateref03_Right
theorem tie_probateref03_Same : compFn Try.prog yK Try.f75 = some A.probateref03_Same.strip := by kernel_rfl
theorem has_probateref03_Same (W0 : World) : Has (Ecx (cxOf W0)) K.probateref03_Same A.probateref03_Same := fn_sound Try.checked.mixed rfl (by exact Try.func75) (by kernel_rfl) tie_probateref03_Same
theorem tie_probateref03_Of : compFn Try.prog yK Try.f78 = some A.probateref03_Of.strip := by kernel_rfl
theorem has_probateref03_Of (W0 : World) : Has (Ecx (cxOf W0)) K.probateref03_Of A.probateref03_Of := fn_sound Try.checked.mixed rfl (by exact Try.func78) (by kernel_rfl) tie_probateref03_Of
theorem tie_probatelaw03_small : compFn Try.prog yK Try.f92 = some A.probatelaw03_small.strip := by kernel_rfl
theorem has_probatelaw03_small (W0 : World) : Has (Ecx (cxOf W0)) K.probatelaw03_small A.probatelaw03_small := fn_sound Try.checked.mixed rfl (by exact Try.func92) (by kernel_rfl) tie_probatelaw03_small
end Go.Proofs.Ytpnbdnmmfaomlaa.Al
