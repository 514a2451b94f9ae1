/-
  The tie: the abstract functions of l04 are the program's own. Conditions: none.
-/
import Derived.Test.YtpnbdnmmfaomlaaAlTieK
import Derived.Test.YtpnbdnmmfaomlaaAlFl04
namespace Go.Proofs.Ytpnbdnmmfaomlaa.Al
open Go
theorem tie_probatelaw04_WordTells : compFn Try.prog yK Try.f13 = some A.probatelaw04_WordTells.strip := by kernel_rfl
theorem has_probatelaw04_WordTells (W0 : World) : Has (Ecx (cxOf W0)) K.probatelaw04_WordTells A.probatelaw04_WordTells := fn_sound Try.checked.mixed rfl (by exact Try.func13) (by kernel_rfl) tie_probatelaw04_WordTells
theorem tie_probatelaw04_WordBack : compFn Try.prog yK Try.f14 = some A.probatelaw04_WordBack.strip := by kernel_rfl
theorem has_probatelaw04_WordBack (W0 : World) : Has (Ecx (cxOf W0)) K.probatelaw04_WordBack A.probatelaw04_WordBack := fn_sound Try.checked.mixed rfl (by exact Try.func14) (by kernel_rfl) tie_probatelaw04_WordBack
theorem tie_probatelaw04_WordTurns : compFn Try.prog yK Try.f15 = some A.probatelaw04_WordTurns.strip := by kernel_rfl
theorem has_probatelaw04_WordTurns (W0 : World) : Has (Ecx (cxOf W0)) K.probatelaw04_WordTurns A.probatelaw04_WordTurns := fn_sound Try.checked.mixed rfl (by exact Try.func15) (by kernel_rfl) tie_probatelaw04_WordTurns
theorem tie_probatelaw04_awake : compFn Try.prog yK Try.f53 = some A.probatelaw04_awake.strip := by kernel_rfl
theorem has_probatelaw04_awake (W0 : World) : Has (Ecx (cxOf W0)) K.probatelaw04_awake A.probatelaw04_awake := fn_sound Try.checked.mixed rfl (by exact Try.func53) (by kernel_rfl) tie_probatelaw04_awake
theorem tie_probateref04_Bytes : compFn Try.prog yK Try.f55 = some A.probateref04_Bytes.strip := by kernel_rfl
theorem has_probateref04_Bytes (W0 : World) : Has (Ecx (cxOf W0)) K.probateref04_Bytes A.probateref04_Bytes := fn_sound Try.checked.mixed rfl (by exact Try.func55) (by kernel_rfl) tie_probateref04_Bytes
theorem tie_probateref04_Read : compFn Try.prog yK Try.f57 = some A.probateref04_Read.strip := by kernel_rfl
theorem has_probateref04_Read (W0 : World) : Has (Ecx (cxOf W0)) K.probateref04_Read A.probateref04_Read := fn_sound Try.checked.mixed rfl (by exact Try.func57) (by kernel_rfl) tie_probateref04_Read
theorem tie_probateref04_Apply : compFn Try.prog yK Try.f59 = some A.probateref04_Apply.strip := by kernel_rfl
theorem has_probateref04_Apply (W0 : World) : Has (Ecx (cxOf W0)) K.probateref04_Apply A.probateref04_Apply := fn_sound Try.checked.mixed rfl (by exact Try.func59) (by kernel_rfl) tie_probateref04_Apply
theorem tie_probateref04_Right : compFn Try.prog yK Try.f61 = some A.probateref04_Right.strip := by kernel_rfl
theorem has_probateref04_Right (W0 : World) : Has (Ecx (cxOf W0)) K.probateref04_Right A.probateref04_Right := fn_sound Try.checked.mixed rfl (by exact Try.func61) (by kernel_rfl) tie_probateref04_Right
theorem tie_probateref04_Fits : compFn Try.prog yK Try.f63 = some A.probateref04_Fits.strip := by kernel_rfl
theorem has_probateref04_Fits (W0 : World) : Has (Ecx (cxOf W0)) K.probateref04_Fits A.probateref04_Fits := fn_sound Try.checked.mixed rfl (by exact Try.func63) (by kernel_rfl) tie_probateref04_Fits
theorem tie_probateref04_May : compFn Try.prog yK Try.f65 = some A.probateref04_May.strip := by kernel_rfl
theorem has_probateref04_May (W0 : World) : Has (Ecx (cxOf W0)) K.probateref04_May A.probateref04_May := fn_sound Try.checked.mixed rfl (by exact Try.func65) (by kernel_rfl) tie_probateref04_May
end Go.Proofs.Ytpnbdnmmfaomlaa.Al
