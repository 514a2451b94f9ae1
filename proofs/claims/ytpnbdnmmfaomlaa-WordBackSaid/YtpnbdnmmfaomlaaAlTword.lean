/-
  The tie: the abstract functions of word are the program's own. Conditions: none.
-/
import Derived.Test.YtpnbdnmmfaomlaaAlTieK
import Derived.Test.YtpnbdnmmfaomlaaAlFword
namespace Go.Proofs.Ytpnbdnmmfaomlaa.Al
open Go
theorem tie_word_Bytes : compFn Try.prog yK Try.f54 = some A.word_Bytes.strip := by kernel_rfl
theorem has_word_Bytes (W0 : World) : Has (Ecx (cxOf W0)) K.word_Bytes A.word_Bytes := fn_sound Try.checked.mixed rfl (by exact Try.func54) (by kernel_rfl) tie_word_Bytes
theorem tie_word_Read : compFn Try.prog yK Try.f56 = some A.word_Read.strip := by kernel_rfl
theorem has_word_Read (W0 : World) : Has (Ecx (cxOf W0)) K.word_Read A.word_Read := fn_sound Try.checked.mixed rfl (by exact Try.func56) (by kernel_rfl) tie_word_Read
theorem tie_word_Apply : compFn Try.prog yK Try.f58 = some A.word_Apply.strip := by kernel_rfl
theorem has_word_Apply (W0 : World) : Has (Ecx (cxOf W0)) K.word_Apply A.word_Apply := fn_sound Try.checked.mixed rfl (by exact Try.func58) (by kernel_rfl) tie_word_Apply
theorem tie_word_Right : compFn Try.prog yK Try.f60 = some A.word_Right.strip := by kernel_rfl
theorem has_word_Right (W0 : World) : Has (Ecx (cxOf W0)) K.word_Right A.word_Right := fn_sound Try.checked.mixed rfl (by exact Try.func60) (by kernel_rfl) tie_word_Right
theorem tie_word_Fits : compFn Try.prog yK Try.f62 = some A.word_Fits.strip := by kernel_rfl
theorem has_word_Fits (W0 : World) : Has (Ecx (cxOf W0)) K.word_Fits A.word_Fits := fn_sound Try.checked.mixed rfl (by exact Try.func62) (by kernel_rfl) tie_word_Fits
theorem tie_word_May : compFn Try.prog yK Try.f64 = some A.word_May.strip := by kernel_rfl
theorem has_word_May (W0 : World) : Has (Ecx (cxOf W0)) K.word_May A.word_May := fn_sound Try.checked.mixed rfl (by exact Try.func64) (by kernel_rfl) tie_word_May
theorem tie_word_Apply_1 : compFn Try.prog yK Try.f89 = some A.word_Apply_1.strip := by kernel_rfl
theorem has_word_Apply_1 (W0 : World) : Has (Ecx (cxOf W0)) K.word_Apply_1 A.word_Apply_1 := fn_sound Try.checked.mixed rfl (by exact Try.func89) (by kernel_rfl) tie_word_Apply_1
theorem tie_word_below : compFn Try.prog yK Try.f90 = some A.word_below.strip := by kernel_rfl
theorem has_word_below (W0 : World) : Has (Ecx (cxOf W0)) K.word_below A.word_below := fn_sound Try.checked.mixed rfl (by exact Try.func90) (by kernel_rfl) tie_word_below
theorem tie_word_fine : compFn Try.prog yK Try.f91 = some A.word_fine.strip := by kernel_rfl
theorem has_word_fine (W0 : World) : Has (Ecx (cxOf W0)) K.word_fine A.word_fine := fn_sound Try.checked.mixed rfl (by exact Try.func91) (by kernel_rfl) tie_word_fine
end Go.Proofs.Ytpnbdnmmfaomlaa.Al
