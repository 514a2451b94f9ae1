/-
  The tie: the abstract functions of gram are the program's own. Conditions: none.
-/
import Derived.Test.YtbbmglginkabfaaAlTieK
import Derived.Test.YtbbmglginkabfaaAlFgram
namespace Go.Proofs.Ytbbmglginkabfaa.Al
open Go
theorem tie_gram_Right : compFn Try.prog yK Try.f33 = some A.gram_Right.strip := by kernel_rfl
theorem has_gram_Right (W0 : World) : Has (Ecx (cxOf W0)) K.gram_Right A.gram_Right := fn_sound Try.checked.mixed rfl (by exact Try.func33) (by kernel_rfl) tie_gram_Right
theorem tie_gram_Bytes : compFn Try.prog yK Try.f34 = some A.gram_Bytes.strip := by kernel_rfl
theorem has_gram_Bytes (W0 : World) : Has (Ecx (cxOf W0)) K.gram_Bytes A.gram_Bytes := fn_sound Try.checked.mixed rfl (by exact Try.func34) (by kernel_rfl) tie_gram_Bytes
theorem tie_gram_Clone : compFn Try.prog yK Try.f35 = some A.gram_Clone.strip := by kernel_rfl
theorem has_gram_Clone (W0 : World) : Has (Ecx (cxOf W0)) K.gram_Clone A.gram_Clone := fn_sound Try.checked.mixed rfl (by exact Try.func35) (by kernel_rfl) tie_gram_Clone
theorem tie_gram_Same : compFn Try.prog yK Try.f36 = some A.gram_Same.strip := by kernel_rfl
theorem has_gram_Same (W0 : World) : Has (Ecx (cxOf W0)) K.gram_Same A.gram_Same := fn_sound Try.checked.mixed rfl (by exact Try.func36) (by kernel_rfl) tie_gram_Same
theorem tie_gram_Read : compFn Try.prog yK Try.f46 = some A.gram_Read.strip := by kernel_rfl
theorem has_gram_Read (W0 : World) : Has (Ecx (cxOf W0)) K.gram_Read A.gram_Read := fn_sound Try.checked.mixed rfl (by exact Try.func46) (by kernel_rfl) tie_gram_Read
theorem tie_gram_Of : compFn Try.prog yK Try.f48 = some A.gram_Of.strip := by kernel_rfl
theorem has_gram_Of (W0 : World) : Has (Ecx (cxOf W0)) K.gram_Of A.gram_Of := fn_sound Try.checked.mixed rfl (by exact Try.func48) (by kernel_rfl) tie_gram_Of
theorem tie_gram_Right_1 : compFn Try.prog yK Try.f50 = some A.gram_Right_1.strip := by kernel_rfl
theorem has_gram_Right_1 (W0 : World) : Has (Ecx (cxOf W0)) K.gram_Right_1 A.gram_Right_1 := fn_sound Try.checked.mixed rfl (by exact Try.func50) (by kernel_rfl) tie_gram_Right_1
theorem tie_gram_fits : compFn Try.prog yK Try.f51 = some A.gram_fits.strip := by kernel_rfl
theorem has_gram_fits (W0 : World) : Has (Ecx (cxOf W0)) K.gram_fits A.gram_fits := fn_sound Try.checked.mixed rfl (by exact Try.func51) (by kernel_rfl) tie_gram_fits
theorem tie_gram_alike : compFn Try.prog yK Try.f54 = some A.gram_alike.strip := by kernel_rfl
theorem has_gram_alike (W0 : World) : Has (Ecx (cxOf W0)) K.gram_alike A.gram_alike := fn_sound Try.checked.mixed rfl (by exact Try.func54) (by kernel_rfl) tie_gram_alike
theorem tie_gram_prod : compFn Try.prog yK Try.f58 = some A.gram_prod.strip := by kernel_rfl
theorem has_gram_prod (W0 : World) : Has (Ecx (cxOf W0)) K.gram_prod A.gram_prod := fn_sound Try.checked.mixed rfl (by exact Try.func58) (by kernel_rfl) tie_gram_prod
theorem tie_gram_there : compFn Try.prog yK Try.f60 = some A.gram_there.strip := by kernel_rfl
theorem has_gram_there (W0 : World) : Has (Ecx (cxOf W0)) K.gram_there A.gram_there := fn_sound Try.checked.mixed rfl (by exact Try.func60) (by kernel_rfl) tie_gram_there
theorem tie_gram_fits_1 : compFn Try.prog yK Try.f62 = some A.gram_fits_1.strip := by kernel_rfl
theorem has_gram_fits_1 (W0 : World) : Has (Ecx (cxOf W0)) K.gram_fits_1 A.gram_fits_1 := fn_sound Try.checked.mixed rfl (by exact Try.func62) (by kernel_rfl) tie_gram_fits_1
theorem tie_gram_sym : compFn Try.prog yK Try.f65 = some A.gram_sym.strip := by kernel_rfl
theorem has_gram_sym (W0 : World) : Has (Ecx (cxOf W0)) K.gram_sym A.gram_sym := fn_sound Try.checked.mixed rfl (by exact Try.func65) (by kernel_rfl) tie_gram_sym
end Go.Proofs.Ytbbmglginkabfaa.Al
