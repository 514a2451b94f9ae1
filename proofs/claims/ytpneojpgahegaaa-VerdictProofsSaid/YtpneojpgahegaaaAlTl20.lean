/-
  The tie: the abstract functions of l20 are the program's own. Conditions: none.
-/
import Derived.Test.YtpneojpgahegaaaAlTieK
import Derived.Test.YtpneojpgahegaaaAlFl20
namespace Go.Proofs.Ytpneojpgahegaaa.Al
open Go
theorem tie_probatelaw20_VerdictTells : compFn Try.prog yK Try.f3 = some A.probatelaw20_VerdictTells.strip := by kernel_rfl
theorem has_probatelaw20_VerdictTells (W0 : World) : Has (Ecx (cxOf W0)) K.probatelaw20_VerdictTells A.probatelaw20_VerdictTells := fn_sound Try.checked.mixed rfl (by exact Try.func3) (by kernel_rfl) tie_probatelaw20_VerdictTells
theorem tie_probatelaw20_VerdictBack : compFn Try.prog yK Try.f4 = some A.probatelaw20_VerdictBack.strip := by kernel_rfl
theorem has_probatelaw20_VerdictBack (W0 : World) : Has (Ecx (cxOf W0)) K.probatelaw20_VerdictBack A.probatelaw20_VerdictBack := fn_sound Try.checked.mixed rfl (by exact Try.func4) (by kernel_rfl) tie_probatelaw20_VerdictBack
theorem tie_probatelaw20_VerdictProofs : compFn Try.prog yK Try.f5 = some A.probatelaw20_VerdictProofs.strip := by kernel_rfl
theorem has_probatelaw20_VerdictProofs (W0 : World) : Has (Ecx (cxOf W0)) K.probatelaw20_VerdictProofs A.probatelaw20_VerdictProofs := fn_sound Try.checked.mixed rfl (by exact Try.func5) (by kernel_rfl) tie_probatelaw20_VerdictProofs
theorem tie_probatelaw20_awake : compFn Try.prog yK Try.f6 = some A.probatelaw20_awake.strip := by kernel_rfl
theorem has_probatelaw20_awake (W0 : World) : Has (Ecx (cxOf W0)) K.probatelaw20_awake A.probatelaw20_awake := fn_sound Try.checked.mixed rfl (by exact Try.func6) (by kernel_rfl) tie_probatelaw20_awake
theorem tie_probatelaw20_large : compFn Try.prog yK Try.f7 = some A.probatelaw20_large.strip := by kernel_rfl
theorem has_probatelaw20_large (W0 : World) : Has (Ecx (cxOf W0)) K.probatelaw20_large A.probatelaw20_large := fn_sound Try.checked.mixed rfl (by exact Try.func7) (by kernel_rfl) tie_probatelaw20_large
theorem tie_probateref20_Bytes : compFn Try.prog yK Try.f9 = some A.probateref20_Bytes.strip := by kernel_rfl
theorem has_probateref20_Bytes (W0 : World) : Has (Ecx (cxOf W0)) K.probateref20_Bytes A.probateref20_Bytes := fn_sound Try.checked.mixed rfl (by exact Try.func9) (by kernel_rfl) tie_probateref20_Bytes
theorem tie_probatelaw20_own : compFn Try.prog yK Try.f10 = some A.probatelaw20_own.strip := by kernel_rfl
theorem has_probatelaw20_own (W0 : World) : Has (Ecx (cxOf W0)) K.probatelaw20_own A.probatelaw20_own := fn_sound Try.checked.mixed rfl (by exact Try.func10) (by kernel_rfl) tie_probatelaw20_own
theorem tie_probateref20_Encode : compFn Try.prog yK Try.f12 = some A.probateref20_Encode.strip := by kernel_rfl
theorem has_probateref20_Encode (W0 : World) : Has (Ecx (cxOf W0)) K.probateref20_Encode A.probateref20_Encode := fn_sound Try.checked.mixed rfl (by exact Try.func12) (by kernel_rfl) tie_probateref20_Encode
theorem tie_probatelaw20_shown : compFn Try.prog yK Try.f13 = some A.probatelaw20_shown.strip := by kernel_rfl
theorem has_probatelaw20_shown (W0 : World) : Has (Ecx (cxOf W0)) K.probatelaw20_shown A.probatelaw20_shown := fn_sound Try.checked.mixed rfl (by exact Try.func13) (by kernel_rfl) tie_probatelaw20_shown
theorem tie_probateref20_Read : compFn Try.prog yK Try.f15 = some A.probateref20_Read.strip := by kernel_rfl
theorem has_probateref20_Read (W0 : World) : Has (Ecx (cxOf W0)) K.probateref20_Read A.probateref20_Read := fn_sound Try.checked.mixed rfl (by exact Try.func15) (by kernel_rfl) tie_probateref20_Read
theorem tie_probateref20_Decode : compFn Try.prog yK Try.f17 = some A.probateref20_Decode.strip := by kernel_rfl
theorem has_probateref20_Decode (W0 : World) : Has (Ecx (cxOf W0)) K.probateref20_Decode A.probateref20_Decode := fn_sound Try.checked.mixed rfl (by exact Try.func17) (by kernel_rfl) tie_probateref20_Decode
theorem tie_probateref20_May : compFn Try.prog yK Try.f19 = some A.probateref20_May.strip := by kernel_rfl
theorem has_probateref20_May (W0 : World) : Has (Ecx (cxOf W0)) K.probateref20_May A.probateref20_May := fn_sound Try.checked.mixed rfl (by exact Try.func19) (by kernel_rfl) tie_probateref20_May
theorem tie_probateref20_Right : compFn Try.prog yK Try.f21 = some A.probateref20_Right.strip := by kernel_rfl
theorem has_probateref20_Right (W0 : World) : Has (Ecx (cxOf W0)) K.probateref20_Right A.probateref20_Right := fn_sound Try.checked.mixed rfl (by exact Try.func21) (by kernel_rfl) tie_probateref20_Right
theorem tie_probateref20_Same : compFn Try.prog yK Try.f23 = some A.probateref20_Same.strip := by kernel_rfl
theorem has_probateref20_Same (W0 : World) : Has (Ecx (cxOf W0)) K.probateref20_Same A.probateref20_Same := fn_sound Try.checked.mixed rfl (by exact Try.func23) (by kernel_rfl) tie_probateref20_Same
theorem tie_probateref20_Alike : compFn Try.prog yK Try.f24 = some A.probateref20_Alike.strip := by kernel_rfl
theorem has_probateref20_Alike (W0 : World) : Has (Ecx (cxOf W0)) K.probateref20_Alike A.probateref20_Alike := fn_sound Try.checked.mixed rfl (by exact Try.func24) (by kernel_rfl) tie_probateref20_Alike
theorem tie_probateref20_num : compFn Try.prog yK Try.f31 = some A.probateref20_num.strip := by kernel_rfl
theorem has_probateref20_num (W0 : World) : Has (Ecx (cxOf W0)) K.probateref20_num A.probateref20_num := fn_sound Try.checked.mixed rfl (by exact Try.func31) (by kernel_rfl) tie_probateref20_num
theorem tie_probateref20_flag : compFn Try.prog yK Try.f33 = some A.probateref20_flag.strip := by kernel_rfl
theorem has_probateref20_flag (W0 : World) : Has (Ecx (cxOf W0)) K.probateref20_flag A.probateref20_flag := fn_sound Try.checked.mixed rfl (by exact Try.func33) (by kernel_rfl) tie_probateref20_flag
theorem tie_probateref20_derivation : compFn Try.prog yK Try.f52 = some A.probateref20_derivation.strip := by kernel_rfl
theorem has_probateref20_derivation (W0 : World) : Has (Ecx (cxOf W0)) K.probateref20_derivation A.probateref20_derivation := fn_sound Try.checked.mixed rfl (by exact Try.func52) (by kernel_rfl) tie_probateref20_derivation
end Go.Proofs.Ytpneojpgahegaaa.Al
