/-
  The tie: the abstract functions of verdict are the program's own. Conditions: none.
-/
import Derived.Test.YtpneojpgahegaaaAlTieK
import Derived.Test.YtpneojpgahegaaaAlFverdict
namespace Go.Proofs.Ytpneojpgahegaaa.Al
open Go
theorem tie_verdict_Bytes : compFn Try.prog yK Try.f8 = some A.verdict_Bytes.strip := by kernel_rfl
theorem has_verdict_Bytes (W0 : World) : Has (Ecx (cxOf W0)) K.verdict_Bytes A.verdict_Bytes := fn_sound Try.checked.mixed rfl (by exact Try.func8) (by kernel_rfl) tie_verdict_Bytes
theorem tie_verdict_Encode : compFn Try.prog yK Try.f11 = some A.verdict_Encode.strip := by kernel_rfl
theorem has_verdict_Encode (W0 : World) : Has (Ecx (cxOf W0)) K.verdict_Encode A.verdict_Encode := fn_sound Try.checked.mixed rfl (by exact Try.func11) (by kernel_rfl) tie_verdict_Encode
theorem tie_verdict_Read : compFn Try.prog yK Try.f14 = some A.verdict_Read.strip := by kernel_rfl
theorem has_verdict_Read (W0 : World) : Has (Ecx (cxOf W0)) K.verdict_Read A.verdict_Read := fn_sound Try.checked.mixed rfl (by exact Try.func14) (by kernel_rfl) tie_verdict_Read
theorem tie_verdict_Decode : compFn Try.prog yK Try.f16 = some A.verdict_Decode.strip := by kernel_rfl
theorem has_verdict_Decode (W0 : World) : Has (Ecx (cxOf W0)) K.verdict_Decode A.verdict_Decode := fn_sound Try.checked.mixed rfl (by exact Try.func16) (by kernel_rfl) tie_verdict_Decode
theorem tie_verdict_May : compFn Try.prog yK Try.f18 = some A.verdict_May.strip := by kernel_rfl
theorem has_verdict_May (W0 : World) : Has (Ecx (cxOf W0)) K.verdict_May A.verdict_May := fn_sound Try.checked.mixed rfl (by exact Try.func18) (by kernel_rfl) tie_verdict_May
theorem tie_verdict_Right : compFn Try.prog yK Try.f20 = some A.verdict_Right.strip := by kernel_rfl
theorem has_verdict_Right (W0 : World) : Has (Ecx (cxOf W0)) K.verdict_Right A.verdict_Right := fn_sound Try.checked.mixed rfl (by exact Try.func20) (by kernel_rfl) tie_verdict_Right
theorem tie_verdict_Same : compFn Try.prog yK Try.f25 = some A.verdict_Same.strip := by kernel_rfl
theorem has_verdict_Same (W0 : World) : Has (Ecx (cxOf W0)) K.verdict_Same A.verdict_Same := fn_sound Try.checked.mixed rfl (by exact Try.func25) (by kernel_rfl) tie_verdict_Same
theorem tie_verdict_Alike : compFn Try.prog yK Try.f26 = some A.verdict_Alike.strip := by kernel_rfl
theorem has_verdict_Alike (W0 : World) : Has (Ecx (cxOf W0)) K.verdict_Alike A.verdict_Alike := fn_sound Try.checked.mixed rfl (by exact Try.func26) (by kernel_rfl) tie_verdict_Alike
theorem tie_verdict_lead : compFn Try.prog yK Try.f36 = some A.verdict_lead.strip := by kernel_rfl
theorem has_verdict_lead (W0 : World) : Has (Ecx (cxOf W0)) K.verdict_lead A.verdict_lead := fn_sound Try.checked.mixed rfl (by exact Try.func36) (by kernel_rfl) tie_verdict_lead
theorem tie_verdict_edit : compFn Try.prog yK Try.f39 = some A.verdict_edit.strip := by kernel_rfl
theorem has_verdict_edit (W0 : World) : Has (Ecx (cxOf W0)) K.verdict_edit A.verdict_edit := fn_sound Try.checked.mixed rfl (by exact Try.func39) (by kernel_rfl) tie_verdict_edit
theorem tie_verdict_set : compFn Try.prog yK Try.f45 = some A.verdict_set.strip := by kernel_rfl
theorem has_verdict_set (W0 : World) : Has (Ecx (cxOf W0)) K.verdict_set A.verdict_set := fn_sound Try.checked.mixed rfl (by exact Try.func45) (by kernel_rfl) tie_verdict_set
theorem tie_verdict_May_1 : compFn Try.prog yK Try.f47 = some A.verdict_May_1.strip := by kernel_rfl
theorem has_verdict_May_1 (W0 : World) : Has (Ecx (cxOf W0)) K.verdict_May_1 A.verdict_May_1 := fn_sound Try.checked.mixed rfl (by exact Try.func47) (by kernel_rfl) tie_verdict_May_1
theorem tie_verdict_within : compFn Try.prog yK Try.f48 = some A.verdict_within.strip := by kernel_rfl
theorem has_verdict_within (W0 : World) : Has (Ecx (cxOf W0)) K.verdict_within A.verdict_within := fn_sound Try.checked.mixed rfl (by exact Try.func48) (by kernel_rfl) tie_verdict_within
theorem tie_verdict_Verdict_bare : compFn Try.prog yK Try.f49 = some A.verdict_Verdict_bare.strip := by kernel_rfl
theorem has_verdict_Verdict_bare (W0 : World) : Has (Ecx (cxOf W0)) K.verdict_Verdict_bare A.verdict_Verdict_bare := fn_sound Try.checked.mixed rfl (by exact Try.func49) (by kernel_rfl) tie_verdict_Verdict_bare
theorem tie_verdict_derivation : compFn Try.prog yK Try.f50 = some A.verdict_derivation.strip := by kernel_rfl
theorem has_verdict_derivation (W0 : World) : Has (Ecx (cxOf W0)) K.verdict_derivation A.verdict_derivation := fn_sound Try.checked.mixed rfl (by exact Try.func50) (by kernel_rfl) tie_verdict_derivation
theorem tie_verdict_Right_1 : compFn Try.prog yK Try.f53 = some A.verdict_Right_1.strip := by kernel_rfl
theorem has_verdict_Right_1 (W0 : World) : Has (Ecx (cxOf W0)) K.verdict_Right_1 A.verdict_Right_1 := fn_sound Try.checked.mixed rfl (by exact Try.func53) (by kernel_rfl) tie_verdict_Right_1
theorem tie_verdict_odd : compFn Try.prog yK Try.f55 = some A.verdict_odd.strip := by kernel_rfl
theorem has_verdict_odd (W0 : World) : Has (Ecx (cxOf W0)) K.verdict_odd A.verdict_odd := fn_sound Try.checked.mixed rfl (by exact Try.func55) (by kernel_rfl) tie_verdict_odd
theorem tie_verdict_Right_2 : compFn Try.prog yK Try.f58 = some A.verdict_Right_2.strip := by kernel_rfl
theorem has_verdict_Right_2 (W0 : World) : Has (Ecx (cxOf W0)) K.verdict_Right_2 A.verdict_Right_2 := fn_sound Try.checked.mixed rfl (by exact Try.func58) (by kernel_rfl) tie_verdict_Right_2
theorem tie_verdict_item : compFn Try.prog yK Try.f74 = some A.verdict_item.strip := by kernel_rfl
theorem has_verdict_item (W0 : World) : Has (Ecx (cxOf W0)) K.verdict_item A.verdict_item := fn_sound Try.checked.mixed rfl (by exact Try.func74) (by kernel_rfl) tie_verdict_item
theorem tie_verdict_derivation_1 : compFn Try.prog yK Try.f76 = some A.verdict_derivation_1.strip := by kernel_rfl
theorem has_verdict_derivation_1 (W0 : World) : Has (Ecx (cxOf W0)) K.verdict_derivation_1 A.verdict_derivation_1 := fn_sound Try.checked.mixed rfl (by exact Try.func76) (by kernel_rfl) tie_verdict_derivation_1
end Go.Proofs.Ytpneojpgahegaaa.Al
