/-
  The tie: the abstract functions of lib are the program's own. Conditions: none.
-/
import Derived.Test.YtpnbdnmmfaomlaaAlTieK
import Derived.Test.YtpnbdnmmfaomlaaAlFlib
namespace Go.Proofs.Ytpnbdnmmfaomlaa.Al
open Go
theorem tie_slices_Clone_byte : compFn Try.prog yK Try.f83 = some A.slices_Clone_byte.strip := by kernel_rfl
theorem has_slices_Clone_byte (W0 : World) : Has (Ecx (cxOf W0)) K.slices_Clone_byte A.slices_Clone_byte := fn_sound Try.checked.mixed rfl (by exact Try.func83) (by kernel_rfl) tie_slices_Clone_byte
theorem tie_slices_ContainsFunc_Prod : compFn Try.prog yK Try.f95 = some A.slices_ContainsFunc_Prod.strip := by kernel_rfl
theorem has_slices_ContainsFunc_Prod (W0 : World) : Has (Ecx (cxOf W0)) K.slices_ContainsFunc_Prod A.slices_ContainsFunc_Prod := fn_sound Try.checked.mixed rfl (by exact Try.func95) (by kernel_rfl) tie_slices_ContainsFunc_Prod
theorem tie_slices_EqualFunc_Prod : compFn Try.prog yK Try.f98 = some A.slices_EqualFunc_Prod.strip := by kernel_rfl
theorem has_slices_EqualFunc_Prod (W0 : World) : Has (Ecx (cxOf W0)) K.slices_EqualFunc_Prod A.slices_EqualFunc_Prod := fn_sound Try.checked.mixed rfl (by exact Try.func98) (by kernel_rfl) tie_slices_EqualFunc_Prod
theorem tie_slices_Clone_Sym : compFn Try.prog yK Try.f100 = some A.slices_Clone_Sym.strip := by kernel_rfl
theorem has_slices_Clone_Sym (W0 : World) : Has (Ecx (cxOf W0)) K.slices_Clone_Sym A.slices_Clone_Sym := fn_sound Try.checked.mixed rfl (by exact Try.func100) (by kernel_rfl) tie_slices_Clone_Sym
theorem tie_strings_Cut : compFn Try.prog yK Try.f101 = some A.strings_Cut.strip := by kernel_rfl
theorem has_strings_Cut (W0 : World) : Has (Ecx (cxOf W0)) K.strings_Cut A.strings_Cut := fn_sound Try.checked.mixed rfl (by exact Try.func101) (by kernel_rfl) tie_strings_Cut
theorem tie_strings_IndexByte : compFn Try.prog yK Try.f106 = some A.strings_IndexByte.strip := by kernel_rfl
theorem has_strings_IndexByte (W0 : World) : Has (Ecx (cxOf W0)) K.strings_IndexByte A.strings_IndexByte := fn_sound Try.checked.mixed rfl (by exact Try.func106) (by kernel_rfl) tie_strings_IndexByte
theorem tie_slices_IndexFunc_Prod : compFn Try.prog yK Try.f109 = some A.slices_IndexFunc_Prod.strip := by kernel_rfl
theorem has_slices_IndexFunc_Prod (W0 : World) : Has (Ecx (cxOf W0)) K.slices_IndexFunc_Prod A.slices_IndexFunc_Prod := fn_sound Try.checked.mixed rfl (by exact Try.func109) (by kernel_rfl) tie_slices_IndexFunc_Prod
theorem tie_slices_ContainsFunc_Sym : compFn Try.prog yK Try.f111 = some A.slices_ContainsFunc_Sym.strip := by kernel_rfl
theorem has_slices_ContainsFunc_Sym (W0 : World) : Has (Ecx (cxOf W0)) K.slices_ContainsFunc_Sym A.slices_ContainsFunc_Sym := fn_sound Try.checked.mixed rfl (by exact Try.func111) (by kernel_rfl) tie_slices_ContainsFunc_Sym
theorem tie_slices_Equal_Sym : compFn Try.prog yK Try.f113 = some A.slices_Equal_Sym.strip := by kernel_rfl
theorem has_slices_Equal_Sym (W0 : World) : Has (Ecx (cxOf W0)) K.slices_Equal_Sym A.slices_Equal_Sym := fn_sound Try.checked.mixed rfl (by exact Try.func113) (by kernel_rfl) tie_slices_Equal_Sym
theorem tie_stringslite_Cut : compFn Try.prog yK Try.f114 = some A.stringslite_Cut.strip := by kernel_rfl
theorem has_stringslite_Cut (W0 : World) : Has (Ecx (cxOf W0)) K.stringslite_Cut A.stringslite_Cut := fn_sound Try.checked.mixed rfl (by exact Try.func114) (by kernel_rfl) tie_stringslite_Cut
theorem tie_stringslite_IndexByte : compFn Try.prog yK Try.f115 = some A.stringslite_IndexByte.strip := by kernel_rfl
theorem has_stringslite_IndexByte (W0 : World) : Has (Ecx (cxOf W0)) K.stringslite_IndexByte A.stringslite_IndexByte := fn_sound Try.checked.mixed rfl (by exact Try.func115) (by kernel_rfl) tie_stringslite_IndexByte
theorem tie_slices_IndexFunc_Sym : compFn Try.prog yK Try.f116 = some A.slices_IndexFunc_Sym.strip := by kernel_rfl
theorem has_slices_IndexFunc_Sym (W0 : World) : Has (Ecx (cxOf W0)) K.slices_IndexFunc_Sym A.slices_IndexFunc_Sym := fn_sound Try.checked.mixed rfl (by exact Try.func116) (by kernel_rfl) tie_slices_IndexFunc_Sym
theorem tie_stringslite_Index : compFn Try.prog yK Try.f117 = some A.stringslite_Index.strip := by kernel_rfl
theorem has_stringslite_Index (W0 : World) : Has (Ecx (cxOf W0)) K.stringslite_Index A.stringslite_Index := fn_sound Try.checked.mixed rfl (by exact Try.func117) (by kernel_rfl) tie_stringslite_Index
theorem tie_bytealg_Cutover : compFn Try.prog yK Try.f120 = some A.bytealg_Cutover.strip := by kernel_rfl
theorem has_bytealg_Cutover (W0 : World) : Has (Ecx (cxOf W0)) K.bytealg_Cutover A.bytealg_Cutover := fn_sound Try.checked.mixed rfl (by exact Try.func120) (by kernel_rfl) tie_bytealg_Cutover
theorem tie_bytealg_IndexRabinKarp_string : compFn Try.prog yK Try.f121 = some A.bytealg_IndexRabinKarp_string.strip := by kernel_rfl
theorem has_bytealg_IndexRabinKarp_string (W0 : World) : Has (Ecx (cxOf W0)) K.bytealg_IndexRabinKarp_string A.bytealg_IndexRabinKarp_string := fn_sound Try.checked.mixed rfl (by exact Try.func121) (by kernel_rfl) tie_bytealg_IndexRabinKarp_string
theorem tie_bytealg_hashStr_string : compFn Try.prog yK Try.f122 = some A.bytealg_hashStr_string.strip := by kernel_rfl
theorem has_bytealg_hashStr_string (W0 : World) : Has (Ecx (cxOf W0)) K.bytealg_hashStr_string A.bytealg_hashStr_string := fn_sound Try.checked.mixed rfl (by exact Try.func122) (by kernel_rfl) tie_bytealg_hashStr_string
end Go.Proofs.Ytpnbdnmmfaomlaa.Al
