/-
  The tie: the abstract functions of l18 are the program's own. Conditions: none.
-/
import Derived.Test.YtpneojpgahegaaaAlTieK
import Derived.Test.YtpneojpgahegaaaAlFl18
namespace Go.Proofs.Ytpneojpgahegaaa.Al
open Go
theorem tie_probateref18_Same : compFn Try.prog yK Try.f60 = some A.probateref18_Same.strip := by kernel_rfl
theorem has_probateref18_Same (W0 : World) : Has (Ecx (cxOf W0)) K.probateref18_Same A.probateref18_Same := fn_sound Try.checked.mixed rfl (by exact Try.func60) (by kernel_rfl) tie_probateref18_Same
end Go.Proofs.Ytpneojpgahegaaa.Al
