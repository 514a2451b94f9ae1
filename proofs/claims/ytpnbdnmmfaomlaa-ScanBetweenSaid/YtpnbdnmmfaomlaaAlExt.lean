/-
  The abstract layer, part 14: functions that the model answers itself. Conditions: each theorem's own.
-/
import Derived.Test.YtpnbdnmmfaomlaaAlWalk2
import Derived.Lib.Bytealg
namespace Go.Proofs.Ytpnbdnmmfaomlaa.Al
open Go Go.RowKit
/-- The place of a byte in a string, or -1. -/
def idxB (s : List UInt8) (c : Int) : Int := Go.Lib.indexByte s c.toNat.toUInt8
theorem indexByte_ext {X : Cx} {k : Nat} {fn : Func} (hf : X.P.funcs[X.tbl k]? = some fn) (hname : (fn.name == "runtime.NumGoroutine") = false) (hb : fn.body.isNone = true) (hn : (Extern.findNext fn).isNone = true)
    (he : Extern.find fn = some Extern.BytealgIndexByte.indexByte) (s : List UInt8) (c : Int) {h : AH} {Q : V → AH → Prop} (hQ : Q (.int .i64 (idxB s c)) h) : Ecx X k [.str s, .int .u8 c] h Q := by
  intro g w cargs I rl
  have h0 : Extern.findNext fn = none := by cases hx : Extern.findNext fn <;> simp_all
  have hsz : cargs.size = 2 := by have := rl.1; simpa using this.symm
  have r0 := rl.2 0 (by simp) (by omega)
  have r1 := rl.2 1 (by simp) (by omega)
  simp only [List.getElem_cons_zero, List.getElem_cons_succ] at r0 r1
  obtain rfl : cargs = #[.string ⟨s.toArray⟩, .int .u8 c] := by
    refine Array.ext (by simp [hsz]) fun i h1 h2 => ?_
    match i with
    | 0 => generalize cargs[0] = u at r0 ⊢; cases r0; rfl
    | 1 => generalize cargs[1] = u at r1 ⊢; cases r1; rfl
    | n + 2 => omega
  refine .inr ⟨_, w, ?_, _, h, g, hQ, I, .int _ _, Stp.refl _ _ _⟩
  rw [run_callFunc_extern hf hname hb h0 he, Go.Lib.run_indexByteString]
  rfl
end Go.Proofs.Ytpnbdnmmfaomlaa.Al
