/-
  The functions of strings as abstract code, written by a program of this claim (gen.py). Conditions: none.
-/
import Derived.Test.YtpnbdnmmfaomlaaAlKeys
namespace Go.Proofs.Ytpnbdnmmfaomlaa.Al
def A.strings_Cut : AFn := ⟨13, [(4, none), (5, none), (6, none)], (.seq (.reg [⟨(some 4), none, .mv (.c (.str []))⟩, ⟨(some 5), none, .mv (.c (.str []))⟩, ⟨(some 6), none, .mv (.c (.bool false))⟩])
  (.keep [0, 1] (.seq (.reg [⟨(some 7), none, .mv (.t 0)⟩, ⟨(some 8), none, .mv (.t 1)⟩, ⟨(some 9), none, .call (.c (.fn K.stringslite_Cut [] [])) [(.t 7), (.t 8)]⟩, ⟨(some 10), none, .ext (.t 9) 0⟩, ⟨(some 11), none, .ext (.t 9) 1⟩, ⟨(some 12), none, .ext (.t 9) 2⟩, ⟨(some 4), none, .mv (.t 10)⟩, ⟨(some 5), none, .mv (.t 11)⟩, ⟨(some 6), none, .mv (.t 12)⟩]) .ret)))⟩
def A.strings_IndexByte : AFn := ⟨8, [(4, none)], (.seq (.reg [⟨(some 4), none, .mv (.c (.int .i64 (0)))⟩])
  (.keep [0, 1] (.seq (.reg [⟨(some 5), none, .mv (.t 0)⟩, ⟨(some 6), none, .mv (.t 1)⟩, ⟨(some 7), none, .call (.c (.fn K.stringslite_IndexByte [] [])) [(.t 5), (.t 6)]⟩, ⟨(some 4), none, .mv (.t 7)⟩]) .ret)))⟩
end Go.Proofs.Ytpnbdnmmfaomlaa.Al
