/-
  The functions of probateref01 as abstract code, written by a program of this claim (gen.py). Conditions: none.
-/
import Derived.Test.YtpnbdnmmfaomlaaAlKeys
namespace Go.Proofs.Ytpnbdnmmfaomlaa.Al
def A.probateref01_Take.L0 : AC := .post (.seq (.seq (.reg [⟨(some 8), none, .mv (.t 5)⟩, ⟨(some 9), none, .mv (.t 0)⟩, ⟨(some 10), none, .len false (.t 9)⟩, ⟨(some 11), none, .bin .lss (.t 8) (.t 10)⟩, ⟨(some 12), none, .mv (.t 11)⟩, ⟨(some 13), (some (12, true)), .mv (.t 0)⟩, ⟨(some 14), (some (12, true)), .mv (.t 5)⟩, ⟨(some 15), (some (12, true)), .ia 1 (.t 13) (.t 14)⟩, ⟨(some 16), (some (12, true)), .load false 1 (.t 15)⟩, ⟨(some 17), (some (12, true)), .bin .geq (.t 16) (.c (.int .u8 (128)))⟩, ⟨(some 18), none, .pick (.t 12) (.t 17) (.c (.bool false))⟩])
  (.keep [0, 5, 18] (.cond (.t 18) .skip (.exit 0))))
  (.keep [0, 5] (.block 1 (.reg [⟨(some 19), none, .mv (.t 5)⟩, ⟨(some 20), none, .bin .add (.t 19) (.c (.int .i64 (1)))⟩, ⟨(some 5), none, .mv (.t 20)⟩])))) [0, 5]
def A.probateref01_Take.L1 : AC := .post (.seq (.seq (.reg [⟨(some 45), none, .mv (.t 7)⟩, ⟨(some 46), none, .bin .geq (.t 45) (.c (.int .i64 (0)))⟩])
  (.keep [0, 5, 6, 7, 46] (.cond (.t 46) .skip (.exit 2))))
  (.keep [0, 5, 6, 7] (.seq (.block 3 (.reg [⟨(some 49), none, .mv (.t 6)⟩, ⟨(some 50), none, .bin .mul (.c (.int .u64 (128))) (.t 49)⟩, ⟨(some 51), none, .mv (.t 0)⟩, ⟨(some 52), none, .mv (.t 7)⟩, ⟨(some 53), none, .ia 1 (.t 51) (.t 52)⟩, ⟨(some 54), none, .load false 1 (.t 53)⟩, ⟨(some 55), none, .conv .u64 (.t 54)⟩, ⟨(some 56), none, .bin .rem (.t 55) (.c (.int .u64 (128)))⟩, ⟨(some 57), none, .bin .add (.t 50) (.t 56)⟩, ⟨(some 6), none, .mv (.t 57)⟩]))
  (.keep [0, 5, 6, 7] (.reg [⟨(some 47), none, .mv (.t 7)⟩, ⟨(some 48), none, .bin .sub (.t 47) (.c (.int .i64 (1)))⟩, ⟨(some 7), none, .mv (.t 48)⟩]))))) [0, 5, 6, 7]
def A.probateref01_Take : AFn := ⟨61, [(2, none), (3, none), (4, none)], (.seq (.reg [⟨(some 2), none, .mv (.c (.int .u64 (0)))⟩, ⟨(some 3), none, .mv (.c (.int .i64 (0)))⟩, ⟨(some 4), none, .mv (.c (.int .i64 (0)))⟩])
  (.keep [0] (.seq (.reg [⟨(some 5), none, .mv (.c (.int .i64 (0)))⟩])
  (.keep [0, 5] (.seq (.block 0 (.loop A.probateref01_Take.L0))
  (.keep [0, 5] (.seq (.seq (.reg [⟨(some 21), none, .mv (.t 5)⟩, ⟨(some 22), none, .bin .geq (.t 21) (.c (.int .i64 (10)))⟩])
  (.keep [0, 5, 22] (.cond (.t 22) (.seq (.reg [⟨(some 2), none, .mv (.c (.int .u64 (0)))⟩, ⟨(some 3), none, .mv (.c (.int .i64 (0)))⟩, ⟨(some 4), none, .mv (.c (.int .i64 (4)))⟩]) .ret) .skip)))
  (.keep [0, 5] (.seq (.seq (.reg [⟨(some 23), none, .mv (.t 5)⟩, ⟨(some 24), none, .mv (.t 0)⟩, ⟨(some 25), none, .len false (.t 24)⟩, ⟨(some 26), none, .bin .eql (.t 23) (.t 25)⟩])
  (.keep [0, 5, 26] (.cond (.t 26) (.seq (.reg [⟨(some 2), none, .mv (.c (.int .u64 (0)))⟩, ⟨(some 3), none, .mv (.c (.int .i64 (0)))⟩, ⟨(some 4), none, .mv (.c (.int .i64 (3)))⟩]) .ret) .skip)))
  (.keep [0, 5] (.seq (.seq (.reg [⟨(some 27), none, .mv (.t 5)⟩, ⟨(some 28), none, .bin .eql (.t 27) (.c (.int .i64 (9)))⟩, ⟨(some 29), none, .mv (.t 28)⟩, ⟨(some 30), (some (29, true)), .mv (.t 0)⟩, ⟨(some 31), (some (29, true)), .ia 1 (.t 30) (.c (.int .i64 (9)))⟩, ⟨(some 32), (some (29, true)), .load false 1 (.t 31)⟩, ⟨(some 33), (some (29, true)), .bin .gtr (.t 32) (.c (.int .u8 (1)))⟩, ⟨(some 34), none, .pick (.t 29) (.t 33) (.c (.bool false))⟩])
  (.keep [0, 5, 34] (.cond (.t 34) (.seq (.reg [⟨(some 2), none, .mv (.c (.int .u64 (0)))⟩, ⟨(some 3), none, .mv (.c (.int .i64 (0)))⟩, ⟨(some 4), none, .mv (.c (.int .i64 (4)))⟩]) .ret) .skip)))
  (.keep [0, 5] (.seq (.seq (.reg [⟨(some 35), none, .mv (.t 5)⟩, ⟨(some 36), none, .bin .gtr (.t 35) (.c (.int .i64 (0)))⟩, ⟨(some 37), none, .mv (.t 36)⟩, ⟨(some 38), (some (37, true)), .mv (.t 0)⟩, ⟨(some 39), (some (37, true)), .mv (.t 5)⟩, ⟨(some 40), (some (37, true)), .ia 1 (.t 38) (.t 39)⟩, ⟨(some 41), (some (37, true)), .load false 1 (.t 40)⟩, ⟨(some 42), (some (37, true)), .bin .eql (.t 41) (.c (.int .u8 (0)))⟩, ⟨(some 43), none, .pick (.t 37) (.t 42) (.c (.bool false))⟩])
  (.keep [0, 5, 43] (.cond (.t 43) (.seq (.reg [⟨(some 2), none, .mv (.c (.int .u64 (0)))⟩, ⟨(some 3), none, .mv (.c (.int .i64 (0)))⟩, ⟨(some 4), none, .mv (.c (.int .i64 (2)))⟩]) .ret) .skip)))
  (.keep [0, 5] (.seq (.reg [⟨(some 6), none, .mv (.c (.int .u64 (0)))⟩])
  (.keep [0, 5, 6] (.seq (.seq (.reg [⟨(some 44), none, .mv (.t 5)⟩, ⟨(some 7), none, .mv (.t 44)⟩])
  (.keep [0, 5, 6, 7] (.block 2 (.loop A.probateref01_Take.L1))))
  (.keep [5, 6] (.seq (.reg [⟨(some 58), none, .mv (.t 6)⟩, ⟨(some 59), none, .mv (.t 5)⟩, ⟨(some 60), none, .bin .add (.t 59) (.c (.int .i64 (1)))⟩, ⟨(some 2), none, .mv (.t 58)⟩, ⟨(some 3), none, .mv (.t 60)⟩, ⟨(some 4), none, .mv (.c (.int .i64 (0)))⟩]) .ret)))))))))))))))))))⟩
def A.probateref01_Same.L0 : AC := .post (.seq (.seq (.reg [⟨(some 11), none, .mv (.t 5)⟩, ⟨(some 12), none, .mv (.t 0)⟩, ⟨(some 13), none, .len false (.t 12)⟩, ⟨(some 14), none, .bin .lss (.t 11) (.t 13)⟩])
  (.keep [0, 1, 5, 14] (.cond (.t 14) .skip (.exit 0))))
  (.keep [0, 1, 5] (.seq (.block 1 (.seq (.draw [(.pl, ⟨(some 17), none, .mv (.t 0)⟩), (.pl, ⟨(some 18), none, .mv (.t 5)⟩), (.pl, ⟨(some 19), none, .ia 1 (.t 17) (.t 18)⟩), (.pl, ⟨(some 20), none, .load false 1 (.t 19)⟩), (.pl, ⟨(some 21), none, .mv (.t 1)⟩), (.pl, ⟨(some 22), none, .mv (.t 5)⟩), (.pl, ⟨(some 23), none, .ia 1 (.t 21) (.t 22)⟩), (.pl, ⟨(some 24), none, .load false 1 (.t 23)⟩), (.pl, ⟨(some 25), none, .bin .neq (.t 20) (.t 24)⟩)])
  (.keep [0, 1, 5, 25] (.cond (.t 25) (.seq (.reg [⟨(some 4), none, .mv (.c (.bool false))⟩]) .ret) .skip))))
  (.keep [0, 1, 5] (.reg [⟨(some 15), none, .mv (.t 5)⟩, ⟨(some 16), none, .bin .add (.t 15) (.c (.int .i64 (1)))⟩, ⟨(some 5), none, .mv (.t 16)⟩]))))) [0, 1, 5]
def A.probateref01_Same : AFn := ⟨26, [(4, none)], (.seq (.reg [⟨(some 4), none, .mv (.c (.bool false))⟩])
  (.keep [0, 1] (.seq (.seq (.reg [⟨(some 6), none, .mv (.t 0)⟩, ⟨(some 7), none, .len false (.t 6)⟩, ⟨(some 8), none, .mv (.t 1)⟩, ⟨(some 9), none, .len false (.t 8)⟩, ⟨(some 10), none, .bin .neq (.t 7) (.t 9)⟩])
  (.keep [0, 1, 10] (.cond (.t 10) (.seq (.reg [⟨(some 4), none, .mv (.c (.bool false))⟩]) .ret) .skip)))
  (.keep [0, 1] (.seq (.seq (.reg [⟨(some 5), none, .mv (.c (.int .i64 (0)))⟩])
  (.keep [0, 1, 5] (.block 0 (.loop A.probateref01_Same.L0))))
  (.keep [] (.seq (.reg [⟨(some 4), none, .mv (.c (.bool true))⟩]) .ret)))))))⟩
def A.probateref01_Put : AFn := ⟨17, [(2, none)], (.seq (.reg [⟨(some 2), none, .mv (.c (.sl 0 1 []))⟩])
  (.keep [0] (.seq (.seq (.reg [⟨(some 3), none, .mv (.t 0)⟩, ⟨(some 4), none, .bin .lss (.t 3) (.c (.int .u64 (128)))⟩])
  (.keep [0, 4] (.cond (.t 4) (.seq (.reg [⟨(some 5), none, .mv (.t 0)⟩, ⟨(some 6), none, .conv .u8 (.t 5)⟩, ⟨(some 7), none, .bsl 1 false [(.int .u8 (0))] 1 [(0, (.t 6))]⟩, ⟨(some 2), none, .mv (.t 7)⟩]) .ret) .skip)))
  (.keep [0] (.seq (.reg [⟨(some 8), none, .mv (.t 0)⟩, ⟨(some 9), none, .bin .rem (.t 8) (.c (.int .u64 (128)))⟩, ⟨(some 10), none, .conv .u8 (.t 9)⟩, ⟨(some 11), none, .bin .add (.t 10) (.c (.int .u8 (128)))⟩, ⟨(some 12), none, .bsl 1 false [(.int .u8 (0))] 1 [(0, (.t 11))]⟩, ⟨(some 13), none, .mv (.t 0)⟩, ⟨(some 14), none, .bin .quo (.t 13) (.c (.int .u64 (128)))⟩, ⟨(some 15), none, .call (.c (.fn K.probateref01_Put [] [])) [(.t 14)]⟩, ⟨(some 16), none, .app 1 1 (.t 12) (.t 15)⟩, ⟨(some 2), none, .mv (.t 16)⟩]) .ret)))))⟩
end Go.Proofs.Ytpnbdnmmfaomlaa.Al
