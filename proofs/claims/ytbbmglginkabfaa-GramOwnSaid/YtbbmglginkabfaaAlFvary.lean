/-
  The functions of vary as abstract code, written by a program of this claim (gen.py). Conditions: none.
-/
import Derived.Test.YtbbmglginkabfaaAlKeys
namespace Go.Proofs.Ytbbmglginkabfaa.Al
def A.vary_Take.L0 : AC := .post (.seq (.seq (.reg [⟨(some 41), none, .mv (.t 7)⟩, ⟨(some 42), none, .bin .geq (.t 41) (.c (.int .i64 (0)))⟩])
  (.keep [0, 5, 6, 7, 42] (.cond (.t 42) .skip (.exit 1))))
  (.keep [0, 5, 6, 7] (.seq (.block 2 (.reg [⟨(some 45), none, .mv (.t 6)⟩, ⟨(some 46), none, .bin .shl (.t 45) (.c (.int .u64 (7)))⟩, ⟨(some 47), none, .mv (.t 0)⟩, ⟨(some 48), none, .mv (.t 7)⟩, ⟨(some 49), none, .ia 1 (.t 47) (.t 48)⟩, ⟨(some 50), none, .load false 1 (.t 49)⟩, ⟨(some 51), none, .bin .andNot (.t 50) (.c (.int .u8 (128)))⟩, ⟨(some 52), none, .conv .u64 (.t 51)⟩, ⟨(some 53), none, .bin .or (.t 46) (.t 52)⟩, ⟨(some 6), none, .mv (.t 53)⟩]))
  (.keep [0, 5, 6, 7] (.reg [⟨(some 43), none, .mv (.t 7)⟩, ⟨(some 44), none, .bin .sub (.t 43) (.c (.int .i64 (1)))⟩, ⟨(some 7), none, .mv (.t 44)⟩]))))) [0, 5, 6, 7]
def A.vary_Take : AFn := ⟨57, [(2, none), (3, none), (4, none)], (.seq (.reg [⟨(some 2), none, .mv (.c (.int .u64 (0)))⟩, ⟨(some 3), none, .mv (.c (.int .i64 (0)))⟩, ⟨(some 4), none, .mv (.c (.int .i64 (0)))⟩])
  (.keep [0] (.seq (.reg [⟨(some 8), none, .mv (.t 0)⟩, ⟨(some 9), none, .call (.c (.fn K.vary_end [] [])) [(.t 8)]⟩, ⟨(some 5), none, .mv (.t 9)⟩])
  (.keep [0, 5] (.seq (.block 0 (.seq (.reg [⟨(some 11), none, .mv (.t 5)⟩, ⟨(some 12), none, .bin .lss (.t 11) (.c (.int .i64 (0)))⟩, ⟨(some 13), none, .mv (.t 12)⟩, ⟨(some 14), (some (13, true)), .mv (.t 0)⟩, ⟨(some 15), (some (13, true)), .len false (.t 14)⟩, ⟨(some 16), (some (13, true)), .bin .lss (.t 15) (.c (.int .i64 (10)))⟩, ⟨(some 17), none, .pick (.t 13) (.t 16) (.c (.bool false))⟩, ⟨(some 10), none, .mv (.t 17)⟩])
  (.keep [0, 5, 10] (.cond (.t 10) (.seq (.reg [⟨(some 2), none, .mv (.c (.int .u64 (0)))⟩, ⟨(some 3), none, .mv (.c (.int .i64 (0)))⟩, ⟨(some 4), none, .mv (.c (.int .i64 (3)))⟩]) .ret) (.seq (.seq (.reg [⟨(some 19), none, .mv (.t 5)⟩, ⟨(some 20), none, .bin .lss (.t 19) (.c (.int .i64 (0)))⟩, ⟨(some 18), none, .mv (.t 20)⟩])
  (.keep [0, 5, 18] (.cond (.t 18) .skip (.reg [⟨(some 21), none, .mv (.t 5)⟩, ⟨(some 22), none, .bin .eql (.t 21) (.c (.int .i64 (9)))⟩, ⟨(some 23), none, .mv (.t 22)⟩, ⟨(some 24), (some (23, true)), .mv (.t 0)⟩, ⟨(some 25), (some (23, true)), .mv (.t 5)⟩, ⟨(some 26), (some (23, true)), .ia 1 (.t 24) (.t 25)⟩, ⟨(some 27), (some (23, true)), .load false 1 (.t 26)⟩, ⟨(some 28), (some (23, true)), .bin .gtr (.t 27) (.c (.int .u8 (1)))⟩, ⟨(some 29), none, .pick (.t 23) (.t 28) (.c (.bool false))⟩, ⟨(some 18), none, .mv (.t 29)⟩]))))
  (.keep [0, 5, 18] (.cond (.t 18) (.seq (.reg [⟨(some 2), none, .mv (.c (.int .u64 (0)))⟩, ⟨(some 3), none, .mv (.c (.int .i64 (0)))⟩, ⟨(some 4), none, .mv (.c (.int .i64 (4)))⟩]) .ret) (.seq (.reg [⟨(some 31), none, .mv (.t 5)⟩, ⟨(some 32), none, .bin .gtr (.t 31) (.c (.int .i64 (0)))⟩, ⟨(some 33), none, .mv (.t 32)⟩, ⟨(some 34), (some (33, true)), .mv (.t 0)⟩, ⟨(some 35), (some (33, true)), .mv (.t 5)⟩, ⟨(some 36), (some (33, true)), .ia 1 (.t 34) (.t 35)⟩, ⟨(some 37), (some (33, true)), .load false 1 (.t 36)⟩, ⟨(some 38), (some (33, true)), .bin .eql (.t 37) (.c (.int .u8 (0)))⟩, ⟨(some 39), none, .pick (.t 33) (.t 38) (.c (.bool false))⟩, ⟨(some 30), none, .mv (.t 39)⟩])
  (.keep [0, 5, 30] (.cond (.t 30) (.seq (.reg [⟨(some 2), none, .mv (.c (.int .u64 (0)))⟩, ⟨(some 3), none, .mv (.c (.int .i64 (0)))⟩, ⟨(some 4), none, .mv (.c (.int .i64 (2)))⟩]) .ret) .skip))))))))))
  (.keep [0, 5] (.seq (.reg [⟨(some 6), none, .mv (.c (.int .u64 (0)))⟩])
  (.keep [0, 5, 6] (.seq (.seq (.reg [⟨(some 40), none, .mv (.t 5)⟩, ⟨(some 7), none, .mv (.t 40)⟩])
  (.keep [0, 5, 6, 7] (.block 1 (.loop A.vary_Take.L0))))
  (.keep [5, 6] (.seq (.reg [⟨(some 54), none, .mv (.t 6)⟩, ⟨(some 55), none, .mv (.t 5)⟩, ⟨(some 56), none, .bin .add (.t 55) (.c (.int .i64 (1)))⟩, ⟨(some 2), none, .mv (.t 54)⟩, ⟨(some 3), none, .mv (.t 56)⟩, ⟨(some 4), none, .mv (.c (.int .i64 (0)))⟩]) .ret)))))))))))⟩
def A.vary_Put.L0 : AC := .post (.seq (.seq (.reg [⟨(some 4), none, .mv (.t 0)⟩, ⟨(some 5), none, .bin .geq (.t 4) (.c (.int .u64 (128)))⟩])
  (.keep [0, 3, 5] (.cond (.t 5) .skip (.exit 0))))
  (.keep [0, 3] (.seq (.block 1 (.reg [⟨(some 8), none, .mv (.t 3)⟩, ⟨(some 9), none, .mv (.t 0)⟩, ⟨(some 10), none, .conv .u8 (.t 9)⟩, ⟨(some 11), none, .bin .or (.t 10) (.c (.int .u8 (128)))⟩, ⟨(some 12), none, .bsl 1 false [(.int .u8 (0))] 1 [(0, (.t 11))]⟩, ⟨(some 13), none, .app 1 1 (.t 8) (.t 12)⟩, ⟨(some 3), none, .mv (.t 13)⟩]))
  (.keep [0, 3] (.reg [⟨(some 6), none, .mv (.t 0)⟩, ⟨(some 7), none, .bin .shr (.t 6) (.c (.int .u64 (7)))⟩, ⟨(some 0), none, .mv (.t 7)⟩]))))) [0, 3]
def A.vary_Put : AFn := ⟨19, [(2, none)], (.seq (.reg [⟨(some 2), none, .mv (.c (.sl 0 1 []))⟩])
  (.keep [0] (.seq (.reg [⟨(some 3), none, .mv (.c (.sl 0 1 []))⟩])
  (.keep [0, 3] (.seq (.block 0 (.loop A.vary_Put.L0))
  (.keep [0, 3] (.seq (.reg [⟨(some 14), none, .mv (.t 3)⟩, ⟨(some 15), none, .mv (.t 0)⟩, ⟨(some 16), none, .conv .u8 (.t 15)⟩, ⟨(some 17), none, .bsl 1 false [(.int .u8 (0))] 1 [(0, (.t 16))]⟩, ⟨(some 18), none, .app 1 1 (.t 14) (.t 17)⟩, ⟨(some 2), none, .mv (.t 18)⟩]) .ret)))))))⟩
def A.vary_end.L0 : AC := .post (.seq (.reg [⟨(some 9), none, .bin .lss (.t 8) (.t 7)⟩])
  (.keep [3, 6, 7, 8, 9] (.seq (.cond (.t 9) .skip (.exit 0))
  (.keep [3, 6, 7, 8] (.seq (.block 1 (.seq (.reg [⟨(some 10), none, .mv (.t 8)⟩, ⟨(some 11), none, .ia 1 (.t 6) (.t 8)⟩, ⟨(some 12), none, .load false 1 (.t 11)⟩, ⟨(some 4), none, .mv (.t 10)⟩, ⟨(some 5), none, .mv (.t 12)⟩])
  (.keep [3, 4, 5, 6, 7, 8] (.block 2 (.seq (.reg [⟨(some 14), none, .mv (.t 4)⟩, ⟨(some 15), none, .bin .eql (.t 14) (.c (.int .i64 (10)))⟩, ⟨(some 13), none, .mv (.t 15)⟩])
  (.keep [3, 4, 5, 6, 7, 8, 13] (.cond (.t 13) (.exit 0) (.seq (.reg [⟨(some 17), none, .mv (.t 5)⟩, ⟨(some 18), none, .bin .lss (.t 17) (.c (.int .u8 (128)))⟩, ⟨(some 16), none, .mv (.t 18)⟩])
  (.keep [3, 4, 6, 7, 8, 16] (.cond (.t 16) (.seq (.reg [⟨(some 19), none, .mv (.t 4)⟩, ⟨(some 3), none, .mv (.t 19)⟩]) (.exit 0)) .skip))))))))))
  (.keep [3, 6, 7, 8] (.reg [⟨(some 20), none, .bin .add (.t 8) (.c (.int .i64 (1)))⟩, ⟨(some 8), none, .mv (.t 20)⟩]))))))) [3, 6, 7, 8]
def A.vary_end : AFn := ⟨22, [(2, none)], (.seq (.reg [⟨(some 2), none, .mv (.c (.int .i64 (0)))⟩])
  (.keep [0] (.scope (.seq (.reg [⟨(some 3), none, .mv (.c (.int .i64 (-1)))⟩])
  (.keep [0, 3] (.seq .skip
  (.keep [0, 3] (.seq (.seq (.reg [⟨(some 6), none, .mv (.t 0)⟩, ⟨(some 7), none, .len false (.t 6)⟩, ⟨(some 8), none, .mv (.c (.int .i64 (0)))⟩])
  (.keep [3, 6, 7, 8] (.block 0 (.loop A.vary_end.L0))))
  (.keep [3] (.seq (.reg [⟨(some 21), none, .mv (.t 3)⟩, ⟨(some 2), none, .mv (.t 21)⟩]) .ret))))))))))⟩
end Go.Proofs.Ytbbmglginkabfaa.Al
