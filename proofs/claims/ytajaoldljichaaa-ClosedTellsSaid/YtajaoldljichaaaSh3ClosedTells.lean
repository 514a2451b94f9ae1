/-
  What the law ClosedTells needs of this claim's texts (part 3). Conditions: each theorem's own.
-/
import Derived.Test.YtajaoldljichaaaAlKeys
import Derived.Test.YtajaoldljichaaaAlA
import Derived.Test.YtajaoldljichaaaAlB
import Derived.Test.YtajaoldljichaaaAlC
import Derived.Test.YtajaoldljichaaaSh1ClosedTells
import Derived.Test.YtajaoldljichaaaSh2ClosedTells
namespace Go.Proofs.Ytajaoldljichaaa.Al
def A.probatelaw19_ClosedTells : AFn := ⟨45, [(8, none)], (.seq (.reg [⟨(some 4), none, .box (.t 0)⟩, ⟨(some 8), none, .mv (.c (.bool false))⟩])
  (.keep [1, 2, 3, 4] (.seq (.seq (.reg [⟨(some 9), none, .call (.c (.fn K.probatelaw19_awake [] [])) []⟩, ⟨(some 10), none, .un .not (.t 9)⟩])
  (.keep [1, 2, 3, 4, 10] (.cond (.t 10) (.seq (.reg [⟨(some 8), none, .mv (.c (.bool false))⟩]) .ret) .skip)))
  (.keep [1, 2, 3, 4] (.seq (.seq (.reg [⟨(some 11), none, .load true 4 (.t 4)⟩, ⟨(some 12), none, .mv (.t 1)⟩, ⟨(some 13), none, .call (.c (.fn K.probatelaw17_Large [] [])) [(.t 11), (.t 12)]⟩, ⟨(some 14), none, .mv (.t 13)⟩, ⟨(some 15), (some (14, false)), .mv (.t 2)⟩, ⟨(some 16), (some (14, false)), .call (.c (.fn K.probatelaw19_large [] [])) [(.t 15)]⟩, ⟨(some 17), none, .pick (.t 14) (.c (.bool true)) (.t 16)⟩, ⟨(some 18), none, .mv (.t 17)⟩, ⟨(some 19), (some (18, false)), .mv (.t 3)⟩, ⟨(some 20), (some (18, false)), .len false (.t 19)⟩, ⟨(some 21), (some (18, false)), .bin .gtr (.t 20) (.c (.int .i64 (100)))⟩, ⟨(some 22), none, .pick (.t 18) (.c (.bool true)) (.t 21)⟩])
  (.keep [1, 2, 3, 4, 22] (.cond (.t 22) (.seq (.reg [⟨(some 8), none, .mv (.c (.bool true))⟩]) .ret) .skip)))
  (.keep [1, 2, 3, 4] (.seq (.draw [(.pl, ⟨(some 23), none, .load true 4 (.t 4)⟩), (.pl, ⟨(some 24), none, .mv (.t 1)⟩), (.pl, ⟨(some 25), none, .mv (.t 2)⟩), (.pl, ⟨(some 26), none, .call (.c (.fn K.closed_Closed [] [])) [(.t 23), (.t 24), (.t 25)]⟩), (.pl, ⟨(some 27), none, .load true 4 (.t 4)⟩), (.pl, ⟨(some 28), none, .mv (.t 1)⟩), (.pl, ⟨(some 29), none, .mv (.t 2)⟩), (.pl, ⟨(some 30), none, .call (.c (.fn K.probateref19_Closed [] [])) [(.t 27), (.t 28), (.t 29)]⟩), (.pl, ⟨(some 31), none, .beq false (.t 26) (.t 30)⟩), (.pl, ⟨(some 32), none, .mv (.t 31)⟩), (.pl, ⟨(some 33), (some (32, true)), .load true 4 (.t 4)⟩), (.pl, ⟨(some 34), (some (32, true)), .mv (.t 1)⟩), (.pl, ⟨(some 35), (some (32, true)), .mv (.t 2)⟩), (.pl, ⟨(some 36), (some (32, true)), .mv (.t 3)⟩), (.pl, ⟨(some 37), (some (32, true)), .call (.c (.fn K.closed_Alone [] [])) [(.t 33), (.t 34), (.t 35), (.t 36)]⟩), (.pl, ⟨(some 38), (some (32, true)), .load true 4 (.t 4)⟩), (.pl, ⟨(some 39), (some (32, true)), .mv (.t 1)⟩), (.pl, ⟨(some 40), (some (32, true)), .mv (.t 2)⟩), (.pl, ⟨(some 41), (some (32, true)), .mv (.t 3)⟩), (.pl, ⟨(some 42), (some (32, true)), .call (.c (.fn K.probateref19_Alone [] [])) [(.t 38), (.t 39), (.t 40), (.t 41)]⟩), (.pl, ⟨(some 43), (some (32, true)), .beq false (.t 37) (.t 42)⟩), (.pl, ⟨(some 44), none, .pick (.t 32) (.t 43) (.c (.bool false))⟩), (.pl, ⟨(some 8), none, .mv (.t 44)⟩)]) .ret)))))))⟩
def A.probatelaw19_awake : AFn := ⟨62, [(0, none)], (.seq (.reg [⟨(some 0), none, .mv (.c (.bool false))⟩])
  (.keep [] (.seq (.reg [⟨(some 3), none, .bld [(.bool false), (.int .i64 (0))] []⟩, ⟨(some 4), none, .bsl 2 true [(.bool false), (.int .i64 (0))] 1 [(0, (.t 3))]⟩, ⟨(some 5), none, .bld [(.int .i64 (0)), (.sl 0 1 [])] [(1, 1, (.t 4))]⟩, ⟨(some 6), none, .bsl 2 true [(.int .i64 (0)), (.sl 0 1 [])] 1 [(0, (.t 5))]⟩, ⟨(some 7), none, .bld [(.int .i64 (0)), (.int .i64 (0)), (.int .i64 (0)), (.sl 0 1 [])] [(0, 1, (.c (.int .i64 (1)))), (1, 1, (.c (.int .i64 (1)))), (3, 1, (.t 6))]⟩, ⟨(some 1), none, .alloc [(.int .i64 (0)), (.int .i64 (0)), (.int .i64 (0)), (.sl 0 1 [])]⟩, ⟨none, none, .store 4 (.t 1) (.t 7)⟩])
  (.keep [1] (.seq (.reg [⟨(some 8), none, .bld [(.int .i64 (0)), (.int .i64 (0)), (.int .i64 (0))] []⟩, ⟨(some 9), none, .bsl 3 true [(.int .i64 (0)), (.int .i64 (0)), (.int .i64 (0))] 1 [(0, (.t 8))]⟩, ⟨(some 10), none, .bld [(.int .i64 (0)), (.int .i64 (0)), (.int .i64 (0))] [(1, 1, (.c (.int .i64 (1))))]⟩, ⟨(some 11), none, .bsl 3 true [(.int .i64 (0)), (.int .i64 (0)), (.int .i64 (0))] 1 [(0, (.t 10))]⟩, ⟨(some 12), none, .bsl 1 false [(.sl 0 1 [])] 2 [(0, (.t 9)), (1, (.t 11))]⟩, ⟨(some 2), none, .mv (.t 12)⟩])
  (.keep [1, 2] (.seq (.draw [(.pl, ⟨(some 13), none, .load true 4 (.t 1)⟩), (.pl, ⟨(some 14), none, .bsl 1 false [(.int .i64 (0))] 1 [(0, (.c (.int .i64 (0))))]⟩), (.pl, ⟨(some 15), none, .mv (.t 2)⟩), (.pl, ⟨(some 16), none, .call (.c (.fn K.closed_Closed [] [])) [(.t 13), (.t 14), (.t 15)]⟩), (.pl, ⟨(some 17), none, .mv (.t 16)⟩), (.pl, ⟨(some 18), (some (17, true)), .load true 4 (.t 1)⟩), (.pl, ⟨(some 19), (some (17, true)), .bsl 1 false [(.int .i64 (0))] 1 [(0, (.c (.int .i64 (0))))]⟩), (.pl, ⟨(some 20), (some (17, true)), .bld [(.int .i64 (0)), (.int .i64 (0)), (.int .i64 (0))] []⟩), (.pl, ⟨(some 21), (some (17, true)), .bsl 3 true [(.int .i64 (0)), (.int .i64 (0)), (.int .i64 (0))] 1 [(0, (.t 20))]⟩), (.pl, ⟨(some 22), (some (17, true)), .bsl 1 false [(.sl 0 1 [])] 2 [(0, (.t 21)), (1, (.c (.sl 0 1 [])))]⟩), (.pl, ⟨(some 23), (some (17, true)), .call (.c (.fn K.closed_Closed [] [])) [(.t 18), (.t 19), (.t 22)]⟩), (.pl, ⟨(some 24), (some (17, true)), .un .not (.t 23)⟩), (.pl, ⟨(some 25), none, .pick (.t 17) (.t 24) (.c (.bool false))⟩), (.pl, ⟨(some 26), none, .mv (.t 25)⟩), (.pl, ⟨(some 27), (some (26, true)), .load true 4 (.t 1)⟩), (.pl, ⟨(some 28), (some (26, true)), .bsl 1 false [(.int .i64 (0))] 1 [(0, (.c (.int .i64 (0))))]⟩), (.pl, ⟨(some 29), (some (26, true)), .mv (.t 2)⟩), (.pl, ⟨(some 30), (some (26, true)), .slc 1 (.t 29) none (some (.c (.int .i64 (1))))⟩), (.pl, ⟨(some 31), (some (26, true)), .call (.c (.fn K.closed_Closed [] [])) [(.t 27), (.t 28), (.t 30)]⟩), (.pl, ⟨(some 32), none, .pick (.t 26) (.t 31) (.c (.bool false))⟩), (.pl, ⟨(some 33), none, .mv (.t 32)⟩), (.pl, ⟨(some 34), (some (33, true)), .load true 4 (.t 1)⟩), (.pl, ⟨(some 35), (some (33, true)), .mv (.t 2)⟩), (.pl, ⟨(some 36), (some (33, true)), .call (.c (.fn K.closed_Closed [] [])) [(.t 34), (.c (.sl 0 1 [])), (.t 35)]⟩), (.pl, ⟨(some 37), (some (33, true)), .un .not (.t 36)⟩), (.pl, ⟨(some 38), none, .pick (.t 33) (.t 37) (.c (.bool false))⟩), (.pl, ⟨(some 39), none, .mv (.t 38)⟩), (.pl, ⟨(some 40), (some (39, true)), .load true 4 (.t 1)⟩), (.pl, ⟨(some 41), (some (39, true)), .bsl 1 false [(.int .i64 (0))] 1 [(0, (.c (.int .i64 (0))))]⟩), (.pl, ⟨(some 42), (some (39, true)), .mv (.t 2)⟩), (.pl, ⟨(some 43), (some (39, true)), .bsl 1 false [(.int .i64 (0))] 1 [(0, (.c (.int .i64 (0))))]⟩), (.pl, ⟨(some 44), (some (39, true)), .call (.c (.fn K.closed_Alone [] [])) [(.t 40), (.t 41), (.t 42), (.t 43)]⟩), (.pl, ⟨(some 45), none, .pick (.t 39) (.t 44) (.c (.bool false))⟩), (.pl, ⟨(some 46), none, .mv (.t 45)⟩), (.pl, ⟨(some 47), (some (46, true)), .load true 4 (.t 1)⟩), (.pl, ⟨(some 48), (some (46, true)), .bsl 1 false [(.int .i64 (0))] 1 [(0, (.c (.int .i64 (0))))]⟩), (.pl, ⟨(some 49), (some (46, true)), .mv (.t 2)⟩), (.pl, ⟨(some 50), (some (46, true)), .call (.c (.fn K.closed_Alone [] [])) [(.t 47), (.t 48), (.t 49), (.c (.sl 0 1 []))]⟩), (.pl, ⟨(some 51), (some (46, true)), .un .not (.t 50)⟩), (.pl, ⟨(some 52), none, .pick (.t 46) (.t 51) (.c (.bool false))⟩), (.pl, ⟨(some 53), none, .mv (.t 52)⟩), (.pl, ⟨(some 54), (some (53, true)), .load true 4 (.t 1)⟩), (.pl, ⟨(some 55), (some (53, true)), .bsl 1 false [(.int .i64 (0))] 1 [(0, (.c (.int .i64 (0))))]⟩), (.pl, ⟨(some 56), (some (53, true)), .mv (.t 2)⟩), (.pl, ⟨(some 57), (some (53, true)), .slc 1 (.t 56) none (some (.c (.int .i64 (1))))⟩), (.pl, ⟨(some 58), (some (53, true)), .bsl 1 false [(.int .i64 (0))] 1 [(0, (.c (.int .i64 (0))))]⟩), (.pl, ⟨(some 59), (some (53, true)), .call (.c (.fn K.closed_Alone [] [])) [(.t 54), (.t 55), (.t 57), (.t 58)]⟩), (.pl, ⟨(some 60), (some (53, true)), .un .not (.t 59)⟩), (.pl, ⟨(some 61), none, .pick (.t 53) (.t 60) (.c (.bool false))⟩), (.pl, ⟨(some 0), none, .mv (.t 61)⟩)]) .ret)))))))⟩
def A.probatelaw19_large.L0 : AC := .post (.seq (.reg [⟨(some 11), none, .bin .lss (.t 10) (.t 9)⟩])
  (.keep [8, 9, 10, 11] (.seq (.cond (.t 11) .skip (.exit 0))
  (.keep [8, 9, 10] (.seq (.block 1 (.seq (.reg [⟨(some 12), none, .ia 1 (.t 8) (.t 10)⟩, ⟨(some 13), none, .load false 1 (.t 12)⟩, ⟨(some 4), none, .mv (.t 13)⟩])
  (.keep [4, 8, 9, 10] (.seq (.reg [⟨(some 14), none, .mv (.t 4)⟩, ⟨(some 15), none, .len false (.t 14)⟩, ⟨(some 16), none, .bin .gtr (.t 15) (.c (.int .i64 (200)))⟩])
  (.keep [8, 9, 10, 16] (.cond (.t 16) (.seq (.reg [⟨(some 2), none, .mv (.c (.bool true))⟩]) .ret) .skip))))))
  (.keep [8, 9, 10] (.reg [⟨(some 17), none, .bin .add (.t 10) (.c (.int .i64 (1)))⟩, ⟨(some 10), none, .mv (.t 17)⟩]))))))) [8, 9, 10]
def A.probatelaw19_large : AFn := ⟨18, [(2, none)], (.seq (.reg [⟨(some 2), none, .mv (.c (.bool false))⟩])
  (.keep [0] (.seq (.seq (.reg [⟨(some 5), none, .mv (.t 0)⟩, ⟨(some 6), none, .len false (.t 5)⟩, ⟨(some 7), none, .bin .gtr (.t 6) (.c (.int .i64 (30)))⟩])
  (.keep [0, 7] (.cond (.t 7) (.seq (.reg [⟨(some 2), none, .mv (.c (.bool true))⟩]) .ret) .skip)))
  (.keep [0] (.seq (.seq (.reg [⟨(some 8), none, .mv (.t 0)⟩, ⟨(some 9), none, .len false (.t 8)⟩, ⟨(some 10), none, .mv (.c (.int .i64 (0)))⟩])
  (.keep [8, 9, 10] (.block 0 (.loop A.probatelaw19_large.L0))))
  (.keep [] (.seq (.reg [⟨(some 2), none, .mv (.c (.bool false))⟩]) .ret)))))))⟩
def A.probateref19_Closed.L1 : AC := .post (.seq (.seq (.reg [⟨(some 39), none, .mv (.t 8)⟩, ⟨(some 40), none, .mv (.t 2)⟩, ⟨(some 41), none, .mv (.t 7)⟩, ⟨(some 42), none, .ia 1 (.t 40) (.t 41)⟩, ⟨(some 43), none, .load false 1 (.t 42)⟩, ⟨(some 44), none, .len false (.t 43)⟩, ⟨(some 45), none, .bin .lss (.t 39) (.t 44)⟩])
  (.keep [1, 2, 3, 7, 8, 45] (.cond (.t 45) .skip (.exit 2))))
  (.keep [1, 2, 3, 7, 8] (.seq (.block 3 (.seq (.reg [⟨(some 48), none, .mv (.t 2)⟩, ⟨(some 49), none, .mv (.t 7)⟩, ⟨(some 50), none, .ia 1 (.t 48) (.t 49)⟩, ⟨(some 51), none, .load false 1 (.t 50)⟩, ⟨(some 52), none, .mv (.t 8)⟩, ⟨(some 53), none, .ia 3 (.t 51) (.t 52)⟩, ⟨(some 54), none, .load true 3 (.t 53)⟩, ⟨(some 9), none, .alloc [(.int .i64 (0)), (.int .i64 (0)), (.int .i64 (0))]⟩, ⟨none, none, .store 3 (.t 9) (.t 54)⟩])
  (.keep [1, 2, 3, 7, 8, 9] (.seq (.draw [(.pl, ⟨(some 55), none, .fa 0 (.t 9)⟩), (.pl, ⟨(some 56), none, .load false 1 (.t 55)⟩), (.pl, ⟨(some 57), none, .bin .lss (.t 56) (.c (.int .i64 (0)))⟩), (.pl, ⟨(some 58), none, .mv (.t 57)⟩), (.pl, ⟨(some 59), (some (58, false)), .fa 0 (.t 9)⟩), (.pl, ⟨(some 60), (some (58, false)), .load false 1 (.t 59)⟩), (.pl, ⟨(some 61), (some (58, false)), .fa 3 (.t 3)⟩), (.pl, ⟨(some 62), (some (58, false)), .load false 1 (.t 61)⟩), (.pl, ⟨(some 63), (some (58, false)), .len false (.t 62)⟩), (.pl, ⟨(some 64), (some (58, false)), .bin .geq (.t 60) (.t 63)⟩), (.pl, ⟨(some 65), none, .pick (.t 58) (.c (.bool true)) (.t 64)⟩), (.pl, ⟨(some 66), none, .mv (.t 65)⟩), (.pl, ⟨(some 67), (some (66, false)), .fa 1 (.t 9)⟩), (.pl, ⟨(some 68), (some (66, false)), .load false 1 (.t 67)⟩), (.pl, ⟨(some 69), (some (66, false)), .bin .lss (.t 68) (.c (.int .i64 (0)))⟩), (.pl, ⟨(some 70), none, .pick (.t 66) (.c (.bool true)) (.t 69)⟩), (.pl, ⟨(some 71), none, .mv (.t 70)⟩), (.pl, ⟨(some 72), (some (71, false)), .fa 1 (.t 9)⟩), (.pl, ⟨(some 73), (some (71, false)), .load false 1 (.t 72)⟩), (.pl, ⟨(some 74), (some (71, false)), .fa 3 (.t 3)⟩), (.pl, ⟨(some 75), (some (71, false)), .load false 1 (.t 74)⟩), (.pl, ⟨(some 76), (some (71, false)), .fa 0 (.t 9)⟩), (.pl, ⟨(some 77), (some (71, false)), .load false 1 (.t 76)⟩), (.pl, ⟨(some 78), (some (71, false)), .ia 2 (.t 75) (.t 77)⟩), (.pl, ⟨(some 79), (some (71, false)), .fa 1 (.t 78)⟩), (.pl, ⟨(some 80), (some (71, false)), .load false 1 (.t 79)⟩), (.pl, ⟨(some 81), (some (71, false)), .len false (.t 80)⟩), (.pl, ⟨(some 82), (some (71, false)), .bin .gtr (.t 73) (.t 81)⟩), (.pl, ⟨(some 83), none, .pick (.t 71) (.c (.bool true)) (.t 82)⟩), (.pl, ⟨(some 84), none, .mv (.t 83)⟩), (.pl, ⟨(some 85), (some (84, false)), .fa 2 (.t 9)⟩), (.pl, ⟨(some 86), (some (84, false)), .load false 1 (.t 85)⟩), (.pl, ⟨(some 87), (some (84, false)), .bin .lss (.t 86) (.c (.int .i64 (0)))⟩), (.pl, ⟨(some 88), none, .pick (.t 84) (.c (.bool true)) (.t 87)⟩), (.pl, ⟨(some 89), none, .mv (.t 88)⟩), (.pl, ⟨(some 90), (some (89, false)), .fa 2 (.t 9)⟩), (.pl, ⟨(some 91), (some (89, false)), .load false 1 (.t 90)⟩), (.pl, ⟨(some 92), (some (89, false)), .mv (.t 7)⟩), (.pl, ⟨(some 93), (some (89, false)), .bin .gtr (.t 91) (.t 92)⟩), (.pl, ⟨(some 94), none, .pick (.t 89) (.c (.bool true)) (.t 93)⟩)])
  (.keep [1, 2, 3, 7, 8, 94] (.cond (.t 94) (.seq (.reg [⟨(some 6), none, .mv (.c (.bool false))⟩]) .ret) .skip))))))
  (.keep [1, 2, 3, 7, 8] (.reg [⟨(some 46), none, .mv (.t 8)⟩, ⟨(some 47), none, .bin .add (.t 46) (.c (.int .i64 (1)))⟩, ⟨(some 8), none, .mv (.t 47)⟩]))))) [1, 2, 3, 7, 8]
def A.probateref19_Closed.L0 : AC := .post (.seq (.seq (.reg [⟨(some 33), none, .mv (.t 7)⟩, ⟨(some 34), none, .mv (.t 2)⟩, ⟨(some 35), none, .len false (.t 34)⟩, ⟨(some 36), none, .bin .lss (.t 33) (.t 35)⟩])
  (.keep [1, 2, 3, 7, 36] (.cond (.t 36) .skip (.exit 0))))
  (.keep [1, 2, 3, 7] (.seq (.block 1 (.seq (.reg [⟨(some 8), none, .mv (.c (.int .i64 (0)))⟩])
  (.keep [1, 2, 3, 7, 8] (.block 2 (.loop A.probateref19_Closed.L1)))))
  (.keep [1, 2, 3, 7] (.reg [⟨(some 37), none, .mv (.t 7)⟩, ⟨(some 38), none, .bin .add (.t 37) (.c (.int .i64 (1)))⟩, ⟨(some 7), none, .mv (.t 38)⟩]))))) [1, 2, 3, 7]
def A.probateref19_Closed.L2 : AC := .post (.seq (.seq (.reg [⟨(some 99), none, .mv (.t 11)⟩, ⟨(some 100), none, .mv (.t 10)⟩, ⟨(some 101), none, .len false (.t 100)⟩, ⟨(some 102), none, .bin .lss (.t 99) (.t 101)⟩])
  (.keep [1, 2, 3, 10, 11, 102] (.cond (.t 102) .skip (.exit 4))))
  (.keep [1, 2, 3, 10, 11] (.seq (.block 5 (.seq (.draw [(.pl, ⟨(some 105), none, .mv (.t 2)⟩), (.pl, ⟨(some 106), none, .ia 1 (.t 105) (.c (.int .i64 (0)))⟩), (.pl, ⟨(some 107), none, .load false 1 (.t 106)⟩), (.pl, ⟨(some 108), none, .mv (.t 10)⟩), (.pl, ⟨(some 109), none, .mv (.t 11)⟩), (.pl, ⟨(some 110), none, .ia 1 (.t 108) (.t 109)⟩), (.pl, ⟨(some 111), none, .load false 1 (.t 110)⟩), (.pl, ⟨(some 112), none, .bld [(.int .i64 (0)), (.int .i64 (0)), (.int .i64 (0))] [(0, 1, (.t 111))]⟩), (.pl, ⟨(some 113), none, .call (.c (.fn K.probateref19_has [] [])) [(.t 107), (.t 112)]⟩), (.pl, ⟨(some 114), none, .un .not (.t 113)⟩)])
  (.keep [1, 2, 3, 10, 11, 114] (.cond (.t 114) (.seq (.reg [⟨(some 6), none, .mv (.c (.bool false))⟩]) .ret) .skip))))
  (.keep [1, 2, 3, 10, 11] (.reg [⟨(some 103), none, .mv (.t 11)⟩, ⟨(some 104), none, .bin .add (.t 103) (.c (.int .i64 (1)))⟩, ⟨(some 11), none, .mv (.t 104)⟩]))))) [1, 2, 3, 10, 11]
def A.probateref19_Closed.L5 : AC := .post (.seq (.seq (.reg [⟨(some 145), none, .mv (.t 16)⟩, ⟨(some 146), none, .mv (.t 14)⟩, ⟨(some 147), none, .len false (.t 146)⟩, ⟨(some 148), none, .bin .lss (.t 145) (.t 147)⟩])
  (.keep [1, 2, 3, 12, 13, 14, 15, 16, 148] (.cond (.t 148) .skip (.exit 10))))
  (.keep [1, 2, 3, 12, 13, 14, 15, 16] (.seq (.block 11 (.seq (.draw [(.pl, ⟨(some 151), none, .mv (.t 15)⟩), (.pl, ⟨(some 152), none, .mv (.t 16)⟩), (.pl, ⟨(some 153), none, .ia 1 (.t 151) (.t 152)⟩), (.pl, ⟨(some 154), none, .load false 1 (.t 153)⟩), (.pl, ⟨(some 155), none, .mv (.t 2)⟩), (.pl, ⟨(some 156), none, .len false (.t 155)⟩), (.pl, ⟨(some 157), none, .bin .lss (.t 154) (.t 156)⟩), (.pl, ⟨(some 158), none, .mv (.t 157)⟩), (.pl, ⟨(some 159), (some (158, true)), .mv (.t 2)⟩), (.pl, ⟨(some 160), (some (158, true)), .mv (.t 15)⟩), (.pl, ⟨(some 161), (some (158, true)), .mv (.t 16)⟩), (.pl, ⟨(some 162), (some (158, true)), .ia 1 (.t 160) (.t 161)⟩), (.pl, ⟨(some 163), (some (158, true)), .load false 1 (.t 162)⟩), (.pl, ⟨(some 164), (some (158, true)), .ia 1 (.t 159) (.t 163)⟩), (.pl, ⟨(some 165), (some (158, true)), .load false 1 (.t 164)⟩), (.pl, ⟨(some 166), (some (158, true)), .mv (.t 14)⟩), (.pl, ⟨(some 167), (some (158, true)), .mv (.t 16)⟩), (.pl, ⟨(some 168), (some (158, true)), .ia 3 (.t 166) (.t 167)⟩), (.pl, ⟨(some 169), (some (158, true)), .load true 3 (.t 168)⟩), (.pl, ⟨(some 170), (some (158, true)), .call (.c (.fn K.probateref19_has [] [])) [(.t 165), (.t 169)]⟩), (.pl, ⟨(some 171), (some (158, true)), .un .not (.t 170)⟩), (.pl, ⟨(some 172), none, .pick (.t 158) (.t 171) (.c (.bool false))⟩)])
  (.keep [1, 2, 3, 12, 13, 14, 15, 16, 172] (.cond (.t 172) (.seq (.reg [⟨(some 6), none, .mv (.c (.bool false))⟩]) .ret) .skip))))
  (.keep [1, 2, 3, 12, 13, 14, 15, 16] (.reg [⟨(some 149), none, .mv (.t 16)⟩, ⟨(some 150), none, .bin .add (.t 149) (.c (.int .i64 (1)))⟩, ⟨(some 16), none, .mv (.t 150)⟩]))))) [1, 2, 3, 12, 13, 14, 15, 16]
def A.probateref19_Closed.L4 : AC := .post (.seq (.seq (.reg [⟨(some 121), none, .mv (.t 13)⟩, ⟨(some 122), none, .mv (.t 2)⟩, ⟨(some 123), none, .mv (.t 12)⟩, ⟨(some 124), none, .ia 1 (.t 122) (.t 123)⟩, ⟨(some 125), none, .load false 1 (.t 124)⟩, ⟨(some 126), none, .len false (.t 125)⟩, ⟨(some 127), none, .bin .lss (.t 121) (.t 126)⟩])
  (.keep [1, 2, 3, 12, 13, 127] (.cond (.t 127) .skip (.exit 8))))
  (.keep [1, 2, 3, 12, 13] (.seq (.block 9 (.seq (.draw [(.pl, ⟨(some 131), none, .load true 4 (.t 3)⟩), (.pl, ⟨(some 132), none, .mv (.t 1)⟩), (.pl, ⟨(some 133), none, .mv (.t 2)⟩), (.pl, ⟨(some 134), none, .mv (.t 2)⟩), (.pl, ⟨(some 135), none, .mv (.t 12)⟩), (.pl, ⟨(some 136), none, .ia 1 (.t 134) (.t 135)⟩), (.pl, ⟨(some 137), none, .load false 1 (.t 136)⟩), (.pl, ⟨(some 138), none, .mv (.t 13)⟩), (.pl, ⟨(some 139), none, .ia 3 (.t 137) (.t 138)⟩), (.pl, ⟨(some 140), none, .load true 3 (.t 139)⟩), (.pl, ⟨(some 141), none, .mv (.t 12)⟩), (.pl, ⟨(some 142), none, .call (.c (.fn K.probateref18_Adds [] [])) [(.t 131), (.t 132), (.t 133), (.t 140), (.t 141)]⟩), (.pl, ⟨(some 130), none, .mv (.t 142)⟩), (.pl, ⟨(some 143), none, .ext (.t 130) 0⟩), (.pl, ⟨(some 144), none, .ext (.t 130) 1⟩), (.pl, ⟨(some 14), none, .mv (.t 143)⟩), (.pl, ⟨(some 15), none, .mv (.t 144)⟩)])
  (.keep [1, 2, 3, 12, 13, 14, 15] (.seq (.reg [⟨(some 16), none, .mv (.c (.int .i64 (0)))⟩])
  (.keep [1, 2, 3, 12, 13, 14, 15, 16] (.block 10 (.loop A.probateref19_Closed.L5)))))))
  (.keep [1, 2, 3, 12, 13] (.reg [⟨(some 128), none, .mv (.t 13)⟩, ⟨(some 129), none, .bin .add (.t 128) (.c (.int .i64 (1)))⟩, ⟨(some 13), none, .mv (.t 129)⟩]))))) [1, 2, 3, 12, 13]
def A.probateref19_Closed.L3 : AC := .post (.seq (.seq (.reg [⟨(some 115), none, .mv (.t 12)⟩, ⟨(some 116), none, .mv (.t 2)⟩, ⟨(some 117), none, .len false (.t 116)⟩, ⟨(some 118), none, .bin .lss (.t 115) (.t 117)⟩])
  (.keep [1, 2, 3, 12, 118] (.cond (.t 118) .skip (.exit 6))))
  (.keep [1, 2, 3, 12] (.seq (.block 7 (.seq (.reg [⟨(some 13), none, .mv (.c (.int .i64 (0)))⟩])
  (.keep [1, 2, 3, 12, 13] (.block 8 (.loop A.probateref19_Closed.L4)))))
  (.keep [1, 2, 3, 12] (.reg [⟨(some 119), none, .mv (.t 12)⟩, ⟨(some 120), none, .bin .add (.t 119) (.c (.int .i64 (1)))⟩, ⟨(some 12), none, .mv (.t 120)⟩]))))) [1, 2, 3, 12]
def A.probateref19_Closed : AFn := ⟨173, [(6, none)], (.seq (.reg [⟨(some 3), none, .box (.t 0)⟩, ⟨(some 6), none, .mv (.c (.bool false))⟩])
  (.keep [1, 2, 3] (.seq (.seq (.reg [⟨(some 17), none, .load true 4 (.t 3)⟩, ⟨(some 18), none, .call (.c (.fn K.probateref03_Right [] [])) [(.t 17)]⟩, ⟨(some 19), none, .un .not (.t 18)⟩, ⟨(some 20), none, .mv (.t 19)⟩, ⟨(some 21), (some (20, false)), .mv (.t 2)⟩, ⟨(some 22), (some (20, false)), .len false (.t 21)⟩, ⟨(some 23), (some (20, false)), .bin .lss (.t 22) (.c (.int .i64 (1)))⟩, ⟨(some 24), none, .pick (.t 20) (.c (.bool true)) (.t 23)⟩, ⟨(some 25), none, .mv (.t 24)⟩, ⟨(some 26), (some (25, false)), .mv (.t 2)⟩, ⟨(some 27), (some (25, false)), .len false (.t 26)⟩, ⟨(some 28), (some (25, false)), .mv (.t 1)⟩, ⟨(some 29), (some (25, false)), .len false (.t 28)⟩, ⟨(some 30), (some (25, false)), .bin .add (.t 29) (.c (.int .i64 (1)))⟩, ⟨(some 31), (some (25, false)), .bin .gtr (.t 27) (.t 30)⟩, ⟨(some 32), none, .pick (.t 25) (.c (.bool true)) (.t 31)⟩])
  (.keep [1, 2, 3, 32] (.cond (.t 32) (.seq (.reg [⟨(some 6), none, .mv (.c (.bool false))⟩]) .ret) .skip)))
  (.keep [1, 2, 3] (.seq (.seq (.reg [⟨(some 7), none, .mv (.c (.int .i64 (0)))⟩])
  (.keep [1, 2, 3, 7] (.block 0 (.loop A.probateref19_Closed.L0))))
  (.keep [1, 2, 3] (.seq (.reg [⟨(some 95), none, .load true 4 (.t 3)⟩, ⟨(some 96), none, .fa 2 (.t 3)⟩, ⟨(some 97), none, .load false 1 (.t 96)⟩, ⟨(some 98), none, .call (.c (.fn K.probateref03_Of [] [])) [(.t 95), (.t 97)]⟩, ⟨(some 10), none, .mv (.t 98)⟩])
  (.keep [1, 2, 3, 10] (.seq (.seq (.reg [⟨(some 11), none, .mv (.c (.int .i64 (0)))⟩])
  (.keep [1, 2, 3, 10, 11] (.block 4 (.loop A.probateref19_Closed.L2))))
  (.keep [1, 2, 3] (.seq (.seq (.reg [⟨(some 12), none, .mv (.c (.int .i64 (0)))⟩])
  (.keep [1, 2, 3, 12] (.block 6 (.loop A.probateref19_Closed.L3))))
  (.keep [] (.seq (.reg [⟨(some 6), none, .mv (.c (.bool true))⟩]) .ret)))))))))))))⟩
def A.probateref19_Alone.L2 : AC := .post (.seq (.seq (.reg [⟨(some 109), none, .mv (.t 19)⟩, ⟨(some 110), none, .mv (.t 18)⟩, ⟨(some 111), none, .bin .leq (.t 109) (.t 110)⟩])
  (.keep [1, 2, 4, 11, 13, 14, 15, 16, 17, 18, 19, 111] (.cond (.t 111) .skip (.exit 4))))
  (.keep [1, 2, 4, 11, 13, 14, 15, 16, 17, 18, 19] (.seq (.block 5 (.seq (.seq (.draw [(.pl, ⟨(some 114), none, .mv (.t 19)⟩), (.pl, ⟨(some 115), none, .mv (.t 15)⟩), (.pl, ⟨(some 116), none, .mv (.t 17)⟩), (.pl, ⟨(some 117), none, .ia 1 (.t 115) (.t 116)⟩), (.pl, ⟨(some 118), none, .load false 1 (.t 117)⟩), (.pl, ⟨(some 119), none, .bin .eql (.t 114) (.t 118)⟩), (.pl, ⟨(some 120), none, .mv (.t 119)⟩), (.pl, ⟨(some 121), (some (120, false)), .mv (.t 2)⟩), (.pl, ⟨(some 122), (some (120, false)), .mv (.t 19)⟩), (.pl, ⟨(some 123), (some (120, false)), .ia 1 (.t 121) (.t 122)⟩), (.pl, ⟨(some 124), (some (120, false)), .load false 1 (.t 123)⟩), (.pl, ⟨(some 125), (some (120, false)), .mv (.t 11)⟩), (.pl, ⟨(some 126), (some (120, false)), .mv (.t 13)⟩), (.pl, ⟨(some 127), (some (120, false)), .ia 2 (.t 125) (.t 126)⟩), (.pl, ⟨(some 128), (some (120, false)), .fa 0 (.t 127)⟩), (.pl, ⟨(some 129), (some (120, false)), .load false 1 (.t 128)⟩), (.pl, ⟨(some 130), (some (120, false)), .mv (.t 17)⟩), (.pl, ⟨(some 131), (some (120, false)), .mv (.t 16)⟩), (.pl, ⟨(some 132), (some (120, false)), .bld [(.int .i64 (0)), (.int .i64 (0)), (.int .i64 (0))] [(0, 1, (.t 129)), (1, 1, (.t 130)), (2, 1, (.t 131))]⟩), (.pl, ⟨(some 133), (some (120, false)), .call (.c (.fn K.probateref19_has [] [])) [(.t 124), (.t 132)]⟩), (.pl, ⟨(some 134), (some (120, false)), .un .not (.t 133)⟩), (.pl, ⟨(some 135), none, .pick (.t 120) (.c (.bool true)) (.t 134)⟩)])
  (.keep [1, 2, 4, 11, 13, 14, 15, 16, 17, 18, 19, 135] (.cond (.t 135) (.exit 5) .skip)))
  (.keep [1, 2, 4, 11, 13, 14, 15, 16, 17, 18, 19] (.seq (.reg [⟨(some 136), none, .fa 1 (.t 14)⟩, ⟨(some 137), none, .load false 1 (.t 136)⟩, ⟨(some 138), none, .mv (.t 17)⟩, ⟨(some 139), none, .ia 2 (.t 137) (.t 138)⟩, ⟨(some 140), none, .load true 2 (.t 139)⟩, ⟨(some 20), none, .alloc [(.bool false), (.int .i64 (0))]⟩, ⟨none, none, .store 2 (.t 20) (.t 140)⟩])
  (.keep [1, 2, 4, 11, 13, 14, 15, 16, 17, 18, 19, 20] (.seq (.draw [(.pl, ⟨(some 141), none, .fa 0 (.t 20)⟩), (.pl, ⟨(some 142), none, .load false 1 (.t 141)⟩), (.pl, ⟨(some 143), none, .mv (.t 142)⟩), (.pl, ⟨(some 144), (some (143, true)), .load true 4 (.t 4)⟩), (.pl, ⟨(some 145), (some (143, true)), .mv (.t 2)⟩), (.pl, ⟨(some 146), (some (143, true)), .mv (.t 18)⟩), (.pl, ⟨(some 147), (some (143, true)), .ia 1 (.t 145) (.t 146)⟩), (.pl, ⟨(some 148), (some (143, true)), .load false 1 (.t 147)⟩), (.pl, ⟨(some 149), (some (143, true)), .fa 1 (.t 20)⟩), (.pl, ⟨(some 150), (some (143, true)), .load false 1 (.t 149)⟩), (.pl, ⟨(some 151), (some (143, true)), .mv (.t 19)⟩), (.pl, ⟨(some 152), (some (143, true)), .call (.c (.fn K.probateref19_whole [] [])) [(.t 144), (.t 148), (.t 150), (.t 151), (.c (.int .i64 (-1)))]⟩), (.pl, ⟨(some 153), none, .pick (.t 143) (.t 152) (.c (.bool false))⟩), (.pl, ⟨(some 154), none, .mv (.t 153)⟩), (.pl, ⟨(some 155), (some (154, false)), .fa 0 (.t 20)⟩), (.pl, ⟨(some 156), (some (154, false)), .load false 1 (.t 155)⟩), (.pl, ⟨(some 157), (some (154, false)), .un .not (.t 156)⟩), (.pl, ⟨(some 158), (some (154, false)), .mv (.t 157)⟩), (.pl, ⟨(some 159), (some (158, true)), .mv (.t 18)⟩), (.pl, ⟨(some 160), (some (158, true)), .mv (.t 19)⟩), (.pl, ⟨(some 161), (some (158, true)), .bin .add (.t 160) (.c (.int .i64 (1)))⟩), (.pl, ⟨(some 162), (some (158, true)), .bin .eql (.t 159) (.t 161)⟩), (.pl, ⟨(some 163), (some (154, false)), .pick (.t 158) (.t 162) (.c (.bool false))⟩), (.pl, ⟨(some 164), (some (154, false)), .mv (.t 163)⟩), (.pl, ⟨(some 165), (some (164, true)), .mv (.t 1)⟩), (.pl, ⟨(some 166), (some (164, true)), .mv (.t 19)⟩), (.pl, ⟨(some 167), (some (164, true)), .ia 1 (.t 165) (.t 166)⟩), (.pl, ⟨(some 168), (some (164, true)), .load false 1 (.t 167)⟩), (.pl, ⟨(some 169), (some (164, true)), .fa 1 (.t 20)⟩), (.pl, ⟨(some 170), (some (164, true)), .load false 1 (.t 169)⟩), (.pl, ⟨(some 171), (some (164, true)), .bin .eql (.t 168) (.t 170)⟩), (.pl, ⟨(some 172), (some (154, false)), .pick (.t 164) (.t 171) (.c (.bool false))⟩), (.pl, ⟨(some 173), none, .pick (.t 154) (.c (.bool true)) (.t 172)⟩)])
  (.keep [1, 2, 4, 11, 13, 14, 15, 16, 17, 18, 19, 173] (.cond (.t 173) (.seq (.reg [⟨(some 8), none, .mv (.c (.bool false))⟩]) .ret) .skip))))))))
  (.keep [1, 2, 4, 11, 13, 14, 15, 16, 17, 18, 19] (.reg [⟨(some 112), none, .mv (.t 19)⟩, ⟨(some 113), none, .bin .add (.t 112) (.c (.int .i64 (1)))⟩, ⟨(some 19), none, .mv (.t 113)⟩]))))) [1, 2, 4, 11, 13, 14, 15, 16, 17, 18, 19]
def A.probateref19_Alone.L1 : AC := .post (.seq (.seq (.reg [⟨(some 96), none, .mv (.t 17)⟩, ⟨(some 97), none, .fa 1 (.t 14)⟩, ⟨(some 98), none, .load false 1 (.t 97)⟩, ⟨(some 99), none, .len false (.t 98)⟩, ⟨(some 100), none, .bin .lss (.t 96) (.t 99)⟩])
  (.keep [1, 2, 4, 11, 13, 14, 15, 16, 17, 100] (.cond (.t 100) .skip (.exit 2))))
  (.keep [1, 2, 4, 11, 13, 14, 15, 16, 17] (.seq (.block 3 (.seq (.reg [⟨(some 103), none, .mv (.t 15)⟩, ⟨(some 104), none, .mv (.t 17)⟩, ⟨(some 105), none, .bin .add (.t 104) (.c (.int .i64 (1)))⟩, ⟨(some 106), none, .ia 1 (.t 103) (.t 105)⟩, ⟨(some 107), none, .load false 1 (.t 106)⟩, ⟨(some 18), none, .mv (.t 107)⟩])
  (.keep [1, 2, 4, 11, 13, 14, 15, 16, 17, 18] (.seq (.reg [⟨(some 108), none, .mv (.t 16)⟩, ⟨(some 19), none, .mv (.t 108)⟩])
  (.keep [1, 2, 4, 11, 13, 14, 15, 16, 17, 18, 19] (.block 4 (.loop A.probateref19_Alone.L2)))))))
  (.keep [1, 2, 4, 11, 13, 14, 15, 16, 17] (.reg [⟨(some 101), none, .mv (.t 17)⟩, ⟨(some 102), none, .bin .add (.t 101) (.c (.int .i64 (1)))⟩, ⟨(some 17), none, .mv (.t 102)⟩]))))) [1, 2, 4, 11, 13, 14, 15, 16, 17]
def A.probateref19_Alone.L0 : AC := .post (.seq (.seq (.reg [⟨(some 54), none, .mv (.t 13)⟩, ⟨(some 55), none, .mv (.t 11)⟩, ⟨(some 56), none, .len false (.t 55)⟩, ⟨(some 57), none, .bin .lss (.t 54) (.t 56)⟩])
  (.keep [1, 2, 4, 11, 13, 57] (.cond (.t 57) .skip (.exit 0))))
  (.keep [1, 2, 4, 11, 13] (.seq (.block 1 (.seq (.draw [(.pl, ⟨(some 60), none, .fa 3 (.t 4)⟩), (.fl, ⟨(some 61), none, .load false 1 (.t 60)⟩), (.pl, ⟨(some 62), none, .mv (.t 11)⟩), (.pl, ⟨(some 63), none, .mv (.t 13)⟩), (.pl, ⟨(some 64), none, .ia 2 (.t 62) (.t 63)⟩), (.pl, ⟨(some 65), none, .fa 0 (.t 64)⟩), (.fl, ⟨(some 66), none, .load false 1 (.t 65)⟩), (.pl, ⟨(some 67), none, .ia 2 (.t 61) (.t 66)⟩), (.fl, ⟨(some 68), none, .load true 2 (.t 67)⟩), (.eff, ⟨(some 14), none, .alloc [(.int .i64 (0)), (.sl 0 1 [])]⟩), (.efo, ⟨none, none, .store 2 (.t 14) (.t 68)⟩)])
  (.keep [1, 2, 4, 11, 13, 14] (.seq (.reg [⟨(some 69), none, .mv (.t 11)⟩, ⟨(some 70), none, .mv (.t 13)⟩, ⟨(some 71), none, .ia 2 (.t 69) (.t 70)⟩, ⟨(some 72), none, .fa 1 (.t 71)⟩, ⟨(some 73), none, .load false 1 (.t 72)⟩, ⟨(some 15), none, .mv (.t 73)⟩])
  (.keep [1, 2, 4, 11, 13, 14, 15] (.seq (.reg [⟨(some 74), none, .mv (.t 15)⟩, ⟨(some 75), none, .ia 1 (.t 74) (.c (.int .i64 (0)))⟩, ⟨(some 76), none, .load false 1 (.t 75)⟩, ⟨(some 16), none, .mv (.t 76)⟩])
  (.keep [1, 2, 4, 11, 13, 14, 15, 16] (.seq (.seq (.draw [(.pl, ⟨(some 77), none, .load true 4 (.t 4)⟩), (.pl, ⟨(some 78), none, .mv (.t 2)⟩), (.pl, ⟨(some 79), none, .mv (.t 15)⟩), (.pl, ⟨(some 80), none, .mv (.t 15)⟩), (.pl, ⟨(some 81), none, .len false (.t 80)⟩), (.pl, ⟨(some 82), none, .bin .sub (.t 81) (.c (.int .i64 (1)))⟩), (.pl, ⟨(some 83), none, .ia 1 (.t 79) (.t 82)⟩), (.pl, ⟨(some 84), none, .load false 1 (.t 83)⟩), (.pl, ⟨(some 85), none, .ia 1 (.t 78) (.t 84)⟩), (.pl, ⟨(some 86), none, .load false 1 (.t 85)⟩), (.pl, ⟨(some 87), none, .fa 0 (.t 14)⟩), (.pl, ⟨(some 88), none, .load false 1 (.t 87)⟩), (.pl, ⟨(some 89), none, .mv (.t 16)⟩), (.pl, ⟨(some 90), none, .mv (.t 11)⟩), (.pl, ⟨(some 91), none, .mv (.t 13)⟩), (.pl, ⟨(some 92), none, .ia 2 (.t 90) (.t 91)⟩), (.pl, ⟨(some 93), none, .fa 0 (.t 92)⟩), (.pl, ⟨(some 94), none, .load false 1 (.t 93)⟩), (.pl, ⟨(some 95), none, .call (.c (.fn K.probateref19_whole [] [])) [(.t 77), (.t 86), (.t 88), (.t 89), (.t 94)]⟩)])
  (.keep [1, 2, 4, 11, 13, 14, 15, 16, 95] (.cond (.t 95) (.seq (.reg [⟨(some 8), none, .mv (.c (.bool false))⟩]) .ret) .skip)))
  (.keep [1, 2, 4, 11, 13, 14, 15, 16] (.seq (.reg [⟨(some 17), none, .mv (.c (.int .i64 (0)))⟩])
  (.keep [1, 2, 4, 11, 13, 14, 15, 16, 17] (.block 2 (.loop A.probateref19_Alone.L1)))))))))))))
  (.keep [1, 2, 4, 11, 13] (.reg [⟨(some 58), none, .mv (.t 13)⟩, ⟨(some 59), none, .bin .add (.t 58) (.c (.int .i64 (1)))⟩, ⟨(some 13), none, .mv (.t 59)⟩]))))) [1, 2, 4, 11, 13]
def A.probateref19_Alone : AFn := ⟨174, [(8, none)], (.seq (.reg [⟨(some 4), none, .box (.t 0)⟩, ⟨(some 8), none, .mv (.c (.bool false))⟩])
  (.keep [1, 2, 3, 4] (.seq (.seq (.reg [⟨(some 21), none, .mv (.t 2)⟩, ⟨(some 22), none, .len false (.t 21)⟩, ⟨(some 23), none, .mv (.t 1)⟩, ⟨(some 24), none, .len false (.t 23)⟩, ⟨(some 25), none, .bin .add (.t 24) (.c (.int .i64 (1)))⟩, ⟨(some 26), none, .bin .neq (.t 22) (.t 25)⟩, ⟨(some 27), none, .mv (.t 26)⟩, ⟨(some 28), (some (27, false)), .load true 4 (.t 4)⟩, ⟨(some 29), (some (27, false)), .mv (.t 1)⟩, ⟨(some 30), (some (27, false)), .mv (.t 2)⟩, ⟨(some 31), (some (27, false)), .call (.c (.fn K.probateref19_Closed [] [])) [(.t 28), (.t 29), (.t 30)]⟩, ⟨(some 32), (some (27, false)), .un .not (.t 31)⟩, ⟨(some 33), none, .pick (.t 27) (.c (.bool true)) (.t 32)⟩])
  (.keep [1, 2, 3, 4, 33] (.cond (.t 33) (.seq (.reg [⟨(some 8), none, .mv (.c (.bool false))⟩]) .ret) .skip)))
  (.keep [1, 2, 3, 4] (.seq (.reg [⟨(some 35), none, .load true 4 (.t 4)⟩, ⟨(some 36), none, .mv (.t 3)⟩, ⟨(some 37), none, .call (.c (.fn K.probateref15_Replay [] [])) [(.t 35), (.t 36)]⟩, ⟨(some 34), none, .mv (.t 37)⟩, ⟨(some 38), none, .ext (.t 34) 0⟩, ⟨(some 39), none, .ext (.t 34) 1⟩, ⟨(some 9), none, .mv (.t 38)⟩, ⟨(some 10), none, .mv (.t 39)⟩])
  (.keep [1, 2, 3, 4, 9, 10] (.seq (.seq (.reg [⟨(some 40), none, .mv (.t 10)⟩, ⟨(some 41), none, .bin .neq (.t 40) (.c (.int .i64 (0)))⟩, ⟨(some 42), none, .mv (.t 41)⟩, ⟨(some 43), (some (42, false)), .mv (.t 9)⟩, ⟨(some 44), (some (42, false)), .mv (.t 1)⟩, ⟨(some 45), (some (42, false)), .call (.c (.fn K.probateref02_Same [] [])) [(.t 43), (.t 44)]⟩, ⟨(some 46), (some (42, false)), .un .not (.t 45)⟩, ⟨(some 47), none, .pick (.t 42) (.c (.bool true)) (.t 46)⟩])
  (.keep [1, 2, 3, 4, 47] (.cond (.t 47) (.seq (.reg [⟨(some 8), none, .mv (.c (.bool false))⟩]) .ret) .skip)))
  (.keep [1, 2, 3, 4] (.seq (.reg [⟨(some 49), none, .load true 4 (.t 4)⟩, ⟨(some 50), none, .mv (.t 3)⟩, ⟨(some 51), none, .call (.c (.fn K.probateref15_Nodes [] [])) [(.t 49), (.t 50)]⟩, ⟨(some 48), none, .mv (.t 51)⟩, ⟨(some 52), none, .ext (.t 48) 0⟩, ⟨(some 53), none, .ext (.t 48) 1⟩, ⟨(some 11), none, .mv (.t 52)⟩, ⟨(some 12), none, .mv (.t 53)⟩])
  (.keep [1, 2, 4, 11] (.seq (.seq (.reg [⟨(some 13), none, .mv (.c (.int .i64 (0)))⟩])
  (.keep [1, 2, 4, 11, 13] (.block 0 (.loop A.probateref19_Alone.L0))))
  (.keep [] (.seq (.reg [⟨(some 8), none, .mv (.c (.bool true))⟩]) .ret)))))))))))))⟩
def A.probateref19_has.L0 : AC := .post (.seq (.seq (.reg [⟨(some 6), none, .mv (.t 5)⟩, ⟨(some 7), none, .mv (.t 0)⟩, ⟨(some 8), none, .len false (.t 7)⟩, ⟨(some 9), none, .bin .lss (.t 6) (.t 8)⟩])
  (.keep [0, 3, 5, 9] (.cond (.t 9) .skip (.exit 0))))
  (.keep [0, 3, 5] (.seq (.block 1 (.seq (.draw [(.pl, ⟨(some 12), none, .mv (.t 0)⟩), (.pl, ⟨(some 13), none, .mv (.t 5)⟩), (.pl, ⟨(some 14), none, .ia 3 (.t 12) (.t 13)⟩), (.pl, ⟨(some 15), none, .load true 3 (.t 14)⟩), (.pl, ⟨(some 16), none, .load true 3 (.t 3)⟩), (.pl, ⟨(some 17), none, .eqs false [(.i, 0), (.i, 1), (.i, 2)] (.t 15) (.t 16)⟩)])
  (.keep [0, 3, 5, 17] (.cond (.t 17) (.seq (.reg [⟨(some 4), none, .mv (.c (.bool true))⟩]) .ret) .skip))))
  (.keep [0, 3, 5] (.reg [⟨(some 10), none, .mv (.t 5)⟩, ⟨(some 11), none, .bin .add (.t 10) (.c (.int .i64 (1)))⟩, ⟨(some 5), none, .mv (.t 11)⟩]))))) [0, 3, 5]
def A.probateref19_has : AFn := ⟨18, [(4, none)], (.seq (.reg [⟨(some 3), none, .box (.t 1)⟩, ⟨(some 4), none, .mv (.c (.bool false))⟩])
  (.keep [0, 3] (.seq (.seq (.reg [⟨(some 5), none, .mv (.c (.int .i64 (0)))⟩])
  (.keep [0, 3, 5] (.block 0 (.loop A.probateref19_has.L0))))
  (.keep [] (.seq (.reg [⟨(some 4), none, .mv (.c (.bool false))⟩]) .ret)))))⟩
def A.probateref19_whole.L0 : AC := .post (.seq (.seq (.reg [⟨(some 12), none, .mv (.t 11)⟩, ⟨(some 13), none, .mv (.t 1)⟩, ⟨(some 14), none, .len false (.t 13)⟩, ⟨(some 15), none, .bin .lss (.t 12) (.t 14)⟩])
  (.keep [1, 2, 3, 4, 5, 11, 15] (.cond (.t 15) .skip (.exit 0))))
  (.keep [1, 2, 3, 4, 5, 11] (.seq (.block 1 (.seq (.draw [(.pl, ⟨(some 18), none, .load true 4 (.t 5)⟩), (.pl, ⟨(some 19), none, .mv (.t 1)⟩), (.pl, ⟨(some 20), none, .mv (.t 11)⟩), (.pl, ⟨(some 21), none, .ia 3 (.t 19) (.t 20)⟩), (.pl, ⟨(some 22), none, .load true 3 (.t 21)⟩), (.pl, ⟨(some 23), none, .call (.c (.fn K.probateref18_Whole [] [])) [(.t 18), (.t 22)]⟩), (.pl, ⟨(some 24), none, .mv (.t 23)⟩), (.pl, ⟨(some 25), (some (24, true)), .fa 3 (.t 5)⟩), (.pl, ⟨(some 26), (some (24, true)), .load false 1 (.t 25)⟩), (.pl, ⟨(some 27), (some (24, true)), .mv (.t 1)⟩), (.pl, ⟨(some 28), (some (24, true)), .mv (.t 11)⟩), (.pl, ⟨(some 29), (some (24, true)), .ia 3 (.t 27) (.t 28)⟩), (.pl, ⟨(some 30), (some (24, true)), .fa 0 (.t 29)⟩), (.pl, ⟨(some 31), (some (24, true)), .load false 1 (.t 30)⟩), (.pl, ⟨(some 32), (some (24, true)), .ia 2 (.t 26) (.t 31)⟩), (.pl, ⟨(some 33), (some (24, true)), .fa 0 (.t 32)⟩), (.pl, ⟨(some 34), (some (24, true)), .load false 1 (.t 33)⟩), (.pl, ⟨(some 35), (some (24, true)), .mv (.t 2)⟩), (.pl, ⟨(some 36), (some (24, true)), .bin .eql (.t 34) (.t 35)⟩), (.pl, ⟨(some 37), none, .pick (.t 24) (.t 36) (.c (.bool false))⟩), (.pl, ⟨(some 38), none, .mv (.t 37)⟩), (.pl, ⟨(some 39), (some (38, true)), .mv (.t 1)⟩), (.pl, ⟨(some 40), (some (38, true)), .mv (.t 11)⟩), (.pl, ⟨(some 41), (some (38, true)), .ia 3 (.t 39) (.t 40)⟩), (.pl, ⟨(some 42), (some (38, true)), .fa 2 (.t 41)⟩), (.pl, ⟨(some 43), (some (38, true)), .load false 1 (.t 42)⟩), (.pl, ⟨(some 44), (some (38, true)), .mv (.t 3)⟩), (.pl, ⟨(some 45), (some (38, true)), .bin .eql (.t 43) (.t 44)⟩), (.pl, ⟨(some 46), none, .pick (.t 38) (.t 45) (.c (.bool false))⟩), (.pl, ⟨(some 47), none, .mv (.t 46)⟩), (.pl, ⟨(some 48), (some (47, true)), .mv (.t 1)⟩), (.pl, ⟨(some 49), (some (47, true)), .mv (.t 11)⟩), (.pl, ⟨(some 50), (some (47, true)), .ia 3 (.t 48) (.t 49)⟩), (.pl, ⟨(some 51), (some (47, true)), .fa 0 (.t 50)⟩), (.pl, ⟨(some 52), (some (47, true)), .load false 1 (.t 51)⟩), (.pl, ⟨(some 53), (some (47, true)), .mv (.t 4)⟩), (.pl, ⟨(some 54), (some (47, true)), .bin .neq (.t 52) (.t 53)⟩), (.pl, ⟨(some 55), none, .pick (.t 47) (.t 54) (.c (.bool false))⟩)])
  (.keep [1, 2, 3, 4, 5, 11, 55] (.cond (.t 55) (.seq (.reg [⟨(some 10), none, .mv (.c (.bool true))⟩]) .ret) .skip))))
  (.keep [1, 2, 3, 4, 5, 11] (.reg [⟨(some 16), none, .mv (.t 11)⟩, ⟨(some 17), none, .bin .add (.t 16) (.c (.int .i64 (1)))⟩, ⟨(some 11), none, .mv (.t 17)⟩]))))) [1, 2, 3, 4, 5, 11]
def A.probateref19_whole : AFn := ⟨56, [(10, none)], (.seq (.reg [⟨(some 5), none, .box (.t 0)⟩, ⟨(some 10), none, .mv (.c (.bool false))⟩])
  (.keep [1, 2, 3, 4, 5] (.seq (.seq (.reg [⟨(some 11), none, .mv (.c (.int .i64 (0)))⟩])
  (.keep [1, 2, 3, 4, 5, 11] (.block 0 (.loop A.probateref19_whole.L0))))
  (.keep [] (.seq (.reg [⟨(some 10), none, .mv (.c (.bool false))⟩]) .ret)))))⟩
end Go.Proofs.Ytajaoldljichaaa.Al
namespace Go.Proofs.Ytajaoldljichaaa.Al
open Go Go.RowKit
set_option linter.unusedSimpArgs false
set_option linter.unusedVariables false
attribute [-simp] List.getD_eq_getElem?_getD Int.not_lt Int.not_le List.map_take
structure LRc (X : Cx) : Prop where
  right : Has (Ecx X) K.probateref03_Right A.probateref03_Right
  of : Has (Ecx X) K.probateref03_Of A.probateref03_Of
  has : Has (Ecx X) K.probateref19_has A.probateref19_has
  whole9 : Has (Ecx X) K.probateref19_whole A.probateref19_whole
  whole8 : Has (Ecx X) K.probateref18_Whole A.probateref18_Whole
  adds : Has (Ecx X) K.probateref18_Adds A.probateref18_Adds
  closed : Has (Ecx X) K.probateref19_Closed A.probateref19_Closed
theorem it_ne {a b : It} : a = b ↔ a.prod = b.prod ∧ a.dot = b.dot ∧ a.frm = b.frm := by
  cases a; cases b; simp
section
variable {X : Cx} {h : AH} {Q : V → AH → Prop}
theorem rhas_spec (H : Has (Ecx X) K.probateref19_has A.probateref19_has) (l : List It) (st : Nat) (x : It) (hl : l.length < 2 ^ 40) (hQ : Q (.bool (decide (x ∈ l))) h) : Ecx X K.probateref19_has [.sl 3 st (l.map itV), itV x] h Q := by
  refine fn_walk H (by simp [A.probateref19_has]) fun wf => ?_
  have gr := (Gr.refl h).new (itC x)
  have ob : (h.new (itC x)).objs h.nobj = itC x := new_objs_same _ _
  have it3 : (itC x).length = 3 ∧ (itC x).take 3 = itC x := ⟨rfl, rfl⟩
  simp [A.probateref19_has, itV, V.cells, V.good, it3.1, it3.2]
  refine loopI (n := l.length) (fun m env h' => ∃ k, k ≤ l.length ∧ m = l.length - k ∧ h' = h.new (itC x) ∧ env = [(0, .sl 3 st (l.map itV)), (3, .ptr h.nobj 0), (5, .int .i64 k)] ∧ x ∉ l.take k) ?_ ⟨0, by omega, by omega, rfl, rfl, by simp⟩
  rintro m env h' ⟨k, hk, rfl, rfl, rfl, he⟩
  unfold A.probateref19_has.L0
  by_cases hlt : k < l.length
  · have hlt' : (k : Int) < l.length := by omega
    have hg : (l.map itV).getD k .undef = itV l[k] := Enc.getD hlt
    have hw1 : IntKind.i64.wrap ((k : Int) + 1) = ((k + 1 : Nat) : Int) := by rw [wrap_i64 (by omega) (by omega)]; rfl
    have htk : l.take (k + 1) = l.take k ++ [l[k]] := List.take_succ_eq_append_getElem hlt
    have hmem := List.getElem_mem hlt
    generalize l[k] = y at *
    have ity : (itC y).length = 3 ∧ (itC y).take 3 = itC y := ⟨rfl, rfl⟩
    have gd : ∀ z : It, (itC z).getD 0 .undef = .int .i64 z.prod ∧ (itC z).getD 1 .undef = .int .i64 z.dot ∧ (itC z).getD 2 .undef = .int .i64 z.frm := fun z => ⟨rfl, rfl, rfl⟩
    by_cases c : y = x
    · subst c
      have e2 : decide (y ∈ l) = true := by simpa using hmem
      rw [e2] at hQ
      simp [hlt', hg, itV, V.cells, V.good, ob, it3.1, it3.2, ity.1, ity.2, gd y]
      exact fin_wk gr (.same _) (by simp) hQ
    · have c1 : (decide (y.prod = x.prod) && (decide (y.dot = x.dot) && decide (y.frm = x.frm))) = false := by
        rw [it_ne] at c
        simp only [Bool.and_eq_false_iff, decide_eq_false_iff_not]
        by_cases q1 : y.prod = x.prod <;> by_cases q2 : y.dot = x.dot <;> by_cases q3 : y.frm = x.frm <;> simp_all
      simp [hlt', hg, itV, V.cells, V.good, ob, it3.1, it3.2, ity.1, ity.2, gd y, gd x, c1, hw1]
      exact ⟨l.length - (k + 1), by omega, iv ⟨k + 1, by omega, rfl, rfl, rfl, by rw [htk]; simp; exact ⟨he, fun e => c e.symm⟩⟩⟩
  · have hlt' : ¬ (k : Int) < l.length := by omega
    obtain rfl : k = l.length := by omega
    rw [List.take_length] at he
    have e2 : decide (x ∈ l) = false := by simpa using he
    rw [e2] at hQ
    simp [hlt']
    exact fin_wk gr (.same _) (by simp) hQ
theorem rwhole8_spec (H : Has (Ecx X) K.probateref18_Whole A.probateref18_Whole) (g : Gm) (x : It) (h0 : 0 ≤ x.prod) (h1 : x.prod < g.prods.length) (hQ : Q (.bool (decide (x.dot = (prG g x.prod).right.length))) h) : Ecx X K.probateref18_Whole [gmV g, itV x] h Q := by
  refine fn_walk H (by simp [A.probateref18_Whole]) fun wf => ?_
  obtain ⟨p, d, fr⟩ := x
  simp only at h0 h1 hQ
  obtain ⟨n, rfl, hn, e1, e2⟩ := prG_get h0 h1
  have n1 : ¬ h.nobj = h.nobj + 1 := by omega
  simp [A.probateref18_Whole, gmV, gmC, itV, itC, V.cells, V.good, n1, h1, e2, prV, prC]
  exact fin_wk (((Gr.refl h).new _).new _) (.same _) (by simp) hQ
/-- Is there a whole item of a nonterminal, from a place, but of a production? -/
def wholeP (g : Gm) (non fr but : Int) (x : It) : Bool := decide (x.dot = (prG g x.prod).right.length) && decide ((prG g x.prod).left = non) && decide (x.frm = fr) && decide (x.prod ≠ but)
theorem rwhole9_spec (L : LRc X) (g : Gm) (l : List It) (st : Nat) (non fr but : Int) (hl : l.length < 2 ^ 40) (hv : ∀ x ∈ l, 0 ≤ x.prod ∧ x.prod < g.prods.length) (hQ : Q (.bool (l.any (wholeP g non fr but))) h) :
    Ecx X K.probateref19_whole [gmV g, .sl 3 st (l.map itV), .int .i64 non, .int .i64 fr, .int .i64 but] h Q := by
  refine fn_walk L.whole9 (by simp [A.probateref19_whole]) fun wf => ?_
  have gr := (Gr.refl h).new (gmC g)
  have ob : (h.new (gmC g)).objs h.nobj = gmC g := new_objs_same _ _
  have g1 : (gmC g).length = 4 ∧ (gmC g).take 4 = gmC g ∧ (gmC g).getD 3 .undef = .sl 2 0 (g.prods.map prV) := ⟨rfl, rfl, rfl⟩
  simp [A.probateref19_whole, gmV, V.cells, V.good, g1.1, g1.2]
  generalize hH : h.new (gmC g) = H at *
  refine loopI (n := l.length) (fun m env h' => ∃ k, k ≤ l.length ∧ m = l.length - k ∧ h' = H ∧ env = [(1, .sl 3 st (l.map itV)), (2, .int .i64 non), (3, .int .i64 fr), (4, .int .i64 but), (5, .ptr h.nobj 0), (11, .int .i64 k)] ∧ (l.take k).any (wholeP g non fr but) = false) ?_ ⟨0, by omega, by omega, rfl, by simp, by simp⟩
  rintro m env h' ⟨k, hk, rfl, rfl, rfl, he⟩
  unfold A.probateref19_whole.L0
  by_cases hlt : k < l.length
  · have hlt' : (k : Int) < l.length := by omega
    have hg : (l.map itV).getD k .undef = itV l[k] := Enc.getD hlt
    have hw1 : IntKind.i64.wrap ((k : Int) + 1) = ((k + 1 : Nat) : Int) := by rw [wrap_i64 (by omega) (by omega)]; rfl
    have htk : l.take (k + 1) = l.take k ++ [l[k]] := List.take_succ_eq_append_getElem hlt
    have hmem := List.getElem_mem hlt
    obtain ⟨v0, v1⟩ := hv _ hmem
    generalize hy : l[k] = y at *
    obtain ⟨p, d, yf⟩ := y
    simp only at v0 v1
    obtain ⟨n, rfl, hn, e1, e2⟩ := prG_get v0 v1
    have hw : wholeP g non fr but ⟨n, d, yf⟩ = (decide (d = (prG g n).right.length) && decide ((prG g n).left = non) && decide (yf = fr) && decide ((n : Int) ≠ but)) := rfl
    have hcy : (itC ⟨n, d, yf⟩).getD 0 .undef = .int .i64 n ∧ (itC ⟨n, d, yf⟩).getD 1 .undef = .int .i64 d ∧ (itC ⟨n, d, yf⟩).getD 2 .undef = .int .i64 yf := ⟨rfl, rfl, rfl⟩
    have ity : (itC ⟨n, d, yf⟩).length = 3 ∧ (itC ⟨n, d, yf⟩).take 3 = itC ⟨n, d, yf⟩ := ⟨rfl, rfl⟩
    simp [hlt', hg, itV, V.cells, V.good, ob, g1.1, g1.2, ity.1, ity.2]
    refine dcall (.bool (decide (d = (prG g n).right.length))) (rwhole8_spec L.whole8 g ⟨n, d, yf⟩ v0 v1 ⟨rfl, rfl⟩) ?_
    by_cases a1 : d = (prG g n).right.length
    · subst a1
      by_cases a2 : (prG g n).left = non
      · subst a2
        by_cases a3 : yf = fr
        · subst a3
          by_cases a4 : (n : Int) = but
          · subst a4
            simp [hlt', hg, itV, V.cells, V.good, ob, g1.1, g1.2, ity.1, ity.2, hcy, v1, e2, prV, prC, hw1]
            exact ⟨l.length - (k + 1), by omega, iv ⟨k + 1, by omega, rfl, rfl, by simp, by rw [htk, List.any_append, he]; simp [hw]⟩⟩
          · have e5 : l.any (wholeP g (prG g n).left yf but) = true := List.any_eq_true.2 ⟨_, hmem, by rw [hw]; simp [a4]⟩
            rw [e5] at hQ
            simp [hlt', hg, itV, V.cells, V.good, ob, g1.1, g1.2, ity.1, ity.2, hcy, v1, e2, prV, prC, a4, hw1]
            exact fin_wk gr (.same _) (by simp) hQ
        · simp [hlt', hg, itV, V.cells, V.good, ob, g1.1, g1.2, ity.1, ity.2, hcy, v1, e2, prV, prC, a3, hw1]
          exact ⟨l.length - (k + 1), by omega, iv ⟨k + 1, by omega, rfl, rfl, by simp, by rw [htk, List.any_append, he]; simp [hw, a3]⟩⟩
      · simp [hlt', hg, itV, V.cells, V.good, ob, g1.1, g1.2, ity.1, ity.2, hcy, v1, e2, prV, prC, a2, hw1]
        exact ⟨l.length - (k + 1), by omega, iv ⟨k + 1, by omega, rfl, rfl, by simp, by rw [htk, List.any_append, he]; simp [hw, a2]⟩⟩
    · simp [hlt', hg, itV, V.cells, V.good, ob, g1.1, g1.2, ity.1, ity.2, hcy, v1, e2, prV, prC, a1, hw1]
      exact ⟨l.length - (k + 1), by omega, iv ⟨k + 1, by omega, rfl, rfl, by simp, by rw [htk, List.any_append, he]; simp [hw, a1]⟩⟩
  · have hlt' : ¬ (k : Int) < l.length := by omega
    obtain rfl : k = l.length := by omega
    rw [List.take_length] at he
    rw [he] at hQ
    simp [hlt']
    exact fin_wk gr (.same _) (by simp) hQ
end
end Go.Proofs.Ytajaoldljichaaa.Al
namespace Go.Proofs.Ytajaoldljichaaa.Al
open Go Go.RowKit
set_option linter.unusedSimpArgs false
set_option linter.unusedVariables false
attribute [-simp] List.getD_eq_getElem?_getD Int.not_lt Int.not_le List.map_take
/-- Two slices that this call has made, and may append to, each without the other one. -/
structure TwoB (h0 h : AH) (ea e1 st1 : Nat) (l1 : List V) (eb e2 st2 : Nat) (l2 : List V) : Prop where
  a : Own h0 h ea e1 st1 l1
  b : Own h0 h eb e2 st2 l2
  w3 : 3 ≤ h0.next
  ba : st1 ≤ 2 ∨ st1 < h.next
  bb : st2 ≤ 2 ∨ st2 < h.next
  ne : st1 ≤ 2 ∨ st2 ≤ 2 ∨ ¬ st1 = st2
theorem Own.keepB {h0 h : AH} {ea eb e1 st1 st2 : Nat} {l1 : List V} (t : Own h0 h ea e1 st1 l1) (w3 : 3 ≤ h0.next) (gr : Gr h0 (h.push st2 eb)) (ba : st1 ≤ 2 ∨ st1 < h.next) (ne : st1 ≤ 2 ∨ ¬ st1 = st2) : Own h0 (h.push st2 eb) ea e1 st1 l1 := by
  refine ⟨gr, t.el, ?_⟩
  rcases t.st with h1 | h1 | ⟨h1, h2⟩
  · exact .inl h1
  · exact .inr (.inl h1)
  · exact .inr (.inr ⟨by rw [push_tips_ne (by omega) (by omega)]; exact h1, h2⟩)
theorem TwoB.new {h0 h : AH} {ea eb e1 st1 e2 st2 : Nat} {l1 l2 : List V} (t : TwoB h0 h ea e1 st1 l1 eb e2 st2 l2) (z : List V) : TwoB h0 (h.new z) ea e1 st1 l1 eb e2 st2 l2 :=
  ⟨t.a.new z, t.b.new z, t.w3, t.ba, t.bb, t.ne⟩
theorem TwoB.appB {h0 h : AH} {ea eb e1 st1 e2 st2 : Nat} {l1 l2 : List V} (t : TwoB h0 h ea e1 st1 l1 eb e2 st2 l2) {sz e3 : Nat} {m : List V} (hm : m ≠ []) (he : e3 = eb) (hb : (l2.length + m.length) * sz ≤ 2 ^ 46) {K : V → AH → Prop} {zK : Lz K}
    (hk : ∀ st' h', TwoB h0 h' ea e1 st1 l1 eb eb st' (l2 ++ m) → h'.objs = h.objs → h'.nobj = h.nobj → K (.sl eb st' (l2 ++ m)) h') : App h eb sz e2 st2 l2 e3 m zK :=
  t.b.appF hm he hb fun o' => hk _ _ ⟨t.a.keepB t.w3 o'.gr t.ba (by have := t.ne; omega), o', t.w3, t.ba.imp id fun h1 => by rw [push_next]; omega, .inr (by rw [push_next]; omega), by have := t.ba; omega⟩ (push_objs _ _ _) (push_nobj _ _ _)
theorem TwoB.appA {h0 h : AH} {ea eb e1 st1 e2 st2 : Nat} {l1 l2 : List V} (t : TwoB h0 h ea e1 st1 l1 eb e2 st2 l2) {sz e3 : Nat} {m : List V} (hm : m ≠ []) (he : e3 = ea) (hb : (l1.length + m.length) * sz ≤ 2 ^ 46) {K : V → AH → Prop} {zK : Lz K}
    (hk : ∀ st' h', TwoB h0 h' ea ea st' (l1 ++ m) eb e2 st2 l2 → h'.objs = h.objs → h'.nobj = h.nobj → K (.sl ea st' (l1 ++ m)) h') : App h ea sz e1 st1 l1 e3 m zK :=
  t.a.appF hm he hb fun o' => hk _ _ ⟨o', t.b.keepB t.w3 o'.gr t.bb (by have := t.ne; omega), t.w3, .inr (by rw [push_next]; omega), t.bb.imp id fun h1 => by rw [push_next]; omega, by have := t.bb; omega⟩ (push_objs _ _ _) (push_nobj _ _ _)
/-- What an item brings, and where. -/
def addsL (g : Gm) (w : List Int) (ss : List (List It)) (x : It) (a : Int) : List Pk := match nextI g x with
  | none => waitsL g ss x a
  | some s => if s.non = true then beginsL g s.n a else if a < w.length ∧ w.getD a.toNat 0 = s.n then [(onI x, a + 1)] else []
def pkI (l : List Pk) : List V := l.map fun k => itV k.1
def pkA (l : List Pk) : List V := l.map fun k => .int .i64 k.2
theorem pkI_app (l m : List Pk) : pkI (l ++ m) = pkI l ++ pkI m := by simp [pkI]
theorem pkA_app (l m : List Pk) : pkA (l ++ m) = pkA l ++ pkA m := by simp [pkA]
theorem Bdd_pkI (n m : Nat) (l : List Pk) : ∀ v ∈ cellsOf (pkI l), Bdd n m v := by
  intro v hv
  simp only [cellsOf, pkI, List.mem_flatMap, List.mem_map] at hv
  obtain ⟨_, ⟨k, _, rfl⟩, hv⟩ := hv
  simp [itV, itC, V.cells] at hv
  rcases hv with rfl | rfl | rfl <;> simp
theorem Bdd_pkA (n m : Nat) (l : List Pk) : ∀ v ∈ cellsOf (pkA l), Bdd n m v := by
  intro v hv
  simp only [cellsOf, pkA, List.mem_flatMap, List.mem_map] at hv
  obtain ⟨_, ⟨k, _, rfl⟩, hv⟩ := hv
  simp [V.cells] at hv
  rcases hv with rfl; simp
section
variable {X : Cx} {h : AH} {Q : V → AH → Prop}
theorem radds_spec (L : LRc X) {g : Gm} {w : List Int} {ss : List (List It)} {x : It} {a : Nat} (hz : SzG g ss) (hs : MayS g ss) (hm : mayI g x a = true) (ha : a < ss.length) (hwl : w.length < 2 ^ 30)
    (hQ : Q (.tup [.sl 3 0 (pkI (addsL g w ss x a)), .sl 1 0 (pkA (addsL g w ss x a))]) h) : Ecx X K.probateref18_Adds [gmV g, .sl 1 0 (ints w), .sl 1 0 (ss.map setV), itV x, .int .i64 a] h Q := by
  refine fn_walk L.adds (by simp [A.probateref18_Adds]) fun wf => ?_
  have w3 : 3 ≤ h.next := wf.next
  obtain ⟨m0, m1, m2, m3, m4, m5⟩ := mayI_iff.1 hm
  have hsz := hz.s
  obtain ⟨p, d, fr⟩ := x
  simp only at m0 m1 m2 m3 m4 m5
  obtain ⟨pn, rfl, hpn, e1, e2⟩ := prG_get m0 m1
  obtain ⟨sn, rfl, hsn, s1, s2⟩ := setA_get (ss := ss) m4 (by omega)
  have hcx : (itC ⟨pn, d, sn⟩).getD 0 .undef = .int .i64 pn ∧ (itC ⟨pn, d, sn⟩).getD 1 .undef = .int .i64 d ∧ (itC ⟨pn, d, sn⟩).getD 2 .undef = .int .i64 sn := ⟨rfl, rfl, rfl⟩
  have it3 : (itC ⟨pn, d, sn⟩).length = 3 ∧ (itC ⟨pn, d, sn⟩).take 3 = itC ⟨pn, d, sn⟩ := ⟨rfl, rfl⟩
  have g1 : (gmC g).length = 4 ∧ (gmC g).take 4 = gmC g ∧ (gmC g).getD 3 .undef = .sl 2 0 (g.prods.map prV) := ⟨rfl, rfl, rfl⟩
  have gr2 := ((Gr.refl h).new (gmC g)).new (itC ⟨pn, d, sn⟩)
  have n1 : ¬ h.nobj = h.nobj + 1 := by omega
  have ob1 : ((h.new (gmC g)).new (itC ⟨pn, d, sn⟩)).objs h.nobj = gmC g := by simp [n1]
  have ob2 : ((h.new (gmC g)).new (itC ⟨pn, d, sn⟩)).objs (h.nobj + 1) = itC ⟨pn, d, sn⟩ := by simp
  have b1 : h.nobj < ((h.new (gmC g)).new (itC ⟨pn, d, sn⟩)).nobj := by show h.nobj < h.nobj + 1 + 1; omega
  have b2 : h.nobj + 1 < ((h.new (gmC g)).new (itC ⟨pn, d, sn⟩)).nobj := by show h.nobj + 1 < h.nobj + 1 + 1; omega
  simp [A.probateref18_Adds, gmV, itV, V.cells, V.good]
  generalize hH : (h.new (gmC g)).new (itC ⟨pn, d, sn⟩) = H at *
  simp [ob1, ob2, g1.1, g1.2, it3.1, it3.2]
  refine ecall (rwhole8_spec L.whole8 g ⟨pn, d, sn⟩ m0 m1 ?_)
  have tw0 : TwoB h H 3 3 2 [] 1 1 2 [] := ⟨Own.full gr2 3 [], Own.full gr2 1 [], w3, .inl (Nat.le_refl _), .inl (Nat.le_refl _), .inl (Nat.le_refl _)⟩
  by_cases c1 : d = (prG g pn).right.length
  · subst c1
    simp
    have hnx : nextI g ⟨pn, (prG g pn).right.length, sn⟩ = none := by simp [nextI]
    have hwl : addsL g w ss ⟨pn, (prG g pn).right.length, sn⟩ a = waitsF g (prG g pn).left a (setA ss sn) := by rw [addsL, hnx]; rfl
    rw [hwl] at hQ
    have hT : ∀ y ∈ setA ss sn, mayI g y sn = true := by rw [s1]; exact hs sn hsn
    have hTl : (setA ss sn).length < 2 ^ 30 := by rw [s1]; exact hz.i _ (List.getElem_mem hsn)
    generalize hTe : setA ss sn = T at *
    have hsn' : (sn : Int) < ss.length := by omega
    refine loopI (n := T.length) (fun m env h' => ∃ k f1 st1 f2 st2, k ≤ T.length ∧ m = T.length - k ∧ TwoB h h' 3 f1 st1 (pkI (waitsF g (prG g pn).left a (T.take k))) 1 f2 st2 (pkA (waitsF g (prG g pn).left a (T.take k))) ∧ h'.objs h.nobj = gmC g ∧ h'.objs (h.nobj + 1) = itC ⟨pn, (prG g pn).right.length, sn⟩ ∧ h.nobj + 1 < h'.nobj ∧
      env = [(2, V.sl 1 0 (List.map setV ss)), (4, V.int IntKind.i64 ↑a), (5, V.ptr h.nobj 0), (8, V.ptr (h.nobj + 1) 0), (12, V.sl f1 st1 (pkI (waitsF g (prG g pn).left a (T.take k)))), (13, V.sl f2 st2 (pkA (waitsF g (prG g pn).left a (T.take k)))), (14, V.int IntKind.i64 k)]) ?_
      ⟨0, 3, 2, 1, 2, by omega, by omega, tw0, ob1, ob2, b2, rfl⟩
    rintro m env h' ⟨k, f1, st1, f2, st2, hk, rfl, tw, ob1, ob2, b2, rfl⟩
    unfold A.probateref18_Adds.L0
    by_cases hlt : k < T.length
    · have hlt' : (k : Int) < T.length := by omega
      have hg : (T.map itV).getD k .undef = itV T[k] := Enc.getD hlt
      have hw1 : IntKind.i64.wrap ((k : Int) + 1) = ((k + 1 : Nat) : Int) := by rw [wrap_i64 (by omega) (by omega)]; rfl
      have htk : T.take (k + 1) = T.take k ++ [T[k]] := List.take_succ_eq_append_getElem hlt
      have hmy := hT _ (List.getElem_mem hlt)
      generalize T[k] = y at *
      obtain ⟨yp, yd, yf⟩ := y
      obtain ⟨y0, y1, y2, y3, y4, y5⟩ := mayI_iff.1 hmy
      simp only at y0 y1 y2 y3 y4 y5
      obtain ⟨yn, rfl, hyn, e3, e4⟩ := prG_get y0 y1
      obtain ⟨yd, rfl⟩ : ∃ n : Nat, yd = n := ⟨yd.toNat, by omega⟩
      have hwf : waitsF g (prG g pn).left a (T.take (k + 1)) = waitsF g (prG g pn).left a (T.take k) ++ waitsF g (prG g pn).left a [⟨yn, yd, yf⟩] := by rw [htk, waitsF, List.filterMap_append]; rfl
      have hcy : (itC ⟨yn, yd, yf⟩).getD 0 .undef = .int .i64 yn ∧ (itC ⟨yn, yd, yf⟩).getD 1 .undef = .int .i64 yd ∧ (itC ⟨yn, yd, yf⟩).getD 2 .undef = .int .i64 yf := ⟨rfl, rfl, rfl⟩
      have ity : (itC ⟨yn, yd, yf⟩).length = 3 ∧ (itC ⟨yn, yd, yf⟩).take 3 = itC ⟨yn, yd, yf⟩ := ⟨rfl, rfl⟩
      have q1 : ¬ h.nobj = h'.nobj := by omega
      have q2 : ¬ h.nobj + 1 = h'.nobj := by omega
      have hst : setAt [V.int .i64 0, V.int .i64 0, V.int .i64 0] 0 (itC ⟨yn, yd, yf⟩) = itC ⟨yn, yd, yf⟩ := rfl
      have hol : (waitsF g (prG g pn).left a (T.take k)).length ≤ k := by have := List.length_filterMap_le (fun y => if nextI g y = some ⟨true, (prG g pn).left⟩ then some ((onI y, (a : Int)) : Pk) else none) (T.take k); rw [List.length_take] at this; unfold waitsF; omega
      simp [ob1, ob2, hcx, it3, s2, hsn', hlt', hg, itV, V.cells, V.good, hcy, ity, hst, q1, q2, g1]
      refine dcall (.bool (decide ((yd : Int) = (prG g yn).right.length))) (rwhole8_spec L.whole8 g ⟨yn, yd, yf⟩ y0 y1 ⟨rfl, rfl⟩) ?_
      have twn := tw.new (itC ⟨yn, yd, yf⟩)
      by_cases c2 : yd = (prG g yn).right.length
      · subst c2
        have hw0 : waitsF g (prG g pn).left a [⟨yn, (prG g yn).right.length, yf⟩] = [] := by simp [waitsF, nextI]
        rw [hw0, List.append_nil] at hwf
        simp [hw1]
        exact ⟨T.length - (k + 1), by omega, iv ⟨k + 1, f1, st1, f2, st2, by omega, rfl, by rw [hwf]; exact twn, by simp [q1]; exact ob1, by simp [q2]; exact ob2, by show _ < h'.nobj + 1; omega, by rw [hwf]; simp⟩⟩
      · have c2' : ¬ (yd : Int) = (prG g yn).right.length := by omega
        have hyl : yd < (prG g yn).right.length := by omega
        have hyl' : (yd : Int) < (prG g yn).right.length := by omega
        have hgs : ((prG g yn).right.map symV).getD yd .undef = symV (prG g yn).right[yd] := Enc.getD hyl
        have hnx2 : nextI g ⟨yn, yd, yf⟩ = some (prG g yn).right[yd] := by simp [nextI, hyl]
        have hw2 : IntKind.i64.wrap ((yd : Int) + 1) = (yd : Int) + 1 := wrap_i64 (by omega) (by have := hz.pr yn; omega)
        generalize (prG g yn).right[yd] = s at *
        obtain ⟨non, sn2⟩ := s
        have hno : (¬ (non = true ∧ sn2 = (prG g pn).left)) → waitsF g (prG g pn).left a (T.take (k + 1)) = waitsF g (prG g pn).left a (T.take k) := by
          intro no
          have : ¬ nextI g ⟨yn, yd, yf⟩ = some ⟨true, (prG g pn).left⟩ := by rw [hnx2]; intro e; injection e with e; injection e with e1 e2; exact no ⟨e1, e2⟩
          rw [hwf]; simp [waitsF, this]
        by_cases c3 : non = true
        · subst c3
          by_cases c4 : sn2 = (prG g pn).left
          · have hw0 : waitsF g (prG g pn).left a [⟨yn, yd, yf⟩] = [(onI ⟨yn, yd, yf⟩, (a : Int))] := by simp [waitsF, hnx2, c4]
            rw [hw0] at hwf
            simp [c2', hcy, ity, g1, ob1, ob2, q1, q2, y1, e4, prV, prC, V.cells, V.good, hyl', hgs, symV, symC, hcx, it3, m1, e2, c4, hw2, fillV, setAt]
            have hok : V.agg [V.int .i64 yn, V.int .i64 ((yd : Int) + 1), V.int .i64 yf] = itV (onI ⟨yn, yd, yf⟩) := rfl
            rw [hok]
            refine twn.appA (by simp) rfl (by simp [pkI]; omega) fun st' h3 tw3 o3 b3 => ?_
            simp
            refine tw3.appB (by simp) rfl (by simp [pkA]; omega) fun st4 h4 tw4 o4 b4 => ?_
            simp [hw1]
            have em1 : pkI (waitsF g (prG g pn).left a (T.take (k + 1))) = pkI (waitsF g (prG g pn).left a (T.take k)) ++ [itV (onI ⟨yn, yd, yf⟩)] := by rw [hwf, pkI_app]; rfl
            have em2 : pkA (waitsF g (prG g pn).left a (T.take (k + 1))) = pkA (waitsF g (prG g pn).left a (T.take k)) ++ [V.int .i64 (a : Int)] := by rw [hwf, pkA_app]; rfl
            exact ⟨T.length - (k + 1), by omega, iv ⟨k + 1, 3, st', 1, st4, by omega, rfl, by rw [em1, em2]; exact tw4, by rw [o4, o3]; simp [q1]; exact ob1, by rw [o4, o3]; simp [q2]; exact ob2, by rw [b4, b3]; show _ < h'.nobj + 1; omega, by rw [em1, em2]; simp⟩⟩
          · simp [c2', hcy, ity, g1, ob1, ob2, q1, q2, y1, e4, prV, prC, V.cells, V.good, hyl', hgs, symV, symC, hcx, it3, m1, e2, c4, hw1]
            have hwf2 := hno (fun q => c4 q.2)
            exact ⟨T.length - (k + 1), by omega, iv ⟨k + 1, f1, st1, f2, st2, by omega, rfl, by rw [hwf2]; exact twn, by simp [q1]; exact ob1, by simp [q2]; exact ob2, by show _ < h'.nobj + 1; omega, by rw [hwf2]; simp⟩⟩
        · have c3' : non = false := by simpa using c3
          subst c3'
          simp [c2', hcy, ity, g1, ob1, ob2, q1, q2, y1, e4, prV, prC, V.cells, V.good, hyl', hgs, symV, symC, hw1]
          have hwf2 := hno (fun q => c3 q.1)
          exact ⟨T.length - (k + 1), by omega, iv ⟨k + 1, f1, st1, f2, st2, by omega, rfl, by rw [hwf2]; exact twn, by simp [q1]; exact ob1, by simp [q2]; exact ob2, by show _ < h'.nobj + 1; omega, by rw [hwf2]; simp⟩⟩
    · have hlt' : ¬ (k : Int) < T.length := by omega
      obtain rfl : k = T.length := by omega
      rw [List.take_length] at tw ⊢
      simp [ob1, ob2, hcx, it3, s2, hsn', hlt']
      exact fin_wk tw.a.gr (Wk.tt tw.a.wk tw.b.wk) (by simp; exact ⟨Bdd_pkI _ _ _, Bdd_pkA _ _ _⟩) hQ
  · obtain ⟨d, rfl⟩ : ∃ n : Nat, d = n := ⟨d.toNat, by omega⟩
    have hyl : d < (prG g pn).right.length := by omega
    have hyl' : (d : Int) < (prG g pn).right.length := by omega
    have hgs : ((prG g pn).right.map symV).getD d .undef = symV (prG g pn).right[d] := Enc.getD hyl
    have hnx2 : nextI g ⟨pn, d, sn⟩ = some (prG g pn).right[d] := by simp [nextI, hyl]
    have hw2 : IntKind.i64.wrap ((d : Int) + 1) = (d : Int) + 1 := wrap_i64 (by omega) (by have := hz.pr pn; omega)
    have hw3 : IntKind.i64.wrap ((a : Int) + 1) = (a : Int) + 1 := wrap_i64 (by omega) (by omega)
    generalize (prG g pn).right[d] = s at *
    obtain ⟨non, s2⟩ := s
    have q1 : ¬ h.nobj = H.nobj := by omega
    have q2 : ¬ h.nobj + 1 = H.nobj := by omega
    cases non with
    | true =>
      have hal : addsL g w ss ⟨pn, d, sn⟩ a = beginsL g s2 a := by rw [addsL, hnx2]; rfl
      rw [hal] at hQ
      simp [c1, ob1, ob2, hcx, it3, g1, m1, e2, prV, prC, V.cells, V.good, hyl', hgs, symV, symC, setAt, q1, q2]
      refine ecall (rof_spec L.of g s2 (by have := hz.gl; omega) ?_)
      simp
      have htl := ofF_len s2 g.prods 0
      have hlo : (ofG g s2).length ≤ g.prods.length := htl
      have hgl := hz.gl
      have em1 : ∀ k, pkI ((beginsL g s2 a).take k) = ((ofG g s2).take k).map fun q => itV ⟨q, 0, a⟩ := fun k => by simp [pkI, beginsL, List.map_take]; rfl
      have em2 : ∀ k, pkA ((beginsL g s2 a).take k) = ((ofG g s2).take k).map fun q => V.int .i64 (a : Int) := fun k => by simp [pkA, beginsL, List.map_take]; rfl
      refine loopI (n := (ofG g s2).length) (fun m env h' => ∃ k f1 st1 f2 st2, k ≤ (ofG g s2).length ∧ m = (ofG g s2).length - k ∧ TwoB h h' 3 f1 st1 (pkI ((beginsL g s2 a).take k)) 1 f2 st2 (pkA ((beginsL g s2 a).take k)) ∧
        env = [(4, V.int IntKind.i64 ↑a), (12, V.sl f1 st1 (pkI ((beginsL g s2 a).take k))), (13, V.sl f2 st2 (pkA ((beginsL g s2 a).take k))), (17, V.sl 1 0 (ints (ofG g s2))), (18, V.int IntKind.i64 k)]) ?_
        ⟨0, 3, 2, 1, 2, by omega, by omega, by simpa [pkI, pkA] using tw0.new _, by simp [pkI, pkA]⟩
      rintro m env h' ⟨k, f1, st1, f2, st2, hk, rfl, tw, rfl⟩
      unfold A.probateref18_Adds.L1
      by_cases hlt : k < (ofG g s2).length
      · have hlt' : (k : Int) < (ofG g s2).length := by omega
        have hgt := ints_getD (l := ofG g s2) hlt
        have hge : (ofG g s2).getD k 0 = (ofG g s2)[k] := by rw [List.getD_eq_getElem?_getD, List.getElem?_eq_getElem hlt]; rfl
        rw [hge] at hgt
        have hw1 : IntKind.i64.wrap ((k : Int) + 1) = ((k + 1 : Nat) : Int) := by rw [wrap_i64 (by omega) (by omega)]; rfl
        have en1 : pkI ((beginsL g s2 a).take (k + 1)) = pkI ((beginsL g s2 a).take k) ++ [itV ⟨(ofG g s2)[k], 0, a⟩] := by rw [em1, em1, List.take_succ_eq_append_getElem hlt]; simp only [List.map_append, List.map_cons, List.map_nil]
        have en2 : pkA ((beginsL g s2 a).take (k + 1)) = pkA ((beginsL g s2 a).take k) ++ [V.int .i64 (a : Int)] := by rw [em2, em2, List.take_succ_eq_append_getElem hlt]; simp only [List.map_append, List.map_cons, List.map_nil]
        have el1 : (pkI ((beginsL g s2 a).take k)).length ≤ k := by simp [pkI]; omega
        have el2 : (pkA ((beginsL g s2 a).take k)).length ≤ k := by simp [pkA]; omega
        simp [hlt', hgt, fillV, setAt, V.cells, V.good]
        have hok : V.agg [V.int .i64 (ofG g s2)[k], V.int .i64 0, V.int .i64 (a : Int)] = itV ⟨(ofG g s2)[k], 0, a⟩ := rfl
        rw [hok]
        refine tw.appA (by simp) rfl (by simp only [List.length_cons, List.length_nil]; omega) fun st' h3 tw3 o3 b3 => ?_
        simp
        refine tw3.appB (by simp) rfl (by simp only [List.length_cons, List.length_nil]; omega) fun st4 h4 tw4 o4 b4 => ?_
        simp [hw1]
        exact ⟨(ofG g s2).length - (k + 1), by omega, iv ⟨k + 1, 3, st', 1, st4, by omega, rfl, by rw [en1, en2]; exact tw4, by rw [en1, en2]; simp⟩⟩
      · have hlt' : ¬ (k : Int) < (ofG g s2).length := by omega
        obtain rfl : k = (ofG g s2).length := by omega
        have hll : (beginsL g s2 a).take (ofG g s2).length = beginsL g s2 a := List.take_of_length_le (by simp [beginsL])
        rw [hll] at tw ⊢
        simp [hlt']
        exact fin_wk tw.a.gr (Wk.tt tw.a.wk tw.b.wk) (by simp; exact ⟨Bdd_pkI _ _ _, Bdd_pkA _ _ _⟩) hQ
    | false =>
      have twn := tw0.new [V.bool false, V.int IntKind.i64 s2]
      by_cases c5 : a < w.length
      · have c5' : (a : Int) < w.length := by omega
        have hgw := ints_getD (l := w) c5
        by_cases c6 : w.getD a 0 = s2
        · have hal : addsL g w ss ⟨pn, d, sn⟩ a = [(onI ⟨pn, d, sn⟩, (a : Int) + 1)] := by rw [addsL, hnx2]; simp [c5, c6]
          rw [hal] at hQ
          simp [c1, ob1, ob2, hcx, it3, g1, m1, e2, prV, prC, V.cells, V.good, hyl', hgs, symV, symC, setAt, q1, q2, c5, c5', hgw, c6, hw2, fillV]
          have hok : V.agg [V.int .i64 pn, V.int .i64 ((d : Int) + 1), V.int .i64 sn] = itV (onI ⟨pn, d, sn⟩) := rfl
          rw [hok]
          refine twn.appA (by simp) rfl (by simp) fun st' h3 tw3 o3 b3 => ?_
          simp [hw3]
          refine tw3.appB (by simp) rfl (by simp) fun st4 h4 tw4 o4 b4 => ?_
          simp
          exact fin_wk tw4.a.gr (Wk.tt tw4.a.wk tw4.b.wk) (by simp [itV, itC]) hQ
        · have hal : addsL g w ss ⟨pn, d, sn⟩ a = [] := by rw [addsL, hnx2]; simp [c6]
          rw [hal] at hQ
          simp [c1, ob1, ob2, hcx, it3, g1, m1, e2, prV, prC, V.cells, V.good, hyl', hgs, symV, symC, setAt, q1, q2, c5, c5', hgw, c6]
          exact fin_wk twn.a.gr (Wk.tt twn.a.wk twn.b.wk) (by simp) hQ
      · have hal : addsL g w ss ⟨pn, d, sn⟩ a = [] := by rw [addsL, hnx2]; simp [c5]
        rw [hal] at hQ
        simp [c1, ob1, ob2, hcx, it3, g1, m1, e2, prV, prC, V.cells, V.good, hyl', hgs, symV, symC, setAt, q1, q2, c5]
        exact fin_wk twn.a.gr (Wk.tt twn.a.wk twn.b.wk) (by simp) hQ
end
end Go.Proofs.Ytajaoldljichaaa.Al
namespace Go.Proofs.Ytajaoldljichaaa.Al
open Go Go.RowKit
set_option linter.unusedSimpArgs false
set_option linter.unusedVariables false
attribute [-simp] List.getD_eq_getElem?_getD Int.not_lt Int.not_le List.map_take
theorem inS_at {ss : List (List It)} {k : Pk} {n : Nat} (hn : n < ss.length) (e : k.2 = n) : InS ss k ↔ k.1 ∈ ss[n] := by
  constructor
  · rintro ⟨i, hi, e2, h⟩
    obtain rfl : i = n := by omega
    exact h
  · intro h
    exact ⟨n, hn, e, h⟩
theorem addsL_place {g : Gm} {w : List Int} {ss : List (List It)} {x : It} {a : Nat} : ∀ k ∈ addsL g w ss x a, 0 ≤ k.2 ∧ k.2 ≤ (a : Int) + 1 := by
  intro k hk
  unfold addsL at hk
  split at hk
  · simp only [waitsL, waitsF, List.mem_filterMap] at hk
    obtain ⟨y, _, h⟩ := hk
    split at h
    · injection h with h; subst h; simp only; omega
    · cases h
  · split at hk
    · simp only [beginsL, List.mem_map] at hk
      obtain ⟨y, _, rfl⟩ := hk; simp only; omega
    · split at hk
      · simp at hk; subst hk; simp only; omega
      · cases hk
theorem follows_adds {g : Gm} {w : List Int} {ss : List (List It)} {x : It} {a : Nat} (ha : a < ss.length) (hw : ss.length ≤ w.length + 1) :
    (∀ k ∈ followsL g w ss x a, InS ss k) ↔ ∀ k ∈ addsL g w ss x a, k.2 < ss.length → InS ss k := by
  have low : ∀ L : List Pk, (∀ k ∈ L, k.2 = (a : Int)) → ((∀ k ∈ L, InS ss k) ↔ ∀ k ∈ L, k.2 < ss.length → InS ss k) := fun L hL =>
    ⟨fun h k hk _ => h k hk, fun h k hk => h k hk (by rw [hL k hk]; omega)⟩
  unfold followsL addsL
  cases hn : nextI g x with
  | none =>
    simp only
    refine low _ fun k hk => ?_
    simp only [waitsL, waitsF, List.mem_filterMap] at hk
    obtain ⟨y, _, h⟩ := hk
    split at h
    · injection h with h; subst h; rfl
    · cases h
  | some s =>
    simp only
    by_cases c : s.non = true
    · simp only [c, ↓reduceIte]
      refine low _ fun k hk => ?_
      simp only [beginsL, List.mem_map] at hk
      obtain ⟨y, _, rfl⟩ := hk; rfl
    · have c' : s.non = false := by simpa using c
      simp only [c', Bool.false_eq_true, ↓reduceIte]
      unfold follows1L
      by_cases c4 : w.getD (a : Int).toNat 0 = s.n
      · by_cases c2 : (a : Int) + 1 < ss.length
        · have c3 : (a : Int) < w.length := by omega
          rw [if_pos ⟨c2, c4⟩, if_pos ⟨c3, c4⟩]
          exact ⟨fun h k hk _ => h k hk, fun h k hk => h k hk (by rw [List.mem_singleton] at hk; subst hk; exact c2)⟩
        · rw [if_neg (fun q => c2 q.1)]
          refine ⟨fun _ k hk h => ?_, fun _ k hk => by cases hk⟩
          split at hk
          · rw [List.mem_singleton] at hk; subst hk; exact absurd h c2
          · cases hk
      · rw [if_neg (fun q => c4 q.2), if_neg (fun q => c4 q.2)]
        exact ⟨fun _ k hk => (by cases hk), fun _ k hk => (by cases hk)⟩
theorem addsL_len {g : Gm} {w : List Int} {ss : List (List It)} {x : It} {a : Int} (hz : SzG g ss) : (addsL g w ss x a).length < 2 ^ 30 := by
  unfold addsL
  split
  · simp only [waitsL, waitsF]
    refine Nat.lt_of_le_of_lt (List.length_filterMap_le _ _) ?_
    unfold setA
    rw [List.getD_eq_getElem?_getD]
    by_cases c : x.frm.toNat < ss.length
    · rw [List.getElem?_eq_getElem c]; exact hz.i _ (List.getElem_mem c)
    · rw [List.getElem?_eq_none (by omega)]; simp
  · split
    · simp only [beginsL, List.length_map]
      have := ofF_len (by assumption : Sy).n g.prods 0
      have := hz.gl
      unfold ofG; omega
    · split <;> simp
theorem pkI_getD {l : List Pk} {i : Nat} (h : i < l.length) : (pkI l).getD i .undef = itV l[i].1 := by
  rw [pkI, List.getD_eq_getElem?_getD, List.getElem?_map, List.getElem?_eq_getElem h]; rfl
theorem pkA_getD {l : List Pk} {i : Nat} (h : i < l.length) : (pkA l).getD i .undef = .int .i64 l[i].2 := by
  rw [pkA, List.getD_eq_getElem?_getD, List.getElem?_map, List.getElem?_eq_getElem h]; rfl
section
variable {X : Cx} {h : AH} {Q : V → AH → Prop}
set_option maxRecDepth 8192 in
theorem rclosed_spec (L : LRc X) {g : Gm} {w : List Int} {ss : List (List It)} (hz : SzG g ss) (hwl : w.length < 2 ^ 30)
    (hQ : Q (.bool (bP (LookOk g w ss ∧ ClosedP g w ss))) h) : Ecx X K.probateref19_Closed [gmV g, .sl 1 0 (ints w), .sl 1 0 (ss.map setV)] h Q := by
  refine fn_walk L.closed (by simp [A.probateref19_Closed]) fun wf => ?_
  have g1 : (gmC g).length = 4 ∧ (gmC g).take 4 = gmC g ∧ (gmC g).getD 2 .undef = .int .i64 g.start ∧ (gmC g).getD 3 .undef = .sl 2 0 (g.prods.map prV) := ⟨rfl, rfl, rfl, rfl⟩
  have hlw : IntKind.i64.wrap ((w.length : Int) + 1) = (w.length : Int) + 1 := wrap_i64 (by omega) (by omega)
  have hsz := hz.s
  have gr1 := (Gr.refl h).new (gmC g)
  have ob1 : (h.new (gmC g)).objs h.nobj = gmC g := new_objs_same _ _
  have b1 : h.nobj < (h.new (gmC g)).nobj := by show h.nobj < h.nobj + 1; omega
  simp [A.probateref19_Closed, gmV, V.cells, V.good, g1.1, g1.2.1]
  generalize hH : h.new (gmC g) = H at *
  refine ecall (rright3_spec L.right g ?_)
  have bad : ¬ LookOk g w ss → Q (.bool false) h := fun no => by
    have h2 : ¬ (LookOk g w ss ∧ ClosedP g w ss) := fun q => no q.1
    rw [bP_f h2] at hQ; exact hQ
  by_cases c1 : rightG g = true
  · by_cases c2 : ss.length < 1
    · have c2' : (ss.length : Int) < 1 := by omega
      simp [c1, c2']
      exact fin_wk gr1 (.same _) (by simp) (bad fun q => by have := q.2.1; omega)
    · have c2' : ¬ (ss.length : Int) < 1 := by omega
      by_cases c3 : ss.length ≤ w.length + 1
      · have c3' : ¬ ((w.length : Int) + 1 < ss.length) := by omega
        simp [c1, c2', c3', hlw]
        refine loopI (n := ss.length) (fun m env h' => ∃ k, k ≤ ss.length ∧ m = ss.length - k ∧ Gr H h' ∧ (∀ i (hi : i < ss.length), i < k → ∀ y ∈ ss[i], mayI g y i = true) ∧
          env = [(1, V.sl 1 0 (ints w)), (2, V.sl 1 0 (List.map setV ss)), (3, V.ptr h.nobj 0), (7, V.int IntKind.i64 k)]) ?_ ⟨0, by omega, by omega, Gr.refl H, fun i hi h0 => by omega, by simp⟩
        rintro m env h' ⟨k, hk, rfl, gr, hf, rfl⟩
        unfold A.probateref19_Closed.L0
        by_cases hk2 : k < ss.length
        · have hk' : (k : Int) < ss.length := by omega
          have hw1 : IntKind.i64.wrap ((k : Int) + 1) = ((k + 1 : Nat) : Int) := by rw [wrap_i64 (by omega) (by omega)]; rfl
          have hg : (ss.map setV).getD k .undef = .sl 3 0 (ss[k].map itV) := by rw [Enc.getD hk2]; rfl
          have hTl : ss[k].length < 2 ^ 30 := hz.i _ (List.getElem_mem hk2)
          simp [hk']
          refine loopI (n := ss[k].length) (fun m env h' => ∃ j, j ≤ ss[k].length ∧ m = ss[k].length - j ∧ Gr H h' ∧ (∀ y ∈ ss[k].take j, mayI g y k = true) ∧
            env = [(1, V.sl 1 0 (ints w)), (2, V.sl 1 0 (List.map setV ss)), (3, V.ptr h.nobj 0), (7, V.int IntKind.i64 k), (8, V.int IntKind.i64 j)]) ?_ ⟨0, by omega, by omega, gr, by simp, by simp⟩
          rintro m env h' ⟨j, hj, rfl, gr, hfj, rfl⟩
          unfold A.probateref19_Closed.L1
          have oba := (gr.objs _ b1).trans ob1
          have hb1 := gr.nobj
          by_cases hj2 : j < ss[k].length
          · have hj' : (j : Int) < ss[k].length := by omega
            have hw2 : IntKind.i64.wrap ((j : Int) + 1) = ((j + 1 : Nat) : Int) := by rw [wrap_i64 (by omega) (by omega)]; rfl
            have hgj : (ss[k].map itV).getD j .undef = itV ss[k][j] := Enc.getD hj2
            have hmem := List.getElem_mem hj2
            have htk : ss[k].take (j + 1) = ss[k].take j ++ [ss[k][j]] := List.take_succ_eq_append_getElem hj2
            have bady : mayI g ss[k][j] k = false → Q (.bool false) h := fun q => bad fun r => by have := r.2.2.2 k hk2 _ hmem; rw [q] at this; cases this
            generalize hz' : ss[k][j] = z at *
            obtain ⟨p, d, fr⟩ := z
            have it3 : (itC ⟨p, d, fr⟩).length = 3 ∧ (itC ⟨p, d, fr⟩).take 3 = itC ⟨p, d, fr⟩ := ⟨rfl, rfl⟩
            have hst : setAt [V.int .i64 0, V.int .i64 0, V.int .i64 0] 0 (itC ⟨p, d, fr⟩) = itC ⟨p, d, fr⟩ := rfl
            have hcz : (itC ⟨p, d, fr⟩).getD 0 .undef = .int .i64 p ∧ (itC ⟨p, d, fr⟩).getD 1 .undef = .int .i64 d ∧ (itC ⟨p, d, fr⟩).getD 2 .undef = .int .i64 fr := ⟨rfl, rfl, rfl⟩
            have q1 : ¬ h.nobj = h'.nobj := by omega
            have grn := gr.new (itC ⟨p, d, fr⟩)
            by_cases a1 : p < 0
            · simp [hk', hg, hj', hgj, itV, V.cells, V.good, hst, it3, hcz, q1, oba, g1, a1]
              exact fin_wk (gr1.trans grn) (.same _) (by simp) (bady (by simp [mayI]; omega))
            by_cases a2 : (g.prods.length : Int) ≤ p
            · simp [hk', hg, hj', hgj, itV, V.cells, V.good, hst, it3, hcz, q1, oba, g1, a1, a2]
              exact fin_wk (gr1.trans grn) (.same _) (by simp) (bady (by simp [mayI]; omega))
            obtain ⟨pn, rfl, hpn, e1, e2⟩ := prG_get (g := g) (i := p) (by omega) (by omega)
            have a2' : (pn : Int) < g.prods.length := by omega
            by_cases a3 : d < 0
            · simp [hk', hg, hj', hgj, itV, V.cells, V.good, hst, it3, hcz, q1, oba, g1, a1, a2, a3, a2']
              exact fin_wk (gr1.trans grn) (.same _) (by simp) (bady (by simp [mayI]; omega))
            by_cases a4 : ((prG g pn).right.length : Int) < d
            · simp [hk', hg, hj', hgj, itV, V.cells, V.good, hst, it3, hcz, q1, oba, g1, a1, a2, a3, a2', e2, prV, prC, a4]
              exact fin_wk (gr1.trans grn) (.same _) (by simp) (bady (by simp [mayI]; omega))
            by_cases a5 : fr < 0
            · simp [hk', hg, hj', hgj, itV, V.cells, V.good, hst, it3, hcz, q1, oba, g1, a1, a2, a3, a2', e2, prV, prC, a4, a5]
              exact fin_wk (gr1.trans grn) (.same _) (by simp) (bady (by simp [mayI]; omega))
            by_cases a6 : (k : Int) < fr
            · simp [hk', hg, hj', hgj, itV, V.cells, V.good, hst, it3, hcz, q1, oba, g1, a1, a2, a3, a2', e2, prV, prC, a4, a5, a6]
              exact fin_wk (gr1.trans grn) (.same _) (by simp) (bady (by simp [mayI]; omega))
            have hmy : mayI g ⟨pn, d, fr⟩ k = true := by rw [mayI_iff]; simp only; omega
            simp [hk', hg, hj', hgj, itV, V.cells, V.good, hst, it3, hcz, q1, oba, g1, a1, a2, a3, a2', e2, prV, prC, a4, a5, a6, hw2]
            exact ⟨ss[k].length - (j + 1), by omega, iv ⟨j + 1, by omega, rfl, grn, fun y hy => by
              rw [htk] at hy
              rcases List.mem_append.1 hy with hy | hy
              · exact hfj y hy
              · simp at hy; subst hy; exact hmy, by simp⟩⟩
          · have hj' : ¬ (j : Int) < ss[k].length := by omega
            obtain rfl : j = ss[k].length := by omega
            rw [List.take_length] at hfj
            simp [hk', hg, V.cells, V.good, hw1]
            exact ⟨ss.length - (k + 1), by omega, iv ⟨k + 1, by omega, rfl, gr, fun i hi h0 x hx => by
              by_cases e : i = k
              · subst e; exact hfj x hx
              · exact hf i hi (by omega) x hx, by simp⟩⟩
        · have hk' : ¬ (k : Int) < ss.length := by omega
          obtain rfl : k = ss.length := by omega
          have hM : MayS g ss := fun i hi => hf i hi hi
          have oba := (gr.objs _ b1).trans ob1
          simp [hk', oba, g1]
          have hlook : LookOk g w ss := ⟨c1, by omega, c3, hM⟩
          have hbp : bP (LookOk g w ss ∧ ClosedP g w ss) = bP (ClosedP g w ss) := bP_iff ⟨fun q => q.2, fun q => ⟨hlook, q⟩⟩
          rw [hbp] at hQ
          have hb1 := gr.nobj
          generalize h' = H2 at *
          refine ecall (rof_spec L.of g g.start (by have := hz.gl; omega) ?_)
          simp
          have hlo : (ofG g g.start).length ≤ g.prods.length := ofF_len g.start g.prods 0
          have hgl := hz.gl
          have h0 : 0 < ss.length := by omega
          have hg0 : (ss.map setV).getD 0 .undef = .sl 3 0 (ss[0].map itV) := by rw [Enc.getD h0]; rfl
          have hl0 : ss[0].length < 2 ^ 30 := hz.i _ (List.getElem_mem h0)
          refine loopI (n := (ofG g g.start).length) (fun m env h' => ∃ k, k ≤ (ofG g g.start).length ∧ m = (ofG g g.start).length - k ∧ h' = H2 ∧ (∀ q ∈ (ofG g g.start).take k, (⟨q, 0, 0⟩ : It) ∈ ss[0]) ∧
            env = [(1, V.sl 1 0 (ints w)), (2, V.sl 1 0 (List.map setV ss)), (3, V.ptr h.nobj 0), (10, V.sl 1 0 (ints (ofG g g.start))), (11, V.int IntKind.i64 k)]) ?_ ⟨0, by omega, by omega, rfl, by simp, by simp⟩
          rintro m env h' ⟨k, hk, rfl, rfl, hfs, rfl⟩
          unfold A.probateref19_Closed.L2
          by_cases hk2 : k < (ofG g g.start).length
          · have hk' : (k : Int) < (ofG g g.start).length := by omega
            have hw1 : IntKind.i64.wrap ((k : Int) + 1) = ((k + 1 : Nat) : Int) := by rw [wrap_i64 (by omega) (by omega)]; rfl
            have hgt := ints_getD (l := ofG g g.start) hk2
            have hge : (ofG g g.start).getD k 0 = (ofG g g.start)[k] := by rw [List.getD_eq_getElem?_getD, List.getElem?_eq_getElem hk2]; rfl
            rw [hge] at hgt
            have htk : (ofG g g.start).take (k + 1) = (ofG g g.start).take k ++ [(ofG g g.start)[k]] := List.take_succ_eq_append_getElem hk2
            have hmem := List.getElem_mem hk2
            generalize (ofG g g.start)[k] = q at *
            have h0' : (0 : Int) < ss.length := by omega
            simp [hk', hgt, hg0, h0, h0', V.cells, fillV, setAt, V.good]
            refine dcall (.bool (decide ((⟨q, 0, 0⟩ : It) ∈ ss[0]))) (rhas_spec L.has ss[0] 0 ⟨q, 0, 0⟩ (by omega) ⟨rfl, rfl⟩) ?_
            by_cases c : (⟨q, 0, 0⟩ : It) ∈ ss[0]
            · simp [c, hw1]
              exact ⟨(ofG g g.start).length - (k + 1), by omega, iv ⟨k + 1, by omega, rfl, rfl, fun q2 hq2 => by
                rw [htk] at hq2
                rcases List.mem_append.1 hq2 with hq2 | hq2
                · exact hfs q2 hq2
                · simp at hq2; subst hq2; exact c, by simp⟩⟩
            · have hnc : ¬ ClosedP g w ss := fun r => c ((inS_at h0 rfl).1 (r.1 (⟨q, 0, 0⟩, 0) (by simp only [beginsL, List.mem_map]; exact ⟨q, hmem, rfl⟩)))
              rw [bP_f hnc] at hQ
              simp [c]
              exact fin_wk (gr1.trans gr) (.same _) (by simp) hQ
          · have hk' : ¬ (k : Int) < (ofG g g.start).length := by omega
            obtain rfl : k = (ofG g g.start).length := by omega
            rw [List.take_length] at hfs
            have hst1 : ∀ k ∈ beginsL g g.start 0, InS ss k := fun x hx => by
              simp only [beginsL, List.mem_map] at hx
              obtain ⟨q, hq, rfl⟩ := hx
              exact (inS_at h0 rfl).2 (hfs q hq)
            simp [hk']
            refine loopI (n := ss.length) (fun m env h2 => ∃ k, k ≤ ss.length ∧ m = ss.length - k ∧ h2 = h' ∧ (∀ i (hi : i < ss.length), i < k → ∀ x ∈ ss[i], ∀ y ∈ followsL g w ss x i, InS ss y) ∧
              env = [(1, V.sl 1 0 (ints w)), (2, V.sl 1 0 (List.map setV ss)), (3, V.ptr h.nobj 0), (12, V.int IntKind.i64 k)]) ?_ ⟨0, by omega, by omega, rfl, fun i hi h0 => by omega, by simp⟩
            rintro m env h2 ⟨k, hk, rfl, rfl, hf, rfl⟩
            unfold A.probateref19_Closed.L3
            by_cases hk2 : k < ss.length
            · have hk' : (k : Int) < ss.length := by omega
              have hw1 : IntKind.i64.wrap ((k : Int) + 1) = ((k + 1 : Nat) : Int) := by rw [wrap_i64 (by omega) (by omega)]; rfl
              have hg : (ss.map setV).getD k .undef = .sl 3 0 (ss[k].map itV) := by rw [Enc.getD hk2]; rfl
              have hTl : ss[k].length < 2 ^ 30 := hz.i _ (List.getElem_mem hk2)
              simp [hk']
              refine loopI (n := ss[k].length) (fun m env h3 => ∃ j, j ≤ ss[k].length ∧ m = ss[k].length - j ∧ h3 = h2 ∧ (∀ x ∈ ss[k].take j, ∀ y ∈ followsL g w ss x k, InS ss y) ∧
                env = [(1, V.sl 1 0 (ints w)), (2, V.sl 1 0 (List.map setV ss)), (3, V.ptr h.nobj 0), (12, V.int IntKind.i64 k), (13, V.int IntKind.i64 j)]) ?_ ⟨0, by omega, by omega, rfl, by simp, by simp⟩
              rintro m env h3 ⟨j, hj, rfl, rfl, hfj, rfl⟩
              unfold A.probateref19_Closed.L4
              by_cases hj2 : j < ss[k].length
              · have hj' : (j : Int) < ss[k].length := by omega
                have hw2 : IntKind.i64.wrap ((j : Int) + 1) = ((j + 1 : Nat) : Int) := by rw [wrap_i64 (by omega) (by omega)]; rfl
                have hgj : (ss[k].map itV).getD j .undef = itV ss[k][j] := Enc.getD hj2
                have hmem := List.getElem_mem hj2
                have htk : ss[k].take (j + 1) = ss[k].take j ++ [ss[k][j]] := List.take_succ_eq_append_getElem hj2
                have hmz := hM k hk2 _ hmem
                generalize hz' : ss[k][j] = z at *
                have it3 : (itC z).length = 3 ∧ (itC z).take 3 = itC z := ⟨rfl, rfl⟩
                simp [hk', hg, hj', hgj, itV, V.cells, V.good, it3, oba, g1]
                refine dcall (.tup [.sl 3 0 (pkI (addsL g w ss z k)), .sl 1 0 (pkA (addsL g w ss z k))]) (radds_spec L hz hM hmz hk2 hwl ⟨rfl, rfl⟩) ?_
                simp
                have hal := addsL_len (w := w) (x := z) (a := (k : Int)) hz
                have hfa := follows_adds (g := g) (w := w) (ss := ss) (x := z) hk2 c3
                have hpl := addsL_place (g := g) (w := w) (ss := ss) (x := z) (a := k)
                generalize hA : addsL g w ss z k = P1 at *
                have hlI : (pkI P1).length = P1.length := by simp [pkI]
                have hlA : (pkA P1).length = P1.length := by simp [pkA]
                refine loopI (n := P1.length) (fun m env h4 => ∃ i, i ≤ P1.length ∧ m = P1.length - i ∧ h4 = h3 ∧ (∀ x ∈ P1.take i, x.2 < ss.length → InS ss x) ∧
                  env = [(1, V.sl 1 0 (ints w)), (2, V.sl 1 0 (List.map setV ss)), (3, V.ptr h.nobj 0), (12, V.int IntKind.i64 ↑k), (13, V.int IntKind.i64 ↑j), (14, V.sl 3 0 (pkI P1)), (15, V.sl 1 0 (pkA P1)), (16, V.int IntKind.i64 i)]) ?_ ⟨0, by omega, by omega, rfl, by simp, by simp⟩
                rintro m env h4 ⟨i, hi, rfl, rfl, hfi, rfl⟩
                unfold A.probateref19_Closed.L5
                by_cases hi2 : i < P1.length
                · have hi' : (i : Int) < P1.length := by omega
                  have hw3 : IntKind.i64.wrap ((i : Int) + 1) = ((i + 1 : Nat) : Int) := by rw [wrap_i64 (by omega) (by omega)]; rfl
                  have hgI := pkI_getD hi2
                  have hgA := pkA_getD hi2
                  have htk : P1.take (i + 1) = P1.take i ++ [P1[i]] := List.take_succ_eq_append_getElem hi2
                  have hmA := List.getElem_mem hi2
                  have hpA := hpl _ hmA
                  generalize hx : P1[i] = x at *
                  obtain ⟨y, pl⟩ := x
                  simp only at hpA hgI hgA
                  have ity : (itC y).length = 3 ∧ (itC y).take 3 = itC y := ⟨rfl, rfl⟩
                  have hgo : (pl < ss.length → InS ss (y, pl)) → ∀ x ∈ P1.take (i + 1), x.2 < ss.length → InS ss x := fun q x hx => by
                    rw [htk] at hx
                    rcases List.mem_append.1 hx with hx | hx
                    · exact hfi x hx
                    · simp at hx; subst hx; exact q
                  by_cases c6 : pl < ss.length
                  · obtain ⟨pn, rfl⟩ : ∃ n : Nat, pl = n := ⟨pl.toNat, by omega⟩
                    have c7 : pn < ss.length := by omega
                    have hgp : (ss.map setV).getD pn .undef = .sl 3 0 (ss[pn].map itV) := by rw [Enc.getD c7]; rfl
                    have hPl : ss[pn].length < 2 ^ 30 := hz.i _ (List.getElem_mem c7)
                    simp [hi', hlI, hlA, hgA, hgI, c6, c7, hgp, V.cells, itV, V.good, ity]
                    refine dcall (.bool (decide (y ∈ ss[pn]))) (rhas_spec L.has ss[pn] 0 y (by omega) ⟨rfl, rfl⟩) ?_
                    by_cases c8 : y ∈ ss[pn]
                    · simp [hi', hlI, hlA, hgA, c6, c7, c8, hw3]
                      exact ⟨P1.length - (i + 1), by omega, iv ⟨i + 1, by omega, rfl, rfl, hgo fun _ => (inS_at c7 rfl).2 c8, by simp⟩⟩
                    · have hnc : ¬ ClosedP g w ss := fun r => c8 ((inS_at c7 rfl).1 (hfa.1 (r.2 k hk2 z hmem) (y, (pn : Int)) hmA c6))
                      rw [bP_f hnc] at hQ
                      simp [hi', hlI, hlA, hgA, c6, c7, c8, hw3]
                      exact fin_wk (gr1.trans gr) (.same _) (by simp) hQ
                  · simp [hi', hlI, hlA, hgA, hgI, c6, hw3]
                    exact ⟨P1.length - (i + 1), by omega, iv ⟨i + 1, by omega, rfl, rfl, hgo fun q => absurd q c6, by simp⟩⟩
                · have hi' : ¬ (i : Int) < P1.length := by omega
                  obtain rfl : i = P1.length := by omega
                  rw [List.take_length] at hfi
                  simp [hi', hlI, hw2]
                  exact ⟨ss[k].length - (j + 1), by omega, iv ⟨j + 1, by omega, rfl, rfl, fun x hx => by
                    rw [htk] at hx
                    rcases List.mem_append.1 hx with hx | hx
                    · exact hfj x hx
                    · simp at hx; subst hx; exact hfa.2 hfi, by simp⟩⟩
              · have hj' : ¬ (j : Int) < ss[k].length := by omega
                obtain rfl : j = ss[k].length := by omega
                rw [List.take_length] at hfj
                simp [hk', hg, V.cells, V.good, hw1]
                exact ⟨ss.length - (k + 1), by omega, iv ⟨k + 1, by omega, rfl, rfl, fun i hi h0 x hx => by
                  by_cases e : i = k
                  · subst e; exact hfj x hx
                  · exact hf i hi (by omega) x hx, by simp⟩⟩
            · have hk' : ¬ (k : Int) < ss.length := by omega
              obtain rfl : k = ss.length := by omega
              have hcl : ClosedP g w ss := ⟨hst1, fun i hi => hf i hi hi⟩
              rw [bP_t hcl] at hQ
              simp [hk']
              exact fin_wk (gr1.trans gr) (.same _) (by simp) hQ
      · have c3' : ((w.length : Int) + 1 < ss.length) := by omega
        simp [c1, c2', c3', hlw]
        exact fin_wk gr1 (.same _) (by simp) (bad fun q => by have := q.2.2.1; omega)
  · have c1' : rightG g = false := by simpa using c1
    simp [c1']
    exact fin_wk gr1 (.same _) (by simp) (bad fun q => c1 q.1)
end
end Go.Proofs.Ytajaoldljichaaa.Al
namespace Go.Proofs.Ytajaoldljichaaa.Al
def A.probateref15_Replay.L1 : AC := .post (.seq (.seq (.reg [⟨(some 26), none, .mv (.t 7)⟩, ⟨(some 27), none, .len false (.t 26)⟩, ⟨(some 28), none, .bin .gtr (.t 27) (.c (.int .i64 (0)))⟩, ⟨(some 29), none, .mv (.t 28)⟩, ⟨(some 30), (some (29, true)), .mv (.t 7)⟩, ⟨(some 31), (some (29, true)), .ia 2 (.t 30) (.c (.int .i64 (0)))⟩, ⟨(some 32), (some (29, true)), .fa 0 (.t 31)⟩, ⟨(some 33), (some (29, true)), .load false 1 (.t 32)⟩, ⟨(some 34), (some (29, true)), .un .not (.t 33)⟩, ⟨(some 35), none, .pick (.t 29) (.t 34) (.c (.bool false))⟩])
  (.keep [1, 2, 6, 7, 8, 35] (.cond (.t 35) .skip (.exit 2))))
  (.keep [1, 2, 6, 7, 8] (.block 3 (.seq (.reg [⟨(some 36), none, .mv (.t 6)⟩, ⟨(some 37), none, .mv (.t 7)⟩, ⟨(some 38), none, .ia 2 (.t 37) (.c (.int .i64 (0)))⟩, ⟨(some 39), none, .fa 1 (.t 38)⟩, ⟨(some 40), none, .load false 1 (.t 39)⟩, ⟨(some 41), none, .bsl 1 false [(.int .i64 (0))] 1 [(0, (.t 40))]⟩, ⟨(some 42), none, .app 1 8 (.t 36) (.t 41)⟩, ⟨(some 6), none, .mv (.t 42)⟩])
  (.keep [1, 2, 6, 7, 8] (.reg [⟨(some 43), none, .mv (.t 7)⟩, ⟨(some 44), none, .slc 2 (.t 43) (some (.c (.int .i64 (1)))) none⟩, ⟨(some 7), none, .mv (.t 44)⟩])))))) [1, 2, 6, 7, 8]
def A.probateref15_Replay.L0 : AC := .post (.seq (.seq (.reg [⟨(some 20), none, .mv (.t 8)⟩, ⟨(some 21), none, .mv (.t 1)⟩, ⟨(some 22), none, .len false (.t 21)⟩, ⟨(some 23), none, .bin .leq (.t 20) (.t 22)⟩])
  (.keep [1, 2, 6, 7, 8, 23] (.cond (.t 23) .skip (.exit 0))))
  (.keep [1, 2, 6, 7, 8] (.seq (.block 1 (.seq (.block 2 (.loop A.probateref15_Replay.L1))
  (.keep [1, 2, 6, 7, 8] (.seq (.seq (.reg [⟨(some 45), none, .mv (.t 8)⟩, ⟨(some 46), none, .mv (.t 1)⟩, ⟨(some 47), none, .len false (.t 46)⟩, ⟨(some 48), none, .bin .eql (.t 45) (.t 47)⟩])
  (.keep [1, 2, 6, 7, 8, 48] (.cond (.t 48) (.exit 1) .skip)))
  (.keep [1, 2, 6, 7, 8] (.seq (.seq (.draw [(.pl, ⟨(some 49), none, .mv (.t 7)⟩), (.pl, ⟨(some 50), none, .len false (.t 49)⟩), (.pl, ⟨(some 51), none, .bin .eql (.t 50) (.c (.int .i64 (0)))⟩), (.pl, ⟨(some 52), none, .mv (.t 51)⟩), (.pl, ⟨(some 53), (some (52, false)), .mv (.t 1)⟩), (.pl, ⟨(some 54), (some (52, false)), .mv (.t 8)⟩), (.pl, ⟨(some 55), (some (52, false)), .ia 1 (.t 53) (.t 54)⟩), (.pl, ⟨(some 56), (some (52, false)), .load false 1 (.t 55)⟩), (.pl, ⟨(some 57), (some (52, false)), .bin .lss (.t 56) (.c (.int .i64 (0)))⟩), (.pl, ⟨(some 58), none, .pick (.t 52) (.c (.bool true)) (.t 57)⟩), (.pl, ⟨(some 59), none, .mv (.t 58)⟩), (.pl, ⟨(some 60), (some (59, false)), .mv (.t 1)⟩), (.pl, ⟨(some 61), (some (59, false)), .mv (.t 8)⟩), (.pl, ⟨(some 62), (some (59, false)), .ia 1 (.t 60) (.t 61)⟩), (.pl, ⟨(some 63), (some (59, false)), .load false 1 (.t 62)⟩), (.pl, ⟨(some 64), (some (59, false)), .fa 3 (.t 2)⟩), (.pl, ⟨(some 65), (some (59, false)), .load false 1 (.t 64)⟩), (.pl, ⟨(some 66), (some (59, false)), .len false (.t 65)⟩), (.pl, ⟨(some 67), (some (59, false)), .bin .geq (.t 63) (.t 66)⟩), (.pl, ⟨(some 68), none, .pick (.t 59) (.c (.bool true)) (.t 67)⟩), (.pl, ⟨(some 69), none, .mv (.t 68)⟩), (.pl, ⟨(some 70), (some (69, false)), .fa 3 (.t 2)⟩), (.pl, ⟨(some 71), (some (69, false)), .load false 1 (.t 70)⟩), (.pl, ⟨(some 72), (some (69, false)), .mv (.t 1)⟩), (.pl, ⟨(some 73), (some (69, false)), .mv (.t 8)⟩), (.pl, ⟨(some 74), (some (69, false)), .ia 1 (.t 72) (.t 73)⟩), (.pl, ⟨(some 75), (some (69, false)), .load false 1 (.t 74)⟩), (.pl, ⟨(some 76), (some (69, false)), .ia 2 (.t 71) (.t 75)⟩), (.pl, ⟨(some 77), (some (69, false)), .fa 0 (.t 76)⟩), (.pl, ⟨(some 78), (some (69, false)), .load false 1 (.t 77)⟩), (.pl, ⟨(some 79), (some (69, false)), .mv (.t 7)⟩), (.pl, ⟨(some 80), (some (69, false)), .ia 2 (.t 79) (.c (.int .i64 (0)))⟩), (.pl, ⟨(some 81), (some (69, false)), .fa 1 (.t 80)⟩), (.pl, ⟨(some 82), (some (69, false)), .load false 1 (.t 81)⟩), (.pl, ⟨(some 83), (some (69, false)), .bin .neq (.t 78) (.t 82)⟩), (.pl, ⟨(some 84), none, .pick (.t 69) (.c (.bool true)) (.t 83)⟩)])
  (.keep [1, 2, 6, 7, 8, 84] (.cond (.t 84) (.seq (.reg [⟨(some 4), none, .mv (.c (.sl 0 1 []))⟩, ⟨(some 5), none, .mv (.c (.int .i64 (2)))⟩]) .ret) .skip)))
  (.keep [1, 2, 6, 7, 8] (.draw [(.pl, ⟨(some 85), none, .bsl 2 true [(.bool false), (.int .i64 (0))] 0 []⟩), (.pl, ⟨(some 86), none, .fa 3 (.t 2)⟩), (.pl, ⟨(some 87), none, .load false 1 (.t 86)⟩), (.pl, ⟨(some 88), none, .mv (.t 1)⟩), (.pl, ⟨(some 89), none, .mv (.t 8)⟩), (.pl, ⟨(some 90), none, .ia 1 (.t 88) (.t 89)⟩), (.pl, ⟨(some 91), none, .load false 1 (.t 90)⟩), (.pl, ⟨(some 92), none, .ia 2 (.t 87) (.t 91)⟩), (.pl, ⟨(some 93), none, .fa 1 (.t 92)⟩), (.pl, ⟨(some 94), none, .load false 1 (.t 93)⟩), (.eff, ⟨(some 95), none, .app 2 16 (.t 85) (.t 94)⟩), (.pl, ⟨(some 96), none, .mv (.t 7)⟩), (.pl, ⟨(some 97), none, .slc 2 (.t 96) (some (.c (.int .i64 (1)))) none⟩), (.eff, ⟨(some 98), none, .app 2 16 (.t 95) (.t 97)⟩), (.pl, ⟨(some 7), none, .mv (.t 98)⟩)]))))))))
  (.keep [1, 2, 6, 7, 8] (.reg [⟨(some 24), none, .mv (.t 8)⟩, ⟨(some 25), none, .bin .add (.t 24) (.c (.int .i64 (1)))⟩, ⟨(some 8), none, .mv (.t 25)⟩]))))) [1, 2, 6, 7, 8]
def A.probateref15_Replay : AFn := ⟨103, [(4, none), (5, none)], (.seq (.reg [⟨(some 2), none, .box (.t 0)⟩, ⟨(some 4), none, .mv (.c (.sl 0 1 []))⟩, ⟨(some 5), none, .mv (.c (.int .i64 (0)))⟩])
  (.keep [1, 2] (.seq (.seq (.reg [⟨(some 9), none, .load true 4 (.t 2)⟩, ⟨(some 10), none, .call (.c (.fn K.probateref03_Right [] [])) [(.t 9)]⟩, ⟨(some 11), none, .un .not (.t 10)⟩])
  (.keep [1, 2, 11] (.cond (.t 11) (.seq (.reg [⟨(some 4), none, .mv (.c (.sl 0 1 []))⟩, ⟨(some 5), none, .mv (.c (.int .i64 (1)))⟩]) .ret) .skip)))
  (.keep [1, 2] (.seq (.seq (.reg [⟨(some 12), none, .mv (.t 1)⟩, ⟨(some 13), none, .len false (.t 12)⟩, ⟨(some 14), none, .bin .gtr (.t 13) (.c (.int .i64 (2000)))⟩])
  (.keep [1, 2, 14] (.cond (.t 14) (.seq (.reg [⟨(some 4), none, .mv (.c (.sl 0 1 []))⟩, ⟨(some 5), none, .mv (.c (.int .i64 (5)))⟩]) .ret) .skip)))
  (.keep [1, 2] (.seq (.reg [⟨(some 15), none, .bsl 1 false [(.int .i64 (0))] 0 []⟩, ⟨(some 6), none, .mv (.t 15)⟩])
  (.keep [1, 2, 6] (.seq (.reg [⟨(some 16), none, .fa 2 (.t 2)⟩, ⟨(some 17), none, .load false 1 (.t 16)⟩, ⟨(some 18), none, .bld [(.bool false), (.int .i64 (0))] [(0, 1, (.c (.bool true))), (1, 1, (.t 17))]⟩, ⟨(some 19), none, .bsl 2 true [(.bool false), (.int .i64 (0))] 1 [(0, (.t 18))]⟩, ⟨(some 7), none, .mv (.t 19)⟩])
  (.keep [1, 2, 6, 7] (.seq (.seq (.reg [⟨(some 8), none, .mv (.c (.int .i64 (0)))⟩])
  (.keep [1, 2, 6, 7, 8] (.block 0 (.loop A.probateref15_Replay.L0))))
  (.keep [6, 7] (.seq (.seq (.reg [⟨(some 99), none, .mv (.t 7)⟩, ⟨(some 100), none, .len false (.t 99)⟩, ⟨(some 101), none, .bin .gtr (.t 100) (.c (.int .i64 (0)))⟩])
  (.keep [6, 101] (.cond (.t 101) (.seq (.reg [⟨(some 4), none, .mv (.c (.sl 0 1 []))⟩, ⟨(some 5), none, .mv (.c (.int .i64 (3)))⟩]) .ret) .skip)))
  (.keep [6] (.seq (.reg [⟨(some 102), none, .mv (.t 6)⟩, ⟨(some 4), none, .mv (.t 102)⟩, ⟨(some 5), none, .mv (.c (.int .i64 (0)))⟩]) .ret)))))))))))))))⟩
def A.probateref15_Nodes : AFn := ⟨28, [(4, none), (5, none)], (.seq (.reg [⟨(some 2), none, .box (.t 0)⟩, ⟨(some 4), none, .mv (.c (.sl 0 1 []))⟩, ⟨(some 5), none, .mv (.c (.int .i64 (0)))⟩])
  (.keep [1, 2] (.seq (.reg [⟨(some 12), none, .load true 4 (.t 2)⟩, ⟨(some 13), none, .mv (.t 1)⟩, ⟨(some 14), none, .call (.c (.fn K.probateref15_Replay [] [])) [(.t 12), (.t 13)]⟩, ⟨(some 11), none, .mv (.t 14)⟩, ⟨(some 15), none, .ext (.t 11) 0⟩, ⟨(some 16), none, .ext (.t 11) 1⟩, ⟨(some 6), none, .mv (.t 15)⟩, ⟨(some 7), none, .mv (.t 16)⟩])
  (.keep [1, 2, 7] (.seq (.seq (.reg [⟨(some 17), none, .mv (.t 7)⟩, ⟨(some 18), none, .bin .neq (.t 17) (.c (.int .i64 (0)))⟩])
  (.keep [1, 2, 7, 18] (.cond (.t 18) (.seq (.reg [⟨(some 19), none, .mv (.t 7)⟩, ⟨(some 4), none, .mv (.c (.sl 0 1 []))⟩, ⟨(some 5), none, .mv (.t 19)⟩]) .ret) .skip)))
  (.keep [1, 2] (.seq (.reg [⟨(some 21), none, .load true 4 (.t 2)⟩, ⟨(some 22), none, .mv (.t 1)⟩, ⟨(some 23), none, .call (.c (.fn K.probateref15_build [] [])) [(.t 21), (.t 22), (.c (.int .i64 (0))), (.c (.int .i64 (0))), (.c (.sl 0 1 []))]⟩, ⟨(some 20), none, .mv (.t 23)⟩, ⟨(some 24), none, .ext (.t 20) 0⟩, ⟨(some 25), none, .ext (.t 20) 1⟩, ⟨(some 26), none, .ext (.t 20) 2⟩, ⟨(some 8), none, .mv (.t 24)⟩, ⟨(some 9), none, .mv (.t 25)⟩, ⟨(some 10), none, .mv (.t 26)⟩])
  (.keep [8] (.seq (.reg [⟨(some 27), none, .mv (.t 8)⟩, ⟨(some 4), none, .mv (.t 27)⟩, ⟨(some 5), none, .mv (.c (.int .i64 (0)))⟩]) .ret)))))))))⟩
def A.probateref15_build.L0 : AC := .post (.seq (.seq (.reg [⟨(some 39), none, .mv (.t 16)⟩, ⟨(some 40), none, .mv (.t 14)⟩, ⟨(some 41), none, .len false (.t 40)⟩, ⟨(some 42), none, .bin .lss (.t 39) (.t 41)⟩])
  (.keep [1, 2, 3, 4, 5, 13, 14, 15, 16, 42] (.cond (.t 42) .skip (.exit 0))))
  (.keep [1, 2, 3, 4, 5, 13, 14, 15, 16] (.seq (.block 1 (.seq (.reg [⟨(some 45), none, .mv (.t 15)⟩, ⟨(some 46), none, .mv (.t 3)⟩, ⟨(some 47), none, .bsl 1 false [(.int .i64 (0))] 1 [(0, (.t 46))]⟩, ⟨(some 48), none, .app 1 8 (.t 45) (.t 47)⟩, ⟨(some 15), none, .mv (.t 48)⟩])
  (.keep [1, 2, 3, 4, 5, 13, 14, 15, 16] (.seq (.reg [⟨(some 49), none, .mv (.t 14)⟩, ⟨(some 50), none, .mv (.t 16)⟩, ⟨(some 51), none, .ia 2 (.t 49) (.t 50)⟩, ⟨(some 52), none, .fa 0 (.t 51)⟩, ⟨(some 53), none, .load false 1 (.t 52)⟩])
  (.keep [1, 2, 3, 4, 5, 13, 14, 15, 16, 53] (.cond (.t 53) (.reg [⟨(some 55), none, .load true 4 (.t 5)⟩, ⟨(some 56), none, .mv (.t 1)⟩, ⟨(some 57), none, .mv (.t 2)⟩, ⟨(some 58), none, .mv (.t 3)⟩, ⟨(some 59), none, .mv (.t 4)⟩, ⟨(some 60), none, .call (.c (.fn K.probateref15_build [] [])) [(.t 55), (.t 56), (.t 57), (.t 58), (.t 59)]⟩, ⟨(some 54), none, .mv (.t 60)⟩, ⟨(some 61), none, .ext (.t 54) 0⟩, ⟨(some 62), none, .ext (.t 54) 1⟩, ⟨(some 63), none, .ext (.t 54) 2⟩, ⟨(some 4), none, .mv (.t 61)⟩, ⟨(some 2), none, .mv (.t 62)⟩, ⟨(some 3), none, .mv (.t 63)⟩]) (.reg [⟨(some 64), none, .mv (.t 3)⟩, ⟨(some 65), none, .bin .add (.t 64) (.c (.int .i64 (1)))⟩, ⟨(some 3), none, .mv (.t 65)⟩])))))))
  (.keep [1, 2, 3, 4, 5, 13, 14, 15, 16] (.reg [⟨(some 43), none, .mv (.t 16)⟩, ⟨(some 44), none, .bin .add (.t 43) (.c (.int .i64 (1)))⟩, ⟨(some 16), none, .mv (.t 44)⟩]))))) [1, 2, 3, 4, 5, 13, 14, 15, 16]
def A.probateref15_build : AFn := ⟨77, [(10, none), (11, none), (12, none)], (.seq (.reg [⟨(some 5), none, .box (.t 0)⟩, ⟨(some 10), none, .mv (.c (.sl 0 1 []))⟩, ⟨(some 11), none, .mv (.c (.int .i64 (0)))⟩, ⟨(some 12), none, .mv (.c (.int .i64 (0)))⟩])
  (.keep [1, 2, 3, 4, 5] (.seq (.reg [⟨(some 17), none, .mv (.t 4)⟩, ⟨(some 18), none, .len false (.t 17)⟩, ⟨(some 13), none, .mv (.t 18)⟩])
  (.keep [1, 2, 3, 4, 5, 13] (.seq (.reg [⟨(some 19), none, .mv (.t 4)⟩, ⟨(some 20), none, .mv (.t 1)⟩, ⟨(some 21), none, .mv (.t 2)⟩, ⟨(some 22), none, .ia 1 (.t 20) (.t 21)⟩, ⟨(some 23), none, .load false 1 (.t 22)⟩, ⟨(some 24), none, .bld [(.int .i64 (0)), (.sl 0 1 [])] [(0, 1, (.t 23))]⟩, ⟨(some 25), none, .bsl 2 true [(.int .i64 (0)), (.sl 0 1 [])] 1 [(0, (.t 24))]⟩, ⟨(some 26), none, .app 2 32 (.t 19) (.t 25)⟩, ⟨(some 4), none, .mv (.t 26)⟩])
  (.keep [1, 2, 3, 4, 5, 13] (.seq (.draw [(.pl, ⟨(some 27), none, .fa 3 (.t 5)⟩), (.pl, ⟨(some 28), none, .load false 1 (.t 27)⟩), (.pl, ⟨(some 29), none, .mv (.t 1)⟩), (.pl, ⟨(some 30), none, .mv (.t 2)⟩), (.pl, ⟨(some 31), none, .ia 1 (.t 29) (.t 30)⟩), (.pl, ⟨(some 32), none, .load false 1 (.t 31)⟩), (.pl, ⟨(some 33), none, .ia 2 (.t 28) (.t 32)⟩), (.pl, ⟨(some 34), none, .fa 1 (.t 33)⟩), (.pl, ⟨(some 35), none, .load false 1 (.t 34)⟩), (.pl, ⟨(some 14), none, .mv (.t 35)⟩)])
  (.keep [1, 2, 3, 4, 5, 13, 14] (.seq (.reg [⟨(some 36), none, .bsl 1 false [(.int .i64 (0))] 0 []⟩, ⟨(some 15), none, .mv (.t 36)⟩])
  (.keep [1, 2, 3, 4, 5, 13, 14, 15] (.seq (.reg [⟨(some 37), none, .mv (.t 2)⟩, ⟨(some 38), none, .bin .add (.t 37) (.c (.int .i64 (1)))⟩, ⟨(some 2), none, .mv (.t 38)⟩])
  (.keep [1, 2, 3, 4, 5, 13, 14, 15] (.seq (.seq (.reg [⟨(some 16), none, .mv (.c (.int .i64 (0)))⟩])
  (.keep [1, 2, 3, 4, 5, 13, 14, 15, 16] (.block 0 (.loop A.probateref15_build.L0))))
  (.keep [2, 3, 4, 13, 15] (.seq (.reg [⟨(some 66), none, .mv (.t 4)⟩, ⟨(some 67), none, .mv (.t 13)⟩, ⟨(some 68), none, .mv (.t 15)⟩, ⟨(some 69), none, .mv (.t 3)⟩, ⟨(some 70), none, .bsl 1 false [(.int .i64 (0))] 1 [(0, (.t 69))]⟩, ⟨(some 71), none, .app 1 8 (.t 68) (.t 70)⟩, ⟨(some 72), none, .ia 2 (.t 66) (.t 67)⟩, ⟨(some 73), none, .fa 1 (.t 72)⟩, ⟨none, none, .store 1 (.t 73) (.t 71)⟩])
  (.keep [2, 3, 4] (.seq (.reg [⟨(some 74), none, .mv (.t 4)⟩, ⟨(some 75), none, .mv (.t 2)⟩, ⟨(some 76), none, .mv (.t 3)⟩, ⟨(some 10), none, .mv (.t 74)⟩, ⟨(some 11), none, .mv (.t 75)⟩, ⟨(some 12), none, .mv (.t 76)⟩]) .ret)))))))))))))))))⟩
end Go.Proofs.Ytajaoldljichaaa.Al
namespace Go.Proofs.Ytajaoldljichaaa.Al
open Go Go.RowKit
set_option linter.unusedSimpArgs false
set_option linter.unusedVariables false
attribute [-simp] List.getD_eq_getElem?_getD Int.not_lt Int.not_le List.map_take
/-! ### Plain -/
def rowRun : List Sy → List Int × List Sy
  | [] => ([], [])
  | s :: r => if s.non = true then ([], s :: r) else (s.n :: (rowRun r).1, (rowRun r).2)
def rowSteps (g : Gm) : List Int → List Int → List Sy → Option (List Int × List Sy)
  | [], w, r => some (w ++ (rowRun r).1, (rowRun r).2)
  | i :: l, w, r => match (rowRun r).2 with
    | s :: r2 => if 0 ≤ i ∧ i < g.prods.length ∧ (prG g i).left = s.n then rowSteps g l (w ++ (rowRun r).1) ((prG g i).right ++ r2) else none
    | [] => none
theorem rowRun_len : ∀ r : List Sy, (rowRun r).1.length + (rowRun r).2.length = r.length
  | [] => rfl
  | s :: r => by
    rw [rowRun]
    split
    · simp
    · have := rowRun_len r; simp; omega
def rowStart (g : Gm) : List Sy := [⟨true, g.start⟩]
def symsT (td : List Pt) : List Sy := (td.filter fun p => !p.fin).map fun p => p.sym
theorem rowRun_runR : ∀ (td : List Pt) (w : List Int) (ns : List Dn), (runR td w ns).2.word = w ++ (rowRun (symsT td)).1 ∧
    ((∃ n, (runR td w ns).1 = some n ∧ (rowRun (symsT td)).2 = ⟨true, n⟩ :: symsT (runR td w ns).2.todo) ∨ ((runR td w ns).1 = none ∧ (rowRun (symsT td)).2 = [] ∧ (runR td w ns).2.todo = []))
  | [], w, ns => by simp [runR, symsT, rowRun]
  | p :: l, w, ns => by
    rw [runR]
    by_cases c : p.fin = true
    · have e : symsT (p :: l) = symsT l := by simp [symsT, c]
      simp only [c, ↓reduceIte, e]
      exact rowRun_runR l w _
    · have c' : p.fin = false := by simpa using c
      have e : symsT (p :: l) = p.sym :: symsT l := by simp [symsT, c']
      simp only [c', Bool.false_eq_true, ↓reduceIte, e]
      by_cases c2 : p.sym.non = true
      · simp only [c2, ↓reduceIte, rowRun]
        refine ⟨by simp, .inl ⟨p.sym.n, rfl, ?_⟩⟩
        have : p.sym = ⟨true, p.sym.n⟩ := by
          cases hs : p.sym; rw [hs] at c2; simp only at c2; subst c2; rfl
        rw [← this]
      · have c2' : p.sym.non = false := by simpa using c2
        simp only [c2', Bool.false_eq_true, ↓reduceIte, rowRun]
        obtain ⟨h1, h2⟩ := rowRun_runR l (w ++ [p.sym.n]) (hereR ⟨l, w, ns⟩ p).nodes
        exact ⟨by rw [h1]; simp, h2⟩
theorem symsT_open (g : Gm) (s : Rp) (i : Int) : symsT (openR g s i).todo = (prG g i).right ++ symsT s.todo := by
  simp only [openR, symsT, List.filter_append, List.map_append]
  congr 1
  · rw [List.filter_eq_self.2 (by intro p hp; obtain ⟨y, _, rfl⟩ := List.mem_map.1 hp; rfl), List.map_map]
    exact List.map_id'' (fun _ => rfl) _
theorem rowSteps_stepsR (g : Gm) : ∀ (l : List Int) (s : Rp), match stepsR g l s with
    | some s' => rowSteps g l s.word (symsT s.todo) = some (s'.word ++ (rowRun (symsT s'.todo)).1, (rowRun (symsT s'.todo)).2)
    | none => rowSteps g l s.word (symsT s.todo) = none
  | [], s => rfl
  | i :: l, s => by
    obtain ⟨h1, h2⟩ := rowRun_runR s.todo s.word s.nodes
    rw [stepsR, rowSteps, stepR, runS]
    rcases h2 with ⟨n, h2, h3⟩ | ⟨h2, h3, h4⟩
    · rw [show runR s.todo s.word s.nodes = (some n, (runR s.todo s.word s.nodes).2) from Prod.ext h2 rfl, h3]
      simp only
      by_cases c : 0 ≤ i ∧ i < g.prods.length ∧ (prG g i).left = n
      · simp only [c, and_self, ↓reduceIte]
        have := rowSteps_stepsR g l (openR g (runR s.todo s.word s.nodes).2 i)
        rw [symsT_open, show (openR g (runR s.todo s.word s.nodes).2 i).word = (runR s.todo s.word s.nodes).2.word from rfl, h1] at this
        exact this
      · rw [if_neg c, if_neg c]
    · rw [show runR s.todo s.word s.nodes = (none, (runR s.todo s.word s.nodes).2) from Prod.ext h2 rfl, h3]
theorem replay_row (g : Gm) (l : List Int) (v : List Int) : rowSteps g l [] (rowStart g) = some (v, []) ↔ ∃ s, replayR g l = some s ∧ s.word = v := by
  have h := rowSteps_stepsR g l (iniR g)
  rw [show symsT (iniR g).todo = rowStart g from rfl, show (iniR g).word = [] from rfl] at h
  rw [replayR]
  cases he : stepsR g l (iniR g) with
  | none => rw [he] at h; rw [h]; simp
  | some s =>
    rw [he] at h
    simp only at h ⊢
    rw [h, runS]
    obtain ⟨h1, h2⟩ := rowRun_runR s.todo s.word s.nodes
    rcases h2 with ⟨n, h2, h3⟩ | ⟨h2, h3, h4⟩
    · rw [show runR s.todo s.word s.nodes = (some n, (runR s.todo s.word s.nodes).2) from Prod.ext h2 rfl, h3]
      simp
    · rw [show runR s.todo s.word s.nodes = (none, (runR s.todo s.word s.nodes).2) from Prod.ext h2 rfl, h3, ← h1]
      simp
/-! ### The walk -/
structure LRp (X : Cx) : Prop where
  rc : LRc X
  replay : Has (Ecx X) K.probateref15_Replay A.probateref15_Replay
theorem TwoB.appBZ {h0 h : AH} {ea eb e1 st1 st2 : Nat} {l1 l2 : List V} (t : TwoB h0 h ea e1 st1 l1 eb eb st2 l2) {sz e3 : Nat} {m : List V} (he : m ≠ [] → e3 = eb) (hb : (l2.length + m.length) * sz ≤ 2 ^ 46) {K : V → AH → Prop} {zK : Lz K}
    (hk : ∀ st' h', TwoB h0 h' ea e1 st1 l1 eb eb st' (l2 ++ m) → h'.objs = h.objs → h'.nobj = h.nobj → K (.sl eb st' (l2 ++ m)) h') : App h eb sz eb st2 l2 e3 m zK := by
  by_cases hm : m = []
  · subst hm
    exact ⟨fun _ => by simpa using hk st2 h (by simpa using t) rfl rfl, fun h1 => absurd rfl h1⟩
  · exact t.appB hm (he hm) hb hk
section
variable {X : Cx} {h : AH} {Q : V → AH → Prop}
theorem rrep_L1 {h0 H : AH} {l : List Int} {o i e st sr : Nat} {word : List Int} {row : List Sy} (hb : word.length + row.length ≤ 2 ^ 20) (ow : Own h0 H 1 e st (ints word)) (w3 : 3 ≤ h0.next) (hst : st ≤ 2 ∨ st < H.next)
    {Q : Ex → Env → AH → Prop} {zQ : Lz Q} {z : Lz (AC.loop A.probateref15_Replay.L1)}
    (hQ : ∀ h' e st sr, Own h0 h' 1 e st (ints (word ++ (rowRun row).1)) → (st ≤ 2 ∨ st < h'.next) → h'.objs = H.objs → h'.nobj = H.nobj →
      Q (.exit 2) [(1, .sl 1 0 (ints l)), (2, .ptr o 0), (6, .sl e st (ints (word ++ (rowRun row).1))), (7, .sl 2 sr ((rowRun row).2.map symV)), (8, .int .i64 i), (35, .bool false)] h') :
    acZ (Ecx X) [(1, .sl 1 0 (ints l)), (2, .ptr o 0), (6, .sl e st (ints word)), (7, .sl 2 sr (row.map symV)), (8, .int .i64 i)] H z zQ := by
  refine loopI (n := row.length) (fun n env h' => ∃ w2 r2 e st sr, n = r2.length ∧ w2.length + r2.length ≤ 2 ^ 20 ∧ w2 ++ (rowRun r2).1 = word ++ (rowRun row).1 ∧ (rowRun r2).2 = (rowRun row).2 ∧ Own h0 h' 1 e st (ints w2) ∧ (st ≤ 2 ∨ st < h'.next) ∧ h'.objs = H.objs ∧ h'.nobj = H.nobj ∧
    env = [(1, .sl 1 0 (ints l)), (2, .ptr o 0), (6, .sl e st (ints w2)), (7, .sl 2 sr (r2.map symV)), (8, .int .i64 i)]) ?_ ⟨word, row, e, st, sr, rfl, hb, rfl, rfl, ow, hst, rfl, rfl, rfl⟩
  rintro n env h' ⟨w2, r2, e, st, sr, rfl, hb2, hw, hr, ow2, hst2, ho, hn, rfl⟩
  unfold A.probateref15_Replay.L1
  cases r2 with
  | nil =>
    simp only [rowRun, List.append_nil] at hw hr
    simp
    have := hQ h' e st sr (by rw [← hw]; exact ow2) hst2 ho hn
    rw [← hw, ← hr] at this
    exact this
  | cons s r =>
    obtain ⟨non, n⟩ := s
    cases non with
    | true =>
      simp only [rowRun, List.append_nil, ↓reduceIte] at hw hr
      simp [symV, symC, V.cells, V.good]
      have := hQ h' e st sr (by rw [← hw]; exact ow2) hst2 ho hn
      rw [← hw, ← hr] at this
      exact this
    | false =>
      simp only [rowRun, Bool.false_eq_true, ↓reduceIte] at hw hr
      simp [symV, symC, V.cells, V.good]
      simp only [List.length_cons] at hb2
      refine ow2.appF (by simp) rfl (by simp [ints]; omega) fun o3 => ?_
      simp [V.cells, V.good]
      have em : ints w2 ++ [V.int .i64 n] = ints (w2 ++ [n]) := by simp [ints]
      rw [em] at o3 ⊢
      exact ⟨by omega, r.length, by omega, iv ⟨w2 ++ [n], r, 1, h'.next, _, rfl, by simp; omega, by rw [← hw]; simp, hr, o3, .inr (by rw [push_next]; omega), (push_objs _ _ _).trans ho, (push_nobj _ _ _).trans hn, rfl⟩⟩
theorem rreplay_spec (L : LRp X) (g : Gm) (l : List Int) (hg : GmOk g) (hl : l.length < 2 ^ 40)
    (hQ1 : ∀ s, ReplayOk g l s → Q (.tup [.sl 1 0 (ints s.word), .int .i64 0]) h) (hQ0 : (¬ ∃ s, ReplayOk g l s) → ∀ n, n ≠ 0 → Q (.tup [.sl 0 1 [], .int .i64 n]) h) : Ecx X K.probateref15_Replay [gmV g, .sl 1 0 (ints l)] h Q := by
  refine fn_walk L.replay (by simp [A.probateref15_Replay]) fun wf => ?_
  have w3 : 3 ≤ h.next := wf.next
  have g1 : (gmC g).length = 4 ∧ (gmC g).take 4 = gmC g ∧ (gmC g).getD 2 .undef = .int .i64 g.start ∧ (gmC g).getD 3 .undef = .sl 2 0 (g.prods.map prV) := ⟨rfl, rfl, rfl, rfl⟩
  have gr1 := (Gr.refl h).new (gmC g)
  have ob1 : (h.new (gmC g)).objs h.nobj = gmC g := new_objs_same _ _
  have b1 : h.nobj < (h.new (gmC g)).nobj := by show h.nobj < h.nobj + 1; omega
  simp [A.probateref15_Replay, gmV, V.cells, V.good, g1.1, g1.2.1]
  generalize hH : h.new (gmC g) = H at *
  refine ecall (rright3_spec L.rc.right g ?_)
  by_cases c1 : rightG g = true
  · obtain ⟨p1, p2⟩ := right_parts c1
    by_cases c2 : l.length ≤ 2000
    · have c2' : ¬ (2000 : Int) < l.length := by omega
      simp [c1, c2', ob1, g1, fillV, setAt, V.cells, V.good]
      have ow0 : Own h H 1 1 2 (ints []) := Own.full gr1 1 []
      generalize hR : rowSteps g l [] (rowStart g) = R
      refine loopI (n := l.length + 1) (fun m env h' => ∃ k word row e st sr, k ≤ l.length + 1 ∧ m = l.length + 1 - k ∧ word.length + row.length ≤ 1 + 8 * k ∧ ((k ≤ l.length ∧ rowSteps g (l.drop k) word row = R) ∨ (k = l.length + 1 ∧ R = some (word, row))) ∧
        Own h h' 1 e st (ints word) ∧ (st ≤ 2 ∨ st < h'.next) ∧ h'.objs = H.objs ∧ h'.nobj = H.nobj ∧
        env = [(1, .sl 1 0 (ints l)), (2, .ptr h.nobj 0), (6, .sl e st (ints word)), (7, .sl 2 sr (row.map symV)), (8, .int .i64 (k : Nat))]) ?_
        ⟨0, [], rowStart g, 1, 2, 2, by omega, by omega, by simp [rowStart], .inl ⟨by omega, hR⟩, ow0, .inl (Nat.le_refl _), rfl, rfl, rfl⟩
      rintro m env h' ⟨k, word, row, e, st, sr, hk, rfl, hb, hi, ow, hst, ho, hn, rfl⟩
      unfold A.probateref15_Replay.L0
      by_cases hkl : k ≤ l.length
      · have hkl' : (k : Int) ≤ l.length := by omega
        have hRk : rowSteps g (l.drop k) word row = R := by
          rcases hi with ⟨_, q⟩ | ⟨q, _⟩
          · exact q
          · omega
        have hw1 : IntKind.i64.wrap ((k : Int) + 1) = ((k + 1 : Nat) : Int) := by rw [wrap_i64 (by omega) (by omega)]; rfl
        simp [hkl']
        refine rrep_L1 (h0 := h) (by omega) ow w3 hst (fun h2 e2 st2 sr2 ow2 hst2 ho2 hn2 => ?_)
        have obB : h2.objs h.nobj = gmC g := by rw [ho2, ho]; exact ob1
        have hrl := rowRun_len row
        rw [show l.drop k = l.drop k from rfl] at hRk
        by_cases hke : k = l.length
        · subst hke
          rw [List.drop_length, rowSteps] at hRk
          simp [hw1]
          exact iv ⟨l.length + 1, word ++ (rowRun row).1, (rowRun row).2, e2, st2, sr2, by omega, by omega, by simp; omega, .inr ⟨rfl, hRk.symm⟩, ow2, hst2, by rw [ho2, ho], by rw [hn2, hn], by simp⟩
        · have hkl2 : k < l.length := by omega
          have hkl3 : (k : Int) < l.length := by omega
          have hke' : ¬ (k : Int) = l.length := by omega
          have hgt := ints_getD (l := l) hkl2
          have hge : l.getD k 0 = l[k] := by rw [List.getD_eq_getElem?_getD, List.getElem?_eq_getElem hkl2]; rfl
          rw [hge] at hgt
          rw [List.drop_eq_getElem_cons hkl2, rowSteps] at hRk
          generalize l[k] = i at *
          generalize rowRun row = rr at *
          obtain ⟨t, r⟩ := rr
          simp only at hRk hrl ow2 ⊢
          cases r with
          | nil =>
            simp only at hRk
            have hno : ¬ ∃ s, ReplayOk g l s := fun ⟨s2, q⟩ => by
              have := (replay_row g l s2.word).2 ⟨s2, q.2.2, rfl⟩
              rw [hR, ← hRk] at this; cases this
            simp [hke', hkl3]
            exact fin_wk ow2.gr (.same _) (by simp) (hQ0 hno 2 (by omega))
          | cons s r2 =>
            simp only at hRk
            obtain ⟨non, sn⟩ := s
            have bad : ¬ (0 ≤ i ∧ i < g.prods.length ∧ (prG g i).left = sn) → Q (.tup [.sl 0 1 [], .int .i64 2]) h := fun c => by
              rw [if_neg c] at hRk
              exact hQ0 (fun ⟨s2, q⟩ => by
                have := (replay_row g l s2.word).2 ⟨s2, q.2.2, rfl⟩
                rw [hR, ← hRk] at this; cases this) 2 (by omega)
            have hrn : ¬ ((r2.length : Int) + 1 = 0) := by omega
            by_cases a1 : i < 0
            · simp [hrn, hke', hkl2, hkl3, hgt, a1, obB, g1]
              exact fin_wk ow2.gr (.same _) (by simp) (bad (by omega))
            by_cases a2 : (g.prods.length : Int) ≤ i
            · simp [hrn, hke', hkl2, hkl3, hgt, a1, a2, obB, g1]
              exact fin_wk ow2.gr (.same _) (by simp) (bad (by omega))
            obtain ⟨pn, rfl, hpn, e1, e2'⟩ := prG_get (g := g) (i := i) (by omega) (by omega)
            have a2' : (pn : Int) < g.prods.length := by omega
            by_cases a3 : (prG g pn).left = sn
            · have hs : symV ⟨non, sn⟩ = .agg [.bool non, .int .i64 sn] := rfl
              rw [if_pos ⟨by omega, a2', a3⟩] at hRk
              simp [hrn, hke', hkl2, hkl3, hgt, a1, a2, a2', e2', prV, prC, V.cells, V.good, hs, a3, obB, g1]
              have hpl := p2 pn (by omega) a2'
              have tw : TwoB h h2 1 e2 st2 (ints (word ++ t)) 2 2 2 [] := ⟨ow2, Own.full ow2.gr 2 [], w3, hst2, .inl (Nat.le_refl _), .inr (.inl (Nat.le_refl _))⟩
              refine tw.appBZ (fun _ => rfl) (by simp; omega) fun st3 h3 tw3 o3 n3 => ?_
              simp
              refine ⟨by omega, ?_⟩
              refine tw3.appBZ (fun _ => rfl) (by simp only [List.nil_append, List.length_map, List.length_cons] at hrl ⊢; omega) fun st4 h4 tw4 o4 n4 => ?_
              simp [hw1]
              exact ⟨l.length + 1 - (k + 1), by omega, iv ⟨k + 1, word ++ t, (prG g pn).right ++ r2, e2, st2, st4, by omega, rfl, by simp at hrl ⊢; omega, .inl ⟨by omega, hRk⟩, tw4.a, tw4.ba, by rw [o4, o3, ho2, ho], by rw [n4, n3, hn2, hn], by simp⟩⟩
            · have hs : symV ⟨non, sn⟩ = .agg [.bool non, .int .i64 sn] := rfl
              simp [hrn, hke', hkl2, hkl3, hgt, a1, a2, a2', e2', prV, prC, V.cells, V.good, hs, a3, obB, g1]
              exact fin_wk ow2.gr (.same _) (by simp) (bad (fun q => a3 q.2.2))
      · have hkl' : ¬ (k : Int) ≤ l.length := by omega
        have hRk : R = some (word, row) := by
          rcases hi with ⟨q, _⟩ | ⟨_, q⟩
          · omega
          · exact q
        rw [hRk] at hR
        cases row with
        | nil =>
          obtain ⟨s, hs, hsw⟩ := (replay_row g l word).1 hR
          have hq := hQ1 s ⟨c1, c2, hs⟩
          rw [hsw] at hq
          simp [hkl']
          exact fin_wk ow.gr (Wk.tt ow.wk (.same _)) (by simp; exact Bdd_ints _ _ _) hq
        | cons s r =>
          have hno : ¬ ∃ s, ReplayOk g l s := fun ⟨s2, q⟩ => by
            have := (replay_row g l s2.word).2 ⟨s2, q.2.2, rfl⟩
            rw [hR] at this; simp at this
          simp [hkl']
          exact fin_wk ow.gr (.same _) (by simp) (hQ0 hno 3 (by omega))
    · have c2' : (2000 : Int) < l.length := by omega
      simp [c1, c2']
      exact fin_wk gr1 (.same _) (by simp) (hQ0 (fun ⟨s, q⟩ => c2 q.2.1) 5 (by omega))
  · have c1' : rightG g = false := by simpa using c1
    simp [c1']
    exact fin_wk gr1 (.same _) (by simp) (hQ0 (fun ⟨s, q⟩ => c1 q.1) 1 (by omega))
end
end Go.Proofs.Ytajaoldljichaaa.Al
namespace Go.Proofs.Ytajaoldljichaaa.Al
open Go Go.RowKit
set_option linter.unusedSimpArgs false
set_option linter.unusedVariables false
attribute [-simp] List.getD_eq_getElem?_getD Int.not_lt Int.not_le List.map_take
/-- From a step and a place, symbols come by these nodes; their places; then the next step and place. -/
inductive DS (g : Gm) (l : List Int) : List Sy → Nat → Int → List Int → List Dn → Nat → Int → Prop where
  | nil (i : Nat) (a : Int) : DS g l [] i a [] [] i a
  | term (n : Int) {r : List Sy} {i : Nat} {a : Int} {ps : List Int} {ds : List Dn} {i' : Nat} {a' : Int} (h : DS g l r i (a + 1) ps ds i' a') : DS g l (⟨false, n⟩ :: r) i a (a :: ps) ds i' a'
  | non (n q : Int) {r : List Sy} {i : Nat} {a : Int} {ps1 ps2 : List Int} {ds1 ds2 : List Dn} {i1 i2 : Nat} {a1 a2 : Int} (hi : l[i]? = some q) (q0 : 0 ≤ q) (q1 : q < g.prods.length) (hl : (prG g q).left = n)
      (h1 : DS g l (prG g q).right (i + 1) a ps1 ds1 i1 a1) (h2 : DS g l r i1 a1 ps2 ds2 i2 a2) : DS g l (⟨true, n⟩ :: r) i a (a :: ps2) (⟨q, ps1 ++ [a1]⟩ :: ds1 ++ ds2) i2 a2
def mach (g : Gm) (l : List Int) (s : Rp) : Option Rp := match stepsR g l s with
  | some s => match runS s with
    | (none, s') => some s'
    | (some _, _) => none
  | none => none
theorem mach_run {g : Gm} {l : List Int} {s s' : Rp} (h : runS s = runS s') : mach g l s = mach g l s' := by
  cases l with
  | nil => simp only [mach, stepsR, h]
  | cons i l => simp only [mach, stepsR, stepR, h]
theorem mach_fin {g : Gm} {l : List Int} {p : Pt} {td : List Pt} {w : List Int} {ns : List Dn} (h : p.fin = true) : mach g l ⟨p :: td, w, ns⟩ = mach g l ⟨td, w, (hereR ⟨td, w, ns⟩ p).nodes⟩ :=
  mach_run (by rw [runS, runS, runR]; simp [h])
theorem mach_term {g : Gm} {l : List Int} {p : Pt} {td : List Pt} {w : List Int} {ns : List Dn} (h : p.fin = false) (h2 : p.sym.non = false) : mach g l ⟨p :: td, w, ns⟩ = mach g l ⟨td, w ++ [p.sym.n], (hereR ⟨td, w, ns⟩ p).nodes⟩ :=
  mach_run (by rw [runS, runS, runR]; simp [h, h2])
theorem mach_non {g : Gm} {l : List Int} {p : Pt} {td : List Pt} {w : List Int} {ns : List Dn} {sF : Rp} (h : p.fin = false) (h2 : p.sym.non = true) (hm : mach g l ⟨p :: td, w, ns⟩ = some sF) :
    ∃ i l', l = i :: l' ∧ 0 ≤ i ∧ i < g.prods.length ∧ (prG g i).left = p.sym.n ∧ mach g l' (openR g ⟨td, w, (hereR ⟨td, w, ns⟩ p).nodes⟩ i) = some sF := by
  have hr : runS ⟨p :: td, w, ns⟩ = (some p.sym.n, ⟨td, w, (hereR ⟨td, w, ns⟩ p).nodes⟩) := by rw [runS, runR]; simp [h, h2]
  cases l with
  | nil => simp only [mach, stepsR, hr] at hm; cases hm
  | cons i l =>
    simp only [mach, stepsR, stepR, hr] at hm
    by_cases c : 0 ≤ i ∧ i < g.prods.length ∧ (prG g i).left = p.sym.n
    · rw [if_pos c] at hm
      exact ⟨i, l, rfl, c.1, c.2.1, c.2.2, hm⟩
    · rw [if_neg c] at hm; cases hm
theorem mod_left (f : Dn → Dn) (ms : List Dn) : ∀ (ns : List Dn) (n : Nat), n < ns.length → (ns ++ ms).modify n f = ns.modify n f ++ ms
  | [], n, h => by simp at h
  | d :: ns, 0, h => by simp
  | d :: ns, n + 1, h => by
    simp only [List.cons_append, List.modify_succ_cons]
    rw [mod_left f ms ns n (by simpa using h)]
theorem mod_right (f : Dn → Dn) (d : Dn) (ms : List Dn) : ∀ ns : List Dn, (ns ++ d :: ms).modify ns.length f = ns ++ f d :: ms
  | [] => by simp
  | e :: ns => by
    simp only [List.cons_append, List.length_cons, List.modify_succ_cons]
    rw [mod_right f d ms ns]
def updA (ns : List Dn) (n : Int) (ps : List Int) : List Dn := if 0 ≤ n then ns.modify n.toNat fun d => { d with at' := d.at' ++ ps } else ns
theorem here_upd (td : List Pt) (w : List Int) (ns : List Dn) (p : Pt) : (hereR ⟨td, w, ns⟩ p).nodes = updA ns p.node [(w.length : Int)] := by
  unfold hereR updA; split <;> rfl
theorem updA_len (ns : List Dn) (n : Int) (ps : List Int) : (updA ns n ps).length = ns.length := by unfold updA; split <;> simp
theorem updA_nil (ns : List Dn) (n : Int) : updA ns n [] = ns := by
  unfold updA; split
  · have : (fun d : Dn => { d with at' := d.at' ++ [] }) = id := by funext d; simp
    rw [this]; simp
  · rfl
theorem updA_two (ns : List Dn) (n : Int) (ps qs : List Int) : updA (updA ns n ps) n qs = updA ns n (ps ++ qs) := by
  unfold updA; split
  · rw [List.modify_modify_eq]; congr 1; funext d; simp
  · rfl
theorem updA_app (ns ms : List Dn) (n : Int) (ps : List Int) (h : n < ns.length) : updA (ns ++ ms) n ps = updA ns n ps ++ ms := by
  unfold updA; split
  · rw [mod_left _ _ _ _ (by omega)]
  · rfl
theorem updA_last (ns : List Dn) (d : Dn) (ms : List Dn) (ps : List Int) : updA (ns ++ d :: ms) (ns.length : Int) ps = ns ++ { d with at' := d.at' ++ ps } :: ms := by
  unfold updA
  rw [if_pos (by omega), show ((ns.length : Int)).toNat = ns.length by omega, mod_right]
theorem mach_DS (g : Gm) (l : List Int) (sF : Rp) (i : Nat) (r : List Sy) (w : List Int) (ns : List Dn) (rest : List Pt) (n : Int) (hn : n < ns.length) (hm : mach g (l.drop i) ⟨r.map (fun y => ⟨y, n, false⟩) ++ rest, w, ns⟩ = some sF) :
    ∃ ps ds i' w', DS g l r i w.length ps ds i' (w'.length : Nat) ∧ i ≤ i' ∧ mach g (l.drop i') ⟨rest, w', updA ns n ps ++ ds⟩ = some sF := by
  match r with
  | [] => exact ⟨[], [], i, w, .nil i _, Nat.le_refl _, by rw [updA_nil, List.append_nil]; exact hm⟩
  | ⟨false, m⟩ :: r =>
    rw [List.map_cons, List.cons_append, mach_term rfl rfl, here_upd] at hm
    obtain ⟨ps, ds, i', w', h1, h2, h3⟩ := mach_DS g l sF i r _ _ rest n (by rw [updA_len]; exact hn) hm
    refine ⟨w.length :: ps, ds, i', w', .term m ?_, h2, ?_⟩
    · rw [List.length_append] at h1; simpa using h1
    · rw [updA_two] at h3; exact h3
  | ⟨true, m⟩ :: r =>
    rw [List.map_cons, List.cons_append] at hm
    obtain ⟨q, l', hl, q0, q1, hq, hm⟩ := mach_non rfl rfl hm
    rw [here_upd, openR] at hm
    have hil : i < l.length := by
      by_cases c : i < l.length
      · exact c
      · rw [List.drop_eq_nil_of_le (by omega)] at hl; cases hl
    have hl2 : l.drop i = l[i] :: l.drop (i + 1) := List.drop_eq_getElem_cons hil
    rw [hl2] at hl
    injection hl with e1 e2
    subst e2
    simp only at hm hq
    obtain ⟨ps1, ds1, i1, w1, a1, a2, a3⟩ := mach_DS g l sF (i + 1) (prG g q).right w (updA ns n [(w.length : Int)] ++ [⟨q, []⟩]) _ ((updA ns n [(w.length : Int)]).length : Nat) (by simp; omega) hm
    rw [mach_fin rfl, here_upd, updA_last, List.append_assoc, List.singleton_append] at a3
    simp only [List.nil_append] at a3
    rw [updA_last] at a3
    obtain ⟨ps2, ds2, i2, w2, b1, b2, b3⟩ := mach_DS g l sF i1 r w1 _ rest n (by simp [updA_len]; omega) a3
    rw [updA_app _ _ _ _ (by rw [updA_len]; exact hn), updA_two] at b3
    refine ⟨w.length :: ps2, _, i2, w2, .non m q (by rw [List.getElem?_eq_getElem hil, e1]) q0 q1 hq a1 b1, by omega, ?_⟩
    simpa using b3
termination_by (l.length - i, r.length)
theorem replay_DS {g : Gm} {l : List Int} {s : Rp} (h : replayR g l = some s) : ∃ (q : Int) (ps : List Int) (i' : Nat), l[0]? = some q ∧ 0 ≤ q ∧ q < g.prods.length ∧ ∃ ds a', DS g l (prG g q).right 1 0 ps ds i' a' ∧ s.nodes = ⟨q, ps ++ [a']⟩ :: ds := by
  have hm : mach g (l.drop 0) ⟨[⟨true, g.start⟩].map (fun y => ⟨y, -1, false⟩) ++ [], [], []⟩ = some s := h
  obtain ⟨ps, ds, i', w', h1, h2, h3⟩ := mach_DS g l s 0 _ [] [] [] (-1) (by simp) hm
  have hs : s.nodes = ds := by
    have hr : runS ⟨[], w', updA [] (-1) ps ++ ds⟩ = (none, ⟨[], w', ds⟩) := rfl
    cases hd : l.drop i' with
    | nil => rw [hd] at h3; simp only [mach, stepsR, hr] at h3; injection h3 with h3; rw [← h3]
    | cons x y => rw [hd] at h3; simp only [mach, stepsR, stepR, hr] at h3; cases h3
  cases h1 with
  | non _ q hi q0 q1 hl d1 d2 =>
    cases d2
    rw [hs]
    exact ⟨q, _, _, hi, q0, q1, _, _, d1, by simp⟩
end Go.Proofs.Ytajaoldljichaaa.Al
namespace Go.Proofs.Ytajaoldljichaaa.Al
def A.probateref15_build_o.L0 : AC := .post (.seq (.seq (.reg [⟨(some 39), none, .mv (.t 16)⟩, ⟨(some 40), none, .mv (.t 14)⟩, ⟨(some 41), none, .len false (.t 40)⟩, ⟨(some 42), none, .bin .lss (.t 39) (.t 41)⟩])
  (.keep [1, 2, 3, 4, 5, 13, 14, 15, 16, 42] (.cond (.t 42) .skip (.exit 0))))
  (.keep [1, 2, 3, 4, 5, 13, 14, 15, 16] (.seq (.block 1 (.seq (.reg [⟨(some 45), none, .mv (.t 15)⟩, ⟨(some 46), none, .mv (.t 3)⟩, ⟨(some 47), none, .bsl 1 false [(.int .i64 (0))] 1 [(0, (.t 46))]⟩, ⟨(some 48), none, .app 1 8 (.t 45) (.t 47)⟩, ⟨(some 15), none, .mv (.t 48)⟩])
  (.keep [1, 2, 3, 4, 5, 13, 14, 15, 16] (.seq (.reg [⟨(some 49), none, .mv (.t 14)⟩, ⟨(some 50), none, .mv (.t 16)⟩, ⟨(some 51), none, .ia 2 (.t 49) (.t 50)⟩, ⟨(some 52), none, .fa 0 (.t 51)⟩, ⟨(some 53), none, .load false 1 (.t 52)⟩])
  (.keep [1, 2, 3, 4, 5, 13, 14, 15, 16, 53] (.cond (.t 53) (.reg [⟨(some 55), none, .load true 4 (.t 5)⟩, ⟨(some 56), none, .mv (.t 1)⟩, ⟨(some 57), none, .mv (.t 2)⟩, ⟨(some 58), none, .mv (.t 3)⟩, ⟨(some 59), none, .mv (.t 4)⟩, ⟨(some 60), none, .call (.c (.fn K.probateref15_build [] [])) [(.t 55), (.t 56), (.t 57), (.t 58), (.t 59)]⟩, ⟨(some 54), none, .mv (.t 60)⟩, ⟨(some 61), none, .ext (.t 54) 0⟩, ⟨(some 62), none, .ext (.t 54) 1⟩, ⟨(some 63), none, .ext (.t 54) 2⟩, ⟨(some 4), none, .mv (.t 61)⟩, ⟨(some 2), none, .mv (.t 62)⟩, ⟨(some 3), none, .mv (.t 63)⟩]) (.reg [⟨(some 64), none, .mv (.t 3)⟩, ⟨(some 65), none, .bin .add (.t 64) (.c (.int .i64 (1)))⟩, ⟨(some 3), none, .mv (.t 65)⟩])))))))
  (.keep [1, 2, 3, 4, 5, 13, 14, 15, 16] (.reg [⟨(some 43), none, .mv (.t 16)⟩, ⟨(some 44), none, .bin .add (.t 43) (.c (.int .i64 (1)))⟩, ⟨(some 16), none, .mv (.t 44)⟩]))))) [1, 2, 3, 4, 5, 13, 14, 15, 16]
def A.probateref15_build_o : AFn := ⟨77, [(10, none), (11, none), (12, none)], (.seq (.reg [⟨(some 5), none, .box (.t 0)⟩, ⟨(some 10), none, .mv (.c (.sl 0 1 []))⟩, ⟨(some 11), none, .mv (.c (.int .i64 (0)))⟩, ⟨(some 12), none, .mv (.c (.int .i64 (0)))⟩])
  (.keep [1, 2, 3, 4, 5] (.seq (.reg [⟨(some 17), none, .mv (.t 4)⟩, ⟨(some 18), none, .len false (.t 17)⟩, ⟨(some 13), none, .mv (.t 18)⟩])
  (.keep [1, 2, 3, 4, 5, 13] (.seq (.reg [⟨(some 19), none, .mv (.t 4)⟩, ⟨(some 20), none, .mv (.t 1)⟩, ⟨(some 21), none, .mv (.t 2)⟩, ⟨(some 22), none, .ia 1 (.t 20) (.t 21)⟩, ⟨(some 23), none, .load false 1 (.t 22)⟩, ⟨(some 24), none, .bld [(.int .i64 (0)), (.sl 0 1 [])] [(0, 1, (.t 23))]⟩, ⟨(some 25), none, .bsl 2 true [(.int .i64 (0)), (.sl 0 1 [])] 1 [(0, (.t 24))]⟩, ⟨(some 26), none, .appg 2 32 (.t 19) (.t 25)⟩, ⟨(some 4), none, .mv (.t 26)⟩])
  (.keep [1, 2, 3, 4, 5, 13] (.seq (.draw [(.pl, ⟨(some 27), none, .fa 3 (.t 5)⟩), (.pl, ⟨(some 28), none, .load false 1 (.t 27)⟩), (.pl, ⟨(some 29), none, .mv (.t 1)⟩), (.pl, ⟨(some 30), none, .mv (.t 2)⟩), (.pl, ⟨(some 31), none, .ia 1 (.t 29) (.t 30)⟩), (.pl, ⟨(some 32), none, .load false 1 (.t 31)⟩), (.pl, ⟨(some 33), none, .ia 2 (.t 28) (.t 32)⟩), (.pl, ⟨(some 34), none, .fa 1 (.t 33)⟩), (.pl, ⟨(some 35), none, .load false 1 (.t 34)⟩), (.pl, ⟨(some 14), none, .mv (.t 35)⟩)])
  (.keep [1, 2, 3, 4, 5, 13, 14] (.seq (.reg [⟨(some 36), none, .bsl 1 false [(.int .i64 (0))] 0 []⟩, ⟨(some 15), none, .mv (.t 36)⟩])
  (.keep [1, 2, 3, 4, 5, 13, 14, 15] (.seq (.reg [⟨(some 37), none, .mv (.t 2)⟩, ⟨(some 38), none, .bin .add (.t 37) (.c (.int .i64 (1)))⟩, ⟨(some 2), none, .mv (.t 38)⟩])
  (.keep [1, 2, 3, 4, 5, 13, 14, 15] (.seq (.seq (.reg [⟨(some 16), none, .mv (.c (.int .i64 (0)))⟩])
  (.keep [1, 2, 3, 4, 5, 13, 14, 15, 16] (.block 0 (.loop A.probateref15_build_o.L0))))
  (.keep [2, 3, 4, 13, 15] (.seq (.reg [⟨(some 66), none, .mv (.t 4)⟩, ⟨(some 67), none, .mv (.t 13)⟩, ⟨(some 68), none, .mv (.t 15)⟩, ⟨(some 69), none, .mv (.t 3)⟩, ⟨(some 70), none, .bsl 1 false [(.int .i64 (0))] 1 [(0, (.t 69))]⟩, ⟨(some 71), none, .app 1 8 (.t 68) (.t 70)⟩, ⟨(some 72), none, .ia 2 (.t 66) (.t 67)⟩, ⟨(some 73), none, .fa 1 (.t 72)⟩, ⟨none, none, .store 1 (.t 73) (.t 71)⟩])
  (.keep [2, 3, 4] (.seq (.reg [⟨(some 74), none, .mv (.t 4)⟩, ⟨(some 75), none, .mv (.t 2)⟩, ⟨(some 76), none, .mv (.t 3)⟩, ⟨(some 10), none, .mv (.t 74)⟩, ⟨(some 11), none, .mv (.t 75)⟩, ⟨(some 12), none, .mv (.t 76)⟩]) .ret)))))))))))))))))⟩
end Go.Proofs.Ytajaoldljichaaa.Al
namespace Go.Proofs.Ytajaoldljichaaa.Al
open Go Go.RowKit
set_option linter.unusedSimpArgs false
set_option linter.unusedVariables false
attribute [-simp] List.getD_eq_getElem?_getD Int.not_lt Int.not_le List.map_take
theorem DS.le {g : Gm} {l : List Int} {r : List Sy} {i : Nat} {a : Int} {ps : List Int} {ds : List Dn} {i' : Nat} {a' : Int} (d : DS g l r i a ps ds i' a') : i ≤ i' ∧ a ≤ a' ∧ ps.length = r.length := by
  induction d with
  | nil i a => exact ⟨Nat.le_refl _, Int.le_refl _, rfl⟩
  | term n h ih => simp; omega
  | non n q hi q0 q1 hl h1 h2 ih1 ih2 => simp; omega
theorem DS.cnt {g : Gm} {l : List Int} (hp : ∀ i : Int, 0 ≤ i → i < g.prods.length → (prG g i).right.length ≤ 8) {r : List Sy} {i : Nat} {a : Int} {ps : List Int} {ds : List Dn} {i' : Nat} {a' : Int} (d : DS g l r i a ps ds i' a') :
    i' = i + ds.length ∧ (i ≤ l.length → i' ≤ l.length) ∧ a' ≤ a + r.length + 8 * ds.length := by
  induction d with
  | nil i a => simp
  | term n h ih => simp at ih ⊢; omega
  | non n q hi q0 q1 hl h1 h2 ih1 ih2 =>
    rename_i i0 _ _ _ _ _ _ _ _ _
    have := hp q q0 q1
    have hil : i0 < l.length := by
      by_cases c : i0 < l.length
      · exact c
      · rw [List.getElem?_eq_none (by omega)] at hi; cases hi
    simp only [List.length_append, List.length_cons] at *
    push_cast
    omega
structure NdX (h : AH) (N : V) (ns : List Dn) (u : Nat) (as : List (Nat × Nat)) : Prop where
  n : NdsH h N ns u as
  u : N.isOsl = true → u < h.nobj
  e : ∀ i (h1 : i < ns.length) (h2 : i < as.length), ns[i].at' = [] ∨ as[i].1 = 1
def osN (N : V) (u : Nat) : List Nat := if N.isOsl = true then [u] else []
theorem NdX.len {h : AH} {N : V} {ns : List Dn} {u : Nat} {as : List (Nat × Nat)} (x : NdX h N ns u as) : ns.length = as.length := by
  rcases x.n with ⟨e, _, h1, h2⟩ | ⟨c, _, _, _, _, h, _⟩
  · rw [h1, h2]; rfl
  · exact h
theorem NdX.osl {h : AH} {N : V} {ns : List Dn} {u : Nat} {as : List (Nat × Nat)} (x : NdX h N ns u as) (hn : ns ≠ []) : N.isOsl = true := by
  rcases x.n with ⟨e, _, h1, _⟩ | ⟨c, e, _⟩
  · exact absurd h1 hn
  · rw [e]; rfl
theorem NdX.fr {h h' : AH} {os : List Nat} {N : V} {ns : List Dn} {u : Nat} {as : List (Nat × Nat)} (x : NdX h N ns u as) (f : FrO os h h') (hu : N.isOsl = true → u ∉ os) : NdX h' N ns u as := by
  refine ⟨?_, fun q => Nat.lt_of_lt_of_le (x.u q) f.nobj, x.e⟩
  rcases x.n with q | ⟨c, e, h1, h2, h3, h4, h5⟩
  · exact .inl q
  · have := f.objs u (x.u (by rw [e]; rfl)) (hu (by rw [e]; rfl))
    exact .inr ⟨c, e, h1, h2, by rw [this]; exact h3, h4, by rw [this]; exact h5⟩
theorem NdX.app {h : AH} {N : V} {ns : List Dn} {u : Nat} {as : List (Nat × Nat)} (x : NdX h N ns u as) (q : Int) (hn : ns.length < 2 ^ 30) :
    appgK 2 32 N (some (2, 1, [.int .i64 q, .sl 0 1 []])) h fun v h' => ∃ u' as' c, v = .osl 2 u' 0 (ns.length + 1) c ∧ NdX h' v (ns ++ [⟨q, []⟩]) u' as' ∧ (u' ∈ osN N u ∨ h.nobj ≤ u') ∧ FrO (osN N u) h h' := by
  have hlen := x.len
  have he : ∀ (as' : List (Nat × Nat)), as' = as ++ [(0, 1)] → ∀ i (h1 : i < (ns ++ [(⟨q, []⟩ : Dn)]).length) (h2 : i < as'.length), (ns ++ [(⟨q, []⟩ : Dn)])[i].at' = [] ∨ as'[i].1 = 1 := by
    rintro as' rfl i h1 h2
    by_cases c : i < ns.length
    · rw [List.getElem_append_left c, List.getElem_append_left (by omega)]
      exact x.e i c (by omega)
    · left
      rw [List.getElem_append_right (by omega)]
      have : i - ns.length = 0 := by simp at h1; omega
      simp [this]
  rcases x.n with ⟨e, rfl, hnil, has⟩ | ⟨cp, rfl, cne, cle, cl, la, ct⟩
  · subst hnil
    subst has
    refine ⟨by omega, rfl, .inl rfl, rfl, by omega, fun c hc => ⟨h.nobj, [(0, 1)], c, rfl, ⟨.inr ⟨c, rfl, by omega, by simpa using hc, ?_, rfl, ?_⟩, fun _ => by show h.nobj < h.nobj + 1; omega, he _ rfl⟩, .inr (Nat.le_refl _), (((Gr.refl h).new _).frO _)⟩⟩
    · rw [new_objs_same]; simp; omega
    · rw [new_objs_same]; simp [dnsC, dnC, ints]
  · have hu := x.u rfl
    have hdl := dnsC_len ns as la
    refine ⟨by omega, rfl, rfl, cne, by omega, by omega, fun hle => ⟨u, as ++ [(0, 1)], cp, rfl, ⟨.inr ⟨cp, by simp, cne, by simpa using hle, ?_, by simp [la], ?_⟩, fun _ => hu, he _ rfl⟩, .inl (by simp [osN, V.isOsl]), FrO.set (FrO.refl _ h) (by simp [osN, V.isOsl]) _⟩, fun hgt c hc => ⟨h.nobj, as ++ [(0, 1)], c, rfl, ⟨.inr ⟨c, by simp, by omega, by simpa using hc, ?_, by simp [la], ?_⟩, fun _ => by show h.nobj < h.nobj + 1; omega, he _ rfl⟩, .inr (Nat.le_refl _), (((Gr.refl h).new _).frO _)⟩⟩
    · rw [set_objs_same, setAt_length]; exact cl
    · have hcl : 0 + ns.length * 2 + [V.int .i64 q, V.sl 0 1 []].length ≤ (h.objs u).length := by simp; omega
      rw [set_objs_same, dnsC_snoc _ _ la, ← ct]
      refine List.ext_getElem? fun j => ?_
      rw [List.getElem?_take, List.getElem?_append, List.length_take]
      simp only [List.length_append, List.length_cons, List.length_nil]
      by_cases hq : j < (ns.length + (0 + 1)) * 2
      · rw [if_pos hq, setAt_getElem? _ _ _ _ hcl]
        by_cases hq2 : j < ns.length * 2
        · rw [if_neg (by omega), if_pos (by omega), List.getElem?_take, if_pos hq2]
        · rw [if_pos (by simp; omega), if_neg (by omega)]
          simp only [dnC, ints, List.map_nil]
          congr 1; omega
      · rw [if_neg hq, if_neg (by omega), List.getElem?_eq_none (by simp [dnC]; omega)]
    · rw [new_objs_same]
      simp; omega
    · have htk : ((h.objs u).drop 0).take (ns.length * 2) = dnsC ns as := by rw [List.drop_zero]; exact ct
      rw [new_objs_same, htk, dnsC_snoc _ _ la]
      rw [List.take_append_of_le_length (by simp [hdl]; omega), List.take_of_length_le (by simp [hdl]; omega)]
      rfl
/-- The places of a node are laid. -/
theorem NdX.put {h : AH} {N : V} {ns : List Dn} {u : Nat} {as : List (Nat × Nat)} (x : NdX h N ns u as) {n : Nat} (hn : n < ns.length) (st : Nat) (at' : List Int) :
    NdX (h.set u (setAt (h.objs u) (n * 2 + 1) [.sl 1 st (ints at')])) N (ns.set n ⟨ns[n].prod, at'⟩) u (as.set n (1, st)) := by
  have hlen := x.len
  refine ⟨?_, x.u, fun i h1 h2 => ?_⟩
  · rcases x.n with ⟨e, _, hnil, _⟩ | ⟨cp, rfl, cne, cle, cl, la, ct⟩
    · subst hnil; simp at hn
    · have hdl := dnsC_len ns as la
      have hcl : n * 2 + 1 + [V.sl 1 st (ints at')].length ≤ (h.objs u).length := by simp; omega
      refine .inr ⟨cp, by simp, cne, by simpa using cle, by rw [set_objs_same, setAt_length]; exact cl, by simpa using la, ?_⟩
      rw [set_objs_same, ← dnsC_set ns as la n hn ⟨ns[n].prod, at'⟩ (1, st) rfl, ← ct]
      refine List.ext_getElem? fun j => ?_
      rw [List.getElem?_take, setAt_getElem? _ _ _ _ hcl, List.getElem?_set, List.length_take, List.getElem?_take]
      simp only [List.length_set, List.length_cons, List.length_nil]
      by_cases c : j = n * 2 + 1
      · subst c
        rw [if_pos (by omega), if_pos (by omega), if_pos rfl, if_pos (by omega)]; simp
      · by_cases hj : j < ns.length * 2
        · simp only [hj, ↓reduceIte]
          rw [if_neg (by omega), if_neg (fun e => c e.symm)]
        · simp only [hj, ↓reduceIte]
          rw [if_neg (fun e => c e.symm)]
  · rw [List.length_set] at h1 h2
    rw [List.getElem_set, List.getElem_set]
    split
    · exact .inr rfl
    · exact x.e i h1 h2
structure LRb (X : Cx) : Prop where
  rp : LRp X
  build : Has (Ecx X) K.probateref15_build A.probateref15_build_o
  nodes : Has (Ecx X) K.probateref15_Nodes A.probateref15_Nodes
theorem FrO.push {os : List Nat} {a b : AH} (f : FrO os a b) {st : Nat} (hs : st ≤ 2 ∨ a.next ≤ st) (e : Nat) : FrO os a (b.push st e) := by
  refine ⟨by rw [push_next]; have := f.next; omega, by rw [push_nobj]; exact f.nobj, fun o ho hn => by rw [push_objs]; exact f.objs o ho hn, fun s hs' => ?_⟩
  have hne : s ≠ b.next := by have := f.next; omega
  rw [← f.tips s hs']
  unfold AH.push
  split
  · exact updN_ne _ _ hne
  · have e1 : ((b.drop st).grow e).tips s = (b.drop st).tips s := updN_ne _ _ hne
    rw [e1]; exact updN_ne _ _ (by omega)
theorem FrO.comp {os os2 : List Nat} {a b c : AH} (x : FrO os a b) (y : FrO os2 b c) (h : ∀ o ∈ os2, o ∈ os ∨ a.nobj ≤ o) : FrO os a c :=
  ⟨Nat.le_trans x.next y.next, Nat.le_trans x.nobj y.nobj, fun o ho hn => (y.objs o (Nat.lt_of_lt_of_le ho x.nobj) (fun q => by rcases h o q with q | q; exact hn q; omega)).trans (x.objs o ho hn), fun s hs => (y.tips s (Nat.lt_of_lt_of_le hs x.next)).trans (x.tips s hs)⟩
theorem OwnS.frO {os : List Nat} {h0 h h2 : AH} {e st : Nat} {l : List Int} (o : OwnS h0 h e st l) (f : FrO os h h2) : OwnS h0 h2 e st l := by
  refine ⟨o.1, ?_⟩
  rcases o.2 with h1 | h1 | ⟨h1, h2, h3⟩
  · exact .inl h1
  · exact .inr (.inl h1)
  · exact .inr (.inr ⟨(f.tips _ h3).trans h1, h2, Nat.lt_of_lt_of_le h3 f.next⟩)
/-- An append to a slice of numbers that this call has made. -/
theorem OwnS.app {os : List Nat} {h0 h : AH} {e st : Nat} {l : List Int} (o : OwnS h0 h e st l) (f : FrO os h0 h) (x : Int) (hb : l.length < 2 ^ 40) {K : V → AH → Prop} {zK : Lz K}
    (hk : ∀ st' h', OwnS h0 h' 1 st' (l ++ [x]) → FrO os h0 h' → h'.objs = h.objs → h'.nobj = h.nobj → K (.sl 1 st' (ints (l ++ [x]))) h') : App h 1 8 e st (ints l) 1 [.int .i64 x] zK := by
  have em : ints l ++ [V.int .i64 x] = ints (l ++ [x]) := by simp [ints]
  refine ⟨fun h1 => (by cases h1), fun _ => ⟨?_, o.1.imp (fun q => by rw [q]; rfl) id, rfl, by simp [ints]; omega, ?_⟩⟩
  · exact o.2.imp id (Or.imp id fun q => q.1)
  · have := hk h.next (h.push st 1) ⟨.inr rfl, .inr (.inr ⟨push_new h st 1, f.next, by rw [push_next]; omega⟩)⟩ (f.push o.st_push 1) (push_objs _ _ _) (push_nobj _ _ _)
    rw [← em] at this; exact this
theorem NdX.same {h h' : AH} {N : V} {ns : List Dn} {u : Nat} {as : List (Nat × Nat)} (x : NdX h N ns u as) (o : h'.objs = h.objs) (n : h'.nobj = h.nobj) : NdX h' N ns u as := by
  refine ⟨?_, fun q => by rw [n]; exact x.u q, x.e⟩
  rcases x.n with q | ⟨c, e, q1, q2, q3, q4, q5⟩
  · exact .inl q
  · exact .inr ⟨c, e, q1, q2, by rw [o]; exact q3, q4, by rw [o]; exact q5⟩
theorem build_fin {h h2 h4 : AH} {N N3 : V} {u u2 u3 st4 : Nat} {as3 : List (Nat × Nat)} {ns ds : List Dn} {q : Int} {at' : List Int} (f : FrO (osN N u) h h2) (hu2 : u2 ∈ osN N u ∨ h.nobj ≤ u2) (fr4 : FrO [u2] h2 h4) (hu3 : u3 = u2 ∨ h2.nobj ≤ u3)
    (x4 : NdX h4 N3 (ns ++ [(⟨q, []⟩ : Dn)] ++ ds) u3 as3) : FrO (osN N u) h (h4.set u3 (setAt (h4.objs u3) (ns.length * 2 + 1) [.sl 1 st4 (ints at')])) ∧
      NdX (h4.set u3 (setAt (h4.objs u3) (ns.length * 2 + 1) [.sl 1 st4 (ints at')])) N3 (ns ++ ⟨q, at'⟩ :: ds) u3 (as3.set ns.length (1, st4)) ∧ (u3 ∈ osN N u ∨ h.nobj ≤ u3) := by
  have hu : u3 ∈ osN N u ∨ h.nobj ≤ u3 := by
    rcases hu3 with rfl | q
    · exact hu2
    · exact .inr (Nat.le_trans f.nobj q)
  have f2 : FrO (osN N u) h h4 := f.comp fr4 (fun o q => by simp at q; subst q; exact hu2)
  refine ⟨?_, ?_, hu⟩
  · rcases hu with q | q
    · exact f2.set q _
    · exact f2.setN q _
  · have := x4.put (n := ns.length) (by simp) st4 at'
    have e : (ns ++ [(⟨q, []⟩ : Dn)] ++ ds).set ns.length ⟨((ns ++ [(⟨q, []⟩ : Dn)] ++ ds)[ns.length]'(by simp)).prod, at'⟩ = ns ++ ⟨q, at'⟩ :: ds := by simp
    rw [e] at this
    exact this
/-- build tells what a derivation lays, from step i on, where at most m steps are left. -/
def BuildAt (X : Cx) (g : Gm) (l : List Int) (m : Nat) : Prop :=
  ∀ {h : AH} {Q : V → AH → Prop} {i : Nat} {q : Int} {a : Int} {ps : List Int} {ds : List Dn} {i' : Nat} {a' : Int} {N : V} {ns : List Dn} {u : Nat} {as : List (Nat × Nat)}, l.length - i ≤ m → l[i]? = some q → 0 ≤ q → q < g.prods.length →
      DS g l (prG g q).right (i + 1) a ps ds i' a' → 0 ≤ a → a' < 2 ^ 40 → ns.length + 1 + ds.length < 2 ^ 20 → NdX h N ns u as →
      (∀ h' N' u' as', FrO (osN N u) h h' → NdX h' N' (ns ++ ⟨q, ps ++ [a']⟩ :: ds) u' as' → (u' ∈ osN N u ∨ h.nobj ≤ u') → Q (.tup [N', .int .i64 (i' : Nat), .int .i64 a']) h') →
      Ecx X K.probateref15_build [gmV g, .sl 1 0 (ints l), .int .i64 (i : Nat), .int .i64 a, N] h Q
section
variable {X : Cx}
theorem build_L0 {g : Gm} {l : List Int} {m : Nat} (ih : BuildAt X g l m) (hl : l.length ≤ 2000) {H : AH} {nv : Int} {b sR i0 : Nat} {R : List Sy} {N0 : V} {u0 : Nat} {as0 : List (Nat × Nat)} {ns0 : List Dn} {PS : List Int} {DSs : List Dn} {i' : Nat} {a0 a' : Int}
    (hR : R.length < 2 ^ 20) (w3 : 3 ≤ H.next) (hi0 : l.length - i0 ≤ m) (d0 : DS g l R i0 a0 PS DSs i' a') (ha0 : 0 ≤ a0) (ha1 : a' < 2 ^ 40) (hnl : ns0.length + DSs.length < 2 ^ 20) (x0 : NdX H N0 ns0 u0 as0) (ob : H.objs b = gmC g) (lb : b < H.nobj) (hub : u0 ≠ b) (ho0 : N0.isOsl = true)
    {Q : Ex → Env → AH → Prop} {zQ : Lz Q} {z : Lz (AC.loop A.probateref15_build_o.L0)}
    (hQ : ∀ h' N' u' as' e st v, FrO [u0] H h' → NdX h' N' (ns0 ++ DSs) u' as' → (u' = u0 ∨ H.nobj ≤ u') → N'.isOsl = true → OwnS H h' e st PS →
      Q (.exit 0) [(1, .sl 1 0 (ints l)), (2, .int .i64 (i' : Nat)), (3, .int .i64 a'), (4, N'), (5, .ptr b 0), (13, .int .i64 nv), (14, .sl 2 sR (R.map symV)), (15, .sl e st (ints PS)), (16, .int .i64 (R.length : Nat)), v] h') :
    acZ (Ecx X) [(1, .sl 1 0 (ints l)), (2, .int .i64 (i0 : Nat)), (3, .int .i64 a0), (4, N0), (5, .ptr b 0), (13, .int .i64 nv), (14, .sl 2 sR (R.map symV)), (15, .sl 1 2 []), (16, .int .i64 0)] H z zQ := by
  refine loopI (n := R.length) (fun M env h' => ∃ k i1 a1 pl psr dsr ns1 N1 u1 as1 e1 st1, k ≤ R.length ∧ M = R.length - k ∧ i0 ≤ i1 ∧ 0 ≤ a1 ∧ DS g l (R.drop k) i1 a1 psr dsr i' a' ∧ pl ++ psr = PS ∧ ns1 ++ dsr = ns0 ++ DSs ∧ NdX h' N1 ns1 u1 as1 ∧ (u1 = u0 ∨ H.nobj ≤ u1) ∧ N1.isOsl = true ∧ FrO [u0] H h' ∧ OwnS H h' e1 st1 pl ∧ pl.length = k ∧
    env = [(1, .sl 1 0 (ints l)), (2, .int .i64 (i1 : Nat)), (3, .int .i64 a1), (4, N1), (5, .ptr b 0), (13, .int .i64 nv), (14, .sl 2 sR (R.map symV)), (15, .sl e1 st1 (ints pl)), (16, .int .i64 (k : Nat))]) ?_
    ⟨0, i0, a0, [], PS, DSs, ns0, N0, u0, as0, 1, 2, by omega, by omega, Nat.le_refl _, ha0, d0, rfl, rfl, x0, .inl rfl, ho0, FrO.refl _ _, ⟨.inl rfl, .inr (.inl rfl)⟩, rfl, by simp [ints]⟩
  rintro M env h' ⟨k, i1, a1, pl, psr, dsr, ns1, N1, u1, as1, e1, st1, hk, rfl, hi1, hA1, d, hpl, hns, x, hu1, ho1, fr, ow, hkl, rfl⟩
  unfold A.probateref15_build_o.L0
  have obB : h'.objs b = gmC g := by rw [fr.objs b lb (by simpa using fun e => hub e.symm)]; exact ob
  by_cases hk2 : k < R.length
  · have hk' : (k : Int) < R.length := by omega
    have hg : (R.map symV).getD k .undef = symV R[k] := Enc.getD hk2
    have hw1 : IntKind.i64.wrap ((k : Int) + 1) = ((k + 1 : Nat) : Int) := by rw [wrap_i64 (by omega) (by omega)]; rfl
    rw [List.drop_eq_getElem_cons hk2] at d
    have hdl := d.le
    generalize R[k] = s at *
    have hlen1 : ns1.length + dsr.length = ns0.length + DSs.length := by have := congrArg List.length hns; simpa using this
    simp [hk', hg]
    refine ow.app fr a1 (by omega) fun st2 h2 ow2 fr2 o2 n2 => ?_
    have x2 : NdX h2 N1 ns1 u1 as1 := by
      refine ⟨?_, fun q => by rw [n2]; exact x.u q, x.e⟩
      rcases x.n with q | ⟨c, e, q1, q2, q3, q4, q5⟩
      · exact .inl q
      · exact .inr ⟨c, e, q1, q2, by rw [o2]; exact q3, q4, by rw [o2]; exact q5⟩
    have ob2 : h2.objs b = gmC g := by rw [o2]; exact obB
    have g1 : (gmC g).length = 4 ∧ (gmC g).take 4 = gmC g := ⟨rfl, rfl⟩
    cases d with
    | term nn d =>
      have hw2 : IntKind.i64.wrap (a1 + 1) = a1 + 1 := wrap_i64 (by omega) (by have := d.le; omega)
      simp [hg, hk', symV, symC, V.cells, V.good, hw1, hw2]
      exact ⟨R.length - (k + 1), by omega, iv ⟨k + 1, i1, a1 + 1, pl ++ [a1], _, dsr, ns1, N1, u1, as1, 1, st2, by omega, rfl, hi1, by omega, d, by rw [← hpl]; simp, hns, x2, hu1, ho1, fr2, ow2, by simp [hkl], by simp⟩⟩
    | non nn q hi q0 q1 hl2 d1 d2 =>
      simp [hg, hk', symV, symC, V.cells, V.good, ob2, g1]
      have e1' := d1.le
      have e2' := d2.le
      simp only [List.length_append, List.length_cons] at hlen1
      refine ecall (ih (ns := ns1) (by omega) hi q0 q1 d1 hA1 (by omega) (by omega) x2 (fun h3 N3 u3 as3 fr3 x3 hu3 => ?_))
      have hos : osN N1 u1 = [u1] := by simp [osN, ho1]
      rw [hos] at fr3 hu3
      have fr4 : FrO [u0] H h3 := fr2.comp fr3 (fun o q => by simp at q; subst q; rcases hu1 with h | h; exact .inl (by simp [h]); exact .inr h)
      have hu4 : u3 = u0 ∨ H.nobj ≤ u3 := by
        rcases hu3 with q | q
        · simp at q; subst q; exact hu1
        · exact .inr (Nat.le_trans fr2.nobj q)
      have ho3 : N3.isOsl = true := x3.osl (by simp)
      simp [hw1]
      exact ⟨R.length - (k + 1), by omega, iv ⟨k + 1, _, _, pl ++ [a1], _, _, _, N3, u3, as3, 1, st2, by omega, rfl, by omega, by omega, d2, by rw [← hpl]; simp, by rw [← hns]; simp, x3, hu4, ho3, fr4, ow2.frO fr3, by simp [hkl], by simp⟩⟩
  · have hk' : ¬ (k : Int) < R.length := by omega
    obtain rfl : k = R.length := by omega
    rw [List.drop_length] at d
    cases d
    rw [List.append_nil] at hpl hns
    subst hpl
    simp [hk']
    rw [hns] at x
    exact hQ h' N1 u1 as1 e1 st1 _ fr x hu1 ho1 ow
theorem build_spec (L : LRb X) (g : Gm) (l : List Int) (hp : ∀ i : Int, 0 ≤ i → i < g.prods.length → (prG g i).right.length ≤ 8) (hl : l.length ≤ 2000) : ∀ m, BuildAt X g l m := by
  intro m
  induction m with
  | zero =>
    intro h Q i q a ps ds i' a' N ns u as hm hq
    rw [List.getElem?_eq_none (by omega)] at hq; cases hq
  | succ m ih =>
    intro h Q i q a ps ds i' a' N ns u as hm hq q0 q1 d a0 a1 hnl x hQ
    refine fn_any L.build (by simp [A.probateref15_build_o]) fun wf => ?_
    have w3 : 3 ≤ h.next := wf.next
    have hil : i < l.length := by
      by_cases c : i < l.length
      · exact c
      · rw [List.getElem?_eq_none (by omega)] at hq; cases hq
    have hil' : (i : Int) < l.length := by omega
    have hgt := ints_getD (l := l) hil
    have hge : l.getD i 0 = q := by rw [List.getD_eq_getElem?_getD, hq]; rfl
    rw [hge] at hgt
    have g1 : (gmC g).length = 4 ∧ (gmC g).take 4 = gmC g ∧ (gmC g).getD 3 .undef = .sl 2 0 (g.prods.map prV) := ⟨rfl, rfl, rfl⟩
    have gr1 := (Gr.refl h).new (gmC g)
    have ob1 : (h.new (gmC g)).objs h.nobj = gmC g := new_objs_same _ _
    have b1 : h.nobj < (h.new (gmC g)).nobj := by show h.nobj < h.nobj + 1; omega
    have hrl := hp q q0 q1
    obtain ⟨qn, rfl, hqn, e1, e2⟩ := prG_get q0 q1
    have x1 : NdX (h.new (gmC g)) N ns u as := x.fr (os := []) ((Gr.refl h).new _ |>.frO _) (fun _ => by simp)
    have hu := x.u
    have hw1 : IntKind.i64.wrap ((i : Int) + 1) = ((i + 1 : Nat) : Int) := by rw [wrap_i64 (by omega) (by omega)]; rfl
    have app := x1.app (qn : Int) (by omega)
    have hlen : (∃ e, N = .sl e 1 [] ∧ ns.length = 0) ∨ ∃ c', N = .osl 2 u 0 ns.length c' := by
      rcases x.n with ⟨e, q, q2, _⟩ | ⟨c', q, _⟩
      · exact .inl ⟨e, q, by rw [q2]; rfl⟩
      · exact .inr ⟨c', q⟩
    have d' := d.le
    have hbR : b1 = b1 := rfl
    have w3' : 3 ≤ (h.new (gmC g)).next := w3
    rcases hlen with ⟨e, rfl, hz⟩ | ⟨c', rfl⟩
    · have hz0 : ns.length = 0 := hz
      simp [A.probateref15_build_o, gmV, V.cells, V.good, hil', hgt, fillV, setAt, fillL, V.isAgg]
      refine appgK_mono (fun v h2 hv => ?_) app
      obtain ⟨u2, as2, c2, rfl, x2, hu2, fr2⟩ := hv
      have ob2 : h2.objs h.nobj = gmC g := by rw [fr2.objs _ b1 (by simp [osN, V.isOsl])]; exact ob1
      have hub2 : u2 ≠ h.nobj := by
        rcases hu2 with q | q
        · simp [osN, V.isOsl] at q
        · have := b1; omega
      simp [ob2, g1, q1, e2, prV, prC, V.cells, V.good, hgt, hil', hw1]
      rw [show ((i : Int) + 1) = ((i + 1 : Nat) : Int) from rfl]
      refine build_L0 ih hl (H := h2) (by omega) (by have := fr2.next; omega) (by omega) d a0 a1 (by simp; omega) x2 ob2 (Nat.lt_of_lt_of_le b1 fr2.nobj) hub2 rfl (fun h3 N3 u3 as3 e3 st3 v fr3 x3 hu3 ho3 ow3 => ?_)
      have hN3 : ∃ c3, N3 = .osl 2 u3 0 (ns ++ [(⟨(qn : Int), []⟩ : Dn)] ++ ds).length c3 := by
        rcases x3.n with ⟨e, _, h1, _⟩ | ⟨c, e, _⟩
        · simp at h1
        · exact ⟨c, e⟩
      obtain ⟨c3, rfl⟩ := hN3
      have hol3 : 2 * (ns.length + 1 + ds.length) ≤ (h3.objs u3).length := by
        rcases x3.n with ⟨e, e0, _, _⟩ | ⟨c, e, _, q1, q2, _, _⟩
        · cases e0
        · simp at q1; omega
      simp
      refine ow3.app fr3 a' (by omega) fun st4 h4 ow4 fr4 o4 n4 => ?_
      have hol4 : 2 * (ns.length + 1 + ds.length) ≤ (h4.objs u3).length := by rw [o4]; exact hol3
      have gz : FrO (osN _ _) h h2 := (((Gr.refl h).new (gmC g)).frO _).trans fr2
      obtain ⟨z1, z2, z3⟩ := build_fin (st4 := st4) (at' := ps ++ [a']) gz (hu2.imp id fun q => Nat.le_trans (by show h.nobj ≤ h.nobj + 1; omega) q) fr4 hu3 (x3.same o4 n4)
      simp
      refine ⟨by omega, by omega, ?_⟩
      have := hQ _ _ _ _ z1 z2 z3
      simpa [hz0] using this
    · have hz0 : True := trivial
      simp [A.probateref15_build_o, gmV, V.cells, V.good, hil', hgt, fillV, setAt, fillL, V.isAgg]
      refine appgK_mono (fun v h2 hv => ?_) app
      obtain ⟨u2, as2, c2, rfl, x2, hu2, fr2⟩ := hv
      have hu' := hu rfl
      have ob2 : h2.objs h.nobj = gmC g := by rw [fr2.objs _ b1 (by simp [osN, V.isOsl]; omega)]; exact ob1
      have hub2 : u2 ≠ h.nobj := by
        rcases hu2 with q | q
        · simp [osN, V.isOsl] at q; omega
        · have := b1; omega
      simp [ob2, g1, q1, e2, prV, prC, V.cells, V.good, hgt, hil', hw1]
      rw [show ((i : Int) + 1) = ((i + 1 : Nat) : Int) from rfl]
      refine build_L0 ih hl (H := h2) (by omega) (by have := fr2.next; omega) (by omega) d a0 a1 (by simp; omega) x2 ob2 (Nat.lt_of_lt_of_le b1 fr2.nobj) hub2 rfl (fun h3 N3 u3 as3 e3 st3 v fr3 x3 hu3 ho3 ow3 => ?_)
      have hN3 : ∃ c3, N3 = .osl 2 u3 0 (ns ++ [(⟨(qn : Int), []⟩ : Dn)] ++ ds).length c3 := by
        rcases x3.n with ⟨e, _, h1, _⟩ | ⟨c, e, _⟩
        · simp at h1
        · exact ⟨c, e⟩
      obtain ⟨c3, rfl⟩ := hN3
      have hol3 : 2 * (ns.length + 1 + ds.length) ≤ (h3.objs u3).length := by
        rcases x3.n with ⟨e, e0, _, _⟩ | ⟨c, e, _, q1, q2, _, _⟩
        · cases e0
        · simp at q1; omega
      simp
      refine ow3.app fr3 a' (by omega) fun st4 h4 ow4 fr4 o4 n4 => ?_
      have hol4 : 2 * (ns.length + 1 + ds.length) ≤ (h4.objs u3).length := by rw [o4]; exact hol3
      have gz : FrO (osN _ _) h h2 := (((Gr.refl h).new (gmC g)).frO _).trans fr2
      obtain ⟨z1, z2, z3⟩ := build_fin (st4 := st4) (at' := ps ++ [a']) gz (hu2.imp id fun q => Nat.le_trans (by show h.nobj ≤ h.nobj + 1; omega) q) fr4 hu3 (x3.same o4 n4)
      simp
      refine ⟨by omega, by omega, ?_⟩
      have := hQ _ _ _ _ z1 z2 z3
      simpa [hz0] using this
theorem rnodes_spec (L : LRb X) {h : AH} {Q : V → AH → Prop} (g : Gm) (l : List Int) (hg : GmOk g) (hl : l.length < 2 ^ 40)
    (hQ1 : ∀ s, ReplayOk g l s → ∀ h' N u as, Gr h h' → NdX h' N s.nodes u as → Q (.tup [N, .int .i64 0]) h') (hQ0 : (¬ ∃ s, ReplayOk g l s) → ∀ n h', n ≠ 0 → Gr h h' → Q (.tup [.sl 0 1 [], .int .i64 n]) h') : Ecx X K.probateref15_Nodes [gmV g, .sl 1 0 (ints l)] h Q := by
  refine fn_any L.nodes (by simp [A.probateref15_Nodes]) fun wf => ?_
  have g1 : (gmC g).length = 4 ∧ (gmC g).take 4 = gmC g := ⟨rfl, rfl⟩
  have gr1 := (Gr.refl h).new (gmC g)
  have ob1 : (h.new (gmC g)).objs h.nobj = gmC g := new_objs_same _ _
  simp [A.probateref15_Nodes, gmV, V.cells, V.good, g1.1, g1.2]
  generalize hH : h.new (gmC g) = H at *
  refine ecall (rreplay_spec L.rp g l hg hl (fun s ok => ?_) (fun no n hn => ?_))
  · obtain ⟨p1, p2⟩ := right_parts ok.1
    obtain ⟨q, ps, i', hq, q0, q1, ds, a', d, hs⟩ := replay_DS ok.2.2
    have hc := d.cnt p2
    have hl2 := ok.2.1
    have hp := p2 q q0 q1
    have hll : 0 < l.length := by
      by_cases c : 0 < l.length
      · exact c
      · rw [List.getElem?_eq_none (by omega)] at hq; cases hq
    simp [ob1, g1]
    have x0 : NdX H (.sl 0 1 []) [] 0 [] := ⟨.inl ⟨0, rfl, rfl, rfl⟩, fun q => (by cases q), fun i h1 => (by simp at h1)⟩
    refine ecall (build_spec L g l p2 hl2 l.length (i := 0) (by omega) hq q0 q1 d (by omega) (by omega) (by simp; omega) x0 (fun h' N' u' as' fr x hu => ?_))
    simp
    rw [List.nil_append, ← hs] at x
    exact hQ1 s ok h' N' u' as' (gr1.trans ⟨fr.next, fr.nobj, fun o ho => fr.objs o ho (by simp [osN, V.isOsl]), fr.tips⟩) x
  · simp [hn]
    exact hQ0 no n H hn gr1
end
end Go.Proofs.Ytajaoldljichaaa.Al
namespace Go.Proofs.Ytajaoldljichaaa.Al
open Go Go.RowKit
set_option linter.unusedSimpArgs false
set_option linter.unusedVariables false
attribute [-simp] List.getD_eq_getElem?_getD Int.not_lt Int.not_le List.map_take
theorem mem_ofG {g : Gm} {n q : Int} (h0 : 0 ≤ q) (h1 : q < g.prods.length) (h2 : (prG g q).left = n) : q ∈ ofG g n := by
  have key : ∀ (l : List Pr) (i j : Nat) (hj : j < l.length), l[j].left = n → ((i + j : Nat) : Int) ∈ ofF n l i := by
    intro l
    induction l with
    | nil => intro i j hj; simp at hj
    | cons p l ih =>
      intro i j hj e
      rw [ofF, List.mem_append]
      cases j with
      | zero => left; simp at e; simp [e]
      | succ j =>
        right
        have := ih (i + 1) j (by simpa using hj) (by simpa using e)
        rwa [show i + 1 + j = i + (j + 1) by omega] at this
  obtain ⟨m, rfl, hm, e1, _⟩ := prG_get h0 h1
  have := key g.prods 0 m hm (by rw [← e1]; exact h2)
  simpa [ofG] using this
theorem whole_iff {g : Gm} {ss : List (List It)} (hs : MayS g ss) {n fr : Int} {e : Nat} (he : e < ss.length) (but : Int) :
    ss[e].any (wholeP g n fr but) = true ↔ ∃ q ∈ ofG g n, q ≠ but ∧ InS ss (wholeI g q fr, (e : Int)) := by
  simp only [List.any_eq_true, wholeP, Bool.and_eq_true, decide_eq_true_eq]
  constructor
  · rintro ⟨x, hx, ⟨⟨h1, h2⟩, h3⟩, h4⟩
    obtain ⟨m0, m1, _⟩ := mayI_iff.1 (hs e he x hx)
    refine ⟨x.prod, mem_ofG m0 m1 h2, h4, (inS_at he rfl).2 ?_⟩
    have : wholeI g x.prod fr = x := by rw [it_ne]; exact ⟨rfl, h1.symm, h3.symm⟩
    rw [this]; exact hx
  · rintro ⟨q, hq, hb, hi⟩
    obtain ⟨_, _, h2⟩ := ofG_mem hq
    exact ⟨_, (inS_at he rfl).1 hi, ⟨⟨rfl, h2⟩, rfl⟩, hb⟩
theorem NdX.get {h : AH} {N : V} {ns : List Dn} {u : Nat} {as : List (Nat × Nat)} (x : NdX h N ns u as) {i : Nat} (hi : i < ns.length) (ha : ns[i].at' ≠ []) :
    ∃ c st, N = .osl 2 u 0 ns.length c ∧ i * 2 + 2 ≤ (h.objs u).length ∧ (h.objs u).getD (i * 2) .undef = .int .i64 ns[i].prod ∧ (h.objs u).getD (i * 2 + 1) .undef = .sl 1 st (ints ns[i].at') := by
  rcases x.n with ⟨e, _, h1, _⟩ | ⟨c, e, q1, q2, q3, q4, q5⟩
  · subst h1; simp at hi
  · obtain ⟨d1, d2⟩ := dnsC_get ns as q4 i hi (by omega)
    rw [← q5, List.getElem?_take, if_pos (by omega)] at d1 d2
    have e1 : as[i].1 = 1 := by
      rcases x.e i hi (by omega) with z | z
      · exact absurd z ha
      · exact z
    refine ⟨c, as[i].2, e, by omega, ?_, ?_⟩
    · rw [List.getD_eq_getElem?_getD, d1]; rfl
    · rw [List.getD_eq_getElem?_getD, d2, e1]; rfl
theorem rowSteps_len {g : Gm} (hp : ∀ i : Int, 0 ≤ i → i < g.prods.length → (prG g i).right.length ≤ 8) : ∀ (l w : List Int) (r : List Sy) (v : List Int) (r' : List Sy), rowSteps g l w r = some (v, r') → v.length + r'.length ≤ w.length + r.length + 8 * l.length
  | [], w, r, v, r', h => by
    rw [rowSteps] at h
    injection h with h; injection h with h1 h2
    subst h1; subst h2
    have := rowRun_len r
    simp only [List.length_append, List.length_nil]; omega
  | i :: l, w, r, v, r', h => by
    have hr := rowRun_len r
    rw [rowSteps] at h
    split at h
    · rename_i s r2 e
      rw [e] at hr
      split at h
      · rename_i c
        have := rowSteps_len hp l _ _ v r' h
        have := hp i c.1 c.2.1
        simp only [List.length_append, List.length_cons] at *; omega
      · cases h
    · cases h
theorem replay_wlen {g : Gm} {l : List Int} {s : Rp} (ok : ReplayOk g l s) : s.word.length ≤ 20000 := by
  have h := (replay_row g l s.word).2 ⟨s, ok.2.2, rfl⟩
  have := rowSteps_len (right_parts ok.1).2 _ _ _ _ _ h
  have := ok.2.1
  simp only [rowStart, List.length_cons, List.length_nil] at *; omega
structure LRa (X : Cx) : Prop where
  b : LRb X
  same : Has (Ecx X) K.probateref02_Same A.probateref02_Same
  alone : Has (Ecx X) K.probateref19_Alone A.probateref19_Alone
section
variable {X : Cx} {h : AH} {Q : V → AH → Prop}
theorem ralone_spec (L : LRa X) {g : Gm} {w : List Int} {ss : List (List It)} {l : List Int} (hz : SzG g ss) (hwl : w.length < 2 ^ 30) (hl : l.length < 2 ^ 40)
    (hQ : Q (.bool (bP (AloneP g w ss l))) h) : Ecx X K.probateref19_Alone [gmV g, .sl 1 0 (ints w), .sl 1 0 (ss.map setV), .sl 1 0 (ints l)] h Q := by
  refine fn_walk L.alone (by simp [A.probateref19_Alone]) fun wf => ?_
  have g1 : (gmC g).length = 4 ∧ (gmC g).take 4 = gmC g ∧ (gmC g).getD 3 .undef = .sl 2 0 (g.prods.map prV) := ⟨rfl, rfl, rfl⟩
  have hlw : IntKind.i64.wrap ((w.length : Int) + 1) = (w.length : Int) + 1 := wrap_i64 (by omega) (by omega)
  have hgok : GmOk g := ⟨by have := hz.gl; simp [maxLen]; omega, fun p hp => by have := hz.r p hp; simp [maxLen]; omega⟩
  have gr1 := (Gr.refl h).new (gmC g)
  have ob1 : (h.new (gmC g)).objs h.nobj = gmC g := new_objs_same _ _
  have b1 : h.nobj < (h.new (gmC g)).nobj := by show h.nobj < h.nobj + 1; omega
  have hsz := hz.s
  simp [A.probateref19_Alone, gmV, V.cells, V.good, g1.1, g1.2.1]
  generalize hH : h.new (gmC g) = H at *
  have bad : ¬ AloneP g w ss l → Q (.bool false) h := fun no => by rw [bP_f no] at hQ; exact hQ
  by_cases c1 : ss.length = w.length + 1
  · have c1' : (ss.length : Int) = (w.length : Int) + 1 := by omega
    simp [c1', hlw, ob1, g1]
    refine ecall (rclosed_spec L.b.rp.rc hz hwl ?_)
    by_cases c2 : LookOk g w ss ∧ ClosedP g w ss
    · rw [bP_t c2]
      simp [ob1, g1]
      refine ecall (rreplay_spec L.b.rp g l hgok hl (fun s ok => ?_) (fun no n hn => ?_))
      · have hsl : s.word.length ≤ 2 ^ 40 := by have := replay_wlen ok; omega
        simp
        refine ecall (sameI_spec L.same s.word w 0 0 hsl ?_)
        by_cases c3 : s.word = w
        · have hnd := replay_nodes ok
          rw [c3] at hnd
          simp [c3, ob1, g1]
          refine ecall (rnodes_spec L.b g l hgok hl (fun s' ok' h3 N u as gr3 x => ?_) (fun no => absurd ⟨s, ok⟩ no))
          obtain rfl := ok.one ok'
          simp
          have hne : s.nodes ≠ [] := by
            obtain ⟨q, ps, i', _, _, _, ds, a', _, hs⟩ := replay_DS ok.2.2
            rw [hs]; simp
          have ho := x.osl hne
          obtain ⟨c, rfl⟩ : ∃ c, N = .osl 2 u 0 s.nodes.length c := by
            rcases x.n with ⟨e, e0, _⟩ | ⟨c, e, _⟩
            · rw [e0] at ho; cases ho
            · exact ⟨c, e⟩
          have hu := x.u rfl
          have hnl : s.nodes.length ≤ 2 ^ 20 := by
            obtain ⟨q, ps, i', hq0, _, _, ds, a', d, hs⟩ := replay_DS ok.2.2
            have hl0 : 0 < l.length := by
              by_cases c : 0 < l.length
              · exact c
              · rw [List.getElem?_eq_none (by omega)] at hq0; cases hq0
            have := (d.cnt (right_parts ok.1).2)
            have := ok.2.1
            rw [hs]; simp; omega
          refine loopI (n := s.nodes.length) (fun m env h' => ∃ k, k ≤ s.nodes.length ∧ m = s.nodes.length - k ∧ Gr h3 h' ∧ (∀ j (hj : j < s.nodes.length), j < k → ¬ OtherP g w ss s.nodes[j]) ∧
            env = [(1, V.sl 1 0 (ints w)), (2, V.sl 1 0 (List.map setV ss)), (4, V.ptr h.nobj 0), (11, V.osl 2 u 0 s.nodes.length c), (13, V.int IntKind.i64 k)]) ?_ ⟨0, by omega, by omega, Gr.refl _, fun j hj h0 => by omega, by simp⟩
          rintro m env h' ⟨k, hk, rfl, gr, hf, rfl⟩
          unfold A.probateref19_Alone.L0
          by_cases hk2 : k < s.nodes.length
          · have hk' : (k : Int) < s.nodes.length := by omega
            have hw1 : IntKind.i64.wrap ((k : Int) + 1) = ((k + 1 : Nat) : Int) := by rw [wrap_i64 (by omega) (by omega)]; rfl
            have hd := hnd _ (List.getElem_mem hk2)
            have x' : NdX h' (.osl 2 u 0 s.nodes.length c) s.nodes u as := x.fr (gr.frO []) (fun _ => by simp)
            have hane : s.nodes[k].at' ≠ [] := fun e => by have := hd.al; rw [e] at this; simp at this
            obtain ⟨_, st, _, gl, ga, gb⟩ := x'.get hk2 hane
            have oba : h'.objs h.nobj = gmC g := by rw [gr.objs _ (Nat.lt_of_lt_of_le b1 gr3.nobj), gr3.objs _ b1]; exact ob1
            have lb := Nat.lt_of_lt_of_le (Nat.lt_of_lt_of_le b1 gr3.nobj) gr.nobj
            have hbadd : OtherP g w ss s.nodes[k] → ¬ AloneP g w ss l := fun q r => by
              obtain ⟨_, _, _, s', o', _, z⟩ := r
              obtain rfl := ok.one o'
              exact z _ (List.getElem_mem hk2) q
            have hbado : OtherP g w ss s.nodes[k] → Q (.bool false) h := fun q => bad (hbadd q)
            have hgo : ∀ {h2}, Gr h3 h2 → ¬ OtherP g w ss s.nodes[k] → ∀ j (hj : j < s.nodes.length), j < k + 1 → ¬ OtherP g w ss s.nodes[j] := fun _ no j hj hjk => by
              by_cases e : j = k
              · subst e; exact no
              · exact hf j hj (by omega)
            generalize hdd : s.nodes[k] = d at *
            obtain ⟨prod, at'⟩ := d
            have p0 := hd.p0
            have p1 := hd.p1
            simp only at p0 p1 ga gb
            obtain ⟨pn, rfl, hpn, e1, e2⟩ := prG_get p0 p1
            have hal := hd.al
            simp only at hal
            have hav := hd.a
            simp only at hav
            have gl1 : k * 2 < (h'.objs u).length := by omega
            have gl2 : k * 2 + 1 < (h'.objs u).length := by omega
            have n1 : ¬ u = h'.nobj := by have := gr.nobj; omega
            have n2 : ¬ h.nobj = h'.nobj := by omega
            have ga0 : 0 < at'.length := by omega
            have gg0 := ints_getD (l := at') ga0
            have gg1 := ints_getD (l := at') (i := at'.length - 1) (by omega)
            have hw2 : IntKind.i64.wrap ((at'.length : Int) - 1) = ((at'.length - 1 : Nat) : Int) := by rw [wrap_i64 (by omega) (by have := hz.pr pn; omega)]; omega
            have ga1 : at'.length - 1 < at'.length := by omega
            have hto := hav (at'.getD (at'.length - 1) 0) (by rw [List.getD_eq_getElem?_getD, List.getElem?_eq_getElem ga1]; exact List.getElem_mem ga1)
            obtain ⟨tn, htn⟩ : ∃ n : Nat, at'.getD (at'.length - 1) 0 = n := ⟨(at'.getD (at'.length - 1) 0).toNat, by omega⟩
            have htl : tn < ss.length := by omega
            have htl' : (tn : Int) < ss.length := by omega
            have hgs : (ss.map setV).getD tn .undef = .sl 3 0 (ss[tn].map itV) := by rw [Enc.getD htl]; rfl
            have hTl : ss[tn].length < 2 ^ 30 := hz.i _ (List.getElem_mem htl)
            rw [htn] at gg1
            simp [hk', gl, gl1, gl2, ga, gb, oba, g1, p1, e2, prV, prC, V.cells, V.good, setAt, n1, n2, ga0, ga1, gg0, gg1, hw2, htl', htl, hgs]
            have hval : ∀ e (he : e < ss.length), ∀ x ∈ ss[e], 0 ≤ x.prod ∧ x.prod < g.prods.length := fun e he x hx => by
              obtain ⟨m0, m1, _⟩ := mayI_iff.1 (c2.1.2.2.2 e he x hx); exact ⟨m0, m1⟩
            have grn := gr.new [V.int .i64 (prG g pn).left, V.sl 2 0 ((prG g pn).right.map symV)]
            have obn : (h'.new [V.int .i64 (prG g pn).left, V.sl 2 0 ((prG g pn).right.map symV)]).objs h'.nobj = [V.int .i64 (prG g pn).left, V.sl 2 0 ((prG g pn).right.map symV)] := new_objs_same _ _
            have obm : (h'.new [V.int .i64 (prG g pn).left, V.sl 2 0 ((prG g pn).right.map symV)]).objs h.nobj = gmC g := by rw [new_objs_ne _ _ n2]; exact oba
            have obu : (h'.new [V.int .i64 (prG g pn).left, V.sl 2 0 ((prG g pn).right.map symV)]).objs u = h'.objs u := new_objs_ne _ _ n1
            have lbn : h'.nobj < (h'.new [V.int .i64 (prG g pn).left, V.sl 2 0 ((prG g pn).right.map symV)]).nobj := by show h'.nobj < h'.nobj + 1; omega
            generalize hHn : h'.new [V.int .i64 (prG g pn).left, V.sl 2 0 ((prG g pn).right.map symV)] = H2 at *
            rw [← obu] at gl gl1 gl2 ga gb
            have lb2 : h.nobj < H2.nobj := by omega
            have lu2 : u < H2.nobj := by have := gr.nobj; omega
            refine dcall (.bool (ss[tn].any (wholeP g (prG g pn).left (at'.getD 0 0) pn))) (rwhole9_spec L.b.rp.rc g ss[tn] 0 _ _ _ (by omega) (hval tn htl) ⟨rfl, rfl⟩) ?_
            have hwh := whole_iff (g := g) c2.1.2.2.2 (n := (prG g pn).left) (fr := at'.getD 0 0) htl pn
            have hAw : (∃ q ∈ ofG g (prG g pn).left, OtherA g ss ⟨pn, at'⟩ q) ↔ ss[tn].any (wholeP g (prG g pn).left (at'.getD 0 0) pn) = true := by
              rw [hwh]
              have : toN ⟨pn, at'⟩ = tn := htn
              exact ⟨fun ⟨q, h1, h2, h3⟩ => ⟨q, h1, h2, by rw [this] at h3; exact h3⟩, fun ⟨q, h1, h2, h3⟩ => ⟨q, h1, h2, by rw [this]; exact h3⟩⟩
            by_cases c5 : ss[tn].any (wholeP g (prG g pn).left (at'.getD 0 0) pn) = true
            · simp [c5]
              exact fin_wk ((gr1.trans gr3).trans grn) (.same _) (by simp) (hbado (.inl (hAw.2 c5)))
            · have c5' : ss[tn].any (wholeP g (prG g pn).left (at'.getD 0 0) pn) = false := by simpa using c5
              simp [c5', obn]
              have hprl := hz.pr pn
              generalize hR : (prG g pn).right = R at *
              have dA : ∀ i (hi : i < at'.length), 0 ≤ at'.getD i 0 ∧ at'.getD i 0 ≤ w.length := fun i hi => by
                rw [List.getD_eq_getElem?_getD, List.getElem?_eq_getElem hi]
                exact hav _ (List.getElem_mem hi)
              have dN : ∀ i, i < at'.length → ∃ n : Nat, at'.getD i 0 = n := fun i hi => ⟨(at'.getD i 0).toNat, by have := (dA i hi).1; omega⟩
              obtain ⟨f0, hf0⟩ := dN 0 ga0
              have hfd : frmN ⟨pn, at'⟩ = f0 := hf0
              rw [hf0]
              refine loopI (n := R.length) (fun m env h2 => ∃ j, j ≤ R.length ∧ m = R.length - j ∧ Gr H2 h2 ∧ (∀ k2, k2 < j → ¬ OtherB g w ss ⟨pn, at'⟩ k2) ∧
                env = [(1, V.sl 1 0 (ints w)), (2, V.sl 1 0 (List.map setV ss)), (4, V.ptr h.nobj 0), (11, V.osl 2 u 0 s.nodes.length c), (13, V.int IntKind.i64 ↑k), (14, V.ptr h'.nobj 0), (15, V.sl 1 st (ints at')), (16, V.int IntKind.i64 f0), (17, V.int IntKind.i64 j)]) ?_ ⟨0, by omega, by omega, Gr.refl _, by simp, by simp⟩
              rintro m env h2 ⟨j, hj, rfl, gr2, hfB, rfl⟩
              unfold A.probateref19_Alone.L1
              have obn2 := (gr2.objs _ lbn).trans obn
              by_cases hj2 : j < R.length
              · have hj' : (j : Int) < R.length := by omega
                have hw3 : IntKind.i64.wrap ((j : Int) + 1) = ((j + 1 : Nat) : Int) := by rw [wrap_i64 (by omega) (by omega)]; rfl
                have hgk := ints_getD (l := at') (i := j + 1) (by omega)
                have hka : j + 1 < at'.length := by omega
                have hka' : (j : Int) + 1 < at'.length := by omega
                obtain ⟨t1, ht1⟩ := dN (j + 1) hka
                have ht1w := (dA (j + 1) hka).2
                rw [ht1] at hgk ht1w
                simp [hj', obn2, hw3, hgk, hka]
                refine ⟨by omega, hka', ?_⟩
                have hgo2 := ints_getD (l := at') (i := j) (by omega)
                have hkb : j < at'.length := by omega
                have htl1 : t1 < ss.length := by omega
                have hgt1 : (ss.map setV).getD t1 .undef = .sl 3 0 (ss[t1].map itV) := by rw [Enc.getD htl1]; rfl
                have hT1 : ss[t1].length < 2 ^ 30 := hz.i _ (List.getElem_mem htl1)
                have hgR : (R.map symV).getD j .undef = symV R[j] := Enc.getD hj2
                refine loopI (n := t1 + 1 - f0) (fun M env h4 => ∃ m, f0 ≤ m ∧ M = t1 + 1 - m ∧ Gr H2 h4 ∧ (∀ m2 : Nat, f0 ≤ m2 → m2 < m → ¬ OtherC g w ss ⟨pn, at'⟩ j m2) ∧
                  env = [(1, V.sl 1 0 (ints w)), (2, V.sl 1 0 (List.map setV ss)), (4, V.ptr h.nobj 0), (11, V.osl 2 u 0 s.nodes.length c), (13, V.int IntKind.i64 ↑k), (14, V.ptr h'.nobj 0), (15, V.sl 1 st (ints at')), (16, V.int IntKind.i64 ↑f0), (17, V.int IntKind.i64 ↑j), (18, V.int IntKind.i64 ↑t1), (19, V.int IntKind.i64 (m : Nat))]) ?_ ⟨f0, Nat.le_refl _, rfl, gr2, fun m2 x y => by omega, by simp⟩
                rintro M env h4 ⟨m, hm0, rfl, gr4, hfC, rfl⟩
                unfold A.probateref19_Alone.L2
                have obn4 := (gr4.objs _ lbn).trans obn
                have obm4 := (gr4.objs _ lb2).trans obm
                have obu4 : h4.objs u = H2.objs u := gr4.objs _ lu2
                have gA := ga
                have gL1 := gl1
                rw [← obu4] at gA gL1
                by_cases hmt : m ≤ t1
                · have hmt' : (m : Int) ≤ t1 := by omega
                  have hw4 : IntKind.i64.wrap ((m : Int) + 1) = ((m + 1 : Nat) : Int) := by rw [wrap_i64 (by omega) (by omega)]; rfl
                  have hml : m < ss.length := by omega
                  have hml' : (m : Int) < ss.length := by omega
                  have hgm : (ss.map setV).getD m .undef = .sl 3 0 (ss[m].map itV) := by rw [Enc.getD hml]; rfl
                  have hMl : ss[m].length < 2 ^ 30 := hz.i _ (List.getElem_mem hml)
                  have hnext : ¬ OtherC g w ss ⟨pn, at'⟩ j m → ∀ m2 : Nat, f0 ≤ m2 → m2 < m + 1 → ¬ OtherC g w ss ⟨pn, at'⟩ j m2 := fun no m2 x y => by
                    by_cases e : m2 = m
                    · subst e; exact no
                    · exact hfC m2 x (by omega)
                  by_cases c6 : (m : Int) = at'.getD j 0
                  · have hno : ¬ OtherC g w ss ⟨pn, at'⟩ j m := fun y => y.1 c6
                    rw [← c6] at hgo2
                    simp [hmt', hkb, hgo2, hw4]
                    exact ⟨t1 + 1 - (m + 1), by omega, iv ⟨m + 1, by omega, rfl, gr4, hnext hno, by simp⟩⟩
                  · simp [hmt', hkb, hgo2, c6, hml, hml', hgm, gA, gL1, V.cells, V.good, fillV, setAt]
                    refine ⟨hk2, ?_⟩
                    refine dcall (.bool (decide ((⟨pn, j, f0⟩ : It) ∈ ss[m]))) (rhas_spec L.b.rp.rc.has ss[m] 0 ⟨pn, j, f0⟩ (by omega) ⟨rfl, rfl⟩) ?_
                    by_cases c7 : (⟨pn, j, f0⟩ : It) ∈ ss[m]
                    · have hC1 : LeadsP g w ss R[j] m t1 → OtherC g w ss ⟨pn, at'⟩ j m := fun q => ⟨c6, by rw [hfd]; exact (inS_at hml rfl).2 c7, by simp only [hR]; exact hj2, by simp only [hR, ht1]; exact q⟩
                      have hC2 : ¬ LeadsP g w ss R[j] m t1 → ¬ OtherC g w ss ⟨pn, at'⟩ j m := fun q y => by
                        obtain ⟨_, _, y1, y2⟩ := y
                        simp only [hR, ht1] at y1 y2
                        exact q y2
                      have hgood : LeadsP g w ss R[j] m t1 → Q (.bool false) h := fun q => hbado (.inr ⟨j, by simp only [hR]; exact hj2, m, by rw [hfd]; omega, by simp only [ht1]; exact hmt', hC1 q⟩)
                      generalize R[j] = sy at *
                      obtain ⟨non, sn⟩ := sy
                      have gr5 := gr4.new [V.bool non, V.int .i64 sn]
                      have m1 : ¬ h.nobj = h4.nobj := by have := gr4.nobj; omega
                      cases non with
                      | true =>
                        simp [c7, hkb, hgo2, c6, obn4, hgR, hj2, hj', symV, symC, V.cells, V.good, setAt, m1, obm4, g1, htl1, hgt1]
                        refine dcall (.bool (ss[t1].any (wholeP g sn m (-1)))) (rwhole9_spec L.b.rp.rc g ss[t1] 0 _ _ _ (by omega) (hval t1 htl1) ⟨rfl, rfl⟩) ?_
                        have hwi := whole_iff (g := g) c2.1.2.2.2 (n := sn) (fr := m) htl1 (-1)
                        have hle : LeadsP g w ss ⟨true, sn⟩ m t1 ↔ ss[t1].any (wholeP g sn m (-1)) = true := by
                          rw [hwi]
                          simp only [LeadsP, ↓reduceIte]
                          exact ⟨fun ⟨q, h1, h2⟩ => ⟨q, h1, by have := (ofG_mem h1).1; omega, h2⟩, fun ⟨q, h1, _, h2⟩ => ⟨q, h1, h2⟩⟩
                        by_cases c8 : ss[t1].any (wholeP g sn m (-1)) = true
                        · simp [c8]
                          exact fin_wk (((gr1.trans gr3).trans grn).trans gr5) (.same _) (by simp) (hgood (hle.2 c8))
                        · have c8' : ss[t1].any (wholeP g sn m (-1)) = false := by simpa using c8
                          simp [c8', hw4]
                          exact ⟨t1 + 1 - (m + 1), by omega, iv ⟨m + 1, by omega, rfl, gr5, hnext (hC2 fun q => c8 (hle.1 q)), by simp⟩⟩
                      | false =>
                        have hle : LeadsP g w ss ⟨false, sn⟩ m t1 ↔ (t1 : Int) = (m : Int) + 1 ∧ w.getD m 0 = sn := by simp [LeadsP]
                        have hw5 : IntKind.i64.wrap ((m : Int) + 1) = (m : Int) + 1 := hw4
                        by_cases c8 : (t1 : Int) = (m : Int) + 1
                        · have hmw : m < w.length := by omega
                          have hgw := ints_getD (l := w) hmw
                          by_cases c9 : w.getD m 0 = sn
                          · simp [c7, hkb, hgo2, c6, obn4, hgR, hj2, hj', symV, symC, V.cells, V.good, setAt, hw5, c8, hmw, hgw, c9]
                            exact fin_wk (((gr1.trans gr3).trans grn).trans gr5) (.same _) (by simp) (hgood (hle.2 ⟨by omega, c9⟩))
                          · simp [c7, hkb, hgo2, c6, obn4, hgR, hj2, hj', symV, symC, V.cells, V.good, setAt, hw5, c8, hmw, hgw, c9]
                            exact ⟨t1 + 1 - (m + 1), by omega, iv ⟨m + 1, by omega, rfl, gr5, hnext (hC2 fun q => c9 (hle.1 q).2), by simp [c8]⟩⟩
                        · simp [c7, hkb, hgo2, c6, obn4, hgR, hj2, hj', symV, symC, V.cells, V.good, setAt, hw5, c8]
                          exact ⟨t1 + 1 - (m + 1), by omega, iv ⟨m + 1, by omega, rfl, gr5, hnext (hC2 fun q => c8 (by have := (hle.1 q).1; omega)), by simp⟩⟩
                    · have hno : ¬ OtherC g w ss ⟨pn, at'⟩ j m := fun y => by
                        have := y.2.1
                        rw [hfd] at this
                        exact c7 ((inS_at hml rfl).1 this)
                      simp [c7, c6, hkb, hgo2, hw4]
                      exact ⟨t1 + 1 - (m + 1), by omega, iv ⟨m + 1, by omega, rfl, gr4, hnext hno, by simp⟩⟩
                · have hmt' : ¬ (m : Int) ≤ t1 := by omega
                  have hno : ¬ OtherB g w ss ⟨pn, at'⟩ j := fun ⟨m2, x, y, z⟩ => by
                    rw [hfd] at x
                    simp only [ht1] at y
                    obtain ⟨m3, rfl⟩ : ∃ n : Nat, m2 = n := ⟨m2.toNat, by omega⟩
                    exact hfC m3 (by omega) (by omega) z
                  simp [hmt', hw3]
                  exact ⟨R.length - (j + 1), by omega, iv ⟨j + 1, by omega, rfl, gr4, fun k2 hk3 => by
                    by_cases e : k2 = j
                    · subst e; exact hno
                    · exact hfB k2 (by omega), by simp⟩⟩
              · have hj' : ¬ (j : Int) < R.length := by omega
                obtain rfl : j = R.length := by omega
                have hno : ¬ OtherP g w ss ⟨pn, at'⟩ := by
                  rintro (q | ⟨k2, y1, y2⟩)
                  · exact c5 (hAw.1 q)
                  · simp only [hR] at y1; exact hfB k2 y1 y2
                simp [hj', obn2, hw1]
                exact ⟨s.nodes.length - (k + 1), by omega, iv ⟨k + 1, by omega, rfl, grn.trans gr2, hgo (grn.trans gr2) hno, by simp⟩⟩
          · have hk' : ¬ (k : Int) < s.nodes.length := by omega
            obtain rfl : k = s.nodes.length := by omega
            have hA : AloneP g w ss l := ⟨c2.1, c1, c2.2, s, ok, c3, fun d hd => by
              obtain ⟨j, hj, rfl⟩ := List.getElem_of_mem hd
              exact hf j hj hj⟩
            rw [bP_t hA] at hQ
            simp [hk']
            exact fin_wk ((gr1.trans gr3).trans gr) (.same _) (by simp) hQ
        · simp [c3]
          exact fin_wk gr1 (.same _) (by simp) (bad fun ⟨_, _, _, s', o', e', _⟩ => c3 (by rw [ok.one o']; exact e'))
      · simp [hn]
        exact fin_wk gr1 (.same _) (by simp) (bad fun ⟨_, _, _, s', o', _⟩ => no ⟨s', o'⟩)
    · rw [bP_f c2]
      simp
      exact fin_wk gr1 (.same _) (by simp) (bad fun q => c2 ⟨q.1, q.2.2.1⟩)
  · have c1' : ¬ (ss.length : Int) = (w.length : Int) + 1 := by omega
    simp [c1', hlw]
    exact fin_wk gr1 (.same _) (by simp) (bad fun q => c1 q.2.1)
end
end Go.Proofs.Ytajaoldljichaaa.Al
namespace Go.Proofs.Ytajaoldljichaaa.Al
def A.probatelaw09_Large.L0 : AC := .post (.seq (.reg [⟨(some 13), none, .bin .lss (.t 12) (.t 11)⟩])
  (.keep [10, 11, 12, 13] (.seq (.cond (.t 13) .skip (.exit 0))
  (.keep [10, 11, 12] (.seq (.block 1 (.seq (.reg [⟨(some 14), none, .ia 2 (.t 10) (.t 12)⟩, ⟨(some 15), none, .load true 2 (.t 14)⟩, ⟨(some 4), none, .alloc [(.int .i64 (0)), (.sl 0 1 [])]⟩, ⟨none, none, .store 2 (.t 4) (.t 15)⟩])
  (.keep [4, 10, 11, 12] (.seq (.reg [⟨(some 16), none, .fa 1 (.t 4)⟩, ⟨(some 17), none, .load false 1 (.t 16)⟩, ⟨(some 18), none, .len false (.t 17)⟩, ⟨(some 19), none, .bin .gtr (.t 18) (.c (.int .i64 (20)))⟩])
  (.keep [10, 11, 12, 19] (.cond (.t 19) (.seq (.reg [⟨(some 2), none, .mv (.c (.bool true))⟩]) .ret) .skip))))))
  (.keep [10, 11, 12] (.reg [⟨(some 20), none, .bin .add (.t 12) (.c (.int .i64 (1)))⟩, ⟨(some 12), none, .mv (.t 20)⟩]))))))) [10, 11, 12]
def A.probatelaw09_Large : AFn := ⟨21, [(2, none)], (.seq (.reg [⟨(some 1), none, .box (.t 0)⟩, ⟨(some 2), none, .mv (.c (.bool false))⟩])
  (.keep [1] (.seq (.seq (.reg [⟨(some 5), none, .fa 3 (.t 1)⟩, ⟨(some 6), none, .load false 1 (.t 5)⟩, ⟨(some 7), none, .len false (.t 6)⟩, ⟨(some 8), none, .bin .gtr (.t 7) (.c (.int .i64 (100)))⟩])
  (.keep [1, 8] (.cond (.t 8) (.seq (.reg [⟨(some 2), none, .mv (.c (.bool true))⟩]) .ret) .skip)))
  (.keep [1] (.seq (.seq (.reg [⟨(some 9), none, .fa 3 (.t 1)⟩, ⟨(some 10), none, .load false 1 (.t 9)⟩, ⟨(some 11), none, .len false (.t 10)⟩, ⟨(some 12), none, .mv (.c (.int .i64 (0)))⟩])
  (.keep [10, 11, 12] (.block 0 (.loop A.probatelaw09_Large.L0))))
  (.keep [] (.seq (.reg [⟨(some 2), none, .mv (.c (.bool false))⟩]) .ret)))))))⟩
end Go.Proofs.Ytajaoldljichaaa.Al
namespace Go.Proofs.Ytajaoldljichaaa.Al
def A.probatelaw17_Large : AFn := ⟨28, [(4, none)], (.seq (.reg [⟨(some 2), none, .box (.t 0)⟩, ⟨(some 4), none, .mv (.c (.bool false))⟩])
  (.keep [1, 2] (.seq (.reg [⟨(some 5), none, .load true 4 (.t 2)⟩, ⟨(some 6), none, .call (.c (.fn K.probatelaw09_Large [] [])) [(.t 5)]⟩, ⟨(some 7), none, .mv (.t 6)⟩, ⟨(some 8), (some (7, false)), .fa 3 (.t 2)⟩, ⟨(some 9), (some (7, false)), .load false 1 (.t 8)⟩, ⟨(some 10), (some (7, false)), .len false (.t 9)⟩, ⟨(some 11), (some (7, false)), .bin .gtr (.t 10) (.c (.int .i64 (20)))⟩, ⟨(some 12), none, .pick (.t 7) (.c (.bool true)) (.t 11)⟩, ⟨(some 13), none, .mv (.t 12)⟩, ⟨(some 14), (some (13, false)), .mv (.t 1)⟩, ⟨(some 15), (some (13, false)), .len false (.t 14)⟩, ⟨(some 16), (some (13, false)), .bin .gtr (.t 15) (.c (.int .i64 (8)))⟩, ⟨(some 17), (some (13, false)), .mv (.t 16)⟩, ⟨(some 18), (some (17, true)), .mv (.t 1)⟩, ⟨(some 19), (some (17, true)), .len false (.t 18)⟩, ⟨(some 20), (some (17, true)), .bin .leq (.t 19) (.c (.int .i64 (24)))⟩, ⟨(some 21), (some (13, false)), .pick (.t 17) (.t 20) (.c (.bool false))⟩, ⟨(some 22), none, .pick (.t 13) (.c (.bool true)) (.t 21)⟩, ⟨(some 23), none, .mv (.t 22)⟩, ⟨(some 24), (some (23, false)), .mv (.t 1)⟩, ⟨(some 25), (some (23, false)), .len false (.t 24)⟩, ⟨(some 26), (some (23, false)), .bin .gtr (.t 25) (.c (.int .i64 (40)))⟩, ⟨(some 27), none, .pick (.t 23) (.c (.bool true)) (.t 26)⟩, ⟨(some 4), none, .mv (.t 27)⟩]) .ret)))⟩
end Go.Proofs.Ytajaoldljichaaa.Al
namespace Go.Proofs.Ytajaoldljichaaa.Al
open Go Go.RowKit
set_option linter.unusedSimpArgs false
set_option linter.unusedVariables false
attribute [-simp] List.getD_eq_getElem?_getD Int.not_lt Int.not_le List.map_take
def large9 (g : Gm) : Bool := decide ((100 : Int) < g.prods.length) || g.prods.any fun p => decide ((20 : Int) < p.right.length)
def large17 (g : Gm) (w : List Int) : Bool := large9 g || decide ((20 : Int) < g.prods.length) || (decide ((8 : Int) < w.length) && decide ((w.length : Int) ≤ 24)) || decide ((40 : Int) < w.length)
def large19 (ss : List (List It)) : Bool := decide ((30 : Int) < ss.length) || ss.any fun l => decide ((200 : Int) < l.length)
structure LLw (X : Cx) : Prop where
  l9 : Has (Ecx X) K.probatelaw09_Large A.probatelaw09_Large
  l17 : Has (Ecx X) K.probatelaw17_Large A.probatelaw17_Large
  l19 : Has (Ecx X) K.probatelaw19_large A.probatelaw19_large
section
variable {X : Cx} {h : AH} {Q : V → AH → Prop}
theorem large19_spec (L : LLw X) (ss : List (List It)) (hQ : Q (.bool (large19 ss)) h) : Ecx X K.probatelaw19_large [.sl 1 0 (ss.map setV)] h Q := by
  refine fn_walk L.l19 (by simp [A.probatelaw19_large]) fun wf => ?_
  by_cases c1 : (30 : Int) < ss.length
  · have : large19 ss = true := by simp [large19, c1]
    rw [this] at hQ
    simp [A.probatelaw19_large, c1]
    exact fin (by simp) hQ
  · have e1 : large19 ss = ss.any fun l => decide ((200 : Int) < l.length) := by simp [large19, c1]
    rw [e1] at hQ
    simp [A.probatelaw19_large, c1]
    refine loopI (n := ss.length) (fun m env h' => ∃ k, k ≤ ss.length ∧ m = ss.length - k ∧ h' = h ∧ env = [(8, .sl 1 0 (ss.map setV)), (9, .int .i64 ss.length), (10, .int .i64 k)] ∧ (ss.take k).any (fun l => decide ((200 : Int) < l.length)) = false) ?_ ⟨0, by omega, by omega, rfl, by simp, by simp⟩
    rintro m env h' ⟨k, hk, rfl, rfl, rfl, he⟩
    unfold A.probatelaw19_large.L0
    by_cases hlt : k < ss.length
    · have hlt' : (k : Int) < ss.length := by omega
      have hg : (ss.map setV).getD k .undef = .sl 3 0 (ss[k].map itV) := by rw [Enc.getD hlt]; rfl
      have hw1 : IntKind.i64.wrap ((k : Int) + 1) = ((k + 1 : Nat) : Int) := by rw [wrap_i64 (by omega) (by omega)]; rfl
      have htk : ss.take (k + 1) = ss.take k ++ [ss[k]] := List.take_succ_eq_append_getElem hlt
      have hmem := List.getElem_mem hlt
      generalize ss[k] = y at *
      by_cases c : (200 : Int) < y.length
      · have e2 : (ss.any fun l => decide ((200 : Int) < l.length)) = true := List.any_eq_true.2 ⟨y, hmem, by simpa using c⟩
        rw [e2] at hQ
        simp [hlt', hg, V.cells, c]
        exact fin (by simp) hQ
      · simp [hlt', hg, V.cells, c, hw1]
        exact ⟨ss.length - (k + 1), by omega, iv ⟨k + 1, by omega, rfl, rfl, by simp, by rw [htk, List.any_append, he]; simp; omega⟩⟩
    · have hlt' : ¬ (k : Int) < ss.length := by omega
      obtain rfl : k = ss.length := by omega
      rw [List.take_length] at he
      rw [he] at hQ
      simp [hlt']
      exact fin (by simp) hQ
theorem large9_spec (L : LLw X) (g : Gm) (hQ : Q (.bool (large9 g)) h) : Ecx X K.probatelaw09_Large [gmV g] h Q := by
  refine fn_walk L.l9 (by simp [A.probatelaw09_Large]) fun wf => ?_
  have gr1 := (Gr.refl h).new (gmC g)
  have gd : (gmC g).length = 4 ∧ (gmC g).getD 3 .undef = .sl 2 0 (g.prods.map prV) := ⟨rfl, rfl⟩
  by_cases c1 : (100 : Int) < g.prods.length
  · have : large9 g = true := by simp [large9, c1]
    rw [this] at hQ
    simp [A.probatelaw09_Large, c1, gmV, V.cells, V.good, gd]
    exact fin_wk gr1 (.same _) (by simp) hQ
  · have e1 : large9 g = g.prods.any fun p => decide ((20 : Int) < p.right.length) := by simp [large9, c1]
    rw [e1] at hQ
    simp [A.probatelaw09_Large, c1, gmV, V.cells, V.good, gd]
    refine loopI (n := g.prods.length) (fun m env h' => ∃ k, k ≤ g.prods.length ∧ m = g.prods.length - k ∧ Gr h h' ∧ env = [(10, .sl 2 0 (g.prods.map prV)), (11, .int .i64 g.prods.length), (12, .int .i64 k)] ∧ (g.prods.take k).any (fun p => decide ((20 : Int) < p.right.length)) = false) ?_ ⟨0, by omega, by omega, gr1, by simp, by simp⟩
    rintro m env h' ⟨k, hk, rfl, gr, rfl, he⟩
    unfold A.probatelaw09_Large.L0
    by_cases hlt : k < g.prods.length
    · have hlt' : (k : Int) < g.prods.length := by omega
      have hg : (g.prods.map prV).getD k .undef = prV g.prods[k] := Enc.getD hlt
      have hw1 : IntKind.i64.wrap ((k : Int) + 1) = ((k + 1 : Nat) : Int) := by rw [wrap_i64 (by omega) (by omega)]; rfl
      have htk : g.prods.take (k + 1) = g.prods.take k ++ [g.prods[k]] := List.take_succ_eq_append_getElem hlt
      have hmem := List.getElem_mem hlt
      generalize g.prods[k] = y at *
      by_cases c : (20 : Int) < y.right.length
      · have e2 : (g.prods.any fun p => decide ((20 : Int) < p.right.length)) = true := List.any_eq_true.2 ⟨y, hmem, by simpa using c⟩
        rw [e2] at hQ
        simp [hlt', hg, V.cells, V.good, c, prV, prC, setAt]
        exact fin_wk (gr.new _) (.same _) (by simp) hQ
      · simp [hlt', hg, V.cells, V.good, c, hw1, prV, prC, setAt]
        exact ⟨g.prods.length - (k + 1), by omega, iv ⟨k + 1, by omega, rfl, gr.new _, by simp, by rw [htk, List.any_append, he]; simp; omega⟩⟩
    · have hlt' : ¬ (k : Int) < g.prods.length := by omega
      obtain rfl : k = g.prods.length := by omega
      rw [List.take_length] at he
      rw [he] at hQ
      simp [hlt']
      exact fin_wk gr (.same _) (by simp) hQ
theorem large17_spec (L : LLw X) (g : Gm) (w : List Int) (hQ : Q (.bool (large17 g w)) h) : Ecx X K.probatelaw17_Large [gmV g, .sl 1 0 (ints w)] h Q := by
  refine fn_walk L.l17 (by simp [A.probatelaw17_Large]) fun wf => ?_
  have gr1 := (Gr.refl h).new (gmC g)
  have gd : (gmC g).length = 4 ∧ (gmC g).take 4 = gmC g ∧ (gmC g).getD 3 .undef = .sl 2 0 (g.prods.map prV) := ⟨rfl, rfl, rfl⟩
  simp [A.probatelaw17_Large, gmV, V.cells, V.good, gd]
  refine ecall (large9_spec L g ?_)
  have e : large17 g w = (large9 g || decide ((20 : Int) < g.prods.length) || (decide ((8 : Int) < w.length) && decide ((w.length : Int) ≤ 24)) || decide ((40 : Int) < w.length)) := rfl
  generalize large17 g w = r at *
  generalize large9 g = b9 at *
  cases b9 <;> by_cases c1 : (20 : Int) < g.prods.length <;> by_cases c2 : (8 : Int) < w.length <;> by_cases c3 : (w.length : Int) ≤ 24 <;> by_cases c4 : (40 : Int) < w.length <;> simp [c1, c2, c3, c4] at e <;> subst e <;> simp [c1, c2, c3, c4, gd] <;> exact fin_wk gr1 (.same _) (by simp) hQ
end
end Go.Proofs.Ytajaoldljichaaa.Al
namespace Go.Proofs.Ytajaoldljichaaa.Al
open Go Go.RowKit
set_option linter.unusedSimpArgs false
set_option linter.unusedVariables false
attribute [-simp] List.getD_eq_getElem?_getD Int.not_lt Int.not_le List.map_take
def gA : Gm := ⟨1, 1, 0, [⟨0, [⟨false, 0⟩]⟩]⟩
def iA : It := ⟨0, 0, 0⟩
def iB : It := ⟨0, 1, 0⟩
theorem WkL.agg {l m : List V} (w : WkL l m) : Wk (.agg l) (.agg m) := .agg l m w.get.1 w.get.2
theorem WkL.sl1 {st : Nat} {l m : List V} (w : WkL l m) (hl : cellsOf l = l) (hm : cellsOf m = m) (hc : ∀ v ∈ m, v.cells.length = 1) : Wk (.sl 1 st l) (.sl 1 0 m) :=
  .sld 1 st l m w.get.1 hc (by rw [hl, hm]; exact w.get.1) (fun i h1 h2 => by simp only [hl, hm]; exact w.get.2 i (by rw [hl] at h1; exact h1) (by rw [hm] at h2; exact h2))
theorem wkG : Wk (.agg [.int .i64 1, .int .i64 1, .int .i64 0, .sl 2 2 [.agg [.int .i64 0, .sl 2 2 [.agg [.bool false, .int .i64 0]]]]]) (gmV gA) :=
  WkL.agg (.cons (.same _) (.cons (.same _) (.cons (.same _) (.cons (WkE.sl (.cons (.cons (.same _) (.cons (.sl 2 2 _) .nil)) .nil) (show ∀ v ∈ gA.prods.map prV, v.cells.length = 2 from by intro v hv; simp [gA] at hv; subst hv; rfl)) .nil))))
theorem wkAB : Wk (.sl 1 2 [.sl 3 2 [.agg [.int .i64 0, .int .i64 0, .int .i64 0]], .sl 3 2 [.agg [.int .i64 0, .int .i64 1, .int .i64 0]]]) (.sl 1 0 ([[iA], [iB]].map setV)) :=
  WkL.sl1 (.cons (.sl 3 2 _) (.cons (.sl 3 2 _) .nil)) rfl rfl (by intro v hv; simp at hv; rcases hv with rfl | rfl <;> rfl)
theorem wkA : ∀ st, Wk (.sl 1 st [.sl 3 2 [.agg [.int .i64 0, .int .i64 0, .int .i64 0]]]) (.sl 1 0 ([[iA]].map setV)) := fun st =>
  WkL.sl1 (.cons (.sl 3 2 _) .nil) rfl rfl (by intro v hv; simp at hv; subst hv; rfl)
theorem wkA0 : Wk (.sl 1 2 [.sl 3 2 [.agg [.int .i64 0, .int .i64 0, .int .i64 0]], .sl 0 1 []]) (.sl 1 0 ([[iA], []].map setV)) :=
  WkL.sl1 (.cons (.sl 3 2 _) (.cons (.nil 0 3 1) .nil)) rfl rfl (by intro v hv; simp at hv; rcases hv with rfl | rfl <;> rfl)
theorem inS_set {ss : List (List It)} {k : Pk} : InS ss k ↔ 0 ≤ k.2 ∧ k.1 ∈ setA ss k.2 := by
  constructor
  · rintro ⟨i, hi, e, h⟩
    refine ⟨by omega, ?_⟩
    rw [e]; simp [setA, List.getD_eq_getElem?_getD, hi, h]
  · rintro ⟨h0, h⟩
    by_cases c : k.2.toNat < ss.length
    · refine ⟨k.2.toNat, c, by omega, ?_⟩
      simpa [setA, List.getD_eq_getElem?_getD, c] using h
    · rw [setA, List.getD_eq_getElem?_getD, List.getElem?_eq_none (by omega)] at h
      simp at h
instance (ss : List (List It)) (k : Pk) : Decidable (InS ss k) := decidable_of_iff _ inS_set.symm
instance (g : Gm) (ss : List (List It)) : Decidable (MayS g ss) := by unfold MayS; infer_instance
instance (g : Gm) (w : List Int) (ss : List (List It)) : Decidable (LookOk g w ss) := by unfold LookOk; infer_instance
instance (g : Gm) (w : List Int) (ss : List (List It)) : Decidable (ClosedP g w ss) := by unfold ClosedP; infer_instance
theorem aw1 : LookOk gA [0] [[iA], [iB]] ∧ ClosedP gA [0] [[iA], [iB]] := by decide
theorem aw2 : ¬ (LookOk gA [0] [[iA], []] ∧ ClosedP gA [0] [[iA], []]) := by decide
theorem aw3 : LookOk gA [0] [[iA]] ∧ ClosedP gA [0] [[iA]] := by decide
theorem aw4 : ¬ (LookOk gA [] [[iA], [iB]] ∧ ClosedP gA [] [[iA], [iB]]) := by decide
theorem aw5 : AloneP gA [0] [[iA], [iB]] [0] := by
  refine ⟨aw1.1, rfl, aw1.2, ⟨[], [0], [⟨0, [0, 1]⟩]⟩, ⟨by decide, by decide, by rfl⟩, rfl, fun d hd => ?_⟩
  simp at hd
  subst hd
  rintro (⟨q, hq, h1, _⟩ | ⟨k, hk, m, h1, h2, h3, h4, _⟩)
  · have e : ofG gA (prG gA 0).left = [0] := by decide
    rw [show (prG gA (Dn.mk 0 [0, 1]).prod).left = (prG gA 0).left from rfl, e] at hq
    simp at hq
    exact h1 hq
  · have hk' : k = 0 := by
      have : k < 1 := hk
      omega
    subst hk'
    have a1 : (0 : Int) ≤ m := h1
    have a2 : m ≤ (1 : Int) := h2
    have a3 : m ≠ (0 : Int) := h3
    obtain rfl : m = 1 := by omega
    revert h4
    decide
theorem aw6 : ¬ AloneP gA [0] [[iA], [iB]] [] := by
  rintro ⟨_, _, _, s, ⟨_, _, h⟩, _⟩
  have : replayR gA [] = none := by rfl
  rw [this] at h; cases h
theorem aw7 : ¬ AloneP gA [0] [[iA]] [0] := fun h => absurd h.2.1 (by decide)
section
variable {X : Cx} {h : AH} {Q : V → AH → Prop} {f : Nat}
theorem awake19_spec (L : LCl2 X f) (H : Has (Ecx X) K.probatelaw19_awake A.probatelaw19_awake) (hQ : Q (.bool true) h) : Ecx X K.probatelaw19_awake [] h Q := by
  refine fn_walk H (by simp [A.probatelaw19_awake]) fun wf => ?_
  simp [A.probatelaw19_awake, fillV, fillL, setAt, V.cells, V.good, V.isAgg]
  have zA : ∀ ss : List (List It), ss.length < 2 ^ 30 → (∀ l ∈ ss, l.length < 2 ^ 30) → SzG gA ss := fun ss a b => ⟨by decide, by decide, a, b⟩
  have k0 : ints [0] = [V.int .i64 0] := rfl
  refine dcall (.bool true) (Ecx.wkL (.cons wkG (.cons (.sl 1 2 _) (.cons wkAB .nil))) (closed_spec L.cl (w := [0]) (zA _ (by decide) (by decide)) (by decide) ⟨by rw [bP_t aw1], rfl⟩)) ?_
  simp
  refine dcall (.bool false) (Ecx.wkL (.cons wkG (.cons (.sl 1 2 _) (.cons wkA0 .nil))) (closed_spec L.cl (w := [0]) (zA _ (by decide) (by decide)) (by decide) ⟨by rw [bP_f aw2], rfl⟩)) ?_
  simp
  refine dcall (.bool true) (Ecx.wkL (.cons wkG (.cons (.sl 1 2 _) (.cons (wkA _) .nil))) (closed_spec L.cl (w := [0]) (zA _ (by decide) (by decide)) (by decide) ⟨by rw [bP_t aw3], rfl⟩)) ?_
  simp
  refine dcall (.bool false) (Ecx.wkL (.cons wkG (.cons (.nil _ 1 _) (.cons wkAB .nil))) (closed_spec L.cl (w := []) (zA _ (by decide) (by decide)) (by decide) ⟨by rw [bP_f aw4], rfl⟩)) ?_
  simp
  refine dcall (.bool true) (Ecx.wkL (.cons wkG (.cons (.sl 1 2 _) (.cons wkAB (.cons (.sl 1 2 _) .nil)))) (alone_spec L (w := [0]) (l := [0]) (zA _ (by decide) (by decide)) (by decide) (by decide) ⟨by rw [bP_t aw5], rfl⟩)) ?_
  simp
  refine dcall (.bool false) (Ecx.wkL (.cons wkG (.cons (.sl 1 2 _) (.cons wkAB (.cons (.nil _ 1 _) .nil)))) (alone_spec L (w := [0]) (l := []) (zA _ (by decide) (by decide)) (by decide) (by decide) ⟨by rw [bP_f aw6], rfl⟩)) ?_
  simp
  refine dcall (.bool false) (Ecx.wkL (.cons wkG (.cons (.sl 1 2 _) (.cons (wkA _) (.cons (.sl 1 2 _) .nil)))) (alone_spec L (w := [0]) (l := [0]) (zA _ (by decide) (by decide)) (by decide) (by decide) ⟨by rw [bP_f aw7], rfl⟩)) ?_
  simp
  exact fin_wk ((Gr.refl h).new _) (.same _) (by simp) hQ
end
end Go.Proofs.Ytajaoldljichaaa.Al
namespace Go.Proofs.Ytajaoldljichaaa.Al
open Go Go.RowKit
set_option linter.unusedSimpArgs false
set_option linter.unusedVariables false
attribute [-simp] List.getD_eq_getElem?_getD Int.not_lt Int.not_le List.map_take
section
variable {X : Cx} {h : AH} {Q : V → AH → Prop} {f : Nat}
theorem closedTells_spec (L : LCl2 X f) (R : LRa X) (W : LLw X) (HA : Has (Ecx X) K.probatelaw19_awake A.probatelaw19_awake) (H : Has (Ecx X) K.probatelaw19_ClosedTells A.probatelaw19_ClosedTells) {g : Gm} {w : List Int} {ss : List (List It)} {l : List Int}
    (hQ : Q (.bool true) h) : Ecx X K.probatelaw19_ClosedTells [gmV g, .sl 1 0 (ints w), .sl 1 0 (ss.map setV), .sl 1 0 (ints l)] h Q := by
  refine fn_walk H (by simp [A.probatelaw19_ClosedTells]) fun wf => ?_
  have gr1 := (Gr.refl h).new (gmC g)
  have gd : (gmC g).length = 4 ∧ (gmC g).take 4 = gmC g := ⟨rfl, rfl⟩
  simp [A.probatelaw19_ClosedTells, gmV, V.cells, V.good, gd]
  refine ecall (awake19_spec L HA ?_)
  simp [gd]
  refine ecall (large17_spec W g w ?_)
  by_cases c1 : large17 g w = true
  · simp [c1]
    exact fin_wk gr1 (.same _) (by simp) hQ
  · have c1' : large17 g w = false := by simpa using c1
    simp [c1']
    refine ecall (large19_spec W ss ?_)
    by_cases c2 : large19 ss = true
    · simp [c2]
      exact fin_wk gr1 (.same _) (by simp) hQ
    · have c2' : large19 ss = false := by simpa using c2
      by_cases c3 : (100 : Int) < l.length
      · simp [c2', c3]
        exact fin_wk gr1 (.same _) (by simp) hQ
      · have hp : g.prods.length ≤ 20 ∧ w.length ≤ 40 ∧ ∀ p ∈ g.prods, p.right.length ≤ 20 := by
          simp only [large17, large9, Bool.or_eq_false_iff, Bool.and_eq_false_iff, decide_eq_false_iff_not, List.any_eq_false, decide_eq_true_eq] at c1'
          refine ⟨by omega, by omega, fun p hp => by have := c1'.1.1.1.2 p hp; omega⟩
        have hq : ss.length ≤ 30 ∧ ∀ x ∈ ss, x.length ≤ 200 := by
          simp only [large19, Bool.or_eq_false_iff, decide_eq_false_iff_not, List.any_eq_false, decide_eq_true_eq] at c2'
          exact ⟨by omega, fun x hx => by have := c2'.2 x hx; omega⟩
        have hz : SzG g ss := ⟨by omega, fun p hp' => by have := hp.2.2 p hp'; omega, by omega, fun x hx => by have := hq.2 x hx; omega⟩
        have hwl : w.length < 2 ^ 30 := by omega
        simp [c2', c3, gd]
        refine dcall (.bool (bP (LookOk g w ss ∧ ClosedP g w ss))) (closed_spec L.cl hz (by omega) ⟨rfl, rfl⟩) ?_
        simp [gd]
        refine dcall (.bool (bP (LookOk g w ss ∧ ClosedP g w ss))) (rclosed_spec R.b.rp.rc hz hwl ⟨rfl, rfl⟩) ?_
        simp [gd]
        refine dcall (.bool (bP (AloneP g w ss l))) (alone_spec L hz hwl (by omega) ⟨rfl, rfl⟩) ?_
        simp [gd]
        refine dcall (.bool (bP (AloneP g w ss l))) (ralone_spec R hz hwl (by omega) ⟨rfl, rfl⟩) ?_
        simp [gd]
        exact fin_wk gr1 (.same _) (by simp) hQ
end
end Go.Proofs.Ytajaoldljichaaa.Al
