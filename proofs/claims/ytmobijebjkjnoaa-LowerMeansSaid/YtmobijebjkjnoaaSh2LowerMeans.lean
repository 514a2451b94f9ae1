/-
  What the law LowerMeans needs of this claim's texts (part 2). Conditions: each theorem's own.
-/
import Derived.Test.YtmobijebjkjnoaaAlKeys
import Derived.Test.YtmobijebjkjnoaaAlC
import Derived.Test.YtmobijebjkjnoaaAlA
import Derived.Test.YtmobijebjkjnoaaAlB
import Derived.Test.YtmobijebjkjnoaaSh1LowerMeans
namespace Go.Proofs.Ytmobijebjkjnoaa.Al
def A.lower_lowerer_node.L0 : AC := .post (.seq (.reg [⟨(some 47), none, .bin .lss (.t 46) (.t 45)⟩])
  (.keep [0, 1, 6, 44, 45, 46, 47] (.seq (.cond (.t 47) .skip (.exit 1))
  (.keep [0, 1, 6, 44, 45, 46] (.seq (.block 2 (.seq (.reg [⟨(some 48), none, .ia 1 (.t 44) (.t 46)⟩, ⟨(some 49), none, .load false 1 (.t 48)⟩, ⟨(some 10), none, .mv (.t 49)⟩])
  (.keep [0, 1, 6, 10, 44, 45, 46] (.seq (.reg [⟨(some 50), none, .mv (.t 0)⟩, ⟨(some 51), none, .nilchk (.t 50)⟩, ⟨(some 52), none, .fa 0 (.t 51)⟩, ⟨(some 53), none, .fa 1 (.t 52)⟩, ⟨(some 54), none, .load false 1 (.t 53)⟩, ⟨(some 55), none, .mv (.t 10)⟩, ⟨(some 56), none, .ia 3 (.t 54) (.t 55)⟩, ⟨(some 57), none, .fa 0 (.t 56)⟩, ⟨(some 58), none, .load false 1 (.t 57)⟩, ⟨(some 59), none, .bin .eql (.t 58) (.c (.int .i64 (1)))⟩])
  (.keep [0, 1, 6, 10, 44, 45, 46, 59] (.cond (.t 59) (.reg [⟨(some 60), none, .mv (.t 0)⟩, ⟨(some 61), none, .mv (.t 1)⟩, ⟨(some 62), none, .mv (.t 0)⟩, ⟨(some 63), none, .nilchk (.t 62)⟩, ⟨(some 64), none, .fa 0 (.t 63)⟩, ⟨(some 65), none, .fa 1 (.t 64)⟩, ⟨(some 66), none, .load false 1 (.t 65)⟩, ⟨(some 67), none, .mv (.t 10)⟩, ⟨(some 68), none, .ia 3 (.t 66) (.t 67)⟩, ⟨(some 69), none, .fa 2 (.t 68)⟩, ⟨(some 70), none, .load false 1 (.t 69)⟩, ⟨(some 71), none, .mv (.t 6)⟩, ⟨(some 72), none, .call (.c (.fn K.lower_all [] [])) [(.t 70), (.t 71)]⟩, ⟨(some 73), none, .call (.c (.fn K.lower_lowerer_lay [] [])) [(.t 60), (.t 61), (.t 72)]⟩]) (.reg [⟨(some 74), none, .mv (.t 0)⟩, ⟨(some 75), none, .mv (.t 1)⟩, ⟨(some 76), none, .mv (.t 6)⟩, ⟨(some 77), none, .mv (.t 10)⟩, ⟨(some 78), none, .call (.t 76) [(.t 77)]⟩, ⟨(some 79), none, .bsl 2 true [(.bool false), (.int .i64 (0))] 1 [(0, (.t 78))]⟩, ⟨(some 80), none, .call (.c (.fn K.lower_lowerer_lay [] [])) [(.t 74), (.t 75), (.t 79)]⟩])))))))
  (.keep [0, 1, 6, 44, 45, 46] (.reg [⟨(some 81), none, .bin .add (.t 46) (.c (.int .i64 (1)))⟩, ⟨(some 46), none, .mv (.t 81)⟩]))))))) [0, 1, 6, 44, 45, 46]
def A.lower_lowerer_node : AFn := ⟨136, [], (.seq (.reg [⟨(some 11), none, .mv (.t 0)⟩, ⟨(some 12), none, .mkfn K.lower_lowerer_symbol [(.t 11)] []⟩, ⟨(some 6), none, .mv (.t 12)⟩])
  (.keep [0, 1, 2, 6] (.seq (.reg [⟨(some 13), none, .mv (.t 0)⟩, ⟨(some 14), none, .nilchk (.t 13)⟩, ⟨(some 15), none, .fa 0 (.t 14)⟩, ⟨(some 16), none, .fa 1 (.t 15)⟩, ⟨(some 17), none, .load false 1 (.t 16)⟩, ⟨(some 18), none, .mv (.t 2)⟩, ⟨(some 19), none, .ia 3 (.t 17) (.t 18)⟩, ⟨(some 20), none, .load true 3 (.t 19)⟩, ⟨(some 7), none, .alloc [(.int .i64 (0)), (.str []), (.sl 0 1 [])]⟩, ⟨none, none, .store 3 (.t 7) (.t 20)⟩])
  (.keep [0, 1, 2, 6, 7] (.seq (.reg [⟨(some 21), none, .mv (.t 1)⟩, ⟨(some 22), none, .bld [(.bool false), (.int .i64 (0))] [(0, 1, (.c (.bool true))), (1, 1, (.t 21))]⟩, ⟨(some 8), none, .alloc [(.bool false), (.int .i64 (0))]⟩, ⟨none, none, .store 2 (.t 8) (.t 22)⟩])
  (.keep [0, 1, 2, 6, 7, 8] (.seq (.reg [⟨(some 23), none, .fa 0 (.t 7)⟩, ⟨(some 24), none, .load false 1 (.t 23)⟩])
  (.keep [0, 1, 2, 6, 7, 8, 24] (.block 0 (.seq (.reg [⟨(some 33), none, .bin .eql (.t 24) (.c (.int .i64 (1)))⟩, ⟨(some 32), none, .mv (.t 33)⟩])
  (.keep [0, 1, 2, 6, 7, 8, 24, 32] (.cond (.t 32) (.reg [⟨(some 34), none, .mv (.t 0)⟩, ⟨(some 35), none, .mv (.t 1)⟩, ⟨(some 36), none, .fa 2 (.t 7)⟩, ⟨(some 37), none, .load false 1 (.t 36)⟩, ⟨(some 38), none, .mv (.t 6)⟩, ⟨(some 39), none, .call (.c (.fn K.lower_all [] [])) [(.t 37), (.t 38)]⟩, ⟨(some 40), none, .call (.c (.fn K.lower_lowerer_lay [] [])) [(.t 34), (.t 35), (.t 39)]⟩]) (.seq (.reg [⟨(some 42), none, .bin .eql (.t 24) (.c (.int .i64 (2)))⟩, ⟨(some 41), none, .mv (.t 42)⟩])
  (.keep [0, 1, 2, 6, 7, 8, 24, 41] (.cond (.t 41) (.seq (.reg [⟨(some 43), none, .fa 2 (.t 7)⟩, ⟨(some 44), none, .load false 1 (.t 43)⟩, ⟨(some 45), none, .len false (.t 44)⟩, ⟨(some 46), none, .mv (.c (.int .i64 (0)))⟩])
  (.keep [0, 1, 6, 44, 45, 46] (.block 1 (.loop A.lower_lowerer_node.L0)))) (.seq (.reg [⟨(some 83), none, .bin .eql (.t 24) (.c (.int .i64 (3)))⟩, ⟨(some 82), none, .mv (.t 83)⟩])
  (.keep [0, 1, 2, 6, 7, 8, 24, 82] (.cond (.t 82) (.seq (.draw [(.pl, ⟨(some 84), none, .mv (.t 0)⟩), (.pl, ⟨(some 85), none, .mv (.t 1)⟩), (.pl, ⟨(some 86), none, .mv (.t 6)⟩), (.pl, ⟨(some 87), none, .fa 2 (.t 7)⟩), (.pl, ⟨(some 88), none, .load false 1 (.t 87)⟩), (.pl, ⟨(some 89), none, .ia 1 (.t 88) (.c (.int .i64 (0)))⟩), (.pl, ⟨(some 90), none, .load false 1 (.t 89)⟩), (.pl, ⟨(some 91), none, .call (.t 86) [(.t 90)]⟩), (.pl, ⟨(some 92), none, .load true 2 (.t 8)⟩), (.pl, ⟨(some 93), none, .bsl 2 true [(.bool false), (.int .i64 (0))] 2 [(0, (.t 91)), (1, (.t 92))]⟩), (.eff, ⟨(some 94), none, .call (.c (.fn K.lower_lowerer_lay [] [])) [(.t 84), (.t 85), (.t 93)]⟩)])
  (.keep [0, 1] (.reg [⟨(some 95), none, .mv (.t 0)⟩, ⟨(some 96), none, .mv (.t 1)⟩, ⟨(some 97), none, .call (.c (.fn K.lower_lowerer_lay [] [])) [(.t 95), (.t 96), (.c (.sl 0 1 []))]⟩]))) (.seq (.reg [⟨(some 99), none, .bin .eql (.t 24) (.c (.int .i64 (4)))⟩, ⟨(some 98), none, .mv (.t 99)⟩])
  (.keep [0, 1, 2, 6, 7, 8, 24, 98] (.cond (.t 98) (.seq (.draw [(.pl, ⟨(some 100), none, .mv (.t 0)⟩), (.pl, ⟨(some 101), none, .mv (.t 1)⟩), (.pl, ⟨(some 102), none, .mv (.t 6)⟩), (.pl, ⟨(some 103), none, .fa 2 (.t 7)⟩), (.pl, ⟨(some 104), none, .load false 1 (.t 103)⟩), (.pl, ⟨(some 105), none, .ia 1 (.t 104) (.c (.int .i64 (0)))⟩), (.pl, ⟨(some 106), none, .load false 1 (.t 105)⟩), (.pl, ⟨(some 107), none, .call (.t 102) [(.t 106)]⟩), (.pl, ⟨(some 108), none, .load true 2 (.t 8)⟩), (.pl, ⟨(some 109), none, .bsl 2 true [(.bool false), (.int .i64 (0))] 2 [(0, (.t 107)), (1, (.t 108))]⟩), (.eff, ⟨(some 110), none, .call (.c (.fn K.lower_lowerer_lay [] [])) [(.t 100), (.t 101), (.t 109)]⟩)])
  (.keep [0, 1, 6, 7] (.reg [⟨(some 111), none, .mv (.t 0)⟩, ⟨(some 112), none, .mv (.t 1)⟩, ⟨(some 113), none, .mv (.t 6)⟩, ⟨(some 114), none, .fa 2 (.t 7)⟩, ⟨(some 115), none, .load false 1 (.t 114)⟩, ⟨(some 116), none, .ia 1 (.t 115) (.c (.int .i64 (0)))⟩, ⟨(some 117), none, .load false 1 (.t 116)⟩, ⟨(some 118), none, .call (.t 113) [(.t 117)]⟩, ⟨(some 119), none, .bsl 2 true [(.bool false), (.int .i64 (0))] 1 [(0, (.t 118))]⟩, ⟨(some 120), none, .call (.c (.fn K.lower_lowerer_lay [] [])) [(.t 111), (.t 112), (.t 119)]⟩]))) (.seq (.reg [⟨(some 122), none, .bin .eql (.t 24) (.c (.int .i64 (5)))⟩, ⟨(some 121), none, .mv (.t 122)⟩])
  (.keep [0, 1, 2, 6, 7, 121] (.cond (.t 121) (.seq (.reg [⟨(some 123), none, .mv (.t 0)⟩, ⟨(some 124), none, .mv (.t 1)⟩, ⟨(some 125), none, .mv (.t 6)⟩, ⟨(some 126), none, .fa 2 (.t 7)⟩, ⟨(some 127), none, .load false 1 (.t 126)⟩, ⟨(some 128), none, .ia 1 (.t 127) (.c (.int .i64 (0)))⟩, ⟨(some 129), none, .load false 1 (.t 128)⟩, ⟨(some 130), none, .call (.t 125) [(.t 129)]⟩, ⟨(some 131), none, .bsl 2 true [(.bool false), (.int .i64 (0))] 1 [(0, (.t 130))]⟩, ⟨(some 132), none, .call (.c (.fn K.lower_lowerer_lay [] [])) [(.t 123), (.t 124), (.t 131)]⟩])
  (.keep [0, 1] (.reg [⟨(some 133), none, .mv (.t 0)⟩, ⟨(some 134), none, .mv (.t 1)⟩, ⟨(some 135), none, .call (.c (.fn K.lower_lowerer_lay [] [])) [(.t 133), (.t 134), (.c (.sl 0 1 []))]⟩]))) (.reg [⟨(some 25), none, .mv (.t 0)⟩, ⟨(some 26), none, .mv (.t 1)⟩, ⟨(some 27), none, .mv (.t 6)⟩, ⟨(some 28), none, .mv (.t 2)⟩, ⟨(some 29), none, .call (.t 27) [(.t 28)]⟩, ⟨(some 30), none, .bsl 2 true [(.bool false), (.int .i64 (0))] 1 [(0, (.t 29))]⟩, ⟨(some 31), none, .call (.c (.fn K.lower_lowerer_lay [] [])) [(.t 25), (.t 26), (.t 30)]⟩])))))))))))))))))))))))))⟩
def A.lower_lowerer_lay : AFn := ⟨18, [], (.reg [⟨(some 6), none, .mv (.t 0)⟩, ⟨(some 7), none, .mv (.t 0)⟩, ⟨(some 8), none, .nilchk (.t 7)⟩, ⟨(some 9), none, .fa 6 (.t 8)⟩, ⟨(some 10), none, .load false 1 (.t 9)⟩, ⟨(some 11), none, .mv (.t 1)⟩, ⟨(some 12), none, .mv (.t 2)⟩, ⟨(some 13), none, .bld [(.int .i64 (0)), (.sl 0 1 [])] [(0, 1, (.t 11)), (1, 1, (.t 12))]⟩, ⟨(some 14), none, .bsl 2 true [(.int .i64 (0)), (.sl 0 1 [])] 1 [(0, (.t 13))]⟩, ⟨(some 15), none, .app 2 32 (.t 10) (.t 14)⟩, ⟨(some 16), none, .nilchk (.t 6)⟩, ⟨(some 17), none, .fa 6 (.t 16)⟩, ⟨none, none, .store 1 (.t 17) (.t 15)⟩])⟩
def A.lower_all.L0 : AC := .post (.seq (.reg [⟨(some 11), none, .bin .lss (.t 10) (.t 9)⟩])
  (.keep [1, 5, 8, 9, 10, 11] (.seq (.cond (.t 11) .skip (.exit 0))
  (.keep [1, 5, 8, 9, 10] (.seq (.block 1 (.seq (.reg [⟨(some 12), none, .ia 1 (.t 8) (.t 10)⟩, ⟨(some 13), none, .load false 1 (.t 12)⟩, ⟨(some 7), none, .mv (.t 13)⟩])
  (.keep [1, 5, 7, 8, 9, 10] (.reg [⟨(some 14), none, .mv (.t 5)⟩, ⟨(some 15), none, .mv (.t 1)⟩, ⟨(some 16), none, .mv (.t 7)⟩, ⟨(some 17), none, .call (.t 15) [(.t 16)]⟩, ⟨(some 18), none, .bsl 2 true [(.bool false), (.int .i64 (0))] 1 [(0, (.t 17))]⟩, ⟨(some 19), none, .app 2 16 (.t 14) (.t 18)⟩, ⟨(some 5), none, .mv (.t 19)⟩]))))
  (.keep [1, 5, 8, 9, 10] (.reg [⟨(some 20), none, .bin .add (.t 10) (.c (.int .i64 (1)))⟩, ⟨(some 10), none, .mv (.t 20)⟩]))))))) [1, 5, 8, 9, 10]
def A.lower_all : AFn := ⟨22, [(4, none)], (.seq (.reg [⟨(some 4), none, .mv (.c (.sl 0 1 []))⟩])
  (.keep [0, 1] (.seq (.reg [⟨(some 5), none, .mv (.c (.sl 0 1 []))⟩])
  (.keep [0, 1, 5] (.seq (.seq (.reg [⟨(some 8), none, .mv (.t 0)⟩, ⟨(some 9), none, .len false (.t 8)⟩, ⟨(some 10), none, .mv (.c (.int .i64 (0)))⟩])
  (.keep [1, 5, 8, 9, 10] (.block 0 (.loop A.lower_all.L0))))
  (.keep [5] (.seq (.reg [⟨(some 21), none, .mv (.t 5)⟩, ⟨(some 4), none, .mv (.t 21)⟩]) .ret)))))))⟩
def A.lower_Lower.L0 : AC := .post (.seq (.reg [⟨(some 28), none, .bin .lss (.t 27) (.t 26)⟩])
  (.keep [1, 2, 5, 25, 26, 27, 28] (.seq (.cond (.t 28) .skip (.exit 0))
  (.keep [1, 2, 5, 25, 26, 27] (.seq (.block 1 (.seq (.reg [⟨(some 29), none, .mv (.t 27)⟩, ⟨(some 30), none, .ia 2 (.t 25) (.t 27)⟩, ⟨(some 31), none, .load true 2 (.t 30)⟩, ⟨(some 7), none, .alloc [(.str []), (.int .i64 (0))]⟩, ⟨(some 6), none, .mv (.t 29)⟩, ⟨none, none, .store 2 (.t 7) (.t 31)⟩])
  (.keep [1, 2, 5, 6, 7, 25, 26, 27] (.reg [⟨(some 32), none, .mv (.t 5)⟩, ⟨(some 33), none, .mv (.t 6)⟩, ⟨(some 34), none, .fa 1 (.t 7)⟩, ⟨(some 35), none, .load false 1 (.t 34)⟩, ⟨(some 36), none, .call (.c (.fn K.lower_lowerer_node [] [])) [(.t 32), (.t 33), (.t 35)]⟩]))))
  (.keep [1, 2, 5, 25, 26, 27] (.reg [⟨(some 37), none, .bin .add (.t 27) (.c (.int .i64 (1)))⟩, ⟨(some 27), none, .mv (.t 37)⟩]))))))) [1, 2, 5, 25, 26, 27]
def A.lower_Lower.L1 : AC := .post (.seq (.reg [⟨(some 42), none, .bin .lss (.t 41) (.t 40)⟩])
  (.keep [1, 2, 5, 40, 41, 42] (.seq (.cond (.t 42) .skip (.exit 2))
  (.keep [1, 2, 5, 40, 41] (.seq (.block 3 (.seq (.reg [⟨(some 43), none, .mv (.t 41)⟩, ⟨(some 8), none, .mv (.t 43)⟩])
  (.keep [1, 2, 5, 8, 40, 41] (.seq (.reg [⟨(some 45), none, .mv (.t 5)⟩, ⟨(some 46), none, .nilchk (.t 45)⟩, ⟨(some 47), none, .fa 5 (.t 46)⟩, ⟨(some 48), none, .load false 1 (.t 47)⟩, ⟨(some 49), none, .mv (.t 8)⟩, ⟨(some 50), none, .lkp .i (.int .i64 (0)) true (.t 48) (.t 49)⟩, ⟨(some 44), none, .mv (.t 50)⟩, ⟨(some 51), none, .ext (.t 44) 0⟩, ⟨(some 52), none, .ext (.t 44) 1⟩, ⟨(some 9), none, .mv (.t 51)⟩, ⟨(some 10), none, .mv (.t 52)⟩])
  (.keep [1, 2, 5, 8, 9, 10, 40, 41] (.seq (.reg [⟨(some 53), none, .mv (.t 10)⟩])
  (.keep [1, 2, 5, 8, 9, 40, 41, 53] (.cond (.t 53) (.reg [⟨(some 54), none, .mv (.t 5)⟩, ⟨(some 55), none, .mv (.t 9)⟩, ⟨(some 56), none, .mv (.t 8)⟩, ⟨(some 57), none, .call (.c (.fn K.lower_lowerer_node [] [])) [(.t 54), (.t 55), (.t 56)]⟩]) .skip))))))))
  (.keep [1, 2, 5, 40, 41] (.reg [⟨(some 58), none, .bin .add (.t 41) (.c (.int .i64 (1)))⟩, ⟨(some 41), none, .mv (.t 58)⟩]))))))) [1, 2, 5, 40, 41]
def A.lower_Lower : AFn := ⟨87, [(2, (some (true, 4))), (3, none), (4, none)], (.seq (.reg [⟨(some 1), none, .box (.t 0)⟩, ⟨(some 2), none, .alloc [(.int .i64 (0)), (.int .i64 (0)), (.int .i64 (0)), (.sl 0 1 [])]⟩, ⟨(some 3), none, .mv (.c (.sl 0 1 []))⟩, ⟨(some 4), none, .mv (.c (.int .i64 (0)))⟩])
  (.keep [1, 2] (.seq (.seq (.reg [⟨(some 12), none, .load true 2 (.t 1)⟩, ⟨(some 13), none, .call (.c (.fn K.rules_Right [] [])) [(.t 12)]⟩, ⟨(some 14), none, .un .not (.t 13)⟩])
  (.keep [1, 2, 14] (.cond (.t 14) (.seq (.reg [⟨(some 15), none, .bld [(.int .i64 (0)), (.int .i64 (0)), (.int .i64 (0)), (.sl 0 1 [])] []⟩, ⟨none, none, .store 4 (.t 2) (.t 15)⟩, ⟨(some 3), none, .mv (.c (.sl 0 1 []))⟩, ⟨(some 4), none, .mv (.c (.int .i64 (1)))⟩]) .ret) .skip)))
  (.keep [1, 2] (.seq (.reg [⟨(some 16), none, .load true 2 (.t 1)⟩, ⟨(some 17), none, .mkm⟩, ⟨(some 18), none, .mkm⟩, ⟨(some 19), none, .mkm⟩, ⟨(some 20), none, .bld [(.sl 0 1 []), (.sl 0 1 []), (.sl 0 1 []), .mapn, .mapn, .mapn, (.sl 0 1 [])] [(0, 2, (.t 16)), (3, 1, (.t 17)), (4, 1, (.t 18)), (5, 1, (.t 19))]⟩, ⟨(some 21), none, .box (.t 20)⟩, ⟨(some 5), none, .mv (.t 21)⟩])
  (.keep [1, 2, 5] (.seq (.reg [⟨(some 22), none, .mv (.t 5)⟩, ⟨(some 23), none, .call (.c (.fn K.lower_lowerer_number [] [])) [(.t 22)]⟩])
  (.keep [1, 2, 5] (.seq (.seq (.reg [⟨(some 24), none, .fa 0 (.t 1)⟩, ⟨(some 25), none, .load false 1 (.t 24)⟩, ⟨(some 26), none, .len false (.t 25)⟩, ⟨(some 27), none, .mv (.c (.int .i64 (0)))⟩])
  (.keep [1, 2, 5, 25, 26, 27] (.block 0 (.loop A.lower_Lower.L0))))
  (.keep [1, 2, 5] (.seq (.seq (.reg [⟨(some 38), none, .fa 1 (.t 1)⟩, ⟨(some 39), none, .load false 1 (.t 38)⟩, ⟨(some 40), none, .len false (.t 39)⟩, ⟨(some 41), none, .mv (.c (.int .i64 (0)))⟩])
  (.keep [1, 2, 5, 40, 41] (.block 2 (.loop A.lower_Lower.L1))))
  (.keep [1, 2, 5] (.seq (.draw [(.pl, ⟨(some 59), none, .mv (.t 5)⟩), (.pl, ⟨(some 60), none, .nilchk (.t 59)⟩), (.pl, ⟨(some 61), none, .fa 2 (.t 60)⟩), (.fl, ⟨(some 62), none, .load false 1 (.t 61)⟩), (.pl, ⟨(some 63), none, .len false (.t 62)⟩), (.pl, ⟨(some 64), none, .fa 0 (.t 1)⟩), (.fl, ⟨(some 65), none, .load false 1 (.t 64)⟩), (.pl, ⟨(some 66), none, .len false (.t 65)⟩), (.pl, ⟨(some 67), none, .mv (.t 5)⟩), (.pl, ⟨(some 68), none, .nilchk (.t 67)⟩), (.pl, ⟨(some 69), none, .fa 5 (.t 68)⟩), (.fl, ⟨(some 70), none, .load false 1 (.t 69)⟩), (.fl, ⟨(some 71), none, .mlen (.t 70)⟩), (.pl, ⟨(some 72), none, .bin .add (.t 66) (.t 71)⟩), (.pl, ⟨(some 73), none, .mv (.t 5)⟩), (.pl, ⟨(some 74), none, .nilchk (.t 73)⟩), (.pl, ⟨(some 75), none, .fa 6 (.t 74)⟩), (.fl, ⟨(some 76), none, .load false 1 (.t 75)⟩), (.pl, ⟨(some 77), none, .bld [(.int .i64 (0)), (.int .i64 (0)), (.int .i64 (0)), (.sl 0 1 [])] [(0, 1, (.t 63)), (1, 1, (.t 72)), (3, 1, (.t 76))]⟩), (.eff, ⟨(some 11), none, .alloc [(.int .i64 (0)), (.int .i64 (0)), (.int .i64 (0)), (.sl 0 1 [])]⟩), (.efo, ⟨none, none, .store 4 (.t 11) (.t 77)⟩)])
  (.keep [2, 5, 11] (.seq (.seq (.reg [⟨(some 78), none, .load true 4 (.t 11)⟩, ⟨(some 79), none, .call (.c (.fn K.gram_Right [] [])) [(.t 78)]⟩, ⟨(some 80), none, .un .not (.t 79)⟩])
  (.keep [2, 5, 11, 80] (.cond (.t 80) (.seq (.reg [⟨(some 81), none, .bld [(.int .i64 (0)), (.int .i64 (0)), (.int .i64 (0)), (.sl 0 1 [])] []⟩, ⟨none, none, .store 4 (.t 2) (.t 81)⟩, ⟨(some 3), none, .mv (.c (.sl 0 1 []))⟩, ⟨(some 4), none, .mv (.c (.int .i64 (5)))⟩]) .ret) .skip)))
  (.keep [2, 5, 11] (.seq (.draw [(.pl, ⟨(some 82), none, .load true 4 (.t 11)⟩), (.pl, ⟨(some 83), none, .mv (.t 5)⟩), (.pl, ⟨(some 84), none, .nilchk (.t 83)⟩), (.pl, ⟨(some 85), none, .fa 2 (.t 84)⟩), (.fl, ⟨(some 86), none, .load false 1 (.t 85)⟩), (.eff, ⟨none, none, .store 4 (.t 2) (.t 82)⟩), (.pl, ⟨(some 3), none, .mv (.t 86)⟩), (.pl, ⟨(some 4), none, .mv (.c (.int .i64 (0)))⟩)]) .ret)))))))))))))))))⟩
def A.lower_lowerer_number.L0 : AC := .post (.seq (.reg [⟨(some 15), none, .bin .lss (.t 14) (.t 13)⟩])
  (.keep [0, 12, 13, 14, 15] (.seq (.cond (.t 15) .skip (.exit 0))
  (.keep [0, 12, 13, 14] (.seq (.block 1 (.seq (.reg [⟨(some 16), none, .mv (.t 14)⟩, ⟨(some 17), none, .ia 2 (.t 12) (.t 14)⟩, ⟨(some 18), none, .load true 2 (.t 17)⟩, ⟨(some 3), none, .alloc [(.str []), (.int .i64 (0))]⟩, ⟨(some 2), none, .mv (.t 16)⟩, ⟨none, none, .store 2 (.t 3) (.t 18)⟩])
  (.keep [0, 2, 3, 12, 13, 14] (.draw [(.pl, ⟨(some 19), none, .mv (.t 0)⟩), (.pl, ⟨(some 20), none, .nilchk (.t 19)⟩), (.pl, ⟨(some 21), none, .fa 4 (.t 20)⟩), (.pl, ⟨(some 22), none, .load false 1 (.t 21)⟩), (.pl, ⟨(some 23), none, .fa 0 (.t 3)⟩), (.pl, ⟨(some 24), none, .load false 1 (.t 23)⟩), (.pl, ⟨(some 25), none, .mv (.t 2)⟩), (.eff, ⟨none, none, .mupd .s (.t 22) (.t 24) (.t 25)⟩)]))))
  (.keep [0, 12, 13, 14] (.reg [⟨(some 26), none, .bin .add (.t 14) (.c (.int .i64 (1)))⟩, ⟨(some 14), none, .mv (.t 26)⟩]))))))) [0, 12, 13, 14]
def A.lower_lowerer_number.L1 : AC := .post (.seq (.reg [⟨(some 42), none, .bin .lss (.t 41) (.t 40)⟩])
  (.keep [0, 4, 5, 39, 40, 41, 42] (.seq (.cond (.t 42) .skip (.exit 2))
  (.keep [0, 4, 5, 39, 40, 41] (.seq (.block 3 (.seq (.reg [⟨(some 43), none, .mv (.t 41)⟩, ⟨(some 44), none, .ia 3 (.t 39) (.t 41)⟩, ⟨(some 45), none, .load true 3 (.t 44)⟩, ⟨(some 7), none, .alloc [(.int .i64 (0)), (.str []), (.sl 0 1 [])]⟩, ⟨(some 6), none, .mv (.t 43)⟩, ⟨none, none, .store 3 (.t 7) (.t 45)⟩])
  (.keep [0, 4, 5, 6, 7, 39, 40, 41] (.block 4 (.seq (.reg [⟨(some 47), none, .fa 0 (.t 7)⟩, ⟨(some 48), none, .load false 1 (.t 47)⟩, ⟨(some 49), none, .bin .eql (.t 48) (.c (.int .i64 (7)))⟩, ⟨(some 46), none, .mv (.t 49)⟩])
  (.keep [0, 4, 5, 6, 7, 39, 40, 41, 46] (.cond (.t 46) (.reg [⟨(some 50), none, .mv (.t 0)⟩, ⟨(some 51), none, .fa 1 (.t 7)⟩, ⟨(some 52), none, .load false 1 (.t 51)⟩, ⟨(some 53), none, .call (.c (.fn K.lower_lowerer_term [] [])) [(.t 50), (.t 52)]⟩]) (.seq (.reg [⟨(some 55), none, .fa 0 (.t 7)⟩, ⟨(some 56), none, .load false 1 (.t 55)⟩, ⟨(some 57), none, .bin .neq (.t 56) (.c (.int .i64 (6)))⟩, ⟨(some 58), none, .mv (.t 57)⟩, ⟨(some 59), (some (58, true)), .mv (.t 4)⟩, ⟨(some 60), (some (58, true)), .mv (.t 6)⟩, ⟨(some 61), (some (58, true)), .lkp .i (.int .i64 (0)) false (.t 59) (.t 60)⟩, ⟨(some 62), (some (58, true)), .bin .eql (.t 61) (.c (.int .i64 (0)))⟩, ⟨(some 63), none, .pick (.t 58) (.t 62) (.c (.bool false))⟩, ⟨(some 54), none, .mv (.t 63)⟩])
  (.keep [0, 4, 5, 6, 39, 40, 41, 54] (.cond (.t 54) (.seq (.reg [⟨(some 64), none, .mv (.t 0)⟩, ⟨(some 65), none, .nilchk (.t 64)⟩, ⟨(some 66), none, .fa 5 (.t 65)⟩, ⟨(some 67), none, .load false 1 (.t 66)⟩, ⟨(some 68), none, .mv (.t 6)⟩, ⟨(some 69), none, .mv (.t 5)⟩, ⟨none, none, .mupd .i (.t 67) (.t 68) (.t 69)⟩])
  (.keep [0, 4, 5, 39, 40, 41] (.reg [⟨(some 70), none, .mv (.t 5)⟩, ⟨(some 71), none, .bin .add (.t 70) (.c (.int .i64 (1)))⟩, ⟨(some 5), none, .mv (.t 71)⟩]))) .skip))))))))))
  (.keep [0, 4, 5, 39, 40, 41] (.reg [⟨(some 72), none, .bin .add (.t 41) (.c (.int .i64 (1)))⟩, ⟨(some 41), none, .mv (.t 72)⟩]))))))) [0, 4, 5, 39, 40, 41]
def A.lower_lowerer_number : AFn := ⟨73, [], (.seq (.seq (.reg [⟨(some 8), none, .mv (.t 0)⟩, ⟨(some 9), none, .nilchk (.t 8)⟩, ⟨(some 10), none, .fa 0 (.t 9)⟩, ⟨(some 11), none, .fa 0 (.t 10)⟩, ⟨(some 12), none, .load false 1 (.t 11)⟩, ⟨(some 13), none, .len false (.t 12)⟩, ⟨(some 14), none, .mv (.c (.int .i64 (0)))⟩])
  (.keep [0, 12, 13, 14] (.block 0 (.loop A.lower_lowerer_number.L0))))
  (.keep [0] (.seq (.reg [⟨(some 27), none, .mv (.t 0)⟩, ⟨(some 28), none, .call (.c (.fn K.lower_lowerer_alone [] [])) [(.t 27)]⟩, ⟨(some 4), none, .mv (.t 28)⟩])
  (.keep [0, 4] (.seq (.reg [⟨(some 29), none, .mv (.t 0)⟩, ⟨(some 30), none, .nilchk (.t 29)⟩, ⟨(some 31), none, .fa 0 (.t 30)⟩, ⟨(some 32), none, .fa 0 (.t 31)⟩, ⟨(some 33), none, .load false 1 (.t 32)⟩, ⟨(some 34), none, .len false (.t 33)⟩, ⟨(some 5), none, .mv (.t 34)⟩])
  (.keep [0, 4, 5] (.seq (.reg [⟨(some 35), none, .mv (.t 0)⟩, ⟨(some 36), none, .nilchk (.t 35)⟩, ⟨(some 37), none, .fa 0 (.t 36)⟩, ⟨(some 38), none, .fa 1 (.t 37)⟩, ⟨(some 39), none, .load false 1 (.t 38)⟩, ⟨(some 40), none, .len false (.t 39)⟩, ⟨(some 41), none, .mv (.c (.int .i64 (0)))⟩])
  (.keep [0, 4, 5, 39, 40, 41] (.block 2 (.loop A.lower_lowerer_number.L1))))))))))⟩
def A.lower_lowerer_alone.L0 : AC := .post (.seq (.reg [⟨(some 18), none, .bin .lss (.t 17) (.t 16)⟩])
  (.keep [0, 3, 15, 16, 17, 18] (.seq (.cond (.t 18) .skip (.exit 0))
  (.keep [0, 3, 15, 16, 17] (.seq (.block 1 (.seq (.reg [⟨(some 19), none, .ia 2 (.t 15) (.t 17)⟩, ⟨(some 20), none, .load true 2 (.t 19)⟩, ⟨(some 5), none, .alloc [(.str []), (.int .i64 (0))]⟩, ⟨none, none, .store 2 (.t 5) (.t 20)⟩])
  (.keep [0, 3, 5, 15, 16, 17] (.reg [⟨(some 21), none, .mv (.t 3)⟩, ⟨(some 22), none, .fa 1 (.t 5)⟩, ⟨(some 23), none, .load false 1 (.t 22)⟩, ⟨none, none, .mupd .i (.t 21) (.t 23) (.c (.int .i64 (1)))⟩]))))
  (.keep [0, 3, 15, 16, 17] (.reg [⟨(some 24), none, .bin .add (.t 17) (.c (.int .i64 (1)))⟩, ⟨(some 17), none, .mv (.t 24)⟩]))))))) [0, 3, 15, 16, 17]
def A.lower_lowerer_alone.L2 : AC := .post (.seq (.reg [⟨(some 39), none, .bin .lss (.t 38) (.t 37)⟩])
  (.keep [0, 3, 7, 29, 30, 31, 36, 37, 38, 39] (.seq (.cond (.t 39) .skip (.exit 4))
  (.keep [0, 3, 7, 29, 30, 31, 36, 37, 38] (.seq (.block 5 (.seq (.reg [⟨(some 40), none, .ia 1 (.t 36) (.t 38)⟩, ⟨(some 41), none, .load false 1 (.t 40)⟩, ⟨(some 9), none, .mv (.t 41)⟩])
  (.keep [0, 3, 7, 9, 29, 30, 31, 36, 37, 38] (.seq (.reg [⟨(some 42), none, .fa 0 (.t 7)⟩, ⟨(some 43), none, .load false 1 (.t 42)⟩, ⟨(some 44), none, .bin .eql (.t 43) (.c (.int .i64 (2)))⟩, ⟨(some 45), none, .mv (.t 44)⟩, ⟨(some 46), (some (45, true)), .mv (.t 0)⟩, ⟨(some 47), (some (45, true)), .nilchk (.t 46)⟩, ⟨(some 48), (some (45, true)), .fa 0 (.t 47)⟩, ⟨(some 49), (some (45, true)), .fa 1 (.t 48)⟩, ⟨(some 50), (some (45, true)), .load false 1 (.t 49)⟩, ⟨(some 51), (some (45, true)), .mv (.t 9)⟩, ⟨(some 52), (some (45, true)), .ia 3 (.t 50) (.t 51)⟩, ⟨(some 53), (some (45, true)), .fa 0 (.t 52)⟩, ⟨(some 54), (some (45, true)), .load false 1 (.t 53)⟩, ⟨(some 55), (some (45, true)), .bin .eql (.t 54) (.c (.int .i64 (1)))⟩, ⟨(some 56), none, .pick (.t 45) (.t 55) (.c (.bool false))⟩])
  (.keep [0, 3, 7, 9, 29, 30, 31, 36, 37, 38, 56] (.cond (.t 56) (.reg [⟨(some 57), none, .mv (.t 3)⟩, ⟨(some 58), none, .mv (.t 9)⟩, ⟨none, none, .mupd .i (.t 57) (.t 58) (.c (.int .i64 (1)))⟩]) .skip))))))
  (.keep [0, 3, 7, 29, 30, 31, 36, 37, 38] (.reg [⟨(some 59), none, .bin .add (.t 38) (.c (.int .i64 (1)))⟩, ⟨(some 38), none, .mv (.t 59)⟩]))))))) [0, 3, 7, 29, 30, 31, 36, 37, 38]
def A.lower_lowerer_alone.L1 : AC := .post (.seq (.reg [⟨(some 32), none, .bin .lss (.t 31) (.t 30)⟩])
  (.keep [0, 3, 29, 30, 31, 32] (.seq (.cond (.t 32) .skip (.exit 2))
  (.keep [0, 3, 29, 30, 31] (.seq (.block 3 (.seq (.reg [⟨(some 33), none, .ia 3 (.t 29) (.t 31)⟩, ⟨(some 34), none, .load true 3 (.t 33)⟩, ⟨(some 7), none, .alloc [(.int .i64 (0)), (.str []), (.sl 0 1 [])]⟩, ⟨none, none, .store 3 (.t 7) (.t 34)⟩])
  (.keep [0, 3, 7, 29, 30, 31] (.seq (.reg [⟨(some 35), none, .fa 2 (.t 7)⟩, ⟨(some 36), none, .load false 1 (.t 35)⟩, ⟨(some 37), none, .len false (.t 36)⟩, ⟨(some 38), none, .mv (.c (.int .i64 (0)))⟩])
  (.keep [0, 3, 7, 29, 30, 31, 36, 37, 38] (.block 4 (.loop A.lower_lowerer_alone.L2)))))))
  (.keep [0, 3, 29, 30, 31] (.reg [⟨(some 60), none, .bin .add (.t 31) (.c (.int .i64 (1)))⟩, ⟨(some 31), none, .mv (.t 60)⟩]))))))) [0, 3, 29, 30, 31]
def A.lower_lowerer_alone : AFn := ⟨62, [(2, none)], (.seq (.reg [⟨(some 2), none, .mv (.c .mapn)⟩])
  (.keep [0] (.seq (.reg [⟨(some 10), none, .mkm⟩, ⟨(some 3), none, .mv (.t 10)⟩])
  (.keep [0, 3] (.seq (.seq (.reg [⟨(some 11), none, .mv (.t 0)⟩, ⟨(some 12), none, .nilchk (.t 11)⟩, ⟨(some 13), none, .fa 0 (.t 12)⟩, ⟨(some 14), none, .fa 0 (.t 13)⟩, ⟨(some 15), none, .load false 1 (.t 14)⟩, ⟨(some 16), none, .len false (.t 15)⟩, ⟨(some 17), none, .mv (.c (.int .i64 (0)))⟩])
  (.keep [0, 3, 15, 16, 17] (.block 0 (.loop A.lower_lowerer_alone.L0))))
  (.keep [0, 3] (.seq (.seq (.reg [⟨(some 25), none, .mv (.t 0)⟩, ⟨(some 26), none, .nilchk (.t 25)⟩, ⟨(some 27), none, .fa 0 (.t 26)⟩, ⟨(some 28), none, .fa 1 (.t 27)⟩, ⟨(some 29), none, .load false 1 (.t 28)⟩, ⟨(some 30), none, .len false (.t 29)⟩, ⟨(some 31), none, .mv (.c (.int .i64 (0)))⟩])
  (.keep [0, 3, 29, 30, 31] (.block 2 (.loop A.lower_lowerer_alone.L1))))
  (.keep [3] (.seq (.reg [⟨(some 61), none, .mv (.t 3)⟩, ⟨(some 2), none, .mv (.t 61)⟩]) .ret)))))))))⟩
def A.lower_lowerer_term : AFn := ⟨37, [], (.seq (.reg [⟨(some 7), none, .mv (.t 0)⟩, ⟨(some 8), none, .nilchk (.t 7)⟩, ⟨(some 9), none, .fa 3 (.t 8)⟩, ⟨(some 10), none, .load false 1 (.t 9)⟩, ⟨(some 11), none, .mv (.t 1)⟩, ⟨(some 12), none, .lkp .s (.int .i64 (0)) true (.t 10) (.t 11)⟩, ⟨(some 6), none, .mv (.t 12)⟩, ⟨(some 13), none, .ext (.t 6) 0⟩, ⟨(some 14), none, .ext (.t 6) 1⟩, ⟨(some 4), none, .mv (.t 13)⟩, ⟨(some 5), none, .mv (.t 14)⟩])
  (.keep [0, 1, 5] (.seq (.reg [⟨(some 15), none, .mv (.t 5)⟩, ⟨(some 16), none, .un .not (.t 15)⟩])
  (.keep [0, 1, 16] (.cond (.t 16) (.seq (.draw [(.pl, ⟨(some 17), none, .mv (.t 0)⟩), (.pl, ⟨(some 18), none, .nilchk (.t 17)⟩), (.pl, ⟨(some 19), none, .fa 3 (.t 18)⟩), (.pl, ⟨(some 20), none, .load false 1 (.t 19)⟩), (.pl, ⟨(some 21), none, .mv (.t 1)⟩), (.pl, ⟨(some 22), none, .mv (.t 0)⟩), (.pl, ⟨(some 23), none, .nilchk (.t 22)⟩), (.pl, ⟨(some 24), none, .fa 2 (.t 23)⟩), (.pl, ⟨(some 25), none, .load false 1 (.t 24)⟩), (.pl, ⟨(some 26), none, .len false (.t 25)⟩), (.eff, ⟨none, none, .mupd .s (.t 20) (.t 21) (.t 26)⟩)])
  (.keep [0, 1] (.reg [⟨(some 27), none, .mv (.t 0)⟩, ⟨(some 28), none, .mv (.t 0)⟩, ⟨(some 29), none, .nilchk (.t 28)⟩, ⟨(some 30), none, .fa 2 (.t 29)⟩, ⟨(some 31), none, .load false 1 (.t 30)⟩, ⟨(some 32), none, .mv (.t 1)⟩, ⟨(some 33), none, .bsl 1 false [(.str [])] 1 [(0, (.t 32))]⟩, ⟨(some 34), none, .app 1 16 (.t 31) (.t 33)⟩, ⟨(some 35), none, .nilchk (.t 27)⟩, ⟨(some 36), none, .fa 2 (.t 35)⟩, ⟨none, none, .store 1 (.t 36) (.t 34)⟩]))) .skip)))))⟩
def A.lower_lowerer_symbol : AFn := ⟨43, [(4, (some (true, 2)))], (.seq (.reg [⟨(some 4), none, .alloc [(.bool false), (.int .i64 (0))]⟩])
  (.keep [0, 1, 4] (.seq (.seq (.reg [⟨(some 6), none, .mv (.t 0)⟩, ⟨(some 7), none, .nilchk (.t 6)⟩, ⟨(some 8), none, .fa 0 (.t 7)⟩, ⟨(some 9), none, .fa 1 (.t 8)⟩, ⟨(some 10), none, .load false 1 (.t 9)⟩, ⟨(some 11), none, .mv (.t 1)⟩, ⟨(some 12), none, .ia 3 (.t 10) (.t 11)⟩, ⟨(some 13), none, .load true 3 (.t 12)⟩, ⟨(some 5), none, .alloc [(.int .i64 (0)), (.str []), (.sl 0 1 [])]⟩, ⟨none, none, .store 3 (.t 5) (.t 13)⟩])
  (.keep [0, 1, 4, 5] (.seq (.reg [⟨(some 14), none, .fa 0 (.t 5)⟩, ⟨(some 15), none, .load false 1 (.t 14)⟩])
  (.keep [0, 1, 4, 5, 15] (.block 0 (.seq (.reg [⟨(some 17), none, .bin .eql (.t 15) (.c (.int .i64 (7)))⟩, ⟨(some 16), none, .mv (.t 17)⟩])
  (.keep [0, 1, 4, 5, 15, 16] (.cond (.t 16) (.seq (.draw [(.pl, ⟨(some 18), none, .mv (.t 0)⟩), (.pl, ⟨(some 19), none, .nilchk (.t 18)⟩), (.pl, ⟨(some 20), none, .fa 3 (.t 19)⟩), (.pl, ⟨(some 21), none, .load false 1 (.t 20)⟩), (.pl, ⟨(some 22), none, .fa 1 (.t 5)⟩), (.pl, ⟨(some 23), none, .load false 1 (.t 22)⟩), (.pl, ⟨(some 24), none, .lkp .s (.int .i64 (0)) false (.t 21) (.t 23)⟩), (.pl, ⟨(some 25), none, .bld [(.bool false), (.int .i64 (0))] [(1, 1, (.t 24))]⟩), (.eff, ⟨none, none, .store 2 (.t 4) (.t 25)⟩)]) .ret) (.seq (.reg [⟨(some 27), none, .bin .eql (.t 15) (.c (.int .i64 (6)))⟩, ⟨(some 26), none, .mv (.t 27)⟩])
  (.keep [0, 1, 4, 5, 26] (.cond (.t 26) (.seq (.draw [(.pl, ⟨(some 28), none, .mv (.t 0)⟩), (.pl, ⟨(some 29), none, .nilchk (.t 28)⟩), (.pl, ⟨(some 30), none, .fa 4 (.t 29)⟩), (.pl, ⟨(some 31), none, .load false 1 (.t 30)⟩), (.pl, ⟨(some 32), none, .fa 1 (.t 5)⟩), (.pl, ⟨(some 33), none, .load false 1 (.t 32)⟩), (.pl, ⟨(some 34), none, .lkp .s (.int .i64 (0)) false (.t 31) (.t 33)⟩), (.pl, ⟨(some 35), none, .bld [(.bool false), (.int .i64 (0))] [(0, 1, (.c (.bool true))), (1, 1, (.t 34))]⟩), (.eff, ⟨none, none, .store 2 (.t 4) (.t 35)⟩)]) .ret) .skip)))))))))))
  (.keep [0, 1, 4] (.seq (.reg [⟨(some 36), none, .mv (.t 0)⟩, ⟨(some 37), none, .nilchk (.t 36)⟩, ⟨(some 38), none, .fa 5 (.t 37)⟩, ⟨(some 39), none, .load false 1 (.t 38)⟩, ⟨(some 40), none, .mv (.t 1)⟩, ⟨(some 41), none, .lkp .i (.int .i64 (0)) false (.t 39) (.t 40)⟩, ⟨(some 42), none, .bld [(.bool false), (.int .i64 (0))] [(0, 1, (.c (.bool true))), (1, 1, (.t 41))]⟩, ⟨none, none, .store 2 (.t 4) (.t 42)⟩]) .ret)))))⟩
end Go.Proofs.Ytmobijebjkjnoaa.Al
namespace Go.Proofs.Ytmobijebjkjnoaa.Al
open Go Go.RowKit
set_option linter.unusedSimpArgs false
set_option linter.unusedVariables false
attribute [-simp] List.getD_eq_getElem?_getD Int.not_lt Int.not_le List.map_take
/-- A node, a rule, a tree. -/
structure Nd where
  kind : Int
  name : Str
  kids : List Int
  deriving DecidableEq
structure Rl where
  name : Str
  body : Int
  deriving DecidableEq
structure Te where
  rules : List Rl
  nodes : List Nd
  deriving DecidableEq
def ndC (n : Nd) : List V := [.int .i64 n.kind, .str n.name, .sl 1 0 (ints n.kids)]
def ndV (n : Nd) : V := .agg (ndC n)
def rlC (r : Rl) : List V := [.str r.name, .int .i64 r.body]
def rlV (r : Rl) : V := .agg (rlC r)
def teC (t : Te) : List V := [.sl 2 0 (t.rules.map rlV), .sl 3 0 (t.nodes.map ndV)]
def teV (t : Te) : V := .agg (teC t)
theorem encRl : Enc rlV 2 true := ⟨fun _ => rfl, fun _ => rfl, fun _ => rfl, fun a n m v hv => by simp [rlV, rlC, V.cells] at hv; rcases hv with rfl | rfl <;> simp⟩
theorem encNd : Enc ndV 3 true := ⟨fun _ => rfl, fun _ => rfl, fun _ => rfl, fun a n m v hv => by
  simp [ndV, ndC, V.cells] at hv
  rcases hv with rfl | rfl | rfl
  · simp
  · simp
  · rw [Bdd_sl0]; exact ⟨by omega, Bdd_ints _ _ _⟩⟩
structure TeOk (t : Te) : Prop where
  rules : t.rules.length ≤ maxLen
  nodes : t.nodes.length ≤ maxLen
  rname : ∀ r ∈ t.rules, r.name.length ≤ maxLen
  nname : ∀ n ∈ t.nodes, n.name.length ≤ maxLen
  kids : ∀ n ∈ t.nodes, n.kids.length ≤ maxLen
def largeT (t : Te) : Bool := decide (30 < t.rules.length) || decide (210 < t.nodes.length) || (t.rules.any fun r => decide (100 < r.name.length)) || t.nodes.any fun n => decide (100 < n.name.length) || decide (210 < n.kids.length)
section
variable {X : Cx} {h : AH} {Q : V → AH → Prop}
theorem largeT_spec (H : Has (Ecx X) K.probatelaw06_Large A.probatelaw06_Large) (t : Te) (ok : TeOk t) (hQ : Q (.bool (largeT t)) h) : Ecx X K.probatelaw06_Large [teV t] h Q := by
  refine fn_walk H (by simp [A.probatelaw06_Large]) fun wf => ?_
  have gr := (Gr.refl h).new (teC t)
  have htc : teC t = [.sl 2 0 (t.rules.map rlV), .sl 3 0 (t.nodes.map ndV)] := rfl
  have hb0 : (h.new (teC t)).objs h.nobj = teC t := by simp
  have hb1 : (h.new (teC t)).nobj = h.nobj + 1 := by simp
  have ho := ok.rules
  have hn := ok.nodes
  unfold maxLen at ho hn
  simp [A.probatelaw06_Large, teV, V.cells, V.good, htc]
  rw [← htc]
  generalize h.new (teC t) = h1 at *
  by_cases c1 : (30 : Int) < t.rules.length
  · have : largeT t = true := by
      have : 30 < t.rules.length := by omega
      simp [largeT, this]
    rw [this] at hQ
    simp [c1]
    exact fin_wk gr (.same _) (by simp) hQ
  simp [c1, hb0, htc]
  by_cases c2 : (210 : Int) < t.nodes.length
  · have : largeT t = true := by
      have : 210 < t.nodes.length := by omega
      simp [largeT, this]
    rw [this] at hQ
    simp [c2]
    exact fin_wk gr (.same _) (by simp) hQ
  simp [c2, hb0, htc]
  refine loopI (n := t.rules.length) (fun m env h' => ∃ k, k ≤ t.rules.length ∧ m = t.rules.length - k ∧ Gr h h' ∧ h'.objs h.nobj = teC t ∧ h.nobj < h'.nobj ∧ env = [(1, .ptr h.nobj 0), (18, .sl 2 0 (t.rules.map rlV)), (19, .int .i64 t.rules.length), (20, .int .i64 k)] ∧ (t.rules.take k).any (fun r => decide (100 < r.name.length)) = false) ?_ ⟨0, by omega, by omega, gr, hb0, by omega, rfl, by simp⟩
  rintro m env h' ⟨k, hk, rfl, gr', ob, nb, rfl, ha⟩
  unfold A.probatelaw06_Large.L0
  by_cases hlt : k < t.rules.length
  · have hlt' : (k : Int) < t.rules.length := by omega
    have hg : (t.rules.map rlV).getD k .undef = rlV t.rules[k] := Enc.getD hlt
    have hw1 : IntKind.i64.wrap ((k : Int) + 1) = ((k + 1 : Nat) : Int) := by rw [wrap_i64 (by omega) (by omega)]; rfl
    have n1 : ¬ h.nobj = h'.nobj := by omega
    by_cases c3 : (100 : Int) < t.rules[k].name.length
    · have : largeT t = true := by
        have : (t.rules.any fun r => decide (100 < r.name.length)) = true := List.any_eq_true.2 ⟨_, List.getElem_mem hlt, by simp; omega⟩
        simp [largeT, this]
      rw [this] at hQ
      simp [hlt', hg, rlV, rlC, V.cells, V.good, setAt, c3]
      exact fin_wk (gr'.new _) (.same _) (by simp) hQ
    · simp [hlt', hg, rlV, rlC, V.cells, V.good, setAt, c3, hw1]
      exact ⟨t.rules.length - (k + 1), by omega, iv ⟨k + 1, by omega, rfl, gr'.new _, by simp [n1, ob], by simp; omega, rfl, by
        rw [List.take_succ_eq_append_getElem hlt, List.any_append, ha]; simp; omega⟩⟩
  · have hlt' : ¬ (k : Int) < t.rules.length := by omega
    obtain rfl : k = t.rules.length := by omega
    rw [List.take_length] at ha
    simp [hlt', ob, htc]
    refine loopI (n := t.nodes.length) (fun m env h' => ∃ k, k ≤ t.nodes.length ∧ m = t.nodes.length - k ∧ Gr h h' ∧ env = [(30, .sl 3 0 (t.nodes.map ndV)), (31, .int .i64 t.nodes.length), (32, .int .i64 k)] ∧ (t.nodes.take k).any (fun n => decide (100 < n.name.length) || decide (210 < n.kids.length)) = false) ?_ ⟨0, by omega, by omega, gr', rfl, by simp⟩
    rintro m env h2 ⟨k, hk, rfl, gr2, rfl, hb⟩
    unfold A.probatelaw06_Large.L1
    by_cases hlt : k < t.nodes.length
    · have hlt' : (k : Int) < t.nodes.length := by omega
      have hg : (t.nodes.map ndV).getD k .undef = ndV t.nodes[k] := Enc.getD hlt
      have hw1 : IntKind.i64.wrap ((k : Int) + 1) = ((k + 1 : Nat) : Int) := by rw [wrap_i64 (by omega) (by omega)]; rfl
      by_cases c3 : (100 : Int) < t.nodes[k].name.length
      · have : largeT t = true := by
          have : (t.nodes.any fun n => decide (100 < n.name.length) || decide (210 < n.kids.length)) = true := List.any_eq_true.2 ⟨_, List.getElem_mem hlt, by simp; omega⟩
          simp [largeT, this]
        rw [this] at hQ
        simp [hlt', hg, ndV, ndC, V.cells, V.good, setAt, c3]
        exact fin_wk (gr2.new _) (.same _) (by simp) hQ
      by_cases c4 : (210 : Int) < t.nodes[k].kids.length
      · have : largeT t = true := by
          have : (t.nodes.any fun n => decide (100 < n.name.length) || decide (210 < n.kids.length)) = true := List.any_eq_true.2 ⟨_, List.getElem_mem hlt, by simp; omega⟩
          simp [largeT, this]
        rw [this] at hQ
        simp [hlt', hg, ndV, ndC, V.cells, V.good, setAt, c3, c4, ints]
        exact fin_wk (gr2.new _) (.same _) (by simp) hQ
      · simp [hlt', hg, ndV, ndC, V.cells, V.good, setAt, c3, c4, hw1, ints]
        exact ⟨t.nodes.length - (k + 1), by omega, iv ⟨k + 1, by omega, rfl, gr2.new _, rfl, by
          rw [List.take_succ_eq_append_getElem hlt, List.any_append, hb]; simp; omega⟩⟩
    · have hlt' : ¬ (k : Int) < t.nodes.length := by omega
      obtain rfl : k = t.nodes.length := by omega
      rw [List.take_length] at hb
      have : largeT t = false := by simp only [largeT, ha, hb, Bool.or_false]; simp; omega
      rw [this] at hQ
      simp [hlt']
      exact fin_wk gr2 (.same _) (by simp) hQ
/-- Where a name stands; below 0: nowhere. -/
def plc (s : Str) : List Str → Nat → Int
  | [], _ => -1
  | a :: l, i => if a = s then (i : Int) else plc s l (i + 1)
def strs (l : List Str) : List V := l.map .str
theorem place_spec (H : Has (Ecx X) K.probateref08_place A.probateref08_place) (l : List Str) (e1 st : Nat) (he : strs l = [] ∨ e1 = 1) (s : Str) (hl : l.length < 2 ^ 62) (hQ : Q (.int .i64 (plc s l 0)) h) : Ecx X K.probateref08_place [.sl e1 st (strs l), .str s] h Q := by
  refine fn_walk H (by simp [A.probateref08_place]) fun wf => ?_
  simp [A.probateref08_place]
  refine loopI (n := l.length) (fun m env h' => ∃ k, k ≤ l.length ∧ m = l.length - k ∧ h' = h ∧ env = [(0, .sl e1 st (strs l)), (1, .str s), (5, .int .i64 k)] ∧ plc s l 0 = plc s (l.drop k) k) ?_ ⟨0, by omega, by omega, rfl, rfl, rfl⟩
  rintro m env h' ⟨k, hk, rfl, rfl, rfl, hp⟩
  unfold A.probateref08_place.L0
  have hsl : (strs l).length = l.length := by simp [strs]
  by_cases hlt : k < l.length
  · obtain rfl : e1 = 1 := he.resolve_left (fun e => by rw [e] at hsl; simp at hsl; omega)
    have hlt' : (k : Int) < l.length := by omega
    have hg : (strs l).getD k .undef = .str l[k] := by simp [strs, List.getD_eq_getElem?_getD, hlt]
    have hw1 : IntKind.i64.wrap ((k : Int) + 1) = ((k + 1 : Nat) : Int) := by rw [wrap_i64 (by omega) (by omega)]; rfl
    rw [List.drop_eq_getElem_cons hlt, plc] at hp
    by_cases c : l[k] = s
    · rw [if_pos c] at hp
      rw [hp] at hQ
      simp [hlt', hg, hsl, V.cells, c]
      exact fin (by simp) hQ
    · rw [if_neg c] at hp
      simp [hlt', hg, hsl, V.cells, c, hw1]
      exact ⟨l.length - (k + 1), by omega, iv ⟨k + 1, by omega, rfl, rfl, rfl, hp⟩⟩
  · have hlt' : ¬ (k : Int) < l.length := by omega
    obtain rfl : k = l.length := by omega
    rw [List.drop_length, plc] at hp
    rw [hp] at hQ
    simp [hlt', hsl]
    exact fin (by simp) hQ
def rnames (t : Te) : List Str := t.rules.map (·.name)
theorem rule_spec (H : Has (Ecx X) K.probateref08_rule A.probateref08_rule) (t : Te) (s : Str) (hl : t.rules.length < 2 ^ 62) (hQ : Q (.int .i64 (plc s (rnames t) 0)) h) : Ecx X K.probateref08_rule [teV t, .str s] h Q := by
  refine fn_walk H (by simp [A.probateref08_rule]) fun wf => ?_
  have htc : teC t = [.sl 2 0 (t.rules.map rlV), .sl 3 0 (t.nodes.map ndV)] := rfl
  have gr := (Gr.refl h).new (teC t)
  have hb0 : (h.new (teC t)).objs h.nobj = teC t := by simp
  simp [A.probateref08_rule, teV, V.cells, V.good]
  generalize h.new (teC t) = h1 at *
  refine loopI (n := t.rules.length) (fun m env h' => ∃ k, k ≤ t.rules.length ∧ m = t.rules.length - k ∧ h' = h1 ∧ env = [(1, .str s), (2, .ptr h.nobj 0), (5, .int .i64 k)] ∧ plc s (rnames t) 0 = plc s ((rnames t).drop k) k) ?_ ⟨0, by omega, by omega, rfl, rfl, rfl⟩
  rintro m env h' ⟨k, hk, rfl, rfl, rfl, hp⟩
  unfold A.probateref08_rule.L0
  have hrl : (rnames t).length = t.rules.length := by simp [rnames]
  by_cases hlt : k < t.rules.length
  · have hlt' : (k : Int) < t.rules.length := by omega
    have hg : (t.rules.map rlV).getD k .undef = rlV t.rules[k] := Enc.getD hlt
    have hw1 : IntKind.i64.wrap ((k : Int) + 1) = ((k + 1 : Nat) : Int) := by rw [wrap_i64 (by omega) (by omega)]; rfl
    rw [List.drop_eq_getElem_cons (by omega), plc, show (rnames t)[k] = t.rules[k].name by simp [rnames]] at hp
    by_cases c : t.rules[k].name = s
    · rw [if_pos c] at hp
      rw [hp] at hQ
      simp [hlt', hg, hb0, htc, rlV, rlC, V.cells, c]
      exact fin_wk gr (.same _) (by simp) hQ
    · rw [if_neg c] at hp
      simp [hlt', hg, hb0, htc, rlV, rlC, V.cells, c, hw1]
      exact ⟨t.rules.length - (k + 1), by omega, iv ⟨k + 1, by omega, rfl, rfl, rfl, hp⟩⟩
  · have hlt' : ¬ (k : Int) < t.rules.length := by omega
    obtain rfl : k = t.rules.length := by omega
    rw [← hrl, List.drop_length, plc] at hp
    rw [hp] at hQ
    simp [hlt', hb0, htc]
    exact fin_wk gr (.same _) (by simp) hQ
/-- May a text stand between quotes? -/
def quoteT (s : Str) : Bool := s.all quotedB && decide (0 < s.length) && decide (s.length ≤ 3998)
/-- May a node be, but for its kids' places? -/
def fineT (t : Te) (n : Nd) : Bool :=
  if n.kind = 6 then decide (n.kids.length = 0) && decide (n.name ∈ rnames t)
  else if n.kind = 7 then decide (n.kids.length = 0) && quoteT n.name
  else decide (n.name = []) && ((decide (n.kind = 1) && decide (n.kids.length ≠ 1)) || (decide (n.kind = 2) && decide (2 ≤ n.kids.length)) || (decide (3 ≤ n.kind) && decide (n.kind ≤ 5) && decide (n.kids.length = 1)))
/-- Is a text just one token of a kind? -/
def tokenT (s : Str) (kind : Int) : Bool := match (scanR s).1 with
  | [a] => decide ((scanR s).2.2 = 0) && decide ((a.kind : Int) = kind) && decide (a.at' = 0) && (decide (kind = 2) || decide (a.text = s))
  | _ => false
theorem token_spec (L : LS X) (H : Has (Ecx X) K.rules_token A.rules_token) (s : Str) (kind : Int) (hl : s.length ≤ 2 ^ 40) (hQ : Q (.bool (tokenT s kind)) h) : Ecx X K.rules_token [.str s, .int .i64 kind] h Q := by
  refine fn_walk H (by simp [A.rules_token]) fun wf => ?_
  simp [A.rules_token]
  refine ecall (scan_spec L s hl ?_)
  simp [scanV]
  unfold tokenT at hQ
  generalize scanR s = R at *
  obtain ⟨l, p, e⟩ := R
  simp only at hQ ⊢
  by_cases c : e = 0
  case neg =>
    have hq : Q (.bool false) h := by
      match l, hQ with
      | [], hQ => exact hQ
      | [a], hQ => simpa [c] using hQ
      | _ :: _ :: _, hQ => exact hQ
    simp [c]
    exact fin (by simp) hq
  subst c
  match l, hQ with
  | [], hQ => simp at hQ ⊢; exact fin (by simp) hQ
  | a :: b :: r, hQ =>
    have c' : ¬ (((a :: b :: r).length : Nat) : Int) = 1 := by simp; omega
    simp at hQ c' ⊢
    simp [c']
    exact fin (by simp) hQ
  | [a], hQ =>
    simp [tokV, tokC, V.cells] at hQ ⊢
    by_cases k1 : (a.kind : Int) = kind
    case neg =>
      simp [k1] at hQ ⊢
      exact fin (by simp) hQ
    by_cases k2 : a.at' = 0
    case neg =>
      simp [k1, k2] at hQ ⊢
      exact fin (by simp) hQ
    by_cases k3 : kind = 2
    · simp [k1, k2, k3, tokC] at hQ ⊢
      exact fin (by simp) hQ
    by_cases k4 : a.text = s
    · simp [k1, k2, k3, k4, tokC] at hQ ⊢
      exact fin (by simp) hQ
    · simp [k1, k2, k3, k4, tokC] at hQ ⊢
      exact fin (by simp) hQ
def plcB (c : Int) : Str → Nat → Int
  | [], _ => -1
  | a :: l, i => if c = bt a then (i : Int) else plcB c l (i + 1)
theorem plcB_any (c : Int) : ∀ (l : Str) (i : Nat), decide (0 ≤ plcB c l i) = l.any fun a => decide (c = bt a)
  | [], i => by simp [plcB]
  | a :: l, i => by
    unfold plcB
    by_cases e : c = bt a
    · simp [e]
    · simp only [if_neg e, List.any_cons, decide_eq_false e, Bool.false_or]; exact plcB_any c l (i + 1)
theorem indexB_spec (H : Has (Ecx X) K.slices_Index_byte A.slices_Index_byte) (s : Str) (st : Nat) (c : Int) (hl : s.length < 2 ^ 62) (hQ : Q (.int .i64 (plcB c s 0)) h) : Ecx X K.slices_Index_byte [.sl 1 st (bytesV s), .int .u8 c] h Q := by
  refine fn_walk H (by simp [A.slices_Index_byte]) fun wf => ?_
  have hsl : (bytesV s).length = s.length := by simp [bytesV]
  simp [A.slices_Index_byte, hsl]
  refine loopI (n := s.length) (fun m env h' => ∃ k, k ≤ s.length ∧ m = s.length - k ∧ h' = h ∧ env = [(0, .sl 1 st (bytesV s)), (1, .int .u8 c), (7, .int .i64 s.length), (8, .int .i64 k)] ∧ plcB c s 0 = plcB c (s.drop k) k) ?_ ⟨0, by omega, by omega, rfl, rfl, rfl⟩
  rintro m env h' ⟨k, hk, rfl, rfl, rfl, hp⟩
  unfold A.slices_Index_byte.L0
  by_cases hlt : k < s.length
  · have hlt' : (k : Int) < s.length := by omega
    have hg : (bytesV s).getD k .undef = .int .u8 (bt s[k]) := by simp [bytesV, bt, List.getD_eq_getElem?_getD, hlt]
    have hw1 : IntKind.i64.wrap ((k : Int) + 1) = ((k + 1 : Nat) : Int) := by rw [wrap_i64 (by omega) (by omega)]; rfl
    rw [List.drop_eq_getElem_cons hlt, plcB] at hp
    by_cases e : c = bt s[k]
    · rw [if_pos e] at hp
      rw [hp] at hQ
      simp [hlt', hg, hsl, V.cells, ← e]
      exact fin (by simp) hQ
    · rw [if_neg e] at hp
      simp [hlt', hg, hsl, V.cells, e, hw1]
      exact ⟨s.length - (k + 1), by omega, iv ⟨k + 1, by omega, rfl, rfl, rfl, hp⟩⟩
  · have hlt' : ¬ (k : Int) < s.length := by omega
    obtain rfl : k = s.length := by omega
    rw [List.drop_length, plcB] at hp
    rw [hp] at hQ
    simp [hlt', hsl]
    exact fin (by simp) hQ
theorem containsB_spec (H : Has (Ecx X) K.slices_Contains_byte A.slices_Contains_byte) (H2 : Has (Ecx X) K.slices_Index_byte A.slices_Index_byte) (s : Str) (st : Nat) (c : Int) (hl : s.length < 2 ^ 62) (hQ : Q (.bool (s.any fun a => decide (c = bt a))) h) :
    Ecx X K.slices_Contains_byte [.sl 1 st (bytesV s), .int .u8 c] h Q := by
  refine fn_walk H (by simp [A.slices_Contains_byte]) fun wf => ?_
  simp [A.slices_Contains_byte]
  refine ecall (indexB_spec H2 s st c hl ?_)
  have := plcB_any c s 0
  simp [this]
  exact fin (by simp) hQ
/-- As the program asks. -/
def fineP (t : Te) (n : Nd) : Bool :=
  if n.kind = 7 then decide (n.kids.length = 0) && (!(n.name.any fun a => decide (39 = bt a))) && tokenT (39 :: n.name ++ [39]) 2 else fineT t n
structure LRu (X : Cx) : Prop where
  s : LS X
  token : Has (Ecx X) K.rules_token A.rules_token
  fine : Has (Ecx X) K.rules_Tree_fine A.rules_Tree_fine
  fine1 : Has (Ecx X) K.rules_Tree_fine_1 A.rules_Tree_fine_1
  right : Has (Ecx X) K.rules_Right A.rules_Right
  right1 : Has (Ecx X) K.rules_Right_1 A.rules_Right_1
  ctR : Has (Ecx X) K.slices_ContainsFunc_Rule A.slices_ContainsFunc_Rule
  ixR : Has (Ecx X) K.slices_IndexFunc_Rule A.slices_IndexFunc_Rule
  ctB : Has (Ecx X) K.slices_Contains_byte A.slices_Contains_byte
  ixB : Has (Ecx X) K.slices_Index_byte A.slices_Index_byte
  eqI : Has (Ecx X) K.slices_Equal_int A.slices_Equal_int
theorem fine1_spec (L : LRu X) (r : Rl) {o : Nat} {n : Nd} (ho : h.objs o = ndC n) (hob : o < h.nobj) (hQ : Q (.bool (decide (r.name = n.name))) h) : Ecx X K.rules_Tree_fine_1 [rlV r, .ptr o 0] h Q := by
  refine fn_walk L.fine1 (by simp [A.rules_Tree_fine_1]) fun wf => ?_
  have gr := (Gr.refl h).new (rlC r)
  have n1 : ¬ o = h.nobj := by omega
  obtain ⟨kind, name, kids⟩ := n
  have hnc : ndC ⟨kind, name, kids⟩ = [.int .i64 kind, .str name, .sl 1 0 (ints kids)] := rfl
  have hrc : rlC r = [.str r.name, .int .i64 r.body] := rfl
  simp [A.rules_Tree_fine_1, rlV, V.cells, V.good, n1, ho, hnc, hrc]
  exact fin_wk (by rw [← hrc]; exact gr) (.same _) (by simp) hQ
theorem rufine_spec (L : LRu X) (t : Te) (n : Nd) (hl : t.rules.length < 2 ^ 62) (hn : n.name.length ≤ 2 ^ 30) (hQ : Q (.bool (fineP t n)) h) : Ecx X K.rules_Tree_fine [teV t, ndV n] h Q := by
  refine fn_walk L.fine (by simp [A.rules_Tree_fine]) fun wf => ?_
  have htc : teC t = [.sl 2 0 (t.rules.map rlV), .sl 3 0 (t.nodes.map ndV)] := rfl
  have gr := ((Gr.refl h).new (teC t)).new (ndC n)
  have n1 : ¬ h.nobj = h.nobj + 1 := by omega
  have hb0 : ((h.new (teC t)).new (ndC n)).objs h.nobj = teC t := by simp [n1]
  have hb1 : ((h.new (teC t)).new (ndC n)).objs (h.nobj + 1) = ndC n := by simp
  have hb2 : ((h.new (teC t)).new (ndC n)).nobj = h.nobj + 2 := by simp
  obtain ⟨kind, name, kids⟩ := n
  simp [A.rules_Tree_fine, teV, ndV, V.cells, V.good]
  have hnc : ∀ a b c, ndC ⟨a, b, c⟩ = [.int .i64 a, .str b, .sl 1 0 (c.map (.int .i64))] := fun _ _ _ => rfl
  generalize (h.new (teC t)).new (ndC ⟨kind, name, kids⟩) = h1 at *
  simp [hb1, hnc]
  unfold fineP fineT at hQ
  simp only at hQ hn
  by_cases k1 : kind = 1
  · subst k1
    by_cases c0 : name = []
    · by_cases c : kids.length = 1
      · have c' : ((kids.length : Nat) : Int) = 1 := by omega
        simp [hb1, hnc, c0, c, c'] at hQ ⊢
        exact fin_wk gr (.same _) (by simp) hQ
      · have c' : ¬ ((kids.length : Nat) : Int) = 1 := by omega
        simp [hb1, hnc, c0, c, c'] at hQ ⊢
        exact fin_wk gr (.same _) (by simp) hQ
    · simp [hb1, hnc, c0] at hQ ⊢
      exact fin_wk gr (.same _) (by simp) hQ
  by_cases k2 : kind = 2
  · subst k2
    by_cases c0 : name = []
    · by_cases c : 2 ≤ kids.length
      · have c' : (1 : Int) < (kids.length : Nat) := by omega
        simp [hb1, hnc, c0, c, c'] at hQ ⊢
        exact fin_wk gr (.same _) (by simp) hQ
      · have c' : ¬ (1 : Int) < (kids.length : Nat) := by omega
        simp [hb1, hnc, c0, c, c'] at hQ ⊢
        exact fin_wk gr (.same _) (by simp) hQ
    · simp [hb1, hnc, c0] at hQ ⊢
      exact fin_wk gr (.same _) (by simp) hQ
  have three : ∀ k : Int, (k = 3 ∨ k = 4 ∨ k = 5) → kind = k → (Q (.bool (decide (name = []) && decide (kids.length = 1))) h) := fun k hk e => by
    subst e
    rcases hk with rfl | rfl | rfl <;> simpa using hQ
  by_cases k3 : kind = 3 ∨ kind = 4 ∨ kind = 5
  · have q := three kind k3 rfl
    clear three
    have fin3 : ∀ b, Q (.bool b) h → Fin h (.bool b) h1 (Lz.mk (a := Q)) := fun b hb => fin_wk gr (.same _) (by simp) hb
    by_cases c0 : name = [] <;> by_cases c : kids.length = 1
    all_goals
      first
        | (have c' : ((kids.length : Nat) : Int) = 1 := by omega
           rcases k3 with rfl | rfl | rfl <;> simp [hb1, hnc, c0, c, c'] at q ⊢ <;> exact fin3 _ q)
        | (have c' : ¬ ((kids.length : Nat) : Int) = 1 := by omega
           rcases k3 with rfl | rfl | rfl <;> simp [hb1, hnc, c0, c, c'] at q ⊢ <;> exact fin3 _ q)
  clear three
  have k3' : ¬ kind = 3 := fun e => k3 (.inl e)
  have k4' : ¬ kind = 4 := fun e => k3 (.inr (.inl e))
  have k5' : ¬ kind = 5 := fun e => k3 (.inr (.inr e))
  by_cases k6 : kind = 6
  · subst k6
    by_cases c : kids = []
    · subst c
      simp [hb0, htc, hb1, hnc] at hQ ⊢
      have hct := L.ctR
      rw [show A.slices_ContainsFunc_Rule = ctfF K.slices_IndexFunc_Rule from rfl] at hct
      have hix := L.ixR
      rw [show A.slices_IndexFunc_Rule = ixfF 2 true from rfl] at hix
      refine ecall (containsFunc encRl hct hix t.rules 0 _ [] _ (fun r => decide (r.name = name)) hl (fun r _ Q' h' gr' hQ' => ?_) ?_)
      · exact fine1_spec L r ((gr'.objs _ (by omega)).trans hb1) (by have := gr'.nobj; omega) hQ'
      have : (t.rules.any fun r => decide (r.name = name)) = decide (name ∈ rnames t) := by
        apply Bool.eq_iff_iff.2
        simp [rnames]
      simp [this]
      exact fin_wk gr (.same _) (by simp) hQ
    · simp [hb0, htc, hb1, hnc, c] at hQ ⊢
      exact fin_wk gr (.same _) (by simp) hQ
  by_cases k7 : kind = 7
  · subst k7
    by_cases c : kids = []
    · subst c
      simp [hb0, htc, hb1, hnc] at hQ ⊢
      refine ecall (containsB_spec L.ctB L.ixB name 0 39 (by omega) ?_)
      cases hb : name.any fun a => decide (39 = bt a) with
      | true =>
        rw [hb] at hQ
        simp at hQ ⊢
        exact fin_wk gr (.same _) (by simp) hQ
      | false =>
        rw [hb] at hQ
        simp [hb1, hnc] at hQ ⊢
        refine ⟨by omega, by omega, ecall (token_spec L.s L.token (39 :: (name ++ [39])) 2 (by simp; omega) ?_)⟩
        simp
        exact fin_wk gr (.same _) (by simp) hQ
    · simp [hb0, htc, hb1, hnc, c] at hQ ⊢
      exact fin_wk gr (.same _) (by simp) hQ
  have hf : Q (.bool false) h := by
    have e2 : (decide (3 ≤ kind) && decide (kind ≤ 5)) = false := by simp; omega
    simpa only [if_neg k7, if_neg k6, decide_eq_false k1, decide_eq_false k2, e2, Bool.false_and, Bool.false_or, Bool.or_false, Bool.and_false] using hQ
  simp [k1, k2, k3', k4', k5', k6, k7]
  exact fin_wk gr (.same _) (by simp) hf
end
theorem runN_allT {p : UInt8 → Bool} : ∀ {l r : Str}, l.all p = true → runN p (l ++ r) = l.length + runN p r
  | [], r, _ => by simp
  | a :: l, r, h => by
    simp only [List.all_cons, Bool.and_eq_true] at h
    have := runN_allT (p := p) (l := l) (r := r) h.2
    unfold runN at this ⊢
    simp only [List.cons_append, List.takeWhile_cons, h.1, if_true, List.length_cons, this]; omega
theorem runN_bad {p : UInt8 → Bool} : ∀ {l r : Str}, l.all p = false → ∃ h : runN p (l ++ r) < l.length, p (l[runN p (l ++ r)]) = false
  | [], r, h => by simp at h
  | a :: l, r, h => by
    cases ha : p a with
    | false => 
      have : runN p (a :: l ++ r) = 0 := by simp [runN, List.takeWhile_cons, ha]
      exact ⟨by rw [this]; simp, by simp only [this]; exact ha⟩
    | true =>
      simp only [List.all_cons, ha, Bool.true_and] at h
      obtain ⟨h1, h2⟩ := runN_bad (p := p) (l := l) (r := r) h
      have : runN p (a :: l ++ r) = runN p (l ++ r) + 1 := by simp [runN, List.takeWhile_cons, ha]
      exact ⟨by rw [this]; simpa using h1, by simp only [this, List.getElem_cons_succ]; exact h2⟩
theorem sfirst_quote (name : Str) (h39 : (name.any fun a => decide (39 = bt a)) = false) : sfirst (39 :: name ++ [39]) = if name.all quotedB && decide (0 < name.length) then (2, name, name.length + 2) else (0, [], 0) := by
  have hb : bt 39 = 39 := rfl
  have hl : letterI 39 = false := by decide
  have hd : (39 :: name ++ [39]).drop 1 = name ++ [39] := rfl
  have h0 : (39 :: name ++ [39] : Str).getD 0 0 = 39 := rfl
  have hlen : (39 :: name ++ [39] : Str).length = name.length + 2 := by simp
  unfold sfirst
  simp only [h0, hb, hd, hlen, hl]
  rw [if_neg (by omega), if_neg (by omega), if_neg (by simp), if_pos trivial]
  cases ha : name.all quotedB with
  | true =>
    have hr : runN quotedB (name ++ [39]) = name.length := by
      rw [runN_allT ha]; simp [runN, List.takeWhile_cons, show quotedB 39 = false from by decide]
    generalize runN quotedB (name ++ [39]) = k at *
    subst hr
    by_cases h1 : 0 < name.length
    · have hg : (39 :: name ++ [39] : Str).getD (name.length + 1) 0 = 39 := by simp [List.getD_eq_getElem?_getD]
      rw [if_neg (by rintro (h | h | h) <;> first | omega | exact h (by rw [hg]; rfl))]
      simp [h1]
    · rw [if_pos (Or.inl (show name.length = 0 by omega))]
      simp [h1]
  | false =>
    obtain ⟨h1, h2⟩ := runN_bad (r := [39]) ha
    generalize hk : runN quotedB (name ++ [39]) = k at *
    have hg : (39 :: name ++ [39] : Str).getD (k + 1) 0 = name[k] := by
      simp [List.getD_eq_getElem?_getD, List.getElem?_append_left h1, h1]
    have hne : bt name[k] ≠ 39 := fun e => by
      have := List.any_eq_false.1 h39 _ (List.getElem_mem h1)
      simp [e] at this
    rw [if_pos (.inr (.inr (by rw [hg]; exact hne)))]
    simp
theorem token_quote (name : Str) (h39 : (name.any fun a => decide (39 = bt a)) = false) : tokenT (39 :: name ++ [39]) 2 = quoteT name := by
  have hs := sfirst_quote name h39
  have hlen : (39 :: name ++ [39] : Str).length = name.length + 2 := by simp
  have hne : (39 :: name ++ [39] : Str) ≠ [] := by simp
  unfold tokenT scanR
  rw [hlen]
  by_cases hb : 4000 < name.length + 2
  · rw [if_pos hb]
    simp [quoteT]; omega
  rw [if_neg hb, scanL_step 0 hne, hs]
  cases ha : name.all quotedB && decide (0 < name.length) with
  | true =>
    simp only [if_true]
    have hd : (39 :: name ++ [39] : Str).drop (name.length + 2) = [] := by simp
    rw [if_neg (by omega), hd, scanL_nil]
    simp only [Bool.and_eq_true, decide_eq_true_eq] at ha
    simp [quoteT, ha.1]; omega
  | false =>
    simp only [Bool.false_eq_true, if_false, if_true]
    have : quoteT name = false := by unfold quoteT; rw [ha]; rfl
    rw [this]
theorem fineP_eq (t : Te) (n : Nd) : fineP t n = fineT t n := by
  unfold fineP
  split
  · rename_i h7
    unfold fineT
    rw [if_neg (by omega), if_pos h7]
    cases h39 : n.name.any fun a => decide (39 = bt a) with
    | false => rw [token_quote _ h39]; simp
    | true =>
      have : quoteT n.name = false := by
        unfold quoteT
        have : n.name.all quotedB = false := by
          obtain ⟨a, ha, hb⟩ := List.any_eq_true.1 h39
          apply Bool.eq_false_iff.2
          intro hall
          have := List.all_eq_true.1 hall a ha
          simp [quotedB, quotedI] at this
          simp at hb
          omega
        rw [this]; rfl
      rw [this]; simp
  · rfl
end Go.Proofs.Ytmobijebjkjnoaa.Al
namespace Go.Proofs.Ytmobijebjkjnoaa.Al
open Go Go.RowKit
set_option linter.unusedSimpArgs false
set_option linter.unusedVariables false
attribute [-simp] List.getD_eq_getElem?_getD Int.not_lt Int.not_le List.map_take
/-- What becomes of a word from a place on. -/
def appF (w : List Int) : List Ed → Nat → List Int
  | [], i => w.drop i
  | x :: l, i => (w.take x.at'.toNat).drop i ++ (if x.drop = true then appF w l (x.at'.toNat + 1) else x.tok :: appF w l x.at'.toNat)
end Go.Proofs.Ytmobijebjkjnoaa.Al
namespace Go.Proofs.Ytmobijebjkjnoaa.Al
open Go Go.RowKit
set_option linter.unusedSimpArgs false
set_option linter.unusedVariables false
attribute [-simp] List.getD_eq_getElem?_getD Int.not_lt Int.not_le List.map_take
/-- Objects of Apply: how many tokens were put (m), and the first 24 of them (o). -/
structure PO (h0 h : AH) (m o : Nat) (L : List Int) : Prop where
  own : ∃ e st, Own h0 h 1 e st (ints (L.take 24)) ∧ h.objs o = [.sl e st (ints (L.take 24))]
  many : h.objs m = [.int .i64 L.length]
  hm : h0.nobj ≤ m
  ho : h0.nobj ≤ o
  ne : ¬ m = o
  lm : m < h.nobj
  lo : o < h.nobj
theorem PO.new {h0 h : AH} {m o : Nat} {L : List Int} (p : PO h0 h m o L) (z : List V) : PO h0 (h.new z) m o L := by
  obtain ⟨e, st, ow, ob⟩ := p.own
  have := p.lm
  have := p.lo
  exact ⟨⟨e, st, ⟨ow.gr.new z, ow.el, ow.st⟩, by rw [new_objs_ne _ _ (by omega)]; exact ob⟩, by rw [new_objs_ne _ _ (by omega)]; exact p.many, p.hm, p.ho, p.ne, by simp; omega, by simp; omega⟩
theorem PO.set {h0 h : AH} {m o : Nat} {L : List Int} (p : PO h0 h m o L) {q : Nat} (hq : h0.nobj ≤ q) (h1 : ¬ m = q) (h2 : ¬ o = q) (z : List V) : PO h0 (h.set q z) m o L := by
  obtain ⟨e, st, ow, ob⟩ := p.own
  exact ⟨⟨e, st, ⟨ow.gr.set hq z, ow.el, ow.st⟩, by rw [set_objs_ne _ _ _ h2]; exact ob⟩, by rw [set_objs_ne _ _ _ h1]; exact p.many, p.hm, p.ho, p.ne, p.lm, p.lo⟩
theorem PO.gr {h0 h : AH} {m o : Nat} {L : List Int} (p : PO h0 h m o L) : Gr h0 h := by obtain ⟨e, st, ow, _⟩ := p.own; exact ow.gr
end Go.Proofs.Ytmobijebjkjnoaa.Al
namespace Go.Proofs.Ytmobijebjkjnoaa.Al
def A.gram_Right : AFn := ⟨33, [(2, none)], (.seq (.reg [⟨(some 1), none, .box (.t 0)⟩, ⟨(some 2), none, .mv (.c (.bool false))⟩])
  (.keep [1] (.seq (.block 0 (.seq (.seq (.reg [⟨(some 4), none, .fa 0 (.t 1)⟩, ⟨(some 5), none, .load false 1 (.t 4)⟩, ⟨(some 6), none, .bin .lss (.t 5) (.c (.int .i64 (0)))⟩, ⟨(some 3), none, .mv (.t 6)⟩])
  (.keep [1, 3] (.cond (.t 3) .skip (.seq (.reg [⟨(some 7), none, .fa 0 (.t 1)⟩, ⟨(some 8), none, .load false 1 (.t 7)⟩, ⟨(some 9), none, .bin .gtr (.t 8) (.c (.int .i64 (16)))⟩, ⟨(some 3), none, .mv (.t 9)⟩])
  (.keep [1, 3] (.cond (.t 3) .skip (.seq (.reg [⟨(some 10), none, .fa 1 (.t 1)⟩, ⟨(some 11), none, .load false 1 (.t 10)⟩, ⟨(some 12), none, .bin .lss (.t 11) (.c (.int .i64 (1)))⟩, ⟨(some 3), none, .mv (.t 12)⟩])
  (.keep [1, 3] (.cond (.t 3) .skip (.seq (.reg [⟨(some 13), none, .fa 1 (.t 1)⟩, ⟨(some 14), none, .load false 1 (.t 13)⟩, ⟨(some 15), none, .bin .gtr (.t 14) (.c (.int .i64 (24)))⟩, ⟨(some 3), none, .mv (.t 15)⟩])
  (.keep [1, 3] (.cond (.t 3) .skip (.seq (.reg [⟨(some 16), none, .fa 2 (.t 1)⟩, ⟨(some 17), none, .load false 1 (.t 16)⟩, ⟨(some 18), none, .bin .lss (.t 17) (.c (.int .i64 (0)))⟩, ⟨(some 3), none, .mv (.t 18)⟩])
  (.keep [1, 3] (.cond (.t 3) .skip (.seq (.reg [⟨(some 19), none, .fa 2 (.t 1)⟩, ⟨(some 20), none, .load false 1 (.t 19)⟩, ⟨(some 21), none, .fa 1 (.t 1)⟩, ⟨(some 22), none, .load false 1 (.t 21)⟩, ⟨(some 23), none, .bin .geq (.t 20) (.t 22)⟩, ⟨(some 3), none, .mv (.t 23)⟩])
  (.keep [1, 3] (.cond (.t 3) .skip (.reg [⟨(some 24), none, .fa 3 (.t 1)⟩, ⟨(some 25), none, .load false 1 (.t 24)⟩, ⟨(some 26), none, .len false (.t 25)⟩, ⟨(some 27), none, .bin .gtr (.t 26) (.c (.int .i64 (60)))⟩, ⟨(some 3), none, .mv (.t 27)⟩])))))))))))))))))))
  (.keep [1, 3] (.cond (.t 3) (.seq (.reg [⟨(some 2), none, .mv (.c (.bool false))⟩]) .ret) .skip))))
  (.keep [1] (.seq (.reg [⟨(some 28), none, .fa 3 (.t 1)⟩, ⟨(some 29), none, .load false 1 (.t 28)⟩, ⟨(some 30), none, .mkfn K.gram_Right_1 [] [(.t 1)]⟩, ⟨(some 31), none, .call (.c (.fn K.slices_ContainsFunc_Prod [] [])) [(.t 29), (.t 30)]⟩, ⟨(some 32), none, .un .not (.t 31)⟩, ⟨(some 2), none, .mv (.t 32)⟩]) .ret)))))⟩
def A.gram_Right_1 : AFn := ⟨8, [(3, none)], (.seq (.reg [⟨(some 2), none, .box (.t 0)⟩, ⟨(some 3), none, .mv (.c (.bool false))⟩])
  (.keep [1, 2] (.seq (.reg [⟨(some 4), none, .load true 4 (.t 1)⟩, ⟨(some 5), none, .load true 2 (.t 2)⟩, ⟨(some 6), none, .call (.c (.fn K.gram_fits [] [])) [(.t 4), (.t 5)]⟩, ⟨(some 7), none, .un .not (.t 6)⟩, ⟨(some 3), none, .mv (.t 7)⟩]) .ret)))⟩
def A.gram_fits : AFn := ⟨23, [(4, none)], (.seq (.reg [⟨(some 2), none, .box (.t 0)⟩, ⟨(some 3), none, .box (.t 1)⟩, ⟨(some 4), none, .mv (.c (.bool false))⟩])
  (.keep [2, 3] (.seq (.reg [⟨(some 5), none, .load true 4 (.t 2)⟩, ⟨(some 6), none, .fa 0 (.t 3)⟩, ⟨(some 7), none, .load false 1 (.t 6)⟩, ⟨(some 8), none, .bld [(.bool false), (.int .i64 (0))] [(0, 1, (.c (.bool true))), (1, 1, (.t 7))]⟩, ⟨(some 9), none, .call (.c (.fn K.gram_there [] [])) [(.t 5), (.t 8)]⟩, ⟨(some 10), none, .mv (.t 9)⟩, ⟨(some 11), (some (10, true)), .fa 1 (.t 3)⟩, ⟨(some 12), (some (10, true)), .load false 1 (.t 11)⟩, ⟨(some 13), (some (10, true)), .len false (.t 12)⟩, ⟨(some 14), (some (10, true)), .bin .leq (.t 13) (.c (.int .i64 (8)))⟩, ⟨(some 15), none, .pick (.t 10) (.t 14) (.c (.bool false))⟩, ⟨(some 16), none, .mv (.t 15)⟩, ⟨(some 17), (some (16, true)), .fa 1 (.t 3)⟩, ⟨(some 18), (some (16, true)), .load false 1 (.t 17)⟩, ⟨(some 19), (some (16, true)), .mkfn K.gram_fits_1 [] [(.t 2)]⟩, ⟨(some 20), (some (16, true)), .call (.c (.fn K.slices_ContainsFunc_Sym [] [])) [(.t 18), (.t 19)]⟩, ⟨(some 21), (some (16, true)), .un .not (.t 20)⟩, ⟨(some 22), none, .pick (.t 16) (.t 21) (.c (.bool false))⟩, ⟨(some 4), none, .mv (.t 22)⟩]) .ret)))⟩
def A.gram_there : AFn := ⟨21, [(4, none)], (.seq (.reg [⟨(some 2), none, .box (.t 0)⟩, ⟨(some 3), none, .box (.t 1)⟩, ⟨(some 4), none, .mv (.c (.bool false))⟩])
  (.keep [2, 3] (.seq (.reg [⟨(some 6), none, .fa 0 (.t 2)⟩, ⟨(some 7), none, .load false 1 (.t 6)⟩, ⟨(some 5), none, .mv (.t 7)⟩])
  (.keep [2, 3, 5] (.seq (.seq (.reg [⟨(some 8), none, .fa 0 (.t 3)⟩, ⟨(some 9), none, .load false 1 (.t 8)⟩])
  (.keep [2, 3, 5, 9] (.cond (.t 9) (.reg [⟨(some 10), none, .fa 1 (.t 2)⟩, ⟨(some 11), none, .load false 1 (.t 10)⟩, ⟨(some 5), none, .mv (.t 11)⟩]) .skip)))
  (.keep [3, 5] (.seq (.reg [⟨(some 12), none, .fa 1 (.t 3)⟩, ⟨(some 13), none, .load false 1 (.t 12)⟩, ⟨(some 14), none, .bin .geq (.t 13) (.c (.int .i64 (0)))⟩, ⟨(some 15), none, .mv (.t 14)⟩, ⟨(some 16), (some (15, true)), .fa 1 (.t 3)⟩, ⟨(some 17), (some (15, true)), .load false 1 (.t 16)⟩, ⟨(some 18), (some (15, true)), .mv (.t 5)⟩, ⟨(some 19), (some (15, true)), .bin .lss (.t 17) (.t 18)⟩, ⟨(some 20), none, .pick (.t 15) (.t 19) (.c (.bool false))⟩, ⟨(some 4), none, .mv (.t 20)⟩]) .ret)))))))⟩
def A.gram_fits_1 : AFn := ⟨8, [(3, none)], (.seq (.reg [⟨(some 2), none, .box (.t 0)⟩, ⟨(some 3), none, .mv (.c (.bool false))⟩])
  (.keep [1, 2] (.seq (.reg [⟨(some 4), none, .load true 4 (.t 1)⟩, ⟨(some 5), none, .load true 2 (.t 2)⟩, ⟨(some 6), none, .call (.c (.fn K.gram_there [] [])) [(.t 4), (.t 5)]⟩, ⟨(some 7), none, .un .not (.t 6)⟩, ⟨(some 3), none, .mv (.t 7)⟩]) .ret)))⟩
end Go.Proofs.Ytmobijebjkjnoaa.Al
namespace Go.Proofs.Ytmobijebjkjnoaa.Al
def A.probateref03_Right.L1 : AC := .post (.seq (.seq (.reg [⟨(some 71), none, .mv (.t 5)⟩, ⟨(some 72), none, .fa 1 (.t 4)⟩, ⟨(some 73), none, .load false 1 (.t 72)⟩, ⟨(some 74), none, .len false (.t 73)⟩, ⟨(some 75), none, .bin .lss (.t 71) (.t 74)⟩])
  (.keep [1, 3, 4, 5, 75] (.cond (.t 75) .skip (.exit 2))))
  (.keep [1, 3, 4, 5] (.seq (.block 3 (.seq (.reg [⟨(some 78), none, .fa 1 (.t 4)⟩, ⟨(some 79), none, .load false 1 (.t 78)⟩, ⟨(some 80), none, .mv (.t 5)⟩, ⟨(some 81), none, .ia 2 (.t 79) (.t 80)⟩, ⟨(some 82), none, .load true 2 (.t 81)⟩, ⟨(some 6), none, .alloc [(.bool false), (.int .i64 (0))]⟩, ⟨none, none, .store 2 (.t 6) (.t 82)⟩])
  (.keep [1, 3, 4, 5, 6] (.seq (.reg [⟨(some 83), none, .fa 1 (.t 6)⟩, ⟨(some 84), none, .load false 1 (.t 83)⟩, ⟨(some 85), none, .bin .lss (.t 84) (.c (.int .i64 (0)))⟩, ⟨(some 86), none, .mv (.t 85)⟩, ⟨(some 87), (some (86, false)), .fa 0 (.t 6)⟩, ⟨(some 88), (some (86, false)), .load false 1 (.t 87)⟩, ⟨(some 89), (some (86, false)), .mv (.t 88)⟩, ⟨(some 90), (some (89, true)), .fa 1 (.t 6)⟩, ⟨(some 91), (some (89, true)), .load false 1 (.t 90)⟩, ⟨(some 92), (some (89, true)), .fa 1 (.t 1)⟩, ⟨(some 93), (some (89, true)), .load false 1 (.t 92)⟩, ⟨(some 94), (some (89, true)), .bin .geq (.t 91) (.t 93)⟩, ⟨(some 95), (some (86, false)), .pick (.t 89) (.t 94) (.c (.bool false))⟩, ⟨(some 96), none, .pick (.t 86) (.c (.bool true)) (.t 95)⟩, ⟨(some 97), none, .mv (.t 96)⟩, ⟨(some 98), (some (97, false)), .fa 0 (.t 6)⟩, ⟨(some 99), (some (97, false)), .load false 1 (.t 98)⟩, ⟨(some 100), (some (97, false)), .un .not (.t 99)⟩, ⟨(some 101), (some (97, false)), .mv (.t 100)⟩, ⟨(some 102), (some (101, true)), .fa 1 (.t 6)⟩, ⟨(some 103), (some (101, true)), .load false 1 (.t 102)⟩, ⟨(some 104), (some (101, true)), .fa 0 (.t 1)⟩, ⟨(some 105), (some (101, true)), .load false 1 (.t 104)⟩, ⟨(some 106), (some (101, true)), .bin .geq (.t 103) (.t 105)⟩, ⟨(some 107), (some (97, false)), .pick (.t 101) (.t 106) (.c (.bool false))⟩, ⟨(some 108), none, .pick (.t 97) (.c (.bool true)) (.t 107)⟩])
  (.keep [1, 3, 4, 5, 108] (.cond (.t 108) (.seq (.reg [⟨(some 2), none, .mv (.c (.bool false))⟩]) .ret) .skip))))))
  (.keep [1, 3, 4, 5] (.reg [⟨(some 76), none, .mv (.t 5)⟩, ⟨(some 77), none, .bin .add (.t 76) (.c (.int .i64 (1)))⟩, ⟨(some 5), none, .mv (.t 77)⟩]))))) [1, 3, 4, 5]
def A.probateref03_Right.L0 : AC := .post (.seq (.seq (.reg [⟨(some 43), none, .mv (.t 3)⟩, ⟨(some 44), none, .fa 3 (.t 1)⟩, ⟨(some 45), none, .load false 1 (.t 44)⟩, ⟨(some 46), none, .len false (.t 45)⟩, ⟨(some 47), none, .bin .lss (.t 43) (.t 46)⟩])
  (.keep [1, 3, 47] (.cond (.t 47) .skip (.exit 0))))
  (.keep [1, 3] (.seq (.block 1 (.seq (.reg [⟨(some 50), none, .fa 3 (.t 1)⟩, ⟨(some 51), none, .load false 1 (.t 50)⟩, ⟨(some 52), none, .mv (.t 3)⟩, ⟨(some 53), none, .ia 2 (.t 51) (.t 52)⟩, ⟨(some 54), none, .load true 2 (.t 53)⟩, ⟨(some 4), none, .alloc [(.int .i64 (0)), (.sl 0 1 [])]⟩, ⟨none, none, .store 2 (.t 4) (.t 54)⟩])
  (.keep [1, 3, 4] (.seq (.seq (.reg [⟨(some 55), none, .fa 0 (.t 4)⟩, ⟨(some 56), none, .load false 1 (.t 55)⟩, ⟨(some 57), none, .bin .lss (.t 56) (.c (.int .i64 (0)))⟩, ⟨(some 58), none, .mv (.t 57)⟩, ⟨(some 59), (some (58, false)), .fa 0 (.t 4)⟩, ⟨(some 60), (some (58, false)), .load false 1 (.t 59)⟩, ⟨(some 61), (some (58, false)), .fa 1 (.t 1)⟩, ⟨(some 62), (some (58, false)), .load false 1 (.t 61)⟩, ⟨(some 63), (some (58, false)), .bin .geq (.t 60) (.t 62)⟩, ⟨(some 64), none, .pick (.t 58) (.c (.bool true)) (.t 63)⟩, ⟨(some 65), none, .mv (.t 64)⟩, ⟨(some 66), (some (65, false)), .fa 1 (.t 4)⟩, ⟨(some 67), (some (65, false)), .load false 1 (.t 66)⟩, ⟨(some 68), (some (65, false)), .len false (.t 67)⟩, ⟨(some 69), (some (65, false)), .bin .gtr (.t 68) (.c (.int .i64 (8)))⟩, ⟨(some 70), none, .pick (.t 65) (.c (.bool true)) (.t 69)⟩])
  (.keep [1, 3, 4, 70] (.cond (.t 70) (.seq (.reg [⟨(some 2), none, .mv (.c (.bool false))⟩]) .ret) .skip)))
  (.keep [1, 3, 4] (.seq (.reg [⟨(some 5), none, .mv (.c (.int .i64 (0)))⟩])
  (.keep [1, 3, 4, 5] (.block 2 (.loop A.probateref03_Right.L1)))))))))
  (.keep [1, 3] (.reg [⟨(some 48), none, .mv (.t 3)⟩, ⟨(some 49), none, .bin .add (.t 48) (.c (.int .i64 (1)))⟩, ⟨(some 3), none, .mv (.t 49)⟩]))))) [1, 3]
def A.probateref03_Right : AFn := ⟨109, [(2, none)], (.seq (.reg [⟨(some 1), none, .box (.t 0)⟩, ⟨(some 2), none, .mv (.c (.bool false))⟩])
  (.keep [1] (.seq (.seq (.reg [⟨(some 7), none, .fa 0 (.t 1)⟩, ⟨(some 8), none, .load false 1 (.t 7)⟩, ⟨(some 9), none, .bin .lss (.t 8) (.c (.int .i64 (0)))⟩, ⟨(some 10), none, .mv (.t 9)⟩, ⟨(some 11), (some (10, false)), .fa 0 (.t 1)⟩, ⟨(some 12), (some (10, false)), .load false 1 (.t 11)⟩, ⟨(some 13), (some (10, false)), .bin .gtr (.t 12) (.c (.int .i64 (16)))⟩, ⟨(some 14), none, .pick (.t 10) (.c (.bool true)) (.t 13)⟩, ⟨(some 15), none, .mv (.t 14)⟩, ⟨(some 16), (some (15, false)), .fa 1 (.t 1)⟩, ⟨(some 17), (some (15, false)), .load false 1 (.t 16)⟩, ⟨(some 18), (some (15, false)), .bin .lss (.t 17) (.c (.int .i64 (1)))⟩, ⟨(some 19), none, .pick (.t 15) (.c (.bool true)) (.t 18)⟩, ⟨(some 20), none, .mv (.t 19)⟩, ⟨(some 21), (some (20, false)), .fa 1 (.t 1)⟩, ⟨(some 22), (some (20, false)), .load false 1 (.t 21)⟩, ⟨(some 23), (some (20, false)), .bin .gtr (.t 22) (.c (.int .i64 (24)))⟩, ⟨(some 24), none, .pick (.t 20) (.c (.bool true)) (.t 23)⟩, ⟨(some 25), none, .mv (.t 24)⟩, ⟨(some 26), (some (25, false)), .fa 2 (.t 1)⟩, ⟨(some 27), (some (25, false)), .load false 1 (.t 26)⟩, ⟨(some 28), (some (25, false)), .bin .lss (.t 27) (.c (.int .i64 (0)))⟩, ⟨(some 29), none, .pick (.t 25) (.c (.bool true)) (.t 28)⟩, ⟨(some 30), none, .mv (.t 29)⟩, ⟨(some 31), (some (30, false)), .fa 2 (.t 1)⟩, ⟨(some 32), (some (30, false)), .load false 1 (.t 31)⟩, ⟨(some 33), (some (30, false)), .fa 1 (.t 1)⟩, ⟨(some 34), (some (30, false)), .load false 1 (.t 33)⟩, ⟨(some 35), (some (30, false)), .bin .geq (.t 32) (.t 34)⟩, ⟨(some 36), none, .pick (.t 30) (.c (.bool true)) (.t 35)⟩, ⟨(some 37), none, .mv (.t 36)⟩, ⟨(some 38), (some (37, false)), .fa 3 (.t 1)⟩, ⟨(some 39), (some (37, false)), .load false 1 (.t 38)⟩, ⟨(some 40), (some (37, false)), .len false (.t 39)⟩, ⟨(some 41), (some (37, false)), .bin .gtr (.t 40) (.c (.int .i64 (60)))⟩, ⟨(some 42), none, .pick (.t 37) (.c (.bool true)) (.t 41)⟩])
  (.keep [1, 42] (.cond (.t 42) (.seq (.reg [⟨(some 2), none, .mv (.c (.bool false))⟩]) .ret) .skip)))
  (.keep [1] (.seq (.seq (.reg [⟨(some 3), none, .mv (.c (.int .i64 (0)))⟩])
  (.keep [1, 3] (.block 0 (.loop A.probateref03_Right.L0))))
  (.keep [] (.seq (.reg [⟨(some 2), none, .mv (.c (.bool true))⟩]) .ret)))))))⟩
def A.probateref03_Same.L1 : AC := .post (.seq (.seq (.reg [⟨(some 72), none, .mv (.t 6)⟩, ⟨(some 73), none, .fa 3 (.t 2)⟩, ⟨(some 74), none, .load false 1 (.t 73)⟩, ⟨(some 75), none, .mv (.t 5)⟩, ⟨(some 76), none, .ia 2 (.t 74) (.t 75)⟩, ⟨(some 77), none, .fa 1 (.t 76)⟩, ⟨(some 78), none, .load false 1 (.t 77)⟩, ⟨(some 79), none, .len false (.t 78)⟩, ⟨(some 80), none, .bin .lss (.t 72) (.t 79)⟩])
  (.keep [2, 3, 5, 6, 80] (.cond (.t 80) .skip (.exit 2))))
  (.keep [2, 3, 5, 6] (.seq (.block 3 (.seq (.draw [(.pl, ⟨(some 83), none, .fa 3 (.t 2)⟩), (.pl, ⟨(some 84), none, .load false 1 (.t 83)⟩), (.pl, ⟨(some 85), none, .mv (.t 5)⟩), (.pl, ⟨(some 86), none, .ia 2 (.t 84) (.t 85)⟩), (.pl, ⟨(some 87), none, .fa 1 (.t 86)⟩), (.pl, ⟨(some 88), none, .load false 1 (.t 87)⟩), (.pl, ⟨(some 89), none, .mv (.t 6)⟩), (.pl, ⟨(some 90), none, .ia 2 (.t 88) (.t 89)⟩), (.pl, ⟨(some 91), none, .load true 2 (.t 90)⟩), (.pl, ⟨(some 92), none, .fa 3 (.t 3)⟩), (.pl, ⟨(some 93), none, .load false 1 (.t 92)⟩), (.pl, ⟨(some 94), none, .mv (.t 5)⟩), (.pl, ⟨(some 95), none, .ia 2 (.t 93) (.t 94)⟩), (.pl, ⟨(some 96), none, .fa 1 (.t 95)⟩), (.pl, ⟨(some 97), none, .load false 1 (.t 96)⟩), (.pl, ⟨(some 98), none, .mv (.t 6)⟩), (.pl, ⟨(some 99), none, .ia 2 (.t 97) (.t 98)⟩), (.pl, ⟨(some 100), none, .load true 2 (.t 99)⟩), (.pl, ⟨(some 101), none, .eqs true [(.b, 0), (.i, 1)] (.t 91) (.t 100)⟩)])
  (.keep [2, 3, 5, 6, 101] (.cond (.t 101) (.seq (.reg [⟨(some 4), none, .mv (.c (.bool false))⟩]) .ret) .skip))))
  (.keep [2, 3, 5, 6] (.reg [⟨(some 81), none, .mv (.t 6)⟩, ⟨(some 82), none, .bin .add (.t 81) (.c (.int .i64 (1)))⟩, ⟨(some 6), none, .mv (.t 82)⟩]))))) [2, 3, 5, 6]
def A.probateref03_Same.L0 : AC := .post (.seq (.seq (.reg [⟨(some 35), none, .mv (.t 5)⟩, ⟨(some 36), none, .fa 3 (.t 2)⟩, ⟨(some 37), none, .load false 1 (.t 36)⟩, ⟨(some 38), none, .len false (.t 37)⟩, ⟨(some 39), none, .bin .lss (.t 35) (.t 38)⟩])
  (.keep [2, 3, 5, 39] (.cond (.t 39) .skip (.exit 0))))
  (.keep [2, 3, 5] (.seq (.block 1 (.seq (.seq (.draw [(.pl, ⟨(some 42), none, .fa 3 (.t 2)⟩), (.pl, ⟨(some 43), none, .load false 1 (.t 42)⟩), (.pl, ⟨(some 44), none, .mv (.t 5)⟩), (.pl, ⟨(some 45), none, .ia 2 (.t 43) (.t 44)⟩), (.pl, ⟨(some 46), none, .fa 0 (.t 45)⟩), (.pl, ⟨(some 47), none, .load false 1 (.t 46)⟩), (.pl, ⟨(some 48), none, .fa 3 (.t 3)⟩), (.pl, ⟨(some 49), none, .load false 1 (.t 48)⟩), (.pl, ⟨(some 50), none, .mv (.t 5)⟩), (.pl, ⟨(some 51), none, .ia 2 (.t 49) (.t 50)⟩), (.pl, ⟨(some 52), none, .fa 0 (.t 51)⟩), (.pl, ⟨(some 53), none, .load false 1 (.t 52)⟩), (.pl, ⟨(some 54), none, .bin .neq (.t 47) (.t 53)⟩), (.pl, ⟨(some 55), none, .mv (.t 54)⟩), (.pl, ⟨(some 56), (some (55, false)), .fa 3 (.t 2)⟩), (.pl, ⟨(some 57), (some (55, false)), .load false 1 (.t 56)⟩), (.pl, ⟨(some 58), (some (55, false)), .mv (.t 5)⟩), (.pl, ⟨(some 59), (some (55, false)), .ia 2 (.t 57) (.t 58)⟩), (.pl, ⟨(some 60), (some (55, false)), .fa 1 (.t 59)⟩), (.pl, ⟨(some 61), (some (55, false)), .load false 1 (.t 60)⟩), (.pl, ⟨(some 62), (some (55, false)), .len false (.t 61)⟩), (.pl, ⟨(some 63), (some (55, false)), .fa 3 (.t 3)⟩), (.pl, ⟨(some 64), (some (55, false)), .load false 1 (.t 63)⟩), (.pl, ⟨(some 65), (some (55, false)), .mv (.t 5)⟩), (.pl, ⟨(some 66), (some (55, false)), .ia 2 (.t 64) (.t 65)⟩), (.pl, ⟨(some 67), (some (55, false)), .fa 1 (.t 66)⟩), (.pl, ⟨(some 68), (some (55, false)), .load false 1 (.t 67)⟩), (.pl, ⟨(some 69), (some (55, false)), .len false (.t 68)⟩), (.pl, ⟨(some 70), (some (55, false)), .bin .neq (.t 62) (.t 69)⟩), (.pl, ⟨(some 71), none, .pick (.t 55) (.c (.bool true)) (.t 70)⟩)])
  (.keep [2, 3, 5, 71] (.cond (.t 71) (.seq (.reg [⟨(some 4), none, .mv (.c (.bool false))⟩]) .ret) .skip)))
  (.keep [2, 3, 5] (.seq (.reg [⟨(some 6), none, .mv (.c (.int .i64 (0)))⟩])
  (.keep [2, 3, 5, 6] (.block 2 (.loop A.probateref03_Same.L1)))))))
  (.keep [2, 3, 5] (.reg [⟨(some 40), none, .mv (.t 5)⟩, ⟨(some 41), none, .bin .add (.t 40) (.c (.int .i64 (1)))⟩, ⟨(some 5), none, .mv (.t 41)⟩]))))) [2, 3, 5]
def A.probateref03_Same : AFn := ⟨102, [(4, none)], (.seq (.reg [⟨(some 2), none, .box (.t 0)⟩, ⟨(some 3), none, .box (.t 1)⟩, ⟨(some 4), none, .mv (.c (.bool false))⟩])
  (.keep [2, 3] (.seq (.seq (.reg [⟨(some 7), none, .fa 0 (.t 2)⟩, ⟨(some 8), none, .load false 1 (.t 7)⟩, ⟨(some 9), none, .fa 0 (.t 3)⟩, ⟨(some 10), none, .load false 1 (.t 9)⟩, ⟨(some 11), none, .bin .neq (.t 8) (.t 10)⟩, ⟨(some 12), none, .mv (.t 11)⟩, ⟨(some 13), (some (12, false)), .fa 1 (.t 2)⟩, ⟨(some 14), (some (12, false)), .load false 1 (.t 13)⟩, ⟨(some 15), (some (12, false)), .fa 1 (.t 3)⟩, ⟨(some 16), (some (12, false)), .load false 1 (.t 15)⟩, ⟨(some 17), (some (12, false)), .bin .neq (.t 14) (.t 16)⟩, ⟨(some 18), none, .pick (.t 12) (.c (.bool true)) (.t 17)⟩, ⟨(some 19), none, .mv (.t 18)⟩, ⟨(some 20), (some (19, false)), .fa 2 (.t 2)⟩, ⟨(some 21), (some (19, false)), .load false 1 (.t 20)⟩, ⟨(some 22), (some (19, false)), .fa 2 (.t 3)⟩, ⟨(some 23), (some (19, false)), .load false 1 (.t 22)⟩, ⟨(some 24), (some (19, false)), .bin .neq (.t 21) (.t 23)⟩, ⟨(some 25), none, .pick (.t 19) (.c (.bool true)) (.t 24)⟩, ⟨(some 26), none, .mv (.t 25)⟩, ⟨(some 27), (some (26, false)), .fa 3 (.t 2)⟩, ⟨(some 28), (some (26, false)), .load false 1 (.t 27)⟩, ⟨(some 29), (some (26, false)), .len false (.t 28)⟩, ⟨(some 30), (some (26, false)), .fa 3 (.t 3)⟩, ⟨(some 31), (some (26, false)), .load false 1 (.t 30)⟩, ⟨(some 32), (some (26, false)), .len false (.t 31)⟩, ⟨(some 33), (some (26, false)), .bin .neq (.t 29) (.t 32)⟩, ⟨(some 34), none, .pick (.t 26) (.c (.bool true)) (.t 33)⟩])
  (.keep [2, 3, 34] (.cond (.t 34) (.seq (.reg [⟨(some 4), none, .mv (.c (.bool false))⟩]) .ret) .skip)))
  (.keep [2, 3] (.seq (.seq (.reg [⟨(some 5), none, .mv (.c (.int .i64 (0)))⟩])
  (.keep [2, 3, 5] (.block 0 (.loop A.probateref03_Same.L0))))
  (.keep [] (.seq (.reg [⟨(some 4), none, .mv (.c (.bool true))⟩]) .ret)))))))⟩
end Go.Proofs.Ytmobijebjkjnoaa.Al
namespace Go.Proofs.Ytmobijebjkjnoaa.Al
open Go Go.RowKit
set_option linter.unusedSimpArgs false
set_option linter.unusedVariables false
attribute [-simp] List.getD_eq_getElem?_getD Int.not_lt Int.not_le List.map_take
theorem ixf_prod : A.slices_IndexFunc_Prod = ixfF 2 true := rfl
theorem ixf_sym : A.slices_IndexFunc_Sym = ixfF 2 true := rfl
theorem ctf_prod : A.slices_ContainsFunc_Prod = ctfF K.slices_IndexFunc_Prod := rfl
theorem ctf_sym : A.slices_ContainsFunc_Sym = ctfF K.slices_IndexFunc_Sym := rfl
/-- A symbol, a production, a grammar. -/
structure Sy where
  non : Bool
  n : Int
  deriving DecidableEq
structure Pr where
  left : Int
  right : List Sy
  deriving DecidableEq
structure Gm where
  terms : Int
  nons : Int
  start : Int
  prods : List Pr
  deriving DecidableEq
def symC (s : Sy) : List V := [.bool s.non, .int .i64 s.n]
def symV (s : Sy) : V := .agg (symC s)
def prC (p : Pr) : List V := [.int .i64 p.left, .sl 2 0 (p.right.map symV)]
def prV (p : Pr) : V := .agg (prC p)
def gmC (g : Gm) : List V := [.int .i64 g.terms, .int .i64 g.nons, .int .i64 g.start, .sl 2 0 (g.prods.map prV)]
def gmV (g : Gm) : V := .agg (gmC g)
theorem encS : Enc symV 2 true := ⟨fun _ => rfl, fun _ => rfl, fun _ => rfl, fun a n m v hv => by simp [symV, symC, V.cells] at hv; rcases hv with rfl | rfl <;> simp⟩
theorem encP : Enc prV 2 true := ⟨fun _ => rfl, fun _ => rfl, fun _ => rfl, fun a n m v hv => by
  simp [prV, prC, V.cells] at hv
  rcases hv with rfl | rfl
  · simp
  · rw [Bdd_sl0]; exact ⟨by omega, encS.cells n m a.right⟩⟩
theorem Wk.a4 {d d' : V} (w : Wk d d') (a b c : V) : Wk (.agg [a, b, c, d]) (.agg [a, b, c, d']) := .agg _ _ rfl fun i h1 h2 => by
  match i with
  | 0 => exact .same _
  | 1 => exact .same _
  | 2 => exact .same _
  | 3 => exact w
  | n + 4 => simp at h1; omega
theorem gm_bdd (g : Gm) (n m : Nat) : ∀ v ∈ gmC g, Bdd n m v := by
  intro v hv
  simp [gmC] at hv
  rcases hv with rfl | rfl | rfl | rfl
  · simp
  · simp
  · simp
  · rw [Bdd_sl0]; exact ⟨by omega, encP.cells n m g.prods⟩
def thereG (g : Gm) (s : Sy) : Bool := decide (0 ≤ s.n) && decide (s.n < if s.non = true then g.nons else g.terms)
def fitsG (g : Gm) (p : Pr) : Bool := thereG g ⟨true, p.left⟩ && decide (p.right.length ≤ 8) && p.right.all (thereG g)
def headG (g : Gm) : Bool := decide (0 ≤ g.terms) && decide (g.terms ≤ 16) && decide (1 ≤ g.nons) && decide (g.nons ≤ 24) && decide (0 ≤ g.start) && decide (g.start < g.nons) && decide (g.prods.length ≤ 60)
def rightG (g : Gm) : Bool := headG g && g.prods.all (fitsG g)
theorem not_any_not {α : Type} (f : α → Bool) : ∀ l : List α, (!l.any fun a => !f a) = l.all f
  | [] => rfl
  | a :: l => by have := not_any_not f l; simp only [List.any_cons, List.all_cons, Bool.not_or, Bool.not_not, this]
section
variable {X : Cx} {h : AH} {Q : V → AH → Prop}
/-- What layer 3's program calls. -/
structure LGr (X : Cx) : Prop where
  there : Has (Ecx X) K.gram_there A.gram_there
  fits : Has (Ecx X) K.gram_fits A.gram_fits
  fits1 : Has (Ecx X) K.gram_fits_1 A.gram_fits_1
  right : Has (Ecx X) K.gram_Right A.gram_Right
  right1 : Has (Ecx X) K.gram_Right_1 A.gram_Right_1
  ctP : Has (Ecx X) K.slices_ContainsFunc_Prod A.slices_ContainsFunc_Prod
  ctS : Has (Ecx X) K.slices_ContainsFunc_Sym A.slices_ContainsFunc_Sym
  ixP : Has (Ecx X) K.slices_IndexFunc_Prod A.slices_IndexFunc_Prod
  ixS : Has (Ecx X) K.slices_IndexFunc_Sym A.slices_IndexFunc_Sym
theorem there_spec (H : Has (Ecx X) K.gram_there A.gram_there) (g : Gm) (s : Sy) (hQ : Q (.bool (thereG g s)) h) : Ecx X K.gram_there [gmV g, symV s] h Q := by
  refine fn_walk H (by simp [A.gram_there]) fun wf => ?_
  have gr := ((Gr.refl h).new (gmC g)).new (symC s)
  obtain ⟨non, n⟩ := s
  unfold thereG at hQ
  cases non <;> by_cases c1 : 0 ≤ n
  · by_cases c2 : n < g.terms <;> simp [A.gram_there, gmV, symV, gmC, symC, V.cells, V.good, c1, c2] at hQ gr ⊢ <;> exact fin_wk gr (.same _) (by simp) hQ
  · simp [A.gram_there, gmV, symV, gmC, symC, V.cells, V.good, c1] at hQ gr ⊢; exact fin_wk gr (.same _) (by simp) hQ
  · by_cases c2 : n < g.nons <;> simp [A.gram_there, gmV, symV, gmC, symC, V.cells, V.good, c1, c2] at hQ gr ⊢ <;> exact fin_wk gr (.same _) (by simp) hQ
  · simp [A.gram_there, gmV, symV, gmC, symC, V.cells, V.good, c1] at hQ gr ⊢; exact fin_wk gr (.same _) (by simp) hQ
theorem fits1_spec (L : LGr X) (g : Gm) (s : Sy) (o : Nat) (ho : h.objs o = gmC g) (hQ : Q (.bool (!thereG g s)) h) : Ecx X K.gram_fits_1 [symV s, .ptr o 0] h Q := by
  refine Ecx.bdd fun hb => fn_walk L.fits1 (by simp [A.gram_fits_1]) fun wf => ?_
  have hol : o < h.nobj := by have := hb (.ptr o 0) (by simp); simpa using this
  have n1 : ¬ o = h.nobj := by omega
  have gr := (Gr.refl h).new (symC s)
  simp [A.gram_fits_1, symV, V.cells, V.good, n1, ho, show (gmC g).length = 4 from rfl, show (gmC g).take 4 = gmC g from rfl, show (symC s).length = 2 from rfl, show (symC s).take 2 = symC s from rfl]
  refine ecall (there_spec L.there g s ?_)
  simp
  exact fin_wk gr (.same _) (by simp) hQ
theorem gm4 (g : Gm) : (gmC g).length = 4 ∧ (gmC g).take 4 = gmC g := ⟨rfl, rfl⟩
theorem pr2 (p : Pr) : (prC p).length = 2 ∧ (prC p).take 2 = prC p := ⟨rfl, rfl⟩
theorem fits_spec3 (L : LGr X) (g : Gm) (p : Pr) (hl : p.right.length ≤ maxLen) (hQ : Q (.bool (fitsG g p)) h) : Ecx X K.gram_fits [gmV g, prV p] h Q := by
  refine fn_walk L.fits (by simp [A.gram_fits]) fun wf => ?_
  have gr := ((Gr.refl h).new (gmC g)).new (prC p)
  simp [A.gram_fits, gmV, prV, V.cells, V.good, gm4, fillV, setAt, show prC p = [.int .i64 p.left, .sl 2 0 (p.right.map symV)] from rfl]
  refine ecall (there_spec L.there g ⟨true, p.left⟩ ?_)
  unfold fitsG at hQ
  cases ht : thereG g ⟨true, p.left⟩ with
  | false => rw [ht] at hQ; simp at hQ ⊢; exact fin_wk gr (.same _) (by simp) hQ
  | true =>
    rw [ht] at hQ
    by_cases c : p.right.length ≤ 8
    · have c' : (p.right.length : Int) ≤ 8 := by omega
      simp [c] at hQ
      simp [c']
      have hcs := L.ctS
      have hxs := L.ixS
      rw [ctf_sym] at hcs
      rw [ixf_sym] at hxs
      refine ecall (containsFunc encS hcs hxs p.right 0 _ [] _ (fun s => !thereG g s) (by omega) (fun s _ Q' h' gr' hQ' => ?_) ?_)
      · refine fits1_spec L g s h.nobj ?_ hQ'
        rw [gr'.objs _ (by simp)]; simp
      · simp [not_any_not]
        exact fin_wk gr (.same _) (by simp) hQ
    · have c' : ¬ (p.right.length : Int) ≤ 8 := by omega
      simp [c] at hQ
      simp [c']
      exact fin_wk gr (.same _) (by simp) hQ
theorem right1_spec (L : LGr X) (g : Gm) (p : Pr) (o : Nat) (ho : h.objs o = gmC g) (hl : p.right.length ≤ maxLen) (hQ : Q (.bool (!fitsG g p)) h) : Ecx X K.gram_Right_1 [prV p, .ptr o 0] h Q := by
  refine Ecx.bdd fun hb => fn_walk L.right1 (by simp [A.gram_Right_1]) fun wf => ?_
  have hol : o < h.nobj := by have := hb (.ptr o 0) (by simp); simpa using this
  have n1 : ¬ o = h.nobj := by omega
  have gr := (Gr.refl h).new (prC p)
  simp [A.gram_Right_1, prV, V.cells, V.good, n1, ho, gm4, pr2]
  refine ecall (fits_spec3 L g p hl ?_)
  simp
  exact fin_wk gr (.same _) (by simp) hQ
/-- A grammar that may be handed in. -/
structure GmOk (g : Gm) : Prop where
  len : g.prods.length ≤ maxLen
  rl : ∀ p ∈ g.prods, p.right.length ≤ maxLen
theorem right3R (L : LGr X) (g : Gm) (ok : GmOk g) (hQ : Q (.bool (rightG g)) h) : Ecx X K.gram_Right [gmV g] h Q := by
  refine fn_walk L.right (by simp [A.gram_Right]) fun wf => ?_
  have gr := (Gr.refl h).new (gmC g)
  unfold rightG headG at hQ
  simp [A.gram_Right, gmV, V.cells, V.good, show gmC g = [.int .i64 g.terms, .int .i64 g.nons, .int .i64 g.start, .sl 2 0 (g.prods.map prV)] from rfl] at gr ⊢
  by_cases c1 : g.terms < 0
  · simp [c1, show ¬ 0 ≤ g.terms by omega] at hQ ⊢; exact fin_wk gr (.same _) (by simp) hQ
  by_cases c2 : 16 < g.terms
  · simp [c1, c2, show ¬ g.terms ≤ 16 by omega] at hQ ⊢; exact fin_wk gr (.same _) (by simp) hQ
  by_cases c3 : g.nons < 1
  · simp [c1, c2, c3, show ¬ 1 ≤ g.nons by omega] at hQ ⊢; exact fin_wk gr (.same _) (by simp) hQ
  by_cases c4 : 24 < g.nons
  · simp [c1, c2, c3, c4, show ¬ g.nons ≤ 24 by omega] at hQ ⊢; exact fin_wk gr (.same _) (by simp) hQ
  by_cases c5 : g.start < 0
  · simp [c1, c2, c3, c4, c5, show ¬ 0 ≤ g.start by omega] at hQ ⊢; exact fin_wk gr (.same _) (by simp) hQ
  by_cases c6 : g.nons ≤ g.start
  · simp [c1, c2, c3, c4, c5, c6, show ¬ g.start < g.nons by omega] at hQ ⊢; exact fin_wk gr (.same _) (by simp) hQ
  by_cases c7 : (60 : Int) < g.prods.length
  · simp [c1, c2, c3, c4, c5, c6, c7, show ¬ g.prods.length ≤ 60 by omega] at hQ ⊢; exact fin_wk gr (.same _) (by simp) hQ
  simp [show 0 ≤ g.terms by omega, show g.terms ≤ 16 by omega, show 1 ≤ g.nons by omega, show g.nons ≤ 24 by omega, show 0 ≤ g.start by omega, show g.start < g.nons by omega, show g.prods.length ≤ 60 by omega] at hQ
  simp [c1, c2, c3, c4, c5, c6, c7]
  have hcs := L.ctP
  have hxs := L.ixP
  rw [ctf_prod] at hcs
  rw [ixf_prod] at hxs
  refine ecall (containsFunc encP hcs hxs g.prods 0 _ [] _ (fun p => !fitsG g p) (by omega) (fun p hp Q' h' gr' hQ' => ?_) ?_)
  · refine right1_spec L g p h.nobj ?_ (ok.rl p hp) hQ'
    rw [gr'.objs _ (by simp)]; simp; rfl
  · simp [not_any_not]
    exact fin_wk gr (.same _) (by simp) hQ
/-! ### A nonterminal's productions -/
/-! ### A copy -/
end
end Go.Proofs.Ytmobijebjkjnoaa.Al
namespace Go.Proofs.Ytmobijebjkjnoaa.Al
open Go Go.RowKit
set_option linter.unusedSimpArgs false
set_option linter.unusedVariables false
attribute [-simp] List.getD_eq_getElem?_getD Int.not_lt Int.not_le List.map_take
/-- A tree's terminals. -/
def termsF : List Nd → List Str → List Str
  | [], out => out
  | n :: l, out => termsF l (if n.kind = 7 ∧ plc n.name out 0 < 0 then out ++ [n.name] else out)
def termsT (t : Te) : List Str := termsF t.nodes []
theorem termsF_len : ∀ (l : List Nd) (out : List Str), (termsF l out).length ≤ out.length + l.length ∧ out.length ≤ (termsF l out).length
  | [], out => by simp [termsF]
  | n :: l, out => by
    have key := termsF_len l (if n.kind = 7 ∧ plc n.name out 0 < 0 then out ++ [n.name] else out)
    simp only [termsF, List.length_cons]
    by_cases c : n.kind = 7 ∧ plc n.name out 0 < 0
    · rw [if_pos c] at key ⊢
      simp at key
      omega
    · rw [if_neg c] at key ⊢
      omega
section
variable {X : Cx} {h : AH} {Q : V → AH → Prop}
theorem Bdd_strs (n m : Nat) (l : List Str) : ∀ v ∈ cellsOf (strs l), Bdd n m v := by
  intro v hv
  have : ∀ l : List Str, cellsOf (strs l) = strs l := fun l => by
    induction l with
    | nil => rfl
    | cons a l ih => simp only [strs, List.map_cons, cellsOf_cons, V.cells, List.singleton_append] at *; rw [ih]
  rw [this] at hv
  obtain ⟨s, _, rfl⟩ := List.mem_map.1 hv
  simp
/-- Is a node a kid that is laid where its Alt is? -/
def kidT (x : Nd) (i kind : Int) : Bool := x.kids.any fun m => decide (x.kind = 2) && decide (m = i) && decide (kind = 1)
/-- A node's own nonterminal; below 0: it has none. -/
def hasN (t : Te) (i : Nat) : Bool := match t.nodes[i]? with
  | some x => decide (x.kind ≤ 5) && (t.rules.all fun r => decide (r.body ≠ i)) && !t.nodes.any fun y => kidT y i x.kind
  | none => false
def cntN (t : Te) (i : Nat) : Nat := (List.range i).countP (hasN t)
def ownN (t : Te) (i : Nat) : Int := if hasN t i then (t.rules.length + cntN t i : Nat) else -1
/-- A node's symbol. -/
def symT (t : Te) (i : Nat) : Sy := match t.nodes[i]? with
  | some x => if x.kind = 7 then ⟨false, plc x.name (termsT t) 0⟩ else if x.kind = 6 then ⟨true, plc x.name (rnames t) 0⟩ else ⟨true, ownN t i⟩
  | none => ⟨false, 0⟩
structure LR8 (X : Cx) : Prop where
  terms : Has (Ecx X) K.probateref08_Terms A.probateref08_Terms
  place : Has (Ecx X) K.probateref08_place A.probateref08_place
  rule : Has (Ecx X) K.probateref08_rule A.probateref08_rule
  own : Has (Ecx X) K.probateref08_own A.probateref08_own
  symbol : Has (Ecx X) K.probateref08_symbol A.probateref08_symbol
  symbols : Has (Ecx X) K.probateref08_symbols A.probateref08_symbols
def symsT (t : Te) (l : List Int) : List Sy := l.map fun m => symT t m.toNat
end
end Go.Proofs.Ytmobijebjkjnoaa.Al
namespace Go.Proofs.Ytmobijebjkjnoaa.Al
def A.rules_Right_o.L1 : AC := .post (.seq (.seq (.reg [⟨(some 59), none, .mv (.t 3)⟩, ⟨(some 60), none, .fa 1 (.t 5)⟩, ⟨(some 61), none, .load false 1 (.t 60)⟩, ⟨(some 62), none, .bin .leq (.t 59) (.t 61)⟩])
  (.keep [1, 3, 5, 6, 26, 27, 28, 62] (.cond (.t 62) .skip (.exit 2))))
  (.keep [1, 3, 5, 6, 26, 27, 28] (.seq (.block 3 (.seq (.reg [⟨(some 65), none, .fa 1 (.t 1)⟩, ⟨(some 66), none, .load false 1 (.t 65)⟩, ⟨(some 67), none, .mv (.t 3)⟩, ⟨(some 68), none, .ia 3 (.t 66) (.t 67)⟩, ⟨(some 69), none, .load true 3 (.t 68)⟩, ⟨(some 7), none, .alloc [(.int .i64 (0)), (.str []), (.sl 0 1 [])]⟩, ⟨none, none, .store 3 (.t 7) (.t 69)⟩])
  (.keep [1, 3, 5, 6, 7, 26, 27, 28] (.seq (.reg [⟨(some 70), none, .mv (.t 6)⟩, ⟨(some 71), none, .len false (.t 70)⟩, ⟨(some 72), none, .fa 2 (.t 7)⟩, ⟨(some 73), none, .load false 1 (.t 72)⟩, ⟨(some 74), none, .len false (.t 73)⟩, ⟨(some 75), none, .bin .sub (.t 71) (.t 74)⟩, ⟨(some 8), none, .mv (.t 75)⟩])
  (.keep [1, 3, 5, 6, 7, 8, 26, 27, 28] (.seq (.seq (.draw [(.pl, ⟨(some 76), none, .load true 2 (.t 1)⟩), (.pl, ⟨(some 77), none, .load true 3 (.t 7)⟩), (.pl, ⟨(some 78), none, .call (.c (.fn K.rules_Tree_fine [] [])) [(.t 76), (.t 77)]⟩), (.pl, ⟨(some 79), none, .un .not (.t 78)⟩), (.pl, ⟨(some 80), none, .mv (.t 79)⟩), (.pl, ⟨(some 81), (some (80, false)), .mv (.t 8)⟩), (.pl, ⟨(some 82), (some (80, false)), .bin .lss (.t 81) (.c (.int .i64 (0)))⟩), (.pl, ⟨(some 83), none, .pick (.t 80) (.c (.bool true)) (.t 82)⟩), (.pl, ⟨(some 84), none, .mv (.t 83)⟩), (.pl, ⟨(some 85), (some (84, false)), .mv (.t 6)⟩), (.pl, ⟨(some 86), (some (84, false)), .mv (.t 8)⟩), (.pl, ⟨(some 87), (some (84, false)), .slc 1 (.t 85) (some (.t 86)) none⟩), (.pl, ⟨(some 88), (some (84, false)), .fa 2 (.t 7)⟩), (.pl, ⟨(some 89), (some (84, false)), .load false 1 (.t 88)⟩), (.pl, ⟨(some 90), (some (84, false)), .call (.c (.fn K.slices_Equal_int [] [])) [(.t 87), (.t 89)]⟩), (.pl, ⟨(some 91), (some (84, false)), .un .not (.t 90)⟩), (.pl, ⟨(some 92), none, .pick (.t 84) (.c (.bool true)) (.t 91)⟩)])
  (.keep [1, 3, 5, 6, 8, 26, 27, 28, 92] (.cond (.t 92) (.seq (.reg [⟨(some 2), none, .mv (.c (.bool false))⟩]) .ret) .skip)))
  (.keep [1, 3, 5, 6, 8, 26, 27, 28] (.reg [⟨(some 93), none, .mv (.t 6)⟩, ⟨(some 94), none, .mv (.t 8)⟩, ⟨(some 95), none, .slc 1 (.t 93) none (some (.t 94))⟩, ⟨(some 96), none, .mv (.t 3)⟩, ⟨(some 97), none, .bsl 1 false [(.int .i64 (0))] 1 [(0, (.t 96))]⟩, ⟨(some 98), none, .appg 1 8 (.t 95) (.t 97)⟩, ⟨(some 6), none, .mv (.t 98)⟩]))))))))
  (.keep [1, 3, 5, 6, 26, 27, 28] (.reg [⟨(some 63), none, .mv (.t 3)⟩, ⟨(some 64), none, .bin .add (.t 63) (.c (.int .i64 (1)))⟩, ⟨(some 3), none, .mv (.t 64)⟩]))))) [1, 3, 5, 6, 26, 27, 28]
def A.rules_Right_o.L0 : AC := .post (.seq (.reg [⟨(some 29), none, .bin .lss (.t 28) (.t 27)⟩])
  (.keep [1, 3, 26, 27, 28, 29] (.seq (.cond (.t 29) .skip (.exit 0))
  (.keep [1, 3, 26, 27, 28] (.seq (.block 1 (.seq (.reg [⟨(some 30), none, .mv (.t 28)⟩, ⟨(some 31), none, .ia 2 (.t 26) (.t 28)⟩, ⟨(some 32), none, .load true 2 (.t 31)⟩, ⟨(some 5), none, .alloc [(.str []), (.int .i64 (0))]⟩, ⟨(some 4), none, .mv (.t 30)⟩, ⟨none, none, .store 2 (.t 5) (.t 32)⟩])
  (.keep [1, 3, 4, 5, 26, 27, 28] (.seq (.seq (.reg [⟨(some 33), none, .fa 0 (.t 5)⟩, ⟨(some 34), none, .load false 1 (.t 33)⟩, ⟨(some 35), none, .call (.c (.fn K.rules_token [] [])) [(.t 34), (.c (.int .i64 (1)))]⟩, ⟨(some 36), none, .un .not (.t 35)⟩, ⟨(some 37), none, .mv (.t 36)⟩, ⟨(some 38), (some (37, false)), .fa 0 (.t 1)⟩, ⟨(some 39), (some (37, false)), .load false 1 (.t 38)⟩, ⟨(some 40), (some (37, false)), .mv (.t 4)⟩, ⟨(some 41), (some (37, false)), .slc 2 (.t 39) none (some (.t 40))⟩, ⟨(some 42), (some (37, false)), .mkfn K.rules_Right_1 [] [(.t 5)]⟩, ⟨(some 43), (some (37, false)), .call (.c (.fn K.slices_ContainsFunc_Rule [] [])) [(.t 41), (.t 42)]⟩, ⟨(some 44), none, .pick (.t 37) (.c (.bool true)) (.t 43)⟩, ⟨(some 45), none, .mv (.t 44)⟩, ⟨(some 46), (some (45, false)), .fa 1 (.t 5)⟩, ⟨(some 47), (some (45, false)), .load false 1 (.t 46)⟩, ⟨(some 48), (some (45, false)), .mv (.t 3)⟩, ⟨(some 49), (some (45, false)), .bin .lss (.t 47) (.t 48)⟩, ⟨(some 50), none, .pick (.t 45) (.c (.bool true)) (.t 49)⟩, ⟨(some 51), none, .mv (.t 50)⟩, ⟨(some 52), (some (51, false)), .fa 1 (.t 5)⟩, ⟨(some 53), (some (51, false)), .load false 1 (.t 52)⟩, ⟨(some 54), (some (51, false)), .fa 1 (.t 1)⟩, ⟨(some 55), (some (51, false)), .load false 1 (.t 54)⟩, ⟨(some 56), (some (51, false)), .len false (.t 55)⟩, ⟨(some 57), (some (51, false)), .bin .geq (.t 53) (.t 56)⟩, ⟨(some 58), none, .pick (.t 51) (.c (.bool true)) (.t 57)⟩])
  (.keep [1, 3, 5, 26, 27, 28, 58] (.cond (.t 58) (.seq (.reg [⟨(some 2), none, .mv (.c (.bool false))⟩]) .ret) .skip)))
  (.keep [1, 3, 5, 26, 27, 28] (.seq (.reg [⟨(some 6), none, .mv (.c (.sl 0 1 []))⟩])
  (.keep [1, 3, 5, 6, 26, 27, 28] (.seq (.block 2 (.loop A.rules_Right_o.L1))
  (.keep [1, 3, 6, 26, 27, 28] (.seq (.reg [⟨(some 99), none, .mv (.t 6)⟩, ⟨(some 100), none, .len false (.t 99)⟩, ⟨(some 101), none, .bin .neq (.t 100) (.c (.int .i64 (1)))⟩])
  (.keep [1, 3, 26, 27, 28, 101] (.cond (.t 101) (.seq (.reg [⟨(some 2), none, .mv (.c (.bool false))⟩]) .ret) .skip))))))))))))
  (.keep [1, 3, 26, 27, 28] (.reg [⟨(some 102), none, .bin .add (.t 28) (.c (.int .i64 (1)))⟩, ⟨(some 28), none, .mv (.t 102)⟩]))))))) [1, 3, 26, 27, 28]
def A.rules_Right_o : AFn := ⟨108, [(2, none)], (.seq (.reg [⟨(some 1), none, .box (.t 0)⟩, ⟨(some 2), none, .mv (.c (.bool false))⟩])
  (.keep [1] (.seq (.seq (.reg [⟨(some 9), none, .fa 0 (.t 1)⟩, ⟨(some 10), none, .load false 1 (.t 9)⟩, ⟨(some 11), none, .len false (.t 10)⟩, ⟨(some 12), none, .bin .eql (.t 11) (.c (.int .i64 (0)))⟩, ⟨(some 13), none, .mv (.t 12)⟩, ⟨(some 14), (some (13, false)), .fa 0 (.t 1)⟩, ⟨(some 15), (some (13, false)), .load false 1 (.t 14)⟩, ⟨(some 16), (some (13, false)), .len false (.t 15)⟩, ⟨(some 17), (some (13, false)), .bin .gtr (.t 16) (.c (.int .i64 (24)))⟩, ⟨(some 18), none, .pick (.t 13) (.c (.bool true)) (.t 17)⟩, ⟨(some 19), none, .mv (.t 18)⟩, ⟨(some 20), (some (19, false)), .fa 1 (.t 1)⟩, ⟨(some 21), (some (19, false)), .load false 1 (.t 20)⟩, ⟨(some 22), (some (19, false)), .len false (.t 21)⟩, ⟨(some 23), (some (19, false)), .bin .gtr (.t 22) (.c (.int .i64 (200)))⟩, ⟨(some 24), none, .pick (.t 19) (.c (.bool true)) (.t 23)⟩])
  (.keep [1, 24] (.cond (.t 24) (.seq (.reg [⟨(some 2), none, .mv (.c (.bool false))⟩]) .ret) .skip)))
  (.keep [1] (.seq (.reg [⟨(some 3), none, .mv (.c (.int .i64 (0)))⟩])
  (.keep [1, 3] (.seq (.seq (.reg [⟨(some 25), none, .fa 0 (.t 1)⟩, ⟨(some 26), none, .load false 1 (.t 25)⟩, ⟨(some 27), none, .len false (.t 26)⟩, ⟨(some 28), none, .mv (.c (.int .i64 (0)))⟩])
  (.keep [1, 3, 26, 27, 28] (.block 0 (.loop A.rules_Right_o.L0))))
  (.keep [1, 3] (.seq (.reg [⟨(some 103), none, .mv (.t 3)⟩, ⟨(some 104), none, .fa 1 (.t 1)⟩, ⟨(some 105), none, .load false 1 (.t 104)⟩, ⟨(some 106), none, .len false (.t 105)⟩, ⟨(some 107), none, .bin .eql (.t 103) (.t 106)⟩, ⟨(some 2), none, .mv (.t 107)⟩]) .ret)))))))))⟩
end Go.Proofs.Ytmobijebjkjnoaa.Al
namespace Go.Proofs.Ytmobijebjkjnoaa.Al
open Go Go.RowKit
set_option linter.unusedSimpArgs false
set_option linter.unusedVariables false
attribute [-simp] List.getD_eq_getElem?_getD Int.not_lt Int.not_le List.map_take
section
variable {X : Cx} {h : AH} {Q : V → AH → Prop}
/-- Numbers that lie in an object, against numbers. -/
theorem eqO_spec (H : Has (Ecx X) K.slices_Equal_int A.slices_Equal_int) (a b : List Int) {o off c t n : Nat} {l : List V} (hn : a.length = n) (ho : h.objs o = l) (hoff : off + n ≤ l.length) (hl : (l.drop off).take n = ints a) (ha : n < 2 ^ 62)
    (hQ : Q (.bool (decide (a = b))) h) : Ecx X K.slices_Equal_int [.osl 1 o off n c, .sl 1 t (ints b)] h Q := by
  subst hn
  refine fn_walk H (by simp [A.slices_Equal_int]) fun wf => ?_
  by_cases hl' : (a.length : Int) = b.length
  · simp [A.slices_Equal_int, hl']
    refine loopI (n := a.length) (fun m env h' => ∃ k, k ≤ a.length ∧ m = a.length - k ∧ h' = h ∧ env = [(0, .osl 1 o off a.length c), (1, .sl 1 t (ints b)), (12, .int .i64 b.length), (13, .int .i64 k)] ∧ a.take k = b.take k) ?_ ⟨0, by omega, by omega, rfl, by rfl, rfl⟩
    rintro m env h' ⟨k, hk, rfl, rfl, rfl, he⟩
    unfold A.slices_Equal_int.L0
    by_cases hlt : k < a.length
    · have hlt' : (k : Int) < b.length := by omega
      have hlb : k < b.length := by omega
      have hga : l.getD (off + k) .undef = (V.int .i64) a[k] := by
        have : ((l.drop off).take a.length)[k]? = (ints a)[k]? := by rw [hl]
        rw [List.getElem?_take, if_pos hlt, List.getElem?_drop] at this
        simp only [List.getD_eq_getElem?_getD, this]
        simp [ints, hlt]
      have hgb := ints_get hlb
      have hr : off + k < l.length := by omega
      have hw1 : IntKind.i64.wrap ((k : Int) + 1) = ((k + 1 : Nat) : Int) := by rw [wrap_i64 (by omega) (by omega)]; rfl
      by_cases e : a[k] = b[k]
      · simp [hl', hlt', hlt, hga, hgb, V.cells, V.good, e, hw1, ho, hr]
        exact ⟨a.length - (k + 1), by omega, iv ⟨k + 1, by omega, rfl, rfl, rfl, take_ext2 hlt hlb he e⟩⟩
      · have hf : decide (a = b) = false := by
          simp only [decide_eq_false_iff_not]; rintro rfl; exact e rfl
        rw [hf] at hQ
        simp [hl', hlt', hlt, hga, hgb, V.cells, e, ho, hr]; exact fin (by simp) hQ
    · have hlt' : ¬ (k : Int) < b.length := by omega
      simp [hl', hlt']
      refine fin (by simp) ?_
      have hk : k = a.length := by omega
      rw [hk, List.take_length, show a.length = b.length by omega, List.take_length] at he
      simpa [he] using hQ
  · simp [A.slices_Equal_int, hl']
    refine fin (by simp) ?_
    have : decide (a = b) = false := by simp; intro h; exact hl' (by rw [h])
    rw [this] at hQ; exact hQ
theorem ruRight1_spec (L : LRu X) (r : Rl) {o : Nat} {n : Rl} (ho : h.objs o = rlC n) (hob : o < h.nobj) (hQ : Q (.bool (decide (r.name = n.name))) h) : Ecx X K.rules_Right_1 [rlV r, .ptr o 0] h Q := by
  refine fn_walk L.right1 (by simp [A.rules_Right_1]) fun wf => ?_
  have gr := (Gr.refl h).new (rlC r)
  have n1 : ¬ o = h.nobj := by omega
  have hnc : rlC n = [.str n.name, .int .i64 n.body] := rfl
  have hrc : rlC r = [.str r.name, .int .i64 r.body] := rfl
  simp [A.rules_Right_1, rlV, V.cells, V.good, n1, ho, hnc, hrc]
  exact fin_wk (by rw [← hrc]; exact gr) (.same _) (by simp) hQ
end
/-- One node: its kids are the last that are nobody's so far. -/
def stpS (t : Te) (a : Nat) (st : List Int) : Option (List Int) := match t.nodes[a]? with
  | some n => if fineP t n = true ∧ n.kids.length ≤ st.length ∧ st.drop (st.length - n.kids.length) = n.kids then some (st.take (st.length - n.kids.length) ++ [(a : Int)]) else none
  | none => none
def runS (t : Te) : Nat → Nat → List Int → Option (List Int)
  | 0, _, st => some st
  | k + 1, a, st => match stpS t a st with
    | some st' => runS t k (a + 1) st'
    | none => none
def rightS (t : Te) : List Rl → List Str → Nat → Option Nat
  | [], _, a => some a
  | r :: rs, seen, a => if tokenT r.name 1 = true ∧ r.name ∉ seen ∧ (a : Int) ≤ r.body ∧ r.body < t.nodes.length then (match runS t (r.body.toNat + 1 - a) a [] with
      | some [_] => rightS t rs (seen ++ [r.name]) (r.body.toNat + 1)
      | _ => none) else none
/-- As the program asks. -/
def rightP (t : Te) : Bool := decide (0 < t.rules.length) && decide (t.rules.length ≤ 24) && decide (t.nodes.length ≤ 200) && decide (rightS t t.rules [] 0 = some t.nodes.length)
/-- The open nodes, as they lie. -/
def StkV (lo : Nat) (h' : AH) (v : V) (st : List Int) : Prop := (st = [] ∧ v = .sl 0 1 []) ∨
  ∃ o cap, v = .osl 1 o 0 st.length cap ∧ cap ≠ 0 ∧ st.length ≤ cap ∧ lo < o ∧ o < h'.nobj ∧ cap ≤ (h'.objs o).length ∧ (h'.objs o).take st.length = ints st
section
variable {X : Cx} {h : AH} {Q : V → AH → Prop}
theorem appG_nil {K : V → AH → Prop} {zK : Lz K} {e sz e1 st st' : Nat} {m : List V} (hm : m ≠ []) (hst : st = 1 ∨ st = 2) (hb : m.length * sz ≤ 2 ^ 46)
    (hk : ∀ c, m.length ≤ c → K (.osl e h.nobj 0 m.length c) (h.new (cellsOf m ++ List.replicate ((c - m.length) * e) .undef))) : AppG h e sz (.sl e1 st []) (.sl e st' m) zK :=
  ⟨fun e => hm (List.eq_nil_of_length_eq_zero e), rfl, hst, rfl, hb, hk⟩
theorem appG_osl {K : V → AH → Prop} {zK : Lz K} {e sz o off len cap st' : Nat} {m : List V} (hm : m ≠ []) (hc : cap ≠ 0) (hf : off + cap * e ≤ (h.objs o).length) (hb : (len + m.length) * sz ≤ 2 ^ 46)
    (h1 : len + m.length ≤ cap → K (.osl e o off (len + m.length) cap) (h.set o (setAt (h.objs o) (off + len * e) (cellsOf m))))
    (h2 : cap < len + m.length → ∀ c, len + m.length ≤ c → K (.osl e h.nobj 0 (len + m.length) c) (h.new (((h.objs o).drop off).take (len * e) ++ cellsOf m ++ List.replicate ((c - (len + m.length)) * e) .undef))) : AppG h e sz (.osl e o off len cap) (.sl e st' m) zK :=
  ⟨fun e => hm (List.eq_nil_of_length_eq_zero e), rfl, rfl, hc, hf, hb, h1, h2⟩
theorem eqNil_spec (H : Has (Ecx X) K.slices_Equal_int A.slices_Equal_int) (b : List Int) {e s t : Nat} (hQ : Q (.bool (decide (b = []))) h) : Ecx X K.slices_Equal_int [.sl e s [], .sl 1 t (ints b)] h Q := by
  refine fn_walk H (by simp [A.slices_Equal_int]) fun wf => ?_
  have hb : (ints b).length = b.length := by simp [ints]
  by_cases c : b = []
  · subst c
    simp [A.slices_Equal_int, ints]
    refine loopI (n := 0) (fun m env h' => h' = h ∧ env = [(0, .sl e s []), (1, .sl 1 t []), (12, .int .i64 0), (13, .int .i64 0)]) ?_ ⟨rfl, rfl⟩
    rintro m env h' ⟨rfl, rfl⟩
    unfold A.slices_Equal_int.L0
    simp
    exact fin (by simp) (by simpa using hQ)
  · have c' : ¬ (0 : Int) = b.length := by have := List.length_pos_iff.2 c; omega
    have c2 : ¬ 0 = b.length := by have := List.length_pos_iff.2 c; omega
    simp [A.slices_Equal_int, hb, c', c2, c]
    exact fin (by simp) (by simpa [c] using hQ)
theorem take_set {l : List V} {st : List Int} {n r cap : Nat} {v : V} (hn : n = st.length) (ht : l.take n = ints st) (hr : r ≤ n) (hc : r < l.length) : (l.set r v).take (r + 1) = ints (st.take r) ++ [v] := by
  subst hn
  rw [List.take_succ_eq_append_getElem (by simpa using hc), List.getElem_set_self]
  congr 1
  rw [List.take_set_of_le (Nat.le_refl _)]
  have : (l.take st.length).take r = (ints st).take r := by rw [ht]
  rw [List.take_take, Nat.min_eq_left hr] at this
  rw [this]; simp [ints, List.map_take]
theorem StkV.to {lo : Nat} {h h' : AH} {v : V} {st : List Int} (s : StkV lo h v st) (hn : h.nobj ≤ h'.nobj) (ho : ∀ o, lo < o → o < h.nobj → h'.objs o = h.objs o) : StkV lo h' v st := by
  rcases s with s | ⟨o, cap, e1, e2, e3, e4, e5, e6, e7⟩
  · exact .inl s
  · exact .inr ⟨o, cap, e1, e2, e3, e4, by omega, by rw [ho o e4 e5]; exact e6, by rw [ho o e4 e5]; exact e7⟩
theorem rightL1 (L : LRu X) (t : Te) {h' h2 : AH} {r : Rl} {a B k : Nat} {Q : Ex → Env → AH → Prop} {zQ : Lz Q} {z : Lz (AC.loop A.rules_Right_o.L1)} (hr : t.rules.length < 2 ^ 30) (hn : t.nodes.length < 2 ^ 30) (hnn : ∀ n ∈ t.nodes, n.name.length ≤ 2 ^ 30) (hks : ∀ n ∈ t.nodes, n.kids.length ≤ 2 ^ 30)
    (q4 : Gr h h2) (q1 : h2.objs h.nobj = teC t) (q0 : h2.objs h'.nobj = rlC r) (nb : h.nobj < h'.nobj) (q5 : h'.nobj < h2.nobj) (hbod : (B : Int) = r.body) (hBl : B < t.nodes.length) (haB : a ≤ B)
    (hret : ∀ e h3, Gr h h3 → runS t (B + 1 - a) a [] = none → Q .ret ((2, .bool false) :: e) h3)
    (hex : ∀ h3 v st, Gr h h3 → h3.objs h.nobj = teC t → h.nobj < h3.nobj → StkV h'.nobj h3 v st → runS t (B + 1 - a) a [] = some st → Q (.exit 2) [(1, .ptr h.nobj 0), (3, .int .i64 ((B + 1 : Nat) : Int)), (5, .ptr h'.nobj 0), (6, v), (26, .sl 2 0 (t.rules.map rlV)), (27, .int .i64 t.rules.length), (28, .int .i64 k), (62, .bool false)] h3) :
    acZ (Ecx X) [(1, .ptr h.nobj 0), (3, .int .i64 (a : Int)), (5, .ptr h'.nobj 0), (6, .sl 0 1 []), (26, .sl 2 0 (t.rules.map rlV)), (27, .int .i64 t.rules.length), (28, .int .i64 k)] h2 z zQ := by
  have htc : teC t = [.sl 2 0 (t.rules.map rlV), .sl 3 0 (t.nodes.map ndV)] := rfl
  have hrc : rlC r = [.str r.name, .int .i64 r.body] := rfl
  refine loopI (n := B + 1 - a) (fun m env h3 => ∃ j st v, j ≤ B + 1 - a ∧ m = B + 1 - a - j ∧ Gr h h3 ∧ h3.objs h.nobj = teC t ∧ h3.objs h'.nobj = rlC r ∧ h'.nobj < h3.nobj ∧ env = [(1, .ptr h.nobj 0), (3, .int .i64 ((a + j : Nat) : Int)), (5, .ptr h'.nobj 0), (6, v), (26, .sl 2 0 (t.rules.map rlV)), (27, .int .i64 t.rules.length), (28, .int .i64 k)] ∧
    StkV h'.nobj h3 v st ∧ st.length ≤ j ∧ runS t (B + 1 - a - j) (a + j) st = runS t (B + 1 - a) a []) ?_ ⟨0, [], _, by omega, by omega, q4, q1, q0, q5, rfl, .inl ⟨rfl, rfl⟩, by simp, rfl⟩
  rintro m env h3 ⟨j, st, v, hj, rfl, gr3, ob3, or3, nb3, rfl, stk, hsl, hrun⟩
  unfold A.rules_Right_o.L1
  have n2 : ¬ h.nobj = h3.nobj := by omega
  have n3 : ¬ h'.nobj = h3.nobj := by omega
  by_cases hjl : j < B + 1 - a
  · have hle : ((a + j : Nat) : Int) ≤ r.body := by omega
    have hil : a + j < t.nodes.length := by omega
    have hil' : ((a + j : Nat) : Int) < t.nodes.length := by omega
    have hgn : (t.nodes.map ndV).getD (a + j) .undef = ndV t.nodes[a + j] := Enc.getD hil
    have hw2 : IntKind.i64.wrap (((a + j : Nat) : Int) + 1) = ((a + (j + 1) : Nat) : Int) := by rw [wrap_i64 (by omega) (by omega)]; rfl
    have hnk := hks _ (List.getElem_mem hil)
    have hnl := hnn _ (List.getElem_mem hil)
    have hst : stpS t (a + j) st = if fineP t t.nodes[a + j] = true ∧ t.nodes[a + j].kids.length ≤ st.length ∧ st.drop (st.length - t.nodes[a + j].kids.length) = t.nodes[a + j].kids then some (st.take (st.length - t.nodes[a + j].kids.length) ++ [((a + j : Nat) : Int)]) else none := by
      unfold stpS; rw [List.getElem?_eq_getElem hil]
    have hru := hrun
    rw [show B + 1 - a - j = (B + 1 - a - (j + 1)) + 1 by omega, runS, hst] at hru
    clear hst
    generalize t.nodes[a + j] = nd at *
    generalize haj : a + j = p at *
    have hnc : ndC nd = [.int .i64 nd.kind, .str nd.name, .sl 1 0 (ints nd.kids)] := rfl
    have u0 : (h3.new (ndC nd)).objs h3.nobj = ndC nd := by simp
    have u1 : (h3.new (ndC nd)).objs h.nobj = teC t := by simp [n2, ob3]
    have u2 : (h3.new (ndC nd)).objs h'.nobj = rlC r := by simp [n3, or3]
    have u3 : (h3.new (ndC nd)).nobj = h3.nobj + 1 := by simp
    have u4 := gr3.new (ndC nd)
    have u5 : ∀ o, o < h3.nobj → (h3.new (ndC nd)).objs o = h3.objs o := fun o ho => by rw [new_objs_ne _ _ (by omega)]
    have stk4 : StkV h'.nobj (h3.new (ndC nd)) v st := stk.to (by omega) fun o h1 h2 => u5 o h2
    simp [or3, hrc, hle, ob3, htc, hil', hgn, ndV, V.cells, V.good, hnc, setAt]
    rw [← hnc]
    generalize h3.new (ndC nd) = h4 at *
    rcases stk4 with ⟨rfl, rfl⟩ | ⟨o, cap, rfl, e2, e3, e4, e5, e6, e7⟩
    · cases hf : fineP t nd with
      | false =>
        rw [if_neg (fun e => by rw [hf] at e; exact absurd e.1 (by simp))] at hru
        simp [u0, hnc, u1, htc]
        rw [← hnc]
        refine dcall (.bool (fineP t nd)) (rufine_spec L t nd (by omega) hnl ⟨rfl, rfl⟩) ?_
        simp [hf]
        exact hret _ _ u4 hru.symm
      | true =>
      by_cases hz : nd.kids = []
      · rw [if_pos ⟨hf, by simp [hz], by simp [hz]⟩] at hru
        simp [u0, hnc, u1, htc]
        rw [← hnc]
        refine dcall (.bool (fineP t nd)) (rufine_spec L t nd (by omega) hnl ⟨rfl, rfl⟩) ?_
        have hw0 : IntKind.i64.wrap 0 = 0 := by rfl
        simp [hf, hz, u0, hnc, u1, htc, ints, hw0]
        refine dcall (.bool (decide (([] : List Int) = []))) (eqNil_spec (e := 0) (s := 1) (t := 0) L.eqI [] ⟨rfl, rfl⟩) ?_
        simp
        refine appG_nil (by simp) (.inl rfl) (by simp) fun c hc => ?_
        simp [hw2, V.cells]
        simp only [hz, List.length_nil, List.take_nil, List.nil_append] at hru
        exact ⟨B + 1 - a - (j + 1), by omega, iv ⟨j + 1, [(p : Int)], _, by omega, rfl, u4.new _, by rw [new_objs_ne _ _ (by omega)]; exact u1, by rw [new_objs_ne _ _ (by omega)]; exact u2, by simp; omega, by rw [← haj]; rfl,
          .inr ⟨h4.nobj, c, rfl, by simp at hc; omega, by simpa using hc, by omega, by simp, by simp at hc ⊢; omega, by simp [ints]⟩, by simp, by rw [show a + (j + 1) = p + 1 by omega]; exact hru⟩⟩
      · rw [if_neg (fun e => hz (List.eq_nil_of_length_eq_zero (by simpa using e.2.1)))] at hru
        have hzl : 0 < nd.kids.length := List.length_pos_iff.2 hz
        have hwr : IntKind.i64.wrap (0 - (nd.kids.length : Int)) = - (nd.kids.length : Int) := by rw [wrap_i64 (by omega) (by omega)]; omega
        simp [u0, hnc, u1, htc]
        rw [← hnc]
        refine dcall (.bool (fineP t nd)) (rufine_spec L t nd (by omega) hnl ⟨rfl, rfl⟩) ?_
        have hneg : -(nd.kids.length : Int) < 0 := by omega
        have hwr' : IntKind.i64.wrap (-(nd.kids.length : Int)) = -(nd.kids.length : Int) := wrap_i64 (by omega) (by omega)
        simp [hf, u0, hnc, u1, htc, ints, hwr', hneg, hzl, hz]
        exact hret _ _ u4 hru.symm
    · have hwr : IntKind.i64.wrap ((st.length : Int) - (nd.kids.length : Int)) = (st.length : Int) - (nd.kids.length : Int) := wrap_i64 (by omega) (by omega)
      cases hf : fineP t nd with
      | false =>
        rw [if_neg (fun e => by rw [hf] at e; exact absurd e.1 (by simp))] at hru
        simp [u0, hnc, u1, htc]
        rw [← hnc]
        refine dcall (.bool (fineP t nd)) (rufine_spec L t nd (by omega) hnl ⟨rfl, rfl⟩) ?_
        simp [hf]
        exact hret _ _ u4 hru.symm
      | true =>
      by_cases hz : nd.kids.length ≤ st.length
      · obtain ⟨r', hr'⟩ : ∃ r', r' = st.length - nd.kids.length := ⟨_, rfl⟩
        have hri : (st.length : Int) - (nd.kids.length : Int) = (r' : Int) := by omega
        rw [hri] at hwr
        have hneg : ¬ (r' : Int) < 0 := by omega
        have hrl : (r' : Int) ≤ st.length := by omega
        have hrc' : r' ≤ cap := by omega
        have hrc2 : (st.length : Int) ≤ cap := by omega
        have hrc3 : (r' : Int) ≤ cap := by omega
        rw [← hr'] at hru
        have hdrop : ((h4.objs o).drop r').take (st.length - r') = ints (st.drop r') := by
          rw [← List.drop_take, e7]; simp [ints]
        simp [u0, hnc, u1, htc, hri, hwr]
        rw [← hnc]
        refine dcall (.bool (fineP t nd)) (rufine_spec L t nd (by omega) hnl ⟨rfl, rfl⟩) ?_
        simp [hf, u0, hnc, u1, htc, hneg, hrl, hrc2, hrc3, ints, e3]
        refine dcall (.bool (decide (st.drop r' = nd.kids))) (eqO_spec L.eqI (st.drop r') nd.kids (l := h4.objs o) (by simp) rfl ?_ ?_ (by omega) ⟨rfl, rfl⟩) ?_
        · split <;> omega
        · by_cases hq : cap = r'
          · rw [if_pos hq]
            have : st.length - r' = 0 := by omega
            rw [this, show r' = st.length by omega]; simp [ints]
          · rw [if_neg hq]; exact hdrop
        by_cases hd : st.drop r' = nd.kids
        · rw [if_pos ⟨hf, hz, hd⟩] at hru
          simp only at hru
          simp [hd, hrc3]
          have hlen : (st.take r' ++ [(p : Int)]).length = r' + 1 := by simp; omega
          refine appG_osl (by simp) e2 (by omega) (by simp; omega) (fun hin => ?_) fun hout c hc => ?_
          · simp at hin
            simp [hw2, V.cells, setAt]
            have m1 : ¬ h.nobj = o := by omega
            have m2 : ¬ h'.nobj = o := by omega
            exact ⟨B + 1 - a - (j + 1), by omega, iv ⟨j + 1, _, _, by omega, rfl, u4.set (by omega) _, by rw [set_objs_ne _ _ _ m1]; exact u1, by rw [set_objs_ne _ _ _ m2]; exact u2, by rw [set_nobj]; omega, rfl,
              .inr ⟨o, cap, by rw [hlen], by omega, by omega, by omega, by rw [set_nobj]; exact e5, by rw [set_objs_same, List.length_set]; exact e6, by
                rw [set_objs_same, hlen, take_set (cap := cap) rfl e7 (by omega) (by omega)]; simp [ints]⟩, by omega, by rw [show a + (j + 1) = p + 1 by omega]; exact hru⟩⟩
          · simp at hout hc
            simp [hw2, V.cells, setAt]
            have htk : (h4.objs o).take r' = ints (st.take r') := by
              have : ((h4.objs o).take st.length).take r' = (ints st).take r' := by rw [e7]
              rw [List.take_take, Nat.min_eq_left (by omega)] at this
              rw [this]; simp [ints, List.map_take]
            have htl : (ints (st.take r')).length = r' := by simp [ints]; omega
            exact ⟨B + 1 - a - (j + 1), by omega, iv ⟨j + 1, _, _, by omega, rfl, u4.new _, by rw [new_objs_ne _ _ (by omega)]; exact u1, by rw [new_objs_ne _ _ (by omega)]; exact u2, by rw [new_nobj]; omega, rfl,
              .inr ⟨h4.nobj, c, by rw [hlen], by omega, by omega, by omega, by simp, by rw [new_objs_same, htk]; simp [htl]; omega, by
                rw [new_objs_same, htk, hlen, show ∀ R, ints (st.take r') ++ V.int .i64 (p : Int) :: R = (ints (st.take r') ++ [V.int .i64 (p : Int)]) ++ R from fun R => by simp, List.take_left' (by simp [htl])]; simp [ints]⟩, by omega, by rw [show a + (j + 1) = p + 1 by omega]; exact hru⟩⟩
        · rw [if_neg (fun e => hd e.2.2)] at hru
          simp [hd]
          exact hret _ _ u4 hru.symm
      · rw [if_neg (fun e => hz e.2.1)] at hru
        have hneg : (st.length : Int) - (nd.kids.length : Int) < 0 := by omega
        simp [u0, hnc, u1, htc, hwr]
        rw [← hnc]
        refine dcall (.bool (fineP t nd)) (rufine_spec L t nd (by omega) hnl ⟨rfl, rfl⟩) ?_
        simp [hf, hneg, show (st.length : Int) < nd.kids.length by omega, show st.length < nd.kids.length by omega]
        exact hret _ _ u4 hru.symm
  · have hle : ¬ ((a + j : Nat) : Int) ≤ r.body := by omega
    have hjj : B + 1 - a - j = 0 := by omega
    rw [hjj, runS] at hrun
    have hle2 : ¬ ((a : Int) + (j : Int) ≤ r.body) := by omega
    simp [or3, hrc, hle2]
    have := hex h3 v st gr3 ob3 (by omega) stk hrun.symm
    rw [show ((B + 1 : Nat) : Int) = (a : Int) + (j : Int) by omega] at this
    exact this
theorem ruRight_spec (L : LRu X) (HR : Has (Ecx X) K.rules_Right A.rules_Right_o) (t : Te) (hr : t.rules.length < 2 ^ 30) (hn : t.nodes.length < 2 ^ 30) (hrn : ∀ r ∈ t.rules, r.name.length ≤ 2 ^ 30) (hnn : ∀ n ∈ t.nodes, n.name.length ≤ 2 ^ 30) (hks : ∀ n ∈ t.nodes, n.kids.length ≤ 2 ^ 30)
    (hQ : Q (.bool (rightP t)) h) : Ecx X K.rules_Right [teV t] h Q := by
  refine fn_walk HR (by simp [A.rules_Right_o]) fun wf => ?_
  have htc : teC t = [.sl 2 0 (t.rules.map rlV), .sl 3 0 (t.nodes.map ndV)] := rfl
  have gr := (Gr.refl h).new (teC t)
  have hb0 : (h.new (teC t)).objs h.nobj = teC t := by simp
  have hb1 : (h.new (teC t)).nobj = h.nobj + 1 := by simp
  simp [A.rules_Right_o, teV, V.cells, V.good]
  generalize h.new (teC t) = h1 at *
  simp [hb0, htc]
  by_cases c0 : t.rules = []
  · have : rightP t = false := by simp [rightP, c0]
    rw [this] at hQ
    simp [c0]
    exact fin_wk gr (.same _) (by simp) hQ
  have c0' : 0 < t.rules.length := List.length_pos_iff.2 c0
  by_cases c1 : (24 : Int) < t.rules.length
  · have : rightP t = false := by
      have : ¬ t.rules.length ≤ 24 := by omega
      simp [rightP, this]
    rw [this] at hQ
    simp [c0, c1, hb0, htc]
    exact fin_wk gr (.same _) (by simp) hQ
  by_cases c2 : (200 : Int) < t.nodes.length
  · have : rightP t = false := by
      have : ¬ t.nodes.length ≤ 200 := by omega
      simp [rightP, this]
    rw [this] at hQ
    simp [c0, c1, c2, hb0, htc]
    exact fin_wk gr (.same _) (by simp) hQ
  have hrp : rightP t = decide (rightS t t.rules [] 0 = some t.nodes.length) := by
    unfold rightP
    rw [decide_eq_true c0', decide_eq_true (show t.rules.length ≤ 24 by omega), decide_eq_true (show t.nodes.length ≤ 200 by omega)]; simp
  rw [hrp] at hQ
  clear hrp
  simp [c0, c1, c2, hb0, htc]
  refine loopI (n := t.rules.length) (fun m env h' => ∃ k a, k ≤ t.rules.length ∧ m = t.rules.length - k ∧ a ≤ t.nodes.length ∧ Gr h h' ∧ h'.objs h.nobj = teC t ∧ h.nobj < h'.nobj ∧ env = [(1, .ptr h.nobj 0), (3, .int .i64 (a : Int)), (26, .sl 2 0 (t.rules.map rlV)), (27, .int .i64 t.rules.length), (28, .int .i64 k)] ∧
      rightS t (t.rules.drop k) ((rnames t).take k) a = rightS t t.rules [] 0) ?_ ⟨0, 0, by omega, by omega, by omega, gr, hb0, by omega, rfl, by simp⟩
  rintro m env h' ⟨k, a, hk, rfl, ha, gr', ob, nb, rfl, hS⟩
  unfold A.rules_Right_o.L0
  by_cases hlt : k < t.rules.length
  · have hlt' : (k : Int) < t.rules.length := by omega
    have hg : (t.rules.map rlV).getD k .undef = rlV t.rules[k] := Enc.getD hlt
    have hw1 : IntKind.i64.wrap ((k : Int) + 1) = ((k + 1 : Nat) : Int) := by rw [wrap_i64 (by omega) (by omega)]; rfl
    have hmem := hrn _ (List.getElem_mem hlt)
    have htk : (rnames t).take (k + 1) = (rnames t).take k ++ [t.rules[k].name] := by
      rw [List.take_succ_eq_append_getElem (by simp [rnames, hlt])]; simp [rnames]
    have hany : ((t.rules.take k).any fun r => decide (r.name = t.rules[k].name)) = decide (t.rules[k].name ∈ (rnames t).take k) := by
      apply Bool.eq_iff_iff.2
      simp [rnames, ← List.map_take]
    have hSd := hS
    rw [List.drop_eq_getElem_cons hlt, rightS] at hSd
    have hkl : (t.rules.map rlV).take k = (t.rules.take k).map rlV := List.map_take.symm
    generalize hrr : t.rules[k] = r at *
    have hrc : rlC r = [.str r.name, .int .i64 r.body] := rfl
    have n1 : ¬ h.nobj = h'.nobj := by omega
    have q0 : (h'.new (rlC r)).objs h'.nobj = rlC r := by simp
    have q1 : (h'.new (rlC r)).objs h.nobj = teC t := by simp [n1, ob]
    have q2 : (h'.new (rlC r)).nobj = h'.nobj + 1 := by simp
    have q3 : ∀ o, o < h'.nobj → (h'.new (rlC r)).objs o = h'.objs o := fun o ho => by rw [new_objs_ne _ _ (by omega)]
    have q4 := gr'.new (rlC r)
    simp [hlt', hg, rlV, V.cells, V.good, hrc, setAt]
    rw [← hrc]
    generalize h'.new (rlC r) = h2 at *
    refine ecall (token_spec L.s L.token r.name 1 (by omega) ?_)
    cases ht : tokenT r.name 1 with
    | false =>
      rw [if_neg (fun e => by rw [ht] at e; exact absurd e.1 (by simp))] at hSd
      rw [← hSd] at hQ
      simp
      exact fin_wk q4 (.same _) (by simp) (by simpa using hQ)
    | true =>
    have hct := L.ctR
    rw [show A.slices_ContainsFunc_Rule = ctfF K.slices_IndexFunc_Rule from rfl] at hct
    have hix := L.ixR
    rw [show A.slices_IndexFunc_Rule = ixfF 2 true from rfl] at hix
    simp [q1, htc, q0, hrc, hkl, show (k : Int) ≤ t.rules.length by omega]
    refine ecall (containsFunc encRl hct hix (t.rules.take k) _ _ [] _ (fun x => decide (x.name = r.name)) (by simp; omega) (fun x _ Q' h3 gr3 hQ' => ?_) ?_)
    · exact ruRight1_spec L x ((gr3.objs _ (by omega)).trans q0) (by have := gr3.nobj; omega) hQ'
    rw [hany]
    by_cases c3 : r.name ∈ (rnames t).take k
    · rw [if_neg (fun e => e.2.1 c3)] at hSd
      rw [← hSd] at hQ
      simp [c3]
      exact fin_wk q4 (.same _) (by simp) (by simpa using hQ)
    by_cases c4 : r.body < a
    · rw [if_neg (fun e => by omega)] at hSd
      rw [← hSd] at hQ
      simp [c3, c4, q0, hrc]
      exact fin_wk q4 (.same _) (by simp) (by simpa using hQ)
    by_cases c5 : (t.nodes.length : Int) ≤ r.body
    · rw [if_neg (fun e => by omega)] at hSd
      rw [← hSd] at hQ
      simp [c3, c4, c5, q0, q1, htc, hrc]
      exact fin_wk q4 (.same _) (by simp) (by simpa using hQ)
    rw [if_pos ⟨ht, c3, by omega, by omega⟩] at hSd
    simp [c3, c4, c5, q0, q1, htc, hrc]
    have q5 : h'.nobj < h2.nobj := by omega
    have hbod : ((r.body.toNat : Nat) : Int) = r.body := by omega
    generalize hB : r.body.toNat = B at *
    refine rightL1 L t hr hn hnn hks q4 q1 q0 nb q5 hbod (by omega) (by omega) (fun e h3 g3 he => ?_) (fun h3 v st g3 o3 n3 stk he => ?_)
    · rw [he] at hSd
      simp only at hSd
      rw [← hSd] at hQ
      simp
      exact fin_wk g3 (.same _) (by simp) (by simpa using hQ)
    · rw [he] at hSd
      have hnext : (st.length = 1 ∧ rightS t (t.rules.drop (k + 1)) ((rnames t).take k ++ [r.name]) (B + 1) = rightS t t.rules [] 0) ∨ (¬ st.length = 1 ∧ rightS t t.rules [] 0 = none) := by
        match st, hSd with
        | [x], hSd => exact .inl ⟨rfl, hSd⟩
        | [], hSd => exact .inr ⟨by simp, hSd.symm⟩
        | _ :: _ :: _, hSd => exact .inr ⟨by simp, hSd.symm⟩
      rw [← htk] at hnext
      have hvl : ∀ (env : Env) (K : V → AH → Prop) (zK : Lz K), K (.int .i64 st.length) h3 → lenZ (Ecx X) env h3 false v zK := fun env K zK hK => by
        rcases stk with ⟨rfl, rfl⟩ | ⟨o, cap, rfl, _⟩
        · simpa using hK
        · simpa using hK
      simp
      refine hvl _ _ _ ?_
      simp
      by_cases c6 : st.length = 1
      · have c6' : (st.length : Int) = 1 := by omega
        have hn2 := (hnext.resolve_right (fun e => e.1 c6)).2
        simp [c6', hw1]
        exact ⟨t.rules.length - (k + 1), by omega, iv ⟨k + 1, B + 1, by omega, rfl, by omega, g3, o3, n3, rfl, hn2⟩⟩
      · have c6' : ¬ (st.length : Int) = 1 := by omega
        rcases hnext with e | e
        · exact absurd e.1 c6
        · rw [e.2] at hQ
          simp [c6', c6]
          exact fin_wk g3 (.same _) (by simp) (by simpa using hQ)
  · have hlt' : ¬ (k : Int) < t.rules.length := by omega
    obtain rfl : k = t.rules.length := by omega
    rw [List.drop_length, rightS] at hS
    rw [← hS] at hQ
    simp [hlt', ob, htc]
    have : decide ((a : Int) = t.nodes.length) = decide (some a = some t.nodes.length) := by
      apply Bool.eq_iff_iff.2; simp; omega
    rw [this]
    exact fin_wk gr' (.same _) (by simp) hQ
end
end Go.Proofs.Ytmobijebjkjnoaa.Al
namespace Go.Proofs.Ytmobijebjkjnoaa.Al
open Go Go.RowKit
set_option linter.unusedSimpArgs false
set_option linter.unusedVariables false
/-- With other stamps' ghosts. -/
theorem Rel.retip {X : Cx} {g g' : Gh} {w : World} {h h' : AH} (n3 : 3 ≤ h'.next) {n : Nat} (hn : n ≤ h'.next) (hnx : h'.nobj ≤ h.nobj) (hgo : g'.obj = g.obj) (hgm : g'.mp = g.mp) (hgp : g'.pub = g.pub) (hgt : ∀ s, s < n → g'.tip s = g.tip s) (h3n : 3 ≤ n)
    (ht : ∀ s e, s < n → h'.tips s = some e → h.tips s = some e) {v : V} {x : Value} (r : Rel X g w h v x) (bd : Bdd n h'.nobj v) : Rel X g' w h' v x := by
  induction r with
  | bool b => exact .bool b
  | int k n => exact .int k n
  | str s => exact .str s
  | slnil e st hst => exact .slnil e st hst
  | slemp e a => exact .slemp e a
  | sl e st l b' off cap x h1 hs hcap he hc ho hp hr h2 h3 ih =>
    cases bd with
    | sl _ _ _ hs' hl =>
      have hsn : st < n := by omega
      refine .sl e st l b' off cap x h1 (by omega) hcap he hc ho (by rw [hgp]; exact hp) (fun i hi => ih i hi (hl _ (List.getElem_mem hi))) h2 (fun e' he' => ?_)
      obtain ⟨a, b, c, d⟩ := h3 e' (ht _ _ hsn he')
      exact ⟨a, by rw [hgt _ hsn]; exact b, by rw [hgp]; exact c, d⟩
  | agg l cs hl ho hr ih =>
    cases bd with
    | agg _ hb => exact .agg l cs hl ho (fun i h1 h2 => ih i h1 h2 (hb _ (List.getElem_mem h1)))
  | ptr o off hn hm => cases bd with | ptr _ _ ho => rw [← hgo]; exact .ptr o off ho (by rw [hgm]; exact hm)
  | mapr o hn hm => cases bd with | mapr _ ho => rw [← hgo]; exact .mapr o ho (by rw [hgm]; exact hm)
  | mapn => exact .mapn
  | osl e o off len cap c hn hm hc hk => cases bd with | osl _ _ _ _ _ ho => rw [← hgo]; exact .osl e o off len cap c ho (by rw [hgm]; exact hm) hc hk
  | rptr l off b' base x hc ho hp hr ih =>
    cases bd with
    | rptr _ _ hb => exact .rptr l off b' base x hc ho (by rw [hgp]; exact hp) (fun i hi => ih i hi (hb _ (List.getElem_mem hi)))
  | nilp => exact .nilp
  | fn f first cap fs cs hf hcl hr1 hr2 ih1 ih2 =>
    cases bd with
    | fn _ _ _ b1 b2 => exact .fn f first cap fs cs hf hcl (fun i h1 h2 => ih1 i h1 h2 (b1 _ (List.getElem_mem h1))) (fun i h1 h2 => ih2 i h1 h2 (b2 _ (List.getElem_mem h1)))
  | nilf => exact .nilf
  | tup l cs hl hr ih =>
    cases bd with
    | tup _ hb => exact .tup l cs hl (fun i h1 h2 => ih i h1 h2 (hb _ (List.getElem_mem h1)))
  | undef v => exact .undef v
/-- From h to h1 a slice of that stamp has been appended to. -/
structure SE (e : Nat) (h h1 : AH) (st st1 : Nat) : Prop where
  next : h.next ≤ h1.next
  nobj : h.nobj ≤ h1.nobj
  objs : ∀ o, o < h.nobj → h1.objs o = h.objs o
  tips : ∀ s, s < h.next → (s ≠ st ∨ s ≤ 2) → h1.tips s = h.tips s
  st : (st1 = st ∧ h1.tips st = h.tips st ∧ (st ≤ 2 ∨ st < h.next)) ∨ (h.next ≤ st1 ∧ st1 < h1.next ∧ h1.tips st1 = some e)
theorem SE.refl {e : Nat} {h : AH} {st : Nat} (hs : st ≤ 2 ∨ st < h.next) : SE e h h st st := ⟨Nat.le_refl _, Nat.le_refl _, fun _ _ => rfl, fun _ _ _ => rfl, .inl ⟨rfl, rfl, hs⟩⟩
theorem SE.new {e : Nat} {h h1 : AH} {st st1 : Nat} (s : SE e h h1 st st1) (z : List V) : SE e h (h1.new z) st st1 :=
  ⟨s.next, Nat.le_succ_of_le s.nobj, fun o ho => by rw [new_objs_ne _ _ (by have := s.nobj; omega)]; exact s.objs o ho, s.tips, s.st⟩
theorem SE.set {e : Nat} {h h1 : AH} {st st1 : Nat} (s : SE e h h1 st st1) {o : Nat} (ho : h.nobj ≤ o) (z : List V) : SE e h (h1.set o z) st st1 :=
  ⟨s.next, s.nobj, fun o' ho' => by rw [set_objs_ne _ _ _ (by omega)]; exact s.objs o' ho', s.tips, s.st⟩
theorem push_tips_at {h : AH} {st e s : Nat} (h1 : s < h.next) (h2 : s ≠ st ∨ s ≤ 2) : (h.push st e).tips s = h.tips s := by
  have hne : s ≠ h.next := by omega
  unfold AH.push
  split
  · exact updN_ne _ _ hne
  · have e1 : ((h.drop st).grow e).tips s = (h.drop st).tips s := updN_ne _ _ hne
    rw [e1]; exact updN_ne _ _ (by omega)
theorem SE.push {e : Nat} {h h1 : AH} (n3 : 3 ≤ h.next) {st st1 : Nat} (s : SE e h h1 st st1) : SE e h (h1.push st1 e) st h1.next := by
  have a := s.next
  refine ⟨by rw [push_next]; omega, by rw [push_nobj]; exact s.nobj, fun o ho => by rw [push_objs]; exact s.objs o ho, fun k hk hn => ?_, .inr ⟨a, by rw [push_next]; omega, push_new h1 st1 e⟩⟩
  rw [push_tips_at (by omega) ?_]
  · exact s.tips k hk hn
  · rcases s.st with ⟨b, _⟩ | ⟨b, _⟩
    · rw [b]; exact hn
    · omega
/-- A slice to which may be appended. -/
structure May (e : Nat) (h : AH) (e1 st : Nat) (l : List V) : Prop where
  el : l = [] ∨ e1 = e
  st : st = 1 ∨ st = 2 ∨ h.tips st = some e
theorem May.app {e : Nat} {h : AH} {e1 st : Nat} {l : List V} (y : May e h e1 st l) {sz e2 : Nat} {m : List V} (hm : m ≠ []) (he : e2 = e) (hb : (l.length + m.length) * sz ≤ 2 ^ 46) {K : V → AH → Prop} {zK : Lz K}
    (hk : K (.sl e h.next (l ++ m)) (h.push st e)) : App h e sz e1 st l e2 m zK :=
  ⟨fun h0 => absurd h0 hm, fun _ => ⟨y.st, y.el, he, hb, hk⟩⟩
theorem May.se {e : Nat} {h h1 : AH} {e1 st st1 : Nat} {l : List V} (y : May e h e1 st l) (s : SE e h h1 st st1) {l1 : List V} {e2 : Nat} (hl : l1 = [] ∨ e2 = e) : May e h1 e2 st1 l1 :=
  ⟨hl, by
    rcases s.st with ⟨b, c, _⟩ | ⟨b, _, c⟩
    · rw [b, c]; exact y.st
    · exact .inr (.inr c)⟩
section
variable {X : Cx} {h : AH} {Q : V → AH → Prop}
/-- A call that appends to a slice, and hands it back. -/
theorem Ecx.tip {k : Nat} {args : List V} {st e : Nat} (hst : st ≤ 2 ∨ st < h.next)
    (c : Ecx X k args h fun r h1 => ∃ st1 l, r = .sl e st1 l ∧ SE e h h1 st st1 ∧ h.next ≤ st1 ∧ (∀ v ∈ cellsOf l, Bdd h.next h.nobj v) ∧ Q (.sl e h.next l) (h.push st e)) : Ecx X k args h Q := by
  intro g w cargs I rl
  refine (c g w cargs I rl).mono ?_
  rintro x w' ⟨r, h1, g', ⟨st1, l, rfl, se, hle, hb, q⟩, I', rx, S⟩
  have n3 := I.next
  have hs1 : st1 < h1.next ∧ h1.tips st1 = some e := by
    rcases se.st with ⟨b, c, d⟩ | ⟨b, c, d⟩
    · omega
    · exact ⟨c, d⟩
  have htn : (h.push st e).next = h.next + 1 := push_next _ _ _
  have hob : (h.push st e).objs = h.objs := push_objs _ _ _
  have hno : (h.push st e).nobj = h.nobj := push_nobj _ _ _
  have htip : ∀ s e', s < h.next → (h.push st e).tips s = some e' → h.tips s = some e' ∧ h1.tips s = some e' := fun s e' hs he => by
    by_cases hq : s ≠ st ∨ s ≤ 2
    · rw [push_tips_at hs hq] at he
      exact ⟨he, by rw [se.tips s hs hq]; exact he⟩
    · obtain rfl : s = st := by omega
      unfold AH.push at he
      rw [if_neg (by omega)] at he
      have e1 : ((h.drop s).grow e).tips s = (h.drop s).tips s := updN_ne _ _ (by show s ≠ h.next; omega)
      rw [e1, show (h.drop s).tips s = none from updN_same _ _ _] at he
      cases he
  have htop : ∀ s e', (h.push st e).tips s = some e' → s < h.next ∨ (s = h.next ∧ e' = e) := fun s e' he => by
    by_cases hq : s = h.next
    · subst hq; rw [push_new] at he; exact .inr ⟨rfl, (Option.some.inj he).symm⟩
    · left
      have : (h.push st e).tips s = some e' → h.tips s = some e' := fun he => by
        unfold AH.push at he
        split at he
        · rwa [show (h.grow e).tips s = h.tips s from updN_ne _ _ hq] at he
        · rw [show ((h.drop st).grow e).tips s = (h.drop st).tips s from updN_ne _ _ hq] at he
          by_cases hs : s = st
          · subst hs; rw [show (h.drop s).tips s = none from updN_same _ _ _] at he; cases he
          · rwa [show (h.drop st).tips s = h.tips s from updN_ne _ _ hs] at he
      exact (I.tipB s e' (this he)).2.1
  obtain ⟨g2, hg2e⟩ : ∃ g2 : Gh, g2 = { g' with tip := updN g'.tip h.next (g'.tip st1) } := ⟨_, rfl⟩
  have ho2 : g2.obj = g'.obj := by rw [hg2e]
  have hm2 : g2.mp = g'.mp := by rw [hg2e]
  have hp2 : g2.pub = g'.pub := by rw [hg2e]
  have hg2 : ∀ s, s < h.next → g2.tip s = g'.tip s := fun s hs => by rw [hg2e]; exact updN_ne _ _ (by omega)
  have hg2n : g2.tip h.next = g'.tip st1 := by rw [hg2e]; exact updN_same _ _ _
  have conv : ∀ {v : V} {x : Value}, Rel X g' w' h1 v x → Bdd h.next h.nobj v → Rel X g2 w' (h.push st e) v x := fun {v x} r b =>
    Rel.retip (g := g') (g' := g2) (n := h.next) (by rw [htn]; omega) (by rw [htn]; omega) (by rw [hno]; exact se.nobj) ho2 hm2 hp2 hg2 n3 (fun s e' hs he => (htip s e' hs he).2) r (by rw [hno]; exact b)
  have hbd : ∀ o, o < h.nobj → ∀ v ∈ h.objs o, Bdd h.next h.nobj v := fun o ho v hv => I.objBdd ho v hv
  have S2 : Stp g w h g2 w' (h.push st e) :=
    { next := by rw [htn]; omega
      nobj := by rw [hno]; exact Nat.le_refl _
      obj := by rw [ho2]; exact S.obj
      mp := by rw [hm2]; exact S.mp
      pub := by rw [hp2]; exact S.pub
      cell := S.cell
      tip := fun s hs e' he => by
        obtain ⟨a, b⟩ := htip s e' hs he
        obtain ⟨c, d, f⟩ := S.tip s hs e' b
        exact ⟨a, by rw [hg2 s hs]; exact d, by rw [hp2]; exact f⟩
      row := fun s hs e' he => S.row s hs e' (htip s e' hs he).2 }
  refine ⟨_, _, g2, q, ?_, ?_, S2⟩
  · exact
      { below := I'.below
        next := by rw [htn]; omega
        maps := fun o ho hm => by
          rw [hno] at ho
          rw [hm2] at hm
          unfold MapOk
          rw [ho2]
          obtain ⟨es, k1, k2, k3, k4⟩ := I'.maps o (Nat.lt_of_lt_of_le ho se.nobj) hm
          refine ⟨es, k1, by rw [hob, ← se.objs o ho]; exact k2, k3, fun i i1 i2 => ?_⟩
          simp only [hob] at i1 ⊢
          have := k4 i (by rw [se.objs o ho]; exact i1) i2
          simp only [se.objs o ho] at this
          exact conv this (hbd o ho _ (List.getElem_mem i1))
        objs := fun o ho hm hne => by
          rw [hno] at ho
          rw [hob] at hne
          rw [hm2] at hm
          rw [ho2]
          obtain ⟨cs, t, k1, k2, k3, k4⟩ := I'.objs o (Nat.lt_of_lt_of_le ho se.nobj) hm (by rw [se.objs o ho]; exact hne)
          refine ⟨cs, t, k1, by rw [hob, ← se.objs o ho]; exact k2, k3, fun i i1 i2 => ?_⟩
          simp only [hob] at i1 ⊢
          have := k4 i (by rw [se.objs o ho]; exact i1) i2
          simp only [se.objs o ho] at this
          exact conv this (hbd o ho _ (List.getElem_mem i1))
        objL := fun {o} ho => by rw [ho2]; exact I'.objL (Nat.lt_of_lt_of_le (by rw [hno] at ho; exact ho) se.nobj)
        objB := fun o ho => by
          rw [hno] at ho
          rw [ho2, hm2, hp2]
          refine ⟨(I'.objB o (Nat.lt_of_lt_of_le ho se.nobj)).1, fun hm hne => (I'.objB o (Nat.lt_of_lt_of_le ho se.nobj)).2 hm ?_⟩
          rw [se.objs o ho]; rw [hob] at hne; exact hne
        objI := fun o o' a b => by rw [ho2]; exact I'.objI o o' (Nat.lt_of_lt_of_le (by rw [hno] at a; exact a) se.nobj) (Nat.lt_of_lt_of_le (by rw [hno] at b; exact b) se.nobj)
        tipB := fun s e' he => by
          rcases htop s e' he with hs | ⟨rfl, rfl⟩
          · obtain ⟨a, b, c, d⟩ := I'.tipB s e' (htip s e' hs he).2
            exact ⟨a, by rw [htn]; omega, by rw [hg2 s hs]; exact c, by rw [hg2 s hs]; exact d⟩
          · obtain ⟨a, b, c, d⟩ := I'.tipB st1 e' hs1.2
            exact ⟨n3, by rw [htn]; omega, by rw [hg2n]; exact c, by rw [hg2n]; exact d⟩
        tipI := fun s e' s' e'' he he' heq => by
          rcases htop s e' he with hs | ⟨rfl, rfl⟩ <;> rcases htop s' e'' he' with hs' | ⟨rfl, rfl⟩
          · rw [hg2 s hs, hg2 s' hs'] at heq
            exact I'.tipI s e' s' e'' (htip s e' hs he).2 (htip s' e'' hs' he').2 heq
          · rw [hg2 s hs, hg2n] at heq
            have := I'.tipI s e' st1 e'' (htip s e' hs he).2 hs1.2 heq
            omega
          · rw [hg2 s' hs', hg2n] at heq
            have := I'.tipI st1 e' s' e'' hs1.2 (htip s' e'' hs' he').2 heq
            omega
          · rfl
        tipO := fun o s e' ho he => by
          rw [hno] at ho
          rw [ho2]
          rcases htop s e' he with hs | ⟨rfl, rfl⟩
          · rw [hg2 s hs]; exact I'.tipO o s e' (Nat.lt_of_lt_of_le ho se.nobj) (htip s e' hs he).2
          · rw [hg2n]; exact I'.tipO o st1 e' (Nat.lt_of_lt_of_le ho se.nobj) hs1.2
        pubB := by rw [hp2]; exact I'.pubB }
  · cases rx with
    | slnil e st hst => omega
    | slemp e a => omega
    | sl e st l b' off cap x h1' hs hcap he hc ho hp hr h2 h3 =>
      refine .sl e h.next l b' off cap x (by omega) (by rw [htn]; omega) hcap he hc ho (by rw [hp2]; exact hp) (fun i hi => conv (hr i hi) (hb _ (List.getElem_mem hi))) (fun e2 => by omega) (fun e' he' => ?_)
      rw [push_new] at he'
      obtain rfl := Option.some.inj he'
      obtain ⟨a, b, c, d⟩ := h3 _ hs1.2
      exact ⟨rfl, by rw [hg2n]; exact b, by rw [hp2]; exact c, d⟩
end
end Go.Proofs.Ytmobijebjkjnoaa.Al
namespace Go.Proofs.Ytmobijebjkjnoaa.Al
open Go Go.RowKit
set_option linter.unusedSimpArgs false
set_option linter.unusedVariables false
attribute [-simp] List.getD_eq_getElem?_getD Int.not_lt Int.not_le List.map_take
/-- The numbers of a node, and of all below it. -/
def undK (L : Nat) (rec : Int → List Int → List Int) (n : Int) : List Int → List Int → List Int
  | [], out => out ++ [n]
  | k :: ks, out => if n ≤ k ∨ L < out.length then out ++ [-1] else undK L rec n ks (rec k out)
def undT (t : Te) : Nat → Int → List Int → List Int
  | 0, _, out => out ++ [-1]
  | f + 1, n, out => if n < 0 ∨ (t.nodes.length : Int) ≤ n ∨ t.nodes.length < out.length then out ++ [-1] else undK t.nodes.length (undT t f) n (match t.nodes[n.toNat]? with
    | some x => x.kids
    | none => []) out
/-- The numbers from 0 on. -/
def iotaI (n : Nat) : List Int := (List.range n).map fun i : Nat => (i : Int)
@[simp] theorem iotaI_len (n : Nat) : (iotaI n).length = n := by simp [iotaI]
theorem iotaI_succ (n : Nat) : iotaI (n + 1) = iotaI n ++ [(n : Int)] := by simp [iotaI, List.range_succ]
/-- A name, as the reference asks. -/
def nameR (s : Str) : Bool := match scanR s with
  | ([a], _, e) => decide (e = 0) && decide (a.kind = 1) && decide (a.text = s)
  | _ => false
def rightR (t : Te) : List Rl → List Str → List Int → Option (List Int)
  | [], _, all => some all
  | r :: rs, seen, all => if nameR r.name = true ∧ r.name ∉ seen then rightR t rs (seen ++ [r.name]) (undT t t.nodes.length r.body all) else none
/-- As the reference asks. -/
def rightD (t : Te) : Bool := decide (0 < t.rules.length) && decide (t.rules.length ≤ 24) && decide (t.nodes.length ≤ 200) && (match rightR t t.rules [] [] with
  | some all => decide (all = iotaI t.nodes.length) && t.nodes.all (fineT t)
  | none => false)
structure LR6 (X : Cx) : Prop where
  s : LSR X
  under : Has (Ecx X) K.probateref06_under A.probateref06_under
  right : Has (Ecx X) K.probateref06_Right A.probateref06_Right
  fine : Has (Ecx X) K.probateref06_Tree_fine A.probateref06_Tree_fine
  rule : Has (Ecx X) K.probateref06_Tree_rule A.probateref06_Tree_rule
  quote : Has (Ecx X) K.probateref06_quote A.probateref06_quote
end Go.Proofs.Ytmobijebjkjnoaa.Al
namespace Go.Proofs.Ytmobijebjkjnoaa.Al
open Go Go.RowKit
set_option linter.unusedSimpArgs false
set_option linter.unusedVariables false
attribute [-simp] List.getD_eq_getElem?_getD Int.not_lt Int.not_le List.drop_one List.map_take
theorem take_run (p : UInt8 → Bool) (s : Str) : ∀ c ∈ s.take (runN p s), p c = true := by
  rw [take_runN]; intro c hc; exact List.all_eq_true.1 (List.all_takeWhile (p := p)) c hc |> fun h => by simpa using h
/-- As it is written. -/
def tokText (t : Tok) : Str := if t.kind = 2 then 39 :: (t.text ++ [39]) else t.text
def goodTok (t : Tok) : Prop := (t.kind = 1 ∧ (∃ c r, t.text = c :: r ∧ letterB c = true) ∧ ∀ c ∈ t.text, partB c = true) ∨ (t.kind = 2 ∧ t.text ≠ [] ∧ ∀ c ∈ t.text, quotedB c = true) ∨ (t.kind = 3 ∧ ∃ c, t.text = [c] ∧ c ∈ marksL)
theorem sfirst_cons (c : UInt8) (s : Str) : sfirst (c :: s) =
    if bt c = 35 then (0, [], runN notLf (c :: s))
    else if bt c = 13 ∨ bt c = 32 ∨ bt c = 9 ∨ bt c = 10 then (0, [], 1)
    else if letterB c then (1, (c :: s).take (runN partB (c :: s)), runN partB (c :: s))
    else if bt c = 39 then
      if runN quotedB s = 0 ∨ runN quotedB s = s.length ∨ bt (s.getD (runN quotedB s) 0) ≠ 39 then (0, [], 0) else (2, s.take (runN quotedB s), runN quotedB s + 2)
    else if c ∈ marksL then (3, [c], 1)
    else (0, [], 0) := by
  unfold sfirst
  simp only [List.getD_cons_zero, List.drop_succ_cons, List.drop_zero, List.length_cons, List.getD_cons_succ, List.take_succ_cons, List.take_zero, Nat.add_right_cancel_iff]
  rfl
theorem sfirst_tok {s : Str} (k : Nat) (hne : s ≠ []) (h0 : (sfirst s).2.2 ≠ 0) (h1 : (sfirst s).1 ≠ 0) :
    goodTok ⟨(sfirst s).1, (sfirst s).2.1, k⟩ ∧ tokText ⟨(sfirst s).1, (sfirst s).2.1, k⟩ = s.take (sfirst s).2.2 := by
  cases s with
  | nil => exact absurd rfl hne
  | cons c s =>
    rw [sfirst_cons] at h0 h1 ⊢
    by_cases c1 : bt c = 35
    · rw [if_pos c1] at h1; exact absurd rfl h1
    rw [if_neg c1] at h0 h1 ⊢
    by_cases c2 : bt c = 13 ∨ bt c = 32 ∨ bt c = 9 ∨ bt c = 10
    · rw [if_pos c2] at h1; exact absurd rfl h1
    rw [if_neg c2] at h0 h1 ⊢
    by_cases c3 : letterB c = true
    · rw [if_pos c3] at h0 h1 ⊢
      have hp : partB c = true := by simp only [letterB] at c3; simp [partB, partI, c3]
      refine ⟨.inl ⟨rfl, ⟨c, s.take (runN partB s), ?_, c3⟩, take_run partB (c :: s)⟩, rfl⟩
      simp [runN_cons, hp]
    rw [if_neg c3] at h0 h1 ⊢
    by_cases c4 : bt c = 39
    · rw [if_pos c4] at h0 h1 ⊢
      by_cases c5 : runN quotedB s = 0 ∨ runN quotedB s = s.length ∨ bt (s.getD (runN quotedB s) 0) ≠ 39
      · rw [if_pos c5] at h1; exact absurd rfl h1
      rw [if_neg c5] at h0 h1 ⊢
      have hle := runN_le quotedB s
      have c6 : runN quotedB s < s.length := by omega
      have c7 : s.getD (runN quotedB s) 0 = 39 := bt_inj.1 ((show bt (s.getD (runN quotedB s) 0) = 39 by omega).trans rfl)
      have c8 : c = 39 := bt_inj.1 (c4.trans rfl)
      refine ⟨.inr (.inl ⟨rfl, ?_, take_run quotedB s⟩), ?_⟩
      · intro e; have e2 := congrArg List.length e; simp only [List.length_take, List.length_nil] at e2; omega
      · simp only [tokText, if_true, List.take_succ_cons, c8]
        rw [List.take_succ_eq_append_getElem c6]
        have : s[runN quotedB s] = 39 := by rw [← c7]; simp [List.getD, List.getElem?_eq_getElem c6]
        rw [this]
    rw [if_neg c4] at h0 h1 ⊢
    by_cases c5 : c ∈ marksL
    · rw [if_pos c5]
      exact ⟨.inr (.inr ⟨rfl, c, rfl, c5⟩), rfl⟩
    · rw [if_neg c5] at h1; exact absurd rfl h1
/-- Each stands at its place. -/
def chain (s0 : Str) : Nat → List Tok → Prop
  | _, [] => True
  | k, t :: l => goodTok t ∧ k ≤ t.at' ∧ t.at' + (tokText t).length ≤ s0.length ∧ (s0.drop t.at').take (tokText t).length = tokText t ∧ chain s0 (t.at' + (tokText t).length) l
theorem chain_mono {s0 : Str} {k k' : Nat} (h : k ≤ k') : ∀ {l : List Tok}, chain s0 k' l → chain s0 k l
  | [], _ => trivial
  | t :: l, ⟨a, b, c⟩ => ⟨a, by omega, c⟩
theorem scanL_chain (s0 : Str) : ∀ (n k : Nat), k ≤ s0.length → chain s0 k (scanL n (s0.drop k) k).1
  | 0, k, h => trivial
  | n + 1, k, h => by
    by_cases hne : s0.drop k = []
    · rw [hne, scanL_nil]; trivial
    rw [scanL_step k hne]
    split
    · trivial
    · rename_i h0
      have hle := sfirst_le hne
      simp at hle
      have ih := scanL_chain s0 n (k + (sfirst (s0.drop k)).2.2) (by omega)
      rw [← List.drop_drop] at ih
      by_cases h1 : (sfirst (s0.drop k)).1 = 0
      · rw [if_pos h1]
        exact chain_mono (by omega) ih
      · rw [if_neg h1]
        obtain ⟨g, e⟩ := sfirst_tok k hne h0 h1
        have hlen : (tokText ⟨(sfirst (s0.drop k)).1, (sfirst (s0.drop k)).2.1, k⟩).length = (sfirst (s0.drop k)).2.2 := by rw [e]; simp; omega
        refine ⟨g, by simp, by rw [hlen]; simp; omega, by rw [hlen, e], ?_⟩
        rw [hlen]; exact ih
theorem scanR_chain (s : Str) : chain s 0 (scanR s).1 := by
  unfold scanR
  split
  · trivial
  · split
    · trivial
    · exact scanL_chain s s.length 0 (by omega)
/-! ### Between -/
end Go.Proofs.Ytmobijebjkjnoaa.Al
namespace Go.Proofs.Ytmobijebjkjnoaa.Al
open Go Go.RowKit
set_option linter.unusedSimpArgs false
set_option linter.unusedVariables false
theorem iotaI_pre {u : List Int} {n : Nat} (h : u <+: iotaI n) : u = iotaI u.length ∧ u.length ≤ n := by
  have hl : u.length ≤ n := by simpa using h.length_le
  refine ⟨?_, hl⟩
  rw [List.prefix_iff_eq_take] at h
  rw [h]
  simp only [iotaI, ← List.map_take, List.take_range, List.length_map, List.length_range]
theorem iotaI_last {l : List Int} {v : Int} {n : Nat} (h : l ++ [v] = iotaI n) : n = l.length + 1 ∧ v = l.length ∧ l = iotaI l.length := by
  have hn : n = l.length + 1 := by have := congrArg List.length h; simp at this; omega
  subst hn
  rw [iotaI_succ] at h
  obtain ⟨a, b⟩ := List.append_inj' h rfl
  exact ⟨rfl, by simpa using b, a⟩
theorem undK_pre {L : Nat} {rec : Int → List Int → List Int} (hr : ∀ k out, out <+: rec k out) (n : Int) : ∀ (ks out : List Int), out <+: undK L rec n ks out
  | [], out => ⟨[n], rfl⟩
  | k :: ks, out => by
    unfold undK
    split
    · exact ⟨[-1], rfl⟩
    · exact (hr k out).trans (undK_pre hr n ks _)
theorem undT_pre (t : Te) : ∀ (f : Nat) (n : Int) (out : List Int), out <+: undT t f n out
  | 0, n, out => ⟨[-1], rfl⟩
  | f + 1, n, out => by
    unfold undT
    split
    · exact ⟨[-1], rfl⟩
    · exact undK_pre (undT_pre t f) n _ _
theorem rightR_pre (t : Te) : ∀ (rs : List Rl) (seen : List Str) (u v : List Int), rightR t rs seen u = some v → u <+: v
  | [], _, u, v, h => by simp [rightR] at h; subst h; exact List.prefix_refl _
  | r :: rs, seen, u, v, h => by
    unfold rightR at h
    split at h
    · exact (undT_pre t _ _ _).trans (rightR_pre t rs _ _ _ h)
    · cases h
theorem runS_add (t : Te) : ∀ (j k a : Nat) (st st1 : List Int), runS t j a st = some st1 → runS t (j + k) a st = runS t k (a + j) st1
  | 0, k, a, st, st1, h => by simp [runS] at h; subst h; simp
  | j + 1, k, a, st, st1, h => by
    rw [show j + 1 + k = (j + k) + 1 by omega, runS]
    rw [runS] at h
    cases hs : stpS t a st with
    | none => rw [hs] at h; cases h
    | some st2 =>
      rw [hs] at h
      simp only at h ⊢
      rw [runS_add t j k (a + 1) st2 st1 h, show a + 1 + j = a + (j + 1) by omega]
/-- What the reference lists in order, the stack takes. -/
theorem runS_und (t : Te) (hf : ∀ n ∈ t.nodes, fineP t n = true) : ∀ (f : Nat) (n : Int) (a b : Nat), undT t f n (iotaI a) = iotaI b → b ≤ t.nodes.length →
    ∃ m : Nat, n = m ∧ a ≤ m ∧ b = m + 1 ∧ ∀ st, runS t (b - a) a st = some (st ++ [n])
  | 0, n, a, b, h, hb => by
    have := iotaI_last h; omega
  | f + 1, n, a, b, h, hb => by
    unfold undT at h
    split at h
    · have := iotaI_last h; omega
    · rename_i c
      obtain ⟨m, rfl⟩ : ∃ m : Nat, n = (m : Int) := ⟨n.toNat, by omega⟩
      have hm : m < t.nodes.length := by omega
      rw [Int.toNat_natCast, List.getElem?_eq_getElem hm] at h
      simp only at h
      have key : ∀ (ks : List Int) (a' : Nat), undK t.nodes.length (undT t f) m ks (iotaI a') = iotaI b → a' ≤ m ∧ b = m + 1 ∧ ∀ st, runS t (m - a') a' st = some (st ++ ks) := by
        intro ks
        induction ks with
        | nil =>
          intro a' h
          have := iotaI_last h
          simp at this
          obtain ⟨h1, h2⟩ := this
          refine ⟨by omega, by omega, fun st => ?_⟩
          rw [show m - a' = 0 by omega]; simp [runS]
        | cons k ks ih =>
          intro a' h
          unfold undK at h
          split at h
          · have := iotaI_last h; omega
          · rename_i c2
            have hp := undK_pre (L := t.nodes.length) (undT_pre t f) m ks (undT t f k (iotaI a'))
            rw [h] at hp
            obtain ⟨e1, e2⟩ := iotaI_pre hp
            obtain ⟨q, hq, q1, q2, q3⟩ := runS_und t hf f k a' _ e1 (by omega)
            rw [e1] at h
            obtain ⟨r1, r2, r3⟩ := ih _ h
            refine ⟨by omega, r2, fun st => ?_⟩
            have := runS_add t ((undT t f k (iotaI a')).length - a') (m - (undT t f k (iotaI a')).length) a' st _ (q3 st)
            rw [show (undT t f k (iotaI a')).length - a' + (m - (undT t f k (iotaI a')).length) = m - a' by omega, show a' + ((undT t f k (iotaI a')).length - a') = (undT t f k (iotaI a')).length by omega, r3] at this
            rw [this]; simp
      obtain ⟨k1, k2, k3⟩ := key _ a h
      refine ⟨m, rfl, k1, k2, fun st => ?_⟩
      have hlast : runS t 1 m (st ++ t.nodes[m].kids) = some (st ++ [(m : Int)]) := by
        simp only [runS, stpS]
        rw [List.getElem?_eq_getElem hm]
        simp only
        rw [if_pos ⟨hf _ (List.getElem_mem hm), by simp, by simp⟩]
        simp
      have := runS_add t (m - a) 1 a st _ (k3 st)
      rw [show m - a + 1 = b - a by omega, show a + (m - a) = m by omega, hlast] at this
      exact this
/-- A stack covers what stands from a place to a place. -/
inductive Seg (t : Te) : Nat → List Int → Nat → Prop
  | nil (a : Nat) : Seg t a [] a
  | cons (a c b : Nat) (st : List Int) (h : ∀ f : Nat, c < f → undT t f c (iotaI a) = iotaI (c + 1)) (h1 : a ≤ c) (h2 : Seg t (c + 1) st b) : Seg t a ((c : Int) :: st) b
theorem Seg.le {t : Te} {a b : Nat} {st : List Int} (s : Seg t a st b) : a ≤ b := by
  induction s with
  | nil => exact Nat.le_refl _
  | cons a c b st h h1 h2 ih => omega
theorem Seg.app {t : Te} {a b c : Nat} {s1 s2 : List Int} (x : Seg t a s1 b) (y : Seg t b s2 c) : Seg t a (s1 ++ s2) c := by
  induction x with
  | nil => exact y
  | cons a c b st h h1 h2 ih => exact .cons _ _ _ _ h h1 (ih y)
theorem Seg.split {t : Te} {c : Nat} {s2 : List Int} : ∀ {s1 : List Int} {a : Nat}, Seg t a (s1 ++ s2) c → ∃ b, Seg t a s1 b ∧ Seg t b s2 c
  | [], a, x => ⟨a, .nil a, x⟩
  | v :: s1, a, x => by
    cases x with
    | cons a k b st h h1 h2 =>
      obtain ⟨m, y, z⟩ := Seg.split h2
      exact ⟨m, .cons _ _ _ _ h h1 y, z⟩
theorem undK_seg {t : Te} {f n : Nat} (hn : n < t.nodes.length) (hf : n ≤ f) : ∀ {ks : List Int} {a : Nat}, Seg t a ks n → undK t.nodes.length (undT t f) n ks (iotaI a) = iotaI (n + 1)
  | [], a, s => by cases s; simp [undK, iotaI_succ]
  | k :: ks, a, s => by
    cases s with
    | cons a c b st h h1 h2 =>
      have := h2.le
      unfold undK
      rw [if_neg (by simp; omega), h f (by omega)]
      exact undK_seg hn hf h2
theorem Seg.step {t : Te} {lo a : Nat} {st st' : List Int} (s : Seg t lo st a) (h : stpS t a st = some st') : Seg t lo st' (a + 1) ∧ ∃ h : a < t.nodes.length, fineP t t.nodes[a] = true := by
  unfold stpS at h
  split at h
  · rename_i nd hnd
    obtain ⟨hlt, rfl⟩ := List.getElem?_eq_some_iff.1 hnd
    split at h
    · rename_i c
      obtain ⟨c1, c2, c3⟩ := c
      obtain rfl := Option.some.inj h
      refine ⟨?_, hlt, c1⟩
      rw [← List.take_append_drop (st.length - t.nodes[a].kids.length) st, c3] at s
      obtain ⟨b, s1, s2⟩ := Seg.split s
      refine s1.app (.cons _ _ _ _ (fun f hf => ?_) s2.le (.nil _))
      obtain ⟨f, rfl⟩ : ∃ g, f = g + 1 := ⟨f - 1, by omega⟩
      unfold undT
      have := s2.le
      rw [if_neg (by simp; omega), Int.toNat_natCast, List.getElem?_eq_getElem hlt]
      exact undK_seg hlt (by omega) s2
    · cases h
  · cases h
theorem Seg.run {t : Te} {lo : Nat} : ∀ (k a : Nat) (st st' : List Int), Seg t lo st a → runS t k a st = some st' → Seg t lo st' (a + k) ∧ ∀ i, a ≤ i → i < a + k → ∃ h : i < t.nodes.length, fineP t t.nodes[i] = true
  | 0, a, st, st', s, h => by simp [runS] at h; subst h; exact ⟨s, fun i h1 h2 => by omega⟩
  | k + 1, a, st, st', s, h => by
    rw [runS] at h
    cases hs : stpS t a st with
    | none => rw [hs] at h; cases h
    | some st2 =>
      rw [hs] at h
      obtain ⟨s2, hlt, hf⟩ := s.step hs
      obtain ⟨s3, h3⟩ := Seg.run k (a + 1) st2 st' s2 h
      refine ⟨by rw [show a + (k + 1) = a + 1 + k by omega]; exact s3, fun i h1 h2 => ?_⟩
      by_cases e : i = a
      · subst e; exact ⟨hlt, hf⟩
      · exact h3 i (by omega) (by omega)
theorem name_eq (s : Str) : nameR s = tokenT s 1 := by
  have hch := scanR_chain s
  unfold nameR tokenT
  generalize scanR s = R at *
  obtain ⟨l, p, e⟩ := R
  match l, hch with
  | [], _ => rfl
  | _ :: _ :: _, _ => rfl
  | [a], hch =>
    obtain ⟨g, h1, h2, _⟩ := hch
    simp only at h2 ⊢
    by_cases k1 : a.kind = 1
    · by_cases k2 : a.text = s
      · have : tokText a = s := by unfold tokText; rw [k1, k2]; simp
        rw [this] at h2
        have h0 : a.at' = 0 := by omega
        simp [k1, k2, h0]
      · simp [k1, k2]
    · have : ¬ (a.kind : Int) = 1 := by omega
      simp [k1, this]
theorem right_fwd (t : Te) : ∀ (rs : List Rl) (seen : List Str) (a b : Nat), rightS t rs seen a = some b → rightR t rs seen (iotaI a) = some (iotaI b) ∧ ∀ i, a ≤ i → i < b → ∃ h : i < t.nodes.length, fineP t t.nodes[i] = true
  | [], seen, a, b, h => by simp [rightS] at h; subst h; exact ⟨rfl, fun i h1 h2 => by omega⟩
  | r :: rs, seen, a, b, h => by
    unfold rightS at h
    split at h
    · rename_i c
      obtain ⟨c1, c2, c3, c4⟩ := c
      split at h
      · rename_i x hx
        obtain ⟨B, hB⟩ : ∃ B : Nat, r.body = (B : Int) := ⟨r.body.toNat, by omega⟩
        rw [hB, Int.toNat_natCast] at hx h
        obtain ⟨s, hs⟩ := Seg.run _ _ _ _ (Seg.nil a) hx
        obtain ⟨k1, k2⟩ := right_fwd t rs _ _ _ h
        have hu : undT t t.nodes.length r.body (iotaI a) = iotaI (B + 1) := by
          rw [show a + (B + 1 - a) = B + 1 by omega] at s
          cases s with
          | cons a c b st h h1 h2 =>
            cases h2
            rw [hB]; exact h _ (by omega)
        refine ⟨?_, fun i h1 h2 => ?_⟩
        · unfold rightR
          rw [if_pos ⟨by rw [name_eq]; exact c1, c2⟩, hu]; exact k1
        · by_cases e : i < B + 1
          · exact hs i h1 (by omega)
          · exact k2 i (by omega) h2
      · cases h
    · cases h
theorem right_bwd (t : Te) (hf : ∀ n ∈ t.nodes, fineP t n = true) : ∀ (rs : List Rl) (seen : List Str) (a : Nat), rightR t rs seen (iotaI a) = some (iotaI t.nodes.length) → rightS t rs seen a = some t.nodes.length
  | [], seen, a, h => by
    simp [rightR] at h
    have := congrArg List.length h
    simp at this
    simp [rightS, this]
  | r :: rs, seen, a, h => by
    unfold rightR at h
    split at h
    · rename_i c
      obtain ⟨c1, c2⟩ := c
      obtain ⟨e1, e2⟩ := iotaI_pre (rightR_pre t _ _ _ _ h)
      obtain ⟨m, hm, q1, q2, q3⟩ := runS_und t hf _ _ _ _ e1 e2
      rw [e1, q2] at h
      have ih := right_bwd t hf rs _ _ h
      unfold rightS
      rw [q2] at q3
      rw [hm, Int.toNat_natCast, if_pos ⟨by rw [← name_eq]; exact c1, c2, by omega, by omega⟩, q3 []]
      exact ih
    · cases h
/-- The program's and the reference's answers are the same. -/
theorem right_eq (t : Te) : rightP t = rightD t := by
  have hfe : ∀ n, fineT t n = fineP t n := fun n => (fineP_eq t n).symm
  unfold rightP rightD
  congr 1
  apply Bool.eq_iff_iff.2
  simp only [decide_eq_true_eq]
  constructor
  · intro h
    obtain ⟨k1, k2⟩ := right_fwd t _ _ _ _ h
    rw [show iotaI 0 = [] from rfl] at k1
    rw [k1]
    simp only [decide_true, Bool.true_and, List.all_eq_true]
    intro n hn
    obtain ⟨i, hi, rfl⟩ := List.getElem_of_mem hn
    obtain ⟨_, hf⟩ := k2 i (by omega) hi
    rw [hfe]; exact hf
  · intro h
    split at h
    · rename_i all hall
      simp only [Bool.and_eq_true, decide_eq_true_eq, List.all_eq_true] at h
      rw [h.1] at hall
      exact right_bwd t (fun n hn => by rw [← hfe]; exact h.2 n hn) _ _ 0 hall
    · cases h
end Go.Proofs.Ytmobijebjkjnoaa.Al
namespace Go.Proofs.Ytmobijebjkjnoaa.Al
open Go Go.RowKit
set_option linter.unusedSimpArgs false
set_option linter.unusedVariables false
def iotaF (a k : Nat) : List Int := (List.range k).map fun i : Nat => ((a + i : Nat) : Int)
theorem iotaF_zero (k : Nat) : iotaF 0 k = iotaI k := by simp [iotaF, iotaI]
theorem iotaF_succ (a k : Nat) : iotaF a (k + 1) = (a : Int) :: iotaF (a + 1) k := by
  simp only [iotaF, List.range_succ_eq_map, List.map_cons, List.map_map, Nat.add_zero]
  congr 1
  apply List.map_congr_left
  intro i _
  simp only [Function.comp, Nat.succ_eq_add_one]; congr 1; omega
theorem iotaF_add (a j k : Nat) : iotaF a (j + k) = iotaF a j ++ iotaF (a + j) k := by
  induction j generalizing a with
  | zero => simp [iotaF]
  | succ j ih => rw [show j + 1 + k = (j + k) + 1 by omega, iotaF_succ, iotaF_succ, ih, show a + 1 + j = a + (j + 1) by omega]; simp
/-- What is known of a tree that may be. -/
structure RTe (t : Te) : Prop where
  r0 : 0 < t.rules.length
  r1 : t.rules.length ≤ 24
  n1 : t.nodes.length ≤ 200
  names : (rnames t).Nodup
  fine : ∀ n ∈ t.nodes, fineT t n = true
  perm : (t.nodes.flatMap (·.kids) ++ t.rules.map (·.body)).Perm (iotaI t.nodes.length)
  lt : ∀ i (h : i < t.nodes.length), ∀ k ∈ t.nodes[i].kids, 0 ≤ k ∧ k < i
  tok : ∀ r ∈ t.rules, tokenT r.name 1 = true
theorem stpS_perm {t : Te} {a : Nat} {st st' : List Int} (h : stpS t a st = some st') : ∃ hlt : a < t.nodes.length, (t.nodes[a].kids ++ st').Perm (st ++ [(a : Int)]) ∧ fineP t t.nodes[a] = true ∧ (∀ k ∈ t.nodes[a].kids, k ∈ st) ∧ ∀ x ∈ st', x ∈ st ∨ x = a := by
  unfold stpS at h
  split at h
  · rename_i nd hnd
    obtain ⟨hlt, rfl⟩ := List.getElem?_eq_some_iff.1 hnd
    split at h
    · rename_i c
      obtain ⟨c1, c2, c3⟩ := c
      obtain rfl := Option.some.inj h
      refine ⟨hlt, ?_, c1, fun k hk => ?_, fun x hx => ?_⟩
      · have e := List.take_append_drop (st.length - t.nodes[a].kids.length) st
        rw [c3] at e
        rw [← List.append_assoc]
        refine List.Perm.append_right _ ?_
        refine List.perm_append_comm.trans ?_
        rw [e]
      · rw [← c3] at hk; exact List.mem_of_mem_drop hk
      · simp only [List.mem_append, List.mem_singleton] at hx
        exact hx.imp List.mem_of_mem_take id
    · cases h
  · cases h
theorem runS_perm {t : Te} : ∀ (k a : Nat) (st st' : List Int), runS t k a st = some st' → (∀ x ∈ st, 0 ≤ x ∧ x < (a : Int)) →
    (((t.nodes.drop a).take k).flatMap (·.kids) ++ st').Perm (st ++ iotaF a k) ∧ (∀ x ∈ st', 0 ≤ x ∧ x < ((a + k : Nat) : Int)) ∧ ∀ i (h : i < t.nodes.length), a ≤ i → i < a + k → ∀ m ∈ t.nodes[i].kids, 0 ≤ m ∧ m < i
  | 0, a, st, st', h, hs => by
    simp [runS] at h; subst h
    exact ⟨by simp [iotaF], by simpa using hs, fun i _ h1 h2 => by omega⟩
  | k + 1, a, st, st', h, hs => by
    rw [runS] at h
    cases hst : stpS t a st with
    | none => rw [hst] at h; cases h
    | some st2 =>
      rw [hst] at h
      obtain ⟨hlt, p1, p2, p3, p4⟩ := stpS_perm hst
      have hs2 : ∀ x ∈ st2, 0 ≤ x ∧ x < ((a + 1 : Nat) : Int) := fun x hx => by
        rcases p4 x hx with e | e
        · have := hs x e; omega
        · omega
      obtain ⟨q1, q2, q3⟩ := runS_perm k (a + 1) st2 st' h hs2
      refine ⟨?_, by rw [show a + (k + 1) = a + 1 + k by omega]; exact q2, fun i hi h1 h2 m hm => ?_⟩
      · rw [List.drop_eq_getElem_cons hlt, List.take_succ_cons, List.flatMap_cons, List.append_assoc, iotaF_succ]
        refine (List.Perm.append_left _ q1).trans ?_
        rw [← List.append_assoc]
        refine (List.Perm.append_right _ p1).trans ?_
        simp
      · by_cases e : i = a
        · subst e; exact hs m (p3 m hm)
        · exact q3 i hi (by omega) (by omega) m hm
theorem rightS_all {t : Te} : ∀ (rs : List Rl) (seen : List Str) (a b : Nat), rightS t rs seen a = some b → seen.Nodup → a ≤ b ∧
    (seen ++ rs.map (·.name)).Nodup ∧ (((t.nodes.drop a).take (b - a)).flatMap (·.kids) ++ rs.map (·.body)).Perm (iotaF a (b - a)) ∧ (∀ i (h : i < t.nodes.length), a ≤ i → i < b → ∀ m ∈ t.nodes[i].kids, 0 ≤ m ∧ m < i) ∧ ∀ r ∈ rs, tokenT r.name 1 = true
  | [], seen, a, b, h, hs => by
    simp [rightS] at h; subst h
    exact ⟨Nat.le_refl _, by simpa using hs, by simp [iotaF], fun i _ h1 h2 => by omega, by simp⟩
  | r :: rs, seen, a, b, h, hs => by
    unfold rightS at h
    split at h
    · rename_i c
      obtain ⟨c1, c2, c3, c4⟩ := c
      split at h
      · rename_i x hx
        obtain ⟨B, hB⟩ : ∃ B : Nat, r.body = (B : Int) := ⟨r.body.toNat, by omega⟩
        rw [hB, Int.toNat_natCast] at hx h
        have hns : (seen ++ [r.name]).Nodup := by
          rw [List.nodup_append]
          exact ⟨hs, by simp, fun a ha b hb e => by simp at hb; subst e; subst hb; exact c2 ha⟩
        obtain ⟨k1, k2, k3, k4, k5⟩ := rightS_all rs _ _ _ h hns
        obtain ⟨p1, p2, p3⟩ := runS_perm _ _ _ _ hx (by simp)
        obtain ⟨s, hsf⟩ := Seg.run _ _ _ _ (Seg.nil a) hx
        have hxB : x = (B : Int) := by
          rw [show a + (B + 1 - a) = B + 1 by omega] at s
          cases s with
          | cons a c b st h h1 h2 => cases h2; rfl
        subst hxB
        refine ⟨by omega, by simpa using k2, ?_, fun i hi h1 h2 m hm => ?_, fun q hq => ?_⟩
        · have e1 : b - a = (B + 1 - a) + (b - (B + 1)) := by omega
          have e2 : (t.nodes.drop a).take (b - a) = (t.nodes.drop a).take (B + 1 - a) ++ (t.nodes.drop (B + 1)).take (b - (B + 1)) := by
            rw [e1, List.take_add, List.drop_drop, show a + (B + 1 - a) = B + 1 by omega]
          rw [e2, List.flatMap_append, e1, iotaF_add, show a + (B + 1 - a) = B + 1 by omega]
          simp only [List.map_cons, hB]
          simp only [List.nil_append] at p1
          refine List.Perm.trans ?_ (p1.append k3)
          simp only [List.append_assoc]
          refine List.Perm.append_left _ ?_
          refine List.Perm.trans (List.perm_middle) ?_
          simp
        · by_cases e : i < B + 1
          · exact p3 i hi h1 (by omega) m hm
          · exact k4 i hi (by omega) h2 m hm
        · rcases List.mem_cons.1 hq with rfl | hq
          · exact c1
          · exact k5 q hq
      · cases h
    · cases h
theorem rte_of {t : Te} (h : rightP t = true) : RTe t := by
  have hD := h
  rw [right_eq] at hD
  unfold rightP at h
  simp only [Bool.and_eq_true, decide_eq_true_eq] at h
  obtain ⟨⟨⟨h1, h2⟩, h3⟩, h4⟩ := h
  obtain ⟨k1, k2, k3, k4, k5⟩ := rightS_all _ _ _ _ h4 (by simp)
  obtain ⟨_, hfi⟩ := right_fwd t _ _ _ _ h4
  rw [iotaF_zero] at k3
  simp only [Nat.sub_zero, List.drop_zero, List.take_length] at k3
  exact ⟨h1, h2, h3, by simpa [rnames] using k2, fun n hn => by
    obtain ⟨i, hi, rfl⟩ := List.getElem_of_mem hn
    rw [← fineP_eq]; exact (hfi i (by omega) hi).2, k3, fun i hi m hm => k4 i hi (by omega) hi m hm, k5⟩
theorem iotaI_nodup (n : Nat) : (iotaI n).Nodup := by
  unfold iotaI
  refine List.Pairwise.map _ (fun a b h => ?_) List.nodup_range
  intro e; exact h (by omega)
theorem RTe.nodup {t : Te} (r : RTe t) : (t.nodes.flatMap (·.kids) ++ t.rules.map (·.body)).Nodup := r.perm.nodup_iff.2 (iotaI_nodup _)
theorem flat_at {α : Type} {f : α → List Int} : ∀ (l : List α) (i j : Nat) (hi : i < l.length) (hj : j < l.length) (m : Int), (l.flatMap f).Nodup → m ∈ f l[i] → m ∈ f l[j] → i = j
  | [], i, j, hi, hj, m, _, _, _ => by simp at hi
  | a :: l, i, j, hi, hj, m, h, h1, h2 => by
    rw [List.flatMap_cons, List.nodup_append] at h
    match i, j with
    | 0, 0 => rfl
    | 0, j + 1 =>
      exfalso
      simp at h1 h2 hj
      exact h.2.2 m h1 m (List.mem_flatMap.2 ⟨_, List.getElem_mem hj, h2⟩) rfl
    | i + 1, 0 =>
      exfalso
      simp at h1 h2 hi
      exact h.2.2 m h2 m (List.mem_flatMap.2 ⟨_, List.getElem_mem hi, h1⟩) rfl
    | i + 1, j + 1 =>
      simp at hi hj h1 h2
      rw [flat_at l i j hi hj m h.2.1 h1 h2]
/-- A node is one's kid. -/
theorem RTe.one {t : Te} (r : RTe t) {i j : Nat} (hi : i < t.nodes.length) (hj : j < t.nodes.length) {m : Int} (h1 : m ∈ t.nodes[i].kids) (h2 : m ∈ t.nodes[j].kids) : i = j :=
  flat_at (f := (·.kids)) t.nodes i j hi hj m (List.nodup_append.1 r.nodup).1 h1 h2
/-- A kid is no body. -/
theorem RTe.nobody {t : Te} (r : RTe t) {i : Nat} (hi : i < t.nodes.length) {m : Int} (h1 : m ∈ t.nodes[i].kids) {q : Rl} (hq : q ∈ t.rules) : q.body ≠ m := fun e =>
  (List.nodup_append.1 r.nodup).2.2 m (List.mem_flatMap.2 ⟨_, List.getElem_mem hi, h1⟩) _ (List.mem_map.2 ⟨q, hq, rfl⟩) e.symm
theorem RTe.body {t : Te} (r : RTe t) {q : Rl} (hq : q ∈ t.rules) : 0 ≤ q.body ∧ q.body < t.nodes.length := by
  have : q.body ∈ iotaI t.nodes.length := r.perm.mem_iff.1 (List.mem_append.2 (.inr (List.mem_map.2 ⟨q, hq, rfl⟩)))
  unfold iotaI at this
  obtain ⟨i, hi, e⟩ := List.mem_map.1 this
  simp at hi
  omega
end Go.Proofs.Ytmobijebjkjnoaa.Al
namespace Go.Proofs.Ytmobijebjkjnoaa.Al
open Go Go.RowKit
set_option linter.unusedSimpArgs false
set_option linter.unusedVariables false
attribute [-simp] List.getD_eq_getElem?_getD Int.not_lt Int.not_le List.map_take
theorem headG_iff {g : Gm} : headG g = true ↔ 0 ≤ g.terms ∧ g.terms ≤ 16 ∧ 1 ≤ g.nons ∧ g.nons ≤ 24 ∧ 0 ≤ g.start ∧ g.start < g.nons ∧ g.prods.length ≤ 60 := by
  simp [headG, and_assoc]
structure RightG (g : Gm) : Prop where
  head : 0 ≤ g.terms ∧ g.terms ≤ 16 ∧ 1 ≤ g.nons ∧ g.nons ≤ 24 ∧ 0 ≤ g.start ∧ g.start < g.nons ∧ g.prods.length ≤ 60
  prods : ∀ p ∈ g.prods, 0 ≤ p.left ∧ p.left < g.nons ∧ p.right.length ≤ 8 ∧ ∀ s ∈ p.right, 0 ≤ s.n ∧ s.n < (if s.non = true then g.nons else g.terms)
theorem rightG_iff {g : Gm} : rightG g = true ↔ RightG g := by
  constructor
  · intro h
    simp only [rightG, Bool.and_eq_true, headG_iff, List.all_eq_true] at h
    refine ⟨h.1, fun p hp => ?_⟩
    have := h.2 p hp
    simp only [fitsG, thereG, Bool.and_eq_true, decide_eq_true_eq, if_true, List.all_eq_true] at this
    exact ⟨this.1.1.1, this.1.1.2, this.1.2, this.2⟩
  · intro ⟨h1, h2⟩
    simp only [rightG, Bool.and_eq_true, headG_iff, List.all_eq_true]
    refine ⟨h1, fun p hp => ?_⟩
    obtain ⟨a, b, c, d⟩ := h2 p hp
    simp only [fitsG, thereG, Bool.and_eq_true, decide_eq_true_eq, if_true, List.all_eq_true]
    exact ⟨⟨⟨a, b⟩, c⟩, d⟩
theorem RightG.sym {g : Gm} (r : RightG g) {p : Pr} (hp : p ∈ g.prods) {s : Sy} (hs : s ∈ p.right) : 0 ≤ s.n ∧ s.n ≤ 23 := by
  have h1 := (r.prods p hp).2.2.2 s hs
  have h2 := r.head
  split at h1 <;> omega
end Go.Proofs.Ytmobijebjkjnoaa.Al
namespace Go.Proofs.Ytmobijebjkjnoaa.Al
open Go Go.RowKit
set_option linter.unusedSimpArgs false
set_option linter.unusedVariables false
attribute [-simp] List.getD_eq_getElem?_getD Int.not_lt Int.not_le List.map_take
/-! ### Steps -/
def okS (s : Sy) : Prop := 0 ≤ s.n ∧ s.n ≤ 23
def okP (p : Pr) : Prop := (0 ≤ p.left ∧ p.left ≤ 23) ∧ p.right.length ≤ 8 ∧ ∀ s ∈ p.right, okS s
def okG (g : Gm) : Prop := (0 ≤ g.terms ∧ g.terms ≤ 16) ∧ (0 ≤ g.nons ∧ g.nons ≤ 24) ∧ (0 ≤ g.start ∧ g.start ≤ 23) ∧ g.prods.length ≤ 60 ∧ ∀ p ∈ g.prods, okP p
theorem RightG.ok {g : Gm} (r : RightG g) : okG g := by
  obtain ⟨a, b, c, d, e, f, i⟩ := r.head
  refine ⟨⟨a, b⟩, ⟨by omega, d⟩, ⟨e, by omega⟩, i, fun p hp => ?_⟩
  obtain ⟨h1, h2, h3, h4⟩ := r.prods p hp
  exact ⟨⟨h1, by omega⟩, h3, fun s hs => r.sym hp hs⟩
/-! ### Readers that may be -/
end Go.Proofs.Ytmobijebjkjnoaa.Al
namespace Go.Proofs.Ytmobijebjkjnoaa.Al
open Go Go.RowKit
set_option linter.unusedSimpArgs false
set_option linter.unusedVariables false
attribute [-simp] List.getD_eq_getElem?_getD Int.not_lt Int.not_le List.map_take
section
variable {X : Cx} {h : AH} {Q : V → AH → Prop}
theorem same3R_spec (H : Has (Ecx X) K.probateref03_Same A.probateref03_Same) (a b : Gm) (ha : a.prods.length ≤ 2 ^ 40) (hr : ∀ p ∈ a.prods, p.right.length ≤ 2 ^ 40) (hQ : Q (.bool (decide (a = b))) h) : Ecx X K.probateref03_Same [gmV a, gmV b] h Q := by
  refine fn_walk H (by simp [A.probateref03_Same]) fun wf => ?_
  have gr := ((Gr.refl h).new (gmC a)).new (gmC b)
  have hgc : ∀ g, gmC g = [.int .i64 g.terms, .int .i64 g.nons, .int .i64 g.start, .sl 2 0 (g.prods.map prV)] := fun _ => rfl
  have oa : ((h.new (gmC a)).new (gmC b)).objs h.nobj = gmC a := by simp
  have ob : ((h.new (gmC a)).new (gmC b)).objs (h.nobj + 1) = gmC b := by simp
  have hd : decide (a = b) = (decide (a.terms = b.terms) && decide (a.nons = b.nons) && decide (a.start = b.start) && decide (a.prods = b.prods)) := by
    obtain ⟨t1, n1, s1, p1⟩ := a; obtain ⟨t2, n2, s2, p2⟩ := b
    by_cases e1 : t1 = t2 <;> by_cases e2 : n1 = n2 <;> by_cases e3 : s1 = s2 <;> by_cases e4 : p1 = p2 <;> simp [e1, e2, e3, e4]
  rw [hd] at hQ
  simp [A.probateref03_Same, gmV, V.cells, V.good]
  generalize (h.new (gmC a)).new (gmC b) = h2 at *
  simp [oa, ob, hgc]
  by_cases e1 : a.terms = b.terms
  case neg => simp [e1] at hQ ⊢; exact fin_wk gr (.same _) (by simp) hQ
  by_cases e2 : a.nons = b.nons
  case neg => simp [e1, e2, oa, ob, hgc] at hQ ⊢; exact fin_wk gr (.same _) (by simp) hQ
  by_cases e3 : a.start = b.start
  case neg => simp [e1, e2, e3, oa, ob, hgc] at hQ ⊢; exact fin_wk gr (.same _) (by simp) hQ
  by_cases e4 : a.prods.length = b.prods.length
  case neg =>
    have e4' : ¬ (a.prods.length : Int) = b.prods.length := by omega
    have : ¬ a.prods = b.prods := fun e => e4 (by rw [e])
    simp [e1, e2, e3, e4', oa, ob, hgc, this] at hQ ⊢
    exact fin_wk gr (.same _) (by simp) hQ
  have e4' : (a.prods.length : Int) = b.prods.length := by omega
  simp [e1, e2, e3] at hQ
  simp [e1, e2, e3, e4', oa, ob, hgc]
  refine loopI (n := a.prods.length) (fun m env h' => ∃ k, k ≤ a.prods.length ∧ m = a.prods.length - k ∧ h' = h2 ∧ env = [(2, .ptr h.nobj 0), (3, .ptr (h.nobj + 1) 0), (5, .int .i64 k)] ∧ a.prods.take k = b.prods.take k) ?_ ⟨0, by omega, by omega, rfl, rfl, rfl⟩
  rintro m env h' ⟨k, hk, rfl, rfl, rfl, he⟩
  unfold A.probateref03_Same.L0
  by_cases hlt : k < a.prods.length
  · have hlt' : (k : Int) < b.prods.length := by omega
    have hlb : k < b.prods.length := by omega
    have hga : (a.prods.map prV).getD k .undef = prV a.prods[k] := Enc.getD hlt
    have hgb : (b.prods.map prV).getD k .undef = prV b.prods[k] := Enc.getD hlb
    have hw1 : IntKind.i64.wrap ((k : Int) + 1) = ((k + 1 : Nat) : Int) := by rw [wrap_i64 (by omega) (by omega)]; rfl
    have hrk := hr _ (List.getElem_mem hlt)
    have hnx : a.prods[k] = b.prods[k] → a.prods.take (k + 1) = b.prods.take (k + 1) := fun e => take_ext2 hlt hlb he e
    have hno : ¬ a.prods[k] = b.prods[k] → Fin h (.bool false) h' (Lz.mk (a := Q)) := fun e => by
      have : ¬ a.prods = b.prods := fun e2 => e (by simp only [e2])
      simp [this] at hQ
      exact fin_wk gr (.same _) (by simp) hQ
    generalize a.prods[k] = p at *
    generalize b.prods[k] = q at *
    by_cases f1 : p.left = q.left
    case neg =>
      simp [e4', hlt', hlt, hlb, oa, ob, hgc, hga, hgb, prV, prC, V.cells, f1]
      exact hno (fun e => f1 (by rw [e]))
    by_cases f2 : p.right.length = q.right.length
    case neg =>
      have f2' : ¬ (p.right.length : Int) = q.right.length := by omega
      simp [e4', hlt', hlt, hlb, oa, ob, hgc, hga, hgb, prV, prC, V.cells, f1, f2']
      exact hno (fun e => f2 (by rw [e]))
    have f2' : (p.right.length : Int) = q.right.length := by omega
    simp [e4', hlt', hlt, hlb, oa, ob, hgc, hga, hgb, prV, prC, V.cells, f1, f2']
    refine loopI (n := p.right.length) (fun m env h3 => ∃ j, j ≤ p.right.length ∧ m = p.right.length - j ∧ h3 = h' ∧ env = [(2, .ptr h.nobj 0), (3, .ptr (h.nobj + 1) 0), (5, .int .i64 k), (6, .int .i64 j)] ∧ p.right.take j = q.right.take j) ?_ ⟨0, by omega, by omega, rfl, rfl, rfl⟩
    rintro m env h3 ⟨j, hj, rfl, rfl, rfl, hje⟩
    unfold A.probateref03_Same.L1
    by_cases hjt : j < p.right.length
    · have hjt' : (j : Int) < q.right.length := by omega
      have hjb : j < q.right.length := by omega
      have gja : (p.right.map symV).getD j .undef = symV p.right[j] := Enc.getD hjt
      have gjb : (q.right.map symV).getD j .undef = symV q.right[j] := Enc.getD hjb
      have hw2 : IntKind.i64.wrap ((j : Int) + 1) = ((j + 1 : Nat) : Int) := by rw [wrap_i64 (by omega) (by omega)]; rfl
      by_cases e : p.right[j] = q.right[j]
      · simp [e4', hlt', hlt, hlb, oa, ob, hgc, hga, hgb, prV, prC, V.cells, f1, f2', hjt', hjt, hjb, gja, gjb, symV, symC, e, hw2]
        exact ⟨p.right.length - (j + 1), by omega, iv ⟨j + 1, by omega, rfl, rfl, rfl, take_ext2 hjt hjb hje e⟩⟩
      · have hne : p.right[j].non = q.right[j].non → ¬ p.right[j].n = q.right[j].n := by
          intro g1 g2; apply e; cases ha : p.right[j]; cases hb : q.right[j]; simp_all
        have hpq : ¬ p = q := fun e2 => e (by simp only [e2])
        by_cases g1 : p.right[j].non = q.right[j].non <;> by_cases g2 : p.right[j].n = q.right[j].n <;> first | exact absurd g2 (hne g1) | (simp [e4', hlt', hlt, hlb, oa, ob, hgc, hga, hgb, prV, prC, V.cells, f1, f2', hjt', hjt, hjb, gja, gjb, symV, symC, g1, g2]; exact hno hpq)
    · have hjt' : ¬ (j : Int) < q.right.length := by omega
      obtain rfl : j = p.right.length := by omega
      rw [List.take_length, f2, List.take_length] at hje
      have hpq : p = q := by obtain ⟨l1, r1⟩ := p; obtain ⟨l2, r2⟩ := q; simp only at f1 hje; rw [f1, hje]
      simp [e4', hlt', hlt, hlb, oa, ob, hgc, hga, hgb, prV, prC, V.cells, f1, f2', hjt', hw1]
      exact ⟨a.prods.length - (k + 1), by omega, iv ⟨k + 1, by omega, rfl, rfl, rfl, hnx hpq⟩⟩
  · have hlt' : ¬ (k : Int) < b.prods.length := by omega
    simp [e4', hlt', oa, hgc]
    have hk : k = a.prods.length := by omega
    rw [hk, List.take_length, e4, List.take_length] at he
    simp [he] at hQ
    exact fin_wk gr (.same _) (by simp) hQ
/-! ### What comes back -/
end
end Go.Proofs.Ytmobijebjkjnoaa.Al
namespace Go.Proofs.Ytmobijebjkjnoaa.Al
open Go Go.RowKit
set_option linter.unusedSimpArgs false
set_option linter.unusedVariables false
attribute [-simp] List.getD_eq_getElem?_getD Int.not_lt Int.not_le List.map_take
theorem Bdd_teV (n m : Nat) (t : Te) : Bdd n m (teV t) := by
  simp only [teV, teC, Bdd_agg]
  intro v hv
  simp at hv
  rcases hv with rfl | rfl
  · rw [Bdd_sl0]; exact ⟨by omega, encRl.cells _ _ _⟩
  · rw [Bdd_sl0]; exact ⟨by omega, encNd.cells _ _ _⟩
section
variable {X : Cx} {h : AH} {Q : V → AH → Prop}
theorem Wk.l2 {a b c d : V} (x : Wk a c) (y : Wk b d) : Wk (.agg [a, b]) (.agg [c, d]) := .agg _ _ rfl fun i h1 h2 => by
  match i with
  | 0 => exact x
  | 1 => exact y
  | n + 2 => simp at h1; omega
theorem Wk.sln {e e1 st : Nat} {l : List V} (h : l = [] ∨ e1 = e) : Wk (.sl e1 st l) (.sl e 0 l) := by
  rcases h with rfl | rfl
  · exact .nil _ _ _
  · exact .sl _ _ _
theorem own6_spec (H : Has (Ecx X) K.probatelaw06_Own A.probatelaw06_Own) (t : Te) (hr : t.rules.length ≤ 2 ^ 30) (hn : t.nodes.length ≤ 2 ^ 30) (hQ : Q (teV t) h) : Ecx X K.probatelaw06_Own [teV t] h Q := by
  refine fn_walk H (by simp [A.probatelaw06_Own]) fun wf => ?_
  have htc : teC t = [.sl 2 0 (t.rules.map rlV), .sl 3 0 (t.nodes.map ndV)] := rfl
  have gr := (((Gr.refl h).new (teC t)).new [.sl 0 1 [], .sl 0 1 []]).new [.sl 0 1 [], .sl 0 1 []]
  have hb0 : (((h.new (teC t)).new [.sl 0 1 [], .sl 0 1 []]).new [.sl 0 1 [], .sl 0 1 []]).objs h.nobj = teC t := by simp
  have hb1 : (((h.new (teC t)).new [.sl 0 1 [], .sl 0 1 []]).new [.sl 0 1 [], .sl 0 1 []]).objs (h.nobj + 1) = [.sl 0 1 [], .sl 0 1 []] := by simp
  have hb2 : (((h.new (teC t)).new [.sl 0 1 [], .sl 0 1 []]).new [.sl 0 1 [], .sl 0 1 []]).objs (h.nobj + 2) = [.sl 0 1 [], .sl 0 1 []] := by simp
  have hb3 : (((h.new (teC t)).new [.sl 0 1 [], .sl 0 1 []]).new [.sl 0 1 [], .sl 0 1 []]).nobj = h.nobj + 3 := by simp
  simp [A.probatelaw06_Own, teV, V.cells, V.good, fillV, setAt]
  generalize (((h.new (teC t)).new [.sl 0 1 [], .sl 0 1 []]).new [.sl 0 1 [], .sl 0 1 []]) = h1 at *
  simp [hb0, htc]
  refine loopI (n := t.rules.length) (fun m env h' => ∃ k e1 st, k ≤ t.rules.length ∧ m = t.rules.length - k ∧ Own h h' 2 e1 st ((t.rules.take k).map rlV) ∧ h'.objs h.nobj = teC t ∧ h'.objs (h.nobj + 1) = [.sl 0 1 [], .sl 0 1 []] ∧ h'.objs (h.nobj + 2) = [.sl e1 st ((t.rules.take k).map rlV), .sl 0 1 []] ∧ h.nobj + 3 ≤ h'.nobj ∧
      env = [(1, .ptr h.nobj 0), (2, .ptr (h.nobj + 1) 0), (3, .ptr (h.nobj + 2) 0), (10, .sl 2 0 (t.rules.map rlV)), (11, .int .i64 t.rules.length), (12, .int .i64 k)]) ?_
    ⟨0, 0, 1, by omega, by omega, ⟨gr, .inl rfl, .inl rfl⟩, hb0, hb1, by simpa using hb2, by omega, rfl⟩
  rintro m env h' ⟨k, e1, st, hk, rfl, ow, ob0, ob1, ob2, nb, rfl⟩
  unfold A.probatelaw06_Own.L0
  by_cases hlt : k < t.rules.length
  · have hlt' : (k : Int) < t.rules.length := by omega
    have hg : (t.rules.map rlV).getD k .undef = rlV t.rules[k] := Enc.getD hlt
    have hw1 : IntKind.i64.wrap ((k : Int) + 1) = ((k + 1 : Nat) : Int) := by rw [wrap_i64 (by omega) (by omega)]; rfl
    have hrc : rlC t.rules[k] = [.str t.rules[k].name, .int .i64 t.rules[k].body] := rfl
    have hts : (t.rules.take k).map rlV ++ [rlV t.rules[k]] = (t.rules.take (k + 1)).map rlV := by
      rw [List.take_succ_eq_append_getElem hlt, List.map_append]; rfl
    have hsn : (t.rules.take k).length = k := by simp; omega
    generalize t.rules[k] = r at *
    have n1 : ¬ h.nobj + 2 = h'.nobj := by omega
    have n0 : ¬ h.nobj = h'.nobj := by omega
    have n2 : ¬ h.nobj + 1 = h'.nobj := by omega
    have q0 : (h'.new (rlC r)).objs h'.nobj = rlC r := by simp
    have q1 : (h'.new (rlC r)).objs h.nobj = teC t := by simp [n0, ob0]
    have q2 : (h'.new (rlC r)).objs (h.nobj + 1) = [.sl 0 1 [], .sl 0 1 []] := by simp [n2, ob1]
    have q3 : (h'.new (rlC r)).objs (h.nobj + 2) = [.sl e1 st ((t.rules.take k).map rlV), .sl 0 1 []] := by simp [n1, ob2]
    have q4 : (h'.new (rlC r)).nobj = h'.nobj + 1 := by simp
    have ow2 := ow.new (rlC r)
    simp [hlt', hg, rlV, V.cells, V.good, hrc, setAt]
    rw [← hrc]
    generalize h'.new (rlC r) = h2 at *
    simp [q0, q3, hrc, fillL, V.isAgg]
    rw [← hrc, show V.agg (rlC r) = rlV r from rfl]
    refine ow2.appZ (fun _ => rfl) (by simp [hsn]; omega) fun e2 st2 h3 o3 ob3 no3 => ?_
    rw [hts] at o3 ⊢
    have m0 : ¬ h.nobj = h.nobj + 2 := by omega
    have m1 : ¬ h.nobj + 1 = h.nobj + 2 := by omega
    simp [hw1, V.cells, V.good, setAt, ob3, q3]
    exact ⟨t.rules.length - (k + 1), by omega, iv ⟨k + 1, e2, st2, by omega, rfl, o3.set (by omega) _, by rw [set_objs_ne _ _ _ m0, ob3]; exact q1, by rw [set_objs_ne _ _ _ m1, ob3]; exact q2, by rw [set_objs_same], by rw [set_nobj]; omega, rfl⟩⟩
  · have hlt' : ¬ (k : Int) < t.rules.length := by omega
    obtain rfl : k = t.rules.length := by omega
    rw [List.take_length] at ow ob2
    simp [hlt', ob0, htc]
    have hel := ow.el
    have gr2 := ow.gr
    refine loopI (n := t.nodes.length) (fun m env h2 => ∃ k e2 st2, k ≤ t.nodes.length ∧ m = t.nodes.length - k ∧ Own h h2 3 e2 st2 ((t.nodes.take k).map ndV) ∧ h2.objs (h.nobj + 1) = [.sl 0 1 [], .sl 0 1 []] ∧ h2.objs (h.nobj + 2) = [.sl e1 st (t.rules.map rlV), .sl e2 st2 ((t.nodes.take k).map ndV)] ∧ h.nobj + 3 ≤ h2.nobj ∧
      env = [(2, .ptr (h.nobj + 1) 0), (3, .ptr (h.nobj + 2) 0), (24, .sl 3 0 (t.nodes.map ndV)), (25, .int .i64 t.nodes.length), (26, .int .i64 k)]) ?_
      ⟨0, 0, 1, by omega, by omega, ⟨gr2, .inl rfl, .inl rfl⟩, ob1, by simpa using ob2, by omega, rfl⟩
    clear ow ob0 ob1 ob2 nb gr2 h'
    rintro m env h' ⟨k, e2, st2, hk, rfl, ow, ob1, ob2, nb, rfl⟩
    unfold A.probatelaw06_Own.L1
    by_cases hlt : k < t.nodes.length
    · have hlt' : (k : Int) < t.nodes.length := by omega
      have hg : (t.nodes.map ndV).getD k .undef = ndV t.nodes[k] := Enc.getD hlt
      have hw1 : IntKind.i64.wrap ((k : Int) + 1) = ((k + 1 : Nat) : Int) := by rw [wrap_i64 (by omega) (by omega)]; rfl
      have hnc : ndC t.nodes[k] = [.int .i64 t.nodes[k].kind, .str t.nodes[k].name, .sl 1 0 (ints t.nodes[k].kids)] := rfl
      have hts : (t.nodes.take k).map ndV ++ [ndV t.nodes[k]] = (t.nodes.take (k + 1)).map ndV := by
        rw [List.take_succ_eq_append_getElem hlt, List.map_append]; rfl
      have hsn : (t.nodes.take k).length = k := by simp; omega
      generalize t.nodes[k] = r at *
      have n1 : ¬ h.nobj + 2 = h'.nobj := by omega
      have n2 : ¬ h.nobj + 1 = h'.nobj := by omega
      have q0 : (h'.new (ndC r)).objs h'.nobj = ndC r := by simp
      have q2 : (h'.new (ndC r)).objs (h.nobj + 1) = [.sl 0 1 [], .sl 0 1 []] := by simp [n2, ob1]
      have q3 : (h'.new (ndC r)).objs (h.nobj + 2) = [.sl e1 st (t.rules.map rlV), .sl e2 st2 ((t.nodes.take k).map ndV)] := by simp [n1, ob2]
      have q4 : (h'.new (ndC r)).nobj = h'.nobj + 1 := by simp
      have ow2 := ow.new (ndC r)
      simp [hlt', hg, ndV, V.cells, V.good, hnc, setAt]
      rw [← hnc]
      generalize h'.new (ndC r) = h2 at *
      simp [q0, q3, hnc, fillL, V.isAgg]
      rw [← hnc, show V.agg (ndC r) = ndV r from rfl]
      refine ow2.appZ (fun _ => rfl) (by simp [hsn]; omega) fun e3 st3 h3 o3 ob3 no3 => ?_
      rw [hts] at o3 ⊢
      have m1 : ¬ h.nobj + 1 = h.nobj + 2 := by omega
      simp [hw1, V.cells, V.good, setAt, ob3, q3]
      exact ⟨t.nodes.length - (k + 1), by omega, iv ⟨k + 1, e3, st3, by omega, rfl, o3.set (by omega) _, by rw [set_objs_ne _ _ _ m1, ob3]; exact q2, by rw [set_objs_same], by rw [set_nobj]; omega, rfl⟩⟩
    · have hlt' : ¬ (k : Int) < t.nodes.length := by omega
      obtain rfl : k = t.nodes.length := by omega
      rw [List.take_length] at ow ob2
      have hb := Bdd_teV h.next h.nobj t
      have m1 : ¬ h.nobj + 1 = h.nobj + 2 := by omega
      simp [hlt', ob2, ob1, V.cells, V.good, setAt]
      exact fin_wk (ow.gr.set (by omega) _) (Wk.l2 (Wk.sln hel) (Wk.sln ow.el)) hb hQ
end
/-- Of a Kid of an Alt. -/
def altP (t : Te) (left : Int) (k : Int) : Pr := match t.nodes[k.toNat]? with
  | some y => if y.kind = 1 then ⟨left, symsT t y.kids⟩ else ⟨left, [symT t k.toNat]⟩
  | none => ⟨left, []⟩
/-- A node's productions. -/
def prodsT (t : Te) (n : Nat) (left : Int) : List Pr := match t.nodes[n]? with
  | some x => if 6 ≤ x.kind then [⟨left, [symT t n]⟩] else if x.kind = 1 then [⟨left, symsT t x.kids⟩] else if x.kind = 2 then x.kids.map (altP t left)
    else if x.kind = 3 then [⟨left, [symT t (x.kids.headD 0).toNat, ⟨true, left⟩]⟩, ⟨left, []⟩]
    else if x.kind = 4 then [⟨left, [symT t (x.kids.headD 0).toNat, ⟨true, left⟩]⟩, ⟨left, [symT t (x.kids.headD 0).toNat]⟩]
    else [⟨left, [symT t (x.kids.headD 0).toNat]⟩, ⟨left, []⟩]
  | none => []
/-- Productions, as they lie: of their symbols less may be known. -/
def PrWL : List V → List Pr → Prop
  | [], [] => True
  | v :: vs, p :: ps => (∃ e st, v = .agg [.int .i64 p.left, .sl e st (p.right.map symV)] ∧ (p.right = [] ∨ e = 2)) ∧ PrWL vs ps
  | _, _ => False
theorem PrWL.app : ∀ {vs : List V} {ps : List Pr} {us : List V} {qs : List Pr}, PrWL vs ps → PrWL us qs → PrWL (vs ++ us) (ps ++ qs)
  | [], [], _, _, _, h => h
  | v :: vs, p :: ps, _, _, ⟨a, b⟩, h => ⟨a, PrWL.app b h⟩
theorem PrWL.len : ∀ {vs : List V} {ps : List Pr}, PrWL vs ps → vs.length = ps.length
  | [], [], _ => rfl
  | v :: vs, p :: ps, ⟨_, b⟩ => by simp [PrWL.len b]
theorem PrWL.wkl : ∀ {vs : List V} {ps : List Pr}, PrWL vs ps → WkL (cellsOf vs) (cellsOf (ps.map prV))
  | [], [], _ => .nil
  | v :: vs, p :: ps, ⟨⟨e, st, hv, h⟩, b⟩ => by
    subst hv
    simp only [List.map_cons, cellsOf_cons]
    refine .cons (.same _) (.cons (Wk.sln ?_) (PrWL.wkl b))
    rcases h with h | h
    · left; rw [h]; rfl
    · exact .inr h
theorem PrWL.wk {vs : List V} {ps : List Pr} (h : PrWL vs ps) {e st : Nat} (he : vs = [] ∨ e = 2) : Wk (.sl e st vs) (.sl 2 0 (ps.map prV)) := by
  obtain ⟨a, b⟩ := h.wkl.get
  rcases he with rfl | rfl
  · match ps, h with
    | [], _ => exact .nil _ _ _
  · exact .sld _ _ _ _ (by simp [h.len]) (fun v hv => by
      obtain ⟨p, _, rfl⟩ := List.mem_map.1 hv
      rfl) a b
theorem RTe.kids_len {t : Te} (r : RTe t) {i : Nat} (hi : i < t.nodes.length) : t.nodes[i].kids.length ≤ 200 := by
  have h1 := r.perm.length_eq
  have h2 : t.nodes[i].kids.length ≤ (t.nodes.flatMap (·.kids)).length := (List.sublist_flatten_of_mem (List.mem_map.2 ⟨_, List.getElem_mem hi, rfl⟩)).length_le
  have := r.n1
  simp only [List.length_append, iotaI_len] at h1
  omega
theorem RTe.in {t : Te} (r : RTe t) {i : Nat} (hi : i < t.nodes.length) : ∀ m ∈ t.nodes[i].kids, 0 ≤ m ∧ m < t.nodes.length := fun m hm => by have := r.lt i hi m hm; omega
/-- What is known of a node's kind, and how many kids there are. -/
theorem fineT_kind {t : Te} {n : Nd} (h : fineT t n = true) : (n.kind = 1 ∧ n.kids.length ≠ 1) ∨ (n.kind = 2 ∧ 2 ≤ n.kids.length) ∨ (3 ≤ n.kind ∧ n.kind ≤ 5 ∧ n.kids.length = 1) ∨ (n.kind = 6 ∧ n.kids = [] ∧ n.name ∈ rnames t) ∨ (n.kind = 7 ∧ n.kids = []) := by
  unfold fineT at h
  split at h
  · simp at h; rename_i c; right; right; right; left; exact ⟨c, h.1, h.2⟩
  · split at h
    · simp at h; rename_i c; right; right; right; right; exact ⟨c, h.1⟩
    · simp at h
      obtain ⟨_, h⟩ := h
      rcases h with (h | h) | h
      · exact .inl h
      · exact .inr (.inl h)
      · exact .inr (.inr (.inl ⟨h.1.1, h.1.2, h.2⟩))
end Go.Proofs.Ytmobijebjkjnoaa.Al
namespace Go.Proofs.Ytmobijebjkjnoaa.Al
open Go Go.RowKit
set_option linter.unusedSimpArgs false
set_option linter.unusedVariables false
attribute [-simp] List.getD_eq_getElem?_getD Int.not_lt Int.not_le List.map_take
theorem prodsT_len {t : Te} (rt : RTe t) (n : Nat) (left : Int) : (prodsT t n left).length ≤ 200 := by
  unfold prodsT
  split
  · rename_i x hx
    obtain ⟨hn, rfl⟩ := List.getElem?_eq_some_iff.1 hx
    have := rt.kids_len hn
    repeat' split
    all_goals (simp <;> omega)
  · simp
theorem flatP_len {α : Type} {f : α → List Pr} {m : Nat} : ∀ (l : List α), (∀ a ∈ l, (f a).length ≤ m) → (l.flatMap f).length ≤ m * l.length
  | [], _ => by simp
  | a :: l, h => by
    have := flatP_len l fun b hb => h b (by simp [hb])
    have h1 := h a (by simp)
    simp only [List.flatMap_cons, List.length_append, List.length_cons, Nat.mul_add]; omega
/-- The productions of the rules' bodies, and of nodes that have nonterminals of their own. -/
def lowA (t : Te) (k : Nat) : List Pr := (List.range k).flatMap fun i : Nat => prodsT t (t.rules.getD i ⟨[], 0⟩).body.toNat i
def lowB (t : Te) (k : Nat) : List Pr := (List.range k).flatMap fun n : Nat => if hasN t n then prodsT t n (ownN t n) else []
def lowP (t : Te) : List Pr := lowA t t.rules.length ++ lowB t t.nodes.length
def lowG (t : Te) : Gm := ⟨(termsT t).length, (t.rules.length + cntN t t.nodes.length : Nat), 0, lowP t⟩
def lowRes (t : Te) : Gm × List Str × Int := if rightD t then (if rightG (lowG t) then (lowG t, termsT t, 0) else (⟨0, 0, 0, []⟩, [], 5)) else (⟨0, 0, 0, []⟩, [], 1)
def lowV (r : Gm × List Str × Int) : V := .tup [gmV r.1, .sl 1 0 (strs r.2.1), .int .i64 r.2.2]
theorem lowA_succ (t : Te) (k : Nat) : lowA t (k + 1) = lowA t k ++ prodsT t (t.rules.getD k ⟨[], 0⟩).body.toNat k := by simp [lowA, List.range_succ]
theorem lowB_succ (t : Te) (k : Nat) : lowB t (k + 1) = lowB t k ++ if hasN t k then prodsT t k (ownN t k) else [] := by simp [lowB, List.range_succ]
theorem lowA_len {t : Te} (rt : RTe t) (k : Nat) (hk : k ≤ 24) : (lowA t k).length ≤ 4800 := by
  have := flatP_len (f := fun i : Nat => prodsT t (t.rules.getD i ⟨[], 0⟩).body.toNat i) (m := 200) (List.range k) fun a _ => prodsT_len rt _ _
  simp only [List.length_range] at this
  unfold lowA; omega
theorem lowB_len {t : Te} (rt : RTe t) (k : Nat) (hk : k ≤ 200) : (lowB t k).length ≤ 40000 := by
  have := flatP_len (f := fun n : Nat => if hasN t n then prodsT t n (ownN t n) else []) (m := 200) (List.range k) fun a _ => by
    split
    · exact prodsT_len rt _ _
    · simp
  simp only [List.length_range] at this
  unfold lowB; omega
theorem cntN_succ (t : Te) (k : Nat) : cntN t (k + 1) = cntN t k + if hasN t k then 1 else 0 := by
  unfold cntN; rw [List.range_succ, List.countP_append]; simp [List.countP_cons]
theorem cntN_le (t : Te) (k : Nat) : cntN t k ≤ k := by unfold cntN; exact Nat.le_trans List.countP_le_length (by simp)
theorem Bdd_gmV (n m : Nat) (g : Gm) : Bdd n m (gmV g) := by
  simp only [gmV, Bdd_agg]; exact gm_bdd g n m
theorem Bdd_lowV (n m : Nat) (r : Gm × List Str × Int) : Bdd n m (lowV r) := by
  simp only [lowV, Bdd_tup]
  intro v hv
  simp at hv
  rcases hv with rfl | rfl | rfl
  · exact Bdd_gmV _ _ _
  · rw [Bdd_sl0]; exact ⟨by omega, Bdd_strs _ _ _⟩
  · simp
theorem Wk.l3 {a b c a' b' c' : V} (x : Wk a a') (y : Wk b b') (z : Wk c c') : Wk (.tup [a, b, c]) (.tup [a', b', c']) := .tup _ _ rfl fun i h1 h2 => by
  match i with
  | 0 => exact x
  | 1 => exact y
  | 2 => exact z
  | n + 3 => simp at h1; omega
structure LRL (X : Cx) : Prop where
  s : LR8 X
  six : LR6 X
  prods : Has (Ecx X) K.probateref08_prods A.probateref08_prods
  lower : Has (Ecx X) K.probateref08_Lower A.probateref08_Lower
  gright : Has (Ecx X) K.probateref03_Right A.probateref03_Right
end Go.Proofs.Ytmobijebjkjnoaa.Al
namespace Go.Proofs.Ytmobijebjkjnoaa.Al
open Go Go.RowKit
set_option linter.unusedSimpArgs false
set_option linter.unusedVariables false
attribute [-simp] List.getD_eq_getElem?_getD Int.not_lt Int.not_le List.map_take List.map_map
/-- Entries of maps. -/
def fndS (s : Str) : List Str → Option Nat
  | [] => none
  | a :: l => if s = a then some 0 else (fndS s l).map (· + 1)
def entS : List Str → Nat → List V
  | [], _ => []
  | s :: l, i => .tup [.str s, .int .i64 (i : Int)] :: entS l (i + 1)
theorem plc_fnd (s : Str) : ∀ (l : List Str) (i : Nat), plc s l i = match fndS s l with
    | some j => ((i + j : Nat) : Int)
    | none => -1
  | [], i => rfl
  | a :: l, i => by
    unfold plc fndS
    by_cases c : a = s
    · rw [if_pos c, if_pos c.symm]; simp
    · rw [if_neg c, if_neg (fun e => c e.symm), plc_fnd s l (i + 1)]
      cases fndS s l with
      | none => rfl
      | some j => show ((i + 1 + j : Nat) : Int) = ((i + (j + 1) : Nat) : Int); omega
theorem fndS_lt {s : Str} : ∀ {l : List Str} {j : Nat}, fndS s l = some j → j < l.length
  | [], j, h => by simp [fndS] at h
  | a :: l, j, h => by
    unfold fndS at h
    split at h
    · simp at h; subst h; simp
    · cases hq : fndS s l with
      | none => rw [hq] at h; simp at h
      | some i => rw [hq] at h; simp at h; subst h; have := fndS_lt hq; simp; omega
theorem fndS_none {s : Str} : ∀ {l : List Str}, fndS s l = none ↔ s ∉ l
  | [] => by simp [fndS]
  | a :: l => by
    unfold fndS
    by_cases c : s = a
    · rw [if_pos c]; simp [c]
    · rw [if_neg c]; simp [c, fndS_none (s := s) (l := l)]
theorem findE_entS (s : Str) : ∀ (l : List Str) (i k : Nat), findE .s (.str s) (entS l i) k = some ((fndS s l).map fun j => (k + j, .int .i64 ((i + j : Nat) : Int)))
  | [], i, k => rfl
  | a :: l, i, k => by
    unfold entS fndS
    by_cases c : s = a
    · simp [findE, eqLeaf, c]
    · simp only [findE, eqLeaf, decide_eq_false c, if_neg c]
      rw [findE_entS s l (i + 1) (k + 1)]
      cases fndS s l with
      | none => rfl
      | some j => simp; omega
theorem entS_app : ∀ (l : List Str) (s : Str) (i : Nat), entS (l ++ [s]) i = entS l i ++ [.tup [.str s, .int .i64 ((i + l.length : Nat) : Int)]]
  | [], s, i => by simp [entS]
  | a :: l, s, i => by
    simp only [List.cons_append, entS, entS_app l s (i + 1), List.length_cons]
    rw [show i + 1 + l.length = i + (l.length + 1) by omega]
def entK (l : List Int) : List V := l.map fun k => .tup [.int .i64 k, .int .i64 1]
theorem findE_entK (k : Int) : ∀ (l : List Int) (j : Nat), (k ∉ l ∧ findE .i (.int .i64 k) (entK l) j = some none) ∨ (k ∈ l ∧ ∃ i, ∃ h : i < l.length, l[i] = k ∧ findE .i (.int .i64 k) (entK l) j = some (some (j + i, .int .i64 1)))
  | [], j => .inl ⟨by simp, rfl⟩
  | a :: l, j => by
    by_cases c : k = a
    · exact .inr ⟨by simp [c], 0, by simp, by simp [c], by simp [entK, findE, eqLeaf, c]⟩
    · have hs : findE .i (.int .i64 k) (entK (a :: l)) j = findE .i (.int .i64 k) (entK l) (j + 1) := by simp [entK, findE, eqLeaf, c]
      rw [hs]
      rcases findE_entK k l (j + 1) with ⟨h1, h2⟩ | ⟨h1, i, h2, h3, h4⟩
      · exact .inl ⟨by simp [c, h1], h2⟩
      · exact .inr ⟨by simp [h1], i + 1, by simpa using h2, by simpa using h3, by rw [h4, show j + 1 + i = j + (i + 1) by omega]⟩
def insK (l : List Int) (k : Int) : List Int := if k ∈ l then l else l ++ [k]
theorem mem_insK (l : List Int) (k x : Int) : x ∈ insK l k ↔ x ∈ l ∨ x = k := by
  unfold insK
  split
  · rename_i h; exact ⟨.inl, fun e => e.elim id (fun e => e ▸ h)⟩
  · simp
/-- Entries of numbers. -/
def entI (l : List (Int × Int)) : List V := l.map fun p => .tup [.int .i64 p.1, .int .i64 p.2]
def fndI (k : Int) : List (Int × Int) → Option (Nat × Int)
  | [] => none
  | a :: l => if k = a.1 then some (0, a.2) else (fndI k l).map fun p => (p.1 + 1, p.2)
theorem findE_entI (k : Int) : ∀ (l : List (Int × Int)) (j : Nat), findE .i (.int .i64 k) (entI l) j = some ((fndI k l).map fun p => (j + p.1, .int .i64 p.2))
  | [], j => rfl
  | a :: l, j => by
    unfold fndI
    by_cases c : k = a.1
    · simp [entI, findE, eqLeaf, c]
    · have hs : findE .i (.int .i64 k) (entI (a :: l)) j = findE .i (.int .i64 k) (entI l) (j + 1) := by simp [entI, findE, eqLeaf, c]
      rw [hs, findE_entI k l (j + 1), if_neg c]
      cases fndI k l with
      | none => rfl
      | some p => simp; omega
theorem fndI_none {k : Int} : ∀ {l : List (Int × Int)}, (∀ p ∈ l, p.1 ≠ k) → fndI k l = none
  | [], _ => rfl
  | a :: l, h => by
    unfold fndI
    rw [if_neg (fun e => h a (by simp) e.symm), fndI_none (fun p hp => h p (by simp [hp]))]; rfl
/-- The lowerer. -/
def loC (t : Te) (e sn : Nat) (names : List Str) (m1 m2 m3 : Nat) (pv : V) : List V := [.sl 2 0 (t.rules.map rlV), .sl 3 0 (t.nodes.map ndV), .sl e sn (strs names), .mapr m1, .mapr m2, .mapr m3, pv]
/-- From h to h1 only these objects have been turned, and a slice of this stamp. -/
structure FR (h h1 : AH) (os : List Nat) (st : Nat) : Prop where
  next : h.next ≤ h1.next
  nobj : h.nobj ≤ h1.nobj
  objs : ∀ o, o < h.nobj → o ∉ os → h1.objs o = h.objs o
  tips : ∀ s, s < h.next → (s ≠ st ∨ s ≤ 2) → h1.tips s = h.tips s
theorem FR.refl (h : AH) (os : List Nat) (st : Nat) : FR h h os st := ⟨Nat.le_refl _, Nat.le_refl _, fun _ _ _ => rfl, fun _ _ _ => rfl⟩
theorem FR.new {h h1 : AH} {os : List Nat} {st : Nat} (f : FR h h1 os st) (z : List V) : FR h (h1.new z) os st :=
  ⟨f.next, Nat.le_succ_of_le f.nobj, fun o ho hn => by rw [new_objs_ne _ _ (by have := f.nobj; omega)]; exact f.objs o ho hn, f.tips⟩
theorem FR.set {h h1 : AH} {os : List Nat} {st : Nat} (f : FR h h1 os st) {o : Nat} (ho : o ∈ os ∨ h.nobj ≤ o) (z : List V) : FR h (h1.set o z) os st :=
  ⟨f.next, f.nobj, fun o' ho' hn => by
    rw [set_objs_ne _ _ _ (by rintro rfl; rcases ho with h | h; exact hn h; omega)]; exact f.objs o' ho' hn, f.tips⟩
theorem FR.push {h h1 : AH} {os : List Nat} {st : Nat} (f : FR h h1 os st) {s1 : Nat} (hs : s1 = st ∨ s1 ≤ 2 ∨ h.next ≤ s1) (e : Nat) : FR h (h1.push s1 e) os st := by
  have := f.next
  refine ⟨by rw [push_next]; omega, by rw [push_nobj]; exact f.nobj, fun o ho hn => by rw [push_objs]; exact f.objs o ho hn, fun s h1' h2 => ?_⟩
  by_cases c : s1 ≤ 2
  · have key : (h1.push s1 e).tips s = h1.tips s := by
      unfold AH.push; rw [if_pos c]; exact updN_ne _ _ (by omega)
    rw [key]; exact f.tips s h1' h2
  · rw [push_tips_at (by omega) (by omega)]; exact f.tips s h1' h2
theorem Gr.fr {h0 h h1 : AH} {os : List Nat} {st : Nat} (G : Gr h0 h) (f : FR h h1 os st) (ho : ∀ o ∈ os, h0.nobj ≤ o) (hs : st ≤ 2 ∨ h0.next ≤ st) : Gr h0 h1 := by
  have g1 := G.next
  have g2 := G.nobj
  exact ⟨Nat.le_trans g1 f.next, Nat.le_trans g2 f.nobj, fun o h' => (f.objs o (by omega) (fun e => by have := ho o e; omega)).trans (G.objs o h'), fun s h' => (f.tips s (by omega) (by omega)).trans (G.tips s h')⟩
structure LLo (X : Cx) : Prop where
  ru : LRu X
  right : Has (Ecx X) K.rules_Right A.rules_Right_o
  term : Has (Ecx X) K.lower_lowerer_term A.lower_lowerer_term
  alone : Has (Ecx X) K.lower_lowerer_alone A.lower_lowerer_alone
  number : Has (Ecx X) K.lower_lowerer_number A.lower_lowerer_number
  symbol : Has (Ecx X) K.lower_lowerer_symbol A.lower_lowerer_symbol
  all : Has (Ecx X) K.lower_all A.lower_all
  lay : Has (Ecx X) K.lower_lowerer_lay A.lower_lowerer_lay
  node : Has (Ecx X) K.lower_lowerer_node A.lower_lowerer_node
  lower : Has (Ecx X) K.lower_Lower A.lower_Lower
  gr : LGr X
section
variable {X : Cx} {h : AH} {Q : V → AH → Prop}
theorem term_spec (L : LLo X) (t : Te) {o m1 m2 m3 e sn : Nat} {names : List Str} {pv : V} (s : Str) (ho : h.objs o = loC t e sn names m1 m2 m3 pv) (h1 : h.objs m1 = entS names 0) (hno : ¬ o = m1) (hnl : names.length ≤ 2 ^ 30) (my : May 1 h e sn (strs names))
    (hQ0 : fndS s names ≠ none → Q (.tup []) h) (hQ1 : fndS s names = none → Q (.tup []) (((h.set m1 (entS (names ++ [s]) 0)).push sn 1).set o (loC t 1 h.next (names ++ [s]) m1 m2 m3 pv))) :
    Ecx X K.lower_lowerer_term [.ptr o 0, .str s] h Q := by
  refine fn_any L.term (by simp [A.lower_lowerer_term]) fun wf => ?_
  have hf := findE_entS s names 0 0
  have hno' : ¬ m1 = o := fun e => hno e.symm
  simp [A.lower_lowerer_term, ho, loC, h1, hf]
  cases hs : fndS s names with
  | some j => 
    simp
    exact hQ0 (by rw [hs]; simp)
  | none =>
    rw [hs] at hf
    have q := hQ1 hs
    have hsl : (strs names).length = names.length := by simp [strs]
    have he := entS_app names s 0
    simp only [Nat.zero_add] at he
    rw [he] at q
    simp [lkpV, ho, loC, h1, hf, hno, hno', hsl, fillL, V.isAgg]
    refine (show May 1 (h.set m1 (entS names 0 ++ [V.tup [V.str s, V.int .i64 (names.length : Int)]])) e sn (strs names) from ⟨my.el, my.st⟩).app (by simp) rfl (by simp [hsl]; omega) ?_
    simp [V.cells, V.good, setAt, ho, loC, hno, push_objs]
    simpa [loC, strs] using q
theorem all_spec (L : LLo X) (l : List Int) {kf : Nat} {first cap : List V} (f : Int → Sy) (hl : l.length ≤ 2 ^ 30) (hf : ∀ k ∈ l, ∀ {h' : AH} {Q' : V → AH → Prop}, Gr h h' → Q' (symV (f k)) h' → Ecx X kf (first ++ .int .i64 k :: cap) h' Q')
    (hQ : Q (.sl 2 0 ((l.map f).map symV)) h) : Ecx X K.lower_all [.sl 1 0 (ints l), .fn kf first cap] h Q := by
  refine fn_walk L.all (by simp [A.lower_all]) fun wf => ?_
  have hil : (ints l).length = l.length := by simp [ints]
  simp [A.lower_all, hil]
  refine loopI (n := l.length) (fun m env h' => ∃ k e st, k ≤ l.length ∧ m = l.length - k ∧ Own h h' 2 e st (((l.take k).map f).map symV) ∧ env = [(1, .fn kf first cap), (5, .sl e st (((l.take k).map f).map symV)), (8, .sl 1 0 (ints l)), (9, .int .i64 l.length), (10, .int .i64 k)]) ?_
    ⟨0, 0, 1, by omega, by omega, ⟨Gr.refl h, .inl rfl, .inl rfl⟩, rfl⟩
  rintro m env h' ⟨k, e, st, hk, rfl, ow, rfl⟩
  unfold A.lower_all.L0
  by_cases hlt : k < l.length
  · have hlt' : (k : Int) < l.length := by omega
    have hg := ints_get hlt
    have hw1 : IntKind.i64.wrap ((k : Int) + 1) = ((k + 1 : Nat) : Int) := by rw [wrap_i64 (by omega) (by omega)]; rfl
    have hts : ((l.take (k + 1)).map f).map symV = ((l.take k).map f).map symV ++ [symV (f l[k])] := by
      rw [List.take_succ_eq_append_getElem hlt, List.map_append, List.map_append]; rfl
    have hm := List.getElem_mem hlt
    have hsc : symC (f l[k]) = [.bool (f l[k]).non, .int .i64 (f l[k]).n] := rfl
    simp [hlt', hg, hil, V.cells]
    refine ecall (hf _ hm ow.gr ?_)
    simp [fillL, V.isAgg, symV, hsc]
    rw [show V.agg [.bool (f l[k]).non, .int .i64 (f l[k]).n] = symV (f l[k]) from rfl]
    refine ow.appZ (fun _ => rfl) (by simp; omega) fun e2 st2 h3 o3 ob3 no3 => ?_
    rw [← hts] at o3 ⊢
    simp [hw1]
    exact ⟨l.length - (k + 1), by omega, iv ⟨k + 1, e2, st2, by omega, rfl, o3, rfl⟩⟩
  · have hlt' : ¬ (k : Int) < l.length := by omega
    obtain rfl : k = l.length := by omega
    rw [List.take_length] at ow ⊢
    simp [hlt']
    exact fin_own ow (encS.cells _ _ _) (by simpa using hQ)
theorem lay_spec (L : LLo X) {o e sp : Nat} {c0 c1 c2 c3 c4 c5 : V} {ps : List Pr} (p : Pr) (ho : h.objs o = [c0, c1, c2, c3, c4, c5, .sl e sp (ps.map prV)]) (my : May 2 h e sp (ps.map prV)) (hl : ps.length ≤ 2 ^ 30)
    (hQ : Q (.tup []) ((h.push sp 2).set o [c0, c1, c2, c3, c4, c5, .sl 2 h.next ((ps ++ [p]).map prV)])) : Ecx X K.lower_lowerer_lay [.ptr o 0, .int .i64 p.left, .sl 2 0 (p.right.map symV)] h Q := by
  refine fn_any L.lay (by simp [A.lower_lowerer_lay]) fun wf => ?_
  simp [A.lower_lowerer_lay, ho, fillV, fillL, setAt, V.cells, V.good, V.isAgg]
  refine my.app (by simp) rfl (by simp; omega) ?_
  simp [V.cells, V.good, setAt, ho, push_objs]
  simpa [prV, prC] using hQ
end
end Go.Proofs.Ytmobijebjkjnoaa.Al
namespace Go.Proofs.Ytmobijebjkjnoaa.Al
open Go Go.RowKit
set_option linter.unusedSimpArgs false
set_option linter.unusedVariables false
attribute [-simp] List.getD_eq_getElem?_getD Int.not_lt Int.not_le List.map_take List.map_map
theorem mupF_entK {h : AH} {K : V → AH → Prop} {zK : Lz K} {m : Nat} {l : List Int} {k : Int} (hm : h.objs m = entK l) (hk : K (.tup []) (h.set m (entK (insK l k)))) : mupF h m (.int .i64 k) (.int .i64 1) (findE .i (.int .i64 k) (entK l) 0) zK := by
  rcases findE_entK k l 0 with ⟨h1, h2⟩ | ⟨h1, i, h2, h3, h4⟩
  · rw [h2]
    show K (.tup []) (h.set m (h.objs m ++ [.tup [.int .i64 k, .int .i64 1]]))
    rw [hm]
    unfold insK at hk
    rw [if_neg h1] at hk
    simpa [entK] using hk
  · rw [h4]
    show K (.tup []) (h.set m ((h.objs m).set (0 + i) (.tup [.int .i64 k, .int .i64 1])))
    unfold insK at hk
    rw [if_pos h1] at hk
    have : (h.objs m).set (0 + i) (.tup [.int .i64 k, .int .i64 1]) = entK l := by
      rw [hm, Nat.zero_add]
      apply List.ext_getElem?
      intro j
      rw [List.getElem?_set]
      split
      · rename_i e
        subst e
        simp [entK, h2, h3]
      · rfl
    rw [this]; exact hk
def kindAt (t : Te) (k : Int) : Int := match t.nodes[k.toNat]? with
  | some y => y.kind
  | none => 0
def aloA (rs : List Rl) (l : List Int) : List Int := rs.foldl (fun l r => insK l r.body) l
def aloX (t : Te) (kind : Int) (ks : List Int) (l : List Int) : List Int := ks.foldl (fun l k => if kind = 2 ∧ kindAt t k = 1 then insK l k else l) l
def aloB (t : Te) (ns : List Nd) (l : List Int) : List Int := ns.foldl (fun l x => aloX t x.kind x.kids l) l
def aloneK (t : Te) : List Int := aloB t t.nodes (aloA t.rules [])
theorem mem_aloA (i : Int) : ∀ (rs : List Rl) (l : List Int), i ∈ aloA rs l ↔ i ∈ l ∨ ∃ r ∈ rs, r.body = i
  | [], l => by simp [aloA]
  | r :: rs, l => by
    have := mem_aloA i rs (insK l r.body)
    unfold aloA at *
    rw [List.foldl_cons, this, mem_insK]
    simp only [List.mem_cons, exists_eq_or_imp]
    constructor
    · rintro ((h | h) | h)
      · exact .inl h
      · exact .inr (.inl h.symm)
      · exact .inr (.inr h)
    · rintro (h | h | h)
      · exact .inl (.inl h)
      · exact .inl (.inr h.symm)
      · exact .inr h
theorem mem_aloX (t : Te) (kind i : Int) : ∀ (ks l : List Int), i ∈ aloX t kind ks l ↔ i ∈ l ∨ (kind = 2 ∧ i ∈ ks ∧ kindAt t i = 1)
  | [], l => by simp [aloX]
  | k :: ks, l => by
    have := mem_aloX t kind i ks (if kind = 2 ∧ kindAt t k = 1 then insK l k else l)
    unfold aloX at *
    rw [List.foldl_cons, this]
    by_cases c : kind = 2 ∧ kindAt t k = 1
    · rw [if_pos c, mem_insK]
      constructor
      · rintro ((h | h) | h)
        · exact .inl h
        · exact .inr ⟨c.1, by simp [h], by rw [h]; exact c.2⟩
        · exact .inr ⟨h.1, by simp [h.2.1], h.2.2⟩
      · rintro (h | ⟨h1, h2, h3⟩)
        · exact .inl (.inl h)
        · rcases List.mem_cons.1 h2 with h2 | h2
          · exact .inl (.inr h2)
          · exact .inr ⟨h1, h2, h3⟩
    · rw [if_neg c]
      constructor
      · rintro (h | h)
        · exact .inl h
        · exact .inr ⟨h.1, by simp [h.2.1], h.2.2⟩
      · rintro (h | ⟨h1, h2, h3⟩)
        · exact .inl h
        · rcases List.mem_cons.1 h2 with h2 | h2
          · exact absurd ⟨h1, by rw [← h2]; exact h3⟩ c
          · exact .inr ⟨h1, h2, h3⟩
theorem mem_aloB (t : Te) (i : Int) : ∀ (ns : List Nd) (l : List Int), i ∈ aloB t ns l ↔ i ∈ l ∨ ∃ x ∈ ns, x.kind = 2 ∧ i ∈ x.kids ∧ kindAt t i = 1
  | [], l => by simp [aloB]
  | x :: ns, l => by
    have := mem_aloB t i ns (aloX t x.kind x.kids l)
    unfold aloB at *
    rw [List.foldl_cons, this, mem_aloX]
    simp only [List.mem_cons, exists_eq_or_imp, or_assoc]
/-- The program's test is the reference's. -/
theorem alone_has {t : Te} {i : Nat} (hi : i < t.nodes.length) (h7 : t.nodes[i].kind ≤ 7) : hasN t i = (decide (t.nodes[i].kind ≠ 7) && decide (t.nodes[i].kind ≠ 6) && !decide ((i : Int) ∈ aloneK t)) := by
  unfold hasN
  rw [List.getElem?_eq_getElem hi]
  simp only
  have hk : kindAt t (i : Int) = t.nodes[i].kind := by unfold kindAt; rw [Int.toNat_natCast, List.getElem?_eq_getElem hi]
  have e1 : decide (t.nodes[i].kind ≤ 5) = (decide (t.nodes[i].kind ≠ 7) && decide (t.nodes[i].kind ≠ 6)) := by
    apply Bool.eq_iff_iff.2; simp; omega
  rw [e1, Bool.and_assoc]
  congr 1
  apply Bool.eq_iff_iff.2
  simp only [Bool.and_eq_true, Bool.not_eq_true', decide_eq_false_iff_not, aloneK, mem_aloB, mem_aloA, hk]
  simp only [List.all_eq_true, decide_eq_true_eq, List.any_eq_false, kidT, Bool.and_eq_true]
  constructor
  · rintro ⟨h1, h2⟩ ((h | ⟨r, hr, he⟩) | ⟨x, hx, hx1, hx2, hx3⟩)
    · simp at h
    · exact h1 r hr he
    · apply h2 x hx
      rw [List.any_eq_true]
      exact ⟨_, hx2, by simp [hx1, hx3]⟩
  · intro h
    refine ⟨fun r hr he => h (.inl (.inr ⟨r, hr, he⟩)), fun x hx hq => ?_⟩
    rw [List.any_eq_true] at hq
    obtain ⟨m, hm, he⟩ := hq
    simp at he
    exact h (.inr ⟨x, hx, he.1.1, by rw [← he.1.2]; exact hm, he.2⟩)
section
variable {X : Cx} {h : AH} {Q : V → AH → Prop}
theorem aloneL2 (t : Te) {o m o7 k31 : Nat} {v : V} {h0 : AH} {kind : Int} {ks : List Int} {l : List Int} {Q : Ex → Env → AH → Prop} {zQ : Lz Q} {z : Lz (AC.loop A.lower_lowerer_alone.L2)} (hl : ks.length ≤ 2 ^ 30) (hin : ∀ k ∈ ks, 0 ≤ k ∧ k < t.nodes.length) (rest : List V)
    (gr : Gr h0 h) (hm0 : h0.nobj ≤ m) (ho : h.objs o = .sl 2 0 (t.rules.map rlV) :: .sl 3 0 (t.nodes.map ndV) :: rest) (h7 : h.objs o7 = [.int .i64 kind, v, .sl 1 0 (ints ks)]) (hm : h.objs m = entK l) (om : ¬ o = m) (o7m : ¬ o7 = m)
    (hex : Gr h0 (h.set m (entK (aloX t kind ks l))) → Q (.exit 4) [(0, .ptr o 0), (3, .mapr m), (7, .ptr o7 0), (29, .sl 3 0 (t.nodes.map ndV)), (30, .int .i64 t.nodes.length), (31, .int .i64 k31), (36, .sl 1 0 (ints ks)), (37, .int .i64 ks.length), (38, .int .i64 ks.length), (39, .bool false)] (h.set m (entK (aloX t kind ks l)))) :
    acZ (Ecx X) [(0, .ptr o 0), (3, .mapr m), (7, .ptr o7 0), (29, .sl 3 0 (t.nodes.map ndV)), (30, .int .i64 t.nodes.length), (31, .int .i64 k31), (36, .sl 1 0 (ints ks)), (37, .int .i64 ks.length), (38, .int .i64 0)] h z zQ := by
  refine loopI (n := ks.length) (fun mm env h' => ∃ j, j ≤ ks.length ∧ mm = ks.length - j ∧ h' = h.set m (entK (aloX t kind (ks.take j) l)) ∧ env = [(0, .ptr o 0), (3, .mapr m), (7, .ptr o7 0), (29, .sl 3 0 (t.nodes.map ndV)), (30, .int .i64 t.nodes.length), (31, .int .i64 k31), (36, .sl 1 0 (ints ks)), (37, .int .i64 ks.length), (38, .int .i64 j)]) ?_
    ⟨0, by omega, by omega, by rw [show aloX t kind (ks.take 0) l = l from rfl, ← hm, set_self rfl], rfl⟩
  rintro mm env h' ⟨j, hj, rfl, rfl, rfl⟩
  unfold A.lower_lowerer_alone.L2
  have hil : (ints ks).length = ks.length := by simp [ints]
  have ob : (h.set m (entK (aloX t kind (ks.take j) l))).objs o = .sl 2 0 (t.rules.map rlV) :: .sl 3 0 (t.nodes.map ndV) :: rest := by rw [set_objs_ne _ _ _ om]; exact ho
  have ob7 : (h.set m (entK (aloX t kind (ks.take j) l))).objs o7 = [.int .i64 kind, v, .sl 1 0 (ints ks)] := by rw [set_objs_ne _ _ _ o7m]; exact h7
  have obm : (h.set m (entK (aloX t kind (ks.take j) l))).objs m = entK (aloX t kind (ks.take j) l) := by simp
  have hss : ∀ z, (h.set m (entK (aloX t kind (ks.take j) l))).set m z = h.set m z := fun z => by simp
  generalize hh : h.set m (entK (aloX t kind (ks.take j) l)) = h2 at *
  by_cases hlt : j < ks.length
  · have hlt' : (j : Int) < ks.length := by omega
    have hgk := ints_get hlt
    have hw1 : IntKind.i64.wrap ((j : Int) + 1) = ((j + 1 : Nat) : Int) := by rw [wrap_i64 (by omega) (by omega)]; rfl
    have hink := hin _ (List.getElem_mem hlt)
    have hsu : aloX t kind (ks.take (j + 1)) l = if kind = 2 ∧ kindAt t ks[j] = 1 then insK (aloX t kind (ks.take j) l) ks[j] else aloX t kind (ks.take j) l := by
      unfold aloX; rw [List.take_succ_eq_append_getElem hlt, List.foldl_append]; rfl
    obtain ⟨c, hc⟩ : ∃ c : Nat, ks[j] = (c : Int) := ⟨ks[j].toNat, by omega⟩
    rw [hc] at hgk hsu hink
    have hcn : c < t.nodes.length := by omega
    have hcn' : (c : Int) < t.nodes.length := by omega
    have hgc : (t.nodes.map ndV).getD c .undef = ndV t.nodes[c] := Enc.getD hcn
    have hka : kindAt t (c : Int) = t.nodes[c].kind := by unfold kindAt; rw [Int.toNat_natCast, List.getElem?_eq_getElem hcn]
    rw [hka] at hsu
    generalize t.nodes[c] = y at *
    have hyc : ndC y = [.int .i64 y.kind, .str y.name, .sl 1 0 (ints y.kids)] := rfl
    by_cases c1 : kind = 2
    · by_cases c2 : y.kind = 1
      · rw [if_pos ⟨c1, c2⟩] at hsu
        simp [hlt', hgk, hil, V.cells, ob7, ob, hcn', hgc, ndV, hyc, c1, c2]
        rw [obm]
        refine mupF_entK obm ?_
        simp [hw1]
        exact ⟨ks.length - (j + 1), by omega, iv ⟨j + 1, by omega, rfl, by rw [hss, hsu], rfl⟩⟩
      · rw [if_neg (fun e => c2 e.2)] at hsu
        simp [hlt', hgk, hil, V.cells, ob7, ob, hcn', hgc, ndV, hyc, c1, c2, hw1]
        exact ⟨ks.length - (j + 1), by omega, iv ⟨j + 1, by omega, rfl, by rw [hsu, hh], rfl⟩⟩
    · rw [if_neg (fun e => c1 e.1)] at hsu
      simp [hlt', hgk, hil, V.cells, ob7, ob, hcn', hgc, ndV, hyc, c1, hw1]
      exact ⟨ks.length - (j + 1), by omega, iv ⟨j + 1, by omega, rfl, by rw [hsu, hh], rfl⟩⟩
  · have hlt' : ¬ (j : Int) < ks.length := by omega
    obtain rfl : j = ks.length := by omega
    rw [List.take_length] at hh
    simp [hlt']
    rw [← hh]
    exact hex (gr.set hm0 _)
theorem alone_spec (L : LLo X) (t : Te) (rt : RTe t) {o : Nat} {rest : List V} (ob : o < h.nobj) (ho : h.objs o = .sl 2 0 (t.rules.map rlV) :: .sl 3 0 (t.nodes.map ndV) :: rest)
    (hQ : ∀ h', Gr h h' → h.nobj < h'.nobj → h'.objs h.nobj = entK (aloneK t) → Q (.mapr h.nobj) h') : Ecx X K.lower_lowerer_alone [.ptr o 0] h Q := by
  refine fn_any L.alone (by simp [A.lower_lowerer_alone]) fun wf => ?_
  have hn := rt.n1
  have hr := rt.r1
  have om : ¬ o = h.nobj := by omega
  simp [A.lower_lowerer_alone, ho, om]
  refine loopI (n := t.rules.length) (fun mm env h' => ∃ k, k ≤ t.rules.length ∧ mm = t.rules.length - k ∧ Gr h h' ∧ h.nobj < h'.nobj ∧ h'.objs h.nobj = entK (aloA (t.rules.take k) []) ∧ env = [(0, .ptr o 0), (3, .mapr h.nobj), (15, .sl 2 0 (t.rules.map rlV)), (16, .int .i64 t.rules.length), (17, .int .i64 k)]) ?_
    ⟨0, by omega, by omega, (Gr.refl h).new [], by simp, by simp [aloA, entK], rfl⟩
  rintro mm env h' ⟨k, hk, rfl, gr, nb, om', rfl⟩
  unfold A.lower_lowerer_alone.L0
  by_cases hlt : k < t.rules.length
  · have hlt' : (k : Int) < t.rules.length := by omega
    have hg : (t.rules.map rlV).getD k .undef = rlV t.rules[k] := Enc.getD hlt
    have hw1 : IntKind.i64.wrap ((k : Int) + 1) = ((k + 1 : Nat) : Int) := by rw [wrap_i64 (by omega) (by omega)]; rfl
    have hsu : aloA (t.rules.take (k + 1)) [] = insK (aloA (t.rules.take k) []) t.rules[k].body := by
      unfold aloA; rw [List.take_succ_eq_append_getElem hlt, List.foldl_append]; rfl
    generalize t.rules[k] = r at *
    have hrc : rlC r = [.str r.name, .int .i64 r.body] := rfl
    have n1 : ¬ h.nobj = h'.nobj := by omega
    have q0 : (h'.new (rlC r)).objs h'.nobj = rlC r := by simp
    have q1 : (h'.new (rlC r)).objs h.nobj = entK (aloA (t.rules.take k) []) := by simp [n1, om']
    have q2 : (h'.new (rlC r)).nobj = h'.nobj + 1 := by simp
    have q3 := gr.new (rlC r)
    simp [hlt', hg, rlV, V.cells, V.good, hrc, setAt]
    rw [← hrc]
    generalize h'.new (rlC r) = h2 at *
    simp [q0, hrc, q1]
    refine mupF_entK q1 ?_
    simp [hw1]
    exact ⟨t.rules.length - (k + 1), by omega, iv ⟨k + 1, by omega, rfl, q3.set (by omega) _, by rw [set_nobj]; omega, by rw [set_objs_same, hsu], rfl⟩⟩
  · have hlt' : ¬ (k : Int) < t.rules.length := by omega
    obtain rfl : k = t.rules.length := by omega
    rw [List.take_length] at om'
    have ob' : h'.objs o = .sl 2 0 (t.rules.map rlV) :: .sl 3 0 (t.nodes.map ndV) :: rest := (gr.objs _ ob).trans ho
    simp [hlt', ob']
    refine loopI (n := t.nodes.length) (fun mm env h2 => ∃ k, k ≤ t.nodes.length ∧ mm = t.nodes.length - k ∧ Gr h h2 ∧ h.nobj < h2.nobj ∧ h2.objs h.nobj = entK (aloB t (t.nodes.take k) (aloA t.rules [])) ∧ env = [(0, .ptr o 0), (3, .mapr h.nobj), (29, .sl 3 0 (t.nodes.map ndV)), (30, .int .i64 t.nodes.length), (31, .int .i64 k)]) ?_
      ⟨0, by omega, by omega, gr, nb, by simpa [aloB] using om', rfl⟩
    clear gr nb om' ob' h'
    rintro mm env h' ⟨k, hk, rfl, gr, nb, om', rfl⟩
    unfold A.lower_lowerer_alone.L1
    by_cases hlt : k < t.nodes.length
    · have hlt' : (k : Int) < t.nodes.length := by omega
      have hg : (t.nodes.map ndV).getD k .undef = ndV t.nodes[k] := Enc.getD hlt
      have hw1 : IntKind.i64.wrap ((k : Int) + 1) = ((k + 1 : Nat) : Int) := by rw [wrap_i64 (by omega) (by omega)]; rfl
      have hsu : aloB t (t.nodes.take (k + 1)) (aloA t.rules []) = aloX t t.nodes[k].kind t.nodes[k].kids (aloB t (t.nodes.take k) (aloA t.rules [])) := by
        unfold aloB; rw [List.take_succ_eq_append_getElem hlt, List.foldl_append]; rfl
      have hin := rt.in hlt
      have hkl := rt.kids_len hlt
      generalize t.nodes[k] = x at *
      have hxc : ndC x = [.int .i64 x.kind, .str x.name, .sl 1 0 (ints x.kids)] := rfl
      have n1 : ¬ h.nobj = h'.nobj := by omega
      have q0 : (h'.new (ndC x)).objs h'.nobj = ndC x := by simp
      have q1 : (h'.new (ndC x)).objs h.nobj = entK (aloB t (t.nodes.take k) (aloA t.rules [])) := by simp [n1, om']
      have q2 : (h'.new (ndC x)).nobj = h'.nobj + 1 := by simp
      have q3 := gr.new (ndC x)
      have hil : (ints x.kids).length = x.kids.length := by simp [ints]
      simp [hlt', hg, ndV, V.cells, V.good, hxc, setAt]
      rw [← hxc]
      generalize h'.new (ndC x) = h2 at *
      refine aloneL2 t (o := o) (m := h.nobj) (o7 := h'.nobj) (k31 := k) (v := .str x.name) (h0 := h) (by omega) hin rest q3 (Nat.le_refl _) ((q3.objs _ ob).trans ho) (by rw [q0, hxc]) q1 om (by omega) fun g4 => ?_
      simp [hw1]
      exact ⟨t.nodes.length - (k + 1), by omega, iv ⟨k + 1, by omega, rfl, g4, by rw [set_nobj]; omega, by rw [set_objs_same, hsu], rfl⟩⟩
    · have hlt' : ¬ (k : Int) < t.nodes.length := by omega
      obtain rfl : k = t.nodes.length := by omega
      rw [List.take_length] at om'
      simp [hlt']
      exact hQ h' gr nb om'
end
end Go.Proofs.Ytmobijebjkjnoaa.Al
