/-
  What the law LowerShape needs of this claim's texts (part 3). Conditions: each theorem's own.
-/
import Derived.Test.YtmobijebjkjnoaaAlKeys
import Derived.Test.YtmobijebjkjnoaaAlC
import Derived.Test.YtmobijebjkjnoaaAlA
import Derived.Test.YtmobijebjkjnoaaAlB
import Derived.Test.YtmobijebjkjnoaaSh1LowerShape
import Derived.Test.YtmobijebjkjnoaaSh2LowerShape
namespace Go.Proofs.Ytmobijebjkjnoaa.Al
def A.lower_lowerer_node.L0 : AC := .post (.seq (.reg [⟨(some 47), none, .bin .lss (.t 46) (.t 45)⟩])
  (.keep [0, 1, 6, 44, 45, 46, 47] (.seq (.cond (.t 47) .skip (.exit 1))
  (.keep [0, 1, 6, 44, 45, 46] (.seq (.block 2 (.seq (.reg [⟨(some 48), none, .ia 1 (.t 44) (.t 46)⟩, ⟨(some 49), none, .load false 1 (.t 48)⟩, ⟨(some 10), none, .mv (.t 49)⟩])
  (.keep [0, 1, 6, 10, 44, 45, 46] (.seq (.reg [⟨(some 50), none, .mv (.t 0)⟩, ⟨(some 51), none, .nilchk (.t 50)⟩, ⟨(some 52), none, .fa 0 (.t 51)⟩, ⟨(some 53), none, .fa 1 (.t 52)⟩, ⟨(some 54), none, .load false 1 (.t 53)⟩, ⟨(some 55), none, .mv (.t 10)⟩, ⟨(some 56), none, .ia 3 (.t 54) (.t 55)⟩, ⟨(some 57), none, .fa 0 (.t 56)⟩, ⟨(some 58), none, .load false 1 (.t 57)⟩, ⟨(some 59), none, .bin .eql (.t 58) (.c (.int .i64 (1)))⟩])
  (.keep [0, 1, 6, 10, 44, 45, 46, 59] (.cond (.t 59) (.reg [⟨(some 60), none, .mv (.t 0)⟩, ⟨(some 61), none, .mv (.t 1)⟩, ⟨(some 62), none, .mv (.t 0)⟩, ⟨(some 63), none, .nilchk (.t 62)⟩, ⟨(some 64), none, .fa 0 (.t 63)⟩, ⟨(some 65), none, .fa 1 (.t 64)⟩, ⟨(some 66), none, .load false 1 (.t 65)⟩, ⟨(some 67), none, .mv (.t 10)⟩, ⟨(some 68), none, .ia 3 (.t 66) (.t 67)⟩, ⟨(some 69), none, .fa 2 (.t 68)⟩, ⟨(some 70), none, .load false 1 (.t 69)⟩, ⟨(some 71), none, .mv (.t 6)⟩, ⟨(some 72), none, .call (.c (.fn K.lower_all [] [])) [(.t 70), (.t 71)]⟩, ⟨(some 73), none, .call (.c (.fn K.lower_lowerer_lay [] [])) [(.t 60), (.t 61), (.t 72)]⟩]) (.reg [⟨(some 74), none, .mv (.t 0)⟩, ⟨(some 75), none, .mv (.t 1)⟩, ⟨(some 76), none, .mv (.t 6)⟩, ⟨(some 77), none, .mv (.t 10)⟩, ⟨(some 78), none, .call (.t 76) [(.t 77)]⟩, ⟨(some 79), none, .bsl 2 true [(.bool false), (.int .i64 (0))] 1 [(0, (.t 78))]⟩, ⟨(some 80), none, .call (.c (.fn K.lower_lowerer_lay [] [])) [(.t 74), (.t 75), (.t 79)]⟩])))))))
  (.keep [0, 1, 6, 44, 45, 46] (.reg [⟨(some 81), none, .bin .add (.t 46) (.c (.int .i64 (1)))⟩, ⟨(some 46), none, .mv (.t 81)⟩]))))))) [0, 1, 6, 44, 45, 46]
def A.lower_lowerer_node : AFn := ⟨136, [], (.seq (.reg [⟨(some 11), none, .mv (.t 0)⟩, ⟨(some 12), none, .mkfn K.lower_lowerer_symbol [(.t 11)] []⟩, ⟨(some 6), none, .mv (.t 12)⟩])
  (.keep [0, 1, 2, 6] (.seq (.reg [⟨(some 13), none, .mv (.t 0)⟩, ⟨(some 14), none, .nilchk (.t 13)⟩, ⟨(some 15), none, .fa 0 (.t 14)⟩, ⟨(some 16), none, .fa 1 (.t 15)⟩, ⟨(some 17), none, .load false 1 (.t 16)⟩, ⟨(some 18), none, .mv (.t 2)⟩, ⟨(some 19), none, .ia 3 (.t 17) (.t 18)⟩, ⟨(some 20), none, .load true 3 (.t 19)⟩, ⟨(some 7), none, .alloc [(.int .i64 (0)), (.str []), (.sl 0 1 [])]⟩, ⟨none, none, .store 3 (.t 7) (.t 20)⟩])
  (.keep [0, 1, 2, 6, 7] (.seq (.reg [⟨(some 21), none, .mv (.t 1)⟩, ⟨(some 22), none, .bld [(.bool false), (.int .i64 (0))] [(0, 1, (.c (.bool true))), (1, 1, (.t 21))]⟩, ⟨(some 8), none, .alloc [(.bool false), (.int .i64 (0))]⟩, ⟨none, none, .store 2 (.t 8) (.t 22)⟩])
  (.keep [0, 1, 2, 6, 7, 8] (.seq (.reg [⟨(some 23), none, .fa 0 (.t 7)⟩, ⟨(some 24), none, .load false 1 (.t 23)⟩])
  (.keep [0, 1, 2, 6, 7, 8, 24] (.block 0 (.seq (.reg [⟨(some 33), none, .bin .eql (.t 24) (.c (.int .i64 (1)))⟩, ⟨(some 32), none, .mv (.t 33)⟩])
  (.keep [0, 1, 2, 6, 7, 8, 24, 32] (.cond (.t 32) (.reg [⟨(some 34), none, .mv (.t 0)⟩, ⟨(some 35), none, .mv (.t 1)⟩, ⟨(some 36), none, .fa 2 (.t 7)⟩, ⟨(some 37), none, .load false 1 (.t 36)⟩, ⟨(some 38), none, .mv (.t 6)⟩, ⟨(some 39), none, .call (.c (.fn K.lower_all [] [])) [(.t 37), (.t 38)]⟩, ⟨(some 40), none, .call (.c (.fn K.lower_lowerer_lay [] [])) [(.t 34), (.t 35), (.t 39)]⟩]) (.seq (.reg [⟨(some 42), none, .bin .eql (.t 24) (.c (.int .i64 (2)))⟩, ⟨(some 41), none, .mv (.t 42)⟩])
  (.keep [0, 1, 2, 6, 7, 8, 24, 41] (.cond (.t 41) (.seq (.reg [⟨(some 43), none, .fa 2 (.t 7)⟩, ⟨(some 44), none, .load false 1 (.t 43)⟩, ⟨(some 45), none, .len false (.t 44)⟩, ⟨(some 46), none, .mv (.c (.int .i64 (0)))⟩])
  (.keep [0, 1, 6, 44, 45, 46] (.block 1 (.loop A.lower_lowerer_node.L0)))) (.seq (.reg [⟨(some 83), none, .bin .eql (.t 24) (.c (.int .i64 (3)))⟩, ⟨(some 82), none, .mv (.t 83)⟩])
  (.keep [0, 1, 2, 6, 7, 8, 24, 82] (.cond (.t 82) (.seq (.draw [(.pl, ⟨(some 84), none, .mv (.t 0)⟩), (.pl, ⟨(some 85), none, .mv (.t 1)⟩), (.pl, ⟨(some 86), none, .mv (.t 6)⟩), (.pl, ⟨(some 87), none, .fa 2 (.t 7)⟩), (.pl, ⟨(some 88), none, .load false 1 (.t 87)⟩), (.pl, ⟨(some 89), none, .ia 1 (.t 88) (.c (.int .i64 (0)))⟩), (.pl, ⟨(some 90), none, .load false 1 (.t 89)⟩), (.pl, ⟨(some 91), none, .call (.t 86) [(.t 90)]⟩), (.pl, ⟨(some 92), none, .load true 2 (.t 8)⟩), (.pl, ⟨(some 93), none, .bsl 2 true [(.bool false), (.int .i64 (0))] 2 [(0, (.t 91)), (1, (.t 92))]⟩), (.eff, ⟨(some 94), none, .call (.c (.fn K.lower_lowerer_lay [] [])) [(.t 84), (.t 85), (.t 93)]⟩)])
  (.keep [0, 1] (.reg [⟨(some 95), none, .mv (.t 0)⟩, ⟨(some 96), none, .mv (.t 1)⟩, ⟨(some 97), none, .call (.c (.fn K.lower_lowerer_lay [] [])) [(.t 95), (.t 96), (.c (.sl 0 1 []))]⟩]))) (.seq (.reg [⟨(some 99), none, .bin .eql (.t 24) (.c (.int .i64 (4)))⟩, ⟨(some 98), none, .mv (.t 99)⟩])
  (.keep [0, 1, 2, 6, 7, 8, 24, 98] (.cond (.t 98) (.seq (.draw [(.pl, ⟨(some 100), none, .mv (.t 0)⟩), (.pl, ⟨(some 101), none, .mv (.t 1)⟩), (.pl, ⟨(some 102), none, .mv (.t 6)⟩), (.pl, ⟨(some 103), none, .fa 2 (.t 7)⟩), (.pl, ⟨(some 104), none, .load false 1 (.t 103)⟩), (.pl, ⟨(some 105), none, .ia 1 (.t 104) (.c (.int .i64 (0)))⟩), (.pl, ⟨(some 106), none, .load false 1 (.t 105)⟩), (.pl, ⟨(some 107), none, .call (.t 102) [(.t 106)]⟩), (.pl, ⟨(some 108), none, .load true 2 (.t 8)⟩), (.pl, ⟨(some 109), none, .bsl 2 true [(.bool false), (.int .i64 (0))] 2 [(0, (.t 107)), (1, (.t 108))]⟩), (.eff, ⟨(some 110), none, .call (.c (.fn K.lower_lowerer_lay [] [])) [(.t 100), (.t 101), (.t 109)]⟩)])
  (.keep [0, 1, 6, 7] (.reg [⟨(some 111), none, .mv (.t 0)⟩, ⟨(some 112), none, .mv (.t 1)⟩, ⟨(some 113), none, .mv (.t 6)⟩, ⟨(some 114), none, .fa 2 (.t 7)⟩, ⟨(some 115), none, .load false 1 (.t 114)⟩, ⟨(some 116), none, .ia 1 (.t 115) (.c (.int .i64 (0)))⟩, ⟨(some 117), none, .load false 1 (.t 116)⟩, ⟨(some 118), none, .call (.t 113) [(.t 117)]⟩, ⟨(some 119), none, .bsl 2 true [(.bool false), (.int .i64 (0))] 1 [(0, (.t 118))]⟩, ⟨(some 120), none, .call (.c (.fn K.lower_lowerer_lay [] [])) [(.t 111), (.t 112), (.t 119)]⟩]))) (.seq (.reg [⟨(some 122), none, .bin .eql (.t 24) (.c (.int .i64 (5)))⟩, ⟨(some 121), none, .mv (.t 122)⟩])
  (.keep [0, 1, 2, 6, 7, 121] (.cond (.t 121) (.seq (.reg [⟨(some 123), none, .mv (.t 0)⟩, ⟨(some 124), none, .mv (.t 1)⟩, ⟨(some 125), none, .mv (.t 6)⟩, ⟨(some 126), none, .fa 2 (.t 7)⟩, ⟨(some 127), none, .load false 1 (.t 126)⟩, ⟨(some 128), none, .ia 1 (.t 127) (.c (.int .i64 (0)))⟩, ⟨(some 129), none, .load false 1 (.t 128)⟩, ⟨(some 130), none, .call (.t 125) [(.t 129)]⟩, ⟨(some 131), none, .bsl 2 true [(.bool false), (.int .i64 (0))] 1 [(0, (.t 130))]⟩, ⟨(some 132), none, .call (.c (.fn K.lower_lowerer_lay [] [])) [(.t 123), (.t 124), (.t 131)]⟩])
  (.keep [0, 1] (.reg [⟨(some 133), none, .mv (.t 0)⟩, ⟨(some 134), none, .mv (.t 1)⟩, ⟨(some 135), none, .call (.c (.fn K.lower_lowerer_lay [] [])) [(.t 133), (.t 134), (.c (.sl 0 1 []))]⟩]))) (.reg [⟨(some 25), none, .mv (.t 0)⟩, ⟨(some 26), none, .mv (.t 1)⟩, ⟨(some 27), none, .mv (.t 6)⟩, ⟨(some 28), none, .mv (.t 2)⟩, ⟨(some 29), none, .call (.t 27) [(.t 28)]⟩, ⟨(some 30), none, .bsl 2 true [(.bool false), (.int .i64 (0))] 1 [(0, (.t 29))]⟩, ⟨(some 31), none, .call (.c (.fn K.lower_lowerer_lay [] [])) [(.t 25), (.t 26), (.t 30)]⟩])))))))))))))))))))))))))⟩
def A.lower_lowerer_lay : AFn := ⟨18, [], (.reg [⟨(some 6), none, .mv (.t 0)⟩, ⟨(some 7), none, .mv (.t 0)⟩, ⟨(some 8), none, .nilchk (.t 7)⟩, ⟨(some 9), none, .fa 6 (.t 8)⟩, ⟨(some 10), none, .load false 1 (.t 9)⟩, ⟨(some 11), none, .mv (.t 1)⟩, ⟨(some 12), none, .mv (.t 2)⟩, ⟨(some 13), none, .bld [(.int .i64 (0)), (.sl 0 1 [])] [(0, 1, (.t 11)), (1, 1, (.t 12))]⟩, ⟨(some 14), none, .bsl 2 true [(.int .i64 (0)), (.sl 0 1 [])] 1 [(0, (.t 13))]⟩, ⟨(some 15), none, .app 2 32 (.t 10) (.t 14)⟩, ⟨(some 16), none, .nilchk (.t 6)⟩, ⟨(some 17), none, .fa 6 (.t 16)⟩, ⟨none, none, .store 1 (.t 17) (.t 15)⟩])⟩
def A.lower_all.L0 : AC := .post (.seq (.reg [⟨(some 11), none, .bin .lss (.t 10) (.t 9)⟩])
  (.keep [1, 5, 8, 9, 10, 11] (.seq (.cond (.t 11) .skip (.exit 0))
  (.keep [1, 5, 8, 9, 10] (.seq (.block 1 (.seq (.reg [⟨(some 12), none, .ia 1 (.t 8) (.t 10)⟩, ⟨(some 13), none, .load false 1 (.t 12)⟩, ⟨(some 7), none, .mv (.t 13)⟩])
  (.keep [1, 5, 7, 8, 9, 10] (.reg [⟨(some 14), none, .mv (.t 5)⟩, ⟨(some 15), none, .mv (.t 1)⟩, ⟨(some 16), none, .mv (.t 7)⟩, ⟨(some 17), none, .call (.t 15) [(.t 16)]⟩, ⟨(some 18), none, .bsl 2 true [(.bool false), (.int .i64 (0))] 1 [(0, (.t 17))]⟩, ⟨(some 19), none, .app 2 16 (.t 14) (.t 18)⟩, ⟨(some 5), none, .mv (.t 19)⟩]))))
  (.keep [1, 5, 8, 9, 10] (.reg [⟨(some 20), none, .bin .add (.t 10) (.c (.int .i64 (1)))⟩, ⟨(some 10), none, .mv (.t 20)⟩]))))))) [1, 5, 8, 9, 10]
def A.lower_all : AFn := ⟨22, [(4, none)], (.seq (.reg [⟨(some 4), none, .mv (.c (.sl 0 1 []))⟩])
  (.keep [0, 1] (.seq (.reg [⟨(some 5), none, .mv (.c (.sl 0 1 []))⟩])
  (.keep [0, 1, 5] (.seq (.seq (.reg [⟨(some 8), none, .mv (.t 0)⟩, ⟨(some 9), none, .len false (.t 8)⟩, ⟨(some 10), none, .mv (.c (.int .i64 (0)))⟩])
  (.keep [1, 5, 8, 9, 10] (.block 0 (.loop A.lower_all.L0))))
  (.keep [5] (.seq (.reg [⟨(some 21), none, .mv (.t 5)⟩, ⟨(some 4), none, .mv (.t 21)⟩]) .ret)))))))⟩
def A.lower_Lower.L0 : AC := .post (.seq (.reg [⟨(some 28), none, .bin .lss (.t 27) (.t 26)⟩])
  (.keep [1, 2, 5, 25, 26, 27, 28] (.seq (.cond (.t 28) .skip (.exit 0))
  (.keep [1, 2, 5, 25, 26, 27] (.seq (.block 1 (.seq (.reg [⟨(some 29), none, .mv (.t 27)⟩, ⟨(some 30), none, .ia 2 (.t 25) (.t 27)⟩, ⟨(some 31), none, .load true 2 (.t 30)⟩, ⟨(some 7), none, .alloc [(.str []), (.int .i64 (0))]⟩, ⟨(some 6), none, .mv (.t 29)⟩, ⟨none, none, .store 2 (.t 7) (.t 31)⟩])
  (.keep [1, 2, 5, 6, 7, 25, 26, 27] (.reg [⟨(some 32), none, .mv (.t 5)⟩, ⟨(some 33), none, .mv (.t 6)⟩, ⟨(some 34), none, .fa 1 (.t 7)⟩, ⟨(some 35), none, .load false 1 (.t 34)⟩, ⟨(some 36), none, .call (.c (.fn K.lower_lowerer_node [] [])) [(.t 32), (.t 33), (.t 35)]⟩]))))
  (.keep [1, 2, 5, 25, 26, 27] (.reg [⟨(some 37), none, .bin .add (.t 27) (.c (.int .i64 (1)))⟩, ⟨(some 27), none, .mv (.t 37)⟩]))))))) [1, 2, 5, 25, 26, 27]
def A.lower_Lower.L1 : AC := .post (.seq (.reg [⟨(some 42), none, .bin .lss (.t 41) (.t 40)⟩])
  (.keep [1, 2, 5, 40, 41, 42] (.seq (.cond (.t 42) .skip (.exit 2))
  (.keep [1, 2, 5, 40, 41] (.seq (.block 3 (.seq (.reg [⟨(some 43), none, .mv (.t 41)⟩, ⟨(some 8), none, .mv (.t 43)⟩])
  (.keep [1, 2, 5, 8, 40, 41] (.seq (.reg [⟨(some 45), none, .mv (.t 5)⟩, ⟨(some 46), none, .nilchk (.t 45)⟩, ⟨(some 47), none, .fa 5 (.t 46)⟩, ⟨(some 48), none, .load false 1 (.t 47)⟩, ⟨(some 49), none, .mv (.t 8)⟩, ⟨(some 50), none, .lkp .i (.int .i64 (0)) true (.t 48) (.t 49)⟩, ⟨(some 44), none, .mv (.t 50)⟩, ⟨(some 51), none, .ext (.t 44) 0⟩, ⟨(some 52), none, .ext (.t 44) 1⟩, ⟨(some 9), none, .mv (.t 51)⟩, ⟨(some 10), none, .mv (.t 52)⟩])
  (.keep [1, 2, 5, 8, 9, 10, 40, 41] (.seq (.reg [⟨(some 53), none, .mv (.t 10)⟩])
  (.keep [1, 2, 5, 8, 9, 40, 41, 53] (.cond (.t 53) (.reg [⟨(some 54), none, .mv (.t 5)⟩, ⟨(some 55), none, .mv (.t 9)⟩, ⟨(some 56), none, .mv (.t 8)⟩, ⟨(some 57), none, .call (.c (.fn K.lower_lowerer_node [] [])) [(.t 54), (.t 55), (.t 56)]⟩]) .skip))))))))
  (.keep [1, 2, 5, 40, 41] (.reg [⟨(some 58), none, .bin .add (.t 41) (.c (.int .i64 (1)))⟩, ⟨(some 41), none, .mv (.t 58)⟩]))))))) [1, 2, 5, 40, 41]
def A.lower_Lower : AFn := ⟨87, [(2, (some (true, 4))), (3, none), (4, none)], (.seq (.reg [⟨(some 1), none, .box (.t 0)⟩, ⟨(some 2), none, .alloc [(.int .i64 (0)), (.int .i64 (0)), (.int .i64 (0)), (.sl 0 1 [])]⟩, ⟨(some 3), none, .mv (.c (.sl 0 1 []))⟩, ⟨(some 4), none, .mv (.c (.int .i64 (0)))⟩])
  (.keep [1, 2] (.seq (.seq (.reg [⟨(some 12), none, .load true 2 (.t 1)⟩, ⟨(some 13), none, .call (.c (.fn K.rules_Right [] [])) [(.t 12)]⟩, ⟨(some 14), none, .un .not (.t 13)⟩])
  (.keep [1, 2, 14] (.cond (.t 14) (.seq (.reg [⟨(some 15), none, .bld [(.int .i64 (0)), (.int .i64 (0)), (.int .i64 (0)), (.sl 0 1 [])] []⟩, ⟨none, none, .store 4 (.t 2) (.t 15)⟩, ⟨(some 3), none, .mv (.c (.sl 0 1 []))⟩, ⟨(some 4), none, .mv (.c (.int .i64 (1)))⟩]) .ret) .skip)))
  (.keep [1, 2] (.seq (.reg [⟨(some 16), none, .load true 2 (.t 1)⟩, ⟨(some 17), none, .mkm⟩, ⟨(some 18), none, .mkm⟩, ⟨(some 19), none, .mkm⟩, ⟨(some 20), none, .bld [(.sl 0 1 []), (.sl 0 1 []), (.sl 0 1 []), .mapn, .mapn, .mapn, (.sl 0 1 [])] [(0, 2, (.t 16)), (3, 1, (.t 17)), (4, 1, (.t 18)), (5, 1, (.t 19))]⟩, ⟨(some 21), none, .box (.t 20)⟩, ⟨(some 5), none, .mv (.t 21)⟩])
  (.keep [1, 2, 5] (.seq (.reg [⟨(some 22), none, .mv (.t 5)⟩, ⟨(some 23), none, .call (.c (.fn K.lower_lowerer_number [] [])) [(.t 22)]⟩])
  (.keep [1, 2, 5] (.seq (.seq (.reg [⟨(some 24), none, .fa 0 (.t 1)⟩, ⟨(some 25), none, .load false 1 (.t 24)⟩, ⟨(some 26), none, .len false (.t 25)⟩, ⟨(some 27), none, .mv (.c (.int .i64 (0)))⟩])
  (.keep [1, 2, 5, 25, 26, 27] (.block 0 (.loop A.lower_Lower.L0))))
  (.keep [1, 2, 5] (.seq (.seq (.reg [⟨(some 38), none, .fa 1 (.t 1)⟩, ⟨(some 39), none, .load false 1 (.t 38)⟩, ⟨(some 40), none, .len false (.t 39)⟩, ⟨(some 41), none, .mv (.c (.int .i64 (0)))⟩])
  (.keep [1, 2, 5, 40, 41] (.block 2 (.loop A.lower_Lower.L1))))
  (.keep [1, 2, 5] (.seq (.draw [(.pl, ⟨(some 59), none, .mv (.t 5)⟩), (.pl, ⟨(some 60), none, .nilchk (.t 59)⟩), (.pl, ⟨(some 61), none, .fa 2 (.t 60)⟩), (.fl, ⟨(some 62), none, .load false 1 (.t 61)⟩), (.pl, ⟨(some 63), none, .len false (.t 62)⟩), (.pl, ⟨(some 64), none, .fa 0 (.t 1)⟩), (.fl, ⟨(some 65), none, .load false 1 (.t 64)⟩), (.pl, ⟨(some 66), none, .len false (.t 65)⟩), (.pl, ⟨(some 67), none, .mv (.t 5)⟩), (.pl, ⟨(some 68), none, .nilchk (.t 67)⟩), (.pl, ⟨(some 69), none, .fa 5 (.t 68)⟩), (.fl, ⟨(some 70), none, .load false 1 (.t 69)⟩), (.fl, ⟨(some 71), none, .mlen (.t 70)⟩), (.pl, ⟨(some 72), none, .bin .add (.t 66) (.t 71)⟩), (.pl, ⟨(some 73), none, .mv (.t 5)⟩), (.pl, ⟨(some 74), none, .nilchk (.t 73)⟩), (.pl, ⟨(some 75), none, .fa 6 (.t 74)⟩), (.fl, ⟨(some 76), none, .load false 1 (.t 75)⟩), (.pl, ⟨(some 77), none, .bld [(.int .i64 (0)), (.int .i64 (0)), (.int .i64 (0)), (.sl 0 1 [])] [(0, 1, (.t 63)), (1, 1, (.t 72)), (3, 1, (.t 76))]⟩), (.eff, ⟨(some 11), none, .alloc [(.int .i64 (0)), (.int .i64 (0)), (.int .i64 (0)), (.sl 0 1 [])]⟩), (.efo, ⟨none, none, .store 4 (.t 11) (.t 77)⟩)])
  (.keep [2, 5, 11] (.seq (.seq (.reg [⟨(some 78), none, .load true 4 (.t 11)⟩, ⟨(some 79), none, .call (.c (.fn K.gram_Right [] [])) [(.t 78)]⟩, ⟨(some 80), none, .un .not (.t 79)⟩])
  (.keep [2, 5, 11, 80] (.cond (.t 80) (.seq (.reg [⟨(some 81), none, .bld [(.int .i64 (0)), (.int .i64 (0)), (.int .i64 (0)), (.sl 0 1 [])] []⟩, ⟨none, none, .store 4 (.t 2) (.t 81)⟩, ⟨(some 3), none, .mv (.c (.sl 0 1 []))⟩, ⟨(some 4), none, .mv (.c (.int .i64 (5)))⟩]) .ret) .skip)))
  (.keep [2, 5, 11] (.seq (.draw [(.pl, ⟨(some 82), none, .load true 4 (.t 11)⟩), (.pl, ⟨(some 83), none, .mv (.t 5)⟩), (.pl, ⟨(some 84), none, .nilchk (.t 83)⟩), (.pl, ⟨(some 85), none, .fa 2 (.t 84)⟩), (.fl, ⟨(some 86), none, .load false 1 (.t 85)⟩), (.eff, ⟨none, none, .store 4 (.t 2) (.t 82)⟩), (.pl, ⟨(some 3), none, .mv (.t 86)⟩), (.pl, ⟨(some 4), none, .mv (.c (.int .i64 (0)))⟩)]) .ret)))))))))))))))))⟩
def A.lower_lowerer_number.L0 : AC := .post (.seq (.reg [⟨(some 15), none, .bin .lss (.t 14) (.t 13)⟩])
  (.keep [0, 12, 13, 14, 15] (.seq (.cond (.t 15) .skip (.exit 0))
  (.keep [0, 12, 13, 14] (.seq (.block 1 (.seq (.reg [⟨(some 16), none, .mv (.t 14)⟩, ⟨(some 17), none, .ia 2 (.t 12) (.t 14)⟩, ⟨(some 18), none, .load true 2 (.t 17)⟩, ⟨(some 3), none, .alloc [(.str []), (.int .i64 (0))]⟩, ⟨(some 2), none, .mv (.t 16)⟩, ⟨none, none, .store 2 (.t 3) (.t 18)⟩])
  (.keep [0, 2, 3, 12, 13, 14] (.draw [(.pl, ⟨(some 19), none, .mv (.t 0)⟩), (.pl, ⟨(some 20), none, .nilchk (.t 19)⟩), (.pl, ⟨(some 21), none, .fa 4 (.t 20)⟩), (.pl, ⟨(some 22), none, .load false 1 (.t 21)⟩), (.pl, ⟨(some 23), none, .fa 0 (.t 3)⟩), (.pl, ⟨(some 24), none, .load false 1 (.t 23)⟩), (.pl, ⟨(some 25), none, .mv (.t 2)⟩), (.eff, ⟨none, none, .mupd .s (.t 22) (.t 24) (.t 25)⟩)]))))
  (.keep [0, 12, 13, 14] (.reg [⟨(some 26), none, .bin .add (.t 14) (.c (.int .i64 (1)))⟩, ⟨(some 14), none, .mv (.t 26)⟩]))))))) [0, 12, 13, 14]
def A.lower_lowerer_number.L1 : AC := .post (.seq (.reg [⟨(some 42), none, .bin .lss (.t 41) (.t 40)⟩])
  (.keep [0, 4, 5, 39, 40, 41, 42] (.seq (.cond (.t 42) .skip (.exit 2))
  (.keep [0, 4, 5, 39, 40, 41] (.seq (.block 3 (.seq (.reg [⟨(some 43), none, .mv (.t 41)⟩, ⟨(some 44), none, .ia 3 (.t 39) (.t 41)⟩, ⟨(some 45), none, .load true 3 (.t 44)⟩, ⟨(some 7), none, .alloc [(.int .i64 (0)), (.str []), (.sl 0 1 [])]⟩, ⟨(some 6), none, .mv (.t 43)⟩, ⟨none, none, .store 3 (.t 7) (.t 45)⟩])
  (.keep [0, 4, 5, 6, 7, 39, 40, 41] (.block 4 (.seq (.reg [⟨(some 47), none, .fa 0 (.t 7)⟩, ⟨(some 48), none, .load false 1 (.t 47)⟩, ⟨(some 49), none, .bin .eql (.t 48) (.c (.int .i64 (7)))⟩, ⟨(some 46), none, .mv (.t 49)⟩])
  (.keep [0, 4, 5, 6, 7, 39, 40, 41, 46] (.cond (.t 46) (.reg [⟨(some 50), none, .mv (.t 0)⟩, ⟨(some 51), none, .fa 1 (.t 7)⟩, ⟨(some 52), none, .load false 1 (.t 51)⟩, ⟨(some 53), none, .call (.c (.fn K.lower_lowerer_term [] [])) [(.t 50), (.t 52)]⟩]) (.seq (.reg [⟨(some 55), none, .fa 0 (.t 7)⟩, ⟨(some 56), none, .load false 1 (.t 55)⟩, ⟨(some 57), none, .bin .neq (.t 56) (.c (.int .i64 (6)))⟩, ⟨(some 58), none, .mv (.t 57)⟩, ⟨(some 59), (some (58, true)), .mv (.t 4)⟩, ⟨(some 60), (some (58, true)), .mv (.t 6)⟩, ⟨(some 61), (some (58, true)), .lkp .i (.int .i64 (0)) false (.t 59) (.t 60)⟩, ⟨(some 62), (some (58, true)), .bin .eql (.t 61) (.c (.int .i64 (0)))⟩, ⟨(some 63), none, .pick (.t 58) (.t 62) (.c (.bool false))⟩, ⟨(some 54), none, .mv (.t 63)⟩])
  (.keep [0, 4, 5, 6, 39, 40, 41, 54] (.cond (.t 54) (.seq (.reg [⟨(some 64), none, .mv (.t 0)⟩, ⟨(some 65), none, .nilchk (.t 64)⟩, ⟨(some 66), none, .fa 5 (.t 65)⟩, ⟨(some 67), none, .load false 1 (.t 66)⟩, ⟨(some 68), none, .mv (.t 6)⟩, ⟨(some 69), none, .mv (.t 5)⟩, ⟨none, none, .mupd .i (.t 67) (.t 68) (.t 69)⟩])
  (.keep [0, 4, 5, 39, 40, 41] (.reg [⟨(some 70), none, .mv (.t 5)⟩, ⟨(some 71), none, .bin .add (.t 70) (.c (.int .i64 (1)))⟩, ⟨(some 5), none, .mv (.t 71)⟩]))) .skip))))))))))
  (.keep [0, 4, 5, 39, 40, 41] (.reg [⟨(some 72), none, .bin .add (.t 41) (.c (.int .i64 (1)))⟩, ⟨(some 41), none, .mv (.t 72)⟩]))))))) [0, 4, 5, 39, 40, 41]
def A.lower_lowerer_number : AFn := ⟨73, [], (.seq (.seq (.reg [⟨(some 8), none, .mv (.t 0)⟩, ⟨(some 9), none, .nilchk (.t 8)⟩, ⟨(some 10), none, .fa 0 (.t 9)⟩, ⟨(some 11), none, .fa 0 (.t 10)⟩, ⟨(some 12), none, .load false 1 (.t 11)⟩, ⟨(some 13), none, .len false (.t 12)⟩, ⟨(some 14), none, .mv (.c (.int .i64 (0)))⟩])
  (.keep [0, 12, 13, 14] (.block 0 (.loop A.lower_lowerer_number.L0))))
  (.keep [0] (.seq (.reg [⟨(some 27), none, .mv (.t 0)⟩, ⟨(some 28), none, .call (.c (.fn K.lower_lowerer_alone [] [])) [(.t 27)]⟩, ⟨(some 4), none, .mv (.t 28)⟩])
  (.keep [0, 4] (.seq (.reg [⟨(some 29), none, .mv (.t 0)⟩, ⟨(some 30), none, .nilchk (.t 29)⟩, ⟨(some 31), none, .fa 0 (.t 30)⟩, ⟨(some 32), none, .fa 0 (.t 31)⟩, ⟨(some 33), none, .load false 1 (.t 32)⟩, ⟨(some 34), none, .len false (.t 33)⟩, ⟨(some 5), none, .mv (.t 34)⟩])
  (.keep [0, 4, 5] (.seq (.reg [⟨(some 35), none, .mv (.t 0)⟩, ⟨(some 36), none, .nilchk (.t 35)⟩, ⟨(some 37), none, .fa 0 (.t 36)⟩, ⟨(some 38), none, .fa 1 (.t 37)⟩, ⟨(some 39), none, .load false 1 (.t 38)⟩, ⟨(some 40), none, .len false (.t 39)⟩, ⟨(some 41), none, .mv (.c (.int .i64 (0)))⟩])
  (.keep [0, 4, 5, 39, 40, 41] (.block 2 (.loop A.lower_lowerer_number.L1))))))))))⟩
def A.lower_lowerer_alone.L0 : AC := .post (.seq (.reg [⟨(some 18), none, .bin .lss (.t 17) (.t 16)⟩])
  (.keep [0, 3, 15, 16, 17, 18] (.seq (.cond (.t 18) .skip (.exit 0))
  (.keep [0, 3, 15, 16, 17] (.seq (.block 1 (.seq (.reg [⟨(some 19), none, .ia 2 (.t 15) (.t 17)⟩, ⟨(some 20), none, .load true 2 (.t 19)⟩, ⟨(some 5), none, .alloc [(.str []), (.int .i64 (0))]⟩, ⟨none, none, .store 2 (.t 5) (.t 20)⟩])
  (.keep [0, 3, 5, 15, 16, 17] (.reg [⟨(some 21), none, .mv (.t 3)⟩, ⟨(some 22), none, .fa 1 (.t 5)⟩, ⟨(some 23), none, .load false 1 (.t 22)⟩, ⟨none, none, .mupd .i (.t 21) (.t 23) (.c (.int .i64 (1)))⟩]))))
  (.keep [0, 3, 15, 16, 17] (.reg [⟨(some 24), none, .bin .add (.t 17) (.c (.int .i64 (1)))⟩, ⟨(some 17), none, .mv (.t 24)⟩]))))))) [0, 3, 15, 16, 17]
def A.lower_lowerer_alone.L2 : AC := .post (.seq (.reg [⟨(some 39), none, .bin .lss (.t 38) (.t 37)⟩])
  (.keep [0, 3, 7, 29, 30, 31, 36, 37, 38, 39] (.seq (.cond (.t 39) .skip (.exit 4))
  (.keep [0, 3, 7, 29, 30, 31, 36, 37, 38] (.seq (.block 5 (.seq (.reg [⟨(some 40), none, .ia 1 (.t 36) (.t 38)⟩, ⟨(some 41), none, .load false 1 (.t 40)⟩, ⟨(some 9), none, .mv (.t 41)⟩])
  (.keep [0, 3, 7, 9, 29, 30, 31, 36, 37, 38] (.seq (.reg [⟨(some 42), none, .fa 0 (.t 7)⟩, ⟨(some 43), none, .load false 1 (.t 42)⟩, ⟨(some 44), none, .bin .eql (.t 43) (.c (.int .i64 (2)))⟩, ⟨(some 45), none, .mv (.t 44)⟩, ⟨(some 46), (some (45, true)), .mv (.t 0)⟩, ⟨(some 47), (some (45, true)), .nilchk (.t 46)⟩, ⟨(some 48), (some (45, true)), .fa 0 (.t 47)⟩, ⟨(some 49), (some (45, true)), .fa 1 (.t 48)⟩, ⟨(some 50), (some (45, true)), .load false 1 (.t 49)⟩, ⟨(some 51), (some (45, true)), .mv (.t 9)⟩, ⟨(some 52), (some (45, true)), .ia 3 (.t 50) (.t 51)⟩, ⟨(some 53), (some (45, true)), .fa 0 (.t 52)⟩, ⟨(some 54), (some (45, true)), .load false 1 (.t 53)⟩, ⟨(some 55), (some (45, true)), .bin .eql (.t 54) (.c (.int .i64 (1)))⟩, ⟨(some 56), none, .pick (.t 45) (.t 55) (.c (.bool false))⟩])
  (.keep [0, 3, 7, 9, 29, 30, 31, 36, 37, 38, 56] (.cond (.t 56) (.reg [⟨(some 57), none, .mv (.t 3)⟩, ⟨(some 58), none, .mv (.t 9)⟩, ⟨none, none, .mupd .i (.t 57) (.t 58) (.c (.int .i64 (1)))⟩]) .skip))))))
  (.keep [0, 3, 7, 29, 30, 31, 36, 37, 38] (.reg [⟨(some 59), none, .bin .add (.t 38) (.c (.int .i64 (1)))⟩, ⟨(some 38), none, .mv (.t 59)⟩]))))))) [0, 3, 7, 29, 30, 31, 36, 37, 38]
def A.lower_lowerer_alone.L1 : AC := .post (.seq (.reg [⟨(some 32), none, .bin .lss (.t 31) (.t 30)⟩])
  (.keep [0, 3, 29, 30, 31, 32] (.seq (.cond (.t 32) .skip (.exit 2))
  (.keep [0, 3, 29, 30, 31] (.seq (.block 3 (.seq (.reg [⟨(some 33), none, .ia 3 (.t 29) (.t 31)⟩, ⟨(some 34), none, .load true 3 (.t 33)⟩, ⟨(some 7), none, .alloc [(.int .i64 (0)), (.str []), (.sl 0 1 [])]⟩, ⟨none, none, .store 3 (.t 7) (.t 34)⟩])
  (.keep [0, 3, 7, 29, 30, 31] (.seq (.reg [⟨(some 35), none, .fa 2 (.t 7)⟩, ⟨(some 36), none, .load false 1 (.t 35)⟩, ⟨(some 37), none, .len false (.t 36)⟩, ⟨(some 38), none, .mv (.c (.int .i64 (0)))⟩])
  (.keep [0, 3, 7, 29, 30, 31, 36, 37, 38] (.block 4 (.loop A.lower_lowerer_alone.L2)))))))
  (.keep [0, 3, 29, 30, 31] (.reg [⟨(some 60), none, .bin .add (.t 31) (.c (.int .i64 (1)))⟩, ⟨(some 31), none, .mv (.t 60)⟩]))))))) [0, 3, 29, 30, 31]
def A.lower_lowerer_alone : AFn := ⟨62, [(2, none)], (.seq (.reg [⟨(some 2), none, .mv (.c .mapn)⟩])
  (.keep [0] (.seq (.reg [⟨(some 10), none, .mkm⟩, ⟨(some 3), none, .mv (.t 10)⟩])
  (.keep [0, 3] (.seq (.seq (.reg [⟨(some 11), none, .mv (.t 0)⟩, ⟨(some 12), none, .nilchk (.t 11)⟩, ⟨(some 13), none, .fa 0 (.t 12)⟩, ⟨(some 14), none, .fa 0 (.t 13)⟩, ⟨(some 15), none, .load false 1 (.t 14)⟩, ⟨(some 16), none, .len false (.t 15)⟩, ⟨(some 17), none, .mv (.c (.int .i64 (0)))⟩])
  (.keep [0, 3, 15, 16, 17] (.block 0 (.loop A.lower_lowerer_alone.L0))))
  (.keep [0, 3] (.seq (.seq (.reg [⟨(some 25), none, .mv (.t 0)⟩, ⟨(some 26), none, .nilchk (.t 25)⟩, ⟨(some 27), none, .fa 0 (.t 26)⟩, ⟨(some 28), none, .fa 1 (.t 27)⟩, ⟨(some 29), none, .load false 1 (.t 28)⟩, ⟨(some 30), none, .len false (.t 29)⟩, ⟨(some 31), none, .mv (.c (.int .i64 (0)))⟩])
  (.keep [0, 3, 29, 30, 31] (.block 2 (.loop A.lower_lowerer_alone.L1))))
  (.keep [3] (.seq (.reg [⟨(some 61), none, .mv (.t 3)⟩, ⟨(some 2), none, .mv (.t 61)⟩]) .ret)))))))))⟩
def A.lower_lowerer_term : AFn := ⟨37, [], (.seq (.reg [⟨(some 7), none, .mv (.t 0)⟩, ⟨(some 8), none, .nilchk (.t 7)⟩, ⟨(some 9), none, .fa 3 (.t 8)⟩, ⟨(some 10), none, .load false 1 (.t 9)⟩, ⟨(some 11), none, .mv (.t 1)⟩, ⟨(some 12), none, .lkp .s (.int .i64 (0)) true (.t 10) (.t 11)⟩, ⟨(some 6), none, .mv (.t 12)⟩, ⟨(some 13), none, .ext (.t 6) 0⟩, ⟨(some 14), none, .ext (.t 6) 1⟩, ⟨(some 4), none, .mv (.t 13)⟩, ⟨(some 5), none, .mv (.t 14)⟩])
  (.keep [0, 1, 5] (.seq (.reg [⟨(some 15), none, .mv (.t 5)⟩, ⟨(some 16), none, .un .not (.t 15)⟩])
  (.keep [0, 1, 16] (.cond (.t 16) (.seq (.draw [(.pl, ⟨(some 17), none, .mv (.t 0)⟩), (.pl, ⟨(some 18), none, .nilchk (.t 17)⟩), (.pl, ⟨(some 19), none, .fa 3 (.t 18)⟩), (.pl, ⟨(some 20), none, .load false 1 (.t 19)⟩), (.pl, ⟨(some 21), none, .mv (.t 1)⟩), (.pl, ⟨(some 22), none, .mv (.t 0)⟩), (.pl, ⟨(some 23), none, .nilchk (.t 22)⟩), (.pl, ⟨(some 24), none, .fa 2 (.t 23)⟩), (.pl, ⟨(some 25), none, .load false 1 (.t 24)⟩), (.pl, ⟨(some 26), none, .len false (.t 25)⟩), (.eff, ⟨none, none, .mupd .s (.t 20) (.t 21) (.t 26)⟩)])
  (.keep [0, 1] (.reg [⟨(some 27), none, .mv (.t 0)⟩, ⟨(some 28), none, .mv (.t 0)⟩, ⟨(some 29), none, .nilchk (.t 28)⟩, ⟨(some 30), none, .fa 2 (.t 29)⟩, ⟨(some 31), none, .load false 1 (.t 30)⟩, ⟨(some 32), none, .mv (.t 1)⟩, ⟨(some 33), none, .bsl 1 false [(.str [])] 1 [(0, (.t 32))]⟩, ⟨(some 34), none, .app 1 16 (.t 31) (.t 33)⟩, ⟨(some 35), none, .nilchk (.t 27)⟩, ⟨(some 36), none, .fa 2 (.t 35)⟩, ⟨none, none, .store 1 (.t 36) (.t 34)⟩]))) .skip)))))⟩
def A.lower_lowerer_symbol : AFn := ⟨43, [(4, (some (true, 2)))], (.seq (.reg [⟨(some 4), none, .alloc [(.bool false), (.int .i64 (0))]⟩])
  (.keep [0, 1, 4] (.seq (.seq (.reg [⟨(some 6), none, .mv (.t 0)⟩, ⟨(some 7), none, .nilchk (.t 6)⟩, ⟨(some 8), none, .fa 0 (.t 7)⟩, ⟨(some 9), none, .fa 1 (.t 8)⟩, ⟨(some 10), none, .load false 1 (.t 9)⟩, ⟨(some 11), none, .mv (.t 1)⟩, ⟨(some 12), none, .ia 3 (.t 10) (.t 11)⟩, ⟨(some 13), none, .load true 3 (.t 12)⟩, ⟨(some 5), none, .alloc [(.int .i64 (0)), (.str []), (.sl 0 1 [])]⟩, ⟨none, none, .store 3 (.t 5) (.t 13)⟩])
  (.keep [0, 1, 4, 5] (.seq (.reg [⟨(some 14), none, .fa 0 (.t 5)⟩, ⟨(some 15), none, .load false 1 (.t 14)⟩])
  (.keep [0, 1, 4, 5, 15] (.block 0 (.seq (.reg [⟨(some 17), none, .bin .eql (.t 15) (.c (.int .i64 (7)))⟩, ⟨(some 16), none, .mv (.t 17)⟩])
  (.keep [0, 1, 4, 5, 15, 16] (.cond (.t 16) (.seq (.draw [(.pl, ⟨(some 18), none, .mv (.t 0)⟩), (.pl, ⟨(some 19), none, .nilchk (.t 18)⟩), (.pl, ⟨(some 20), none, .fa 3 (.t 19)⟩), (.pl, ⟨(some 21), none, .load false 1 (.t 20)⟩), (.pl, ⟨(some 22), none, .fa 1 (.t 5)⟩), (.pl, ⟨(some 23), none, .load false 1 (.t 22)⟩), (.pl, ⟨(some 24), none, .lkp .s (.int .i64 (0)) false (.t 21) (.t 23)⟩), (.pl, ⟨(some 25), none, .bld [(.bool false), (.int .i64 (0))] [(1, 1, (.t 24))]⟩), (.eff, ⟨none, none, .store 2 (.t 4) (.t 25)⟩)]) .ret) (.seq (.reg [⟨(some 27), none, .bin .eql (.t 15) (.c (.int .i64 (6)))⟩, ⟨(some 26), none, .mv (.t 27)⟩])
  (.keep [0, 1, 4, 5, 26] (.cond (.t 26) (.seq (.draw [(.pl, ⟨(some 28), none, .mv (.t 0)⟩), (.pl, ⟨(some 29), none, .nilchk (.t 28)⟩), (.pl, ⟨(some 30), none, .fa 4 (.t 29)⟩), (.pl, ⟨(some 31), none, .load false 1 (.t 30)⟩), (.pl, ⟨(some 32), none, .fa 1 (.t 5)⟩), (.pl, ⟨(some 33), none, .load false 1 (.t 32)⟩), (.pl, ⟨(some 34), none, .lkp .s (.int .i64 (0)) false (.t 31) (.t 33)⟩), (.pl, ⟨(some 35), none, .bld [(.bool false), (.int .i64 (0))] [(0, 1, (.c (.bool true))), (1, 1, (.t 34))]⟩), (.eff, ⟨none, none, .store 2 (.t 4) (.t 35)⟩)]) .ret) .skip)))))))))))
  (.keep [0, 1, 4] (.seq (.reg [⟨(some 36), none, .mv (.t 0)⟩, ⟨(some 37), none, .nilchk (.t 36)⟩, ⟨(some 38), none, .fa 5 (.t 37)⟩, ⟨(some 39), none, .load false 1 (.t 38)⟩, ⟨(some 40), none, .mv (.t 1)⟩, ⟨(some 41), none, .lkp .i (.int .i64 (0)) false (.t 39) (.t 40)⟩, ⟨(some 42), none, .bld [(.bool false), (.int .i64 (0))] [(0, 1, (.c (.bool true))), (1, 1, (.t 41))]⟩, ⟨none, none, .store 2 (.t 4) (.t 42)⟩]) .ret)))))⟩
end Go.Proofs.Ytmobijebjkjnoaa.Al
namespace Go.Proofs.Ytmobijebjkjnoaa.Al
open Go Go.RowKit
set_option linter.unusedSimpArgs false
set_option linter.unusedVariables false
attribute [-simp] List.getD_eq_getElem?_getD Int.not_lt Int.not_le List.map_take
/-- A node, a rule, a tree. -/
structure Nd where
  kind : Int
  name : Str
  kids : List Int
  deriving DecidableEq
structure Rl where
  name : Str
  body : Int
  deriving DecidableEq
structure Te where
  rules : List Rl
  nodes : List Nd
  deriving DecidableEq
def ndC (n : Nd) : List V := [.int .i64 n.kind, .str n.name, .sl 1 0 (ints n.kids)]
def ndV (n : Nd) : V := .agg (ndC n)
def rlC (r : Rl) : List V := [.str r.name, .int .i64 r.body]
def rlV (r : Rl) : V := .agg (rlC r)
def teC (t : Te) : List V := [.sl 2 0 (t.rules.map rlV), .sl 3 0 (t.nodes.map ndV)]
def teV (t : Te) : V := .agg (teC t)
theorem encRl : Enc rlV 2 true := ⟨fun _ => rfl, fun _ => rfl, fun _ => rfl, fun a n m v hv => by simp [rlV, rlC, V.cells] at hv; rcases hv with rfl | rfl <;> simp⟩
structure TeOk (t : Te) : Prop where
  rules : t.rules.length ≤ maxLen
  nodes : t.nodes.length ≤ maxLen
  rname : ∀ r ∈ t.rules, r.name.length ≤ maxLen
  nname : ∀ n ∈ t.nodes, n.name.length ≤ maxLen
  kids : ∀ n ∈ t.nodes, n.kids.length ≤ maxLen
def largeT (t : Te) : Bool := decide (30 < t.rules.length) || decide (210 < t.nodes.length) || (t.rules.any fun r => decide (100 < r.name.length)) || t.nodes.any fun n => decide (100 < n.name.length) || decide (210 < n.kids.length)
section
variable {X : Cx} {h : AH} {Q : V → AH → Prop}
theorem largeT_spec (H : Has (Ecx X) K.probatelaw06_Large A.probatelaw06_Large) (t : Te) (ok : TeOk t) (hQ : Q (.bool (largeT t)) h) : Ecx X K.probatelaw06_Large [teV t] h Q := by
  refine fn_walk H (by simp [A.probatelaw06_Large]) fun wf => ?_
  have gr := (Gr.refl h).new (teC t)
  have htc : teC t = [.sl 2 0 (t.rules.map rlV), .sl 3 0 (t.nodes.map ndV)] := rfl
  have hb0 : (h.new (teC t)).objs h.nobj = teC t := by simp
  have hb1 : (h.new (teC t)).nobj = h.nobj + 1 := by simp
  have ho := ok.rules
  have hn := ok.nodes
  unfold maxLen at ho hn
  simp [A.probatelaw06_Large, teV, V.cells, V.good, htc]
  rw [← htc]
  generalize h.new (teC t) = h1 at *
  by_cases c1 : (30 : Int) < t.rules.length
  · have : largeT t = true := by
      have : 30 < t.rules.length := by omega
      simp [largeT, this]
    rw [this] at hQ
    simp [c1]
    exact fin_wk gr (.same _) (by simp) hQ
  simp [c1, hb0, htc]
  by_cases c2 : (210 : Int) < t.nodes.length
  · have : largeT t = true := by
      have : 210 < t.nodes.length := by omega
      simp [largeT, this]
    rw [this] at hQ
    simp [c2]
    exact fin_wk gr (.same _) (by simp) hQ
  simp [c2, hb0, htc]
  refine loopI (n := t.rules.length) (fun m env h' => ∃ k, k ≤ t.rules.length ∧ m = t.rules.length - k ∧ Gr h h' ∧ h'.objs h.nobj = teC t ∧ h.nobj < h'.nobj ∧ env = [(1, .ptr h.nobj 0), (18, .sl 2 0 (t.rules.map rlV)), (19, .int .i64 t.rules.length), (20, .int .i64 k)] ∧ (t.rules.take k).any (fun r => decide (100 < r.name.length)) = false) ?_ ⟨0, by omega, by omega, gr, hb0, by omega, rfl, by simp⟩
  rintro m env h' ⟨k, hk, rfl, gr', ob, nb, rfl, ha⟩
  unfold A.probatelaw06_Large.L0
  by_cases hlt : k < t.rules.length
  · have hlt' : (k : Int) < t.rules.length := by omega
    have hg : (t.rules.map rlV).getD k .undef = rlV t.rules[k] := Enc.getD hlt
    have hw1 : IntKind.i64.wrap ((k : Int) + 1) = ((k + 1 : Nat) : Int) := by rw [wrap_i64 (by omega) (by omega)]; rfl
    have n1 : ¬ h.nobj = h'.nobj := by omega
    by_cases c3 : (100 : Int) < t.rules[k].name.length
    · have : largeT t = true := by
        have : (t.rules.any fun r => decide (100 < r.name.length)) = true := List.any_eq_true.2 ⟨_, List.getElem_mem hlt, by simp; omega⟩
        simp [largeT, this]
      rw [this] at hQ
      simp [hlt', hg, rlV, rlC, V.cells, V.good, setAt, c3]
      exact fin_wk (gr'.new _) (.same _) (by simp) hQ
    · simp [hlt', hg, rlV, rlC, V.cells, V.good, setAt, c3, hw1]
      exact ⟨t.rules.length - (k + 1), by omega, iv ⟨k + 1, by omega, rfl, gr'.new _, by simp [n1, ob], by simp; omega, rfl, by
        rw [List.take_succ_eq_append_getElem hlt, List.any_append, ha]; simp; omega⟩⟩
  · have hlt' : ¬ (k : Int) < t.rules.length := by omega
    obtain rfl : k = t.rules.length := by omega
    rw [List.take_length] at ha
    simp [hlt', ob, htc]
    refine loopI (n := t.nodes.length) (fun m env h' => ∃ k, k ≤ t.nodes.length ∧ m = t.nodes.length - k ∧ Gr h h' ∧ env = [(30, .sl 3 0 (t.nodes.map ndV)), (31, .int .i64 t.nodes.length), (32, .int .i64 k)] ∧ (t.nodes.take k).any (fun n => decide (100 < n.name.length) || decide (210 < n.kids.length)) = false) ?_ ⟨0, by omega, by omega, gr', rfl, by simp⟩
    rintro m env h2 ⟨k, hk, rfl, gr2, rfl, hb⟩
    unfold A.probatelaw06_Large.L1
    by_cases hlt : k < t.nodes.length
    · have hlt' : (k : Int) < t.nodes.length := by omega
      have hg : (t.nodes.map ndV).getD k .undef = ndV t.nodes[k] := Enc.getD hlt
      have hw1 : IntKind.i64.wrap ((k : Int) + 1) = ((k + 1 : Nat) : Int) := by rw [wrap_i64 (by omega) (by omega)]; rfl
      by_cases c3 : (100 : Int) < t.nodes[k].name.length
      · have : largeT t = true := by
          have : (t.nodes.any fun n => decide (100 < n.name.length) || decide (210 < n.kids.length)) = true := List.any_eq_true.2 ⟨_, List.getElem_mem hlt, by simp; omega⟩
          simp [largeT, this]
        rw [this] at hQ
        simp [hlt', hg, ndV, ndC, V.cells, V.good, setAt, c3]
        exact fin_wk (gr2.new _) (.same _) (by simp) hQ
      by_cases c4 : (210 : Int) < t.nodes[k].kids.length
      · have : largeT t = true := by
          have : (t.nodes.any fun n => decide (100 < n.name.length) || decide (210 < n.kids.length)) = true := List.any_eq_true.2 ⟨_, List.getElem_mem hlt, by simp; omega⟩
          simp [largeT, this]
        rw [this] at hQ
        simp [hlt', hg, ndV, ndC, V.cells, V.good, setAt, c3, c4, ints]
        exact fin_wk (gr2.new _) (.same _) (by simp) hQ
      · simp [hlt', hg, ndV, ndC, V.cells, V.good, setAt, c3, c4, hw1, ints]
        exact ⟨t.nodes.length - (k + 1), by omega, iv ⟨k + 1, by omega, rfl, gr2.new _, rfl, by
          rw [List.take_succ_eq_append_getElem hlt, List.any_append, hb]; simp; omega⟩⟩
    · have hlt' : ¬ (k : Int) < t.nodes.length := by omega
      obtain rfl : k = t.nodes.length := by omega
      rw [List.take_length] at hb
      have : largeT t = false := by simp only [largeT, ha, hb, Bool.or_false]; simp; omega
      rw [this] at hQ
      simp [hlt']
      exact fin_wk gr2 (.same _) (by simp) hQ
/-- Where a name stands; below 0: nowhere. -/
def plc (s : Str) : List Str → Nat → Int
  | [], _ => -1
  | a :: l, i => if a = s then (i : Int) else plc s l (i + 1)
def strs (l : List Str) : List V := l.map .str
def rnames (t : Te) : List Str := t.rules.map (·.name)
/-- May a text stand between quotes? -/
def quoteT (s : Str) : Bool := s.all quotedB && decide (0 < s.length) && decide (s.length ≤ 3998)
/-- May a node be, but for its kids' places? -/
def fineT (t : Te) (n : Nd) : Bool :=
  if n.kind = 6 then decide (n.kids.length = 0) && decide (n.name ∈ rnames t)
  else if n.kind = 7 then decide (n.kids.length = 0) && quoteT n.name
  else decide (n.name = []) && ((decide (n.kind = 1) && decide (n.kids.length ≠ 1)) || (decide (n.kind = 2) && decide (2 ≤ n.kids.length)) || (decide (3 ≤ n.kind) && decide (n.kind ≤ 5) && decide (n.kids.length = 1)))
/-- Is a text just one token of a kind? -/
def tokenT (s : Str) (kind : Int) : Bool := match (scanR s).1 with
  | [a] => decide ((scanR s).2.2 = 0) && decide ((a.kind : Int) = kind) && decide (a.at' = 0) && (decide (kind = 2) || decide (a.text = s))
  | _ => false
theorem token_spec (L : LS X) (H : Has (Ecx X) K.rules_token A.rules_token) (s : Str) (kind : Int) (hl : s.length ≤ 2 ^ 40) (hQ : Q (.bool (tokenT s kind)) h) : Ecx X K.rules_token [.str s, .int .i64 kind] h Q := by
  refine fn_walk H (by simp [A.rules_token]) fun wf => ?_
  simp [A.rules_token]
  refine ecall (scan_spec L s hl ?_)
  simp [scanV]
  unfold tokenT at hQ
  generalize scanR s = R at *
  obtain ⟨l, p, e⟩ := R
  simp only at hQ ⊢
  by_cases c : e = 0
  case neg =>
    have hq : Q (.bool false) h := by
      match l, hQ with
      | [], hQ => exact hQ
      | [a], hQ => simpa [c] using hQ
      | _ :: _ :: _, hQ => exact hQ
    simp [c]
    exact fin (by simp) hq
  subst c
  match l, hQ with
  | [], hQ => simp at hQ ⊢; exact fin (by simp) hQ
  | a :: b :: r, hQ =>
    have c' : ¬ (((a :: b :: r).length : Nat) : Int) = 1 := by simp; omega
    simp at hQ c' ⊢
    simp [c']
    exact fin (by simp) hQ
  | [a], hQ =>
    simp [tokV, tokC, V.cells] at hQ ⊢
    by_cases k1 : (a.kind : Int) = kind
    case neg =>
      simp [k1] at hQ ⊢
      exact fin (by simp) hQ
    by_cases k2 : a.at' = 0
    case neg =>
      simp [k1, k2] at hQ ⊢
      exact fin (by simp) hQ
    by_cases k3 : kind = 2
    · simp [k1, k2, k3, tokC] at hQ ⊢
      exact fin (by simp) hQ
    by_cases k4 : a.text = s
    · simp [k1, k2, k3, k4, tokC] at hQ ⊢
      exact fin (by simp) hQ
    · simp [k1, k2, k3, k4, tokC] at hQ ⊢
      exact fin (by simp) hQ
def plcB (c : Int) : Str → Nat → Int
  | [], _ => -1
  | a :: l, i => if c = bt a then (i : Int) else plcB c l (i + 1)
theorem plcB_any (c : Int) : ∀ (l : Str) (i : Nat), decide (0 ≤ plcB c l i) = l.any fun a => decide (c = bt a)
  | [], i => by simp [plcB]
  | a :: l, i => by
    unfold plcB
    by_cases e : c = bt a
    · simp [e]
    · simp only [if_neg e, List.any_cons, decide_eq_false e, Bool.false_or]; exact plcB_any c l (i + 1)
theorem indexB_spec (H : Has (Ecx X) K.slices_Index_byte A.slices_Index_byte) (s : Str) (st : Nat) (c : Int) (hl : s.length < 2 ^ 62) (hQ : Q (.int .i64 (plcB c s 0)) h) : Ecx X K.slices_Index_byte [.sl 1 st (bytesV s), .int .u8 c] h Q := by
  refine fn_walk H (by simp [A.slices_Index_byte]) fun wf => ?_
  have hsl : (bytesV s).length = s.length := by simp [bytesV]
  simp [A.slices_Index_byte, hsl]
  refine loopI (n := s.length) (fun m env h' => ∃ k, k ≤ s.length ∧ m = s.length - k ∧ h' = h ∧ env = [(0, .sl 1 st (bytesV s)), (1, .int .u8 c), (7, .int .i64 s.length), (8, .int .i64 k)] ∧ plcB c s 0 = plcB c (s.drop k) k) ?_ ⟨0, by omega, by omega, rfl, rfl, rfl⟩
  rintro m env h' ⟨k, hk, rfl, rfl, rfl, hp⟩
  unfold A.slices_Index_byte.L0
  by_cases hlt : k < s.length
  · have hlt' : (k : Int) < s.length := by omega
    have hg : (bytesV s).getD k .undef = .int .u8 (bt s[k]) := by simp [bytesV, bt, List.getD_eq_getElem?_getD, hlt]
    have hw1 : IntKind.i64.wrap ((k : Int) + 1) = ((k + 1 : Nat) : Int) := by rw [wrap_i64 (by omega) (by omega)]; rfl
    rw [List.drop_eq_getElem_cons hlt, plcB] at hp
    by_cases e : c = bt s[k]
    · rw [if_pos e] at hp
      rw [hp] at hQ
      simp [hlt', hg, hsl, V.cells, ← e]
      exact fin (by simp) hQ
    · rw [if_neg e] at hp
      simp [hlt', hg, hsl, V.cells, e, hw1]
      exact ⟨s.length - (k + 1), by omega, iv ⟨k + 1, by omega, rfl, rfl, rfl, hp⟩⟩
  · have hlt' : ¬ (k : Int) < s.length := by omega
    obtain rfl : k = s.length := by omega
    rw [List.drop_length, plcB] at hp
    rw [hp] at hQ
    simp [hlt', hsl]
    exact fin (by simp) hQ
theorem containsB_spec (H : Has (Ecx X) K.slices_Contains_byte A.slices_Contains_byte) (H2 : Has (Ecx X) K.slices_Index_byte A.slices_Index_byte) (s : Str) (st : Nat) (c : Int) (hl : s.length < 2 ^ 62) (hQ : Q (.bool (s.any fun a => decide (c = bt a))) h) :
    Ecx X K.slices_Contains_byte [.sl 1 st (bytesV s), .int .u8 c] h Q := by
  refine fn_walk H (by simp [A.slices_Contains_byte]) fun wf => ?_
  simp [A.slices_Contains_byte]
  refine ecall (indexB_spec H2 s st c hl ?_)
  have := plcB_any c s 0
  simp [this]
  exact fin (by simp) hQ
/-- As the program asks. -/
def fineP (t : Te) (n : Nd) : Bool :=
  if n.kind = 7 then decide (n.kids.length = 0) && (!(n.name.any fun a => decide (39 = bt a))) && tokenT (39 :: n.name ++ [39]) 2 else fineT t n
structure LRu (X : Cx) : Prop where
  s : LS X
  token : Has (Ecx X) K.rules_token A.rules_token
  fine : Has (Ecx X) K.rules_Tree_fine A.rules_Tree_fine
  fine1 : Has (Ecx X) K.rules_Tree_fine_1 A.rules_Tree_fine_1
  right : Has (Ecx X) K.rules_Right A.rules_Right
  right1 : Has (Ecx X) K.rules_Right_1 A.rules_Right_1
  ctR : Has (Ecx X) K.slices_ContainsFunc_Rule A.slices_ContainsFunc_Rule
  ixR : Has (Ecx X) K.slices_IndexFunc_Rule A.slices_IndexFunc_Rule
  ctB : Has (Ecx X) K.slices_Contains_byte A.slices_Contains_byte
  ixB : Has (Ecx X) K.slices_Index_byte A.slices_Index_byte
  eqI : Has (Ecx X) K.slices_Equal_int A.slices_Equal_int
theorem fine1_spec (L : LRu X) (r : Rl) {o : Nat} {n : Nd} (ho : h.objs o = ndC n) (hob : o < h.nobj) (hQ : Q (.bool (decide (r.name = n.name))) h) : Ecx X K.rules_Tree_fine_1 [rlV r, .ptr o 0] h Q := by
  refine fn_walk L.fine1 (by simp [A.rules_Tree_fine_1]) fun wf => ?_
  have gr := (Gr.refl h).new (rlC r)
  have n1 : ¬ o = h.nobj := by omega
  obtain ⟨kind, name, kids⟩ := n
  have hnc : ndC ⟨kind, name, kids⟩ = [.int .i64 kind, .str name, .sl 1 0 (ints kids)] := rfl
  have hrc : rlC r = [.str r.name, .int .i64 r.body] := rfl
  simp [A.rules_Tree_fine_1, rlV, V.cells, V.good, n1, ho, hnc, hrc]
  exact fin_wk (by rw [← hrc]; exact gr) (.same _) (by simp) hQ
theorem rufine_spec (L : LRu X) (t : Te) (n : Nd) (hl : t.rules.length < 2 ^ 62) (hn : n.name.length ≤ 2 ^ 30) (hQ : Q (.bool (fineP t n)) h) : Ecx X K.rules_Tree_fine [teV t, ndV n] h Q := by
  refine fn_walk L.fine (by simp [A.rules_Tree_fine]) fun wf => ?_
  have htc : teC t = [.sl 2 0 (t.rules.map rlV), .sl 3 0 (t.nodes.map ndV)] := rfl
  have gr := ((Gr.refl h).new (teC t)).new (ndC n)
  have n1 : ¬ h.nobj = h.nobj + 1 := by omega
  have hb0 : ((h.new (teC t)).new (ndC n)).objs h.nobj = teC t := by simp [n1]
  have hb1 : ((h.new (teC t)).new (ndC n)).objs (h.nobj + 1) = ndC n := by simp
  have hb2 : ((h.new (teC t)).new (ndC n)).nobj = h.nobj + 2 := by simp
  obtain ⟨kind, name, kids⟩ := n
  simp [A.rules_Tree_fine, teV, ndV, V.cells, V.good]
  have hnc : ∀ a b c, ndC ⟨a, b, c⟩ = [.int .i64 a, .str b, .sl 1 0 (c.map (.int .i64))] := fun _ _ _ => rfl
  generalize (h.new (teC t)).new (ndC ⟨kind, name, kids⟩) = h1 at *
  simp [hb1, hnc]
  unfold fineP fineT at hQ
  simp only at hQ hn
  by_cases k1 : kind = 1
  · subst k1
    by_cases c0 : name = []
    · by_cases c : kids.length = 1
      · have c' : ((kids.length : Nat) : Int) = 1 := by omega
        simp [hb1, hnc, c0, c, c'] at hQ ⊢
        exact fin_wk gr (.same _) (by simp) hQ
      · have c' : ¬ ((kids.length : Nat) : Int) = 1 := by omega
        simp [hb1, hnc, c0, c, c'] at hQ ⊢
        exact fin_wk gr (.same _) (by simp) hQ
    · simp [hb1, hnc, c0] at hQ ⊢
      exact fin_wk gr (.same _) (by simp) hQ
  by_cases k2 : kind = 2
  · subst k2
    by_cases c0 : name = []
    · by_cases c : 2 ≤ kids.length
      · have c' : (1 : Int) < (kids.length : Nat) := by omega
        simp [hb1, hnc, c0, c, c'] at hQ ⊢
        exact fin_wk gr (.same _) (by simp) hQ
      · have c' : ¬ (1 : Int) < (kids.length : Nat) := by omega
        simp [hb1, hnc, c0, c, c'] at hQ ⊢
        exact fin_wk gr (.same _) (by simp) hQ
    · simp [hb1, hnc, c0] at hQ ⊢
      exact fin_wk gr (.same _) (by simp) hQ
  have three : ∀ k : Int, (k = 3 ∨ k = 4 ∨ k = 5) → kind = k → (Q (.bool (decide (name = []) && decide (kids.length = 1))) h) := fun k hk e => by
    subst e
    rcases hk with rfl | rfl | rfl <;> simpa using hQ
  by_cases k3 : kind = 3 ∨ kind = 4 ∨ kind = 5
  · have q := three kind k3 rfl
    clear three
    have fin3 : ∀ b, Q (.bool b) h → Fin h (.bool b) h1 (Lz.mk (a := Q)) := fun b hb => fin_wk gr (.same _) (by simp) hb
    by_cases c0 : name = [] <;> by_cases c : kids.length = 1
    all_goals
      first
        | (have c' : ((kids.length : Nat) : Int) = 1 := by omega
           rcases k3 with rfl | rfl | rfl <;> simp [hb1, hnc, c0, c, c'] at q ⊢ <;> exact fin3 _ q)
        | (have c' : ¬ ((kids.length : Nat) : Int) = 1 := by omega
           rcases k3 with rfl | rfl | rfl <;> simp [hb1, hnc, c0, c, c'] at q ⊢ <;> exact fin3 _ q)
  clear three
  have k3' : ¬ kind = 3 := fun e => k3 (.inl e)
  have k4' : ¬ kind = 4 := fun e => k3 (.inr (.inl e))
  have k5' : ¬ kind = 5 := fun e => k3 (.inr (.inr e))
  by_cases k6 : kind = 6
  · subst k6
    by_cases c : kids = []
    · subst c
      simp [hb0, htc, hb1, hnc] at hQ ⊢
      have hct := L.ctR
      rw [show A.slices_ContainsFunc_Rule = ctfF K.slices_IndexFunc_Rule from rfl] at hct
      have hix := L.ixR
      rw [show A.slices_IndexFunc_Rule = ixfF 2 true from rfl] at hix
      refine ecall (containsFunc encRl hct hix t.rules 0 _ [] _ (fun r => decide (r.name = name)) hl (fun r _ Q' h' gr' hQ' => ?_) ?_)
      · exact fine1_spec L r ((gr'.objs _ (by omega)).trans hb1) (by have := gr'.nobj; omega) hQ'
      have : (t.rules.any fun r => decide (r.name = name)) = decide (name ∈ rnames t) := by
        apply Bool.eq_iff_iff.2
        simp [rnames]
      simp [this]
      exact fin_wk gr (.same _) (by simp) hQ
    · simp [hb0, htc, hb1, hnc, c] at hQ ⊢
      exact fin_wk gr (.same _) (by simp) hQ
  by_cases k7 : kind = 7
  · subst k7
    by_cases c : kids = []
    · subst c
      simp [hb0, htc, hb1, hnc] at hQ ⊢
      refine ecall (containsB_spec L.ctB L.ixB name 0 39 (by omega) ?_)
      cases hb : name.any fun a => decide (39 = bt a) with
      | true =>
        rw [hb] at hQ
        simp at hQ ⊢
        exact fin_wk gr (.same _) (by simp) hQ
      | false =>
        rw [hb] at hQ
        simp [hb1, hnc] at hQ ⊢
        refine ⟨by omega, by omega, ecall (token_spec L.s L.token (39 :: (name ++ [39])) 2 (by simp; omega) ?_)⟩
        simp
        exact fin_wk gr (.same _) (by simp) hQ
    · simp [hb0, htc, hb1, hnc, c] at hQ ⊢
      exact fin_wk gr (.same _) (by simp) hQ
  have hf : Q (.bool false) h := by
    have e2 : (decide (3 ≤ kind) && decide (kind ≤ 5)) = false := by simp; omega
    simpa only [if_neg k7, if_neg k6, decide_eq_false k1, decide_eq_false k2, e2, Bool.false_and, Bool.false_or, Bool.or_false, Bool.and_false] using hQ
  simp [k1, k2, k3', k4', k5', k6, k7]
  exact fin_wk gr (.same _) (by simp) hf
end
theorem runN_allT {p : UInt8 → Bool} : ∀ {l r : Str}, l.all p = true → runN p (l ++ r) = l.length + runN p r
  | [], r, _ => by simp
  | a :: l, r, h => by
    simp only [List.all_cons, Bool.and_eq_true] at h
    have := runN_allT (p := p) (l := l) (r := r) h.2
    unfold runN at this ⊢
    simp only [List.cons_append, List.takeWhile_cons, h.1, if_true, List.length_cons, this]; omega
theorem runN_bad {p : UInt8 → Bool} : ∀ {l r : Str}, l.all p = false → ∃ h : runN p (l ++ r) < l.length, p (l[runN p (l ++ r)]) = false
  | [], r, h => by simp at h
  | a :: l, r, h => by
    cases ha : p a with
    | false => 
      have : runN p (a :: l ++ r) = 0 := by simp [runN, List.takeWhile_cons, ha]
      exact ⟨by rw [this]; simp, by simp only [this]; exact ha⟩
    | true =>
      simp only [List.all_cons, ha, Bool.true_and] at h
      obtain ⟨h1, h2⟩ := runN_bad (p := p) (l := l) (r := r) h
      have : runN p (a :: l ++ r) = runN p (l ++ r) + 1 := by simp [runN, List.takeWhile_cons, ha]
      exact ⟨by rw [this]; simpa using h1, by simp only [this, List.getElem_cons_succ]; exact h2⟩
theorem sfirst_quote (name : Str) (h39 : (name.any fun a => decide (39 = bt a)) = false) : sfirst (39 :: name ++ [39]) = if name.all quotedB && decide (0 < name.length) then (2, name, name.length + 2) else (0, [], 0) := by
  have hb : bt 39 = 39 := rfl
  have hl : letterI 39 = false := by decide
  have hd : (39 :: name ++ [39]).drop 1 = name ++ [39] := rfl
  have h0 : (39 :: name ++ [39] : Str).getD 0 0 = 39 := rfl
  have hlen : (39 :: name ++ [39] : Str).length = name.length + 2 := by simp
  unfold sfirst
  simp only [h0, hb, hd, hlen, hl]
  rw [if_neg (by omega), if_neg (by omega), if_neg (by simp), if_pos trivial]
  cases ha : name.all quotedB with
  | true =>
    have hr : runN quotedB (name ++ [39]) = name.length := by
      rw [runN_allT ha]; simp [runN, List.takeWhile_cons, show quotedB 39 = false from by decide]
    generalize runN quotedB (name ++ [39]) = k at *
    subst hr
    by_cases h1 : 0 < name.length
    · have hg : (39 :: name ++ [39] : Str).getD (name.length + 1) 0 = 39 := by simp [List.getD_eq_getElem?_getD]
      rw [if_neg (by rintro (h | h | h) <;> first | omega | exact h (by rw [hg]; rfl))]
      simp [h1]
    · rw [if_pos (Or.inl (show name.length = 0 by omega))]
      simp [h1]
  | false =>
    obtain ⟨h1, h2⟩ := runN_bad (r := [39]) ha
    generalize hk : runN quotedB (name ++ [39]) = k at *
    have hg : (39 :: name ++ [39] : Str).getD (k + 1) 0 = name[k] := by
      simp [List.getD_eq_getElem?_getD, List.getElem?_append_left h1, h1]
    have hne : bt name[k] ≠ 39 := fun e => by
      have := List.any_eq_false.1 h39 _ (List.getElem_mem h1)
      simp [e] at this
    rw [if_pos (.inr (.inr (by rw [hg]; exact hne)))]
    simp
theorem token_quote (name : Str) (h39 : (name.any fun a => decide (39 = bt a)) = false) : tokenT (39 :: name ++ [39]) 2 = quoteT name := by
  have hs := sfirst_quote name h39
  have hlen : (39 :: name ++ [39] : Str).length = name.length + 2 := by simp
  have hne : (39 :: name ++ [39] : Str) ≠ [] := by simp
  unfold tokenT scanR
  rw [hlen]
  by_cases hb : 4000 < name.length + 2
  · rw [if_pos hb]
    simp [quoteT]; omega
  rw [if_neg hb, scanL_step 0 hne, hs]
  cases ha : name.all quotedB && decide (0 < name.length) with
  | true =>
    simp only [if_true]
    have hd : (39 :: name ++ [39] : Str).drop (name.length + 2) = [] := by simp
    rw [if_neg (by omega), hd, scanL_nil]
    simp only [Bool.and_eq_true, decide_eq_true_eq] at ha
    simp [quoteT, ha.1]; omega
  | false =>
    simp only [Bool.false_eq_true, if_false, if_true]
    have : quoteT name = false := by unfold quoteT; rw [ha]; rfl
    rw [this]
theorem fineP_eq (t : Te) (n : Nd) : fineP t n = fineT t n := by
  unfold fineP
  split
  · rename_i h7
    unfold fineT
    rw [if_neg (by omega), if_pos h7]
    cases h39 : n.name.any fun a => decide (39 = bt a) with
    | false => rw [token_quote _ h39]; simp
    | true =>
      have : quoteT n.name = false := by
        unfold quoteT
        have : n.name.all quotedB = false := by
          obtain ⟨a, ha, hb⟩ := List.any_eq_true.1 h39
          apply Bool.eq_false_iff.2
          intro hall
          have := List.all_eq_true.1 hall a ha
          simp [quotedB, quotedI] at this
          simp at hb
          omega
        rw [this]; rfl
      rw [this]; simp
  · rfl
end Go.Proofs.Ytmobijebjkjnoaa.Al
namespace Go.Proofs.Ytmobijebjkjnoaa.Al
def A.word_Bytes : AFn := ⟨15, [(2, none), (3, none)], (.seq (.reg [⟨(some 2), none, .mv (.c (.sl 0 1 []))⟩, ⟨(some 3), none, .mv (.c (.int .i64 (0)))⟩])
  (.keep [0] (.seq (.seq (.reg [⟨(some 5), none, .mv (.t 0)⟩, ⟨(some 6), none, .call (.c (.fn K.word_Right [] [])) [(.t 5)]⟩, ⟨(some 7), none, .un .not (.t 6)⟩])
  (.keep [0, 7] (.cond (.t 7) (.seq (.reg [⟨(some 2), none, .mv (.c (.sl 0 1 []))⟩, ⟨(some 3), none, .mv (.c (.int .i64 (1)))⟩]) .ret) .skip)))
  (.keep [0] (.seq (.reg [⟨(some 8), none, .bld [(.sl 0 1 [])] []⟩, ⟨(some 9), none, .box (.t 8)⟩, ⟨(some 4), none, .mv (.t 9)⟩])
  (.keep [0, 4] (.seq (.reg [⟨(some 10), none, .mv (.t 4)⟩, ⟨(some 11), none, .mv (.t 0)⟩, ⟨(some 12), none, .call (.c (.fn K.wire_Writer_Nums [] [])) [(.t 10), (.t 11)]⟩])
  (.keep [4] (.seq (.reg [⟨(some 13), none, .mv (.t 4)⟩, ⟨(some 14), none, .call (.c (.fn K.wire_Writer_Bytes [] [])) [(.t 13)]⟩, ⟨(some 2), none, .mv (.t 14)⟩, ⟨(some 3), none, .mv (.c (.int .i64 (0)))⟩]) .ret)))))))))⟩
def A.word_Read : AFn := ⟨17, [(2, none), (3, none)], (.seq (.reg [⟨(some 2), none, .mv (.c (.sl 0 1 []))⟩, ⟨(some 3), none, .mv (.c (.int .i64 (0)))⟩])
  (.keep [0] (.seq (.reg [⟨(some 7), none, .mv (.t 0)⟩, ⟨(some 8), none, .call (.c (.fn K.wire_New [] [])) [(.t 7)]⟩, ⟨(some 4), none, .mv (.t 8)⟩])
  (.keep [4] (.seq (.reg [⟨(some 9), none, .mv (.t 4)⟩, ⟨(some 10), none, .call (.c (.fn K.wire_Reader_Nums [] [])) [(.t 9), (.c (.int .i64 (24))), (.c (.int .i64 (15)))]⟩, ⟨(some 5), none, .mv (.t 10)⟩])
  (.keep [4, 5] (.seq (.seq (.reg [⟨(some 11), none, .mv (.t 4)⟩, ⟨(some 12), none, .call (.c (.fn K.wire_Reader_End [] [])) [(.t 11)]⟩, ⟨(some 6), none, .mv (.t 12)⟩])
  (.keep [5, 6] (.seq (.reg [⟨(some 13), none, .mv (.t 6)⟩, ⟨(some 14), none, .bin .neq (.t 13) (.c (.int .i64 (0)))⟩])
  (.keep [5, 6, 14] (.cond (.t 14) (.seq (.reg [⟨(some 15), none, .mv (.t 6)⟩, ⟨(some 2), none, .mv (.c (.sl 0 1 []))⟩, ⟨(some 3), none, .mv (.t 15)⟩]) .ret) .skip)))))
  (.keep [5] (.seq (.reg [⟨(some 16), none, .mv (.t 5)⟩, ⟨(some 2), none, .mv (.t 16)⟩, ⟨(some 3), none, .mv (.c (.int .i64 (0)))⟩]) .ret)))))))))⟩
def A.word_Apply.L1 : AC := .post (.seq (.seq (.reg [⟨(some 29), none, .mv (.t 9)⟩, ⟨(some 30), none, .fa 0 (.t 11)⟩, ⟨(some 31), none, .load false 1 (.t 30)⟩, ⟨(some 32), none, .bin .lss (.t 29) (.t 31)⟩])
  (.keep [0, 6, 7, 8, 9, 11, 23, 24, 25, 32] (.cond (.t 32) .skip (.exit 3))))
  (.keep [0, 6, 7, 8, 9, 11, 23, 24, 25] (.seq (.block 4 (.reg [⟨(some 35), none, .mv (.t 8)⟩, ⟨(some 36), none, .mv (.t 0)⟩, ⟨(some 37), none, .mv (.t 9)⟩, ⟨(some 38), none, .ia 1 (.t 36) (.t 37)⟩, ⟨(some 39), none, .load false 1 (.t 38)⟩, ⟨(some 40), none, .call (.t 35) [(.t 39)]⟩]))
  (.keep [0, 6, 7, 8, 9, 11, 23, 24, 25] (.reg [⟨(some 33), none, .mv (.t 9)⟩, ⟨(some 34), none, .bin .add (.t 33) (.c (.int .i64 (1)))⟩, ⟨(some 9), none, .mv (.t 34)⟩]))))) [0, 6, 7, 8, 9, 11, 23, 24, 25]
def A.word_Apply.L0 : AC := .post (.seq (.reg [⟨(some 26), none, .bin .lss (.t 25) (.t 24)⟩])
  (.keep [0, 6, 7, 8, 9, 23, 24, 25, 26] (.seq (.cond (.t 26) .skip (.exit 1))
  (.keep [0, 6, 7, 8, 9, 23, 24, 25] (.seq (.block 2 (.seq (.reg [⟨(some 27), none, .ia 3 (.t 23) (.t 25)⟩, ⟨(some 28), none, .load true 3 (.t 27)⟩, ⟨(some 11), none, .alloc [(.int .i64 (0)), (.bool false), (.int .i64 (0))]⟩, ⟨none, none, .store 3 (.t 11) (.t 28)⟩])
  (.keep [0, 6, 7, 8, 9, 11, 23, 24, 25] (.seq (.block 3 (.loop A.word_Apply.L1))
  (.keep [0, 6, 7, 8, 9, 11, 23, 24, 25] (.seq (.reg [⟨(some 41), none, .fa 1 (.t 11)⟩, ⟨(some 42), none, .load false 1 (.t 41)⟩])
  (.keep [0, 6, 7, 8, 9, 11, 23, 24, 25, 42] (.cond (.t 42) (.reg [⟨(some 43), none, .mv (.t 9)⟩, ⟨(some 44), none, .bin .add (.t 43) (.c (.int .i64 (1)))⟩, ⟨(some 9), none, .mv (.t 44)⟩]) (.reg [⟨(some 45), none, .mv (.t 8)⟩, ⟨(some 46), none, .fa 2 (.t 11)⟩, ⟨(some 47), none, .load false 1 (.t 46)⟩, ⟨(some 48), none, .call (.t 45) [(.t 47)]⟩])))))))))
  (.keep [0, 6, 7, 8, 9, 23, 24, 25] (.reg [⟨(some 49), none, .bin .add (.t 25) (.c (.int .i64 (1)))⟩, ⟨(some 25), none, .mv (.t 49)⟩]))))))) [0, 6, 7, 8, 9, 23, 24, 25]
def A.word_Apply.L2 : AC := .post (.seq (.seq (.reg [⟨(some 50), none, .mv (.t 9)⟩, ⟨(some 51), none, .mv (.t 0)⟩, ⟨(some 52), none, .len false (.t 51)⟩, ⟨(some 53), none, .bin .lss (.t 50) (.t 52)⟩])
  (.keep [0, 6, 7, 8, 9, 53] (.cond (.t 53) .skip (.exit 5))))
  (.keep [0, 6, 7, 8, 9] (.seq (.block 6 (.reg [⟨(some 56), none, .mv (.t 8)⟩, ⟨(some 57), none, .mv (.t 0)⟩, ⟨(some 58), none, .mv (.t 9)⟩, ⟨(some 59), none, .ia 1 (.t 57) (.t 58)⟩, ⟨(some 60), none, .load false 1 (.t 59)⟩, ⟨(some 61), none, .call (.t 56) [(.t 60)]⟩]))
  (.keep [0, 6, 7, 8, 9] (.reg [⟨(some 54), none, .mv (.t 9)⟩, ⟨(some 55), none, .bin .add (.t 54) (.c (.int .i64 (1)))⟩, ⟨(some 9), none, .mv (.t 55)⟩]))))) [0, 6, 7, 8, 9]
def A.word_Apply : AFn := ⟨65, [(4, none), (5, none)], (.seq (.reg [⟨(some 4), none, .mv (.c (.sl 0 1 []))⟩, ⟨(some 5), none, .mv (.c (.int .i64 (0)))⟩])
  (.keep [0, 1] (.seq (.block 0 (.seq (.reg [⟨(some 13), none, .mv (.t 0)⟩, ⟨(some 14), none, .call (.c (.fn K.word_Right [] [])) [(.t 13)]⟩, ⟨(some 15), none, .un .not (.t 14)⟩, ⟨(some 12), none, .mv (.t 15)⟩])
  (.keep [0, 1, 12] (.cond (.t 12) (.seq (.reg [⟨(some 4), none, .mv (.c (.sl 0 1 []))⟩, ⟨(some 5), none, .mv (.c (.int .i64 (1)))⟩]) .ret) (.seq (.reg [⟨(some 17), none, .mv (.t 1)⟩, ⟨(some 18), none, .mv (.t 0)⟩, ⟨(some 19), none, .len false (.t 18)⟩, ⟨(some 20), none, .call (.c (.fn K.word_May [] [])) [(.t 17), (.t 19)]⟩, ⟨(some 21), none, .un .not (.t 20)⟩, ⟨(some 16), none, .mv (.t 21)⟩])
  (.keep [0, 1, 16] (.cond (.t 16) (.seq (.reg [⟨(some 4), none, .mv (.c (.sl 0 1 []))⟩, ⟨(some 5), none, .mv (.c (.int .i64 (2)))⟩]) .ret) .skip)))))))
  (.keep [0, 1] (.seq (.reg [⟨(some 6), none, .alloc [(.sl 0 1 [])]⟩])
  (.keep [0, 1, 6] (.seq (.reg [⟨(some 7), none, .alloc [(.int .i64 (0))]⟩, ⟨none, none, .store 1 (.t 7) (.c (.int .i64 (0)))⟩])
  (.keep [0, 1, 6, 7] (.seq (.reg [⟨(some 22), none, .mkfn K.word_Apply_1 [] [(.t 7), (.t 6)]⟩, ⟨(some 8), none, .mv (.t 22)⟩])
  (.keep [0, 1, 6, 7, 8] (.seq (.reg [⟨(some 9), none, .mv (.c (.int .i64 (0)))⟩])
  (.keep [0, 1, 6, 7, 8, 9] (.seq (.seq (.reg [⟨(some 23), none, .mv (.t 1)⟩, ⟨(some 24), none, .len false (.t 23)⟩, ⟨(some 25), none, .mv (.c (.int .i64 (0)))⟩])
  (.keep [0, 6, 7, 8, 9, 23, 24, 25] (.block 1 (.loop A.word_Apply.L0))))
  (.keep [0, 6, 7, 8, 9] (.seq (.block 5 (.loop A.word_Apply.L2))
  (.keep [6, 7] (.seq (.seq (.reg [⟨(some 62), none, .load false 1 (.t 7)⟩, ⟨(some 63), none, .bin .gtr (.t 62) (.c (.int .i64 (24)))⟩])
  (.keep [6, 63] (.cond (.t 63) (.seq (.reg [⟨(some 4), none, .mv (.c (.sl 0 1 []))⟩, ⟨(some 5), none, .mv (.c (.int .i64 (5)))⟩]) .ret) .skip)))
  (.keep [6] (.seq (.reg [⟨(some 64), none, .load false 1 (.t 6)⟩, ⟨(some 4), none, .mv (.t 64)⟩, ⟨(some 5), none, .mv (.c (.int .i64 (0)))⟩]) .ret)))))))))))))))))))⟩
def A.word_Right : AFn := ⟨10, [(2, none)], (.seq (.reg [⟨(some 2), none, .mv (.c (.bool false))⟩])
  (.keep [0] (.seq (.reg [⟨(some 3), none, .mv (.t 0)⟩, ⟨(some 4), none, .len false (.t 3)⟩, ⟨(some 5), none, .bin .leq (.t 4) (.c (.int .i64 (24)))⟩, ⟨(some 6), none, .mv (.t 5)⟩, ⟨(some 7), (some (6, true)), .mv (.t 0)⟩, ⟨(some 8), (some (6, true)), .call (.c (.fn K.word_below [] [])) [(.t 7), (.c (.int .i64 (16)))]⟩, ⟨(some 9), none, .pick (.t 6) (.t 8) (.c (.bool false))⟩, ⟨(some 2), none, .mv (.t 9)⟩]) .ret)))⟩
def A.word_Fits : AFn := ⟨13, [(4, none)], (.seq (.reg [⟨(some 2), none, .box (.t 0)⟩, ⟨(some 4), none, .mv (.c (.bool false))⟩])
  (.keep [1, 2] (.seq (.reg [⟨(some 5), none, .mv (.t 1)⟩, ⟨(some 6), none, .call (.c (.fn K.word_Right [] [])) [(.t 5)]⟩, ⟨(some 7), none, .mv (.t 6)⟩, ⟨(some 8), (some (7, true)), .mv (.t 1)⟩, ⟨(some 9), (some (7, true)), .fa 0 (.t 2)⟩, ⟨(some 10), (some (7, true)), .load false 1 (.t 9)⟩, ⟨(some 11), (some (7, true)), .call (.c (.fn K.word_below [] [])) [(.t 8), (.t 10)]⟩, ⟨(some 12), none, .pick (.t 7) (.t 11) (.c (.bool false))⟩, ⟨(some 4), none, .mv (.t 12)⟩]) .ret)))⟩
def A.word_May.L0 : AC := .post (.seq (.reg [⟨(some 12), none, .bin .lss (.t 11) (.t 10)⟩])
  (.keep [1, 5, 6, 9, 10, 11, 12] (.seq (.cond (.t 12) .skip (.exit 0))
  (.keep [1, 5, 6, 9, 10, 11] (.seq (.block 1 (.seq (.reg [⟨(some 13), none, .ia 3 (.t 9) (.t 11)⟩, ⟨(some 14), none, .load true 3 (.t 13)⟩, ⟨(some 8), none, .alloc [(.int .i64 (0)), (.bool false), (.int .i64 (0))]⟩, ⟨none, none, .store 3 (.t 8) (.t 14)⟩])
  (.keep [1, 5, 6, 8, 9, 10, 11] (.seq (.seq (.reg [⟨(some 15), none, .load true 3 (.t 8)⟩, ⟨(some 16), none, .mv (.t 5)⟩, ⟨(some 17), none, .mv (.t 6)⟩, ⟨(some 18), none, .mv (.t 1)⟩, ⟨(some 19), none, .call (.c (.fn K.word_fine [] [])) [(.t 15), (.t 16), (.t 17), (.t 18)]⟩, ⟨(some 20), none, .un .not (.t 19)⟩])
  (.keep [1, 8, 9, 10, 11, 20] (.cond (.t 20) (.seq (.reg [⟨(some 4), none, .mv (.c (.bool false))⟩]) .ret) .skip)))
  (.keep [1, 8, 9, 10, 11] (.draw [(.pl, ⟨(some 21), none, .fa 0 (.t 8)⟩), (.pl, ⟨(some 22), none, .load false 1 (.t 21)⟩), (.pl, ⟨(some 23), none, .fa 1 (.t 8)⟩), (.pl, ⟨(some 24), none, .load false 1 (.t 23)⟩), (.pl, ⟨(some 5), none, .mv (.t 22)⟩), (.pl, ⟨(some 6), none, .mv (.t 24)⟩)]))))))
  (.keep [1, 5, 6, 9, 10, 11] (.reg [⟨(some 25), none, .bin .add (.t 11) (.c (.int .i64 (1)))⟩, ⟨(some 11), none, .mv (.t 25)⟩]))))))) [1, 5, 6, 9, 10, 11]
def A.word_May : AFn := ⟨26, [(4, none)], (.seq (.reg [⟨(some 4), none, .mv (.c (.bool false))⟩])
  (.keep [0, 1] (.seq (.reg [⟨(some 5), none, .mv (.c (.int .i64 (0)))⟩, ⟨(some 6), none, .mv (.c (.bool false))⟩])
  (.keep [0, 1, 5, 6] (.seq (.seq (.reg [⟨(some 9), none, .mv (.t 0)⟩, ⟨(some 10), none, .len false (.t 9)⟩, ⟨(some 11), none, .mv (.c (.int .i64 (0)))⟩])
  (.keep [1, 5, 6, 9, 10, 11] (.block 0 (.loop A.word_May.L0))))
  (.keep [] (.seq (.reg [⟨(some 4), none, .mv (.c (.bool true))⟩]) .ret)))))))⟩
def A.word_Apply_1 : AFn := ⟨12, [], (.seq (.reg [⟨(some 4), none, .load false 1 (.t 1)⟩, ⟨(some 5), none, .bin .add (.t 4) (.c (.int .i64 (1)))⟩, ⟨none, none, .store 1 (.t 1) (.t 5)⟩])
  (.keep [0, 1, 2] (.seq (.reg [⟨(some 6), none, .load false 1 (.t 1)⟩, ⟨(some 7), none, .bin .leq (.t 6) (.c (.int .i64 (24)))⟩])
  (.keep [0, 2, 7] (.cond (.t 7) (.reg [⟨(some 8), none, .load false 1 (.t 2)⟩, ⟨(some 9), none, .mv (.t 0)⟩, ⟨(some 10), none, .bsl 1 false [(.int .i64 (0))] 1 [(0, (.t 9))]⟩, ⟨(some 11), none, .app 1 8 (.t 8) (.t 10)⟩, ⟨none, none, .store 1 (.t 2) (.t 11)⟩]) .skip)))))⟩
def A.word_below.L0 : AC := .post (.seq (.reg [⟨(some 10), none, .bin .lss (.t 9) (.t 8)⟩])
  (.keep [1, 7, 8, 9, 10] (.seq (.cond (.t 10) .skip (.exit 0))
  (.keep [1, 7, 8, 9] (.seq (.block 1 (.seq (.reg [⟨(some 11), none, .ia 1 (.t 7) (.t 9)⟩, ⟨(some 12), none, .load false 1 (.t 11)⟩, ⟨(some 6), none, .mv (.t 12)⟩])
  (.keep [1, 6, 7, 8, 9] (.seq (.reg [⟨(some 13), none, .mv (.t 6)⟩, ⟨(some 14), none, .bin .lss (.t 13) (.c (.int .i64 (0)))⟩, ⟨(some 15), none, .mv (.t 14)⟩, ⟨(some 16), (some (15, false)), .mv (.t 6)⟩, ⟨(some 17), (some (15, false)), .mv (.t 1)⟩, ⟨(some 18), (some (15, false)), .bin .geq (.t 16) (.t 17)⟩, ⟨(some 19), none, .pick (.t 15) (.c (.bool true)) (.t 18)⟩])
  (.keep [1, 7, 8, 9, 19] (.cond (.t 19) (.seq (.reg [⟨(some 4), none, .mv (.c (.bool false))⟩]) .ret) .skip))))))
  (.keep [1, 7, 8, 9] (.reg [⟨(some 20), none, .bin .add (.t 9) (.c (.int .i64 (1)))⟩, ⟨(some 9), none, .mv (.t 20)⟩]))))))) [1, 7, 8, 9]
def A.word_below : AFn := ⟨21, [(4, none)], (.seq (.reg [⟨(some 4), none, .mv (.c (.bool false))⟩])
  (.keep [0, 1] (.seq (.seq (.reg [⟨(some 7), none, .mv (.t 0)⟩, ⟨(some 8), none, .len false (.t 7)⟩, ⟨(some 9), none, .mv (.c (.int .i64 (0)))⟩])
  (.keep [1, 7, 8, 9] (.block 0 (.loop A.word_below.L0))))
  (.keep [] (.seq (.reg [⟨(some 4), none, .mv (.c (.bool true))⟩]) .ret)))))⟩
def A.word_fine : AFn := ⟨48, [(8, none)], (.seq (.reg [⟨(some 4), none, .box (.t 0)⟩, ⟨(some 8), none, .mv (.c (.bool false))⟩])
  (.keep [1, 2, 3, 4] (.seq (.block 0 (.seq (.seq (.reg [⟨(some 10), none, .fa 0 (.t 4)⟩, ⟨(some 11), none, .load false 1 (.t 10)⟩, ⟨(some 12), none, .bin .lss (.t 11) (.c (.int .i64 (0)))⟩, ⟨(some 9), none, .mv (.t 12)⟩])
  (.keep [1, 2, 3, 4, 9] (.cond (.t 9) .skip (.seq (.reg [⟨(some 13), none, .fa 0 (.t 4)⟩, ⟨(some 14), none, .load false 1 (.t 13)⟩, ⟨(some 15), none, .mv (.t 3)⟩, ⟨(some 16), none, .bin .gtr (.t 14) (.t 15)⟩, ⟨(some 9), none, .mv (.t 16)⟩])
  (.keep [1, 2, 3, 4, 9] (.cond (.t 9) .skip (.seq (.reg [⟨(some 17), none, .fa 0 (.t 4)⟩, ⟨(some 18), none, .load false 1 (.t 17)⟩, ⟨(some 19), none, .mv (.t 1)⟩, ⟨(some 20), none, .bin .lss (.t 18) (.t 19)⟩, ⟨(some 9), none, .mv (.t 20)⟩])
  (.keep [1, 2, 3, 4, 9] (.cond (.t 9) .skip (.reg [⟨(some 21), none, .mv (.t 2)⟩, ⟨(some 22), none, .mv (.t 21)⟩, ⟨(some 23), (some (22, true)), .fa 0 (.t 4)⟩, ⟨(some 24), (some (22, true)), .load false 1 (.t 23)⟩, ⟨(some 25), (some (22, true)), .mv (.t 1)⟩, ⟨(some 26), (some (22, true)), .bin .eql (.t 24) (.t 25)⟩, ⟨(some 27), none, .pick (.t 22) (.t 26) (.c (.bool false))⟩, ⟨(some 9), none, .mv (.t 27)⟩]))))))))))
  (.keep [3, 4, 9] (.cond (.t 9) (.seq (.reg [⟨(some 8), none, .mv (.c (.bool false))⟩]) .ret) (.seq (.reg [⟨(some 29), none, .fa 1 (.t 4)⟩, ⟨(some 30), none, .load false 1 (.t 29)⟩, ⟨(some 28), none, .mv (.t 30)⟩])
  (.keep [3, 4, 28] (.cond (.t 28) (.seq (.reg [⟨(some 31), none, .fa 0 (.t 4)⟩, ⟨(some 32), none, .load false 1 (.t 31)⟩, ⟨(some 33), none, .mv (.t 3)⟩, ⟨(some 34), none, .bin .lss (.t 32) (.t 33)⟩, ⟨(some 35), none, .mv (.t 34)⟩, ⟨(some 36), (some (35, true)), .fa 2 (.t 4)⟩, ⟨(some 37), (some (35, true)), .load false 1 (.t 36)⟩, ⟨(some 38), (some (35, true)), .bin .eql (.t 37) (.c (.int .i64 (0)))⟩, ⟨(some 39), none, .pick (.t 35) (.t 38) (.c (.bool false))⟩, ⟨(some 8), none, .mv (.t 39)⟩]) .ret) .skip)))))))
  (.keep [4] (.seq (.reg [⟨(some 40), none, .fa 2 (.t 4)⟩, ⟨(some 41), none, .load false 1 (.t 40)⟩, ⟨(some 42), none, .bin .geq (.t 41) (.c (.int .i64 (0)))⟩, ⟨(some 43), none, .mv (.t 42)⟩, ⟨(some 44), (some (43, true)), .fa 2 (.t 4)⟩, ⟨(some 45), (some (43, true)), .load false 1 (.t 44)⟩, ⟨(some 46), (some (43, true)), .bin .lss (.t 45) (.c (.int .i64 (16)))⟩, ⟨(some 47), none, .pick (.t 43) (.t 46) (.c (.bool false))⟩, ⟨(some 8), none, .mv (.t 47)⟩]) .ret)))))⟩
end Go.Proofs.Ytmobijebjkjnoaa.Al
namespace Go.Proofs.Ytmobijebjkjnoaa.Al
def A.probatelaw04_WordTurns.L0 : AC := .post (.seq (.reg [⟨(some 43), none, .bin .lss (.t 42) (.t 41)⟩])
  (.keep [0, 1, 2, 7, 8, 9, 41, 42, 43] (.seq (.cond (.t 43) .skip (.exit 0))
  (.keep [0, 1, 2, 7, 8, 9, 41, 42] (.seq (.block 1 (.seq (.reg [⟨(some 44), none, .mv (.t 42)⟩, ⟨(some 10), none, .mv (.t 44)⟩])
  (.keep [0, 1, 2, 7, 8, 9, 10, 41, 42] (.reg [⟨(some 45), none, .mv (.t 9)⟩, ⟨(some 46), none, .mv (.t 10)⟩, ⟨(some 47), none, .bld [(.int .i64 (0)), (.bool false), (.int .i64 (0))] [(0, 1, (.t 46)), (1, 1, (.c (.bool true)))]⟩, ⟨(some 48), none, .bsl 3 true [(.int .i64 (0)), (.bool false), (.int .i64 (0))] 1 [(0, (.t 47))]⟩, ⟨(some 49), none, .app 3 24 (.t 45) (.t 48)⟩, ⟨(some 9), none, .mv (.t 49)⟩]))))
  (.keep [0, 1, 2, 7, 8, 9, 41, 42] (.reg [⟨(some 50), none, .bin .add (.t 42) (.c (.int .i64 (1)))⟩, ⟨(some 42), none, .mv (.t 50)⟩]))))))) [0, 1, 2, 7, 8, 9, 41, 42]
def A.probatelaw04_WordTurns.L1 : AC := .post (.seq (.reg [⟨(some 54), none, .bin .lss (.t 53) (.t 52)⟩])
  (.keep [0, 1, 2, 7, 8, 9, 51, 52, 53, 54] (.seq (.cond (.t 54) .skip (.exit 2))
  (.keep [0, 1, 2, 7, 8, 9, 51, 52, 53] (.seq (.block 3 (.seq (.reg [⟨(some 55), none, .ia 1 (.t 51) (.t 53)⟩, ⟨(some 56), none, .load false 1 (.t 55)⟩, ⟨(some 12), none, .mv (.t 56)⟩])
  (.keep [0, 1, 2, 7, 8, 9, 12, 51, 52, 53] (.reg [⟨(some 57), none, .mv (.t 9)⟩, ⟨(some 58), none, .mv (.t 0)⟩, ⟨(some 59), none, .len false (.t 58)⟩, ⟨(some 60), none, .mv (.t 12)⟩, ⟨(some 61), none, .bld [(.int .i64 (0)), (.bool false), (.int .i64 (0))] [(0, 1, (.t 59)), (2, 1, (.t 60))]⟩, ⟨(some 62), none, .bsl 3 true [(.int .i64 (0)), (.bool false), (.int .i64 (0))] 1 [(0, (.t 61))]⟩, ⟨(some 63), none, .app 3 24 (.t 57) (.t 62)⟩, ⟨(some 9), none, .mv (.t 63)⟩]))))
  (.keep [0, 1, 2, 7, 8, 9, 51, 52, 53] (.reg [⟨(some 64), none, .bin .add (.t 53) (.c (.int .i64 (1)))⟩, ⟨(some 53), none, .mv (.t 64)⟩]))))))) [0, 1, 2, 7, 8, 9, 51, 52, 53]
def A.probatelaw04_WordTurns.L2 : AC := .post (.seq (.reg [⟨(some 101), none, .bin .lss (.t 100) (.t 99)⟩])
  (.keep [0, 2, 15, 98, 99, 100, 101] (.seq (.cond (.t 101) .skip (.exit 4))
  (.keep [0, 2, 15, 98, 99, 100] (.seq (.block 5 (.seq (.reg [⟨(some 102), none, .ia 3 (.t 98) (.t 100)⟩, ⟨(some 103), none, .load true 3 (.t 102)⟩, ⟨(some 17), none, .alloc [(.int .i64 (0)), (.bool false), (.int .i64 (0))]⟩, ⟨none, none, .store 3 (.t 17) (.t 103)⟩])
  (.keep [0, 2, 15, 17, 98, 99, 100] (.seq (.reg [⟨(some 104), none, .fa 1 (.t 17)⟩, ⟨(some 105), none, .load false 1 (.t 104)⟩])
  (.keep [0, 2, 15, 98, 99, 100, 105] (.cond (.t 105) (.reg [⟨(some 106), none, .mv (.t 15)⟩, ⟨(some 107), none, .bin .sub (.t 106) (.c (.int .i64 (1)))⟩, ⟨(some 15), none, .mv (.t 107)⟩]) (.reg [⟨(some 108), none, .mv (.t 15)⟩, ⟨(some 109), none, .bin .add (.t 108) (.c (.int .i64 (1)))⟩, ⟨(some 15), none, .mv (.t 109)⟩])))))))
  (.keep [0, 2, 15, 98, 99, 100] (.reg [⟨(some 110), none, .bin .add (.t 100) (.c (.int .i64 (1)))⟩, ⟨(some 100), none, .mv (.t 110)⟩]))))))) [0, 2, 15, 98, 99, 100]
def A.probatelaw04_WordTurns : AFn := ⟨152, [(6, none)], (.seq (.reg [⟨(some 6), none, .mv (.c (.bool false))⟩])
  (.keep [0, 1, 2] (.seq (.seq (.reg [⟨(some 20), none, .call (.c (.fn K.probatelaw04_awake [] [])) []⟩, ⟨(some 21), none, .un .not (.t 20)⟩])
  (.keep [0, 1, 2, 21] (.cond (.t 21) (.seq (.reg [⟨(some 6), none, .mv (.c (.bool false))⟩]) .ret) .skip)))
  (.keep [0, 1, 2] (.seq (.seq (.reg [⟨(some 22), none, .mv (.t 0)⟩, ⟨(some 23), none, .call (.c (.fn K.word_Right [] [])) [(.t 22)]⟩, ⟨(some 24), none, .un .not (.t 23)⟩, ⟨(some 25), none, .mv (.t 24)⟩, ⟨(some 26), (some (25, false)), .mv (.t 1)⟩, ⟨(some 27), (some (25, false)), .call (.c (.fn K.word_Right [] [])) [(.t 26)]⟩, ⟨(some 28), (some (25, false)), .un .not (.t 27)⟩, ⟨(some 29), none, .pick (.t 25) (.c (.bool true)) (.t 28)⟩, ⟨(some 30), none, .mv (.t 29)⟩, ⟨(some 31), (some (30, false)), .mv (.t 2)⟩, ⟨(some 32), (some (30, false)), .len false (.t 31)⟩, ⟨(some 33), (some (30, false)), .bin .gtr (.t 32) (.c (.int .i64 (60)))⟩, ⟨(some 34), none, .pick (.t 30) (.c (.bool true)) (.t 33)⟩])
  (.keep [0, 1, 2, 34] (.cond (.t 34) (.seq (.reg [⟨(some 6), none, .mv (.c (.bool true))⟩]) .ret) .skip)))
  (.keep [0, 1, 2] (.seq (.reg [⟨(some 36), none, .mv (.t 0)⟩, ⟨(some 37), none, .call (.c (.fn K.word_Apply [] [])) [(.t 36), (.c (.sl 0 1 []))]⟩, ⟨(some 35), none, .mv (.t 37)⟩, ⟨(some 38), none, .ext (.t 35) 0⟩, ⟨(some 39), none, .ext (.t 35) 1⟩, ⟨(some 7), none, .mv (.t 38)⟩, ⟨(some 8), none, .mv (.t 39)⟩])
  (.keep [0, 1, 2, 7, 8] (.seq (.reg [⟨(some 9), none, .mv (.c (.sl 0 1 []))⟩])
  (.keep [0, 1, 2, 7, 8, 9] (.seq (.seq (.reg [⟨(some 40), none, .mv (.t 0)⟩, ⟨(some 41), none, .len false (.t 40)⟩, ⟨(some 42), none, .mv (.c (.int .i64 (0)))⟩])
  (.keep [0, 1, 2, 7, 8, 9, 41, 42] (.block 0 (.loop A.probatelaw04_WordTurns.L0))))
  (.keep [0, 1, 2, 7, 8, 9] (.seq (.seq (.reg [⟨(some 51), none, .mv (.t 1)⟩, ⟨(some 52), none, .len false (.t 51)⟩, ⟨(some 53), none, .mv (.c (.int .i64 (0)))⟩])
  (.keep [0, 1, 2, 7, 8, 9, 51, 52, 53] (.block 2 (.loop A.probatelaw04_WordTurns.L1))))
  (.keep [0, 1, 2, 7, 8, 9] (.seq (.reg [⟨(some 66), none, .mv (.t 0)⟩, ⟨(some 67), none, .mv (.t 9)⟩, ⟨(some 68), none, .call (.c (.fn K.word_Apply [] [])) [(.t 66), (.t 67)]⟩, ⟨(some 65), none, .mv (.t 68)⟩, ⟨(some 69), none, .ext (.t 65) 0⟩, ⟨(some 70), none, .ext (.t 65) 1⟩, ⟨(some 13), none, .mv (.t 69)⟩, ⟨(some 14), none, .mv (.t 70)⟩])
  (.keep [0, 1, 2, 7, 8, 9, 13, 14] (.seq (.seq (.reg [⟨(some 71), none, .mv (.t 8)⟩, ⟨(some 72), none, .bin .neq (.t 71) (.c (.int .i64 (0)))⟩, ⟨(some 73), none, .mv (.t 72)⟩, ⟨(some 74), (some (73, false)), .mv (.t 7)⟩, ⟨(some 75), (some (73, false)), .mv (.t 0)⟩, ⟨(some 76), (some (73, false)), .call (.c (.fn K.probateref02_Same [] [])) [(.t 74), (.t 75)]⟩, ⟨(some 77), (some (73, false)), .un .not (.t 76)⟩, ⟨(some 78), none, .pick (.t 73) (.c (.bool true)) (.t 77)⟩, ⟨(some 79), none, .mv (.t 78)⟩, ⟨(some 80), (some (79, false)), .mv (.t 14)⟩, ⟨(some 81), (some (79, false)), .bin .neq (.t 80) (.c (.int .i64 (0)))⟩, ⟨(some 82), none, .pick (.t 79) (.c (.bool true)) (.t 81)⟩, ⟨(some 83), none, .mv (.t 82)⟩, ⟨(some 84), (some (83, false)), .mv (.t 13)⟩, ⟨(some 85), (some (83, false)), .mv (.t 1)⟩, ⟨(some 86), (some (83, false)), .call (.c (.fn K.probateref02_Same [] [])) [(.t 84), (.t 85)]⟩, ⟨(some 87), (some (83, false)), .un .not (.t 86)⟩, ⟨(some 88), none, .pick (.t 83) (.c (.bool true)) (.t 87)⟩, ⟨(some 89), none, .mv (.t 88)⟩, ⟨(some 90), (some (89, false)), .mv (.t 9)⟩, ⟨(some 91), (some (89, false)), .mv (.t 0)⟩, ⟨(some 92), (some (89, false)), .len false (.t 91)⟩, ⟨(some 93), (some (89, false)), .call (.c (.fn K.word_May [] [])) [(.t 90), (.t 92)]⟩, ⟨(some 94), (some (89, false)), .un .not (.t 93)⟩, ⟨(some 95), none, .pick (.t 89) (.c (.bool true)) (.t 94)⟩])
  (.keep [0, 2, 95] (.cond (.t 95) (.seq (.reg [⟨(some 6), none, .mv (.c (.bool false))⟩]) .ret) .skip)))
  (.keep [0, 2] (.seq (.reg [⟨(some 96), none, .mv (.t 0)⟩, ⟨(some 97), none, .len false (.t 96)⟩, ⟨(some 15), none, .mv (.t 97)⟩])
  (.keep [0, 2, 15] (.seq (.seq (.reg [⟨(some 98), none, .mv (.t 2)⟩, ⟨(some 99), none, .len false (.t 98)⟩, ⟨(some 100), none, .mv (.c (.int .i64 (0)))⟩])
  (.keep [0, 2, 15, 98, 99, 100] (.block 4 (.loop A.probatelaw04_WordTurns.L2))))
  (.keep [0, 2, 15] (.seq (.reg [⟨(some 112), none, .mv (.t 0)⟩, ⟨(some 113), none, .mv (.t 2)⟩, ⟨(some 114), none, .call (.c (.fn K.word_Apply [] [])) [(.t 112), (.t 113)]⟩, ⟨(some 111), none, .mv (.t 114)⟩, ⟨(some 115), none, .ext (.t 111) 0⟩, ⟨(some 116), none, .ext (.t 111) 1⟩, ⟨(some 18), none, .mv (.t 115)⟩, ⟨(some 19), none, .mv (.t 116)⟩])
  (.keep [0, 2, 15, 18, 19] (.seq (.block 6 (.seq (.reg [⟨(some 118), none, .mv (.t 2)⟩, ⟨(some 119), none, .mv (.t 0)⟩, ⟨(some 120), none, .len false (.t 119)⟩, ⟨(some 121), none, .call (.c (.fn K.word_May [] [])) [(.t 118), (.t 120)]⟩, ⟨(some 122), none, .un .not (.t 121)⟩, ⟨(some 117), none, .mv (.t 122)⟩])
  (.keep [15, 18, 19, 117] (.cond (.t 117) (.seq (.reg [⟨(some 123), none, .mv (.t 19)⟩, ⟨(some 124), none, .bin .eql (.t 123) (.c (.int .i64 (2)))⟩, ⟨(some 125), none, .mv (.t 124)⟩, ⟨(some 126), (some (125, true)), .mv (.t 18)⟩, ⟨(some 127), (some (125, true)), .len false (.t 126)⟩, ⟨(some 128), (some (125, true)), .bin .eql (.t 127) (.c (.int .i64 (0)))⟩, ⟨(some 129), none, .pick (.t 125) (.t 128) (.c (.bool false))⟩, ⟨(some 6), none, .mv (.t 129)⟩]) .ret) (.seq (.reg [⟨(some 131), none, .mv (.t 15)⟩, ⟨(some 132), none, .bin .gtr (.t 131) (.c (.int .i64 (24)))⟩, ⟨(some 130), none, .mv (.t 132)⟩])
  (.keep [15, 18, 19, 130] (.cond (.t 130) (.seq (.reg [⟨(some 133), none, .mv (.t 19)⟩, ⟨(some 134), none, .bin .eql (.t 133) (.c (.int .i64 (5)))⟩, ⟨(some 135), none, .mv (.t 134)⟩, ⟨(some 136), (some (135, true)), .mv (.t 18)⟩, ⟨(some 137), (some (135, true)), .len false (.t 136)⟩, ⟨(some 138), (some (135, true)), .bin .eql (.t 137) (.c (.int .i64 (0)))⟩, ⟨(some 139), none, .pick (.t 135) (.t 138) (.c (.bool false))⟩, ⟨(some 6), none, .mv (.t 139)⟩]) .ret) .skip)))))))
  (.keep [15, 18, 19] (.seq (.reg [⟨(some 140), none, .mv (.t 19)⟩, ⟨(some 141), none, .bin .eql (.t 140) (.c (.int .i64 (0)))⟩, ⟨(some 142), none, .mv (.t 141)⟩, ⟨(some 143), (some (142, true)), .mv (.t 18)⟩, ⟨(some 144), (some (142, true)), .len false (.t 143)⟩, ⟨(some 145), (some (142, true)), .mv (.t 15)⟩, ⟨(some 146), (some (142, true)), .bin .eql (.t 144) (.t 145)⟩, ⟨(some 147), none, .pick (.t 142) (.t 146) (.c (.bool false))⟩, ⟨(some 148), none, .mv (.t 147)⟩, ⟨(some 149), (some (148, true)), .mv (.t 18)⟩, ⟨(some 150), (some (148, true)), .call (.c (.fn K.word_Right [] [])) [(.t 149)]⟩, ⟨(some 151), none, .pick (.t 148) (.t 150) (.c (.bool false))⟩, ⟨(some 6), none, .mv (.t 151)⟩]) .ret)))))))))))))))))))))))))))⟩
def A.probatelaw04_awake : AFn := ⟨86, [(0, none)], (.seq (.reg [⟨(some 0), none, .mv (.c (.bool false))⟩])
  (.keep [] (.seq (.reg [⟨(some 10), none, .bsl 1 false [(.int .i64 (0))] 3 [(0, (.c (.int .i64 (5)))), (1, (.c (.int .i64 (6)))), (2, (.c (.int .i64 (7))))]⟩, ⟨(some 11), none, .bld [(.int .i64 (0)), (.bool false), (.int .i64 (0))] [(2, 1, (.c (.int .i64 (1))))]⟩, ⟨(some 12), none, .bld [(.int .i64 (0)), (.bool false), (.int .i64 (0))] [(0, 1, (.c (.int .i64 (1)))), (1, 1, (.c (.bool true)))]⟩, ⟨(some 13), none, .bld [(.int .i64 (0)), (.bool false), (.int .i64 (0))] [(0, 1, (.c (.int .i64 (3)))), (2, 1, (.c (.int .i64 (2))))]⟩, ⟨(some 14), none, .bsl 3 true [(.int .i64 (0)), (.bool false), (.int .i64 (0))] 3 [(0, (.t 11)), (1, (.t 12)), (2, (.t 13))]⟩, ⟨(some 15), none, .call (.c (.fn K.word_Apply [] [])) [(.t 10), (.t 14)]⟩, ⟨(some 9), none, .mv (.t 15)⟩, ⟨(some 16), none, .ext (.t 9) 0⟩, ⟨(some 17), none, .ext (.t 9) 1⟩, ⟨(some 1), none, .mv (.t 16)⟩, ⟨(some 2), none, .mv (.t 17)⟩])
  (.keep [1, 2] (.seq (.reg [⟨(some 19), none, .bsl 1 false [(.int .i64 (0))] 2 [(0, (.c (.int .i64 (5)))), (1, (.c (.int .i64 (6))))]⟩, ⟨(some 20), none, .call (.c (.fn K.word_Bytes [] [])) [(.t 19)]⟩, ⟨(some 18), none, .mv (.t 20)⟩, ⟨(some 21), none, .ext (.t 18) 0⟩, ⟨(some 22), none, .ext (.t 18) 1⟩, ⟨(some 3), none, .mv (.t 21)⟩, ⟨(some 4), none, .mv (.t 22)⟩])
  (.keep [1, 2, 3, 4] (.seq (.reg [⟨(some 24), none, .mv (.t 3)⟩, ⟨(some 25), none, .call (.c (.fn K.word_Read [] [])) [(.t 24)]⟩, ⟨(some 23), none, .mv (.t 25)⟩, ⟨(some 26), none, .ext (.t 23) 0⟩, ⟨(some 27), none, .ext (.t 23) 1⟩, ⟨(some 5), none, .mv (.t 26)⟩, ⟨(some 6), none, .mv (.t 27)⟩])
  (.keep [1, 2, 3, 4, 5, 6] (.seq (.reg [⟨(some 29), none, .bld [(.int .i64 (0)), (.bool false), (.int .i64 (0))] [(1, 1, (.c (.bool true)))]⟩, ⟨(some 30), none, .bsl 3 true [(.int .i64 (0)), (.bool false), (.int .i64 (0))] 1 [(0, (.t 29))]⟩, ⟨(some 31), none, .call (.c (.fn K.word_Apply [] [])) [(.c (.sl 0 1 [])), (.t 30)]⟩, ⟨(some 28), none, .mv (.t 31)⟩, ⟨(some 32), none, .ext (.t 28) 0⟩, ⟨(some 33), none, .ext (.t 28) 1⟩, ⟨(some 7), none, .mv (.t 32)⟩, ⟨(some 8), none, .mv (.t 33)⟩])
  (.keep [1, 2, 3, 4, 5, 6, 8] (.seq (.reg [⟨(some 34), none, .mv (.t 1)⟩, ⟨(some 35), none, .bsl 1 false [(.int .i64 (0))] 4 [(0, (.c (.int .i64 (1)))), (1, (.c (.int .i64 (5)))), (2, (.c (.int .i64 (7)))), (3, (.c (.int .i64 (2))))]⟩, ⟨(some 36), none, .call (.c (.fn K.probateref02_Same [] [])) [(.t 34), (.t 35)]⟩, ⟨(some 37), none, .mv (.t 36)⟩, ⟨(some 38), (some (37, true)), .mv (.t 2)⟩, ⟨(some 39), (some (37, true)), .bin .eql (.t 38) (.c (.int .i64 (0)))⟩, ⟨(some 40), none, .pick (.t 37) (.t 39) (.c (.bool false))⟩, ⟨(some 41), none, .mv (.t 40)⟩, ⟨(some 42), (some (41, true)), .mv (.t 3)⟩, ⟨(some 43), (some (41, true)), .bsl 1 false [(.int .u8 (0))] 3 [(0, (.c (.int .u8 (2)))), (1, (.c (.int .u8 (5)))), (2, (.c (.int .u8 (6))))]⟩, ⟨(some 44), (some (41, true)), .call (.c (.fn K.probateref01_Same [] [])) [(.t 42), (.t 43)]⟩, ⟨(some 45), none, .pick (.t 41) (.t 44) (.c (.bool false))⟩, ⟨(some 46), none, .mv (.t 45)⟩, ⟨(some 47), (some (46, true)), .mv (.t 4)⟩, ⟨(some 48), (some (46, true)), .bin .eql (.t 47) (.c (.int .i64 (0)))⟩, ⟨(some 49), none, .pick (.t 46) (.t 48) (.c (.bool false))⟩, ⟨(some 50), none, .mv (.t 49)⟩, ⟨(some 51), (some (50, true)), .mv (.t 5)⟩, ⟨(some 52), (some (50, true)), .bsl 1 false [(.int .i64 (0))] 2 [(0, (.c (.int .i64 (5)))), (1, (.c (.int .i64 (6))))]⟩, ⟨(some 53), (some (50, true)), .call (.c (.fn K.probateref02_Same [] [])) [(.t 51), (.t 52)]⟩, ⟨(some 54), none, .pick (.t 50) (.t 53) (.c (.bool false))⟩, ⟨(some 55), none, .mv (.t 54)⟩, ⟨(some 56), (some (55, true)), .mv (.t 6)⟩, ⟨(some 57), (some (55, true)), .bin .eql (.t 56) (.c (.int .i64 (0)))⟩, ⟨(some 58), none, .pick (.t 55) (.t 57) (.c (.bool false))⟩, ⟨(some 59), none, .mv (.t 58)⟩, ⟨(some 60), (some (59, true)), .mv (.t 8)⟩, ⟨(some 61), (some (59, true)), .bin .eql (.t 60) (.c (.int .i64 (2)))⟩, ⟨(some 62), none, .pick (.t 59) (.t 61) (.c (.bool false))⟩, ⟨(some 63), none, .mv (.t 62)⟩, ⟨(some 64), (some (63, true)), .bsl 1 false [(.int .i64 (0))] 1 [(0, (.c (.int .i64 (15))))]⟩, ⟨(some 65), (some (63, true)), .call (.c (.fn K.word_Right [] [])) [(.t 64)]⟩, ⟨(some 66), none, .pick (.t 63) (.t 65) (.c (.bool false))⟩, ⟨(some 67), none, .mv (.t 66)⟩, ⟨(some 68), (some (67, true)), .bsl 1 false [(.int .i64 (0))] 1 [(0, (.c (.int .i64 (16))))]⟩, ⟨(some 69), (some (67, true)), .call (.c (.fn K.word_Right [] [])) [(.t 68)]⟩, ⟨(some 70), (some (67, true)), .un .not (.t 69)⟩, ⟨(some 71), none, .pick (.t 67) (.t 70) (.c (.bool false))⟩, ⟨(some 72), none, .mv (.t 71)⟩, ⟨(some 73), (some (72, true)), .bld [(.int .i64 (0)), (.int .i64 (0)), (.int .i64 (0)), (.sl 0 1 [])] [(0, 1, (.c (.int .i64 (3))))]⟩, ⟨(some 74), (some (72, true)), .bsl 1 false [(.int .i64 (0))] 1 [(0, (.c (.int .i64 (2))))]⟩, ⟨(some 75), (some (72, true)), .call (.c (.fn K.word_Fits [] [])) [(.t 73), (.t 74)]⟩, ⟨(some 76), none, .pick (.t 72) (.t 75) (.c (.bool false))⟩, ⟨(some 77), none, .mv (.t 76)⟩, ⟨(some 78), (some (77, true)), .bld [(.int .i64 (0)), (.int .i64 (0)), (.int .i64 (0)), (.sl 0 1 [])] [(0, 1, (.c (.int .i64 (2))))]⟩, ⟨(some 79), (some (77, true)), .bsl 1 false [(.int .i64 (0))] 1 [(0, (.c (.int .i64 (2))))]⟩, ⟨(some 80), (some (77, true)), .call (.c (.fn K.word_Fits [] [])) [(.t 78), (.t 79)]⟩, ⟨(some 81), (some (77, true)), .un .not (.t 80)⟩, ⟨(some 82), none, .pick (.t 77) (.t 81) (.c (.bool false))⟩, ⟨(some 83), none, .mv (.t 82)⟩, ⟨(some 84), (some (83, true)), .call (.c (.fn K.word_May [] [])) [(.c (.sl 0 1 [])), (.c (.int .i64 (0)))]⟩, ⟨(some 85), none, .pick (.t 83) (.t 84) (.c (.bool false))⟩, ⟨(some 0), none, .mv (.t 85)⟩]) .ret)))))))))))⟩
def A.probateref04_Apply.L1 : AC := .post (.seq (.seq (.reg [⟨(some 29), none, .mv (.t 9)⟩, ⟨(some 30), none, .mv (.t 1)⟩, ⟨(some 31), none, .len false (.t 30)⟩, ⟨(some 32), none, .bin .lss (.t 29) (.t 31)⟩])
  (.keep [0, 1, 6, 7, 8, 9, 32] (.cond (.t 32) .skip (.exit 2))))
  (.keep [0, 1, 6, 7, 8, 9] (.seq (.block 3 (.seq (.seq (.reg [⟨(some 35), none, .mv (.t 1)⟩, ⟨(some 36), none, .mv (.t 9)⟩, ⟨(some 37), none, .ia 3 (.t 35) (.t 36)⟩, ⟨(some 38), none, .fa 0 (.t 37)⟩, ⟨(some 39), none, .load false 1 (.t 38)⟩, ⟨(some 40), none, .mv (.t 7)⟩, ⟨(some 41), none, .bin .eql (.t 39) (.t 40)⟩, ⟨(some 42), none, .mv (.t 41)⟩, ⟨(some 43), (some (42, true)), .mv (.t 1)⟩, ⟨(some 44), (some (42, true)), .mv (.t 9)⟩, ⟨(some 45), (some (42, true)), .ia 3 (.t 43) (.t 44)⟩, ⟨(some 46), (some (42, true)), .fa 1 (.t 45)⟩, ⟨(some 47), (some (42, true)), .load false 1 (.t 46)⟩, ⟨(some 48), none, .pick (.t 42) (.t 47) (.c (.bool false))⟩])
  (.keep [0, 1, 6, 7, 8, 9, 48] (.cond (.t 48) (.reg [⟨(some 8), none, .mv (.c (.bool true))⟩]) .skip)))
  (.keep [0, 1, 6, 7, 8, 9] (.seq (.reg [⟨(some 49), none, .mv (.t 1)⟩, ⟨(some 50), none, .mv (.t 9)⟩, ⟨(some 51), none, .ia 3 (.t 49) (.t 50)⟩, ⟨(some 52), none, .fa 0 (.t 51)⟩, ⟨(some 53), none, .load false 1 (.t 52)⟩, ⟨(some 54), none, .mv (.t 7)⟩, ⟨(some 55), none, .bin .eql (.t 53) (.t 54)⟩, ⟨(some 56), none, .mv (.t 55)⟩, ⟨(some 57), (some (56, true)), .mv (.t 1)⟩, ⟨(some 58), (some (56, true)), .mv (.t 9)⟩, ⟨(some 59), (some (56, true)), .ia 3 (.t 57) (.t 58)⟩, ⟨(some 60), (some (56, true)), .fa 1 (.t 59)⟩, ⟨(some 61), (some (56, true)), .load false 1 (.t 60)⟩, ⟨(some 62), (some (56, true)), .un .not (.t 61)⟩, ⟨(some 63), none, .pick (.t 56) (.t 62) (.c (.bool false))⟩])
  (.keep [0, 1, 6, 7, 8, 9, 63] (.cond (.t 63) (.reg [⟨(some 64), none, .mv (.t 6)⟩, ⟨(some 65), none, .mv (.t 1)⟩, ⟨(some 66), none, .mv (.t 9)⟩, ⟨(some 67), none, .ia 3 (.t 65) (.t 66)⟩, ⟨(some 68), none, .fa 2 (.t 67)⟩, ⟨(some 69), none, .load false 1 (.t 68)⟩, ⟨(some 70), none, .bsl 1 false [(.int .i64 (0))] 1 [(0, (.t 69))]⟩, ⟨(some 71), none, .app 1 8 (.t 64) (.t 70)⟩, ⟨(some 6), none, .mv (.t 71)⟩]) .skip))))))
  (.keep [0, 1, 6, 7, 8, 9] (.reg [⟨(some 33), none, .mv (.t 9)⟩, ⟨(some 34), none, .bin .add (.t 33) (.c (.int .i64 (1)))⟩, ⟨(some 9), none, .mv (.t 34)⟩]))))) [0, 1, 6, 7, 8, 9]
def A.probateref04_Apply.L0 : AC := .post (.seq (.seq (.reg [⟨(some 19), none, .mv (.t 7)⟩, ⟨(some 20), none, .mv (.t 0)⟩, ⟨(some 21), none, .len false (.t 20)⟩, ⟨(some 22), none, .bin .leq (.t 19) (.t 21)⟩])
  (.keep [0, 1, 6, 7, 22] (.cond (.t 22) .skip (.exit 0))))
  (.keep [0, 1, 6, 7] (.seq (.block 1 (.seq (.reg [⟨(some 25), none, .mv (.t 7)⟩, ⟨(some 26), none, .mv (.t 0)⟩, ⟨(some 27), none, .len false (.t 26)⟩, ⟨(some 28), none, .bin .eql (.t 25) (.t 27)⟩, ⟨(some 8), none, .mv (.t 28)⟩])
  (.keep [0, 1, 6, 7, 8] (.seq (.seq (.reg [⟨(some 9), none, .mv (.c (.int .i64 (0)))⟩])
  (.keep [0, 1, 6, 7, 8, 9] (.block 2 (.loop A.probateref04_Apply.L1))))
  (.keep [0, 1, 6, 7, 8] (.seq (.reg [⟨(some 72), none, .mv (.t 8)⟩, ⟨(some 73), none, .un .not (.t 72)⟩])
  (.keep [0, 1, 6, 7, 73] (.cond (.t 73) (.reg [⟨(some 74), none, .mv (.t 6)⟩, ⟨(some 75), none, .mv (.t 0)⟩, ⟨(some 76), none, .mv (.t 7)⟩, ⟨(some 77), none, .ia 1 (.t 75) (.t 76)⟩, ⟨(some 78), none, .load false 1 (.t 77)⟩, ⟨(some 79), none, .bsl 1 false [(.int .i64 (0))] 1 [(0, (.t 78))]⟩, ⟨(some 80), none, .app 1 8 (.t 74) (.t 79)⟩, ⟨(some 6), none, .mv (.t 80)⟩]) .skip))))))))
  (.keep [0, 1, 6, 7] (.reg [⟨(some 23), none, .mv (.t 7)⟩, ⟨(some 24), none, .bin .add (.t 23) (.c (.int .i64 (1)))⟩, ⟨(some 7), none, .mv (.t 24)⟩]))))) [0, 1, 6, 7]
def A.probateref04_Apply : AFn := ⟨85, [(4, none), (5, none)], (.seq (.reg [⟨(some 4), none, .mv (.c (.sl 0 1 []))⟩, ⟨(some 5), none, .mv (.c (.int .i64 (0)))⟩])
  (.keep [0, 1] (.seq (.seq (.reg [⟨(some 10), none, .mv (.t 0)⟩, ⟨(some 11), none, .call (.c (.fn K.probateref04_Right [] [])) [(.t 10)]⟩, ⟨(some 12), none, .un .not (.t 11)⟩])
  (.keep [0, 1, 12] (.cond (.t 12) (.seq (.reg [⟨(some 4), none, .mv (.c (.sl 0 1 []))⟩, ⟨(some 5), none, .mv (.c (.int .i64 (1)))⟩]) .ret) .skip)))
  (.keep [0, 1] (.seq (.seq (.reg [⟨(some 13), none, .mv (.t 1)⟩, ⟨(some 14), none, .mv (.t 0)⟩, ⟨(some 15), none, .len false (.t 14)⟩, ⟨(some 16), none, .call (.c (.fn K.probateref04_May [] [])) [(.t 13), (.t 15)]⟩, ⟨(some 17), none, .un .not (.t 16)⟩])
  (.keep [0, 1, 17] (.cond (.t 17) (.seq (.reg [⟨(some 4), none, .mv (.c (.sl 0 1 []))⟩, ⟨(some 5), none, .mv (.c (.int .i64 (2)))⟩]) .ret) .skip)))
  (.keep [0, 1] (.seq (.reg [⟨(some 18), none, .bsl 1 false [(.int .i64 (0))] 0 []⟩, ⟨(some 6), none, .mv (.t 18)⟩])
  (.keep [0, 1, 6] (.seq (.seq (.reg [⟨(some 7), none, .mv (.c (.int .i64 (0)))⟩])
  (.keep [0, 1, 6, 7] (.block 0 (.loop A.probateref04_Apply.L0))))
  (.keep [6] (.seq (.seq (.reg [⟨(some 81), none, .mv (.t 6)⟩, ⟨(some 82), none, .len false (.t 81)⟩, ⟨(some 83), none, .bin .gtr (.t 82) (.c (.int .i64 (24)))⟩])
  (.keep [6, 83] (.cond (.t 83) (.seq (.reg [⟨(some 4), none, .mv (.c (.sl 0 1 []))⟩, ⟨(some 5), none, .mv (.c (.int .i64 (5)))⟩]) .ret) .skip)))
  (.keep [6] (.seq (.reg [⟨(some 84), none, .mv (.t 6)⟩, ⟨(some 4), none, .mv (.t 84)⟩, ⟨(some 5), none, .mv (.c (.int .i64 (0)))⟩]) .ret)))))))))))))⟩
def A.probateref04_Right.L0 : AC := .post (.seq (.seq (.reg [⟨(some 7), none, .mv (.t 3)⟩, ⟨(some 8), none, .mv (.t 0)⟩, ⟨(some 9), none, .len false (.t 8)⟩, ⟨(some 10), none, .bin .lss (.t 7) (.t 9)⟩])
  (.keep [0, 3, 10] (.cond (.t 10) .skip (.exit 0))))
  (.keep [0, 3] (.seq (.block 1 (.seq (.reg [⟨(some 13), none, .mv (.t 0)⟩, ⟨(some 14), none, .mv (.t 3)⟩, ⟨(some 15), none, .ia 1 (.t 13) (.t 14)⟩, ⟨(some 16), none, .load false 1 (.t 15)⟩, ⟨(some 17), none, .bin .lss (.t 16) (.c (.int .i64 (0)))⟩, ⟨(some 18), none, .mv (.t 17)⟩, ⟨(some 19), (some (18, false)), .mv (.t 0)⟩, ⟨(some 20), (some (18, false)), .mv (.t 3)⟩, ⟨(some 21), (some (18, false)), .ia 1 (.t 19) (.t 20)⟩, ⟨(some 22), (some (18, false)), .load false 1 (.t 21)⟩, ⟨(some 23), (some (18, false)), .bin .gtr (.t 22) (.c (.int .i64 (15)))⟩, ⟨(some 24), none, .pick (.t 18) (.c (.bool true)) (.t 23)⟩])
  (.keep [0, 3, 24] (.cond (.t 24) (.seq (.reg [⟨(some 2), none, .mv (.c (.bool false))⟩]) .ret) .skip))))
  (.keep [0, 3] (.reg [⟨(some 11), none, .mv (.t 3)⟩, ⟨(some 12), none, .bin .add (.t 11) (.c (.int .i64 (1)))⟩, ⟨(some 3), none, .mv (.t 12)⟩]))))) [0, 3]
def A.probateref04_Right : AFn := ⟨25, [(2, none)], (.seq (.reg [⟨(some 2), none, .mv (.c (.bool false))⟩])
  (.keep [0] (.seq (.seq (.reg [⟨(some 4), none, .mv (.t 0)⟩, ⟨(some 5), none, .len false (.t 4)⟩, ⟨(some 6), none, .bin .gtr (.t 5) (.c (.int .i64 (24)))⟩])
  (.keep [0, 6] (.cond (.t 6) (.seq (.reg [⟨(some 2), none, .mv (.c (.bool false))⟩]) .ret) .skip)))
  (.keep [0] (.seq (.seq (.reg [⟨(some 3), none, .mv (.c (.int .i64 (0)))⟩])
  (.keep [0, 3] (.block 0 (.loop A.probateref04_Right.L0))))
  (.keep [] (.seq (.reg [⟨(some 2), none, .mv (.c (.bool true))⟩]) .ret)))))))⟩
def A.probateref04_Fits.L0 : AC := .post (.seq (.seq (.reg [⟨(some 9), none, .mv (.t 5)⟩, ⟨(some 10), none, .mv (.t 1)⟩, ⟨(some 11), none, .len false (.t 10)⟩, ⟨(some 12), none, .bin .lss (.t 9) (.t 11)⟩])
  (.keep [1, 2, 5, 12] (.cond (.t 12) .skip (.exit 0))))
  (.keep [1, 2, 5] (.seq (.block 1 (.seq (.draw [(.pl, ⟨(some 15), none, .mv (.t 1)⟩), (.pl, ⟨(some 16), none, .mv (.t 5)⟩), (.pl, ⟨(some 17), none, .ia 1 (.t 15) (.t 16)⟩), (.pl, ⟨(some 18), none, .load false 1 (.t 17)⟩), (.pl, ⟨(some 19), none, .fa 0 (.t 2)⟩), (.pl, ⟨(some 20), none, .load false 1 (.t 19)⟩), (.pl, ⟨(some 21), none, .bin .geq (.t 18) (.t 20)⟩)])
  (.keep [1, 2, 5, 21] (.cond (.t 21) (.seq (.reg [⟨(some 4), none, .mv (.c (.bool false))⟩]) .ret) .skip))))
  (.keep [1, 2, 5] (.reg [⟨(some 13), none, .mv (.t 5)⟩, ⟨(some 14), none, .bin .add (.t 13) (.c (.int .i64 (1)))⟩, ⟨(some 5), none, .mv (.t 14)⟩]))))) [1, 2, 5]
def A.probateref04_Fits : AFn := ⟨22, [(4, none)], (.seq (.reg [⟨(some 2), none, .box (.t 0)⟩, ⟨(some 4), none, .mv (.c (.bool false))⟩])
  (.keep [1, 2] (.seq (.seq (.reg [⟨(some 6), none, .mv (.t 1)⟩, ⟨(some 7), none, .call (.c (.fn K.probateref04_Right [] [])) [(.t 6)]⟩, ⟨(some 8), none, .un .not (.t 7)⟩])
  (.keep [1, 2, 8] (.cond (.t 8) (.seq (.reg [⟨(some 4), none, .mv (.c (.bool false))⟩]) .ret) .skip)))
  (.keep [1, 2] (.seq (.seq (.reg [⟨(some 5), none, .mv (.c (.int .i64 (0)))⟩])
  (.keep [1, 2, 5] (.block 0 (.loop A.probateref04_Fits.L0))))
  (.keep [] (.seq (.reg [⟨(some 4), none, .mv (.c (.bool true))⟩]) .ret)))))))⟩
def A.probateref04_May.L0 : AC := .post (.seq (.seq (.reg [⟨(some 6), none, .mv (.t 5)⟩, ⟨(some 7), none, .mv (.t 0)⟩, ⟨(some 8), none, .len false (.t 7)⟩, ⟨(some 9), none, .bin .lss (.t 6) (.t 8)⟩])
  (.keep [0, 1, 5, 9] (.cond (.t 9) .skip (.exit 0))))
  (.keep [0, 1, 5] (.seq (.block 1 (.seq (.seq (.reg [⟨(some 12), none, .mv (.t 0)⟩, ⟨(some 13), none, .mv (.t 5)⟩, ⟨(some 14), none, .ia 3 (.t 12) (.t 13)⟩, ⟨(some 15), none, .fa 0 (.t 14)⟩, ⟨(some 16), none, .load false 1 (.t 15)⟩, ⟨(some 17), none, .bin .lss (.t 16) (.c (.int .i64 (0)))⟩, ⟨(some 18), none, .mv (.t 17)⟩, ⟨(some 19), (some (18, false)), .mv (.t 0)⟩, ⟨(some 20), (some (18, false)), .mv (.t 5)⟩, ⟨(some 21), (some (18, false)), .ia 3 (.t 19) (.t 20)⟩, ⟨(some 22), (some (18, false)), .fa 0 (.t 21)⟩, ⟨(some 23), (some (18, false)), .load false 1 (.t 22)⟩, ⟨(some 24), (some (18, false)), .mv (.t 1)⟩, ⟨(some 25), (some (18, false)), .bin .gtr (.t 23) (.t 24)⟩, ⟨(some 26), none, .pick (.t 18) (.c (.bool true)) (.t 25)⟩, ⟨(some 27), none, .mv (.t 26)⟩, ⟨(some 28), (some (27, false)), .mv (.t 0)⟩, ⟨(some 29), (some (27, false)), .mv (.t 5)⟩, ⟨(some 30), (some (27, false)), .ia 3 (.t 28) (.t 29)⟩, ⟨(some 31), (some (27, false)), .fa 2 (.t 30)⟩, ⟨(some 32), (some (27, false)), .load false 1 (.t 31)⟩, ⟨(some 33), (some (27, false)), .bin .lss (.t 32) (.c (.int .i64 (0)))⟩, ⟨(some 34), none, .pick (.t 27) (.c (.bool true)) (.t 33)⟩, ⟨(some 35), none, .mv (.t 34)⟩, ⟨(some 36), (some (35, false)), .mv (.t 0)⟩, ⟨(some 37), (some (35, false)), .mv (.t 5)⟩, ⟨(some 38), (some (35, false)), .ia 3 (.t 36) (.t 37)⟩, ⟨(some 39), (some (35, false)), .fa 2 (.t 38)⟩, ⟨(some 40), (some (35, false)), .load false 1 (.t 39)⟩, ⟨(some 41), (some (35, false)), .bin .gtr (.t 40) (.c (.int .i64 (15)))⟩, ⟨(some 42), none, .pick (.t 35) (.c (.bool true)) (.t 41)⟩])
  (.keep [0, 1, 5, 42] (.cond (.t 42) (.seq (.reg [⟨(some 4), none, .mv (.c (.bool false))⟩]) .ret) .skip)))
  (.keep [0, 1, 5] (.seq (.seq (.reg [⟨(some 43), none, .mv (.t 0)⟩, ⟨(some 44), none, .mv (.t 5)⟩, ⟨(some 45), none, .ia 3 (.t 43) (.t 44)⟩, ⟨(some 46), none, .fa 1 (.t 45)⟩, ⟨(some 47), none, .load false 1 (.t 46)⟩, ⟨(some 48), none, .mv (.t 47)⟩, ⟨(some 49), (some (48, true)), .mv (.t 0)⟩, ⟨(some 50), (some (48, true)), .mv (.t 5)⟩, ⟨(some 51), (some (48, true)), .ia 3 (.t 49) (.t 50)⟩, ⟨(some 52), (some (48, true)), .fa 0 (.t 51)⟩, ⟨(some 53), (some (48, true)), .load false 1 (.t 52)⟩, ⟨(some 54), (some (48, true)), .mv (.t 1)⟩, ⟨(some 55), (some (48, true)), .bin .geq (.t 53) (.t 54)⟩, ⟨(some 56), (some (48, true)), .mv (.t 55)⟩, ⟨(some 57), (some (56, false)), .mv (.t 0)⟩, ⟨(some 58), (some (56, false)), .mv (.t 5)⟩, ⟨(some 59), (some (56, false)), .ia 3 (.t 57) (.t 58)⟩, ⟨(some 60), (some (56, false)), .fa 2 (.t 59)⟩, ⟨(some 61), (some (56, false)), .load false 1 (.t 60)⟩, ⟨(some 62), (some (56, false)), .bin .neq (.t 61) (.c (.int .i64 (0)))⟩, ⟨(some 63), (some (48, true)), .pick (.t 56) (.c (.bool true)) (.t 62)⟩, ⟨(some 64), none, .pick (.t 48) (.t 63) (.c (.bool false))⟩])
  (.keep [0, 1, 5, 64] (.cond (.t 64) (.seq (.reg [⟨(some 4), none, .mv (.c (.bool false))⟩]) .ret) .skip)))
  (.keep [0, 1, 5] (.seq (.draw [(.pl, ⟨(some 65), none, .mv (.t 5)⟩), (.pl, ⟨(some 66), none, .bin .gtr (.t 65) (.c (.int .i64 (0)))⟩), (.pl, ⟨(some 67), none, .mv (.t 66)⟩), (.pl, ⟨(some 68), (some (67, true)), .mv (.t 0)⟩), (.pl, ⟨(some 69), (some (67, true)), .mv (.t 5)⟩), (.pl, ⟨(some 70), (some (67, true)), .ia 3 (.t 68) (.t 69)⟩), (.pl, ⟨(some 71), (some (67, true)), .fa 0 (.t 70)⟩), (.pl, ⟨(some 72), (some (67, true)), .load false 1 (.t 71)⟩), (.pl, ⟨(some 73), (some (67, true)), .mv (.t 0)⟩), (.pl, ⟨(some 74), (some (67, true)), .mv (.t 5)⟩), (.pl, ⟨(some 75), (some (67, true)), .bin .sub (.t 74) (.c (.int .i64 (1)))⟩), (.pl, ⟨(some 76), (some (67, true)), .ia 3 (.t 73) (.t 75)⟩), (.pl, ⟨(some 77), (some (67, true)), .fa 0 (.t 76)⟩), (.pl, ⟨(some 78), (some (67, true)), .load false 1 (.t 77)⟩), (.pl, ⟨(some 79), (some (67, true)), .bin .lss (.t 72) (.t 78)⟩), (.pl, ⟨(some 80), (some (67, true)), .mv (.t 79)⟩), (.pl, ⟨(some 81), (some (80, false)), .mv (.t 0)⟩), (.pl, ⟨(some 82), (some (80, false)), .mv (.t 5)⟩), (.pl, ⟨(some 83), (some (80, false)), .bin .sub (.t 82) (.c (.int .i64 (1)))⟩), (.pl, ⟨(some 84), (some (80, false)), .ia 3 (.t 81) (.t 83)⟩), (.pl, ⟨(some 85), (some (80, false)), .fa 1 (.t 84)⟩), (.pl, ⟨(some 86), (some (80, false)), .load false 1 (.t 85)⟩), (.pl, ⟨(some 87), (some (80, false)), .mv (.t 86)⟩), (.pl, ⟨(some 88), (some (87, true)), .mv (.t 0)⟩), (.pl, ⟨(some 89), (some (87, true)), .mv (.t 5)⟩), (.pl, ⟨(some 90), (some (87, true)), .ia 3 (.t 88) (.t 89)⟩), (.pl, ⟨(some 91), (some (87, true)), .fa 0 (.t 90)⟩), (.pl, ⟨(some 92), (some (87, true)), .load false 1 (.t 91)⟩), (.pl, ⟨(some 93), (some (87, true)), .mv (.t 0)⟩), (.pl, ⟨(some 94), (some (87, true)), .mv (.t 5)⟩), (.pl, ⟨(some 95), (some (87, true)), .bin .sub (.t 94) (.c (.int .i64 (1)))⟩), (.pl, ⟨(some 96), (some (87, true)), .ia 3 (.t 93) (.t 95)⟩), (.pl, ⟨(some 97), (some (87, true)), .fa 0 (.t 96)⟩), (.pl, ⟨(some 98), (some (87, true)), .load false 1 (.t 97)⟩), (.pl, ⟨(some 99), (some (87, true)), .bin .eql (.t 92) (.t 98)⟩), (.pl, ⟨(some 100), (some (80, false)), .pick (.t 87) (.t 99) (.c (.bool false))⟩), (.pl, ⟨(some 101), (some (67, true)), .pick (.t 80) (.c (.bool true)) (.t 100)⟩), (.pl, ⟨(some 102), none, .pick (.t 67) (.t 101) (.c (.bool false))⟩)])
  (.keep [0, 1, 5, 102] (.cond (.t 102) (.seq (.reg [⟨(some 4), none, .mv (.c (.bool false))⟩]) .ret) .skip))))))))
  (.keep [0, 1, 5] (.reg [⟨(some 10), none, .mv (.t 5)⟩, ⟨(some 11), none, .bin .add (.t 10) (.c (.int .i64 (1)))⟩, ⟨(some 5), none, .mv (.t 11)⟩]))))) [0, 1, 5]
def A.probateref04_May : AFn := ⟨103, [(4, none)], (.seq (.reg [⟨(some 4), none, .mv (.c (.bool false))⟩])
  (.keep [0, 1] (.seq (.seq (.reg [⟨(some 5), none, .mv (.c (.int .i64 (0)))⟩])
  (.keep [0, 1, 5] (.block 0 (.loop A.probateref04_May.L0))))
  (.keep [] (.seq (.reg [⟨(some 4), none, .mv (.c (.bool true))⟩]) .ret)))))⟩
end Go.Proofs.Ytmobijebjkjnoaa.Al
namespace Go.Proofs.Ytmobijebjkjnoaa.Al
open Go Go.RowKit
set_option linter.unusedSimpArgs false
set_option linter.unusedVariables false
attribute [-simp] List.getD_eq_getElem?_getD Int.not_lt Int.not_le List.map_take
/-- What becomes of a word from a place on. -/
def appF (w : List Int) : List Ed → Nat → List Int
  | [], i => w.drop i
  | x :: l, i => (w.take x.at'.toNat).drop i ++ (if x.drop = true then appF w l (x.at'.toNat + 1) else x.tok :: appF w l x.at'.toNat)
end Go.Proofs.Ytmobijebjkjnoaa.Al
namespace Go.Proofs.Ytmobijebjkjnoaa.Al
open Go Go.RowKit
set_option linter.unusedSimpArgs false
set_option linter.unusedVariables false
attribute [-simp] List.getD_eq_getElem?_getD Int.not_lt Int.not_le List.map_take
/-- Objects of Apply: how many tokens were put (m), and the first 24 of them (o). -/
structure PO (h0 h : AH) (m o : Nat) (L : List Int) : Prop where
  own : ∃ e st, Own h0 h 1 e st (ints (L.take 24)) ∧ h.objs o = [.sl e st (ints (L.take 24))]
  many : h.objs m = [.int .i64 L.length]
  hm : h0.nobj ≤ m
  ho : h0.nobj ≤ o
  ne : ¬ m = o
  lm : m < h.nobj
  lo : o < h.nobj
theorem PO.new {h0 h : AH} {m o : Nat} {L : List Int} (p : PO h0 h m o L) (z : List V) : PO h0 (h.new z) m o L := by
  obtain ⟨e, st, ow, ob⟩ := p.own
  have := p.lm
  have := p.lo
  exact ⟨⟨e, st, ⟨ow.gr.new z, ow.el, ow.st⟩, by rw [new_objs_ne _ _ (by omega)]; exact ob⟩, by rw [new_objs_ne _ _ (by omega)]; exact p.many, p.hm, p.ho, p.ne, by simp; omega, by simp; omega⟩
theorem PO.set {h0 h : AH} {m o : Nat} {L : List Int} (p : PO h0 h m o L) {q : Nat} (hq : h0.nobj ≤ q) (h1 : ¬ m = q) (h2 : ¬ o = q) (z : List V) : PO h0 (h.set q z) m o L := by
  obtain ⟨e, st, ow, ob⟩ := p.own
  exact ⟨⟨e, st, ⟨ow.gr.set hq z, ow.el, ow.st⟩, by rw [set_objs_ne _ _ _ h2]; exact ob⟩, by rw [set_objs_ne _ _ _ h1]; exact p.many, p.hm, p.ho, p.ne, p.lm, p.lo⟩
theorem PO.gr {h0 h : AH} {m o : Nat} {L : List Int} (p : PO h0 h m o L) : Gr h0 h := by obtain ⟨e, st, ow, _⟩ := p.own; exact ow.gr
end Go.Proofs.Ytmobijebjkjnoaa.Al
namespace Go.Proofs.Ytmobijebjkjnoaa.Al
def A.gram_Bytes.L1 : AC := .post (.seq (.reg [⟨(some 52), none, .bin .lss (.t 51) (.t 50)⟩])
  (.keep [4, 33, 34, 35, 49, 50, 51, 52] (.seq (.cond (.t 52) .skip (.exit 2))
  (.keep [4, 33, 34, 35, 49, 50, 51] (.seq (.block 3 (.seq (.reg [⟨(some 53), none, .ia 2 (.t 49) (.t 51)⟩, ⟨(some 54), none, .load true 2 (.t 53)⟩, ⟨(some 8), none, .alloc [(.bool false), (.int .i64 (0))]⟩, ⟨none, none, .store 2 (.t 8) (.t 54)⟩])
  (.keep [4, 8, 33, 34, 35, 49, 50, 51] (.seq (.reg [⟨(some 55), none, .fa 1 (.t 8)⟩, ⟨(some 56), none, .load false 1 (.t 55)⟩, ⟨(some 57), none, .bin .shl (.t 56) (.c (.int .u64 (1)))⟩, ⟨(some 9), none, .mv (.t 57)⟩])
  (.keep [4, 8, 9, 33, 34, 35, 49, 50, 51] (.seq (.seq (.reg [⟨(some 58), none, .fa 0 (.t 8)⟩, ⟨(some 59), none, .load false 1 (.t 58)⟩])
  (.keep [4, 9, 33, 34, 35, 49, 50, 51, 59] (.cond (.t 59) (.reg [⟨(some 60), none, .mv (.t 9)⟩, ⟨(some 61), none, .bin .or (.t 60) (.c (.int .i64 (1)))⟩, ⟨(some 9), none, .mv (.t 61)⟩]) .skip)))
  (.keep [4, 9, 33, 34, 35, 49, 50, 51] (.reg [⟨(some 62), none, .mv (.t 4)⟩, ⟨(some 63), none, .mv (.t 9)⟩, ⟨(some 64), none, .call (.c (.fn K.wire_Writer_Num [] [])) [(.t 62), (.t 63)]⟩]))))))))
  (.keep [4, 33, 34, 35, 49, 50, 51] (.reg [⟨(some 65), none, .bin .add (.t 51) (.c (.int .i64 (1)))⟩, ⟨(some 51), none, .mv (.t 65)⟩]))))))) [4, 33, 34, 35, 49, 50, 51]
def A.gram_Bytes.L0 : AC := .post (.seq (.reg [⟨(some 36), none, .bin .lss (.t 35) (.t 34)⟩])
  (.keep [4, 33, 34, 35, 36] (.seq (.cond (.t 36) .skip (.exit 0))
  (.keep [4, 33, 34, 35] (.seq (.block 1 (.seq (.reg [⟨(some 37), none, .ia 2 (.t 33) (.t 35)⟩, ⟨(some 38), none, .load true 2 (.t 37)⟩, ⟨(some 6), none, .alloc [(.int .i64 (0)), (.sl 0 1 [])]⟩, ⟨none, none, .store 2 (.t 6) (.t 38)⟩])
  (.keep [4, 6, 33, 34, 35] (.seq (.reg [⟨(some 39), none, .mv (.t 4)⟩, ⟨(some 40), none, .fa 0 (.t 6)⟩, ⟨(some 41), none, .load false 1 (.t 40)⟩, ⟨(some 42), none, .call (.c (.fn K.wire_Writer_Num [] [])) [(.t 39), (.t 41)]⟩])
  (.keep [4, 6, 33, 34, 35] (.seq (.reg [⟨(some 43), none, .mv (.t 4)⟩, ⟨(some 44), none, .fa 1 (.t 6)⟩, ⟨(some 45), none, .load false 1 (.t 44)⟩, ⟨(some 46), none, .len false (.t 45)⟩, ⟨(some 47), none, .call (.c (.fn K.wire_Writer_Num [] [])) [(.t 43), (.t 46)]⟩])
  (.keep [4, 6, 33, 34, 35] (.seq (.reg [⟨(some 48), none, .fa 1 (.t 6)⟩, ⟨(some 49), none, .load false 1 (.t 48)⟩, ⟨(some 50), none, .len false (.t 49)⟩, ⟨(some 51), none, .mv (.c (.int .i64 (0)))⟩])
  (.keep [4, 33, 34, 35, 49, 50, 51] (.block 2 (.loop A.gram_Bytes.L1)))))))))))
  (.keep [4, 33, 34, 35] (.reg [⟨(some 66), none, .bin .add (.t 35) (.c (.int .i64 (1)))⟩, ⟨(some 35), none, .mv (.t 66)⟩]))))))) [4, 33, 34, 35]
def A.gram_Bytes : AFn := ⟨69, [(2, none), (3, none)], (.seq (.reg [⟨(some 1), none, .box (.t 0)⟩, ⟨(some 2), none, .mv (.c (.sl 0 1 []))⟩, ⟨(some 3), none, .mv (.c (.int .i64 (0)))⟩])
  (.keep [1] (.seq (.seq (.reg [⟨(some 10), none, .load true 4 (.t 1)⟩, ⟨(some 11), none, .call (.c (.fn K.gram_Right [] [])) [(.t 10)]⟩, ⟨(some 12), none, .un .not (.t 11)⟩])
  (.keep [1, 12] (.cond (.t 12) (.seq (.reg [⟨(some 2), none, .mv (.c (.sl 0 1 []))⟩, ⟨(some 3), none, .mv (.c (.int .i64 (1)))⟩]) .ret) .skip)))
  (.keep [1] (.seq (.reg [⟨(some 13), none, .bld [(.sl 0 1 [])] []⟩, ⟨(some 14), none, .box (.t 13)⟩, ⟨(some 4), none, .mv (.t 14)⟩])
  (.keep [1, 4] (.seq (.reg [⟨(some 15), none, .mv (.t 4)⟩, ⟨(some 16), none, .fa 0 (.t 1)⟩, ⟨(some 17), none, .load false 1 (.t 16)⟩, ⟨(some 18), none, .call (.c (.fn K.wire_Writer_Num [] [])) [(.t 15), (.t 17)]⟩])
  (.keep [1, 4] (.seq (.reg [⟨(some 19), none, .mv (.t 4)⟩, ⟨(some 20), none, .fa 1 (.t 1)⟩, ⟨(some 21), none, .load false 1 (.t 20)⟩, ⟨(some 22), none, .call (.c (.fn K.wire_Writer_Num [] [])) [(.t 19), (.t 21)]⟩])
  (.keep [1, 4] (.seq (.reg [⟨(some 23), none, .mv (.t 4)⟩, ⟨(some 24), none, .fa 2 (.t 1)⟩, ⟨(some 25), none, .load false 1 (.t 24)⟩, ⟨(some 26), none, .call (.c (.fn K.wire_Writer_Num [] [])) [(.t 23), (.t 25)]⟩])
  (.keep [1, 4] (.seq (.reg [⟨(some 27), none, .mv (.t 4)⟩, ⟨(some 28), none, .fa 3 (.t 1)⟩, ⟨(some 29), none, .load false 1 (.t 28)⟩, ⟨(some 30), none, .len false (.t 29)⟩, ⟨(some 31), none, .call (.c (.fn K.wire_Writer_Num [] [])) [(.t 27), (.t 30)]⟩])
  (.keep [1, 4] (.seq (.seq (.reg [⟨(some 32), none, .fa 3 (.t 1)⟩, ⟨(some 33), none, .load false 1 (.t 32)⟩, ⟨(some 34), none, .len false (.t 33)⟩, ⟨(some 35), none, .mv (.c (.int .i64 (0)))⟩])
  (.keep [4, 33, 34, 35] (.block 0 (.loop A.gram_Bytes.L0))))
  (.keep [4] (.seq (.reg [⟨(some 67), none, .mv (.t 4)⟩, ⟨(some 68), none, .call (.c (.fn K.wire_Writer_Bytes [] [])) [(.t 67)]⟩, ⟨(some 2), none, .mv (.t 68)⟩, ⟨(some 3), none, .mv (.c (.int .i64 (0)))⟩]) .ret)))))))))))))))))⟩
def A.gram_Read : AFn := ⟨32, [(2, (some (true, 4))), (3, none)], (.seq (.reg [⟨(some 2), none, .alloc [(.int .i64 (0)), (.int .i64 (0)), (.int .i64 (0)), (.sl 0 1 [])]⟩, ⟨(some 3), none, .mv (.c (.int .i64 (0)))⟩])
  (.keep [0, 2] (.seq (.reg [⟨(some 7), none, .mv (.t 0)⟩, ⟨(some 8), none, .call (.c (.fn K.wire_New [] [])) [(.t 7)]⟩, ⟨(some 4), none, .mv (.t 8)⟩])
  (.keep [2, 4] (.seq (.reg [⟨(some 5), none, .alloc [(.int .i64 (0)), (.int .i64 (0)), (.int .i64 (0)), (.sl 0 1 [])]⟩])
  (.keep [2, 4, 5] (.seq (.reg [⟨(some 9), none, .mv (.t 4)⟩, ⟨(some 10), none, .call (.c (.fn K.wire_Reader_Num [] [])) [(.t 9), (.c (.int .i64 (16)))]⟩, ⟨(some 11), none, .fa 0 (.t 5)⟩, ⟨none, none, .store 1 (.t 11) (.t 10)⟩])
  (.keep [2, 4, 5] (.seq (.reg [⟨(some 12), none, .mv (.t 4)⟩, ⟨(some 13), none, .call (.c (.fn K.wire_Reader_Num [] [])) [(.t 12), (.c (.int .i64 (24)))]⟩, ⟨(some 14), none, .fa 1 (.t 5)⟩, ⟨none, none, .store 1 (.t 14) (.t 13)⟩])
  (.keep [2, 4, 5] (.seq (.reg [⟨(some 15), none, .mv (.t 4)⟩, ⟨(some 16), none, .call (.c (.fn K.wire_Reader_Num [] [])) [(.t 15), (.c (.int .i64 (23)))]⟩, ⟨(some 17), none, .fa 2 (.t 5)⟩, ⟨none, none, .store 1 (.t 17) (.t 16)⟩])
  (.keep [2, 4, 5] (.seq (.reg [⟨(some 18), none, .mv (.t 4)⟩, ⟨(some 19), none, .call (.c (.fn K.wire_List_Prod [] [])) [(.t 18), (.c (.int .i64 (60))), (.c (.fn K.gram_prod [] []))]⟩, ⟨(some 20), none, .fa 3 (.t 5)⟩, ⟨none, none, .store 1 (.t 20) (.t 19)⟩])
  (.keep [2, 4, 5] (.seq (.seq (.reg [⟨(some 21), none, .mv (.t 4)⟩, ⟨(some 22), none, .call (.c (.fn K.wire_Reader_End [] [])) [(.t 21)]⟩, ⟨(some 6), none, .mv (.t 22)⟩])
  (.keep [2, 5, 6] (.seq (.reg [⟨(some 23), none, .mv (.t 6)⟩, ⟨(some 24), none, .bin .neq (.t 23) (.c (.int .i64 (0)))⟩])
  (.keep [2, 5, 6, 24] (.cond (.t 24) (.seq (.reg [⟨(some 25), none, .bld [(.int .i64 (0)), (.int .i64 (0)), (.int .i64 (0)), (.sl 0 1 [])] []⟩, ⟨(some 26), none, .mv (.t 6)⟩, ⟨none, none, .store 4 (.t 2) (.t 25)⟩, ⟨(some 3), none, .mv (.t 26)⟩]) .ret) .skip)))))
  (.keep [2, 5] (.seq (.seq (.reg [⟨(some 27), none, .load true 4 (.t 5)⟩, ⟨(some 28), none, .call (.c (.fn K.gram_Right [] [])) [(.t 27)]⟩, ⟨(some 29), none, .un .not (.t 28)⟩])
  (.keep [2, 5, 29] (.cond (.t 29) (.seq (.reg [⟨(some 30), none, .bld [(.int .i64 (0)), (.int .i64 (0)), (.int .i64 (0)), (.sl 0 1 [])] []⟩, ⟨none, none, .store 4 (.t 2) (.t 30)⟩, ⟨(some 3), none, .mv (.c (.int .i64 (2)))⟩]) .ret) .skip)))
  (.keep [2, 5] (.seq (.reg [⟨(some 31), none, .load true 4 (.t 5)⟩, ⟨none, none, .store 4 (.t 2) (.t 31)⟩, ⟨(some 3), none, .mv (.c (.int .i64 (0)))⟩]) .ret)))))))))))))))))))⟩
def A.gram_Right : AFn := ⟨33, [(2, none)], (.seq (.reg [⟨(some 1), none, .box (.t 0)⟩, ⟨(some 2), none, .mv (.c (.bool false))⟩])
  (.keep [1] (.seq (.block 0 (.seq (.seq (.reg [⟨(some 4), none, .fa 0 (.t 1)⟩, ⟨(some 5), none, .load false 1 (.t 4)⟩, ⟨(some 6), none, .bin .lss (.t 5) (.c (.int .i64 (0)))⟩, ⟨(some 3), none, .mv (.t 6)⟩])
  (.keep [1, 3] (.cond (.t 3) .skip (.seq (.reg [⟨(some 7), none, .fa 0 (.t 1)⟩, ⟨(some 8), none, .load false 1 (.t 7)⟩, ⟨(some 9), none, .bin .gtr (.t 8) (.c (.int .i64 (16)))⟩, ⟨(some 3), none, .mv (.t 9)⟩])
  (.keep [1, 3] (.cond (.t 3) .skip (.seq (.reg [⟨(some 10), none, .fa 1 (.t 1)⟩, ⟨(some 11), none, .load false 1 (.t 10)⟩, ⟨(some 12), none, .bin .lss (.t 11) (.c (.int .i64 (1)))⟩, ⟨(some 3), none, .mv (.t 12)⟩])
  (.keep [1, 3] (.cond (.t 3) .skip (.seq (.reg [⟨(some 13), none, .fa 1 (.t 1)⟩, ⟨(some 14), none, .load false 1 (.t 13)⟩, ⟨(some 15), none, .bin .gtr (.t 14) (.c (.int .i64 (24)))⟩, ⟨(some 3), none, .mv (.t 15)⟩])
  (.keep [1, 3] (.cond (.t 3) .skip (.seq (.reg [⟨(some 16), none, .fa 2 (.t 1)⟩, ⟨(some 17), none, .load false 1 (.t 16)⟩, ⟨(some 18), none, .bin .lss (.t 17) (.c (.int .i64 (0)))⟩, ⟨(some 3), none, .mv (.t 18)⟩])
  (.keep [1, 3] (.cond (.t 3) .skip (.seq (.reg [⟨(some 19), none, .fa 2 (.t 1)⟩, ⟨(some 20), none, .load false 1 (.t 19)⟩, ⟨(some 21), none, .fa 1 (.t 1)⟩, ⟨(some 22), none, .load false 1 (.t 21)⟩, ⟨(some 23), none, .bin .geq (.t 20) (.t 22)⟩, ⟨(some 3), none, .mv (.t 23)⟩])
  (.keep [1, 3] (.cond (.t 3) .skip (.reg [⟨(some 24), none, .fa 3 (.t 1)⟩, ⟨(some 25), none, .load false 1 (.t 24)⟩, ⟨(some 26), none, .len false (.t 25)⟩, ⟨(some 27), none, .bin .gtr (.t 26) (.c (.int .i64 (60)))⟩, ⟨(some 3), none, .mv (.t 27)⟩])))))))))))))))))))
  (.keep [1, 3] (.cond (.t 3) (.seq (.reg [⟨(some 2), none, .mv (.c (.bool false))⟩]) .ret) .skip))))
  (.keep [1] (.seq (.reg [⟨(some 28), none, .fa 3 (.t 1)⟩, ⟨(some 29), none, .load false 1 (.t 28)⟩, ⟨(some 30), none, .mkfn K.gram_Right_1 [] [(.t 1)]⟩, ⟨(some 31), none, .call (.c (.fn K.slices_ContainsFunc_Prod [] [])) [(.t 29), (.t 30)]⟩, ⟨(some 32), none, .un .not (.t 31)⟩, ⟨(some 2), none, .mv (.t 32)⟩]) .ret)))))⟩
def A.gram_Same : AFn := ⟨31, [(4, none)], (.seq (.reg [⟨(some 2), none, .box (.t 0)⟩, ⟨(some 3), none, .box (.t 1)⟩, ⟨(some 4), none, .mv (.c (.bool false))⟩])
  (.keep [2, 3] (.seq (.reg [⟨(some 5), none, .fa 0 (.t 2)⟩, ⟨(some 6), none, .load false 1 (.t 5)⟩, ⟨(some 7), none, .fa 0 (.t 3)⟩, ⟨(some 8), none, .load false 1 (.t 7)⟩, ⟨(some 9), none, .bin .eql (.t 6) (.t 8)⟩, ⟨(some 10), none, .mv (.t 9)⟩, ⟨(some 11), (some (10, true)), .fa 1 (.t 2)⟩, ⟨(some 12), (some (10, true)), .load false 1 (.t 11)⟩, ⟨(some 13), (some (10, true)), .fa 1 (.t 3)⟩, ⟨(some 14), (some (10, true)), .load false 1 (.t 13)⟩, ⟨(some 15), (some (10, true)), .bin .eql (.t 12) (.t 14)⟩, ⟨(some 16), none, .pick (.t 10) (.t 15) (.c (.bool false))⟩, ⟨(some 17), none, .mv (.t 16)⟩, ⟨(some 18), (some (17, true)), .fa 2 (.t 2)⟩, ⟨(some 19), (some (17, true)), .load false 1 (.t 18)⟩, ⟨(some 20), (some (17, true)), .fa 2 (.t 3)⟩, ⟨(some 21), (some (17, true)), .load false 1 (.t 20)⟩, ⟨(some 22), (some (17, true)), .bin .eql (.t 19) (.t 21)⟩, ⟨(some 23), none, .pick (.t 17) (.t 22) (.c (.bool false))⟩, ⟨(some 24), none, .mv (.t 23)⟩, ⟨(some 25), (some (24, true)), .fa 3 (.t 2)⟩, ⟨(some 26), (some (24, true)), .load false 1 (.t 25)⟩, ⟨(some 27), (some (24, true)), .fa 3 (.t 3)⟩, ⟨(some 28), (some (24, true)), .load false 1 (.t 27)⟩, ⟨(some 29), (some (24, true)), .call (.c (.fn K.slices_EqualFunc_Prod [] [])) [(.t 26), (.t 28), (.c (.fn K.gram_alike [] []))]⟩, ⟨(some 30), none, .pick (.t 24) (.t 29) (.c (.bool false))⟩, ⟨(some 4), none, .mv (.t 30)⟩]) .ret)))⟩
def A.gram_Clone.L0 : AC := .post (.seq (.reg [⟨(some 14), none, .bin .lss (.t 13) (.t 12)⟩])
  (.keep [1, 2, 3, 11, 12, 13, 14] (.seq (.cond (.t 14) .skip (.exit 0))
  (.keep [1, 2, 3, 11, 12, 13] (.seq (.block 1 (.seq (.reg [⟨(some 15), none, .ia 2 (.t 11) (.t 13)⟩, ⟨(some 16), none, .load true 2 (.t 15)⟩, ⟨(some 5), none, .alloc [(.int .i64 (0)), (.sl 0 1 [])]⟩, ⟨none, none, .store 2 (.t 5) (.t 16)⟩])
  (.keep [1, 2, 3, 5, 11, 12, 13] (.draw [(.pl, ⟨(some 17), none, .mv (.t 3)⟩), (.pl, ⟨(some 18), none, .fa 0 (.t 5)⟩), (.pl, ⟨(some 19), none, .load false 1 (.t 18)⟩), (.pl, ⟨(some 20), none, .fa 1 (.t 5)⟩), (.pl, ⟨(some 21), none, .load false 1 (.t 20)⟩), (.pl, ⟨(some 22), none, .call (.c (.fn K.slices_Clone_Sym [] [])) [(.t 21)]⟩), (.pl, ⟨(some 23), none, .bld [(.int .i64 (0)), (.sl 0 1 [])] [(0, 1, (.t 19)), (1, 1, (.t 22))]⟩), (.pl, ⟨(some 24), none, .bsl 2 true [(.int .i64 (0)), (.sl 0 1 [])] 1 [(0, (.t 23))]⟩), (.eff, ⟨(some 25), none, .app 2 32 (.t 17) (.t 24)⟩), (.pl, ⟨(some 3), none, .mv (.t 25)⟩)]))))
  (.keep [1, 2, 3, 11, 12, 13] (.reg [⟨(some 26), none, .bin .add (.t 13) (.c (.int .i64 (1)))⟩, ⟨(some 13), none, .mv (.t 26)⟩]))))))) [1, 2, 3, 11, 12, 13]
def A.gram_Clone : AFn := ⟨30, [(2, (some (true, 4)))], (.seq (.reg [⟨(some 1), none, .box (.t 0)⟩, ⟨(some 2), none, .alloc [(.int .i64 (0)), (.int .i64 (0)), (.int .i64 (0)), (.sl 0 1 [])]⟩])
  (.keep [1, 2] (.seq (.reg [⟨(some 6), none, .fa 3 (.t 1)⟩, ⟨(some 7), none, .load false 1 (.t 6)⟩, ⟨(some 8), none, .len false (.t 7)⟩, ⟨(some 9), none, .mks 2 32 (.t 8)⟩, ⟨(some 3), none, .mv (.t 9)⟩])
  (.keep [1, 2, 3] (.seq (.seq (.reg [⟨(some 10), none, .fa 3 (.t 1)⟩, ⟨(some 11), none, .load false 1 (.t 10)⟩, ⟨(some 12), none, .len false (.t 11)⟩, ⟨(some 13), none, .mv (.c (.int .i64 (0)))⟩])
  (.keep [1, 2, 3, 11, 12, 13] (.block 0 (.loop A.gram_Clone.L0))))
  (.keep [1, 2, 3] (.seq (.reg [⟨(some 27), none, .mv (.t 3)⟩, ⟨(some 28), none, .fa 3 (.t 1)⟩, ⟨none, none, .store 1 (.t 28) (.t 27)⟩])
  (.keep [1, 2] (.seq (.reg [⟨(some 29), none, .load true 4 (.t 1)⟩, ⟨none, none, .store 4 (.t 2) (.t 29)⟩]) .ret)))))))))⟩
def A.gram_Of.L0 : AC := .post (.seq (.reg [⟨(some 12), none, .bin .lss (.t 11) (.t 10)⟩])
  (.keep [1, 5, 9, 10, 11, 12] (.seq (.cond (.t 12) .skip (.exit 0))
  (.keep [1, 5, 9, 10, 11] (.seq (.block 1 (.seq (.reg [⟨(some 13), none, .mv (.t 11)⟩, ⟨(some 14), none, .ia 2 (.t 9) (.t 11)⟩, ⟨(some 15), none, .load true 2 (.t 14)⟩, ⟨(some 7), none, .alloc [(.int .i64 (0)), (.sl 0 1 [])]⟩, ⟨(some 6), none, .mv (.t 13)⟩, ⟨none, none, .store 2 (.t 7) (.t 15)⟩])
  (.keep [1, 5, 6, 7, 9, 10, 11] (.seq (.reg [⟨(some 16), none, .fa 0 (.t 7)⟩, ⟨(some 17), none, .load false 1 (.t 16)⟩, ⟨(some 18), none, .mv (.t 1)⟩, ⟨(some 19), none, .bin .eql (.t 17) (.t 18)⟩])
  (.keep [1, 5, 6, 9, 10, 11, 19] (.cond (.t 19) (.reg [⟨(some 20), none, .mv (.t 5)⟩, ⟨(some 21), none, .mv (.t 6)⟩, ⟨(some 22), none, .bsl 1 false [(.int .i64 (0))] 1 [(0, (.t 21))]⟩, ⟨(some 23), none, .app 1 8 (.t 20) (.t 22)⟩, ⟨(some 5), none, .mv (.t 23)⟩]) .skip))))))
  (.keep [1, 5, 9, 10, 11] (.reg [⟨(some 24), none, .bin .add (.t 11) (.c (.int .i64 (1)))⟩, ⟨(some 11), none, .mv (.t 24)⟩]))))))) [1, 5, 9, 10, 11]
def A.gram_Of : AFn := ⟨26, [(4, none)], (.seq (.reg [⟨(some 2), none, .box (.t 0)⟩, ⟨(some 4), none, .mv (.c (.sl 0 1 []))⟩])
  (.keep [1, 2] (.seq (.reg [⟨(some 5), none, .mv (.c (.sl 0 1 []))⟩])
  (.keep [1, 2, 5] (.seq (.seq (.reg [⟨(some 8), none, .fa 3 (.t 2)⟩, ⟨(some 9), none, .load false 1 (.t 8)⟩, ⟨(some 10), none, .len false (.t 9)⟩, ⟨(some 11), none, .mv (.c (.int .i64 (0)))⟩])
  (.keep [1, 5, 9, 10, 11] (.block 0 (.loop A.gram_Of.L0))))
  (.keep [5] (.seq (.reg [⟨(some 25), none, .mv (.t 5)⟩, ⟨(some 4), none, .mv (.t 25)⟩]) .ret)))))))⟩
def A.gram_prod : AFn := ⟨11, [(2, (some (true, 2)))], (.seq (.reg [⟨(some 2), none, .alloc [(.int .i64 (0)), (.sl 0 1 [])]⟩])
  (.keep [0, 2] (.seq (.reg [⟨(some 4), none, .mv (.t 0)⟩, ⟨(some 5), none, .call (.c (.fn K.wire_Reader_Num [] [])) [(.t 4), (.c (.int .i64 (23)))]⟩, ⟨(some 6), none, .bld [(.int .i64 (0)), (.sl 0 1 [])] [(0, 1, (.t 5))]⟩, ⟨(some 3), none, .alloc [(.int .i64 (0)), (.sl 0 1 [])]⟩, ⟨none, none, .store 2 (.t 3) (.t 6)⟩])
  (.keep [0, 2, 3] (.seq (.reg [⟨(some 7), none, .mv (.t 0)⟩, ⟨(some 8), none, .call (.c (.fn K.wire_List_Sym [] [])) [(.t 7), (.c (.int .i64 (8))), (.c (.fn K.gram_sym [] []))]⟩, ⟨(some 9), none, .fa 1 (.t 3)⟩, ⟨none, none, .store 1 (.t 9) (.t 8)⟩])
  (.keep [2, 3] (.seq (.reg [⟨(some 10), none, .load true 2 (.t 3)⟩, ⟨none, none, .store 2 (.t 2) (.t 10)⟩]) .ret)))))))⟩
def A.gram_Right_1 : AFn := ⟨8, [(3, none)], (.seq (.reg [⟨(some 2), none, .box (.t 0)⟩, ⟨(some 3), none, .mv (.c (.bool false))⟩])
  (.keep [1, 2] (.seq (.reg [⟨(some 4), none, .load true 4 (.t 1)⟩, ⟨(some 5), none, .load true 2 (.t 2)⟩, ⟨(some 6), none, .call (.c (.fn K.gram_fits [] [])) [(.t 4), (.t 5)]⟩, ⟨(some 7), none, .un .not (.t 6)⟩, ⟨(some 3), none, .mv (.t 7)⟩]) .ret)))⟩
def A.gram_fits : AFn := ⟨23, [(4, none)], (.seq (.reg [⟨(some 2), none, .box (.t 0)⟩, ⟨(some 3), none, .box (.t 1)⟩, ⟨(some 4), none, .mv (.c (.bool false))⟩])
  (.keep [2, 3] (.seq (.reg [⟨(some 5), none, .load true 4 (.t 2)⟩, ⟨(some 6), none, .fa 0 (.t 3)⟩, ⟨(some 7), none, .load false 1 (.t 6)⟩, ⟨(some 8), none, .bld [(.bool false), (.int .i64 (0))] [(0, 1, (.c (.bool true))), (1, 1, (.t 7))]⟩, ⟨(some 9), none, .call (.c (.fn K.gram_there [] [])) [(.t 5), (.t 8)]⟩, ⟨(some 10), none, .mv (.t 9)⟩, ⟨(some 11), (some (10, true)), .fa 1 (.t 3)⟩, ⟨(some 12), (some (10, true)), .load false 1 (.t 11)⟩, ⟨(some 13), (some (10, true)), .len false (.t 12)⟩, ⟨(some 14), (some (10, true)), .bin .leq (.t 13) (.c (.int .i64 (8)))⟩, ⟨(some 15), none, .pick (.t 10) (.t 14) (.c (.bool false))⟩, ⟨(some 16), none, .mv (.t 15)⟩, ⟨(some 17), (some (16, true)), .fa 1 (.t 3)⟩, ⟨(some 18), (some (16, true)), .load false 1 (.t 17)⟩, ⟨(some 19), (some (16, true)), .mkfn K.gram_fits_1 [] [(.t 2)]⟩, ⟨(some 20), (some (16, true)), .call (.c (.fn K.slices_ContainsFunc_Sym [] [])) [(.t 18), (.t 19)]⟩, ⟨(some 21), (some (16, true)), .un .not (.t 20)⟩, ⟨(some 22), none, .pick (.t 16) (.t 21) (.c (.bool false))⟩, ⟨(some 4), none, .mv (.t 22)⟩]) .ret)))⟩
def A.gram_alike : AFn := ⟨17, [(4, none)], (.seq (.reg [⟨(some 2), none, .box (.t 0)⟩, ⟨(some 3), none, .box (.t 1)⟩, ⟨(some 4), none, .mv (.c (.bool false))⟩])
  (.keep [2, 3] (.seq (.reg [⟨(some 5), none, .fa 0 (.t 2)⟩, ⟨(some 6), none, .load false 1 (.t 5)⟩, ⟨(some 7), none, .fa 0 (.t 3)⟩, ⟨(some 8), none, .load false 1 (.t 7)⟩, ⟨(some 9), none, .bin .eql (.t 6) (.t 8)⟩, ⟨(some 10), none, .mv (.t 9)⟩, ⟨(some 11), (some (10, true)), .fa 1 (.t 2)⟩, ⟨(some 12), (some (10, true)), .load false 1 (.t 11)⟩, ⟨(some 13), (some (10, true)), .fa 1 (.t 3)⟩, ⟨(some 14), (some (10, true)), .load false 1 (.t 13)⟩, ⟨(some 15), (some (10, true)), .call (.c (.fn K.slices_Equal_Sym [] [])) [(.t 12), (.t 14)]⟩, ⟨(some 16), none, .pick (.t 10) (.t 15) (.c (.bool false))⟩, ⟨(some 4), none, .mv (.t 16)⟩]) .ret)))⟩
def A.gram_sym : AFn := ⟨12, [(2, (some (true, 2)))], (.seq (.reg [⟨(some 2), none, .alloc [(.bool false), (.int .i64 (0))]⟩])
  (.keep [0, 2] (.seq (.reg [⟨(some 4), none, .mv (.t 0)⟩, ⟨(some 5), none, .call (.c (.fn K.wire_Reader_Num [] [])) [(.t 4), (.c (.int .i64 (47)))]⟩, ⟨(some 3), none, .mv (.t 5)⟩])
  (.keep [2, 3] (.seq (.reg [⟨(some 6), none, .mv (.t 3)⟩, ⟨(some 7), none, .bin .and (.t 6) (.c (.int .i64 (1)))⟩, ⟨(some 8), none, .bin .eql (.t 7) (.c (.int .i64 (1)))⟩, ⟨(some 9), none, .mv (.t 3)⟩, ⟨(some 10), none, .bin .shr (.t 9) (.c (.int .u64 (1)))⟩, ⟨(some 11), none, .bld [(.bool false), (.int .i64 (0))] [(0, 1, (.t 8)), (1, 1, (.t 10))]⟩, ⟨none, none, .store 2 (.t 2) (.t 11)⟩]) .ret)))))⟩
def A.gram_there : AFn := ⟨21, [(4, none)], (.seq (.reg [⟨(some 2), none, .box (.t 0)⟩, ⟨(some 3), none, .box (.t 1)⟩, ⟨(some 4), none, .mv (.c (.bool false))⟩])
  (.keep [2, 3] (.seq (.reg [⟨(some 6), none, .fa 0 (.t 2)⟩, ⟨(some 7), none, .load false 1 (.t 6)⟩, ⟨(some 5), none, .mv (.t 7)⟩])
  (.keep [2, 3, 5] (.seq (.seq (.reg [⟨(some 8), none, .fa 0 (.t 3)⟩, ⟨(some 9), none, .load false 1 (.t 8)⟩])
  (.keep [2, 3, 5, 9] (.cond (.t 9) (.reg [⟨(some 10), none, .fa 1 (.t 2)⟩, ⟨(some 11), none, .load false 1 (.t 10)⟩, ⟨(some 5), none, .mv (.t 11)⟩]) .skip)))
  (.keep [3, 5] (.seq (.reg [⟨(some 12), none, .fa 1 (.t 3)⟩, ⟨(some 13), none, .load false 1 (.t 12)⟩, ⟨(some 14), none, .bin .geq (.t 13) (.c (.int .i64 (0)))⟩, ⟨(some 15), none, .mv (.t 14)⟩, ⟨(some 16), (some (15, true)), .fa 1 (.t 3)⟩, ⟨(some 17), (some (15, true)), .load false 1 (.t 16)⟩, ⟨(some 18), (some (15, true)), .mv (.t 5)⟩, ⟨(some 19), (some (15, true)), .bin .lss (.t 17) (.t 18)⟩, ⟨(some 20), none, .pick (.t 15) (.t 19) (.c (.bool false))⟩, ⟨(some 4), none, .mv (.t 20)⟩]) .ret)))))))⟩
def A.gram_fits_1 : AFn := ⟨8, [(3, none)], (.seq (.reg [⟨(some 2), none, .box (.t 0)⟩, ⟨(some 3), none, .mv (.c (.bool false))⟩])
  (.keep [1, 2] (.seq (.reg [⟨(some 4), none, .load true 4 (.t 1)⟩, ⟨(some 5), none, .load true 2 (.t 2)⟩, ⟨(some 6), none, .call (.c (.fn K.gram_there [] [])) [(.t 4), (.t 5)]⟩, ⟨(some 7), none, .un .not (.t 6)⟩, ⟨(some 3), none, .mv (.t 7)⟩]) .ret)))⟩
end Go.Proofs.Ytmobijebjkjnoaa.Al
namespace Go.Proofs.Ytmobijebjkjnoaa.Al
def A.probatelaw03_GramOf.L1 : AC := .post (.seq (.reg [⟨(some 29), none, .bin .lss (.t 28) (.t 27)⟩])
  (.keep [1, 2, 5, 6, 7, 20, 21, 26, 27, 28, 29] (.seq (.cond (.t 29) .skip (.exit 2))
  (.keep [1, 2, 5, 6, 7, 20, 21, 26, 27, 28] (.seq (.block 3 (.seq (.reg [⟨(some 30), none, .ia 1 (.t 26) (.t 28)⟩, ⟨(some 31), none, .load false 1 (.t 30)⟩, ⟨(some 9), none, .mv (.t 31)⟩])
  (.keep [1, 2, 5, 6, 7, 9, 20, 21, 26, 27, 28] (.seq (.seq (.reg [⟨(some 32), none, .mv (.t 9)⟩, ⟨(some 33), none, .mv (.t 7)⟩, ⟨(some 34), none, .bin .leq (.t 32) (.t 33)⟩, ⟨(some 35), none, .mv (.t 34)⟩, ⟨(some 36), (some (35, false)), .mv (.t 9)⟩, ⟨(some 37), (some (35, false)), .fa 3 (.t 2)⟩, ⟨(some 38), (some (35, false)), .load false 1 (.t 37)⟩, ⟨(some 39), (some (35, false)), .len false (.t 38)⟩, ⟨(some 40), (some (35, false)), .bin .geq (.t 36) (.t 39)⟩, ⟨(some 41), none, .pick (.t 35) (.c (.bool true)) (.t 40)⟩, ⟨(some 42), none, .mv (.t 41)⟩, ⟨(some 43), (some (42, false)), .fa 3 (.t 2)⟩, ⟨(some 44), (some (42, false)), .load false 1 (.t 43)⟩, ⟨(some 45), (some (42, false)), .mv (.t 9)⟩, ⟨(some 46), (some (42, false)), .ia 2 (.t 44) (.t 45)⟩, ⟨(some 47), (some (42, false)), .fa 0 (.t 46)⟩, ⟨(some 48), (some (42, false)), .load false 1 (.t 47)⟩, ⟨(some 49), (some (42, false)), .mv (.t 6)⟩, ⟨(some 50), (some (42, false)), .bin .neq (.t 48) (.t 49)⟩, ⟨(some 51), none, .pick (.t 42) (.c (.bool true)) (.t 50)⟩])
  (.keep [1, 2, 5, 6, 9, 20, 21, 26, 27, 28, 51] (.cond (.t 51) (.seq (.reg [⟨(some 4), none, .mv (.c (.bool false))⟩]) .ret) .skip)))
  (.keep [1, 2, 5, 6, 9, 20, 21, 26, 27, 28] (.seq (.reg [⟨(some 52), none, .mv (.t 9)⟩, ⟨(some 7), none, .mv (.t 52)⟩])
  (.keep [1, 2, 5, 6, 7, 20, 21, 26, 27, 28] (.reg [⟨(some 53), none, .mv (.t 5)⟩, ⟨(some 54), none, .bin .add (.t 53) (.c (.int .i64 (1)))⟩, ⟨(some 5), none, .mv (.t 54)⟩]))))))))
  (.keep [1, 2, 5, 6, 7, 20, 21, 26, 27, 28] (.reg [⟨(some 55), none, .bin .add (.t 28) (.c (.int .i64 (1)))⟩, ⟨(some 28), none, .mv (.t 55)⟩]))))))) [1, 2, 5, 6, 7, 20, 21, 26, 27, 28]
def A.probatelaw03_GramOf.L0 : AC := .post (.seq (.reg [⟨(some 22), none, .bin .lss (.t 21) (.t 20)⟩])
  (.keep [1, 2, 5, 20, 21, 22] (.seq (.cond (.t 22) .skip (.exit 0))
  (.keep [1, 2, 5, 20, 21] (.seq (.block 1 (.seq (.reg [⟨(some 23), none, .mv (.t 21)⟩, ⟨(some 6), none, .mv (.t 23)⟩])
  (.keep [1, 2, 5, 6, 20, 21] (.seq (.reg [⟨(some 7), none, .mv (.c (.int .i64 (-1)))⟩])
  (.keep [1, 2, 5, 6, 7, 20, 21] (.seq (.reg [⟨(some 24), none, .load true 4 (.t 2)⟩, ⟨(some 25), none, .mv (.t 6)⟩, ⟨(some 26), none, .call (.c (.fn K.gram_Of [] [])) [(.t 24), (.t 25)]⟩, ⟨(some 27), none, .len false (.t 26)⟩, ⟨(some 28), none, .mv (.c (.int .i64 (0)))⟩])
  (.keep [1, 2, 5, 6, 7, 20, 21, 26, 27, 28] (.block 2 (.loop A.probatelaw03_GramOf.L1)))))))))
  (.keep [1, 2, 5, 20, 21] (.reg [⟨(some 56), none, .bin .add (.t 21) (.c (.int .i64 (1)))⟩, ⟨(some 21), none, .mv (.t 56)⟩]))))))) [1, 2, 5, 20, 21]
def A.probatelaw03_GramOf : AFn := ⟨79, [(4, none)], (.seq (.reg [⟨(some 2), none, .box (.t 0)⟩, ⟨(some 4), none, .mv (.c (.bool false))⟩])
  (.keep [1, 2] (.seq (.seq (.reg [⟨(some 10), none, .call (.c (.fn K.probatelaw03_awake [] [])) []⟩, ⟨(some 11), none, .un .not (.t 10)⟩])
  (.keep [1, 2, 11] (.cond (.t 11) (.seq (.reg [⟨(some 4), none, .mv (.c (.bool false))⟩]) .ret) .skip)))
  (.keep [1, 2] (.seq (.seq (.reg [⟨(some 12), none, .load true 4 (.t 2)⟩, ⟨(some 13), none, .call (.c (.fn K.probatelaw03_large [] [])) [(.t 12)]⟩, ⟨(some 14), none, .mv (.t 13)⟩, ⟨(some 15), (some (14, false)), .load true 4 (.t 2)⟩, ⟨(some 16), (some (14, false)), .call (.c (.fn K.gram_Right [] [])) [(.t 15)]⟩, ⟨(some 17), (some (14, false)), .un .not (.t 16)⟩, ⟨(some 18), none, .pick (.t 14) (.c (.bool true)) (.t 17)⟩])
  (.keep [1, 2, 18] (.cond (.t 18) (.seq (.reg [⟨(some 4), none, .mv (.c (.bool true))⟩]) .ret) .skip)))
  (.keep [1, 2] (.seq (.reg [⟨(some 5), none, .mv (.c (.int .i64 (0)))⟩])
  (.keep [1, 2, 5] (.seq (.seq (.reg [⟨(some 19), none, .fa 1 (.t 2)⟩, ⟨(some 20), none, .load false 1 (.t 19)⟩, ⟨(some 21), none, .mv (.c (.int .i64 (0)))⟩])
  (.keep [1, 2, 5, 20, 21] (.block 0 (.loop A.probatelaw03_GramOf.L0))))
  (.keep [1, 2, 5] (.seq (.reg [⟨(some 57), none, .mv (.t 5)⟩, ⟨(some 58), none, .fa 3 (.t 2)⟩, ⟨(some 59), none, .load false 1 (.t 58)⟩, ⟨(some 60), none, .len false (.t 59)⟩, ⟨(some 61), none, .bin .eql (.t 57) (.t 60)⟩, ⟨(some 62), none, .mv (.t 61)⟩, ⟨(some 63), (some (62, true)), .mv (.t 1)⟩, ⟨(some 64), (some (62, true)), .bin .geq (.t 63) (.c (.int .i64 (0)))⟩, ⟨(some 65), (some (62, true)), .mv (.t 64)⟩, ⟨(some 66), (some (65, true)), .mv (.t 1)⟩, ⟨(some 67), (some (65, true)), .fa 1 (.t 2)⟩, ⟨(some 68), (some (65, true)), .load false 1 (.t 67)⟩, ⟨(some 69), (some (65, true)), .bin .lss (.t 66) (.t 68)⟩, ⟨(some 70), (some (62, true)), .pick (.t 65) (.t 69) (.c (.bool false))⟩, ⟨(some 71), (some (62, true)), .mv (.t 70)⟩, ⟨(some 72), (some (71, false)), .load true 4 (.t 2)⟩, ⟨(some 73), (some (71, false)), .mv (.t 1)⟩, ⟨(some 74), (some (71, false)), .call (.c (.fn K.gram_Of [] [])) [(.t 72), (.t 73)]⟩, ⟨(some 75), (some (71, false)), .len false (.t 74)⟩, ⟨(some 76), (some (71, false)), .bin .eql (.t 75) (.c (.int .i64 (0)))⟩, ⟨(some 77), (some (62, true)), .pick (.t 71) (.c (.bool true)) (.t 76)⟩, ⟨(some 78), none, .pick (.t 62) (.t 77) (.c (.bool false))⟩, ⟨(some 4), none, .mv (.t 78)⟩]) .ret)))))))))))⟩
def A.probatelaw03_GramOwn.L1 : AC := .post (.seq (.reg [⟨(some 49), none, .bin .lss (.t 48) (.t 47)⟩])
  (.keep [1, 3, 5, 6, 28, 29, 47, 48, 49] (.seq (.cond (.t 49) .skip (.exit 2))
  (.keep [1, 3, 5, 6, 28, 29, 47, 48] (.seq (.block 3 (.seq (.reg [⟨(some 50), none, .mv (.t 48)⟩, ⟨(some 7), none, .mv (.t 50)⟩])
  (.keep [1, 3, 5, 6, 7, 28, 29, 47, 48] (.reg [⟨(some 51), none, .fa 3 (.t 5)⟩, ⟨(some 52), none, .load false 1 (.t 51)⟩, ⟨(some 53), none, .mv (.t 6)⟩, ⟨(some 54), none, .ia 2 (.t 52) (.t 53)⟩, ⟨(some 55), none, .fa 1 (.t 54)⟩, ⟨(some 56), none, .load false 1 (.t 55)⟩, ⟨(some 57), none, .mv (.t 7)⟩, ⟨(some 58), none, .ia 2 (.t 56) (.t 57)⟩, ⟨(some 59), none, .fa 1 (.t 58)⟩, ⟨(some 60), none, .load false 1 (.t 59)⟩, ⟨(some 61), none, .bin .add (.t 60) (.c (.int .i64 (1)))⟩, ⟨(some 62), none, .ia 2 (.t 56) (.t 57)⟩, ⟨(some 63), none, .fa 1 (.t 62)⟩, ⟨none, none, .store 1 (.t 63) (.t 61)⟩]))))
  (.keep [1, 3, 5, 6, 28, 29, 47, 48] (.reg [⟨(some 64), none, .bin .add (.t 48) (.c (.int .i64 (1)))⟩, ⟨(some 48), none, .mv (.t 64)⟩]))))))) [1, 3, 5, 6, 28, 29, 47, 48]
def A.probatelaw03_GramOwn.L0 : AC := .post (.seq (.reg [⟨(some 30), none, .bin .lss (.t 29) (.t 28)⟩])
  (.keep [1, 3, 5, 28, 29, 30] (.seq (.cond (.t 30) .skip (.exit 0))
  (.keep [1, 3, 5, 28, 29] (.seq (.block 1 (.seq (.reg [⟨(some 31), none, .mv (.t 29)⟩, ⟨(some 6), none, .mv (.t 31)⟩])
  (.keep [1, 3, 5, 6, 28, 29] (.seq (.reg [⟨(some 32), none, .fa 3 (.t 5)⟩, ⟨(some 33), none, .load false 1 (.t 32)⟩, ⟨(some 34), none, .mv (.t 6)⟩, ⟨(some 35), none, .ia 2 (.t 33) (.t 34)⟩, ⟨(some 36), none, .fa 0 (.t 35)⟩, ⟨(some 37), none, .load false 1 (.t 36)⟩, ⟨(some 38), none, .bin .add (.t 37) (.c (.int .i64 (1)))⟩, ⟨(some 39), none, .ia 2 (.t 33) (.t 34)⟩, ⟨(some 40), none, .fa 0 (.t 39)⟩, ⟨none, none, .store 1 (.t 40) (.t 38)⟩])
  (.keep [1, 3, 5, 6, 28, 29] (.seq (.reg [⟨(some 41), none, .fa 3 (.t 5)⟩, ⟨(some 42), none, .load false 1 (.t 41)⟩, ⟨(some 43), none, .mv (.t 6)⟩, ⟨(some 44), none, .ia 2 (.t 42) (.t 43)⟩, ⟨(some 45), none, .fa 1 (.t 44)⟩, ⟨(some 46), none, .load false 1 (.t 45)⟩, ⟨(some 47), none, .len false (.t 46)⟩, ⟨(some 48), none, .mv (.c (.int .i64 (0)))⟩])
  (.keep [1, 3, 5, 6, 28, 29, 47, 48] (.block 2 (.loop A.probatelaw03_GramOwn.L1)))))))))
  (.keep [1, 3, 5, 28, 29] (.reg [⟨(some 65), none, .bin .add (.t 29) (.c (.int .i64 (1)))⟩, ⟨(some 29), none, .mv (.t 65)⟩]))))))) [1, 3, 5, 28, 29]
def A.probatelaw03_GramOwn : AFn := ⟨88, [(2, none)], (.seq (.reg [⟨(some 1), none, .box (.t 0)⟩, ⟨(some 2), none, .mv (.c (.bool false))⟩])
  (.keep [1] (.seq (.seq (.reg [⟨(some 10), none, .call (.c (.fn K.probatelaw03_awake [] [])) []⟩, ⟨(some 11), none, .un .not (.t 10)⟩])
  (.keep [1, 11] (.cond (.t 11) (.seq (.reg [⟨(some 2), none, .mv (.c (.bool false))⟩]) .ret) .skip)))
  (.keep [1] (.seq (.seq (.reg [⟨(some 12), none, .load true 4 (.t 1)⟩, ⟨(some 13), none, .call (.c (.fn K.probatelaw03_large [] [])) [(.t 12)]⟩, ⟨(some 14), none, .mv (.t 13)⟩, ⟨(some 15), (some (14, false)), .load true 4 (.t 1)⟩, ⟨(some 16), (some (14, false)), .call (.c (.fn K.gram_Right [] [])) [(.t 15)]⟩, ⟨(some 17), (some (14, false)), .un .not (.t 16)⟩, ⟨(some 18), none, .pick (.t 14) (.c (.bool true)) (.t 17)⟩])
  (.keep [1, 18] (.cond (.t 18) (.seq (.reg [⟨(some 2), none, .mv (.c (.bool true))⟩]) .ret) .skip)))
  (.keep [1] (.seq (.reg [⟨(some 20), none, .load true 4 (.t 1)⟩, ⟨(some 21), none, .call (.c (.fn K.gram_Bytes [] [])) [(.t 20)]⟩, ⟨(some 19), none, .mv (.t 21)⟩, ⟨(some 22), none, .ext (.t 19) 0⟩, ⟨(some 23), none, .ext (.t 19) 1⟩, ⟨(some 3), none, .mv (.t 22)⟩, ⟨(some 4), none, .mv (.t 23)⟩])
  (.keep [1, 3] (.seq (.reg [⟨(some 24), none, .load true 4 (.t 1)⟩, ⟨(some 25), none, .call (.c (.fn K.gram_Clone [] [])) [(.t 24)]⟩, ⟨(some 5), none, .alloc [(.int .i64 (0)), (.int .i64 (0)), (.int .i64 (0)), (.sl 0 1 [])]⟩, ⟨none, none, .store 4 (.t 5) (.t 25)⟩])
  (.keep [1, 3, 5] (.seq (.seq (.reg [⟨(some 26), none, .fa 3 (.t 5)⟩, ⟨(some 27), none, .load false 1 (.t 26)⟩, ⟨(some 28), none, .len false (.t 27)⟩, ⟨(some 29), none, .mv (.c (.int .i64 (0)))⟩])
  (.keep [1, 3, 5, 28, 29] (.block 0 (.loop A.probatelaw03_GramOwn.L0))))
  (.keep [1, 3, 5] (.seq (.reg [⟨(some 67), none, .load true 4 (.t 1)⟩, ⟨(some 68), none, .call (.c (.fn K.gram_Bytes [] [])) [(.t 67)]⟩, ⟨(some 66), none, .mv (.t 68)⟩, ⟨(some 69), none, .ext (.t 66) 0⟩, ⟨(some 70), none, .ext (.t 66) 1⟩, ⟨(some 8), none, .mv (.t 69)⟩, ⟨(some 9), none, .mv (.t 70)⟩])
  (.keep [1, 3, 5, 8, 9] (.seq (.draw [(.pl, ⟨(some 71), none, .mv (.t 9)⟩), (.pl, ⟨(some 72), none, .bin .eql (.t 71) (.c (.int .i64 (0)))⟩), (.pl, ⟨(some 73), none, .mv (.t 72)⟩), (.pl, ⟨(some 74), (some (73, true)), .mv (.t 8)⟩), (.pl, ⟨(some 75), (some (73, true)), .mv (.t 3)⟩), (.pl, ⟨(some 76), (some (73, true)), .call (.c (.fn K.probateref01_Same [] [])) [(.t 74), (.t 75)]⟩), (.pl, ⟨(some 77), none, .pick (.t 73) (.t 76) (.c (.bool false))⟩), (.pl, ⟨(some 78), none, .mv (.t 77)⟩), (.pl, ⟨(some 79), (some (78, true)), .fa 3 (.t 1)⟩), (.pl, ⟨(some 80), (some (78, true)), .load false 1 (.t 79)⟩), (.pl, ⟨(some 81), (some (78, true)), .len false (.t 80)⟩), (.pl, ⟨(some 82), (some (78, true)), .bin .eql (.t 81) (.c (.int .i64 (0)))⟩), (.pl, ⟨(some 83), (some (78, true)), .load true 4 (.t 5)⟩), (.pl, ⟨(some 84), (some (78, true)), .load true 4 (.t 1)⟩), (.pl, ⟨(some 85), (some (78, true)), .call (.c (.fn K.gram_Same [] [])) [(.t 83), (.t 84)]⟩), (.pl, ⟨(some 86), (some (78, true)), .beq false (.t 82) (.t 85)⟩), (.pl, ⟨(some 87), none, .pick (.t 78) (.t 86) (.c (.bool false))⟩), (.pl, ⟨(some 2), none, .mv (.t 87)⟩)]) .ret)))))))))))))))⟩
def A.probatelaw03_awake : AFn := ⟨74, [(0, none)], (.seq (.reg [⟨(some 0), none, .mv (.c (.bool false))⟩])
  (.keep [] (.seq (.reg [⟨(some 8), none, .call (.c (.fn K.probatelaw03_small [] [])) []⟩, ⟨(some 9), none, .call (.c (.fn K.gram_Bytes [] [])) [(.t 8)]⟩, ⟨(some 7), none, .mv (.t 9)⟩, ⟨(some 10), none, .ext (.t 7) 0⟩, ⟨(some 11), none, .ext (.t 7) 1⟩, ⟨(some 1), none, .mv (.t 10)⟩, ⟨(some 2), none, .mv (.t 11)⟩])
  (.keep [1, 2] (.seq (.reg [⟨(some 13), none, .mv (.t 1)⟩, ⟨(some 14), none, .call (.c (.fn K.gram_Read [] [])) [(.t 13)]⟩, ⟨(some 12), none, .mv (.t 14)⟩, ⟨(some 15), none, .ext (.t 12) 0⟩, ⟨(some 16), none, .ext (.t 12) 1⟩, ⟨(some 3), none, .alloc [(.int .i64 (0)), (.int .i64 (0)), (.int .i64 (0)), (.sl 0 1 [])]⟩, ⟨none, none, .store 4 (.t 3) (.t 15)⟩, ⟨(some 4), none, .mv (.t 16)⟩])
  (.keep [1, 2, 3, 4] (.seq (.reg [⟨(some 18), none, .bsl 1 false [(.int .u8 (0))] 4 [(0, (.c (.int .u8 (0)))), (1, (.c (.int .u8 (0)))), (2, (.c (.int .u8 (0)))), (3, (.c (.int .u8 (0))))]⟩, ⟨(some 19), none, .call (.c (.fn K.gram_Read [] [])) [(.t 18)]⟩, ⟨(some 17), none, .mv (.t 19)⟩, ⟨(some 20), none, .ext (.t 17) 0⟩, ⟨(some 21), none, .ext (.t 17) 1⟩, ⟨(some 5), none, .alloc [(.int .i64 (0)), (.int .i64 (0)), (.int .i64 (0)), (.sl 0 1 [])]⟩, ⟨none, none, .store 4 (.t 5) (.t 20)⟩, ⟨(some 6), none, .mv (.t 21)⟩])
  (.keep [1, 2, 3, 4, 6] (.seq (.draw [(.pl, ⟨(some 22), none, .mv (.t 1)⟩), (.pl, ⟨(some 23), none, .bsl 1 false [(.int .u8 (0))] 10 [(0, (.c (.int .u8 (1)))), (1, (.c (.int .u8 (1)))), (2, (.c (.int .u8 (0)))), (3, (.c (.int .u8 (2)))), (4, (.c (.int .u8 (0)))), (5, (.c (.int .u8 (0)))), (6, (.c (.int .u8 (0)))), (7, (.c (.int .u8 (2)))), (8, (.c (.int .u8 (0)))), (9, (.c (.int .u8 (1))))]⟩), (.pl, ⟨(some 24), none, .call (.c (.fn K.probateref01_Same [] [])) [(.t 22), (.t 23)]⟩), (.pl, ⟨(some 25), none, .mv (.t 24)⟩), (.pl, ⟨(some 26), (some (25, true)), .mv (.t 2)⟩), (.pl, ⟨(some 27), (some (25, true)), .bin .eql (.t 26) (.c (.int .i64 (0)))⟩), (.pl, ⟨(some 28), none, .pick (.t 25) (.t 27) (.c (.bool false))⟩), (.pl, ⟨(some 29), none, .mv (.t 28)⟩), (.pl, ⟨(some 30), (some (29, true)), .mv (.t 4)⟩), (.pl, ⟨(some 31), (some (29, true)), .bin .eql (.t 30) (.c (.int .i64 (0)))⟩), (.pl, ⟨(some 32), none, .pick (.t 29) (.t 31) (.c (.bool false))⟩), (.pl, ⟨(some 33), none, .mv (.t 32)⟩), (.pl, ⟨(some 34), (some (33, true)), .load true 4 (.t 3)⟩), (.pl, ⟨(some 35), (some (33, true)), .call (.c (.fn K.probatelaw03_small [] [])) []⟩), (.pl, ⟨(some 36), (some (33, true)), .call (.c (.fn K.probateref03_Same [] [])) [(.t 34), (.t 35)]⟩), (.pl, ⟨(some 37), none, .pick (.t 33) (.t 36) (.c (.bool false))⟩), (.pl, ⟨(some 38), none, .mv (.t 37)⟩), (.pl, ⟨(some 39), (some (38, true)), .mv (.t 6)⟩), (.pl, ⟨(some 40), (some (38, true)), .bin .eql (.t 39) (.c (.int .i64 (2)))⟩), (.pl, ⟨(some 41), none, .pick (.t 38) (.t 40) (.c (.bool false))⟩), (.pl, ⟨(some 42), none, .mv (.t 41)⟩), (.pl, ⟨(some 43), (some (42, true)), .call (.c (.fn K.probatelaw03_small [] [])) []⟩), (.pl, ⟨(some 44), (some (42, true)), .call (.c (.fn K.gram_Right [] [])) [(.t 43)]⟩), (.pl, ⟨(some 45), none, .pick (.t 42) (.t 44) (.c (.bool false))⟩), (.pl, ⟨(some 46), none, .mv (.t 45)⟩), (.pl, ⟨(some 47), (some (46, true)), .bld [(.int .i64 (0)), (.int .i64 (0)), (.int .i64 (0)), (.sl 0 1 [])] []⟩), (.pl, ⟨(some 48), (some (46, true)), .call (.c (.fn K.gram_Right [] [])) [(.t 47)]⟩), (.pl, ⟨(some 49), (some (46, true)), .un .not (.t 48)⟩), (.pl, ⟨(some 50), none, .pick (.t 46) (.t 49) (.c (.bool false))⟩), (.pl, ⟨(some 51), none, .mv (.t 50)⟩), (.pl, ⟨(some 52), (some (51, true)), .call (.c (.fn K.probatelaw03_small [] [])) []⟩), (.pl, ⟨(some 53), (some (51, true)), .call (.c (.fn K.probatelaw03_small [] [])) []⟩), (.pl, ⟨(some 54), (some (51, true)), .call (.c (.fn K.gram_Same [] [])) [(.t 52), (.t 53)]⟩), (.pl, ⟨(some 55), none, .pick (.t 51) (.t 54) (.c (.bool false))⟩), (.pl, ⟨(some 56), none, .mv (.t 55)⟩), (.pl, ⟨(some 57), (some (56, true)), .call (.c (.fn K.probatelaw03_small [] [])) []⟩), (.pl, ⟨(some 58), (some (56, true)), .bld [(.int .i64 (0)), (.int .i64 (0)), (.int .i64 (0)), (.sl 0 1 [])] []⟩), (.pl, ⟨(some 59), (some (56, true)), .call (.c (.fn K.gram_Same [] [])) [(.t 57), (.t 58)]⟩), (.pl, ⟨(some 60), (some (56, true)), .un .not (.t 59)⟩), (.pl, ⟨(some 61), none, .pick (.t 56) (.t 60) (.c (.bool false))⟩), (.pl, ⟨(some 62), none, .mv (.t 61)⟩), (.pl, ⟨(some 63), (some (62, true)), .call (.c (.fn K.probatelaw03_small [] [])) []⟩), (.pl, ⟨(some 64), (some (62, true)), .call (.c (.fn K.gram_Of [] [])) [(.t 63), (.c (.int .i64 (0)))]⟩), (.pl, ⟨(some 65), (some (62, true)), .bsl 1 false [(.int .i64 (0))] 2 [(0, (.c (.int .i64 (0)))), (1, (.c (.int .i64 (1))))]⟩), (.pl, ⟨(some 66), (some (62, true)), .call (.c (.fn K.probateref02_Same [] [])) [(.t 64), (.t 65)]⟩), (.pl, ⟨(some 67), none, .pick (.t 62) (.t 66) (.c (.bool false))⟩), (.pl, ⟨(some 68), none, .mv (.t 67)⟩), (.pl, ⟨(some 69), (some (68, true)), .call (.c (.fn K.probatelaw03_small [] [])) []⟩), (.pl, ⟨(some 70), (some (68, true)), .call (.c (.fn K.gram_Clone [] [])) [(.t 69)]⟩), (.pl, ⟨(some 71), (some (68, true)), .call (.c (.fn K.probatelaw03_small [] [])) []⟩), (.pl, ⟨(some 72), (some (68, true)), .call (.c (.fn K.probateref03_Same [] [])) [(.t 70), (.t 71)]⟩), (.pl, ⟨(some 73), none, .pick (.t 68) (.t 72) (.c (.bool false))⟩), (.pl, ⟨(some 0), none, .mv (.t 73)⟩)]) .ret)))))))))⟩
def A.probatelaw03_large.L0 : AC := .post (.seq (.reg [⟨(some 13), none, .bin .lss (.t 12) (.t 11)⟩])
  (.keep [10, 11, 12, 13] (.seq (.cond (.t 13) .skip (.exit 0))
  (.keep [10, 11, 12] (.seq (.block 1 (.seq (.reg [⟨(some 14), none, .ia 2 (.t 10) (.t 12)⟩, ⟨(some 15), none, .load true 2 (.t 14)⟩, ⟨(some 4), none, .alloc [(.int .i64 (0)), (.sl 0 1 [])]⟩, ⟨none, none, .store 2 (.t 4) (.t 15)⟩])
  (.keep [4, 10, 11, 12] (.seq (.reg [⟨(some 16), none, .fa 1 (.t 4)⟩, ⟨(some 17), none, .load false 1 (.t 16)⟩, ⟨(some 18), none, .len false (.t 17)⟩, ⟨(some 19), none, .bin .gtr (.t 18) (.c (.int .i64 (20)))⟩])
  (.keep [10, 11, 12, 19] (.cond (.t 19) (.seq (.reg [⟨(some 2), none, .mv (.c (.bool true))⟩]) .ret) .skip))))))
  (.keep [10, 11, 12] (.reg [⟨(some 20), none, .bin .add (.t 12) (.c (.int .i64 (1)))⟩, ⟨(some 12), none, .mv (.t 20)⟩]))))))) [10, 11, 12]
def A.probatelaw03_large : AFn := ⟨21, [(2, none)], (.seq (.reg [⟨(some 1), none, .box (.t 0)⟩, ⟨(some 2), none, .mv (.c (.bool false))⟩])
  (.keep [1] (.seq (.seq (.reg [⟨(some 5), none, .fa 3 (.t 1)⟩, ⟨(some 6), none, .load false 1 (.t 5)⟩, ⟨(some 7), none, .len false (.t 6)⟩, ⟨(some 8), none, .bin .gtr (.t 7) (.c (.int .i64 (100)))⟩])
  (.keep [1, 8] (.cond (.t 8) (.seq (.reg [⟨(some 2), none, .mv (.c (.bool true))⟩]) .ret) .skip)))
  (.keep [1] (.seq (.seq (.reg [⟨(some 9), none, .fa 3 (.t 1)⟩, ⟨(some 10), none, .load false 1 (.t 9)⟩, ⟨(some 11), none, .len false (.t 10)⟩, ⟨(some 12), none, .mv (.c (.int .i64 (0)))⟩])
  (.keep [10, 11, 12] (.block 0 (.loop A.probatelaw03_large.L0))))
  (.keep [] (.seq (.reg [⟨(some 2), none, .mv (.c (.bool false))⟩]) .ret)))))))⟩
def A.probateref03_Bytes.L1 : AC := .post (.seq (.seq (.reg [⟨(some 44), none, .mv (.t 7)⟩, ⟨(some 45), none, .fa 1 (.t 6)⟩, ⟨(some 46), none, .load false 1 (.t 45)⟩, ⟨(some 47), none, .len false (.t 46)⟩, ⟨(some 48), none, .bin .lss (.t 44) (.t 47)⟩])
  (.keep [1, 4, 5, 6, 7, 48] (.cond (.t 48) .skip (.exit 2))))
  (.keep [1, 4, 5, 6, 7] (.seq (.block 3 (.seq (.reg [⟨(some 51), none, .fa 1 (.t 6)⟩, ⟨(some 52), none, .load false 1 (.t 51)⟩, ⟨(some 53), none, .mv (.t 7)⟩, ⟨(some 54), none, .ia 2 (.t 52) (.t 53)⟩, ⟨(some 55), none, .fa 1 (.t 54)⟩, ⟨(some 56), none, .load false 1 (.t 55)⟩, ⟨(some 57), none, .bin .mul (.c (.int .i64 (2))) (.t 56)⟩, ⟨(some 8), none, .mv (.t 57)⟩])
  (.keep [1, 4, 5, 6, 7, 8] (.seq (.seq (.reg [⟨(some 58), none, .fa 1 (.t 6)⟩, ⟨(some 59), none, .load false 1 (.t 58)⟩, ⟨(some 60), none, .mv (.t 7)⟩, ⟨(some 61), none, .ia 2 (.t 59) (.t 60)⟩, ⟨(some 62), none, .fa 0 (.t 61)⟩, ⟨(some 63), none, .load false 1 (.t 62)⟩])
  (.keep [1, 4, 5, 6, 7, 8, 63] (.cond (.t 63) (.reg [⟨(some 64), none, .mv (.t 8)⟩, ⟨(some 65), none, .bin .add (.t 64) (.c (.int .i64 (1)))⟩, ⟨(some 8), none, .mv (.t 65)⟩]) .skip)))
  (.keep [1, 4, 5, 6, 7, 8] (.reg [⟨(some 66), none, .mv (.t 4)⟩, ⟨(some 67), none, .mv (.t 8)⟩, ⟨(some 68), none, .bsl 1 false [(.int .i64 (0))] 1 [(0, (.t 67))]⟩, ⟨(some 69), none, .app 1 8 (.t 66) (.t 68)⟩, ⟨(some 4), none, .mv (.t 69)⟩]))))))
  (.keep [1, 4, 5, 6, 7] (.reg [⟨(some 49), none, .mv (.t 7)⟩, ⟨(some 50), none, .bin .add (.t 49) (.c (.int .i64 (1)))⟩, ⟨(some 7), none, .mv (.t 50)⟩]))))) [1, 4, 5, 6, 7]
def A.probateref03_Bytes.L0 : AC := .post (.seq (.seq (.reg [⟨(some 24), none, .mv (.t 5)⟩, ⟨(some 25), none, .fa 3 (.t 1)⟩, ⟨(some 26), none, .load false 1 (.t 25)⟩, ⟨(some 27), none, .len false (.t 26)⟩, ⟨(some 28), none, .bin .lss (.t 24) (.t 27)⟩])
  (.keep [1, 4, 5, 28] (.cond (.t 28) .skip (.exit 0))))
  (.keep [1, 4, 5] (.seq (.block 1 (.seq (.reg [⟨(some 31), none, .fa 3 (.t 1)⟩, ⟨(some 32), none, .load false 1 (.t 31)⟩, ⟨(some 33), none, .mv (.t 5)⟩, ⟨(some 34), none, .ia 2 (.t 32) (.t 33)⟩, ⟨(some 35), none, .load true 2 (.t 34)⟩, ⟨(some 6), none, .alloc [(.int .i64 (0)), (.sl 0 1 [])]⟩, ⟨none, none, .store 2 (.t 6) (.t 35)⟩])
  (.keep [1, 4, 5, 6] (.seq (.reg [⟨(some 36), none, .mv (.t 4)⟩, ⟨(some 37), none, .fa 0 (.t 6)⟩, ⟨(some 38), none, .load false 1 (.t 37)⟩, ⟨(some 39), none, .fa 1 (.t 6)⟩, ⟨(some 40), none, .load false 1 (.t 39)⟩, ⟨(some 41), none, .len false (.t 40)⟩, ⟨(some 42), none, .bsl 1 false [(.int .i64 (0))] 2 [(0, (.t 38)), (1, (.t 41))]⟩, ⟨(some 43), none, .app 1 8 (.t 36) (.t 42)⟩, ⟨(some 4), none, .mv (.t 43)⟩])
  (.keep [1, 4, 5, 6] (.seq (.reg [⟨(some 7), none, .mv (.c (.int .i64 (0)))⟩])
  (.keep [1, 4, 5, 6, 7] (.block 2 (.loop A.probateref03_Bytes.L1)))))))))
  (.keep [1, 4, 5] (.reg [⟨(some 29), none, .mv (.t 5)⟩, ⟨(some 30), none, .bin .add (.t 29) (.c (.int .i64 (1)))⟩, ⟨(some 5), none, .mv (.t 30)⟩]))))) [1, 4, 5]
def A.probateref03_Bytes.L2 : AC := .post (.seq (.seq (.reg [⟨(some 71), none, .mv (.t 10)⟩, ⟨(some 72), none, .mv (.t 4)⟩, ⟨(some 73), none, .len false (.t 72)⟩, ⟨(some 74), none, .bin .lss (.t 71) (.t 73)⟩])
  (.keep [4, 9, 10, 74] (.cond (.t 74) .skip (.exit 4))))
  (.keep [4, 9, 10] (.seq (.block 5 (.reg [⟨(some 77), none, .mv (.t 9)⟩, ⟨(some 78), none, .mv (.t 4)⟩, ⟨(some 79), none, .mv (.t 10)⟩, ⟨(some 80), none, .ia 1 (.t 78) (.t 79)⟩, ⟨(some 81), none, .load false 1 (.t 80)⟩, ⟨(some 82), none, .conv .u64 (.t 81)⟩, ⟨(some 83), none, .call (.c (.fn K.probateref01_Put [] [])) [(.t 82)]⟩, ⟨(some 84), none, .app 1 1 (.t 77) (.t 83)⟩, ⟨(some 9), none, .mv (.t 84)⟩]))
  (.keep [4, 9, 10] (.reg [⟨(some 75), none, .mv (.t 10)⟩, ⟨(some 76), none, .bin .add (.t 75) (.c (.int .i64 (1)))⟩, ⟨(some 10), none, .mv (.t 76)⟩]))))) [4, 9, 10]
def A.probateref03_Bytes : AFn := ⟨86, [(2, none), (3, none)], (.seq (.reg [⟨(some 1), none, .box (.t 0)⟩, ⟨(some 2), none, .mv (.c (.sl 0 1 []))⟩, ⟨(some 3), none, .mv (.c (.int .i64 (0)))⟩])
  (.keep [1] (.seq (.seq (.reg [⟨(some 11), none, .load true 4 (.t 1)⟩, ⟨(some 12), none, .call (.c (.fn K.probateref03_Right [] [])) [(.t 11)]⟩, ⟨(some 13), none, .un .not (.t 12)⟩])
  (.keep [1, 13] (.cond (.t 13) (.seq (.reg [⟨(some 2), none, .mv (.c (.sl 0 1 []))⟩, ⟨(some 3), none, .mv (.c (.int .i64 (1)))⟩]) .ret) .skip)))
  (.keep [1] (.seq (.reg [⟨(some 14), none, .fa 0 (.t 1)⟩, ⟨(some 15), none, .load false 1 (.t 14)⟩, ⟨(some 16), none, .fa 1 (.t 1)⟩, ⟨(some 17), none, .load false 1 (.t 16)⟩, ⟨(some 18), none, .fa 2 (.t 1)⟩, ⟨(some 19), none, .load false 1 (.t 18)⟩, ⟨(some 20), none, .fa 3 (.t 1)⟩, ⟨(some 21), none, .load false 1 (.t 20)⟩, ⟨(some 22), none, .len false (.t 21)⟩, ⟨(some 23), none, .bsl 1 false [(.int .i64 (0))] 4 [(0, (.t 15)), (1, (.t 17)), (2, (.t 19)), (3, (.t 22))]⟩, ⟨(some 4), none, .mv (.t 23)⟩])
  (.keep [1, 4] (.seq (.seq (.reg [⟨(some 5), none, .mv (.c (.int .i64 (0)))⟩])
  (.keep [1, 4, 5] (.block 0 (.loop A.probateref03_Bytes.L0))))
  (.keep [4] (.seq (.reg [⟨(some 70), none, .bsl 1 false [(.int .u8 (0))] 0 []⟩, ⟨(some 9), none, .mv (.t 70)⟩])
  (.keep [4, 9] (.seq (.seq (.reg [⟨(some 10), none, .mv (.c (.int .i64 (0)))⟩])
  (.keep [4, 9, 10] (.block 4 (.loop A.probateref03_Bytes.L2))))
  (.keep [9] (.seq (.reg [⟨(some 85), none, .mv (.t 9)⟩, ⟨(some 2), none, .mv (.t 85)⟩, ⟨(some 3), none, .mv (.c (.int .i64 (0)))⟩]) .ret)))))))))))))⟩
def A.probateref03_Read.L1 : AC := .post (.seq (.seq (.reg [⟨(some 45), none, .mv (.t 10)⟩, ⟨(some 46), none, .mv (.t 9)⟩, ⟨(some 47), none, .bin .lss (.t 45) (.t 46)⟩])
  (.keep [2, 4, 5, 6, 7, 8, 9, 10, 47] (.cond (.t 47) .skip (.exit 2))))
  (.keep [2, 4, 5, 6, 7, 8, 9, 10] (.seq (.block 3 (.seq (.reg [⟨(some 50), none, .mv (.t 4)⟩, ⟨(some 51), none, .call (.c (.fn K.probateref02_Reader_Num [] [])) [(.t 50), (.c (.int .i64 (47)))]⟩, ⟨(some 11), none, .mv (.t 51)⟩])
  (.keep [2, 4, 5, 6, 7, 8, 9, 10, 11] (.reg [⟨(some 52), none, .fa 1 (.t 8)⟩, ⟨(some 53), none, .load false 1 (.t 52)⟩, ⟨(some 54), none, .mv (.t 11)⟩, ⟨(some 55), none, .bin .rem (.t 54) (.c (.int .i64 (2)))⟩, ⟨(some 56), none, .bin .eql (.t 55) (.c (.int .i64 (1)))⟩, ⟨(some 57), none, .mv (.t 11)⟩, ⟨(some 58), none, .bin .quo (.t 57) (.c (.int .i64 (2)))⟩, ⟨(some 59), none, .bld [(.bool false), (.int .i64 (0))] [(0, 1, (.t 56)), (1, 1, (.t 58))]⟩, ⟨(some 60), none, .bsl 2 true [(.bool false), (.int .i64 (0))] 1 [(0, (.t 59))]⟩, ⟨(some 61), none, .app 2 16 (.t 53) (.t 60)⟩, ⟨(some 62), none, .fa 1 (.t 8)⟩, ⟨none, none, .store 1 (.t 62) (.t 61)⟩]))))
  (.keep [2, 4, 5, 6, 7, 8, 9, 10] (.reg [⟨(some 48), none, .mv (.t 10)⟩, ⟨(some 49), none, .bin .add (.t 48) (.c (.int .i64 (1)))⟩, ⟨(some 10), none, .mv (.t 49)⟩]))))) [2, 4, 5, 6, 7, 8, 9, 10]
def A.probateref03_Read.L0 : AC := .post (.seq (.seq (.reg [⟨(some 27), none, .mv (.t 7)⟩, ⟨(some 28), none, .mv (.t 6)⟩, ⟨(some 29), none, .bin .lss (.t 27) (.t 28)⟩, ⟨(some 30), none, .mv (.t 29)⟩, ⟨(some 31), (some (30, true)), .mv (.t 4)⟩, ⟨(some 32), (some (30, true)), .nilchk (.t 31)⟩, ⟨(some 33), (some (30, true)), .fa 1 (.t 32)⟩, ⟨(some 34), (some (30, true)), .load false 1 (.t 33)⟩, ⟨(some 35), (some (30, true)), .bin .eql (.t 34) (.c (.int .i64 (0)))⟩, ⟨(some 36), none, .pick (.t 30) (.t 35) (.c (.bool false))⟩])
  (.keep [2, 4, 5, 6, 7, 36] (.cond (.t 36) .skip (.exit 0))))
  (.keep [2, 4, 5, 6, 7] (.seq (.block 1 (.seq (.reg [⟨(some 39), none, .bld [(.int .i64 (0)), (.sl 0 1 [])] []⟩, ⟨(some 8), none, .alloc [(.int .i64 (0)), (.sl 0 1 [])]⟩, ⟨none, none, .store 2 (.t 8) (.t 39)⟩])
  (.keep [2, 4, 5, 6, 7, 8] (.seq (.reg [⟨(some 40), none, .mv (.t 4)⟩, ⟨(some 41), none, .call (.c (.fn K.probateref02_Reader_Num [] [])) [(.t 40), (.c (.int .i64 (23)))]⟩, ⟨(some 42), none, .fa 0 (.t 8)⟩, ⟨none, none, .store 1 (.t 42) (.t 41)⟩])
  (.keep [2, 4, 5, 6, 7, 8] (.seq (.reg [⟨(some 43), none, .mv (.t 4)⟩, ⟨(some 44), none, .call (.c (.fn K.probateref02_Reader_Num [] [])) [(.t 43), (.c (.int .i64 (8)))]⟩, ⟨(some 9), none, .mv (.t 44)⟩])
  (.keep [2, 4, 5, 6, 7, 8, 9] (.seq (.seq (.reg [⟨(some 10), none, .mv (.c (.int .i64 (0)))⟩])
  (.keep [2, 4, 5, 6, 7, 8, 9, 10] (.block 2 (.loop A.probateref03_Read.L1))))
  (.keep [2, 4, 5, 6, 7, 8] (.reg [⟨(some 63), none, .fa 3 (.t 5)⟩, ⟨(some 64), none, .load false 1 (.t 63)⟩, ⟨(some 65), none, .load true 2 (.t 8)⟩, ⟨(some 66), none, .bsl 2 true [(.int .i64 (0)), (.sl 0 1 [])] 1 [(0, (.t 65))]⟩, ⟨(some 67), none, .app 2 32 (.t 64) (.t 66)⟩, ⟨(some 68), none, .fa 3 (.t 5)⟩, ⟨none, none, .store 1 (.t 68) (.t 67)⟩]))))))))))
  (.keep [2, 4, 5, 6, 7] (.reg [⟨(some 37), none, .mv (.t 7)⟩, ⟨(some 38), none, .bin .add (.t 37) (.c (.int .i64 (1)))⟩, ⟨(some 7), none, .mv (.t 38)⟩]))))) [2, 4, 5, 6, 7]
def A.probateref03_Read : AFn := ⟨80, [(2, (some (true, 4))), (3, none)], (.seq (.reg [⟨(some 2), none, .alloc [(.int .i64 (0)), (.int .i64 (0)), (.int .i64 (0)), (.sl 0 1 [])]⟩, ⟨(some 3), none, .mv (.c (.int .i64 (0)))⟩])
  (.keep [0, 2] (.seq (.reg [⟨(some 12), none, .mv (.t 0)⟩, ⟨(some 13), none, .bld [(.sl 0 1 []), (.int .i64 (0))] [(0, 1, (.t 12))]⟩, ⟨(some 14), none, .box (.t 13)⟩, ⟨(some 4), none, .mv (.t 14)⟩])
  (.keep [2, 4] (.seq (.reg [⟨(some 15), none, .bld [(.int .i64 (0)), (.int .i64 (0)), (.int .i64 (0)), (.sl 0 1 [])] []⟩, ⟨(some 5), none, .alloc [(.int .i64 (0)), (.int .i64 (0)), (.int .i64 (0)), (.sl 0 1 [])]⟩, ⟨none, none, .store 4 (.t 5) (.t 15)⟩])
  (.keep [2, 4, 5] (.seq (.reg [⟨(some 16), none, .mv (.t 4)⟩, ⟨(some 17), none, .call (.c (.fn K.probateref02_Reader_Num [] [])) [(.t 16), (.c (.int .i64 (16)))]⟩, ⟨(some 18), none, .fa 0 (.t 5)⟩, ⟨none, none, .store 1 (.t 18) (.t 17)⟩])
  (.keep [2, 4, 5] (.seq (.reg [⟨(some 19), none, .mv (.t 4)⟩, ⟨(some 20), none, .call (.c (.fn K.probateref02_Reader_Num [] [])) [(.t 19), (.c (.int .i64 (24)))]⟩, ⟨(some 21), none, .fa 1 (.t 5)⟩, ⟨none, none, .store 1 (.t 21) (.t 20)⟩])
  (.keep [2, 4, 5] (.seq (.reg [⟨(some 22), none, .mv (.t 4)⟩, ⟨(some 23), none, .call (.c (.fn K.probateref02_Reader_Num [] [])) [(.t 22), (.c (.int .i64 (23)))]⟩, ⟨(some 24), none, .fa 2 (.t 5)⟩, ⟨none, none, .store 1 (.t 24) (.t 23)⟩])
  (.keep [2, 4, 5] (.seq (.reg [⟨(some 25), none, .mv (.t 4)⟩, ⟨(some 26), none, .call (.c (.fn K.probateref02_Reader_Num [] [])) [(.t 25), (.c (.int .i64 (60)))]⟩, ⟨(some 6), none, .mv (.t 26)⟩])
  (.keep [2, 4, 5, 6] (.seq (.seq (.reg [⟨(some 7), none, .mv (.c (.int .i64 (0)))⟩])
  (.keep [2, 4, 5, 6, 7] (.block 0 (.loop A.probateref03_Read.L0))))
  (.keep [2, 4, 5] (.seq (.seq (.reg [⟨(some 69), none, .mv (.t 4)⟩, ⟨(some 70), none, .call (.c (.fn K.probateref02_Reader_End [] [])) [(.t 69)]⟩, ⟨(some 71), none, .bin .neq (.t 70) (.c (.int .i64 (0)))⟩])
  (.keep [2, 4, 5, 71] (.cond (.t 71) (.seq (.reg [⟨(some 72), none, .bld [(.int .i64 (0)), (.int .i64 (0)), (.int .i64 (0)), (.sl 0 1 [])] []⟩, ⟨(some 73), none, .mv (.t 4)⟩, ⟨(some 74), none, .call (.c (.fn K.probateref02_Reader_End [] [])) [(.t 73)]⟩, ⟨none, none, .store 4 (.t 2) (.t 72)⟩, ⟨(some 3), none, .mv (.t 74)⟩]) .ret) .skip)))
  (.keep [2, 5] (.seq (.seq (.reg [⟨(some 75), none, .load true 4 (.t 5)⟩, ⟨(some 76), none, .call (.c (.fn K.probateref03_Right [] [])) [(.t 75)]⟩, ⟨(some 77), none, .un .not (.t 76)⟩])
  (.keep [2, 5, 77] (.cond (.t 77) (.seq (.reg [⟨(some 78), none, .bld [(.int .i64 (0)), (.int .i64 (0)), (.int .i64 (0)), (.sl 0 1 [])] []⟩, ⟨none, none, .store 4 (.t 2) (.t 78)⟩, ⟨(some 3), none, .mv (.c (.int .i64 (2)))⟩]) .ret) .skip)))
  (.keep [2, 5] (.seq (.reg [⟨(some 79), none, .load true 4 (.t 5)⟩, ⟨none, none, .store 4 (.t 2) (.t 79)⟩, ⟨(some 3), none, .mv (.c (.int .i64 (0)))⟩]) .ret)))))))))))))))))))))⟩
def A.probateref03_Right.L1 : AC := .post (.seq (.seq (.reg [⟨(some 71), none, .mv (.t 5)⟩, ⟨(some 72), none, .fa 1 (.t 4)⟩, ⟨(some 73), none, .load false 1 (.t 72)⟩, ⟨(some 74), none, .len false (.t 73)⟩, ⟨(some 75), none, .bin .lss (.t 71) (.t 74)⟩])
  (.keep [1, 3, 4, 5, 75] (.cond (.t 75) .skip (.exit 2))))
  (.keep [1, 3, 4, 5] (.seq (.block 3 (.seq (.reg [⟨(some 78), none, .fa 1 (.t 4)⟩, ⟨(some 79), none, .load false 1 (.t 78)⟩, ⟨(some 80), none, .mv (.t 5)⟩, ⟨(some 81), none, .ia 2 (.t 79) (.t 80)⟩, ⟨(some 82), none, .load true 2 (.t 81)⟩, ⟨(some 6), none, .alloc [(.bool false), (.int .i64 (0))]⟩, ⟨none, none, .store 2 (.t 6) (.t 82)⟩])
  (.keep [1, 3, 4, 5, 6] (.seq (.reg [⟨(some 83), none, .fa 1 (.t 6)⟩, ⟨(some 84), none, .load false 1 (.t 83)⟩, ⟨(some 85), none, .bin .lss (.t 84) (.c (.int .i64 (0)))⟩, ⟨(some 86), none, .mv (.t 85)⟩, ⟨(some 87), (some (86, false)), .fa 0 (.t 6)⟩, ⟨(some 88), (some (86, false)), .load false 1 (.t 87)⟩, ⟨(some 89), (some (86, false)), .mv (.t 88)⟩, ⟨(some 90), (some (89, true)), .fa 1 (.t 6)⟩, ⟨(some 91), (some (89, true)), .load false 1 (.t 90)⟩, ⟨(some 92), (some (89, true)), .fa 1 (.t 1)⟩, ⟨(some 93), (some (89, true)), .load false 1 (.t 92)⟩, ⟨(some 94), (some (89, true)), .bin .geq (.t 91) (.t 93)⟩, ⟨(some 95), (some (86, false)), .pick (.t 89) (.t 94) (.c (.bool false))⟩, ⟨(some 96), none, .pick (.t 86) (.c (.bool true)) (.t 95)⟩, ⟨(some 97), none, .mv (.t 96)⟩, ⟨(some 98), (some (97, false)), .fa 0 (.t 6)⟩, ⟨(some 99), (some (97, false)), .load false 1 (.t 98)⟩, ⟨(some 100), (some (97, false)), .un .not (.t 99)⟩, ⟨(some 101), (some (97, false)), .mv (.t 100)⟩, ⟨(some 102), (some (101, true)), .fa 1 (.t 6)⟩, ⟨(some 103), (some (101, true)), .load false 1 (.t 102)⟩, ⟨(some 104), (some (101, true)), .fa 0 (.t 1)⟩, ⟨(some 105), (some (101, true)), .load false 1 (.t 104)⟩, ⟨(some 106), (some (101, true)), .bin .geq (.t 103) (.t 105)⟩, ⟨(some 107), (some (97, false)), .pick (.t 101) (.t 106) (.c (.bool false))⟩, ⟨(some 108), none, .pick (.t 97) (.c (.bool true)) (.t 107)⟩])
  (.keep [1, 3, 4, 5, 108] (.cond (.t 108) (.seq (.reg [⟨(some 2), none, .mv (.c (.bool false))⟩]) .ret) .skip))))))
  (.keep [1, 3, 4, 5] (.reg [⟨(some 76), none, .mv (.t 5)⟩, ⟨(some 77), none, .bin .add (.t 76) (.c (.int .i64 (1)))⟩, ⟨(some 5), none, .mv (.t 77)⟩]))))) [1, 3, 4, 5]
def A.probateref03_Right.L0 : AC := .post (.seq (.seq (.reg [⟨(some 43), none, .mv (.t 3)⟩, ⟨(some 44), none, .fa 3 (.t 1)⟩, ⟨(some 45), none, .load false 1 (.t 44)⟩, ⟨(some 46), none, .len false (.t 45)⟩, ⟨(some 47), none, .bin .lss (.t 43) (.t 46)⟩])
  (.keep [1, 3, 47] (.cond (.t 47) .skip (.exit 0))))
  (.keep [1, 3] (.seq (.block 1 (.seq (.reg [⟨(some 50), none, .fa 3 (.t 1)⟩, ⟨(some 51), none, .load false 1 (.t 50)⟩, ⟨(some 52), none, .mv (.t 3)⟩, ⟨(some 53), none, .ia 2 (.t 51) (.t 52)⟩, ⟨(some 54), none, .load true 2 (.t 53)⟩, ⟨(some 4), none, .alloc [(.int .i64 (0)), (.sl 0 1 [])]⟩, ⟨none, none, .store 2 (.t 4) (.t 54)⟩])
  (.keep [1, 3, 4] (.seq (.seq (.reg [⟨(some 55), none, .fa 0 (.t 4)⟩, ⟨(some 56), none, .load false 1 (.t 55)⟩, ⟨(some 57), none, .bin .lss (.t 56) (.c (.int .i64 (0)))⟩, ⟨(some 58), none, .mv (.t 57)⟩, ⟨(some 59), (some (58, false)), .fa 0 (.t 4)⟩, ⟨(some 60), (some (58, false)), .load false 1 (.t 59)⟩, ⟨(some 61), (some (58, false)), .fa 1 (.t 1)⟩, ⟨(some 62), (some (58, false)), .load false 1 (.t 61)⟩, ⟨(some 63), (some (58, false)), .bin .geq (.t 60) (.t 62)⟩, ⟨(some 64), none, .pick (.t 58) (.c (.bool true)) (.t 63)⟩, ⟨(some 65), none, .mv (.t 64)⟩, ⟨(some 66), (some (65, false)), .fa 1 (.t 4)⟩, ⟨(some 67), (some (65, false)), .load false 1 (.t 66)⟩, ⟨(some 68), (some (65, false)), .len false (.t 67)⟩, ⟨(some 69), (some (65, false)), .bin .gtr (.t 68) (.c (.int .i64 (8)))⟩, ⟨(some 70), none, .pick (.t 65) (.c (.bool true)) (.t 69)⟩])
  (.keep [1, 3, 4, 70] (.cond (.t 70) (.seq (.reg [⟨(some 2), none, .mv (.c (.bool false))⟩]) .ret) .skip)))
  (.keep [1, 3, 4] (.seq (.reg [⟨(some 5), none, .mv (.c (.int .i64 (0)))⟩])
  (.keep [1, 3, 4, 5] (.block 2 (.loop A.probateref03_Right.L1)))))))))
  (.keep [1, 3] (.reg [⟨(some 48), none, .mv (.t 3)⟩, ⟨(some 49), none, .bin .add (.t 48) (.c (.int .i64 (1)))⟩, ⟨(some 3), none, .mv (.t 49)⟩]))))) [1, 3]
def A.probateref03_Right : AFn := ⟨109, [(2, none)], (.seq (.reg [⟨(some 1), none, .box (.t 0)⟩, ⟨(some 2), none, .mv (.c (.bool false))⟩])
  (.keep [1] (.seq (.seq (.reg [⟨(some 7), none, .fa 0 (.t 1)⟩, ⟨(some 8), none, .load false 1 (.t 7)⟩, ⟨(some 9), none, .bin .lss (.t 8) (.c (.int .i64 (0)))⟩, ⟨(some 10), none, .mv (.t 9)⟩, ⟨(some 11), (some (10, false)), .fa 0 (.t 1)⟩, ⟨(some 12), (some (10, false)), .load false 1 (.t 11)⟩, ⟨(some 13), (some (10, false)), .bin .gtr (.t 12) (.c (.int .i64 (16)))⟩, ⟨(some 14), none, .pick (.t 10) (.c (.bool true)) (.t 13)⟩, ⟨(some 15), none, .mv (.t 14)⟩, ⟨(some 16), (some (15, false)), .fa 1 (.t 1)⟩, ⟨(some 17), (some (15, false)), .load false 1 (.t 16)⟩, ⟨(some 18), (some (15, false)), .bin .lss (.t 17) (.c (.int .i64 (1)))⟩, ⟨(some 19), none, .pick (.t 15) (.c (.bool true)) (.t 18)⟩, ⟨(some 20), none, .mv (.t 19)⟩, ⟨(some 21), (some (20, false)), .fa 1 (.t 1)⟩, ⟨(some 22), (some (20, false)), .load false 1 (.t 21)⟩, ⟨(some 23), (some (20, false)), .bin .gtr (.t 22) (.c (.int .i64 (24)))⟩, ⟨(some 24), none, .pick (.t 20) (.c (.bool true)) (.t 23)⟩, ⟨(some 25), none, .mv (.t 24)⟩, ⟨(some 26), (some (25, false)), .fa 2 (.t 1)⟩, ⟨(some 27), (some (25, false)), .load false 1 (.t 26)⟩, ⟨(some 28), (some (25, false)), .bin .lss (.t 27) (.c (.int .i64 (0)))⟩, ⟨(some 29), none, .pick (.t 25) (.c (.bool true)) (.t 28)⟩, ⟨(some 30), none, .mv (.t 29)⟩, ⟨(some 31), (some (30, false)), .fa 2 (.t 1)⟩, ⟨(some 32), (some (30, false)), .load false 1 (.t 31)⟩, ⟨(some 33), (some (30, false)), .fa 1 (.t 1)⟩, ⟨(some 34), (some (30, false)), .load false 1 (.t 33)⟩, ⟨(some 35), (some (30, false)), .bin .geq (.t 32) (.t 34)⟩, ⟨(some 36), none, .pick (.t 30) (.c (.bool true)) (.t 35)⟩, ⟨(some 37), none, .mv (.t 36)⟩, ⟨(some 38), (some (37, false)), .fa 3 (.t 1)⟩, ⟨(some 39), (some (37, false)), .load false 1 (.t 38)⟩, ⟨(some 40), (some (37, false)), .len false (.t 39)⟩, ⟨(some 41), (some (37, false)), .bin .gtr (.t 40) (.c (.int .i64 (60)))⟩, ⟨(some 42), none, .pick (.t 37) (.c (.bool true)) (.t 41)⟩])
  (.keep [1, 42] (.cond (.t 42) (.seq (.reg [⟨(some 2), none, .mv (.c (.bool false))⟩]) .ret) .skip)))
  (.keep [1] (.seq (.seq (.reg [⟨(some 3), none, .mv (.c (.int .i64 (0)))⟩])
  (.keep [1, 3] (.block 0 (.loop A.probateref03_Right.L0))))
  (.keep [] (.seq (.reg [⟨(some 2), none, .mv (.c (.bool true))⟩]) .ret)))))))⟩
def A.probateref03_Same.L1 : AC := .post (.seq (.seq (.reg [⟨(some 72), none, .mv (.t 6)⟩, ⟨(some 73), none, .fa 3 (.t 2)⟩, ⟨(some 74), none, .load false 1 (.t 73)⟩, ⟨(some 75), none, .mv (.t 5)⟩, ⟨(some 76), none, .ia 2 (.t 74) (.t 75)⟩, ⟨(some 77), none, .fa 1 (.t 76)⟩, ⟨(some 78), none, .load false 1 (.t 77)⟩, ⟨(some 79), none, .len false (.t 78)⟩, ⟨(some 80), none, .bin .lss (.t 72) (.t 79)⟩])
  (.keep [2, 3, 5, 6, 80] (.cond (.t 80) .skip (.exit 2))))
  (.keep [2, 3, 5, 6] (.seq (.block 3 (.seq (.draw [(.pl, ⟨(some 83), none, .fa 3 (.t 2)⟩), (.pl, ⟨(some 84), none, .load false 1 (.t 83)⟩), (.pl, ⟨(some 85), none, .mv (.t 5)⟩), (.pl, ⟨(some 86), none, .ia 2 (.t 84) (.t 85)⟩), (.pl, ⟨(some 87), none, .fa 1 (.t 86)⟩), (.pl, ⟨(some 88), none, .load false 1 (.t 87)⟩), (.pl, ⟨(some 89), none, .mv (.t 6)⟩), (.pl, ⟨(some 90), none, .ia 2 (.t 88) (.t 89)⟩), (.pl, ⟨(some 91), none, .load true 2 (.t 90)⟩), (.pl, ⟨(some 92), none, .fa 3 (.t 3)⟩), (.pl, ⟨(some 93), none, .load false 1 (.t 92)⟩), (.pl, ⟨(some 94), none, .mv (.t 5)⟩), (.pl, ⟨(some 95), none, .ia 2 (.t 93) (.t 94)⟩), (.pl, ⟨(some 96), none, .fa 1 (.t 95)⟩), (.pl, ⟨(some 97), none, .load false 1 (.t 96)⟩), (.pl, ⟨(some 98), none, .mv (.t 6)⟩), (.pl, ⟨(some 99), none, .ia 2 (.t 97) (.t 98)⟩), (.pl, ⟨(some 100), none, .load true 2 (.t 99)⟩), (.pl, ⟨(some 101), none, .eqs true [(.b, 0), (.i, 1)] (.t 91) (.t 100)⟩)])
  (.keep [2, 3, 5, 6, 101] (.cond (.t 101) (.seq (.reg [⟨(some 4), none, .mv (.c (.bool false))⟩]) .ret) .skip))))
  (.keep [2, 3, 5, 6] (.reg [⟨(some 81), none, .mv (.t 6)⟩, ⟨(some 82), none, .bin .add (.t 81) (.c (.int .i64 (1)))⟩, ⟨(some 6), none, .mv (.t 82)⟩]))))) [2, 3, 5, 6]
def A.probateref03_Same.L0 : AC := .post (.seq (.seq (.reg [⟨(some 35), none, .mv (.t 5)⟩, ⟨(some 36), none, .fa 3 (.t 2)⟩, ⟨(some 37), none, .load false 1 (.t 36)⟩, ⟨(some 38), none, .len false (.t 37)⟩, ⟨(some 39), none, .bin .lss (.t 35) (.t 38)⟩])
  (.keep [2, 3, 5, 39] (.cond (.t 39) .skip (.exit 0))))
  (.keep [2, 3, 5] (.seq (.block 1 (.seq (.seq (.draw [(.pl, ⟨(some 42), none, .fa 3 (.t 2)⟩), (.pl, ⟨(some 43), none, .load false 1 (.t 42)⟩), (.pl, ⟨(some 44), none, .mv (.t 5)⟩), (.pl, ⟨(some 45), none, .ia 2 (.t 43) (.t 44)⟩), (.pl, ⟨(some 46), none, .fa 0 (.t 45)⟩), (.pl, ⟨(some 47), none, .load false 1 (.t 46)⟩), (.pl, ⟨(some 48), none, .fa 3 (.t 3)⟩), (.pl, ⟨(some 49), none, .load false 1 (.t 48)⟩), (.pl, ⟨(some 50), none, .mv (.t 5)⟩), (.pl, ⟨(some 51), none, .ia 2 (.t 49) (.t 50)⟩), (.pl, ⟨(some 52), none, .fa 0 (.t 51)⟩), (.pl, ⟨(some 53), none, .load false 1 (.t 52)⟩), (.pl, ⟨(some 54), none, .bin .neq (.t 47) (.t 53)⟩), (.pl, ⟨(some 55), none, .mv (.t 54)⟩), (.pl, ⟨(some 56), (some (55, false)), .fa 3 (.t 2)⟩), (.pl, ⟨(some 57), (some (55, false)), .load false 1 (.t 56)⟩), (.pl, ⟨(some 58), (some (55, false)), .mv (.t 5)⟩), (.pl, ⟨(some 59), (some (55, false)), .ia 2 (.t 57) (.t 58)⟩), (.pl, ⟨(some 60), (some (55, false)), .fa 1 (.t 59)⟩), (.pl, ⟨(some 61), (some (55, false)), .load false 1 (.t 60)⟩), (.pl, ⟨(some 62), (some (55, false)), .len false (.t 61)⟩), (.pl, ⟨(some 63), (some (55, false)), .fa 3 (.t 3)⟩), (.pl, ⟨(some 64), (some (55, false)), .load false 1 (.t 63)⟩), (.pl, ⟨(some 65), (some (55, false)), .mv (.t 5)⟩), (.pl, ⟨(some 66), (some (55, false)), .ia 2 (.t 64) (.t 65)⟩), (.pl, ⟨(some 67), (some (55, false)), .fa 1 (.t 66)⟩), (.pl, ⟨(some 68), (some (55, false)), .load false 1 (.t 67)⟩), (.pl, ⟨(some 69), (some (55, false)), .len false (.t 68)⟩), (.pl, ⟨(some 70), (some (55, false)), .bin .neq (.t 62) (.t 69)⟩), (.pl, ⟨(some 71), none, .pick (.t 55) (.c (.bool true)) (.t 70)⟩)])
  (.keep [2, 3, 5, 71] (.cond (.t 71) (.seq (.reg [⟨(some 4), none, .mv (.c (.bool false))⟩]) .ret) .skip)))
  (.keep [2, 3, 5] (.seq (.reg [⟨(some 6), none, .mv (.c (.int .i64 (0)))⟩])
  (.keep [2, 3, 5, 6] (.block 2 (.loop A.probateref03_Same.L1)))))))
  (.keep [2, 3, 5] (.reg [⟨(some 40), none, .mv (.t 5)⟩, ⟨(some 41), none, .bin .add (.t 40) (.c (.int .i64 (1)))⟩, ⟨(some 5), none, .mv (.t 41)⟩]))))) [2, 3, 5]
def A.probateref03_Same : AFn := ⟨102, [(4, none)], (.seq (.reg [⟨(some 2), none, .box (.t 0)⟩, ⟨(some 3), none, .box (.t 1)⟩, ⟨(some 4), none, .mv (.c (.bool false))⟩])
  (.keep [2, 3] (.seq (.seq (.reg [⟨(some 7), none, .fa 0 (.t 2)⟩, ⟨(some 8), none, .load false 1 (.t 7)⟩, ⟨(some 9), none, .fa 0 (.t 3)⟩, ⟨(some 10), none, .load false 1 (.t 9)⟩, ⟨(some 11), none, .bin .neq (.t 8) (.t 10)⟩, ⟨(some 12), none, .mv (.t 11)⟩, ⟨(some 13), (some (12, false)), .fa 1 (.t 2)⟩, ⟨(some 14), (some (12, false)), .load false 1 (.t 13)⟩, ⟨(some 15), (some (12, false)), .fa 1 (.t 3)⟩, ⟨(some 16), (some (12, false)), .load false 1 (.t 15)⟩, ⟨(some 17), (some (12, false)), .bin .neq (.t 14) (.t 16)⟩, ⟨(some 18), none, .pick (.t 12) (.c (.bool true)) (.t 17)⟩, ⟨(some 19), none, .mv (.t 18)⟩, ⟨(some 20), (some (19, false)), .fa 2 (.t 2)⟩, ⟨(some 21), (some (19, false)), .load false 1 (.t 20)⟩, ⟨(some 22), (some (19, false)), .fa 2 (.t 3)⟩, ⟨(some 23), (some (19, false)), .load false 1 (.t 22)⟩, ⟨(some 24), (some (19, false)), .bin .neq (.t 21) (.t 23)⟩, ⟨(some 25), none, .pick (.t 19) (.c (.bool true)) (.t 24)⟩, ⟨(some 26), none, .mv (.t 25)⟩, ⟨(some 27), (some (26, false)), .fa 3 (.t 2)⟩, ⟨(some 28), (some (26, false)), .load false 1 (.t 27)⟩, ⟨(some 29), (some (26, false)), .len false (.t 28)⟩, ⟨(some 30), (some (26, false)), .fa 3 (.t 3)⟩, ⟨(some 31), (some (26, false)), .load false 1 (.t 30)⟩, ⟨(some 32), (some (26, false)), .len false (.t 31)⟩, ⟨(some 33), (some (26, false)), .bin .neq (.t 29) (.t 32)⟩, ⟨(some 34), none, .pick (.t 26) (.c (.bool true)) (.t 33)⟩])
  (.keep [2, 3, 34] (.cond (.t 34) (.seq (.reg [⟨(some 4), none, .mv (.c (.bool false))⟩]) .ret) .skip)))
  (.keep [2, 3] (.seq (.seq (.reg [⟨(some 5), none, .mv (.c (.int .i64 (0)))⟩])
  (.keep [2, 3, 5] (.block 0 (.loop A.probateref03_Same.L0))))
  (.keep [] (.seq (.reg [⟨(some 4), none, .mv (.c (.bool true))⟩]) .ret)))))))⟩
def A.probateref03_Of.L0 : AC := .post (.seq (.seq (.reg [⟨(some 8), none, .mv (.t 6)⟩, ⟨(some 9), none, .fa 3 (.t 2)⟩, ⟨(some 10), none, .load false 1 (.t 9)⟩, ⟨(some 11), none, .len false (.t 10)⟩, ⟨(some 12), none, .bin .lss (.t 8) (.t 11)⟩])
  (.keep [1, 2, 5, 6, 12] (.cond (.t 12) .skip (.exit 0))))
  (.keep [1, 2, 5, 6] (.seq (.block 1 (.seq (.reg [⟨(some 15), none, .fa 3 (.t 2)⟩, ⟨(some 16), none, .load false 1 (.t 15)⟩, ⟨(some 17), none, .mv (.t 6)⟩, ⟨(some 18), none, .ia 2 (.t 16) (.t 17)⟩, ⟨(some 19), none, .fa 0 (.t 18)⟩, ⟨(some 20), none, .load false 1 (.t 19)⟩, ⟨(some 21), none, .mv (.t 1)⟩, ⟨(some 22), none, .bin .eql (.t 20) (.t 21)⟩])
  (.keep [1, 2, 5, 6, 22] (.cond (.t 22) (.reg [⟨(some 23), none, .mv (.t 5)⟩, ⟨(some 24), none, .mv (.t 6)⟩, ⟨(some 25), none, .bsl 1 false [(.int .i64 (0))] 1 [(0, (.t 24))]⟩, ⟨(some 26), none, .app 1 8 (.t 23) (.t 25)⟩, ⟨(some 5), none, .mv (.t 26)⟩]) .skip))))
  (.keep [1, 2, 5, 6] (.reg [⟨(some 13), none, .mv (.t 6)⟩, ⟨(some 14), none, .bin .add (.t 13) (.c (.int .i64 (1)))⟩, ⟨(some 6), none, .mv (.t 14)⟩]))))) [1, 2, 5, 6]
def A.probateref03_Of : AFn := ⟨28, [(4, none)], (.seq (.reg [⟨(some 2), none, .box (.t 0)⟩, ⟨(some 4), none, .mv (.c (.sl 0 1 []))⟩])
  (.keep [1, 2] (.seq (.reg [⟨(some 7), none, .bsl 1 false [(.int .i64 (0))] 0 []⟩, ⟨(some 5), none, .mv (.t 7)⟩])
  (.keep [1, 2, 5] (.seq (.seq (.reg [⟨(some 6), none, .mv (.c (.int .i64 (0)))⟩])
  (.keep [1, 2, 5, 6] (.block 0 (.loop A.probateref03_Of.L0))))
  (.keep [5] (.seq (.reg [⟨(some 27), none, .mv (.t 5)⟩, ⟨(some 4), none, .mv (.t 27)⟩]) .ret)))))))⟩
def A.probatelaw03_small : AFn := ⟨8, [(0, (some (true, 4)))], (.seq (.reg [⟨(some 0), none, .alloc [(.int .i64 (0)), (.int .i64 (0)), (.int .i64 (0)), (.sl 0 1 [])]⟩])
  (.keep [0] (.seq (.reg [⟨(some 1), none, .bld [(.int .i64 (0)), (.sl 0 1 [])] []⟩, ⟨(some 2), none, .bld [(.bool false), (.int .i64 (0))] []⟩, ⟨(some 3), none, .bld [(.bool false), (.int .i64 (0))] [(0, 1, (.c (.bool true)))]⟩, ⟨(some 4), none, .bsl 2 true [(.bool false), (.int .i64 (0))] 2 [(0, (.t 2)), (1, (.t 3))]⟩, ⟨(some 5), none, .bld [(.int .i64 (0)), (.sl 0 1 [])] [(1, 1, (.t 4))]⟩, ⟨(some 6), none, .bsl 2 true [(.int .i64 (0)), (.sl 0 1 [])] 2 [(0, (.t 1)), (1, (.t 5))]⟩, ⟨(some 7), none, .bld [(.int .i64 (0)), (.int .i64 (0)), (.int .i64 (0)), (.sl 0 1 [])] [(0, 1, (.c (.int .i64 (1)))), (1, 1, (.c (.int .i64 (1)))), (3, 1, (.t 6))]⟩, ⟨none, none, .store 4 (.t 0) (.t 7)⟩]) .ret)))⟩
end Go.Proofs.Ytmobijebjkjnoaa.Al
namespace Go.Proofs.Ytmobijebjkjnoaa.Al
open Go Go.RowKit
set_option linter.unusedSimpArgs false
set_option linter.unusedVariables false
attribute [-simp] List.getD_eq_getElem?_getD Int.not_lt Int.not_le List.map_take
theorem ixf_prod : A.slices_IndexFunc_Prod = ixfF 2 true := rfl
theorem ixf_sym : A.slices_IndexFunc_Sym = ixfF 2 true := rfl
theorem ctf_prod : A.slices_ContainsFunc_Prod = ctfF K.slices_IndexFunc_Prod := rfl
theorem ctf_sym : A.slices_ContainsFunc_Sym = ctfF K.slices_IndexFunc_Sym := rfl
/-- A symbol, a production, a grammar. -/
structure Sy where
  non : Bool
  n : Int
  deriving DecidableEq
structure Pr where
  left : Int
  right : List Sy
  deriving DecidableEq
structure Gm where
  terms : Int
  nons : Int
  start : Int
  prods : List Pr
  deriving DecidableEq
def symC (s : Sy) : List V := [.bool s.non, .int .i64 s.n]
def symV (s : Sy) : V := .agg (symC s)
def prC (p : Pr) : List V := [.int .i64 p.left, .sl 2 0 (p.right.map symV)]
def prV (p : Pr) : V := .agg (prC p)
def gmC (g : Gm) : List V := [.int .i64 g.terms, .int .i64 g.nons, .int .i64 g.start, .sl 2 0 (g.prods.map prV)]
def gmV (g : Gm) : V := .agg (gmC g)
theorem encS : Enc symV 2 true := ⟨fun _ => rfl, fun _ => rfl, fun _ => rfl, fun a n m v hv => by simp [symV, symC, V.cells] at hv; rcases hv with rfl | rfl <;> simp⟩
theorem encP : Enc prV 2 true := ⟨fun _ => rfl, fun _ => rfl, fun _ => rfl, fun a n m v hv => by
  simp [prV, prC, V.cells] at hv
  rcases hv with rfl | rfl
  · simp
  · rw [Bdd_sl0]; exact ⟨by omega, encS.cells n m a.right⟩⟩
theorem Wk.a4 {d d' : V} (w : Wk d d') (a b c : V) : Wk (.agg [a, b, c, d]) (.agg [a, b, c, d']) := .agg _ _ rfl fun i h1 h2 => by
  match i with
  | 0 => exact .same _
  | 1 => exact .same _
  | 2 => exact .same _
  | 3 => exact w
  | n + 4 => simp at h1; omega
theorem gm_bdd (g : Gm) (n m : Nat) : ∀ v ∈ gmC g, Bdd n m v := by
  intro v hv
  simp [gmC] at hv
  rcases hv with rfl | rfl | rfl | rfl
  · simp
  · simp
  · simp
  · rw [Bdd_sl0]; exact ⟨by omega, encP.cells n m g.prods⟩
def thereG (g : Gm) (s : Sy) : Bool := decide (0 ≤ s.n) && decide (s.n < if s.non = true then g.nons else g.terms)
def fitsG (g : Gm) (p : Pr) : Bool := thereG g ⟨true, p.left⟩ && decide (p.right.length ≤ 8) && p.right.all (thereG g)
def headG (g : Gm) : Bool := decide (0 ≤ g.terms) && decide (g.terms ≤ 16) && decide (1 ≤ g.nons) && decide (g.nons ≤ 24) && decide (0 ≤ g.start) && decide (g.start < g.nons) && decide (g.prods.length ≤ 60)
def rightG (g : Gm) : Bool := headG g && g.prods.all (fitsG g)
theorem not_any_not {α : Type} (f : α → Bool) : ∀ l : List α, (!l.any fun a => !f a) = l.all f
  | [] => rfl
  | a :: l => by have := not_any_not f l; simp only [List.any_cons, List.all_cons, Bool.not_or, Bool.not_not, this]
section
variable {X : Cx} {h : AH} {Q : V → AH → Prop}
/-- What layer 3's program calls. -/
structure LGr (X : Cx) : Prop where
  there : Has (Ecx X) K.gram_there A.gram_there
  fits : Has (Ecx X) K.gram_fits A.gram_fits
  fits1 : Has (Ecx X) K.gram_fits_1 A.gram_fits_1
  right : Has (Ecx X) K.gram_Right A.gram_Right
  right1 : Has (Ecx X) K.gram_Right_1 A.gram_Right_1
  ctP : Has (Ecx X) K.slices_ContainsFunc_Prod A.slices_ContainsFunc_Prod
  ctS : Has (Ecx X) K.slices_ContainsFunc_Sym A.slices_ContainsFunc_Sym
  ixP : Has (Ecx X) K.slices_IndexFunc_Prod A.slices_IndexFunc_Prod
  ixS : Has (Ecx X) K.slices_IndexFunc_Sym A.slices_IndexFunc_Sym
theorem there_spec (H : Has (Ecx X) K.gram_there A.gram_there) (g : Gm) (s : Sy) (hQ : Q (.bool (thereG g s)) h) : Ecx X K.gram_there [gmV g, symV s] h Q := by
  refine fn_walk H (by simp [A.gram_there]) fun wf => ?_
  have gr := ((Gr.refl h).new (gmC g)).new (symC s)
  obtain ⟨non, n⟩ := s
  unfold thereG at hQ
  cases non <;> by_cases c1 : 0 ≤ n
  · by_cases c2 : n < g.terms <;> simp [A.gram_there, gmV, symV, gmC, symC, V.cells, V.good, c1, c2] at hQ gr ⊢ <;> exact fin_wk gr (.same _) (by simp) hQ
  · simp [A.gram_there, gmV, symV, gmC, symC, V.cells, V.good, c1] at hQ gr ⊢; exact fin_wk gr (.same _) (by simp) hQ
  · by_cases c2 : n < g.nons <;> simp [A.gram_there, gmV, symV, gmC, symC, V.cells, V.good, c1, c2] at hQ gr ⊢ <;> exact fin_wk gr (.same _) (by simp) hQ
  · simp [A.gram_there, gmV, symV, gmC, symC, V.cells, V.good, c1] at hQ gr ⊢; exact fin_wk gr (.same _) (by simp) hQ
theorem fits1_spec (L : LGr X) (g : Gm) (s : Sy) (o : Nat) (ho : h.objs o = gmC g) (hQ : Q (.bool (!thereG g s)) h) : Ecx X K.gram_fits_1 [symV s, .ptr o 0] h Q := by
  refine Ecx.bdd fun hb => fn_walk L.fits1 (by simp [A.gram_fits_1]) fun wf => ?_
  have hol : o < h.nobj := by have := hb (.ptr o 0) (by simp); simpa using this
  have n1 : ¬ o = h.nobj := by omega
  have gr := (Gr.refl h).new (symC s)
  simp [A.gram_fits_1, symV, V.cells, V.good, n1, ho, show (gmC g).length = 4 from rfl, show (gmC g).take 4 = gmC g from rfl, show (symC s).length = 2 from rfl, show (symC s).take 2 = symC s from rfl]
  refine ecall (there_spec L.there g s ?_)
  simp
  exact fin_wk gr (.same _) (by simp) hQ
theorem gm4 (g : Gm) : (gmC g).length = 4 ∧ (gmC g).take 4 = gmC g := ⟨rfl, rfl⟩
theorem pr2 (p : Pr) : (prC p).length = 2 ∧ (prC p).take 2 = prC p := ⟨rfl, rfl⟩
theorem fits_spec3 (L : LGr X) (g : Gm) (p : Pr) (hl : p.right.length ≤ maxLen) (hQ : Q (.bool (fitsG g p)) h) : Ecx X K.gram_fits [gmV g, prV p] h Q := by
  refine fn_walk L.fits (by simp [A.gram_fits]) fun wf => ?_
  have gr := ((Gr.refl h).new (gmC g)).new (prC p)
  simp [A.gram_fits, gmV, prV, V.cells, V.good, gm4, fillV, setAt, show prC p = [.int .i64 p.left, .sl 2 0 (p.right.map symV)] from rfl]
  refine ecall (there_spec L.there g ⟨true, p.left⟩ ?_)
  unfold fitsG at hQ
  cases ht : thereG g ⟨true, p.left⟩ with
  | false => rw [ht] at hQ; simp at hQ ⊢; exact fin_wk gr (.same _) (by simp) hQ
  | true =>
    rw [ht] at hQ
    by_cases c : p.right.length ≤ 8
    · have c' : (p.right.length : Int) ≤ 8 := by omega
      simp [c] at hQ
      simp [c']
      have hcs := L.ctS
      have hxs := L.ixS
      rw [ctf_sym] at hcs
      rw [ixf_sym] at hxs
      refine ecall (containsFunc encS hcs hxs p.right 0 _ [] _ (fun s => !thereG g s) (by omega) (fun s _ Q' h' gr' hQ' => ?_) ?_)
      · refine fits1_spec L g s h.nobj ?_ hQ'
        rw [gr'.objs _ (by simp)]; simp
      · simp [not_any_not]
        exact fin_wk gr (.same _) (by simp) hQ
    · have c' : ¬ (p.right.length : Int) ≤ 8 := by omega
      simp [c] at hQ
      simp [c']
      exact fin_wk gr (.same _) (by simp) hQ
theorem right1_spec (L : LGr X) (g : Gm) (p : Pr) (o : Nat) (ho : h.objs o = gmC g) (hl : p.right.length ≤ maxLen) (hQ : Q (.bool (!fitsG g p)) h) : Ecx X K.gram_Right_1 [prV p, .ptr o 0] h Q := by
  refine Ecx.bdd fun hb => fn_walk L.right1 (by simp [A.gram_Right_1]) fun wf => ?_
  have hol : o < h.nobj := by have := hb (.ptr o 0) (by simp); simpa using this
  have n1 : ¬ o = h.nobj := by omega
  have gr := (Gr.refl h).new (prC p)
  simp [A.gram_Right_1, prV, V.cells, V.good, n1, ho, gm4, pr2]
  refine ecall (fits_spec3 L g p hl ?_)
  simp
  exact fin_wk gr (.same _) (by simp) hQ
/-- A grammar that may be handed in. -/
structure GmOk (g : Gm) : Prop where
  len : g.prods.length ≤ maxLen
  rl : ∀ p ∈ g.prods, p.right.length ≤ maxLen
theorem right3R (L : LGr X) (g : Gm) (ok : GmOk g) (hQ : Q (.bool (rightG g)) h) : Ecx X K.gram_Right [gmV g] h Q := by
  refine fn_walk L.right (by simp [A.gram_Right]) fun wf => ?_
  have gr := (Gr.refl h).new (gmC g)
  unfold rightG headG at hQ
  simp [A.gram_Right, gmV, V.cells, V.good, show gmC g = [.int .i64 g.terms, .int .i64 g.nons, .int .i64 g.start, .sl 2 0 (g.prods.map prV)] from rfl] at gr ⊢
  by_cases c1 : g.terms < 0
  · simp [c1, show ¬ 0 ≤ g.terms by omega] at hQ ⊢; exact fin_wk gr (.same _) (by simp) hQ
  by_cases c2 : 16 < g.terms
  · simp [c1, c2, show ¬ g.terms ≤ 16 by omega] at hQ ⊢; exact fin_wk gr (.same _) (by simp) hQ
  by_cases c3 : g.nons < 1
  · simp [c1, c2, c3, show ¬ 1 ≤ g.nons by omega] at hQ ⊢; exact fin_wk gr (.same _) (by simp) hQ
  by_cases c4 : 24 < g.nons
  · simp [c1, c2, c3, c4, show ¬ g.nons ≤ 24 by omega] at hQ ⊢; exact fin_wk gr (.same _) (by simp) hQ
  by_cases c5 : g.start < 0
  · simp [c1, c2, c3, c4, c5, show ¬ 0 ≤ g.start by omega] at hQ ⊢; exact fin_wk gr (.same _) (by simp) hQ
  by_cases c6 : g.nons ≤ g.start
  · simp [c1, c2, c3, c4, c5, c6, show ¬ g.start < g.nons by omega] at hQ ⊢; exact fin_wk gr (.same _) (by simp) hQ
  by_cases c7 : (60 : Int) < g.prods.length
  · simp [c1, c2, c3, c4, c5, c6, c7, show ¬ g.prods.length ≤ 60 by omega] at hQ ⊢; exact fin_wk gr (.same _) (by simp) hQ
  simp [show 0 ≤ g.terms by omega, show g.terms ≤ 16 by omega, show 1 ≤ g.nons by omega, show g.nons ≤ 24 by omega, show 0 ≤ g.start by omega, show g.start < g.nons by omega, show g.prods.length ≤ 60 by omega] at hQ
  simp [c1, c2, c3, c4, c5, c6, c7]
  have hcs := L.ctP
  have hxs := L.ixP
  rw [ctf_prod] at hcs
  rw [ixf_prod] at hxs
  refine ecall (containsFunc encP hcs hxs g.prods 0 _ [] _ (fun p => !fitsG g p) (by omega) (fun p hp Q' h' gr' hQ' => ?_) ?_)
  · refine right1_spec L g p h.nobj ?_ (ok.rl p hp) hQ'
    rw [gr'.objs _ (by simp)]; simp; rfl
  · simp [not_any_not]
    exact fin_wk gr (.same _) (by simp) hQ
/-! ### A nonterminal's productions -/
def ofF (non : Int) : List Pr → Nat → List Int
  | [], _ => []
  | p :: l, i => (if p.left = non then [(i : Int)] else []) ++ ofF non l (i + 1)
def ofG (g : Gm) (non : Int) : List Int := ofF non g.prods 0
theorem ofF_len (non : Int) : ∀ (l : List Pr) (i : Nat), (ofF non l i).length ≤ l.length
  | [], i => by simp [ofF]
  | p :: l, i => by have := ofF_len non l (i + 1); simp only [ofF, List.length_append, List.length_cons]; split <;> simp <;> omega
theorem ofP_spec (H : Has (Ecx X) K.gram_Of A.gram_Of) (g : Gm) (non : Int) (hl : g.prods.length ≤ 2 ^ 40) (hQ : Q (.sl 1 0 (ints (ofG g non))) h) : Ecx X K.gram_Of [gmV g, .int .i64 non] h Q := by
  refine fn_walk H (by simp [A.gram_Of]) fun wf => ?_
  have gr := (Gr.refl h).new (gmC g)
  have hgc : gmC g = [.int .i64 g.terms, .int .i64 g.nons, .int .i64 g.start, .sl 2 0 (g.prods.map prV)] := rfl
  simp [A.gram_Of, gmV, V.cells, V.good, hgc] at gr ⊢
  have htl := ofF_len non g.prods 0
  refine loopI (n := g.prods.length) (fun n env h' => ∃ k out e1 st, k ≤ g.prods.length ∧ n = g.prods.length - k ∧ env = [(1, .int .i64 non), (5, .sl e1 st (ints out)), (9, .sl 2 0 (g.prods.map prV)), (10, .int .i64 g.prods.length), (11, .int .i64 k)] ∧ Own h h' 1 e1 st (ints out) ∧ out ++ ofF non (g.prods.drop k) k = ofG g non) ?_
    ⟨0, [], 0, 1, by omega, by omega, rfl, ⟨gr, .inl rfl, .inl rfl⟩, rfl⟩
  rintro n env h' ⟨k, out, e1, st, hk, rfl, rfl, ow, ho⟩
  unfold A.gram_Of.L0
  have hol : out.length ≤ g.prods.length := by have := congrArg List.length ho; simp [ofG] at this; unfold ofG at *; omega
  by_cases hlt : k < g.prods.length
  · have hlt' : (k : Int) < g.prods.length := by omega
    have hg : (g.prods.map prV).getD k .undef = prV g.prods[k] := Enc.getD hlt
    have hw1 : IntKind.i64.wrap ((k : Int) + 1) = ((k + 1 : Nat) : Int) := by rw [wrap_i64 (by omega) (by omega)]; rfl
    rw [List.drop_eq_getElem_cons hlt, ofF] at ho
    generalize g.prods[k] = p at *
    have ow2 : Own h (h'.new (prC p)) 1 e1 st (ints out) := ⟨ow.gr.new _, ow.el, ow.st⟩
    by_cases c : p.left = non
    · rw [if_pos c] at ho
      simp [hlt', hg, prV, V.cells, V.good, prC, setAt, c, fillL, V.isAgg, hw1] at ow2 ⊢
      refine ow2.appZ (fun _ => rfl) (by simp; omega) fun e2 st2 h2 o2 _ _ => ?_
      have em : ints out ++ [V.int .i64 k] = ints (out ++ [(k : Int)]) := by simp [ints]
      rw [em] at o2 ⊢
      simp
      exact ⟨g.prods.length - (k + 1), by omega, iv ⟨k + 1, out ++ [(k : Int)], e2, st2, by omega, rfl, by rw [hw1], o2, by rw [← ho]; simp⟩⟩
    · rw [if_neg c, List.nil_append] at ho
      simp [hlt', hg, prV, V.cells, V.good, prC, setAt, c, hw1] at ow2 ⊢
      exact ⟨g.prods.length - (k + 1), by omega, iv ⟨k + 1, out, e1, st, by omega, rfl, by first | rfl | rw [hw1], ow2, ho⟩⟩
  · have hlt' : ¬ (k : Int) < g.prods.length := by omega
    obtain rfl : k = g.prods.length := by omega
    rw [List.drop_length, ofF, List.append_nil] at ho
    rw [ho] at ow ⊢
    simp [hlt']
    exact fin_own ow (Bdd_ints _ _ _) hQ
/-! ### A copy -/
end
end Go.Proofs.Ytmobijebjkjnoaa.Al
namespace Go.Proofs.Ytmobijebjkjnoaa.Al
open Go Go.RowKit
set_option linter.unusedSimpArgs false
set_option linter.unusedVariables false
attribute [-simp] List.getD_eq_getElem?_getD Int.not_lt Int.not_le List.map_take
/-- A tree's terminals. -/
def termsF : List Nd → List Str → List Str
  | [], out => out
  | n :: l, out => termsF l (if n.kind = 7 ∧ plc n.name out 0 < 0 then out ++ [n.name] else out)
def termsT (t : Te) : List Str := termsF t.nodes []
theorem termsF_len : ∀ (l : List Nd) (out : List Str), (termsF l out).length ≤ out.length + l.length ∧ out.length ≤ (termsF l out).length
  | [], out => by simp [termsF]
  | n :: l, out => by
    have key := termsF_len l (if n.kind = 7 ∧ plc n.name out 0 < 0 then out ++ [n.name] else out)
    simp only [termsF, List.length_cons]
    by_cases c : n.kind = 7 ∧ plc n.name out 0 < 0
    · rw [if_pos c] at key ⊢
      simp at key
      omega
    · rw [if_neg c] at key ⊢
      omega
section
variable {X : Cx} {h : AH} {Q : V → AH → Prop}
theorem Bdd_strs (n m : Nat) (l : List Str) : ∀ v ∈ cellsOf (strs l), Bdd n m v := by
  intro v hv
  have : ∀ l : List Str, cellsOf (strs l) = strs l := fun l => by
    induction l with
    | nil => rfl
    | cons a l ih => simp only [strs, List.map_cons, cellsOf_cons, V.cells, List.singleton_append] at *; rw [ih]
  rw [this] at hv
  obtain ⟨s, _, rfl⟩ := List.mem_map.1 hv
  simp
/-- Is a node a kid that is laid where its Alt is? -/
def kidT (x : Nd) (i kind : Int) : Bool := x.kids.any fun m => decide (x.kind = 2) && decide (m = i) && decide (kind = 1)
/-- A node's own nonterminal; below 0: it has none. -/
def hasN (t : Te) (i : Nat) : Bool := match t.nodes[i]? with
  | some x => decide (x.kind ≤ 5) && (t.rules.all fun r => decide (r.body ≠ i)) && !t.nodes.any fun y => kidT y i x.kind
  | none => false
def cntN (t : Te) (i : Nat) : Nat := (List.range i).countP (hasN t)
def ownN (t : Te) (i : Nat) : Int := if hasN t i then (t.rules.length + cntN t i : Nat) else -1
/-- A node's symbol. -/
def symT (t : Te) (i : Nat) : Sy := match t.nodes[i]? with
  | some x => if x.kind = 7 then ⟨false, plc x.name (termsT t) 0⟩ else if x.kind = 6 then ⟨true, plc x.name (rnames t) 0⟩ else ⟨true, ownN t i⟩
  | none => ⟨false, 0⟩
structure LR8 (X : Cx) : Prop where
  terms : Has (Ecx X) K.probateref08_Terms A.probateref08_Terms
  place : Has (Ecx X) K.probateref08_place A.probateref08_place
  rule : Has (Ecx X) K.probateref08_rule A.probateref08_rule
  own : Has (Ecx X) K.probateref08_own A.probateref08_own
  symbol : Has (Ecx X) K.probateref08_symbol A.probateref08_symbol
  symbols : Has (Ecx X) K.probateref08_symbols A.probateref08_symbols
def symsT (t : Te) (l : List Int) : List Sy := l.map fun m => symT t m.toNat
end
end Go.Proofs.Ytmobijebjkjnoaa.Al
namespace Go.Proofs.Ytmobijebjkjnoaa.Al
def A.rules_Right_o.L1 : AC := .post (.seq (.seq (.reg [⟨(some 59), none, .mv (.t 3)⟩, ⟨(some 60), none, .fa 1 (.t 5)⟩, ⟨(some 61), none, .load false 1 (.t 60)⟩, ⟨(some 62), none, .bin .leq (.t 59) (.t 61)⟩])
  (.keep [1, 3, 5, 6, 26, 27, 28, 62] (.cond (.t 62) .skip (.exit 2))))
  (.keep [1, 3, 5, 6, 26, 27, 28] (.seq (.block 3 (.seq (.reg [⟨(some 65), none, .fa 1 (.t 1)⟩, ⟨(some 66), none, .load false 1 (.t 65)⟩, ⟨(some 67), none, .mv (.t 3)⟩, ⟨(some 68), none, .ia 3 (.t 66) (.t 67)⟩, ⟨(some 69), none, .load true 3 (.t 68)⟩, ⟨(some 7), none, .alloc [(.int .i64 (0)), (.str []), (.sl 0 1 [])]⟩, ⟨none, none, .store 3 (.t 7) (.t 69)⟩])
  (.keep [1, 3, 5, 6, 7, 26, 27, 28] (.seq (.reg [⟨(some 70), none, .mv (.t 6)⟩, ⟨(some 71), none, .len false (.t 70)⟩, ⟨(some 72), none, .fa 2 (.t 7)⟩, ⟨(some 73), none, .load false 1 (.t 72)⟩, ⟨(some 74), none, .len false (.t 73)⟩, ⟨(some 75), none, .bin .sub (.t 71) (.t 74)⟩, ⟨(some 8), none, .mv (.t 75)⟩])
  (.keep [1, 3, 5, 6, 7, 8, 26, 27, 28] (.seq (.seq (.draw [(.pl, ⟨(some 76), none, .load true 2 (.t 1)⟩), (.pl, ⟨(some 77), none, .load true 3 (.t 7)⟩), (.pl, ⟨(some 78), none, .call (.c (.fn K.rules_Tree_fine [] [])) [(.t 76), (.t 77)]⟩), (.pl, ⟨(some 79), none, .un .not (.t 78)⟩), (.pl, ⟨(some 80), none, .mv (.t 79)⟩), (.pl, ⟨(some 81), (some (80, false)), .mv (.t 8)⟩), (.pl, ⟨(some 82), (some (80, false)), .bin .lss (.t 81) (.c (.int .i64 (0)))⟩), (.pl, ⟨(some 83), none, .pick (.t 80) (.c (.bool true)) (.t 82)⟩), (.pl, ⟨(some 84), none, .mv (.t 83)⟩), (.pl, ⟨(some 85), (some (84, false)), .mv (.t 6)⟩), (.pl, ⟨(some 86), (some (84, false)), .mv (.t 8)⟩), (.pl, ⟨(some 87), (some (84, false)), .slc 1 (.t 85) (some (.t 86)) none⟩), (.pl, ⟨(some 88), (some (84, false)), .fa 2 (.t 7)⟩), (.pl, ⟨(some 89), (some (84, false)), .load false 1 (.t 88)⟩), (.pl, ⟨(some 90), (some (84, false)), .call (.c (.fn K.slices_Equal_int [] [])) [(.t 87), (.t 89)]⟩), (.pl, ⟨(some 91), (some (84, false)), .un .not (.t 90)⟩), (.pl, ⟨(some 92), none, .pick (.t 84) (.c (.bool true)) (.t 91)⟩)])
  (.keep [1, 3, 5, 6, 8, 26, 27, 28, 92] (.cond (.t 92) (.seq (.reg [⟨(some 2), none, .mv (.c (.bool false))⟩]) .ret) .skip)))
  (.keep [1, 3, 5, 6, 8, 26, 27, 28] (.reg [⟨(some 93), none, .mv (.t 6)⟩, ⟨(some 94), none, .mv (.t 8)⟩, ⟨(some 95), none, .slc 1 (.t 93) none (some (.t 94))⟩, ⟨(some 96), none, .mv (.t 3)⟩, ⟨(some 97), none, .bsl 1 false [(.int .i64 (0))] 1 [(0, (.t 96))]⟩, ⟨(some 98), none, .appg 1 8 (.t 95) (.t 97)⟩, ⟨(some 6), none, .mv (.t 98)⟩]))))))))
  (.keep [1, 3, 5, 6, 26, 27, 28] (.reg [⟨(some 63), none, .mv (.t 3)⟩, ⟨(some 64), none, .bin .add (.t 63) (.c (.int .i64 (1)))⟩, ⟨(some 3), none, .mv (.t 64)⟩]))))) [1, 3, 5, 6, 26, 27, 28]
def A.rules_Right_o.L0 : AC := .post (.seq (.reg [⟨(some 29), none, .bin .lss (.t 28) (.t 27)⟩])
  (.keep [1, 3, 26, 27, 28, 29] (.seq (.cond (.t 29) .skip (.exit 0))
  (.keep [1, 3, 26, 27, 28] (.seq (.block 1 (.seq (.reg [⟨(some 30), none, .mv (.t 28)⟩, ⟨(some 31), none, .ia 2 (.t 26) (.t 28)⟩, ⟨(some 32), none, .load true 2 (.t 31)⟩, ⟨(some 5), none, .alloc [(.str []), (.int .i64 (0))]⟩, ⟨(some 4), none, .mv (.t 30)⟩, ⟨none, none, .store 2 (.t 5) (.t 32)⟩])
  (.keep [1, 3, 4, 5, 26, 27, 28] (.seq (.seq (.reg [⟨(some 33), none, .fa 0 (.t 5)⟩, ⟨(some 34), none, .load false 1 (.t 33)⟩, ⟨(some 35), none, .call (.c (.fn K.rules_token [] [])) [(.t 34), (.c (.int .i64 (1)))]⟩, ⟨(some 36), none, .un .not (.t 35)⟩, ⟨(some 37), none, .mv (.t 36)⟩, ⟨(some 38), (some (37, false)), .fa 0 (.t 1)⟩, ⟨(some 39), (some (37, false)), .load false 1 (.t 38)⟩, ⟨(some 40), (some (37, false)), .mv (.t 4)⟩, ⟨(some 41), (some (37, false)), .slc 2 (.t 39) none (some (.t 40))⟩, ⟨(some 42), (some (37, false)), .mkfn K.rules_Right_1 [] [(.t 5)]⟩, ⟨(some 43), (some (37, false)), .call (.c (.fn K.slices_ContainsFunc_Rule [] [])) [(.t 41), (.t 42)]⟩, ⟨(some 44), none, .pick (.t 37) (.c (.bool true)) (.t 43)⟩, ⟨(some 45), none, .mv (.t 44)⟩, ⟨(some 46), (some (45, false)), .fa 1 (.t 5)⟩, ⟨(some 47), (some (45, false)), .load false 1 (.t 46)⟩, ⟨(some 48), (some (45, false)), .mv (.t 3)⟩, ⟨(some 49), (some (45, false)), .bin .lss (.t 47) (.t 48)⟩, ⟨(some 50), none, .pick (.t 45) (.c (.bool true)) (.t 49)⟩, ⟨(some 51), none, .mv (.t 50)⟩, ⟨(some 52), (some (51, false)), .fa 1 (.t 5)⟩, ⟨(some 53), (some (51, false)), .load false 1 (.t 52)⟩, ⟨(some 54), (some (51, false)), .fa 1 (.t 1)⟩, ⟨(some 55), (some (51, false)), .load false 1 (.t 54)⟩, ⟨(some 56), (some (51, false)), .len false (.t 55)⟩, ⟨(some 57), (some (51, false)), .bin .geq (.t 53) (.t 56)⟩, ⟨(some 58), none, .pick (.t 51) (.c (.bool true)) (.t 57)⟩])
  (.keep [1, 3, 5, 26, 27, 28, 58] (.cond (.t 58) (.seq (.reg [⟨(some 2), none, .mv (.c (.bool false))⟩]) .ret) .skip)))
  (.keep [1, 3, 5, 26, 27, 28] (.seq (.reg [⟨(some 6), none, .mv (.c (.sl 0 1 []))⟩])
  (.keep [1, 3, 5, 6, 26, 27, 28] (.seq (.block 2 (.loop A.rules_Right_o.L1))
  (.keep [1, 3, 6, 26, 27, 28] (.seq (.reg [⟨(some 99), none, .mv (.t 6)⟩, ⟨(some 100), none, .len false (.t 99)⟩, ⟨(some 101), none, .bin .neq (.t 100) (.c (.int .i64 (1)))⟩])
  (.keep [1, 3, 26, 27, 28, 101] (.cond (.t 101) (.seq (.reg [⟨(some 2), none, .mv (.c (.bool false))⟩]) .ret) .skip))))))))))))
  (.keep [1, 3, 26, 27, 28] (.reg [⟨(some 102), none, .bin .add (.t 28) (.c (.int .i64 (1)))⟩, ⟨(some 28), none, .mv (.t 102)⟩]))))))) [1, 3, 26, 27, 28]
def A.rules_Right_o : AFn := ⟨108, [(2, none)], (.seq (.reg [⟨(some 1), none, .box (.t 0)⟩, ⟨(some 2), none, .mv (.c (.bool false))⟩])
  (.keep [1] (.seq (.seq (.reg [⟨(some 9), none, .fa 0 (.t 1)⟩, ⟨(some 10), none, .load false 1 (.t 9)⟩, ⟨(some 11), none, .len false (.t 10)⟩, ⟨(some 12), none, .bin .eql (.t 11) (.c (.int .i64 (0)))⟩, ⟨(some 13), none, .mv (.t 12)⟩, ⟨(some 14), (some (13, false)), .fa 0 (.t 1)⟩, ⟨(some 15), (some (13, false)), .load false 1 (.t 14)⟩, ⟨(some 16), (some (13, false)), .len false (.t 15)⟩, ⟨(some 17), (some (13, false)), .bin .gtr (.t 16) (.c (.int .i64 (24)))⟩, ⟨(some 18), none, .pick (.t 13) (.c (.bool true)) (.t 17)⟩, ⟨(some 19), none, .mv (.t 18)⟩, ⟨(some 20), (some (19, false)), .fa 1 (.t 1)⟩, ⟨(some 21), (some (19, false)), .load false 1 (.t 20)⟩, ⟨(some 22), (some (19, false)), .len false (.t 21)⟩, ⟨(some 23), (some (19, false)), .bin .gtr (.t 22) (.c (.int .i64 (200)))⟩, ⟨(some 24), none, .pick (.t 19) (.c (.bool true)) (.t 23)⟩])
  (.keep [1, 24] (.cond (.t 24) (.seq (.reg [⟨(some 2), none, .mv (.c (.bool false))⟩]) .ret) .skip)))
  (.keep [1] (.seq (.reg [⟨(some 3), none, .mv (.c (.int .i64 (0)))⟩])
  (.keep [1, 3] (.seq (.seq (.reg [⟨(some 25), none, .fa 0 (.t 1)⟩, ⟨(some 26), none, .load false 1 (.t 25)⟩, ⟨(some 27), none, .len false (.t 26)⟩, ⟨(some 28), none, .mv (.c (.int .i64 (0)))⟩])
  (.keep [1, 3, 26, 27, 28] (.block 0 (.loop A.rules_Right_o.L0))))
  (.keep [1, 3] (.seq (.reg [⟨(some 103), none, .mv (.t 3)⟩, ⟨(some 104), none, .fa 1 (.t 1)⟩, ⟨(some 105), none, .load false 1 (.t 104)⟩, ⟨(some 106), none, .len false (.t 105)⟩, ⟨(some 107), none, .bin .eql (.t 103) (.t 106)⟩, ⟨(some 2), none, .mv (.t 107)⟩]) .ret)))))))))⟩
end Go.Proofs.Ytmobijebjkjnoaa.Al
namespace Go.Proofs.Ytmobijebjkjnoaa.Al
open Go Go.RowKit
set_option linter.unusedSimpArgs false
set_option linter.unusedVariables false
attribute [-simp] List.getD_eq_getElem?_getD Int.not_lt Int.not_le List.map_take
section
variable {X : Cx} {h : AH} {Q : V → AH → Prop}
/-- Numbers that lie in an object, against numbers. -/
theorem eqO_spec (H : Has (Ecx X) K.slices_Equal_int A.slices_Equal_int) (a b : List Int) {o off c t n : Nat} {l : List V} (hn : a.length = n) (ho : h.objs o = l) (hoff : off + n ≤ l.length) (hl : (l.drop off).take n = ints a) (ha : n < 2 ^ 62)
    (hQ : Q (.bool (decide (a = b))) h) : Ecx X K.slices_Equal_int [.osl 1 o off n c, .sl 1 t (ints b)] h Q := by
  subst hn
  refine fn_walk H (by simp [A.slices_Equal_int]) fun wf => ?_
  by_cases hl' : (a.length : Int) = b.length
  · simp [A.slices_Equal_int, hl']
    refine loopI (n := a.length) (fun m env h' => ∃ k, k ≤ a.length ∧ m = a.length - k ∧ h' = h ∧ env = [(0, .osl 1 o off a.length c), (1, .sl 1 t (ints b)), (12, .int .i64 b.length), (13, .int .i64 k)] ∧ a.take k = b.take k) ?_ ⟨0, by omega, by omega, rfl, by rfl, rfl⟩
    rintro m env h' ⟨k, hk, rfl, rfl, rfl, he⟩
    unfold A.slices_Equal_int.L0
    by_cases hlt : k < a.length
    · have hlt' : (k : Int) < b.length := by omega
      have hlb : k < b.length := by omega
      have hga : l.getD (off + k) .undef = (V.int .i64) a[k] := by
        have : ((l.drop off).take a.length)[k]? = (ints a)[k]? := by rw [hl]
        rw [List.getElem?_take, if_pos hlt, List.getElem?_drop] at this
        simp only [List.getD_eq_getElem?_getD, this]
        simp [ints, hlt]
      have hgb := ints_get hlb
      have hr : off + k < l.length := by omega
      have hw1 : IntKind.i64.wrap ((k : Int) + 1) = ((k + 1 : Nat) : Int) := by rw [wrap_i64 (by omega) (by omega)]; rfl
      by_cases e : a[k] = b[k]
      · simp [hl', hlt', hlt, hga, hgb, V.cells, V.good, e, hw1, ho, hr]
        exact ⟨a.length - (k + 1), by omega, iv ⟨k + 1, by omega, rfl, rfl, rfl, take_ext2 hlt hlb he e⟩⟩
      · have hf : decide (a = b) = false := by
          simp only [decide_eq_false_iff_not]; rintro rfl; exact e rfl
        rw [hf] at hQ
        simp [hl', hlt', hlt, hga, hgb, V.cells, e, ho, hr]; exact fin (by simp) hQ
    · have hlt' : ¬ (k : Int) < b.length := by omega
      simp [hl', hlt']
      refine fin (by simp) ?_
      have hk : k = a.length := by omega
      rw [hk, List.take_length, show a.length = b.length by omega, List.take_length] at he
      simpa [he] using hQ
  · simp [A.slices_Equal_int, hl']
    refine fin (by simp) ?_
    have : decide (a = b) = false := by simp; intro h; exact hl' (by rw [h])
    rw [this] at hQ; exact hQ
theorem ruRight1_spec (L : LRu X) (r : Rl) {o : Nat} {n : Rl} (ho : h.objs o = rlC n) (hob : o < h.nobj) (hQ : Q (.bool (decide (r.name = n.name))) h) : Ecx X K.rules_Right_1 [rlV r, .ptr o 0] h Q := by
  refine fn_walk L.right1 (by simp [A.rules_Right_1]) fun wf => ?_
  have gr := (Gr.refl h).new (rlC r)
  have n1 : ¬ o = h.nobj := by omega
  have hnc : rlC n = [.str n.name, .int .i64 n.body] := rfl
  have hrc : rlC r = [.str r.name, .int .i64 r.body] := rfl
  simp [A.rules_Right_1, rlV, V.cells, V.good, n1, ho, hnc, hrc]
  exact fin_wk (by rw [← hrc]; exact gr) (.same _) (by simp) hQ
end
/-- One node: its kids are the last that are nobody's so far. -/
def stpS (t : Te) (a : Nat) (st : List Int) : Option (List Int) := match t.nodes[a]? with
  | some n => if fineP t n = true ∧ n.kids.length ≤ st.length ∧ st.drop (st.length - n.kids.length) = n.kids then some (st.take (st.length - n.kids.length) ++ [(a : Int)]) else none
  | none => none
def runS (t : Te) : Nat → Nat → List Int → Option (List Int)
  | 0, _, st => some st
  | k + 1, a, st => match stpS t a st with
    | some st' => runS t k (a + 1) st'
    | none => none
def rightS (t : Te) : List Rl → List Str → Nat → Option Nat
  | [], _, a => some a
  | r :: rs, seen, a => if tokenT r.name 1 = true ∧ r.name ∉ seen ∧ (a : Int) ≤ r.body ∧ r.body < t.nodes.length then (match runS t (r.body.toNat + 1 - a) a [] with
      | some [_] => rightS t rs (seen ++ [r.name]) (r.body.toNat + 1)
      | _ => none) else none
/-- As the program asks. -/
def rightP (t : Te) : Bool := decide (0 < t.rules.length) && decide (t.rules.length ≤ 24) && decide (t.nodes.length ≤ 200) && decide (rightS t t.rules [] 0 = some t.nodes.length)
/-- The open nodes, as they lie. -/
def StkV (lo : Nat) (h' : AH) (v : V) (st : List Int) : Prop := (st = [] ∧ v = .sl 0 1 []) ∨
  ∃ o cap, v = .osl 1 o 0 st.length cap ∧ cap ≠ 0 ∧ st.length ≤ cap ∧ lo < o ∧ o < h'.nobj ∧ cap ≤ (h'.objs o).length ∧ (h'.objs o).take st.length = ints st
section
variable {X : Cx} {h : AH} {Q : V → AH → Prop}
theorem appG_nil {K : V → AH → Prop} {zK : Lz K} {e sz e1 st st' : Nat} {m : List V} (hm : m ≠ []) (hst : st = 1 ∨ st = 2) (hb : m.length * sz ≤ 2 ^ 46)
    (hk : ∀ c, m.length ≤ c → K (.osl e h.nobj 0 m.length c) (h.new (cellsOf m ++ List.replicate ((c - m.length) * e) .undef))) : AppG h e sz (.sl e1 st []) (.sl e st' m) zK :=
  ⟨fun e => hm (List.eq_nil_of_length_eq_zero e), rfl, hst, rfl, hb, hk⟩
theorem appG_osl {K : V → AH → Prop} {zK : Lz K} {e sz o off len cap st' : Nat} {m : List V} (hm : m ≠ []) (hc : cap ≠ 0) (hf : off + cap * e ≤ (h.objs o).length) (hb : (len + m.length) * sz ≤ 2 ^ 46)
    (h1 : len + m.length ≤ cap → K (.osl e o off (len + m.length) cap) (h.set o (setAt (h.objs o) (off + len * e) (cellsOf m))))
    (h2 : cap < len + m.length → ∀ c, len + m.length ≤ c → K (.osl e h.nobj 0 (len + m.length) c) (h.new (((h.objs o).drop off).take (len * e) ++ cellsOf m ++ List.replicate ((c - (len + m.length)) * e) .undef))) : AppG h e sz (.osl e o off len cap) (.sl e st' m) zK :=
  ⟨fun e => hm (List.eq_nil_of_length_eq_zero e), rfl, rfl, hc, hf, hb, h1, h2⟩
theorem eqNil_spec (H : Has (Ecx X) K.slices_Equal_int A.slices_Equal_int) (b : List Int) {e s t : Nat} (hQ : Q (.bool (decide (b = []))) h) : Ecx X K.slices_Equal_int [.sl e s [], .sl 1 t (ints b)] h Q := by
  refine fn_walk H (by simp [A.slices_Equal_int]) fun wf => ?_
  have hb : (ints b).length = b.length := by simp [ints]
  by_cases c : b = []
  · subst c
    simp [A.slices_Equal_int, ints]
    refine loopI (n := 0) (fun m env h' => h' = h ∧ env = [(0, .sl e s []), (1, .sl 1 t []), (12, .int .i64 0), (13, .int .i64 0)]) ?_ ⟨rfl, rfl⟩
    rintro m env h' ⟨rfl, rfl⟩
    unfold A.slices_Equal_int.L0
    simp
    exact fin (by simp) (by simpa using hQ)
  · have c' : ¬ (0 : Int) = b.length := by have := List.length_pos_iff.2 c; omega
    have c2 : ¬ 0 = b.length := by have := List.length_pos_iff.2 c; omega
    simp [A.slices_Equal_int, hb, c', c2, c]
    exact fin (by simp) (by simpa [c] using hQ)
theorem take_set {l : List V} {st : List Int} {n r cap : Nat} {v : V} (hn : n = st.length) (ht : l.take n = ints st) (hr : r ≤ n) (hc : r < l.length) : (l.set r v).take (r + 1) = ints (st.take r) ++ [v] := by
  subst hn
  rw [List.take_succ_eq_append_getElem (by simpa using hc), List.getElem_set_self]
  congr 1
  rw [List.take_set_of_le (Nat.le_refl _)]
  have : (l.take st.length).take r = (ints st).take r := by rw [ht]
  rw [List.take_take, Nat.min_eq_left hr] at this
  rw [this]; simp [ints, List.map_take]
theorem StkV.to {lo : Nat} {h h' : AH} {v : V} {st : List Int} (s : StkV lo h v st) (hn : h.nobj ≤ h'.nobj) (ho : ∀ o, lo < o → o < h.nobj → h'.objs o = h.objs o) : StkV lo h' v st := by
  rcases s with s | ⟨o, cap, e1, e2, e3, e4, e5, e6, e7⟩
  · exact .inl s
  · exact .inr ⟨o, cap, e1, e2, e3, e4, by omega, by rw [ho o e4 e5]; exact e6, by rw [ho o e4 e5]; exact e7⟩
theorem rightL1 (L : LRu X) (t : Te) {h' h2 : AH} {r : Rl} {a B k : Nat} {Q : Ex → Env → AH → Prop} {zQ : Lz Q} {z : Lz (AC.loop A.rules_Right_o.L1)} (hr : t.rules.length < 2 ^ 30) (hn : t.nodes.length < 2 ^ 30) (hnn : ∀ n ∈ t.nodes, n.name.length ≤ 2 ^ 30) (hks : ∀ n ∈ t.nodes, n.kids.length ≤ 2 ^ 30)
    (q4 : Gr h h2) (q1 : h2.objs h.nobj = teC t) (q0 : h2.objs h'.nobj = rlC r) (nb : h.nobj < h'.nobj) (q5 : h'.nobj < h2.nobj) (hbod : (B : Int) = r.body) (hBl : B < t.nodes.length) (haB : a ≤ B)
    (hret : ∀ e h3, Gr h h3 → runS t (B + 1 - a) a [] = none → Q .ret ((2, .bool false) :: e) h3)
    (hex : ∀ h3 v st, Gr h h3 → h3.objs h.nobj = teC t → h.nobj < h3.nobj → StkV h'.nobj h3 v st → runS t (B + 1 - a) a [] = some st → Q (.exit 2) [(1, .ptr h.nobj 0), (3, .int .i64 ((B + 1 : Nat) : Int)), (5, .ptr h'.nobj 0), (6, v), (26, .sl 2 0 (t.rules.map rlV)), (27, .int .i64 t.rules.length), (28, .int .i64 k), (62, .bool false)] h3) :
    acZ (Ecx X) [(1, .ptr h.nobj 0), (3, .int .i64 (a : Int)), (5, .ptr h'.nobj 0), (6, .sl 0 1 []), (26, .sl 2 0 (t.rules.map rlV)), (27, .int .i64 t.rules.length), (28, .int .i64 k)] h2 z zQ := by
  have htc : teC t = [.sl 2 0 (t.rules.map rlV), .sl 3 0 (t.nodes.map ndV)] := rfl
  have hrc : rlC r = [.str r.name, .int .i64 r.body] := rfl
  refine loopI (n := B + 1 - a) (fun m env h3 => ∃ j st v, j ≤ B + 1 - a ∧ m = B + 1 - a - j ∧ Gr h h3 ∧ h3.objs h.nobj = teC t ∧ h3.objs h'.nobj = rlC r ∧ h'.nobj < h3.nobj ∧ env = [(1, .ptr h.nobj 0), (3, .int .i64 ((a + j : Nat) : Int)), (5, .ptr h'.nobj 0), (6, v), (26, .sl 2 0 (t.rules.map rlV)), (27, .int .i64 t.rules.length), (28, .int .i64 k)] ∧
    StkV h'.nobj h3 v st ∧ st.length ≤ j ∧ runS t (B + 1 - a - j) (a + j) st = runS t (B + 1 - a) a []) ?_ ⟨0, [], _, by omega, by omega, q4, q1, q0, q5, rfl, .inl ⟨rfl, rfl⟩, by simp, rfl⟩
  rintro m env h3 ⟨j, st, v, hj, rfl, gr3, ob3, or3, nb3, rfl, stk, hsl, hrun⟩
  unfold A.rules_Right_o.L1
  have n2 : ¬ h.nobj = h3.nobj := by omega
  have n3 : ¬ h'.nobj = h3.nobj := by omega
  by_cases hjl : j < B + 1 - a
  · have hle : ((a + j : Nat) : Int) ≤ r.body := by omega
    have hil : a + j < t.nodes.length := by omega
    have hil' : ((a + j : Nat) : Int) < t.nodes.length := by omega
    have hgn : (t.nodes.map ndV).getD (a + j) .undef = ndV t.nodes[a + j] := Enc.getD hil
    have hw2 : IntKind.i64.wrap (((a + j : Nat) : Int) + 1) = ((a + (j + 1) : Nat) : Int) := by rw [wrap_i64 (by omega) (by omega)]; rfl
    have hnk := hks _ (List.getElem_mem hil)
    have hnl := hnn _ (List.getElem_mem hil)
    have hst : stpS t (a + j) st = if fineP t t.nodes[a + j] = true ∧ t.nodes[a + j].kids.length ≤ st.length ∧ st.drop (st.length - t.nodes[a + j].kids.length) = t.nodes[a + j].kids then some (st.take (st.length - t.nodes[a + j].kids.length) ++ [((a + j : Nat) : Int)]) else none := by
      unfold stpS; rw [List.getElem?_eq_getElem hil]
    have hru := hrun
    rw [show B + 1 - a - j = (B + 1 - a - (j + 1)) + 1 by omega, runS, hst] at hru
    clear hst
    generalize t.nodes[a + j] = nd at *
    generalize haj : a + j = p at *
    have hnc : ndC nd = [.int .i64 nd.kind, .str nd.name, .sl 1 0 (ints nd.kids)] := rfl
    have u0 : (h3.new (ndC nd)).objs h3.nobj = ndC nd := by simp
    have u1 : (h3.new (ndC nd)).objs h.nobj = teC t := by simp [n2, ob3]
    have u2 : (h3.new (ndC nd)).objs h'.nobj = rlC r := by simp [n3, or3]
    have u3 : (h3.new (ndC nd)).nobj = h3.nobj + 1 := by simp
    have u4 := gr3.new (ndC nd)
    have u5 : ∀ o, o < h3.nobj → (h3.new (ndC nd)).objs o = h3.objs o := fun o ho => by rw [new_objs_ne _ _ (by omega)]
    have stk4 : StkV h'.nobj (h3.new (ndC nd)) v st := stk.to (by omega) fun o h1 h2 => u5 o h2
    simp [or3, hrc, hle, ob3, htc, hil', hgn, ndV, V.cells, V.good, hnc, setAt]
    rw [← hnc]
    generalize h3.new (ndC nd) = h4 at *
    rcases stk4 with ⟨rfl, rfl⟩ | ⟨o, cap, rfl, e2, e3, e4, e5, e6, e7⟩
    · cases hf : fineP t nd with
      | false =>
        rw [if_neg (fun e => by rw [hf] at e; exact absurd e.1 (by simp))] at hru
        simp [u0, hnc, u1, htc]
        rw [← hnc]
        refine dcall (.bool (fineP t nd)) (rufine_spec L t nd (by omega) hnl ⟨rfl, rfl⟩) ?_
        simp [hf]
        exact hret _ _ u4 hru.symm
      | true =>
      by_cases hz : nd.kids = []
      · rw [if_pos ⟨hf, by simp [hz], by simp [hz]⟩] at hru
        simp [u0, hnc, u1, htc]
        rw [← hnc]
        refine dcall (.bool (fineP t nd)) (rufine_spec L t nd (by omega) hnl ⟨rfl, rfl⟩) ?_
        have hw0 : IntKind.i64.wrap 0 = 0 := by rfl
        simp [hf, hz, u0, hnc, u1, htc, ints, hw0]
        refine dcall (.bool (decide (([] : List Int) = []))) (eqNil_spec (e := 0) (s := 1) (t := 0) L.eqI [] ⟨rfl, rfl⟩) ?_
        simp
        refine appG_nil (by simp) (.inl rfl) (by simp) fun c hc => ?_
        simp [hw2, V.cells]
        simp only [hz, List.length_nil, List.take_nil, List.nil_append] at hru
        exact ⟨B + 1 - a - (j + 1), by omega, iv ⟨j + 1, [(p : Int)], _, by omega, rfl, u4.new _, by rw [new_objs_ne _ _ (by omega)]; exact u1, by rw [new_objs_ne _ _ (by omega)]; exact u2, by simp; omega, by rw [← haj]; rfl,
          .inr ⟨h4.nobj, c, rfl, by simp at hc; omega, by simpa using hc, by omega, by simp, by simp at hc ⊢; omega, by simp [ints]⟩, by simp, by rw [show a + (j + 1) = p + 1 by omega]; exact hru⟩⟩
      · rw [if_neg (fun e => hz (List.eq_nil_of_length_eq_zero (by simpa using e.2.1)))] at hru
        have hzl : 0 < nd.kids.length := List.length_pos_iff.2 hz
        have hwr : IntKind.i64.wrap (0 - (nd.kids.length : Int)) = - (nd.kids.length : Int) := by rw [wrap_i64 (by omega) (by omega)]; omega
        simp [u0, hnc, u1, htc]
        rw [← hnc]
        refine dcall (.bool (fineP t nd)) (rufine_spec L t nd (by omega) hnl ⟨rfl, rfl⟩) ?_
        have hneg : -(nd.kids.length : Int) < 0 := by omega
        have hwr' : IntKind.i64.wrap (-(nd.kids.length : Int)) = -(nd.kids.length : Int) := wrap_i64 (by omega) (by omega)
        simp [hf, u0, hnc, u1, htc, ints, hwr', hneg, hzl, hz]
        exact hret _ _ u4 hru.symm
    · have hwr : IntKind.i64.wrap ((st.length : Int) - (nd.kids.length : Int)) = (st.length : Int) - (nd.kids.length : Int) := wrap_i64 (by omega) (by omega)
      cases hf : fineP t nd with
      | false =>
        rw [if_neg (fun e => by rw [hf] at e; exact absurd e.1 (by simp))] at hru
        simp [u0, hnc, u1, htc]
        rw [← hnc]
        refine dcall (.bool (fineP t nd)) (rufine_spec L t nd (by omega) hnl ⟨rfl, rfl⟩) ?_
        simp [hf]
        exact hret _ _ u4 hru.symm
      | true =>
      by_cases hz : nd.kids.length ≤ st.length
      · obtain ⟨r', hr'⟩ : ∃ r', r' = st.length - nd.kids.length := ⟨_, rfl⟩
        have hri : (st.length : Int) - (nd.kids.length : Int) = (r' : Int) := by omega
        rw [hri] at hwr
        have hneg : ¬ (r' : Int) < 0 := by omega
        have hrl : (r' : Int) ≤ st.length := by omega
        have hrc' : r' ≤ cap := by omega
        have hrc2 : (st.length : Int) ≤ cap := by omega
        have hrc3 : (r' : Int) ≤ cap := by omega
        rw [← hr'] at hru
        have hdrop : ((h4.objs o).drop r').take (st.length - r') = ints (st.drop r') := by
          rw [← List.drop_take, e7]; simp [ints]
        simp [u0, hnc, u1, htc, hri, hwr]
        rw [← hnc]
        refine dcall (.bool (fineP t nd)) (rufine_spec L t nd (by omega) hnl ⟨rfl, rfl⟩) ?_
        simp [hf, u0, hnc, u1, htc, hneg, hrl, hrc2, hrc3, ints, e3]
        refine dcall (.bool (decide (st.drop r' = nd.kids))) (eqO_spec L.eqI (st.drop r') nd.kids (l := h4.objs o) (by simp) rfl ?_ ?_ (by omega) ⟨rfl, rfl⟩) ?_
        · split <;> omega
        · by_cases hq : cap = r'
          · rw [if_pos hq]
            have : st.length - r' = 0 := by omega
            rw [this, show r' = st.length by omega]; simp [ints]
          · rw [if_neg hq]; exact hdrop
        by_cases hd : st.drop r' = nd.kids
        · rw [if_pos ⟨hf, hz, hd⟩] at hru
          simp only at hru
          simp [hd, hrc3]
          have hlen : (st.take r' ++ [(p : Int)]).length = r' + 1 := by simp; omega
          refine appG_osl (by simp) e2 (by omega) (by simp; omega) (fun hin => ?_) fun hout c hc => ?_
          · simp at hin
            simp [hw2, V.cells, setAt]
            have m1 : ¬ h.nobj = o := by omega
            have m2 : ¬ h'.nobj = o := by omega
            exact ⟨B + 1 - a - (j + 1), by omega, iv ⟨j + 1, _, _, by omega, rfl, u4.set (by omega) _, by rw [set_objs_ne _ _ _ m1]; exact u1, by rw [set_objs_ne _ _ _ m2]; exact u2, by rw [set_nobj]; omega, rfl,
              .inr ⟨o, cap, by rw [hlen], by omega, by omega, by omega, by rw [set_nobj]; exact e5, by rw [set_objs_same, List.length_set]; exact e6, by
                rw [set_objs_same, hlen, take_set (cap := cap) rfl e7 (by omega) (by omega)]; simp [ints]⟩, by omega, by rw [show a + (j + 1) = p + 1 by omega]; exact hru⟩⟩
          · simp at hout hc
            simp [hw2, V.cells, setAt]
            have htk : (h4.objs o).take r' = ints (st.take r') := by
              have : ((h4.objs o).take st.length).take r' = (ints st).take r' := by rw [e7]
              rw [List.take_take, Nat.min_eq_left (by omega)] at this
              rw [this]; simp [ints, List.map_take]
            have htl : (ints (st.take r')).length = r' := by simp [ints]; omega
            exact ⟨B + 1 - a - (j + 1), by omega, iv ⟨j + 1, _, _, by omega, rfl, u4.new _, by rw [new_objs_ne _ _ (by omega)]; exact u1, by rw [new_objs_ne _ _ (by omega)]; exact u2, by rw [new_nobj]; omega, rfl,
              .inr ⟨h4.nobj, c, by rw [hlen], by omega, by omega, by omega, by simp, by rw [new_objs_same, htk]; simp [htl]; omega, by
                rw [new_objs_same, htk, hlen, show ∀ R, ints (st.take r') ++ V.int .i64 (p : Int) :: R = (ints (st.take r') ++ [V.int .i64 (p : Int)]) ++ R from fun R => by simp, List.take_left' (by simp [htl])]; simp [ints]⟩, by omega, by rw [show a + (j + 1) = p + 1 by omega]; exact hru⟩⟩
        · rw [if_neg (fun e => hd e.2.2)] at hru
          simp [hd]
          exact hret _ _ u4 hru.symm
      · rw [if_neg (fun e => hz e.2.1)] at hru
        have hneg : (st.length : Int) - (nd.kids.length : Int) < 0 := by omega
        simp [u0, hnc, u1, htc, hwr]
        rw [← hnc]
        refine dcall (.bool (fineP t nd)) (rufine_spec L t nd (by omega) hnl ⟨rfl, rfl⟩) ?_
        simp [hf, hneg, show (st.length : Int) < nd.kids.length by omega, show st.length < nd.kids.length by omega]
        exact hret _ _ u4 hru.symm
  · have hle : ¬ ((a + j : Nat) : Int) ≤ r.body := by omega
    have hjj : B + 1 - a - j = 0 := by omega
    rw [hjj, runS] at hrun
    have hle2 : ¬ ((a : Int) + (j : Int) ≤ r.body) := by omega
    simp [or3, hrc, hle2]
    have := hex h3 v st gr3 ob3 (by omega) stk hrun.symm
    rw [show ((B + 1 : Nat) : Int) = (a : Int) + (j : Int) by omega] at this
    exact this
theorem ruRight_spec (L : LRu X) (HR : Has (Ecx X) K.rules_Right A.rules_Right_o) (t : Te) (hr : t.rules.length < 2 ^ 30) (hn : t.nodes.length < 2 ^ 30) (hrn : ∀ r ∈ t.rules, r.name.length ≤ 2 ^ 30) (hnn : ∀ n ∈ t.nodes, n.name.length ≤ 2 ^ 30) (hks : ∀ n ∈ t.nodes, n.kids.length ≤ 2 ^ 30)
    (hQ : Q (.bool (rightP t)) h) : Ecx X K.rules_Right [teV t] h Q := by
  refine fn_walk HR (by simp [A.rules_Right_o]) fun wf => ?_
  have htc : teC t = [.sl 2 0 (t.rules.map rlV), .sl 3 0 (t.nodes.map ndV)] := rfl
  have gr := (Gr.refl h).new (teC t)
  have hb0 : (h.new (teC t)).objs h.nobj = teC t := by simp
  have hb1 : (h.new (teC t)).nobj = h.nobj + 1 := by simp
  simp [A.rules_Right_o, teV, V.cells, V.good]
  generalize h.new (teC t) = h1 at *
  simp [hb0, htc]
  by_cases c0 : t.rules = []
  · have : rightP t = false := by simp [rightP, c0]
    rw [this] at hQ
    simp [c0]
    exact fin_wk gr (.same _) (by simp) hQ
  have c0' : 0 < t.rules.length := List.length_pos_iff.2 c0
  by_cases c1 : (24 : Int) < t.rules.length
  · have : rightP t = false := by
      have : ¬ t.rules.length ≤ 24 := by omega
      simp [rightP, this]
    rw [this] at hQ
    simp [c0, c1, hb0, htc]
    exact fin_wk gr (.same _) (by simp) hQ
  by_cases c2 : (200 : Int) < t.nodes.length
  · have : rightP t = false := by
      have : ¬ t.nodes.length ≤ 200 := by omega
      simp [rightP, this]
    rw [this] at hQ
    simp [c0, c1, c2, hb0, htc]
    exact fin_wk gr (.same _) (by simp) hQ
  have hrp : rightP t = decide (rightS t t.rules [] 0 = some t.nodes.length) := by
    unfold rightP
    rw [decide_eq_true c0', decide_eq_true (show t.rules.length ≤ 24 by omega), decide_eq_true (show t.nodes.length ≤ 200 by omega)]; simp
  rw [hrp] at hQ
  clear hrp
  simp [c0, c1, c2, hb0, htc]
  refine loopI (n := t.rules.length) (fun m env h' => ∃ k a, k ≤ t.rules.length ∧ m = t.rules.length - k ∧ a ≤ t.nodes.length ∧ Gr h h' ∧ h'.objs h.nobj = teC t ∧ h.nobj < h'.nobj ∧ env = [(1, .ptr h.nobj 0), (3, .int .i64 (a : Int)), (26, .sl 2 0 (t.rules.map rlV)), (27, .int .i64 t.rules.length), (28, .int .i64 k)] ∧
      rightS t (t.rules.drop k) ((rnames t).take k) a = rightS t t.rules [] 0) ?_ ⟨0, 0, by omega, by omega, by omega, gr, hb0, by omega, rfl, by simp⟩
  rintro m env h' ⟨k, a, hk, rfl, ha, gr', ob, nb, rfl, hS⟩
  unfold A.rules_Right_o.L0
  by_cases hlt : k < t.rules.length
  · have hlt' : (k : Int) < t.rules.length := by omega
    have hg : (t.rules.map rlV).getD k .undef = rlV t.rules[k] := Enc.getD hlt
    have hw1 : IntKind.i64.wrap ((k : Int) + 1) = ((k + 1 : Nat) : Int) := by rw [wrap_i64 (by omega) (by omega)]; rfl
    have hmem := hrn _ (List.getElem_mem hlt)
    have htk : (rnames t).take (k + 1) = (rnames t).take k ++ [t.rules[k].name] := by
      rw [List.take_succ_eq_append_getElem (by simp [rnames, hlt])]; simp [rnames]
    have hany : ((t.rules.take k).any fun r => decide (r.name = t.rules[k].name)) = decide (t.rules[k].name ∈ (rnames t).take k) := by
      apply Bool.eq_iff_iff.2
      simp [rnames, ← List.map_take]
    have hSd := hS
    rw [List.drop_eq_getElem_cons hlt, rightS] at hSd
    have hkl : (t.rules.map rlV).take k = (t.rules.take k).map rlV := List.map_take.symm
    generalize hrr : t.rules[k] = r at *
    have hrc : rlC r = [.str r.name, .int .i64 r.body] := rfl
    have n1 : ¬ h.nobj = h'.nobj := by omega
    have q0 : (h'.new (rlC r)).objs h'.nobj = rlC r := by simp
    have q1 : (h'.new (rlC r)).objs h.nobj = teC t := by simp [n1, ob]
    have q2 : (h'.new (rlC r)).nobj = h'.nobj + 1 := by simp
    have q3 : ∀ o, o < h'.nobj → (h'.new (rlC r)).objs o = h'.objs o := fun o ho => by rw [new_objs_ne _ _ (by omega)]
    have q4 := gr'.new (rlC r)
    simp [hlt', hg, rlV, V.cells, V.good, hrc, setAt]
    rw [← hrc]
    generalize h'.new (rlC r) = h2 at *
    refine ecall (token_spec L.s L.token r.name 1 (by omega) ?_)
    cases ht : tokenT r.name 1 with
    | false =>
      rw [if_neg (fun e => by rw [ht] at e; exact absurd e.1 (by simp))] at hSd
      rw [← hSd] at hQ
      simp
      exact fin_wk q4 (.same _) (by simp) (by simpa using hQ)
    | true =>
    have hct := L.ctR
    rw [show A.slices_ContainsFunc_Rule = ctfF K.slices_IndexFunc_Rule from rfl] at hct
    have hix := L.ixR
    rw [show A.slices_IndexFunc_Rule = ixfF 2 true from rfl] at hix
    simp [q1, htc, q0, hrc, hkl, show (k : Int) ≤ t.rules.length by omega]
    refine ecall (containsFunc encRl hct hix (t.rules.take k) _ _ [] _ (fun x => decide (x.name = r.name)) (by simp; omega) (fun x _ Q' h3 gr3 hQ' => ?_) ?_)
    · exact ruRight1_spec L x ((gr3.objs _ (by omega)).trans q0) (by have := gr3.nobj; omega) hQ'
    rw [hany]
    by_cases c3 : r.name ∈ (rnames t).take k
    · rw [if_neg (fun e => e.2.1 c3)] at hSd
      rw [← hSd] at hQ
      simp [c3]
      exact fin_wk q4 (.same _) (by simp) (by simpa using hQ)
    by_cases c4 : r.body < a
    · rw [if_neg (fun e => by omega)] at hSd
      rw [← hSd] at hQ
      simp [c3, c4, q0, hrc]
      exact fin_wk q4 (.same _) (by simp) (by simpa using hQ)
    by_cases c5 : (t.nodes.length : Int) ≤ r.body
    · rw [if_neg (fun e => by omega)] at hSd
      rw [← hSd] at hQ
      simp [c3, c4, c5, q0, q1, htc, hrc]
      exact fin_wk q4 (.same _) (by simp) (by simpa using hQ)
    rw [if_pos ⟨ht, c3, by omega, by omega⟩] at hSd
    simp [c3, c4, c5, q0, q1, htc, hrc]
    have q5 : h'.nobj < h2.nobj := by omega
    have hbod : ((r.body.toNat : Nat) : Int) = r.body := by omega
    generalize hB : r.body.toNat = B at *
    refine rightL1 L t hr hn hnn hks q4 q1 q0 nb q5 hbod (by omega) (by omega) (fun e h3 g3 he => ?_) (fun h3 v st g3 o3 n3 stk he => ?_)
    · rw [he] at hSd
      simp only at hSd
      rw [← hSd] at hQ
      simp
      exact fin_wk g3 (.same _) (by simp) (by simpa using hQ)
    · rw [he] at hSd
      have hnext : (st.length = 1 ∧ rightS t (t.rules.drop (k + 1)) ((rnames t).take k ++ [r.name]) (B + 1) = rightS t t.rules [] 0) ∨ (¬ st.length = 1 ∧ rightS t t.rules [] 0 = none) := by
        match st, hSd with
        | [x], hSd => exact .inl ⟨rfl, hSd⟩
        | [], hSd => exact .inr ⟨by simp, hSd.symm⟩
        | _ :: _ :: _, hSd => exact .inr ⟨by simp, hSd.symm⟩
      rw [← htk] at hnext
      have hvl : ∀ (env : Env) (K : V → AH → Prop) (zK : Lz K), K (.int .i64 st.length) h3 → lenZ (Ecx X) env h3 false v zK := fun env K zK hK => by
        rcases stk with ⟨rfl, rfl⟩ | ⟨o, cap, rfl, _⟩
        · simpa using hK
        · simpa using hK
      simp
      refine hvl _ _ _ ?_
      simp
      by_cases c6 : st.length = 1
      · have c6' : (st.length : Int) = 1 := by omega
        have hn2 := (hnext.resolve_right (fun e => e.1 c6)).2
        simp [c6', hw1]
        exact ⟨t.rules.length - (k + 1), by omega, iv ⟨k + 1, B + 1, by omega, rfl, by omega, g3, o3, n3, rfl, hn2⟩⟩
      · have c6' : ¬ (st.length : Int) = 1 := by omega
        rcases hnext with e | e
        · exact absurd e.1 c6
        · rw [e.2] at hQ
          simp [c6', c6]
          exact fin_wk g3 (.same _) (by simp) (by simpa using hQ)
  · have hlt' : ¬ (k : Int) < t.rules.length := by omega
    obtain rfl : k = t.rules.length := by omega
    rw [List.drop_length, rightS] at hS
    rw [← hS] at hQ
    simp [hlt', ob, htc]
    have : decide ((a : Int) = t.nodes.length) = decide (some a = some t.nodes.length) := by
      apply Bool.eq_iff_iff.2; simp; omega
    rw [this]
    exact fin_wk gr' (.same _) (by simp) hQ
end
end Go.Proofs.Ytmobijebjkjnoaa.Al
