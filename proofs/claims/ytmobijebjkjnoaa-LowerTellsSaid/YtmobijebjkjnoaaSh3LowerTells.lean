/-
  What the law LowerTells needs of this claim's texts (part 3). Conditions: each theorem's own.
-/
import Derived.Test.YtmobijebjkjnoaaAlKeys
import Derived.Test.YtmobijebjkjnoaaAlC
import Derived.Test.YtmobijebjkjnoaaAlA
import Derived.Test.YtmobijebjkjnoaaAlB
import Derived.Test.YtmobijebjkjnoaaSh1LowerTells
import Derived.Test.YtmobijebjkjnoaaSh2LowerTells
namespace Go.Proofs.Ytmobijebjkjnoaa.Al
def A.rules_Right.L1 : AC := .post (.seq (.seq (.reg [⟨(some 59), none, .mv (.t 3)⟩, ⟨(some 60), none, .fa 1 (.t 5)⟩, ⟨(some 61), none, .load false 1 (.t 60)⟩, ⟨(some 62), none, .bin .leq (.t 59) (.t 61)⟩])
  (.keep [1, 3, 5, 6, 26, 27, 28, 62] (.cond (.t 62) .skip (.exit 2))))
  (.keep [1, 3, 5, 6, 26, 27, 28] (.seq (.block 3 (.seq (.reg [⟨(some 65), none, .fa 1 (.t 1)⟩, ⟨(some 66), none, .load false 1 (.t 65)⟩, ⟨(some 67), none, .mv (.t 3)⟩, ⟨(some 68), none, .ia 3 (.t 66) (.t 67)⟩, ⟨(some 69), none, .load true 3 (.t 68)⟩, ⟨(some 7), none, .alloc [(.int .i64 (0)), (.str []), (.sl 0 1 [])]⟩, ⟨none, none, .store 3 (.t 7) (.t 69)⟩])
  (.keep [1, 3, 5, 6, 7, 26, 27, 28] (.seq (.reg [⟨(some 70), none, .mv (.t 6)⟩, ⟨(some 71), none, .len false (.t 70)⟩, ⟨(some 72), none, .fa 2 (.t 7)⟩, ⟨(some 73), none, .load false 1 (.t 72)⟩, ⟨(some 74), none, .len false (.t 73)⟩, ⟨(some 75), none, .bin .sub (.t 71) (.t 74)⟩, ⟨(some 8), none, .mv (.t 75)⟩])
  (.keep [1, 3, 5, 6, 7, 8, 26, 27, 28] (.seq (.seq (.draw [(.pl, ⟨(some 76), none, .load true 2 (.t 1)⟩), (.pl, ⟨(some 77), none, .load true 3 (.t 7)⟩), (.pl, ⟨(some 78), none, .call (.c (.fn K.rules_Tree_fine [] [])) [(.t 76), (.t 77)]⟩), (.pl, ⟨(some 79), none, .un .not (.t 78)⟩), (.pl, ⟨(some 80), none, .mv (.t 79)⟩), (.pl, ⟨(some 81), (some (80, false)), .mv (.t 8)⟩), (.pl, ⟨(some 82), (some (80, false)), .bin .lss (.t 81) (.c (.int .i64 (0)))⟩), (.pl, ⟨(some 83), none, .pick (.t 80) (.c (.bool true)) (.t 82)⟩), (.pl, ⟨(some 84), none, .mv (.t 83)⟩), (.pl, ⟨(some 85), (some (84, false)), .mv (.t 6)⟩), (.pl, ⟨(some 86), (some (84, false)), .mv (.t 8)⟩), (.pl, ⟨(some 87), (some (84, false)), .slc 1 (.t 85) (some (.t 86)) none⟩), (.pl, ⟨(some 88), (some (84, false)), .fa 2 (.t 7)⟩), (.pl, ⟨(some 89), (some (84, false)), .load false 1 (.t 88)⟩), (.pl, ⟨(some 90), (some (84, false)), .call (.c (.fn K.slices_Equal_int [] [])) [(.t 87), (.t 89)]⟩), (.pl, ⟨(some 91), (some (84, false)), .un .not (.t 90)⟩), (.pl, ⟨(some 92), none, .pick (.t 84) (.c (.bool true)) (.t 91)⟩)])
  (.keep [1, 3, 5, 6, 8, 26, 27, 28, 92] (.cond (.t 92) (.seq (.reg [⟨(some 2), none, .mv (.c (.bool false))⟩]) .ret) .skip)))
  (.keep [1, 3, 5, 6, 8, 26, 27, 28] (.reg [⟨(some 93), none, .mv (.t 6)⟩, ⟨(some 94), none, .mv (.t 8)⟩, ⟨(some 95), none, .slc 1 (.t 93) none (some (.t 94))⟩, ⟨(some 96), none, .mv (.t 3)⟩, ⟨(some 97), none, .bsl 1 false [(.int .i64 (0))] 1 [(0, (.t 96))]⟩, ⟨(some 98), none, .app 1 8 (.t 95) (.t 97)⟩, ⟨(some 6), none, .mv (.t 98)⟩]))))))))
  (.keep [1, 3, 5, 6, 26, 27, 28] (.reg [⟨(some 63), none, .mv (.t 3)⟩, ⟨(some 64), none, .bin .add (.t 63) (.c (.int .i64 (1)))⟩, ⟨(some 3), none, .mv (.t 64)⟩]))))) [1, 3, 5, 6, 26, 27, 28]
def A.rules_Right.L0 : AC := .post (.seq (.reg [⟨(some 29), none, .bin .lss (.t 28) (.t 27)⟩])
  (.keep [1, 3, 26, 27, 28, 29] (.seq (.cond (.t 29) .skip (.exit 0))
  (.keep [1, 3, 26, 27, 28] (.seq (.block 1 (.seq (.reg [⟨(some 30), none, .mv (.t 28)⟩, ⟨(some 31), none, .ia 2 (.t 26) (.t 28)⟩, ⟨(some 32), none, .load true 2 (.t 31)⟩, ⟨(some 5), none, .alloc [(.str []), (.int .i64 (0))]⟩, ⟨(some 4), none, .mv (.t 30)⟩, ⟨none, none, .store 2 (.t 5) (.t 32)⟩])
  (.keep [1, 3, 4, 5, 26, 27, 28] (.seq (.seq (.reg [⟨(some 33), none, .fa 0 (.t 5)⟩, ⟨(some 34), none, .load false 1 (.t 33)⟩, ⟨(some 35), none, .call (.c (.fn K.rules_token [] [])) [(.t 34), (.c (.int .i64 (1)))]⟩, ⟨(some 36), none, .un .not (.t 35)⟩, ⟨(some 37), none, .mv (.t 36)⟩, ⟨(some 38), (some (37, false)), .fa 0 (.t 1)⟩, ⟨(some 39), (some (37, false)), .load false 1 (.t 38)⟩, ⟨(some 40), (some (37, false)), .mv (.t 4)⟩, ⟨(some 41), (some (37, false)), .slc 2 (.t 39) none (some (.t 40))⟩, ⟨(some 42), (some (37, false)), .mkfn K.rules_Right_1 [] [(.t 5)]⟩, ⟨(some 43), (some (37, false)), .call (.c (.fn K.slices_ContainsFunc_Rule [] [])) [(.t 41), (.t 42)]⟩, ⟨(some 44), none, .pick (.t 37) (.c (.bool true)) (.t 43)⟩, ⟨(some 45), none, .mv (.t 44)⟩, ⟨(some 46), (some (45, false)), .fa 1 (.t 5)⟩, ⟨(some 47), (some (45, false)), .load false 1 (.t 46)⟩, ⟨(some 48), (some (45, false)), .mv (.t 3)⟩, ⟨(some 49), (some (45, false)), .bin .lss (.t 47) (.t 48)⟩, ⟨(some 50), none, .pick (.t 45) (.c (.bool true)) (.t 49)⟩, ⟨(some 51), none, .mv (.t 50)⟩, ⟨(some 52), (some (51, false)), .fa 1 (.t 5)⟩, ⟨(some 53), (some (51, false)), .load false 1 (.t 52)⟩, ⟨(some 54), (some (51, false)), .fa 1 (.t 1)⟩, ⟨(some 55), (some (51, false)), .load false 1 (.t 54)⟩, ⟨(some 56), (some (51, false)), .len false (.t 55)⟩, ⟨(some 57), (some (51, false)), .bin .geq (.t 53) (.t 56)⟩, ⟨(some 58), none, .pick (.t 51) (.c (.bool true)) (.t 57)⟩])
  (.keep [1, 3, 5, 26, 27, 28, 58] (.cond (.t 58) (.seq (.reg [⟨(some 2), none, .mv (.c (.bool false))⟩]) .ret) .skip)))
  (.keep [1, 3, 5, 26, 27, 28] (.seq (.reg [⟨(some 6), none, .mv (.c (.sl 0 1 []))⟩])
  (.keep [1, 3, 5, 6, 26, 27, 28] (.seq (.block 2 (.loop A.rules_Right.L1))
  (.keep [1, 3, 6, 26, 27, 28] (.seq (.reg [⟨(some 99), none, .mv (.t 6)⟩, ⟨(some 100), none, .len false (.t 99)⟩, ⟨(some 101), none, .bin .neq (.t 100) (.c (.int .i64 (1)))⟩])
  (.keep [1, 3, 26, 27, 28, 101] (.cond (.t 101) (.seq (.reg [⟨(some 2), none, .mv (.c (.bool false))⟩]) .ret) .skip))))))))))))
  (.keep [1, 3, 26, 27, 28] (.reg [⟨(some 102), none, .bin .add (.t 28) (.c (.int .i64 (1)))⟩, ⟨(some 28), none, .mv (.t 102)⟩]))))))) [1, 3, 26, 27, 28]
def A.rules_Right : AFn := ⟨108, [(2, none)], (.seq (.reg [⟨(some 1), none, .box (.t 0)⟩, ⟨(some 2), none, .mv (.c (.bool false))⟩])
  (.keep [1] (.seq (.seq (.reg [⟨(some 9), none, .fa 0 (.t 1)⟩, ⟨(some 10), none, .load false 1 (.t 9)⟩, ⟨(some 11), none, .len false (.t 10)⟩, ⟨(some 12), none, .bin .eql (.t 11) (.c (.int .i64 (0)))⟩, ⟨(some 13), none, .mv (.t 12)⟩, ⟨(some 14), (some (13, false)), .fa 0 (.t 1)⟩, ⟨(some 15), (some (13, false)), .load false 1 (.t 14)⟩, ⟨(some 16), (some (13, false)), .len false (.t 15)⟩, ⟨(some 17), (some (13, false)), .bin .gtr (.t 16) (.c (.int .i64 (24)))⟩, ⟨(some 18), none, .pick (.t 13) (.c (.bool true)) (.t 17)⟩, ⟨(some 19), none, .mv (.t 18)⟩, ⟨(some 20), (some (19, false)), .fa 1 (.t 1)⟩, ⟨(some 21), (some (19, false)), .load false 1 (.t 20)⟩, ⟨(some 22), (some (19, false)), .len false (.t 21)⟩, ⟨(some 23), (some (19, false)), .bin .gtr (.t 22) (.c (.int .i64 (200)))⟩, ⟨(some 24), none, .pick (.t 19) (.c (.bool true)) (.t 23)⟩])
  (.keep [1, 24] (.cond (.t 24) (.seq (.reg [⟨(some 2), none, .mv (.c (.bool false))⟩]) .ret) .skip)))
  (.keep [1] (.seq (.reg [⟨(some 3), none, .mv (.c (.int .i64 (0)))⟩])
  (.keep [1, 3] (.seq (.seq (.reg [⟨(some 25), none, .fa 0 (.t 1)⟩, ⟨(some 26), none, .load false 1 (.t 25)⟩, ⟨(some 27), none, .len false (.t 26)⟩, ⟨(some 28), none, .mv (.c (.int .i64 (0)))⟩])
  (.keep [1, 3, 26, 27, 28] (.block 0 (.loop A.rules_Right.L0))))
  (.keep [1, 3] (.seq (.reg [⟨(some 103), none, .mv (.t 3)⟩, ⟨(some 104), none, .fa 1 (.t 1)⟩, ⟨(some 105), none, .load false 1 (.t 104)⟩, ⟨(some 106), none, .len false (.t 105)⟩, ⟨(some 107), none, .bin .eql (.t 103) (.t 106)⟩, ⟨(some 2), none, .mv (.t 107)⟩]) .ret)))))))))⟩
def A.rules_Read : AFn := ⟨65, [(2, (some (true, 2))), (3, none), (4, none)], (.seq (.reg [⟨(some 2), none, .alloc [(.sl 0 1 []), (.sl 0 1 [])]⟩, ⟨(some 3), none, .mv (.c (.int .i64 (0)))⟩, ⟨(some 4), none, .mv (.c (.int .i64 (0)))⟩])
  (.keep [0, 2] (.seq (.reg [⟨(some 13), none, .mv (.t 0)⟩, ⟨(some 14), none, .call (.c (.fn K.scan_Scan [] [])) [(.t 13)]⟩, ⟨(some 12), none, .mv (.t 14)⟩, ⟨(some 15), none, .ext (.t 12) 0⟩, ⟨(some 16), none, .ext (.t 12) 1⟩, ⟨(some 17), none, .ext (.t 12) 2⟩, ⟨(some 5), none, .mv (.t 15)⟩, ⟨(some 6), none, .mv (.t 16)⟩, ⟨(some 7), none, .mv (.t 17)⟩])
  (.keep [0, 2, 5, 6, 7] (.seq (.seq (.reg [⟨(some 18), none, .mv (.t 7)⟩, ⟨(some 19), none, .bin .neq (.t 18) (.c (.int .i64 (0)))⟩])
  (.keep [0, 2, 5, 6, 7, 19] (.cond (.t 19) (.seq (.reg [⟨(some 20), none, .bld [(.sl 0 1 []), (.sl 0 1 [])] []⟩, ⟨(some 21), none, .mv (.t 6)⟩, ⟨(some 22), none, .mv (.t 7)⟩, ⟨none, none, .store 2 (.t 2) (.t 20)⟩, ⟨(some 3), none, .mv (.t 21)⟩, ⟨(some 4), none, .mv (.t 22)⟩]) .ret) .skip)))
  (.keep [0, 2, 5] (.seq (.reg [⟨(some 23), none, .mv (.t 5)⟩, ⟨(some 24), none, .mv (.t 0)⟩, ⟨(some 25), none, .len true (.t 24)⟩, ⟨(some 26), none, .bld [(.sl 0 1 []), (.int .i64 (0)), (.int .i64 (0)), (.sl 0 1 []), (.sl 0 1 []), (.sl 0 1 []), (.sl 0 1 [])] [(0, 1, (.t 23)), (2, 1, (.t 25))]⟩, ⟨(some 27), none, .box (.t 26)⟩, ⟨(some 8), none, .mv (.t 27)⟩])
  (.keep [2, 8] (.seq (.seq (.reg [⟨(some 28), none, .mv (.t 8)⟩, ⟨(some 29), none, .call (.c (.fn K.rules_reader_parse [] [])) [(.t 28)]⟩, ⟨(some 9), none, .mv (.t 29)⟩])
  (.keep [2, 8, 9] (.seq (.reg [⟨(some 30), none, .mv (.t 9)⟩, ⟨(some 31), none, .bin .geq (.t 30) (.c (.int .i64 (0)))⟩])
  (.keep [2, 8, 9, 31] (.cond (.t 31) (.seq (.reg [⟨(some 32), none, .bld [(.sl 0 1 []), (.sl 0 1 [])] []⟩, ⟨(some 33), none, .mv (.t 9)⟩, ⟨none, none, .store 2 (.t 2) (.t 32)⟩, ⟨(some 3), none, .mv (.t 33)⟩, ⟨(some 4), none, .mv (.c (.int .i64 (2)))⟩]) .ret) .skip)))))
  (.keep [2, 8] (.seq (.seq (.reg [⟨(some 34), none, .mv (.t 8)⟩, ⟨(some 35), none, .nilchk (.t 34)⟩, ⟨(some 36), none, .fa 3 (.t 35)⟩, ⟨(some 37), none, .fa 0 (.t 36)⟩, ⟨(some 38), none, .load false 1 (.t 37)⟩, ⟨(some 39), none, .len false (.t 38)⟩, ⟨(some 40), none, .bin .gtr (.t 39) (.c (.int .i64 (24)))⟩, ⟨(some 41), none, .mv (.t 40)⟩, ⟨(some 42), (some (41, false)), .mv (.t 8)⟩, ⟨(some 43), (some (41, false)), .nilchk (.t 42)⟩, ⟨(some 44), (some (41, false)), .fa 3 (.t 43)⟩, ⟨(some 45), (some (41, false)), .fa 1 (.t 44)⟩, ⟨(some 46), (some (41, false)), .load false 1 (.t 45)⟩, ⟨(some 47), (some (41, false)), .len false (.t 46)⟩, ⟨(some 48), (some (41, false)), .bin .gtr (.t 47) (.c (.int .i64 (200)))⟩, ⟨(some 49), none, .pick (.t 41) (.c (.bool true)) (.t 48)⟩])
  (.keep [2, 8, 49] (.cond (.t 49) (.seq (.reg [⟨(some 50), none, .bld [(.sl 0 1 []), (.sl 0 1 [])] []⟩, ⟨none, none, .store 2 (.t 2) (.t 50)⟩, ⟨(some 3), none, .mv (.c (.int .i64 (0)))⟩, ⟨(some 4), none, .mv (.c (.int .i64 (5)))⟩]) .ret) .skip)))
  (.keep [2, 8] (.seq (.seq (.reg [⟨(some 52), none, .mv (.t 8)⟩, ⟨(some 53), none, .call (.c (.fn K.rules_reader_names [] [])) [(.t 52)]⟩, ⟨(some 51), none, .mv (.t 53)⟩, ⟨(some 54), none, .ext (.t 51) 0⟩, ⟨(some 55), none, .ext (.t 51) 1⟩, ⟨(some 10), none, .mv (.t 54)⟩, ⟨(some 11), none, .mv (.t 55)⟩])
  (.keep [2, 8, 10, 11] (.seq (.reg [⟨(some 56), none, .mv (.t 11)⟩, ⟨(some 57), none, .bin .neq (.t 56) (.c (.int .i64 (0)))⟩])
  (.keep [2, 8, 10, 11, 57] (.cond (.t 57) (.seq (.reg [⟨(some 58), none, .bld [(.sl 0 1 []), (.sl 0 1 [])] []⟩, ⟨(some 59), none, .mv (.t 10)⟩, ⟨(some 60), none, .mv (.t 11)⟩, ⟨none, none, .store 2 (.t 2) (.t 58)⟩, ⟨(some 3), none, .mv (.t 59)⟩, ⟨(some 4), none, .mv (.t 60)⟩]) .ret) .skip)))))
  (.keep [2, 8] (.seq (.reg [⟨(some 61), none, .mv (.t 8)⟩, ⟨(some 62), none, .nilchk (.t 61)⟩, ⟨(some 63), none, .fa 3 (.t 62)⟩, ⟨(some 64), none, .load true 2 (.t 63)⟩, ⟨none, none, .store 2 (.t 2) (.t 64)⟩, ⟨(some 3), none, .mv (.c (.int .i64 (0)))⟩, ⟨(some 4), none, .mv (.c (.int .i64 (0)))⟩]) .ret)))))))))))))))⟩
def A.rules_Same : AFn := ⟨17, [(4, none)], (.seq (.reg [⟨(some 2), none, .box (.t 0)⟩, ⟨(some 3), none, .box (.t 1)⟩, ⟨(some 4), none, .mv (.c (.bool false))⟩])
  (.keep [2, 3] (.seq (.reg [⟨(some 5), none, .fa 0 (.t 2)⟩, ⟨(some 6), none, .load false 1 (.t 5)⟩, ⟨(some 7), none, .fa 0 (.t 3)⟩, ⟨(some 8), none, .load false 1 (.t 7)⟩, ⟨(some 9), none, .call (.c (.fn K.slices_Equal_Rule [] [])) [(.t 6), (.t 8)]⟩, ⟨(some 10), none, .mv (.t 9)⟩, ⟨(some 11), (some (10, true)), .fa 1 (.t 2)⟩, ⟨(some 12), (some (10, true)), .load false 1 (.t 11)⟩, ⟨(some 13), (some (10, true)), .fa 1 (.t 3)⟩, ⟨(some 14), (some (10, true)), .load false 1 (.t 13)⟩, ⟨(some 15), (some (10, true)), .call (.c (.fn K.slices_EqualFunc_Node [] [])) [(.t 12), (.t 14), (.c (.fn K.rules_Same_1 [] []))]⟩, ⟨(some 16), none, .pick (.t 10) (.t 15) (.c (.bool false))⟩, ⟨(some 4), none, .mv (.t 16)⟩]) .ret)))⟩
def A.rules_token : AFn := ⟨48, [(4, none)], (.seq (.reg [⟨(some 4), none, .mv (.c (.bool false))⟩])
  (.keep [0, 1] (.seq (.reg [⟨(some 9), none, .mv (.t 0)⟩, ⟨(some 10), none, .call (.c (.fn K.scan_Scan [] [])) [(.t 9)]⟩, ⟨(some 8), none, .mv (.t 10)⟩, ⟨(some 11), none, .ext (.t 8) 0⟩, ⟨(some 12), none, .ext (.t 8) 1⟩, ⟨(some 13), none, .ext (.t 8) 2⟩, ⟨(some 5), none, .mv (.t 11)⟩, ⟨(some 6), none, .mv (.t 12)⟩, ⟨(some 7), none, .mv (.t 13)⟩])
  (.keep [0, 1, 5, 7] (.seq (.reg [⟨(some 14), none, .mv (.t 7)⟩, ⟨(some 15), none, .bin .eql (.t 14) (.c (.int .i64 (0)))⟩, ⟨(some 16), none, .mv (.t 15)⟩, ⟨(some 17), (some (16, true)), .mv (.t 5)⟩, ⟨(some 18), (some (16, true)), .len false (.t 17)⟩, ⟨(some 19), (some (16, true)), .bin .eql (.t 18) (.c (.int .i64 (1)))⟩, ⟨(some 20), none, .pick (.t 16) (.t 19) (.c (.bool false))⟩, ⟨(some 21), none, .mv (.t 20)⟩, ⟨(some 22), (some (21, true)), .mv (.t 5)⟩, ⟨(some 23), (some (21, true)), .ia 3 (.t 22) (.c (.int .i64 (0)))⟩, ⟨(some 24), (some (21, true)), .fa 0 (.t 23)⟩, ⟨(some 25), (some (21, true)), .load false 1 (.t 24)⟩, ⟨(some 26), (some (21, true)), .mv (.t 1)⟩, ⟨(some 27), (some (21, true)), .bin .eql (.t 25) (.t 26)⟩, ⟨(some 28), none, .pick (.t 21) (.t 27) (.c (.bool false))⟩, ⟨(some 29), none, .mv (.t 28)⟩, ⟨(some 30), (some (29, true)), .mv (.t 5)⟩, ⟨(some 31), (some (29, true)), .ia 3 (.t 30) (.c (.int .i64 (0)))⟩, ⟨(some 32), (some (29, true)), .fa 2 (.t 31)⟩, ⟨(some 33), (some (29, true)), .load false 1 (.t 32)⟩, ⟨(some 34), (some (29, true)), .bin .eql (.t 33) (.c (.int .i64 (0)))⟩, ⟨(some 35), none, .pick (.t 29) (.t 34) (.c (.bool false))⟩, ⟨(some 36), none, .mv (.t 35)⟩, ⟨(some 37), (some (36, true)), .mv (.t 1)⟩, ⟨(some 38), (some (36, true)), .bin .eql (.t 37) (.c (.int .i64 (2)))⟩, ⟨(some 39), (some (36, true)), .mv (.t 38)⟩, ⟨(some 40), (some (39, false)), .mv (.t 5)⟩, ⟨(some 41), (some (39, false)), .ia 3 (.t 40) (.c (.int .i64 (0)))⟩, ⟨(some 42), (some (39, false)), .fa 1 (.t 41)⟩, ⟨(some 43), (some (39, false)), .load false 1 (.t 42)⟩, ⟨(some 44), (some (39, false)), .mv (.t 0)⟩, ⟨(some 45), (some (39, false)), .bin .eql (.t 43) (.t 44)⟩, ⟨(some 46), (some (36, true)), .pick (.t 39) (.c (.bool true)) (.t 45)⟩, ⟨(some 47), none, .pick (.t 36) (.t 46) (.c (.bool false))⟩, ⟨(some 4), none, .mv (.t 47)⟩]) .ret)))))⟩
def A.rules_Right_1 : AFn := ⟨9, [(3, none)], (.seq (.reg [⟨(some 2), none, .box (.t 0)⟩, ⟨(some 3), none, .mv (.c (.bool false))⟩])
  (.keep [1, 2] (.seq (.reg [⟨(some 4), none, .fa 0 (.t 2)⟩, ⟨(some 5), none, .load false 1 (.t 4)⟩, ⟨(some 6), none, .fa 0 (.t 1)⟩, ⟨(some 7), none, .load false 1 (.t 6)⟩, ⟨(some 8), none, .bin .eql (.t 5) (.t 7)⟩, ⟨(some 3), none, .mv (.t 8)⟩]) .ret)))⟩
def A.rules_Same_1 : AFn := ⟨24, [(4, none)], (.seq (.reg [⟨(some 2), none, .box (.t 0)⟩, ⟨(some 3), none, .box (.t 1)⟩, ⟨(some 4), none, .mv (.c (.bool false))⟩])
  (.keep [2, 3] (.seq (.reg [⟨(some 5), none, .fa 0 (.t 2)⟩, ⟨(some 6), none, .load false 1 (.t 5)⟩, ⟨(some 7), none, .fa 0 (.t 3)⟩, ⟨(some 8), none, .load false 1 (.t 7)⟩, ⟨(some 9), none, .bin .eql (.t 6) (.t 8)⟩, ⟨(some 10), none, .mv (.t 9)⟩, ⟨(some 11), (some (10, true)), .fa 1 (.t 2)⟩, ⟨(some 12), (some (10, true)), .load false 1 (.t 11)⟩, ⟨(some 13), (some (10, true)), .fa 1 (.t 3)⟩, ⟨(some 14), (some (10, true)), .load false 1 (.t 13)⟩, ⟨(some 15), (some (10, true)), .bin .eql (.t 12) (.t 14)⟩, ⟨(some 16), none, .pick (.t 10) (.t 15) (.c (.bool false))⟩, ⟨(some 17), none, .mv (.t 16)⟩, ⟨(some 18), (some (17, true)), .fa 2 (.t 2)⟩, ⟨(some 19), (some (17, true)), .load false 1 (.t 18)⟩, ⟨(some 20), (some (17, true)), .fa 2 (.t 3)⟩, ⟨(some 21), (some (17, true)), .load false 1 (.t 20)⟩, ⟨(some 22), (some (17, true)), .call (.c (.fn K.slices_Equal_int [] [])) [(.t 19), (.t 21)]⟩, ⟨(some 23), none, .pick (.t 17) (.t 22) (.c (.bool false))⟩, ⟨(some 4), none, .mv (.t 23)⟩]) .ret)))⟩
def A.rules_Tree_fine_1 : AFn := ⟨9, [(3, none)], (.seq (.reg [⟨(some 2), none, .box (.t 0)⟩, ⟨(some 3), none, .mv (.c (.bool false))⟩])
  (.keep [1, 2] (.seq (.reg [⟨(some 4), none, .fa 0 (.t 2)⟩, ⟨(some 5), none, .load false 1 (.t 4)⟩, ⟨(some 6), none, .fa 1 (.t 1)⟩, ⟨(some 7), none, .load false 1 (.t 6)⟩, ⟨(some 8), none, .bin .eql (.t 5) (.t 7)⟩, ⟨(some 3), none, .mv (.t 8)⟩]) .ret)))⟩
def A.rules_reader_text.L0 : AC := .post (.seq (.seq (.reg [⟨(some 5), none, .mv (.t 2)⟩])
  (.keep [0, 5] (.cond (.t 5) .skip (.exit 0))))
  (.keep [0] (.seq (.block 1 (.seq (.reg [⟨(some 16), none, .mv (.t 0)⟩, ⟨(some 17), none, .call (.c (.fn K.rules_reader_name [] [])) [(.t 16)]⟩, ⟨(some 3), none, .alloc [(.str []), (.int .i64 (0))]⟩, ⟨none, none, .store 2 (.t 3) (.t 17)⟩])
  (.keep [0, 3] (.seq (.draw [(.pl, ⟨(some 18), none, .mv (.t 0)⟩), (.pl, ⟨(some 19), none, .mv (.t 0)⟩), (.pl, ⟨(some 20), none, .nilchk (.t 19)⟩), (.pl, ⟨(some 21), none, .fa 5 (.t 20)⟩), (.pl, ⟨(some 22), none, .load false 1 (.t 21)⟩), (.pl, ⟨(some 23), none, .load true 2 (.t 3)⟩), (.pl, ⟨(some 24), none, .bsl 2 true [(.str []), (.int .i64 (0))] 1 [(0, (.t 23))]⟩), (.eff, ⟨(some 25), none, .app 2 24 (.t 22) (.t 24)⟩), (.pl, ⟨(some 26), none, .nilchk (.t 18)⟩), (.pl, ⟨(some 27), none, .fa 5 (.t 26)⟩), (.eff, ⟨none, none, .store 1 (.t 27) (.t 25)⟩)])
  (.keep [0, 3] (.seq (.reg [⟨(some 28), none, .mv (.t 0)⟩, ⟨(some 29), none, .call (.c (.fn K.rules_reader_must [] [])) [(.t 28), (.c (.str [58]))]⟩])
  (.keep [0, 3] (.seq (.reg [⟨(some 30), none, .mv (.t 0)⟩, ⟨(some 31), none, .call (.c (.fn K.rules_reader_alternatives [] [])) [(.t 30)]⟩, ⟨(some 4), none, .mv (.t 31)⟩])
  (.keep [0, 3, 4] (.seq (.reg [⟨(some 32), none, .mv (.t 0)⟩, ⟨(some 33), none, .call (.c (.fn K.rules_reader_must [] [])) [(.t 32), (.c (.str [59]))]⟩])
  (.keep [0, 3, 4] (.draw [(.pl, ⟨(some 34), none, .mv (.t 0)⟩), (.pl, ⟨(some 35), none, .mv (.t 0)⟩), (.pl, ⟨(some 36), none, .nilchk (.t 35)⟩), (.pl, ⟨(some 37), none, .fa 3 (.t 36)⟩), (.pl, ⟨(some 38), none, .fa 0 (.t 37)⟩), (.pl, ⟨(some 39), none, .load false 1 (.t 38)⟩), (.pl, ⟨(some 40), none, .fa 0 (.t 3)⟩), (.pl, ⟨(some 41), none, .load false 1 (.t 40)⟩), (.pl, ⟨(some 42), none, .mv (.t 4)⟩), (.pl, ⟨(some 43), none, .bld [(.str []), (.int .i64 (0))] [(0, 1, (.t 41)), (1, 1, (.t 42))]⟩), (.pl, ⟨(some 44), none, .bsl 2 true [(.str []), (.int .i64 (0))] 1 [(0, (.t 43))]⟩), (.eff, ⟨(some 45), none, .app 2 24 (.t 39) (.t 44)⟩), (.pl, ⟨(some 46), none, .nilchk (.t 34)⟩), (.pl, ⟨(some 47), none, .fa 3 (.t 46)⟩), (.pl, ⟨(some 48), none, .fa 0 (.t 47)⟩), (.eff, ⟨none, none, .store 1 (.t 48) (.t 45)⟩)]))))))))))))
  (.keep [0] (.draw [(.pl, ⟨(some 6), none, .mv (.t 0)⟩), (.pl, ⟨(some 7), none, .nilchk (.t 6)⟩), (.pl, ⟨(some 8), none, .fa 1 (.t 7)⟩), (.pl, ⟨(some 9), none, .load false 1 (.t 8)⟩), (.pl, ⟨(some 10), none, .mv (.t 0)⟩), (.pl, ⟨(some 11), none, .nilchk (.t 10)⟩), (.pl, ⟨(some 12), none, .fa 0 (.t 11)⟩), (.pl, ⟨(some 13), none, .load false 1 (.t 12)⟩), (.pl, ⟨(some 14), none, .len false (.t 13)⟩), (.pl, ⟨(some 15), none, .bin .lss (.t 9) (.t 14)⟩), (.pl, ⟨(some 2), none, .mv (.t 15)⟩)]))))) [0, 2]
def A.rules_reader_text : AFn := ⟨49, [], (.seq (.reg [⟨(some 2), none, .mv (.c (.bool true))⟩])
  (.keep [0, 2] (.block 0 (.loop A.rules_reader_text.L0))))⟩
def A.rules_reader_name : AFn := ⟨52, [(2, (some (true, 2)))], (.seq (.reg [⟨(some 2), none, .alloc [(.str []), (.int .i64 (0))]⟩])
  (.keep [0, 2] (.seq (.seq (.draw [(.pl, ⟨(some 4), none, .mv (.t 0)⟩), (.pl, ⟨(some 5), none, .nilchk (.t 4)⟩), (.pl, ⟨(some 6), none, .fa 1 (.t 5)⟩), (.pl, ⟨(some 7), none, .load false 1 (.t 6)⟩), (.pl, ⟨(some 8), none, .mv (.t 0)⟩), (.pl, ⟨(some 9), none, .nilchk (.t 8)⟩), (.pl, ⟨(some 10), none, .fa 0 (.t 9)⟩), (.pl, ⟨(some 11), none, .load false 1 (.t 10)⟩), (.pl, ⟨(some 12), none, .len false (.t 11)⟩), (.pl, ⟨(some 13), none, .bin .geq (.t 7) (.t 12)⟩), (.pl, ⟨(some 14), none, .mv (.t 13)⟩), (.pl, ⟨(some 15), (some (14, false)), .mv (.t 0)⟩), (.pl, ⟨(some 16), (some (14, false)), .nilchk (.t 15)⟩), (.pl, ⟨(some 17), (some (14, false)), .fa 0 (.t 16)⟩), (.pl, ⟨(some 18), (some (14, false)), .load false 1 (.t 17)⟩), (.pl, ⟨(some 19), (some (14, false)), .mv (.t 0)⟩), (.pl, ⟨(some 20), (some (14, false)), .nilchk (.t 19)⟩), (.pl, ⟨(some 21), (some (14, false)), .fa 1 (.t 20)⟩), (.pl, ⟨(some 22), (some (14, false)), .load false 1 (.t 21)⟩), (.pl, ⟨(some 23), (some (14, false)), .ia 3 (.t 18) (.t 22)⟩), (.pl, ⟨(some 24), (some (14, false)), .fa 0 (.t 23)⟩), (.pl, ⟨(some 25), (some (14, false)), .load false 1 (.t 24)⟩), (.pl, ⟨(some 26), (some (14, false)), .bin .neq (.t 25) (.c (.int .i64 (1)))⟩), (.pl, ⟨(some 27), none, .pick (.t 14) (.c (.bool true)) (.t 26)⟩)])
  (.keep [0, 2, 27] (.cond (.t 27) (.reg [⟨(some 28), none, .mv (.t 0)⟩, ⟨(some 29), none, .call (.c (.fn K.rules_reader_fail [] [])) [(.t 28)]⟩]) .skip)))
  (.keep [0, 2] (.seq (.draw [(.pl, ⟨(some 30), none, .mv (.t 0)⟩), (.pl, ⟨(some 31), none, .nilchk (.t 30)⟩), (.pl, ⟨(some 32), none, .fa 0 (.t 31)⟩), (.fl, ⟨(some 33), none, .load false 1 (.t 32)⟩), (.pl, ⟨(some 34), none, .mv (.t 0)⟩), (.pl, ⟨(some 35), none, .nilchk (.t 34)⟩), (.pl, ⟨(some 36), none, .fa 1 (.t 35)⟩), (.fl, ⟨(some 37), none, .load false 1 (.t 36)⟩), (.pl, ⟨(some 38), none, .ia 3 (.t 33) (.t 37)⟩), (.fl, ⟨(some 39), none, .load true 3 (.t 38)⟩), (.eff, ⟨(some 3), none, .alloc [(.int .i64 (0)), (.str []), (.int .i64 (0))]⟩), (.efo, ⟨none, none, .store 3 (.t 3) (.t 39)⟩)])
  (.keep [0, 2, 3] (.seq (.reg [⟨(some 40), none, .mv (.t 0)⟩, ⟨(some 41), none, .nilchk (.t 40)⟩, ⟨(some 42), none, .fa 1 (.t 41)⟩, ⟨(some 43), none, .load false 1 (.t 42)⟩, ⟨(some 44), none, .bin .add (.t 43) (.c (.int .i64 (1)))⟩, ⟨(some 45), none, .nilchk (.t 40)⟩, ⟨(some 46), none, .fa 1 (.t 45)⟩, ⟨none, none, .store 1 (.t 46) (.t 44)⟩])
  (.keep [2, 3] (.seq (.reg [⟨(some 47), none, .fa 1 (.t 3)⟩, ⟨(some 48), none, .load false 1 (.t 47)⟩, ⟨(some 49), none, .fa 2 (.t 3)⟩, ⟨(some 50), none, .load false 1 (.t 49)⟩, ⟨(some 51), none, .bld [(.str []), (.int .i64 (0))] [(0, 1, (.t 48)), (1, 1, (.t 50))]⟩, ⟨none, none, .store 2 (.t 2) (.t 51)⟩]) .ret)))))))))⟩
def A.rules_reader_must : AFn := ⟨10, [], (.seq (.reg [⟨(some 4), none, .mv (.t 0)⟩, ⟨(some 5), none, .mv (.t 1)⟩, ⟨(some 6), none, .call (.c (.fn K.rules_reader_take [] [])) [(.t 4), (.t 5)]⟩, ⟨(some 7), none, .un .not (.t 6)⟩])
  (.keep [0, 7] (.cond (.t 7) (.reg [⟨(some 8), none, .mv (.t 0)⟩, ⟨(some 9), none, .call (.c (.fn K.rules_reader_fail [] [])) [(.t 8)]⟩]) .skip)))⟩
def A.rules_reader_alternatives.L1 : AC := .post (.seq (.seq (.reg [⟨(some 9), none, .mv (.t 0)⟩, ⟨(some 10), none, .call (.c (.fn K.rules_reader_begins [] [])) [(.t 9)]⟩])
  (.keep [0, 3, 5, 10] (.cond (.t 10) .skip (.exit 2))))
  (.keep [0, 3, 5] (.block 3 (.reg [⟨(some 11), none, .mv (.t 5)⟩, ⟨(some 12), none, .mv (.t 0)⟩, ⟨(some 13), none, .call (.c (.fn K.rules_reader_item [] [])) [(.t 12)]⟩, ⟨(some 14), none, .bsl 1 false [(.int .i64 (0))] 1 [(0, (.t 13))]⟩, ⟨(some 15), none, .app 1 8 (.t 11) (.t 14)⟩, ⟨(some 5), none, .mv (.t 15)⟩])))) [0, 3, 5]
def A.rules_reader_alternatives.L0 : AC := .post (.seq (.seq (.reg [⟨(some 6), none, .mv (.t 4)⟩])
  (.keep [0, 3, 6] (.cond (.t 6) .skip (.exit 0))))
  (.keep [0, 3] (.seq (.block 1 (.seq (.reg [⟨(some 5), none, .mv (.c (.sl 0 1 []))⟩])
  (.keep [0, 3, 5] (.seq (.block 2 (.loop A.rules_reader_alternatives.L1))
  (.keep [0, 3, 5] (.reg [⟨(some 16), none, .mv (.t 3)⟩, ⟨(some 17), none, .mv (.t 0)⟩, ⟨(some 18), none, .mv (.t 5)⟩, ⟨(some 19), none, .call (.c (.fn K.rules_reader_one [] [])) [(.t 17), (.c (.int .i64 (1))), (.t 18)]⟩, ⟨(some 20), none, .bsl 1 false [(.int .i64 (0))] 1 [(0, (.t 19))]⟩, ⟨(some 21), none, .app 1 8 (.t 16) (.t 20)⟩, ⟨(some 3), none, .mv (.t 21)⟩]))))))
  (.keep [0, 3] (.reg [⟨(some 7), none, .mv (.t 0)⟩, ⟨(some 8), none, .call (.c (.fn K.rules_reader_take [] [])) [(.t 7), (.c (.str [124]))]⟩, ⟨(some 4), none, .mv (.t 8)⟩]))))) [0, 3, 4]
def A.rules_reader_alternatives : AFn := ⟨25, [(2, none)], (.seq (.reg [⟨(some 2), none, .mv (.c (.int .i64 (0)))⟩])
  (.keep [0] (.seq (.reg [⟨(some 3), none, .mv (.c (.sl 0 1 []))⟩])
  (.keep [0, 3] (.seq (.seq (.reg [⟨(some 4), none, .mv (.c (.bool true))⟩])
  (.keep [0, 3, 4] (.block 0 (.loop A.rules_reader_alternatives.L0))))
  (.keep [0, 3] (.seq (.reg [⟨(some 22), none, .mv (.t 0)⟩, ⟨(some 23), none, .mv (.t 3)⟩, ⟨(some 24), none, .call (.c (.fn K.rules_reader_one [] [])) [(.t 22), (.c (.int .i64 (2))), (.t 23)]⟩, ⟨(some 2), none, .mv (.t 24)⟩]) .ret)))))))⟩
def A.rules_reader_take : AFn := ⟨18, [(4, none)], (.seq (.reg [⟨(some 4), none, .mv (.c (.bool false))⟩])
  (.keep [0, 1] (.seq (.reg [⟨(some 6), none, .mv (.t 0)⟩, ⟨(some 7), none, .mv (.t 1)⟩, ⟨(some 8), none, .call (.c (.fn K.rules_reader_ahead [] [])) [(.t 6), (.t 7)]⟩, ⟨(some 5), none, .mv (.t 8)⟩])
  (.keep [0, 5] (.seq (.seq (.reg [⟨(some 9), none, .mv (.t 5)⟩])
  (.keep [0, 5, 9] (.cond (.t 9) (.reg [⟨(some 10), none, .mv (.t 0)⟩, ⟨(some 11), none, .nilchk (.t 10)⟩, ⟨(some 12), none, .fa 1 (.t 11)⟩, ⟨(some 13), none, .load false 1 (.t 12)⟩, ⟨(some 14), none, .bin .add (.t 13) (.c (.int .i64 (1)))⟩, ⟨(some 15), none, .nilchk (.t 10)⟩, ⟨(some 16), none, .fa 1 (.t 15)⟩, ⟨none, none, .store 1 (.t 16) (.t 14)⟩]) .skip)))
  (.keep [5] (.seq (.reg [⟨(some 17), none, .mv (.t 5)⟩, ⟨(some 4), none, .mv (.t 17)⟩]) .ret)))))))⟩
def A.rules_reader_begins : AFn := ⟨31, [(2, none)], (.seq (.reg [⟨(some 2), none, .mv (.c (.bool false))⟩])
  (.keep [0] (.seq (.draw [(.pl, ⟨(some 3), none, .mv (.t 0)⟩), (.pl, ⟨(some 4), none, .nilchk (.t 3)⟩), (.pl, ⟨(some 5), none, .fa 1 (.t 4)⟩), (.pl, ⟨(some 6), none, .load false 1 (.t 5)⟩), (.pl, ⟨(some 7), none, .mv (.t 0)⟩), (.pl, ⟨(some 8), none, .nilchk (.t 7)⟩), (.pl, ⟨(some 9), none, .fa 0 (.t 8)⟩), (.pl, ⟨(some 10), none, .load false 1 (.t 9)⟩), (.pl, ⟨(some 11), none, .len false (.t 10)⟩), (.pl, ⟨(some 12), none, .bin .lss (.t 6) (.t 11)⟩), (.pl, ⟨(some 13), none, .mv (.t 12)⟩), (.pl, ⟨(some 14), (some (13, true)), .mv (.t 0)⟩), (.pl, ⟨(some 15), (some (13, true)), .nilchk (.t 14)⟩), (.pl, ⟨(some 16), (some (13, true)), .fa 0 (.t 15)⟩), (.pl, ⟨(some 17), (some (13, true)), .load false 1 (.t 16)⟩), (.pl, ⟨(some 18), (some (13, true)), .mv (.t 0)⟩), (.pl, ⟨(some 19), (some (13, true)), .nilchk (.t 18)⟩), (.pl, ⟨(some 20), (some (13, true)), .fa 1 (.t 19)⟩), (.pl, ⟨(some 21), (some (13, true)), .load false 1 (.t 20)⟩), (.pl, ⟨(some 22), (some (13, true)), .ia 3 (.t 17) (.t 21)⟩), (.pl, ⟨(some 23), (some (13, true)), .fa 0 (.t 22)⟩), (.pl, ⟨(some 24), (some (13, true)), .load false 1 (.t 23)⟩), (.pl, ⟨(some 25), (some (13, true)), .bin .neq (.t 24) (.c (.int .i64 (3)))⟩), (.pl, ⟨(some 26), (some (13, true)), .mv (.t 25)⟩), (.pl, ⟨(some 27), (some (26, false)), .mv (.t 0)⟩), (.pl, ⟨(some 28), (some (26, false)), .call (.c (.fn K.rules_reader_ahead [] [])) [(.t 27), (.c (.str [40]))]⟩), (.pl, ⟨(some 29), (some (13, true)), .pick (.t 26) (.c (.bool true)) (.t 28)⟩), (.pl, ⟨(some 30), none, .pick (.t 13) (.t 29) (.c (.bool false))⟩), (.pl, ⟨(some 2), none, .mv (.t 30)⟩)]) .ret)))⟩
def A.rules_reader_item : AFn := ⟨28, [(2, none)], (.seq (.reg [⟨(some 2), none, .mv (.c (.int .i64 (0)))⟩])
  (.keep [0] (.seq (.reg [⟨(some 4), none, .mv (.t 0)⟩, ⟨(some 5), none, .call (.c (.fn K.rules_reader_atom [] [])) [(.t 4)]⟩, ⟨(some 3), none, .mv (.t 5)⟩])
  (.keep [0, 3] (.seq (.block 0 (.seq (.reg [⟨(some 7), none, .mv (.t 0)⟩, ⟨(some 8), none, .call (.c (.fn K.rules_reader_take [] [])) [(.t 7), (.c (.str [42]))]⟩, ⟨(some 6), none, .mv (.t 8)⟩])
  (.keep [0, 3, 6] (.cond (.t 6) (.seq (.reg [⟨(some 9), none, .mv (.t 0)⟩, ⟨(some 10), none, .mv (.t 3)⟩, ⟨(some 11), none, .bsl 1 false [(.int .i64 (0))] 1 [(0, (.t 10))]⟩, ⟨(some 12), none, .call (.c (.fn K.rules_reader_node [] [])) [(.t 9), (.c (.int .i64 (3))), (.c (.str [])), (.t 11)]⟩, ⟨(some 2), none, .mv (.t 12)⟩]) .ret) (.seq (.reg [⟨(some 14), none, .mv (.t 0)⟩, ⟨(some 15), none, .call (.c (.fn K.rules_reader_take [] [])) [(.t 14), (.c (.str [43]))]⟩, ⟨(some 13), none, .mv (.t 15)⟩])
  (.keep [0, 3, 13] (.cond (.t 13) (.seq (.reg [⟨(some 16), none, .mv (.t 0)⟩, ⟨(some 17), none, .mv (.t 3)⟩, ⟨(some 18), none, .bsl 1 false [(.int .i64 (0))] 1 [(0, (.t 17))]⟩, ⟨(some 19), none, .call (.c (.fn K.rules_reader_node [] [])) [(.t 16), (.c (.int .i64 (4))), (.c (.str [])), (.t 18)]⟩, ⟨(some 2), none, .mv (.t 19)⟩]) .ret) (.seq (.reg [⟨(some 21), none, .mv (.t 0)⟩, ⟨(some 22), none, .call (.c (.fn K.rules_reader_take [] [])) [(.t 21), (.c (.str [63]))]⟩, ⟨(some 20), none, .mv (.t 22)⟩])
  (.keep [0, 3, 20] (.cond (.t 20) (.seq (.reg [⟨(some 23), none, .mv (.t 0)⟩, ⟨(some 24), none, .mv (.t 3)⟩, ⟨(some 25), none, .bsl 1 false [(.int .i64 (0))] 1 [(0, (.t 24))]⟩, ⟨(some 26), none, .call (.c (.fn K.rules_reader_node [] [])) [(.t 23), (.c (.int .i64 (5))), (.c (.str [])), (.t 25)]⟩, ⟨(some 2), none, .mv (.t 26)⟩]) .ret) .skip))))))))))
  (.keep [3] (.seq (.reg [⟨(some 27), none, .mv (.t 3)⟩, ⟨(some 2), none, .mv (.t 27)⟩]) .ret)))))))⟩
def A.rules_reader_one : AFn := ⟨17, [(6, none)], (.seq (.reg [⟨(some 6), none, .mv (.c (.int .i64 (0)))⟩])
  (.keep [0, 1, 2] (.seq (.seq (.reg [⟨(some 7), none, .mv (.t 2)⟩, ⟨(some 8), none, .len false (.t 7)⟩, ⟨(some 9), none, .bin .eql (.t 8) (.c (.int .i64 (1)))⟩])
  (.keep [0, 1, 2, 9] (.cond (.t 9) (.seq (.reg [⟨(some 10), none, .mv (.t 2)⟩, ⟨(some 11), none, .ia 1 (.t 10) (.c (.int .i64 (0)))⟩, ⟨(some 12), none, .load false 1 (.t 11)⟩, ⟨(some 6), none, .mv (.t 12)⟩]) .ret) .skip)))
  (.keep [0, 1, 2] (.seq (.reg [⟨(some 13), none, .mv (.t 0)⟩, ⟨(some 14), none, .mv (.t 1)⟩, ⟨(some 15), none, .mv (.t 2)⟩, ⟨(some 16), none, .call (.c (.fn K.rules_reader_node [] [])) [(.t 13), (.t 14), (.c (.str [])), (.t 15)]⟩, ⟨(some 6), none, .mv (.t 16)⟩]) .ret)))))⟩
def A.rules_reader_ahead : AFn := ⟨44, [(4, none)], (.seq (.reg [⟨(some 4), none, .mv (.c (.bool false))⟩])
  (.keep [0, 1] (.seq (.draw [(.pl, ⟨(some 5), none, .mv (.t 0)⟩), (.pl, ⟨(some 6), none, .nilchk (.t 5)⟩), (.pl, ⟨(some 7), none, .fa 1 (.t 6)⟩), (.pl, ⟨(some 8), none, .load false 1 (.t 7)⟩), (.pl, ⟨(some 9), none, .mv (.t 0)⟩), (.pl, ⟨(some 10), none, .nilchk (.t 9)⟩), (.pl, ⟨(some 11), none, .fa 0 (.t 10)⟩), (.pl, ⟨(some 12), none, .load false 1 (.t 11)⟩), (.pl, ⟨(some 13), none, .len false (.t 12)⟩), (.pl, ⟨(some 14), none, .bin .lss (.t 8) (.t 13)⟩), (.pl, ⟨(some 15), none, .mv (.t 14)⟩), (.pl, ⟨(some 16), (some (15, true)), .mv (.t 0)⟩), (.pl, ⟨(some 17), (some (15, true)), .nilchk (.t 16)⟩), (.pl, ⟨(some 18), (some (15, true)), .fa 0 (.t 17)⟩), (.pl, ⟨(some 19), (some (15, true)), .load false 1 (.t 18)⟩), (.pl, ⟨(some 20), (some (15, true)), .mv (.t 0)⟩), (.pl, ⟨(some 21), (some (15, true)), .nilchk (.t 20)⟩), (.pl, ⟨(some 22), (some (15, true)), .fa 1 (.t 21)⟩), (.pl, ⟨(some 23), (some (15, true)), .load false 1 (.t 22)⟩), (.pl, ⟨(some 24), (some (15, true)), .ia 3 (.t 19) (.t 23)⟩), (.pl, ⟨(some 25), (some (15, true)), .fa 0 (.t 24)⟩), (.pl, ⟨(some 26), (some (15, true)), .load false 1 (.t 25)⟩), (.pl, ⟨(some 27), (some (15, true)), .bin .eql (.t 26) (.c (.int .i64 (3)))⟩), (.pl, ⟨(some 28), none, .pick (.t 15) (.t 27) (.c (.bool false))⟩), (.pl, ⟨(some 29), none, .mv (.t 28)⟩), (.pl, ⟨(some 30), (some (29, true)), .mv (.t 0)⟩), (.pl, ⟨(some 31), (some (29, true)), .nilchk (.t 30)⟩), (.pl, ⟨(some 32), (some (29, true)), .fa 0 (.t 31)⟩), (.pl, ⟨(some 33), (some (29, true)), .load false 1 (.t 32)⟩), (.pl, ⟨(some 34), (some (29, true)), .mv (.t 0)⟩), (.pl, ⟨(some 35), (some (29, true)), .nilchk (.t 34)⟩), (.pl, ⟨(some 36), (some (29, true)), .fa 1 (.t 35)⟩), (.pl, ⟨(some 37), (some (29, true)), .load false 1 (.t 36)⟩), (.pl, ⟨(some 38), (some (29, true)), .ia 3 (.t 33) (.t 37)⟩), (.pl, ⟨(some 39), (some (29, true)), .fa 1 (.t 38)⟩), (.pl, ⟨(some 40), (some (29, true)), .load false 1 (.t 39)⟩), (.pl, ⟨(some 41), (some (29, true)), .mv (.t 1)⟩), (.pl, ⟨(some 42), (some (29, true)), .bin .eql (.t 40) (.t 41)⟩), (.pl, ⟨(some 43), none, .pick (.t 29) (.t 42) (.c (.bool false))⟩), (.pl, ⟨(some 4), none, .mv (.t 43)⟩)]) .ret)))⟩
def A.rules_reader_atom : AFn := ⟨53, [(2, none)], (.seq (.reg [⟨(some 2), none, .mv (.c (.int .i64 (0)))⟩])
  (.keep [0] (.seq (.seq (.reg [⟨(some 6), none, .mv (.t 0)⟩, ⟨(some 7), none, .call (.c (.fn K.rules_reader_take [] [])) [(.t 6), (.c (.str [40]))]⟩])
  (.keep [0, 7] (.cond (.t 7) (.seq (.reg [⟨(some 8), none, .mv (.t 0)⟩, ⟨(some 9), none, .call (.c (.fn K.rules_reader_alternatives [] [])) [(.t 8)]⟩, ⟨(some 3), none, .mv (.t 9)⟩])
  (.keep [0, 3] (.seq (.reg [⟨(some 10), none, .mv (.t 0)⟩, ⟨(some 11), none, .call (.c (.fn K.rules_reader_must [] [])) [(.t 10), (.c (.str [41]))]⟩])
  (.keep [3] (.seq (.reg [⟨(some 12), none, .mv (.t 3)⟩, ⟨(some 2), none, .mv (.t 12)⟩]) .ret))))) .skip)))
  (.keep [0] (.seq (.seq (.draw [(.pl, ⟨(some 13), none, .mv (.t 0)⟩), (.pl, ⟨(some 14), none, .nilchk (.t 13)⟩), (.pl, ⟨(some 15), none, .fa 0 (.t 14)⟩), (.fl, ⟨(some 16), none, .load false 1 (.t 15)⟩), (.pl, ⟨(some 17), none, .mv (.t 0)⟩), (.pl, ⟨(some 18), none, .nilchk (.t 17)⟩), (.pl, ⟨(some 19), none, .fa 1 (.t 18)⟩), (.fl, ⟨(some 20), none, .load false 1 (.t 19)⟩), (.pl, ⟨(some 21), none, .ia 3 (.t 16) (.t 20)⟩), (.fl, ⟨(some 22), none, .load true 3 (.t 21)⟩), (.eff, ⟨(some 4), none, .alloc [(.int .i64 (0)), (.str []), (.int .i64 (0))]⟩), (.efo, ⟨none, none, .store 3 (.t 4) (.t 22)⟩)])
  (.keep [0, 4] (.seq (.reg [⟨(some 23), none, .fa 0 (.t 4)⟩, ⟨(some 24), none, .load false 1 (.t 23)⟩, ⟨(some 25), none, .bin .eql (.t 24) (.c (.int .i64 (2)))⟩])
  (.keep [0, 4, 25] (.cond (.t 25) (.seq (.reg [⟨(some 26), none, .mv (.t 0)⟩, ⟨(some 27), none, .nilchk (.t 26)⟩, ⟨(some 28), none, .fa 1 (.t 27)⟩, ⟨(some 29), none, .load false 1 (.t 28)⟩, ⟨(some 30), none, .bin .add (.t 29) (.c (.int .i64 (1)))⟩, ⟨(some 31), none, .nilchk (.t 26)⟩, ⟨(some 32), none, .fa 1 (.t 31)⟩, ⟨none, none, .store 1 (.t 32) (.t 30)⟩])
  (.keep [0, 4] (.seq (.reg [⟨(some 33), none, .mv (.t 0)⟩, ⟨(some 34), none, .fa 1 (.t 4)⟩, ⟨(some 35), none, .load false 1 (.t 34)⟩, ⟨(some 36), none, .call (.c (.fn K.rules_reader_node [] [])) [(.t 33), (.c (.int .i64 (7))), (.t 35), (.c (.sl 0 1 []))]⟩, ⟨(some 2), none, .mv (.t 36)⟩]) .ret))) .skip)))))
  (.keep [0] (.seq (.reg [⟨(some 37), none, .mv (.t 0)⟩, ⟨(some 38), none, .call (.c (.fn K.rules_reader_name [] [])) [(.t 37)]⟩, ⟨(some 5), none, .alloc [(.str []), (.int .i64 (0))]⟩, ⟨none, none, .store 2 (.t 5) (.t 38)⟩])
  (.keep [0, 5] (.seq (.draw [(.pl, ⟨(some 39), none, .mv (.t 0)⟩), (.pl, ⟨(some 40), none, .mv (.t 0)⟩), (.pl, ⟨(some 41), none, .nilchk (.t 40)⟩), (.pl, ⟨(some 42), none, .fa 6 (.t 41)⟩), (.pl, ⟨(some 43), none, .load false 1 (.t 42)⟩), (.pl, ⟨(some 44), none, .load true 2 (.t 5)⟩), (.pl, ⟨(some 45), none, .bsl 2 true [(.str []), (.int .i64 (0))] 1 [(0, (.t 44))]⟩), (.eff, ⟨(some 46), none, .app 2 24 (.t 43) (.t 45)⟩), (.pl, ⟨(some 47), none, .nilchk (.t 39)⟩), (.pl, ⟨(some 48), none, .fa 6 (.t 47)⟩), (.eff, ⟨none, none, .store 1 (.t 48) (.t 46)⟩)])
  (.keep [0, 5] (.seq (.reg [⟨(some 49), none, .mv (.t 0)⟩, ⟨(some 50), none, .fa 0 (.t 5)⟩, ⟨(some 51), none, .load false 1 (.t 50)⟩, ⟨(some 52), none, .call (.c (.fn K.rules_reader_node [] [])) [(.t 49), (.c (.int .i64 (6))), (.t 51), (.c (.sl 0 1 []))]⟩, ⟨(some 2), none, .mv (.t 52)⟩]) .ret)))))))))))⟩
def A.rules_reader_node : AFn := ⟨31, [(8, none)], (.seq (.reg [⟨(some 8), none, .mv (.c (.int .i64 (0)))⟩])
  (.keep [0, 1, 2, 3] (.seq (.reg [⟨(some 9), none, .mv (.t 0)⟩, ⟨(some 10), none, .mv (.t 0)⟩, ⟨(some 11), none, .nilchk (.t 10)⟩, ⟨(some 12), none, .fa 3 (.t 11)⟩, ⟨(some 13), none, .fa 1 (.t 12)⟩, ⟨(some 14), none, .load false 1 (.t 13)⟩, ⟨(some 15), none, .mv (.t 1)⟩, ⟨(some 16), none, .mv (.t 2)⟩, ⟨(some 17), none, .mv (.t 3)⟩, ⟨(some 18), none, .bld [(.int .i64 (0)), (.str []), (.sl 0 1 [])] [(0, 1, (.t 15)), (1, 1, (.t 16)), (2, 1, (.t 17))]⟩, ⟨(some 19), none, .bsl 3 true [(.int .i64 (0)), (.str []), (.sl 0 1 [])] 1 [(0, (.t 18))]⟩, ⟨(some 20), none, .app 3 48 (.t 14) (.t 19)⟩, ⟨(some 21), none, .nilchk (.t 9)⟩, ⟨(some 22), none, .fa 3 (.t 21)⟩, ⟨(some 23), none, .fa 1 (.t 22)⟩, ⟨none, none, .store 1 (.t 23) (.t 20)⟩])
  (.keep [0] (.seq (.reg [⟨(some 24), none, .mv (.t 0)⟩, ⟨(some 25), none, .nilchk (.t 24)⟩, ⟨(some 26), none, .fa 3 (.t 25)⟩, ⟨(some 27), none, .fa 1 (.t 26)⟩, ⟨(some 28), none, .load false 1 (.t 27)⟩, ⟨(some 29), none, .len false (.t 28)⟩, ⟨(some 30), none, .bin .sub (.t 29) (.c (.int .i64 (1)))⟩, ⟨(some 8), none, .mv (.t 30)⟩]) .ret)))))⟩
def A.rules_Tree_fine : AFn := ⟨68, [(4, none)], (.seq (.reg [⟨(some 2), none, .box (.t 0)⟩, ⟨(some 3), none, .box (.t 1)⟩, ⟨(some 4), none, .mv (.c (.bool false))⟩])
  (.keep [2, 3] (.seq (.reg [⟨(some 6), none, .fa 2 (.t 3)⟩, ⟨(some 7), none, .load false 1 (.t 6)⟩, ⟨(some 8), none, .len false (.t 7)⟩, ⟨(some 5), none, .mv (.t 8)⟩])
  (.keep [2, 3, 5] (.seq (.seq (.reg [⟨(some 9), none, .fa 0 (.t 3)⟩, ⟨(some 10), none, .load false 1 (.t 9)⟩])
  (.keep [2, 3, 5, 10] (.block 0 (.seq (.reg [⟨(some 12), none, .bin .eql (.t 10) (.c (.int .i64 (1)))⟩, ⟨(some 11), none, .mv (.t 12)⟩])
  (.keep [2, 3, 5, 10, 11] (.cond (.t 11) (.seq (.reg [⟨(some 13), none, .fa 1 (.t 3)⟩, ⟨(some 14), none, .load false 1 (.t 13)⟩, ⟨(some 15), none, .bin .eql (.t 14) (.c (.str []))⟩, ⟨(some 16), none, .mv (.t 15)⟩, ⟨(some 17), (some (16, true)), .mv (.t 5)⟩, ⟨(some 18), (some (16, true)), .bin .neq (.t 17) (.c (.int .i64 (1)))⟩, ⟨(some 19), none, .pick (.t 16) (.t 18) (.c (.bool false))⟩, ⟨(some 4), none, .mv (.t 19)⟩]) .ret) (.seq (.reg [⟨(some 21), none, .bin .eql (.t 10) (.c (.int .i64 (2)))⟩, ⟨(some 20), none, .mv (.t 21)⟩])
  (.keep [2, 3, 5, 10, 20] (.cond (.t 20) (.seq (.reg [⟨(some 22), none, .fa 1 (.t 3)⟩, ⟨(some 23), none, .load false 1 (.t 22)⟩, ⟨(some 24), none, .bin .eql (.t 23) (.c (.str []))⟩, ⟨(some 25), none, .mv (.t 24)⟩, ⟨(some 26), (some (25, true)), .mv (.t 5)⟩, ⟨(some 27), (some (25, true)), .bin .gtr (.t 26) (.c (.int .i64 (1)))⟩, ⟨(some 28), none, .pick (.t 25) (.t 27) (.c (.bool false))⟩, ⟨(some 4), none, .mv (.t 28)⟩]) .ret) (.seq (.seq (.reg [⟨(some 30), none, .bin .eql (.t 10) (.c (.int .i64 (3)))⟩, ⟨(some 29), none, .mv (.t 30)⟩])
  (.keep [2, 3, 5, 10, 29] (.cond (.t 29) .skip (.seq (.reg [⟨(some 31), none, .bin .eql (.t 10) (.c (.int .i64 (4)))⟩, ⟨(some 29), none, .mv (.t 31)⟩])
  (.keep [2, 3, 5, 10, 29] (.cond (.t 29) .skip (.reg [⟨(some 32), none, .bin .eql (.t 10) (.c (.int .i64 (5)))⟩, ⟨(some 29), none, .mv (.t 32)⟩])))))))
  (.keep [2, 3, 5, 10, 29] (.cond (.t 29) (.seq (.reg [⟨(some 33), none, .fa 1 (.t 3)⟩, ⟨(some 34), none, .load false 1 (.t 33)⟩, ⟨(some 35), none, .bin .eql (.t 34) (.c (.str []))⟩, ⟨(some 36), none, .mv (.t 35)⟩, ⟨(some 37), (some (36, true)), .mv (.t 5)⟩, ⟨(some 38), (some (36, true)), .bin .eql (.t 37) (.c (.int .i64 (1)))⟩, ⟨(some 39), none, .pick (.t 36) (.t 38) (.c (.bool false))⟩, ⟨(some 4), none, .mv (.t 39)⟩]) .ret) (.seq (.reg [⟨(some 41), none, .bin .eql (.t 10) (.c (.int .i64 (6)))⟩, ⟨(some 40), none, .mv (.t 41)⟩])
  (.keep [2, 3, 5, 10, 40] (.cond (.t 40) (.seq (.reg [⟨(some 42), none, .mv (.t 5)⟩, ⟨(some 43), none, .bin .eql (.t 42) (.c (.int .i64 (0)))⟩, ⟨(some 44), none, .mv (.t 43)⟩, ⟨(some 45), (some (44, true)), .fa 0 (.t 2)⟩, ⟨(some 46), (some (44, true)), .load false 1 (.t 45)⟩, ⟨(some 47), (some (44, true)), .mkfn K.rules_Tree_fine_1 [] [(.t 3)]⟩, ⟨(some 48), (some (44, true)), .call (.c (.fn K.slices_ContainsFunc_Rule [] [])) [(.t 46), (.t 47)]⟩, ⟨(some 49), none, .pick (.t 44) (.t 48) (.c (.bool false))⟩, ⟨(some 4), none, .mv (.t 49)⟩]) .ret) (.seq (.reg [⟨(some 51), none, .bin .eql (.t 10) (.c (.int .i64 (7)))⟩, ⟨(some 50), none, .mv (.t 51)⟩])
  (.keep [3, 5, 50] (.cond (.t 50) (.seq (.reg [⟨(some 52), none, .mv (.t 5)⟩, ⟨(some 53), none, .bin .eql (.t 52) (.c (.int .i64 (0)))⟩, ⟨(some 54), none, .mv (.t 53)⟩, ⟨(some 55), (some (54, true)), .fa 1 (.t 3)⟩, ⟨(some 56), (some (54, true)), .load false 1 (.t 55)⟩, ⟨(some 57), (some (54, true)), .s2b (.t 56)⟩, ⟨(some 58), (some (54, true)), .call (.c (.fn K.slices_Contains_byte [] [])) [(.t 57), (.c (.int .u8 (39)))]⟩, ⟨(some 59), (some (54, true)), .un .not (.t 58)⟩, ⟨(some 60), none, .pick (.t 54) (.t 59) (.c (.bool false))⟩, ⟨(some 61), none, .mv (.t 60)⟩, ⟨(some 62), (some (61, true)), .fa 1 (.t 3)⟩, ⟨(some 63), (some (61, true)), .load false 1 (.t 62)⟩, ⟨(some 64), (some (61, true)), .bin .add (.c (.str [39])) (.t 63)⟩, ⟨(some 65), (some (61, true)), .bin .add (.t 64) (.c (.str [39]))⟩, ⟨(some 66), (some (61, true)), .call (.c (.fn K.rules_token [] [])) [(.t 65), (.c (.int .i64 (2)))]⟩, ⟨(some 67), none, .pick (.t 61) (.t 66) (.c (.bool false))⟩, ⟨(some 4), none, .mv (.t 67)⟩]) .ret) .skip))))))))))))))))))
  (.keep [] (.seq (.reg [⟨(some 4), none, .mv (.c (.bool false))⟩]) .ret)))))))⟩
def A.rules_reader_names.L0 : AC := .post (.seq (.reg [⟨(some 16), none, .bin .lss (.t 15) (.t 14)⟩])
  (.keep [0, 4, 13, 14, 15, 16] (.seq (.cond (.t 16) .skip (.exit 0))
  (.keep [0, 4, 13, 14, 15] (.seq (.block 1 (.seq (.reg [⟨(some 17), none, .ia 2 (.t 13) (.t 15)⟩, ⟨(some 18), none, .load true 2 (.t 17)⟩, ⟨(some 6), none, .alloc [(.str []), (.int .i64 (0))]⟩, ⟨none, none, .store 2 (.t 6) (.t 18)⟩])
  (.keep [0, 4, 6, 13, 14, 15] (.seq (.reg [⟨(some 19), none, .mv (.t 4)⟩, ⟨(some 20), none, .fa 0 (.t 6)⟩, ⟨(some 21), none, .load false 1 (.t 20)⟩, ⟨(some 22), none, .lkp .s (.int .i64 (0)) false (.t 19) (.t 21)⟩, ⟨(some 23), none, .bin .add (.t 22) (.c (.int .i64 (1)))⟩, ⟨none, none, .mupd .s (.t 19) (.t 21) (.t 23)⟩])
  (.keep [0, 4, 6, 13, 14, 15] (.seq (.reg [⟨(some 24), none, .mv (.t 4)⟩, ⟨(some 25), none, .fa 0 (.t 6)⟩, ⟨(some 26), none, .load false 1 (.t 25)⟩, ⟨(some 27), none, .lkp .s (.int .i64 (0)) false (.t 24) (.t 26)⟩, ⟨(some 28), none, .bin .gtr (.t 27) (.c (.int .i64 (1)))⟩])
  (.keep [0, 4, 6, 13, 14, 15, 28] (.cond (.t 28) (.seq (.reg [⟨(some 29), none, .fa 1 (.t 6)⟩, ⟨(some 30), none, .load false 1 (.t 29)⟩, ⟨(some 2), none, .mv (.t 30)⟩, ⟨(some 3), none, .mv (.c (.int .i64 (7)))⟩]) .ret) .skip))))))))
  (.keep [0, 4, 13, 14, 15] (.reg [⟨(some 31), none, .bin .add (.t 15) (.c (.int .i64 (1)))⟩, ⟨(some 15), none, .mv (.t 31)⟩]))))))) [0, 4, 13, 14, 15]
def A.rules_reader_names.L1 : AC := .post (.seq (.reg [⟨(some 38), none, .bin .lss (.t 37) (.t 36)⟩])
  (.keep [4, 35, 36, 37, 38] (.seq (.cond (.t 38) .skip (.exit 2))
  (.keep [4, 35, 36, 37] (.seq (.block 3 (.seq (.reg [⟨(some 39), none, .ia 2 (.t 35) (.t 37)⟩, ⟨(some 40), none, .load true 2 (.t 39)⟩, ⟨(some 8), none, .alloc [(.str []), (.int .i64 (0))]⟩, ⟨none, none, .store 2 (.t 8) (.t 40)⟩])
  (.keep [4, 8, 35, 36, 37] (.seq (.reg [⟨(some 41), none, .mv (.t 4)⟩, ⟨(some 42), none, .fa 0 (.t 8)⟩, ⟨(some 43), none, .load false 1 (.t 42)⟩, ⟨(some 44), none, .lkp .s (.int .i64 (0)) false (.t 41) (.t 43)⟩, ⟨(some 45), none, .bin .eql (.t 44) (.c (.int .i64 (0)))⟩])
  (.keep [4, 8, 35, 36, 37, 45] (.cond (.t 45) (.seq (.reg [⟨(some 46), none, .fa 1 (.t 8)⟩, ⟨(some 47), none, .load false 1 (.t 46)⟩, ⟨(some 2), none, .mv (.t 47)⟩, ⟨(some 3), none, .mv (.c (.int .i64 (6)))⟩]) .ret) .skip))))))
  (.keep [4, 35, 36, 37] (.reg [⟨(some 48), none, .bin .add (.t 37) (.c (.int .i64 (1)))⟩, ⟨(some 37), none, .mv (.t 48)⟩]))))))) [4, 35, 36, 37]
def A.rules_reader_names : AFn := ⟨49, [(2, none), (3, none)], (.seq (.reg [⟨(some 2), none, .mv (.c (.int .i64 (0)))⟩, ⟨(some 3), none, .mv (.c (.int .i64 (0)))⟩])
  (.keep [0] (.seq (.reg [⟨(some 9), none, .mkm⟩, ⟨(some 4), none, .mv (.t 9)⟩])
  (.keep [0, 4] (.seq (.seq (.reg [⟨(some 10), none, .mv (.t 0)⟩, ⟨(some 11), none, .nilchk (.t 10)⟩, ⟨(some 12), none, .fa 5 (.t 11)⟩, ⟨(some 13), none, .load false 1 (.t 12)⟩, ⟨(some 14), none, .len false (.t 13)⟩, ⟨(some 15), none, .mv (.c (.int .i64 (0)))⟩])
  (.keep [0, 4, 13, 14, 15] (.block 0 (.loop A.rules_reader_names.L0))))
  (.keep [0, 4] (.seq (.seq (.reg [⟨(some 32), none, .mv (.t 0)⟩, ⟨(some 33), none, .nilchk (.t 32)⟩, ⟨(some 34), none, .fa 6 (.t 33)⟩, ⟨(some 35), none, .load false 1 (.t 34)⟩, ⟨(some 36), none, .len false (.t 35)⟩, ⟨(some 37), none, .mv (.c (.int .i64 (0)))⟩])
  (.keep [4, 35, 36, 37] (.block 2 (.loop A.rules_reader_names.L1))))
  (.keep [] (.seq (.reg [⟨(some 2), none, .mv (.c (.int .i64 (0)))⟩, ⟨(some 3), none, .mv (.c (.int .i64 (0)))⟩]) .ret)))))))))⟩
end Go.Proofs.Ytmobijebjkjnoaa.Al
namespace Go.Proofs.Ytmobijebjkjnoaa.Al
def A.lower_lowerer_node.L0 : AC := .post (.seq (.reg [⟨(some 47), none, .bin .lss (.t 46) (.t 45)⟩])
  (.keep [0, 1, 6, 44, 45, 46, 47] (.seq (.cond (.t 47) .skip (.exit 1))
  (.keep [0, 1, 6, 44, 45, 46] (.seq (.block 2 (.seq (.reg [⟨(some 48), none, .ia 1 (.t 44) (.t 46)⟩, ⟨(some 49), none, .load false 1 (.t 48)⟩, ⟨(some 10), none, .mv (.t 49)⟩])
  (.keep [0, 1, 6, 10, 44, 45, 46] (.seq (.reg [⟨(some 50), none, .mv (.t 0)⟩, ⟨(some 51), none, .nilchk (.t 50)⟩, ⟨(some 52), none, .fa 0 (.t 51)⟩, ⟨(some 53), none, .fa 1 (.t 52)⟩, ⟨(some 54), none, .load false 1 (.t 53)⟩, ⟨(some 55), none, .mv (.t 10)⟩, ⟨(some 56), none, .ia 3 (.t 54) (.t 55)⟩, ⟨(some 57), none, .fa 0 (.t 56)⟩, ⟨(some 58), none, .load false 1 (.t 57)⟩, ⟨(some 59), none, .bin .eql (.t 58) (.c (.int .i64 (1)))⟩])
  (.keep [0, 1, 6, 10, 44, 45, 46, 59] (.cond (.t 59) (.reg [⟨(some 60), none, .mv (.t 0)⟩, ⟨(some 61), none, .mv (.t 1)⟩, ⟨(some 62), none, .mv (.t 0)⟩, ⟨(some 63), none, .nilchk (.t 62)⟩, ⟨(some 64), none, .fa 0 (.t 63)⟩, ⟨(some 65), none, .fa 1 (.t 64)⟩, ⟨(some 66), none, .load false 1 (.t 65)⟩, ⟨(some 67), none, .mv (.t 10)⟩, ⟨(some 68), none, .ia 3 (.t 66) (.t 67)⟩, ⟨(some 69), none, .fa 2 (.t 68)⟩, ⟨(some 70), none, .load false 1 (.t 69)⟩, ⟨(some 71), none, .mv (.t 6)⟩, ⟨(some 72), none, .call (.c (.fn K.lower_all [] [])) [(.t 70), (.t 71)]⟩, ⟨(some 73), none, .call (.c (.fn K.lower_lowerer_lay [] [])) [(.t 60), (.t 61), (.t 72)]⟩]) (.reg [⟨(some 74), none, .mv (.t 0)⟩, ⟨(some 75), none, .mv (.t 1)⟩, ⟨(some 76), none, .mv (.t 6)⟩, ⟨(some 77), none, .mv (.t 10)⟩, ⟨(some 78), none, .call (.t 76) [(.t 77)]⟩, ⟨(some 79), none, .bsl 2 true [(.bool false), (.int .i64 (0))] 1 [(0, (.t 78))]⟩, ⟨(some 80), none, .call (.c (.fn K.lower_lowerer_lay [] [])) [(.t 74), (.t 75), (.t 79)]⟩])))))))
  (.keep [0, 1, 6, 44, 45, 46] (.reg [⟨(some 81), none, .bin .add (.t 46) (.c (.int .i64 (1)))⟩, ⟨(some 46), none, .mv (.t 81)⟩]))))))) [0, 1, 6, 44, 45, 46]
def A.lower_lowerer_node : AFn := ⟨136, [], (.seq (.reg [⟨(some 11), none, .mv (.t 0)⟩, ⟨(some 12), none, .mkfn K.lower_lowerer_symbol [(.t 11)] []⟩, ⟨(some 6), none, .mv (.t 12)⟩])
  (.keep [0, 1, 2, 6] (.seq (.reg [⟨(some 13), none, .mv (.t 0)⟩, ⟨(some 14), none, .nilchk (.t 13)⟩, ⟨(some 15), none, .fa 0 (.t 14)⟩, ⟨(some 16), none, .fa 1 (.t 15)⟩, ⟨(some 17), none, .load false 1 (.t 16)⟩, ⟨(some 18), none, .mv (.t 2)⟩, ⟨(some 19), none, .ia 3 (.t 17) (.t 18)⟩, ⟨(some 20), none, .load true 3 (.t 19)⟩, ⟨(some 7), none, .alloc [(.int .i64 (0)), (.str []), (.sl 0 1 [])]⟩, ⟨none, none, .store 3 (.t 7) (.t 20)⟩])
  (.keep [0, 1, 2, 6, 7] (.seq (.reg [⟨(some 21), none, .mv (.t 1)⟩, ⟨(some 22), none, .bld [(.bool false), (.int .i64 (0))] [(0, 1, (.c (.bool true))), (1, 1, (.t 21))]⟩, ⟨(some 8), none, .alloc [(.bool false), (.int .i64 (0))]⟩, ⟨none, none, .store 2 (.t 8) (.t 22)⟩])
  (.keep [0, 1, 2, 6, 7, 8] (.seq (.reg [⟨(some 23), none, .fa 0 (.t 7)⟩, ⟨(some 24), none, .load false 1 (.t 23)⟩])
  (.keep [0, 1, 2, 6, 7, 8, 24] (.block 0 (.seq (.reg [⟨(some 33), none, .bin .eql (.t 24) (.c (.int .i64 (1)))⟩, ⟨(some 32), none, .mv (.t 33)⟩])
  (.keep [0, 1, 2, 6, 7, 8, 24, 32] (.cond (.t 32) (.reg [⟨(some 34), none, .mv (.t 0)⟩, ⟨(some 35), none, .mv (.t 1)⟩, ⟨(some 36), none, .fa 2 (.t 7)⟩, ⟨(some 37), none, .load false 1 (.t 36)⟩, ⟨(some 38), none, .mv (.t 6)⟩, ⟨(some 39), none, .call (.c (.fn K.lower_all [] [])) [(.t 37), (.t 38)]⟩, ⟨(some 40), none, .call (.c (.fn K.lower_lowerer_lay [] [])) [(.t 34), (.t 35), (.t 39)]⟩]) (.seq (.reg [⟨(some 42), none, .bin .eql (.t 24) (.c (.int .i64 (2)))⟩, ⟨(some 41), none, .mv (.t 42)⟩])
  (.keep [0, 1, 2, 6, 7, 8, 24, 41] (.cond (.t 41) (.seq (.reg [⟨(some 43), none, .fa 2 (.t 7)⟩, ⟨(some 44), none, .load false 1 (.t 43)⟩, ⟨(some 45), none, .len false (.t 44)⟩, ⟨(some 46), none, .mv (.c (.int .i64 (0)))⟩])
  (.keep [0, 1, 6, 44, 45, 46] (.block 1 (.loop A.lower_lowerer_node.L0)))) (.seq (.reg [⟨(some 83), none, .bin .eql (.t 24) (.c (.int .i64 (3)))⟩, ⟨(some 82), none, .mv (.t 83)⟩])
  (.keep [0, 1, 2, 6, 7, 8, 24, 82] (.cond (.t 82) (.seq (.draw [(.pl, ⟨(some 84), none, .mv (.t 0)⟩), (.pl, ⟨(some 85), none, .mv (.t 1)⟩), (.pl, ⟨(some 86), none, .mv (.t 6)⟩), (.pl, ⟨(some 87), none, .fa 2 (.t 7)⟩), (.pl, ⟨(some 88), none, .load false 1 (.t 87)⟩), (.pl, ⟨(some 89), none, .ia 1 (.t 88) (.c (.int .i64 (0)))⟩), (.pl, ⟨(some 90), none, .load false 1 (.t 89)⟩), (.pl, ⟨(some 91), none, .call (.t 86) [(.t 90)]⟩), (.pl, ⟨(some 92), none, .load true 2 (.t 8)⟩), (.pl, ⟨(some 93), none, .bsl 2 true [(.bool false), (.int .i64 (0))] 2 [(0, (.t 91)), (1, (.t 92))]⟩), (.eff, ⟨(some 94), none, .call (.c (.fn K.lower_lowerer_lay [] [])) [(.t 84), (.t 85), (.t 93)]⟩)])
  (.keep [0, 1] (.reg [⟨(some 95), none, .mv (.t 0)⟩, ⟨(some 96), none, .mv (.t 1)⟩, ⟨(some 97), none, .call (.c (.fn K.lower_lowerer_lay [] [])) [(.t 95), (.t 96), (.c (.sl 0 1 []))]⟩]))) (.seq (.reg [⟨(some 99), none, .bin .eql (.t 24) (.c (.int .i64 (4)))⟩, ⟨(some 98), none, .mv (.t 99)⟩])
  (.keep [0, 1, 2, 6, 7, 8, 24, 98] (.cond (.t 98) (.seq (.draw [(.pl, ⟨(some 100), none, .mv (.t 0)⟩), (.pl, ⟨(some 101), none, .mv (.t 1)⟩), (.pl, ⟨(some 102), none, .mv (.t 6)⟩), (.pl, ⟨(some 103), none, .fa 2 (.t 7)⟩), (.pl, ⟨(some 104), none, .load false 1 (.t 103)⟩), (.pl, ⟨(some 105), none, .ia 1 (.t 104) (.c (.int .i64 (0)))⟩), (.pl, ⟨(some 106), none, .load false 1 (.t 105)⟩), (.pl, ⟨(some 107), none, .call (.t 102) [(.t 106)]⟩), (.pl, ⟨(some 108), none, .load true 2 (.t 8)⟩), (.pl, ⟨(some 109), none, .bsl 2 true [(.bool false), (.int .i64 (0))] 2 [(0, (.t 107)), (1, (.t 108))]⟩), (.eff, ⟨(some 110), none, .call (.c (.fn K.lower_lowerer_lay [] [])) [(.t 100), (.t 101), (.t 109)]⟩)])
  (.keep [0, 1, 6, 7] (.reg [⟨(some 111), none, .mv (.t 0)⟩, ⟨(some 112), none, .mv (.t 1)⟩, ⟨(some 113), none, .mv (.t 6)⟩, ⟨(some 114), none, .fa 2 (.t 7)⟩, ⟨(some 115), none, .load false 1 (.t 114)⟩, ⟨(some 116), none, .ia 1 (.t 115) (.c (.int .i64 (0)))⟩, ⟨(some 117), none, .load false 1 (.t 116)⟩, ⟨(some 118), none, .call (.t 113) [(.t 117)]⟩, ⟨(some 119), none, .bsl 2 true [(.bool false), (.int .i64 (0))] 1 [(0, (.t 118))]⟩, ⟨(some 120), none, .call (.c (.fn K.lower_lowerer_lay [] [])) [(.t 111), (.t 112), (.t 119)]⟩]))) (.seq (.reg [⟨(some 122), none, .bin .eql (.t 24) (.c (.int .i64 (5)))⟩, ⟨(some 121), none, .mv (.t 122)⟩])
  (.keep [0, 1, 2, 6, 7, 121] (.cond (.t 121) (.seq (.reg [⟨(some 123), none, .mv (.t 0)⟩, ⟨(some 124), none, .mv (.t 1)⟩, ⟨(some 125), none, .mv (.t 6)⟩, ⟨(some 126), none, .fa 2 (.t 7)⟩, ⟨(some 127), none, .load false 1 (.t 126)⟩, ⟨(some 128), none, .ia 1 (.t 127) (.c (.int .i64 (0)))⟩, ⟨(some 129), none, .load false 1 (.t 128)⟩, ⟨(some 130), none, .call (.t 125) [(.t 129)]⟩, ⟨(some 131), none, .bsl 2 true [(.bool false), (.int .i64 (0))] 1 [(0, (.t 130))]⟩, ⟨(some 132), none, .call (.c (.fn K.lower_lowerer_lay [] [])) [(.t 123), (.t 124), (.t 131)]⟩])
  (.keep [0, 1] (.reg [⟨(some 133), none, .mv (.t 0)⟩, ⟨(some 134), none, .mv (.t 1)⟩, ⟨(some 135), none, .call (.c (.fn K.lower_lowerer_lay [] [])) [(.t 133), (.t 134), (.c (.sl 0 1 []))]⟩]))) (.reg [⟨(some 25), none, .mv (.t 0)⟩, ⟨(some 26), none, .mv (.t 1)⟩, ⟨(some 27), none, .mv (.t 6)⟩, ⟨(some 28), none, .mv (.t 2)⟩, ⟨(some 29), none, .call (.t 27) [(.t 28)]⟩, ⟨(some 30), none, .bsl 2 true [(.bool false), (.int .i64 (0))] 1 [(0, (.t 29))]⟩, ⟨(some 31), none, .call (.c (.fn K.lower_lowerer_lay [] [])) [(.t 25), (.t 26), (.t 30)]⟩])))))))))))))))))))))))))⟩
def A.lower_lowerer_lay : AFn := ⟨18, [], (.reg [⟨(some 6), none, .mv (.t 0)⟩, ⟨(some 7), none, .mv (.t 0)⟩, ⟨(some 8), none, .nilchk (.t 7)⟩, ⟨(some 9), none, .fa 6 (.t 8)⟩, ⟨(some 10), none, .load false 1 (.t 9)⟩, ⟨(some 11), none, .mv (.t 1)⟩, ⟨(some 12), none, .mv (.t 2)⟩, ⟨(some 13), none, .bld [(.int .i64 (0)), (.sl 0 1 [])] [(0, 1, (.t 11)), (1, 1, (.t 12))]⟩, ⟨(some 14), none, .bsl 2 true [(.int .i64 (0)), (.sl 0 1 [])] 1 [(0, (.t 13))]⟩, ⟨(some 15), none, .app 2 32 (.t 10) (.t 14)⟩, ⟨(some 16), none, .nilchk (.t 6)⟩, ⟨(some 17), none, .fa 6 (.t 16)⟩, ⟨none, none, .store 1 (.t 17) (.t 15)⟩])⟩
def A.lower_all.L0 : AC := .post (.seq (.reg [⟨(some 11), none, .bin .lss (.t 10) (.t 9)⟩])
  (.keep [1, 5, 8, 9, 10, 11] (.seq (.cond (.t 11) .skip (.exit 0))
  (.keep [1, 5, 8, 9, 10] (.seq (.block 1 (.seq (.reg [⟨(some 12), none, .ia 1 (.t 8) (.t 10)⟩, ⟨(some 13), none, .load false 1 (.t 12)⟩, ⟨(some 7), none, .mv (.t 13)⟩])
  (.keep [1, 5, 7, 8, 9, 10] (.reg [⟨(some 14), none, .mv (.t 5)⟩, ⟨(some 15), none, .mv (.t 1)⟩, ⟨(some 16), none, .mv (.t 7)⟩, ⟨(some 17), none, .call (.t 15) [(.t 16)]⟩, ⟨(some 18), none, .bsl 2 true [(.bool false), (.int .i64 (0))] 1 [(0, (.t 17))]⟩, ⟨(some 19), none, .app 2 16 (.t 14) (.t 18)⟩, ⟨(some 5), none, .mv (.t 19)⟩]))))
  (.keep [1, 5, 8, 9, 10] (.reg [⟨(some 20), none, .bin .add (.t 10) (.c (.int .i64 (1)))⟩, ⟨(some 10), none, .mv (.t 20)⟩]))))))) [1, 5, 8, 9, 10]
def A.lower_all : AFn := ⟨22, [(4, none)], (.seq (.reg [⟨(some 4), none, .mv (.c (.sl 0 1 []))⟩])
  (.keep [0, 1] (.seq (.reg [⟨(some 5), none, .mv (.c (.sl 0 1 []))⟩])
  (.keep [0, 1, 5] (.seq (.seq (.reg [⟨(some 8), none, .mv (.t 0)⟩, ⟨(some 9), none, .len false (.t 8)⟩, ⟨(some 10), none, .mv (.c (.int .i64 (0)))⟩])
  (.keep [1, 5, 8, 9, 10] (.block 0 (.loop A.lower_all.L0))))
  (.keep [5] (.seq (.reg [⟨(some 21), none, .mv (.t 5)⟩, ⟨(some 4), none, .mv (.t 21)⟩]) .ret)))))))⟩
def A.lower_Lower.L0 : AC := .post (.seq (.reg [⟨(some 28), none, .bin .lss (.t 27) (.t 26)⟩])
  (.keep [1, 2, 5, 25, 26, 27, 28] (.seq (.cond (.t 28) .skip (.exit 0))
  (.keep [1, 2, 5, 25, 26, 27] (.seq (.block 1 (.seq (.reg [⟨(some 29), none, .mv (.t 27)⟩, ⟨(some 30), none, .ia 2 (.t 25) (.t 27)⟩, ⟨(some 31), none, .load true 2 (.t 30)⟩, ⟨(some 7), none, .alloc [(.str []), (.int .i64 (0))]⟩, ⟨(some 6), none, .mv (.t 29)⟩, ⟨none, none, .store 2 (.t 7) (.t 31)⟩])
  (.keep [1, 2, 5, 6, 7, 25, 26, 27] (.reg [⟨(some 32), none, .mv (.t 5)⟩, ⟨(some 33), none, .mv (.t 6)⟩, ⟨(some 34), none, .fa 1 (.t 7)⟩, ⟨(some 35), none, .load false 1 (.t 34)⟩, ⟨(some 36), none, .call (.c (.fn K.lower_lowerer_node [] [])) [(.t 32), (.t 33), (.t 35)]⟩]))))
  (.keep [1, 2, 5, 25, 26, 27] (.reg [⟨(some 37), none, .bin .add (.t 27) (.c (.int .i64 (1)))⟩, ⟨(some 27), none, .mv (.t 37)⟩]))))))) [1, 2, 5, 25, 26, 27]
def A.lower_Lower.L1 : AC := .post (.seq (.reg [⟨(some 42), none, .bin .lss (.t 41) (.t 40)⟩])
  (.keep [1, 2, 5, 40, 41, 42] (.seq (.cond (.t 42) .skip (.exit 2))
  (.keep [1, 2, 5, 40, 41] (.seq (.block 3 (.seq (.reg [⟨(some 43), none, .mv (.t 41)⟩, ⟨(some 8), none, .mv (.t 43)⟩])
  (.keep [1, 2, 5, 8, 40, 41] (.seq (.reg [⟨(some 45), none, .mv (.t 5)⟩, ⟨(some 46), none, .nilchk (.t 45)⟩, ⟨(some 47), none, .fa 5 (.t 46)⟩, ⟨(some 48), none, .load false 1 (.t 47)⟩, ⟨(some 49), none, .mv (.t 8)⟩, ⟨(some 50), none, .lkp .i (.int .i64 (0)) true (.t 48) (.t 49)⟩, ⟨(some 44), none, .mv (.t 50)⟩, ⟨(some 51), none, .ext (.t 44) 0⟩, ⟨(some 52), none, .ext (.t 44) 1⟩, ⟨(some 9), none, .mv (.t 51)⟩, ⟨(some 10), none, .mv (.t 52)⟩])
  (.keep [1, 2, 5, 8, 9, 10, 40, 41] (.seq (.reg [⟨(some 53), none, .mv (.t 10)⟩])
  (.keep [1, 2, 5, 8, 9, 40, 41, 53] (.cond (.t 53) (.reg [⟨(some 54), none, .mv (.t 5)⟩, ⟨(some 55), none, .mv (.t 9)⟩, ⟨(some 56), none, .mv (.t 8)⟩, ⟨(some 57), none, .call (.c (.fn K.lower_lowerer_node [] [])) [(.t 54), (.t 55), (.t 56)]⟩]) .skip))))))))
  (.keep [1, 2, 5, 40, 41] (.reg [⟨(some 58), none, .bin .add (.t 41) (.c (.int .i64 (1)))⟩, ⟨(some 41), none, .mv (.t 58)⟩]))))))) [1, 2, 5, 40, 41]
def A.lower_Lower : AFn := ⟨87, [(2, (some (true, 4))), (3, none), (4, none)], (.seq (.reg [⟨(some 1), none, .box (.t 0)⟩, ⟨(some 2), none, .alloc [(.int .i64 (0)), (.int .i64 (0)), (.int .i64 (0)), (.sl 0 1 [])]⟩, ⟨(some 3), none, .mv (.c (.sl 0 1 []))⟩, ⟨(some 4), none, .mv (.c (.int .i64 (0)))⟩])
  (.keep [1, 2] (.seq (.seq (.reg [⟨(some 12), none, .load true 2 (.t 1)⟩, ⟨(some 13), none, .call (.c (.fn K.rules_Right [] [])) [(.t 12)]⟩, ⟨(some 14), none, .un .not (.t 13)⟩])
  (.keep [1, 2, 14] (.cond (.t 14) (.seq (.reg [⟨(some 15), none, .bld [(.int .i64 (0)), (.int .i64 (0)), (.int .i64 (0)), (.sl 0 1 [])] []⟩, ⟨none, none, .store 4 (.t 2) (.t 15)⟩, ⟨(some 3), none, .mv (.c (.sl 0 1 []))⟩, ⟨(some 4), none, .mv (.c (.int .i64 (1)))⟩]) .ret) .skip)))
  (.keep [1, 2] (.seq (.reg [⟨(some 16), none, .load true 2 (.t 1)⟩, ⟨(some 17), none, .mkm⟩, ⟨(some 18), none, .mkm⟩, ⟨(some 19), none, .mkm⟩, ⟨(some 20), none, .bld [(.sl 0 1 []), (.sl 0 1 []), (.sl 0 1 []), .mapn, .mapn, .mapn, (.sl 0 1 [])] [(0, 2, (.t 16)), (3, 1, (.t 17)), (4, 1, (.t 18)), (5, 1, (.t 19))]⟩, ⟨(some 21), none, .box (.t 20)⟩, ⟨(some 5), none, .mv (.t 21)⟩])
  (.keep [1, 2, 5] (.seq (.reg [⟨(some 22), none, .mv (.t 5)⟩, ⟨(some 23), none, .call (.c (.fn K.lower_lowerer_number [] [])) [(.t 22)]⟩])
  (.keep [1, 2, 5] (.seq (.seq (.reg [⟨(some 24), none, .fa 0 (.t 1)⟩, ⟨(some 25), none, .load false 1 (.t 24)⟩, ⟨(some 26), none, .len false (.t 25)⟩, ⟨(some 27), none, .mv (.c (.int .i64 (0)))⟩])
  (.keep [1, 2, 5, 25, 26, 27] (.block 0 (.loop A.lower_Lower.L0))))
  (.keep [1, 2, 5] (.seq (.seq (.reg [⟨(some 38), none, .fa 1 (.t 1)⟩, ⟨(some 39), none, .load false 1 (.t 38)⟩, ⟨(some 40), none, .len false (.t 39)⟩, ⟨(some 41), none, .mv (.c (.int .i64 (0)))⟩])
  (.keep [1, 2, 5, 40, 41] (.block 2 (.loop A.lower_Lower.L1))))
  (.keep [1, 2, 5] (.seq (.draw [(.pl, ⟨(some 59), none, .mv (.t 5)⟩), (.pl, ⟨(some 60), none, .nilchk (.t 59)⟩), (.pl, ⟨(some 61), none, .fa 2 (.t 60)⟩), (.fl, ⟨(some 62), none, .load false 1 (.t 61)⟩), (.pl, ⟨(some 63), none, .len false (.t 62)⟩), (.pl, ⟨(some 64), none, .fa 0 (.t 1)⟩), (.fl, ⟨(some 65), none, .load false 1 (.t 64)⟩), (.pl, ⟨(some 66), none, .len false (.t 65)⟩), (.pl, ⟨(some 67), none, .mv (.t 5)⟩), (.pl, ⟨(some 68), none, .nilchk (.t 67)⟩), (.pl, ⟨(some 69), none, .fa 5 (.t 68)⟩), (.fl, ⟨(some 70), none, .load false 1 (.t 69)⟩), (.fl, ⟨(some 71), none, .mlen (.t 70)⟩), (.pl, ⟨(some 72), none, .bin .add (.t 66) (.t 71)⟩), (.pl, ⟨(some 73), none, .mv (.t 5)⟩), (.pl, ⟨(some 74), none, .nilchk (.t 73)⟩), (.pl, ⟨(some 75), none, .fa 6 (.t 74)⟩), (.fl, ⟨(some 76), none, .load false 1 (.t 75)⟩), (.pl, ⟨(some 77), none, .bld [(.int .i64 (0)), (.int .i64 (0)), (.int .i64 (0)), (.sl 0 1 [])] [(0, 1, (.t 63)), (1, 1, (.t 72)), (3, 1, (.t 76))]⟩), (.eff, ⟨(some 11), none, .alloc [(.int .i64 (0)), (.int .i64 (0)), (.int .i64 (0)), (.sl 0 1 [])]⟩), (.efo, ⟨none, none, .store 4 (.t 11) (.t 77)⟩)])
  (.keep [2, 5, 11] (.seq (.seq (.reg [⟨(some 78), none, .load true 4 (.t 11)⟩, ⟨(some 79), none, .call (.c (.fn K.gram_Right [] [])) [(.t 78)]⟩, ⟨(some 80), none, .un .not (.t 79)⟩])
  (.keep [2, 5, 11, 80] (.cond (.t 80) (.seq (.reg [⟨(some 81), none, .bld [(.int .i64 (0)), (.int .i64 (0)), (.int .i64 (0)), (.sl 0 1 [])] []⟩, ⟨none, none, .store 4 (.t 2) (.t 81)⟩, ⟨(some 3), none, .mv (.c (.sl 0 1 []))⟩, ⟨(some 4), none, .mv (.c (.int .i64 (5)))⟩]) .ret) .skip)))
  (.keep [2, 5, 11] (.seq (.draw [(.pl, ⟨(some 82), none, .load true 4 (.t 11)⟩), (.pl, ⟨(some 83), none, .mv (.t 5)⟩), (.pl, ⟨(some 84), none, .nilchk (.t 83)⟩), (.pl, ⟨(some 85), none, .fa 2 (.t 84)⟩), (.fl, ⟨(some 86), none, .load false 1 (.t 85)⟩), (.eff, ⟨none, none, .store 4 (.t 2) (.t 82)⟩), (.pl, ⟨(some 3), none, .mv (.t 86)⟩), (.pl, ⟨(some 4), none, .mv (.c (.int .i64 (0)))⟩)]) .ret)))))))))))))))))⟩
def A.lower_lowerer_number.L0 : AC := .post (.seq (.reg [⟨(some 15), none, .bin .lss (.t 14) (.t 13)⟩])
  (.keep [0, 12, 13, 14, 15] (.seq (.cond (.t 15) .skip (.exit 0))
  (.keep [0, 12, 13, 14] (.seq (.block 1 (.seq (.reg [⟨(some 16), none, .mv (.t 14)⟩, ⟨(some 17), none, .ia 2 (.t 12) (.t 14)⟩, ⟨(some 18), none, .load true 2 (.t 17)⟩, ⟨(some 3), none, .alloc [(.str []), (.int .i64 (0))]⟩, ⟨(some 2), none, .mv (.t 16)⟩, ⟨none, none, .store 2 (.t 3) (.t 18)⟩])
  (.keep [0, 2, 3, 12, 13, 14] (.draw [(.pl, ⟨(some 19), none, .mv (.t 0)⟩), (.pl, ⟨(some 20), none, .nilchk (.t 19)⟩), (.pl, ⟨(some 21), none, .fa 4 (.t 20)⟩), (.pl, ⟨(some 22), none, .load false 1 (.t 21)⟩), (.pl, ⟨(some 23), none, .fa 0 (.t 3)⟩), (.pl, ⟨(some 24), none, .load false 1 (.t 23)⟩), (.pl, ⟨(some 25), none, .mv (.t 2)⟩), (.eff, ⟨none, none, .mupd .s (.t 22) (.t 24) (.t 25)⟩)]))))
  (.keep [0, 12, 13, 14] (.reg [⟨(some 26), none, .bin .add (.t 14) (.c (.int .i64 (1)))⟩, ⟨(some 14), none, .mv (.t 26)⟩]))))))) [0, 12, 13, 14]
def A.lower_lowerer_number.L1 : AC := .post (.seq (.reg [⟨(some 42), none, .bin .lss (.t 41) (.t 40)⟩])
  (.keep [0, 4, 5, 39, 40, 41, 42] (.seq (.cond (.t 42) .skip (.exit 2))
  (.keep [0, 4, 5, 39, 40, 41] (.seq (.block 3 (.seq (.reg [⟨(some 43), none, .mv (.t 41)⟩, ⟨(some 44), none, .ia 3 (.t 39) (.t 41)⟩, ⟨(some 45), none, .load true 3 (.t 44)⟩, ⟨(some 7), none, .alloc [(.int .i64 (0)), (.str []), (.sl 0 1 [])]⟩, ⟨(some 6), none, .mv (.t 43)⟩, ⟨none, none, .store 3 (.t 7) (.t 45)⟩])
  (.keep [0, 4, 5, 6, 7, 39, 40, 41] (.block 4 (.seq (.reg [⟨(some 47), none, .fa 0 (.t 7)⟩, ⟨(some 48), none, .load false 1 (.t 47)⟩, ⟨(some 49), none, .bin .eql (.t 48) (.c (.int .i64 (7)))⟩, ⟨(some 46), none, .mv (.t 49)⟩])
  (.keep [0, 4, 5, 6, 7, 39, 40, 41, 46] (.cond (.t 46) (.reg [⟨(some 50), none, .mv (.t 0)⟩, ⟨(some 51), none, .fa 1 (.t 7)⟩, ⟨(some 52), none, .load false 1 (.t 51)⟩, ⟨(some 53), none, .call (.c (.fn K.lower_lowerer_term [] [])) [(.t 50), (.t 52)]⟩]) (.seq (.reg [⟨(some 55), none, .fa 0 (.t 7)⟩, ⟨(some 56), none, .load false 1 (.t 55)⟩, ⟨(some 57), none, .bin .neq (.t 56) (.c (.int .i64 (6)))⟩, ⟨(some 58), none, .mv (.t 57)⟩, ⟨(some 59), (some (58, true)), .mv (.t 4)⟩, ⟨(some 60), (some (58, true)), .mv (.t 6)⟩, ⟨(some 61), (some (58, true)), .lkp .i (.int .i64 (0)) false (.t 59) (.t 60)⟩, ⟨(some 62), (some (58, true)), .bin .eql (.t 61) (.c (.int .i64 (0)))⟩, ⟨(some 63), none, .pick (.t 58) (.t 62) (.c (.bool false))⟩, ⟨(some 54), none, .mv (.t 63)⟩])
  (.keep [0, 4, 5, 6, 39, 40, 41, 54] (.cond (.t 54) (.seq (.reg [⟨(some 64), none, .mv (.t 0)⟩, ⟨(some 65), none, .nilchk (.t 64)⟩, ⟨(some 66), none, .fa 5 (.t 65)⟩, ⟨(some 67), none, .load false 1 (.t 66)⟩, ⟨(some 68), none, .mv (.t 6)⟩, ⟨(some 69), none, .mv (.t 5)⟩, ⟨none, none, .mupd .i (.t 67) (.t 68) (.t 69)⟩])
  (.keep [0, 4, 5, 39, 40, 41] (.reg [⟨(some 70), none, .mv (.t 5)⟩, ⟨(some 71), none, .bin .add (.t 70) (.c (.int .i64 (1)))⟩, ⟨(some 5), none, .mv (.t 71)⟩]))) .skip))))))))))
  (.keep [0, 4, 5, 39, 40, 41] (.reg [⟨(some 72), none, .bin .add (.t 41) (.c (.int .i64 (1)))⟩, ⟨(some 41), none, .mv (.t 72)⟩]))))))) [0, 4, 5, 39, 40, 41]
def A.lower_lowerer_number : AFn := ⟨73, [], (.seq (.seq (.reg [⟨(some 8), none, .mv (.t 0)⟩, ⟨(some 9), none, .nilchk (.t 8)⟩, ⟨(some 10), none, .fa 0 (.t 9)⟩, ⟨(some 11), none, .fa 0 (.t 10)⟩, ⟨(some 12), none, .load false 1 (.t 11)⟩, ⟨(some 13), none, .len false (.t 12)⟩, ⟨(some 14), none, .mv (.c (.int .i64 (0)))⟩])
  (.keep [0, 12, 13, 14] (.block 0 (.loop A.lower_lowerer_number.L0))))
  (.keep [0] (.seq (.reg [⟨(some 27), none, .mv (.t 0)⟩, ⟨(some 28), none, .call (.c (.fn K.lower_lowerer_alone [] [])) [(.t 27)]⟩, ⟨(some 4), none, .mv (.t 28)⟩])
  (.keep [0, 4] (.seq (.reg [⟨(some 29), none, .mv (.t 0)⟩, ⟨(some 30), none, .nilchk (.t 29)⟩, ⟨(some 31), none, .fa 0 (.t 30)⟩, ⟨(some 32), none, .fa 0 (.t 31)⟩, ⟨(some 33), none, .load false 1 (.t 32)⟩, ⟨(some 34), none, .len false (.t 33)⟩, ⟨(some 5), none, .mv (.t 34)⟩])
  (.keep [0, 4, 5] (.seq (.reg [⟨(some 35), none, .mv (.t 0)⟩, ⟨(some 36), none, .nilchk (.t 35)⟩, ⟨(some 37), none, .fa 0 (.t 36)⟩, ⟨(some 38), none, .fa 1 (.t 37)⟩, ⟨(some 39), none, .load false 1 (.t 38)⟩, ⟨(some 40), none, .len false (.t 39)⟩, ⟨(some 41), none, .mv (.c (.int .i64 (0)))⟩])
  (.keep [0, 4, 5, 39, 40, 41] (.block 2 (.loop A.lower_lowerer_number.L1))))))))))⟩
def A.lower_lowerer_alone.L0 : AC := .post (.seq (.reg [⟨(some 18), none, .bin .lss (.t 17) (.t 16)⟩])
  (.keep [0, 3, 15, 16, 17, 18] (.seq (.cond (.t 18) .skip (.exit 0))
  (.keep [0, 3, 15, 16, 17] (.seq (.block 1 (.seq (.reg [⟨(some 19), none, .ia 2 (.t 15) (.t 17)⟩, ⟨(some 20), none, .load true 2 (.t 19)⟩, ⟨(some 5), none, .alloc [(.str []), (.int .i64 (0))]⟩, ⟨none, none, .store 2 (.t 5) (.t 20)⟩])
  (.keep [0, 3, 5, 15, 16, 17] (.reg [⟨(some 21), none, .mv (.t 3)⟩, ⟨(some 22), none, .fa 1 (.t 5)⟩, ⟨(some 23), none, .load false 1 (.t 22)⟩, ⟨none, none, .mupd .i (.t 21) (.t 23) (.c (.int .i64 (1)))⟩]))))
  (.keep [0, 3, 15, 16, 17] (.reg [⟨(some 24), none, .bin .add (.t 17) (.c (.int .i64 (1)))⟩, ⟨(some 17), none, .mv (.t 24)⟩]))))))) [0, 3, 15, 16, 17]
def A.lower_lowerer_alone.L2 : AC := .post (.seq (.reg [⟨(some 39), none, .bin .lss (.t 38) (.t 37)⟩])
  (.keep [0, 3, 7, 29, 30, 31, 36, 37, 38, 39] (.seq (.cond (.t 39) .skip (.exit 4))
  (.keep [0, 3, 7, 29, 30, 31, 36, 37, 38] (.seq (.block 5 (.seq (.reg [⟨(some 40), none, .ia 1 (.t 36) (.t 38)⟩, ⟨(some 41), none, .load false 1 (.t 40)⟩, ⟨(some 9), none, .mv (.t 41)⟩])
  (.keep [0, 3, 7, 9, 29, 30, 31, 36, 37, 38] (.seq (.reg [⟨(some 42), none, .fa 0 (.t 7)⟩, ⟨(some 43), none, .load false 1 (.t 42)⟩, ⟨(some 44), none, .bin .eql (.t 43) (.c (.int .i64 (2)))⟩, ⟨(some 45), none, .mv (.t 44)⟩, ⟨(some 46), (some (45, true)), .mv (.t 0)⟩, ⟨(some 47), (some (45, true)), .nilchk (.t 46)⟩, ⟨(some 48), (some (45, true)), .fa 0 (.t 47)⟩, ⟨(some 49), (some (45, true)), .fa 1 (.t 48)⟩, ⟨(some 50), (some (45, true)), .load false 1 (.t 49)⟩, ⟨(some 51), (some (45, true)), .mv (.t 9)⟩, ⟨(some 52), (some (45, true)), .ia 3 (.t 50) (.t 51)⟩, ⟨(some 53), (some (45, true)), .fa 0 (.t 52)⟩, ⟨(some 54), (some (45, true)), .load false 1 (.t 53)⟩, ⟨(some 55), (some (45, true)), .bin .eql (.t 54) (.c (.int .i64 (1)))⟩, ⟨(some 56), none, .pick (.t 45) (.t 55) (.c (.bool false))⟩])
  (.keep [0, 3, 7, 9, 29, 30, 31, 36, 37, 38, 56] (.cond (.t 56) (.reg [⟨(some 57), none, .mv (.t 3)⟩, ⟨(some 58), none, .mv (.t 9)⟩, ⟨none, none, .mupd .i (.t 57) (.t 58) (.c (.int .i64 (1)))⟩]) .skip))))))
  (.keep [0, 3, 7, 29, 30, 31, 36, 37, 38] (.reg [⟨(some 59), none, .bin .add (.t 38) (.c (.int .i64 (1)))⟩, ⟨(some 38), none, .mv (.t 59)⟩]))))))) [0, 3, 7, 29, 30, 31, 36, 37, 38]
def A.lower_lowerer_alone.L1 : AC := .post (.seq (.reg [⟨(some 32), none, .bin .lss (.t 31) (.t 30)⟩])
  (.keep [0, 3, 29, 30, 31, 32] (.seq (.cond (.t 32) .skip (.exit 2))
  (.keep [0, 3, 29, 30, 31] (.seq (.block 3 (.seq (.reg [⟨(some 33), none, .ia 3 (.t 29) (.t 31)⟩, ⟨(some 34), none, .load true 3 (.t 33)⟩, ⟨(some 7), none, .alloc [(.int .i64 (0)), (.str []), (.sl 0 1 [])]⟩, ⟨none, none, .store 3 (.t 7) (.t 34)⟩])
  (.keep [0, 3, 7, 29, 30, 31] (.seq (.reg [⟨(some 35), none, .fa 2 (.t 7)⟩, ⟨(some 36), none, .load false 1 (.t 35)⟩, ⟨(some 37), none, .len false (.t 36)⟩, ⟨(some 38), none, .mv (.c (.int .i64 (0)))⟩])
  (.keep [0, 3, 7, 29, 30, 31, 36, 37, 38] (.block 4 (.loop A.lower_lowerer_alone.L2)))))))
  (.keep [0, 3, 29, 30, 31] (.reg [⟨(some 60), none, .bin .add (.t 31) (.c (.int .i64 (1)))⟩, ⟨(some 31), none, .mv (.t 60)⟩]))))))) [0, 3, 29, 30, 31]
def A.lower_lowerer_alone : AFn := ⟨62, [(2, none)], (.seq (.reg [⟨(some 2), none, .mv (.c .mapn)⟩])
  (.keep [0] (.seq (.reg [⟨(some 10), none, .mkm⟩, ⟨(some 3), none, .mv (.t 10)⟩])
  (.keep [0, 3] (.seq (.seq (.reg [⟨(some 11), none, .mv (.t 0)⟩, ⟨(some 12), none, .nilchk (.t 11)⟩, ⟨(some 13), none, .fa 0 (.t 12)⟩, ⟨(some 14), none, .fa 0 (.t 13)⟩, ⟨(some 15), none, .load false 1 (.t 14)⟩, ⟨(some 16), none, .len false (.t 15)⟩, ⟨(some 17), none, .mv (.c (.int .i64 (0)))⟩])
  (.keep [0, 3, 15, 16, 17] (.block 0 (.loop A.lower_lowerer_alone.L0))))
  (.keep [0, 3] (.seq (.seq (.reg [⟨(some 25), none, .mv (.t 0)⟩, ⟨(some 26), none, .nilchk (.t 25)⟩, ⟨(some 27), none, .fa 0 (.t 26)⟩, ⟨(some 28), none, .fa 1 (.t 27)⟩, ⟨(some 29), none, .load false 1 (.t 28)⟩, ⟨(some 30), none, .len false (.t 29)⟩, ⟨(some 31), none, .mv (.c (.int .i64 (0)))⟩])
  (.keep [0, 3, 29, 30, 31] (.block 2 (.loop A.lower_lowerer_alone.L1))))
  (.keep [3] (.seq (.reg [⟨(some 61), none, .mv (.t 3)⟩, ⟨(some 2), none, .mv (.t 61)⟩]) .ret)))))))))⟩
def A.lower_lowerer_term : AFn := ⟨37, [], (.seq (.reg [⟨(some 7), none, .mv (.t 0)⟩, ⟨(some 8), none, .nilchk (.t 7)⟩, ⟨(some 9), none, .fa 3 (.t 8)⟩, ⟨(some 10), none, .load false 1 (.t 9)⟩, ⟨(some 11), none, .mv (.t 1)⟩, ⟨(some 12), none, .lkp .s (.int .i64 (0)) true (.t 10) (.t 11)⟩, ⟨(some 6), none, .mv (.t 12)⟩, ⟨(some 13), none, .ext (.t 6) 0⟩, ⟨(some 14), none, .ext (.t 6) 1⟩, ⟨(some 4), none, .mv (.t 13)⟩, ⟨(some 5), none, .mv (.t 14)⟩])
  (.keep [0, 1, 5] (.seq (.reg [⟨(some 15), none, .mv (.t 5)⟩, ⟨(some 16), none, .un .not (.t 15)⟩])
  (.keep [0, 1, 16] (.cond (.t 16) (.seq (.draw [(.pl, ⟨(some 17), none, .mv (.t 0)⟩), (.pl, ⟨(some 18), none, .nilchk (.t 17)⟩), (.pl, ⟨(some 19), none, .fa 3 (.t 18)⟩), (.pl, ⟨(some 20), none, .load false 1 (.t 19)⟩), (.pl, ⟨(some 21), none, .mv (.t 1)⟩), (.pl, ⟨(some 22), none, .mv (.t 0)⟩), (.pl, ⟨(some 23), none, .nilchk (.t 22)⟩), (.pl, ⟨(some 24), none, .fa 2 (.t 23)⟩), (.pl, ⟨(some 25), none, .load false 1 (.t 24)⟩), (.pl, ⟨(some 26), none, .len false (.t 25)⟩), (.eff, ⟨none, none, .mupd .s (.t 20) (.t 21) (.t 26)⟩)])
  (.keep [0, 1] (.reg [⟨(some 27), none, .mv (.t 0)⟩, ⟨(some 28), none, .mv (.t 0)⟩, ⟨(some 29), none, .nilchk (.t 28)⟩, ⟨(some 30), none, .fa 2 (.t 29)⟩, ⟨(some 31), none, .load false 1 (.t 30)⟩, ⟨(some 32), none, .mv (.t 1)⟩, ⟨(some 33), none, .bsl 1 false [(.str [])] 1 [(0, (.t 32))]⟩, ⟨(some 34), none, .app 1 16 (.t 31) (.t 33)⟩, ⟨(some 35), none, .nilchk (.t 27)⟩, ⟨(some 36), none, .fa 2 (.t 35)⟩, ⟨none, none, .store 1 (.t 36) (.t 34)⟩]))) .skip)))))⟩
def A.lower_lowerer_symbol : AFn := ⟨43, [(4, (some (true, 2)))], (.seq (.reg [⟨(some 4), none, .alloc [(.bool false), (.int .i64 (0))]⟩])
  (.keep [0, 1, 4] (.seq (.seq (.reg [⟨(some 6), none, .mv (.t 0)⟩, ⟨(some 7), none, .nilchk (.t 6)⟩, ⟨(some 8), none, .fa 0 (.t 7)⟩, ⟨(some 9), none, .fa 1 (.t 8)⟩, ⟨(some 10), none, .load false 1 (.t 9)⟩, ⟨(some 11), none, .mv (.t 1)⟩, ⟨(some 12), none, .ia 3 (.t 10) (.t 11)⟩, ⟨(some 13), none, .load true 3 (.t 12)⟩, ⟨(some 5), none, .alloc [(.int .i64 (0)), (.str []), (.sl 0 1 [])]⟩, ⟨none, none, .store 3 (.t 5) (.t 13)⟩])
  (.keep [0, 1, 4, 5] (.seq (.reg [⟨(some 14), none, .fa 0 (.t 5)⟩, ⟨(some 15), none, .load false 1 (.t 14)⟩])
  (.keep [0, 1, 4, 5, 15] (.block 0 (.seq (.reg [⟨(some 17), none, .bin .eql (.t 15) (.c (.int .i64 (7)))⟩, ⟨(some 16), none, .mv (.t 17)⟩])
  (.keep [0, 1, 4, 5, 15, 16] (.cond (.t 16) (.seq (.draw [(.pl, ⟨(some 18), none, .mv (.t 0)⟩), (.pl, ⟨(some 19), none, .nilchk (.t 18)⟩), (.pl, ⟨(some 20), none, .fa 3 (.t 19)⟩), (.pl, ⟨(some 21), none, .load false 1 (.t 20)⟩), (.pl, ⟨(some 22), none, .fa 1 (.t 5)⟩), (.pl, ⟨(some 23), none, .load false 1 (.t 22)⟩), (.pl, ⟨(some 24), none, .lkp .s (.int .i64 (0)) false (.t 21) (.t 23)⟩), (.pl, ⟨(some 25), none, .bld [(.bool false), (.int .i64 (0))] [(1, 1, (.t 24))]⟩), (.eff, ⟨none, none, .store 2 (.t 4) (.t 25)⟩)]) .ret) (.seq (.reg [⟨(some 27), none, .bin .eql (.t 15) (.c (.int .i64 (6)))⟩, ⟨(some 26), none, .mv (.t 27)⟩])
  (.keep [0, 1, 4, 5, 26] (.cond (.t 26) (.seq (.draw [(.pl, ⟨(some 28), none, .mv (.t 0)⟩), (.pl, ⟨(some 29), none, .nilchk (.t 28)⟩), (.pl, ⟨(some 30), none, .fa 4 (.t 29)⟩), (.pl, ⟨(some 31), none, .load false 1 (.t 30)⟩), (.pl, ⟨(some 32), none, .fa 1 (.t 5)⟩), (.pl, ⟨(some 33), none, .load false 1 (.t 32)⟩), (.pl, ⟨(some 34), none, .lkp .s (.int .i64 (0)) false (.t 31) (.t 33)⟩), (.pl, ⟨(some 35), none, .bld [(.bool false), (.int .i64 (0))] [(0, 1, (.c (.bool true))), (1, 1, (.t 34))]⟩), (.eff, ⟨none, none, .store 2 (.t 4) (.t 35)⟩)]) .ret) .skip)))))))))))
  (.keep [0, 1, 4] (.seq (.reg [⟨(some 36), none, .mv (.t 0)⟩, ⟨(some 37), none, .nilchk (.t 36)⟩, ⟨(some 38), none, .fa 5 (.t 37)⟩, ⟨(some 39), none, .load false 1 (.t 38)⟩, ⟨(some 40), none, .mv (.t 1)⟩, ⟨(some 41), none, .lkp .i (.int .i64 (0)) false (.t 39) (.t 40)⟩, ⟨(some 42), none, .bld [(.bool false), (.int .i64 (0))] [(0, 1, (.c (.bool true))), (1, 1, (.t 41))]⟩, ⟨none, none, .store 2 (.t 4) (.t 42)⟩]) .ret)))))⟩
end Go.Proofs.Ytmobijebjkjnoaa.Al
namespace Go.Proofs.Ytmobijebjkjnoaa.Al
open Go Go.RowKit
set_option linter.unusedSimpArgs false
set_option linter.unusedVariables false
attribute [-simp] List.getD_eq_getElem?_getD Int.not_lt Int.not_le List.map_take
/-- A node, a rule, a tree. -/
structure Nd where
  kind : Int
  name : Str
  kids : List Int
  deriving DecidableEq
structure Rl where
  name : Str
  body : Int
  deriving DecidableEq
structure Te where
  rules : List Rl
  nodes : List Nd
  deriving DecidableEq
def ndC (n : Nd) : List V := [.int .i64 n.kind, .str n.name, .sl 1 0 (ints n.kids)]
def ndV (n : Nd) : V := .agg (ndC n)
def rlC (r : Rl) : List V := [.str r.name, .int .i64 r.body]
def rlV (r : Rl) : V := .agg (rlC r)
def teC (t : Te) : List V := [.sl 2 0 (t.rules.map rlV), .sl 3 0 (t.nodes.map ndV)]
def teV (t : Te) : V := .agg (teC t)
theorem encRl : Enc rlV 2 true := ⟨fun _ => rfl, fun _ => rfl, fun _ => rfl, fun a n m v hv => by simp [rlV, rlC, V.cells] at hv; rcases hv with rfl | rfl <;> simp⟩
theorem encNd : Enc ndV 3 true := ⟨fun _ => rfl, fun _ => rfl, fun _ => rfl, fun a n m v hv => by
  simp [ndV, ndC, V.cells] at hv
  rcases hv with rfl | rfl | rfl
  · simp
  · simp
  · rw [Bdd_sl0]; exact ⟨by omega, Bdd_ints _ _ _⟩⟩
structure TeOk (t : Te) : Prop where
  rules : t.rules.length ≤ maxLen
  nodes : t.nodes.length ≤ maxLen
  rname : ∀ r ∈ t.rules, r.name.length ≤ maxLen
  nname : ∀ n ∈ t.nodes, n.name.length ≤ maxLen
  kids : ∀ n ∈ t.nodes, n.kids.length ≤ maxLen
def largeT (t : Te) : Bool := decide (30 < t.rules.length) || decide (210 < t.nodes.length) || (t.rules.any fun r => decide (100 < r.name.length)) || t.nodes.any fun n => decide (100 < n.name.length) || decide (210 < n.kids.length)
section
variable {X : Cx} {h : AH} {Q : V → AH → Prop}
theorem largeT_spec (H : Has (Ecx X) K.probatelaw06_Large A.probatelaw06_Large) (t : Te) (ok : TeOk t) (hQ : Q (.bool (largeT t)) h) : Ecx X K.probatelaw06_Large [teV t] h Q := by
  refine fn_walk H (by simp [A.probatelaw06_Large]) fun wf => ?_
  have gr := (Gr.refl h).new (teC t)
  have htc : teC t = [.sl 2 0 (t.rules.map rlV), .sl 3 0 (t.nodes.map ndV)] := rfl
  have hb0 : (h.new (teC t)).objs h.nobj = teC t := by simp
  have hb1 : (h.new (teC t)).nobj = h.nobj + 1 := by simp
  have ho := ok.rules
  have hn := ok.nodes
  unfold maxLen at ho hn
  simp [A.probatelaw06_Large, teV, V.cells, V.good, htc]
  rw [← htc]
  generalize h.new (teC t) = h1 at *
  by_cases c1 : (30 : Int) < t.rules.length
  · have : largeT t = true := by
      have : 30 < t.rules.length := by omega
      simp [largeT, this]
    rw [this] at hQ
    simp [c1]
    exact fin_wk gr (.same _) (by simp) hQ
  simp [c1, hb0, htc]
  by_cases c2 : (210 : Int) < t.nodes.length
  · have : largeT t = true := by
      have : 210 < t.nodes.length := by omega
      simp [largeT, this]
    rw [this] at hQ
    simp [c2]
    exact fin_wk gr (.same _) (by simp) hQ
  simp [c2, hb0, htc]
  refine loopI (n := t.rules.length) (fun m env h' => ∃ k, k ≤ t.rules.length ∧ m = t.rules.length - k ∧ Gr h h' ∧ h'.objs h.nobj = teC t ∧ h.nobj < h'.nobj ∧ env = [(1, .ptr h.nobj 0), (18, .sl 2 0 (t.rules.map rlV)), (19, .int .i64 t.rules.length), (20, .int .i64 k)] ∧ (t.rules.take k).any (fun r => decide (100 < r.name.length)) = false) ?_ ⟨0, by omega, by omega, gr, hb0, by omega, rfl, by simp⟩
  rintro m env h' ⟨k, hk, rfl, gr', ob, nb, rfl, ha⟩
  unfold A.probatelaw06_Large.L0
  by_cases hlt : k < t.rules.length
  · have hlt' : (k : Int) < t.rules.length := by omega
    have hg : (t.rules.map rlV).getD k .undef = rlV t.rules[k] := Enc.getD hlt
    have hw1 : IntKind.i64.wrap ((k : Int) + 1) = ((k + 1 : Nat) : Int) := by rw [wrap_i64 (by omega) (by omega)]; rfl
    have n1 : ¬ h.nobj = h'.nobj := by omega
    by_cases c3 : (100 : Int) < t.rules[k].name.length
    · have : largeT t = true := by
        have : (t.rules.any fun r => decide (100 < r.name.length)) = true := List.any_eq_true.2 ⟨_, List.getElem_mem hlt, by simp; omega⟩
        simp [largeT, this]
      rw [this] at hQ
      simp [hlt', hg, rlV, rlC, V.cells, V.good, setAt, c3]
      exact fin_wk (gr'.new _) (.same _) (by simp) hQ
    · simp [hlt', hg, rlV, rlC, V.cells, V.good, setAt, c3, hw1]
      exact ⟨t.rules.length - (k + 1), by omega, iv ⟨k + 1, by omega, rfl, gr'.new _, by simp [n1, ob], by simp; omega, rfl, by
        rw [List.take_succ_eq_append_getElem hlt, List.any_append, ha]; simp; omega⟩⟩
  · have hlt' : ¬ (k : Int) < t.rules.length := by omega
    obtain rfl : k = t.rules.length := by omega
    rw [List.take_length] at ha
    simp [hlt', ob, htc]
    refine loopI (n := t.nodes.length) (fun m env h' => ∃ k, k ≤ t.nodes.length ∧ m = t.nodes.length - k ∧ Gr h h' ∧ env = [(30, .sl 3 0 (t.nodes.map ndV)), (31, .int .i64 t.nodes.length), (32, .int .i64 k)] ∧ (t.nodes.take k).any (fun n => decide (100 < n.name.length) || decide (210 < n.kids.length)) = false) ?_ ⟨0, by omega, by omega, gr', rfl, by simp⟩
    rintro m env h2 ⟨k, hk, rfl, gr2, rfl, hb⟩
    unfold A.probatelaw06_Large.L1
    by_cases hlt : k < t.nodes.length
    · have hlt' : (k : Int) < t.nodes.length := by omega
      have hg : (t.nodes.map ndV).getD k .undef = ndV t.nodes[k] := Enc.getD hlt
      have hw1 : IntKind.i64.wrap ((k : Int) + 1) = ((k + 1 : Nat) : Int) := by rw [wrap_i64 (by omega) (by omega)]; rfl
      by_cases c3 : (100 : Int) < t.nodes[k].name.length
      · have : largeT t = true := by
          have : (t.nodes.any fun n => decide (100 < n.name.length) || decide (210 < n.kids.length)) = true := List.any_eq_true.2 ⟨_, List.getElem_mem hlt, by simp; omega⟩
          simp [largeT, this]
        rw [this] at hQ
        simp [hlt', hg, ndV, ndC, V.cells, V.good, setAt, c3]
        exact fin_wk (gr2.new _) (.same _) (by simp) hQ
      by_cases c4 : (210 : Int) < t.nodes[k].kids.length
      · have : largeT t = true := by
          have : (t.nodes.any fun n => decide (100 < n.name.length) || decide (210 < n.kids.length)) = true := List.any_eq_true.2 ⟨_, List.getElem_mem hlt, by simp; omega⟩
          simp [largeT, this]
        rw [this] at hQ
        simp [hlt', hg, ndV, ndC, V.cells, V.good, setAt, c3, c4, ints]
        exact fin_wk (gr2.new _) (.same _) (by simp) hQ
      · simp [hlt', hg, ndV, ndC, V.cells, V.good, setAt, c3, c4, hw1, ints]
        exact ⟨t.nodes.length - (k + 1), by omega, iv ⟨k + 1, by omega, rfl, gr2.new _, rfl, by
          rw [List.take_succ_eq_append_getElem hlt, List.any_append, hb]; simp; omega⟩⟩
    · have hlt' : ¬ (k : Int) < t.nodes.length := by omega
      obtain rfl : k = t.nodes.length := by omega
      rw [List.take_length] at hb
      have : largeT t = false := by simp only [largeT, ha, hb, Bool.or_false]; simp; omega
      rw [this] at hQ
      simp [hlt']
      exact fin_wk gr2 (.same _) (by simp) hQ
/-- Where a name stands; below 0: nowhere. -/
def plc (s : Str) : List Str → Nat → Int
  | [], _ => -1
  | a :: l, i => if a = s then (i : Int) else plc s l (i + 1)
def strs (l : List Str) : List V := l.map .str
theorem place_spec (H : Has (Ecx X) K.probateref08_place A.probateref08_place) (l : List Str) (e1 st : Nat) (he : strs l = [] ∨ e1 = 1) (s : Str) (hl : l.length < 2 ^ 62) (hQ : Q (.int .i64 (plc s l 0)) h) : Ecx X K.probateref08_place [.sl e1 st (strs l), .str s] h Q := by
  refine fn_walk H (by simp [A.probateref08_place]) fun wf => ?_
  simp [A.probateref08_place]
  refine loopI (n := l.length) (fun m env h' => ∃ k, k ≤ l.length ∧ m = l.length - k ∧ h' = h ∧ env = [(0, .sl e1 st (strs l)), (1, .str s), (5, .int .i64 k)] ∧ plc s l 0 = plc s (l.drop k) k) ?_ ⟨0, by omega, by omega, rfl, rfl, rfl⟩
  rintro m env h' ⟨k, hk, rfl, rfl, rfl, hp⟩
  unfold A.probateref08_place.L0
  have hsl : (strs l).length = l.length := by simp [strs]
  by_cases hlt : k < l.length
  · obtain rfl : e1 = 1 := he.resolve_left (fun e => by rw [e] at hsl; simp at hsl; omega)
    have hlt' : (k : Int) < l.length := by omega
    have hg : (strs l).getD k .undef = .str l[k] := by simp [strs, List.getD_eq_getElem?_getD, hlt]
    have hw1 : IntKind.i64.wrap ((k : Int) + 1) = ((k + 1 : Nat) : Int) := by rw [wrap_i64 (by omega) (by omega)]; rfl
    rw [List.drop_eq_getElem_cons hlt, plc] at hp
    by_cases c : l[k] = s
    · rw [if_pos c] at hp
      rw [hp] at hQ
      simp [hlt', hg, hsl, V.cells, c]
      exact fin (by simp) hQ
    · rw [if_neg c] at hp
      simp [hlt', hg, hsl, V.cells, c, hw1]
      exact ⟨l.length - (k + 1), by omega, iv ⟨k + 1, by omega, rfl, rfl, rfl, hp⟩⟩
  · have hlt' : ¬ (k : Int) < l.length := by omega
    obtain rfl : k = l.length := by omega
    rw [List.drop_length, plc] at hp
    rw [hp] at hQ
    simp [hlt', hsl]
    exact fin (by simp) hQ
def rnames (t : Te) : List Str := t.rules.map (·.name)
theorem rule_spec (H : Has (Ecx X) K.probateref08_rule A.probateref08_rule) (t : Te) (s : Str) (hl : t.rules.length < 2 ^ 62) (hQ : Q (.int .i64 (plc s (rnames t) 0)) h) : Ecx X K.probateref08_rule [teV t, .str s] h Q := by
  refine fn_walk H (by simp [A.probateref08_rule]) fun wf => ?_
  have htc : teC t = [.sl 2 0 (t.rules.map rlV), .sl 3 0 (t.nodes.map ndV)] := rfl
  have gr := (Gr.refl h).new (teC t)
  have hb0 : (h.new (teC t)).objs h.nobj = teC t := by simp
  simp [A.probateref08_rule, teV, V.cells, V.good]
  generalize h.new (teC t) = h1 at *
  refine loopI (n := t.rules.length) (fun m env h' => ∃ k, k ≤ t.rules.length ∧ m = t.rules.length - k ∧ h' = h1 ∧ env = [(1, .str s), (2, .ptr h.nobj 0), (5, .int .i64 k)] ∧ plc s (rnames t) 0 = plc s ((rnames t).drop k) k) ?_ ⟨0, by omega, by omega, rfl, rfl, rfl⟩
  rintro m env h' ⟨k, hk, rfl, rfl, rfl, hp⟩
  unfold A.probateref08_rule.L0
  have hrl : (rnames t).length = t.rules.length := by simp [rnames]
  by_cases hlt : k < t.rules.length
  · have hlt' : (k : Int) < t.rules.length := by omega
    have hg : (t.rules.map rlV).getD k .undef = rlV t.rules[k] := Enc.getD hlt
    have hw1 : IntKind.i64.wrap ((k : Int) + 1) = ((k + 1 : Nat) : Int) := by rw [wrap_i64 (by omega) (by omega)]; rfl
    rw [List.drop_eq_getElem_cons (by omega), plc, show (rnames t)[k] = t.rules[k].name by simp [rnames]] at hp
    by_cases c : t.rules[k].name = s
    · rw [if_pos c] at hp
      rw [hp] at hQ
      simp [hlt', hg, hb0, htc, rlV, rlC, V.cells, c]
      exact fin_wk gr (.same _) (by simp) hQ
    · rw [if_neg c] at hp
      simp [hlt', hg, hb0, htc, rlV, rlC, V.cells, c, hw1]
      exact ⟨t.rules.length - (k + 1), by omega, iv ⟨k + 1, by omega, rfl, rfl, rfl, hp⟩⟩
  · have hlt' : ¬ (k : Int) < t.rules.length := by omega
    obtain rfl : k = t.rules.length := by omega
    rw [← hrl, List.drop_length, plc] at hp
    rw [hp] at hQ
    simp [hlt', hb0, htc]
    exact fin_wk gr (.same _) (by simp) hQ
theorem hasRule_spec (H : Has (Ecx X) K.probateref06_Tree_rule A.probateref06_Tree_rule) (t : Te) (s : Str) (hl : t.rules.length < 2 ^ 62) (hQ : Q (.bool (decide (s ∈ rnames t))) h) : Ecx X K.probateref06_Tree_rule [teV t, .str s] h Q := by
  refine fn_walk H (by simp [A.probateref06_Tree_rule]) fun wf => ?_
  have htc : teC t = [.sl 2 0 (t.rules.map rlV), .sl 3 0 (t.nodes.map ndV)] := rfl
  have gr := (Gr.refl h).new (teC t)
  have hb0 : (h.new (teC t)).objs h.nobj = teC t := by simp
  simp [A.probateref06_Tree_rule, teV, V.cells, V.good]
  generalize h.new (teC t) = h1 at *
  refine loopI (n := t.rules.length) (fun m env h' => ∃ k, k ≤ t.rules.length ∧ m = t.rules.length - k ∧ h' = h1 ∧ env = [(1, .str s), (2, .ptr h.nobj 0), (5, .int .i64 k)] ∧ (s ∈ rnames t ↔ s ∈ (rnames t).drop k)) ?_ ⟨0, by omega, by omega, rfl, rfl, by simp⟩
  rintro m env h' ⟨k, hk, rfl, rfl, rfl, hp⟩
  unfold A.probateref06_Tree_rule.L0
  have hrl : (rnames t).length = t.rules.length := by simp [rnames]
  by_cases hlt : k < t.rules.length
  · have hlt' : (k : Int) < t.rules.length := by omega
    have hg : (t.rules.map rlV).getD k .undef = rlV t.rules[k] := Enc.getD hlt
    have hw1 : IntKind.i64.wrap ((k : Int) + 1) = ((k + 1 : Nat) : Int) := by rw [wrap_i64 (by omega) (by omega)]; rfl
    rw [List.drop_eq_getElem_cons (by omega), show (rnames t)[k] = t.rules[k].name by simp [rnames], List.mem_cons] at hp
    by_cases c : t.rules[k].name = s
    · have : decide (s ∈ rnames t) = true := by simp [hp, c]
      rw [this] at hQ
      simp [hlt', hg, hb0, htc, rlV, rlC, V.cells, c]
      exact fin_wk gr (.same _) (by simp) hQ
    · simp [hlt', hg, hb0, htc, rlV, rlC, V.cells, c, hw1]
      exact ⟨t.rules.length - (k + 1), by omega, iv ⟨k + 1, by omega, rfl, rfl, rfl, hp.trans ⟨fun h => h.resolve_left (fun e => c e.symm), .inr⟩⟩⟩
  · have hlt' : ¬ (k : Int) < t.rules.length := by omega
    obtain rfl : k = t.rules.length := by omega
    rw [← hrl, List.drop_length] at hp
    have : decide (s ∈ rnames t) = false := by simp [hp]
    rw [this] at hQ
    simp [hlt', hb0, htc]
    exact fin_wk gr (.same _) (by simp) hQ
/-- May a text stand between quotes? -/
def quoteT (s : Str) : Bool := s.all quotedB && decide (0 < s.length) && decide (s.length ≤ 3998)
theorem rquote_spec (H : Has (Ecx X) K.probateref06_quote A.probateref06_quote) (s : Str) (hl : s.length < 2 ^ 62) (hQ : Q (.bool (quoteT s)) h) : Ecx X K.probateref06_quote [.str s] h Q := by
  refine fn_walk H (by simp [A.probateref06_quote]) fun wf => ?_
  simp [A.probateref06_quote]
  refine loopI (n := s.length) (fun m env h' => ∃ k, k ≤ s.length ∧ m = s.length - k ∧ h' = h ∧ env = [(0, .str s), (3, .int .i64 k)] ∧ s.all quotedB = (s.drop k).all quotedB) ?_ ⟨0, by omega, by omega, rfl, rfl, by simp⟩
  rintro m env h' ⟨k, hk, rfl, rfl, rfl, hp⟩
  unfold A.probateref06_quote.L0
  by_cases hlt : k < s.length
  · have hlt' : (k : Int) < s.length := by omega
    have hw1 : IntKind.i64.wrap ((k : Int) + 1) = ((k + 1 : Nat) : Int) := by rw [wrap_i64 (by omega) (by omega)]; rfl
    have hg : ((s.getD k 0).toNat : Int) = bt s[k] := by simp [bt, List.getD_eq_getElem?_getD, hlt]
    rw [List.drop_eq_getElem_cons hlt, List.all_cons] at hp
    have hqd : quotedB s[k] = (decide (32 ≤ bt s[k]) && decide (bt s[k] ≤ 126) && decide (bt s[k] ≠ 39)) := rfl
    generalize bt s[k] = c at *
    by_cases c1 : c < 32
    · have : quoteT s = false := by simp only [quoteT, hp, hqd]; simp [show ¬ 32 ≤ c by omega]
      rw [this] at hQ
      simp [hlt', hg, c1]
      exact fin (by simp) hQ
    by_cases c2 : 126 < c
    · have : quoteT s = false := by simp only [quoteT, hp, hqd]; simp [show ¬ c ≤ 126 by omega]
      rw [this] at hQ
      simp [hlt', hg, c1, c2]
      exact fin (by simp) hQ
    by_cases c3 : c = 39
    · have : quoteT s = false := by simp only [quoteT, hp, hqd]; simp [c3]
      rw [this] at hQ
      subst c3
      simp [hlt', hg, c1, c2]
      exact fin (by simp) hQ
    · simp [hlt', hg, c1, c2, c3, hw1]
      exact ⟨s.length - (k + 1), by omega, iv ⟨k + 1, by omega, rfl, rfl, rfl, by rw [hp, hqd]; simp [show 32 ≤ c by omega, show c ≤ 126 by omega, c3]⟩⟩
  · have hlt' : ¬ (k : Int) < s.length := by omega
    obtain rfl : k = s.length := by omega
    have ha : s.all quotedB = true := by rw [hp]; simp
    by_cases c1 : (0 : Int) < s.length
    · by_cases c2 : (s.length : Int) ≤ 3998
      · have : quoteT s = true := by simp only [quoteT, ha]; simp; omega
        rw [this] at hQ
        have c1' : 0 < s.length := by omega
        simp [hlt', c1', c2]
        exact fin (by simp) hQ
      · have : quoteT s = false := by simp only [quoteT, ha]; simp; omega
        rw [this] at hQ
        have c1' : 0 < s.length := by omega
        simp [hlt', c1', c2]
        exact fin (by simp) hQ
    · have : quoteT s = false := by simp only [quoteT, ha]; simp; omega
      rw [this] at hQ
      have c1' : ¬ 0 < s.length := by omega
      simp [hlt', c1']
      exact fin (by simp) hQ
/-- May a node be, but for its kids' places? -/
def fineT (t : Te) (n : Nd) : Bool :=
  if n.kind = 6 then decide (n.kids.length = 0) && decide (n.name ∈ rnames t)
  else if n.kind = 7 then decide (n.kids.length = 0) && quoteT n.name
  else decide (n.name = []) && ((decide (n.kind = 1) && decide (n.kids.length ≠ 1)) || (decide (n.kind = 2) && decide (2 ≤ n.kids.length)) || (decide (3 ≤ n.kind) && decide (n.kind ≤ 5) && decide (n.kids.length = 1)))
theorem rfine_spec (H : Has (Ecx X) K.probateref06_Tree_fine A.probateref06_Tree_fine) (HR : Has (Ecx X) K.probateref06_Tree_rule A.probateref06_Tree_rule) (HQ : Has (Ecx X) K.probateref06_quote A.probateref06_quote) (t : Te) (n : Nd)
    (hl : t.rules.length < 2 ^ 62) (hn : n.name.length < 2 ^ 62) (hQ : Q (.bool (fineT t n)) h) : Ecx X K.probateref06_Tree_fine [teV t, ndV n] h Q := by
  refine fn_walk H (by simp [A.probateref06_Tree_fine]) fun wf => ?_
  have htc : teC t = [.sl 2 0 (t.rules.map rlV), .sl 3 0 (t.nodes.map ndV)] := rfl
  have gr := ((Gr.refl h).new (teC t)).new (ndC n)
  have n1 : ¬ h.nobj = h.nobj + 1 := by omega
  have hb0 : ((h.new (teC t)).new (ndC n)).objs h.nobj = teC t := by simp [n1]
  have hb1 : ((h.new (teC t)).new (ndC n)).objs (h.nobj + 1) = ndC n := by simp
  obtain ⟨kind, name, kids⟩ := n
  simp [A.probateref06_Tree_fine, teV, ndV, V.cells, V.good]
  have hnc : ndC ⟨kind, name, kids⟩ = [.int .i64 kind, .str name, .sl 1 0 (kids.map (.int .i64))] := rfl
  generalize (h.new (teC t)).new (ndC ⟨kind, name, kids⟩) = h1 at *
  simp [hb1, hnc]
  unfold fineT at hQ
  simp only at hQ
  by_cases k6 : kind = 6
  · subst k6
    by_cases c : kids = []
    · subst c
      simp [hb0, htc, hb1, hnc] at hQ ⊢
      refine ecall (hasRule_spec HR t name hl ?_)
      simp
      exact fin_wk gr (.same _) (by simp) hQ
    · simp [hb0, htc, hb1, hnc, c] at hQ ⊢
      exact fin_wk gr (.same _) (by simp) hQ
  by_cases k7 : kind = 7
  · subst k7
    by_cases c : kids = []
    · subst c
      simp [hb0, htc, hb1, hnc] at hQ ⊢
      refine ecall (rquote_spec HQ name hn ?_)
      simp
      exact fin_wk gr (.same _) (by simp) hQ
    · simp [hb0, htc, hb1, hnc, c] at hQ ⊢
      exact fin_wk gr (.same _) (by simp) hQ
  simp [k6, k7, hb1, hnc] at hQ ⊢
  by_cases c0 : name = []
  case neg =>
    simp [c0] at hQ ⊢
    exact fin_wk gr (.same _) (by simp) hQ
  subst c0
  simp [hb1, hnc] at hQ ⊢
  by_cases k1 : kind = 1
  · subst k1
    by_cases c : kids.length = 1
    · have c' : ((kids.length : Nat) : Int) = 1 := by omega
      simp [hb1, hnc, c, c'] at hQ ⊢
      exact fin_wk gr (.same _) (by simp) hQ
    · have c' : ¬ ((kids.length : Nat) : Int) = 1 := by omega
      simp [hb1, hnc, c, c'] at hQ ⊢
      exact fin_wk gr (.same _) (by simp) hQ
  by_cases k2 : kind = 2
  · subst k2
    by_cases c : 2 ≤ kids.length
    · have c' : (2 : Int) ≤ (kids.length : Nat) := by omega
      simp [hb1, hnc, c, c'] at hQ ⊢
      exact fin_wk gr (.same _) (by simp) hQ
    · have c' : ¬ (2 : Int) ≤ (kids.length : Nat) := by omega
      simp [hb1, hnc, c, c'] at hQ ⊢
      exact fin_wk gr (.same _) (by simp) hQ
  by_cases k3 : 3 ≤ kind
  case neg =>
    simp [hb1, hnc, k1, k2, k3] at hQ ⊢
    exact fin_wk gr (.same _) (by simp) hQ
  by_cases k5 : kind ≤ 5
  case neg =>
    simp [hb1, hnc, k1, k2, k3, k5] at hQ ⊢
    exact fin_wk gr (.same _) (by simp) hQ
  by_cases c : kids.length = 1
  · have c' : ((kids.length : Nat) : Int) = 1 := by omega
    simp [hb1, hnc, k1, k2, k3, k5, c, c'] at hQ ⊢
    exact fin_wk gr (.same _) (by simp) hQ
  · have c' : ¬ ((kids.length : Nat) : Int) = 1 := by omega
    simp [hb1, hnc, k1, k2, k3, k5, c, c'] at hQ ⊢
    exact fin_wk gr (.same _) (by simp) hQ
/-- Is a text just one token of a kind? -/
def tokenT (s : Str) (kind : Int) : Bool := match (scanR s).1 with
  | [a] => decide ((scanR s).2.2 = 0) && decide ((a.kind : Int) = kind) && decide (a.at' = 0) && (decide (kind = 2) || decide (a.text = s))
  | _ => false
theorem token_spec (L : LS X) (H : Has (Ecx X) K.rules_token A.rules_token) (s : Str) (kind : Int) (hl : s.length ≤ 2 ^ 40) (hQ : Q (.bool (tokenT s kind)) h) : Ecx X K.rules_token [.str s, .int .i64 kind] h Q := by
  refine fn_walk H (by simp [A.rules_token]) fun wf => ?_
  simp [A.rules_token]
  refine ecall (scan_spec L s hl ?_)
  simp [scanV]
  unfold tokenT at hQ
  generalize scanR s = R at *
  obtain ⟨l, p, e⟩ := R
  simp only at hQ ⊢
  by_cases c : e = 0
  case neg =>
    have hq : Q (.bool false) h := by
      match l, hQ with
      | [], hQ => exact hQ
      | [a], hQ => simpa [c] using hQ
      | _ :: _ :: _, hQ => exact hQ
    simp [c]
    exact fin (by simp) hq
  subst c
  match l, hQ with
  | [], hQ => simp at hQ ⊢; exact fin (by simp) hQ
  | a :: b :: r, hQ =>
    have c' : ¬ (((a :: b :: r).length : Nat) : Int) = 1 := by simp; omega
    simp at hQ c' ⊢
    simp [c']
    exact fin (by simp) hQ
  | [a], hQ =>
    simp [tokV, tokC, V.cells] at hQ ⊢
    by_cases k1 : (a.kind : Int) = kind
    case neg =>
      simp [k1] at hQ ⊢
      exact fin (by simp) hQ
    by_cases k2 : a.at' = 0
    case neg =>
      simp [k1, k2] at hQ ⊢
      exact fin (by simp) hQ
    by_cases k3 : kind = 2
    · simp [k1, k2, k3, tokC] at hQ ⊢
      exact fin (by simp) hQ
    by_cases k4 : a.text = s
    · simp [k1, k2, k3, k4, tokC] at hQ ⊢
      exact fin (by simp) hQ
    · simp [k1, k2, k3, k4, tokC] at hQ ⊢
      exact fin (by simp) hQ
def plcB (c : Int) : Str → Nat → Int
  | [], _ => -1
  | a :: l, i => if c = bt a then (i : Int) else plcB c l (i + 1)
theorem plcB_any (c : Int) : ∀ (l : Str) (i : Nat), decide (0 ≤ plcB c l i) = l.any fun a => decide (c = bt a)
  | [], i => by simp [plcB]
  | a :: l, i => by
    unfold plcB
    by_cases e : c = bt a
    · simp [e]
    · simp only [if_neg e, List.any_cons, decide_eq_false e, Bool.false_or]; exact plcB_any c l (i + 1)
theorem indexB_spec (H : Has (Ecx X) K.slices_Index_byte A.slices_Index_byte) (s : Str) (st : Nat) (c : Int) (hl : s.length < 2 ^ 62) (hQ : Q (.int .i64 (plcB c s 0)) h) : Ecx X K.slices_Index_byte [.sl 1 st (bytesV s), .int .u8 c] h Q := by
  refine fn_walk H (by simp [A.slices_Index_byte]) fun wf => ?_
  have hsl : (bytesV s).length = s.length := by simp [bytesV]
  simp [A.slices_Index_byte, hsl]
  refine loopI (n := s.length) (fun m env h' => ∃ k, k ≤ s.length ∧ m = s.length - k ∧ h' = h ∧ env = [(0, .sl 1 st (bytesV s)), (1, .int .u8 c), (7, .int .i64 s.length), (8, .int .i64 k)] ∧ plcB c s 0 = plcB c (s.drop k) k) ?_ ⟨0, by omega, by omega, rfl, rfl, rfl⟩
  rintro m env h' ⟨k, hk, rfl, rfl, rfl, hp⟩
  unfold A.slices_Index_byte.L0
  by_cases hlt : k < s.length
  · have hlt' : (k : Int) < s.length := by omega
    have hg : (bytesV s).getD k .undef = .int .u8 (bt s[k]) := by simp [bytesV, bt, List.getD_eq_getElem?_getD, hlt]
    have hw1 : IntKind.i64.wrap ((k : Int) + 1) = ((k + 1 : Nat) : Int) := by rw [wrap_i64 (by omega) (by omega)]; rfl
    rw [List.drop_eq_getElem_cons hlt, plcB] at hp
    by_cases e : c = bt s[k]
    · rw [if_pos e] at hp
      rw [hp] at hQ
      simp [hlt', hg, hsl, V.cells, ← e]
      exact fin (by simp) hQ
    · rw [if_neg e] at hp
      simp [hlt', hg, hsl, V.cells, e, hw1]
      exact ⟨s.length - (k + 1), by omega, iv ⟨k + 1, by omega, rfl, rfl, rfl, hp⟩⟩
  · have hlt' : ¬ (k : Int) < s.length := by omega
    obtain rfl : k = s.length := by omega
    rw [List.drop_length, plcB] at hp
    rw [hp] at hQ
    simp [hlt', hsl]
    exact fin (by simp) hQ
theorem containsB_spec (H : Has (Ecx X) K.slices_Contains_byte A.slices_Contains_byte) (H2 : Has (Ecx X) K.slices_Index_byte A.slices_Index_byte) (s : Str) (st : Nat) (c : Int) (hl : s.length < 2 ^ 62) (hQ : Q (.bool (s.any fun a => decide (c = bt a))) h) :
    Ecx X K.slices_Contains_byte [.sl 1 st (bytesV s), .int .u8 c] h Q := by
  refine fn_walk H (by simp [A.slices_Contains_byte]) fun wf => ?_
  simp [A.slices_Contains_byte]
  refine ecall (indexB_spec H2 s st c hl ?_)
  have := plcB_any c s 0
  simp [this]
  exact fin (by simp) hQ
/-- As the program asks. -/
def fineP (t : Te) (n : Nd) : Bool :=
  if n.kind = 7 then decide (n.kids.length = 0) && (!(n.name.any fun a => decide (39 = bt a))) && tokenT (39 :: n.name ++ [39]) 2 else fineT t n
structure LRu (X : Cx) : Prop where
  s : LS X
  token : Has (Ecx X) K.rules_token A.rules_token
  fine : Has (Ecx X) K.rules_Tree_fine A.rules_Tree_fine
  fine1 : Has (Ecx X) K.rules_Tree_fine_1 A.rules_Tree_fine_1
  right : Has (Ecx X) K.rules_Right A.rules_Right
  right1 : Has (Ecx X) K.rules_Right_1 A.rules_Right_1
  ctR : Has (Ecx X) K.slices_ContainsFunc_Rule A.slices_ContainsFunc_Rule
  ixR : Has (Ecx X) K.slices_IndexFunc_Rule A.slices_IndexFunc_Rule
  ctB : Has (Ecx X) K.slices_Contains_byte A.slices_Contains_byte
  ixB : Has (Ecx X) K.slices_Index_byte A.slices_Index_byte
  eqI : Has (Ecx X) K.slices_Equal_int A.slices_Equal_int
theorem fine1_spec (L : LRu X) (r : Rl) {o : Nat} {n : Nd} (ho : h.objs o = ndC n) (hob : o < h.nobj) (hQ : Q (.bool (decide (r.name = n.name))) h) : Ecx X K.rules_Tree_fine_1 [rlV r, .ptr o 0] h Q := by
  refine fn_walk L.fine1 (by simp [A.rules_Tree_fine_1]) fun wf => ?_
  have gr := (Gr.refl h).new (rlC r)
  have n1 : ¬ o = h.nobj := by omega
  obtain ⟨kind, name, kids⟩ := n
  have hnc : ndC ⟨kind, name, kids⟩ = [.int .i64 kind, .str name, .sl 1 0 (ints kids)] := rfl
  have hrc : rlC r = [.str r.name, .int .i64 r.body] := rfl
  simp [A.rules_Tree_fine_1, rlV, V.cells, V.good, n1, ho, hnc, hrc]
  exact fin_wk (by rw [← hrc]; exact gr) (.same _) (by simp) hQ
theorem rufine_spec (L : LRu X) (t : Te) (n : Nd) (hl : t.rules.length < 2 ^ 62) (hn : n.name.length ≤ 2 ^ 30) (hQ : Q (.bool (fineP t n)) h) : Ecx X K.rules_Tree_fine [teV t, ndV n] h Q := by
  refine fn_walk L.fine (by simp [A.rules_Tree_fine]) fun wf => ?_
  have htc : teC t = [.sl 2 0 (t.rules.map rlV), .sl 3 0 (t.nodes.map ndV)] := rfl
  have gr := ((Gr.refl h).new (teC t)).new (ndC n)
  have n1 : ¬ h.nobj = h.nobj + 1 := by omega
  have hb0 : ((h.new (teC t)).new (ndC n)).objs h.nobj = teC t := by simp [n1]
  have hb1 : ((h.new (teC t)).new (ndC n)).objs (h.nobj + 1) = ndC n := by simp
  have hb2 : ((h.new (teC t)).new (ndC n)).nobj = h.nobj + 2 := by simp
  obtain ⟨kind, name, kids⟩ := n
  simp [A.rules_Tree_fine, teV, ndV, V.cells, V.good]
  have hnc : ∀ a b c, ndC ⟨a, b, c⟩ = [.int .i64 a, .str b, .sl 1 0 (c.map (.int .i64))] := fun _ _ _ => rfl
  generalize (h.new (teC t)).new (ndC ⟨kind, name, kids⟩) = h1 at *
  simp [hb1, hnc]
  unfold fineP fineT at hQ
  simp only at hQ hn
  by_cases k1 : kind = 1
  · subst k1
    by_cases c0 : name = []
    · by_cases c : kids.length = 1
      · have c' : ((kids.length : Nat) : Int) = 1 := by omega
        simp [hb1, hnc, c0, c, c'] at hQ ⊢
        exact fin_wk gr (.same _) (by simp) hQ
      · have c' : ¬ ((kids.length : Nat) : Int) = 1 := by omega
        simp [hb1, hnc, c0, c, c'] at hQ ⊢
        exact fin_wk gr (.same _) (by simp) hQ
    · simp [hb1, hnc, c0] at hQ ⊢
      exact fin_wk gr (.same _) (by simp) hQ
  by_cases k2 : kind = 2
  · subst k2
    by_cases c0 : name = []
    · by_cases c : 2 ≤ kids.length
      · have c' : (1 : Int) < (kids.length : Nat) := by omega
        simp [hb1, hnc, c0, c, c'] at hQ ⊢
        exact fin_wk gr (.same _) (by simp) hQ
      · have c' : ¬ (1 : Int) < (kids.length : Nat) := by omega
        simp [hb1, hnc, c0, c, c'] at hQ ⊢
        exact fin_wk gr (.same _) (by simp) hQ
    · simp [hb1, hnc, c0] at hQ ⊢
      exact fin_wk gr (.same _) (by simp) hQ
  have three : ∀ k : Int, (k = 3 ∨ k = 4 ∨ k = 5) → kind = k → (Q (.bool (decide (name = []) && decide (kids.length = 1))) h) := fun k hk e => by
    subst e
    rcases hk with rfl | rfl | rfl <;> simpa using hQ
  by_cases k3 : kind = 3 ∨ kind = 4 ∨ kind = 5
  · have q := three kind k3 rfl
    clear three
    have fin3 : ∀ b, Q (.bool b) h → Fin h (.bool b) h1 (Lz.mk (a := Q)) := fun b hb => fin_wk gr (.same _) (by simp) hb
    by_cases c0 : name = [] <;> by_cases c : kids.length = 1
    all_goals
      first
        | (have c' : ((kids.length : Nat) : Int) = 1 := by omega
           rcases k3 with rfl | rfl | rfl <;> simp [hb1, hnc, c0, c, c'] at q ⊢ <;> exact fin3 _ q)
        | (have c' : ¬ ((kids.length : Nat) : Int) = 1 := by omega
           rcases k3 with rfl | rfl | rfl <;> simp [hb1, hnc, c0, c, c'] at q ⊢ <;> exact fin3 _ q)
  clear three
  have k3' : ¬ kind = 3 := fun e => k3 (.inl e)
  have k4' : ¬ kind = 4 := fun e => k3 (.inr (.inl e))
  have k5' : ¬ kind = 5 := fun e => k3 (.inr (.inr e))
  by_cases k6 : kind = 6
  · subst k6
    by_cases c : kids = []
    · subst c
      simp [hb0, htc, hb1, hnc] at hQ ⊢
      have hct := L.ctR
      rw [show A.slices_ContainsFunc_Rule = ctfF K.slices_IndexFunc_Rule from rfl] at hct
      have hix := L.ixR
      rw [show A.slices_IndexFunc_Rule = ixfF 2 true from rfl] at hix
      refine ecall (containsFunc encRl hct hix t.rules 0 _ [] _ (fun r => decide (r.name = name)) hl (fun r _ Q' h' gr' hQ' => ?_) ?_)
      · exact fine1_spec L r ((gr'.objs _ (by omega)).trans hb1) (by have := gr'.nobj; omega) hQ'
      have : (t.rules.any fun r => decide (r.name = name)) = decide (name ∈ rnames t) := by
        apply Bool.eq_iff_iff.2
        simp [rnames]
      simp [this]
      exact fin_wk gr (.same _) (by simp) hQ
    · simp [hb0, htc, hb1, hnc, c] at hQ ⊢
      exact fin_wk gr (.same _) (by simp) hQ
  by_cases k7 : kind = 7
  · subst k7
    by_cases c : kids = []
    · subst c
      simp [hb0, htc, hb1, hnc] at hQ ⊢
      refine ecall (containsB_spec L.ctB L.ixB name 0 39 (by omega) ?_)
      cases hb : name.any fun a => decide (39 = bt a) with
      | true =>
        rw [hb] at hQ
        simp at hQ ⊢
        exact fin_wk gr (.same _) (by simp) hQ
      | false =>
        rw [hb] at hQ
        simp [hb1, hnc] at hQ ⊢
        refine ⟨by omega, by omega, ecall (token_spec L.s L.token (39 :: (name ++ [39])) 2 (by simp; omega) ?_)⟩
        simp
        exact fin_wk gr (.same _) (by simp) hQ
    · simp [hb0, htc, hb1, hnc, c] at hQ ⊢
      exact fin_wk gr (.same _) (by simp) hQ
  have hf : Q (.bool false) h := by
    have e2 : (decide (3 ≤ kind) && decide (kind ≤ 5)) = false := by simp; omega
    simpa only [if_neg k7, if_neg k6, decide_eq_false k1, decide_eq_false k2, e2, Bool.false_and, Bool.false_or, Bool.or_false, Bool.and_false] using hQ
  simp [k1, k2, k3', k4', k5', k6, k7]
  exact fin_wk gr (.same _) (by simp) hf
end
theorem runN_allT {p : UInt8 → Bool} : ∀ {l r : Str}, l.all p = true → runN p (l ++ r) = l.length + runN p r
  | [], r, _ => by simp
  | a :: l, r, h => by
    simp only [List.all_cons, Bool.and_eq_true] at h
    have := runN_allT (p := p) (l := l) (r := r) h.2
    unfold runN at this ⊢
    simp only [List.cons_append, List.takeWhile_cons, h.1, if_true, List.length_cons, this]; omega
theorem runN_bad {p : UInt8 → Bool} : ∀ {l r : Str}, l.all p = false → ∃ h : runN p (l ++ r) < l.length, p (l[runN p (l ++ r)]) = false
  | [], r, h => by simp at h
  | a :: l, r, h => by
    cases ha : p a with
    | false => 
      have : runN p (a :: l ++ r) = 0 := by simp [runN, List.takeWhile_cons, ha]
      exact ⟨by rw [this]; simp, by simp only [this]; exact ha⟩
    | true =>
      simp only [List.all_cons, ha, Bool.true_and] at h
      obtain ⟨h1, h2⟩ := runN_bad (p := p) (l := l) (r := r) h
      have : runN p (a :: l ++ r) = runN p (l ++ r) + 1 := by simp [runN, List.takeWhile_cons, ha]
      exact ⟨by rw [this]; simpa using h1, by simp only [this, List.getElem_cons_succ]; exact h2⟩
theorem sfirst_quote (name : Str) (h39 : (name.any fun a => decide (39 = bt a)) = false) : sfirst (39 :: name ++ [39]) = if name.all quotedB && decide (0 < name.length) then (2, name, name.length + 2) else (0, [], 0) := by
  have hb : bt 39 = 39 := rfl
  have hl : letterI 39 = false := by decide
  have hd : (39 :: name ++ [39]).drop 1 = name ++ [39] := rfl
  have h0 : (39 :: name ++ [39] : Str).getD 0 0 = 39 := rfl
  have hlen : (39 :: name ++ [39] : Str).length = name.length + 2 := by simp
  unfold sfirst
  simp only [h0, hb, hd, hlen, hl]
  rw [if_neg (by omega), if_neg (by omega), if_neg (by simp), if_pos trivial]
  cases ha : name.all quotedB with
  | true =>
    have hr : runN quotedB (name ++ [39]) = name.length := by
      rw [runN_allT ha]; simp [runN, List.takeWhile_cons, show quotedB 39 = false from by decide]
    generalize runN quotedB (name ++ [39]) = k at *
    subst hr
    by_cases h1 : 0 < name.length
    · have hg : (39 :: name ++ [39] : Str).getD (name.length + 1) 0 = 39 := by simp [List.getD_eq_getElem?_getD]
      rw [if_neg (by rintro (h | h | h) <;> first | omega | exact h (by rw [hg]; rfl))]
      simp [h1]
    · rw [if_pos (Or.inl (show name.length = 0 by omega))]
      simp [h1]
  | false =>
    obtain ⟨h1, h2⟩ := runN_bad (r := [39]) ha
    generalize hk : runN quotedB (name ++ [39]) = k at *
    have hg : (39 :: name ++ [39] : Str).getD (k + 1) 0 = name[k] := by
      simp [List.getD_eq_getElem?_getD, List.getElem?_append_left h1, h1]
    have hne : bt name[k] ≠ 39 := fun e => by
      have := List.any_eq_false.1 h39 _ (List.getElem_mem h1)
      simp [e] at this
    rw [if_pos (.inr (.inr (by rw [hg]; exact hne)))]
    simp
theorem token_quote (name : Str) (h39 : (name.any fun a => decide (39 = bt a)) = false) : tokenT (39 :: name ++ [39]) 2 = quoteT name := by
  have hs := sfirst_quote name h39
  have hlen : (39 :: name ++ [39] : Str).length = name.length + 2 := by simp
  have hne : (39 :: name ++ [39] : Str) ≠ [] := by simp
  unfold tokenT scanR
  rw [hlen]
  by_cases hb : 4000 < name.length + 2
  · rw [if_pos hb]
    simp [quoteT]; omega
  rw [if_neg hb, scanL_step 0 hne, hs]
  cases ha : name.all quotedB && decide (0 < name.length) with
  | true =>
    simp only [if_true]
    have hd : (39 :: name ++ [39] : Str).drop (name.length + 2) = [] := by simp
    rw [if_neg (by omega), hd, scanL_nil]
    simp only [Bool.and_eq_true, decide_eq_true_eq] at ha
    simp [quoteT, ha.1]; omega
  | false =>
    simp only [Bool.false_eq_true, if_false, if_true]
    have : quoteT name = false := by unfold quoteT; rw [ha]; rfl
    rw [this]
theorem fineP_eq (t : Te) (n : Nd) : fineP t n = fineT t n := by
  unfold fineP
  split
  · rename_i h7
    unfold fineT
    rw [if_neg (by omega), if_pos h7]
    cases h39 : n.name.any fun a => decide (39 = bt a) with
    | false => rw [token_quote _ h39]; simp
    | true =>
      have : quoteT n.name = false := by
        unfold quoteT
        have : n.name.all quotedB = false := by
          obtain ⟨a, ha, hb⟩ := List.any_eq_true.1 h39
          apply Bool.eq_false_iff.2
          intro hall
          have := List.all_eq_true.1 hall a ha
          simp [quotedB, quotedI] at this
          simp at hb
          omega
        rw [this]; rfl
      rw [this]; simp
  · rfl
end Go.Proofs.Ytmobijebjkjnoaa.Al
namespace Go.Proofs.Ytmobijebjkjnoaa.Al
def A.word_Bytes : AFn := ⟨15, [(2, none), (3, none)], (.seq (.reg [⟨(some 2), none, .mv (.c (.sl 0 1 []))⟩, ⟨(some 3), none, .mv (.c (.int .i64 (0)))⟩])
  (.keep [0] (.seq (.seq (.reg [⟨(some 5), none, .mv (.t 0)⟩, ⟨(some 6), none, .call (.c (.fn K.word_Right [] [])) [(.t 5)]⟩, ⟨(some 7), none, .un .not (.t 6)⟩])
  (.keep [0, 7] (.cond (.t 7) (.seq (.reg [⟨(some 2), none, .mv (.c (.sl 0 1 []))⟩, ⟨(some 3), none, .mv (.c (.int .i64 (1)))⟩]) .ret) .skip)))
  (.keep [0] (.seq (.reg [⟨(some 8), none, .bld [(.sl 0 1 [])] []⟩, ⟨(some 9), none, .box (.t 8)⟩, ⟨(some 4), none, .mv (.t 9)⟩])
  (.keep [0, 4] (.seq (.reg [⟨(some 10), none, .mv (.t 4)⟩, ⟨(some 11), none, .mv (.t 0)⟩, ⟨(some 12), none, .call (.c (.fn K.wire_Writer_Nums [] [])) [(.t 10), (.t 11)]⟩])
  (.keep [4] (.seq (.reg [⟨(some 13), none, .mv (.t 4)⟩, ⟨(some 14), none, .call (.c (.fn K.wire_Writer_Bytes [] [])) [(.t 13)]⟩, ⟨(some 2), none, .mv (.t 14)⟩, ⟨(some 3), none, .mv (.c (.int .i64 (0)))⟩]) .ret)))))))))⟩
def A.word_Read : AFn := ⟨17, [(2, none), (3, none)], (.seq (.reg [⟨(some 2), none, .mv (.c (.sl 0 1 []))⟩, ⟨(some 3), none, .mv (.c (.int .i64 (0)))⟩])
  (.keep [0] (.seq (.reg [⟨(some 7), none, .mv (.t 0)⟩, ⟨(some 8), none, .call (.c (.fn K.wire_New [] [])) [(.t 7)]⟩, ⟨(some 4), none, .mv (.t 8)⟩])
  (.keep [4] (.seq (.reg [⟨(some 9), none, .mv (.t 4)⟩, ⟨(some 10), none, .call (.c (.fn K.wire_Reader_Nums [] [])) [(.t 9), (.c (.int .i64 (24))), (.c (.int .i64 (15)))]⟩, ⟨(some 5), none, .mv (.t 10)⟩])
  (.keep [4, 5] (.seq (.seq (.reg [⟨(some 11), none, .mv (.t 4)⟩, ⟨(some 12), none, .call (.c (.fn K.wire_Reader_End [] [])) [(.t 11)]⟩, ⟨(some 6), none, .mv (.t 12)⟩])
  (.keep [5, 6] (.seq (.reg [⟨(some 13), none, .mv (.t 6)⟩, ⟨(some 14), none, .bin .neq (.t 13) (.c (.int .i64 (0)))⟩])
  (.keep [5, 6, 14] (.cond (.t 14) (.seq (.reg [⟨(some 15), none, .mv (.t 6)⟩, ⟨(some 2), none, .mv (.c (.sl 0 1 []))⟩, ⟨(some 3), none, .mv (.t 15)⟩]) .ret) .skip)))))
  (.keep [5] (.seq (.reg [⟨(some 16), none, .mv (.t 5)⟩, ⟨(some 2), none, .mv (.t 16)⟩, ⟨(some 3), none, .mv (.c (.int .i64 (0)))⟩]) .ret)))))))))⟩
def A.word_Apply.L1 : AC := .post (.seq (.seq (.reg [⟨(some 29), none, .mv (.t 9)⟩, ⟨(some 30), none, .fa 0 (.t 11)⟩, ⟨(some 31), none, .load false 1 (.t 30)⟩, ⟨(some 32), none, .bin .lss (.t 29) (.t 31)⟩])
  (.keep [0, 6, 7, 8, 9, 11, 23, 24, 25, 32] (.cond (.t 32) .skip (.exit 3))))
  (.keep [0, 6, 7, 8, 9, 11, 23, 24, 25] (.seq (.block 4 (.reg [⟨(some 35), none, .mv (.t 8)⟩, ⟨(some 36), none, .mv (.t 0)⟩, ⟨(some 37), none, .mv (.t 9)⟩, ⟨(some 38), none, .ia 1 (.t 36) (.t 37)⟩, ⟨(some 39), none, .load false 1 (.t 38)⟩, ⟨(some 40), none, .call (.t 35) [(.t 39)]⟩]))
  (.keep [0, 6, 7, 8, 9, 11, 23, 24, 25] (.reg [⟨(some 33), none, .mv (.t 9)⟩, ⟨(some 34), none, .bin .add (.t 33) (.c (.int .i64 (1)))⟩, ⟨(some 9), none, .mv (.t 34)⟩]))))) [0, 6, 7, 8, 9, 11, 23, 24, 25]
def A.word_Apply.L0 : AC := .post (.seq (.reg [⟨(some 26), none, .bin .lss (.t 25) (.t 24)⟩])
  (.keep [0, 6, 7, 8, 9, 23, 24, 25, 26] (.seq (.cond (.t 26) .skip (.exit 1))
  (.keep [0, 6, 7, 8, 9, 23, 24, 25] (.seq (.block 2 (.seq (.reg [⟨(some 27), none, .ia 3 (.t 23) (.t 25)⟩, ⟨(some 28), none, .load true 3 (.t 27)⟩, ⟨(some 11), none, .alloc [(.int .i64 (0)), (.bool false), (.int .i64 (0))]⟩, ⟨none, none, .store 3 (.t 11) (.t 28)⟩])
  (.keep [0, 6, 7, 8, 9, 11, 23, 24, 25] (.seq (.block 3 (.loop A.word_Apply.L1))
  (.keep [0, 6, 7, 8, 9, 11, 23, 24, 25] (.seq (.reg [⟨(some 41), none, .fa 1 (.t 11)⟩, ⟨(some 42), none, .load false 1 (.t 41)⟩])
  (.keep [0, 6, 7, 8, 9, 11, 23, 24, 25, 42] (.cond (.t 42) (.reg [⟨(some 43), none, .mv (.t 9)⟩, ⟨(some 44), none, .bin .add (.t 43) (.c (.int .i64 (1)))⟩, ⟨(some 9), none, .mv (.t 44)⟩]) (.reg [⟨(some 45), none, .mv (.t 8)⟩, ⟨(some 46), none, .fa 2 (.t 11)⟩, ⟨(some 47), none, .load false 1 (.t 46)⟩, ⟨(some 48), none, .call (.t 45) [(.t 47)]⟩])))))))))
  (.keep [0, 6, 7, 8, 9, 23, 24, 25] (.reg [⟨(some 49), none, .bin .add (.t 25) (.c (.int .i64 (1)))⟩, ⟨(some 25), none, .mv (.t 49)⟩]))))))) [0, 6, 7, 8, 9, 23, 24, 25]
def A.word_Apply.L2 : AC := .post (.seq (.seq (.reg [⟨(some 50), none, .mv (.t 9)⟩, ⟨(some 51), none, .mv (.t 0)⟩, ⟨(some 52), none, .len false (.t 51)⟩, ⟨(some 53), none, .bin .lss (.t 50) (.t 52)⟩])
  (.keep [0, 6, 7, 8, 9, 53] (.cond (.t 53) .skip (.exit 5))))
  (.keep [0, 6, 7, 8, 9] (.seq (.block 6 (.reg [⟨(some 56), none, .mv (.t 8)⟩, ⟨(some 57), none, .mv (.t 0)⟩, ⟨(some 58), none, .mv (.t 9)⟩, ⟨(some 59), none, .ia 1 (.t 57) (.t 58)⟩, ⟨(some 60), none, .load false 1 (.t 59)⟩, ⟨(some 61), none, .call (.t 56) [(.t 60)]⟩]))
  (.keep [0, 6, 7, 8, 9] (.reg [⟨(some 54), none, .mv (.t 9)⟩, ⟨(some 55), none, .bin .add (.t 54) (.c (.int .i64 (1)))⟩, ⟨(some 9), none, .mv (.t 55)⟩]))))) [0, 6, 7, 8, 9]
def A.word_Apply : AFn := ⟨65, [(4, none), (5, none)], (.seq (.reg [⟨(some 4), none, .mv (.c (.sl 0 1 []))⟩, ⟨(some 5), none, .mv (.c (.int .i64 (0)))⟩])
  (.keep [0, 1] (.seq (.block 0 (.seq (.reg [⟨(some 13), none, .mv (.t 0)⟩, ⟨(some 14), none, .call (.c (.fn K.word_Right [] [])) [(.t 13)]⟩, ⟨(some 15), none, .un .not (.t 14)⟩, ⟨(some 12), none, .mv (.t 15)⟩])
  (.keep [0, 1, 12] (.cond (.t 12) (.seq (.reg [⟨(some 4), none, .mv (.c (.sl 0 1 []))⟩, ⟨(some 5), none, .mv (.c (.int .i64 (1)))⟩]) .ret) (.seq (.reg [⟨(some 17), none, .mv (.t 1)⟩, ⟨(some 18), none, .mv (.t 0)⟩, ⟨(some 19), none, .len false (.t 18)⟩, ⟨(some 20), none, .call (.c (.fn K.word_May [] [])) [(.t 17), (.t 19)]⟩, ⟨(some 21), none, .un .not (.t 20)⟩, ⟨(some 16), none, .mv (.t 21)⟩])
  (.keep [0, 1, 16] (.cond (.t 16) (.seq (.reg [⟨(some 4), none, .mv (.c (.sl 0 1 []))⟩, ⟨(some 5), none, .mv (.c (.int .i64 (2)))⟩]) .ret) .skip)))))))
  (.keep [0, 1] (.seq (.reg [⟨(some 6), none, .alloc [(.sl 0 1 [])]⟩])
  (.keep [0, 1, 6] (.seq (.reg [⟨(some 7), none, .alloc [(.int .i64 (0))]⟩, ⟨none, none, .store 1 (.t 7) (.c (.int .i64 (0)))⟩])
  (.keep [0, 1, 6, 7] (.seq (.reg [⟨(some 22), none, .mkfn K.word_Apply_1 [] [(.t 7), (.t 6)]⟩, ⟨(some 8), none, .mv (.t 22)⟩])
  (.keep [0, 1, 6, 7, 8] (.seq (.reg [⟨(some 9), none, .mv (.c (.int .i64 (0)))⟩])
  (.keep [0, 1, 6, 7, 8, 9] (.seq (.seq (.reg [⟨(some 23), none, .mv (.t 1)⟩, ⟨(some 24), none, .len false (.t 23)⟩, ⟨(some 25), none, .mv (.c (.int .i64 (0)))⟩])
  (.keep [0, 6, 7, 8, 9, 23, 24, 25] (.block 1 (.loop A.word_Apply.L0))))
  (.keep [0, 6, 7, 8, 9] (.seq (.block 5 (.loop A.word_Apply.L2))
  (.keep [6, 7] (.seq (.seq (.reg [⟨(some 62), none, .load false 1 (.t 7)⟩, ⟨(some 63), none, .bin .gtr (.t 62) (.c (.int .i64 (24)))⟩])
  (.keep [6, 63] (.cond (.t 63) (.seq (.reg [⟨(some 4), none, .mv (.c (.sl 0 1 []))⟩, ⟨(some 5), none, .mv (.c (.int .i64 (5)))⟩]) .ret) .skip)))
  (.keep [6] (.seq (.reg [⟨(some 64), none, .load false 1 (.t 6)⟩, ⟨(some 4), none, .mv (.t 64)⟩, ⟨(some 5), none, .mv (.c (.int .i64 (0)))⟩]) .ret)))))))))))))))))))⟩
def A.word_Right : AFn := ⟨10, [(2, none)], (.seq (.reg [⟨(some 2), none, .mv (.c (.bool false))⟩])
  (.keep [0] (.seq (.reg [⟨(some 3), none, .mv (.t 0)⟩, ⟨(some 4), none, .len false (.t 3)⟩, ⟨(some 5), none, .bin .leq (.t 4) (.c (.int .i64 (24)))⟩, ⟨(some 6), none, .mv (.t 5)⟩, ⟨(some 7), (some (6, true)), .mv (.t 0)⟩, ⟨(some 8), (some (6, true)), .call (.c (.fn K.word_below [] [])) [(.t 7), (.c (.int .i64 (16)))]⟩, ⟨(some 9), none, .pick (.t 6) (.t 8) (.c (.bool false))⟩, ⟨(some 2), none, .mv (.t 9)⟩]) .ret)))⟩
def A.word_Fits : AFn := ⟨13, [(4, none)], (.seq (.reg [⟨(some 2), none, .box (.t 0)⟩, ⟨(some 4), none, .mv (.c (.bool false))⟩])
  (.keep [1, 2] (.seq (.reg [⟨(some 5), none, .mv (.t 1)⟩, ⟨(some 6), none, .call (.c (.fn K.word_Right [] [])) [(.t 5)]⟩, ⟨(some 7), none, .mv (.t 6)⟩, ⟨(some 8), (some (7, true)), .mv (.t 1)⟩, ⟨(some 9), (some (7, true)), .fa 0 (.t 2)⟩, ⟨(some 10), (some (7, true)), .load false 1 (.t 9)⟩, ⟨(some 11), (some (7, true)), .call (.c (.fn K.word_below [] [])) [(.t 8), (.t 10)]⟩, ⟨(some 12), none, .pick (.t 7) (.t 11) (.c (.bool false))⟩, ⟨(some 4), none, .mv (.t 12)⟩]) .ret)))⟩
def A.word_May.L0 : AC := .post (.seq (.reg [⟨(some 12), none, .bin .lss (.t 11) (.t 10)⟩])
  (.keep [1, 5, 6, 9, 10, 11, 12] (.seq (.cond (.t 12) .skip (.exit 0))
  (.keep [1, 5, 6, 9, 10, 11] (.seq (.block 1 (.seq (.reg [⟨(some 13), none, .ia 3 (.t 9) (.t 11)⟩, ⟨(some 14), none, .load true 3 (.t 13)⟩, ⟨(some 8), none, .alloc [(.int .i64 (0)), (.bool false), (.int .i64 (0))]⟩, ⟨none, none, .store 3 (.t 8) (.t 14)⟩])
  (.keep [1, 5, 6, 8, 9, 10, 11] (.seq (.seq (.reg [⟨(some 15), none, .load true 3 (.t 8)⟩, ⟨(some 16), none, .mv (.t 5)⟩, ⟨(some 17), none, .mv (.t 6)⟩, ⟨(some 18), none, .mv (.t 1)⟩, ⟨(some 19), none, .call (.c (.fn K.word_fine [] [])) [(.t 15), (.t 16), (.t 17), (.t 18)]⟩, ⟨(some 20), none, .un .not (.t 19)⟩])
  (.keep [1, 8, 9, 10, 11, 20] (.cond (.t 20) (.seq (.reg [⟨(some 4), none, .mv (.c (.bool false))⟩]) .ret) .skip)))
  (.keep [1, 8, 9, 10, 11] (.draw [(.pl, ⟨(some 21), none, .fa 0 (.t 8)⟩), (.pl, ⟨(some 22), none, .load false 1 (.t 21)⟩), (.pl, ⟨(some 23), none, .fa 1 (.t 8)⟩), (.pl, ⟨(some 24), none, .load false 1 (.t 23)⟩), (.pl, ⟨(some 5), none, .mv (.t 22)⟩), (.pl, ⟨(some 6), none, .mv (.t 24)⟩)]))))))
  (.keep [1, 5, 6, 9, 10, 11] (.reg [⟨(some 25), none, .bin .add (.t 11) (.c (.int .i64 (1)))⟩, ⟨(some 11), none, .mv (.t 25)⟩]))))))) [1, 5, 6, 9, 10, 11]
def A.word_May : AFn := ⟨26, [(4, none)], (.seq (.reg [⟨(some 4), none, .mv (.c (.bool false))⟩])
  (.keep [0, 1] (.seq (.reg [⟨(some 5), none, .mv (.c (.int .i64 (0)))⟩, ⟨(some 6), none, .mv (.c (.bool false))⟩])
  (.keep [0, 1, 5, 6] (.seq (.seq (.reg [⟨(some 9), none, .mv (.t 0)⟩, ⟨(some 10), none, .len false (.t 9)⟩, ⟨(some 11), none, .mv (.c (.int .i64 (0)))⟩])
  (.keep [1, 5, 6, 9, 10, 11] (.block 0 (.loop A.word_May.L0))))
  (.keep [] (.seq (.reg [⟨(some 4), none, .mv (.c (.bool true))⟩]) .ret)))))))⟩
def A.word_Apply_1 : AFn := ⟨12, [], (.seq (.reg [⟨(some 4), none, .load false 1 (.t 1)⟩, ⟨(some 5), none, .bin .add (.t 4) (.c (.int .i64 (1)))⟩, ⟨none, none, .store 1 (.t 1) (.t 5)⟩])
  (.keep [0, 1, 2] (.seq (.reg [⟨(some 6), none, .load false 1 (.t 1)⟩, ⟨(some 7), none, .bin .leq (.t 6) (.c (.int .i64 (24)))⟩])
  (.keep [0, 2, 7] (.cond (.t 7) (.reg [⟨(some 8), none, .load false 1 (.t 2)⟩, ⟨(some 9), none, .mv (.t 0)⟩, ⟨(some 10), none, .bsl 1 false [(.int .i64 (0))] 1 [(0, (.t 9))]⟩, ⟨(some 11), none, .app 1 8 (.t 8) (.t 10)⟩, ⟨none, none, .store 1 (.t 2) (.t 11)⟩]) .skip)))))⟩
def A.word_below.L0 : AC := .post (.seq (.reg [⟨(some 10), none, .bin .lss (.t 9) (.t 8)⟩])
  (.keep [1, 7, 8, 9, 10] (.seq (.cond (.t 10) .skip (.exit 0))
  (.keep [1, 7, 8, 9] (.seq (.block 1 (.seq (.reg [⟨(some 11), none, .ia 1 (.t 7) (.t 9)⟩, ⟨(some 12), none, .load false 1 (.t 11)⟩, ⟨(some 6), none, .mv (.t 12)⟩])
  (.keep [1, 6, 7, 8, 9] (.seq (.reg [⟨(some 13), none, .mv (.t 6)⟩, ⟨(some 14), none, .bin .lss (.t 13) (.c (.int .i64 (0)))⟩, ⟨(some 15), none, .mv (.t 14)⟩, ⟨(some 16), (some (15, false)), .mv (.t 6)⟩, ⟨(some 17), (some (15, false)), .mv (.t 1)⟩, ⟨(some 18), (some (15, false)), .bin .geq (.t 16) (.t 17)⟩, ⟨(some 19), none, .pick (.t 15) (.c (.bool true)) (.t 18)⟩])
  (.keep [1, 7, 8, 9, 19] (.cond (.t 19) (.seq (.reg [⟨(some 4), none, .mv (.c (.bool false))⟩]) .ret) .skip))))))
  (.keep [1, 7, 8, 9] (.reg [⟨(some 20), none, .bin .add (.t 9) (.c (.int .i64 (1)))⟩, ⟨(some 9), none, .mv (.t 20)⟩]))))))) [1, 7, 8, 9]
def A.word_below : AFn := ⟨21, [(4, none)], (.seq (.reg [⟨(some 4), none, .mv (.c (.bool false))⟩])
  (.keep [0, 1] (.seq (.seq (.reg [⟨(some 7), none, .mv (.t 0)⟩, ⟨(some 8), none, .len false (.t 7)⟩, ⟨(some 9), none, .mv (.c (.int .i64 (0)))⟩])
  (.keep [1, 7, 8, 9] (.block 0 (.loop A.word_below.L0))))
  (.keep [] (.seq (.reg [⟨(some 4), none, .mv (.c (.bool true))⟩]) .ret)))))⟩
def A.word_fine : AFn := ⟨48, [(8, none)], (.seq (.reg [⟨(some 4), none, .box (.t 0)⟩, ⟨(some 8), none, .mv (.c (.bool false))⟩])
  (.keep [1, 2, 3, 4] (.seq (.block 0 (.seq (.seq (.reg [⟨(some 10), none, .fa 0 (.t 4)⟩, ⟨(some 11), none, .load false 1 (.t 10)⟩, ⟨(some 12), none, .bin .lss (.t 11) (.c (.int .i64 (0)))⟩, ⟨(some 9), none, .mv (.t 12)⟩])
  (.keep [1, 2, 3, 4, 9] (.cond (.t 9) .skip (.seq (.reg [⟨(some 13), none, .fa 0 (.t 4)⟩, ⟨(some 14), none, .load false 1 (.t 13)⟩, ⟨(some 15), none, .mv (.t 3)⟩, ⟨(some 16), none, .bin .gtr (.t 14) (.t 15)⟩, ⟨(some 9), none, .mv (.t 16)⟩])
  (.keep [1, 2, 3, 4, 9] (.cond (.t 9) .skip (.seq (.reg [⟨(some 17), none, .fa 0 (.t 4)⟩, ⟨(some 18), none, .load false 1 (.t 17)⟩, ⟨(some 19), none, .mv (.t 1)⟩, ⟨(some 20), none, .bin .lss (.t 18) (.t 19)⟩, ⟨(some 9), none, .mv (.t 20)⟩])
  (.keep [1, 2, 3, 4, 9] (.cond (.t 9) .skip (.reg [⟨(some 21), none, .mv (.t 2)⟩, ⟨(some 22), none, .mv (.t 21)⟩, ⟨(some 23), (some (22, true)), .fa 0 (.t 4)⟩, ⟨(some 24), (some (22, true)), .load false 1 (.t 23)⟩, ⟨(some 25), (some (22, true)), .mv (.t 1)⟩, ⟨(some 26), (some (22, true)), .bin .eql (.t 24) (.t 25)⟩, ⟨(some 27), none, .pick (.t 22) (.t 26) (.c (.bool false))⟩, ⟨(some 9), none, .mv (.t 27)⟩]))))))))))
  (.keep [3, 4, 9] (.cond (.t 9) (.seq (.reg [⟨(some 8), none, .mv (.c (.bool false))⟩]) .ret) (.seq (.reg [⟨(some 29), none, .fa 1 (.t 4)⟩, ⟨(some 30), none, .load false 1 (.t 29)⟩, ⟨(some 28), none, .mv (.t 30)⟩])
  (.keep [3, 4, 28] (.cond (.t 28) (.seq (.reg [⟨(some 31), none, .fa 0 (.t 4)⟩, ⟨(some 32), none, .load false 1 (.t 31)⟩, ⟨(some 33), none, .mv (.t 3)⟩, ⟨(some 34), none, .bin .lss (.t 32) (.t 33)⟩, ⟨(some 35), none, .mv (.t 34)⟩, ⟨(some 36), (some (35, true)), .fa 2 (.t 4)⟩, ⟨(some 37), (some (35, true)), .load false 1 (.t 36)⟩, ⟨(some 38), (some (35, true)), .bin .eql (.t 37) (.c (.int .i64 (0)))⟩, ⟨(some 39), none, .pick (.t 35) (.t 38) (.c (.bool false))⟩, ⟨(some 8), none, .mv (.t 39)⟩]) .ret) .skip)))))))
  (.keep [4] (.seq (.reg [⟨(some 40), none, .fa 2 (.t 4)⟩, ⟨(some 41), none, .load false 1 (.t 40)⟩, ⟨(some 42), none, .bin .geq (.t 41) (.c (.int .i64 (0)))⟩, ⟨(some 43), none, .mv (.t 42)⟩, ⟨(some 44), (some (43, true)), .fa 2 (.t 4)⟩, ⟨(some 45), (some (43, true)), .load false 1 (.t 44)⟩, ⟨(some 46), (some (43, true)), .bin .lss (.t 45) (.c (.int .i64 (16)))⟩, ⟨(some 47), none, .pick (.t 43) (.t 46) (.c (.bool false))⟩, ⟨(some 8), none, .mv (.t 47)⟩]) .ret)))))⟩
end Go.Proofs.Ytmobijebjkjnoaa.Al
namespace Go.Proofs.Ytmobijebjkjnoaa.Al
def A.probatelaw04_WordTurns.L0 : AC := .post (.seq (.reg [⟨(some 43), none, .bin .lss (.t 42) (.t 41)⟩])
  (.keep [0, 1, 2, 7, 8, 9, 41, 42, 43] (.seq (.cond (.t 43) .skip (.exit 0))
  (.keep [0, 1, 2, 7, 8, 9, 41, 42] (.seq (.block 1 (.seq (.reg [⟨(some 44), none, .mv (.t 42)⟩, ⟨(some 10), none, .mv (.t 44)⟩])
  (.keep [0, 1, 2, 7, 8, 9, 10, 41, 42] (.reg [⟨(some 45), none, .mv (.t 9)⟩, ⟨(some 46), none, .mv (.t 10)⟩, ⟨(some 47), none, .bld [(.int .i64 (0)), (.bool false), (.int .i64 (0))] [(0, 1, (.t 46)), (1, 1, (.c (.bool true)))]⟩, ⟨(some 48), none, .bsl 3 true [(.int .i64 (0)), (.bool false), (.int .i64 (0))] 1 [(0, (.t 47))]⟩, ⟨(some 49), none, .app 3 24 (.t 45) (.t 48)⟩, ⟨(some 9), none, .mv (.t 49)⟩]))))
  (.keep [0, 1, 2, 7, 8, 9, 41, 42] (.reg [⟨(some 50), none, .bin .add (.t 42) (.c (.int .i64 (1)))⟩, ⟨(some 42), none, .mv (.t 50)⟩]))))))) [0, 1, 2, 7, 8, 9, 41, 42]
def A.probatelaw04_WordTurns.L1 : AC := .post (.seq (.reg [⟨(some 54), none, .bin .lss (.t 53) (.t 52)⟩])
  (.keep [0, 1, 2, 7, 8, 9, 51, 52, 53, 54] (.seq (.cond (.t 54) .skip (.exit 2))
  (.keep [0, 1, 2, 7, 8, 9, 51, 52, 53] (.seq (.block 3 (.seq (.reg [⟨(some 55), none, .ia 1 (.t 51) (.t 53)⟩, ⟨(some 56), none, .load false 1 (.t 55)⟩, ⟨(some 12), none, .mv (.t 56)⟩])
  (.keep [0, 1, 2, 7, 8, 9, 12, 51, 52, 53] (.reg [⟨(some 57), none, .mv (.t 9)⟩, ⟨(some 58), none, .mv (.t 0)⟩, ⟨(some 59), none, .len false (.t 58)⟩, ⟨(some 60), none, .mv (.t 12)⟩, ⟨(some 61), none, .bld [(.int .i64 (0)), (.bool false), (.int .i64 (0))] [(0, 1, (.t 59)), (2, 1, (.t 60))]⟩, ⟨(some 62), none, .bsl 3 true [(.int .i64 (0)), (.bool false), (.int .i64 (0))] 1 [(0, (.t 61))]⟩, ⟨(some 63), none, .app 3 24 (.t 57) (.t 62)⟩, ⟨(some 9), none, .mv (.t 63)⟩]))))
  (.keep [0, 1, 2, 7, 8, 9, 51, 52, 53] (.reg [⟨(some 64), none, .bin .add (.t 53) (.c (.int .i64 (1)))⟩, ⟨(some 53), none, .mv (.t 64)⟩]))))))) [0, 1, 2, 7, 8, 9, 51, 52, 53]
def A.probatelaw04_WordTurns.L2 : AC := .post (.seq (.reg [⟨(some 101), none, .bin .lss (.t 100) (.t 99)⟩])
  (.keep [0, 2, 15, 98, 99, 100, 101] (.seq (.cond (.t 101) .skip (.exit 4))
  (.keep [0, 2, 15, 98, 99, 100] (.seq (.block 5 (.seq (.reg [⟨(some 102), none, .ia 3 (.t 98) (.t 100)⟩, ⟨(some 103), none, .load true 3 (.t 102)⟩, ⟨(some 17), none, .alloc [(.int .i64 (0)), (.bool false), (.int .i64 (0))]⟩, ⟨none, none, .store 3 (.t 17) (.t 103)⟩])
  (.keep [0, 2, 15, 17, 98, 99, 100] (.seq (.reg [⟨(some 104), none, .fa 1 (.t 17)⟩, ⟨(some 105), none, .load false 1 (.t 104)⟩])
  (.keep [0, 2, 15, 98, 99, 100, 105] (.cond (.t 105) (.reg [⟨(some 106), none, .mv (.t 15)⟩, ⟨(some 107), none, .bin .sub (.t 106) (.c (.int .i64 (1)))⟩, ⟨(some 15), none, .mv (.t 107)⟩]) (.reg [⟨(some 108), none, .mv (.t 15)⟩, ⟨(some 109), none, .bin .add (.t 108) (.c (.int .i64 (1)))⟩, ⟨(some 15), none, .mv (.t 109)⟩])))))))
  (.keep [0, 2, 15, 98, 99, 100] (.reg [⟨(some 110), none, .bin .add (.t 100) (.c (.int .i64 (1)))⟩, ⟨(some 100), none, .mv (.t 110)⟩]))))))) [0, 2, 15, 98, 99, 100]
def A.probatelaw04_WordTurns : AFn := ⟨152, [(6, none)], (.seq (.reg [⟨(some 6), none, .mv (.c (.bool false))⟩])
  (.keep [0, 1, 2] (.seq (.seq (.reg [⟨(some 20), none, .call (.c (.fn K.probatelaw04_awake [] [])) []⟩, ⟨(some 21), none, .un .not (.t 20)⟩])
  (.keep [0, 1, 2, 21] (.cond (.t 21) (.seq (.reg [⟨(some 6), none, .mv (.c (.bool false))⟩]) .ret) .skip)))
  (.keep [0, 1, 2] (.seq (.seq (.reg [⟨(some 22), none, .mv (.t 0)⟩, ⟨(some 23), none, .call (.c (.fn K.word_Right [] [])) [(.t 22)]⟩, ⟨(some 24), none, .un .not (.t 23)⟩, ⟨(some 25), none, .mv (.t 24)⟩, ⟨(some 26), (some (25, false)), .mv (.t 1)⟩, ⟨(some 27), (some (25, false)), .call (.c (.fn K.word_Right [] [])) [(.t 26)]⟩, ⟨(some 28), (some (25, false)), .un .not (.t 27)⟩, ⟨(some 29), none, .pick (.t 25) (.c (.bool true)) (.t 28)⟩, ⟨(some 30), none, .mv (.t 29)⟩, ⟨(some 31), (some (30, false)), .mv (.t 2)⟩, ⟨(some 32), (some (30, false)), .len false (.t 31)⟩, ⟨(some 33), (some (30, false)), .bin .gtr (.t 32) (.c (.int .i64 (60)))⟩, ⟨(some 34), none, .pick (.t 30) (.c (.bool true)) (.t 33)⟩])
  (.keep [0, 1, 2, 34] (.cond (.t 34) (.seq (.reg [⟨(some 6), none, .mv (.c (.bool true))⟩]) .ret) .skip)))
  (.keep [0, 1, 2] (.seq (.reg [⟨(some 36), none, .mv (.t 0)⟩, ⟨(some 37), none, .call (.c (.fn K.word_Apply [] [])) [(.t 36), (.c (.sl 0 1 []))]⟩, ⟨(some 35), none, .mv (.t 37)⟩, ⟨(some 38), none, .ext (.t 35) 0⟩, ⟨(some 39), none, .ext (.t 35) 1⟩, ⟨(some 7), none, .mv (.t 38)⟩, ⟨(some 8), none, .mv (.t 39)⟩])
  (.keep [0, 1, 2, 7, 8] (.seq (.reg [⟨(some 9), none, .mv (.c (.sl 0 1 []))⟩])
  (.keep [0, 1, 2, 7, 8, 9] (.seq (.seq (.reg [⟨(some 40), none, .mv (.t 0)⟩, ⟨(some 41), none, .len false (.t 40)⟩, ⟨(some 42), none, .mv (.c (.int .i64 (0)))⟩])
  (.keep [0, 1, 2, 7, 8, 9, 41, 42] (.block 0 (.loop A.probatelaw04_WordTurns.L0))))
  (.keep [0, 1, 2, 7, 8, 9] (.seq (.seq (.reg [⟨(some 51), none, .mv (.t 1)⟩, ⟨(some 52), none, .len false (.t 51)⟩, ⟨(some 53), none, .mv (.c (.int .i64 (0)))⟩])
  (.keep [0, 1, 2, 7, 8, 9, 51, 52, 53] (.block 2 (.loop A.probatelaw04_WordTurns.L1))))
  (.keep [0, 1, 2, 7, 8, 9] (.seq (.reg [⟨(some 66), none, .mv (.t 0)⟩, ⟨(some 67), none, .mv (.t 9)⟩, ⟨(some 68), none, .call (.c (.fn K.word_Apply [] [])) [(.t 66), (.t 67)]⟩, ⟨(some 65), none, .mv (.t 68)⟩, ⟨(some 69), none, .ext (.t 65) 0⟩, ⟨(some 70), none, .ext (.t 65) 1⟩, ⟨(some 13), none, .mv (.t 69)⟩, ⟨(some 14), none, .mv (.t 70)⟩])
  (.keep [0, 1, 2, 7, 8, 9, 13, 14] (.seq (.seq (.reg [⟨(some 71), none, .mv (.t 8)⟩, ⟨(some 72), none, .bin .neq (.t 71) (.c (.int .i64 (0)))⟩, ⟨(some 73), none, .mv (.t 72)⟩, ⟨(some 74), (some (73, false)), .mv (.t 7)⟩, ⟨(some 75), (some (73, false)), .mv (.t 0)⟩, ⟨(some 76), (some (73, false)), .call (.c (.fn K.probateref02_Same [] [])) [(.t 74), (.t 75)]⟩, ⟨(some 77), (some (73, false)), .un .not (.t 76)⟩, ⟨(some 78), none, .pick (.t 73) (.c (.bool true)) (.t 77)⟩, ⟨(some 79), none, .mv (.t 78)⟩, ⟨(some 80), (some (79, false)), .mv (.t 14)⟩, ⟨(some 81), (some (79, false)), .bin .neq (.t 80) (.c (.int .i64 (0)))⟩, ⟨(some 82), none, .pick (.t 79) (.c (.bool true)) (.t 81)⟩, ⟨(some 83), none, .mv (.t 82)⟩, ⟨(some 84), (some (83, false)), .mv (.t 13)⟩, ⟨(some 85), (some (83, false)), .mv (.t 1)⟩, ⟨(some 86), (some (83, false)), .call (.c (.fn K.probateref02_Same [] [])) [(.t 84), (.t 85)]⟩, ⟨(some 87), (some (83, false)), .un .not (.t 86)⟩, ⟨(some 88), none, .pick (.t 83) (.c (.bool true)) (.t 87)⟩, ⟨(some 89), none, .mv (.t 88)⟩, ⟨(some 90), (some (89, false)), .mv (.t 9)⟩, ⟨(some 91), (some (89, false)), .mv (.t 0)⟩, ⟨(some 92), (some (89, false)), .len false (.t 91)⟩, ⟨(some 93), (some (89, false)), .call (.c (.fn K.word_May [] [])) [(.t 90), (.t 92)]⟩, ⟨(some 94), (some (89, false)), .un .not (.t 93)⟩, ⟨(some 95), none, .pick (.t 89) (.c (.bool true)) (.t 94)⟩])
  (.keep [0, 2, 95] (.cond (.t 95) (.seq (.reg [⟨(some 6), none, .mv (.c (.bool false))⟩]) .ret) .skip)))
  (.keep [0, 2] (.seq (.reg [⟨(some 96), none, .mv (.t 0)⟩, ⟨(some 97), none, .len false (.t 96)⟩, ⟨(some 15), none, .mv (.t 97)⟩])
  (.keep [0, 2, 15] (.seq (.seq (.reg [⟨(some 98), none, .mv (.t 2)⟩, ⟨(some 99), none, .len false (.t 98)⟩, ⟨(some 100), none, .mv (.c (.int .i64 (0)))⟩])
  (.keep [0, 2, 15, 98, 99, 100] (.block 4 (.loop A.probatelaw04_WordTurns.L2))))
  (.keep [0, 2, 15] (.seq (.reg [⟨(some 112), none, .mv (.t 0)⟩, ⟨(some 113), none, .mv (.t 2)⟩, ⟨(some 114), none, .call (.c (.fn K.word_Apply [] [])) [(.t 112), (.t 113)]⟩, ⟨(some 111), none, .mv (.t 114)⟩, ⟨(some 115), none, .ext (.t 111) 0⟩, ⟨(some 116), none, .ext (.t 111) 1⟩, ⟨(some 18), none, .mv (.t 115)⟩, ⟨(some 19), none, .mv (.t 116)⟩])
  (.keep [0, 2, 15, 18, 19] (.seq (.block 6 (.seq (.reg [⟨(some 118), none, .mv (.t 2)⟩, ⟨(some 119), none, .mv (.t 0)⟩, ⟨(some 120), none, .len false (.t 119)⟩, ⟨(some 121), none, .call (.c (.fn K.word_May [] [])) [(.t 118), (.t 120)]⟩, ⟨(some 122), none, .un .not (.t 121)⟩, ⟨(some 117), none, .mv (.t 122)⟩])
  (.keep [15, 18, 19, 117] (.cond (.t 117) (.seq (.reg [⟨(some 123), none, .mv (.t 19)⟩, ⟨(some 124), none, .bin .eql (.t 123) (.c (.int .i64 (2)))⟩, ⟨(some 125), none, .mv (.t 124)⟩, ⟨(some 126), (some (125, true)), .mv (.t 18)⟩, ⟨(some 127), (some (125, true)), .len false (.t 126)⟩, ⟨(some 128), (some (125, true)), .bin .eql (.t 127) (.c (.int .i64 (0)))⟩, ⟨(some 129), none, .pick (.t 125) (.t 128) (.c (.bool false))⟩, ⟨(some 6), none, .mv (.t 129)⟩]) .ret) (.seq (.reg [⟨(some 131), none, .mv (.t 15)⟩, ⟨(some 132), none, .bin .gtr (.t 131) (.c (.int .i64 (24)))⟩, ⟨(some 130), none, .mv (.t 132)⟩])
  (.keep [15, 18, 19, 130] (.cond (.t 130) (.seq (.reg [⟨(some 133), none, .mv (.t 19)⟩, ⟨(some 134), none, .bin .eql (.t 133) (.c (.int .i64 (5)))⟩, ⟨(some 135), none, .mv (.t 134)⟩, ⟨(some 136), (some (135, true)), .mv (.t 18)⟩, ⟨(some 137), (some (135, true)), .len false (.t 136)⟩, ⟨(some 138), (some (135, true)), .bin .eql (.t 137) (.c (.int .i64 (0)))⟩, ⟨(some 139), none, .pick (.t 135) (.t 138) (.c (.bool false))⟩, ⟨(some 6), none, .mv (.t 139)⟩]) .ret) .skip)))))))
  (.keep [15, 18, 19] (.seq (.reg [⟨(some 140), none, .mv (.t 19)⟩, ⟨(some 141), none, .bin .eql (.t 140) (.c (.int .i64 (0)))⟩, ⟨(some 142), none, .mv (.t 141)⟩, ⟨(some 143), (some (142, true)), .mv (.t 18)⟩, ⟨(some 144), (some (142, true)), .len false (.t 143)⟩, ⟨(some 145), (some (142, true)), .mv (.t 15)⟩, ⟨(some 146), (some (142, true)), .bin .eql (.t 144) (.t 145)⟩, ⟨(some 147), none, .pick (.t 142) (.t 146) (.c (.bool false))⟩, ⟨(some 148), none, .mv (.t 147)⟩, ⟨(some 149), (some (148, true)), .mv (.t 18)⟩, ⟨(some 150), (some (148, true)), .call (.c (.fn K.word_Right [] [])) [(.t 149)]⟩, ⟨(some 151), none, .pick (.t 148) (.t 150) (.c (.bool false))⟩, ⟨(some 6), none, .mv (.t 151)⟩]) .ret)))))))))))))))))))))))))))⟩
def A.probatelaw04_awake : AFn := ⟨86, [(0, none)], (.seq (.reg [⟨(some 0), none, .mv (.c (.bool false))⟩])
  (.keep [] (.seq (.reg [⟨(some 10), none, .bsl 1 false [(.int .i64 (0))] 3 [(0, (.c (.int .i64 (5)))), (1, (.c (.int .i64 (6)))), (2, (.c (.int .i64 (7))))]⟩, ⟨(some 11), none, .bld [(.int .i64 (0)), (.bool false), (.int .i64 (0))] [(2, 1, (.c (.int .i64 (1))))]⟩, ⟨(some 12), none, .bld [(.int .i64 (0)), (.bool false), (.int .i64 (0))] [(0, 1, (.c (.int .i64 (1)))), (1, 1, (.c (.bool true)))]⟩, ⟨(some 13), none, .bld [(.int .i64 (0)), (.bool false), (.int .i64 (0))] [(0, 1, (.c (.int .i64 (3)))), (2, 1, (.c (.int .i64 (2))))]⟩, ⟨(some 14), none, .bsl 3 true [(.int .i64 (0)), (.bool false), (.int .i64 (0))] 3 [(0, (.t 11)), (1, (.t 12)), (2, (.t 13))]⟩, ⟨(some 15), none, .call (.c (.fn K.word_Apply [] [])) [(.t 10), (.t 14)]⟩, ⟨(some 9), none, .mv (.t 15)⟩, ⟨(some 16), none, .ext (.t 9) 0⟩, ⟨(some 17), none, .ext (.t 9) 1⟩, ⟨(some 1), none, .mv (.t 16)⟩, ⟨(some 2), none, .mv (.t 17)⟩])
  (.keep [1, 2] (.seq (.reg [⟨(some 19), none, .bsl 1 false [(.int .i64 (0))] 2 [(0, (.c (.int .i64 (5)))), (1, (.c (.int .i64 (6))))]⟩, ⟨(some 20), none, .call (.c (.fn K.word_Bytes [] [])) [(.t 19)]⟩, ⟨(some 18), none, .mv (.t 20)⟩, ⟨(some 21), none, .ext (.t 18) 0⟩, ⟨(some 22), none, .ext (.t 18) 1⟩, ⟨(some 3), none, .mv (.t 21)⟩, ⟨(some 4), none, .mv (.t 22)⟩])
  (.keep [1, 2, 3, 4] (.seq (.reg [⟨(some 24), none, .mv (.t 3)⟩, ⟨(some 25), none, .call (.c (.fn K.word_Read [] [])) [(.t 24)]⟩, ⟨(some 23), none, .mv (.t 25)⟩, ⟨(some 26), none, .ext (.t 23) 0⟩, ⟨(some 27), none, .ext (.t 23) 1⟩, ⟨(some 5), none, .mv (.t 26)⟩, ⟨(some 6), none, .mv (.t 27)⟩])
  (.keep [1, 2, 3, 4, 5, 6] (.seq (.reg [⟨(some 29), none, .bld [(.int .i64 (0)), (.bool false), (.int .i64 (0))] [(1, 1, (.c (.bool true)))]⟩, ⟨(some 30), none, .bsl 3 true [(.int .i64 (0)), (.bool false), (.int .i64 (0))] 1 [(0, (.t 29))]⟩, ⟨(some 31), none, .call (.c (.fn K.word_Apply [] [])) [(.c (.sl 0 1 [])), (.t 30)]⟩, ⟨(some 28), none, .mv (.t 31)⟩, ⟨(some 32), none, .ext (.t 28) 0⟩, ⟨(some 33), none, .ext (.t 28) 1⟩, ⟨(some 7), none, .mv (.t 32)⟩, ⟨(some 8), none, .mv (.t 33)⟩])
  (.keep [1, 2, 3, 4, 5, 6, 8] (.seq (.reg [⟨(some 34), none, .mv (.t 1)⟩, ⟨(some 35), none, .bsl 1 false [(.int .i64 (0))] 4 [(0, (.c (.int .i64 (1)))), (1, (.c (.int .i64 (5)))), (2, (.c (.int .i64 (7)))), (3, (.c (.int .i64 (2))))]⟩, ⟨(some 36), none, .call (.c (.fn K.probateref02_Same [] [])) [(.t 34), (.t 35)]⟩, ⟨(some 37), none, .mv (.t 36)⟩, ⟨(some 38), (some (37, true)), .mv (.t 2)⟩, ⟨(some 39), (some (37, true)), .bin .eql (.t 38) (.c (.int .i64 (0)))⟩, ⟨(some 40), none, .pick (.t 37) (.t 39) (.c (.bool false))⟩, ⟨(some 41), none, .mv (.t 40)⟩, ⟨(some 42), (some (41, true)), .mv (.t 3)⟩, ⟨(some 43), (some (41, true)), .bsl 1 false [(.int .u8 (0))] 3 [(0, (.c (.int .u8 (2)))), (1, (.c (.int .u8 (5)))), (2, (.c (.int .u8 (6))))]⟩, ⟨(some 44), (some (41, true)), .call (.c (.fn K.probateref01_Same [] [])) [(.t 42), (.t 43)]⟩, ⟨(some 45), none, .pick (.t 41) (.t 44) (.c (.bool false))⟩, ⟨(some 46), none, .mv (.t 45)⟩, ⟨(some 47), (some (46, true)), .mv (.t 4)⟩, ⟨(some 48), (some (46, true)), .bin .eql (.t 47) (.c (.int .i64 (0)))⟩, ⟨(some 49), none, .pick (.t 46) (.t 48) (.c (.bool false))⟩, ⟨(some 50), none, .mv (.t 49)⟩, ⟨(some 51), (some (50, true)), .mv (.t 5)⟩, ⟨(some 52), (some (50, true)), .bsl 1 false [(.int .i64 (0))] 2 [(0, (.c (.int .i64 (5)))), (1, (.c (.int .i64 (6))))]⟩, ⟨(some 53), (some (50, true)), .call (.c (.fn K.probateref02_Same [] [])) [(.t 51), (.t 52)]⟩, ⟨(some 54), none, .pick (.t 50) (.t 53) (.c (.bool false))⟩, ⟨(some 55), none, .mv (.t 54)⟩, ⟨(some 56), (some (55, true)), .mv (.t 6)⟩, ⟨(some 57), (some (55, true)), .bin .eql (.t 56) (.c (.int .i64 (0)))⟩, ⟨(some 58), none, .pick (.t 55) (.t 57) (.c (.bool false))⟩, ⟨(some 59), none, .mv (.t 58)⟩, ⟨(some 60), (some (59, true)), .mv (.t 8)⟩, ⟨(some 61), (some (59, true)), .bin .eql (.t 60) (.c (.int .i64 (2)))⟩, ⟨(some 62), none, .pick (.t 59) (.t 61) (.c (.bool false))⟩, ⟨(some 63), none, .mv (.t 62)⟩, ⟨(some 64), (some (63, true)), .bsl 1 false [(.int .i64 (0))] 1 [(0, (.c (.int .i64 (15))))]⟩, ⟨(some 65), (some (63, true)), .call (.c (.fn K.word_Right [] [])) [(.t 64)]⟩, ⟨(some 66), none, .pick (.t 63) (.t 65) (.c (.bool false))⟩, ⟨(some 67), none, .mv (.t 66)⟩, ⟨(some 68), (some (67, true)), .bsl 1 false [(.int .i64 (0))] 1 [(0, (.c (.int .i64 (16))))]⟩, ⟨(some 69), (some (67, true)), .call (.c (.fn K.word_Right [] [])) [(.t 68)]⟩, ⟨(some 70), (some (67, true)), .un .not (.t 69)⟩, ⟨(some 71), none, .pick (.t 67) (.t 70) (.c (.bool false))⟩, ⟨(some 72), none, .mv (.t 71)⟩, ⟨(some 73), (some (72, true)), .bld [(.int .i64 (0)), (.int .i64 (0)), (.int .i64 (0)), (.sl 0 1 [])] [(0, 1, (.c (.int .i64 (3))))]⟩, ⟨(some 74), (some (72, true)), .bsl 1 false [(.int .i64 (0))] 1 [(0, (.c (.int .i64 (2))))]⟩, ⟨(some 75), (some (72, true)), .call (.c (.fn K.word_Fits [] [])) [(.t 73), (.t 74)]⟩, ⟨(some 76), none, .pick (.t 72) (.t 75) (.c (.bool false))⟩, ⟨(some 77), none, .mv (.t 76)⟩, ⟨(some 78), (some (77, true)), .bld [(.int .i64 (0)), (.int .i64 (0)), (.int .i64 (0)), (.sl 0 1 [])] [(0, 1, (.c (.int .i64 (2))))]⟩, ⟨(some 79), (some (77, true)), .bsl 1 false [(.int .i64 (0))] 1 [(0, (.c (.int .i64 (2))))]⟩, ⟨(some 80), (some (77, true)), .call (.c (.fn K.word_Fits [] [])) [(.t 78), (.t 79)]⟩, ⟨(some 81), (some (77, true)), .un .not (.t 80)⟩, ⟨(some 82), none, .pick (.t 77) (.t 81) (.c (.bool false))⟩, ⟨(some 83), none, .mv (.t 82)⟩, ⟨(some 84), (some (83, true)), .call (.c (.fn K.word_May [] [])) [(.c (.sl 0 1 [])), (.c (.int .i64 (0)))]⟩, ⟨(some 85), none, .pick (.t 83) (.t 84) (.c (.bool false))⟩, ⟨(some 0), none, .mv (.t 85)⟩]) .ret)))))))))))⟩
def A.probateref04_Apply.L1 : AC := .post (.seq (.seq (.reg [⟨(some 29), none, .mv (.t 9)⟩, ⟨(some 30), none, .mv (.t 1)⟩, ⟨(some 31), none, .len false (.t 30)⟩, ⟨(some 32), none, .bin .lss (.t 29) (.t 31)⟩])
  (.keep [0, 1, 6, 7, 8, 9, 32] (.cond (.t 32) .skip (.exit 2))))
  (.keep [0, 1, 6, 7, 8, 9] (.seq (.block 3 (.seq (.seq (.reg [⟨(some 35), none, .mv (.t 1)⟩, ⟨(some 36), none, .mv (.t 9)⟩, ⟨(some 37), none, .ia 3 (.t 35) (.t 36)⟩, ⟨(some 38), none, .fa 0 (.t 37)⟩, ⟨(some 39), none, .load false 1 (.t 38)⟩, ⟨(some 40), none, .mv (.t 7)⟩, ⟨(some 41), none, .bin .eql (.t 39) (.t 40)⟩, ⟨(some 42), none, .mv (.t 41)⟩, ⟨(some 43), (some (42, true)), .mv (.t 1)⟩, ⟨(some 44), (some (42, true)), .mv (.t 9)⟩, ⟨(some 45), (some (42, true)), .ia 3 (.t 43) (.t 44)⟩, ⟨(some 46), (some (42, true)), .fa 1 (.t 45)⟩, ⟨(some 47), (some (42, true)), .load false 1 (.t 46)⟩, ⟨(some 48), none, .pick (.t 42) (.t 47) (.c (.bool false))⟩])
  (.keep [0, 1, 6, 7, 8, 9, 48] (.cond (.t 48) (.reg [⟨(some 8), none, .mv (.c (.bool true))⟩]) .skip)))
  (.keep [0, 1, 6, 7, 8, 9] (.seq (.reg [⟨(some 49), none, .mv (.t 1)⟩, ⟨(some 50), none, .mv (.t 9)⟩, ⟨(some 51), none, .ia 3 (.t 49) (.t 50)⟩, ⟨(some 52), none, .fa 0 (.t 51)⟩, ⟨(some 53), none, .load false 1 (.t 52)⟩, ⟨(some 54), none, .mv (.t 7)⟩, ⟨(some 55), none, .bin .eql (.t 53) (.t 54)⟩, ⟨(some 56), none, .mv (.t 55)⟩, ⟨(some 57), (some (56, true)), .mv (.t 1)⟩, ⟨(some 58), (some (56, true)), .mv (.t 9)⟩, ⟨(some 59), (some (56, true)), .ia 3 (.t 57) (.t 58)⟩, ⟨(some 60), (some (56, true)), .fa 1 (.t 59)⟩, ⟨(some 61), (some (56, true)), .load false 1 (.t 60)⟩, ⟨(some 62), (some (56, true)), .un .not (.t 61)⟩, ⟨(some 63), none, .pick (.t 56) (.t 62) (.c (.bool false))⟩])
  (.keep [0, 1, 6, 7, 8, 9, 63] (.cond (.t 63) (.reg [⟨(some 64), none, .mv (.t 6)⟩, ⟨(some 65), none, .mv (.t 1)⟩, ⟨(some 66), none, .mv (.t 9)⟩, ⟨(some 67), none, .ia 3 (.t 65) (.t 66)⟩, ⟨(some 68), none, .fa 2 (.t 67)⟩, ⟨(some 69), none, .load false 1 (.t 68)⟩, ⟨(some 70), none, .bsl 1 false [(.int .i64 (0))] 1 [(0, (.t 69))]⟩, ⟨(some 71), none, .app 1 8 (.t 64) (.t 70)⟩, ⟨(some 6), none, .mv (.t 71)⟩]) .skip))))))
  (.keep [0, 1, 6, 7, 8, 9] (.reg [⟨(some 33), none, .mv (.t 9)⟩, ⟨(some 34), none, .bin .add (.t 33) (.c (.int .i64 (1)))⟩, ⟨(some 9), none, .mv (.t 34)⟩]))))) [0, 1, 6, 7, 8, 9]
def A.probateref04_Apply.L0 : AC := .post (.seq (.seq (.reg [⟨(some 19), none, .mv (.t 7)⟩, ⟨(some 20), none, .mv (.t 0)⟩, ⟨(some 21), none, .len false (.t 20)⟩, ⟨(some 22), none, .bin .leq (.t 19) (.t 21)⟩])
  (.keep [0, 1, 6, 7, 22] (.cond (.t 22) .skip (.exit 0))))
  (.keep [0, 1, 6, 7] (.seq (.block 1 (.seq (.reg [⟨(some 25), none, .mv (.t 7)⟩, ⟨(some 26), none, .mv (.t 0)⟩, ⟨(some 27), none, .len false (.t 26)⟩, ⟨(some 28), none, .bin .eql (.t 25) (.t 27)⟩, ⟨(some 8), none, .mv (.t 28)⟩])
  (.keep [0, 1, 6, 7, 8] (.seq (.seq (.reg [⟨(some 9), none, .mv (.c (.int .i64 (0)))⟩])
  (.keep [0, 1, 6, 7, 8, 9] (.block 2 (.loop A.probateref04_Apply.L1))))
  (.keep [0, 1, 6, 7, 8] (.seq (.reg [⟨(some 72), none, .mv (.t 8)⟩, ⟨(some 73), none, .un .not (.t 72)⟩])
  (.keep [0, 1, 6, 7, 73] (.cond (.t 73) (.reg [⟨(some 74), none, .mv (.t 6)⟩, ⟨(some 75), none, .mv (.t 0)⟩, ⟨(some 76), none, .mv (.t 7)⟩, ⟨(some 77), none, .ia 1 (.t 75) (.t 76)⟩, ⟨(some 78), none, .load false 1 (.t 77)⟩, ⟨(some 79), none, .bsl 1 false [(.int .i64 (0))] 1 [(0, (.t 78))]⟩, ⟨(some 80), none, .app 1 8 (.t 74) (.t 79)⟩, ⟨(some 6), none, .mv (.t 80)⟩]) .skip))))))))
  (.keep [0, 1, 6, 7] (.reg [⟨(some 23), none, .mv (.t 7)⟩, ⟨(some 24), none, .bin .add (.t 23) (.c (.int .i64 (1)))⟩, ⟨(some 7), none, .mv (.t 24)⟩]))))) [0, 1, 6, 7]
def A.probateref04_Apply : AFn := ⟨85, [(4, none), (5, none)], (.seq (.reg [⟨(some 4), none, .mv (.c (.sl 0 1 []))⟩, ⟨(some 5), none, .mv (.c (.int .i64 (0)))⟩])
  (.keep [0, 1] (.seq (.seq (.reg [⟨(some 10), none, .mv (.t 0)⟩, ⟨(some 11), none, .call (.c (.fn K.probateref04_Right [] [])) [(.t 10)]⟩, ⟨(some 12), none, .un .not (.t 11)⟩])
  (.keep [0, 1, 12] (.cond (.t 12) (.seq (.reg [⟨(some 4), none, .mv (.c (.sl 0 1 []))⟩, ⟨(some 5), none, .mv (.c (.int .i64 (1)))⟩]) .ret) .skip)))
  (.keep [0, 1] (.seq (.seq (.reg [⟨(some 13), none, .mv (.t 1)⟩, ⟨(some 14), none, .mv (.t 0)⟩, ⟨(some 15), none, .len false (.t 14)⟩, ⟨(some 16), none, .call (.c (.fn K.probateref04_May [] [])) [(.t 13), (.t 15)]⟩, ⟨(some 17), none, .un .not (.t 16)⟩])
  (.keep [0, 1, 17] (.cond (.t 17) (.seq (.reg [⟨(some 4), none, .mv (.c (.sl 0 1 []))⟩, ⟨(some 5), none, .mv (.c (.int .i64 (2)))⟩]) .ret) .skip)))
  (.keep [0, 1] (.seq (.reg [⟨(some 18), none, .bsl 1 false [(.int .i64 (0))] 0 []⟩, ⟨(some 6), none, .mv (.t 18)⟩])
  (.keep [0, 1, 6] (.seq (.seq (.reg [⟨(some 7), none, .mv (.c (.int .i64 (0)))⟩])
  (.keep [0, 1, 6, 7] (.block 0 (.loop A.probateref04_Apply.L0))))
  (.keep [6] (.seq (.seq (.reg [⟨(some 81), none, .mv (.t 6)⟩, ⟨(some 82), none, .len false (.t 81)⟩, ⟨(some 83), none, .bin .gtr (.t 82) (.c (.int .i64 (24)))⟩])
  (.keep [6, 83] (.cond (.t 83) (.seq (.reg [⟨(some 4), none, .mv (.c (.sl 0 1 []))⟩, ⟨(some 5), none, .mv (.c (.int .i64 (5)))⟩]) .ret) .skip)))
  (.keep [6] (.seq (.reg [⟨(some 84), none, .mv (.t 6)⟩, ⟨(some 4), none, .mv (.t 84)⟩, ⟨(some 5), none, .mv (.c (.int .i64 (0)))⟩]) .ret)))))))))))))⟩
def A.probateref04_Right.L0 : AC := .post (.seq (.seq (.reg [⟨(some 7), none, .mv (.t 3)⟩, ⟨(some 8), none, .mv (.t 0)⟩, ⟨(some 9), none, .len false (.t 8)⟩, ⟨(some 10), none, .bin .lss (.t 7) (.t 9)⟩])
  (.keep [0, 3, 10] (.cond (.t 10) .skip (.exit 0))))
  (.keep [0, 3] (.seq (.block 1 (.seq (.reg [⟨(some 13), none, .mv (.t 0)⟩, ⟨(some 14), none, .mv (.t 3)⟩, ⟨(some 15), none, .ia 1 (.t 13) (.t 14)⟩, ⟨(some 16), none, .load false 1 (.t 15)⟩, ⟨(some 17), none, .bin .lss (.t 16) (.c (.int .i64 (0)))⟩, ⟨(some 18), none, .mv (.t 17)⟩, ⟨(some 19), (some (18, false)), .mv (.t 0)⟩, ⟨(some 20), (some (18, false)), .mv (.t 3)⟩, ⟨(some 21), (some (18, false)), .ia 1 (.t 19) (.t 20)⟩, ⟨(some 22), (some (18, false)), .load false 1 (.t 21)⟩, ⟨(some 23), (some (18, false)), .bin .gtr (.t 22) (.c (.int .i64 (15)))⟩, ⟨(some 24), none, .pick (.t 18) (.c (.bool true)) (.t 23)⟩])
  (.keep [0, 3, 24] (.cond (.t 24) (.seq (.reg [⟨(some 2), none, .mv (.c (.bool false))⟩]) .ret) .skip))))
  (.keep [0, 3] (.reg [⟨(some 11), none, .mv (.t 3)⟩, ⟨(some 12), none, .bin .add (.t 11) (.c (.int .i64 (1)))⟩, ⟨(some 3), none, .mv (.t 12)⟩]))))) [0, 3]
def A.probateref04_Right : AFn := ⟨25, [(2, none)], (.seq (.reg [⟨(some 2), none, .mv (.c (.bool false))⟩])
  (.keep [0] (.seq (.seq (.reg [⟨(some 4), none, .mv (.t 0)⟩, ⟨(some 5), none, .len false (.t 4)⟩, ⟨(some 6), none, .bin .gtr (.t 5) (.c (.int .i64 (24)))⟩])
  (.keep [0, 6] (.cond (.t 6) (.seq (.reg [⟨(some 2), none, .mv (.c (.bool false))⟩]) .ret) .skip)))
  (.keep [0] (.seq (.seq (.reg [⟨(some 3), none, .mv (.c (.int .i64 (0)))⟩])
  (.keep [0, 3] (.block 0 (.loop A.probateref04_Right.L0))))
  (.keep [] (.seq (.reg [⟨(some 2), none, .mv (.c (.bool true))⟩]) .ret)))))))⟩
def A.probateref04_Fits.L0 : AC := .post (.seq (.seq (.reg [⟨(some 9), none, .mv (.t 5)⟩, ⟨(some 10), none, .mv (.t 1)⟩, ⟨(some 11), none, .len false (.t 10)⟩, ⟨(some 12), none, .bin .lss (.t 9) (.t 11)⟩])
  (.keep [1, 2, 5, 12] (.cond (.t 12) .skip (.exit 0))))
  (.keep [1, 2, 5] (.seq (.block 1 (.seq (.draw [(.pl, ⟨(some 15), none, .mv (.t 1)⟩), (.pl, ⟨(some 16), none, .mv (.t 5)⟩), (.pl, ⟨(some 17), none, .ia 1 (.t 15) (.t 16)⟩), (.pl, ⟨(some 18), none, .load false 1 (.t 17)⟩), (.pl, ⟨(some 19), none, .fa 0 (.t 2)⟩), (.pl, ⟨(some 20), none, .load false 1 (.t 19)⟩), (.pl, ⟨(some 21), none, .bin .geq (.t 18) (.t 20)⟩)])
  (.keep [1, 2, 5, 21] (.cond (.t 21) (.seq (.reg [⟨(some 4), none, .mv (.c (.bool false))⟩]) .ret) .skip))))
  (.keep [1, 2, 5] (.reg [⟨(some 13), none, .mv (.t 5)⟩, ⟨(some 14), none, .bin .add (.t 13) (.c (.int .i64 (1)))⟩, ⟨(some 5), none, .mv (.t 14)⟩]))))) [1, 2, 5]
def A.probateref04_Fits : AFn := ⟨22, [(4, none)], (.seq (.reg [⟨(some 2), none, .box (.t 0)⟩, ⟨(some 4), none, .mv (.c (.bool false))⟩])
  (.keep [1, 2] (.seq (.seq (.reg [⟨(some 6), none, .mv (.t 1)⟩, ⟨(some 7), none, .call (.c (.fn K.probateref04_Right [] [])) [(.t 6)]⟩, ⟨(some 8), none, .un .not (.t 7)⟩])
  (.keep [1, 2, 8] (.cond (.t 8) (.seq (.reg [⟨(some 4), none, .mv (.c (.bool false))⟩]) .ret) .skip)))
  (.keep [1, 2] (.seq (.seq (.reg [⟨(some 5), none, .mv (.c (.int .i64 (0)))⟩])
  (.keep [1, 2, 5] (.block 0 (.loop A.probateref04_Fits.L0))))
  (.keep [] (.seq (.reg [⟨(some 4), none, .mv (.c (.bool true))⟩]) .ret)))))))⟩
def A.probateref04_May.L0 : AC := .post (.seq (.seq (.reg [⟨(some 6), none, .mv (.t 5)⟩, ⟨(some 7), none, .mv (.t 0)⟩, ⟨(some 8), none, .len false (.t 7)⟩, ⟨(some 9), none, .bin .lss (.t 6) (.t 8)⟩])
  (.keep [0, 1, 5, 9] (.cond (.t 9) .skip (.exit 0))))
  (.keep [0, 1, 5] (.seq (.block 1 (.seq (.seq (.reg [⟨(some 12), none, .mv (.t 0)⟩, ⟨(some 13), none, .mv (.t 5)⟩, ⟨(some 14), none, .ia 3 (.t 12) (.t 13)⟩, ⟨(some 15), none, .fa 0 (.t 14)⟩, ⟨(some 16), none, .load false 1 (.t 15)⟩, ⟨(some 17), none, .bin .lss (.t 16) (.c (.int .i64 (0)))⟩, ⟨(some 18), none, .mv (.t 17)⟩, ⟨(some 19), (some (18, false)), .mv (.t 0)⟩, ⟨(some 20), (some (18, false)), .mv (.t 5)⟩, ⟨(some 21), (some (18, false)), .ia 3 (.t 19) (.t 20)⟩, ⟨(some 22), (some (18, false)), .fa 0 (.t 21)⟩, ⟨(some 23), (some (18, false)), .load false 1 (.t 22)⟩, ⟨(some 24), (some (18, false)), .mv (.t 1)⟩, ⟨(some 25), (some (18, false)), .bin .gtr (.t 23) (.t 24)⟩, ⟨(some 26), none, .pick (.t 18) (.c (.bool true)) (.t 25)⟩, ⟨(some 27), none, .mv (.t 26)⟩, ⟨(some 28), (some (27, false)), .mv (.t 0)⟩, ⟨(some 29), (some (27, false)), .mv (.t 5)⟩, ⟨(some 30), (some (27, false)), .ia 3 (.t 28) (.t 29)⟩, ⟨(some 31), (some (27, false)), .fa 2 (.t 30)⟩, ⟨(some 32), (some (27, false)), .load false 1 (.t 31)⟩, ⟨(some 33), (some (27, false)), .bin .lss (.t 32) (.c (.int .i64 (0)))⟩, ⟨(some 34), none, .pick (.t 27) (.c (.bool true)) (.t 33)⟩, ⟨(some 35), none, .mv (.t 34)⟩, ⟨(some 36), (some (35, false)), .mv (.t 0)⟩, ⟨(some 37), (some (35, false)), .mv (.t 5)⟩, ⟨(some 38), (some (35, false)), .ia 3 (.t 36) (.t 37)⟩, ⟨(some 39), (some (35, false)), .fa 2 (.t 38)⟩, ⟨(some 40), (some (35, false)), .load false 1 (.t 39)⟩, ⟨(some 41), (some (35, false)), .bin .gtr (.t 40) (.c (.int .i64 (15)))⟩, ⟨(some 42), none, .pick (.t 35) (.c (.bool true)) (.t 41)⟩])
  (.keep [0, 1, 5, 42] (.cond (.t 42) (.seq (.reg [⟨(some 4), none, .mv (.c (.bool false))⟩]) .ret) .skip)))
  (.keep [0, 1, 5] (.seq (.seq (.reg [⟨(some 43), none, .mv (.t 0)⟩, ⟨(some 44), none, .mv (.t 5)⟩, ⟨(some 45), none, .ia 3 (.t 43) (.t 44)⟩, ⟨(some 46), none, .fa 1 (.t 45)⟩, ⟨(some 47), none, .load false 1 (.t 46)⟩, ⟨(some 48), none, .mv (.t 47)⟩, ⟨(some 49), (some (48, true)), .mv (.t 0)⟩, ⟨(some 50), (some (48, true)), .mv (.t 5)⟩, ⟨(some 51), (some (48, true)), .ia 3 (.t 49) (.t 50)⟩, ⟨(some 52), (some (48, true)), .fa 0 (.t 51)⟩, ⟨(some 53), (some (48, true)), .load false 1 (.t 52)⟩, ⟨(some 54), (some (48, true)), .mv (.t 1)⟩, ⟨(some 55), (some (48, true)), .bin .geq (.t 53) (.t 54)⟩, ⟨(some 56), (some (48, true)), .mv (.t 55)⟩, ⟨(some 57), (some (56, false)), .mv (.t 0)⟩, ⟨(some 58), (some (56, false)), .mv (.t 5)⟩, ⟨(some 59), (some (56, false)), .ia 3 (.t 57) (.t 58)⟩, ⟨(some 60), (some (56, false)), .fa 2 (.t 59)⟩, ⟨(some 61), (some (56, false)), .load false 1 (.t 60)⟩, ⟨(some 62), (some (56, false)), .bin .neq (.t 61) (.c (.int .i64 (0)))⟩, ⟨(some 63), (some (48, true)), .pick (.t 56) (.c (.bool true)) (.t 62)⟩, ⟨(some 64), none, .pick (.t 48) (.t 63) (.c (.bool false))⟩])
  (.keep [0, 1, 5, 64] (.cond (.t 64) (.seq (.reg [⟨(some 4), none, .mv (.c (.bool false))⟩]) .ret) .skip)))
  (.keep [0, 1, 5] (.seq (.draw [(.pl, ⟨(some 65), none, .mv (.t 5)⟩), (.pl, ⟨(some 66), none, .bin .gtr (.t 65) (.c (.int .i64 (0)))⟩), (.pl, ⟨(some 67), none, .mv (.t 66)⟩), (.pl, ⟨(some 68), (some (67, true)), .mv (.t 0)⟩), (.pl, ⟨(some 69), (some (67, true)), .mv (.t 5)⟩), (.pl, ⟨(some 70), (some (67, true)), .ia 3 (.t 68) (.t 69)⟩), (.pl, ⟨(some 71), (some (67, true)), .fa 0 (.t 70)⟩), (.pl, ⟨(some 72), (some (67, true)), .load false 1 (.t 71)⟩), (.pl, ⟨(some 73), (some (67, true)), .mv (.t 0)⟩), (.pl, ⟨(some 74), (some (67, true)), .mv (.t 5)⟩), (.pl, ⟨(some 75), (some (67, true)), .bin .sub (.t 74) (.c (.int .i64 (1)))⟩), (.pl, ⟨(some 76), (some (67, true)), .ia 3 (.t 73) (.t 75)⟩), (.pl, ⟨(some 77), (some (67, true)), .fa 0 (.t 76)⟩), (.pl, ⟨(some 78), (some (67, true)), .load false 1 (.t 77)⟩), (.pl, ⟨(some 79), (some (67, true)), .bin .lss (.t 72) (.t 78)⟩), (.pl, ⟨(some 80), (some (67, true)), .mv (.t 79)⟩), (.pl, ⟨(some 81), (some (80, false)), .mv (.t 0)⟩), (.pl, ⟨(some 82), (some (80, false)), .mv (.t 5)⟩), (.pl, ⟨(some 83), (some (80, false)), .bin .sub (.t 82) (.c (.int .i64 (1)))⟩), (.pl, ⟨(some 84), (some (80, false)), .ia 3 (.t 81) (.t 83)⟩), (.pl, ⟨(some 85), (some (80, false)), .fa 1 (.t 84)⟩), (.pl, ⟨(some 86), (some (80, false)), .load false 1 (.t 85)⟩), (.pl, ⟨(some 87), (some (80, false)), .mv (.t 86)⟩), (.pl, ⟨(some 88), (some (87, true)), .mv (.t 0)⟩), (.pl, ⟨(some 89), (some (87, true)), .mv (.t 5)⟩), (.pl, ⟨(some 90), (some (87, true)), .ia 3 (.t 88) (.t 89)⟩), (.pl, ⟨(some 91), (some (87, true)), .fa 0 (.t 90)⟩), (.pl, ⟨(some 92), (some (87, true)), .load false 1 (.t 91)⟩), (.pl, ⟨(some 93), (some (87, true)), .mv (.t 0)⟩), (.pl, ⟨(some 94), (some (87, true)), .mv (.t 5)⟩), (.pl, ⟨(some 95), (some (87, true)), .bin .sub (.t 94) (.c (.int .i64 (1)))⟩), (.pl, ⟨(some 96), (some (87, true)), .ia 3 (.t 93) (.t 95)⟩), (.pl, ⟨(some 97), (some (87, true)), .fa 0 (.t 96)⟩), (.pl, ⟨(some 98), (some (87, true)), .load false 1 (.t 97)⟩), (.pl, ⟨(some 99), (some (87, true)), .bin .eql (.t 92) (.t 98)⟩), (.pl, ⟨(some 100), (some (80, false)), .pick (.t 87) (.t 99) (.c (.bool false))⟩), (.pl, ⟨(some 101), (some (67, true)), .pick (.t 80) (.c (.bool true)) (.t 100)⟩), (.pl, ⟨(some 102), none, .pick (.t 67) (.t 101) (.c (.bool false))⟩)])
  (.keep [0, 1, 5, 102] (.cond (.t 102) (.seq (.reg [⟨(some 4), none, .mv (.c (.bool false))⟩]) .ret) .skip))))))))
  (.keep [0, 1, 5] (.reg [⟨(some 10), none, .mv (.t 5)⟩, ⟨(some 11), none, .bin .add (.t 10) (.c (.int .i64 (1)))⟩, ⟨(some 5), none, .mv (.t 11)⟩]))))) [0, 1, 5]
def A.probateref04_May : AFn := ⟨103, [(4, none)], (.seq (.reg [⟨(some 4), none, .mv (.c (.bool false))⟩])
  (.keep [0, 1] (.seq (.seq (.reg [⟨(some 5), none, .mv (.c (.int .i64 (0)))⟩])
  (.keep [0, 1, 5] (.block 0 (.loop A.probateref04_May.L0))))
  (.keep [] (.seq (.reg [⟨(some 4), none, .mv (.c (.bool true))⟩]) .ret)))))⟩
end Go.Proofs.Ytmobijebjkjnoaa.Al
namespace Go.Proofs.Ytmobijebjkjnoaa.Al
open Go Go.RowKit
set_option linter.unusedSimpArgs false
set_option linter.unusedVariables false
attribute [-simp] List.getD_eq_getElem?_getD Int.not_lt Int.not_le List.map_take
/-- What becomes of a word from a place on. -/
def appF (w : List Int) : List Ed → Nat → List Int
  | [], i => w.drop i
  | x :: l, i => (w.take x.at'.toNat).drop i ++ (if x.drop = true then appF w l (x.at'.toNat + 1) else x.tok :: appF w l x.at'.toNat)
end Go.Proofs.Ytmobijebjkjnoaa.Al
namespace Go.Proofs.Ytmobijebjkjnoaa.Al
open Go Go.RowKit
set_option linter.unusedSimpArgs false
set_option linter.unusedVariables false
attribute [-simp] List.getD_eq_getElem?_getD Int.not_lt Int.not_le List.map_take
/-- Objects of Apply: how many tokens were put (m), and the first 24 of them (o). -/
structure PO (h0 h : AH) (m o : Nat) (L : List Int) : Prop where
  own : ∃ e st, Own h0 h 1 e st (ints (L.take 24)) ∧ h.objs o = [.sl e st (ints (L.take 24))]
  many : h.objs m = [.int .i64 L.length]
  hm : h0.nobj ≤ m
  ho : h0.nobj ≤ o
  ne : ¬ m = o
  lm : m < h.nobj
  lo : o < h.nobj
theorem PO.new {h0 h : AH} {m o : Nat} {L : List Int} (p : PO h0 h m o L) (z : List V) : PO h0 (h.new z) m o L := by
  obtain ⟨e, st, ow, ob⟩ := p.own
  have := p.lm
  have := p.lo
  exact ⟨⟨e, st, ⟨ow.gr.new z, ow.el, ow.st⟩, by rw [new_objs_ne _ _ (by omega)]; exact ob⟩, by rw [new_objs_ne _ _ (by omega)]; exact p.many, p.hm, p.ho, p.ne, by simp; omega, by simp; omega⟩
theorem PO.set {h0 h : AH} {m o : Nat} {L : List Int} (p : PO h0 h m o L) {q : Nat} (hq : h0.nobj ≤ q) (h1 : ¬ m = q) (h2 : ¬ o = q) (z : List V) : PO h0 (h.set q z) m o L := by
  obtain ⟨e, st, ow, ob⟩ := p.own
  exact ⟨⟨e, st, ⟨ow.gr.set hq z, ow.el, ow.st⟩, by rw [set_objs_ne _ _ _ h2]; exact ob⟩, by rw [set_objs_ne _ _ _ h1]; exact p.many, p.hm, p.ho, p.ne, p.lm, p.lo⟩
theorem PO.gr {h0 h : AH} {m o : Nat} {L : List Int} (p : PO h0 h m o L) : Gr h0 h := by obtain ⟨e, st, ow, _⟩ := p.own; exact ow.gr
end Go.Proofs.Ytmobijebjkjnoaa.Al
namespace Go.Proofs.Ytmobijebjkjnoaa.Al
def A.gram_Bytes.L1 : AC := .post (.seq (.reg [⟨(some 52), none, .bin .lss (.t 51) (.t 50)⟩])
  (.keep [4, 33, 34, 35, 49, 50, 51, 52] (.seq (.cond (.t 52) .skip (.exit 2))
  (.keep [4, 33, 34, 35, 49, 50, 51] (.seq (.block 3 (.seq (.reg [⟨(some 53), none, .ia 2 (.t 49) (.t 51)⟩, ⟨(some 54), none, .load true 2 (.t 53)⟩, ⟨(some 8), none, .alloc [(.bool false), (.int .i64 (0))]⟩, ⟨none, none, .store 2 (.t 8) (.t 54)⟩])
  (.keep [4, 8, 33, 34, 35, 49, 50, 51] (.seq (.reg [⟨(some 55), none, .fa 1 (.t 8)⟩, ⟨(some 56), none, .load false 1 (.t 55)⟩, ⟨(some 57), none, .bin .shl (.t 56) (.c (.int .u64 (1)))⟩, ⟨(some 9), none, .mv (.t 57)⟩])
  (.keep [4, 8, 9, 33, 34, 35, 49, 50, 51] (.seq (.seq (.reg [⟨(some 58), none, .fa 0 (.t 8)⟩, ⟨(some 59), none, .load false 1 (.t 58)⟩])
  (.keep [4, 9, 33, 34, 35, 49, 50, 51, 59] (.cond (.t 59) (.reg [⟨(some 60), none, .mv (.t 9)⟩, ⟨(some 61), none, .bin .or (.t 60) (.c (.int .i64 (1)))⟩, ⟨(some 9), none, .mv (.t 61)⟩]) .skip)))
  (.keep [4, 9, 33, 34, 35, 49, 50, 51] (.reg [⟨(some 62), none, .mv (.t 4)⟩, ⟨(some 63), none, .mv (.t 9)⟩, ⟨(some 64), none, .call (.c (.fn K.wire_Writer_Num [] [])) [(.t 62), (.t 63)]⟩]))))))))
  (.keep [4, 33, 34, 35, 49, 50, 51] (.reg [⟨(some 65), none, .bin .add (.t 51) (.c (.int .i64 (1)))⟩, ⟨(some 51), none, .mv (.t 65)⟩]))))))) [4, 33, 34, 35, 49, 50, 51]
def A.gram_Bytes.L0 : AC := .post (.seq (.reg [⟨(some 36), none, .bin .lss (.t 35) (.t 34)⟩])
  (.keep [4, 33, 34, 35, 36] (.seq (.cond (.t 36) .skip (.exit 0))
  (.keep [4, 33, 34, 35] (.seq (.block 1 (.seq (.reg [⟨(some 37), none, .ia 2 (.t 33) (.t 35)⟩, ⟨(some 38), none, .load true 2 (.t 37)⟩, ⟨(some 6), none, .alloc [(.int .i64 (0)), (.sl 0 1 [])]⟩, ⟨none, none, .store 2 (.t 6) (.t 38)⟩])
  (.keep [4, 6, 33, 34, 35] (.seq (.reg [⟨(some 39), none, .mv (.t 4)⟩, ⟨(some 40), none, .fa 0 (.t 6)⟩, ⟨(some 41), none, .load false 1 (.t 40)⟩, ⟨(some 42), none, .call (.c (.fn K.wire_Writer_Num [] [])) [(.t 39), (.t 41)]⟩])
  (.keep [4, 6, 33, 34, 35] (.seq (.reg [⟨(some 43), none, .mv (.t 4)⟩, ⟨(some 44), none, .fa 1 (.t 6)⟩, ⟨(some 45), none, .load false 1 (.t 44)⟩, ⟨(some 46), none, .len false (.t 45)⟩, ⟨(some 47), none, .call (.c (.fn K.wire_Writer_Num [] [])) [(.t 43), (.t 46)]⟩])
  (.keep [4, 6, 33, 34, 35] (.seq (.reg [⟨(some 48), none, .fa 1 (.t 6)⟩, ⟨(some 49), none, .load false 1 (.t 48)⟩, ⟨(some 50), none, .len false (.t 49)⟩, ⟨(some 51), none, .mv (.c (.int .i64 (0)))⟩])
  (.keep [4, 33, 34, 35, 49, 50, 51] (.block 2 (.loop A.gram_Bytes.L1)))))))))))
  (.keep [4, 33, 34, 35] (.reg [⟨(some 66), none, .bin .add (.t 35) (.c (.int .i64 (1)))⟩, ⟨(some 35), none, .mv (.t 66)⟩]))))))) [4, 33, 34, 35]
def A.gram_Bytes : AFn := ⟨69, [(2, none), (3, none)], (.seq (.reg [⟨(some 1), none, .box (.t 0)⟩, ⟨(some 2), none, .mv (.c (.sl 0 1 []))⟩, ⟨(some 3), none, .mv (.c (.int .i64 (0)))⟩])
  (.keep [1] (.seq (.seq (.reg [⟨(some 10), none, .load true 4 (.t 1)⟩, ⟨(some 11), none, .call (.c (.fn K.gram_Right [] [])) [(.t 10)]⟩, ⟨(some 12), none, .un .not (.t 11)⟩])
  (.keep [1, 12] (.cond (.t 12) (.seq (.reg [⟨(some 2), none, .mv (.c (.sl 0 1 []))⟩, ⟨(some 3), none, .mv (.c (.int .i64 (1)))⟩]) .ret) .skip)))
  (.keep [1] (.seq (.reg [⟨(some 13), none, .bld [(.sl 0 1 [])] []⟩, ⟨(some 14), none, .box (.t 13)⟩, ⟨(some 4), none, .mv (.t 14)⟩])
  (.keep [1, 4] (.seq (.reg [⟨(some 15), none, .mv (.t 4)⟩, ⟨(some 16), none, .fa 0 (.t 1)⟩, ⟨(some 17), none, .load false 1 (.t 16)⟩, ⟨(some 18), none, .call (.c (.fn K.wire_Writer_Num [] [])) [(.t 15), (.t 17)]⟩])
  (.keep [1, 4] (.seq (.reg [⟨(some 19), none, .mv (.t 4)⟩, ⟨(some 20), none, .fa 1 (.t 1)⟩, ⟨(some 21), none, .load false 1 (.t 20)⟩, ⟨(some 22), none, .call (.c (.fn K.wire_Writer_Num [] [])) [(.t 19), (.t 21)]⟩])
  (.keep [1, 4] (.seq (.reg [⟨(some 23), none, .mv (.t 4)⟩, ⟨(some 24), none, .fa 2 (.t 1)⟩, ⟨(some 25), none, .load false 1 (.t 24)⟩, ⟨(some 26), none, .call (.c (.fn K.wire_Writer_Num [] [])) [(.t 23), (.t 25)]⟩])
  (.keep [1, 4] (.seq (.reg [⟨(some 27), none, .mv (.t 4)⟩, ⟨(some 28), none, .fa 3 (.t 1)⟩, ⟨(some 29), none, .load false 1 (.t 28)⟩, ⟨(some 30), none, .len false (.t 29)⟩, ⟨(some 31), none, .call (.c (.fn K.wire_Writer_Num [] [])) [(.t 27), (.t 30)]⟩])
  (.keep [1, 4] (.seq (.seq (.reg [⟨(some 32), none, .fa 3 (.t 1)⟩, ⟨(some 33), none, .load false 1 (.t 32)⟩, ⟨(some 34), none, .len false (.t 33)⟩, ⟨(some 35), none, .mv (.c (.int .i64 (0)))⟩])
  (.keep [4, 33, 34, 35] (.block 0 (.loop A.gram_Bytes.L0))))
  (.keep [4] (.seq (.reg [⟨(some 67), none, .mv (.t 4)⟩, ⟨(some 68), none, .call (.c (.fn K.wire_Writer_Bytes [] [])) [(.t 67)]⟩, ⟨(some 2), none, .mv (.t 68)⟩, ⟨(some 3), none, .mv (.c (.int .i64 (0)))⟩]) .ret)))))))))))))))))⟩
def A.gram_Read : AFn := ⟨32, [(2, (some (true, 4))), (3, none)], (.seq (.reg [⟨(some 2), none, .alloc [(.int .i64 (0)), (.int .i64 (0)), (.int .i64 (0)), (.sl 0 1 [])]⟩, ⟨(some 3), none, .mv (.c (.int .i64 (0)))⟩])
  (.keep [0, 2] (.seq (.reg [⟨(some 7), none, .mv (.t 0)⟩, ⟨(some 8), none, .call (.c (.fn K.wire_New [] [])) [(.t 7)]⟩, ⟨(some 4), none, .mv (.t 8)⟩])
  (.keep [2, 4] (.seq (.reg [⟨(some 5), none, .alloc [(.int .i64 (0)), (.int .i64 (0)), (.int .i64 (0)), (.sl 0 1 [])]⟩])
  (.keep [2, 4, 5] (.seq (.reg [⟨(some 9), none, .mv (.t 4)⟩, ⟨(some 10), none, .call (.c (.fn K.wire_Reader_Num [] [])) [(.t 9), (.c (.int .i64 (16)))]⟩, ⟨(some 11), none, .fa 0 (.t 5)⟩, ⟨none, none, .store 1 (.t 11) (.t 10)⟩])
  (.keep [2, 4, 5] (.seq (.reg [⟨(some 12), none, .mv (.t 4)⟩, ⟨(some 13), none, .call (.c (.fn K.wire_Reader_Num [] [])) [(.t 12), (.c (.int .i64 (24)))]⟩, ⟨(some 14), none, .fa 1 (.t 5)⟩, ⟨none, none, .store 1 (.t 14) (.t 13)⟩])
  (.keep [2, 4, 5] (.seq (.reg [⟨(some 15), none, .mv (.t 4)⟩, ⟨(some 16), none, .call (.c (.fn K.wire_Reader_Num [] [])) [(.t 15), (.c (.int .i64 (23)))]⟩, ⟨(some 17), none, .fa 2 (.t 5)⟩, ⟨none, none, .store 1 (.t 17) (.t 16)⟩])
  (.keep [2, 4, 5] (.seq (.reg [⟨(some 18), none, .mv (.t 4)⟩, ⟨(some 19), none, .call (.c (.fn K.wire_List_Prod [] [])) [(.t 18), (.c (.int .i64 (60))), (.c (.fn K.gram_prod [] []))]⟩, ⟨(some 20), none, .fa 3 (.t 5)⟩, ⟨none, none, .store 1 (.t 20) (.t 19)⟩])
  (.keep [2, 4, 5] (.seq (.seq (.reg [⟨(some 21), none, .mv (.t 4)⟩, ⟨(some 22), none, .call (.c (.fn K.wire_Reader_End [] [])) [(.t 21)]⟩, ⟨(some 6), none, .mv (.t 22)⟩])
  (.keep [2, 5, 6] (.seq (.reg [⟨(some 23), none, .mv (.t 6)⟩, ⟨(some 24), none, .bin .neq (.t 23) (.c (.int .i64 (0)))⟩])
  (.keep [2, 5, 6, 24] (.cond (.t 24) (.seq (.reg [⟨(some 25), none, .bld [(.int .i64 (0)), (.int .i64 (0)), (.int .i64 (0)), (.sl 0 1 [])] []⟩, ⟨(some 26), none, .mv (.t 6)⟩, ⟨none, none, .store 4 (.t 2) (.t 25)⟩, ⟨(some 3), none, .mv (.t 26)⟩]) .ret) .skip)))))
  (.keep [2, 5] (.seq (.seq (.reg [⟨(some 27), none, .load true 4 (.t 5)⟩, ⟨(some 28), none, .call (.c (.fn K.gram_Right [] [])) [(.t 27)]⟩, ⟨(some 29), none, .un .not (.t 28)⟩])
  (.keep [2, 5, 29] (.cond (.t 29) (.seq (.reg [⟨(some 30), none, .bld [(.int .i64 (0)), (.int .i64 (0)), (.int .i64 (0)), (.sl 0 1 [])] []⟩, ⟨none, none, .store 4 (.t 2) (.t 30)⟩, ⟨(some 3), none, .mv (.c (.int .i64 (2)))⟩]) .ret) .skip)))
  (.keep [2, 5] (.seq (.reg [⟨(some 31), none, .load true 4 (.t 5)⟩, ⟨none, none, .store 4 (.t 2) (.t 31)⟩, ⟨(some 3), none, .mv (.c (.int .i64 (0)))⟩]) .ret)))))))))))))))))))⟩
def A.gram_Right : AFn := ⟨33, [(2, none)], (.seq (.reg [⟨(some 1), none, .box (.t 0)⟩, ⟨(some 2), none, .mv (.c (.bool false))⟩])
  (.keep [1] (.seq (.block 0 (.seq (.seq (.reg [⟨(some 4), none, .fa 0 (.t 1)⟩, ⟨(some 5), none, .load false 1 (.t 4)⟩, ⟨(some 6), none, .bin .lss (.t 5) (.c (.int .i64 (0)))⟩, ⟨(some 3), none, .mv (.t 6)⟩])
  (.keep [1, 3] (.cond (.t 3) .skip (.seq (.reg [⟨(some 7), none, .fa 0 (.t 1)⟩, ⟨(some 8), none, .load false 1 (.t 7)⟩, ⟨(some 9), none, .bin .gtr (.t 8) (.c (.int .i64 (16)))⟩, ⟨(some 3), none, .mv (.t 9)⟩])
  (.keep [1, 3] (.cond (.t 3) .skip (.seq (.reg [⟨(some 10), none, .fa 1 (.t 1)⟩, ⟨(some 11), none, .load false 1 (.t 10)⟩, ⟨(some 12), none, .bin .lss (.t 11) (.c (.int .i64 (1)))⟩, ⟨(some 3), none, .mv (.t 12)⟩])
  (.keep [1, 3] (.cond (.t 3) .skip (.seq (.reg [⟨(some 13), none, .fa 1 (.t 1)⟩, ⟨(some 14), none, .load false 1 (.t 13)⟩, ⟨(some 15), none, .bin .gtr (.t 14) (.c (.int .i64 (24)))⟩, ⟨(some 3), none, .mv (.t 15)⟩])
  (.keep [1, 3] (.cond (.t 3) .skip (.seq (.reg [⟨(some 16), none, .fa 2 (.t 1)⟩, ⟨(some 17), none, .load false 1 (.t 16)⟩, ⟨(some 18), none, .bin .lss (.t 17) (.c (.int .i64 (0)))⟩, ⟨(some 3), none, .mv (.t 18)⟩])
  (.keep [1, 3] (.cond (.t 3) .skip (.seq (.reg [⟨(some 19), none, .fa 2 (.t 1)⟩, ⟨(some 20), none, .load false 1 (.t 19)⟩, ⟨(some 21), none, .fa 1 (.t 1)⟩, ⟨(some 22), none, .load false 1 (.t 21)⟩, ⟨(some 23), none, .bin .geq (.t 20) (.t 22)⟩, ⟨(some 3), none, .mv (.t 23)⟩])
  (.keep [1, 3] (.cond (.t 3) .skip (.reg [⟨(some 24), none, .fa 3 (.t 1)⟩, ⟨(some 25), none, .load false 1 (.t 24)⟩, ⟨(some 26), none, .len false (.t 25)⟩, ⟨(some 27), none, .bin .gtr (.t 26) (.c (.int .i64 (60)))⟩, ⟨(some 3), none, .mv (.t 27)⟩])))))))))))))))))))
  (.keep [1, 3] (.cond (.t 3) (.seq (.reg [⟨(some 2), none, .mv (.c (.bool false))⟩]) .ret) .skip))))
  (.keep [1] (.seq (.reg [⟨(some 28), none, .fa 3 (.t 1)⟩, ⟨(some 29), none, .load false 1 (.t 28)⟩, ⟨(some 30), none, .mkfn K.gram_Right_1 [] [(.t 1)]⟩, ⟨(some 31), none, .call (.c (.fn K.slices_ContainsFunc_Prod [] [])) [(.t 29), (.t 30)]⟩, ⟨(some 32), none, .un .not (.t 31)⟩, ⟨(some 2), none, .mv (.t 32)⟩]) .ret)))))⟩
def A.gram_Same : AFn := ⟨31, [(4, none)], (.seq (.reg [⟨(some 2), none, .box (.t 0)⟩, ⟨(some 3), none, .box (.t 1)⟩, ⟨(some 4), none, .mv (.c (.bool false))⟩])
  (.keep [2, 3] (.seq (.reg [⟨(some 5), none, .fa 0 (.t 2)⟩, ⟨(some 6), none, .load false 1 (.t 5)⟩, ⟨(some 7), none, .fa 0 (.t 3)⟩, ⟨(some 8), none, .load false 1 (.t 7)⟩, ⟨(some 9), none, .bin .eql (.t 6) (.t 8)⟩, ⟨(some 10), none, .mv (.t 9)⟩, ⟨(some 11), (some (10, true)), .fa 1 (.t 2)⟩, ⟨(some 12), (some (10, true)), .load false 1 (.t 11)⟩, ⟨(some 13), (some (10, true)), .fa 1 (.t 3)⟩, ⟨(some 14), (some (10, true)), .load false 1 (.t 13)⟩, ⟨(some 15), (some (10, true)), .bin .eql (.t 12) (.t 14)⟩, ⟨(some 16), none, .pick (.t 10) (.t 15) (.c (.bool false))⟩, ⟨(some 17), none, .mv (.t 16)⟩, ⟨(some 18), (some (17, true)), .fa 2 (.t 2)⟩, ⟨(some 19), (some (17, true)), .load false 1 (.t 18)⟩, ⟨(some 20), (some (17, true)), .fa 2 (.t 3)⟩, ⟨(some 21), (some (17, true)), .load false 1 (.t 20)⟩, ⟨(some 22), (some (17, true)), .bin .eql (.t 19) (.t 21)⟩, ⟨(some 23), none, .pick (.t 17) (.t 22) (.c (.bool false))⟩, ⟨(some 24), none, .mv (.t 23)⟩, ⟨(some 25), (some (24, true)), .fa 3 (.t 2)⟩, ⟨(some 26), (some (24, true)), .load false 1 (.t 25)⟩, ⟨(some 27), (some (24, true)), .fa 3 (.t 3)⟩, ⟨(some 28), (some (24, true)), .load false 1 (.t 27)⟩, ⟨(some 29), (some (24, true)), .call (.c (.fn K.slices_EqualFunc_Prod [] [])) [(.t 26), (.t 28), (.c (.fn K.gram_alike [] []))]⟩, ⟨(some 30), none, .pick (.t 24) (.t 29) (.c (.bool false))⟩, ⟨(some 4), none, .mv (.t 30)⟩]) .ret)))⟩
def A.gram_Clone.L0 : AC := .post (.seq (.reg [⟨(some 14), none, .bin .lss (.t 13) (.t 12)⟩])
  (.keep [1, 2, 3, 11, 12, 13, 14] (.seq (.cond (.t 14) .skip (.exit 0))
  (.keep [1, 2, 3, 11, 12, 13] (.seq (.block 1 (.seq (.reg [⟨(some 15), none, .ia 2 (.t 11) (.t 13)⟩, ⟨(some 16), none, .load true 2 (.t 15)⟩, ⟨(some 5), none, .alloc [(.int .i64 (0)), (.sl 0 1 [])]⟩, ⟨none, none, .store 2 (.t 5) (.t 16)⟩])
  (.keep [1, 2, 3, 5, 11, 12, 13] (.draw [(.pl, ⟨(some 17), none, .mv (.t 3)⟩), (.pl, ⟨(some 18), none, .fa 0 (.t 5)⟩), (.pl, ⟨(some 19), none, .load false 1 (.t 18)⟩), (.pl, ⟨(some 20), none, .fa 1 (.t 5)⟩), (.pl, ⟨(some 21), none, .load false 1 (.t 20)⟩), (.pl, ⟨(some 22), none, .call (.c (.fn K.slices_Clone_Sym [] [])) [(.t 21)]⟩), (.pl, ⟨(some 23), none, .bld [(.int .i64 (0)), (.sl 0 1 [])] [(0, 1, (.t 19)), (1, 1, (.t 22))]⟩), (.pl, ⟨(some 24), none, .bsl 2 true [(.int .i64 (0)), (.sl 0 1 [])] 1 [(0, (.t 23))]⟩), (.eff, ⟨(some 25), none, .app 2 32 (.t 17) (.t 24)⟩), (.pl, ⟨(some 3), none, .mv (.t 25)⟩)]))))
  (.keep [1, 2, 3, 11, 12, 13] (.reg [⟨(some 26), none, .bin .add (.t 13) (.c (.int .i64 (1)))⟩, ⟨(some 13), none, .mv (.t 26)⟩]))))))) [1, 2, 3, 11, 12, 13]
def A.gram_Clone : AFn := ⟨30, [(2, (some (true, 4)))], (.seq (.reg [⟨(some 1), none, .box (.t 0)⟩, ⟨(some 2), none, .alloc [(.int .i64 (0)), (.int .i64 (0)), (.int .i64 (0)), (.sl 0 1 [])]⟩])
  (.keep [1, 2] (.seq (.reg [⟨(some 6), none, .fa 3 (.t 1)⟩, ⟨(some 7), none, .load false 1 (.t 6)⟩, ⟨(some 8), none, .len false (.t 7)⟩, ⟨(some 9), none, .mks 2 32 (.t 8)⟩, ⟨(some 3), none, .mv (.t 9)⟩])
  (.keep [1, 2, 3] (.seq (.seq (.reg [⟨(some 10), none, .fa 3 (.t 1)⟩, ⟨(some 11), none, .load false 1 (.t 10)⟩, ⟨(some 12), none, .len false (.t 11)⟩, ⟨(some 13), none, .mv (.c (.int .i64 (0)))⟩])
  (.keep [1, 2, 3, 11, 12, 13] (.block 0 (.loop A.gram_Clone.L0))))
  (.keep [1, 2, 3] (.seq (.reg [⟨(some 27), none, .mv (.t 3)⟩, ⟨(some 28), none, .fa 3 (.t 1)⟩, ⟨none, none, .store 1 (.t 28) (.t 27)⟩])
  (.keep [1, 2] (.seq (.reg [⟨(some 29), none, .load true 4 (.t 1)⟩, ⟨none, none, .store 4 (.t 2) (.t 29)⟩]) .ret)))))))))⟩
def A.gram_Of.L0 : AC := .post (.seq (.reg [⟨(some 12), none, .bin .lss (.t 11) (.t 10)⟩])
  (.keep [1, 5, 9, 10, 11, 12] (.seq (.cond (.t 12) .skip (.exit 0))
  (.keep [1, 5, 9, 10, 11] (.seq (.block 1 (.seq (.reg [⟨(some 13), none, .mv (.t 11)⟩, ⟨(some 14), none, .ia 2 (.t 9) (.t 11)⟩, ⟨(some 15), none, .load true 2 (.t 14)⟩, ⟨(some 7), none, .alloc [(.int .i64 (0)), (.sl 0 1 [])]⟩, ⟨(some 6), none, .mv (.t 13)⟩, ⟨none, none, .store 2 (.t 7) (.t 15)⟩])
  (.keep [1, 5, 6, 7, 9, 10, 11] (.seq (.reg [⟨(some 16), none, .fa 0 (.t 7)⟩, ⟨(some 17), none, .load false 1 (.t 16)⟩, ⟨(some 18), none, .mv (.t 1)⟩, ⟨(some 19), none, .bin .eql (.t 17) (.t 18)⟩])
  (.keep [1, 5, 6, 9, 10, 11, 19] (.cond (.t 19) (.reg [⟨(some 20), none, .mv (.t 5)⟩, ⟨(some 21), none, .mv (.t 6)⟩, ⟨(some 22), none, .bsl 1 false [(.int .i64 (0))] 1 [(0, (.t 21))]⟩, ⟨(some 23), none, .app 1 8 (.t 20) (.t 22)⟩, ⟨(some 5), none, .mv (.t 23)⟩]) .skip))))))
  (.keep [1, 5, 9, 10, 11] (.reg [⟨(some 24), none, .bin .add (.t 11) (.c (.int .i64 (1)))⟩, ⟨(some 11), none, .mv (.t 24)⟩]))))))) [1, 5, 9, 10, 11]
def A.gram_Of : AFn := ⟨26, [(4, none)], (.seq (.reg [⟨(some 2), none, .box (.t 0)⟩, ⟨(some 4), none, .mv (.c (.sl 0 1 []))⟩])
  (.keep [1, 2] (.seq (.reg [⟨(some 5), none, .mv (.c (.sl 0 1 []))⟩])
  (.keep [1, 2, 5] (.seq (.seq (.reg [⟨(some 8), none, .fa 3 (.t 2)⟩, ⟨(some 9), none, .load false 1 (.t 8)⟩, ⟨(some 10), none, .len false (.t 9)⟩, ⟨(some 11), none, .mv (.c (.int .i64 (0)))⟩])
  (.keep [1, 5, 9, 10, 11] (.block 0 (.loop A.gram_Of.L0))))
  (.keep [5] (.seq (.reg [⟨(some 25), none, .mv (.t 5)⟩, ⟨(some 4), none, .mv (.t 25)⟩]) .ret)))))))⟩
def A.gram_prod : AFn := ⟨11, [(2, (some (true, 2)))], (.seq (.reg [⟨(some 2), none, .alloc [(.int .i64 (0)), (.sl 0 1 [])]⟩])
  (.keep [0, 2] (.seq (.reg [⟨(some 4), none, .mv (.t 0)⟩, ⟨(some 5), none, .call (.c (.fn K.wire_Reader_Num [] [])) [(.t 4), (.c (.int .i64 (23)))]⟩, ⟨(some 6), none, .bld [(.int .i64 (0)), (.sl 0 1 [])] [(0, 1, (.t 5))]⟩, ⟨(some 3), none, .alloc [(.int .i64 (0)), (.sl 0 1 [])]⟩, ⟨none, none, .store 2 (.t 3) (.t 6)⟩])
  (.keep [0, 2, 3] (.seq (.reg [⟨(some 7), none, .mv (.t 0)⟩, ⟨(some 8), none, .call (.c (.fn K.wire_List_Sym [] [])) [(.t 7), (.c (.int .i64 (8))), (.c (.fn K.gram_sym [] []))]⟩, ⟨(some 9), none, .fa 1 (.t 3)⟩, ⟨none, none, .store 1 (.t 9) (.t 8)⟩])
  (.keep [2, 3] (.seq (.reg [⟨(some 10), none, .load true 2 (.t 3)⟩, ⟨none, none, .store 2 (.t 2) (.t 10)⟩]) .ret)))))))⟩
def A.gram_Right_1 : AFn := ⟨8, [(3, none)], (.seq (.reg [⟨(some 2), none, .box (.t 0)⟩, ⟨(some 3), none, .mv (.c (.bool false))⟩])
  (.keep [1, 2] (.seq (.reg [⟨(some 4), none, .load true 4 (.t 1)⟩, ⟨(some 5), none, .load true 2 (.t 2)⟩, ⟨(some 6), none, .call (.c (.fn K.gram_fits [] [])) [(.t 4), (.t 5)]⟩, ⟨(some 7), none, .un .not (.t 6)⟩, ⟨(some 3), none, .mv (.t 7)⟩]) .ret)))⟩
def A.gram_fits : AFn := ⟨23, [(4, none)], (.seq (.reg [⟨(some 2), none, .box (.t 0)⟩, ⟨(some 3), none, .box (.t 1)⟩, ⟨(some 4), none, .mv (.c (.bool false))⟩])
  (.keep [2, 3] (.seq (.reg [⟨(some 5), none, .load true 4 (.t 2)⟩, ⟨(some 6), none, .fa 0 (.t 3)⟩, ⟨(some 7), none, .load false 1 (.t 6)⟩, ⟨(some 8), none, .bld [(.bool false), (.int .i64 (0))] [(0, 1, (.c (.bool true))), (1, 1, (.t 7))]⟩, ⟨(some 9), none, .call (.c (.fn K.gram_there [] [])) [(.t 5), (.t 8)]⟩, ⟨(some 10), none, .mv (.t 9)⟩, ⟨(some 11), (some (10, true)), .fa 1 (.t 3)⟩, ⟨(some 12), (some (10, true)), .load false 1 (.t 11)⟩, ⟨(some 13), (some (10, true)), .len false (.t 12)⟩, ⟨(some 14), (some (10, true)), .bin .leq (.t 13) (.c (.int .i64 (8)))⟩, ⟨(some 15), none, .pick (.t 10) (.t 14) (.c (.bool false))⟩, ⟨(some 16), none, .mv (.t 15)⟩, ⟨(some 17), (some (16, true)), .fa 1 (.t 3)⟩, ⟨(some 18), (some (16, true)), .load false 1 (.t 17)⟩, ⟨(some 19), (some (16, true)), .mkfn K.gram_fits_1 [] [(.t 2)]⟩, ⟨(some 20), (some (16, true)), .call (.c (.fn K.slices_ContainsFunc_Sym [] [])) [(.t 18), (.t 19)]⟩, ⟨(some 21), (some (16, true)), .un .not (.t 20)⟩, ⟨(some 22), none, .pick (.t 16) (.t 21) (.c (.bool false))⟩, ⟨(some 4), none, .mv (.t 22)⟩]) .ret)))⟩
def A.gram_alike : AFn := ⟨17, [(4, none)], (.seq (.reg [⟨(some 2), none, .box (.t 0)⟩, ⟨(some 3), none, .box (.t 1)⟩, ⟨(some 4), none, .mv (.c (.bool false))⟩])
  (.keep [2, 3] (.seq (.reg [⟨(some 5), none, .fa 0 (.t 2)⟩, ⟨(some 6), none, .load false 1 (.t 5)⟩, ⟨(some 7), none, .fa 0 (.t 3)⟩, ⟨(some 8), none, .load false 1 (.t 7)⟩, ⟨(some 9), none, .bin .eql (.t 6) (.t 8)⟩, ⟨(some 10), none, .mv (.t 9)⟩, ⟨(some 11), (some (10, true)), .fa 1 (.t 2)⟩, ⟨(some 12), (some (10, true)), .load false 1 (.t 11)⟩, ⟨(some 13), (some (10, true)), .fa 1 (.t 3)⟩, ⟨(some 14), (some (10, true)), .load false 1 (.t 13)⟩, ⟨(some 15), (some (10, true)), .call (.c (.fn K.slices_Equal_Sym [] [])) [(.t 12), (.t 14)]⟩, ⟨(some 16), none, .pick (.t 10) (.t 15) (.c (.bool false))⟩, ⟨(some 4), none, .mv (.t 16)⟩]) .ret)))⟩
def A.gram_sym : AFn := ⟨12, [(2, (some (true, 2)))], (.seq (.reg [⟨(some 2), none, .alloc [(.bool false), (.int .i64 (0))]⟩])
  (.keep [0, 2] (.seq (.reg [⟨(some 4), none, .mv (.t 0)⟩, ⟨(some 5), none, .call (.c (.fn K.wire_Reader_Num [] [])) [(.t 4), (.c (.int .i64 (47)))]⟩, ⟨(some 3), none, .mv (.t 5)⟩])
  (.keep [2, 3] (.seq (.reg [⟨(some 6), none, .mv (.t 3)⟩, ⟨(some 7), none, .bin .and (.t 6) (.c (.int .i64 (1)))⟩, ⟨(some 8), none, .bin .eql (.t 7) (.c (.int .i64 (1)))⟩, ⟨(some 9), none, .mv (.t 3)⟩, ⟨(some 10), none, .bin .shr (.t 9) (.c (.int .u64 (1)))⟩, ⟨(some 11), none, .bld [(.bool false), (.int .i64 (0))] [(0, 1, (.t 8)), (1, 1, (.t 10))]⟩, ⟨none, none, .store 2 (.t 2) (.t 11)⟩]) .ret)))))⟩
def A.gram_there : AFn := ⟨21, [(4, none)], (.seq (.reg [⟨(some 2), none, .box (.t 0)⟩, ⟨(some 3), none, .box (.t 1)⟩, ⟨(some 4), none, .mv (.c (.bool false))⟩])
  (.keep [2, 3] (.seq (.reg [⟨(some 6), none, .fa 0 (.t 2)⟩, ⟨(some 7), none, .load false 1 (.t 6)⟩, ⟨(some 5), none, .mv (.t 7)⟩])
  (.keep [2, 3, 5] (.seq (.seq (.reg [⟨(some 8), none, .fa 0 (.t 3)⟩, ⟨(some 9), none, .load false 1 (.t 8)⟩])
  (.keep [2, 3, 5, 9] (.cond (.t 9) (.reg [⟨(some 10), none, .fa 1 (.t 2)⟩, ⟨(some 11), none, .load false 1 (.t 10)⟩, ⟨(some 5), none, .mv (.t 11)⟩]) .skip)))
  (.keep [3, 5] (.seq (.reg [⟨(some 12), none, .fa 1 (.t 3)⟩, ⟨(some 13), none, .load false 1 (.t 12)⟩, ⟨(some 14), none, .bin .geq (.t 13) (.c (.int .i64 (0)))⟩, ⟨(some 15), none, .mv (.t 14)⟩, ⟨(some 16), (some (15, true)), .fa 1 (.t 3)⟩, ⟨(some 17), (some (15, true)), .load false 1 (.t 16)⟩, ⟨(some 18), (some (15, true)), .mv (.t 5)⟩, ⟨(some 19), (some (15, true)), .bin .lss (.t 17) (.t 18)⟩, ⟨(some 20), none, .pick (.t 15) (.t 19) (.c (.bool false))⟩, ⟨(some 4), none, .mv (.t 20)⟩]) .ret)))))))⟩
def A.gram_fits_1 : AFn := ⟨8, [(3, none)], (.seq (.reg [⟨(some 2), none, .box (.t 0)⟩, ⟨(some 3), none, .mv (.c (.bool false))⟩])
  (.keep [1, 2] (.seq (.reg [⟨(some 4), none, .load true 4 (.t 1)⟩, ⟨(some 5), none, .load true 2 (.t 2)⟩, ⟨(some 6), none, .call (.c (.fn K.gram_there [] [])) [(.t 4), (.t 5)]⟩, ⟨(some 7), none, .un .not (.t 6)⟩, ⟨(some 3), none, .mv (.t 7)⟩]) .ret)))⟩
end Go.Proofs.Ytmobijebjkjnoaa.Al
