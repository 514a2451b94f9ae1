/-
  What the law RulesBrackets needs of this claim's texts (part 2). Conditions: each theorem's own.
-/
import Derived.Test.YtecgbggobecpjaaAlKeys
import Derived.Test.YtecgbggobecpjaaChecked
import Derived.KernelRfl
import Derived.Test.YtecgbggobecpjaaAlArg
import Derived.Test.YtecgbggobecpjaaAlC
import Derived.Tactics
import Derived.Tactics2
import Derived.Defers
import Derived.Recover
import Derived.Laws.Pointers
import Derived.RegionTactic
import Derived.Test.YtecgbggobecpjaaAlA
import Derived.Test.YtecgbggobecpjaaAlB
import Derived.Test.YtecgbggobecpjaaSh1RulesBrackets
namespace Go.Proofs.Ytecgbggobecpjaa.Al
def A.rules_Right.L1 : AC := .post (.seq (.seq (.reg [⟨(some 59), none, .mv (.t 3)⟩, ⟨(some 60), none, .fa 1 (.t 5)⟩, ⟨(some 61), none, .load false 1 (.t 60)⟩, ⟨(some 62), none, .bin .leq (.t 59) (.t 61)⟩])
  (.keep [1, 3, 5, 6, 26, 27, 28, 62] (.cond (.t 62) .skip (.exit 2))))
  (.keep [1, 3, 5, 6, 26, 27, 28] (.seq (.block 3 (.seq (.reg [⟨(some 65), none, .fa 1 (.t 1)⟩, ⟨(some 66), none, .load false 1 (.t 65)⟩, ⟨(some 67), none, .mv (.t 3)⟩, ⟨(some 68), none, .ia 3 (.t 66) (.t 67)⟩, ⟨(some 69), none, .load true 3 (.t 68)⟩, ⟨(some 7), none, .alloc [(.int .i64 (0)), (.str []), (.sl 0 1 [])]⟩, ⟨none, none, .store 3 (.t 7) (.t 69)⟩])
  (.keep [1, 3, 5, 6, 7, 26, 27, 28] (.seq (.reg [⟨(some 70), none, .mv (.t 6)⟩, ⟨(some 71), none, .len false (.t 70)⟩, ⟨(some 72), none, .fa 2 (.t 7)⟩, ⟨(some 73), none, .load false 1 (.t 72)⟩, ⟨(some 74), none, .len false (.t 73)⟩, ⟨(some 75), none, .bin .sub (.t 71) (.t 74)⟩, ⟨(some 8), none, .mv (.t 75)⟩])
  (.keep [1, 3, 5, 6, 7, 8, 26, 27, 28] (.seq (.seq (.draw [(.pl, ⟨(some 76), none, .load true 2 (.t 1)⟩), (.pl, ⟨(some 77), none, .load true 3 (.t 7)⟩), (.pl, ⟨(some 78), none, .call (.c (.fn K.rules_Tree_fine [] [])) [(.t 76), (.t 77)]⟩), (.pl, ⟨(some 79), none, .un .not (.t 78)⟩), (.pl, ⟨(some 80), none, .mv (.t 79)⟩), (.pl, ⟨(some 81), (some (80, false)), .mv (.t 8)⟩), (.pl, ⟨(some 82), (some (80, false)), .bin .lss (.t 81) (.c (.int .i64 (0)))⟩), (.pl, ⟨(some 83), none, .pick (.t 80) (.c (.bool true)) (.t 82)⟩), (.pl, ⟨(some 84), none, .mv (.t 83)⟩), (.pl, ⟨(some 85), (some (84, false)), .mv (.t 6)⟩), (.pl, ⟨(some 86), (some (84, false)), .mv (.t 8)⟩), (.pl, ⟨(some 87), (some (84, false)), .slc 1 (.t 85) (some (.t 86)) none⟩), (.pl, ⟨(some 88), (some (84, false)), .fa 2 (.t 7)⟩), (.pl, ⟨(some 89), (some (84, false)), .load false 1 (.t 88)⟩), (.pl, ⟨(some 90), (some (84, false)), .call (.c (.fn K.slices_Equal_int [] [])) [(.t 87), (.t 89)]⟩), (.pl, ⟨(some 91), (some (84, false)), .un .not (.t 90)⟩), (.pl, ⟨(some 92), none, .pick (.t 84) (.c (.bool true)) (.t 91)⟩)])
  (.keep [1, 3, 5, 6, 8, 26, 27, 28, 92] (.cond (.t 92) (.seq (.reg [⟨(some 2), none, .mv (.c (.bool false))⟩]) .ret) .skip)))
  (.keep [1, 3, 5, 6, 8, 26, 27, 28] (.reg [⟨(some 93), none, .mv (.t 6)⟩, ⟨(some 94), none, .mv (.t 8)⟩, ⟨(some 95), none, .slc 1 (.t 93) none (some (.t 94))⟩, ⟨(some 96), none, .mv (.t 3)⟩, ⟨(some 97), none, .bsl 1 false [(.int .i64 (0))] 1 [(0, (.t 96))]⟩, ⟨(some 98), none, .app 1 8 (.t 95) (.t 97)⟩, ⟨(some 6), none, .mv (.t 98)⟩]))))))))
  (.keep [1, 3, 5, 6, 26, 27, 28] (.reg [⟨(some 63), none, .mv (.t 3)⟩, ⟨(some 64), none, .bin .add (.t 63) (.c (.int .i64 (1)))⟩, ⟨(some 3), none, .mv (.t 64)⟩]))))) [1, 3, 5, 6, 26, 27, 28]
def A.rules_Right.L0 : AC := .post (.seq (.reg [⟨(some 29), none, .bin .lss (.t 28) (.t 27)⟩])
  (.keep [1, 3, 26, 27, 28, 29] (.seq (.cond (.t 29) .skip (.exit 0))
  (.keep [1, 3, 26, 27, 28] (.seq (.block 1 (.seq (.reg [⟨(some 30), none, .mv (.t 28)⟩, ⟨(some 31), none, .ia 2 (.t 26) (.t 28)⟩, ⟨(some 32), none, .load true 2 (.t 31)⟩, ⟨(some 5), none, .alloc [(.str []), (.int .i64 (0))]⟩, ⟨(some 4), none, .mv (.t 30)⟩, ⟨none, none, .store 2 (.t 5) (.t 32)⟩])
  (.keep [1, 3, 4, 5, 26, 27, 28] (.seq (.seq (.reg [⟨(some 33), none, .fa 0 (.t 5)⟩, ⟨(some 34), none, .load false 1 (.t 33)⟩, ⟨(some 35), none, .call (.c (.fn K.rules_token [] [])) [(.t 34), (.c (.int .i64 (1)))]⟩, ⟨(some 36), none, .un .not (.t 35)⟩, ⟨(some 37), none, .mv (.t 36)⟩, ⟨(some 38), (some (37, false)), .fa 0 (.t 1)⟩, ⟨(some 39), (some (37, false)), .load false 1 (.t 38)⟩, ⟨(some 40), (some (37, false)), .mv (.t 4)⟩, ⟨(some 41), (some (37, false)), .slc 2 (.t 39) none (some (.t 40))⟩, ⟨(some 42), (some (37, false)), .mkfn K.rules_Right_1 [] [(.t 5)]⟩, ⟨(some 43), (some (37, false)), .call (.c (.fn K.slices_ContainsFunc_Rule [] [])) [(.t 41), (.t 42)]⟩, ⟨(some 44), none, .pick (.t 37) (.c (.bool true)) (.t 43)⟩, ⟨(some 45), none, .mv (.t 44)⟩, ⟨(some 46), (some (45, false)), .fa 1 (.t 5)⟩, ⟨(some 47), (some (45, false)), .load false 1 (.t 46)⟩, ⟨(some 48), (some (45, false)), .mv (.t 3)⟩, ⟨(some 49), (some (45, false)), .bin .lss (.t 47) (.t 48)⟩, ⟨(some 50), none, .pick (.t 45) (.c (.bool true)) (.t 49)⟩, ⟨(some 51), none, .mv (.t 50)⟩, ⟨(some 52), (some (51, false)), .fa 1 (.t 5)⟩, ⟨(some 53), (some (51, false)), .load false 1 (.t 52)⟩, ⟨(some 54), (some (51, false)), .fa 1 (.t 1)⟩, ⟨(some 55), (some (51, false)), .load false 1 (.t 54)⟩, ⟨(some 56), (some (51, false)), .len false (.t 55)⟩, ⟨(some 57), (some (51, false)), .bin .geq (.t 53) (.t 56)⟩, ⟨(some 58), none, .pick (.t 51) (.c (.bool true)) (.t 57)⟩])
  (.keep [1, 3, 5, 26, 27, 28, 58] (.cond (.t 58) (.seq (.reg [⟨(some 2), none, .mv (.c (.bool false))⟩]) .ret) .skip)))
  (.keep [1, 3, 5, 26, 27, 28] (.seq (.reg [⟨(some 6), none, .mv (.c (.sl 0 1 []))⟩])
  (.keep [1, 3, 5, 6, 26, 27, 28] (.seq (.block 2 (.loop A.rules_Right.L1))
  (.keep [1, 3, 6, 26, 27, 28] (.seq (.reg [⟨(some 99), none, .mv (.t 6)⟩, ⟨(some 100), none, .len false (.t 99)⟩, ⟨(some 101), none, .bin .neq (.t 100) (.c (.int .i64 (1)))⟩])
  (.keep [1, 3, 26, 27, 28, 101] (.cond (.t 101) (.seq (.reg [⟨(some 2), none, .mv (.c (.bool false))⟩]) .ret) .skip))))))))))))
  (.keep [1, 3, 26, 27, 28] (.reg [⟨(some 102), none, .bin .add (.t 28) (.c (.int .i64 (1)))⟩, ⟨(some 28), none, .mv (.t 102)⟩]))))))) [1, 3, 26, 27, 28]
def A.rules_Right : AFn := ⟨108, [(2, none)], (.seq (.reg [⟨(some 1), none, .box (.t 0)⟩, ⟨(some 2), none, .mv (.c (.bool false))⟩])
  (.keep [1] (.seq (.seq (.reg [⟨(some 9), none, .fa 0 (.t 1)⟩, ⟨(some 10), none, .load false 1 (.t 9)⟩, ⟨(some 11), none, .len false (.t 10)⟩, ⟨(some 12), none, .bin .eql (.t 11) (.c (.int .i64 (0)))⟩, ⟨(some 13), none, .mv (.t 12)⟩, ⟨(some 14), (some (13, false)), .fa 0 (.t 1)⟩, ⟨(some 15), (some (13, false)), .load false 1 (.t 14)⟩, ⟨(some 16), (some (13, false)), .len false (.t 15)⟩, ⟨(some 17), (some (13, false)), .bin .gtr (.t 16) (.c (.int .i64 (24)))⟩, ⟨(some 18), none, .pick (.t 13) (.c (.bool true)) (.t 17)⟩, ⟨(some 19), none, .mv (.t 18)⟩, ⟨(some 20), (some (19, false)), .fa 1 (.t 1)⟩, ⟨(some 21), (some (19, false)), .load false 1 (.t 20)⟩, ⟨(some 22), (some (19, false)), .len false (.t 21)⟩, ⟨(some 23), (some (19, false)), .bin .gtr (.t 22) (.c (.int .i64 (200)))⟩, ⟨(some 24), none, .pick (.t 19) (.c (.bool true)) (.t 23)⟩])
  (.keep [1, 24] (.cond (.t 24) (.seq (.reg [⟨(some 2), none, .mv (.c (.bool false))⟩]) .ret) .skip)))
  (.keep [1] (.seq (.reg [⟨(some 3), none, .mv (.c (.int .i64 (0)))⟩])
  (.keep [1, 3] (.seq (.seq (.reg [⟨(some 25), none, .fa 0 (.t 1)⟩, ⟨(some 26), none, .load false 1 (.t 25)⟩, ⟨(some 27), none, .len false (.t 26)⟩, ⟨(some 28), none, .mv (.c (.int .i64 (0)))⟩])
  (.keep [1, 3, 26, 27, 28] (.block 0 (.loop A.rules_Right.L0))))
  (.keep [1, 3] (.seq (.reg [⟨(some 103), none, .mv (.t 3)⟩, ⟨(some 104), none, .fa 1 (.t 1)⟩, ⟨(some 105), none, .load false 1 (.t 104)⟩, ⟨(some 106), none, .len false (.t 105)⟩, ⟨(some 107), none, .bin .eql (.t 103) (.t 106)⟩, ⟨(some 2), none, .mv (.t 107)⟩]) .ret)))))))))⟩
def A.rules_Read : AFn := ⟨65, [(2, (some (true, 2))), (3, none), (4, none)], (.seq (.reg [⟨(some 2), none, .alloc [(.sl 0 1 []), (.sl 0 1 [])]⟩, ⟨(some 3), none, .mv (.c (.int .i64 (0)))⟩, ⟨(some 4), none, .mv (.c (.int .i64 (0)))⟩])
  (.keep [0, 2] (.seq (.reg [⟨(some 13), none, .mv (.t 0)⟩, ⟨(some 14), none, .call (.c (.fn K.scan_Scan [] [])) [(.t 13)]⟩, ⟨(some 12), none, .mv (.t 14)⟩, ⟨(some 15), none, .ext (.t 12) 0⟩, ⟨(some 16), none, .ext (.t 12) 1⟩, ⟨(some 17), none, .ext (.t 12) 2⟩, ⟨(some 5), none, .mv (.t 15)⟩, ⟨(some 6), none, .mv (.t 16)⟩, ⟨(some 7), none, .mv (.t 17)⟩])
  (.keep [0, 2, 5, 6, 7] (.seq (.seq (.reg [⟨(some 18), none, .mv (.t 7)⟩, ⟨(some 19), none, .bin .neq (.t 18) (.c (.int .i64 (0)))⟩])
  (.keep [0, 2, 5, 6, 7, 19] (.cond (.t 19) (.seq (.reg [⟨(some 20), none, .bld [(.sl 0 1 []), (.sl 0 1 [])] []⟩, ⟨(some 21), none, .mv (.t 6)⟩, ⟨(some 22), none, .mv (.t 7)⟩, ⟨none, none, .store 2 (.t 2) (.t 20)⟩, ⟨(some 3), none, .mv (.t 21)⟩, ⟨(some 4), none, .mv (.t 22)⟩]) .ret) .skip)))
  (.keep [0, 2, 5] (.seq (.reg [⟨(some 23), none, .mv (.t 5)⟩, ⟨(some 24), none, .mv (.t 0)⟩, ⟨(some 25), none, .len true (.t 24)⟩, ⟨(some 26), none, .bld [(.sl 0 1 []), (.int .i64 (0)), (.int .i64 (0)), (.sl 0 1 []), (.sl 0 1 []), (.sl 0 1 []), (.sl 0 1 [])] [(0, 1, (.t 23)), (2, 1, (.t 25))]⟩, ⟨(some 27), none, .box (.t 26)⟩, ⟨(some 8), none, .mv (.t 27)⟩])
  (.keep [2, 8] (.seq (.seq (.reg [⟨(some 28), none, .mv (.t 8)⟩, ⟨(some 29), none, .call (.c (.fn K.rules_reader_parse [] [])) [(.t 28)]⟩, ⟨(some 9), none, .mv (.t 29)⟩])
  (.keep [2, 8, 9] (.seq (.reg [⟨(some 30), none, .mv (.t 9)⟩, ⟨(some 31), none, .bin .geq (.t 30) (.c (.int .i64 (0)))⟩])
  (.keep [2, 8, 9, 31] (.cond (.t 31) (.seq (.reg [⟨(some 32), none, .bld [(.sl 0 1 []), (.sl 0 1 [])] []⟩, ⟨(some 33), none, .mv (.t 9)⟩, ⟨none, none, .store 2 (.t 2) (.t 32)⟩, ⟨(some 3), none, .mv (.t 33)⟩, ⟨(some 4), none, .mv (.c (.int .i64 (2)))⟩]) .ret) .skip)))))
  (.keep [2, 8] (.seq (.seq (.reg [⟨(some 34), none, .mv (.t 8)⟩, ⟨(some 35), none, .nilchk (.t 34)⟩, ⟨(some 36), none, .fa 3 (.t 35)⟩, ⟨(some 37), none, .fa 0 (.t 36)⟩, ⟨(some 38), none, .load false 1 (.t 37)⟩, ⟨(some 39), none, .len false (.t 38)⟩, ⟨(some 40), none, .bin .gtr (.t 39) (.c (.int .i64 (24)))⟩, ⟨(some 41), none, .mv (.t 40)⟩, ⟨(some 42), (some (41, false)), .mv (.t 8)⟩, ⟨(some 43), (some (41, false)), .nilchk (.t 42)⟩, ⟨(some 44), (some (41, false)), .fa 3 (.t 43)⟩, ⟨(some 45), (some (41, false)), .fa 1 (.t 44)⟩, ⟨(some 46), (some (41, false)), .load false 1 (.t 45)⟩, ⟨(some 47), (some (41, false)), .len false (.t 46)⟩, ⟨(some 48), (some (41, false)), .bin .gtr (.t 47) (.c (.int .i64 (200)))⟩, ⟨(some 49), none, .pick (.t 41) (.c (.bool true)) (.t 48)⟩])
  (.keep [2, 8, 49] (.cond (.t 49) (.seq (.reg [⟨(some 50), none, .bld [(.sl 0 1 []), (.sl 0 1 [])] []⟩, ⟨none, none, .store 2 (.t 2) (.t 50)⟩, ⟨(some 3), none, .mv (.c (.int .i64 (0)))⟩, ⟨(some 4), none, .mv (.c (.int .i64 (5)))⟩]) .ret) .skip)))
  (.keep [2, 8] (.seq (.seq (.reg [⟨(some 52), none, .mv (.t 8)⟩, ⟨(some 53), none, .call (.c (.fn K.rules_reader_names [] [])) [(.t 52)]⟩, ⟨(some 51), none, .mv (.t 53)⟩, ⟨(some 54), none, .ext (.t 51) 0⟩, ⟨(some 55), none, .ext (.t 51) 1⟩, ⟨(some 10), none, .mv (.t 54)⟩, ⟨(some 11), none, .mv (.t 55)⟩])
  (.keep [2, 8, 10, 11] (.seq (.reg [⟨(some 56), none, .mv (.t 11)⟩, ⟨(some 57), none, .bin .neq (.t 56) (.c (.int .i64 (0)))⟩])
  (.keep [2, 8, 10, 11, 57] (.cond (.t 57) (.seq (.reg [⟨(some 58), none, .bld [(.sl 0 1 []), (.sl 0 1 [])] []⟩, ⟨(some 59), none, .mv (.t 10)⟩, ⟨(some 60), none, .mv (.t 11)⟩, ⟨none, none, .store 2 (.t 2) (.t 58)⟩, ⟨(some 3), none, .mv (.t 59)⟩, ⟨(some 4), none, .mv (.t 60)⟩]) .ret) .skip)))))
  (.keep [2, 8] (.seq (.reg [⟨(some 61), none, .mv (.t 8)⟩, ⟨(some 62), none, .nilchk (.t 61)⟩, ⟨(some 63), none, .fa 3 (.t 62)⟩, ⟨(some 64), none, .load true 2 (.t 63)⟩, ⟨none, none, .store 2 (.t 2) (.t 64)⟩, ⟨(some 3), none, .mv (.c (.int .i64 (0)))⟩, ⟨(some 4), none, .mv (.c (.int .i64 (0)))⟩]) .ret)))))))))))))))⟩
def A.rules_Same : AFn := ⟨17, [(4, none)], (.seq (.reg [⟨(some 2), none, .box (.t 0)⟩, ⟨(some 3), none, .box (.t 1)⟩, ⟨(some 4), none, .mv (.c (.bool false))⟩])
  (.keep [2, 3] (.seq (.reg [⟨(some 5), none, .fa 0 (.t 2)⟩, ⟨(some 6), none, .load false 1 (.t 5)⟩, ⟨(some 7), none, .fa 0 (.t 3)⟩, ⟨(some 8), none, .load false 1 (.t 7)⟩, ⟨(some 9), none, .call (.c (.fn K.slices_Equal_Rule [] [])) [(.t 6), (.t 8)]⟩, ⟨(some 10), none, .mv (.t 9)⟩, ⟨(some 11), (some (10, true)), .fa 1 (.t 2)⟩, ⟨(some 12), (some (10, true)), .load false 1 (.t 11)⟩, ⟨(some 13), (some (10, true)), .fa 1 (.t 3)⟩, ⟨(some 14), (some (10, true)), .load false 1 (.t 13)⟩, ⟨(some 15), (some (10, true)), .call (.c (.fn K.slices_EqualFunc_Node [] [])) [(.t 12), (.t 14), (.c (.fn K.rules_Same_1 [] []))]⟩, ⟨(some 16), none, .pick (.t 10) (.t 15) (.c (.bool false))⟩, ⟨(some 4), none, .mv (.t 16)⟩]) .ret)))⟩
def A.rules_token : AFn := ⟨48, [(4, none)], (.seq (.reg [⟨(some 4), none, .mv (.c (.bool false))⟩])
  (.keep [0, 1] (.seq (.reg [⟨(some 9), none, .mv (.t 0)⟩, ⟨(some 10), none, .call (.c (.fn K.scan_Scan [] [])) [(.t 9)]⟩, ⟨(some 8), none, .mv (.t 10)⟩, ⟨(some 11), none, .ext (.t 8) 0⟩, ⟨(some 12), none, .ext (.t 8) 1⟩, ⟨(some 13), none, .ext (.t 8) 2⟩, ⟨(some 5), none, .mv (.t 11)⟩, ⟨(some 6), none, .mv (.t 12)⟩, ⟨(some 7), none, .mv (.t 13)⟩])
  (.keep [0, 1, 5, 7] (.seq (.reg [⟨(some 14), none, .mv (.t 7)⟩, ⟨(some 15), none, .bin .eql (.t 14) (.c (.int .i64 (0)))⟩, ⟨(some 16), none, .mv (.t 15)⟩, ⟨(some 17), (some (16, true)), .mv (.t 5)⟩, ⟨(some 18), (some (16, true)), .len false (.t 17)⟩, ⟨(some 19), (some (16, true)), .bin .eql (.t 18) (.c (.int .i64 (1)))⟩, ⟨(some 20), none, .pick (.t 16) (.t 19) (.c (.bool false))⟩, ⟨(some 21), none, .mv (.t 20)⟩, ⟨(some 22), (some (21, true)), .mv (.t 5)⟩, ⟨(some 23), (some (21, true)), .ia 3 (.t 22) (.c (.int .i64 (0)))⟩, ⟨(some 24), (some (21, true)), .fa 0 (.t 23)⟩, ⟨(some 25), (some (21, true)), .load false 1 (.t 24)⟩, ⟨(some 26), (some (21, true)), .mv (.t 1)⟩, ⟨(some 27), (some (21, true)), .bin .eql (.t 25) (.t 26)⟩, ⟨(some 28), none, .pick (.t 21) (.t 27) (.c (.bool false))⟩, ⟨(some 29), none, .mv (.t 28)⟩, ⟨(some 30), (some (29, true)), .mv (.t 5)⟩, ⟨(some 31), (some (29, true)), .ia 3 (.t 30) (.c (.int .i64 (0)))⟩, ⟨(some 32), (some (29, true)), .fa 2 (.t 31)⟩, ⟨(some 33), (some (29, true)), .load false 1 (.t 32)⟩, ⟨(some 34), (some (29, true)), .bin .eql (.t 33) (.c (.int .i64 (0)))⟩, ⟨(some 35), none, .pick (.t 29) (.t 34) (.c (.bool false))⟩, ⟨(some 36), none, .mv (.t 35)⟩, ⟨(some 37), (some (36, true)), .mv (.t 1)⟩, ⟨(some 38), (some (36, true)), .bin .eql (.t 37) (.c (.int .i64 (2)))⟩, ⟨(some 39), (some (36, true)), .mv (.t 38)⟩, ⟨(some 40), (some (39, false)), .mv (.t 5)⟩, ⟨(some 41), (some (39, false)), .ia 3 (.t 40) (.c (.int .i64 (0)))⟩, ⟨(some 42), (some (39, false)), .fa 1 (.t 41)⟩, ⟨(some 43), (some (39, false)), .load false 1 (.t 42)⟩, ⟨(some 44), (some (39, false)), .mv (.t 0)⟩, ⟨(some 45), (some (39, false)), .bin .eql (.t 43) (.t 44)⟩, ⟨(some 46), (some (36, true)), .pick (.t 39) (.c (.bool true)) (.t 45)⟩, ⟨(some 47), none, .pick (.t 36) (.t 46) (.c (.bool false))⟩, ⟨(some 4), none, .mv (.t 47)⟩]) .ret)))))⟩
def A.rules_Right_1 : AFn := ⟨9, [(3, none)], (.seq (.reg [⟨(some 2), none, .box (.t 0)⟩, ⟨(some 3), none, .mv (.c (.bool false))⟩])
  (.keep [1, 2] (.seq (.reg [⟨(some 4), none, .fa 0 (.t 2)⟩, ⟨(some 5), none, .load false 1 (.t 4)⟩, ⟨(some 6), none, .fa 0 (.t 1)⟩, ⟨(some 7), none, .load false 1 (.t 6)⟩, ⟨(some 8), none, .bin .eql (.t 5) (.t 7)⟩, ⟨(some 3), none, .mv (.t 8)⟩]) .ret)))⟩
def A.rules_Same_1 : AFn := ⟨24, [(4, none)], (.seq (.reg [⟨(some 2), none, .box (.t 0)⟩, ⟨(some 3), none, .box (.t 1)⟩, ⟨(some 4), none, .mv (.c (.bool false))⟩])
  (.keep [2, 3] (.seq (.reg [⟨(some 5), none, .fa 0 (.t 2)⟩, ⟨(some 6), none, .load false 1 (.t 5)⟩, ⟨(some 7), none, .fa 0 (.t 3)⟩, ⟨(some 8), none, .load false 1 (.t 7)⟩, ⟨(some 9), none, .bin .eql (.t 6) (.t 8)⟩, ⟨(some 10), none, .mv (.t 9)⟩, ⟨(some 11), (some (10, true)), .fa 1 (.t 2)⟩, ⟨(some 12), (some (10, true)), .load false 1 (.t 11)⟩, ⟨(some 13), (some (10, true)), .fa 1 (.t 3)⟩, ⟨(some 14), (some (10, true)), .load false 1 (.t 13)⟩, ⟨(some 15), (some (10, true)), .bin .eql (.t 12) (.t 14)⟩, ⟨(some 16), none, .pick (.t 10) (.t 15) (.c (.bool false))⟩, ⟨(some 17), none, .mv (.t 16)⟩, ⟨(some 18), (some (17, true)), .fa 2 (.t 2)⟩, ⟨(some 19), (some (17, true)), .load false 1 (.t 18)⟩, ⟨(some 20), (some (17, true)), .fa 2 (.t 3)⟩, ⟨(some 21), (some (17, true)), .load false 1 (.t 20)⟩, ⟨(some 22), (some (17, true)), .call (.c (.fn K.slices_Equal_int [] [])) [(.t 19), (.t 21)]⟩, ⟨(some 23), none, .pick (.t 17) (.t 22) (.c (.bool false))⟩, ⟨(some 4), none, .mv (.t 23)⟩]) .ret)))⟩
def A.rules_Tree_fine_1 : AFn := ⟨9, [(3, none)], (.seq (.reg [⟨(some 2), none, .box (.t 0)⟩, ⟨(some 3), none, .mv (.c (.bool false))⟩])
  (.keep [1, 2] (.seq (.reg [⟨(some 4), none, .fa 0 (.t 2)⟩, ⟨(some 5), none, .load false 1 (.t 4)⟩, ⟨(some 6), none, .fa 1 (.t 1)⟩, ⟨(some 7), none, .load false 1 (.t 6)⟩, ⟨(some 8), none, .bin .eql (.t 5) (.t 7)⟩, ⟨(some 3), none, .mv (.t 8)⟩]) .ret)))⟩
def A.rules_reader_text.L0 : AC := .post (.seq (.seq (.reg [⟨(some 5), none, .mv (.t 2)⟩])
  (.keep [0, 5] (.cond (.t 5) .skip (.exit 0))))
  (.keep [0] (.seq (.block 1 (.seq (.reg [⟨(some 16), none, .mv (.t 0)⟩, ⟨(some 17), none, .call (.c (.fn K.rules_reader_name [] [])) [(.t 16)]⟩, ⟨(some 3), none, .alloc [(.str []), (.int .i64 (0))]⟩, ⟨none, none, .store 2 (.t 3) (.t 17)⟩])
  (.keep [0, 3] (.seq (.draw [(.pl, ⟨(some 18), none, .mv (.t 0)⟩), (.pl, ⟨(some 19), none, .mv (.t 0)⟩), (.pl, ⟨(some 20), none, .nilchk (.t 19)⟩), (.pl, ⟨(some 21), none, .fa 5 (.t 20)⟩), (.pl, ⟨(some 22), none, .load false 1 (.t 21)⟩), (.pl, ⟨(some 23), none, .load true 2 (.t 3)⟩), (.pl, ⟨(some 24), none, .bsl 2 true [(.str []), (.int .i64 (0))] 1 [(0, (.t 23))]⟩), (.eff, ⟨(some 25), none, .app 2 24 (.t 22) (.t 24)⟩), (.pl, ⟨(some 26), none, .nilchk (.t 18)⟩), (.pl, ⟨(some 27), none, .fa 5 (.t 26)⟩), (.eff, ⟨none, none, .store 1 (.t 27) (.t 25)⟩)])
  (.keep [0, 3] (.seq (.reg [⟨(some 28), none, .mv (.t 0)⟩, ⟨(some 29), none, .call (.c (.fn K.rules_reader_must [] [])) [(.t 28), (.c (.str [58]))]⟩])
  (.keep [0, 3] (.seq (.reg [⟨(some 30), none, .mv (.t 0)⟩, ⟨(some 31), none, .call (.c (.fn K.rules_reader_alternatives [] [])) [(.t 30)]⟩, ⟨(some 4), none, .mv (.t 31)⟩])
  (.keep [0, 3, 4] (.seq (.reg [⟨(some 32), none, .mv (.t 0)⟩, ⟨(some 33), none, .call (.c (.fn K.rules_reader_must [] [])) [(.t 32), (.c (.str [59]))]⟩])
  (.keep [0, 3, 4] (.draw [(.pl, ⟨(some 34), none, .mv (.t 0)⟩), (.pl, ⟨(some 35), none, .mv (.t 0)⟩), (.pl, ⟨(some 36), none, .nilchk (.t 35)⟩), (.pl, ⟨(some 37), none, .fa 3 (.t 36)⟩), (.pl, ⟨(some 38), none, .fa 0 (.t 37)⟩), (.pl, ⟨(some 39), none, .load false 1 (.t 38)⟩), (.pl, ⟨(some 40), none, .fa 0 (.t 3)⟩), (.pl, ⟨(some 41), none, .load false 1 (.t 40)⟩), (.pl, ⟨(some 42), none, .mv (.t 4)⟩), (.pl, ⟨(some 43), none, .bld [(.str []), (.int .i64 (0))] [(0, 1, (.t 41)), (1, 1, (.t 42))]⟩), (.pl, ⟨(some 44), none, .bsl 2 true [(.str []), (.int .i64 (0))] 1 [(0, (.t 43))]⟩), (.eff, ⟨(some 45), none, .app 2 24 (.t 39) (.t 44)⟩), (.pl, ⟨(some 46), none, .nilchk (.t 34)⟩), (.pl, ⟨(some 47), none, .fa 3 (.t 46)⟩), (.pl, ⟨(some 48), none, .fa 0 (.t 47)⟩), (.eff, ⟨none, none, .store 1 (.t 48) (.t 45)⟩)]))))))))))))
  (.keep [0] (.draw [(.pl, ⟨(some 6), none, .mv (.t 0)⟩), (.pl, ⟨(some 7), none, .nilchk (.t 6)⟩), (.pl, ⟨(some 8), none, .fa 1 (.t 7)⟩), (.pl, ⟨(some 9), none, .load false 1 (.t 8)⟩), (.pl, ⟨(some 10), none, .mv (.t 0)⟩), (.pl, ⟨(some 11), none, .nilchk (.t 10)⟩), (.pl, ⟨(some 12), none, .fa 0 (.t 11)⟩), (.pl, ⟨(some 13), none, .load false 1 (.t 12)⟩), (.pl, ⟨(some 14), none, .len false (.t 13)⟩), (.pl, ⟨(some 15), none, .bin .lss (.t 9) (.t 14)⟩), (.pl, ⟨(some 2), none, .mv (.t 15)⟩)]))))) [0, 2]
def A.rules_reader_text : AFn := ⟨49, [], (.seq (.reg [⟨(some 2), none, .mv (.c (.bool true))⟩])
  (.keep [0, 2] (.block 0 (.loop A.rules_reader_text.L0))))⟩
def A.rules_reader_name : AFn := ⟨52, [(2, (some (true, 2)))], (.seq (.reg [⟨(some 2), none, .alloc [(.str []), (.int .i64 (0))]⟩])
  (.keep [0, 2] (.seq (.seq (.draw [(.pl, ⟨(some 4), none, .mv (.t 0)⟩), (.pl, ⟨(some 5), none, .nilchk (.t 4)⟩), (.pl, ⟨(some 6), none, .fa 1 (.t 5)⟩), (.pl, ⟨(some 7), none, .load false 1 (.t 6)⟩), (.pl, ⟨(some 8), none, .mv (.t 0)⟩), (.pl, ⟨(some 9), none, .nilchk (.t 8)⟩), (.pl, ⟨(some 10), none, .fa 0 (.t 9)⟩), (.pl, ⟨(some 11), none, .load false 1 (.t 10)⟩), (.pl, ⟨(some 12), none, .len false (.t 11)⟩), (.pl, ⟨(some 13), none, .bin .geq (.t 7) (.t 12)⟩), (.pl, ⟨(some 14), none, .mv (.t 13)⟩), (.pl, ⟨(some 15), (some (14, false)), .mv (.t 0)⟩), (.pl, ⟨(some 16), (some (14, false)), .nilchk (.t 15)⟩), (.pl, ⟨(some 17), (some (14, false)), .fa 0 (.t 16)⟩), (.pl, ⟨(some 18), (some (14, false)), .load false 1 (.t 17)⟩), (.pl, ⟨(some 19), (some (14, false)), .mv (.t 0)⟩), (.pl, ⟨(some 20), (some (14, false)), .nilchk (.t 19)⟩), (.pl, ⟨(some 21), (some (14, false)), .fa 1 (.t 20)⟩), (.pl, ⟨(some 22), (some (14, false)), .load false 1 (.t 21)⟩), (.pl, ⟨(some 23), (some (14, false)), .ia 3 (.t 18) (.t 22)⟩), (.pl, ⟨(some 24), (some (14, false)), .fa 0 (.t 23)⟩), (.pl, ⟨(some 25), (some (14, false)), .load false 1 (.t 24)⟩), (.pl, ⟨(some 26), (some (14, false)), .bin .neq (.t 25) (.c (.int .i64 (1)))⟩), (.pl, ⟨(some 27), none, .pick (.t 14) (.c (.bool true)) (.t 26)⟩)])
  (.keep [0, 2, 27] (.cond (.t 27) (.reg [⟨(some 28), none, .mv (.t 0)⟩, ⟨(some 29), none, .call (.c (.fn K.rules_reader_fail [] [])) [(.t 28)]⟩]) .skip)))
  (.keep [0, 2] (.seq (.draw [(.pl, ⟨(some 30), none, .mv (.t 0)⟩), (.pl, ⟨(some 31), none, .nilchk (.t 30)⟩), (.pl, ⟨(some 32), none, .fa 0 (.t 31)⟩), (.fl, ⟨(some 33), none, .load false 1 (.t 32)⟩), (.pl, ⟨(some 34), none, .mv (.t 0)⟩), (.pl, ⟨(some 35), none, .nilchk (.t 34)⟩), (.pl, ⟨(some 36), none, .fa 1 (.t 35)⟩), (.fl, ⟨(some 37), none, .load false 1 (.t 36)⟩), (.pl, ⟨(some 38), none, .ia 3 (.t 33) (.t 37)⟩), (.fl, ⟨(some 39), none, .load true 3 (.t 38)⟩), (.eff, ⟨(some 3), none, .alloc [(.int .i64 (0)), (.str []), (.int .i64 (0))]⟩), (.efo, ⟨none, none, .store 3 (.t 3) (.t 39)⟩)])
  (.keep [0, 2, 3] (.seq (.reg [⟨(some 40), none, .mv (.t 0)⟩, ⟨(some 41), none, .nilchk (.t 40)⟩, ⟨(some 42), none, .fa 1 (.t 41)⟩, ⟨(some 43), none, .load false 1 (.t 42)⟩, ⟨(some 44), none, .bin .add (.t 43) (.c (.int .i64 (1)))⟩, ⟨(some 45), none, .nilchk (.t 40)⟩, ⟨(some 46), none, .fa 1 (.t 45)⟩, ⟨none, none, .store 1 (.t 46) (.t 44)⟩])
  (.keep [2, 3] (.seq (.reg [⟨(some 47), none, .fa 1 (.t 3)⟩, ⟨(some 48), none, .load false 1 (.t 47)⟩, ⟨(some 49), none, .fa 2 (.t 3)⟩, ⟨(some 50), none, .load false 1 (.t 49)⟩, ⟨(some 51), none, .bld [(.str []), (.int .i64 (0))] [(0, 1, (.t 48)), (1, 1, (.t 50))]⟩, ⟨none, none, .store 2 (.t 2) (.t 51)⟩]) .ret)))))))))⟩
def A.rules_reader_must : AFn := ⟨10, [], (.seq (.reg [⟨(some 4), none, .mv (.t 0)⟩, ⟨(some 5), none, .mv (.t 1)⟩, ⟨(some 6), none, .call (.c (.fn K.rules_reader_take [] [])) [(.t 4), (.t 5)]⟩, ⟨(some 7), none, .un .not (.t 6)⟩])
  (.keep [0, 7] (.cond (.t 7) (.reg [⟨(some 8), none, .mv (.t 0)⟩, ⟨(some 9), none, .call (.c (.fn K.rules_reader_fail [] [])) [(.t 8)]⟩]) .skip)))⟩
def A.rules_reader_alternatives.L1 : AC := .post (.seq (.seq (.reg [⟨(some 9), none, .mv (.t 0)⟩, ⟨(some 10), none, .call (.c (.fn K.rules_reader_begins [] [])) [(.t 9)]⟩])
  (.keep [0, 3, 5, 10] (.cond (.t 10) .skip (.exit 2))))
  (.keep [0, 3, 5] (.block 3 (.reg [⟨(some 11), none, .mv (.t 5)⟩, ⟨(some 12), none, .mv (.t 0)⟩, ⟨(some 13), none, .call (.c (.fn K.rules_reader_item [] [])) [(.t 12)]⟩, ⟨(some 14), none, .bsl 1 false [(.int .i64 (0))] 1 [(0, (.t 13))]⟩, ⟨(some 15), none, .app 1 8 (.t 11) (.t 14)⟩, ⟨(some 5), none, .mv (.t 15)⟩])))) [0, 3, 5]
def A.rules_reader_alternatives.L0 : AC := .post (.seq (.seq (.reg [⟨(some 6), none, .mv (.t 4)⟩])
  (.keep [0, 3, 6] (.cond (.t 6) .skip (.exit 0))))
  (.keep [0, 3] (.seq (.block 1 (.seq (.reg [⟨(some 5), none, .mv (.c (.sl 0 1 []))⟩])
  (.keep [0, 3, 5] (.seq (.block 2 (.loop A.rules_reader_alternatives.L1))
  (.keep [0, 3, 5] (.reg [⟨(some 16), none, .mv (.t 3)⟩, ⟨(some 17), none, .mv (.t 0)⟩, ⟨(some 18), none, .mv (.t 5)⟩, ⟨(some 19), none, .call (.c (.fn K.rules_reader_one [] [])) [(.t 17), (.c (.int .i64 (1))), (.t 18)]⟩, ⟨(some 20), none, .bsl 1 false [(.int .i64 (0))] 1 [(0, (.t 19))]⟩, ⟨(some 21), none, .app 1 8 (.t 16) (.t 20)⟩, ⟨(some 3), none, .mv (.t 21)⟩]))))))
  (.keep [0, 3] (.reg [⟨(some 7), none, .mv (.t 0)⟩, ⟨(some 8), none, .call (.c (.fn K.rules_reader_take [] [])) [(.t 7), (.c (.str [124]))]⟩, ⟨(some 4), none, .mv (.t 8)⟩]))))) [0, 3, 4]
def A.rules_reader_alternatives : AFn := ⟨25, [(2, none)], (.seq (.reg [⟨(some 2), none, .mv (.c (.int .i64 (0)))⟩])
  (.keep [0] (.seq (.reg [⟨(some 3), none, .mv (.c (.sl 0 1 []))⟩])
  (.keep [0, 3] (.seq (.seq (.reg [⟨(some 4), none, .mv (.c (.bool true))⟩])
  (.keep [0, 3, 4] (.block 0 (.loop A.rules_reader_alternatives.L0))))
  (.keep [0, 3] (.seq (.reg [⟨(some 22), none, .mv (.t 0)⟩, ⟨(some 23), none, .mv (.t 3)⟩, ⟨(some 24), none, .call (.c (.fn K.rules_reader_one [] [])) [(.t 22), (.c (.int .i64 (2))), (.t 23)]⟩, ⟨(some 2), none, .mv (.t 24)⟩]) .ret)))))))⟩
def A.rules_reader_take : AFn := ⟨18, [(4, none)], (.seq (.reg [⟨(some 4), none, .mv (.c (.bool false))⟩])
  (.keep [0, 1] (.seq (.reg [⟨(some 6), none, .mv (.t 0)⟩, ⟨(some 7), none, .mv (.t 1)⟩, ⟨(some 8), none, .call (.c (.fn K.rules_reader_ahead [] [])) [(.t 6), (.t 7)]⟩, ⟨(some 5), none, .mv (.t 8)⟩])
  (.keep [0, 5] (.seq (.seq (.reg [⟨(some 9), none, .mv (.t 5)⟩])
  (.keep [0, 5, 9] (.cond (.t 9) (.reg [⟨(some 10), none, .mv (.t 0)⟩, ⟨(some 11), none, .nilchk (.t 10)⟩, ⟨(some 12), none, .fa 1 (.t 11)⟩, ⟨(some 13), none, .load false 1 (.t 12)⟩, ⟨(some 14), none, .bin .add (.t 13) (.c (.int .i64 (1)))⟩, ⟨(some 15), none, .nilchk (.t 10)⟩, ⟨(some 16), none, .fa 1 (.t 15)⟩, ⟨none, none, .store 1 (.t 16) (.t 14)⟩]) .skip)))
  (.keep [5] (.seq (.reg [⟨(some 17), none, .mv (.t 5)⟩, ⟨(some 4), none, .mv (.t 17)⟩]) .ret)))))))⟩
def A.rules_reader_begins : AFn := ⟨31, [(2, none)], (.seq (.reg [⟨(some 2), none, .mv (.c (.bool false))⟩])
  (.keep [0] (.seq (.draw [(.pl, ⟨(some 3), none, .mv (.t 0)⟩), (.pl, ⟨(some 4), none, .nilchk (.t 3)⟩), (.pl, ⟨(some 5), none, .fa 1 (.t 4)⟩), (.pl, ⟨(some 6), none, .load false 1 (.t 5)⟩), (.pl, ⟨(some 7), none, .mv (.t 0)⟩), (.pl, ⟨(some 8), none, .nilchk (.t 7)⟩), (.pl, ⟨(some 9), none, .fa 0 (.t 8)⟩), (.pl, ⟨(some 10), none, .load false 1 (.t 9)⟩), (.pl, ⟨(some 11), none, .len false (.t 10)⟩), (.pl, ⟨(some 12), none, .bin .lss (.t 6) (.t 11)⟩), (.pl, ⟨(some 13), none, .mv (.t 12)⟩), (.pl, ⟨(some 14), (some (13, true)), .mv (.t 0)⟩), (.pl, ⟨(some 15), (some (13, true)), .nilchk (.t 14)⟩), (.pl, ⟨(some 16), (some (13, true)), .fa 0 (.t 15)⟩), (.pl, ⟨(some 17), (some (13, true)), .load false 1 (.t 16)⟩), (.pl, ⟨(some 18), (some (13, true)), .mv (.t 0)⟩), (.pl, ⟨(some 19), (some (13, true)), .nilchk (.t 18)⟩), (.pl, ⟨(some 20), (some (13, true)), .fa 1 (.t 19)⟩), (.pl, ⟨(some 21), (some (13, true)), .load false 1 (.t 20)⟩), (.pl, ⟨(some 22), (some (13, true)), .ia 3 (.t 17) (.t 21)⟩), (.pl, ⟨(some 23), (some (13, true)), .fa 0 (.t 22)⟩), (.pl, ⟨(some 24), (some (13, true)), .load false 1 (.t 23)⟩), (.pl, ⟨(some 25), (some (13, true)), .bin .neq (.t 24) (.c (.int .i64 (3)))⟩), (.pl, ⟨(some 26), (some (13, true)), .mv (.t 25)⟩), (.pl, ⟨(some 27), (some (26, false)), .mv (.t 0)⟩), (.pl, ⟨(some 28), (some (26, false)), .call (.c (.fn K.rules_reader_ahead [] [])) [(.t 27), (.c (.str [40]))]⟩), (.pl, ⟨(some 29), (some (13, true)), .pick (.t 26) (.c (.bool true)) (.t 28)⟩), (.pl, ⟨(some 30), none, .pick (.t 13) (.t 29) (.c (.bool false))⟩), (.pl, ⟨(some 2), none, .mv (.t 30)⟩)]) .ret)))⟩
def A.rules_reader_item : AFn := ⟨28, [(2, none)], (.seq (.reg [⟨(some 2), none, .mv (.c (.int .i64 (0)))⟩])
  (.keep [0] (.seq (.reg [⟨(some 4), none, .mv (.t 0)⟩, ⟨(some 5), none, .call (.c (.fn K.rules_reader_atom [] [])) [(.t 4)]⟩, ⟨(some 3), none, .mv (.t 5)⟩])
  (.keep [0, 3] (.seq (.block 0 (.seq (.reg [⟨(some 7), none, .mv (.t 0)⟩, ⟨(some 8), none, .call (.c (.fn K.rules_reader_take [] [])) [(.t 7), (.c (.str [42]))]⟩, ⟨(some 6), none, .mv (.t 8)⟩])
  (.keep [0, 3, 6] (.cond (.t 6) (.seq (.reg [⟨(some 9), none, .mv (.t 0)⟩, ⟨(some 10), none, .mv (.t 3)⟩, ⟨(some 11), none, .bsl 1 false [(.int .i64 (0))] 1 [(0, (.t 10))]⟩, ⟨(some 12), none, .call (.c (.fn K.rules_reader_node [] [])) [(.t 9), (.c (.int .i64 (3))), (.c (.str [])), (.t 11)]⟩, ⟨(some 2), none, .mv (.t 12)⟩]) .ret) (.seq (.reg [⟨(some 14), none, .mv (.t 0)⟩, ⟨(some 15), none, .call (.c (.fn K.rules_reader_take [] [])) [(.t 14), (.c (.str [43]))]⟩, ⟨(some 13), none, .mv (.t 15)⟩])
  (.keep [0, 3, 13] (.cond (.t 13) (.seq (.reg [⟨(some 16), none, .mv (.t 0)⟩, ⟨(some 17), none, .mv (.t 3)⟩, ⟨(some 18), none, .bsl 1 false [(.int .i64 (0))] 1 [(0, (.t 17))]⟩, ⟨(some 19), none, .call (.c (.fn K.rules_reader_node [] [])) [(.t 16), (.c (.int .i64 (4))), (.c (.str [])), (.t 18)]⟩, ⟨(some 2), none, .mv (.t 19)⟩]) .ret) (.seq (.reg [⟨(some 21), none, .mv (.t 0)⟩, ⟨(some 22), none, .call (.c (.fn K.rules_reader_take [] [])) [(.t 21), (.c (.str [63]))]⟩, ⟨(some 20), none, .mv (.t 22)⟩])
  (.keep [0, 3, 20] (.cond (.t 20) (.seq (.reg [⟨(some 23), none, .mv (.t 0)⟩, ⟨(some 24), none, .mv (.t 3)⟩, ⟨(some 25), none, .bsl 1 false [(.int .i64 (0))] 1 [(0, (.t 24))]⟩, ⟨(some 26), none, .call (.c (.fn K.rules_reader_node [] [])) [(.t 23), (.c (.int .i64 (5))), (.c (.str [])), (.t 25)]⟩, ⟨(some 2), none, .mv (.t 26)⟩]) .ret) .skip))))))))))
  (.keep [3] (.seq (.reg [⟨(some 27), none, .mv (.t 3)⟩, ⟨(some 2), none, .mv (.t 27)⟩]) .ret)))))))⟩
def A.rules_reader_one : AFn := ⟨17, [(6, none)], (.seq (.reg [⟨(some 6), none, .mv (.c (.int .i64 (0)))⟩])
  (.keep [0, 1, 2] (.seq (.seq (.reg [⟨(some 7), none, .mv (.t 2)⟩, ⟨(some 8), none, .len false (.t 7)⟩, ⟨(some 9), none, .bin .eql (.t 8) (.c (.int .i64 (1)))⟩])
  (.keep [0, 1, 2, 9] (.cond (.t 9) (.seq (.reg [⟨(some 10), none, .mv (.t 2)⟩, ⟨(some 11), none, .ia 1 (.t 10) (.c (.int .i64 (0)))⟩, ⟨(some 12), none, .load false 1 (.t 11)⟩, ⟨(some 6), none, .mv (.t 12)⟩]) .ret) .skip)))
  (.keep [0, 1, 2] (.seq (.reg [⟨(some 13), none, .mv (.t 0)⟩, ⟨(some 14), none, .mv (.t 1)⟩, ⟨(some 15), none, .mv (.t 2)⟩, ⟨(some 16), none, .call (.c (.fn K.rules_reader_node [] [])) [(.t 13), (.t 14), (.c (.str [])), (.t 15)]⟩, ⟨(some 6), none, .mv (.t 16)⟩]) .ret)))))⟩
def A.rules_reader_ahead : AFn := ⟨44, [(4, none)], (.seq (.reg [⟨(some 4), none, .mv (.c (.bool false))⟩])
  (.keep [0, 1] (.seq (.draw [(.pl, ⟨(some 5), none, .mv (.t 0)⟩), (.pl, ⟨(some 6), none, .nilchk (.t 5)⟩), (.pl, ⟨(some 7), none, .fa 1 (.t 6)⟩), (.pl, ⟨(some 8), none, .load false 1 (.t 7)⟩), (.pl, ⟨(some 9), none, .mv (.t 0)⟩), (.pl, ⟨(some 10), none, .nilchk (.t 9)⟩), (.pl, ⟨(some 11), none, .fa 0 (.t 10)⟩), (.pl, ⟨(some 12), none, .load false 1 (.t 11)⟩), (.pl, ⟨(some 13), none, .len false (.t 12)⟩), (.pl, ⟨(some 14), none, .bin .lss (.t 8) (.t 13)⟩), (.pl, ⟨(some 15), none, .mv (.t 14)⟩), (.pl, ⟨(some 16), (some (15, true)), .mv (.t 0)⟩), (.pl, ⟨(some 17), (some (15, true)), .nilchk (.t 16)⟩), (.pl, ⟨(some 18), (some (15, true)), .fa 0 (.t 17)⟩), (.pl, ⟨(some 19), (some (15, true)), .load false 1 (.t 18)⟩), (.pl, ⟨(some 20), (some (15, true)), .mv (.t 0)⟩), (.pl, ⟨(some 21), (some (15, true)), .nilchk (.t 20)⟩), (.pl, ⟨(some 22), (some (15, true)), .fa 1 (.t 21)⟩), (.pl, ⟨(some 23), (some (15, true)), .load false 1 (.t 22)⟩), (.pl, ⟨(some 24), (some (15, true)), .ia 3 (.t 19) (.t 23)⟩), (.pl, ⟨(some 25), (some (15, true)), .fa 0 (.t 24)⟩), (.pl, ⟨(some 26), (some (15, true)), .load false 1 (.t 25)⟩), (.pl, ⟨(some 27), (some (15, true)), .bin .eql (.t 26) (.c (.int .i64 (3)))⟩), (.pl, ⟨(some 28), none, .pick (.t 15) (.t 27) (.c (.bool false))⟩), (.pl, ⟨(some 29), none, .mv (.t 28)⟩), (.pl, ⟨(some 30), (some (29, true)), .mv (.t 0)⟩), (.pl, ⟨(some 31), (some (29, true)), .nilchk (.t 30)⟩), (.pl, ⟨(some 32), (some (29, true)), .fa 0 (.t 31)⟩), (.pl, ⟨(some 33), (some (29, true)), .load false 1 (.t 32)⟩), (.pl, ⟨(some 34), (some (29, true)), .mv (.t 0)⟩), (.pl, ⟨(some 35), (some (29, true)), .nilchk (.t 34)⟩), (.pl, ⟨(some 36), (some (29, true)), .fa 1 (.t 35)⟩), (.pl, ⟨(some 37), (some (29, true)), .load false 1 (.t 36)⟩), (.pl, ⟨(some 38), (some (29, true)), .ia 3 (.t 33) (.t 37)⟩), (.pl, ⟨(some 39), (some (29, true)), .fa 1 (.t 38)⟩), (.pl, ⟨(some 40), (some (29, true)), .load false 1 (.t 39)⟩), (.pl, ⟨(some 41), (some (29, true)), .mv (.t 1)⟩), (.pl, ⟨(some 42), (some (29, true)), .bin .eql (.t 40) (.t 41)⟩), (.pl, ⟨(some 43), none, .pick (.t 29) (.t 42) (.c (.bool false))⟩), (.pl, ⟨(some 4), none, .mv (.t 43)⟩)]) .ret)))⟩
def A.rules_reader_atom : AFn := ⟨53, [(2, none)], (.seq (.reg [⟨(some 2), none, .mv (.c (.int .i64 (0)))⟩])
  (.keep [0] (.seq (.seq (.reg [⟨(some 6), none, .mv (.t 0)⟩, ⟨(some 7), none, .call (.c (.fn K.rules_reader_take [] [])) [(.t 6), (.c (.str [40]))]⟩])
  (.keep [0, 7] (.cond (.t 7) (.seq (.reg [⟨(some 8), none, .mv (.t 0)⟩, ⟨(some 9), none, .call (.c (.fn K.rules_reader_alternatives [] [])) [(.t 8)]⟩, ⟨(some 3), none, .mv (.t 9)⟩])
  (.keep [0, 3] (.seq (.reg [⟨(some 10), none, .mv (.t 0)⟩, ⟨(some 11), none, .call (.c (.fn K.rules_reader_must [] [])) [(.t 10), (.c (.str [41]))]⟩])
  (.keep [3] (.seq (.reg [⟨(some 12), none, .mv (.t 3)⟩, ⟨(some 2), none, .mv (.t 12)⟩]) .ret))))) .skip)))
  (.keep [0] (.seq (.seq (.draw [(.pl, ⟨(some 13), none, .mv (.t 0)⟩), (.pl, ⟨(some 14), none, .nilchk (.t 13)⟩), (.pl, ⟨(some 15), none, .fa 0 (.t 14)⟩), (.fl, ⟨(some 16), none, .load false 1 (.t 15)⟩), (.pl, ⟨(some 17), none, .mv (.t 0)⟩), (.pl, ⟨(some 18), none, .nilchk (.t 17)⟩), (.pl, ⟨(some 19), none, .fa 1 (.t 18)⟩), (.fl, ⟨(some 20), none, .load false 1 (.t 19)⟩), (.pl, ⟨(some 21), none, .ia 3 (.t 16) (.t 20)⟩), (.fl, ⟨(some 22), none, .load true 3 (.t 21)⟩), (.eff, ⟨(some 4), none, .alloc [(.int .i64 (0)), (.str []), (.int .i64 (0))]⟩), (.efo, ⟨none, none, .store 3 (.t 4) (.t 22)⟩)])
  (.keep [0, 4] (.seq (.reg [⟨(some 23), none, .fa 0 (.t 4)⟩, ⟨(some 24), none, .load false 1 (.t 23)⟩, ⟨(some 25), none, .bin .eql (.t 24) (.c (.int .i64 (2)))⟩])
  (.keep [0, 4, 25] (.cond (.t 25) (.seq (.reg [⟨(some 26), none, .mv (.t 0)⟩, ⟨(some 27), none, .nilchk (.t 26)⟩, ⟨(some 28), none, .fa 1 (.t 27)⟩, ⟨(some 29), none, .load false 1 (.t 28)⟩, ⟨(some 30), none, .bin .add (.t 29) (.c (.int .i64 (1)))⟩, ⟨(some 31), none, .nilchk (.t 26)⟩, ⟨(some 32), none, .fa 1 (.t 31)⟩, ⟨none, none, .store 1 (.t 32) (.t 30)⟩])
  (.keep [0, 4] (.seq (.reg [⟨(some 33), none, .mv (.t 0)⟩, ⟨(some 34), none, .fa 1 (.t 4)⟩, ⟨(some 35), none, .load false 1 (.t 34)⟩, ⟨(some 36), none, .call (.c (.fn K.rules_reader_node [] [])) [(.t 33), (.c (.int .i64 (7))), (.t 35), (.c (.sl 0 1 []))]⟩, ⟨(some 2), none, .mv (.t 36)⟩]) .ret))) .skip)))))
  (.keep [0] (.seq (.reg [⟨(some 37), none, .mv (.t 0)⟩, ⟨(some 38), none, .call (.c (.fn K.rules_reader_name [] [])) [(.t 37)]⟩, ⟨(some 5), none, .alloc [(.str []), (.int .i64 (0))]⟩, ⟨none, none, .store 2 (.t 5) (.t 38)⟩])
  (.keep [0, 5] (.seq (.draw [(.pl, ⟨(some 39), none, .mv (.t 0)⟩), (.pl, ⟨(some 40), none, .mv (.t 0)⟩), (.pl, ⟨(some 41), none, .nilchk (.t 40)⟩), (.pl, ⟨(some 42), none, .fa 6 (.t 41)⟩), (.pl, ⟨(some 43), none, .load false 1 (.t 42)⟩), (.pl, ⟨(some 44), none, .load true 2 (.t 5)⟩), (.pl, ⟨(some 45), none, .bsl 2 true [(.str []), (.int .i64 (0))] 1 [(0, (.t 44))]⟩), (.eff, ⟨(some 46), none, .app 2 24 (.t 43) (.t 45)⟩), (.pl, ⟨(some 47), none, .nilchk (.t 39)⟩), (.pl, ⟨(some 48), none, .fa 6 (.t 47)⟩), (.eff, ⟨none, none, .store 1 (.t 48) (.t 46)⟩)])
  (.keep [0, 5] (.seq (.reg [⟨(some 49), none, .mv (.t 0)⟩, ⟨(some 50), none, .fa 0 (.t 5)⟩, ⟨(some 51), none, .load false 1 (.t 50)⟩, ⟨(some 52), none, .call (.c (.fn K.rules_reader_node [] [])) [(.t 49), (.c (.int .i64 (6))), (.t 51), (.c (.sl 0 1 []))]⟩, ⟨(some 2), none, .mv (.t 52)⟩]) .ret)))))))))))⟩
def A.rules_reader_node : AFn := ⟨31, [(8, none)], (.seq (.reg [⟨(some 8), none, .mv (.c (.int .i64 (0)))⟩])
  (.keep [0, 1, 2, 3] (.seq (.reg [⟨(some 9), none, .mv (.t 0)⟩, ⟨(some 10), none, .mv (.t 0)⟩, ⟨(some 11), none, .nilchk (.t 10)⟩, ⟨(some 12), none, .fa 3 (.t 11)⟩, ⟨(some 13), none, .fa 1 (.t 12)⟩, ⟨(some 14), none, .load false 1 (.t 13)⟩, ⟨(some 15), none, .mv (.t 1)⟩, ⟨(some 16), none, .mv (.t 2)⟩, ⟨(some 17), none, .mv (.t 3)⟩, ⟨(some 18), none, .bld [(.int .i64 (0)), (.str []), (.sl 0 1 [])] [(0, 1, (.t 15)), (1, 1, (.t 16)), (2, 1, (.t 17))]⟩, ⟨(some 19), none, .bsl 3 true [(.int .i64 (0)), (.str []), (.sl 0 1 [])] 1 [(0, (.t 18))]⟩, ⟨(some 20), none, .app 3 48 (.t 14) (.t 19)⟩, ⟨(some 21), none, .nilchk (.t 9)⟩, ⟨(some 22), none, .fa 3 (.t 21)⟩, ⟨(some 23), none, .fa 1 (.t 22)⟩, ⟨none, none, .store 1 (.t 23) (.t 20)⟩])
  (.keep [0] (.seq (.reg [⟨(some 24), none, .mv (.t 0)⟩, ⟨(some 25), none, .nilchk (.t 24)⟩, ⟨(some 26), none, .fa 3 (.t 25)⟩, ⟨(some 27), none, .fa 1 (.t 26)⟩, ⟨(some 28), none, .load false 1 (.t 27)⟩, ⟨(some 29), none, .len false (.t 28)⟩, ⟨(some 30), none, .bin .sub (.t 29) (.c (.int .i64 (1)))⟩, ⟨(some 8), none, .mv (.t 30)⟩]) .ret)))))⟩
def A.rules_Tree_fine : AFn := ⟨68, [(4, none)], (.seq (.reg [⟨(some 2), none, .box (.t 0)⟩, ⟨(some 3), none, .box (.t 1)⟩, ⟨(some 4), none, .mv (.c (.bool false))⟩])
  (.keep [2, 3] (.seq (.reg [⟨(some 6), none, .fa 2 (.t 3)⟩, ⟨(some 7), none, .load false 1 (.t 6)⟩, ⟨(some 8), none, .len false (.t 7)⟩, ⟨(some 5), none, .mv (.t 8)⟩])
  (.keep [2, 3, 5] (.seq (.seq (.reg [⟨(some 9), none, .fa 0 (.t 3)⟩, ⟨(some 10), none, .load false 1 (.t 9)⟩])
  (.keep [2, 3, 5, 10] (.block 0 (.seq (.reg [⟨(some 12), none, .bin .eql (.t 10) (.c (.int .i64 (1)))⟩, ⟨(some 11), none, .mv (.t 12)⟩])
  (.keep [2, 3, 5, 10, 11] (.cond (.t 11) (.seq (.reg [⟨(some 13), none, .fa 1 (.t 3)⟩, ⟨(some 14), none, .load false 1 (.t 13)⟩, ⟨(some 15), none, .bin .eql (.t 14) (.c (.str []))⟩, ⟨(some 16), none, .mv (.t 15)⟩, ⟨(some 17), (some (16, true)), .mv (.t 5)⟩, ⟨(some 18), (some (16, true)), .bin .neq (.t 17) (.c (.int .i64 (1)))⟩, ⟨(some 19), none, .pick (.t 16) (.t 18) (.c (.bool false))⟩, ⟨(some 4), none, .mv (.t 19)⟩]) .ret) (.seq (.reg [⟨(some 21), none, .bin .eql (.t 10) (.c (.int .i64 (2)))⟩, ⟨(some 20), none, .mv (.t 21)⟩])
  (.keep [2, 3, 5, 10, 20] (.cond (.t 20) (.seq (.reg [⟨(some 22), none, .fa 1 (.t 3)⟩, ⟨(some 23), none, .load false 1 (.t 22)⟩, ⟨(some 24), none, .bin .eql (.t 23) (.c (.str []))⟩, ⟨(some 25), none, .mv (.t 24)⟩, ⟨(some 26), (some (25, true)), .mv (.t 5)⟩, ⟨(some 27), (some (25, true)), .bin .gtr (.t 26) (.c (.int .i64 (1)))⟩, ⟨(some 28), none, .pick (.t 25) (.t 27) (.c (.bool false))⟩, ⟨(some 4), none, .mv (.t 28)⟩]) .ret) (.seq (.seq (.reg [⟨(some 30), none, .bin .eql (.t 10) (.c (.int .i64 (3)))⟩, ⟨(some 29), none, .mv (.t 30)⟩])
  (.keep [2, 3, 5, 10, 29] (.cond (.t 29) .skip (.seq (.reg [⟨(some 31), none, .bin .eql (.t 10) (.c (.int .i64 (4)))⟩, ⟨(some 29), none, .mv (.t 31)⟩])
  (.keep [2, 3, 5, 10, 29] (.cond (.t 29) .skip (.reg [⟨(some 32), none, .bin .eql (.t 10) (.c (.int .i64 (5)))⟩, ⟨(some 29), none, .mv (.t 32)⟩])))))))
  (.keep [2, 3, 5, 10, 29] (.cond (.t 29) (.seq (.reg [⟨(some 33), none, .fa 1 (.t 3)⟩, ⟨(some 34), none, .load false 1 (.t 33)⟩, ⟨(some 35), none, .bin .eql (.t 34) (.c (.str []))⟩, ⟨(some 36), none, .mv (.t 35)⟩, ⟨(some 37), (some (36, true)), .mv (.t 5)⟩, ⟨(some 38), (some (36, true)), .bin .eql (.t 37) (.c (.int .i64 (1)))⟩, ⟨(some 39), none, .pick (.t 36) (.t 38) (.c (.bool false))⟩, ⟨(some 4), none, .mv (.t 39)⟩]) .ret) (.seq (.reg [⟨(some 41), none, .bin .eql (.t 10) (.c (.int .i64 (6)))⟩, ⟨(some 40), none, .mv (.t 41)⟩])
  (.keep [2, 3, 5, 10, 40] (.cond (.t 40) (.seq (.reg [⟨(some 42), none, .mv (.t 5)⟩, ⟨(some 43), none, .bin .eql (.t 42) (.c (.int .i64 (0)))⟩, ⟨(some 44), none, .mv (.t 43)⟩, ⟨(some 45), (some (44, true)), .fa 0 (.t 2)⟩, ⟨(some 46), (some (44, true)), .load false 1 (.t 45)⟩, ⟨(some 47), (some (44, true)), .mkfn K.rules_Tree_fine_1 [] [(.t 3)]⟩, ⟨(some 48), (some (44, true)), .call (.c (.fn K.slices_ContainsFunc_Rule [] [])) [(.t 46), (.t 47)]⟩, ⟨(some 49), none, .pick (.t 44) (.t 48) (.c (.bool false))⟩, ⟨(some 4), none, .mv (.t 49)⟩]) .ret) (.seq (.reg [⟨(some 51), none, .bin .eql (.t 10) (.c (.int .i64 (7)))⟩, ⟨(some 50), none, .mv (.t 51)⟩])
  (.keep [3, 5, 50] (.cond (.t 50) (.seq (.reg [⟨(some 52), none, .mv (.t 5)⟩, ⟨(some 53), none, .bin .eql (.t 52) (.c (.int .i64 (0)))⟩, ⟨(some 54), none, .mv (.t 53)⟩, ⟨(some 55), (some (54, true)), .fa 1 (.t 3)⟩, ⟨(some 56), (some (54, true)), .load false 1 (.t 55)⟩, ⟨(some 57), (some (54, true)), .s2b (.t 56)⟩, ⟨(some 58), (some (54, true)), .call (.c (.fn K.slices_Contains_byte [] [])) [(.t 57), (.c (.int .u8 (39)))]⟩, ⟨(some 59), (some (54, true)), .un .not (.t 58)⟩, ⟨(some 60), none, .pick (.t 54) (.t 59) (.c (.bool false))⟩, ⟨(some 61), none, .mv (.t 60)⟩, ⟨(some 62), (some (61, true)), .fa 1 (.t 3)⟩, ⟨(some 63), (some (61, true)), .load false 1 (.t 62)⟩, ⟨(some 64), (some (61, true)), .bin .add (.c (.str [39])) (.t 63)⟩, ⟨(some 65), (some (61, true)), .bin .add (.t 64) (.c (.str [39]))⟩, ⟨(some 66), (some (61, true)), .call (.c (.fn K.rules_token [] [])) [(.t 65), (.c (.int .i64 (2)))]⟩, ⟨(some 67), none, .pick (.t 61) (.t 66) (.c (.bool false))⟩, ⟨(some 4), none, .mv (.t 67)⟩]) .ret) .skip))))))))))))))))))
  (.keep [] (.seq (.reg [⟨(some 4), none, .mv (.c (.bool false))⟩]) .ret)))))))⟩
def A.rules_reader_names.L0 : AC := .post (.seq (.reg [⟨(some 16), none, .bin .lss (.t 15) (.t 14)⟩])
  (.keep [0, 4, 13, 14, 15, 16] (.seq (.cond (.t 16) .skip (.exit 0))
  (.keep [0, 4, 13, 14, 15] (.seq (.block 1 (.seq (.reg [⟨(some 17), none, .ia 2 (.t 13) (.t 15)⟩, ⟨(some 18), none, .load true 2 (.t 17)⟩, ⟨(some 6), none, .alloc [(.str []), (.int .i64 (0))]⟩, ⟨none, none, .store 2 (.t 6) (.t 18)⟩])
  (.keep [0, 4, 6, 13, 14, 15] (.seq (.reg [⟨(some 19), none, .mv (.t 4)⟩, ⟨(some 20), none, .fa 0 (.t 6)⟩, ⟨(some 21), none, .load false 1 (.t 20)⟩, ⟨(some 22), none, .lkp .s (.int .i64 (0)) false (.t 19) (.t 21)⟩, ⟨(some 23), none, .bin .add (.t 22) (.c (.int .i64 (1)))⟩, ⟨none, none, .mupd .s (.t 19) (.t 21) (.t 23)⟩])
  (.keep [0, 4, 6, 13, 14, 15] (.seq (.reg [⟨(some 24), none, .mv (.t 4)⟩, ⟨(some 25), none, .fa 0 (.t 6)⟩, ⟨(some 26), none, .load false 1 (.t 25)⟩, ⟨(some 27), none, .lkp .s (.int .i64 (0)) false (.t 24) (.t 26)⟩, ⟨(some 28), none, .bin .gtr (.t 27) (.c (.int .i64 (1)))⟩])
  (.keep [0, 4, 6, 13, 14, 15, 28] (.cond (.t 28) (.seq (.reg [⟨(some 29), none, .fa 1 (.t 6)⟩, ⟨(some 30), none, .load false 1 (.t 29)⟩, ⟨(some 2), none, .mv (.t 30)⟩, ⟨(some 3), none, .mv (.c (.int .i64 (7)))⟩]) .ret) .skip))))))))
  (.keep [0, 4, 13, 14, 15] (.reg [⟨(some 31), none, .bin .add (.t 15) (.c (.int .i64 (1)))⟩, ⟨(some 15), none, .mv (.t 31)⟩]))))))) [0, 4, 13, 14, 15]
def A.rules_reader_names.L1 : AC := .post (.seq (.reg [⟨(some 38), none, .bin .lss (.t 37) (.t 36)⟩])
  (.keep [4, 35, 36, 37, 38] (.seq (.cond (.t 38) .skip (.exit 2))
  (.keep [4, 35, 36, 37] (.seq (.block 3 (.seq (.reg [⟨(some 39), none, .ia 2 (.t 35) (.t 37)⟩, ⟨(some 40), none, .load true 2 (.t 39)⟩, ⟨(some 8), none, .alloc [(.str []), (.int .i64 (0))]⟩, ⟨none, none, .store 2 (.t 8) (.t 40)⟩])
  (.keep [4, 8, 35, 36, 37] (.seq (.reg [⟨(some 41), none, .mv (.t 4)⟩, ⟨(some 42), none, .fa 0 (.t 8)⟩, ⟨(some 43), none, .load false 1 (.t 42)⟩, ⟨(some 44), none, .lkp .s (.int .i64 (0)) false (.t 41) (.t 43)⟩, ⟨(some 45), none, .bin .eql (.t 44) (.c (.int .i64 (0)))⟩])
  (.keep [4, 8, 35, 36, 37, 45] (.cond (.t 45) (.seq (.reg [⟨(some 46), none, .fa 1 (.t 8)⟩, ⟨(some 47), none, .load false 1 (.t 46)⟩, ⟨(some 2), none, .mv (.t 47)⟩, ⟨(some 3), none, .mv (.c (.int .i64 (6)))⟩]) .ret) .skip))))))
  (.keep [4, 35, 36, 37] (.reg [⟨(some 48), none, .bin .add (.t 37) (.c (.int .i64 (1)))⟩, ⟨(some 37), none, .mv (.t 48)⟩]))))))) [4, 35, 36, 37]
def A.rules_reader_names : AFn := ⟨49, [(2, none), (3, none)], (.seq (.reg [⟨(some 2), none, .mv (.c (.int .i64 (0)))⟩, ⟨(some 3), none, .mv (.c (.int .i64 (0)))⟩])
  (.keep [0] (.seq (.reg [⟨(some 9), none, .mkm⟩, ⟨(some 4), none, .mv (.t 9)⟩])
  (.keep [0, 4] (.seq (.seq (.reg [⟨(some 10), none, .mv (.t 0)⟩, ⟨(some 11), none, .nilchk (.t 10)⟩, ⟨(some 12), none, .fa 5 (.t 11)⟩, ⟨(some 13), none, .load false 1 (.t 12)⟩, ⟨(some 14), none, .len false (.t 13)⟩, ⟨(some 15), none, .mv (.c (.int .i64 (0)))⟩])
  (.keep [0, 4, 13, 14, 15] (.block 0 (.loop A.rules_reader_names.L0))))
  (.keep [0, 4] (.seq (.seq (.reg [⟨(some 32), none, .mv (.t 0)⟩, ⟨(some 33), none, .nilchk (.t 32)⟩, ⟨(some 34), none, .fa 6 (.t 33)⟩, ⟨(some 35), none, .load false 1 (.t 34)⟩, ⟨(some 36), none, .len false (.t 35)⟩, ⟨(some 37), none, .mv (.c (.int .i64 (0)))⟩])
  (.keep [4, 35, 36, 37] (.block 2 (.loop A.rules_reader_names.L1))))
  (.keep [] (.seq (.reg [⟨(some 2), none, .mv (.c (.int .i64 (0)))⟩, ⟨(some 3), none, .mv (.c (.int .i64 (0)))⟩]) .ret)))))))))⟩
def A.rules_reader_fail : AFn := ⟨29, [], (.seq (.seq (.draw [(.pl, ⟨(some 2), none, .mv (.t 0)⟩), (.pl, ⟨(some 3), none, .nilchk (.t 2)⟩), (.pl, ⟨(some 4), none, .fa 1 (.t 3)⟩), (.pl, ⟨(some 5), none, .load false 1 (.t 4)⟩), (.pl, ⟨(some 6), none, .mv (.t 0)⟩), (.pl, ⟨(some 7), none, .nilchk (.t 6)⟩), (.pl, ⟨(some 8), none, .fa 0 (.t 7)⟩), (.pl, ⟨(some 9), none, .load false 1 (.t 8)⟩), (.pl, ⟨(some 10), none, .len false (.t 9)⟩), (.pl, ⟨(some 11), none, .bin .lss (.t 5) (.t 10)⟩)])
  (.keep [0, 11] (.cond (.t 11) (.drawP [(.pl, ⟨(some 12), none, .mv (.t 0)⟩), (.pl, ⟨(some 13), none, .nilchk (.t 12)⟩), (.pl, ⟨(some 14), none, .fa 0 (.t 13)⟩), (.pl, ⟨(some 15), none, .load false 1 (.t 14)⟩), (.pl, ⟨(some 16), none, .mv (.t 0)⟩), (.pl, ⟨(some 17), none, .nilchk (.t 16)⟩), (.pl, ⟨(some 18), none, .fa 1 (.t 17)⟩), (.pl, ⟨(some 19), none, .load false 1 (.t 18)⟩), (.pl, ⟨(some 20), none, .ia 3 (.t 15) (.t 19)⟩), (.pl, ⟨(some 21), none, .fa 2 (.t 20)⟩), (.pl, ⟨(some 22), none, .load false 1 (.t 21)⟩), (.pl, ⟨(some 23), none, .mkif 83 (.t 22)⟩), (.eff, ⟨none, none, .call (.c (.fn 0 [] [])) [(.t 23)]⟩)]) .skip)))
  (.keep [0] (.reg [⟨(some 24), none, .mv (.t 0)⟩, ⟨(some 25), none, .nilchk (.t 24)⟩, ⟨(some 26), none, .fa 2 (.t 25)⟩, ⟨(some 27), none, .load false 1 (.t 26)⟩, ⟨(some 28), none, .mkif 83 (.t 27)⟩, ⟨none, none, .call (.c (.fn 0 [] [])) [(.t 28)]⟩])))⟩
end Go.Proofs.Ytecgbggobecpjaa.Al
namespace Go.Proofs.Ytecgbggobecpjaa.Al
open Go Go.RowKit
set_option linter.unusedSimpArgs false
set_option linter.unusedVariables false
attribute [-simp] List.getD_eq_getElem?_getD Int.not_lt Int.not_le List.map_take
/-- A node, a rule, a tree. -/
structure Nd where
  kind : Int
  name : Str
  kids : List Int
  deriving DecidableEq
structure Rl where
  name : Str
  body : Int
  deriving DecidableEq
structure Te where
  rules : List Rl
  nodes : List Nd
  deriving DecidableEq
def ndC (n : Nd) : List V := [.int .i64 n.kind, .str n.name, .sl 1 0 (ints n.kids)]
def ndV (n : Nd) : V := .agg (ndC n)
def rlC (r : Rl) : List V := [.str r.name, .int .i64 r.body]
def rlV (r : Rl) : V := .agg (rlC r)
def teC (t : Te) : List V := [.sl 2 0 (t.rules.map rlV), .sl 3 0 (t.nodes.map ndV)]
def teV (t : Te) : V := .agg (teC t)
theorem encRl : Enc rlV 2 true := ⟨fun _ => rfl, fun _ => rfl, fun _ => rfl, fun a n m v hv => by simp [rlV, rlC, V.cells] at hv; rcases hv with rfl | rfl <;> simp⟩
theorem encNd : Enc ndV 3 true := ⟨fun _ => rfl, fun _ => rfl, fun _ => rfl, fun a n m v hv => by
  simp [ndV, ndC, V.cells] at hv
  rcases hv with rfl | rfl | rfl
  · simp
  · simp
  · rw [Bdd_sl0]; exact ⟨by omega, Bdd_ints _ _ _⟩⟩
section
variable {X : Cx} {h : AH} {Q : V → AH → Prop}
def rnames (t : Te) : List Str := t.rules.map (·.name)
/-- May a text stand between quotes? -/
def quoteT (s : Str) : Bool := s.all quotedB && decide (0 < s.length) && decide (s.length ≤ 3998)
/-- May a node be, but for its kids' places? -/
def fineT (t : Te) (n : Nd) : Bool :=
  if n.kind = 6 then decide (n.kids.length = 0) && decide (n.name ∈ rnames t)
  else if n.kind = 7 then decide (n.kids.length = 0) && quoteT n.name
  else decide (n.name = []) && ((decide (n.kind = 1) && decide (n.kids.length ≠ 1)) || (decide (n.kind = 2) && decide (2 ≤ n.kids.length)) || (decide (3 ≤ n.kind) && decide (n.kind ≤ 5) && decide (n.kids.length = 1)))
/-- Is a text just one token of a kind? -/
def tokenT (s : Str) (kind : Int) : Bool := match (scanR s).1 with
  | [a] => decide ((scanR s).2.2 = 0) && decide ((a.kind : Int) = kind) && decide (a.at' = 0) && (decide (kind = 2) || decide (a.text = s))
  | _ => false
theorem token_spec (L : LS X) (H : Has (Ecx X) K.rules_token A.rules_token) (s : Str) (kind : Int) (hl : s.length ≤ 2 ^ 40) (hQ : Q (.bool (tokenT s kind)) h) : Ecx X K.rules_token [.str s, .int .i64 kind] h Q := by
  refine fn_walk H (by simp [A.rules_token]) fun wf => ?_
  simp [A.rules_token]
  refine ecall (scan_spec L s hl ?_)
  simp [scanV]
  unfold tokenT at hQ
  generalize scanR s = R at *
  obtain ⟨l, p, e⟩ := R
  simp only at hQ ⊢
  by_cases c : e = 0
  case neg =>
    have hq : Q (.bool false) h := by
      match l, hQ with
      | [], hQ => exact hQ
      | [a], hQ => simpa [c] using hQ
      | _ :: _ :: _, hQ => exact hQ
    simp [c]
    exact fin (by simp) hq
  subst c
  match l, hQ with
  | [], hQ => simp at hQ ⊢; exact fin (by simp) hQ
  | a :: b :: r, hQ =>
    have c' : ¬ (((a :: b :: r).length : Nat) : Int) = 1 := by simp; omega
    simp at hQ c' ⊢
    simp [c']
    exact fin (by simp) hQ
  | [a], hQ =>
    simp [tokV, tokC, V.cells] at hQ ⊢
    by_cases k1 : (a.kind : Int) = kind
    case neg =>
      simp [k1] at hQ ⊢
      exact fin (by simp) hQ
    by_cases k2 : a.at' = 0
    case neg =>
      simp [k1, k2] at hQ ⊢
      exact fin (by simp) hQ
    by_cases k3 : kind = 2
    · simp [k1, k2, k3, tokC] at hQ ⊢
      exact fin (by simp) hQ
    by_cases k4 : a.text = s
    · simp [k1, k2, k3, k4, tokC] at hQ ⊢
      exact fin (by simp) hQ
    · simp [k1, k2, k3, k4, tokC] at hQ ⊢
      exact fin (by simp) hQ
def plcB (c : Int) : Str → Nat → Int
  | [], _ => -1
  | a :: l, i => if c = bt a then (i : Int) else plcB c l (i + 1)
theorem plcB_any (c : Int) : ∀ (l : Str) (i : Nat), decide (0 ≤ plcB c l i) = l.any fun a => decide (c = bt a)
  | [], i => by simp [plcB]
  | a :: l, i => by
    unfold plcB
    by_cases e : c = bt a
    · simp [e]
    · simp only [if_neg e, List.any_cons, decide_eq_false e, Bool.false_or]; exact plcB_any c l (i + 1)
theorem indexB_spec (H : Has (Ecx X) K.slices_Index_byte A.slices_Index_byte) (s : Str) (st : Nat) (c : Int) (hl : s.length < 2 ^ 62) (hQ : Q (.int .i64 (plcB c s 0)) h) : Ecx X K.slices_Index_byte [.sl 1 st (bytesV s), .int .u8 c] h Q := by
  refine fn_walk H (by simp [A.slices_Index_byte]) fun wf => ?_
  have hsl : (bytesV s).length = s.length := by simp [bytesV]
  simp [A.slices_Index_byte, hsl]
  refine loopI (n := s.length) (fun m env h' => ∃ k, k ≤ s.length ∧ m = s.length - k ∧ h' = h ∧ env = [(0, .sl 1 st (bytesV s)), (1, .int .u8 c), (7, .int .i64 s.length), (8, .int .i64 k)] ∧ plcB c s 0 = plcB c (s.drop k) k) ?_ ⟨0, by omega, by omega, rfl, rfl, rfl⟩
  rintro m env h' ⟨k, hk, rfl, rfl, rfl, hp⟩
  unfold A.slices_Index_byte.L0
  by_cases hlt : k < s.length
  · have hlt' : (k : Int) < s.length := by omega
    have hg : (bytesV s).getD k .undef = .int .u8 (bt s[k]) := by simp [bytesV, bt, List.getD_eq_getElem?_getD, hlt]
    have hw1 : IntKind.i64.wrap ((k : Int) + 1) = ((k + 1 : Nat) : Int) := by rw [wrap_i64 (by omega) (by omega)]; rfl
    rw [List.drop_eq_getElem_cons hlt, plcB] at hp
    by_cases e : c = bt s[k]
    · rw [if_pos e] at hp
      rw [hp] at hQ
      simp [hlt', hg, hsl, V.cells, ← e]
      exact fin (by simp) hQ
    · rw [if_neg e] at hp
      simp [hlt', hg, hsl, V.cells, e, hw1]
      exact ⟨s.length - (k + 1), by omega, iv ⟨k + 1, by omega, rfl, rfl, rfl, hp⟩⟩
  · have hlt' : ¬ (k : Int) < s.length := by omega
    obtain rfl : k = s.length := by omega
    rw [List.drop_length, plcB] at hp
    rw [hp] at hQ
    simp [hlt', hsl]
    exact fin (by simp) hQ
theorem containsB_spec (H : Has (Ecx X) K.slices_Contains_byte A.slices_Contains_byte) (H2 : Has (Ecx X) K.slices_Index_byte A.slices_Index_byte) (s : Str) (st : Nat) (c : Int) (hl : s.length < 2 ^ 62) (hQ : Q (.bool (s.any fun a => decide (c = bt a))) h) :
    Ecx X K.slices_Contains_byte [.sl 1 st (bytesV s), .int .u8 c] h Q := by
  refine fn_walk H (by simp [A.slices_Contains_byte]) fun wf => ?_
  simp [A.slices_Contains_byte]
  refine ecall (indexB_spec H2 s st c hl ?_)
  have := plcB_any c s 0
  simp [this]
  exact fin (by simp) hQ
/-- As the program asks. -/
def fineP (t : Te) (n : Nd) : Bool :=
  if n.kind = 7 then decide (n.kids.length = 0) && (!(n.name.any fun a => decide (39 = bt a))) && tokenT (39 :: n.name ++ [39]) 2 else fineT t n
structure LRu (X : Cx) : Prop where
  s : LS X
  token : Has (Ecx X) K.rules_token A.rules_token
  fine : Has (Ecx X) K.rules_Tree_fine A.rules_Tree_fine
  fine1 : Has (Ecx X) K.rules_Tree_fine_1 A.rules_Tree_fine_1
  right : Has (Ecx X) K.rules_Right A.rules_Right
  right1 : Has (Ecx X) K.rules_Right_1 A.rules_Right_1
  ctR : Has (Ecx X) K.slices_ContainsFunc_Rule A.slices_ContainsFunc_Rule
  ixR : Has (Ecx X) K.slices_IndexFunc_Rule A.slices_IndexFunc_Rule
  ctB : Has (Ecx X) K.slices_Contains_byte A.slices_Contains_byte
  ixB : Has (Ecx X) K.slices_Index_byte A.slices_Index_byte
  eqI : Has (Ecx X) K.slices_Equal_int A.slices_Equal_int
theorem fine1_spec (L : LRu X) (r : Rl) {o : Nat} {n : Nd} (ho : h.objs o = ndC n) (hob : o < h.nobj) (hQ : Q (.bool (decide (r.name = n.name))) h) : Ecx X K.rules_Tree_fine_1 [rlV r, .ptr o 0] h Q := by
  refine fn_walk L.fine1 (by simp [A.rules_Tree_fine_1]) fun wf => ?_
  have gr := (Gr.refl h).new (rlC r)
  have n1 : ¬ o = h.nobj := by omega
  obtain ⟨kind, name, kids⟩ := n
  have hnc : ndC ⟨kind, name, kids⟩ = [.int .i64 kind, .str name, .sl 1 0 (ints kids)] := rfl
  have hrc : rlC r = [.str r.name, .int .i64 r.body] := rfl
  simp [A.rules_Tree_fine_1, rlV, V.cells, V.good, n1, ho, hnc, hrc]
  exact fin_wk (by rw [← hrc]; exact gr) (.same _) (by simp) hQ
theorem rufine_spec (L : LRu X) (t : Te) (n : Nd) (hl : t.rules.length < 2 ^ 62) (hn : n.name.length ≤ 2 ^ 30) (hQ : Q (.bool (fineP t n)) h) : Ecx X K.rules_Tree_fine [teV t, ndV n] h Q := by
  refine fn_walk L.fine (by simp [A.rules_Tree_fine]) fun wf => ?_
  have htc : teC t = [.sl 2 0 (t.rules.map rlV), .sl 3 0 (t.nodes.map ndV)] := rfl
  have gr := ((Gr.refl h).new (teC t)).new (ndC n)
  have n1 : ¬ h.nobj = h.nobj + 1 := by omega
  have hb0 : ((h.new (teC t)).new (ndC n)).objs h.nobj = teC t := by simp [n1]
  have hb1 : ((h.new (teC t)).new (ndC n)).objs (h.nobj + 1) = ndC n := by simp
  have hb2 : ((h.new (teC t)).new (ndC n)).nobj = h.nobj + 2 := by simp
  obtain ⟨kind, name, kids⟩ := n
  simp [A.rules_Tree_fine, teV, ndV, V.cells, V.good]
  have hnc : ∀ a b c, ndC ⟨a, b, c⟩ = [.int .i64 a, .str b, .sl 1 0 (c.map (.int .i64))] := fun _ _ _ => rfl
  generalize (h.new (teC t)).new (ndC ⟨kind, name, kids⟩) = h1 at *
  simp [hb1, hnc]
  unfold fineP fineT at hQ
  simp only at hQ hn
  by_cases k1 : kind = 1
  · subst k1
    by_cases c0 : name = []
    · by_cases c : kids.length = 1
      · have c' : ((kids.length : Nat) : Int) = 1 := by omega
        simp [hb1, hnc, c0, c, c'] at hQ ⊢
        exact fin_wk gr (.same _) (by simp) hQ
      · have c' : ¬ ((kids.length : Nat) : Int) = 1 := by omega
        simp [hb1, hnc, c0, c, c'] at hQ ⊢
        exact fin_wk gr (.same _) (by simp) hQ
    · simp [hb1, hnc, c0] at hQ ⊢
      exact fin_wk gr (.same _) (by simp) hQ
  by_cases k2 : kind = 2
  · subst k2
    by_cases c0 : name = []
    · by_cases c : 2 ≤ kids.length
      · have c' : (1 : Int) < (kids.length : Nat) := by omega
        simp [hb1, hnc, c0, c, c'] at hQ ⊢
        exact fin_wk gr (.same _) (by simp) hQ
      · have c' : ¬ (1 : Int) < (kids.length : Nat) := by omega
        simp [hb1, hnc, c0, c, c'] at hQ ⊢
        exact fin_wk gr (.same _) (by simp) hQ
    · simp [hb1, hnc, c0] at hQ ⊢
      exact fin_wk gr (.same _) (by simp) hQ
  have three : ∀ k : Int, (k = 3 ∨ k = 4 ∨ k = 5) → kind = k → (Q (.bool (decide (name = []) && decide (kids.length = 1))) h) := fun k hk e => by
    subst e
    rcases hk with rfl | rfl | rfl <;> simpa using hQ
  by_cases k3 : kind = 3 ∨ kind = 4 ∨ kind = 5
  · have q := three kind k3 rfl
    clear three
    have fin3 : ∀ b, Q (.bool b) h → Fin h (.bool b) h1 (Lz.mk (a := Q)) := fun b hb => fin_wk gr (.same _) (by simp) hb
    by_cases c0 : name = [] <;> by_cases c : kids.length = 1
    all_goals
      first
        | (have c' : ((kids.length : Nat) : Int) = 1 := by omega
           rcases k3 with rfl | rfl | rfl <;> simp [hb1, hnc, c0, c, c'] at q ⊢ <;> exact fin3 _ q)
        | (have c' : ¬ ((kids.length : Nat) : Int) = 1 := by omega
           rcases k3 with rfl | rfl | rfl <;> simp [hb1, hnc, c0, c, c'] at q ⊢ <;> exact fin3 _ q)
  clear three
  have k3' : ¬ kind = 3 := fun e => k3 (.inl e)
  have k4' : ¬ kind = 4 := fun e => k3 (.inr (.inl e))
  have k5' : ¬ kind = 5 := fun e => k3 (.inr (.inr e))
  by_cases k6 : kind = 6
  · subst k6
    by_cases c : kids = []
    · subst c
      simp [hb0, htc, hb1, hnc] at hQ ⊢
      have hct := L.ctR
      rw [show A.slices_ContainsFunc_Rule = ctfF K.slices_IndexFunc_Rule from rfl] at hct
      have hix := L.ixR
      rw [show A.slices_IndexFunc_Rule = ixfF 2 true from rfl] at hix
      refine ecall (containsFunc encRl hct hix t.rules 0 _ [] _ (fun r => decide (r.name = name)) hl (fun r _ Q' h' gr' hQ' => ?_) ?_)
      · exact fine1_spec L r ((gr'.objs _ (by omega)).trans hb1) (by have := gr'.nobj; omega) hQ'
      have : (t.rules.any fun r => decide (r.name = name)) = decide (name ∈ rnames t) := by
        apply Bool.eq_iff_iff.2
        simp [rnames]
      simp [this]
      exact fin_wk gr (.same _) (by simp) hQ
    · simp [hb0, htc, hb1, hnc, c] at hQ ⊢
      exact fin_wk gr (.same _) (by simp) hQ
  by_cases k7 : kind = 7
  · subst k7
    by_cases c : kids = []
    · subst c
      simp [hb0, htc, hb1, hnc] at hQ ⊢
      refine ecall (containsB_spec L.ctB L.ixB name 0 39 (by omega) ?_)
      cases hb : name.any fun a => decide (39 = bt a) with
      | true =>
        rw [hb] at hQ
        simp at hQ ⊢
        exact fin_wk gr (.same _) (by simp) hQ
      | false =>
        rw [hb] at hQ
        simp [hb1, hnc] at hQ ⊢
        refine ⟨by omega, by omega, ecall (token_spec L.s L.token (39 :: (name ++ [39])) 2 (by simp; omega) ?_)⟩
        simp
        exact fin_wk gr (.same _) (by simp) hQ
    · simp [hb0, htc, hb1, hnc, c] at hQ ⊢
      exact fin_wk gr (.same _) (by simp) hQ
  have hf : Q (.bool false) h := by
    have e2 : (decide (3 ≤ kind) && decide (kind ≤ 5)) = false := by simp; omega
    simpa only [if_neg k7, if_neg k6, decide_eq_false k1, decide_eq_false k2, e2, Bool.false_and, Bool.false_or, Bool.or_false, Bool.and_false] using hQ
  simp [k1, k2, k3', k4', k5', k6, k7]
  exact fin_wk gr (.same _) (by simp) hf
end
theorem runN_allT {p : UInt8 → Bool} : ∀ {l r : Str}, l.all p = true → runN p (l ++ r) = l.length + runN p r
  | [], r, _ => by simp
  | a :: l, r, h => by
    simp only [List.all_cons, Bool.and_eq_true] at h
    have := runN_allT (p := p) (l := l) (r := r) h.2
    unfold runN at this ⊢
    simp only [List.cons_append, List.takeWhile_cons, h.1, if_true, List.length_cons, this]; omega
theorem runN_bad {p : UInt8 → Bool} : ∀ {l r : Str}, l.all p = false → ∃ h : runN p (l ++ r) < l.length, p (l[runN p (l ++ r)]) = false
  | [], r, h => by simp at h
  | a :: l, r, h => by
    cases ha : p a with
    | false => 
      have : runN p (a :: l ++ r) = 0 := by simp [runN, List.takeWhile_cons, ha]
      exact ⟨by rw [this]; simp, by simp only [this]; exact ha⟩
    | true =>
      simp only [List.all_cons, ha, Bool.true_and] at h
      obtain ⟨h1, h2⟩ := runN_bad (p := p) (l := l) (r := r) h
      have : runN p (a :: l ++ r) = runN p (l ++ r) + 1 := by simp [runN, List.takeWhile_cons, ha]
      exact ⟨by rw [this]; simpa using h1, by simp only [this, List.getElem_cons_succ]; exact h2⟩
theorem sfirst_quote (name : Str) (h39 : (name.any fun a => decide (39 = bt a)) = false) : sfirst (39 :: name ++ [39]) = if name.all quotedB && decide (0 < name.length) then (2, name, name.length + 2) else (0, [], 0) := by
  have hb : bt 39 = 39 := rfl
  have hl : letterI 39 = false := by decide
  have hd : (39 :: name ++ [39]).drop 1 = name ++ [39] := rfl
  have h0 : (39 :: name ++ [39] : Str).getD 0 0 = 39 := rfl
  have hlen : (39 :: name ++ [39] : Str).length = name.length + 2 := by simp
  unfold sfirst
  simp only [h0, hb, hd, hlen, hl]
  rw [if_neg (by omega), if_neg (by omega), if_neg (by simp), if_pos trivial]
  cases ha : name.all quotedB with
  | true =>
    have hr : runN quotedB (name ++ [39]) = name.length := by
      rw [runN_allT ha]; simp [runN, List.takeWhile_cons, show quotedB 39 = false from by decide]
    generalize runN quotedB (name ++ [39]) = k at *
    subst hr
    by_cases h1 : 0 < name.length
    · have hg : (39 :: name ++ [39] : Str).getD (name.length + 1) 0 = 39 := by simp [List.getD_eq_getElem?_getD]
      rw [if_neg (by rintro (h | h | h) <;> first | omega | exact h (by rw [hg]; rfl))]
      simp [h1]
    · rw [if_pos (Or.inl (show name.length = 0 by omega))]
      simp [h1]
  | false =>
    obtain ⟨h1, h2⟩ := runN_bad (r := [39]) ha
    generalize hk : runN quotedB (name ++ [39]) = k at *
    have hg : (39 :: name ++ [39] : Str).getD (k + 1) 0 = name[k] := by
      simp [List.getD_eq_getElem?_getD, List.getElem?_append_left h1, h1]
    have hne : bt name[k] ≠ 39 := fun e => by
      have := List.any_eq_false.1 h39 _ (List.getElem_mem h1)
      simp [e] at this
    rw [if_pos (.inr (.inr (by rw [hg]; exact hne)))]
    simp
theorem token_quote (name : Str) (h39 : (name.any fun a => decide (39 = bt a)) = false) : tokenT (39 :: name ++ [39]) 2 = quoteT name := by
  have hs := sfirst_quote name h39
  have hlen : (39 :: name ++ [39] : Str).length = name.length + 2 := by simp
  have hne : (39 :: name ++ [39] : Str) ≠ [] := by simp
  unfold tokenT scanR
  rw [hlen]
  by_cases hb : 4000 < name.length + 2
  · rw [if_pos hb]
    simp [quoteT]; omega
  rw [if_neg hb, scanL_step 0 hne, hs]
  cases ha : name.all quotedB && decide (0 < name.length) with
  | true =>
    simp only [if_true]
    have hd : (39 :: name ++ [39] : Str).drop (name.length + 2) = [] := by simp
    rw [if_neg (by omega), hd, scanL_nil]
    simp only [Bool.and_eq_true, decide_eq_true_eq] at ha
    simp [quoteT, ha.1]; omega
  | false =>
    simp only [Bool.false_eq_true, if_false, if_true]
    have : quoteT name = false := by unfold quoteT; rw [ha]; rfl
    rw [this]
theorem fineP_eq (t : Te) (n : Nd) : fineP t n = fineT t n := by
  unfold fineP
  split
  · rename_i h7
    unfold fineT
    rw [if_neg (by omega), if_pos h7]
    cases h39 : n.name.any fun a => decide (39 = bt a) with
    | false => rw [token_quote _ h39]; simp
    | true =>
      have : quoteT n.name = false := by
        unfold quoteT
        have : n.name.all quotedB = false := by
          obtain ⟨a, ha, hb⟩ := List.any_eq_true.1 h39
          apply Bool.eq_false_iff.2
          intro hall
          have := List.all_eq_true.1 hall a ha
          simp [quotedB, quotedI] at this
          simp at hb
          omega
        rw [this]; rfl
      rw [this]; simp
  · rfl
end Go.Proofs.Ytecgbggobecpjaa.Al
namespace Go.Proofs.Ytecgbggobecpjaa.Al
open Go
def yK : Keys := ⟨fun k => ([0, 0, 1, 2, 0, 0, 0, 0, 0, 0, 0, 0, 0, 0, 0, 0, 0, 0, 0, 0, 0, 0, 0, 0, 0, 0, 0, 0, 0, 0, 0, 0, 0, 0, 0, 0, 22, 0, 0, 0, 0, 0, 0, 0, 0, 0, 0, 0, 0, 15, 18, 0, 0, 0, 0, 0, 0, 0, 0, 0, 0, 0, 0, 0, 0, 0, 0, 0, 0, 0, 0, 0, 0, 0, 0, 0, 0, 0, 0, 0, 0, 0, 0, 0, 0, 0, 0, 33, 36, 37, 0, 0, 0, 0, 0, 0, 0, 0, 0, 0, 0, 0, 46, 47, 48, 49, 50, 51, 0, 0, 0, 0, 0, 0, 0, 57, 58, 0, 64, 65, 69, 70, 71, 72, 73, 74, 75, 76, 77, 78, 79, 80, 81, 82, 83, 84, 85, 86, 87, 88, 89, 0, 0, 0, 0, 0, 0, 0, 0, 3, 4, 5, 0, 0, 0, 0, 0, 0, 0, 0, 0, 0, 0, 0, 0, 0, 0, 0, 0, 0, 0, 0, 0, 0, 0, 0, 0, 0, 0, 0, 0, 0, 0, 0, 0, 7, 0, 0, 11, 0, 0, 12, 6, 8, 9, 10, 13, 14, 0, 0, 0, 0, 0, 0, 0, 0, 0, 0, 0, 0, 27, 0, 0, 0, 0, 0, 0, 0, 0, 0, 0, 0, 0, 0, 0, 0, 0, 0, 0, 0, 0, 0, 0, 0, 0, 0, 0, 0, 0, 0, 0, 0, 0, 0, 0, 0, 0, 0, 0, 0, 23, 24, 25, 26, 16, 17, 19, 20, 21, 28, 29, 30, 31, 32, 0, 0, 0, 0, 0, 0, 0, 0, 0, 0, 0, 0, 0, 0, 0, 0, 0, 0, 0, 0, 0, 0, 0, 0, 0, 0, 0, 0, 0, 0, 0, 0, 0, 0, 0, 0, 0, 0, 41, 42, 43, 34, 35, 38, 39, 40, 44, 45, 0, 0, 0, 0, 0, 0, 0, 0, 0, 0, 0, 0, 0, 0, 0, 0, 0, 0, 56, 52, 53, 54, 55, 0, 0, 0, 0, 0, 0, 59, 60, 61, 62, 63, 0, 66, 67, 68, 0, 0, 0, 0, 0, 0, 0, 0, 0, 0, 0, 0, 0, 0, 0, 0, 0, 0, 0, 0, 0, 0, 0, 0, 0, 0, 0, 0, 0, 0, 0, 0, 0, 0, 0, 0, 0, 0, 0, 0, 0, 0, 0, 0, 0, 0, 0, 0, 0, 0, 0, 0, 0, 0, 0, 0, 0, 0, 0, 0, 0, 0, 0, 0, 0, 0, 0, 0] : List Nat).getD k 0, fun k => ([1, 2, 3, 149, 150, 151, 192, 185, 193, 194, 195, 188, 191, 196, 197, 49, 254, 255, 50, 256, 257, 258, 36, 250, 251, 252, 253, 210, 259, 260, 261, 262, 263, 87, 305, 306, 88, 89, 307, 308, 309, 302, 303, 304, 310, 311, 102, 103, 104, 105, 106, 107, 331, 332, 333, 334, 330, 115, 116, 341, 342, 343, 344, 345, 118, 119, 347, 348, 349, 120, 121, 122, 123, 124, 125, 126, 127, 128, 129, 130, 131, 132, 133, 134, 135, 136, 137, 138, 139, 140] : List Nat).getD k 0, fun k => ([33, 34, 35, 37, 38, 39, 40, 45, 81, 82, 83, 85, 94, 95, 108, 109, 242, 243, 244, 248, 249, 259, 289, 290, 292, 294, 300, 301] : List Nat).contains k, fun _ => false⟩
noncomputable abbrev cxZ (W0 : World) (Z : Value → AH → Prop) : Cx := ⟨Try.prog, yK.tbl, W0, Z⟩
noncomputable abbrev cxOf (W0 : World) : Cx := cxZ W0 fun _ _ => False
end Go.Proofs.Ytecgbggobecpjaa.Al
namespace Go.Proofs.Ytecgbggobecpjaa.Al
open Go
theorem tie_slices_ContainsFunc_Rule : compFn Try.prog yK Try.f24 = some A.slices_ContainsFunc_Rule.strip := by kernel_rfl
theorem has_slices_ContainsFunc_Rule (W0 : World) {Z : Value → AH → Prop} : Has (Ecx (cxZ W0 Z)) K.slices_ContainsFunc_Rule A.slices_ContainsFunc_Rule := fn_sound Try.checked.mixed rfl (by exact Try.func24) (by kernel_rfl) tie_slices_ContainsFunc_Rule
theorem tie_slices_Equal_int : compFn Try.prog yK Try.f27 = some A.slices_Equal_int.strip := by kernel_rfl
theorem has_slices_Equal_int (W0 : World) {Z : Value → AH → Prop} : Has (Ecx (cxZ W0 Z)) K.slices_Equal_int A.slices_Equal_int := fn_sound Try.checked.mixed rfl (by exact Try.func27) (by kernel_rfl) tie_slices_Equal_int
theorem tie_slices_Equal_Rule : compFn Try.prog yK Try.f30 = some A.slices_Equal_Rule.strip := by kernel_rfl
theorem has_slices_Equal_Rule (W0 : World) {Z : Value → AH → Prop} : Has (Ecx (cxZ W0 Z)) K.slices_Equal_Rule A.slices_Equal_Rule := fn_sound Try.checked.mixed rfl (by exact Try.func30) (by kernel_rfl) tie_slices_Equal_Rule
theorem tie_slices_EqualFunc_Node : compFn Try.prog yK Try.f31 = some A.slices_EqualFunc_Node.strip := by kernel_rfl
theorem has_slices_EqualFunc_Node (W0 : World) {Z : Value → AH → Prop} : Has (Ecx (cxZ W0 Z)) K.slices_EqualFunc_Node A.slices_EqualFunc_Node := fn_sound Try.checked.mixed rfl (by exact Try.func31) (by kernel_rfl) tie_slices_EqualFunc_Node
theorem tie_slices_IndexFunc_Rule : compFn Try.prog yK Try.f41 = some A.slices_IndexFunc_Rule.strip := by kernel_rfl
theorem has_slices_IndexFunc_Rule (W0 : World) {Z : Value → AH → Prop} : Has (Ecx (cxZ W0 Z)) K.slices_IndexFunc_Rule A.slices_IndexFunc_Rule := fn_sound Try.checked.mixed rfl (by exact Try.func41) (by kernel_rfl) tie_slices_IndexFunc_Rule
theorem tie_slices_Contains_byte : compFn Try.prog yK Try.f43 = some A.slices_Contains_byte.strip := by kernel_rfl
theorem has_slices_Contains_byte (W0 : World) {Z : Value → AH → Prop} : Has (Ecx (cxZ W0 Z)) K.slices_Contains_byte A.slices_Contains_byte := fn_sound Try.checked.mixed rfl (by exact Try.func43) (by kernel_rfl) tie_slices_Contains_byte
theorem tie_strings_Cut : compFn Try.prog yK Try.f46 = some A.strings_Cut.strip := by kernel_rfl
theorem has_strings_Cut (W0 : World) {Z : Value → AH → Prop} : Has (Ecx (cxZ W0 Z)) K.strings_Cut A.strings_Cut := fn_sound Try.checked.mixed rfl (by exact Try.func46) (by kernel_rfl) tie_strings_Cut
theorem tie_strings_IndexByte : compFn Try.prog yK Try.f51 = some A.strings_IndexByte.strip := by kernel_rfl
theorem has_strings_IndexByte (W0 : World) {Z : Value → AH → Prop} : Has (Ecx (cxZ W0 Z)) K.strings_IndexByte A.strings_IndexByte := fn_sound Try.checked.mixed rfl (by exact Try.func51) (by kernel_rfl) tie_strings_IndexByte
theorem tie_slices_Index_byte : compFn Try.prog yK Try.f56 = some A.slices_Index_byte.strip := by kernel_rfl
theorem has_slices_Index_byte (W0 : World) {Z : Value → AH → Prop} : Has (Ecx (cxZ W0 Z)) K.slices_Index_byte A.slices_Index_byte := fn_sound Try.checked.mixed rfl (by exact Try.func56) (by kernel_rfl) tie_slices_Index_byte
theorem tie_stringslite_Cut : compFn Try.prog yK Try.f57 = some A.stringslite_Cut.strip := by kernel_rfl
theorem has_stringslite_Cut (W0 : World) {Z : Value → AH → Prop} : Has (Ecx (cxZ W0 Z)) K.stringslite_Cut A.stringslite_Cut := fn_sound Try.checked.mixed rfl (by exact Try.func57) (by kernel_rfl) tie_stringslite_Cut
theorem tie_stringslite_IndexByte : compFn Try.prog yK Try.f58 = some A.stringslite_IndexByte.strip := by kernel_rfl
theorem has_stringslite_IndexByte (W0 : World) {Z : Value → AH → Prop} : Has (Ecx (cxZ W0 Z)) K.stringslite_IndexByte A.stringslite_IndexByte := fn_sound Try.checked.mixed rfl (by exact Try.func58) (by kernel_rfl) tie_stringslite_IndexByte
theorem tie_stringslite_Index : compFn Try.prog yK Try.f64 = some A.stringslite_Index.strip := by kernel_rfl
theorem has_stringslite_Index (W0 : World) {Z : Value → AH → Prop} : Has (Ecx (cxZ W0 Z)) K.stringslite_Index A.stringslite_Index := fn_sound Try.checked.mixed rfl (by exact Try.func64) (by kernel_rfl) tie_stringslite_Index
end Go.Proofs.Ytecgbggobecpjaa.Al
namespace Go.Proofs.Ytecgbggobecpjaa.Al
open Go
theorem tie_rules_Read : compFn Try.prog yK Try.f8 = some A.rules_Read.strip := by kernel_rfl
theorem has_rules_Read (W0 : World) {Z : Value → AH → Prop} : Has (Ecx (cxZ W0 Z)) K.rules_Read A.rules_Read := fn_sound Try.checked.mixed rfl (by exact Try.func8) (by kernel_rfl) tie_rules_Read
theorem tie_rules_Right : compFn Try.prog yK Try.f12 = some A.rules_Right.strip := by kernel_rfl
theorem has_rules_Right (W0 : World) {Z : Value → AH → Prop} : Has (Ecx (cxZ W0 Z)) K.rules_Right A.rules_Right := fn_sound Try.checked.mixed rfl (by exact Try.func12) (by kernel_rfl) tie_rules_Right
theorem tie_rules_Same : compFn Try.prog yK Try.f14 = some A.rules_Same.strip := by kernel_rfl
theorem has_rules_Same (W0 : World) {Z : Value → AH → Prop} : Has (Ecx (cxZ W0 Z)) K.rules_Same A.rules_Same := fn_sound Try.checked.mixed rfl (by exact Try.func14) (by kernel_rfl) tie_rules_Same
theorem tie_rules_reader_names : compFn Try.prog yK Try.f17 = some A.rules_reader_names.strip := by kernel_rfl
theorem has_rules_reader_names (W0 : World) {Z : Value → AH → Prop} : Has (Ecx (cxZ W0 Z)) K.rules_reader_names A.rules_reader_names := fn_sound Try.checked.mixed rfl (by exact Try.func17) (by kernel_rfl) tie_rules_reader_names
theorem tie_rules_token : compFn Try.prog yK Try.f23 = some A.rules_token.strip := by kernel_rfl
theorem has_rules_token (W0 : World) {Z : Value → AH → Prop} : Has (Ecx (cxZ W0 Z)) K.rules_token A.rules_token := fn_sound Try.checked.mixed rfl (by exact Try.func23) (by kernel_rfl) tie_rules_token
theorem tie_rules_Right_1 : compFn Try.prog yK Try.f25 = some A.rules_Right_1.strip := by kernel_rfl
theorem has_rules_Right_1 (W0 : World) {Z : Value → AH → Prop} : Has (Ecx (cxZ W0 Z)) K.rules_Right_1 A.rules_Right_1 := fn_sound Try.checked.mixed rfl (by exact Try.func25) (by kernel_rfl) tie_rules_Right_1
theorem tie_rules_Tree_fine : compFn Try.prog yK Try.f26 = some A.rules_Tree_fine.strip := by kernel_rfl
theorem has_rules_Tree_fine (W0 : World) {Z : Value → AH → Prop} : Has (Ecx (cxZ W0 Z)) K.rules_Tree_fine A.rules_Tree_fine := fn_sound Try.checked.mixed rfl (by exact Try.func26) (by kernel_rfl) tie_rules_Tree_fine
theorem tie_rules_Same_1 : compFn Try.prog yK Try.f32 = some A.rules_Same_1.strip := by kernel_rfl
theorem has_rules_Same_1 (W0 : World) {Z : Value → AH → Prop} : Has (Ecx (cxZ W0 Z)) K.rules_Same_1 A.rules_Same_1 := fn_sound Try.checked.mixed rfl (by exact Try.func32) (by kernel_rfl) tie_rules_Same_1
theorem tie_rules_reader_text : compFn Try.prog yK Try.f35 = some A.rules_reader_text.strip := by kernel_rfl
theorem has_rules_reader_text (W0 : World) {Z : Value → AH → Prop} : Has (Ecx (cxZ W0 Z)) K.rules_reader_text A.rules_reader_text := fn_sound Try.checked.mixed rfl (by exact Try.func35) (by kernel_rfl) tie_rules_reader_text
theorem tie_rules_Tree_fine_1 : compFn Try.prog yK Try.f42 = some A.rules_Tree_fine_1.strip := by kernel_rfl
theorem has_rules_Tree_fine_1 (W0 : World) {Z : Value → AH → Prop} : Has (Ecx (cxZ W0 Z)) K.rules_Tree_fine_1 A.rules_Tree_fine_1 := fn_sound Try.checked.mixed rfl (by exact Try.func42) (by kernel_rfl) tie_rules_Tree_fine_1
theorem tie_rules_reader_name : compFn Try.prog yK Try.f52 = some A.rules_reader_name.strip := by kernel_rfl
theorem has_rules_reader_name (W0 : World) {Z : Value → AH → Prop} : Has (Ecx (cxZ W0 Z)) K.rules_reader_name A.rules_reader_name := fn_sound Try.checked.mixed rfl (by exact Try.func52) (by kernel_rfl) tie_rules_reader_name
theorem tie_rules_reader_must : compFn Try.prog yK Try.f53 = some A.rules_reader_must.strip := by kernel_rfl
theorem has_rules_reader_must (W0 : World) {Z : Value → AH → Prop} : Has (Ecx (cxZ W0 Z)) K.rules_reader_must A.rules_reader_must := fn_sound Try.checked.mixed rfl (by exact Try.func53) (by kernel_rfl) tie_rules_reader_must
theorem tie_rules_reader_alternatives : compFn Try.prog yK Try.f54 = some A.rules_reader_alternatives.strip := by kernel_rfl
theorem has_rules_reader_alternatives (W0 : World) {Z : Value → AH → Prop} : Has (Ecx (cxZ W0 Z)) K.rules_reader_alternatives A.rules_reader_alternatives := fn_sound Try.checked.mixed rfl (by exact Try.func54) (by kernel_rfl) tie_rules_reader_alternatives
theorem tie_rules_reader_fail : compFn Try.prog yK Try.f59 = some A.rules_reader_fail.strip := by kernel_rfl
theorem has_rules_reader_fail (W0 : World) {Z : Value → AH → Prop} : Has (Ecx (cxZ W0 Z)) K.rules_reader_fail A.rules_reader_fail := fn_sound Try.checked.mixed rfl (by exact Try.func59) (by kernel_rfl) tie_rules_reader_fail
theorem tie_rules_reader_take : compFn Try.prog yK Try.f60 = some A.rules_reader_take.strip := by kernel_rfl
theorem has_rules_reader_take (W0 : World) {Z : Value → AH → Prop} : Has (Ecx (cxZ W0 Z)) K.rules_reader_take A.rules_reader_take := fn_sound Try.checked.mixed rfl (by exact Try.func60) (by kernel_rfl) tie_rules_reader_take
theorem tie_rules_reader_begins : compFn Try.prog yK Try.f61 = some A.rules_reader_begins.strip := by kernel_rfl
theorem has_rules_reader_begins (W0 : World) {Z : Value → AH → Prop} : Has (Ecx (cxZ W0 Z)) K.rules_reader_begins A.rules_reader_begins := fn_sound Try.checked.mixed rfl (by exact Try.func61) (by kernel_rfl) tie_rules_reader_begins
theorem tie_rules_reader_item : compFn Try.prog yK Try.f62 = some A.rules_reader_item.strip := by kernel_rfl
theorem has_rules_reader_item (W0 : World) {Z : Value → AH → Prop} : Has (Ecx (cxZ W0 Z)) K.rules_reader_item A.rules_reader_item := fn_sound Try.checked.mixed rfl (by exact Try.func62) (by kernel_rfl) tie_rules_reader_item
theorem tie_rules_reader_one : compFn Try.prog yK Try.f63 = some A.rules_reader_one.strip := by kernel_rfl
theorem has_rules_reader_one (W0 : World) {Z : Value → AH → Prop} : Has (Ecx (cxZ W0 Z)) K.rules_reader_one A.rules_reader_one := fn_sound Try.checked.mixed rfl (by exact Try.func63) (by kernel_rfl) tie_rules_reader_one
theorem tie_rules_reader_ahead : compFn Try.prog yK Try.f66 = some A.rules_reader_ahead.strip := by kernel_rfl
theorem has_rules_reader_ahead (W0 : World) {Z : Value → AH → Prop} : Has (Ecx (cxZ W0 Z)) K.rules_reader_ahead A.rules_reader_ahead := fn_sound Try.checked.mixed rfl (by exact Try.func66) (by kernel_rfl) tie_rules_reader_ahead
theorem tie_rules_reader_atom : compFn Try.prog yK Try.f67 = some A.rules_reader_atom.strip := by kernel_rfl
theorem has_rules_reader_atom (W0 : World) {Z : Value → AH → Prop} : Has (Ecx (cxZ W0 Z)) K.rules_reader_atom A.rules_reader_atom := fn_sound Try.checked.mixed rfl (by exact Try.func67) (by kernel_rfl) tie_rules_reader_atom
theorem tie_rules_reader_node : compFn Try.prog yK Try.f68 = some A.rules_reader_node.strip := by kernel_rfl
theorem has_rules_reader_node (W0 : World) {Z : Value → AH → Prop} : Has (Ecx (cxZ W0 Z)) K.rules_reader_node A.rules_reader_node := fn_sound Try.checked.mixed rfl (by exact Try.func68) (by kernel_rfl) tie_rules_reader_node
end Go.Proofs.Ytecgbggobecpjaa.Al
namespace Go.Proofs.Ytecgbggobecpjaa.Al
open Go
theorem tie_scan_Scan : compFn Try.prog yK Try.f15 = some A.scan_Scan.strip := by kernel_rfl
theorem has_scan_Scan (W0 : World) {Z : Value → AH → Prop} : Has (Ecx (cxZ W0 Z)) K.scan_Scan A.scan_Scan := fn_sound Try.checked.mixed rfl (by exact Try.func15) (by kernel_rfl) tie_scan_Scan
theorem tie_scan_first : compFn Try.prog yK Try.f33 = some A.scan_first.strip := by kernel_rfl
theorem has_scan_first (W0 : World) {Z : Value → AH → Prop} : Has (Ecx (cxZ W0 Z)) K.scan_first A.scan_first := fn_sound Try.checked.mixed rfl (by exact Try.func33) (by kernel_rfl) tie_scan_first
theorem tie_scan_letter : compFn Try.prog yK Try.f47 = some A.scan_letter.strip := by kernel_rfl
theorem has_scan_letter (W0 : World) {Z : Value → AH → Prop} : Has (Ecx (cxZ W0 Z)) K.scan_letter A.scan_letter := fn_sound Try.checked.mixed rfl (by exact Try.func47) (by kernel_rfl) tie_scan_letter
theorem tie_scan_run : compFn Try.prog yK Try.f48 = some A.scan_run.strip := by kernel_rfl
theorem has_scan_run (W0 : World) {Z : Value → AH → Prop} : Has (Ecx (cxZ W0 Z)) K.scan_run A.scan_run := fn_sound Try.checked.mixed rfl (by exact Try.func48) (by kernel_rfl) tie_scan_run
theorem tie_scan_part : compFn Try.prog yK Try.f49 = some A.scan_part.strip := by kernel_rfl
theorem has_scan_part (W0 : World) {Z : Value → AH → Prop} : Has (Ecx (cxZ W0 Z)) K.scan_part A.scan_part := fn_sound Try.checked.mixed rfl (by exact Try.func49) (by kernel_rfl) tie_scan_part
theorem tie_scan_quoted : compFn Try.prog yK Try.f50 = some A.scan_quoted.strip := by kernel_rfl
theorem has_scan_quoted (W0 : World) {Z : Value → AH → Prop} : Has (Ecx (cxZ W0 Z)) K.scan_quoted A.scan_quoted := fn_sound Try.checked.mixed rfl (by exact Try.func50) (by kernel_rfl) tie_scan_quoted
end Go.Proofs.Ytecgbggobecpjaa.Al
namespace Go.Proofs.Ytecgbggobecpjaa.Al
def A.rules_Right_o.L1 : AC := .post (.seq (.seq (.reg [⟨(some 59), none, .mv (.t 3)⟩, ⟨(some 60), none, .fa 1 (.t 5)⟩, ⟨(some 61), none, .load false 1 (.t 60)⟩, ⟨(some 62), none, .bin .leq (.t 59) (.t 61)⟩])
  (.keep [1, 3, 5, 6, 26, 27, 28, 62] (.cond (.t 62) .skip (.exit 2))))
  (.keep [1, 3, 5, 6, 26, 27, 28] (.seq (.block 3 (.seq (.reg [⟨(some 65), none, .fa 1 (.t 1)⟩, ⟨(some 66), none, .load false 1 (.t 65)⟩, ⟨(some 67), none, .mv (.t 3)⟩, ⟨(some 68), none, .ia 3 (.t 66) (.t 67)⟩, ⟨(some 69), none, .load true 3 (.t 68)⟩, ⟨(some 7), none, .alloc [(.int .i64 (0)), (.str []), (.sl 0 1 [])]⟩, ⟨none, none, .store 3 (.t 7) (.t 69)⟩])
  (.keep [1, 3, 5, 6, 7, 26, 27, 28] (.seq (.reg [⟨(some 70), none, .mv (.t 6)⟩, ⟨(some 71), none, .len false (.t 70)⟩, ⟨(some 72), none, .fa 2 (.t 7)⟩, ⟨(some 73), none, .load false 1 (.t 72)⟩, ⟨(some 74), none, .len false (.t 73)⟩, ⟨(some 75), none, .bin .sub (.t 71) (.t 74)⟩, ⟨(some 8), none, .mv (.t 75)⟩])
  (.keep [1, 3, 5, 6, 7, 8, 26, 27, 28] (.seq (.seq (.draw [(.pl, ⟨(some 76), none, .load true 2 (.t 1)⟩), (.pl, ⟨(some 77), none, .load true 3 (.t 7)⟩), (.pl, ⟨(some 78), none, .call (.c (.fn K.rules_Tree_fine [] [])) [(.t 76), (.t 77)]⟩), (.pl, ⟨(some 79), none, .un .not (.t 78)⟩), (.pl, ⟨(some 80), none, .mv (.t 79)⟩), (.pl, ⟨(some 81), (some (80, false)), .mv (.t 8)⟩), (.pl, ⟨(some 82), (some (80, false)), .bin .lss (.t 81) (.c (.int .i64 (0)))⟩), (.pl, ⟨(some 83), none, .pick (.t 80) (.c (.bool true)) (.t 82)⟩), (.pl, ⟨(some 84), none, .mv (.t 83)⟩), (.pl, ⟨(some 85), (some (84, false)), .mv (.t 6)⟩), (.pl, ⟨(some 86), (some (84, false)), .mv (.t 8)⟩), (.pl, ⟨(some 87), (some (84, false)), .slc 1 (.t 85) (some (.t 86)) none⟩), (.pl, ⟨(some 88), (some (84, false)), .fa 2 (.t 7)⟩), (.pl, ⟨(some 89), (some (84, false)), .load false 1 (.t 88)⟩), (.pl, ⟨(some 90), (some (84, false)), .call (.c (.fn K.slices_Equal_int [] [])) [(.t 87), (.t 89)]⟩), (.pl, ⟨(some 91), (some (84, false)), .un .not (.t 90)⟩), (.pl, ⟨(some 92), none, .pick (.t 84) (.c (.bool true)) (.t 91)⟩)])
  (.keep [1, 3, 5, 6, 8, 26, 27, 28, 92] (.cond (.t 92) (.seq (.reg [⟨(some 2), none, .mv (.c (.bool false))⟩]) .ret) .skip)))
  (.keep [1, 3, 5, 6, 8, 26, 27, 28] (.reg [⟨(some 93), none, .mv (.t 6)⟩, ⟨(some 94), none, .mv (.t 8)⟩, ⟨(some 95), none, .slc 1 (.t 93) none (some (.t 94))⟩, ⟨(some 96), none, .mv (.t 3)⟩, ⟨(some 97), none, .bsl 1 false [(.int .i64 (0))] 1 [(0, (.t 96))]⟩, ⟨(some 98), none, .appg 1 8 (.t 95) (.t 97)⟩, ⟨(some 6), none, .mv (.t 98)⟩]))))))))
  (.keep [1, 3, 5, 6, 26, 27, 28] (.reg [⟨(some 63), none, .mv (.t 3)⟩, ⟨(some 64), none, .bin .add (.t 63) (.c (.int .i64 (1)))⟩, ⟨(some 3), none, .mv (.t 64)⟩]))))) [1, 3, 5, 6, 26, 27, 28]
def A.rules_Right_o.L0 : AC := .post (.seq (.reg [⟨(some 29), none, .bin .lss (.t 28) (.t 27)⟩])
  (.keep [1, 3, 26, 27, 28, 29] (.seq (.cond (.t 29) .skip (.exit 0))
  (.keep [1, 3, 26, 27, 28] (.seq (.block 1 (.seq (.reg [⟨(some 30), none, .mv (.t 28)⟩, ⟨(some 31), none, .ia 2 (.t 26) (.t 28)⟩, ⟨(some 32), none, .load true 2 (.t 31)⟩, ⟨(some 5), none, .alloc [(.str []), (.int .i64 (0))]⟩, ⟨(some 4), none, .mv (.t 30)⟩, ⟨none, none, .store 2 (.t 5) (.t 32)⟩])
  (.keep [1, 3, 4, 5, 26, 27, 28] (.seq (.seq (.reg [⟨(some 33), none, .fa 0 (.t 5)⟩, ⟨(some 34), none, .load false 1 (.t 33)⟩, ⟨(some 35), none, .call (.c (.fn K.rules_token [] [])) [(.t 34), (.c (.int .i64 (1)))]⟩, ⟨(some 36), none, .un .not (.t 35)⟩, ⟨(some 37), none, .mv (.t 36)⟩, ⟨(some 38), (some (37, false)), .fa 0 (.t 1)⟩, ⟨(some 39), (some (37, false)), .load false 1 (.t 38)⟩, ⟨(some 40), (some (37, false)), .mv (.t 4)⟩, ⟨(some 41), (some (37, false)), .slc 2 (.t 39) none (some (.t 40))⟩, ⟨(some 42), (some (37, false)), .mkfn K.rules_Right_1 [] [(.t 5)]⟩, ⟨(some 43), (some (37, false)), .call (.c (.fn K.slices_ContainsFunc_Rule [] [])) [(.t 41), (.t 42)]⟩, ⟨(some 44), none, .pick (.t 37) (.c (.bool true)) (.t 43)⟩, ⟨(some 45), none, .mv (.t 44)⟩, ⟨(some 46), (some (45, false)), .fa 1 (.t 5)⟩, ⟨(some 47), (some (45, false)), .load false 1 (.t 46)⟩, ⟨(some 48), (some (45, false)), .mv (.t 3)⟩, ⟨(some 49), (some (45, false)), .bin .lss (.t 47) (.t 48)⟩, ⟨(some 50), none, .pick (.t 45) (.c (.bool true)) (.t 49)⟩, ⟨(some 51), none, .mv (.t 50)⟩, ⟨(some 52), (some (51, false)), .fa 1 (.t 5)⟩, ⟨(some 53), (some (51, false)), .load false 1 (.t 52)⟩, ⟨(some 54), (some (51, false)), .fa 1 (.t 1)⟩, ⟨(some 55), (some (51, false)), .load false 1 (.t 54)⟩, ⟨(some 56), (some (51, false)), .len false (.t 55)⟩, ⟨(some 57), (some (51, false)), .bin .geq (.t 53) (.t 56)⟩, ⟨(some 58), none, .pick (.t 51) (.c (.bool true)) (.t 57)⟩])
  (.keep [1, 3, 5, 26, 27, 28, 58] (.cond (.t 58) (.seq (.reg [⟨(some 2), none, .mv (.c (.bool false))⟩]) .ret) .skip)))
  (.keep [1, 3, 5, 26, 27, 28] (.seq (.reg [⟨(some 6), none, .mv (.c (.sl 0 1 []))⟩])
  (.keep [1, 3, 5, 6, 26, 27, 28] (.seq (.block 2 (.loop A.rules_Right_o.L1))
  (.keep [1, 3, 6, 26, 27, 28] (.seq (.reg [⟨(some 99), none, .mv (.t 6)⟩, ⟨(some 100), none, .len false (.t 99)⟩, ⟨(some 101), none, .bin .neq (.t 100) (.c (.int .i64 (1)))⟩])
  (.keep [1, 3, 26, 27, 28, 101] (.cond (.t 101) (.seq (.reg [⟨(some 2), none, .mv (.c (.bool false))⟩]) .ret) .skip))))))))))))
  (.keep [1, 3, 26, 27, 28] (.reg [⟨(some 102), none, .bin .add (.t 28) (.c (.int .i64 (1)))⟩, ⟨(some 28), none, .mv (.t 102)⟩]))))))) [1, 3, 26, 27, 28]
def A.rules_Right_o : AFn := ⟨108, [(2, none)], (.seq (.reg [⟨(some 1), none, .box (.t 0)⟩, ⟨(some 2), none, .mv (.c (.bool false))⟩])
  (.keep [1] (.seq (.seq (.reg [⟨(some 9), none, .fa 0 (.t 1)⟩, ⟨(some 10), none, .load false 1 (.t 9)⟩, ⟨(some 11), none, .len false (.t 10)⟩, ⟨(some 12), none, .bin .eql (.t 11) (.c (.int .i64 (0)))⟩, ⟨(some 13), none, .mv (.t 12)⟩, ⟨(some 14), (some (13, false)), .fa 0 (.t 1)⟩, ⟨(some 15), (some (13, false)), .load false 1 (.t 14)⟩, ⟨(some 16), (some (13, false)), .len false (.t 15)⟩, ⟨(some 17), (some (13, false)), .bin .gtr (.t 16) (.c (.int .i64 (24)))⟩, ⟨(some 18), none, .pick (.t 13) (.c (.bool true)) (.t 17)⟩, ⟨(some 19), none, .mv (.t 18)⟩, ⟨(some 20), (some (19, false)), .fa 1 (.t 1)⟩, ⟨(some 21), (some (19, false)), .load false 1 (.t 20)⟩, ⟨(some 22), (some (19, false)), .len false (.t 21)⟩, ⟨(some 23), (some (19, false)), .bin .gtr (.t 22) (.c (.int .i64 (200)))⟩, ⟨(some 24), none, .pick (.t 19) (.c (.bool true)) (.t 23)⟩])
  (.keep [1, 24] (.cond (.t 24) (.seq (.reg [⟨(some 2), none, .mv (.c (.bool false))⟩]) .ret) .skip)))
  (.keep [1] (.seq (.reg [⟨(some 3), none, .mv (.c (.int .i64 (0)))⟩])
  (.keep [1, 3] (.seq (.seq (.reg [⟨(some 25), none, .fa 0 (.t 1)⟩, ⟨(some 26), none, .load false 1 (.t 25)⟩, ⟨(some 27), none, .len false (.t 26)⟩, ⟨(some 28), none, .mv (.c (.int .i64 (0)))⟩])
  (.keep [1, 3, 26, 27, 28] (.block 0 (.loop A.rules_Right_o.L0))))
  (.keep [1, 3] (.seq (.reg [⟨(some 103), none, .mv (.t 3)⟩, ⟨(some 104), none, .fa 1 (.t 1)⟩, ⟨(some 105), none, .load false 1 (.t 104)⟩, ⟨(some 106), none, .len false (.t 105)⟩, ⟨(some 107), none, .bin .eql (.t 103) (.t 106)⟩, ⟨(some 2), none, .mv (.t 107)⟩]) .ret)))))))))⟩
end Go.Proofs.Ytecgbggobecpjaa.Al
namespace Go.Proofs.Ytecgbggobecpjaa.Al
open Go
theorem tie_o_rules_Right : compFn Try.prog ({ yK with om := fun n => ([1000098] : List Nat).contains n }) Try.f12 = some A.rules_Right_o.strip := by kernel_rfl
theorem has_o_rules_Right (W0 : World) {Z : Value → AH → Prop} : Has (Ecx (cxZ W0 Z)) K.rules_Right A.rules_Right_o := fn_sound (Y := ({ yK with om := fun n => ([1000098] : List Nat).contains n })) Try.checked.mixed rfl (by exact Try.func12) (by kernel_rfl) tie_o_rules_Right
end Go.Proofs.Ytecgbggobecpjaa.Al
namespace Go.Proofs.Ytecgbggobecpjaa.Al
open Go Go.RowKit
theorem ext_indexByte (W : World) {Z : Value → AH → Prop} (s : Str) (c : Int) (h : AH) (Q : V → AH → Prop) (hQ : Q (.int .i64 (idxB s c)) h) : Ecx (cxZ W Z) K.bytealg_IndexByteString [.str s, .int .u8 c] h Q :=
  indexByte_ext (X := cxZ W Z) (fn := Try.f65) (by exact Try.func65) (by kernel_rfl) (by kernel_rfl) (by kernel_rfl) (by kernel_rfl) s c hQ
theorem ls (W : World) {Z : Value → AH → Prop} : LS (cxZ W Z) := ⟨has_scan_letter W, has_scan_part W, has_scan_quoted W, has_scan_run W, has_scan_first W, has_scan_Scan W, has_strings_Cut W, has_strings_IndexByte W, has_stringslite_Cut W, has_stringslite_IndexByte W, has_stringslite_Index W, ext_indexByte W⟩
theorem lru (W : World) {Z : Value → AH → Prop} : LRu (cxZ W Z) := ⟨ls W, has_rules_token W, has_rules_Tree_fine W, has_rules_Tree_fine_1 W, has_rules_Right W, has_rules_Right_1 W, has_slices_ContainsFunc_Rule W, has_slices_IndexFunc_Rule W, has_slices_Contains_byte W, has_slices_Index_byte W, has_slices_Equal_int W⟩
end Go.Proofs.Ytecgbggobecpjaa.Al
namespace Go.Proofs.Ytecgbggobecpjaa.Al
open Go Go.RowKit
set_option linter.unusedSimpArgs false
set_option linter.unusedVariables false
/-- With other stamps' ghosts. -/
theorem Rel.retip {X : Cx} {g g' : Gh} {w : World} {h h' : AH} (n3 : 3 ≤ h'.next) {n : Nat} (hn : n ≤ h'.next) (hnx : h'.nobj ≤ h.nobj) (hgo : g'.obj = g.obj) (hgm : g'.mp = g.mp) (hgp : g'.pub = g.pub) (hgt : ∀ s, s < n → g'.tip s = g.tip s) (h3n : 3 ≤ n)
    (ht : ∀ s e, s < n → h'.tips s = some e → h.tips s = some e) {v : V} {x : Value} (r : Rel X g w h v x) (bd : Bdd n h'.nobj v) : Rel X g' w h' v x := by
  induction r with
  | bool b => exact .bool b
  | int k n => exact .int k n
  | str s => exact .str s
  | slnil e st hst => exact .slnil e st hst
  | slemp e a => exact .slemp e a
  | sl e st l b' off cap x h1 hs hcap he hc ho hp hr h2 h3 ih =>
    cases bd with
    | sl _ _ _ hs' hl =>
      have hsn : st < n := by omega
      refine .sl e st l b' off cap x h1 (by omega) hcap he hc ho (by rw [hgp]; exact hp) (fun i hi => ih i hi (hl _ (List.getElem_mem hi))) h2 (fun e' he' => ?_)
      obtain ⟨a, b, c, d⟩ := h3 e' (ht _ _ hsn he')
      exact ⟨a, by rw [hgt _ hsn]; exact b, by rw [hgp]; exact c, d⟩
  | agg l cs hl ho hr ih =>
    cases bd with
    | agg _ hb => exact .agg l cs hl ho (fun i h1 h2 => ih i h1 h2 (hb _ (List.getElem_mem h1)))
  | ptr o off hn hm => cases bd with | ptr _ _ ho => rw [← hgo]; exact .ptr o off ho (by rw [hgm]; exact hm)
  | mapr o hn hm => cases bd with | mapr _ ho => rw [← hgo]; exact .mapr o ho (by rw [hgm]; exact hm)
  | mapn => exact .mapn
  | osl e o off len cap c hn hm hc hk => cases bd with | osl _ _ _ _ _ ho => rw [← hgo]; exact .osl e o off len cap c ho (by rw [hgm]; exact hm) hc hk
  | rptr l off b' base x hc ho hp hr ih =>
    cases bd with
    | rptr _ _ hb => exact .rptr l off b' base x hc ho (by rw [hgp]; exact hp) (fun i hi => ih i hi (hb _ (List.getElem_mem hi)))
  | nilp => exact .nilp
  | fn f first cap fs cs h0 hf hcl hr1 hr2 ih1 ih2 =>
    cases bd with
    | fn _ _ _ b1 b2 => exact .fn f first cap fs cs h0 hf hcl (fun i h1 h2 => ih1 i h1 h2 (b1 _ (List.getElem_mem h1))) (fun i h1 h2 => ih2 i h1 h2 (b2 _ (List.getElem_mem h1)))
  | nilf => exact .nilf
  | tup l cs hl hr ih =>
    cases bd with
    | tup _ hb => exact .tup l cs hl (fun i h1 h2 => ih i h1 h2 (hb _ (List.getElem_mem h1)))
  | cval c => exact .cval c
  | undef v => exact .undef v
/-- From h to h1 a slice of that stamp has been appended to. -/
structure SE (e : Nat) (h h1 : AH) (st st1 : Nat) : Prop where
  next : h.next ≤ h1.next
  nobj : h.nobj ≤ h1.nobj
  objs : ∀ o, o < h.nobj → h1.objs o = h.objs o
  tips : ∀ s, s < h.next → (s ≠ st ∨ s ≤ 2) → h1.tips s = h.tips s
  st : (st1 = st ∧ h1.tips st = h.tips st ∧ (st ≤ 2 ∨ st < h.next)) ∨ (h.next ≤ st1 ∧ st1 < h1.next ∧ h1.tips st1 = some e)
theorem SE.refl {e : Nat} {h : AH} {st : Nat} (hs : st ≤ 2 ∨ st < h.next) : SE e h h st st := ⟨Nat.le_refl _, Nat.le_refl _, fun _ _ => rfl, fun _ _ _ => rfl, .inl ⟨rfl, rfl, hs⟩⟩
theorem SE.new {e : Nat} {h h1 : AH} {st st1 : Nat} (s : SE e h h1 st st1) (z : List V) : SE e h (h1.new z) st st1 :=
  ⟨s.next, Nat.le_succ_of_le s.nobj, fun o ho => by rw [new_objs_ne _ _ (by have := s.nobj; omega)]; exact s.objs o ho, s.tips, s.st⟩
theorem SE.set {e : Nat} {h h1 : AH} {st st1 : Nat} (s : SE e h h1 st st1) {o : Nat} (ho : h.nobj ≤ o) (z : List V) : SE e h (h1.set o z) st st1 :=
  ⟨s.next, s.nobj, fun o' ho' => by rw [set_objs_ne _ _ _ (by omega)]; exact s.objs o' ho', s.tips, s.st⟩
theorem push_tips_at {h : AH} {st e s : Nat} (h1 : s < h.next) (h2 : s ≠ st ∨ s ≤ 2) : (h.push st e).tips s = h.tips s := by
  have hne : s ≠ h.next := by omega
  unfold AH.push
  split
  · exact updN_ne _ _ hne
  · have e1 : ((h.drop st).grow e).tips s = (h.drop st).tips s := updN_ne _ _ hne
    rw [e1]; exact updN_ne _ _ (by omega)
theorem SE.push {e : Nat} {h h1 : AH} (n3 : 3 ≤ h.next) {st st1 : Nat} (s : SE e h h1 st st1) : SE e h (h1.push st1 e) st h1.next := by
  have a := s.next
  refine ⟨by rw [push_next]; omega, by rw [push_nobj]; exact s.nobj, fun o ho => by rw [push_objs]; exact s.objs o ho, fun k hk hn => ?_, .inr ⟨a, by rw [push_next]; omega, push_new h1 st1 e⟩⟩
  rw [push_tips_at (by omega) ?_]
  · exact s.tips k hk hn
  · rcases s.st with ⟨b, _⟩ | ⟨b, _⟩
    · rw [b]; exact hn
    · omega
/-- A slice to which may be appended. -/
structure May (e : Nat) (h : AH) (e1 st : Nat) (l : List V) : Prop where
  el : l = [] ∨ e1 = e
  st : st = 1 ∨ st = 2 ∨ h.tips st = some e
theorem May.app {e : Nat} {h : AH} {e1 st : Nat} {l : List V} (y : May e h e1 st l) {sz e2 : Nat} {m : List V} (hm : m ≠ []) (he : e2 = e) (hb : (l.length + m.length) * sz ≤ 2 ^ 46) {K : V → AH → Prop} {zK : Lz K}
    (hk : K (.sl e h.next (l ++ m)) (h.push st e)) : App h e sz e1 st l e2 m zK :=
  ⟨fun h0 => absurd h0 hm, fun _ => ⟨y.st, y.el, he, hb, hk⟩⟩
theorem May.se {e : Nat} {h h1 : AH} {e1 st st1 : Nat} {l : List V} (y : May e h e1 st l) (s : SE e h h1 st st1) {l1 : List V} {e2 : Nat} (hl : l1 = [] ∨ e2 = e) : May e h1 e2 st1 l1 :=
  ⟨hl, by
    rcases s.st with ⟨b, c, _⟩ | ⟨b, _, c⟩
    · rw [b, c]; exact y.st
    · exact .inr (.inr c)⟩
section
variable {X : Cx} {h : AH} {Q : V → AH → Prop}
/-- A call that appends to a slice, and hands it back. -/
theorem Ecx.tip {k : Nat} {args : List V} {st e : Nat} (hst : st ≤ 2 ∨ st < h.next)
    (c : Ecx X k args h fun r h1 => ∃ st1 l, r = .sl e st1 l ∧ SE e h h1 st st1 ∧ h.next ≤ st1 ∧ (∀ v ∈ cellsOf l, Bdd h.next h.nobj v) ∧ Q (.sl e h.next l) (h.push st e)) : Ecx X k args h Q := by
  intro g w cargs I rl
  refine (c g w cargs I rl).mono ?_
  rintro x w' ⟨r, h1, g', ⟨st1, l, rfl, se, hle, hb, q⟩, I', rx, S⟩
  have n3 := I.next
  have hs1 : st1 < h1.next ∧ h1.tips st1 = some e := by
    rcases se.st with ⟨b, c, d⟩ | ⟨b, c, d⟩
    · omega
    · exact ⟨c, d⟩
  have htn : (h.push st e).next = h.next + 1 := push_next _ _ _
  have hob : (h.push st e).objs = h.objs := push_objs _ _ _
  have hno : (h.push st e).nobj = h.nobj := push_nobj _ _ _
  have htip : ∀ s e', s < h.next → (h.push st e).tips s = some e' → h.tips s = some e' ∧ h1.tips s = some e' := fun s e' hs he => by
    by_cases hq : s ≠ st ∨ s ≤ 2
    · rw [push_tips_at hs hq] at he
      exact ⟨he, by rw [se.tips s hs hq]; exact he⟩
    · obtain rfl : s = st := by omega
      unfold AH.push at he
      rw [if_neg (by omega)] at he
      have e1 : ((h.drop s).grow e).tips s = (h.drop s).tips s := updN_ne _ _ (by show s ≠ h.next; omega)
      rw [e1, show (h.drop s).tips s = none from updN_same _ _ _] at he
      cases he
  have htop : ∀ s e', (h.push st e).tips s = some e' → s < h.next ∨ (s = h.next ∧ e' = e) := fun s e' he => by
    by_cases hq : s = h.next
    · subst hq; rw [push_new] at he; exact .inr ⟨rfl, (Option.some.inj he).symm⟩
    · left
      have : (h.push st e).tips s = some e' → h.tips s = some e' := fun he => by
        unfold AH.push at he
        split at he
        · rwa [show (h.grow e).tips s = h.tips s from updN_ne _ _ hq] at he
        · rw [show ((h.drop st).grow e).tips s = (h.drop st).tips s from updN_ne _ _ hq] at he
          by_cases hs : s = st
          · subst hs; rw [show (h.drop s).tips s = none from updN_same _ _ _] at he; cases he
          · rwa [show (h.drop st).tips s = h.tips s from updN_ne _ _ hs] at he
      exact (I.tipB s e' (this he)).2.1
  obtain ⟨g2, hg2e⟩ : ∃ g2 : Gh, g2 = { g' with tip := updN g'.tip h.next (g'.tip st1) } := ⟨_, rfl⟩
  have ho2 : g2.obj = g'.obj := by rw [hg2e]
  have hm2 : g2.mp = g'.mp := by rw [hg2e]
  have hp2 : g2.pub = g'.pub := by rw [hg2e]
  have hg2 : ∀ s, s < h.next → g2.tip s = g'.tip s := fun s hs => by rw [hg2e]; exact updN_ne _ _ (by omega)
  have hg2n : g2.tip h.next = g'.tip st1 := by rw [hg2e]; exact updN_same _ _ _
  have conv : ∀ {v : V} {x : Value}, Rel X g' w' h1 v x → Bdd h.next h.nobj v → Rel X g2 w' (h.push st e) v x := fun {v x} r b =>
    Rel.retip (g := g') (g' := g2) (n := h.next) (by rw [htn]; omega) (by rw [htn]; omega) (by rw [hno]; exact se.nobj) ho2 hm2 hp2 hg2 n3 (fun s e' hs he => (htip s e' hs he).2) r (by rw [hno]; exact b)
  have hbd : ∀ o, o < h.nobj → ∀ v ∈ h.objs o, Bdd h.next h.nobj v := fun o ho v hv => I.objBdd ho v hv
  have S2 : Stp g w h g2 w' (h.push st e) :=
    { next := by rw [htn]; omega
      nobj := by rw [hno]; exact Nat.le_refl _
      obj := by rw [ho2]; exact S.obj
      mp := by rw [hm2]; exact S.mp
      pub := by rw [hp2]; exact S.pub
      cell := S.cell
      tip := fun s hs e' he => by
        obtain ⟨a, b⟩ := htip s e' hs he
        obtain ⟨c, d, f⟩ := S.tip s hs e' b
        exact ⟨a, by rw [hg2 s hs]; exact d, by rw [hp2]; exact f⟩
      row := fun s hs e' he => S.row s hs e' (htip s e' hs he).2 }
  refine ⟨_, _, g2, q, ?_, ?_, S2⟩
  · exact
      { below := I'.below
        next := by rw [htn]; omega
        maps := fun o ho hm => by
          rw [hno] at ho
          rw [hm2] at hm
          unfold MapOk
          rw [ho2]
          obtain ⟨es, k1, k2, k3, k4⟩ := I'.maps o (Nat.lt_of_lt_of_le ho se.nobj) hm
          refine ⟨es, k1, by rw [hob, ← se.objs o ho]; exact k2, k3, fun i i1 i2 => ?_⟩
          simp only [hob] at i1 ⊢
          have := k4 i (by rw [se.objs o ho]; exact i1) i2
          simp only [se.objs o ho] at this
          exact conv this (hbd o ho _ (List.getElem_mem i1))
        objs := fun o ho hm hne => by
          rw [hno] at ho
          rw [hob] at hne
          rw [hm2] at hm
          rw [ho2]
          obtain ⟨cs, t, k1, k2, k3, k4⟩ := I'.objs o (Nat.lt_of_lt_of_le ho se.nobj) hm (by rw [se.objs o ho]; exact hne)
          refine ⟨cs, t, k1, by rw [hob, ← se.objs o ho]; exact k2, k3, fun i i1 i2 => ?_⟩
          simp only [hob] at i1 ⊢
          have := k4 i (by rw [se.objs o ho]; exact i1) i2
          simp only [se.objs o ho] at this
          exact conv this (hbd o ho _ (List.getElem_mem i1))
        objL := fun {o} ho => by rw [ho2]; exact I'.objL (Nat.lt_of_lt_of_le (by rw [hno] at ho; exact ho) se.nobj)
        objB := fun o ho => by
          rw [hno] at ho
          rw [ho2, hm2, hp2]
          refine ⟨(I'.objB o (Nat.lt_of_lt_of_le ho se.nobj)).1, fun hm hne => (I'.objB o (Nat.lt_of_lt_of_le ho se.nobj)).2 hm ?_⟩
          rw [se.objs o ho]; rw [hob] at hne; exact hne
        objI := fun o o' a b => by rw [ho2]; exact I'.objI o o' (Nat.lt_of_lt_of_le (by rw [hno] at a; exact a) se.nobj) (Nat.lt_of_lt_of_le (by rw [hno] at b; exact b) se.nobj)
        tipB := fun s e' he => by
          rcases htop s e' he with hs | ⟨rfl, rfl⟩
          · obtain ⟨a, b, c, d⟩ := I'.tipB s e' (htip s e' hs he).2
            exact ⟨a, by rw [htn]; omega, by rw [hg2 s hs]; exact c, by rw [hg2 s hs]; exact d⟩
          · obtain ⟨a, b, c, d⟩ := I'.tipB st1 e' hs1.2
            exact ⟨n3, by rw [htn]; omega, by rw [hg2n]; exact c, by rw [hg2n]; exact d⟩
        tipI := fun s e' s' e'' he he' heq => by
          rcases htop s e' he with hs | ⟨rfl, rfl⟩ <;> rcases htop s' e'' he' with hs' | ⟨rfl, rfl⟩
          · rw [hg2 s hs, hg2 s' hs'] at heq
            exact I'.tipI s e' s' e'' (htip s e' hs he).2 (htip s' e'' hs' he').2 heq
          · rw [hg2 s hs, hg2n] at heq
            have := I'.tipI s e' st1 e'' (htip s e' hs he).2 hs1.2 heq
            omega
          · rw [hg2 s' hs', hg2n] at heq
            have := I'.tipI st1 e' s' e'' hs1.2 (htip s' e'' hs' he').2 heq
            omega
          · rfl
        tipO := fun o s e' ho he => by
          rw [hno] at ho
          rw [ho2]
          rcases htop s e' he with hs | ⟨rfl, rfl⟩
          · rw [hg2 s hs]; exact I'.tipO o s e' (Nat.lt_of_lt_of_le ho se.nobj) (htip s e' hs he).2
          · rw [hg2n]; exact I'.tipO o st1 e' (Nat.lt_of_lt_of_le ho se.nobj) hs1.2
        pubB := by rw [hp2]; exact I'.pubB }
  · cases rx with
    | slnil e st hst => omega
    | slemp e a => omega
    | sl e st l b' off cap x h1' hs hcap he hc ho hp hr h2 h3 =>
      refine .sl e h.next l b' off cap x (by omega) (by rw [htn]; omega) hcap he hc ho (by rw [hp2]; exact hp) (fun i hi => conv (hr i hi) (hb _ (List.getElem_mem hi))) (fun e2 => by omega) (fun e' he' => ?_)
      rw [push_new] at he'
      obtain rfl := Option.some.inj he'
      obtain ⟨a, b, c, d⟩ := h3 _ hs1.2
      exact ⟨rfl, by rw [hg2n]; exact b, by rw [hp2]; exact c, d⟩
end
end Go.Proofs.Ytecgbggobecpjaa.Al
namespace Go.Proofs.Ytecgbggobecpjaa.Al
open Go Go.RowKit
set_option linter.unusedSimpArgs false
set_option linter.unusedVariables false
attribute [-simp] List.getD_eq_getElem?_getD Int.not_lt Int.not_le List.map_take List.map_map
/-! ### What is read, in plain Lean -/
/-- A name that is used, or given, and its place. -/
structure Use where
  name : Str
  at' : Nat
  deriving DecidableEq
def useV (u : Use) : V := .agg [.str u.name, .int .i64 u.at']
/-- A reader's state. -/
structure PS where
  at' : Nat
  rules : List Rl
  nodes : List Nd
  given : List Use
  used : List Use
def PS.adv (s : PS) : PS := { s with at' := s.at' + 1 }
def PS.lay (s : PS) (kind : Int) (name : Str) (kids : List Int) : PS := { s with nodes := s.nodes ++ [⟨kind, name, kids⟩] }
def PS.last (s : PS) : Int := (s.nodes.length : Int) - 1
section
variable (toks : List Tok) (en : Nat)
def aheadP (a : Nat) (m : Str) : Bool := match toks[a]? with
  | some t => decide (t.kind = 3) && decide (t.text = m)
  | none => false
/-- The place of the next token, or the text's end. -/
def plcP (a : Nat) : Nat := match toks[a]? with
  | some t => t.at'
  | none => en
def bgnP (a : Nat) : Bool := match toks[a]? with
  | some t => decide (t.kind ≠ 3) || decide (t.text = [40])
  | none => false
abbrev PR (α : Type) := Except Nat (PS × α)
def pbnd {α β : Type} (r : PR α) (f : PS → α → PR β) : PR β := match r with
  | .ok (s, a) => f s a
  | .error p => .error p
def mustP (m : Str) (s : PS) : PR Unit := if aheadP toks s.at' m then .ok (s.adv, ()) else .error (plcP toks en s.at')
def nameP (s : PS) : PR Use := match toks[s.at']? with
  | some t => if t.kind = 1 then .ok (s.adv, ⟨t.text, t.at'⟩) else .error t.at'
  | none => .error en
def nodeP (kind : Int) (name : Str) (kids : List Int) (s : PS) : PS × Int := ((s.lay kind name kids), (s.nodes.length : Int))
def oneP (kind : Int) (l : List Int) (s : PS) : PS × Int := match l with
  | [n] => (s, n)
  | l => nodeP kind [] l s
def useP (u : Use) (s : PS) : PS := { s with used := s.used ++ [u] }
def atomP (alt : PS → PR Int) (s : PS) : PR Int :=
  if aheadP toks s.at' [40] then pbnd (alt s.adv) fun s1 n => pbnd (mustP toks en [41] s1) fun s2 _ => .ok (s2, n)
  else match toks[s.at']? with
    | none => .error en
    | some t => if t.kind = 2 then .ok (nodeP 7 t.text [] s.adv) else pbnd (nameP toks en s) fun s1 u => .ok (nodeP 6 u.name [] (useP u s1))
def markP (s : PS) (n : Int) : PS × Int :=
  if aheadP toks s.at' [42] then nodeP 3 [] [n] s.adv
  else if aheadP toks s.at' [43] then nodeP 4 [] [n] s.adv
  else if aheadP toks s.at' [63] then nodeP 5 [] [n] s.adv
  else (s, n)
def itemP (alt : PS → PR Int) (s : PS) : PR Int := pbnd (atomP toks en alt s) fun s1 n => .ok (markP toks s1 n)
def itemsP (alt : PS → PR Int) : Nat → PS → List Int → PR (List Int)
  | 0, s, l => .ok (s, l)
  | k + 1, s, l => if bgnP toks s.at' then pbnd (itemP toks en alt s) fun s1 n => itemsP alt k s1 (l ++ [n]) else .ok (s, l)
def seqP (alt : PS → PR Int) (s : PS) : PR Int := pbnd (itemsP toks en alt (toks.length + 1) s []) fun s1 l => .ok (oneP 1 l s1)
def altsL (alt : PS → PR Int) : Nat → PS → List Int → PR (List Int)
  | 0, s, l => .ok (s, l)
  | k + 1, s, l => pbnd (seqP toks en alt s) fun s1 n => if aheadP toks s1.at' [124] then altsL alt k s1.adv (l ++ [n]) else .ok (s1, l ++ [n])
def altsP : Nat → PS → PR Int
  | 0, s => .error 0
  | f + 1, s => pbnd (altsL toks en (altsP f) (toks.length + 1) s []) fun s1 l => .ok (oneP 2 l s1)
def giveP (u : Use) (s : PS) : PS := { s with given := s.given ++ [u] }
def ruleP (s : PS) : PR Unit := pbnd (nameP toks en s) fun s1 u => pbnd (mustP toks en [58] (giveP u s1)) fun s2 _ => pbnd (altsP toks en (toks.length + 1) s2) fun s3 n =>
  pbnd (mustP toks en [59] s3) fun s4 _ => .ok ({ s4 with rules := s4.rules ++ [⟨u.name, n⟩] }, ())
def textL : Nat → PS → PR Unit
  | 0, s => .ok (s, ())
  | k + 1, s => pbnd (ruleP toks en s) fun s1 _ => if s1.at' < toks.length then textL k s1 else .ok (s1, ())
def textP : PR Unit := textL toks en (toks.length + 1) ⟨0, [], [], [], []⟩
end
/-! ### Where it stands, and how much there is -/
def pot (toks : List Tok) (s : PS) : Nat := s.nodes.length + s.used.length + s.given.length + s.rules.length + 8 * (toks.length - s.at')
/-- From s to s' something may have been read. -/
structure Fwd (toks : List Tok) (c : Nat) (s s' : PS) : Prop where
  at1 : s.at' ≤ s'.at'
  at2 : s'.at' ≤ toks.length
  pot : pot toks s' ≤ pot toks s + c
section
variable {toks : List Tok} {en : Nat}
theorem aheadP_lt {a : Nat} {m : Str} (h : aheadP toks a m = true) : a < toks.length := by
  unfold aheadP at h
  rcases Nat.lt_or_ge a toks.length with c | c
  · exact c
  · rw [List.getElem?_eq_none c] at h; simp at h
theorem bgnP_lt {a : Nat} (h : bgnP toks a = true) : a < toks.length := by
  unfold bgnP at h
  rcases Nat.lt_or_ge a toks.length with c | c
  · exact c
  · rw [List.getElem?_eq_none c] at h; simp at h
theorem pot_adv {s : PS} (h : s.at' < toks.length) : pot toks s.adv + 8 = pot toks s := by unfold pot PS.adv; simp only; omega
theorem pbnd_ok {α β : Type} {r : PR α} {f : PS → α → PR β} {x : PS × β} (h : pbnd r f = .ok x) : ∃ s a, r = .ok (s, a) ∧ f s a = .ok x := by
  unfold pbnd at h
  split at h
  · exact ⟨_, _, rfl, h⟩
  · cases h
theorem must_fwd {m : Str} {s s' : PS} {u : Unit} (h : mustP toks en m s = .ok (s', u)) : s' = s.adv ∧ s.at' < toks.length := by
  unfold mustP at h
  split at h
  · rename_i c; cases h; exact ⟨rfl, aheadP_lt c⟩
  · cases h
theorem name_fwd {s s' : PS} {u : Use} (h : nameP toks en s = .ok (s', u)) : s' = s.adv ∧ s.at' < toks.length := by
  unfold nameP at h
  split at h
  · rename_i t e
    split at h
    · cases h
      exact ⟨rfl, (List.getElem?_eq_some_iff.1 e).1⟩
    · cases h
  · cases h
theorem one_fwd (kind : Int) (l : List Int) (s : PS) : (oneP kind l s).1.at' = s.at' ∧ pot toks (oneP kind l s).1 ≤ pot toks s + 1 := by
  unfold oneP
  split
  · exact ⟨rfl, Nat.le_succ _⟩
  · exact ⟨rfl, by unfold pot nodeP PS.lay; simp; omega⟩
theorem mark_fwd {s : PS} (n : Int) (h : s.at' ≤ toks.length) : Fwd toks 0 s (markP toks s n).1 := by
  have key : ∀ k : Int, s.at' < toks.length → Fwd toks 0 s (nodeP k [] [n] s.adv).1 := fun k hl =>
    ⟨by simp [nodeP, PS.lay, PS.adv], by simp [nodeP, PS.lay, PS.adv]; omega, by
      have := pot_adv hl
      unfold pot PS.adv at this
      unfold nodeP PS.lay PS.adv pot; simp at this ⊢; omega⟩
  unfold markP
  split
  · rename_i c; exact key 3 (aheadP_lt c)
  split
  · rename_i c; exact key 4 (aheadP_lt c)
  split
  · rename_i c; exact key 5 (aheadP_lt c)
  · exact ⟨Nat.le_refl _, h, Nat.le_refl _⟩
/-- Alternatives go on. -/
def AltFwd (toks : List Tok) (alt : PS → PR Int) : Prop := ∀ s s' n, s.at' ≤ toks.length → alt s = .ok (s', n) → Fwd toks 2 s s'
theorem atom_fwd {alt : PS → PR Int} (ha : AltFwd toks alt) {s s' : PS} {n : Int} (h : atomP toks en alt s = .ok (s', n)) : s.at' < s'.at' ∧ Fwd toks 0 s s' := by
  unfold atomP at h
  split at h
  · rename_i c
    have hl := aheadP_lt c
    obtain ⟨s1, n1, h1, h2⟩ := pbnd_ok h
    obtain ⟨s2, u, h3, h4⟩ := pbnd_ok h2
    cases h4
    obtain ⟨rfl, hl2⟩ := must_fwd h3
    have f := ha _ _ _ (by simp [PS.adv]; omega) h1
    have p1 := pot_adv hl
    have p2 := pot_adv hl2
    have a1 := f.at1
    simp only [PS.adv] at a1
    refine ⟨by simp only [PS.adv]; omega, ⟨by simp only [PS.adv]; omega, by simp only [PS.adv]; omega, ?_⟩⟩
    have := f.pot; omega
  · split at h
    · cases h
    · rename_i t e
      have hl := (List.getElem?_eq_some_iff.1 e).1
      split at h
      · cases h
        refine ⟨by simp [PS.lay, PS.adv], ⟨by simp [PS.lay, PS.adv], by simp [PS.lay, PS.adv]; omega, ?_⟩⟩
        unfold pot PS.lay PS.adv; simp; omega
      · obtain ⟨s1, u, h1, h2⟩ := pbnd_ok h
        cases h2
        obtain ⟨rfl, _⟩ := name_fwd h1
        refine ⟨by simp [PS.lay, PS.adv, useP], ⟨by simp [PS.lay, PS.adv, useP], by simp [PS.lay, PS.adv, useP]; omega, ?_⟩⟩
        unfold pot PS.lay PS.adv useP; simp; omega
theorem item_fwd {alt : PS → PR Int} (ha : AltFwd toks alt) {s s' : PS} {n : Int} (h : itemP toks en alt s = .ok (s', n)) : s.at' < s'.at' ∧ Fwd toks 0 s s' := by
  unfold itemP at h
  obtain ⟨s1, n1, h1, h2⟩ := pbnd_ok h
  obtain ⟨a, f⟩ := atom_fwd ha h1
  have g := mark_fwd n1 f.at2
  have e : s' = (markP toks s1 n1).1 := by have := congrArg (fun x => x.toOption.map (·.1)) h2; simpa [Except.toOption] using this.symm
  rw [e]
  have := f.pot; have := g.pot; have := g.at1
  exact ⟨by omega, ⟨by omega, g.at2, by omega⟩⟩
theorem items_fwd {alt : PS → PR Int} (ha : AltFwd toks alt) : ∀ (k : Nat) {s s' : PS} {l l' : List Int}, s.at' ≤ toks.length → itemsP toks en alt k s l = .ok (s', l') → Fwd toks 0 s s'
  | 0, s, s', l, l', hs, h => by cases h; exact ⟨Nat.le_refl _, hs, by omega⟩
  | k + 1, s, s', l, l', hs, h => by
    unfold itemsP at h
    split at h
    · obtain ⟨s1, n, h1, h2⟩ := pbnd_ok h
      obtain ⟨a, f⟩ := item_fwd ha h1
      have g := items_fwd ha k f.at2 h2
      have := f.pot; have := g.pot; have := g.at1
      exact ⟨by omega, g.at2, by omega⟩
    · cases h; exact ⟨Nat.le_refl _, hs, by omega⟩
theorem seq_fwd {alt : PS → PR Int} (ha : AltFwd toks alt) {s s' : PS} {n : Int} (hs : s.at' ≤ toks.length) (h : seqP toks en alt s = .ok (s', n)) : Fwd toks 1 s s' := by
  unfold seqP at h
  obtain ⟨s1, l, h1, h2⟩ := pbnd_ok h
  have f := items_fwd ha _ hs h1
  have e : s' = (oneP 1 l s1).1 := by have := congrArg (fun x => x.toOption.map (·.1)) h2; simpa [Except.toOption] using this.symm
  obtain ⟨o1, o2⟩ := one_fwd (toks := toks) 1 l s1
  rw [e]
  have := f.pot; have := f.at1; have := f.at2
  exact ⟨by omega, by omega, by omega⟩
theorem altsL_fwd {alt : PS → PR Int} (ha : AltFwd toks alt) : ∀ (k : Nat) {s s' : PS} {l l' : List Int}, s.at' ≤ toks.length → altsL toks en alt k s l = .ok (s', l') → Fwd toks 1 s s'
  | 0, s, s', l, l', hs, h => by cases h; exact ⟨Nat.le_refl _, hs, by omega⟩
  | k + 1, s, s', l, l', hs, h => by
    unfold altsL at h
    obtain ⟨s1, n, h1, h2⟩ := pbnd_ok h
    have f := seq_fwd ha hs h1
    have := f.pot; have := f.at1; have := f.at2
    split at h2
    · rename_i c
      have hl := aheadP_lt c
      have p := pot_adv hl
      have g := altsL_fwd ha k (by simp [PS.adv]; omega) h2
      have := g.pot; have a := g.at1
      simp only [PS.adv] at a
      exact ⟨by omega, g.at2, by omega⟩
    · cases h2; exact f
theorem alts_fwd : ∀ f, AltFwd toks (altsP toks en f)
  | 0, s, s', n, _, h => by cases h
  | f + 1, s, s', n, hs, h => by
    unfold altsP at h
    obtain ⟨s1, l, h1, h2⟩ := pbnd_ok h
    have g := altsL_fwd (alts_fwd f) _ hs h1
    have e : s' = (oneP 2 l s1).1 := by have := congrArg (fun x => x.toOption.map (·.1)) h2; simpa [Except.toOption] using this.symm
    obtain ⟨o1, o2⟩ := one_fwd (toks := toks) 2 l s1
    rw [e]
    have := g.pot; have := g.at1; have := g.at2
    exact ⟨by omega, by omega, by omega⟩
theorem rule_fwd {s s' : PS} {u : Unit} (hs : s.at' ≤ toks.length) (h : ruleP toks en s = .ok (s', u)) : s.at' < s'.at' ∧ Fwd toks 0 s s' := by
  unfold ruleP at h
  obtain ⟨s1, u1, h1, h⟩ := pbnd_ok h
  obtain ⟨s2, u2, h2, h⟩ := pbnd_ok h
  obtain ⟨s3, n, h3, h⟩ := pbnd_ok h
  obtain ⟨s4, u4, h4, h⟩ := pbnd_ok h
  cases h
  obtain ⟨rfl, l1⟩ := name_fwd h1
  obtain ⟨rfl, l2⟩ := must_fwd h2
  obtain ⟨rfl, l4⟩ := must_fwd h4
  have l2' : s.at' + 1 < toks.length := by simpa [giveP, PS.adv] using l2
  have f := alts_fwd _ _ _ _ (by simp [giveP, PS.adv]; omega) h3
  have a1 := f.at1
  have p1 := f.pot
  have p4 := pot_adv l4
  simp only [giveP, PS.adv] at a1
  refine ⟨by simp [PS.adv]; omega, ⟨by simp [PS.adv]; omega, by simp [PS.adv]; omega, ?_⟩⟩
  unfold pot giveP PS.adv at *
  simp at *
  omega
theorem textL_fwd : ∀ (k : Nat) {s s' : PS} {u : Unit}, s.at' ≤ toks.length → textL toks en k s = .ok (s', u) → Fwd toks 0 s s'
  | 0, s, s', u, hs, h => by cases h; exact ⟨Nat.le_refl _, hs, Nat.le_refl _⟩
  | k + 1, s, s', u, hs, h => by
    unfold textL at h
    obtain ⟨s1, u1, h1, h2⟩ := pbnd_ok h
    have f := (rule_fwd hs h1).2
    have := f.pot; have := f.at1
    split at h2
    · have g := textL_fwd k f.at2 h2
      have := g.pot; have := g.at1
      exact ⟨by omega, g.at2, by omega⟩
    · cases h2; exact f
theorem textP_pot {s' : PS} {u : Unit} (h : textP toks en = .ok (s', u)) : pot toks s' ≤ 8 * toks.length := by
  have f := textL_fwd _ (by simp) h
  have := f.pot
  simp [pot] at this ⊢; omega
end
/-! ### Its object -/
/-- The stamps of its slices. -/
structure S4 where
  a : Nat
  b : Nat
  c : Nat
  d : Nat
def S4.has (σ : S4) (s : Nat) : Prop := s = σ.a ∨ s = σ.b ∨ s = σ.c ∨ s = σ.d
structure RdO (h : AH) (o : Nat) (v0 v2 : V) (a eg : Nat) (R N G U : List V) (σ : S4) : Prop where
  ob : ∃ e1 e2 e3 e4, h.objs o = [v0, .int .i64 a, v2, .sl e1 σ.a R, .sl e2 σ.b N, .sl e3 σ.c G, .sl e4 σ.d U] ∧ May 2 h e1 σ.a R ∧ May 3 h e2 σ.b N ∧ May eg h e3 σ.c G ∧ May eg h e4 σ.d U
  lt : o < h.nobj
  lo : 3 ≤ h.next ∧ ∀ s, s ≤ 2 → h.tips s = none
  sb : ∀ s, σ.has s → s ≤ 2 ∨ s < h.next
  ab : σ.a ≤ 2 ∨ σ.a ≠ σ.b
  ac : σ.a ≤ 2 ∨ σ.a ≠ σ.c
  ad : σ.a ≤ 2 ∨ σ.a ≠ σ.d
  bc : σ.b ≤ 2 ∨ σ.b ≠ σ.c
  bd : σ.b ≤ 2 ∨ σ.b ≠ σ.d
  cd : σ.c ≤ 2 ∨ σ.c ≠ σ.d
/-- From h to h1 only this object has been turned, and its slices. -/
structure RE (h h1 : AH) (o : Nat) (σ σ1 : S4) : Prop where
  next : h.next ≤ h1.next
  nobj : h.nobj ≤ h1.nobj
  objs : ∀ o', o' < h.nobj → o' ≠ o → h1.objs o' = h.objs o'
  tips : ∀ s, s < h.next → (¬ σ.has s ∨ s ≤ 2) → h1.tips s = h.tips s
  st : ∀ s, σ1.has s → σ.has s ∨ h.next ≤ s
theorem RE.refl (h : AH) (o : Nat) (σ : S4) : RE h h o σ σ := ⟨Nat.le_refl _, Nat.le_refl _, fun _ _ _ => rfl, fun _ _ _ => rfl, fun _ h => .inl h⟩
theorem RE.trans {h h1 h2 : AH} {o : Nat} {σ σ1 σ2 : S4} (a : RE h h1 o σ σ1) (b : RE h1 h2 o σ1 σ2) : RE h h2 o σ σ2 where
  next := Nat.le_trans a.next b.next
  nobj := Nat.le_trans a.nobj b.nobj
  objs o' h' hn := (b.objs o' (Nat.lt_of_lt_of_le h' a.nobj) hn).trans (a.objs o' h' hn)
  tips s hs hn := by
    have h1 : ¬ σ1.has s ∨ s ≤ 2 := by
      rcases hn with c | c
      · left; intro e; rcases a.st s e with d | d
        · exact c d
        · omega
      · exact .inr c
    exact (b.tips s (Nat.lt_of_lt_of_le hs a.next) h1).trans (a.tips s hs hn)
  st s hs := by
    rcases b.st s hs with e | e
    · exact a.st s e
    · exact .inr (Nat.le_trans a.next e)
theorem RE.new {h h1 : AH} {o : Nat} {σ σ1 : S4} (f : RE h h1 o σ σ1) (z : List V) : RE h (h1.new z) o σ σ1 :=
  ⟨f.next, Nat.le_succ_of_le f.nobj, fun o' ho hn => by rw [new_objs_ne _ _ (by have := f.nobj; omega)]; exact f.objs o' ho hn, f.tips, f.st⟩
theorem RE.set {h h1 : AH} {o : Nat} {σ σ1 : S4} (f : RE h h1 o σ σ1) {o' : Nat} (ho : o' = o ∨ h.nobj ≤ o') (z : List V) : RE h (h1.set o' z) o σ σ1 :=
  ⟨f.next, f.nobj, fun o2 ho' hn => by
    rw [set_objs_ne _ _ _ (by rintro rfl; rcases ho with h | h; exact hn h; omega)]; exact f.objs o2 ho' hn, f.tips, f.st⟩
/-- A slice of one's own is pushed. -/
theorem RE.push {h h1 : AH} {o : Nat} {σ σ1 : S4} (f : RE h h1 o σ σ1) {s : Nat} (hs : s ≤ 2 ∨ h.next ≤ s) (e : Nat) : RE h (h1.push s e) o σ σ1 := by
  have n := f.next
  exact ⟨by rw [push_next]; omega, by rw [push_nobj]; exact f.nobj, fun o' ho hn => by rw [push_objs]; exact f.objs o' ho hn, fun s' hs' hn => by
    rw [← f.tips s' hs' hn]
    by_cases c : s ≤ 2
    · have : ((h1.push s e).tips s') = h1.tips s' := by unfold AH.push; rw [if_pos c]; exact updN_ne _ _ (by omega)
      exact this
    · exact push_tips_at (by omega) (by omega), f.st⟩
theorem May.keep {e : Nat} {h h1 : AH} {e1 st : Nat} {l : List V} (m : May e h e1 st l) (ht : st ≤ 2 ∨ h1.tips st = h.tips st) (h2 : st ≤ 2 → h.tips st = none) : May e h1 e1 st l :=
  ⟨m.el, by
    rcases m.st with c | c | c
    · exact .inl c
    · exact .inr (.inl c)
    · rcases ht with d | d
      · rw [h2 d] at c; cases c
      · exact .inr (.inr (by rw [d]; exact c))⟩
theorem Wf.low {h : AH} (w : Wf h) {s : Nat} (hs : s ≤ 2) : h.tips s = none := by
  cases e : h.tips s with
  | none => rfl
  | some t => have := (w.tips s t e).1; omega
theorem Wf.lo {h : AH} (wf : Wf h) : 3 ≤ h.next ∧ ∀ s, s ≤ 2 → h.tips s = none := ⟨wf.next, fun _ hs => wf.low hs⟩
theorem push_low {h : AH} (lo : 3 ≤ h.next ∧ ∀ s, s ≤ 2 → h.tips s = none) (s e : Nat) : 3 ≤ (h.push s e).next ∧ ∀ s', s' ≤ 2 → (h.push s e).tips s' = none := by
  refine ⟨by rw [push_next]; omega, fun s' hs => ?_⟩
  rw [push_tips_at (by omega) (.inr hs)]; exact lo.2 s' hs
/-- Its object stays where others are turned. -/
theorem RdO.keep {h h1 : AH} {o : Nat} {v0 v2 : V} {a eg : Nat} {R N G U : List V} {σ : S4} (r : RdO h o v0 v2 a eg R N G U σ) (hn : h.next ≤ h1.next) (hb : h.nobj ≤ h1.nobj) (ho : h1.objs o = h.objs o)
    (ht : ∀ s, σ.has s → s ≤ 2 ∨ h1.tips s = h.tips s) (hl : ∀ s, s ≤ 2 → h1.tips s = none) : RdO h1 o v0 v2 a eg R N G U σ := by
  obtain ⟨e1, e2, e3, e4, ob, m1, m2, m3, m4⟩ := r.ob
  exact ⟨⟨e1, e2, e3, e4, by rw [ho]; exact ob, m1.keep (ht _ (.inl rfl)) (r.lo.2 _), m2.keep (ht _ (.inr (.inl rfl))) (r.lo.2 _), m3.keep (ht _ (.inr (.inr (.inl rfl)))) (r.lo.2 _), m4.keep (ht _ (.inr (.inr (.inr rfl)))) (r.lo.2 _)⟩,
    by have := r.lt; omega, ⟨by have := r.lo.1; omega, hl⟩, fun s hs => by have := r.sb s hs; omega, r.ab, r.ac, r.ad, r.bc, r.bd, r.cd⟩
theorem RdO.new {h : AH} {o : Nat} {v0 v2 : V} {a eg : Nat} {R N G U : List V} {σ : S4} (r : RdO h o v0 v2 a eg R N G U σ) (z : List V) : RdO (h.new z) o v0 v2 a eg R N G U σ :=
  r.keep (Nat.le_refl _) (Nat.le_succ _) (new_objs_ne _ _ (by have := r.lt; omega)) (fun _ _ => .inr rfl) r.lo.2
theorem RdO.other {h : AH} {o o' : Nat} {v0 v2 : V} {a eg : Nat} {R N G U : List V} {σ : S4} (r : RdO h o v0 v2 a eg R N G U σ) (ho : o' ≠ o) (z : List V) : RdO (h.set o' z) o v0 v2 a eg R N G U σ :=
  r.keep (Nat.le_refl _) (Nat.le_refl _) (set_objs_ne _ _ _ (fun e => ho e.symm)) (fun _ _ => .inr rfl) r.lo.2
theorem RdO.push {h : AH} {o : Nat} {v0 v2 : V} {a eg : Nat} {R N G U : List V} {σ : S4} (r : RdO h o v0 v2 a eg R N G U σ) {s : Nat} (hs : s ≤ 2 ∨ ¬ σ.has s) (e : Nat) : RdO (h.push s e) o v0 v2 a eg R N G U σ :=
  r.keep (by rw [push_next]; omega) (by rw [push_nobj]; exact Nat.le_refl _) (by rw [push_objs]) (fun s' h' => by
    by_cases c : s' ≤ 2
    · exact .inl c
    · right
      have := r.sb s' h'
      by_cases d : s ≤ 2
      · unfold AH.push; rw [if_pos d]; exact updN_ne _ _ (by omega)
      · exact push_tips_at (by omega) (.inl (by rintro rfl; rcases hs with q | q; exact d q; exact q h'))) (push_low r.lo s e).2
/-- It goes on. -/
theorem RdO.cells {h : AH} {o : Nat} {v0 v2 : V} {a eg : Nat} {R N G U : List V} {σ : S4} (r : RdO h o v0 v2 a eg R N G U σ) {e1 e2 e3 e4 : Nat} (ob : h.objs o = [v0, .int .i64 a, v2, .sl e1 σ.a R, .sl e2 σ.b N, .sl e3 σ.c G, .sl e4 σ.d U]) (v0' : V) (a' : Nat) (v2' : V) :
    RdO (h.set o [v0', .int .i64 a', v2', .sl e1 σ.a R, .sl e2 σ.b N, .sl e3 σ.c G, .sl e4 σ.d U]) o v0' v2' a' eg R N G U σ := by
  obtain ⟨f1, f2, f3, f4, ob', m1, m2, m3, m4⟩ := r.ob
  rw [ob] at ob'
  simp at ob'
  obtain ⟨rfl, rfl, rfl, rfl⟩ := ob'
  exact ⟨⟨_, _, _, _, set_objs_same _ _ _, ⟨m1.el, m1.st⟩, ⟨m2.el, m2.st⟩, ⟨m3.el, m3.st⟩, ⟨m4.el, m4.st⟩⟩, r.lt, r.lo, r.sb, r.ab, r.ac, r.ad, r.bc, r.bd, r.cd⟩
theorem May.push {e : Nat} {h : AH} {e1 st : Nat} {l : List V} (m : May e h e1 st l) (lo : 3 ≤ h.next ∧ ∀ s, s ≤ 2 → h.tips s = none) (hb : st ≤ 2 ∨ st < h.next) {s : Nat} (ne : st ≤ 2 ∨ st ≠ s) (e' : Nat) : May e (h.push s e') e1 st l := by
  by_cases c : st ≤ 2
  · exact m.keep (.inl c) (lo.2 _)
  · refine ⟨m.el, ?_⟩
    rcases m.st with d | d | d
    · exact .inl d
    · exact .inr (.inl d)
    · refine .inr (.inr ?_)
      rw [push_tips_at (by omega) (by omega)]; exact d
theorem RE.pushO {h : AH} {o : Nat} {σ σ1 : S4} {s : Nat} (hs : σ.has s) (e : Nat) (h1 : ∀ s, σ1.has s → σ.has s ∨ h.next ≤ s) (z : List V) : RE h ((h.push s e).set o z) o σ σ1 := by
  refine ⟨by rw [set_next, push_next]; omega, by rw [set_nobj, push_nobj]; exact Nat.le_refl _, fun o' _ hn => by rw [set_objs_ne _ _ _ hn, push_objs], fun s' hs' hn => ?_, h1⟩
  rw [set_tips]
  by_cases c : s ≤ 2
  · unfold AH.push; rw [if_pos c]; exact updN_ne _ _ (by omega)
  · refine push_tips_at hs' ?_
    rcases hn with d | d
    · left; rintro rfl; exact d hs
    · exact .inr d
section
variable {h : AH} {o : Nat} {v0 v2 : V} {a eg : Nat} {R N G U : List V} {σ : S4} {e1 e2 e3 e4 : Nat}
theorem RdO.pushR (r : RdO h o v0 v2 a eg R N G U σ) (ob : h.objs o = [v0, .int .i64 a, v2, .sl e1 σ.a R, .sl e2 σ.b N, .sl e3 σ.c G, .sl e4 σ.d U]) (x : V) : RdO ((h.push σ.a 2).set o [v0, .int .i64 a, v2, .sl 2 h.next (R ++ [x]), .sl e2 σ.b N, .sl e3 σ.c G, .sl e4 σ.d U]) o v0 v2 a eg (R ++ [x]) N G U { σ with a := h.next } ∧ RE h ((h.push σ.a 2).set o [v0, .int .i64 a, v2, .sl 2 h.next (R ++ [x]), .sl e2 σ.b N, .sl e3 σ.c G, .sl e4 σ.d U]) o σ { σ with a := h.next } := by
  obtain ⟨f1, f2, f3, f4, ob', m1, m2, m3, m4⟩ := r.ob
  rw [ob] at ob'
  simp at ob'
  obtain ⟨rfl, rfl, rfl, rfl⟩ := ob'
  have hb : ∀ s, S4.has { σ with a := h.next } s → s = h.next ∨ σ.has s := fun s hs => by
    rcases hs with e | e | e | e <;> subst e <;> simp [S4.has]
  exact ⟨⟨⟨_, _, _, _, set_objs_same _ _ _, ⟨.inr rfl, .inr (.inr (by rw [set_tips]; exact push_new h _ _))⟩, (let q := m2.push r.lo (r.sb _ (.inr (.inl rfl))) (by have := r.ab; omega) 2; ⟨q.el, q.st⟩), (let q := m3.push r.lo (r.sb _ (.inr (.inr (.inl rfl)))) (by have := r.ac; omega) 2; ⟨q.el, q.st⟩), (let q := m4.push r.lo (r.sb _ (.inr (.inr (.inr rfl)))) (by have := r.ad; omega) 2; ⟨q.el, q.st⟩)⟩, by rw [set_nobj, push_nobj]; exact r.lt, by rw [set_next, set_tips]; exact push_low r.lo _ _, fun s hs => by
      rw [set_next, push_next]
      rcases hb s hs with e | e
      · omega
      · have := r.sb s e; omega, (.inr (by show h.next ≠ σ.b; have := r.sb σ.b (.inr (.inl rfl)); have := r.lo.1; omega)), (.inr (by show h.next ≠ σ.c; have := r.sb σ.c (.inr (.inr (.inl rfl))); have := r.lo.1; omega)), (.inr (by show h.next ≠ σ.d; have := r.sb σ.d (.inr (.inr (.inr rfl))); have := r.lo.1; omega)), r.bc, r.bd, r.cd⟩,
    RE.pushO (.inl rfl) _ (fun s hs => (hb s hs).elim (fun e => .inr (by omega)) .inl) _⟩
theorem RdO.pushN (r : RdO h o v0 v2 a eg R N G U σ) (ob : h.objs o = [v0, .int .i64 a, v2, .sl e1 σ.a R, .sl e2 σ.b N, .sl e3 σ.c G, .sl e4 σ.d U]) (x : V) : RdO ((h.push σ.b 3).set o [v0, .int .i64 a, v2, .sl e1 σ.a R, .sl 3 h.next (N ++ [x]), .sl e3 σ.c G, .sl e4 σ.d U]) o v0 v2 a eg R (N ++ [x]) G U { σ with b := h.next } ∧ RE h ((h.push σ.b 3).set o [v0, .int .i64 a, v2, .sl e1 σ.a R, .sl 3 h.next (N ++ [x]), .sl e3 σ.c G, .sl e4 σ.d U]) o σ { σ with b := h.next } := by
  obtain ⟨f1, f2, f3, f4, ob', m1, m2, m3, m4⟩ := r.ob
  rw [ob] at ob'
  simp at ob'
  obtain ⟨rfl, rfl, rfl, rfl⟩ := ob'
  have hb : ∀ s, S4.has { σ with b := h.next } s → s = h.next ∨ σ.has s := fun s hs => by
    rcases hs with e | e | e | e <;> subst e <;> simp [S4.has]
  exact ⟨⟨⟨_, _, _, _, set_objs_same _ _ _, (let q := m1.push r.lo (r.sb _ (.inl rfl)) r.ab 3; ⟨q.el, q.st⟩), ⟨.inr rfl, .inr (.inr (by rw [set_tips]; exact push_new h _ _))⟩, (let q := m3.push r.lo (r.sb _ (.inr (.inr (.inl rfl)))) (by have := r.bc; omega) 3; ⟨q.el, q.st⟩), (let q := m4.push r.lo (r.sb _ (.inr (.inr (.inr rfl)))) (by have := r.bd; omega) 3; ⟨q.el, q.st⟩)⟩, by rw [set_nobj, push_nobj]; exact r.lt, by rw [set_next, set_tips]; exact push_low r.lo _ _, fun s hs => by
      rw [set_next, push_next]
      rcases hb s hs with e | e
      · omega
      · have := r.sb s e; omega, (by show σ.a ≤ 2 ∨ σ.a ≠ h.next; have := r.sb σ.a (.inl rfl); omega), r.ac, r.ad, (.inr (by show h.next ≠ σ.c; have := r.sb σ.c (.inr (.inr (.inl rfl))); have := r.lo.1; omega)), (.inr (by show h.next ≠ σ.d; have := r.sb σ.d (.inr (.inr (.inr rfl))); have := r.lo.1; omega)), r.cd⟩,
    RE.pushO (.inr (.inl rfl)) _ (fun s hs => (hb s hs).elim (fun e => .inr (by omega)) .inl) _⟩
theorem RdO.pushG (r : RdO h o v0 v2 a eg R N G U σ) (ob : h.objs o = [v0, .int .i64 a, v2, .sl e1 σ.a R, .sl e2 σ.b N, .sl e3 σ.c G, .sl e4 σ.d U]) (x : V) : RdO ((h.push σ.c eg).set o [v0, .int .i64 a, v2, .sl e1 σ.a R, .sl e2 σ.b N, .sl eg h.next (G ++ [x]), .sl e4 σ.d U]) o v0 v2 a eg R N (G ++ [x]) U { σ with c := h.next } ∧ RE h ((h.push σ.c eg).set o [v0, .int .i64 a, v2, .sl e1 σ.a R, .sl e2 σ.b N, .sl eg h.next (G ++ [x]), .sl e4 σ.d U]) o σ { σ with c := h.next } := by
  obtain ⟨f1, f2, f3, f4, ob', m1, m2, m3, m4⟩ := r.ob
  rw [ob] at ob'
  simp at ob'
  obtain ⟨rfl, rfl, rfl, rfl⟩ := ob'
  have hb : ∀ s, S4.has { σ with c := h.next } s → s = h.next ∨ σ.has s := fun s hs => by
    rcases hs with e | e | e | e <;> subst e <;> simp [S4.has]
  exact ⟨⟨⟨_, _, _, _, set_objs_same _ _ _, (let q := m1.push r.lo (r.sb _ (.inl rfl)) r.ac eg; ⟨q.el, q.st⟩), (let q := m2.push r.lo (r.sb _ (.inr (.inl rfl))) r.bc eg; ⟨q.el, q.st⟩), ⟨.inr rfl, .inr (.inr (by rw [set_tips]; exact push_new h _ _))⟩, (let q := m4.push r.lo (r.sb _ (.inr (.inr (.inr rfl)))) (by have := r.cd; omega) eg; ⟨q.el, q.st⟩)⟩, by rw [set_nobj, push_nobj]; exact r.lt, by rw [set_next, set_tips]; exact push_low r.lo _ _, fun s hs => by
      rw [set_next, push_next]
      rcases hb s hs with e | e
      · omega
      · have := r.sb s e; omega, r.ab, (by show σ.a ≤ 2 ∨ σ.a ≠ h.next; have := r.sb σ.a (.inl rfl); omega), r.ad, (by show σ.b ≤ 2 ∨ σ.b ≠ h.next; have := r.sb σ.b (.inr (.inl rfl)); omega), r.bd, (.inr (by show h.next ≠ σ.d; have := r.sb σ.d (.inr (.inr (.inr rfl))); have := r.lo.1; omega))⟩,
    RE.pushO (.inr (.inr (.inl rfl))) _ (fun s hs => (hb s hs).elim (fun e => .inr (by omega)) .inl) _⟩
theorem RdO.pushU (r : RdO h o v0 v2 a eg R N G U σ) (ob : h.objs o = [v0, .int .i64 a, v2, .sl e1 σ.a R, .sl e2 σ.b N, .sl e3 σ.c G, .sl e4 σ.d U]) (x : V) : RdO ((h.push σ.d eg).set o [v0, .int .i64 a, v2, .sl e1 σ.a R, .sl e2 σ.b N, .sl e3 σ.c G, .sl eg h.next (U ++ [x])]) o v0 v2 a eg R N G (U ++ [x]) { σ with d := h.next } ∧ RE h ((h.push σ.d eg).set o [v0, .int .i64 a, v2, .sl e1 σ.a R, .sl e2 σ.b N, .sl e3 σ.c G, .sl eg h.next (U ++ [x])]) o σ { σ with d := h.next } := by
  obtain ⟨f1, f2, f3, f4, ob', m1, m2, m3, m4⟩ := r.ob
  rw [ob] at ob'
  simp at ob'
  obtain ⟨rfl, rfl, rfl, rfl⟩ := ob'
  have hb : ∀ s, S4.has { σ with d := h.next } s → s = h.next ∨ σ.has s := fun s hs => by
    rcases hs with e | e | e | e <;> subst e <;> simp [S4.has]
  exact ⟨⟨⟨_, _, _, _, set_objs_same _ _ _, (let q := m1.push r.lo (r.sb _ (.inl rfl)) r.ad eg; ⟨q.el, q.st⟩), (let q := m2.push r.lo (r.sb _ (.inr (.inl rfl))) r.bd eg; ⟨q.el, q.st⟩), (let q := m3.push r.lo (r.sb _ (.inr (.inr (.inl rfl)))) r.cd eg; ⟨q.el, q.st⟩), ⟨.inr rfl, .inr (.inr (by rw [set_tips]; exact push_new h _ _))⟩⟩, by rw [set_nobj, push_nobj]; exact r.lt, by rw [set_next, set_tips]; exact push_low r.lo _ _, fun s hs => by
      rw [set_next, push_next]
      rcases hb s hs with e | e
      · omega
      · have := r.sb s e; omega, r.ab, r.ac, (by show σ.a ≤ 2 ∨ σ.a ≠ h.next; have := r.sb σ.a (.inl rfl); omega), r.bc, (by show σ.b ≤ 2 ∨ σ.b ≠ h.next; have := r.sb σ.b (.inr (.inl rfl)); omega), (by show σ.c ≤ 2 ∨ σ.c ≠ h.next; have := r.sb σ.c (.inr (.inr (.inl rfl))); omega)⟩,
    RE.pushO (.inr (.inr (.inr rfl))) _ (fun s hs => (hb s hs).elim (fun e => .inr (by omega)) .inl) _⟩
end
end Go.Proofs.Ytecgbggobecpjaa.Al
namespace Go.Proofs.Ytecgbggobecpjaa.Al
open Go Go.RowKit
set_option linter.unusedSimpArgs false
set_option linter.unusedVariables false
attribute [-simp] List.getD_eq_getElem?_getD Int.not_lt Int.not_le List.map_take List.map_map
structure LRd (X : Cx) (wr : Int → Value) : Prop where
  fail : ∀ (toks : List Tok) (en a o : Nat) (rest : List V) (h : AH) (Q : V → AH → Prop), h.objs o = .sl 3 0 (toks.map tokV) :: .int .i64 (a : Nat) :: .int .i64 (en : Nat) :: rest → toks.length < 2 ^ 30 → a < 2 ^ 30 → X.Z (wr (plcP toks en a)) h →
    Ecx X K.rules_reader_fail [.ptr o 0] h Q
  ahead : Has (Ecx X) K.rules_reader_ahead A.rules_reader_ahead
  take : Has (Ecx X) K.rules_reader_take A.rules_reader_take
  must : Has (Ecx X) K.rules_reader_must A.rules_reader_must
  name : Has (Ecx X) K.rules_reader_name A.rules_reader_name
  node : Has (Ecx X) K.rules_reader_node A.rules_reader_node
  begins : Has (Ecx X) K.rules_reader_begins A.rules_reader_begins
  atom : Has (Ecx X) K.rules_reader_atom A.rules_reader_atom
  item : Has (Ecx X) K.rules_reader_item A.rules_reader_item
  one : Has (Ecx X) K.rules_reader_one A.rules_reader_one
  alts : Has (Ecx X) K.rules_reader_alternatives A.rules_reader_alternatives
  text : Has (Ecx X) K.rules_reader_text A.rules_reader_text
/-- The reader's object. -/
def RdP (toks : List Tok) (en : Nat) (h : AH) (o : Nat) (s : PS) (σ : S4) : Prop := ∃ N, WkE N (s.nodes.map ndV) ∧ RdO h o (.sl 3 0 (toks.map tokV)) (.int .i64 (en : Nat)) s.at' 2 (s.rules.map rlV) N (s.given.map useV) (s.used.map useV) σ
/-- What is told behind a call: of what was read, or of where it panics. -/
def Ans (X : Cx) (wr : Int → Value) (toks : List Tok) (en : Nat) (h : AH) (o : Nat) (σ : S4) (Q : V → AH → Prop) {α : Type} (enc : α → V) : PR α → Prop
  | .ok (s, n) => ∀ h1 σ1, RE h h1 o σ σ1 → RdP toks en h1 o s σ1 → Q (enc n) h1
  | .error p => ∀ h1 σ1, RE h h1 o σ σ1 → X.Z (wr (p : Nat)) h1
section
variable {X : Cx} {wr : Int → Value} {toks : List Tok} {en : Nat} {h : AH} {o : Nat} {σ : S4} {Q : V → AH → Prop}
theorem Ans.from {α : Type} {enc : α → V} {r : PR α} (a : Ans X wr toks en h o σ Q enc r) {h1 : AH} {σ1 : S4} (f : RE h h1 o σ σ1) : Ans X wr toks en h1 o σ1 Q enc r := by
  cases r with
  | error p => exact fun h2 σ2 g => a h2 σ2 (f.trans g)
  | ok x => exact fun h2 σ2 g => a h2 σ2 (f.trans g)
theorem Ans.pbnd {α β : Type} {enc : α → V} {r : PR α} {f : PS → α → PR β} {enc2 : β → V} (a : Ans X wr toks en h o σ Q enc2 (pbnd r f)) {Q' : V → AH → Prop}
    (hk : ∀ s n, r = .ok (s, n) → ∀ h1 σ1, RE h h1 o σ σ1 → RdP toks en h1 o s σ1 → Ans X wr toks en h1 o σ1 Q enc2 (f s n) → Q' (enc n) h1) : Ans X wr toks en h o σ Q' enc r := by
  cases r with
  | error p => exact a
  | ok x =>
    obtain ⟨s, n⟩ := x
    exact fun h1 σ1 g rd => hk s n rfl h1 σ1 g rd (Ans.from (show Ans X wr toks en h o σ Q enc2 (f s n) from a) g)
/-- The same, told from where the function began. -/
theorem Ans.pbnd0 {α β : Type} {enc : α → V} {r : PR α} {f : PS → α → PR β} {enc2 : β → V} (a : Ans X wr toks en h o σ Q enc2 (Al.pbnd r f)) {hn : AH} {σn : S4} (g0 : RE h hn o σ σn) {Q' : V → AH → Prop}
    (hk : ∀ s n, r = .ok (s, n) → ∀ h1 σ1, RE hn h1 o σn σ1 → RdP toks en h1 o s σ1 → Ans X wr toks en h o σ Q enc2 (f s n) → Q' (enc n) h1) : Ans X wr toks en hn o σn Q' enc r := by
  cases r with
  | error p => exact Ans.from (enc := enc2) (r := .error p) a g0
  | ok x =>
    obtain ⟨s, n⟩ := x
    exact fun h1 σ1 g rd => hk s n rfl h1 σ1 g rd a
theorem RdP.ob {s : PS} (r : RdP toks en h o s σ) : ∃ rest, h.objs o = .sl 3 0 (toks.map tokV) :: .int .i64 (s.at' : Nat) :: .int .i64 (en : Nat) :: rest := by
  obtain ⟨N, _, rd⟩ := r
  obtain ⟨e1, e2, e3, e4, ob, _⟩ := rd.ob
  exact ⟨_, ob⟩
theorem rdAhead (H : Has (Ecx X) K.rules_reader_ahead A.rules_reader_ahead) {a : Nat} {rest : List V} (ob : h.objs o = .sl 3 0 (toks.map tokV) :: .int .i64 (a : Nat) :: rest) (m : Str) (hQ : Q (.bool (aheadP toks a m)) h) : Ecx X K.rules_reader_ahead [.ptr o 0, .str m] h Q := by
  refine fn_walk H (by simp [A.rules_reader_ahead]) fun wf => ?_
  by_cases hlt : a < toks.length
  · have hlt' : (a : Int) < toks.length := by omega
    have hg : (toks.map tokV).getD a .undef = .agg (tokC toks[a]) := toks_getD hlt
    have hp : aheadP toks a m = (decide (toks[a].kind = 3) && decide (toks[a].text = m)) := by simp [aheadP, hlt]
    rw [hp] at hQ
    by_cases c1 : toks[a].kind = 3
    · have c1' : (toks[a].kind : Int) = 3 := by omega
      by_cases c2 : toks[a].text = m
      · simp [c1, c2] at hQ
        simp [A.rules_reader_ahead, ob, hlt', hg, tokC, V.cells, c1', c2]
        exact fin (by simp) hQ
      · simp [c1, c2] at hQ
        simp [A.rules_reader_ahead, ob, hlt', hg, tokC, V.cells, c1', c2]
        exact fin (by simp) hQ
    · have c1' : ¬ (toks[a].kind : Int) = 3 := by omega
      simp [c1] at hQ
      simp [A.rules_reader_ahead, ob, hlt', hg, tokC, V.cells, c1']
      exact fin (by simp) hQ
  · have hlt' : ¬ (a : Int) < toks.length := by omega
    have hp : aheadP toks a m = false := by simp [aheadP, hlt]
    rw [hp] at hQ
    simp [A.rules_reader_ahead, ob, hlt']
    exact fin (by simp) hQ
theorem RdP.to {s : PS} (r : RdP toks en h o s σ) {a : Nat} {e1 e2 e3 e4 : Nat} {N : List V} (hN : WkE N (s.nodes.map ndV)) (ob : h.objs o = [.sl 3 0 (toks.map tokV), .int .i64 (s.at' : Nat), .int .i64 (en : Nat), .sl e1 σ.a (s.rules.map rlV), .sl e2 σ.b N, .sl e3 σ.c (s.given.map useV), .sl e4 σ.d (s.used.map useV)]) :
    RdP toks en (h.set o [.sl 3 0 (toks.map tokV), .int .i64 (a : Nat), .int .i64 (en : Nat), .sl e1 σ.a (s.rules.map rlV), .sl e2 σ.b N, .sl e3 σ.c (s.given.map useV), .sl e4 σ.d (s.used.map useV)]) o { s with at' := a } σ := by
  obtain ⟨N', _, rd⟩ := r
  have : N' = N := by
    obtain ⟨f1, f2, f3, f4, ob', _⟩ := rd.ob
    rw [ob] at ob'; simp at ob'; exact ob'.2.1.2.symm
  subst this
  exact ⟨N', hN, rd.cells ob _ a _⟩
theorem rdTake (L : LRd X wr) {s : PS} (r : RdP toks en h o s σ) (hs : toks.length < 2 ^ 30) (m : Str) (hT : aheadP toks s.at' m = true → ∀ h1, RE h h1 o σ σ → RdP toks en h1 o s.adv σ → Q (.bool true) h1) (hF : aheadP toks s.at' m = false → Q (.bool false) h) :
    Ecx X K.rules_reader_take [.ptr o 0, .str m] h Q := by
  refine fn_any L.take (by simp [A.rules_reader_take]) fun wf => ?_
  have r0 := r
  obtain ⟨N, hN, rd⟩ := r
  obtain ⟨e1, e2, e3, e4, ob, _⟩ := rd.ob
  simp [A.rules_reader_take]
  refine ecall (rdAhead L.ahead ob m ?_)
  cases c : aheadP toks s.at' m with
  | false => simp; exact hF c
  | true =>
    have hl := aheadP_lt c
    have hw1 : IntKind.i64.wrap ((s.at' : Int) + 1) = ((s.at' + 1 : Nat) : Int) := by rw [wrap_i64 (by omega) (by omega)]; rfl
    simp [ob, setAt, V.cells, V.good, hw1]
    exact hT c _ ((RE.refl h o σ).set (.inl rfl) _) (RdP.to r0 hN ob)
theorem rdMust (L : LRd X wr) {s : PS} (r : RdP toks en h o s σ) (hs : toks.length < 2 ^ 30) (ha : s.at' ≤ toks.length) (m : Str) (hQ : Ans X wr toks en h o σ Q (fun _ : Unit => .tup []) (mustP toks en m s)) :
    Ecx X K.rules_reader_must [.ptr o 0, .str m] h Q := by
  refine fn_any L.must (by simp [A.rules_reader_must]) fun wf => ?_
  obtain ⟨rest, ob⟩ := r.ob
  simp [A.rules_reader_must]
  refine ecall (rdTake L r hs m (fun c h1 g r1 => ?_) (fun c => ?_))
  · simp
    unfold mustP at hQ
    rw [if_pos c] at hQ
    exact hQ h1 σ g r1
  · simp
    unfold mustP at hQ
    rw [if_neg (by simp [c])] at hQ
    exact ecall (L.fail toks en s.at' o rest h _ ob hs (by omega) (hQ h σ (RE.refl h o σ)))
theorem WkE.len {l m : List V} (w : WkE l m) : l.length = m.length := w.cells.1
theorem wk_kids {ek st : Nat} {kids : List Int} (hk : kids = [] ∨ ek = 1) : Wk (.sl ek st (ints kids)) (.sl 1 0 (ints kids)) := by
  rcases hk with rfl | rfl
  · exact .nil _ _ _
  · exact .sl _ _ _
theorem rdNode (L : LRd X wr) {s : PS} (r : RdP toks en h o s σ) (hp : s.nodes.length ≤ 2 ^ 38) (kind : Int) (name : Str) (kids : List Int) {ek st : Nat} (hk : kids = [] ∨ ek = 1)
    (hQ : ∀ h1 σ1, RE h h1 o σ σ1 → RdP toks en h1 o (s.lay kind name kids) σ1 → Q (.int .i64 s.nodes.length) h1) : Ecx X K.rules_reader_node [.ptr o 0, .int .i64 kind, .str name, .sl ek st (ints kids)] h Q := by
  refine fn_any L.node (by simp [A.rules_reader_node]) fun wf => ?_
  obtain ⟨N, hN, rd⟩ := r
  obtain ⟨e1, e2, e3, e4, ob, m1, m2, m3, m4⟩ := rd.ob
  have hl := hN.len
  simp only [List.length_map] at hl
  simp [A.rules_reader_node, ob, fillV, fillL, setAt, V.cells, V.good, V.isAgg]
  refine m2.app (by simp) rfl (by simp; omega) ?_
  have hw1 : IntKind.i64.wrap (N.length : Int) = (s.nodes.length : Int) := by rw [hl, wrap_i64 (by omega) (by omega)]
  simp [setAt, V.cells, V.good, push_objs, ob, hw1]
  obtain ⟨r1, g1⟩ := rd.pushN ob (.agg [.int .i64 kind, .str name, .sl ek st (ints kids)])
  refine hQ _ _ g1 ⟨_, ?_, r1⟩
  rw [PS.lay]
  simp only [List.map_append, List.map_cons, List.map_nil]
  exact hN.append (.cons (.cons (.same _) (.cons (.same _) (.cons (wk_kids hk) .nil))) .nil)
theorem rdOne (L : LRd X wr) {s : PS} (r : RdP toks en h o s σ) (hp : s.nodes.length ≤ 2 ^ 38) (kind : Int) (l : List Int) (hl : l.length ≤ 2 ^ 40) {e st : Nat} (he : l = [] ∨ e = 1)
    (hQ : ∀ h1 σ1, RE h h1 o σ σ1 → RdP toks en h1 o (oneP kind l s).1 σ1 → Q (.int .i64 (oneP kind l s).2) h1) : Ecx X K.rules_reader_one [.ptr o 0, .int .i64 kind, .sl e st (ints l)] h Q := by
  refine fn_any L.one (by simp [A.rules_reader_one]) fun wf => ?_
  have hil : (ints l).length = l.length := by simp [ints]
  by_cases c : l.length = 1
  · obtain ⟨n, rfl⟩ := List.length_eq_one_iff.1 c
    obtain rfl : e = 1 := he.resolve_left (by simp)
    simp [A.rules_reader_one, ints, V.cells]
    exact hQ h σ (RE.refl _ _ _) r
  · have c' : ¬ (l.length : Int) = 1 := by omega
    simp [A.rules_reader_one, hil, c']
    have ho : oneP kind l s = nodeP kind [] l s := by
      match l, c with
      | [], _ => rfl
      | [n], c => simp at c
      | _ :: _ :: _, _ => rfl
    rw [ho] at hQ
    refine ecall (rdNode L r hp kind [] l he fun h1 σ1 g r1 => ?_)
    simp
    exact hQ h1 σ1 g r1
theorem rdBegins (L : LRd X wr) {s : PS} (r : RdP toks en h o s σ) (hQ : Q (.bool (bgnP toks s.at')) h) : Ecx X K.rules_reader_begins [.ptr o 0] h Q := by
  refine fn_walk L.begins (by simp [A.rules_reader_begins]) fun wf => ?_
  obtain ⟨rest, ob⟩ := r.ob
  by_cases hlt : s.at' < toks.length
  · have hlt' : (s.at' : Int) < toks.length := by omega
    have hg : (toks.map tokV).getD s.at' .undef = .agg (tokC toks[s.at']) := toks_getD hlt
    have hp : bgnP toks s.at' = (decide (toks[s.at'].kind ≠ 3) || decide (toks[s.at'].text = [40])) := by simp [bgnP, hlt]
    rw [hp] at hQ
    by_cases c1 : toks[s.at'].kind = 3
    · have c1' : (toks[s.at'].kind : Int) = 3 := by omega
      simp [c1] at hQ
      simp [A.rules_reader_begins, ob, hlt', hg, tokC, V.cells, c1']
      refine dcall (.bool (decide (toks[s.at'].text = [40]))) (rdAhead L.ahead ob _ ?_) ?_
      · simp [aheadP, hlt, c1]
      · simp
        exact fin (by simp) hQ
    · have c1' : ¬ (toks[s.at'].kind : Int) = 3 := by omega
      simp [c1] at hQ
      simp [A.rules_reader_begins, ob, hlt', hg, tokC, V.cells, c1']
      exact fin (by simp) hQ
  · have hlt' : ¬ (s.at' : Int) < toks.length := by omega
    have hp : bgnP toks s.at' = false := by simp [bgnP, hlt]
    rw [hp] at hQ
    simp [A.rules_reader_begins, ob, hlt']
    exact fin (by simp) hQ
/-- Where a token stands. -/
theorem rdName (L : LRd X wr) {s : PS} (r : RdP toks en h o s σ) (hs : toks.length < 2 ^ 30) (ha : s.at' ≤ toks.length) (hQ : Ans X wr toks en h o σ Q useV (nameP toks en s)) :
    Ecx X K.rules_reader_name [.ptr o 0] h Q := by
  refine fn_any L.name (by simp [A.rules_reader_name]) fun wf => ?_
  have r0 := r
  obtain ⟨N, hN, rd⟩ := r
  obtain ⟨e1, e2, e3, e4, ob, _⟩ := rd.ob
  have hlt0 := rd.lt
  have n1 : ¬ o = h.nobj := by omega
  have n2 : ¬ o = h.nobj + 1 := by omega
  have n3 : ¬ h.nobj = o := by omega
  have n4 : ¬ h.nobj + 1 = o := by omega
  have ob1 := ob
  by_cases hlt : s.at' < toks.length
  · have hlt' : (s.at' : Int) < toks.length := by omega
    have hge' : ¬ (toks.length : Int) ≤ s.at' := by omega
    have hg : (toks.map tokV).getD s.at' .undef = .agg (tokC toks[s.at']) := toks_getD hlt
    have hn : nameP toks en s = if toks[s.at'].kind = 1 then .ok (s.adv, ⟨toks[s.at'].text, toks[s.at'].at'⟩) else .error toks[s.at'].at' := by simp [nameP, hlt]
    rw [hn] at hQ
    have hw1 : IntKind.i64.wrap ((s.at' : Int) + 1) = ((s.at' + 1 : Nat) : Int) := by rw [wrap_i64 (by omega) (by omega)]; rfl
    by_cases c1 : toks[s.at'].kind = 1
    · have c1' : (toks[s.at'].kind : Int) = 1 := by omega
      rw [if_pos c1] at hQ
      simp [A.rules_reader_name, ob, hlt', hge', hg, tokC, V.cells, V.good, setAt, c1', n1, n2, n3, n4]
      rw [hw1]
      exact hQ _ σ ((((RE.refl h o σ).set (.inl rfl) _).new _).new _) ⟨N, hN, ((rd.cells ob _ _ _).new _).new _⟩
    · have c1' : ¬ (toks[s.at'].kind : Int) = 1 := by omega
      rw [if_neg c1] at hQ
      simp [A.rules_reader_name, ob, hlt', hge', hg, tokC, V.cells, c1', n1]
      refine ecall (L.fail toks en s.at' o _ _ _ (by rw [new_objs_ne _ _ n1]; exact ob) hs (by omega) ?_)
      have := hQ (h.new [.str [], .int .i64 0]) σ ((RE.refl h o σ).new _)
      simpa [plcP, hlt] using this
  · have hlt' : ¬ (s.at' : Int) < toks.length := by omega
    have hge' : (toks.length : Int) ≤ s.at' := by omega
    have hn : nameP toks en s = .error en := by simp [nameP, hlt]
    rw [hn] at hQ
    simp [A.rules_reader_name, ob, hge', n1]
    refine ecall (L.fail toks en s.at' o _ _ _ (by rw [new_objs_ne _ _ n1]; exact ob) hs (by omega) ?_)
    have := hQ (h.new [.str [], .int .i64 0]) σ ((RE.refl h o σ).new _)
    simpa [plcP, hlt] using this
end
end Go.Proofs.Ytecgbggobecpjaa.Al
namespace Go.Proofs.Ytecgbggobecpjaa.Al
open Go Go.RowKit
set_option linter.unusedSimpArgs false
set_option linter.unusedVariables false
attribute [-simp] List.getD_eq_getElem?_getD Int.not_lt Int.not_le List.map_take List.map_map
def intV (n : Int) : V := .int .i64 n
section
variable {X : Cx} {wr : Int → Value} {toks : List Tok} {en : Nat}
/-- What alternatives are told to do. -/
def AltS (X : Cx) (wr : Int → Value) (toks : List Tok) (en f : Nat) : Prop := ∀ (s : PS) (h : AH) (o : Nat) (σ : S4) (Q : V → AH → Prop), s.at' ≤ toks.length → toks.length < f + s.at' → pot toks s + 2 ≤ 2 ^ 38 → RdP toks en h o s σ →
  Ans X wr toks en h o σ Q intV (altsP toks en f s) → Ecx X K.rules_reader_alternatives [.ptr o 0] h Q
variable {h : AH} {o : Nat} {σ : S4} {Q : V → AH → Prop}
theorem nodes_pot (s : PS) : s.nodes.length ≤ pot toks s ∧ s.used.length ≤ pot toks s ∧ s.given.length ≤ pot toks s ∧ s.rules.length ≤ pot toks s := by unfold pot; omega
theorem rdAtom (L : LRd X wr) (hs : toks.length < 2 ^ 30) (hk : ∀ t ∈ toks, t.kind = 1 ∨ t.kind = 2 ∨ t.kind = 3) {f : Nat} (hA : AltS X wr toks en f) {s : PS} (r : RdP toks en h o s σ) (hb : bgnP toks s.at' = true) (hf : toks.length < f + 1 + s.at') (hp : pot toks s ≤ 2 ^ 38)
    (hQ : Ans X wr toks en h o σ Q intV (atomP toks en (altsP toks en f) s)) : Ecx X K.rules_reader_atom [.ptr o 0] h Q := by
  refine fn_any L.atom (by simp [A.rules_reader_atom]) fun wf => ?_
  have hl := bgnP_lt hb
  have pa := pot_adv hl
  simp [A.rules_reader_atom]
  refine ecall (rdTake L r hs _ (fun c h1 g1 r1 => ?_) (fun c => ?_))
  · unfold atomP at hQ
    rw [if_pos c] at hQ
    simp
    refine ecall (hA _ _ _ _ _ (by simp [PS.adv]; omega) (by simp [PS.adv]; omega) (by omega) r1 ((hQ.from g1).pbnd fun s1 n e1 h2 σ2 g2 r2 hQ2 => ?_))
    have f1 := alts_fwd f _ _ _ (by simp [PS.adv]; omega) e1
    simp [intV]
    refine ecall (rdMust L r2 hs f1.at2 _ (hQ2.pbnd fun s2 u e2 h3 σ3 g3 r3 hQ3 => ?_))
    simp
    exact hQ3 h3 σ3 (RE.refl _ _ _) r3
  · unfold atomP at hQ
    rw [if_neg (by simp [c])] at hQ
    obtain ⟨N, hN, rd⟩ := id r
    obtain ⟨e1, e2, e3, e4, ob, m1, m2, m3, m4⟩ := rd.ob
    have hlt0 := rd.lt
    have n1 : ¬ o = h.nobj := by omega
    have n3 : ¬ h.nobj = o := by omega
    have hlt' : (s.at' : Int) < toks.length := by omega
    have hg : (toks.map tokV).getD s.at' .undef = .agg (tokC toks[s.at']) := toks_getD hl
    have hw1 : IntKind.i64.wrap ((s.at' : Int) + 1) = ((s.at' + 1 : Nat) : Int) := by rw [wrap_i64 (by omega) (by omega)]; rfl
    have ht : toks[s.at']? = some toks[s.at'] := List.getElem?_eq_getElem hl
    rw [ht] at hQ
    simp only at hQ
    have hm := hk _ (List.getElem_mem hl)
    by_cases c2 : toks[s.at'].kind = 2
    · have c2' : (toks[s.at'].kind : Int) = 2 := by omega
      rw [if_pos c2] at hQ
      simp [ob, hlt', hg, tokC, V.cells, V.good, setAt, c2', n1, n3, hw1]
      have np := nodes_pot (toks := toks) s
      refine ecall (rdNode L (toks := toks) (en := en) (σ := σ) (s := s.adv) ⟨N, hN, (rd.cells ob _ (s.at' + 1) _).new _⟩ (by simp [PS.adv]; omega) 7 _ [] (.inl rfl) fun h2 σ2 g2 r2 => ?_)
      simp
      exact hQ h2 σ2 ((((RE.refl h o σ).set (.inl rfl) _).new _).trans g2) r2
    · have c2' : ¬ (toks[s.at'].kind : Int) = 2 := by omega
      rw [if_neg c2] at hQ
      simp [ob, hlt', hg, tokC, V.cells, V.good, setAt, c2', n1, n3, hw1]
      have np := nodes_pot (toks := toks) s
      have c1 : toks[s.at'].kind = 1 := by
        rcases hm with e | e | e
        · exact e
        · exact absurd e c2
        · exfalso
          have : aheadP toks s.at' [40] = true := by
            simp [bgnP, hl, e] at hb
            simp [aheadP, hl, e, hb]
          rw [this] at c; cases c
      have hn : nameP toks en s = .ok (s.adv, ⟨toks[s.at'].text, toks[s.at'].at'⟩) := by simp [nameP, hl, c1]
      rw [hn] at hQ
      refine ecall (rdName L (toks := toks) (en := en) (s := s) (σ := σ) ⟨N, hN, rd.new _⟩ hs (by omega) ?_)
      rw [hn]
      intro h1 σ1 g1 r1
      obtain ⟨N1, hN1, rd1⟩ := r1
      obtain ⟨f1, f2, f3, f4, ob1, k1, k2, k3, k4⟩ := rd1.ob
      have hlt1 := rd1.lt
      have q1 : ¬ o = h1.nobj := by omega
      have q3 : ¬ h1.nobj = o := by omega
      have g1' := ((RE.refl h o σ).new _).trans g1
      have ob1' : h1.objs o = [V.sl 3 0 (toks.map tokV), .int .i64 ((s.at' + 1 : Nat) : Int), .int .i64 (en : Nat), .sl f1 σ1.a (s.rules.map rlV), .sl f2 σ1.b N1, .sl f3 σ1.c (s.given.map useV), .sl f4 σ1.d (s.used.map useV)] := ob1
      simp [useV, V.cells, V.good, setAt, ob1', q1, q3, fillL, V.isAgg]
      refine (show May 2 (h1.new [V.str toks[s.at'].text, V.int IntKind.i64 (toks[s.at'].at' : Nat)]) f4 σ1.d (s.used.map useV) from ⟨k4.el, k4.st⟩).app (by simp) rfl (by simp; omega) ?_
      simp [V.cells, V.good, setAt, push_objs, ob1', q1, q3]
      obtain ⟨r2, g2⟩ := (rd1.new [V.str toks[s.at'].text, V.int IntKind.i64 (toks[s.at'].at' : Nat)]).pushU (by rw [new_objs_ne _ _ q1]; exact ob1) (.agg [V.str toks[s.at'].text, V.int IntKind.i64 (toks[s.at'].at' : Nat)])
      have hu : (useP ⟨toks[s.at'].text, toks[s.at'].at'⟩ s.adv).used.map useV = s.used.map useV ++ [.agg [V.str toks[s.at'].text, V.int IntKind.i64 (toks[s.at'].at' : Nat)]] := by simp [useP, PS.adv, useV]
      have hu2 : s.adv.used.map useV = s.used.map useV := rfl
      refine ecall (rdNode L (toks := toks) (en := en) (s := useP ⟨toks[s.at'].text, toks[s.at'].at'⟩ s.adv) ⟨N1, hN1, by rw [hu]; exact r2⟩ (by simp [PS.adv, useP]; omega) 6 _ [] (.inl rfl) fun h2 σ2 g3 r3 => ?_)
      simp
      exact hQ h2 σ2 ((((g1'.new _)).trans g2).trans g3) r3
theorem rdItem (L : LRd X wr) (hs : toks.length < 2 ^ 30) (hk : ∀ t ∈ toks, t.kind = 1 ∨ t.kind = 2 ∨ t.kind = 3) {f : Nat} (hA : AltS X wr toks en f) {s : PS} (r : RdP toks en h o s σ) (hb : bgnP toks s.at' = true) (hf : toks.length < f + 1 + s.at') (hp : pot toks s ≤ 2 ^ 38)
    (hQ : Ans X wr toks en h o σ Q intV (itemP toks en (altsP toks en f) s)) : Ecx X K.rules_reader_item [.ptr o 0] h Q := by
  refine fn_any L.item (by simp [A.rules_reader_item]) fun wf => ?_
  simp [A.rules_reader_item]
  refine ecall (rdAtom L hs hk hA r hb hf hp (hQ.pbnd fun s1 n e1 h1 σ1 g1 r1 hQ1 => ?_))
  have f1 := (atom_fwd (alts_fwd f) e1).2
  have np := nodes_pot (toks := toks) s1
  have fp := f1.pot
  simp [intV]
  have key : ∀ (k : Int) (h2 : AH), (markP toks s1 n) = nodeP k [] [n] s1.adv → RE h1 h2 o σ1 σ1 → RdP toks en h2 o s1.adv σ1 → ∀ h3 σ3, RE h2 h3 o σ1 σ3 → RdP toks en h3 o (s1.adv.lay k [] [n]) σ3 → Q (.int .i64 s1.nodes.length) h3 := fun k h2 hm g2 r2 h3 σ3 g3 r3 => by
    rw [hm] at hQ1
    exact hQ1 h3 σ3 (g2.trans g3) r3
  refine ecall (rdTake L r1 hs _ (fun c h2 g2 r2 => ?_) (fun c => ?_))
  · have hm : markP toks s1 n = nodeP 3 [] [n] s1.adv := by unfold markP; rw [if_pos c]
    simp [fillL, V.isAgg]
    refine ecall (rdNode L r2 (by simp [PS.adv]; omega) 3 [] [n] (.inr rfl) fun h3 σ3 g3 r3 => ?_)
    simp
    exact key 3 h2 hm g2 r2 h3 σ3 g3 r3
  simp
  refine ecall (rdTake L r1 hs _ (fun c2 h2 g2 r2 => ?_) (fun c2 => ?_))
  · have hm : markP toks s1 n = nodeP 4 [] [n] s1.adv := by unfold markP; rw [if_neg (by simp [c]), if_pos c2]
    simp [fillL, V.isAgg]
    refine ecall (rdNode L r2 (by simp [PS.adv]; omega) 4 [] [n] (.inr rfl) fun h3 σ3 g3 r3 => ?_)
    simp
    exact key 4 h2 hm g2 r2 h3 σ3 g3 r3
  simp
  refine ecall (rdTake L r1 hs _ (fun c3 h2 g2 r2 => ?_) (fun c3 => ?_))
  · have hm : markP toks s1 n = nodeP 5 [] [n] s1.adv := by unfold markP; rw [if_neg (by simp [c]), if_neg (by simp [c2]), if_pos c3]
    simp [fillL, V.isAgg]
    refine ecall (rdNode L r2 (by simp [PS.adv]; omega) 5 [] [n] (.inr rfl) fun h3 σ3 g3 r3 => ?_)
    simp
    exact key 5 h2 hm g2 r2 h3 σ3 g3 r3
  have hm : markP toks s1 n = (s1, n) := by unfold markP; rw [if_neg (by simp [c]), if_neg (by simp [c2]), if_neg (by simp [c3])]
  rw [hm] at hQ1
  simp
  exact hQ1 h1 σ1 (RE.refl _ _ _) r1
/-- A slice of one's own beside the reader's. -/
structure Loc (h0 h : AH) (σ : S4) (e st : Nat) (l : List V) : Prop where
  may : May 1 h e st l
  lo : st ≤ 2 ∨ (h0.next ≤ st ∧ st < h.next ∧ ¬ σ.has st)
theorem Loc.nil (h0 h : AH) (σ : S4) : Loc h0 h σ 0 1 [] := ⟨⟨.inl rfl, .inl rfl⟩, .inl (by omega)⟩
theorem Loc.from {h0 h1 : AH} {σ1 : S4} {e st : Nat} {l : List V} (c : Loc h0 h σ e st l) (g : RE h h1 o σ σ1) (lo : ∀ s, s ≤ 2 → h.tips s = none) : Loc h0 h1 σ1 e st l := by
  refine ⟨c.may.keep ?_ (lo _), ?_⟩
  · rcases c.lo with d | ⟨d1, d2, d3⟩
    · exact .inl d
    · exact .inr (g.tips _ d2 (.inl d3))
  · rcases c.lo with d | ⟨d1, d2, d3⟩
    · exact .inl d
    · refine .inr ⟨d1, by have := g.next; omega, fun e => ?_⟩
      rcases g.st _ e with q | q
      · exact d3 q
      · omega
/-- It is pushed. -/
theorem Loc.app {h0 : AH} {s : PS} {e st : Nat} {l : List V} (c : Loc h0 h σ e st l) (hn : h0.next ≤ h.next) (r : RdP toks en h o s σ) {m : List V} (hm : m ≠ []) (hb : (l.length + m.length) * 8 ≤ 2 ^ 46) {K : V → AH → Prop} {zK : Lz K}
    (hk : RdP toks en (h.push st 1) o s σ → Loc h0 (h.push st 1) σ 1 h.next (l ++ m) → (∀ e2 s2 l2, Loc h0 h σ e2 s2 l2 → (s2 ≤ 2 ∨ s2 ≠ st) → Loc h0 (h.push st 1) σ e2 s2 l2 ∧ (s2 ≤ 2 ∨ s2 ≠ h.next)) → K (.sl 1 h.next (l ++ m)) (h.push st 1)) : App h 1 8 e st l 1 m zK := by
  refine c.may.app hm rfl hb (hk ?_ ?_ ?_)
  · obtain ⟨N, hN, rd⟩ := r
    exact ⟨N, hN, rd.push (by rcases c.lo with d | d; exact .inl d; exact .inr d.2.2) 1⟩
  · obtain ⟨N, hN, rd⟩ := r
    refine ⟨⟨.inr rfl, .inr (.inr (push_new _ _ _))⟩, .inr ⟨hn, by rw [push_next]; omega, fun q => ?_⟩⟩
    have := rd.sb _ q
    have := rd.lo.1
    omega
  · intro e2 s2 l2 c2 ne
    obtain ⟨N, hN, rd⟩ := r
    refine ⟨⟨c2.may.push rd.lo (by rcases c2.lo with d | d; exact .inl d; exact .inr d.2.1) ne 1, ?_⟩, ?_⟩
    · rcases c2.lo with d | ⟨d1, d2, d3⟩
      · exact .inl d
      · exact .inr ⟨d1, by rw [push_next]; omega, d3⟩
    · rcases c2.lo with d | ⟨d1, d2, d3⟩
      · exact .inl d
      · right; omega
theorem ints_el {l : List Int} {e : Nat} (h : ints l = [] ∨ e = 1) : l = [] ∨ e = 1 := h.imp (fun e => by cases l with | nil => rfl | cons a l => simp [ints] at e) id
theorem ans_eq {α : Type} {enc : α → V} {r r' : PR α} (e : r' = r) (a : Ans X wr toks en h o σ Q enc r') : Ans X wr toks en h o σ Q enc r := e ▸ a
theorem pbnd_assoc {α β γ : Type} (r : PR α) (f : PS → α → PR β) (g : PS → β → PR γ) : pbnd (pbnd r f) g = pbnd r fun s a => pbnd (f s a) g := by
  cases r <;> rfl
/-- What comes behind an alternative's items. -/
def restA (toks : List Tok) (en f k : Nat) (l : List Int) (s : PS) (l2 : List Int) : PR Int :=
  pbnd (if aheadP toks (oneP 1 l2 s).1.at' [124] then altsL toks en (altsP toks en f) k (oneP 1 l2 s).1.adv (l ++ [(oneP 1 l2 s).2]) else .ok ((oneP 1 l2 s).1, l ++ [(oneP 1 l2 s).2])) fun s1 l => .ok (oneP 2 l s1)
theorem rdAlts (L : LRd X wr) (hs : toks.length < 2 ^ 30) (hk : ∀ t ∈ toks, t.kind = 1 ∨ t.kind = 2 ∨ t.kind = 3) : ∀ f, AltS X wr toks en f
  | 0 => fun s h o σ Q h1 h2 hp r hQ => absurd h2 (by omega)
  | f + 1 => fun s h o σ Q h1 h2 hp r hQ => by
    have hA := rdAlts L hs hk f
    refine fn_any L.alts (by simp [A.rules_reader_alternatives]) fun wf => ?_
    simp [A.rules_reader_alternatives]
    unfold altsP at hQ
    refine loopI (n := toks.length + 2 - s.at') (fun m env h' => ∃ s' l e st more σ', env = [(0, .ptr o 0), (3, .sl e st (ints l)), (4, .bool more)] ∧ RE h h' o σ σ' ∧ RdP toks en h' o s' σ' ∧ Loc h h' σ' e st (ints l) ∧ s'.at' ≤ toks.length ∧ s.at' ≤ s'.at' ∧ l.length ≤ s'.at' - s.at' + 1 ∧
        (more = true → l.length ≤ s'.at' - s.at' ∧ pot toks s' + 2 ≤ 2 ^ 38 ∧ m = toks.length + 2 - s'.at' ∧ ∃ k, toks.length < k + s'.at' ∧ Ans X wr toks en h o σ Q intV (pbnd (altsL toks en (altsP toks en f) k s' l) fun s1 l => .ok (oneP 2 l s1))) ∧
        (more = false → pot toks s' ≤ 2 ^ 38 ∧ m = 0 ∧ Ans X wr toks en h o σ Q intV (.ok (oneP 2 l s')))) ?_
      ⟨s, [], 0, 1, true, σ, rfl, RE.refl _ _ _, r, Loc.nil _ _ _, h1, by omega, by simp, fun _ => ⟨by simp, by omega, rfl, toks.length + 1, by omega, hQ⟩, fun e => by cases e⟩
    rintro m env h' ⟨s', l, e, st, more, σ', rfl, g, r', lc, ha, hb, hll, hT, hF⟩
    unfold A.rules_reader_alternatives.L0
    cases more with
    | false =>
      obtain ⟨hp', rfl, hQ'⟩ := hF rfl
      have np := nodes_pot (toks := toks) s'
      simp
      refine ecall (rdOne L r' (by omega) 2 l (by omega) (ints_el lc.may.el) fun h3 σ3 g3 r3 => ?_)
      simp
      exact hQ' h3 σ3 (g.trans g3) r3
    | true =>
      obtain ⟨hll', hp', rfl, k, hk1, hQ'⟩ := hT rfl
      obtain ⟨k, rfl⟩ : ∃ k', k = k' + 1 := ⟨k - 1, by omega⟩
      simp
      refine loopI (n := toks.length - s'.at') (fun m env h2 => ∃ s2 l2 e2 st2 σ2, env = [(0, .ptr o 0), (3, .sl e st (ints l)), (5, .sl e2 st2 (ints l2))] ∧ RE h h2 o σ σ2 ∧ RdP toks en h2 o s2 σ2 ∧ Loc h h2 σ2 e st (ints l) ∧ Loc h h2 σ2 e2 st2 (ints l2) ∧ (st ≤ 2 ∨ st ≠ st2) ∧ s2.at' ≤ toks.length ∧ s'.at' ≤ s2.at' ∧ l2.length ≤ s2.at' - s'.at' ∧ pot toks s2 + 2 ≤ 2 ^ 38 ∧ m = toks.length - s2.at' ∧
          ∃ k2, toks.length < k2 + s2.at' ∧ Ans X wr toks en h o σ Q intV (pbnd (itemsP toks en (altsP toks en f) k2 s2 l2) (restA toks en f k l))) ?_
        ⟨s', [], 0, 1, σ', rfl, g, r', lc, Loc.nil _ _ _, by omega, ha, by omega, by simp, hp', rfl, toks.length + 1, by omega, ans_eq (by rw [altsL, seqP]; cases itemsP toks en (altsP toks en f) (toks.length + 1) s' [] <;> rfl) hQ'⟩
      rintro m env h2 ⟨s2, l2, e2, st2, σ2, rfl, g2, r2, lc1, lc2, ne, ha2, hb2, hl2, hp2, rfl, k2, hk2, hQ2⟩
      unfold A.rules_reader_alternatives.L1
      simp
      refine ecall (rdBegins L r2 ?_)
      have hlo2 : ∀ s, s ≤ 2 → h2.tips s = none := by obtain ⟨_, _, rd⟩ := r2; exact rd.lo.2
      have gn2 := g2.next
      cases c : bgnP toks s2.at' with
      | true =>
        have hlt := bgnP_lt c
        obtain ⟨k2, rfl⟩ : ∃ k', k2 = k' + 1 := ⟨k2 - 1, by omega⟩
        rw [itemsP, if_pos c, pbnd_assoc] at hQ2
        simp
        refine ecall (rdItem L hs hk hA r2 c (by omega) (by omega) (hQ2.pbnd0 g2 fun s3 n e3 h3 σ3 g3 r3 hQ3 => ?_))
        obtain ⟨q1, q2⟩ := item_fwd (alts_fwd f) e3
        have q3 := q2.pot
        have q4 := q2.at2
        have gn3 := g3.next
        simp [intV, fillL, V.isAgg]
        refine (lc2.from g3 hlo2).app (by omega) r3 (by simp) (by simp [ints]; omega) fun r4 lc4 oth => ?_
        obtain ⟨o1, o2⟩ := oth _ _ _ (lc1.from g3 hlo2) ne
        have hi : ints l2 ++ [V.int IntKind.i64 n] = ints (l2 ++ [n]) := by rw [ints_append]; rfl
        rw [hi] at lc4 ⊢
        simp
        exact ⟨toks.length - s3.at', by omega, iv ⟨s3, l2 ++ [n], 1, h3.next, σ3, rfl, (g2.trans g3).push (by have := lc2.lo; omega) 1, r4, o1, lc4, o2, q4, by omega, by simp; omega, by omega, rfl, k2, by omega, hQ3⟩⟩
      | false =>
        have hi : itemsP toks en (altsP toks en f) k2 s2 l2 = .ok (s2, l2) := by
          cases k2 with
          | zero => rfl
          | succ k2 => unfold itemsP; rw [if_neg (by simp [c])]
        rw [hi] at hQ2
        have np := nodes_pot (toks := toks) s2
        simp
        refine ecall (rdOne L r2 (by omega) 1 l2 (by omega) (ints_el lc2.may.el) fun h3 σ3 g3 r3 => ?_)
        have hlo3 : ∀ s, s ≤ 2 → h3.tips s = none := by obtain ⟨_, _, rd⟩ := r3; exact rd.lo.2
        have gn3 := g3.next
        obtain ⟨o1, o2⟩ := one_fwd (toks := toks) 1 l2 s2
        have hQ3 : Ans X wr toks en h o σ Q intV (restA toks en f k l s2 l2) := hQ2
        unfold restA at hQ3
        simp [fillL, V.isAgg]
        refine (lc1.from g3 hlo2).app (by omega) r3 (by simp) (by simp [ints]; omega) fun r4 lc4 oth => ?_
        have g4 := (g2.trans g3).push (s := st) (by have := lc1.lo; omega) 1
        have hi2 : ints l ++ [V.int IntKind.i64 (oneP 1 l2 s2).2] = ints (l ++ [(oneP 1 l2 s2).2]) := by rw [ints_append]; rfl
        rw [hi2] at lc4 ⊢
        simp
        refine ecall (rdTake L r4 hs _ (fun c h5 g5 r5 => ?_) (fun c => ?_))
        · rw [if_pos c] at hQ3
          have hl5 := aheadP_lt c
          have p5 := pot_adv hl5
          simp
          exact ⟨toks.length + 2 - (oneP 1 l2 s2).1.adv.at', by simp [PS.adv]; omega, iv ⟨_, l ++ [(oneP 1 l2 s2).2], 1, h3.next, true, σ3, rfl, g4.trans g5, r5, lc4.from g5 (by obtain ⟨_, _, rd⟩ := r4; exact rd.lo.2), by simp [PS.adv]; omega, by simp [PS.adv]; omega, by simp [PS.adv]; omega,
            fun _ => ⟨by simp [PS.adv]; omega, by omega, rfl, k, by simp [PS.adv]; omega, hQ3⟩, fun e => by cases e⟩⟩
        · rw [if_neg (by simp [c])] at hQ3
          simp
          exact ⟨0, by omega, iv ⟨_, l ++ [(oneP 1 l2 s2).2], 1, h3.next, false, σ3, rfl, g4, r4, lc4, by omega, by omega, by simp; omega,
            (fun e => by cases e), fun _ => ⟨by omega, rfl, hQ3⟩⟩⟩
theorem rdText (L : LRd X wr) (hs : toks.length < 2 ^ 30) (hk : ∀ t ∈ toks, t.kind = 1 ∨ t.kind = 2 ∨ t.kind = 3) (r : RdP toks en h o ⟨0, [], [], [], []⟩ σ) (hQ : Ans X wr toks en h o σ Q (fun _ => .tup []) (textP toks en)) :
    Ecx X K.rules_reader_text [.ptr o 0] h Q := by
  refine fn_any L.text (by simp [A.rules_reader_text]) fun wf => ?_
  simp [A.rules_reader_text]
  unfold textP at hQ
  refine loopI (n := toks.length + 2) (fun m env h' => ∃ s' more σ', env = [(0, .ptr o 0), (2, .bool more)] ∧ RE h h' o σ σ' ∧ RdP toks en h' o s' σ' ∧ s'.at' ≤ toks.length ∧ pot toks s' + 2 ≤ 2 ^ 38 ∧
      (more = true → m = toks.length + 2 - s'.at' ∧ ∃ k, toks.length < k + s'.at' ∧ Ans X wr toks en h o σ Q (fun _ => .tup []) (textL toks en k s')) ∧
      (more = false → m = 0 ∧ Ans X wr toks en h o σ Q (fun _ : Unit => .tup []) (.ok (s', ())))) ?_
    ⟨⟨0, [], [], [], []⟩, true, σ, rfl, RE.refl _ _ _, r, by simp, by simp [pot]; omega, fun _ => ⟨rfl, toks.length + 1, by simp, hQ⟩, fun e => by cases e⟩
  rintro m env h' ⟨s', more, σ', rfl, g, r', ha, hp, hT, hF⟩
  unfold A.rules_reader_text.L0
  cases more with
  | false =>
    obtain ⟨rfl, hQ'⟩ := hF rfl
    simp
    exact hQ' h' σ' g r'
  | true =>
    obtain ⟨rfl, k, hk1, hQ'⟩ := hT rfl
    obtain ⟨k, rfl⟩ : ∃ k', k = k' + 1 := ⟨k - 1, by omega⟩
    rw [textL] at hQ'
    have hQ0 := hQ'
    unfold ruleP at hQ'
    rw [pbnd_assoc] at hQ'
    simp
    refine ecall (rdName L r' hs ha (hQ'.pbnd0 g fun s1 u e1 h1 σ1 g1 r1 hQ1 => ?_))
    obtain ⟨rfl, hl1⟩ := name_fwd e1
    have p1 := pot_adv hl1
    obtain ⟨N, hN, rd⟩ := r1
    obtain ⟨e1, e2, e3, e4, ob, m1, m2, m3, m4⟩ := rd.ob
    have hlt1 := rd.lt
    have n1 : ¬ o = h1.nobj := by omega
    have n3 : ¬ h1.nobj = o := by omega
    have np := nodes_pot (toks := toks) s'
    have hgl : s'.adv.given.length = s'.given.length := rfl
    rw [pbnd_assoc] at hQ1
    simp [useV, V.cells, V.good, setAt, ob, n1, n3, fillL, V.isAgg]
    refine (show May 2 (h1.new [V.str u.name, V.int IntKind.i64 (u.at' : Nat)]) e3 σ1.c (s'.adv.given.map useV) from ⟨m3.el, m3.st⟩).app (by simp) rfl (by simp; omega) ?_
    simp [V.cells, V.good, setAt, push_objs, ob, n1, n3]
    obtain ⟨r2, g2⟩ := (rd.new [V.str u.name, V.int IntKind.i64 (u.at' : Nat)]).pushG (by rw [new_objs_ne _ _ n1]; exact ob) (.agg [V.str u.name, V.int IntKind.i64 (u.at' : Nat)])
    have hu : (giveP u s'.adv).given.map useV = s'.adv.given.map useV ++ [.agg [V.str u.name, V.int IntKind.i64 (u.at' : Nat)]] := by simp [giveP, useV]
    have g3 := (((g.trans g1).new [V.str u.name, V.int IntKind.i64 (u.at' : Nat)])).trans g2
    have hx : (((h1.new [V.str u.name, V.int IntKind.i64 (u.at' : Nat)]).push σ1.c 2).set o [V.sl 3 0 (List.map tokV toks), .int .i64 (s'.adv.at' : Nat), .int .i64 (en : Nat), .sl e1 σ1.a (s'.adv.rules.map rlV), .sl e2 σ1.b N, .sl 2 h1.next (s'.adv.given.map useV ++ [.agg [V.str u.name, V.int IntKind.i64 (u.at' : Nat)]]), .sl e4 σ1.d (s'.adv.used.map useV)]).objs h1.nobj = [V.str u.name, V.int IntKind.i64 (u.at' : Nat)] := by
      rw [set_objs_ne _ _ _ n3, push_objs]; exact new_objs_same _ _
    have hxn : h1.nobj < (((h1.new [V.str u.name, V.int IntKind.i64 (u.at' : Nat)]).push σ1.c 2).set o [V.sl 3 0 (List.map tokV toks), .int .i64 (s'.adv.at' : Nat), .int .i64 (en : Nat), .sl e1 σ1.a (s'.adv.rules.map rlV), .sl e2 σ1.b N, .sl 2 h1.next (s'.adv.given.map useV ++ [.agg [V.str u.name, V.int IntKind.i64 (u.at' : Nat)]]), .sl e4 σ1.d (s'.adv.used.map useV)]).nobj := by
      rw [set_nobj, push_nobj, new_nobj]; omega
    have r2' : RdP toks en _ o (giveP u s'.adv) _ := ⟨N, hN, by rw [hu]; exact r2⟩
    change RdP toks en (((h1.new [V.str u.name, V.int IntKind.i64 (u.at' : Nat)]).push σ1.c 2).set o [V.sl 3 0 (List.map tokV toks), .int .i64 (s'.adv.at' : Nat), .int .i64 (en : Nat), .sl e1 σ1.a (s'.adv.rules.map rlV), .sl e2 σ1.b N, .sl 2 h1.next (s'.adv.given.map useV ++ [.agg [V.str u.name, V.int IntKind.i64 (u.at' : Nat)]]), .sl e4 σ1.d (s'.adv.used.map useV)]) _ _ _ at r2'
    have q1 : ¬ h1.nobj = o := n3
    clear r2
    change RE h (((h1.new [V.str u.name, V.int IntKind.i64 (u.at' : Nat)]).push σ1.c 2).set o [V.sl 3 0 (List.map tokV toks), .int .i64 (s'.adv.at' : Nat), .int .i64 (en : Nat), .sl e1 σ1.a (s'.adv.rules.map rlV), .sl e2 σ1.b N, .sl 2 h1.next (s'.adv.given.map useV ++ [.agg [V.str u.name, V.int IntKind.i64 (u.at' : Nat)]]), .sl e4 σ1.d (s'.adv.used.map useV)]) _ _ _ at g3
    generalize (((h1.new [V.str u.name, V.int IntKind.i64 (u.at' : Nat)]).push σ1.c 2).set o [V.sl 3 0 (List.map tokV toks), .int .i64 (s'.adv.at' : Nat), .int .i64 (en : Nat), .sl e1 σ1.a (s'.adv.rules.map rlV), .sl e2 σ1.b N, .sl 2 h1.next (s'.adv.given.map useV ++ [.agg [V.str u.name, V.int IntKind.i64 (u.at' : Nat)]]), .sl e4 σ1.d (s'.adv.used.map useV)]) = h2 at *
    have hat : (giveP u s'.adv).at' = s'.at' + 1 := rfl
    refine ecall (rdMust L r2' hs (by omega) _ (hQ1.pbnd0 g3 fun s3 _ e3 h3 σ3 g4 r3 hQ3 => ?_))
    obtain ⟨rfl, hl3⟩ := must_fwd e3
    have hx3 := (g4.objs h1.nobj hxn q1).trans hx
    have hxn3 := g4.nobj
    have p3 := pot_adv hl3
    have pg : pot toks (giveP u s'.adv) = pot toks s'.adv + 1 := by simp [pot, giveP]; omega
    rw [pbnd_assoc] at hQ3
    simp
    refine ecall (rdAlts L hs hk _ _ _ _ _ _ (by simp [PS.adv, hat] at *; omega) (by omega) (by omega) r3 (hQ3.pbnd0 (g3.trans g4) fun s4 n e4 h4 σ4 g5 r4 hQ4 => ?_))
    have fw4 := alts_fwd _ _ _ _ (by simp [PS.adv, hat] at *; omega) e4
    have f4p := fw4.pot
    have hx4 := (g5.objs h1.nobj (by omega) q1).trans hx3
    have hxn4 := g5.nobj
    rw [pbnd_assoc] at hQ4
    simp [intV]
    refine ecall (rdMust L r4 hs fw4.at2 _ (hQ4.pbnd0 ((g3.trans g4).trans g5) fun s5 _ e5 h5 σ5 g6 r5 hQ5 => ?_))
    obtain ⟨rfl, hl5⟩ := must_fwd e5
    have p5 := pot_adv hl5
    have hx5 := (g6.objs h1.nobj (by omega) q1).trans hx4
    obtain ⟨N5, hN5, rd5⟩ := r5
    obtain ⟨f1, f2, f3, f4, ob5, k1, k2, k3, k4⟩ := rd5.ob
    have np5 := nodes_pot (toks := toks) s4
    have hrl : s4.adv.rules.length = s4.rules.length := rfl
    simp [ob5, hx5, V.cells, V.good, setAt, fillL, fillV, V.isAgg]
    refine k1.app (by simp) rfl (by simp; omega) ?_
    obtain ⟨r6, g7⟩ := rd5.pushR ob5 (.agg [V.str u.name, V.int IntKind.i64 n])
    simp [V.cells, V.good, setAt, push_objs, ob5]
    have hr6 : ({ s4.adv with rules := s4.adv.rules ++ [⟨u.name, n⟩] } : PS).rules.map rlV = s4.adv.rules.map rlV ++ [.agg [V.str u.name, V.int IntKind.i64 n]] := by simp [rlV, rlC]
    have r6' : RdP toks en _ o ({ s4.adv with rules := s4.adv.rules ++ [⟨u.name, n⟩] } : PS) _ := ⟨N5, hN5, by rw [hr6]; exact r6⟩
    have pr6 : pot toks ({ s4.adv with rules := s4.adv.rules ++ [⟨u.name, n⟩] } : PS) = pot toks s4.adv + 1 := by simp [pot]; omega
    have gA := (((g3.trans g4).trans g5).trans g6).trans g7
    have ha4 := fw4.at1
    have e4a : s4.adv.at' = s4.at' + 1 := rfl
    have e5a : (giveP u s'.adv).adv.at' = s'.at' + 2 := rfl
    by_cases cc : s4.at' + 1 < toks.length
    · have hQ6 : Ans X wr toks en h o σ Q (fun _ : Unit => .tup []) (if s4.at' + 1 < toks.length then textL toks en k ({ s4.adv with rules := s4.adv.rules ++ [⟨u.name, n⟩] } : PS) else .ok (({ s4.adv with rules := s4.adv.rules ++ [⟨u.name, n⟩] } : PS), ())) := hQ5
      rw [if_pos cc] at hQ6
      exact ⟨toks.length + 2 - (s4.at' + 1), by omega, iv ⟨_, true, _, by simp [e4a]; omega, gA, r6', by show s4.at' + 1 ≤ _; omega, by omega, fun _ => ⟨rfl, k, by show toks.length < k + (s4.at' + 1); omega, hQ6⟩, fun e => by cases e⟩⟩
    · have hQ6 : Ans X wr toks en h o σ Q (fun _ : Unit => .tup []) (if s4.at' + 1 < toks.length then textL toks en k ({ s4.adv with rules := s4.adv.rules ++ [⟨u.name, n⟩] } : PS) else .ok (({ s4.adv with rules := s4.adv.rules ++ [⟨u.name, n⟩] } : PS), ())) := hQ5
      rw [if_neg cc] at hQ6
      exact ⟨0, by omega, iv ⟨_, false, _, by simp [e4a]; omega, gA, r6', by show s4.at' + 1 ≤ _; omega, by omega, fun e => (by cases e), fun _ => ⟨rfl, hQ6⟩⟩⟩
end
end Go.Proofs.Ytecgbggobecpjaa.Al
namespace Go.Proofs.Ytecgbggobecpjaa.Al
open Go Go.RowKit
set_option linter.unusedSimpArgs false
set_option linter.unusedVariables false
attribute [-simp] List.getD_eq_getElem?_getD Int.not_lt Int.not_le List.map_take List.map_map
/-! ### What holds where calls panic may be another thing -/
theorem Rel.z {X X' : Cx} (ht : X'.tbl = X.tbl) {g : Gh} {w : World} {h : AH} {v : V} {x : Value} (r : Rel X g w h v x) : Rel X' g w h v x := by
  induction r with
  | bool b => exact .bool b
  | int k n => exact .int k n
  | str s => exact .str s
  | slnil e st hst => exact .slnil e st hst
  | slemp e a => exact .slemp e a
  | sl e st l b' off cap x h1 hs hcap he hc ho hp hr h2 h3 ih => exact .sl e st l b' off cap x h1 hs hcap he hc ho hp ih h2 h3
  | agg l cs hl ho hr ih => exact .agg l cs hl ho ih
  | ptr o off hn hm => exact .ptr o off hn hm
  | mapr o hn hm => exact .mapr o hn hm
  | mapn => exact .mapn
  | osl e o off len cap c hn hm hc hk => exact .osl e o off len cap c hn hm hc hk
  | rptr l off b' base x hc ho hp hr ih => exact .rptr l off b' base x hc ho hp ih
  | nilp => exact .nilp
  | fn f first cap fs cs h0 hf hcl hr1 hr2 ih1 ih2 => rw [← ht]; exact .fn f first cap fs cs h0 hf hcl ih1 ih2
  | nilf => exact .nilf
  | tup l cs hl hr ih => exact .tup l cs hl ih
  | cval c => exact .cval c
  | undef v => exact .undef v
theorem Inv.z {X X' : Cx} (ht : X'.tbl = X.tbl) (hw : X'.W0 = X.W0) {g : Gh} {w : World} {h : AH} (I : Inv X g w h) : Inv X' g w h where
  below := by rw [hw]; exact I.below
  next := I.next
  objs o ho hm hne := by
    obtain ⟨cs, t, a, b, c, d⟩ := I.objs o ho hm hne
    exact ⟨cs, t, a, b, c, fun i i1 i2 => (d i i1 i2).z ht⟩
  maps o ho hm := by
    obtain ⟨es, a, b, c, d⟩ := I.maps o ho hm
    exact ⟨es, a, b, c, fun i i1 i2 => (d i i1 i2).z ht⟩
  objL := I.objL
  objB := by rw [hw]; exact I.objB
  objI := I.objI
  tipB := by rw [hw]; exact I.tipB
  tipI := I.tipI
  tipO := I.tipO
  pubB := I.pubB
/-- An object's cell in the world. -/
theorem Inv.cell {X : Cx} {g : Gh} {w : World} {h : AH} (I : Inv X g w h) {o : Nat} (hn : o < h.nobj) (hm : g.mp o = false) {i : Nat} {v : V} (hv : (h.objs o)[i]? = some v) :
    ∃ x, w.cell? ⟨g.obj o, i, none⟩ = some x ∧ Rel X g w h v x ∧ w.frozen? ⟨g.obj o, i, none⟩ = false := by
  obtain ⟨hi, rfl⟩ := List.getElem?_eq_some_iff.1 hv
  obtain ⟨cs, t, c1, c2, c3, c4⟩ := I.objs o hn hm (fun e => by rw [e] at hi; simp at hi)
  have hci : i < cs.size := by omega
  refine ⟨cs[i], ?_, c4 i hi hci, ?_⟩
  · simp [World.cell?, c1, hci]
  · simp [World.frozen?, c1]
/-- The value with which a reader gives up. -/
def wrongV (n : Int) : Value := .iface 83 (.int .i64 n)
theorem fail_ok {X : Cx} (H : Has (Ecx X) K.rules_reader_fail A.rules_reader_fail) (toks : List Tok) (en a o : Nat) (rest : List V) (h : AH) (Q : V → AH → Prop) (ob : h.objs o = .sl 3 0 (toks.map tokV) :: .int .i64 (a : Nat) :: .int .i64 (en : Nat) :: rest)
    (hs : toks.length < 2 ^ 30) (ha : a < 2 ^ 30) (hZ : X.Z (wrongV (plcP toks en a : Nat)) h) : Ecx X K.rules_reader_fail [.ptr o 0] h Q := by
  refine fn_any H (by simp [A.rules_reader_fail]) fun wf => ?_
  by_cases hlt : a < toks.length
  · have hlt' : (a : Int) < toks.length := by omega
    have hg : (toks.map tokV).getD a .undef = .agg (tokC toks[a]) := toks_getD hlt
    have hp : plcP toks en a = toks[a].at' := by simp [plcP, hlt]
    rw [hp] at hZ
    simp [A.rules_reader_fail, ob, hlt', hg, tokC, V.cells]
    exact dcallE .undef h (ecx_pan hZ) ⟨by simp, by simp⟩
  · have hlt' : ¬ (a : Int) < toks.length := by omega
    have hp : plcP toks en a = en := by simp [plcP, hlt]
    rw [hp] at hZ
    simp [A.rules_reader_fail, ob, hlt']
    exact ecall (ecx_pan hZ)
theorem assert_wrong (n : Int) (w : World) : (Instr.typeAssert (.iface 83 (.int .i64 n)) 20 83 true).run Try.prog w = .ok (.tuple #[.int .i64 n, .bool true]) w := by
  simp [Instr.typeAssert, run_underlying Try.underlying83]
theorem assert_nil (w : World) : (Instr.typeAssert .nilIface 20 83 true).run Try.prog w = .ok (.tuple #[.int .i64 0, .bool false]) w := by
  have hz : (zeroValue 83).run Try.prog w = .ok (.int .i64 0) w := by
    have h0 : (Try.prog.info? 83).bind (fun i => i.zero) = some (Value.int .i64 0) := by kernel_rfl
    obtain ⟨i, h1, h2⟩ := Option.bind_eq_some_iff.1 h0
    exact run_zero h1 h2 w
  simp [Instr.typeAssert, run_underlying Try.underlying83, hz]
set_option maxRecDepth 10000 in
theorem catch_panicking (p : Addr) (n x : Int) (older : List PanicEntry) (w : World) (hc : w.cell? p = some (.int .i64 x)) (hz : w.frozen? p = false) :
    CallsD Try.prog 34 #[.pointer (some p)] (.panicking ({ v := wrongV n, recovered := false } :: older)) w fun e u' w' =>
      e = .returned (.tuple #[]) ∧ u' = .panicking ({ v := wrongV n, recovered := true } :: older) ∧ w' = w.setCell p (.int .i64 n) := by
  unfold wrongV
  have ha := assert_wrong n
  refine callsD_of_wpS Try.func34 rfl fun c₀ cs hu => ?_
  apply wpS_seq
  apply wpS_region
  simp [wpOpsS, go_sem, recoverD, hu, Try.ntmps34, Exit.thenS, ha]
  apply wpS_seq
  apply wpS_region
  simp [wpOpsS, go_sem, Exit.thenS]
  refine wpS_cond (t := true) (by simp [Act.eval, Array.replicate]) ?_
  simp only [if_true]
  apply wpS_region
  simp [wpOpsS, go_sem, hc, hz, bodyPostS, results, Try.results34]
set_option maxRecDepth 10000 in
theorem catch_idle (p : Addr) (w : World) :
    CallsD Try.prog 34 #[.pointer (some p)] .returning w fun e u' w' => e = .returned (.tuple #[]) ∧ u' = .returning ∧ w' = w := by
  have ha := assert_nil
  refine callsD_of_wpS Try.func34 rfl fun c₀ cs hu => ?_
  apply wpS_seq
  apply wpS_region
  simp [wpOpsS, go_sem, recoverD, hu, Try.ntmps34, Exit.thenS, ha]
  apply wpS_seq
  apply wpS_region
  simp [wpOpsS, go_sem, Exit.thenS]
  refine wpS_cond (t := false) (by simp [Act.eval, Array.replicate]) ?_
  simp only [Bool.false_eq_true, if_false]
  refine wpS_of_wp (wp_skip ?_)
  cases c₀
  simp_all [bodyPostS, results, Try.results34]
theorem Inv.toZ {W : World} {Z Z' : Value → AH → Prop} {g : Gh} {w : World} {h : AH} (I : Inv (cxZ W Z) g w h) : Inv (cxZ W Z') g w h := Inv.z (X := cxZ W Z) (X' := cxZ W Z') rfl rfl I
theorem Rel.toZ {W : World} {Z Z' : Value → AH → Prop} {g : Gh} {w : World} {h : AH} {v : V} {x : Value} (r : Rel (cxZ W Z) g w h v x) : Rel (cxZ W Z') g w h v x := Rel.z (X := cxZ W Z) (X' := cxZ W Z') rfl r
theorem parse_ok (W : World) (LR : ∀ Z, LRd (cxZ W Z) wrongV) {toks : List Tok} {en : Nat} {h : AH} {o : Nat} {σ : S4} {Q : V → AH → Prop} (r : RdP toks en h o ⟨0, [], [], [], []⟩ σ) (hs : toks.length < 2 ^ 30) (hk : ∀ t ∈ toks, t.kind = 1 ∨ t.kind = 2 ∨ t.kind = 3)
    (hT : ∀ s, textP toks en = .ok (s, ()) → ∀ h1 σ1, RE h h1 o σ σ1 → RdP toks en h1 o s σ1 → Q (.int .i64 (-1)) h1) (hF : ∀ p, textP toks en = .error p → ∀ h1 σ1, RE h h1 o σ σ1 → Q (.int .i64 (p : Nat)) h1) :
    Ecx (cxOf W) K.rules_reader_parse [.ptr o 0] h Q := by
  intro g w cargs I rl
  have hsz : cargs.size = 1 := by have := rl.1; simpa using this.symm
  have r0 := rl.2 0 (by simp) (by omega)
  simp only [List.getElem_cons_zero] at r0
  have hc : ∃ a, cargs = #[a] ∧ Rel (cxOf W) g w h (.ptr o 0) a := ⟨cargs[0], by
    refine Array.ext (by simp [hsz]) fun i h1 h2 => ?_
    have : i = 0 := by omega
    subst this; rfl, r0⟩
  obtain ⟨a0, rfl, r0⟩ := hc
  cases r0 with
  | ptr _ _ hn hm =>
  -- the result's cell
  obtain ⟨g1, I1, S1, b1, b2⟩ := new_obj I [.int .i64 0] #[.int .i64 0] 3 (by simp) (by simp [Value.oneCell']) (fun i i1 i2 => by
    have : i = 0 := by simpa using i1
    subst this; exact .int _ _)
  have g1o : g1.obj o = g.obj o := S1.obj o hn
  have g1m : g1.mp o = false := (S1.mp o hn).trans hm
  have n1 : ¬ h.nobj = o := by omega
  obtain ⟨N, hN, rd⟩ := id r
  have r1 : RdP toks en (h.new [.int .i64 0]) o ⟨0, [], [], [], []⟩ σ := ⟨N, hN, rd.new _⟩
  have g0 := (RE.refl h o σ).new [.int .i64 0]
  refine .inl ⟨_, by decide, by exact Try.func16, by kernel_rfl, by kernel_rfl, ?_⟩
  show Calls Try.prog 16 _ _ _
  have hmf : ∀ (fn : Fn) (first cap : Array Value) (w : World), (Instr.makeFunc fn first cap).run Try.prog w = .ok (.func fn first cap) w := fun _ _ _ _ => rfl
  go_enter_defers Try.func16, Try.ntmps16
  refine wp_seq (wp_region_list ?_)
  refine wpList_step fun K1 hK1 => ?_
  simp [Region.wanted, Oper.wp, go_sem]
  refine hK1 _ _ (wpList_nil ?_)
  refine wp_seq (wp_region_list ?_)
  refine wpList_step fun K2 hK2 => ?_
  simp [Region.wanted, Oper.wp, go_sem, hmf]
  refine hK2 _ _ ?_
  refine wpList_step fun K3 hK3 => ?_
  simp [Region.wanted, Oper.wp, go_sem]
  refine hK3 _ _ (wpList_nil ?_)
  refine wp_seq (wp_region_list ?_)
  refine wpList_step fun K4 hK4 => ?_
  simp [Region.wanted, Oper.wp, go_sem]
  refine hK4 _ _ ?_
  refine wpList_step fun K5 hK5 => ?_
  rw [if_pos (by simp [Region.wanted])]
  unfold Oper.wp
  have hrun : ∀ (a : Act) (w : World) (o : Oper), o.op = .call { callee := .value (.func 35), args := #[.tmp 4], argTypes := #[55] } → (execOp a.eval o : Sem Next).run Try.prog w = (callFunc 35 #[a.eval (.tmp 4)]).run Try.prog w := fun a w o ho => by
    obtain ⟨dst, op, type, pos, after, guard⟩ := o
    simp only at ho; subst ho
    simp [execOp, resolve, Deferred.ofValue, invoke, Act.eval]
  rw [hrun _ _ _ rfl]
  have rp1 : Rel (cxOf W) g1 (w.alloc (.cells #[.int .i64 0] 3)) (h.new [.int .i64 0]) (.ptr o 0) (.pointer (some ⟨g.obj o, 0, none⟩)) := by
    rw [← g1o]; exact .ptr o 0 (by simp; omega) g1m
  have c5 := rdText (X := cxZ W fun v h2 => ∃ p σ1, v = wrongV (p : Nat) ∧ textP toks en = .error p ∧ RE h h2 o σ σ1 ∧ RE (h.new [.int .i64 0]) h2 o σ σ1) (wr := wrongV) (LR _) hs hk r1
    (Q := fun v h2 => ∃ s σ1, textP toks en = .ok (s, ()) ∧ RE h h2 o σ σ1 ∧ RE (h.new [.int .i64 0]) h2 o σ σ1 ∧ RdP toks en h2 o s σ1) (by
      cases ht : textP toks en with
      | error p => exact fun h1 σ1 g => ⟨p, σ1, rfl, rfl, g0.trans g, g⟩
      | ok x => obtain ⟨s, u⟩ := x; exact fun h1 σ1 g rd => ⟨s, σ1, rfl, g0.trans g, g, rd⟩)
  have c6 := c5 g1 (w.alloc (.cells #[.int .i64 0] 3)) #[.pointer (some ⟨g.obj o, 0, none⟩)] I1.toZ ⟨rfl, fun i i1 i2 => by
    have : i = 0 := by simpa using i1
    subst this; exact rp1.toZ⟩
  have hnew : h.nobj < (h.new [V.int .i64 0]).nobj := by simp
  have hcell : ∀ (h2 : AH) (g2 : Gh) (w2 : World) (σ1 : S4), h2.objs h.nobj = [.int .i64 0] → (h.new [V.int .i64 0]).nobj ≤ h2.nobj → g2.obj h.nobj = w.heap.size → g2.mp h.nobj = false → Inv (cxOf W) g2 w2 h2 → ∀ n : Int,
      w2.cell? ⟨w.heap.size, 0, none⟩ = some (.int .i64 0) ∧ w2.frozen? ⟨w.heap.size, 0, none⟩ = false ∧ Inv (cxOf W) g2 (w2.setCell ⟨w.heap.size, 0, none⟩ (.int .i64 n)) (h2.set h.nobj [.int .i64 n]) ∧
      Stp g2 w2 h2 g2 (w2.setCell ⟨w.heap.size, 0, none⟩ (.int .i64 n)) (h2.set h.nobj [.int .i64 n]) := fun h2 g2 w2 σ1 ho hb hg hm2 I2 n => by
    obtain ⟨x, k1, k2, k3⟩ := I2.cell (o := h.nobj) (by simp at hb; omega) hm2 (i := 0) (v := .int .i64 0) (by rw [ho]; rfl)
    rw [hg] at k1 k3
    cases k2
    obtain ⟨w3, e3, I3, S3⟩ := store_obj I2 h.nobj 0 (by simp at hb; omega) hm2 (by rw [ho]; simp) [.int .i64 n] [.int .i64 n] rfl (by rw [ho]; simp) (fun i hi => by
      have : i = 0 := by simpa using hi
      subst this; rfl) (fun i i1 i2 => by
      have : i = 0 := by simpa using i1
      subst this; exact .int _ _)
    rw [hg] at e3
    have : w3 = w2.setCell ⟨w.heap.size, 0, none⟩ (.int .i64 n) := by
      simp [storeCells, go_sem, k1, k3] at e3
      exact e3.symm
    subst this
    rw [ho] at I3 S3
    exact ⟨k1, k3, I3, S3⟩
  refine call_upon (k := K.rules_reader_text) (by decide) c6 (fun x w2 z => ?_) (fun p w2 z => ?_)
  · obtain ⟨v, h2, g2, ⟨s, σ1, ht, q1, q2, q3⟩, I2, _, S2⟩ := z
    have I2' : Inv (cxOf W) g2 w2 h2 := I2.toZ
    obtain ⟨k1, k2, I3, S3⟩ := hcell h2 g2 w2 σ1 (by rw [q2.objs _ hnew n1]; simp) q2.nobj ((S2.obj _ hnew).trans b1) ((S2.mp _ hnew).trans b2) I2' (-1)
    refine hK5 _ _ (wpList_nil ?_)
    refine wp_seq (wp_region_list ?_)
    refine wpList_step fun K6 hK6 => ?_
    simp [Region.wanted, Oper.wp, go_sem, k1, k2]
    refine hK6 _ _ (wpList_nil ?_)
    refine wp_ret ?_
    have hr := hT s ht _ σ1 (q1.set (.inr (Nat.le_refl _)) [.int .i64 (-1)]) (by
      obtain ⟨N3, hN3, rd3⟩ := q3
      exact ⟨N3, hN3, rd3.other n1 _⟩)
    refine leaves_cons (f := 34) (args := #[.pointer (some ⟨w.heap.size, 0, none⟩)]) (by simp) (by simp [go_sem]) ?_
    refine (catch_idle ⟨w.heap.size, 0, none⟩ _).mono ?_
    rintro e u' w'' ⟨rfl, rfl, rfl⟩
    have hc3 : (w2.setCell ⟨w.heap.size, 0, none⟩ (.int .i64 (-1))).cell? ⟨w.heap.size, 0, none⟩ = some (.int .i64 (-1)) := by simp [go_sem, k1]
    simp [Leaves, settle, results, Try.results16, go_sem, hc3]
    exact ⟨_, _, hr, g2, I3, .int _ _, (S1.trans S2).trans S3⟩
  · obtain ⟨h2, g2, ⟨p, σ1, rfl, ht, q1, q2⟩, I2, S2⟩ := z
    have I2' : Inv (cxOf W) g2 w2 h2 := I2.toZ
    obtain ⟨k1, k2, I3, S3⟩ := hcell h2 g2 w2 σ1 (by rw [q2.objs _ hnew n1]; simp) q2.nobj ((S2.obj _ hnew).trans b1) ((S2.mp _ hnew).trans b2) I2' p
    have hr := hF p ht _ σ1 (q1.set (.inr (Nat.le_refl _)) [.int .i64 (p : Nat)])
    refine leaves_cons (f := 34) (args := #[.pointer (some ⟨w.heap.size, 0, none⟩)]) (by simp) (by simp [go_sem]) ?_
    refine (catch_panicking ⟨w.heap.size, 0, none⟩ p 0 [] _ k1 k2).mono ?_
    rintro e u' w'' ⟨rfl, rfl, rfl⟩
    have hc3 : (w2.setCell ⟨w.heap.size, 0, none⟩ (.int .i64 (p : Nat))).cell? ⟨w.heap.size, 0, none⟩ = some (.int .i64 (p : Nat)) := by simp [go_sem, k1]
    simp [Leaves, settle, results, Try.results16, go_sem, hc3]
    exact ⟨_, _, hr, g2, I3, .int _ _, (S1.trans S2).trans S3⟩
end Go.Proofs.Ytecgbggobecpjaa.Al
namespace Go.Proofs.Ytecgbggobecpjaa.Al
open Go Go.RowKit
set_option linter.unusedSimpArgs false
set_option linter.unusedVariables false
attribute [-simp] List.getD_eq_getElem?_getD Int.not_lt Int.not_le List.map_take
/-- What becomes of a word from a place on. -/
def appF (w : List Int) : List Ed → Nat → List Int
  | [], i => w.drop i
  | x :: l, i => (w.take x.at'.toNat).drop i ++ (if x.drop = true then appF w l (x.at'.toNat + 1) else x.tok :: appF w l x.at'.toNat)
end Go.Proofs.Ytecgbggobecpjaa.Al
namespace Go.Proofs.Ytecgbggobecpjaa.Al
open Go Go.RowKit
set_option linter.unusedSimpArgs false
set_option linter.unusedVariables false
attribute [-simp] List.getD_eq_getElem?_getD Int.not_lt Int.not_le List.map_take
/-- Objects of Apply: how many tokens were put (m), and the first 24 of them (o). -/
structure PO (h0 h : AH) (m o : Nat) (L : List Int) : Prop where
  own : ∃ e st, Own h0 h 1 e st (ints (L.take 24)) ∧ h.objs o = [.sl e st (ints (L.take 24))]
  many : h.objs m = [.int .i64 L.length]
  hm : h0.nobj ≤ m
  ho : h0.nobj ≤ o
  ne : ¬ m = o
  lm : m < h.nobj
  lo : o < h.nobj
theorem PO.new {h0 h : AH} {m o : Nat} {L : List Int} (p : PO h0 h m o L) (z : List V) : PO h0 (h.new z) m o L := by
  obtain ⟨e, st, ow, ob⟩ := p.own
  have := p.lm
  have := p.lo
  exact ⟨⟨e, st, ⟨ow.gr.new z, ow.el, ow.st⟩, by rw [new_objs_ne _ _ (by omega)]; exact ob⟩, by rw [new_objs_ne _ _ (by omega)]; exact p.many, p.hm, p.ho, p.ne, by simp; omega, by simp; omega⟩
theorem PO.set {h0 h : AH} {m o : Nat} {L : List Int} (p : PO h0 h m o L) {q : Nat} (hq : h0.nobj ≤ q) (h1 : ¬ m = q) (h2 : ¬ o = q) (z : List V) : PO h0 (h.set q z) m o L := by
  obtain ⟨e, st, ow, ob⟩ := p.own
  exact ⟨⟨e, st, ⟨ow.gr.set hq z, ow.el, ow.st⟩, by rw [set_objs_ne _ _ _ h2]; exact ob⟩, by rw [set_objs_ne _ _ _ h1]; exact p.many, p.hm, p.ho, p.ne, p.lm, p.lo⟩
theorem PO.gr {h0 h : AH} {m o : Nat} {L : List Int} (p : PO h0 h m o L) : Gr h0 h := by obtain ⟨e, st, ow, _⟩ := p.own; exact ow.gr
end Go.Proofs.Ytecgbggobecpjaa.Al
namespace Go.Proofs.Ytecgbggobecpjaa.Al
open Go Go.RowKit
set_option linter.unusedSimpArgs false
set_option linter.unusedVariables false
attribute [-simp] List.getD_eq_getElem?_getD Int.not_lt Int.not_le List.map_take
/-- A symbol, a production, a grammar. -/
structure Sy where
  non : Bool
  n : Int
  deriving DecidableEq
structure Pr where
  left : Int
  right : List Sy
  deriving DecidableEq
structure Gm where
  terms : Int
  nons : Int
  start : Int
  prods : List Pr
  deriving DecidableEq
def symC (s : Sy) : List V := [.bool s.non, .int .i64 s.n]
def symV (s : Sy) : V := .agg (symC s)
def prC (p : Pr) : List V := [.int .i64 p.left, .sl 2 0 (p.right.map symV)]
def prV (p : Pr) : V := .agg (prC p)
section
variable {X : Cx} {h : AH} {Q : V → AH → Prop}
/-! ### A nonterminal's productions -/
/-! ### A copy -/
end
end Go.Proofs.Ytecgbggobecpjaa.Al
namespace Go.Proofs.Ytecgbggobecpjaa.Al
open Go Go.RowKit
set_option linter.unusedSimpArgs false
set_option linter.unusedVariables false
attribute [-simp] List.getD_eq_getElem?_getD Int.not_lt Int.not_le List.map_take
section
variable {X : Cx} {h : AH} {Q : V → AH → Prop}
/-- Numbers that lie in an object, against numbers. -/
theorem eqO_spec (H : Has (Ecx X) K.slices_Equal_int A.slices_Equal_int) (a b : List Int) {o off c t n : Nat} {l : List V} (hn : a.length = n) (ho : h.objs o = l) (hoff : off + n ≤ l.length) (hl : (l.drop off).take n = ints a) (ha : n < 2 ^ 62)
    (hQ : Q (.bool (decide (a = b))) h) : Ecx X K.slices_Equal_int [.osl 1 o off n c, .sl 1 t (ints b)] h Q := by
  subst hn
  refine fn_walk H (by simp [A.slices_Equal_int]) fun wf => ?_
  by_cases hl' : (a.length : Int) = b.length
  · simp [A.slices_Equal_int, hl']
    refine loopI (n := a.length) (fun m env h' => ∃ k, k ≤ a.length ∧ m = a.length - k ∧ h' = h ∧ env = [(0, .osl 1 o off a.length c), (1, .sl 1 t (ints b)), (12, .int .i64 b.length), (13, .int .i64 k)] ∧ a.take k = b.take k) ?_ ⟨0, by omega, by omega, rfl, by rfl, rfl⟩
    rintro m env h' ⟨k, hk, rfl, rfl, rfl, he⟩
    unfold A.slices_Equal_int.L0
    by_cases hlt : k < a.length
    · have hlt' : (k : Int) < b.length := by omega
      have hlb : k < b.length := by omega
      have hga : l.getD (off + k) .undef = (V.int .i64) a[k] := by
        have : ((l.drop off).take a.length)[k]? = (ints a)[k]? := by rw [hl]
        rw [List.getElem?_take, if_pos hlt, List.getElem?_drop] at this
        simp only [List.getD_eq_getElem?_getD, this]
        simp [ints, hlt]
      have hgb := ints_get hlb
      have hr : off + k < l.length := by omega
      have hw1 : IntKind.i64.wrap ((k : Int) + 1) = ((k + 1 : Nat) : Int) := by rw [wrap_i64 (by omega) (by omega)]; rfl
      by_cases e : a[k] = b[k]
      · simp [hl', hlt', hlt, hga, hgb, V.cells, V.good, e, hw1, ho, hr]
        exact ⟨a.length - (k + 1), by omega, iv ⟨k + 1, by omega, rfl, rfl, rfl, take_ext2 hlt hlb he e⟩⟩
      · have hf : decide (a = b) = false := by
          simp only [decide_eq_false_iff_not]; rintro rfl; exact e rfl
        rw [hf] at hQ
        simp [hl', hlt', hlt, hga, hgb, V.cells, e, ho, hr]; exact fin (by simp) hQ
    · have hlt' : ¬ (k : Int) < b.length := by omega
      simp [hl', hlt']
      refine fin (by simp) ?_
      have hk : k = a.length := by omega
      rw [hk, List.take_length, show a.length = b.length by omega, List.take_length] at he
      simpa [he] using hQ
  · simp [A.slices_Equal_int, hl']
    refine fin (by simp) ?_
    have : decide (a = b) = false := by simp; intro h; exact hl' (by rw [h])
    rw [this] at hQ; exact hQ
theorem ruRight1_spec (L : LRu X) (r : Rl) {o : Nat} {n : Rl} (ho : h.objs o = rlC n) (hob : o < h.nobj) (hQ : Q (.bool (decide (r.name = n.name))) h) : Ecx X K.rules_Right_1 [rlV r, .ptr o 0] h Q := by
  refine fn_walk L.right1 (by simp [A.rules_Right_1]) fun wf => ?_
  have gr := (Gr.refl h).new (rlC r)
  have n1 : ¬ o = h.nobj := by omega
  have hnc : rlC n = [.str n.name, .int .i64 n.body] := rfl
  have hrc : rlC r = [.str r.name, .int .i64 r.body] := rfl
  simp [A.rules_Right_1, rlV, V.cells, V.good, n1, ho, hnc, hrc]
  exact fin_wk (by rw [← hrc]; exact gr) (.same _) (by simp) hQ
end
/-- One node: its kids are the last that are nobody's so far. -/
def stpS (t : Te) (a : Nat) (st : List Int) : Option (List Int) := match t.nodes[a]? with
  | some n => if fineP t n = true ∧ n.kids.length ≤ st.length ∧ st.drop (st.length - n.kids.length) = n.kids then some (st.take (st.length - n.kids.length) ++ [(a : Int)]) else none
  | none => none
def runS (t : Te) : Nat → Nat → List Int → Option (List Int)
  | 0, _, st => some st
  | k + 1, a, st => match stpS t a st with
    | some st' => runS t k (a + 1) st'
    | none => none
def rightS (t : Te) : List Rl → List Str → Nat → Option Nat
  | [], _, a => some a
  | r :: rs, seen, a => if tokenT r.name 1 = true ∧ r.name ∉ seen ∧ (a : Int) ≤ r.body ∧ r.body < t.nodes.length then (match runS t (r.body.toNat + 1 - a) a [] with
      | some [_] => rightS t rs (seen ++ [r.name]) (r.body.toNat + 1)
      | _ => none) else none
/-- As the program asks. -/
def rightP (t : Te) : Bool := decide (0 < t.rules.length) && decide (t.rules.length ≤ 24) && decide (t.nodes.length ≤ 200) && decide (rightS t t.rules [] 0 = some t.nodes.length)
/-- The open nodes, as they lie. -/
def StkV (lo : Nat) (h' : AH) (v : V) (st : List Int) : Prop := (st = [] ∧ v = .sl 0 1 []) ∨
  ∃ o cap, v = .osl 1 o 0 st.length cap ∧ cap ≠ 0 ∧ st.length ≤ cap ∧ lo < o ∧ o < h'.nobj ∧ cap ≤ (h'.objs o).length ∧ (h'.objs o).take st.length = ints st
section
variable {X : Cx} {h : AH} {Q : V → AH → Prop}
theorem appG_nil {K : V → AH → Prop} {zK : Lz K} {e sz e1 st st' : Nat} {m : List V} (hm : m ≠ []) (hst : st = 1 ∨ st = 2) (hb : m.length * sz ≤ 2 ^ 46)
    (hk : ∀ c, m.length ≤ c → K (.osl e h.nobj 0 m.length c) (h.new (cellsOf m ++ List.replicate ((c - m.length) * e) .undef))) : AppG h e sz (.sl e1 st []) (.sl e st' m) zK :=
  ⟨fun e => hm (List.eq_nil_of_length_eq_zero e), rfl, hst, rfl, hb, hk⟩
theorem appG_osl {K : V → AH → Prop} {zK : Lz K} {e sz o off len cap st' : Nat} {m : List V} (hm : m ≠ []) (hc : cap ≠ 0) (hf : off + cap * e ≤ (h.objs o).length) (hb : (len + m.length) * sz ≤ 2 ^ 46)
    (h1 : len + m.length ≤ cap → K (.osl e o off (len + m.length) cap) (h.set o (setAt (h.objs o) (off + len * e) (cellsOf m))))
    (h2 : cap < len + m.length → ∀ c, len + m.length ≤ c → K (.osl e h.nobj 0 (len + m.length) c) (h.new (((h.objs o).drop off).take (len * e) ++ cellsOf m ++ List.replicate ((c - (len + m.length)) * e) .undef))) : AppG h e sz (.osl e o off len cap) (.sl e st' m) zK :=
  ⟨fun e => hm (List.eq_nil_of_length_eq_zero e), rfl, rfl, hc, hf, hb, h1, h2⟩
theorem eqNil_spec (H : Has (Ecx X) K.slices_Equal_int A.slices_Equal_int) (b : List Int) {e s t : Nat} (hQ : Q (.bool (decide (b = []))) h) : Ecx X K.slices_Equal_int [.sl e s [], .sl 1 t (ints b)] h Q := by
  refine fn_walk H (by simp [A.slices_Equal_int]) fun wf => ?_
  have hb : (ints b).length = b.length := by simp [ints]
  by_cases c : b = []
  · subst c
    simp [A.slices_Equal_int, ints]
    refine loopI (n := 0) (fun m env h' => h' = h ∧ env = [(0, .sl e s []), (1, .sl 1 t []), (12, .int .i64 0), (13, .int .i64 0)]) ?_ ⟨rfl, rfl⟩
    rintro m env h' ⟨rfl, rfl⟩
    unfold A.slices_Equal_int.L0
    simp
    exact fin (by simp) (by simpa using hQ)
  · have c' : ¬ (0 : Int) = b.length := by have := List.length_pos_iff.2 c; omega
    have c2 : ¬ 0 = b.length := by have := List.length_pos_iff.2 c; omega
    simp [A.slices_Equal_int, hb, c', c2, c]
    exact fin (by simp) (by simpa [c] using hQ)
theorem take_set {l : List V} {st : List Int} {n r cap : Nat} {v : V} (hn : n = st.length) (ht : l.take n = ints st) (hr : r ≤ n) (hc : r < l.length) : (l.set r v).take (r + 1) = ints (st.take r) ++ [v] := by
  subst hn
  rw [List.take_succ_eq_append_getElem (by simpa using hc), List.getElem_set_self]
  congr 1
  rw [List.take_set_of_le (Nat.le_refl _)]
  have : (l.take st.length).take r = (ints st).take r := by rw [ht]
  rw [List.take_take, Nat.min_eq_left hr] at this
  rw [this]; simp [ints, List.map_take]
theorem StkV.to {lo : Nat} {h h' : AH} {v : V} {st : List Int} (s : StkV lo h v st) (hn : h.nobj ≤ h'.nobj) (ho : ∀ o, lo < o → o < h.nobj → h'.objs o = h.objs o) : StkV lo h' v st := by
  rcases s with s | ⟨o, cap, e1, e2, e3, e4, e5, e6, e7⟩
  · exact .inl s
  · exact .inr ⟨o, cap, e1, e2, e3, e4, by omega, by rw [ho o e4 e5]; exact e6, by rw [ho o e4 e5]; exact e7⟩
theorem rightL1 (L : LRu X) (t : Te) {h' h2 : AH} {r : Rl} {a B k : Nat} {Q : Ex → Env → AH → Prop} {zQ : Lz Q} {z : Lz (AC.loop A.rules_Right_o.L1)} (hr : t.rules.length < 2 ^ 30) (hn : t.nodes.length < 2 ^ 30) (hnn : ∀ n ∈ t.nodes, n.name.length ≤ 2 ^ 30) (hks : ∀ n ∈ t.nodes, n.kids.length ≤ 2 ^ 30)
    (q4 : Gr h h2) (q1 : h2.objs h.nobj = teC t) (q0 : h2.objs h'.nobj = rlC r) (nb : h.nobj < h'.nobj) (q5 : h'.nobj < h2.nobj) (hbod : (B : Int) = r.body) (hBl : B < t.nodes.length) (haB : a ≤ B)
    (hret : ∀ e h3, Gr h h3 → runS t (B + 1 - a) a [] = none → Q .ret ((2, .bool false) :: e) h3)
    (hex : ∀ h3 v st, Gr h h3 → h3.objs h.nobj = teC t → h.nobj < h3.nobj → StkV h'.nobj h3 v st → runS t (B + 1 - a) a [] = some st → Q (.exit 2) [(1, .ptr h.nobj 0), (3, .int .i64 ((B + 1 : Nat) : Int)), (5, .ptr h'.nobj 0), (6, v), (26, .sl 2 0 (t.rules.map rlV)), (27, .int .i64 t.rules.length), (28, .int .i64 k), (62, .bool false)] h3) :
    acZ (Ecx X) [(1, .ptr h.nobj 0), (3, .int .i64 (a : Int)), (5, .ptr h'.nobj 0), (6, .sl 0 1 []), (26, .sl 2 0 (t.rules.map rlV)), (27, .int .i64 t.rules.length), (28, .int .i64 k)] h2 z zQ := by
  have htc : teC t = [.sl 2 0 (t.rules.map rlV), .sl 3 0 (t.nodes.map ndV)] := rfl
  have hrc : rlC r = [.str r.name, .int .i64 r.body] := rfl
  refine loopI (n := B + 1 - a) (fun m env h3 => ∃ j st v, j ≤ B + 1 - a ∧ m = B + 1 - a - j ∧ Gr h h3 ∧ h3.objs h.nobj = teC t ∧ h3.objs h'.nobj = rlC r ∧ h'.nobj < h3.nobj ∧ env = [(1, .ptr h.nobj 0), (3, .int .i64 ((a + j : Nat) : Int)), (5, .ptr h'.nobj 0), (6, v), (26, .sl 2 0 (t.rules.map rlV)), (27, .int .i64 t.rules.length), (28, .int .i64 k)] ∧
    StkV h'.nobj h3 v st ∧ st.length ≤ j ∧ runS t (B + 1 - a - j) (a + j) st = runS t (B + 1 - a) a []) ?_ ⟨0, [], _, by omega, by omega, q4, q1, q0, q5, rfl, .inl ⟨rfl, rfl⟩, by simp, rfl⟩
  rintro m env h3 ⟨j, st, v, hj, rfl, gr3, ob3, or3, nb3, rfl, stk, hsl, hrun⟩
  unfold A.rules_Right_o.L1
  have n2 : ¬ h.nobj = h3.nobj := by omega
  have n3 : ¬ h'.nobj = h3.nobj := by omega
  by_cases hjl : j < B + 1 - a
  · have hle : ((a + j : Nat) : Int) ≤ r.body := by omega
    have hil : a + j < t.nodes.length := by omega
    have hil' : ((a + j : Nat) : Int) < t.nodes.length := by omega
    have hgn : (t.nodes.map ndV).getD (a + j) .undef = ndV t.nodes[a + j] := Enc.getD hil
    have hw2 : IntKind.i64.wrap (((a + j : Nat) : Int) + 1) = ((a + (j + 1) : Nat) : Int) := by rw [wrap_i64 (by omega) (by omega)]; rfl
    have hnk := hks _ (List.getElem_mem hil)
    have hnl := hnn _ (List.getElem_mem hil)
    have hst : stpS t (a + j) st = if fineP t t.nodes[a + j] = true ∧ t.nodes[a + j].kids.length ≤ st.length ∧ st.drop (st.length - t.nodes[a + j].kids.length) = t.nodes[a + j].kids then some (st.take (st.length - t.nodes[a + j].kids.length) ++ [((a + j : Nat) : Int)]) else none := by
      unfold stpS; rw [List.getElem?_eq_getElem hil]
    have hru := hrun
    rw [show B + 1 - a - j = (B + 1 - a - (j + 1)) + 1 by omega, runS, hst] at hru
    clear hst
    generalize t.nodes[a + j] = nd at *
    generalize haj : a + j = p at *
    have hnc : ndC nd = [.int .i64 nd.kind, .str nd.name, .sl 1 0 (ints nd.kids)] := rfl
    have u0 : (h3.new (ndC nd)).objs h3.nobj = ndC nd := by simp
    have u1 : (h3.new (ndC nd)).objs h.nobj = teC t := by simp [n2, ob3]
    have u2 : (h3.new (ndC nd)).objs h'.nobj = rlC r := by simp [n3, or3]
    have u3 : (h3.new (ndC nd)).nobj = h3.nobj + 1 := by simp
    have u4 := gr3.new (ndC nd)
    have u5 : ∀ o, o < h3.nobj → (h3.new (ndC nd)).objs o = h3.objs o := fun o ho => by rw [new_objs_ne _ _ (by omega)]
    have stk4 : StkV h'.nobj (h3.new (ndC nd)) v st := stk.to (by omega) fun o h1 h2 => u5 o h2
    simp [or3, hrc, hle, ob3, htc, hil', hgn, ndV, V.cells, V.good, hnc, setAt]
    rw [← hnc]
    generalize h3.new (ndC nd) = h4 at *
    rcases stk4 with ⟨rfl, rfl⟩ | ⟨o, cap, rfl, e2, e3, e4, e5, e6, e7⟩
    · cases hf : fineP t nd with
      | false =>
        rw [if_neg (fun e => by rw [hf] at e; exact absurd e.1 (by simp))] at hru
        simp [u0, hnc, u1, htc]
        rw [← hnc]
        refine dcall (.bool (fineP t nd)) (rufine_spec L t nd (by omega) hnl ⟨rfl, rfl⟩) ?_
        simp [hf]
        exact hret _ _ u4 hru.symm
      | true =>
      by_cases hz : nd.kids = []
      · rw [if_pos ⟨hf, by simp [hz], by simp [hz]⟩] at hru
        simp [u0, hnc, u1, htc]
        rw [← hnc]
        refine dcall (.bool (fineP t nd)) (rufine_spec L t nd (by omega) hnl ⟨rfl, rfl⟩) ?_
        have hw0 : IntKind.i64.wrap 0 = 0 := by rfl
        simp [hf, hz, u0, hnc, u1, htc, ints, hw0]
        refine dcall (.bool (decide (([] : List Int) = []))) (eqNil_spec (e := 0) (s := 1) (t := 0) L.eqI [] ⟨rfl, rfl⟩) ?_
        simp
        refine appG_nil (by simp) (.inl rfl) (by simp) fun c hc => ?_
        simp [hw2, V.cells]
        simp only [hz, List.length_nil, List.take_nil, List.nil_append] at hru
        exact ⟨B + 1 - a - (j + 1), by omega, iv ⟨j + 1, [(p : Int)], _, by omega, rfl, u4.new _, by rw [new_objs_ne _ _ (by omega)]; exact u1, by rw [new_objs_ne _ _ (by omega)]; exact u2, by simp; omega, by rw [← haj]; rfl,
          .inr ⟨h4.nobj, c, rfl, by simp at hc; omega, by simpa using hc, by omega, by simp, by simp at hc ⊢; omega, by simp [ints]⟩, by simp, by rw [show a + (j + 1) = p + 1 by omega]; exact hru⟩⟩
      · rw [if_neg (fun e => hz (List.eq_nil_of_length_eq_zero (by simpa using e.2.1)))] at hru
        have hzl : 0 < nd.kids.length := List.length_pos_iff.2 hz
        have hwr : IntKind.i64.wrap (0 - (nd.kids.length : Int)) = - (nd.kids.length : Int) := by rw [wrap_i64 (by omega) (by omega)]; omega
        simp [u0, hnc, u1, htc]
        rw [← hnc]
        refine dcall (.bool (fineP t nd)) (rufine_spec L t nd (by omega) hnl ⟨rfl, rfl⟩) ?_
        have hneg : -(nd.kids.length : Int) < 0 := by omega
        have hwr' : IntKind.i64.wrap (-(nd.kids.length : Int)) = -(nd.kids.length : Int) := wrap_i64 (by omega) (by omega)
        simp [hf, u0, hnc, u1, htc, ints, hwr', hneg, hzl, hz]
        exact hret _ _ u4 hru.symm
    · have hwr : IntKind.i64.wrap ((st.length : Int) - (nd.kids.length : Int)) = (st.length : Int) - (nd.kids.length : Int) := wrap_i64 (by omega) (by omega)
      cases hf : fineP t nd with
      | false =>
        rw [if_neg (fun e => by rw [hf] at e; exact absurd e.1 (by simp))] at hru
        simp [u0, hnc, u1, htc]
        rw [← hnc]
        refine dcall (.bool (fineP t nd)) (rufine_spec L t nd (by omega) hnl ⟨rfl, rfl⟩) ?_
        simp [hf]
        exact hret _ _ u4 hru.symm
      | true =>
      by_cases hz : nd.kids.length ≤ st.length
      · obtain ⟨r', hr'⟩ : ∃ r', r' = st.length - nd.kids.length := ⟨_, rfl⟩
        have hri : (st.length : Int) - (nd.kids.length : Int) = (r' : Int) := by omega
        rw [hri] at hwr
        have hneg : ¬ (r' : Int) < 0 := by omega
        have hrl : (r' : Int) ≤ st.length := by omega
        have hrc' : r' ≤ cap := by omega
        have hrc2 : (st.length : Int) ≤ cap := by omega
        have hrc3 : (r' : Int) ≤ cap := by omega
        rw [← hr'] at hru
        have hdrop : ((h4.objs o).drop r').take (st.length - r') = ints (st.drop r') := by
          rw [← List.drop_take, e7]; simp [ints]
        simp [u0, hnc, u1, htc, hri, hwr]
        rw [← hnc]
        refine dcall (.bool (fineP t nd)) (rufine_spec L t nd (by omega) hnl ⟨rfl, rfl⟩) ?_
        simp [hf, u0, hnc, u1, htc, hneg, hrl, hrc2, hrc3, ints, e3]
        refine dcall (.bool (decide (st.drop r' = nd.kids))) (eqO_spec L.eqI (st.drop r') nd.kids (l := h4.objs o) (by simp) rfl ?_ ?_ (by omega) ⟨rfl, rfl⟩) ?_
        · split <;> omega
        · by_cases hq : cap = r'
          · rw [if_pos hq]
            have : st.length - r' = 0 := by omega
            rw [this, show r' = st.length by omega]; simp [ints]
          · rw [if_neg hq]; exact hdrop
        by_cases hd : st.drop r' = nd.kids
        · rw [if_pos ⟨hf, hz, hd⟩] at hru
          simp only at hru
          simp [hd, hrc3]
          have hlen : (st.take r' ++ [(p : Int)]).length = r' + 1 := by simp; omega
          refine appG_osl (by simp) e2 (by omega) (by simp; omega) (fun hin => ?_) fun hout c hc => ?_
          · simp at hin
            simp [hw2, V.cells, setAt]
            have m1 : ¬ h.nobj = o := by omega
            have m2 : ¬ h'.nobj = o := by omega
            exact ⟨B + 1 - a - (j + 1), by omega, iv ⟨j + 1, _, _, by omega, rfl, u4.set (by omega) _, by rw [set_objs_ne _ _ _ m1]; exact u1, by rw [set_objs_ne _ _ _ m2]; exact u2, by rw [set_nobj]; omega, rfl,
              .inr ⟨o, cap, by rw [hlen], by omega, by omega, by omega, by rw [set_nobj]; exact e5, by rw [set_objs_same, List.length_set]; exact e6, by
                rw [set_objs_same, hlen, take_set (cap := cap) rfl e7 (by omega) (by omega)]; simp [ints]⟩, by omega, by rw [show a + (j + 1) = p + 1 by omega]; exact hru⟩⟩
          · simp at hout hc
            simp [hw2, V.cells, setAt]
            have htk : (h4.objs o).take r' = ints (st.take r') := by
              have : ((h4.objs o).take st.length).take r' = (ints st).take r' := by rw [e7]
              rw [List.take_take, Nat.min_eq_left (by omega)] at this
              rw [this]; simp [ints, List.map_take]
            have htl : (ints (st.take r')).length = r' := by simp [ints]; omega
            exact ⟨B + 1 - a - (j + 1), by omega, iv ⟨j + 1, _, _, by omega, rfl, u4.new _, by rw [new_objs_ne _ _ (by omega)]; exact u1, by rw [new_objs_ne _ _ (by omega)]; exact u2, by rw [new_nobj]; omega, rfl,
              .inr ⟨h4.nobj, c, by rw [hlen], by omega, by omega, by omega, by simp, by rw [new_objs_same, htk]; simp [htl]; omega, by
                rw [new_objs_same, htk, hlen, show ∀ R, ints (st.take r') ++ V.int .i64 (p : Int) :: R = (ints (st.take r') ++ [V.int .i64 (p : Int)]) ++ R from fun R => by simp, List.take_left' (by simp [htl])]; simp [ints]⟩, by omega, by rw [show a + (j + 1) = p + 1 by omega]; exact hru⟩⟩
        · rw [if_neg (fun e => hd e.2.2)] at hru
          simp [hd]
          exact hret _ _ u4 hru.symm
      · rw [if_neg (fun e => hz e.2.1)] at hru
        have hneg : (st.length : Int) - (nd.kids.length : Int) < 0 := by omega
        simp [u0, hnc, u1, htc, hwr]
        rw [← hnc]
        refine dcall (.bool (fineP t nd)) (rufine_spec L t nd (by omega) hnl ⟨rfl, rfl⟩) ?_
        simp [hf, hneg, show (st.length : Int) < nd.kids.length by omega, show st.length < nd.kids.length by omega]
        exact hret _ _ u4 hru.symm
  · have hle : ¬ ((a + j : Nat) : Int) ≤ r.body := by omega
    have hjj : B + 1 - a - j = 0 := by omega
    rw [hjj, runS] at hrun
    have hle2 : ¬ ((a : Int) + (j : Int) ≤ r.body) := by omega
    simp [or3, hrc, hle2]
    have := hex h3 v st gr3 ob3 (by omega) stk hrun.symm
    rw [show ((B + 1 : Nat) : Int) = (a : Int) + (j : Int) by omega] at this
    exact this
theorem ruRight_spec (L : LRu X) (HR : Has (Ecx X) K.rules_Right A.rules_Right_o) (t : Te) (hr : t.rules.length < 2 ^ 30) (hn : t.nodes.length < 2 ^ 30) (hrn : ∀ r ∈ t.rules, r.name.length ≤ 2 ^ 30) (hnn : ∀ n ∈ t.nodes, n.name.length ≤ 2 ^ 30) (hks : ∀ n ∈ t.nodes, n.kids.length ≤ 2 ^ 30)
    (hQ : Q (.bool (rightP t)) h) : Ecx X K.rules_Right [teV t] h Q := by
  refine fn_walk HR (by simp [A.rules_Right_o]) fun wf => ?_
  have htc : teC t = [.sl 2 0 (t.rules.map rlV), .sl 3 0 (t.nodes.map ndV)] := rfl
  have gr := (Gr.refl h).new (teC t)
  have hb0 : (h.new (teC t)).objs h.nobj = teC t := by simp
  have hb1 : (h.new (teC t)).nobj = h.nobj + 1 := by simp
  simp [A.rules_Right_o, teV, V.cells, V.good]
  generalize h.new (teC t) = h1 at *
  simp [hb0, htc]
  by_cases c0 : t.rules = []
  · have : rightP t = false := by simp [rightP, c0]
    rw [this] at hQ
    simp [c0]
    exact fin_wk gr (.same _) (by simp) hQ
  have c0' : 0 < t.rules.length := List.length_pos_iff.2 c0
  by_cases c1 : (24 : Int) < t.rules.length
  · have : rightP t = false := by
      have : ¬ t.rules.length ≤ 24 := by omega
      simp [rightP, this]
    rw [this] at hQ
    simp [c0, c1, hb0, htc]
    exact fin_wk gr (.same _) (by simp) hQ
  by_cases c2 : (200 : Int) < t.nodes.length
  · have : rightP t = false := by
      have : ¬ t.nodes.length ≤ 200 := by omega
      simp [rightP, this]
    rw [this] at hQ
    simp [c0, c1, c2, hb0, htc]
    exact fin_wk gr (.same _) (by simp) hQ
  have hrp : rightP t = decide (rightS t t.rules [] 0 = some t.nodes.length) := by
    unfold rightP
    rw [decide_eq_true c0', decide_eq_true (show t.rules.length ≤ 24 by omega), decide_eq_true (show t.nodes.length ≤ 200 by omega)]; simp
  rw [hrp] at hQ
  clear hrp
  simp [c0, c1, c2, hb0, htc]
  refine loopI (n := t.rules.length) (fun m env h' => ∃ k a, k ≤ t.rules.length ∧ m = t.rules.length - k ∧ a ≤ t.nodes.length ∧ Gr h h' ∧ h'.objs h.nobj = teC t ∧ h.nobj < h'.nobj ∧ env = [(1, .ptr h.nobj 0), (3, .int .i64 (a : Int)), (26, .sl 2 0 (t.rules.map rlV)), (27, .int .i64 t.rules.length), (28, .int .i64 k)] ∧
      rightS t (t.rules.drop k) ((rnames t).take k) a = rightS t t.rules [] 0) ?_ ⟨0, 0, by omega, by omega, by omega, gr, hb0, by omega, rfl, by simp⟩
  rintro m env h' ⟨k, a, hk, rfl, ha, gr', ob, nb, rfl, hS⟩
  unfold A.rules_Right_o.L0
  by_cases hlt : k < t.rules.length
  · have hlt' : (k : Int) < t.rules.length := by omega
    have hg : (t.rules.map rlV).getD k .undef = rlV t.rules[k] := Enc.getD hlt
    have hw1 : IntKind.i64.wrap ((k : Int) + 1) = ((k + 1 : Nat) : Int) := by rw [wrap_i64 (by omega) (by omega)]; rfl
    have hmem := hrn _ (List.getElem_mem hlt)
    have htk : (rnames t).take (k + 1) = (rnames t).take k ++ [t.rules[k].name] := by
      rw [List.take_succ_eq_append_getElem (by simp [rnames, hlt])]; simp [rnames]
    have hany : ((t.rules.take k).any fun r => decide (r.name = t.rules[k].name)) = decide (t.rules[k].name ∈ (rnames t).take k) := by
      apply Bool.eq_iff_iff.2
      simp [rnames, ← List.map_take]
    have hSd := hS
    rw [List.drop_eq_getElem_cons hlt, rightS] at hSd
    have hkl : (t.rules.map rlV).take k = (t.rules.take k).map rlV := List.map_take.symm
    generalize hrr : t.rules[k] = r at *
    have hrc : rlC r = [.str r.name, .int .i64 r.body] := rfl
    have n1 : ¬ h.nobj = h'.nobj := by omega
    have q0 : (h'.new (rlC r)).objs h'.nobj = rlC r := by simp
    have q1 : (h'.new (rlC r)).objs h.nobj = teC t := by simp [n1, ob]
    have q2 : (h'.new (rlC r)).nobj = h'.nobj + 1 := by simp
    have q3 : ∀ o, o < h'.nobj → (h'.new (rlC r)).objs o = h'.objs o := fun o ho => by rw [new_objs_ne _ _ (by omega)]
    have q4 := gr'.new (rlC r)
    simp [hlt', hg, rlV, V.cells, V.good, hrc, setAt]
    rw [← hrc]
    generalize h'.new (rlC r) = h2 at *
    refine ecall (token_spec L.s L.token r.name 1 (by omega) ?_)
    cases ht : tokenT r.name 1 with
    | false =>
      rw [if_neg (fun e => by rw [ht] at e; exact absurd e.1 (by simp))] at hSd
      rw [← hSd] at hQ
      simp
      exact fin_wk q4 (.same _) (by simp) (by simpa using hQ)
    | true =>
    have hct := L.ctR
    rw [show A.slices_ContainsFunc_Rule = ctfF K.slices_IndexFunc_Rule from rfl] at hct
    have hix := L.ixR
    rw [show A.slices_IndexFunc_Rule = ixfF 2 true from rfl] at hix
    simp [q1, htc, q0, hrc, hkl, show (k : Int) ≤ t.rules.length by omega]
    refine ecall (containsFunc encRl hct hix (t.rules.take k) _ _ [] _ (fun x => decide (x.name = r.name)) (by simp; omega) (fun x _ Q' h3 gr3 hQ' => ?_) ?_)
    · exact ruRight1_spec L x ((gr3.objs _ (by omega)).trans q0) (by have := gr3.nobj; omega) hQ'
    rw [hany]
    by_cases c3 : r.name ∈ (rnames t).take k
    · rw [if_neg (fun e => e.2.1 c3)] at hSd
      rw [← hSd] at hQ
      simp [c3]
      exact fin_wk q4 (.same _) (by simp) (by simpa using hQ)
    by_cases c4 : r.body < a
    · rw [if_neg (fun e => by omega)] at hSd
      rw [← hSd] at hQ
      simp [c3, c4, q0, hrc]
      exact fin_wk q4 (.same _) (by simp) (by simpa using hQ)
    by_cases c5 : (t.nodes.length : Int) ≤ r.body
    · rw [if_neg (fun e => by omega)] at hSd
      rw [← hSd] at hQ
      simp [c3, c4, c5, q0, q1, htc, hrc]
      exact fin_wk q4 (.same _) (by simp) (by simpa using hQ)
    rw [if_pos ⟨ht, c3, by omega, by omega⟩] at hSd
    simp [c3, c4, c5, q0, q1, htc, hrc]
    have q5 : h'.nobj < h2.nobj := by omega
    have hbod : ((r.body.toNat : Nat) : Int) = r.body := by omega
    generalize hB : r.body.toNat = B at *
    refine rightL1 L t hr hn hnn hks q4 q1 q0 nb q5 hbod (by omega) (by omega) (fun e h3 g3 he => ?_) (fun h3 v st g3 o3 n3 stk he => ?_)
    · rw [he] at hSd
      simp only at hSd
      rw [← hSd] at hQ
      simp
      exact fin_wk g3 (.same _) (by simp) (by simpa using hQ)
    · rw [he] at hSd
      have hnext : (st.length = 1 ∧ rightS t (t.rules.drop (k + 1)) ((rnames t).take k ++ [r.name]) (B + 1) = rightS t t.rules [] 0) ∨ (¬ st.length = 1 ∧ rightS t t.rules [] 0 = none) := by
        match st, hSd with
        | [x], hSd => exact .inl ⟨rfl, hSd⟩
        | [], hSd => exact .inr ⟨by simp, hSd.symm⟩
        | _ :: _ :: _, hSd => exact .inr ⟨by simp, hSd.symm⟩
      rw [← htk] at hnext
      have hvl : ∀ (env : Env) (K : V → AH → Prop) (zK : Lz K), K (.int .i64 st.length) h3 → lenZ (Ecx X) env h3 false v zK := fun env K zK hK => by
        rcases stk with ⟨rfl, rfl⟩ | ⟨o, cap, rfl, _⟩
        · simpa using hK
        · simpa using hK
      simp
      refine hvl _ _ _ ?_
      simp
      by_cases c6 : st.length = 1
      · have c6' : (st.length : Int) = 1 := by omega
        have hn2 := (hnext.resolve_right (fun e => e.1 c6)).2
        simp [c6', hw1]
        exact ⟨t.rules.length - (k + 1), by omega, iv ⟨k + 1, B + 1, by omega, rfl, by omega, g3, o3, n3, rfl, hn2⟩⟩
      · have c6' : ¬ (st.length : Int) = 1 := by omega
        rcases hnext with e | e
        · exact absurd e.1 c6
        · rw [e.2] at hQ
          simp [c6', c6]
          exact fin_wk g3 (.same _) (by simp) (by simpa using hQ)
  · have hlt' : ¬ (k : Int) < t.rules.length := by omega
    obtain rfl : k = t.rules.length := by omega
    rw [List.drop_length, rightS] at hS
    rw [← hS] at hQ
    simp [hlt', ob, htc]
    have : decide ((a : Int) = t.nodes.length) = decide (some a = some t.nodes.length) := by
      apply Bool.eq_iff_iff.2; simp; omega
    rw [this]
    exact fin_wk gr' (.same _) (by simp) hQ
end
end Go.Proofs.Ytecgbggobecpjaa.Al
namespace Go.Proofs.Ytecgbggobecpjaa.Al
open Go Go.RowKit
set_option linter.unusedSimpArgs false
set_option linter.unusedVariables false
attribute [-simp] List.getD_eq_getElem?_getD Int.not_lt Int.not_le List.map_take
/-- The numbers of a node, and of all below it. -/
def undK (L : Nat) (rec : Int → List Int → List Int) (n : Int) : List Int → List Int → List Int
  | [], out => out ++ [n]
  | k :: ks, out => if n ≤ k ∨ L < out.length then out ++ [-1] else undK L rec n ks (rec k out)
def undT (t : Te) : Nat → Int → List Int → List Int
  | 0, _, out => out ++ [-1]
  | f + 1, n, out => if n < 0 ∨ (t.nodes.length : Int) ≤ n ∨ t.nodes.length < out.length then out ++ [-1] else undK t.nodes.length (undT t f) n (match t.nodes[n.toNat]? with
    | some x => x.kids
    | none => []) out
/-- The numbers from 0 on. -/
def iotaI (n : Nat) : List Int := (List.range n).map fun i : Nat => (i : Int)
@[simp] theorem iotaI_len (n : Nat) : (iotaI n).length = n := by simp [iotaI]
theorem iotaI_succ (n : Nat) : iotaI (n + 1) = iotaI n ++ [(n : Int)] := by simp [iotaI, List.range_succ]
/-- A name, as the reference asks. -/
def nameR (s : Str) : Bool := match scanR s with
  | ([a], _, e) => decide (e = 0) && decide (a.kind = 1) && decide (a.text = s)
  | _ => false
def rightR (t : Te) : List Rl → List Str → List Int → Option (List Int)
  | [], _, all => some all
  | r :: rs, seen, all => if nameR r.name = true ∧ r.name ∉ seen then rightR t rs (seen ++ [r.name]) (undT t t.nodes.length r.body all) else none
/-- As the reference asks. -/
def rightD (t : Te) : Bool := decide (0 < t.rules.length) && decide (t.rules.length ≤ 24) && decide (t.nodes.length ≤ 200) && (match rightR t t.rules [] [] with
  | some all => decide (all = iotaI t.nodes.length) && t.nodes.all (fineT t)
  | none => false)
structure LR6 (X : Cx) : Prop where
  s : LSR X
  under : Has (Ecx X) K.probateref06_under A.probateref06_under
  right : Has (Ecx X) K.probateref06_Right A.probateref06_Right
  fine : Has (Ecx X) K.probateref06_Tree_fine A.probateref06_Tree_fine
  rule : Has (Ecx X) K.probateref06_Tree_rule A.probateref06_Tree_rule
  quote : Has (Ecx X) K.probateref06_quote A.probateref06_quote
end Go.Proofs.Ytecgbggobecpjaa.Al
namespace Go.Proofs.Ytecgbggobecpjaa.Al
open Go Go.RowKit
set_option linter.unusedSimpArgs false
set_option linter.unusedVariables false
attribute [-simp] List.getD_eq_getElem?_getD Int.not_lt Int.not_le List.drop_one List.map_take
section
variable {X : Cx} {h : AH} {Q : V → AH → Prop}
theorem scanR_len (s : Str) : (scanR s).1.length ≤ s.length := by
  unfold scanR
  have := scanL_len s.length s 0
  split
  · simp
  · split
    · simp
    · exact this
end
end Go.Proofs.Ytecgbggobecpjaa.Al
namespace Go.Proofs.Ytecgbggobecpjaa.Al
open Go Go.RowKit
set_option linter.unusedSimpArgs false
set_option linter.unusedVariables false
attribute [-simp] List.getD_eq_getElem?_getD Int.not_lt Int.not_le List.drop_one List.map_take
theorem runN_all {p : UInt8 → Bool} {t : Str} (h : ∀ c ∈ t, p c = true) (r : Str) : runN p (t ++ r) = t.length + runN p r := by
  induction t with
  | nil => simp
  | cons c t ih => rw [List.cons_append, runN_cons, if_pos (h c (by simp)), ih fun d hd => h d (by simp [hd])]; simp; omega
theorem runN_stop {p : UInt8 → Bool} {c : UInt8} (h : p c = false) (r : Str) : runN p (c :: r) = 0 := by rw [runN_cons]; simp [h]
theorem take_run (p : UInt8 → Bool) (s : Str) : ∀ c ∈ s.take (runN p s), p c = true := by
  rw [take_runN]; intro c hc; exact List.all_eq_true.1 (List.all_takeWhile (p := p)) c hc |> fun h => by simpa using h
/-- As it is written. -/
def tokText (t : Tok) : Str := if t.kind = 2 then 39 :: (t.text ++ [39]) else t.text
def goodTok (t : Tok) : Prop := (t.kind = 1 ∧ (∃ c r, t.text = c :: r ∧ letterB c = true) ∧ ∀ c ∈ t.text, partB c = true) ∨ (t.kind = 2 ∧ t.text ≠ [] ∧ ∀ c ∈ t.text, quotedB c = true) ∨ (t.kind = 3 ∧ ∃ c, t.text = [c] ∧ c ∈ marksL)
theorem tokText_pos {t : Tok} (h : goodTok t) : 1 ≤ (tokText t).length := by
  rcases h with ⟨h1, ⟨c, r, e, _⟩, _⟩ | ⟨h1, _⟩ | ⟨h1, c, e, _⟩
  · simp [tokText, h1, e]
  · simp [tokText, h1]
  · simp [tokText, h1, e]
theorem sfirst_cons (c : UInt8) (s : Str) : sfirst (c :: s) =
    if bt c = 35 then (0, [], runN notLf (c :: s))
    else if bt c = 13 ∨ bt c = 32 ∨ bt c = 9 ∨ bt c = 10 then (0, [], 1)
    else if letterB c then (1, (c :: s).take (runN partB (c :: s)), runN partB (c :: s))
    else if bt c = 39 then
      if runN quotedB s = 0 ∨ runN quotedB s = s.length ∨ bt (s.getD (runN quotedB s) 0) ≠ 39 then (0, [], 0) else (2, s.take (runN quotedB s), runN quotedB s + 2)
    else if c ∈ marksL then (3, [c], 1)
    else (0, [], 0) := by
  unfold sfirst
  simp only [List.getD_cons_zero, List.drop_succ_cons, List.drop_zero, List.length_cons, List.getD_cons_succ, List.take_succ_cons, List.take_zero, Nat.add_right_cancel_iff]
  rfl
theorem sfirst_tok {s : Str} (k : Nat) (hne : s ≠ []) (h0 : (sfirst s).2.2 ≠ 0) (h1 : (sfirst s).1 ≠ 0) :
    goodTok ⟨(sfirst s).1, (sfirst s).2.1, k⟩ ∧ tokText ⟨(sfirst s).1, (sfirst s).2.1, k⟩ = s.take (sfirst s).2.2 := by
  cases s with
  | nil => exact absurd rfl hne
  | cons c s =>
    rw [sfirst_cons] at h0 h1 ⊢
    by_cases c1 : bt c = 35
    · rw [if_pos c1] at h1; exact absurd rfl h1
    rw [if_neg c1] at h0 h1 ⊢
    by_cases c2 : bt c = 13 ∨ bt c = 32 ∨ bt c = 9 ∨ bt c = 10
    · rw [if_pos c2] at h1; exact absurd rfl h1
    rw [if_neg c2] at h0 h1 ⊢
    by_cases c3 : letterB c = true
    · rw [if_pos c3] at h0 h1 ⊢
      have hp : partB c = true := by simp only [letterB] at c3; simp [partB, partI, c3]
      refine ⟨.inl ⟨rfl, ⟨c, s.take (runN partB s), ?_, c3⟩, take_run partB (c :: s)⟩, rfl⟩
      simp [runN_cons, hp]
    rw [if_neg c3] at h0 h1 ⊢
    by_cases c4 : bt c = 39
    · rw [if_pos c4] at h0 h1 ⊢
      by_cases c5 : runN quotedB s = 0 ∨ runN quotedB s = s.length ∨ bt (s.getD (runN quotedB s) 0) ≠ 39
      · rw [if_pos c5] at h1; exact absurd rfl h1
      rw [if_neg c5] at h0 h1 ⊢
      have hle := runN_le quotedB s
      have c6 : runN quotedB s < s.length := by omega
      have c7 : s.getD (runN quotedB s) 0 = 39 := bt_inj.1 ((show bt (s.getD (runN quotedB s) 0) = 39 by omega).trans rfl)
      have c8 : c = 39 := bt_inj.1 (c4.trans rfl)
      refine ⟨.inr (.inl ⟨rfl, ?_, take_run quotedB s⟩), ?_⟩
      · intro e; have e2 := congrArg List.length e; simp only [List.length_take, List.length_nil] at e2; omega
      · simp only [tokText, if_true, List.take_succ_cons, c8]
        rw [List.take_succ_eq_append_getElem c6]
        have : s[runN quotedB s] = 39 := by rw [← c7]; simp [List.getD, List.getElem?_eq_getElem c6]
        rw [this]
    rw [if_neg c4] at h0 h1 ⊢
    by_cases c5 : c ∈ marksL
    · rw [if_pos c5]
      exact ⟨.inr (.inr ⟨rfl, c, rfl, c5⟩), rfl⟩
    · rw [if_neg c5] at h1; exact absurd rfl h1
theorem letterB_ne {c : UInt8} (h : letterB c = true) : bt c ≠ 35 ∧ ¬ (bt c = 13 ∨ bt c = 32 ∨ bt c = 9 ∨ bt c = 10) := by
  have := letterI_ne (c := bt c) h; omega
/-- Each stands at its place. -/
def chain (s0 : Str) : Nat → List Tok → Prop
  | _, [] => True
  | k, t :: l => goodTok t ∧ k ≤ t.at' ∧ t.at' + (tokText t).length ≤ s0.length ∧ (s0.drop t.at').take (tokText t).length = tokText t ∧ chain s0 (t.at' + (tokText t).length) l
theorem chain_mono {s0 : Str} {k k' : Nat} (h : k ≤ k') : ∀ {l : List Tok}, chain s0 k' l → chain s0 k l
  | [], _ => trivial
  | t :: l, ⟨a, b, c⟩ => ⟨a, by omega, c⟩
theorem scanL_chain (s0 : Str) : ∀ (n k : Nat), k ≤ s0.length → chain s0 k (scanL n (s0.drop k) k).1
  | 0, k, h => trivial
  | n + 1, k, h => by
    by_cases hne : s0.drop k = []
    · rw [hne, scanL_nil]; trivial
    rw [scanL_step k hne]
    split
    · trivial
    · rename_i h0
      have hle := sfirst_le hne
      simp at hle
      have ih := scanL_chain s0 n (k + (sfirst (s0.drop k)).2.2) (by omega)
      rw [← List.drop_drop] at ih
      by_cases h1 : (sfirst (s0.drop k)).1 = 0
      · rw [if_pos h1]
        exact chain_mono (by omega) ih
      · rw [if_neg h1]
        obtain ⟨g, e⟩ := sfirst_tok k hne h0 h1
        have hlen : (tokText ⟨(sfirst (s0.drop k)).1, (sfirst (s0.drop k)).2.1, k⟩).length = (sfirst (s0.drop k)).2.2 := by rw [e]; simp; omega
        refine ⟨g, by simp, by rw [hlen]; simp; omega, by rw [hlen, e], ?_⟩
        rw [hlen]; exact ih
theorem scanR_chain (s : Str) : chain s 0 (scanR s).1 := by
  unfold scanR
  split
  · trivial
  · split
    · trivial
    · exact scanL_chain s s.length 0 (by omega)
/-- Parted by a space each. -/
def joined (l : List Tok) : Str := l.flatMap fun t => tokText t ++ [32]
theorem joined_len {s0 : Str} : ∀ {l : List Tok} {k : Nat}, k ≤ s0.length → chain s0 k l → (joined l).length + 2 * k ≤ 2 * s0.length
  | [], k, hk, _ => by simp [joined]; omega
  | t :: l, k, hk, ⟨g, a, b, _, c⟩ => by
    have ih := joined_len b c
    have := tokText_pos g
    simp [joined] at ih ⊢; omega
theorem chain_good {s0 : Str} : ∀ {l : List Tok} {k : Nat}, chain s0 k l → ∀ t ∈ l, goodTok t
  | [], k, _, t, ht => by simp at ht
  | u :: l, k, ⟨g, _, _, _, c⟩, t, ht => by
    rcases List.mem_cons.1 ht with rfl | ht
    · exact g
    · exact chain_good c t ht
theorem sfirst_space (r : Str) : sfirst (32 :: r) = (0, [], 1) := by rw [sfirst_cons, if_neg (by decide), if_pos (by decide)]
/-! ### Between -/
end Go.Proofs.Ytecgbggobecpjaa.Al
