/-
  What the law RulesTells needs of this claim's texts (part 2). Conditions: each theorem's own.
-/
import Derived.Test.YtecgbggobecpjaaAlKeys
import Derived.Test.YtecgbggobecpjaaChecked
import Derived.KernelRfl
import Derived.Test.YtecgbggobecpjaaAlArg
import Derived.Test.YtecgbggobecpjaaAlC
import Derived.Test.YtecgbggobecpjaaAlA
import Derived.Test.YtecgbggobecpjaaAlB
import Derived.Test.YtecgbggobecpjaaSh1RulesTells
namespace Go.Proofs.Ytecgbggobecpjaa.Al
def A.probatelaw06_RulesTells : AFn := ⟨71, [(6, none)], (.seq (.reg [⟨(some 4), none, .box (.t 1)⟩, ⟨(some 5), none, .box (.t 2)⟩, ⟨(some 6), none, .mv (.c (.bool false))⟩])
  (.keep [0, 4, 5] (.seq (.seq (.reg [⟨(some 13), none, .call (.c (.fn K.probatelaw06_awake [] [])) []⟩, ⟨(some 14), none, .un .not (.t 13)⟩])
  (.keep [0, 4, 5, 14] (.cond (.t 14) (.seq (.reg [⟨(some 6), none, .mv (.c (.bool false))⟩]) .ret) .skip)))
  (.keep [0, 4, 5] (.seq (.seq (.reg [⟨(some 15), none, .mv (.t 0)⟩, ⟨(some 16), none, .len true (.t 15)⟩, ⟨(some 17), none, .bin .gtr (.t 16) (.c (.int .i64 (1000)))⟩, ⟨(some 18), none, .mv (.t 17)⟩, ⟨(some 19), (some (18, false)), .load true 2 (.t 4)⟩, ⟨(some 20), (some (18, false)), .call (.c (.fn K.probatelaw06_Large [] [])) [(.t 19)]⟩, ⟨(some 21), none, .pick (.t 18) (.c (.bool true)) (.t 20)⟩, ⟨(some 22), none, .mv (.t 21)⟩, ⟨(some 23), (some (22, false)), .load true 2 (.t 5)⟩, ⟨(some 24), (some (22, false)), .call (.c (.fn K.probatelaw06_Large [] [])) [(.t 23)]⟩, ⟨(some 25), none, .pick (.t 22) (.c (.bool true)) (.t 24)⟩])
  (.keep [0, 4, 5, 25] (.cond (.t 25) (.seq (.reg [⟨(some 6), none, .mv (.c (.bool true))⟩]) .ret) .skip)))
  (.keep [0, 4, 5] (.seq (.reg [⟨(some 27), none, .mv (.t 0)⟩, ⟨(some 28), none, .call (.c (.fn K.rules_Read [] [])) [(.t 27)]⟩, ⟨(some 26), none, .mv (.t 28)⟩, ⟨(some 29), none, .ext (.t 26) 0⟩, ⟨(some 30), none, .ext (.t 26) 1⟩, ⟨(some 31), none, .ext (.t 26) 2⟩, ⟨(some 7), none, .alloc [(.sl 0 1 []), (.sl 0 1 [])]⟩, ⟨none, none, .store 2 (.t 7) (.t 29)⟩, ⟨(some 8), none, .mv (.t 30)⟩, ⟨(some 9), none, .mv (.t 31)⟩])
  (.keep [0, 4, 5, 7, 8, 9] (.seq (.reg [⟨(some 33), none, .mv (.t 0)⟩, ⟨(some 34), none, .call (.c (.fn K.probateref06_Read [] [])) [(.t 33)]⟩, ⟨(some 32), none, .mv (.t 34)⟩, ⟨(some 35), none, .ext (.t 32) 0⟩, ⟨(some 36), none, .ext (.t 32) 1⟩, ⟨(some 37), none, .ext (.t 32) 2⟩, ⟨(some 10), none, .alloc [(.sl 0 1 []), (.sl 0 1 [])]⟩, ⟨none, none, .store 2 (.t 10) (.t 35)⟩, ⟨(some 11), none, .mv (.t 36)⟩, ⟨(some 12), none, .mv (.t 37)⟩])
  (.keep [4, 5, 7, 8, 9, 10, 11, 12] (.seq (.draw [(.pl, ⟨(some 38), none, .load true 2 (.t 7)⟩), (.pl, ⟨(some 39), none, .call (.c (.fn K.probatelaw06_Own [] [])) [(.t 38)]⟩), (.pl, ⟨(some 40), none, .load true 2 (.t 10)⟩), (.pl, ⟨(some 41), none, .call (.c (.fn K.probateref06_Same [] [])) [(.t 39), (.t 40)]⟩), (.pl, ⟨(some 42), none, .mv (.t 41)⟩), (.pl, ⟨(some 43), (some (42, true)), .mv (.t 8)⟩), (.pl, ⟨(some 44), (some (42, true)), .mv (.t 11)⟩), (.pl, ⟨(some 45), (some (42, true)), .bin .eql (.t 43) (.t 44)⟩), (.pl, ⟨(some 46), none, .pick (.t 42) (.t 45) (.c (.bool false))⟩), (.pl, ⟨(some 47), none, .mv (.t 46)⟩), (.pl, ⟨(some 48), (some (47, true)), .mv (.t 9)⟩), (.pl, ⟨(some 49), (some (47, true)), .mv (.t 12)⟩), (.pl, ⟨(some 50), (some (47, true)), .bin .eql (.t 48) (.t 49)⟩), (.pl, ⟨(some 51), none, .pick (.t 47) (.t 50) (.c (.bool false))⟩), (.pl, ⟨(some 52), none, .mv (.t 51)⟩), (.pl, ⟨(some 53), (some (52, true)), .load true 2 (.t 4)⟩), (.pl, ⟨(some 54), (some (52, true)), .call (.c (.fn K.rules_Right [] [])) [(.t 53)]⟩), (.pl, ⟨(some 55), (some (52, true)), .load true 2 (.t 4)⟩), (.pl, ⟨(some 56), (some (52, true)), .call (.c (.fn K.probatelaw06_Own [] [])) [(.t 55)]⟩), (.pl, ⟨(some 57), (some (52, true)), .call (.c (.fn K.probateref06_Right [] [])) [(.t 56)]⟩), (.pl, ⟨(some 58), (some (52, true)), .beq false (.t 54) (.t 57)⟩), (.pl, ⟨(some 59), none, .pick (.t 52) (.t 58) (.c (.bool false))⟩), (.pl, ⟨(some 60), none, .mv (.t 59)⟩), (.pl, ⟨(some 61), (some (60, true)), .load true 2 (.t 4)⟩), (.pl, ⟨(some 62), (some (60, true)), .load true 2 (.t 5)⟩), (.pl, ⟨(some 63), (some (60, true)), .call (.c (.fn K.rules_Same [] [])) [(.t 61), (.t 62)]⟩), (.pl, ⟨(some 64), (some (60, true)), .load true 2 (.t 4)⟩), (.pl, ⟨(some 65), (some (60, true)), .call (.c (.fn K.probatelaw06_Own [] [])) [(.t 64)]⟩), (.pl, ⟨(some 66), (some (60, true)), .load true 2 (.t 5)⟩), (.pl, ⟨(some 67), (some (60, true)), .call (.c (.fn K.probatelaw06_Own [] [])) [(.t 66)]⟩), (.pl, ⟨(some 68), (some (60, true)), .call (.c (.fn K.probateref06_Same [] [])) [(.t 65), (.t 67)]⟩), (.pl, ⟨(some 69), (some (60, true)), .beq false (.t 63) (.t 68)⟩), (.pl, ⟨(some 70), none, .pick (.t 60) (.t 69) (.c (.bool false))⟩), (.pl, ⟨(some 6), none, .mv (.t 70)⟩)]) .ret)))))))))))⟩
def A.probatelaw06_Large.L0 : AC := .post (.seq (.reg [⟨(some 21), none, .bin .lss (.t 20) (.t 19)⟩])
  (.keep [1, 18, 19, 20, 21] (.seq (.cond (.t 21) .skip (.exit 0))
  (.keep [1, 18, 19, 20] (.seq (.block 1 (.seq (.reg [⟨(some 22), none, .ia 2 (.t 18) (.t 20)⟩, ⟨(some 23), none, .load true 2 (.t 22)⟩, ⟨(some 4), none, .alloc [(.str []), (.int .i64 (0))]⟩, ⟨none, none, .store 2 (.t 4) (.t 23)⟩])
  (.keep [1, 4, 18, 19, 20] (.seq (.reg [⟨(some 24), none, .fa 0 (.t 4)⟩, ⟨(some 25), none, .load false 1 (.t 24)⟩, ⟨(some 26), none, .len true (.t 25)⟩, ⟨(some 27), none, .bin .gtr (.t 26) (.c (.int .i64 (100)))⟩])
  (.keep [1, 18, 19, 20, 27] (.cond (.t 27) (.seq (.reg [⟨(some 2), none, .mv (.c (.bool true))⟩]) .ret) .skip))))))
  (.keep [1, 18, 19, 20] (.reg [⟨(some 28), none, .bin .add (.t 20) (.c (.int .i64 (1)))⟩, ⟨(some 20), none, .mv (.t 28)⟩]))))))) [1, 18, 19, 20]
def A.probatelaw06_Large.L1 : AC := .post (.seq (.reg [⟨(some 33), none, .bin .lss (.t 32) (.t 31)⟩])
  (.keep [30, 31, 32, 33] (.seq (.cond (.t 33) .skip (.exit 2))
  (.keep [30, 31, 32] (.seq (.block 3 (.seq (.reg [⟨(some 34), none, .ia 3 (.t 30) (.t 32)⟩, ⟨(some 35), none, .load true 3 (.t 34)⟩, ⟨(some 6), none, .alloc [(.int .i64 (0)), (.str []), (.sl 0 1 [])]⟩, ⟨none, none, .store 3 (.t 6) (.t 35)⟩])
  (.keep [6, 30, 31, 32] (.seq (.reg [⟨(some 36), none, .fa 1 (.t 6)⟩, ⟨(some 37), none, .load false 1 (.t 36)⟩, ⟨(some 38), none, .len true (.t 37)⟩, ⟨(some 39), none, .bin .gtr (.t 38) (.c (.int .i64 (100)))⟩, ⟨(some 40), none, .mv (.t 39)⟩, ⟨(some 41), (some (40, false)), .fa 2 (.t 6)⟩, ⟨(some 42), (some (40, false)), .load false 1 (.t 41)⟩, ⟨(some 43), (some (40, false)), .len false (.t 42)⟩, ⟨(some 44), (some (40, false)), .bin .gtr (.t 43) (.c (.int .i64 (210)))⟩, ⟨(some 45), none, .pick (.t 40) (.c (.bool true)) (.t 44)⟩])
  (.keep [30, 31, 32, 45] (.cond (.t 45) (.seq (.reg [⟨(some 2), none, .mv (.c (.bool true))⟩]) .ret) .skip))))))
  (.keep [30, 31, 32] (.reg [⟨(some 46), none, .bin .add (.t 32) (.c (.int .i64 (1)))⟩, ⟨(some 32), none, .mv (.t 46)⟩]))))))) [30, 31, 32]
def A.probatelaw06_Large : AFn := ⟨47, [(2, none)], (.seq (.reg [⟨(some 1), none, .box (.t 0)⟩, ⟨(some 2), none, .mv (.c (.bool false))⟩])
  (.keep [1] (.seq (.seq (.reg [⟨(some 7), none, .fa 0 (.t 1)⟩, ⟨(some 8), none, .load false 1 (.t 7)⟩, ⟨(some 9), none, .len false (.t 8)⟩, ⟨(some 10), none, .bin .gtr (.t 9) (.c (.int .i64 (30)))⟩, ⟨(some 11), none, .mv (.t 10)⟩, ⟨(some 12), (some (11, false)), .fa 1 (.t 1)⟩, ⟨(some 13), (some (11, false)), .load false 1 (.t 12)⟩, ⟨(some 14), (some (11, false)), .len false (.t 13)⟩, ⟨(some 15), (some (11, false)), .bin .gtr (.t 14) (.c (.int .i64 (210)))⟩, ⟨(some 16), none, .pick (.t 11) (.c (.bool true)) (.t 15)⟩])
  (.keep [1, 16] (.cond (.t 16) (.seq (.reg [⟨(some 2), none, .mv (.c (.bool true))⟩]) .ret) .skip)))
  (.keep [1] (.seq (.seq (.reg [⟨(some 17), none, .fa 0 (.t 1)⟩, ⟨(some 18), none, .load false 1 (.t 17)⟩, ⟨(some 19), none, .len false (.t 18)⟩, ⟨(some 20), none, .mv (.c (.int .i64 (0)))⟩])
  (.keep [1, 18, 19, 20] (.block 0 (.loop A.probatelaw06_Large.L0))))
  (.keep [1] (.seq (.seq (.reg [⟨(some 29), none, .fa 1 (.t 1)⟩, ⟨(some 30), none, .load false 1 (.t 29)⟩, ⟨(some 31), none, .len false (.t 30)⟩, ⟨(some 32), none, .mv (.c (.int .i64 (0)))⟩])
  (.keep [30, 31, 32] (.block 2 (.loop A.probatelaw06_Large.L1))))
  (.keep [] (.seq (.reg [⟨(some 2), none, .mv (.c (.bool false))⟩]) .ret)))))))))⟩
def A.probatelaw06_Own.L0 : AC := .post (.seq (.reg [⟨(some 13), none, .bin .lss (.t 12) (.t 11)⟩])
  (.keep [1, 2, 3, 10, 11, 12, 13] (.seq (.cond (.t 13) .skip (.exit 0))
  (.keep [1, 2, 3, 10, 11, 12] (.seq (.block 1 (.seq (.reg [⟨(some 14), none, .ia 2 (.t 10) (.t 12)⟩, ⟨(some 15), none, .load true 2 (.t 14)⟩, ⟨(some 5), none, .alloc [(.str []), (.int .i64 (0))]⟩, ⟨none, none, .store 2 (.t 5) (.t 15)⟩])
  (.keep [1, 2, 3, 5, 10, 11, 12] (.reg [⟨(some 16), none, .fa 0 (.t 3)⟩, ⟨(some 17), none, .load false 1 (.t 16)⟩, ⟨(some 18), none, .load true 2 (.t 5)⟩, ⟨(some 19), none, .bsl 2 true [(.str []), (.int .i64 (0))] 1 [(0, (.t 18))]⟩, ⟨(some 20), none, .app 2 24 (.t 17) (.t 19)⟩, ⟨(some 21), none, .fa 0 (.t 3)⟩, ⟨none, none, .store 1 (.t 21) (.t 20)⟩]))))
  (.keep [1, 2, 3, 10, 11, 12] (.reg [⟨(some 22), none, .bin .add (.t 12) (.c (.int .i64 (1)))⟩, ⟨(some 12), none, .mv (.t 22)⟩]))))))) [1, 2, 3, 10, 11, 12]
def A.probatelaw06_Own.L1 : AC := .post (.seq (.reg [⟨(some 27), none, .bin .lss (.t 26) (.t 25)⟩])
  (.keep [2, 3, 24, 25, 26, 27] (.seq (.cond (.t 27) .skip (.exit 2))
  (.keep [2, 3, 24, 25, 26] (.seq (.block 3 (.seq (.reg [⟨(some 28), none, .ia 3 (.t 24) (.t 26)⟩, ⟨(some 29), none, .load true 3 (.t 28)⟩, ⟨(some 7), none, .alloc [(.int .i64 (0)), (.str []), (.sl 0 1 [])]⟩, ⟨none, none, .store 3 (.t 7) (.t 29)⟩])
  (.keep [2, 3, 7, 24, 25, 26] (.reg [⟨(some 30), none, .fa 1 (.t 3)⟩, ⟨(some 31), none, .load false 1 (.t 30)⟩, ⟨(some 32), none, .load true 3 (.t 7)⟩, ⟨(some 33), none, .bsl 3 true [(.int .i64 (0)), (.str []), (.sl 0 1 [])] 1 [(0, (.t 32))]⟩, ⟨(some 34), none, .app 3 48 (.t 31) (.t 33)⟩, ⟨(some 35), none, .fa 1 (.t 3)⟩, ⟨none, none, .store 1 (.t 35) (.t 34)⟩]))))
  (.keep [2, 3, 24, 25, 26] (.reg [⟨(some 36), none, .bin .add (.t 26) (.c (.int .i64 (1)))⟩, ⟨(some 26), none, .mv (.t 36)⟩]))))))) [2, 3, 24, 25, 26]
def A.probatelaw06_Own : AFn := ⟨38, [(2, (some (true, 2)))], (.seq (.reg [⟨(some 1), none, .box (.t 0)⟩, ⟨(some 2), none, .alloc [(.sl 0 1 []), (.sl 0 1 [])]⟩])
  (.keep [1, 2] (.seq (.reg [⟨(some 8), none, .bld [(.sl 0 1 []), (.sl 0 1 [])] []⟩, ⟨(some 3), none, .alloc [(.sl 0 1 []), (.sl 0 1 [])]⟩, ⟨none, none, .store 2 (.t 3) (.t 8)⟩])
  (.keep [1, 2, 3] (.seq (.seq (.reg [⟨(some 9), none, .fa 0 (.t 1)⟩, ⟨(some 10), none, .load false 1 (.t 9)⟩, ⟨(some 11), none, .len false (.t 10)⟩, ⟨(some 12), none, .mv (.c (.int .i64 (0)))⟩])
  (.keep [1, 2, 3, 10, 11, 12] (.block 0 (.loop A.probatelaw06_Own.L0))))
  (.keep [1, 2, 3] (.seq (.seq (.reg [⟨(some 23), none, .fa 1 (.t 1)⟩, ⟨(some 24), none, .load false 1 (.t 23)⟩, ⟨(some 25), none, .len false (.t 24)⟩, ⟨(some 26), none, .mv (.c (.int .i64 (0)))⟩])
  (.keep [2, 3, 24, 25, 26] (.block 2 (.loop A.probatelaw06_Own.L1))))
  (.keep [2, 3] (.seq (.reg [⟨(some 37), none, .load true 2 (.t 3)⟩, ⟨none, none, .store 2 (.t 2) (.t 37)⟩]) .ret)))))))))⟩
def A.probatelaw06_awake : AFn := ⟨85, [(0, none)], (.seq (.reg [⟨(some 0), none, .mv (.c (.bool false))⟩])
  (.keep [] (.seq (.reg [⟨(some 12), none, .call (.c (.fn K.rules_Read [] [])) [(.c (.str [115, 58, 32, 39, 97, 39, 32, 115, 32, 124, 32, 59]))]⟩, ⟨(some 11), none, .mv (.t 12)⟩, ⟨(some 13), none, .ext (.t 11) 0⟩, ⟨(some 14), none, .ext (.t 11) 1⟩, ⟨(some 15), none, .ext (.t 11) 2⟩, ⟨(some 1), none, .alloc [(.sl 0 1 []), (.sl 0 1 [])]⟩, ⟨none, none, .store 2 (.t 1) (.t 13)⟩, ⟨(some 2), none, .mv (.t 14)⟩, ⟨(some 3), none, .mv (.t 15)⟩])
  (.keep [1, 2, 3] (.seq (.reg [⟨(some 16), none, .bld [(.str []), (.int .i64 (0))] [(0, 1, (.c (.str [115]))), (1, 1, (.c (.int .i64 (4))))]⟩, ⟨(some 17), none, .bsl 2 true [(.str []), (.int .i64 (0))] 1 [(0, (.t 16))]⟩, ⟨(some 18), none, .bld [(.int .i64 (0)), (.str []), (.sl 0 1 [])] [(0, 1, (.c (.int .i64 (7)))), (1, 1, (.c (.str [97])))]⟩, ⟨(some 19), none, .bld [(.int .i64 (0)), (.str []), (.sl 0 1 [])] [(0, 1, (.c (.int .i64 (6)))), (1, 1, (.c (.str [115])))]⟩, ⟨(some 20), none, .bsl 1 false [(.int .i64 (0))] 2 [(0, (.c (.int .i64 (0)))), (1, (.c (.int .i64 (1))))]⟩, ⟨(some 21), none, .bld [(.int .i64 (0)), (.str []), (.sl 0 1 [])] [(0, 1, (.c (.int .i64 (1)))), (2, 1, (.t 20))]⟩, ⟨(some 22), none, .bld [(.int .i64 (0)), (.str []), (.sl 0 1 [])] [(0, 1, (.c (.int .i64 (1))))]⟩, ⟨(some 23), none, .bsl 1 false [(.int .i64 (0))] 2 [(0, (.c (.int .i64 (2)))), (1, (.c (.int .i64 (3))))]⟩, ⟨(some 24), none, .bld [(.int .i64 (0)), (.str []), (.sl 0 1 [])] [(0, 1, (.c (.int .i64 (2)))), (2, 1, (.t 23))]⟩, ⟨(some 25), none, .bsl 3 true [(.int .i64 (0)), (.str []), (.sl 0 1 [])] 5 [(0, (.t 18)), (1, (.t 19)), (2, (.t 21)), (3, (.t 22)), (4, (.t 24))]⟩, ⟨(some 26), none, .bld [(.sl 0 1 []), (.sl 0 1 [])] [(0, 1, (.t 17)), (1, 1, (.t 25))]⟩, ⟨(some 4), none, .alloc [(.sl 0 1 []), (.sl 0 1 [])]⟩, ⟨none, none, .store 2 (.t 4) (.t 26)⟩])
  (.keep [1, 2, 3, 4] (.seq (.reg [⟨(some 28), none, .call (.c (.fn K.rules_Read [] [])) [(.c (.str [115, 58, 32, 39, 97, 39]))]⟩, ⟨(some 27), none, .mv (.t 28)⟩, ⟨(some 29), none, .ext (.t 27) 0⟩, ⟨(some 30), none, .ext (.t 27) 1⟩, ⟨(some 31), none, .ext (.t 27) 2⟩, ⟨(some 5), none, .alloc [(.sl 0 1 []), (.sl 0 1 [])]⟩, ⟨none, none, .store 2 (.t 5) (.t 29)⟩, ⟨(some 6), none, .mv (.t 30)⟩, ⟨(some 7), none, .mv (.t 31)⟩])
  (.keep [1, 2, 3, 4, 6, 7] (.seq (.reg [⟨(some 33), none, .call (.c (.fn K.rules_Read [] [])) [(.c (.str [115, 58, 32, 116, 32, 59]))]⟩, ⟨(some 32), none, .mv (.t 33)⟩, ⟨(some 34), none, .ext (.t 32) 0⟩, ⟨(some 35), none, .ext (.t 32) 1⟩, ⟨(some 36), none, .ext (.t 32) 2⟩, ⟨(some 8), none, .alloc [(.sl 0 1 []), (.sl 0 1 [])]⟩, ⟨none, none, .store 2 (.t 8) (.t 34)⟩, ⟨(some 9), none, .mv (.t 35)⟩, ⟨(some 10), none, .mv (.t 36)⟩])
  (.keep [1, 2, 3, 4, 6, 7, 9, 10] (.seq (.draw [(.pl, ⟨(some 37), none, .load true 2 (.t 1)⟩), (.pl, ⟨(some 38), none, .call (.c (.fn K.probatelaw06_Own [] [])) [(.t 37)]⟩), (.pl, ⟨(some 39), none, .load true 2 (.t 4)⟩), (.pl, ⟨(some 40), none, .call (.c (.fn K.probateref06_Same [] [])) [(.t 38), (.t 39)]⟩), (.pl, ⟨(some 41), none, .mv (.t 40)⟩), (.pl, ⟨(some 42), (some (41, true)), .mv (.t 2)⟩), (.pl, ⟨(some 43), (some (41, true)), .bin .eql (.t 42) (.c (.int .i64 (0)))⟩), (.pl, ⟨(some 44), none, .pick (.t 41) (.t 43) (.c (.bool false))⟩), (.pl, ⟨(some 45), none, .mv (.t 44)⟩), (.pl, ⟨(some 46), (some (45, true)), .mv (.t 3)⟩), (.pl, ⟨(some 47), (some (45, true)), .bin .eql (.t 46) (.c (.int .i64 (0)))⟩), (.pl, ⟨(some 48), none, .pick (.t 45) (.t 47) (.c (.bool false))⟩), (.pl, ⟨(some 49), none, .mv (.t 48)⟩), (.pl, ⟨(some 50), (some (49, true)), .mv (.t 6)⟩), (.pl, ⟨(some 51), (some (49, true)), .bin .eql (.t 50) (.c (.int .i64 (6)))⟩), (.pl, ⟨(some 52), none, .pick (.t 49) (.t 51) (.c (.bool false))⟩), (.pl, ⟨(some 53), none, .mv (.t 52)⟩), (.pl, ⟨(some 54), (some (53, true)), .mv (.t 7)⟩), (.pl, ⟨(some 55), (some (53, true)), .bin .eql (.t 54) (.c (.int .i64 (2)))⟩), (.pl, ⟨(some 56), none, .pick (.t 53) (.t 55) (.c (.bool false))⟩), (.pl, ⟨(some 57), none, .mv (.t 56)⟩), (.pl, ⟨(some 58), (some (57, true)), .mv (.t 9)⟩), (.pl, ⟨(some 59), (some (57, true)), .bin .eql (.t 58) (.c (.int .i64 (3)))⟩), (.pl, ⟨(some 60), none, .pick (.t 57) (.t 59) (.c (.bool false))⟩), (.pl, ⟨(some 61), none, .mv (.t 60)⟩), (.pl, ⟨(some 62), (some (61, true)), .mv (.t 10)⟩), (.pl, ⟨(some 63), (some (61, true)), .bin .eql (.t 62) (.c (.int .i64 (6)))⟩), (.pl, ⟨(some 64), none, .pick (.t 61) (.t 63) (.c (.bool false))⟩), (.pl, ⟨(some 65), none, .mv (.t 64)⟩), (.pl, ⟨(some 66), (some (65, true)), .load true 2 (.t 1)⟩), (.pl, ⟨(some 67), (some (65, true)), .call (.c (.fn K.rules_Right [] [])) [(.t 66)]⟩), (.pl, ⟨(some 68), none, .pick (.t 65) (.t 67) (.c (.bool false))⟩), (.pl, ⟨(some 69), none, .mv (.t 68)⟩), (.pl, ⟨(some 70), (some (69, true)), .bld [(.sl 0 1 []), (.sl 0 1 [])] []⟩), (.pl, ⟨(some 71), (some (69, true)), .call (.c (.fn K.rules_Right [] [])) [(.t 70)]⟩), (.pl, ⟨(some 72), (some (69, true)), .un .not (.t 71)⟩), (.pl, ⟨(some 73), none, .pick (.t 69) (.t 72) (.c (.bool false))⟩), (.pl, ⟨(some 74), none, .mv (.t 73)⟩), (.pl, ⟨(some 75), (some (74, true)), .load true 2 (.t 1)⟩), (.pl, ⟨(some 76), (some (74, true)), .load true 2 (.t 1)⟩), (.pl, ⟨(some 77), (some (74, true)), .call (.c (.fn K.rules_Same [] [])) [(.t 75), (.t 76)]⟩), (.pl, ⟨(some 78), none, .pick (.t 74) (.t 77) (.c (.bool false))⟩), (.pl, ⟨(some 79), none, .mv (.t 78)⟩), (.pl, ⟨(some 80), (some (79, true)), .load true 2 (.t 1)⟩), (.pl, ⟨(some 81), (some (79, true)), .bld [(.sl 0 1 []), (.sl 0 1 [])] []⟩), (.pl, ⟨(some 82), (some (79, true)), .call (.c (.fn K.rules_Same [] [])) [(.t 80), (.t 81)]⟩), (.pl, ⟨(some 83), (some (79, true)), .un .not (.t 82)⟩), (.pl, ⟨(some 84), none, .pick (.t 79) (.t 83) (.c (.bool false))⟩), (.pl, ⟨(some 0), none, .mv (.t 84)⟩)]) .ret)))))))))))⟩
def A.probateref06_Read.L0 : AC := .post (.seq (.seq (.reg [⟨(some 27), none, .mv (.t 8)⟩, ⟨(some 28), none, .nilchk (.t 27)⟩, ⟨(some 29), none, .fa 2 (.t 28)⟩, ⟨(some 30), none, .load false 1 (.t 29)⟩, ⟨(some 31), none, .un .not (.t 30)⟩, ⟨(some 32), none, .mv (.t 31)⟩, ⟨(some 33), (some (32, true)), .mv (.t 8)⟩, ⟨(some 34), (some (32, true)), .nilchk (.t 33)⟩, ⟨(some 35), (some (32, true)), .fa 1 (.t 34)⟩, ⟨(some 36), (some (32, true)), .load false 1 (.t 35)⟩, ⟨(some 37), (some (32, true)), .mv (.t 5)⟩, ⟨(some 38), (some (32, true)), .len false (.t 37)⟩, ⟨(some 39), (some (32, true)), .bin .lss (.t 36) (.t 38)⟩, ⟨(some 40), (some (32, true)), .mv (.t 39)⟩, ⟨(some 41), (some (40, false)), .mv (.t 8)⟩, ⟨(some 42), (some (40, false)), .nilchk (.t 41)⟩, ⟨(some 43), (some (40, false)), .fa 3 (.t 42)⟩, ⟨(some 44), (some (40, false)), .fa 0 (.t 43)⟩, ⟨(some 45), (some (40, false)), .load false 1 (.t 44)⟩, ⟨(some 46), (some (40, false)), .len false (.t 45)⟩, ⟨(some 47), (some (40, false)), .bin .eql (.t 46) (.c (.int .i64 (0)))⟩, ⟨(some 48), (some (32, true)), .pick (.t 40) (.c (.bool true)) (.t 47)⟩, ⟨(some 49), none, .pick (.t 32) (.t 48) (.c (.bool false))⟩])
  (.keep [0, 2, 5, 8, 49] (.cond (.t 49) .skip (.exit 0))))
  (.keep [0, 2, 5, 8] (.block 1 (.seq (.seq (.reg [⟨(some 50), none, .mv (.t 8)⟩, ⟨(some 51), none, .nilchk (.t 50)⟩, ⟨(some 52), none, .fa 1 (.t 51)⟩, ⟨(some 53), none, .load false 1 (.t 52)⟩, ⟨(some 54), none, .mv (.t 5)⟩, ⟨(some 55), none, .len false (.t 54)⟩, ⟨(some 56), none, .bin .geq (.t 53) (.t 55)⟩, ⟨(some 57), none, .mv (.t 56)⟩, ⟨(some 58), (some (57, false)), .mv (.t 5)⟩, ⟨(some 59), (some (57, false)), .mv (.t 8)⟩, ⟨(some 60), (some (57, false)), .nilchk (.t 59)⟩, ⟨(some 61), (some (57, false)), .fa 1 (.t 60)⟩, ⟨(some 62), (some (57, false)), .load false 1 (.t 61)⟩, ⟨(some 63), (some (57, false)), .ia 3 (.t 58) (.t 62)⟩, ⟨(some 64), (some (57, false)), .fa 0 (.t 63)⟩, ⟨(some 65), (some (57, false)), .load false 1 (.t 64)⟩, ⟨(some 66), (some (57, false)), .bin .neq (.t 65) (.c (.int .i64 (1)))⟩, ⟨(some 67), none, .pick (.t 57) (.c (.bool true)) (.t 66)⟩])
  (.keep [0, 2, 5, 8, 67] (.cond (.t 67) (.seq (.reg [⟨(some 68), none, .mv (.t 8)⟩, ⟨(some 69), none, .nilchk (.t 68)⟩, ⟨(some 70), none, .fa 2 (.t 69)⟩, ⟨none, none, .store 1 (.t 70) (.c (.bool true))⟩]) (.exit 1)) .skip)))
  (.keep [0, 2, 5, 8] (.seq (.reg [⟨(some 71), none, .mv (.t 5)⟩, ⟨(some 72), none, .mv (.t 8)⟩, ⟨(some 73), none, .nilchk (.t 72)⟩, ⟨(some 74), none, .fa 1 (.t 73)⟩, ⟨(some 75), none, .load false 1 (.t 74)⟩, ⟨(some 76), none, .ia 3 (.t 71) (.t 75)⟩, ⟨(some 77), none, .load true 3 (.t 76)⟩, ⟨(some 9), none, .alloc [(.int .i64 (0)), (.str []), (.int .i64 (0))]⟩, ⟨none, none, .store 3 (.t 9) (.t 77)⟩])
  (.keep [0, 2, 5, 8, 9] (.seq (.draw [(.pl, ⟨(some 78), none, .mv (.t 8)⟩), (.pl, ⟨(some 79), none, .mv (.t 8)⟩), (.pl, ⟨(some 80), none, .nilchk (.t 79)⟩), (.pl, ⟨(some 81), none, .fa 5 (.t 80)⟩), (.pl, ⟨(some 82), none, .load false 1 (.t 81)⟩), (.pl, ⟨(some 83), none, .load true 3 (.t 9)⟩), (.pl, ⟨(some 84), none, .bsl 3 true [(.int .i64 (0)), (.str []), (.int .i64 (0))] 1 [(0, (.t 83))]⟩), (.eff, ⟨(some 85), none, .app 3 32 (.t 82) (.t 84)⟩), (.pl, ⟨(some 86), none, .nilchk (.t 78)⟩), (.pl, ⟨(some 87), none, .fa 5 (.t 86)⟩), (.eff, ⟨none, none, .store 1 (.t 87) (.t 85)⟩)])
  (.keep [0, 2, 5, 8, 9] (.seq (.reg [⟨(some 88), none, .mv (.t 8)⟩, ⟨(some 89), none, .nilchk (.t 88)⟩, ⟨(some 90), none, .fa 1 (.t 89)⟩, ⟨(some 91), none, .load false 1 (.t 90)⟩, ⟨(some 92), none, .bin .add (.t 91) (.c (.int .i64 (1)))⟩, ⟨(some 93), none, .nilchk (.t 88)⟩, ⟨(some 94), none, .fa 1 (.t 93)⟩, ⟨none, none, .store 1 (.t 94) (.t 92)⟩])
  (.keep [0, 2, 5, 8, 9] (.seq (.reg [⟨(some 95), none, .mv (.t 8)⟩, ⟨(some 96), none, .call (.c (.fn K.probateref06_reader_must [] [])) [(.t 95), (.c (.str [58]))]⟩])
  (.keep [0, 2, 5, 8, 9] (.seq (.reg [⟨(some 97), none, .mv (.t 8)⟩, ⟨(some 98), none, .call (.c (.fn K.probateref06_reader_alternatives [] [])) [(.t 97)]⟩, ⟨(some 10), none, .mv (.t 98)⟩])
  (.keep [0, 2, 5, 8, 9, 10] (.seq (.reg [⟨(some 99), none, .mv (.t 8)⟩, ⟨(some 100), none, .call (.c (.fn K.probateref06_reader_must [] [])) [(.t 99), (.c (.str [59]))]⟩])
  (.keep [0, 2, 5, 8, 9, 10] (.draw [(.pl, ⟨(some 101), none, .mv (.t 8)⟩), (.pl, ⟨(some 102), none, .mv (.t 8)⟩), (.pl, ⟨(some 103), none, .nilchk (.t 102)⟩), (.pl, ⟨(some 104), none, .fa 3 (.t 103)⟩), (.pl, ⟨(some 105), none, .fa 0 (.t 104)⟩), (.pl, ⟨(some 106), none, .load false 1 (.t 105)⟩), (.pl, ⟨(some 107), none, .fa 1 (.t 9)⟩), (.pl, ⟨(some 108), none, .load false 1 (.t 107)⟩), (.pl, ⟨(some 109), none, .mv (.t 10)⟩), (.pl, ⟨(some 110), none, .bld [(.str []), (.int .i64 (0))] [(0, 1, (.t 108)), (1, 1, (.t 109))]⟩), (.pl, ⟨(some 111), none, .bsl 2 true [(.str []), (.int .i64 (0))] 1 [(0, (.t 110))]⟩), (.eff, ⟨(some 112), none, .app 2 24 (.t 106) (.t 111)⟩), (.pl, ⟨(some 113), none, .nilchk (.t 101)⟩), (.pl, ⟨(some 114), none, .fa 3 (.t 113)⟩), (.pl, ⟨(some 115), none, .fa 0 (.t 114)⟩), (.eff, ⟨none, none, .store 1 (.t 115) (.t 112)⟩)])))))))))))))))))) [0, 2, 5, 8]
def A.probateref06_Read.L1 : AC := .post (.seq (.seq (.reg [⟨(some 156), none, .mv (.t 11)⟩, ⟨(some 157), none, .mv (.t 8)⟩, ⟨(some 158), none, .nilchk (.t 157)⟩, ⟨(some 159), none, .fa 5 (.t 158)⟩, ⟨(some 160), none, .load false 1 (.t 159)⟩, ⟨(some 161), none, .len false (.t 160)⟩, ⟨(some 162), none, .bin .lss (.t 156) (.t 161)⟩])
  (.keep [2, 8, 11, 162] (.cond (.t 162) .skip (.exit 2))))
  (.keep [2, 8, 11] (.seq (.block 3 (.seq (.draw [(.pl, ⟨(some 165), none, .mv (.t 8)⟩), (.pl, ⟨(some 166), none, .nilchk (.t 165)⟩), (.pl, ⟨(some 167), none, .fa 5 (.t 166)⟩), (.pl, ⟨(some 168), none, .load false 1 (.t 167)⟩), (.pl, ⟨(some 169), none, .mv (.t 11)⟩), (.pl, ⟨(some 170), none, .slc 3 (.t 168) none (some (.t 169))⟩), (.pl, ⟨(some 171), none, .mv (.t 8)⟩), (.pl, ⟨(some 172), none, .nilchk (.t 171)⟩), (.pl, ⟨(some 173), none, .fa 5 (.t 172)⟩), (.pl, ⟨(some 174), none, .load false 1 (.t 173)⟩), (.pl, ⟨(some 175), none, .mv (.t 11)⟩), (.pl, ⟨(some 176), none, .ia 3 (.t 174) (.t 175)⟩), (.pl, ⟨(some 177), none, .fa 1 (.t 176)⟩), (.pl, ⟨(some 178), none, .load false 1 (.t 177)⟩), (.pl, ⟨(some 179), none, .call (.c (.fn K.probateref06_has [] [])) [(.t 170), (.t 178)]⟩)])
  (.keep [2, 8, 11, 179] (.cond (.t 179) (.seq (.draw [(.pl, ⟨(some 180), none, .bld [(.sl 0 1 []), (.sl 0 1 [])] []⟩), (.pl, ⟨(some 181), none, .mv (.t 8)⟩), (.pl, ⟨(some 182), none, .nilchk (.t 181)⟩), (.pl, ⟨(some 183), none, .fa 5 (.t 182)⟩), (.fl, ⟨(some 184), none, .load false 1 (.t 183)⟩), (.pl, ⟨(some 185), none, .mv (.t 11)⟩), (.pl, ⟨(some 186), none, .ia 3 (.t 184) (.t 185)⟩), (.pl, ⟨(some 187), none, .fa 2 (.t 186)⟩), (.fl, ⟨(some 188), none, .load false 1 (.t 187)⟩), (.eff, ⟨none, none, .store 2 (.t 2) (.t 180)⟩), (.pl, ⟨(some 3), none, .mv (.t 188)⟩), (.pl, ⟨(some 4), none, .mv (.c (.int .i64 (7)))⟩)]) .ret) .skip))))
  (.keep [2, 8, 11] (.reg [⟨(some 163), none, .mv (.t 11)⟩, ⟨(some 164), none, .bin .add (.t 163) (.c (.int .i64 (1)))⟩, ⟨(some 11), none, .mv (.t 164)⟩]))))) [2, 8, 11]
def A.probateref06_Read.L2 : AC := .post (.seq (.seq (.reg [⟨(some 189), none, .mv (.t 12)⟩, ⟨(some 190), none, .mv (.t 8)⟩, ⟨(some 191), none, .nilchk (.t 190)⟩, ⟨(some 192), none, .fa 6 (.t 191)⟩, ⟨(some 193), none, .load false 1 (.t 192)⟩, ⟨(some 194), none, .len false (.t 193)⟩, ⟨(some 195), none, .bin .lss (.t 189) (.t 194)⟩])
  (.keep [2, 8, 12, 195] (.cond (.t 195) .skip (.exit 4))))
  (.keep [2, 8, 12] (.seq (.block 5 (.seq (.draw [(.pl, ⟨(some 198), none, .mv (.t 8)⟩), (.pl, ⟨(some 199), none, .nilchk (.t 198)⟩), (.pl, ⟨(some 200), none, .fa 5 (.t 199)⟩), (.pl, ⟨(some 201), none, .load false 1 (.t 200)⟩), (.pl, ⟨(some 202), none, .mv (.t 8)⟩), (.pl, ⟨(some 203), none, .nilchk (.t 202)⟩), (.pl, ⟨(some 204), none, .fa 6 (.t 203)⟩), (.pl, ⟨(some 205), none, .load false 1 (.t 204)⟩), (.pl, ⟨(some 206), none, .mv (.t 12)⟩), (.pl, ⟨(some 207), none, .ia 3 (.t 205) (.t 206)⟩), (.pl, ⟨(some 208), none, .fa 1 (.t 207)⟩), (.pl, ⟨(some 209), none, .load false 1 (.t 208)⟩), (.pl, ⟨(some 210), none, .call (.c (.fn K.probateref06_has [] [])) [(.t 201), (.t 209)]⟩), (.pl, ⟨(some 211), none, .un .not (.t 210)⟩)])
  (.keep [2, 8, 12, 211] (.cond (.t 211) (.seq (.draw [(.pl, ⟨(some 212), none, .bld [(.sl 0 1 []), (.sl 0 1 [])] []⟩), (.pl, ⟨(some 213), none, .mv (.t 8)⟩), (.pl, ⟨(some 214), none, .nilchk (.t 213)⟩), (.pl, ⟨(some 215), none, .fa 6 (.t 214)⟩), (.fl, ⟨(some 216), none, .load false 1 (.t 215)⟩), (.pl, ⟨(some 217), none, .mv (.t 12)⟩), (.pl, ⟨(some 218), none, .ia 3 (.t 216) (.t 217)⟩), (.pl, ⟨(some 219), none, .fa 2 (.t 218)⟩), (.fl, ⟨(some 220), none, .load false 1 (.t 219)⟩), (.eff, ⟨none, none, .store 2 (.t 2) (.t 212)⟩), (.pl, ⟨(some 3), none, .mv (.t 220)⟩), (.pl, ⟨(some 4), none, .mv (.c (.int .i64 (6)))⟩)]) .ret) .skip))))
  (.keep [2, 8, 12] (.reg [⟨(some 196), none, .mv (.t 12)⟩, ⟨(some 197), none, .bin .add (.t 196) (.c (.int .i64 (1)))⟩, ⟨(some 12), none, .mv (.t 197)⟩]))))) [2, 8, 12]
def A.probateref06_Read : AFn := ⟨225, [(2, (some (true, 2))), (3, none), (4, none)], (.seq (.reg [⟨(some 2), none, .alloc [(.sl 0 1 []), (.sl 0 1 [])]⟩, ⟨(some 3), none, .mv (.c (.int .i64 (0)))⟩, ⟨(some 4), none, .mv (.c (.int .i64 (0)))⟩])
  (.keep [0, 2] (.seq (.reg [⟨(some 14), none, .mv (.t 0)⟩, ⟨(some 15), none, .call (.c (.fn K.probateref05_Scan [] [])) [(.t 14)]⟩, ⟨(some 13), none, .mv (.t 15)⟩, ⟨(some 16), none, .ext (.t 13) 0⟩, ⟨(some 17), none, .ext (.t 13) 1⟩, ⟨(some 18), none, .ext (.t 13) 2⟩, ⟨(some 5), none, .mv (.t 16)⟩, ⟨(some 6), none, .mv (.t 17)⟩, ⟨(some 7), none, .mv (.t 18)⟩])
  (.keep [0, 2, 5, 6, 7] (.seq (.seq (.reg [⟨(some 19), none, .mv (.t 7)⟩, ⟨(some 20), none, .bin .neq (.t 19) (.c (.int .i64 (0)))⟩])
  (.keep [0, 2, 5, 6, 7, 20] (.cond (.t 20) (.seq (.reg [⟨(some 21), none, .bld [(.sl 0 1 []), (.sl 0 1 [])] []⟩, ⟨(some 22), none, .mv (.t 6)⟩, ⟨(some 23), none, .mv (.t 7)⟩, ⟨none, none, .store 2 (.t 2) (.t 21)⟩, ⟨(some 3), none, .mv (.t 22)⟩, ⟨(some 4), none, .mv (.t 23)⟩]) .ret) .skip)))
  (.keep [0, 2, 5] (.seq (.reg [⟨(some 24), none, .mv (.t 5)⟩, ⟨(some 25), none, .bld [(.sl 0 1 []), (.int .i64 (0)), (.bool false), (.sl 0 1 []), (.sl 0 1 []), (.sl 0 1 []), (.sl 0 1 [])] [(0, 1, (.t 24))]⟩, ⟨(some 26), none, .box (.t 25)⟩, ⟨(some 8), none, .mv (.t 26)⟩])
  (.keep [0, 2, 5, 8] (.seq (.block 0 (.loop A.probateref06_Read.L0))
  (.keep [0, 2, 5, 8] (.seq (.seq (.reg [⟨(some 116), none, .mv (.t 8)⟩, ⟨(some 117), none, .nilchk (.t 116)⟩, ⟨(some 118), none, .fa 2 (.t 117)⟩, ⟨(some 119), none, .load false 1 (.t 118)⟩])
  (.keep [0, 2, 5, 8, 119] (.cond (.t 119) (.seq (.seq (.reg [⟨(some 120), none, .mv (.t 8)⟩, ⟨(some 121), none, .nilchk (.t 120)⟩, ⟨(some 122), none, .fa 1 (.t 121)⟩, ⟨(some 123), none, .load false 1 (.t 122)⟩, ⟨(some 124), none, .mv (.t 5)⟩, ⟨(some 125), none, .len false (.t 124)⟩, ⟨(some 126), none, .bin .lss (.t 123) (.t 125)⟩])
  (.keep [0, 2, 5, 8, 126] (.cond (.t 126) (.seq (.draw [(.pl, ⟨(some 127), none, .bld [(.sl 0 1 []), (.sl 0 1 [])] []⟩), (.pl, ⟨(some 128), none, .mv (.t 5)⟩), (.pl, ⟨(some 129), none, .mv (.t 8)⟩), (.pl, ⟨(some 130), none, .nilchk (.t 129)⟩), (.pl, ⟨(some 131), none, .fa 1 (.t 130)⟩), (.fl, ⟨(some 132), none, .load false 1 (.t 131)⟩), (.pl, ⟨(some 133), none, .ia 3 (.t 128) (.t 132)⟩), (.pl, ⟨(some 134), none, .fa 2 (.t 133)⟩), (.fl, ⟨(some 135), none, .load false 1 (.t 134)⟩), (.eff, ⟨none, none, .store 2 (.t 2) (.t 127)⟩), (.pl, ⟨(some 3), none, .mv (.t 135)⟩), (.pl, ⟨(some 4), none, .mv (.c (.int .i64 (2)))⟩)]) .ret) .skip)))
  (.keep [0, 2] (.seq (.reg [⟨(some 136), none, .bld [(.sl 0 1 []), (.sl 0 1 [])] []⟩, ⟨(some 137), none, .mv (.t 0)⟩, ⟨(some 138), none, .len true (.t 137)⟩, ⟨none, none, .store 2 (.t 2) (.t 136)⟩, ⟨(some 3), none, .mv (.t 138)⟩, ⟨(some 4), none, .mv (.c (.int .i64 (2)))⟩]) .ret))) .skip)))
  (.keep [2, 8] (.seq (.seq (.reg [⟨(some 139), none, .mv (.t 8)⟩, ⟨(some 140), none, .nilchk (.t 139)⟩, ⟨(some 141), none, .fa 3 (.t 140)⟩, ⟨(some 142), none, .fa 0 (.t 141)⟩, ⟨(some 143), none, .load false 1 (.t 142)⟩, ⟨(some 144), none, .len false (.t 143)⟩, ⟨(some 145), none, .bin .gtr (.t 144) (.c (.int .i64 (24)))⟩, ⟨(some 146), none, .mv (.t 145)⟩, ⟨(some 147), (some (146, false)), .mv (.t 8)⟩, ⟨(some 148), (some (146, false)), .nilchk (.t 147)⟩, ⟨(some 149), (some (146, false)), .fa 3 (.t 148)⟩, ⟨(some 150), (some (146, false)), .fa 1 (.t 149)⟩, ⟨(some 151), (some (146, false)), .load false 1 (.t 150)⟩, ⟨(some 152), (some (146, false)), .len false (.t 151)⟩, ⟨(some 153), (some (146, false)), .bin .gtr (.t 152) (.c (.int .i64 (200)))⟩, ⟨(some 154), none, .pick (.t 146) (.c (.bool true)) (.t 153)⟩])
  (.keep [2, 8, 154] (.cond (.t 154) (.seq (.reg [⟨(some 155), none, .bld [(.sl 0 1 []), (.sl 0 1 [])] []⟩, ⟨none, none, .store 2 (.t 2) (.t 155)⟩, ⟨(some 3), none, .mv (.c (.int .i64 (0)))⟩, ⟨(some 4), none, .mv (.c (.int .i64 (5)))⟩]) .ret) .skip)))
  (.keep [2, 8] (.seq (.seq (.reg [⟨(some 11), none, .mv (.c (.int .i64 (0)))⟩])
  (.keep [2, 8, 11] (.block 2 (.loop A.probateref06_Read.L1))))
  (.keep [2, 8] (.seq (.seq (.reg [⟨(some 12), none, .mv (.c (.int .i64 (0)))⟩])
  (.keep [2, 8, 12] (.block 4 (.loop A.probateref06_Read.L2))))
  (.keep [2, 8] (.seq (.reg [⟨(some 221), none, .mv (.t 8)⟩, ⟨(some 222), none, .nilchk (.t 221)⟩, ⟨(some 223), none, .fa 3 (.t 222)⟩, ⟨(some 224), none, .load true 2 (.t 223)⟩, ⟨none, none, .store 2 (.t 2) (.t 224)⟩, ⟨(some 3), none, .mv (.c (.int .i64 (0)))⟩, ⟨(some 4), none, .mv (.c (.int .i64 (0)))⟩]) .ret)))))))))))))))))))⟩
def A.probateref06_Same.L0 : AC := .post (.seq (.seq (.reg [⟨(some 23), none, .mv (.t 5)⟩, ⟨(some 24), none, .fa 0 (.t 2)⟩, ⟨(some 25), none, .load false 1 (.t 24)⟩, ⟨(some 26), none, .len false (.t 25)⟩, ⟨(some 27), none, .bin .lss (.t 23) (.t 26)⟩])
  (.keep [2, 3, 5, 27] (.cond (.t 27) .skip (.exit 0))))
  (.keep [2, 3, 5] (.seq (.block 1 (.seq (.draw [(.pl, ⟨(some 30), none, .fa 0 (.t 2)⟩), (.pl, ⟨(some 31), none, .load false 1 (.t 30)⟩), (.pl, ⟨(some 32), none, .mv (.t 5)⟩), (.pl, ⟨(some 33), none, .ia 2 (.t 31) (.t 32)⟩), (.pl, ⟨(some 34), none, .load true 2 (.t 33)⟩), (.pl, ⟨(some 35), none, .fa 0 (.t 3)⟩), (.pl, ⟨(some 36), none, .load false 1 (.t 35)⟩), (.pl, ⟨(some 37), none, .mv (.t 5)⟩), (.pl, ⟨(some 38), none, .ia 2 (.t 36) (.t 37)⟩), (.pl, ⟨(some 39), none, .load true 2 (.t 38)⟩), (.pl, ⟨(some 40), none, .eqs true [(.s, 0), (.i, 1)] (.t 34) (.t 39)⟩)])
  (.keep [2, 3, 5, 40] (.cond (.t 40) (.seq (.reg [⟨(some 4), none, .mv (.c (.bool false))⟩]) .ret) .skip))))
  (.keep [2, 3, 5] (.reg [⟨(some 28), none, .mv (.t 5)⟩, ⟨(some 29), none, .bin .add (.t 28) (.c (.int .i64 (1)))⟩, ⟨(some 5), none, .mv (.t 29)⟩]))))) [2, 3, 5]
def A.probateref06_Same.L1 : AC := .post (.seq (.seq (.reg [⟨(some 41), none, .mv (.t 6)⟩, ⟨(some 42), none, .fa 1 (.t 2)⟩, ⟨(some 43), none, .load false 1 (.t 42)⟩, ⟨(some 44), none, .len false (.t 43)⟩, ⟨(some 45), none, .bin .lss (.t 41) (.t 44)⟩])
  (.keep [2, 3, 6, 45] (.cond (.t 45) .skip (.exit 2))))
  (.keep [2, 3, 6] (.seq (.block 3 (.seq (.draw [(.pl, ⟨(some 48), none, .fa 1 (.t 2)⟩), (.pl, ⟨(some 49), none, .load false 1 (.t 48)⟩), (.pl, ⟨(some 50), none, .mv (.t 6)⟩), (.pl, ⟨(some 51), none, .ia 3 (.t 49) (.t 50)⟩), (.pl, ⟨(some 52), none, .fa 0 (.t 51)⟩), (.pl, ⟨(some 53), none, .load false 1 (.t 52)⟩), (.pl, ⟨(some 54), none, .fa 1 (.t 3)⟩), (.pl, ⟨(some 55), none, .load false 1 (.t 54)⟩), (.pl, ⟨(some 56), none, .mv (.t 6)⟩), (.pl, ⟨(some 57), none, .ia 3 (.t 55) (.t 56)⟩), (.pl, ⟨(some 58), none, .fa 0 (.t 57)⟩), (.pl, ⟨(some 59), none, .load false 1 (.t 58)⟩), (.pl, ⟨(some 60), none, .bin .neq (.t 53) (.t 59)⟩), (.pl, ⟨(some 61), none, .mv (.t 60)⟩), (.pl, ⟨(some 62), (some (61, false)), .fa 1 (.t 2)⟩), (.pl, ⟨(some 63), (some (61, false)), .load false 1 (.t 62)⟩), (.pl, ⟨(some 64), (some (61, false)), .mv (.t 6)⟩), (.pl, ⟨(some 65), (some (61, false)), .ia 3 (.t 63) (.t 64)⟩), (.pl, ⟨(some 66), (some (61, false)), .fa 1 (.t 65)⟩), (.pl, ⟨(some 67), (some (61, false)), .load false 1 (.t 66)⟩), (.pl, ⟨(some 68), (some (61, false)), .fa 1 (.t 3)⟩), (.pl, ⟨(some 69), (some (61, false)), .load false 1 (.t 68)⟩), (.pl, ⟨(some 70), (some (61, false)), .mv (.t 6)⟩), (.pl, ⟨(some 71), (some (61, false)), .ia 3 (.t 69) (.t 70)⟩), (.pl, ⟨(some 72), (some (61, false)), .fa 1 (.t 71)⟩), (.pl, ⟨(some 73), (some (61, false)), .load false 1 (.t 72)⟩), (.pl, ⟨(some 74), (some (61, false)), .bin .neq (.t 67) (.t 73)⟩), (.pl, ⟨(some 75), none, .pick (.t 61) (.c (.bool true)) (.t 74)⟩), (.pl, ⟨(some 76), none, .mv (.t 75)⟩), (.pl, ⟨(some 77), (some (76, false)), .fa 1 (.t 2)⟩), (.pl, ⟨(some 78), (some (76, false)), .load false 1 (.t 77)⟩), (.pl, ⟨(some 79), (some (76, false)), .mv (.t 6)⟩), (.pl, ⟨(some 80), (some (76, false)), .ia 3 (.t 78) (.t 79)⟩), (.pl, ⟨(some 81), (some (76, false)), .fa 2 (.t 80)⟩), (.pl, ⟨(some 82), (some (76, false)), .load false 1 (.t 81)⟩), (.pl, ⟨(some 83), (some (76, false)), .fa 1 (.t 3)⟩), (.pl, ⟨(some 84), (some (76, false)), .load false 1 (.t 83)⟩), (.pl, ⟨(some 85), (some (76, false)), .mv (.t 6)⟩), (.pl, ⟨(some 86), (some (76, false)), .ia 3 (.t 84) (.t 85)⟩), (.pl, ⟨(some 87), (some (76, false)), .fa 2 (.t 86)⟩), (.pl, ⟨(some 88), (some (76, false)), .load false 1 (.t 87)⟩), (.pl, ⟨(some 89), (some (76, false)), .call (.c (.fn K.probateref02_Same [] [])) [(.t 82), (.t 88)]⟩), (.pl, ⟨(some 90), (some (76, false)), .un .not (.t 89)⟩), (.pl, ⟨(some 91), none, .pick (.t 76) (.c (.bool true)) (.t 90)⟩)])
  (.keep [2, 3, 6, 91] (.cond (.t 91) (.seq (.reg [⟨(some 4), none, .mv (.c (.bool false))⟩]) .ret) .skip))))
  (.keep [2, 3, 6] (.reg [⟨(some 46), none, .mv (.t 6)⟩, ⟨(some 47), none, .bin .add (.t 46) (.c (.int .i64 (1)))⟩, ⟨(some 6), none, .mv (.t 47)⟩]))))) [2, 3, 6]
def A.probateref06_Same : AFn := ⟨92, [(4, none)], (.seq (.reg [⟨(some 2), none, .box (.t 0)⟩, ⟨(some 3), none, .box (.t 1)⟩, ⟨(some 4), none, .mv (.c (.bool false))⟩])
  (.keep [2, 3] (.seq (.seq (.reg [⟨(some 7), none, .fa 0 (.t 2)⟩, ⟨(some 8), none, .load false 1 (.t 7)⟩, ⟨(some 9), none, .len false (.t 8)⟩, ⟨(some 10), none, .fa 0 (.t 3)⟩, ⟨(some 11), none, .load false 1 (.t 10)⟩, ⟨(some 12), none, .len false (.t 11)⟩, ⟨(some 13), none, .bin .neq (.t 9) (.t 12)⟩, ⟨(some 14), none, .mv (.t 13)⟩, ⟨(some 15), (some (14, false)), .fa 1 (.t 2)⟩, ⟨(some 16), (some (14, false)), .load false 1 (.t 15)⟩, ⟨(some 17), (some (14, false)), .len false (.t 16)⟩, ⟨(some 18), (some (14, false)), .fa 1 (.t 3)⟩, ⟨(some 19), (some (14, false)), .load false 1 (.t 18)⟩, ⟨(some 20), (some (14, false)), .len false (.t 19)⟩, ⟨(some 21), (some (14, false)), .bin .neq (.t 17) (.t 20)⟩, ⟨(some 22), none, .pick (.t 14) (.c (.bool true)) (.t 21)⟩])
  (.keep [2, 3, 22] (.cond (.t 22) (.seq (.reg [⟨(some 4), none, .mv (.c (.bool false))⟩]) .ret) .skip)))
  (.keep [2, 3] (.seq (.seq (.reg [⟨(some 5), none, .mv (.c (.int .i64 (0)))⟩])
  (.keep [2, 3, 5] (.block 0 (.loop A.probateref06_Same.L0))))
  (.keep [2, 3] (.seq (.seq (.reg [⟨(some 6), none, .mv (.c (.int .i64 (0)))⟩])
  (.keep [2, 3, 6] (.block 2 (.loop A.probateref06_Same.L1))))
  (.keep [] (.seq (.reg [⟨(some 4), none, .mv (.c (.bool true))⟩]) .ret)))))))))⟩
def A.probateref06_Right.L1 : AC := .post (.seq (.seq (.reg [⟨(some 72), none, .mv (.t 8)⟩, ⟨(some 73), none, .mv (.t 4)⟩, ⟨(some 74), none, .bin .lss (.t 72) (.t 73)⟩])
  (.keep [1, 3, 4, 8, 74] (.cond (.t 74) .skip (.exit 2))))
  (.keep [1, 3, 4, 8] (.seq (.block 3 (.seq (.draw [(.pl, ⟨(some 77), none, .fa 0 (.t 1)⟩), (.pl, ⟨(some 78), none, .load false 1 (.t 77)⟩), (.pl, ⟨(some 79), none, .mv (.t 8)⟩), (.pl, ⟨(some 80), none, .ia 2 (.t 78) (.t 79)⟩), (.pl, ⟨(some 81), none, .fa 0 (.t 80)⟩), (.pl, ⟨(some 82), none, .load false 1 (.t 81)⟩), (.pl, ⟨(some 83), none, .fa 0 (.t 1)⟩), (.pl, ⟨(some 84), none, .load false 1 (.t 83)⟩), (.pl, ⟨(some 85), none, .mv (.t 4)⟩), (.pl, ⟨(some 86), none, .ia 2 (.t 84) (.t 85)⟩), (.pl, ⟨(some 87), none, .fa 0 (.t 86)⟩), (.pl, ⟨(some 88), none, .load false 1 (.t 87)⟩), (.pl, ⟨(some 89), none, .bin .eql (.t 82) (.t 88)⟩)])
  (.keep [1, 3, 4, 8, 89] (.cond (.t 89) (.seq (.reg [⟨(some 2), none, .mv (.c (.bool false))⟩]) .ret) .skip))))
  (.keep [1, 3, 4, 8] (.reg [⟨(some 75), none, .mv (.t 8)⟩, ⟨(some 76), none, .bin .add (.t 75) (.c (.int .i64 (1)))⟩, ⟨(some 8), none, .mv (.t 76)⟩]))))) [1, 3, 4, 8]
def A.probateref06_Right.L0 : AC := .post (.seq (.seq (.reg [⟨(some 27), none, .mv (.t 4)⟩, ⟨(some 28), none, .fa 0 (.t 1)⟩, ⟨(some 29), none, .load false 1 (.t 28)⟩, ⟨(some 30), none, .len false (.t 29)⟩, ⟨(some 31), none, .bin .lss (.t 27) (.t 30)⟩])
  (.keep [1, 3, 4, 31] (.cond (.t 31) .skip (.exit 0))))
  (.keep [1, 3, 4] (.seq (.block 1 (.seq (.reg [⟨(some 35), none, .fa 0 (.t 1)⟩, ⟨(some 36), none, .load false 1 (.t 35)⟩, ⟨(some 37), none, .mv (.t 4)⟩, ⟨(some 38), none, .ia 2 (.t 36) (.t 37)⟩, ⟨(some 39), none, .fa 0 (.t 38)⟩, ⟨(some 40), none, .load false 1 (.t 39)⟩, ⟨(some 41), none, .call (.c (.fn K.probateref05_Scan [] [])) [(.t 40)]⟩, ⟨(some 34), none, .mv (.t 41)⟩, ⟨(some 42), none, .ext (.t 34) 0⟩, ⟨(some 43), none, .ext (.t 34) 1⟩, ⟨(some 44), none, .ext (.t 34) 2⟩, ⟨(some 5), none, .mv (.t 42)⟩, ⟨(some 6), none, .mv (.t 43)⟩, ⟨(some 7), none, .mv (.t 44)⟩])
  (.keep [1, 3, 4, 5, 7] (.seq (.seq (.draw [(.pl, ⟨(some 45), none, .mv (.t 7)⟩), (.pl, ⟨(some 46), none, .bin .neq (.t 45) (.c (.int .i64 (0)))⟩), (.pl, ⟨(some 47), none, .mv (.t 46)⟩), (.pl, ⟨(some 48), (some (47, false)), .mv (.t 5)⟩), (.pl, ⟨(some 49), (some (47, false)), .len false (.t 48)⟩), (.pl, ⟨(some 50), (some (47, false)), .bin .neq (.t 49) (.c (.int .i64 (1)))⟩), (.pl, ⟨(some 51), none, .pick (.t 47) (.c (.bool true)) (.t 50)⟩), (.pl, ⟨(some 52), none, .mv (.t 51)⟩), (.pl, ⟨(some 53), (some (52, false)), .mv (.t 5)⟩), (.pl, ⟨(some 54), (some (52, false)), .ia 3 (.t 53) (.c (.int .i64 (0)))⟩), (.pl, ⟨(some 55), (some (52, false)), .fa 0 (.t 54)⟩), (.pl, ⟨(some 56), (some (52, false)), .load false 1 (.t 55)⟩), (.pl, ⟨(some 57), (some (52, false)), .bin .neq (.t 56) (.c (.int .i64 (1)))⟩), (.pl, ⟨(some 58), none, .pick (.t 52) (.c (.bool true)) (.t 57)⟩), (.pl, ⟨(some 59), none, .mv (.t 58)⟩), (.pl, ⟨(some 60), (some (59, false)), .mv (.t 5)⟩), (.pl, ⟨(some 61), (some (59, false)), .ia 3 (.t 60) (.c (.int .i64 (0)))⟩), (.pl, ⟨(some 62), (some (59, false)), .fa 1 (.t 61)⟩), (.pl, ⟨(some 63), (some (59, false)), .load false 1 (.t 62)⟩), (.pl, ⟨(some 64), (some (59, false)), .fa 0 (.t 1)⟩), (.pl, ⟨(some 65), (some (59, false)), .load false 1 (.t 64)⟩), (.pl, ⟨(some 66), (some (59, false)), .mv (.t 4)⟩), (.pl, ⟨(some 67), (some (59, false)), .ia 2 (.t 65) (.t 66)⟩), (.pl, ⟨(some 68), (some (59, false)), .fa 0 (.t 67)⟩), (.pl, ⟨(some 69), (some (59, false)), .load false 1 (.t 68)⟩), (.pl, ⟨(some 70), (some (59, false)), .bin .neq (.t 63) (.t 69)⟩), (.pl, ⟨(some 71), none, .pick (.t 59) (.c (.bool true)) (.t 70)⟩)])
  (.keep [1, 3, 4, 71] (.cond (.t 71) (.seq (.reg [⟨(some 2), none, .mv (.c (.bool false))⟩]) .ret) .skip)))
  (.keep [1, 3, 4] (.seq (.seq (.reg [⟨(some 8), none, .mv (.c (.int .i64 (0)))⟩])
  (.keep [1, 3, 4, 8] (.block 2 (.loop A.probateref06_Right.L1))))
  (.keep [1, 3, 4] (.draw [(.pl, ⟨(some 90), none, .load true 2 (.t 1)⟩), (.pl, ⟨(some 91), none, .fa 0 (.t 1)⟩), (.pl, ⟨(some 92), none, .load false 1 (.t 91)⟩), (.pl, ⟨(some 93), none, .mv (.t 4)⟩), (.pl, ⟨(some 94), none, .ia 2 (.t 92) (.t 93)⟩), (.pl, ⟨(some 95), none, .fa 1 (.t 94)⟩), (.pl, ⟨(some 96), none, .load false 1 (.t 95)⟩), (.pl, ⟨(some 97), none, .mv (.t 3)⟩), (.eff, ⟨(some 98), none, .call (.c (.fn K.probateref06_under [] [])) [(.t 90), (.t 96), (.t 97)]⟩), (.pl, ⟨(some 3), none, .mv (.t 98)⟩)]))))))))
  (.keep [1, 3, 4] (.reg [⟨(some 32), none, .mv (.t 4)⟩, ⟨(some 33), none, .bin .add (.t 32) (.c (.int .i64 (1)))⟩, ⟨(some 4), none, .mv (.t 33)⟩]))))) [1, 3, 4]
def A.probateref06_Right.L2 : AC := .post (.seq (.seq (.reg [⟨(some 105), none, .mv (.t 9)⟩, ⟨(some 106), none, .mv (.t 3)⟩, ⟨(some 107), none, .len false (.t 106)⟩, ⟨(some 108), none, .bin .lss (.t 105) (.t 107)⟩])
  (.keep [1, 3, 9, 108] (.cond (.t 108) .skip (.exit 4))))
  (.keep [1, 3, 9] (.seq (.block 5 (.seq (.draw [(.pl, ⟨(some 111), none, .mv (.t 3)⟩), (.pl, ⟨(some 112), none, .mv (.t 9)⟩), (.pl, ⟨(some 113), none, .ia 1 (.t 111) (.t 112)⟩), (.pl, ⟨(some 114), none, .load false 1 (.t 113)⟩), (.pl, ⟨(some 115), none, .mv (.t 9)⟩), (.pl, ⟨(some 116), none, .bin .neq (.t 114) (.t 115)⟩), (.pl, ⟨(some 117), none, .mv (.t 116)⟩), (.pl, ⟨(some 118), (some (117, false)), .load true 2 (.t 1)⟩), (.pl, ⟨(some 119), (some (117, false)), .fa 1 (.t 1)⟩), (.pl, ⟨(some 120), (some (117, false)), .load false 1 (.t 119)⟩), (.pl, ⟨(some 121), (some (117, false)), .mv (.t 9)⟩), (.pl, ⟨(some 122), (some (117, false)), .ia 3 (.t 120) (.t 121)⟩), (.pl, ⟨(some 123), (some (117, false)), .load true 3 (.t 122)⟩), (.pl, ⟨(some 124), (some (117, false)), .call (.c (.fn K.probateref06_Tree_fine [] [])) [(.t 118), (.t 123)]⟩), (.pl, ⟨(some 125), (some (117, false)), .un .not (.t 124)⟩), (.pl, ⟨(some 126), none, .pick (.t 117) (.c (.bool true)) (.t 125)⟩)])
  (.keep [1, 3, 9, 126] (.cond (.t 126) (.seq (.reg [⟨(some 2), none, .mv (.c (.bool false))⟩]) .ret) .skip))))
  (.keep [1, 3, 9] (.reg [⟨(some 109), none, .mv (.t 9)⟩, ⟨(some 110), none, .bin .add (.t 109) (.c (.int .i64 (1)))⟩, ⟨(some 9), none, .mv (.t 110)⟩]))))) [1, 3, 9]
def A.probateref06_Right : AFn := ⟨127, [(2, none)], (.seq (.reg [⟨(some 1), none, .box (.t 0)⟩, ⟨(some 2), none, .mv (.c (.bool false))⟩])
  (.keep [1] (.seq (.seq (.reg [⟨(some 10), none, .fa 0 (.t 1)⟩, ⟨(some 11), none, .load false 1 (.t 10)⟩, ⟨(some 12), none, .len false (.t 11)⟩, ⟨(some 13), none, .bin .lss (.t 12) (.c (.int .i64 (1)))⟩, ⟨(some 14), none, .mv (.t 13)⟩, ⟨(some 15), (some (14, false)), .fa 0 (.t 1)⟩, ⟨(some 16), (some (14, false)), .load false 1 (.t 15)⟩, ⟨(some 17), (some (14, false)), .len false (.t 16)⟩, ⟨(some 18), (some (14, false)), .bin .gtr (.t 17) (.c (.int .i64 (24)))⟩, ⟨(some 19), none, .pick (.t 14) (.c (.bool true)) (.t 18)⟩, ⟨(some 20), none, .mv (.t 19)⟩, ⟨(some 21), (some (20, false)), .fa 1 (.t 1)⟩, ⟨(some 22), (some (20, false)), .load false 1 (.t 21)⟩, ⟨(some 23), (some (20, false)), .len false (.t 22)⟩, ⟨(some 24), (some (20, false)), .bin .gtr (.t 23) (.c (.int .i64 (200)))⟩, ⟨(some 25), none, .pick (.t 20) (.c (.bool true)) (.t 24)⟩])
  (.keep [1, 25] (.cond (.t 25) (.seq (.reg [⟨(some 2), none, .mv (.c (.bool false))⟩]) .ret) .skip)))
  (.keep [1] (.seq (.reg [⟨(some 26), none, .bsl 1 false [(.int .i64 (0))] 0 []⟩, ⟨(some 3), none, .mv (.t 26)⟩])
  (.keep [1, 3] (.seq (.seq (.reg [⟨(some 4), none, .mv (.c (.int .i64 (0)))⟩])
  (.keep [1, 3, 4] (.block 0 (.loop A.probateref06_Right.L0))))
  (.keep [1, 3] (.seq (.seq (.reg [⟨(some 99), none, .mv (.t 3)⟩, ⟨(some 100), none, .len false (.t 99)⟩, ⟨(some 101), none, .fa 1 (.t 1)⟩, ⟨(some 102), none, .load false 1 (.t 101)⟩, ⟨(some 103), none, .len false (.t 102)⟩, ⟨(some 104), none, .bin .neq (.t 100) (.t 103)⟩])
  (.keep [1, 3, 104] (.cond (.t 104) (.seq (.reg [⟨(some 2), none, .mv (.c (.bool false))⟩]) .ret) .skip)))
  (.keep [1, 3] (.seq (.seq (.reg [⟨(some 9), none, .mv (.c (.int .i64 (0)))⟩])
  (.keep [1, 3, 9] (.block 4 (.loop A.probateref06_Right.L2))))
  (.keep [] (.seq (.reg [⟨(some 2), none, .mv (.c (.bool true))⟩]) .ret)))))))))))))⟩
def A.probateref06_reader_must : AFn := ⟨23, [], (.seq (.seq (.reg [⟨(some 4), none, .mv (.t 0)⟩, ⟨(some 5), none, .mv (.t 1)⟩, ⟨(some 6), none, .call (.c (.fn K.probateref06_reader_mark [] [])) [(.t 4), (.t 5)]⟩, ⟨(some 7), none, .un .not (.t 6)⟩])
  (.keep [0, 7] (.cond (.t 7) (.reg [⟨(some 8), none, .mv (.t 0)⟩, ⟨(some 9), none, .nilchk (.t 8)⟩, ⟨(some 10), none, .fa 2 (.t 9)⟩, ⟨none, none, .store 1 (.t 10) (.c (.bool true))⟩]) .skip)))
  (.keep [0] (.seq (.reg [⟨(some 11), none, .mv (.t 0)⟩, ⟨(some 12), none, .nilchk (.t 11)⟩, ⟨(some 13), none, .fa 2 (.t 12)⟩, ⟨(some 14), none, .load false 1 (.t 13)⟩, ⟨(some 15), none, .un .not (.t 14)⟩])
  (.keep [0, 15] (.cond (.t 15) (.reg [⟨(some 16), none, .mv (.t 0)⟩, ⟨(some 17), none, .nilchk (.t 16)⟩, ⟨(some 18), none, .fa 1 (.t 17)⟩, ⟨(some 19), none, .load false 1 (.t 18)⟩, ⟨(some 20), none, .bin .add (.t 19) (.c (.int .i64 (1)))⟩, ⟨(some 21), none, .nilchk (.t 16)⟩, ⟨(some 22), none, .fa 1 (.t 21)⟩, ⟨none, none, .store 1 (.t 22) (.t 20)⟩]) .skip)))))⟩
def A.probateref06_reader_alternatives.L0 : AC := .post (.seq (.seq (.reg [⟨(some 7), none, .mv (.t 0)⟩, ⟨(some 8), none, .call (.c (.fn K.probateref06_reader_mark [] [])) [(.t 7), (.c (.str [124]))]⟩])
  (.keep [0, 3, 8] (.cond (.t 8) .skip (.exit 0))))
  (.keep [0, 3] (.block 1 (.seq (.reg [⟨(some 9), none, .mv (.t 0)⟩, ⟨(some 10), none, .nilchk (.t 9)⟩, ⟨(some 11), none, .fa 1 (.t 10)⟩, ⟨(some 12), none, .load false 1 (.t 11)⟩, ⟨(some 13), none, .bin .add (.t 12) (.c (.int .i64 (1)))⟩, ⟨(some 14), none, .nilchk (.t 9)⟩, ⟨(some 15), none, .fa 1 (.t 14)⟩, ⟨none, none, .store 1 (.t 15) (.t 13)⟩])
  (.keep [0, 3] (.reg [⟨(some 16), none, .mv (.t 3)⟩, ⟨(some 17), none, .mv (.t 0)⟩, ⟨(some 18), none, .call (.c (.fn K.probateref06_reader_items [] [])) [(.t 17)]⟩, ⟨(some 19), none, .bsl 1 false [(.int .i64 (0))] 1 [(0, (.t 18))]⟩, ⟨(some 20), none, .app 1 8 (.t 16) (.t 19)⟩, ⟨(some 3), none, .mv (.t 20)⟩])))))) [0, 3]
def A.probateref06_reader_alternatives : AFn := ⟨30, [(2, none)], (.seq (.reg [⟨(some 2), none, .mv (.c (.int .i64 (0)))⟩])
  (.keep [0] (.seq (.reg [⟨(some 4), none, .mv (.t 0)⟩, ⟨(some 5), none, .call (.c (.fn K.probateref06_reader_items [] [])) [(.t 4)]⟩, ⟨(some 6), none, .bsl 1 false [(.int .i64 (0))] 1 [(0, (.t 5))]⟩, ⟨(some 3), none, .mv (.t 6)⟩])
  (.keep [0, 3] (.seq (.block 0 (.loop A.probateref06_reader_alternatives.L0))
  (.keep [0, 3] (.seq (.seq (.reg [⟨(some 21), none, .mv (.t 3)⟩, ⟨(some 22), none, .len false (.t 21)⟩, ⟨(some 23), none, .bin .eql (.t 22) (.c (.int .i64 (1)))⟩])
  (.keep [0, 3, 23] (.cond (.t 23) (.seq (.reg [⟨(some 24), none, .mv (.t 3)⟩, ⟨(some 25), none, .ia 1 (.t 24) (.c (.int .i64 (0)))⟩, ⟨(some 26), none, .load false 1 (.t 25)⟩, ⟨(some 2), none, .mv (.t 26)⟩]) .ret) .skip)))
  (.keep [0, 3] (.seq (.reg [⟨(some 27), none, .mv (.t 0)⟩, ⟨(some 28), none, .mv (.t 3)⟩, ⟨(some 29), none, .call (.c (.fn K.probateref06_reader_lay [] [])) [(.t 27), (.c (.int .i64 (2))), (.c (.str [])), (.t 28)]⟩, ⟨(some 2), none, .mv (.t 29)⟩]) .ret)))))))))⟩
def A.probateref06_has.L0 : AC := .post (.seq (.seq (.reg [⟨(some 6), none, .mv (.t 5)⟩, ⟨(some 7), none, .mv (.t 0)⟩, ⟨(some 8), none, .len false (.t 7)⟩, ⟨(some 9), none, .bin .lss (.t 6) (.t 8)⟩])
  (.keep [0, 1, 5, 9] (.cond (.t 9) .skip (.exit 0))))
  (.keep [0, 1, 5] (.seq (.block 1 (.seq (.reg [⟨(some 12), none, .mv (.t 0)⟩, ⟨(some 13), none, .mv (.t 5)⟩, ⟨(some 14), none, .ia 3 (.t 12) (.t 13)⟩, ⟨(some 15), none, .fa 1 (.t 14)⟩, ⟨(some 16), none, .load false 1 (.t 15)⟩, ⟨(some 17), none, .mv (.t 1)⟩, ⟨(some 18), none, .bin .eql (.t 16) (.t 17)⟩])
  (.keep [0, 1, 5, 18] (.cond (.t 18) (.seq (.reg [⟨(some 4), none, .mv (.c (.bool true))⟩]) .ret) .skip))))
  (.keep [0, 1, 5] (.reg [⟨(some 10), none, .mv (.t 5)⟩, ⟨(some 11), none, .bin .add (.t 10) (.c (.int .i64 (1)))⟩, ⟨(some 5), none, .mv (.t 11)⟩]))))) [0, 1, 5]
def A.probateref06_has : AFn := ⟨19, [(4, none)], (.seq (.reg [⟨(some 4), none, .mv (.c (.bool false))⟩])
  (.keep [0, 1] (.seq (.seq (.reg [⟨(some 5), none, .mv (.c (.int .i64 (0)))⟩])
  (.keep [0, 1, 5] (.block 0 (.loop A.probateref06_has.L0))))
  (.keep [] (.seq (.reg [⟨(some 4), none, .mv (.c (.bool false))⟩]) .ret)))))⟩
def A.probateref06_under.L0 : AC := .post (.seq (.seq (.reg [⟨(some 29), none, .mv (.t 7)⟩, ⟨(some 30), none, .fa 1 (.t 3)⟩, ⟨(some 31), none, .load false 1 (.t 30)⟩, ⟨(some 32), none, .mv (.t 1)⟩, ⟨(some 33), none, .ia 3 (.t 31) (.t 32)⟩, ⟨(some 34), none, .fa 2 (.t 33)⟩, ⟨(some 35), none, .load false 1 (.t 34)⟩, ⟨(some 36), none, .len false (.t 35)⟩, ⟨(some 37), none, .bin .lss (.t 29) (.t 36)⟩])
  (.keep [1, 2, 3, 7, 37] (.cond (.t 37) .skip (.exit 0))))
  (.keep [1, 2, 3, 7] (.seq (.block 1 (.seq (.reg [⟨(some 40), none, .fa 1 (.t 3)⟩, ⟨(some 41), none, .load false 1 (.t 40)⟩, ⟨(some 42), none, .mv (.t 1)⟩, ⟨(some 43), none, .ia 3 (.t 41) (.t 42)⟩, ⟨(some 44), none, .fa 2 (.t 43)⟩, ⟨(some 45), none, .load false 1 (.t 44)⟩, ⟨(some 46), none, .mv (.t 7)⟩, ⟨(some 47), none, .ia 1 (.t 45) (.t 46)⟩, ⟨(some 48), none, .load false 1 (.t 47)⟩, ⟨(some 8), none, .mv (.t 48)⟩])
  (.keep [1, 2, 3, 7, 8] (.seq (.seq (.reg [⟨(some 49), none, .mv (.t 8)⟩, ⟨(some 50), none, .mv (.t 1)⟩, ⟨(some 51), none, .bin .geq (.t 49) (.t 50)⟩, ⟨(some 52), none, .mv (.t 51)⟩, ⟨(some 53), (some (52, false)), .mv (.t 2)⟩, ⟨(some 54), (some (52, false)), .len false (.t 53)⟩, ⟨(some 55), (some (52, false)), .fa 1 (.t 3)⟩, ⟨(some 56), (some (52, false)), .load false 1 (.t 55)⟩, ⟨(some 57), (some (52, false)), .len false (.t 56)⟩, ⟨(some 58), (some (52, false)), .bin .gtr (.t 54) (.t 57)⟩, ⟨(some 59), none, .pick (.t 52) (.c (.bool true)) (.t 58)⟩])
  (.keep [1, 2, 3, 7, 8, 59] (.cond (.t 59) (.seq (.reg [⟨(some 60), none, .mv (.t 2)⟩, ⟨(some 61), none, .bsl 1 false [(.int .i64 (0))] 1 [(0, (.c (.int .i64 (-1))))]⟩, ⟨(some 62), none, .app 1 8 (.t 60) (.t 61)⟩, ⟨(some 6), none, .mv (.t 62)⟩]) .ret) .skip)))
  (.keep [1, 2, 3, 7, 8] (.reg [⟨(some 63), none, .load true 2 (.t 3)⟩, ⟨(some 64), none, .mv (.t 8)⟩, ⟨(some 65), none, .mv (.t 2)⟩, ⟨(some 66), none, .call (.c (.fn K.probateref06_under [] [])) [(.t 63), (.t 64), (.t 65)]⟩, ⟨(some 2), none, .mv (.t 66)⟩]))))))
  (.keep [1, 2, 3, 7] (.reg [⟨(some 38), none, .mv (.t 7)⟩, ⟨(some 39), none, .bin .add (.t 38) (.c (.int .i64 (1)))⟩, ⟨(some 7), none, .mv (.t 39)⟩]))))) [1, 2, 3, 7]
def A.probateref06_under : AFn := ⟨71, [(6, none)], (.seq (.reg [⟨(some 3), none, .box (.t 0)⟩, ⟨(some 6), none, .mv (.c (.sl 0 1 []))⟩])
  (.keep [1, 2, 3] (.seq (.seq (.reg [⟨(some 9), none, .mv (.t 1)⟩, ⟨(some 10), none, .bin .lss (.t 9) (.c (.int .i64 (0)))⟩, ⟨(some 11), none, .mv (.t 10)⟩, ⟨(some 12), (some (11, false)), .mv (.t 1)⟩, ⟨(some 13), (some (11, false)), .fa 1 (.t 3)⟩, ⟨(some 14), (some (11, false)), .load false 1 (.t 13)⟩, ⟨(some 15), (some (11, false)), .len false (.t 14)⟩, ⟨(some 16), (some (11, false)), .bin .geq (.t 12) (.t 15)⟩, ⟨(some 17), none, .pick (.t 11) (.c (.bool true)) (.t 16)⟩, ⟨(some 18), none, .mv (.t 17)⟩, ⟨(some 19), (some (18, false)), .mv (.t 2)⟩, ⟨(some 20), (some (18, false)), .len false (.t 19)⟩, ⟨(some 21), (some (18, false)), .fa 1 (.t 3)⟩, ⟨(some 22), (some (18, false)), .load false 1 (.t 21)⟩, ⟨(some 23), (some (18, false)), .len false (.t 22)⟩, ⟨(some 24), (some (18, false)), .bin .gtr (.t 20) (.t 23)⟩, ⟨(some 25), none, .pick (.t 18) (.c (.bool true)) (.t 24)⟩])
  (.keep [1, 2, 3, 25] (.cond (.t 25) (.seq (.reg [⟨(some 26), none, .mv (.t 2)⟩, ⟨(some 27), none, .bsl 1 false [(.int .i64 (0))] 1 [(0, (.c (.int .i64 (-1))))]⟩, ⟨(some 28), none, .app 1 8 (.t 26) (.t 27)⟩, ⟨(some 6), none, .mv (.t 28)⟩]) .ret) .skip)))
  (.keep [1, 2, 3] (.seq (.seq (.reg [⟨(some 7), none, .mv (.c (.int .i64 (0)))⟩])
  (.keep [1, 2, 3, 7] (.block 0 (.loop A.probateref06_under.L0))))
  (.keep [1, 2] (.seq (.reg [⟨(some 67), none, .mv (.t 2)⟩, ⟨(some 68), none, .mv (.t 1)⟩, ⟨(some 69), none, .bsl 1 false [(.int .i64 (0))] 1 [(0, (.t 68))]⟩, ⟨(some 70), none, .app 1 8 (.t 67) (.t 69)⟩, ⟨(some 6), none, .mv (.t 70)⟩]) .ret)))))))⟩
def A.probateref06_Tree_fine : AFn := ⟨65, [(4, none)], (.seq (.reg [⟨(some 2), none, .box (.t 0)⟩, ⟨(some 3), none, .box (.t 1)⟩, ⟨(some 4), none, .mv (.c (.bool false))⟩])
  (.keep [2, 3] (.seq (.reg [⟨(some 6), none, .fa 2 (.t 3)⟩, ⟨(some 7), none, .load false 1 (.t 6)⟩, ⟨(some 8), none, .len false (.t 7)⟩, ⟨(some 5), none, .mv (.t 8)⟩])
  (.keep [2, 3, 5] (.seq (.seq (.reg [⟨(some 9), none, .fa 0 (.t 3)⟩, ⟨(some 10), none, .load false 1 (.t 9)⟩, ⟨(some 11), none, .bin .eql (.t 10) (.c (.int .i64 (6)))⟩])
  (.keep [2, 3, 5, 11] (.cond (.t 11) (.seq (.reg [⟨(some 12), none, .mv (.t 5)⟩, ⟨(some 13), none, .bin .eql (.t 12) (.c (.int .i64 (0)))⟩, ⟨(some 14), none, .mv (.t 13)⟩, ⟨(some 15), (some (14, true)), .load true 2 (.t 2)⟩, ⟨(some 16), (some (14, true)), .fa 1 (.t 3)⟩, ⟨(some 17), (some (14, true)), .load false 1 (.t 16)⟩, ⟨(some 18), (some (14, true)), .call (.c (.fn K.probateref06_Tree_rule [] [])) [(.t 15), (.t 17)]⟩, ⟨(some 19), none, .pick (.t 14) (.t 18) (.c (.bool false))⟩, ⟨(some 4), none, .mv (.t 19)⟩]) .ret) .skip)))
  (.keep [3, 5] (.seq (.seq (.reg [⟨(some 20), none, .fa 0 (.t 3)⟩, ⟨(some 21), none, .load false 1 (.t 20)⟩, ⟨(some 22), none, .bin .eql (.t 21) (.c (.int .i64 (7)))⟩])
  (.keep [3, 5, 22] (.cond (.t 22) (.seq (.reg [⟨(some 23), none, .mv (.t 5)⟩, ⟨(some 24), none, .bin .eql (.t 23) (.c (.int .i64 (0)))⟩, ⟨(some 25), none, .mv (.t 24)⟩, ⟨(some 26), (some (25, true)), .fa 1 (.t 3)⟩, ⟨(some 27), (some (25, true)), .load false 1 (.t 26)⟩, ⟨(some 28), (some (25, true)), .call (.c (.fn K.probateref06_quote [] [])) [(.t 27)]⟩, ⟨(some 29), none, .pick (.t 25) (.t 28) (.c (.bool false))⟩, ⟨(some 4), none, .mv (.t 29)⟩]) .ret) .skip)))
  (.keep [3, 5] (.seq (.reg [⟨(some 30), none, .fa 1 (.t 3)⟩, ⟨(some 31), none, .load false 1 (.t 30)⟩, ⟨(some 32), none, .bin .eql (.t 31) (.c (.str []))⟩, ⟨(some 33), none, .mv (.t 32)⟩, ⟨(some 34), (some (33, true)), .fa 0 (.t 3)⟩, ⟨(some 35), (some (33, true)), .load false 1 (.t 34)⟩, ⟨(some 36), (some (33, true)), .bin .eql (.t 35) (.c (.int .i64 (1)))⟩, ⟨(some 37), (some (33, true)), .mv (.t 36)⟩, ⟨(some 38), (some (37, true)), .mv (.t 5)⟩, ⟨(some 39), (some (37, true)), .bin .neq (.t 38) (.c (.int .i64 (1)))⟩, ⟨(some 40), (some (33, true)), .pick (.t 37) (.t 39) (.c (.bool false))⟩, ⟨(some 41), (some (33, true)), .mv (.t 40)⟩, ⟨(some 42), (some (41, false)), .fa 0 (.t 3)⟩, ⟨(some 43), (some (41, false)), .load false 1 (.t 42)⟩, ⟨(some 44), (some (41, false)), .bin .eql (.t 43) (.c (.int .i64 (2)))⟩, ⟨(some 45), (some (41, false)), .mv (.t 44)⟩, ⟨(some 46), (some (45, true)), .mv (.t 5)⟩, ⟨(some 47), (some (45, true)), .bin .geq (.t 46) (.c (.int .i64 (2)))⟩, ⟨(some 48), (some (41, false)), .pick (.t 45) (.t 47) (.c (.bool false))⟩, ⟨(some 49), (some (33, true)), .pick (.t 41) (.c (.bool true)) (.t 48)⟩, ⟨(some 50), (some (33, true)), .mv (.t 49)⟩, ⟨(some 51), (some (50, false)), .fa 0 (.t 3)⟩, ⟨(some 52), (some (50, false)), .load false 1 (.t 51)⟩, ⟨(some 53), (some (50, false)), .bin .geq (.t 52) (.c (.int .i64 (3)))⟩, ⟨(some 54), (some (50, false)), .mv (.t 53)⟩, ⟨(some 55), (some (54, true)), .fa 0 (.t 3)⟩, ⟨(some 56), (some (54, true)), .load false 1 (.t 55)⟩, ⟨(some 57), (some (54, true)), .bin .leq (.t 56) (.c (.int .i64 (5)))⟩, ⟨(some 58), (some (50, false)), .pick (.t 54) (.t 57) (.c (.bool false))⟩, ⟨(some 59), (some (50, false)), .mv (.t 58)⟩, ⟨(some 60), (some (59, true)), .mv (.t 5)⟩, ⟨(some 61), (some (59, true)), .bin .eql (.t 60) (.c (.int .i64 (1)))⟩, ⟨(some 62), (some (50, false)), .pick (.t 59) (.t 61) (.c (.bool false))⟩, ⟨(some 63), (some (33, true)), .pick (.t 50) (.c (.bool true)) (.t 62)⟩, ⟨(some 64), none, .pick (.t 33) (.t 63) (.c (.bool false))⟩, ⟨(some 4), none, .mv (.t 64)⟩]) .ret)))))))))⟩
def A.probateref06_reader_mark : AFn := ⟨51, [(4, none)], (.seq (.reg [⟨(some 4), none, .mv (.c (.bool false))⟩])
  (.keep [0, 1] (.seq (.draw [(.pl, ⟨(some 5), none, .mv (.t 0)⟩), (.pl, ⟨(some 6), none, .nilchk (.t 5)⟩), (.pl, ⟨(some 7), none, .fa 2 (.t 6)⟩), (.pl, ⟨(some 8), none, .load false 1 (.t 7)⟩), (.pl, ⟨(some 9), none, .un .not (.t 8)⟩), (.pl, ⟨(some 10), none, .mv (.t 9)⟩), (.pl, ⟨(some 11), (some (10, true)), .mv (.t 0)⟩), (.pl, ⟨(some 12), (some (10, true)), .nilchk (.t 11)⟩), (.pl, ⟨(some 13), (some (10, true)), .fa 1 (.t 12)⟩), (.pl, ⟨(some 14), (some (10, true)), .load false 1 (.t 13)⟩), (.pl, ⟨(some 15), (some (10, true)), .mv (.t 0)⟩), (.pl, ⟨(some 16), (some (10, true)), .nilchk (.t 15)⟩), (.pl, ⟨(some 17), (some (10, true)), .fa 0 (.t 16)⟩), (.pl, ⟨(some 18), (some (10, true)), .load false 1 (.t 17)⟩), (.pl, ⟨(some 19), (some (10, true)), .len false (.t 18)⟩), (.pl, ⟨(some 20), (some (10, true)), .bin .lss (.t 14) (.t 19)⟩), (.pl, ⟨(some 21), none, .pick (.t 10) (.t 20) (.c (.bool false))⟩), (.pl, ⟨(some 22), none, .mv (.t 21)⟩), (.pl, ⟨(some 23), (some (22, true)), .mv (.t 0)⟩), (.pl, ⟨(some 24), (some (22, true)), .nilchk (.t 23)⟩), (.pl, ⟨(some 25), (some (22, true)), .fa 0 (.t 24)⟩), (.pl, ⟨(some 26), (some (22, true)), .load false 1 (.t 25)⟩), (.pl, ⟨(some 27), (some (22, true)), .mv (.t 0)⟩), (.pl, ⟨(some 28), (some (22, true)), .nilchk (.t 27)⟩), (.pl, ⟨(some 29), (some (22, true)), .fa 1 (.t 28)⟩), (.pl, ⟨(some 30), (some (22, true)), .load false 1 (.t 29)⟩), (.pl, ⟨(some 31), (some (22, true)), .ia 3 (.t 26) (.t 30)⟩), (.pl, ⟨(some 32), (some (22, true)), .fa 0 (.t 31)⟩), (.pl, ⟨(some 33), (some (22, true)), .load false 1 (.t 32)⟩), (.pl, ⟨(some 34), (some (22, true)), .bin .eql (.t 33) (.c (.int .i64 (3)))⟩), (.pl, ⟨(some 35), none, .pick (.t 22) (.t 34) (.c (.bool false))⟩), (.pl, ⟨(some 36), none, .mv (.t 35)⟩), (.pl, ⟨(some 37), (some (36, true)), .mv (.t 0)⟩), (.pl, ⟨(some 38), (some (36, true)), .nilchk (.t 37)⟩), (.pl, ⟨(some 39), (some (36, true)), .fa 0 (.t 38)⟩), (.pl, ⟨(some 40), (some (36, true)), .load false 1 (.t 39)⟩), (.pl, ⟨(some 41), (some (36, true)), .mv (.t 0)⟩), (.pl, ⟨(some 42), (some (36, true)), .nilchk (.t 41)⟩), (.pl, ⟨(some 43), (some (36, true)), .fa 1 (.t 42)⟩), (.pl, ⟨(some 44), (some (36, true)), .load false 1 (.t 43)⟩), (.pl, ⟨(some 45), (some (36, true)), .ia 3 (.t 40) (.t 44)⟩), (.pl, ⟨(some 46), (some (36, true)), .fa 1 (.t 45)⟩), (.pl, ⟨(some 47), (some (36, true)), .load false 1 (.t 46)⟩), (.pl, ⟨(some 48), (some (36, true)), .mv (.t 1)⟩), (.pl, ⟨(some 49), (some (36, true)), .bin .eql (.t 47) (.t 48)⟩), (.pl, ⟨(some 50), none, .pick (.t 36) (.t 49) (.c (.bool false))⟩), (.pl, ⟨(some 4), none, .mv (.t 50)⟩)]) .ret)))⟩
def A.probateref06_reader_items.L0 : AC := .post (.seq (.seq (.draw [(.pl, ⟨(some 7), none, .mv (.t 0)⟩), (.pl, ⟨(some 8), none, .nilchk (.t 7)⟩), (.pl, ⟨(some 9), none, .fa 2 (.t 8)⟩), (.pl, ⟨(some 10), none, .load false 1 (.t 9)⟩), (.pl, ⟨(some 11), none, .un .not (.t 10)⟩), (.pl, ⟨(some 12), none, .mv (.t 11)⟩), (.pl, ⟨(some 13), (some (12, true)), .mv (.t 0)⟩), (.pl, ⟨(some 14), (some (12, true)), .nilchk (.t 13)⟩), (.pl, ⟨(some 15), (some (12, true)), .fa 1 (.t 14)⟩), (.pl, ⟨(some 16), (some (12, true)), .load false 1 (.t 15)⟩), (.pl, ⟨(some 17), (some (12, true)), .mv (.t 0)⟩), (.pl, ⟨(some 18), (some (12, true)), .nilchk (.t 17)⟩), (.pl, ⟨(some 19), (some (12, true)), .fa 0 (.t 18)⟩), (.pl, ⟨(some 20), (some (12, true)), .load false 1 (.t 19)⟩), (.pl, ⟨(some 21), (some (12, true)), .len false (.t 20)⟩), (.pl, ⟨(some 22), (some (12, true)), .bin .lss (.t 16) (.t 21)⟩), (.pl, ⟨(some 23), none, .pick (.t 12) (.t 22) (.c (.bool false))⟩), (.pl, ⟨(some 24), none, .mv (.t 23)⟩), (.pl, ⟨(some 25), (some (24, true)), .mv (.t 0)⟩), (.pl, ⟨(some 26), (some (24, true)), .nilchk (.t 25)⟩), (.pl, ⟨(some 27), (some (24, true)), .fa 0 (.t 26)⟩), (.pl, ⟨(some 28), (some (24, true)), .load false 1 (.t 27)⟩), (.pl, ⟨(some 29), (some (24, true)), .mv (.t 0)⟩), (.pl, ⟨(some 30), (some (24, true)), .nilchk (.t 29)⟩), (.pl, ⟨(some 31), (some (24, true)), .fa 1 (.t 30)⟩), (.pl, ⟨(some 32), (some (24, true)), .load false 1 (.t 31)⟩), (.pl, ⟨(some 33), (some (24, true)), .ia 3 (.t 28) (.t 32)⟩), (.pl, ⟨(some 34), (some (24, true)), .fa 0 (.t 33)⟩), (.pl, ⟨(some 35), (some (24, true)), .load false 1 (.t 34)⟩), (.pl, ⟨(some 36), (some (24, true)), .bin .neq (.t 35) (.c (.int .i64 (3)))⟩), (.pl, ⟨(some 37), (some (24, true)), .mv (.t 36)⟩), (.pl, ⟨(some 38), (some (37, false)), .mv (.t 0)⟩), (.pl, ⟨(some 39), (some (37, false)), .call (.c (.fn K.probateref06_reader_mark [] [])) [(.t 38), (.c (.str [40]))]⟩), (.pl, ⟨(some 40), (some (24, true)), .pick (.t 37) (.c (.bool true)) (.t 39)⟩), (.pl, ⟨(some 41), none, .pick (.t 24) (.t 40) (.c (.bool false))⟩)])
  (.keep [0, 3, 41] (.cond (.t 41) .skip (.exit 0))))
  (.keep [0, 3] (.block 1 (.seq (.reg [⟨(some 42), none, .mv (.t 0)⟩, ⟨(some 43), none, .call (.c (.fn K.probateref06_reader_atom [] [])) [(.t 42)]⟩, ⟨(some 4), none, .mv (.t 43)⟩])
  (.keep [0, 3, 4] (.seq (.reg [⟨(some 5), none, .mv (.c (.int .i64 (0)))⟩])
  (.keep [0, 3, 4, 5] (.seq (.seq (.reg [⟨(some 44), none, .mv (.t 0)⟩, ⟨(some 45), none, .call (.c (.fn K.probateref06_reader_mark [] [])) [(.t 44), (.c (.str [42]))]⟩])
  (.keep [0, 3, 4, 5, 45] (.cond (.t 45) (.reg [⟨(some 5), none, .mv (.c (.int .i64 (3)))⟩]) .skip)))
  (.keep [0, 3, 4, 5] (.seq (.seq (.reg [⟨(some 46), none, .mv (.t 0)⟩, ⟨(some 47), none, .call (.c (.fn K.probateref06_reader_mark [] [])) [(.t 46), (.c (.str [43]))]⟩])
  (.keep [0, 3, 4, 5, 47] (.cond (.t 47) (.reg [⟨(some 5), none, .mv (.c (.int .i64 (4)))⟩]) .skip)))
  (.keep [0, 3, 4, 5] (.seq (.seq (.reg [⟨(some 48), none, .mv (.t 0)⟩, ⟨(some 49), none, .call (.c (.fn K.probateref06_reader_mark [] [])) [(.t 48), (.c (.str [63]))]⟩])
  (.keep [0, 3, 4, 5, 49] (.cond (.t 49) (.reg [⟨(some 5), none, .mv (.c (.int .i64 (5)))⟩]) .skip)))
  (.keep [0, 3, 4, 5] (.seq (.seq (.reg [⟨(some 50), none, .mv (.t 5)⟩, ⟨(some 51), none, .bin .gtr (.t 50) (.c (.int .i64 (0)))⟩])
  (.keep [0, 3, 4, 5, 51] (.cond (.t 51) (.seq (.reg [⟨(some 52), none, .mv (.t 0)⟩, ⟨(some 53), none, .nilchk (.t 52)⟩, ⟨(some 54), none, .fa 1 (.t 53)⟩, ⟨(some 55), none, .load false 1 (.t 54)⟩, ⟨(some 56), none, .bin .add (.t 55) (.c (.int .i64 (1)))⟩, ⟨(some 57), none, .nilchk (.t 52)⟩, ⟨(some 58), none, .fa 1 (.t 57)⟩, ⟨none, none, .store 1 (.t 58) (.t 56)⟩])
  (.keep [0, 3, 4, 5] (.reg [⟨(some 59), none, .mv (.t 0)⟩, ⟨(some 60), none, .mv (.t 5)⟩, ⟨(some 61), none, .mv (.t 4)⟩, ⟨(some 62), none, .bsl 1 false [(.int .i64 (0))] 1 [(0, (.t 61))]⟩, ⟨(some 63), none, .call (.c (.fn K.probateref06_reader_lay [] [])) [(.t 59), (.t 60), (.c (.str [])), (.t 62)]⟩, ⟨(some 4), none, .mv (.t 63)⟩]))) .skip)))
  (.keep [0, 3, 4] (.reg [⟨(some 64), none, .mv (.t 3)⟩, ⟨(some 65), none, .mv (.t 4)⟩, ⟨(some 66), none, .bsl 1 false [(.int .i64 (0))] 1 [(0, (.t 65))]⟩, ⟨(some 67), none, .app 1 8 (.t 64) (.t 66)⟩, ⟨(some 3), none, .mv (.t 67)⟩])))))))))))))))) [0, 3]
def A.probateref06_reader_items : AFn := ⟨77, [(2, none)], (.seq (.reg [⟨(some 2), none, .mv (.c (.int .i64 (0)))⟩])
  (.keep [0] (.seq (.reg [⟨(some 6), none, .bsl 1 false [(.int .i64 (0))] 0 []⟩, ⟨(some 3), none, .mv (.t 6)⟩])
  (.keep [0, 3] (.seq (.block 0 (.loop A.probateref06_reader_items.L0))
  (.keep [0, 3] (.seq (.seq (.reg [⟨(some 68), none, .mv (.t 3)⟩, ⟨(some 69), none, .len false (.t 68)⟩, ⟨(some 70), none, .bin .eql (.t 69) (.c (.int .i64 (1)))⟩])
  (.keep [0, 3, 70] (.cond (.t 70) (.seq (.reg [⟨(some 71), none, .mv (.t 3)⟩, ⟨(some 72), none, .ia 1 (.t 71) (.c (.int .i64 (0)))⟩, ⟨(some 73), none, .load false 1 (.t 72)⟩, ⟨(some 2), none, .mv (.t 73)⟩]) .ret) .skip)))
  (.keep [0, 3] (.seq (.reg [⟨(some 74), none, .mv (.t 0)⟩, ⟨(some 75), none, .mv (.t 3)⟩, ⟨(some 76), none, .call (.c (.fn K.probateref06_reader_lay [] [])) [(.t 74), (.c (.int .i64 (1))), (.c (.str [])), (.t 75)]⟩, ⟨(some 2), none, .mv (.t 76)⟩]) .ret)))))))))⟩
def A.probateref06_reader_lay : AFn := ⟨31, [(8, none)], (.seq (.reg [⟨(some 8), none, .mv (.c (.int .i64 (0)))⟩])
  (.keep [0, 1, 2, 3] (.seq (.reg [⟨(some 9), none, .mv (.t 0)⟩, ⟨(some 10), none, .mv (.t 0)⟩, ⟨(some 11), none, .nilchk (.t 10)⟩, ⟨(some 12), none, .fa 3 (.t 11)⟩, ⟨(some 13), none, .fa 1 (.t 12)⟩, ⟨(some 14), none, .load false 1 (.t 13)⟩, ⟨(some 15), none, .mv (.t 1)⟩, ⟨(some 16), none, .mv (.t 2)⟩, ⟨(some 17), none, .mv (.t 3)⟩, ⟨(some 18), none, .bld [(.int .i64 (0)), (.str []), (.sl 0 1 [])] [(0, 1, (.t 15)), (1, 1, (.t 16)), (2, 1, (.t 17))]⟩, ⟨(some 19), none, .bsl 3 true [(.int .i64 (0)), (.str []), (.sl 0 1 [])] 1 [(0, (.t 18))]⟩, ⟨(some 20), none, .app 3 48 (.t 14) (.t 19)⟩, ⟨(some 21), none, .nilchk (.t 9)⟩, ⟨(some 22), none, .fa 3 (.t 21)⟩, ⟨(some 23), none, .fa 1 (.t 22)⟩, ⟨none, none, .store 1 (.t 23) (.t 20)⟩])
  (.keep [0] (.seq (.reg [⟨(some 24), none, .mv (.t 0)⟩, ⟨(some 25), none, .nilchk (.t 24)⟩, ⟨(some 26), none, .fa 3 (.t 25)⟩, ⟨(some 27), none, .fa 1 (.t 26)⟩, ⟨(some 28), none, .load false 1 (.t 27)⟩, ⟨(some 29), none, .len false (.t 28)⟩, ⟨(some 30), none, .bin .sub (.t 29) (.c (.int .i64 (1)))⟩, ⟨(some 8), none, .mv (.t 30)⟩]) .ret)))))⟩
def A.probateref06_Tree_rule.L0 : AC := .post (.seq (.seq (.reg [⟨(some 6), none, .mv (.t 5)⟩, ⟨(some 7), none, .fa 0 (.t 2)⟩, ⟨(some 8), none, .load false 1 (.t 7)⟩, ⟨(some 9), none, .len false (.t 8)⟩, ⟨(some 10), none, .bin .lss (.t 6) (.t 9)⟩])
  (.keep [1, 2, 5, 10] (.cond (.t 10) .skip (.exit 0))))
  (.keep [1, 2, 5] (.seq (.block 1 (.seq (.reg [⟨(some 13), none, .fa 0 (.t 2)⟩, ⟨(some 14), none, .load false 1 (.t 13)⟩, ⟨(some 15), none, .mv (.t 5)⟩, ⟨(some 16), none, .ia 2 (.t 14) (.t 15)⟩, ⟨(some 17), none, .fa 0 (.t 16)⟩, ⟨(some 18), none, .load false 1 (.t 17)⟩, ⟨(some 19), none, .mv (.t 1)⟩, ⟨(some 20), none, .bin .eql (.t 18) (.t 19)⟩])
  (.keep [1, 2, 5, 20] (.cond (.t 20) (.seq (.reg [⟨(some 4), none, .mv (.c (.bool true))⟩]) .ret) .skip))))
  (.keep [1, 2, 5] (.reg [⟨(some 11), none, .mv (.t 5)⟩, ⟨(some 12), none, .bin .add (.t 11) (.c (.int .i64 (1)))⟩, ⟨(some 5), none, .mv (.t 12)⟩]))))) [1, 2, 5]
def A.probateref06_Tree_rule : AFn := ⟨21, [(4, none)], (.seq (.reg [⟨(some 2), none, .box (.t 0)⟩, ⟨(some 4), none, .mv (.c (.bool false))⟩])
  (.keep [1, 2] (.seq (.seq (.reg [⟨(some 5), none, .mv (.c (.int .i64 (0)))⟩])
  (.keep [1, 2, 5] (.block 0 (.loop A.probateref06_Tree_rule.L0))))
  (.keep [] (.seq (.reg [⟨(some 4), none, .mv (.c (.bool false))⟩]) .ret)))))⟩
def A.probateref06_quote.L0 : AC := .post (.seq (.seq (.reg [⟨(some 4), none, .mv (.t 3)⟩, ⟨(some 5), none, .mv (.t 0)⟩, ⟨(some 6), none, .len true (.t 5)⟩, ⟨(some 7), none, .bin .lss (.t 4) (.t 6)⟩])
  (.keep [0, 3, 7] (.cond (.t 7) .skip (.exit 0))))
  (.keep [0, 3] (.seq (.block 1 (.seq (.reg [⟨(some 10), none, .mv (.t 0)⟩, ⟨(some 11), none, .mv (.t 3)⟩, ⟨(some 12), none, .ixs (.t 10) (.t 11)⟩, ⟨(some 13), none, .bin .lss (.t 12) (.c (.int .u8 (32)))⟩, ⟨(some 14), none, .mv (.t 13)⟩, ⟨(some 15), (some (14, false)), .mv (.t 0)⟩, ⟨(some 16), (some (14, false)), .mv (.t 3)⟩, ⟨(some 17), (some (14, false)), .ixs (.t 15) (.t 16)⟩, ⟨(some 18), (some (14, false)), .bin .gtr (.t 17) (.c (.int .u8 (126)))⟩, ⟨(some 19), none, .pick (.t 14) (.c (.bool true)) (.t 18)⟩, ⟨(some 20), none, .mv (.t 19)⟩, ⟨(some 21), (some (20, false)), .mv (.t 0)⟩, ⟨(some 22), (some (20, false)), .mv (.t 3)⟩, ⟨(some 23), (some (20, false)), .ixs (.t 21) (.t 22)⟩, ⟨(some 24), (some (20, false)), .bin .eql (.t 23) (.c (.int .u8 (39)))⟩, ⟨(some 25), none, .pick (.t 20) (.c (.bool true)) (.t 24)⟩])
  (.keep [0, 3, 25] (.cond (.t 25) (.seq (.reg [⟨(some 2), none, .mv (.c (.bool false))⟩]) .ret) .skip))))
  (.keep [0, 3] (.reg [⟨(some 8), none, .mv (.t 3)⟩, ⟨(some 9), none, .bin .add (.t 8) (.c (.int .i64 (1)))⟩, ⟨(some 3), none, .mv (.t 9)⟩]))))) [0, 3]
def A.probateref06_quote : AFn := ⟨34, [(2, none)], (.seq (.reg [⟨(some 2), none, .mv (.c (.bool false))⟩])
  (.keep [0] (.seq (.seq (.reg [⟨(some 3), none, .mv (.c (.int .i64 (0)))⟩])
  (.keep [0, 3] (.block 0 (.loop A.probateref06_quote.L0))))
  (.keep [0] (.seq (.reg [⟨(some 26), none, .mv (.t 0)⟩, ⟨(some 27), none, .len true (.t 26)⟩, ⟨(some 28), none, .bin .gtr (.t 27) (.c (.int .i64 (0)))⟩, ⟨(some 29), none, .mv (.t 28)⟩, ⟨(some 30), (some (29, true)), .mv (.t 0)⟩, ⟨(some 31), (some (29, true)), .len true (.t 30)⟩, ⟨(some 32), (some (29, true)), .bin .leq (.t 31) (.c (.int .i64 (3998)))⟩, ⟨(some 33), none, .pick (.t 29) (.t 32) (.c (.bool false))⟩, ⟨(some 2), none, .mv (.t 33)⟩]) .ret)))))⟩
def A.probateref06_reader_atom : AFn := ⟨51, [(2, none)], (.seq (.reg [⟨(some 2), none, .mv (.c (.int .i64 (0)))⟩])
  (.keep [0] (.seq (.draw [(.pl, ⟨(some 5), none, .mv (.t 0)⟩), (.pl, ⟨(some 6), none, .nilchk (.t 5)⟩), (.pl, ⟨(some 7), none, .fa 0 (.t 6)⟩), (.fl, ⟨(some 8), none, .load false 1 (.t 7)⟩), (.pl, ⟨(some 9), none, .mv (.t 0)⟩), (.pl, ⟨(some 10), none, .nilchk (.t 9)⟩), (.pl, ⟨(some 11), none, .fa 1 (.t 10)⟩), (.fl, ⟨(some 12), none, .load false 1 (.t 11)⟩), (.pl, ⟨(some 13), none, .ia 3 (.t 8) (.t 12)⟩), (.fl, ⟨(some 14), none, .load true 3 (.t 13)⟩), (.eff, ⟨(some 3), none, .alloc [(.int .i64 (0)), (.str []), (.int .i64 (0))]⟩), (.efo, ⟨none, none, .store 3 (.t 3) (.t 14)⟩)])
  (.keep [0, 3] (.seq (.reg [⟨(some 15), none, .mv (.t 0)⟩, ⟨(some 16), none, .nilchk (.t 15)⟩, ⟨(some 17), none, .fa 1 (.t 16)⟩, ⟨(some 18), none, .load false 1 (.t 17)⟩, ⟨(some 19), none, .bin .add (.t 18) (.c (.int .i64 (1)))⟩, ⟨(some 20), none, .nilchk (.t 15)⟩, ⟨(some 21), none, .fa 1 (.t 20)⟩, ⟨none, none, .store 1 (.t 21) (.t 19)⟩])
  (.keep [0, 3] (.seq (.seq (.reg [⟨(some 22), none, .fa 0 (.t 3)⟩, ⟨(some 23), none, .load false 1 (.t 22)⟩, ⟨(some 24), none, .bin .eql (.t 23) (.c (.int .i64 (2)))⟩])
  (.keep [0, 3, 24] (.cond (.t 24) (.seq (.reg [⟨(some 25), none, .mv (.t 0)⟩, ⟨(some 26), none, .fa 1 (.t 3)⟩, ⟨(some 27), none, .load false 1 (.t 26)⟩, ⟨(some 28), none, .call (.c (.fn K.probateref06_reader_lay [] [])) [(.t 25), (.c (.int .i64 (7))), (.t 27), (.c (.sl 0 1 []))]⟩, ⟨(some 2), none, .mv (.t 28)⟩]) .ret) .skip)))
  (.keep [0, 3] (.seq (.seq (.reg [⟨(some 29), none, .fa 0 (.t 3)⟩, ⟨(some 30), none, .load false 1 (.t 29)⟩, ⟨(some 31), none, .bin .eql (.t 30) (.c (.int .i64 (1)))⟩])
  (.keep [0, 3, 31] (.cond (.t 31) (.seq (.draw [(.pl, ⟨(some 32), none, .mv (.t 0)⟩), (.pl, ⟨(some 33), none, .mv (.t 0)⟩), (.pl, ⟨(some 34), none, .nilchk (.t 33)⟩), (.pl, ⟨(some 35), none, .fa 6 (.t 34)⟩), (.pl, ⟨(some 36), none, .load false 1 (.t 35)⟩), (.pl, ⟨(some 37), none, .load true 3 (.t 3)⟩), (.pl, ⟨(some 38), none, .bsl 3 true [(.int .i64 (0)), (.str []), (.int .i64 (0))] 1 [(0, (.t 37))]⟩), (.eff, ⟨(some 39), none, .app 3 32 (.t 36) (.t 38)⟩), (.pl, ⟨(some 40), none, .nilchk (.t 32)⟩), (.pl, ⟨(some 41), none, .fa 6 (.t 40)⟩), (.eff, ⟨none, none, .store 1 (.t 41) (.t 39)⟩)])
  (.keep [0, 3] (.seq (.reg [⟨(some 42), none, .mv (.t 0)⟩, ⟨(some 43), none, .fa 1 (.t 3)⟩, ⟨(some 44), none, .load false 1 (.t 43)⟩, ⟨(some 45), none, .call (.c (.fn K.probateref06_reader_lay [] [])) [(.t 42), (.c (.int .i64 (6))), (.t 44), (.c (.sl 0 1 []))]⟩, ⟨(some 2), none, .mv (.t 45)⟩]) .ret))) .skip)))
  (.keep [0] (.seq (.reg [⟨(some 46), none, .mv (.t 0)⟩, ⟨(some 47), none, .call (.c (.fn K.probateref06_reader_alternatives [] [])) [(.t 46)]⟩, ⟨(some 4), none, .mv (.t 47)⟩])
  (.keep [0, 4] (.seq (.reg [⟨(some 48), none, .mv (.t 0)⟩, ⟨(some 49), none, .call (.c (.fn K.probateref06_reader_must [] [])) [(.t 48), (.c (.str [41]))]⟩])
  (.keep [4] (.seq (.reg [⟨(some 50), none, .mv (.t 4)⟩, ⟨(some 2), none, .mv (.t 50)⟩]) .ret)))))))))))))))⟩
end Go.Proofs.Ytecgbggobecpjaa.Al
namespace Go.Proofs.Ytecgbggobecpjaa.Al
def A.rules_Right.L1 : AC := .post (.seq (.seq (.reg [⟨(some 59), none, .mv (.t 3)⟩, ⟨(some 60), none, .fa 1 (.t 5)⟩, ⟨(some 61), none, .load false 1 (.t 60)⟩, ⟨(some 62), none, .bin .leq (.t 59) (.t 61)⟩])
  (.keep [1, 3, 5, 6, 26, 27, 28, 62] (.cond (.t 62) .skip (.exit 2))))
  (.keep [1, 3, 5, 6, 26, 27, 28] (.seq (.block 3 (.seq (.reg [⟨(some 65), none, .fa 1 (.t 1)⟩, ⟨(some 66), none, .load false 1 (.t 65)⟩, ⟨(some 67), none, .mv (.t 3)⟩, ⟨(some 68), none, .ia 3 (.t 66) (.t 67)⟩, ⟨(some 69), none, .load true 3 (.t 68)⟩, ⟨(some 7), none, .alloc [(.int .i64 (0)), (.str []), (.sl 0 1 [])]⟩, ⟨none, none, .store 3 (.t 7) (.t 69)⟩])
  (.keep [1, 3, 5, 6, 7, 26, 27, 28] (.seq (.reg [⟨(some 70), none, .mv (.t 6)⟩, ⟨(some 71), none, .len false (.t 70)⟩, ⟨(some 72), none, .fa 2 (.t 7)⟩, ⟨(some 73), none, .load false 1 (.t 72)⟩, ⟨(some 74), none, .len false (.t 73)⟩, ⟨(some 75), none, .bin .sub (.t 71) (.t 74)⟩, ⟨(some 8), none, .mv (.t 75)⟩])
  (.keep [1, 3, 5, 6, 7, 8, 26, 27, 28] (.seq (.seq (.draw [(.pl, ⟨(some 76), none, .load true 2 (.t 1)⟩), (.pl, ⟨(some 77), none, .load true 3 (.t 7)⟩), (.pl, ⟨(some 78), none, .call (.c (.fn K.rules_Tree_fine [] [])) [(.t 76), (.t 77)]⟩), (.pl, ⟨(some 79), none, .un .not (.t 78)⟩), (.pl, ⟨(some 80), none, .mv (.t 79)⟩), (.pl, ⟨(some 81), (some (80, false)), .mv (.t 8)⟩), (.pl, ⟨(some 82), (some (80, false)), .bin .lss (.t 81) (.c (.int .i64 (0)))⟩), (.pl, ⟨(some 83), none, .pick (.t 80) (.c (.bool true)) (.t 82)⟩), (.pl, ⟨(some 84), none, .mv (.t 83)⟩), (.pl, ⟨(some 85), (some (84, false)), .mv (.t 6)⟩), (.pl, ⟨(some 86), (some (84, false)), .mv (.t 8)⟩), (.pl, ⟨(some 87), (some (84, false)), .slc 1 (.t 85) (some (.t 86)) none⟩), (.pl, ⟨(some 88), (some (84, false)), .fa 2 (.t 7)⟩), (.pl, ⟨(some 89), (some (84, false)), .load false 1 (.t 88)⟩), (.pl, ⟨(some 90), (some (84, false)), .call (.c (.fn K.slices_Equal_int [] [])) [(.t 87), (.t 89)]⟩), (.pl, ⟨(some 91), (some (84, false)), .un .not (.t 90)⟩), (.pl, ⟨(some 92), none, .pick (.t 84) (.c (.bool true)) (.t 91)⟩)])
  (.keep [1, 3, 5, 6, 8, 26, 27, 28, 92] (.cond (.t 92) (.seq (.reg [⟨(some 2), none, .mv (.c (.bool false))⟩]) .ret) .skip)))
  (.keep [1, 3, 5, 6, 8, 26, 27, 28] (.reg [⟨(some 93), none, .mv (.t 6)⟩, ⟨(some 94), none, .mv (.t 8)⟩, ⟨(some 95), none, .slc 1 (.t 93) none (some (.t 94))⟩, ⟨(some 96), none, .mv (.t 3)⟩, ⟨(some 97), none, .bsl 1 false [(.int .i64 (0))] 1 [(0, (.t 96))]⟩, ⟨(some 98), none, .app 1 8 (.t 95) (.t 97)⟩, ⟨(some 6), none, .mv (.t 98)⟩]))))))))
  (.keep [1, 3, 5, 6, 26, 27, 28] (.reg [⟨(some 63), none, .mv (.t 3)⟩, ⟨(some 64), none, .bin .add (.t 63) (.c (.int .i64 (1)))⟩, ⟨(some 3), none, .mv (.t 64)⟩]))))) [1, 3, 5, 6, 26, 27, 28]
def A.rules_Right.L0 : AC := .post (.seq (.reg [⟨(some 29), none, .bin .lss (.t 28) (.t 27)⟩])
  (.keep [1, 3, 26, 27, 28, 29] (.seq (.cond (.t 29) .skip (.exit 0))
  (.keep [1, 3, 26, 27, 28] (.seq (.block 1 (.seq (.reg [⟨(some 30), none, .mv (.t 28)⟩, ⟨(some 31), none, .ia 2 (.t 26) (.t 28)⟩, ⟨(some 32), none, .load true 2 (.t 31)⟩, ⟨(some 5), none, .alloc [(.str []), (.int .i64 (0))]⟩, ⟨(some 4), none, .mv (.t 30)⟩, ⟨none, none, .store 2 (.t 5) (.t 32)⟩])
  (.keep [1, 3, 4, 5, 26, 27, 28] (.seq (.seq (.reg [⟨(some 33), none, .fa 0 (.t 5)⟩, ⟨(some 34), none, .load false 1 (.t 33)⟩, ⟨(some 35), none, .call (.c (.fn K.rules_token [] [])) [(.t 34), (.c (.int .i64 (1)))]⟩, ⟨(some 36), none, .un .not (.t 35)⟩, ⟨(some 37), none, .mv (.t 36)⟩, ⟨(some 38), (some (37, false)), .fa 0 (.t 1)⟩, ⟨(some 39), (some (37, false)), .load false 1 (.t 38)⟩, ⟨(some 40), (some (37, false)), .mv (.t 4)⟩, ⟨(some 41), (some (37, false)), .slc 2 (.t 39) none (some (.t 40))⟩, ⟨(some 42), (some (37, false)), .mkfn K.rules_Right_1 [] [(.t 5)]⟩, ⟨(some 43), (some (37, false)), .call (.c (.fn K.slices_ContainsFunc_Rule [] [])) [(.t 41), (.t 42)]⟩, ⟨(some 44), none, .pick (.t 37) (.c (.bool true)) (.t 43)⟩, ⟨(some 45), none, .mv (.t 44)⟩, ⟨(some 46), (some (45, false)), .fa 1 (.t 5)⟩, ⟨(some 47), (some (45, false)), .load false 1 (.t 46)⟩, ⟨(some 48), (some (45, false)), .mv (.t 3)⟩, ⟨(some 49), (some (45, false)), .bin .lss (.t 47) (.t 48)⟩, ⟨(some 50), none, .pick (.t 45) (.c (.bool true)) (.t 49)⟩, ⟨(some 51), none, .mv (.t 50)⟩, ⟨(some 52), (some (51, false)), .fa 1 (.t 5)⟩, ⟨(some 53), (some (51, false)), .load false 1 (.t 52)⟩, ⟨(some 54), (some (51, false)), .fa 1 (.t 1)⟩, ⟨(some 55), (some (51, false)), .load false 1 (.t 54)⟩, ⟨(some 56), (some (51, false)), .len false (.t 55)⟩, ⟨(some 57), (some (51, false)), .bin .geq (.t 53) (.t 56)⟩, ⟨(some 58), none, .pick (.t 51) (.c (.bool true)) (.t 57)⟩])
  (.keep [1, 3, 5, 26, 27, 28, 58] (.cond (.t 58) (.seq (.reg [⟨(some 2), none, .mv (.c (.bool false))⟩]) .ret) .skip)))
  (.keep [1, 3, 5, 26, 27, 28] (.seq (.reg [⟨(some 6), none, .mv (.c (.sl 0 1 []))⟩])
  (.keep [1, 3, 5, 6, 26, 27, 28] (.seq (.block 2 (.loop A.rules_Right.L1))
  (.keep [1, 3, 6, 26, 27, 28] (.seq (.reg [⟨(some 99), none, .mv (.t 6)⟩, ⟨(some 100), none, .len false (.t 99)⟩, ⟨(some 101), none, .bin .neq (.t 100) (.c (.int .i64 (1)))⟩])
  (.keep [1, 3, 26, 27, 28, 101] (.cond (.t 101) (.seq (.reg [⟨(some 2), none, .mv (.c (.bool false))⟩]) .ret) .skip))))))))))))
  (.keep [1, 3, 26, 27, 28] (.reg [⟨(some 102), none, .bin .add (.t 28) (.c (.int .i64 (1)))⟩, ⟨(some 28), none, .mv (.t 102)⟩]))))))) [1, 3, 26, 27, 28]
def A.rules_Right : AFn := ⟨108, [(2, none)], (.seq (.reg [⟨(some 1), none, .box (.t 0)⟩, ⟨(some 2), none, .mv (.c (.bool false))⟩])
  (.keep [1] (.seq (.seq (.reg [⟨(some 9), none, .fa 0 (.t 1)⟩, ⟨(some 10), none, .load false 1 (.t 9)⟩, ⟨(some 11), none, .len false (.t 10)⟩, ⟨(some 12), none, .bin .eql (.t 11) (.c (.int .i64 (0)))⟩, ⟨(some 13), none, .mv (.t 12)⟩, ⟨(some 14), (some (13, false)), .fa 0 (.t 1)⟩, ⟨(some 15), (some (13, false)), .load false 1 (.t 14)⟩, ⟨(some 16), (some (13, false)), .len false (.t 15)⟩, ⟨(some 17), (some (13, false)), .bin .gtr (.t 16) (.c (.int .i64 (24)))⟩, ⟨(some 18), none, .pick (.t 13) (.c (.bool true)) (.t 17)⟩, ⟨(some 19), none, .mv (.t 18)⟩, ⟨(some 20), (some (19, false)), .fa 1 (.t 1)⟩, ⟨(some 21), (some (19, false)), .load false 1 (.t 20)⟩, ⟨(some 22), (some (19, false)), .len false (.t 21)⟩, ⟨(some 23), (some (19, false)), .bin .gtr (.t 22) (.c (.int .i64 (200)))⟩, ⟨(some 24), none, .pick (.t 19) (.c (.bool true)) (.t 23)⟩])
  (.keep [1, 24] (.cond (.t 24) (.seq (.reg [⟨(some 2), none, .mv (.c (.bool false))⟩]) .ret) .skip)))
  (.keep [1] (.seq (.reg [⟨(some 3), none, .mv (.c (.int .i64 (0)))⟩])
  (.keep [1, 3] (.seq (.seq (.reg [⟨(some 25), none, .fa 0 (.t 1)⟩, ⟨(some 26), none, .load false 1 (.t 25)⟩, ⟨(some 27), none, .len false (.t 26)⟩, ⟨(some 28), none, .mv (.c (.int .i64 (0)))⟩])
  (.keep [1, 3, 26, 27, 28] (.block 0 (.loop A.rules_Right.L0))))
  (.keep [1, 3] (.seq (.reg [⟨(some 103), none, .mv (.t 3)⟩, ⟨(some 104), none, .fa 1 (.t 1)⟩, ⟨(some 105), none, .load false 1 (.t 104)⟩, ⟨(some 106), none, .len false (.t 105)⟩, ⟨(some 107), none, .bin .eql (.t 103) (.t 106)⟩, ⟨(some 2), none, .mv (.t 107)⟩]) .ret)))))))))⟩
def A.rules_Read : AFn := ⟨65, [(2, (some (true, 2))), (3, none), (4, none)], (.seq (.reg [⟨(some 2), none, .alloc [(.sl 0 1 []), (.sl 0 1 [])]⟩, ⟨(some 3), none, .mv (.c (.int .i64 (0)))⟩, ⟨(some 4), none, .mv (.c (.int .i64 (0)))⟩])
  (.keep [0, 2] (.seq (.reg [⟨(some 13), none, .mv (.t 0)⟩, ⟨(some 14), none, .call (.c (.fn K.scan_Scan [] [])) [(.t 13)]⟩, ⟨(some 12), none, .mv (.t 14)⟩, ⟨(some 15), none, .ext (.t 12) 0⟩, ⟨(some 16), none, .ext (.t 12) 1⟩, ⟨(some 17), none, .ext (.t 12) 2⟩, ⟨(some 5), none, .mv (.t 15)⟩, ⟨(some 6), none, .mv (.t 16)⟩, ⟨(some 7), none, .mv (.t 17)⟩])
  (.keep [0, 2, 5, 6, 7] (.seq (.seq (.reg [⟨(some 18), none, .mv (.t 7)⟩, ⟨(some 19), none, .bin .neq (.t 18) (.c (.int .i64 (0)))⟩])
  (.keep [0, 2, 5, 6, 7, 19] (.cond (.t 19) (.seq (.reg [⟨(some 20), none, .bld [(.sl 0 1 []), (.sl 0 1 [])] []⟩, ⟨(some 21), none, .mv (.t 6)⟩, ⟨(some 22), none, .mv (.t 7)⟩, ⟨none, none, .store 2 (.t 2) (.t 20)⟩, ⟨(some 3), none, .mv (.t 21)⟩, ⟨(some 4), none, .mv (.t 22)⟩]) .ret) .skip)))
  (.keep [0, 2, 5] (.seq (.reg [⟨(some 23), none, .mv (.t 5)⟩, ⟨(some 24), none, .mv (.t 0)⟩, ⟨(some 25), none, .len true (.t 24)⟩, ⟨(some 26), none, .bld [(.sl 0 1 []), (.int .i64 (0)), (.int .i64 (0)), (.sl 0 1 []), (.sl 0 1 []), (.sl 0 1 []), (.sl 0 1 [])] [(0, 1, (.t 23)), (2, 1, (.t 25))]⟩, ⟨(some 27), none, .box (.t 26)⟩, ⟨(some 8), none, .mv (.t 27)⟩])
  (.keep [2, 8] (.seq (.seq (.reg [⟨(some 28), none, .mv (.t 8)⟩, ⟨(some 29), none, .call (.c (.fn K.rules_reader_parse [] [])) [(.t 28)]⟩, ⟨(some 9), none, .mv (.t 29)⟩])
  (.keep [2, 8, 9] (.seq (.reg [⟨(some 30), none, .mv (.t 9)⟩, ⟨(some 31), none, .bin .geq (.t 30) (.c (.int .i64 (0)))⟩])
  (.keep [2, 8, 9, 31] (.cond (.t 31) (.seq (.reg [⟨(some 32), none, .bld [(.sl 0 1 []), (.sl 0 1 [])] []⟩, ⟨(some 33), none, .mv (.t 9)⟩, ⟨none, none, .store 2 (.t 2) (.t 32)⟩, ⟨(some 3), none, .mv (.t 33)⟩, ⟨(some 4), none, .mv (.c (.int .i64 (2)))⟩]) .ret) .skip)))))
  (.keep [2, 8] (.seq (.seq (.reg [⟨(some 34), none, .mv (.t 8)⟩, ⟨(some 35), none, .nilchk (.t 34)⟩, ⟨(some 36), none, .fa 3 (.t 35)⟩, ⟨(some 37), none, .fa 0 (.t 36)⟩, ⟨(some 38), none, .load false 1 (.t 37)⟩, ⟨(some 39), none, .len false (.t 38)⟩, ⟨(some 40), none, .bin .gtr (.t 39) (.c (.int .i64 (24)))⟩, ⟨(some 41), none, .mv (.t 40)⟩, ⟨(some 42), (some (41, false)), .mv (.t 8)⟩, ⟨(some 43), (some (41, false)), .nilchk (.t 42)⟩, ⟨(some 44), (some (41, false)), .fa 3 (.t 43)⟩, ⟨(some 45), (some (41, false)), .fa 1 (.t 44)⟩, ⟨(some 46), (some (41, false)), .load false 1 (.t 45)⟩, ⟨(some 47), (some (41, false)), .len false (.t 46)⟩, ⟨(some 48), (some (41, false)), .bin .gtr (.t 47) (.c (.int .i64 (200)))⟩, ⟨(some 49), none, .pick (.t 41) (.c (.bool true)) (.t 48)⟩])
  (.keep [2, 8, 49] (.cond (.t 49) (.seq (.reg [⟨(some 50), none, .bld [(.sl 0 1 []), (.sl 0 1 [])] []⟩, ⟨none, none, .store 2 (.t 2) (.t 50)⟩, ⟨(some 3), none, .mv (.c (.int .i64 (0)))⟩, ⟨(some 4), none, .mv (.c (.int .i64 (5)))⟩]) .ret) .skip)))
  (.keep [2, 8] (.seq (.seq (.reg [⟨(some 52), none, .mv (.t 8)⟩, ⟨(some 53), none, .call (.c (.fn K.rules_reader_names [] [])) [(.t 52)]⟩, ⟨(some 51), none, .mv (.t 53)⟩, ⟨(some 54), none, .ext (.t 51) 0⟩, ⟨(some 55), none, .ext (.t 51) 1⟩, ⟨(some 10), none, .mv (.t 54)⟩, ⟨(some 11), none, .mv (.t 55)⟩])
  (.keep [2, 8, 10, 11] (.seq (.reg [⟨(some 56), none, .mv (.t 11)⟩, ⟨(some 57), none, .bin .neq (.t 56) (.c (.int .i64 (0)))⟩])
  (.keep [2, 8, 10, 11, 57] (.cond (.t 57) (.seq (.reg [⟨(some 58), none, .bld [(.sl 0 1 []), (.sl 0 1 [])] []⟩, ⟨(some 59), none, .mv (.t 10)⟩, ⟨(some 60), none, .mv (.t 11)⟩, ⟨none, none, .store 2 (.t 2) (.t 58)⟩, ⟨(some 3), none, .mv (.t 59)⟩, ⟨(some 4), none, .mv (.t 60)⟩]) .ret) .skip)))))
  (.keep [2, 8] (.seq (.reg [⟨(some 61), none, .mv (.t 8)⟩, ⟨(some 62), none, .nilchk (.t 61)⟩, ⟨(some 63), none, .fa 3 (.t 62)⟩, ⟨(some 64), none, .load true 2 (.t 63)⟩, ⟨none, none, .store 2 (.t 2) (.t 64)⟩, ⟨(some 3), none, .mv (.c (.int .i64 (0)))⟩, ⟨(some 4), none, .mv (.c (.int .i64 (0)))⟩]) .ret)))))))))))))))⟩
def A.rules_Same : AFn := ⟨17, [(4, none)], (.seq (.reg [⟨(some 2), none, .box (.t 0)⟩, ⟨(some 3), none, .box (.t 1)⟩, ⟨(some 4), none, .mv (.c (.bool false))⟩])
  (.keep [2, 3] (.seq (.reg [⟨(some 5), none, .fa 0 (.t 2)⟩, ⟨(some 6), none, .load false 1 (.t 5)⟩, ⟨(some 7), none, .fa 0 (.t 3)⟩, ⟨(some 8), none, .load false 1 (.t 7)⟩, ⟨(some 9), none, .call (.c (.fn K.slices_Equal_Rule [] [])) [(.t 6), (.t 8)]⟩, ⟨(some 10), none, .mv (.t 9)⟩, ⟨(some 11), (some (10, true)), .fa 1 (.t 2)⟩, ⟨(some 12), (some (10, true)), .load false 1 (.t 11)⟩, ⟨(some 13), (some (10, true)), .fa 1 (.t 3)⟩, ⟨(some 14), (some (10, true)), .load false 1 (.t 13)⟩, ⟨(some 15), (some (10, true)), .call (.c (.fn K.slices_EqualFunc_Node [] [])) [(.t 12), (.t 14), (.c (.fn K.rules_Same_1 [] []))]⟩, ⟨(some 16), none, .pick (.t 10) (.t 15) (.c (.bool false))⟩, ⟨(some 4), none, .mv (.t 16)⟩]) .ret)))⟩
def A.rules_token : AFn := ⟨48, [(4, none)], (.seq (.reg [⟨(some 4), none, .mv (.c (.bool false))⟩])
  (.keep [0, 1] (.seq (.reg [⟨(some 9), none, .mv (.t 0)⟩, ⟨(some 10), none, .call (.c (.fn K.scan_Scan [] [])) [(.t 9)]⟩, ⟨(some 8), none, .mv (.t 10)⟩, ⟨(some 11), none, .ext (.t 8) 0⟩, ⟨(some 12), none, .ext (.t 8) 1⟩, ⟨(some 13), none, .ext (.t 8) 2⟩, ⟨(some 5), none, .mv (.t 11)⟩, ⟨(some 6), none, .mv (.t 12)⟩, ⟨(some 7), none, .mv (.t 13)⟩])
  (.keep [0, 1, 5, 7] (.seq (.reg [⟨(some 14), none, .mv (.t 7)⟩, ⟨(some 15), none, .bin .eql (.t 14) (.c (.int .i64 (0)))⟩, ⟨(some 16), none, .mv (.t 15)⟩, ⟨(some 17), (some (16, true)), .mv (.t 5)⟩, ⟨(some 18), (some (16, true)), .len false (.t 17)⟩, ⟨(some 19), (some (16, true)), .bin .eql (.t 18) (.c (.int .i64 (1)))⟩, ⟨(some 20), none, .pick (.t 16) (.t 19) (.c (.bool false))⟩, ⟨(some 21), none, .mv (.t 20)⟩, ⟨(some 22), (some (21, true)), .mv (.t 5)⟩, ⟨(some 23), (some (21, true)), .ia 3 (.t 22) (.c (.int .i64 (0)))⟩, ⟨(some 24), (some (21, true)), .fa 0 (.t 23)⟩, ⟨(some 25), (some (21, true)), .load false 1 (.t 24)⟩, ⟨(some 26), (some (21, true)), .mv (.t 1)⟩, ⟨(some 27), (some (21, true)), .bin .eql (.t 25) (.t 26)⟩, ⟨(some 28), none, .pick (.t 21) (.t 27) (.c (.bool false))⟩, ⟨(some 29), none, .mv (.t 28)⟩, ⟨(some 30), (some (29, true)), .mv (.t 5)⟩, ⟨(some 31), (some (29, true)), .ia 3 (.t 30) (.c (.int .i64 (0)))⟩, ⟨(some 32), (some (29, true)), .fa 2 (.t 31)⟩, ⟨(some 33), (some (29, true)), .load false 1 (.t 32)⟩, ⟨(some 34), (some (29, true)), .bin .eql (.t 33) (.c (.int .i64 (0)))⟩, ⟨(some 35), none, .pick (.t 29) (.t 34) (.c (.bool false))⟩, ⟨(some 36), none, .mv (.t 35)⟩, ⟨(some 37), (some (36, true)), .mv (.t 1)⟩, ⟨(some 38), (some (36, true)), .bin .eql (.t 37) (.c (.int .i64 (2)))⟩, ⟨(some 39), (some (36, true)), .mv (.t 38)⟩, ⟨(some 40), (some (39, false)), .mv (.t 5)⟩, ⟨(some 41), (some (39, false)), .ia 3 (.t 40) (.c (.int .i64 (0)))⟩, ⟨(some 42), (some (39, false)), .fa 1 (.t 41)⟩, ⟨(some 43), (some (39, false)), .load false 1 (.t 42)⟩, ⟨(some 44), (some (39, false)), .mv (.t 0)⟩, ⟨(some 45), (some (39, false)), .bin .eql (.t 43) (.t 44)⟩, ⟨(some 46), (some (36, true)), .pick (.t 39) (.c (.bool true)) (.t 45)⟩, ⟨(some 47), none, .pick (.t 36) (.t 46) (.c (.bool false))⟩, ⟨(some 4), none, .mv (.t 47)⟩]) .ret)))))⟩
def A.rules_Right_1 : AFn := ⟨9, [(3, none)], (.seq (.reg [⟨(some 2), none, .box (.t 0)⟩, ⟨(some 3), none, .mv (.c (.bool false))⟩])
  (.keep [1, 2] (.seq (.reg [⟨(some 4), none, .fa 0 (.t 2)⟩, ⟨(some 5), none, .load false 1 (.t 4)⟩, ⟨(some 6), none, .fa 0 (.t 1)⟩, ⟨(some 7), none, .load false 1 (.t 6)⟩, ⟨(some 8), none, .bin .eql (.t 5) (.t 7)⟩, ⟨(some 3), none, .mv (.t 8)⟩]) .ret)))⟩
def A.rules_Same_1 : AFn := ⟨24, [(4, none)], (.seq (.reg [⟨(some 2), none, .box (.t 0)⟩, ⟨(some 3), none, .box (.t 1)⟩, ⟨(some 4), none, .mv (.c (.bool false))⟩])
  (.keep [2, 3] (.seq (.reg [⟨(some 5), none, .fa 0 (.t 2)⟩, ⟨(some 6), none, .load false 1 (.t 5)⟩, ⟨(some 7), none, .fa 0 (.t 3)⟩, ⟨(some 8), none, .load false 1 (.t 7)⟩, ⟨(some 9), none, .bin .eql (.t 6) (.t 8)⟩, ⟨(some 10), none, .mv (.t 9)⟩, ⟨(some 11), (some (10, true)), .fa 1 (.t 2)⟩, ⟨(some 12), (some (10, true)), .load false 1 (.t 11)⟩, ⟨(some 13), (some (10, true)), .fa 1 (.t 3)⟩, ⟨(some 14), (some (10, true)), .load false 1 (.t 13)⟩, ⟨(some 15), (some (10, true)), .bin .eql (.t 12) (.t 14)⟩, ⟨(some 16), none, .pick (.t 10) (.t 15) (.c (.bool false))⟩, ⟨(some 17), none, .mv (.t 16)⟩, ⟨(some 18), (some (17, true)), .fa 2 (.t 2)⟩, ⟨(some 19), (some (17, true)), .load false 1 (.t 18)⟩, ⟨(some 20), (some (17, true)), .fa 2 (.t 3)⟩, ⟨(some 21), (some (17, true)), .load false 1 (.t 20)⟩, ⟨(some 22), (some (17, true)), .call (.c (.fn K.slices_Equal_int [] [])) [(.t 19), (.t 21)]⟩, ⟨(some 23), none, .pick (.t 17) (.t 22) (.c (.bool false))⟩, ⟨(some 4), none, .mv (.t 23)⟩]) .ret)))⟩
def A.rules_Tree_fine_1 : AFn := ⟨9, [(3, none)], (.seq (.reg [⟨(some 2), none, .box (.t 0)⟩, ⟨(some 3), none, .mv (.c (.bool false))⟩])
  (.keep [1, 2] (.seq (.reg [⟨(some 4), none, .fa 0 (.t 2)⟩, ⟨(some 5), none, .load false 1 (.t 4)⟩, ⟨(some 6), none, .fa 1 (.t 1)⟩, ⟨(some 7), none, .load false 1 (.t 6)⟩, ⟨(some 8), none, .bin .eql (.t 5) (.t 7)⟩, ⟨(some 3), none, .mv (.t 8)⟩]) .ret)))⟩
def A.rules_reader_text.L0 : AC := .post (.seq (.seq (.reg [⟨(some 5), none, .mv (.t 2)⟩])
  (.keep [0, 5] (.cond (.t 5) .skip (.exit 0))))
  (.keep [0] (.seq (.block 1 (.seq (.reg [⟨(some 16), none, .mv (.t 0)⟩, ⟨(some 17), none, .call (.c (.fn K.rules_reader_name [] [])) [(.t 16)]⟩, ⟨(some 3), none, .alloc [(.str []), (.int .i64 (0))]⟩, ⟨none, none, .store 2 (.t 3) (.t 17)⟩])
  (.keep [0, 3] (.seq (.draw [(.pl, ⟨(some 18), none, .mv (.t 0)⟩), (.pl, ⟨(some 19), none, .mv (.t 0)⟩), (.pl, ⟨(some 20), none, .nilchk (.t 19)⟩), (.pl, ⟨(some 21), none, .fa 5 (.t 20)⟩), (.pl, ⟨(some 22), none, .load false 1 (.t 21)⟩), (.pl, ⟨(some 23), none, .load true 2 (.t 3)⟩), (.pl, ⟨(some 24), none, .bsl 2 true [(.str []), (.int .i64 (0))] 1 [(0, (.t 23))]⟩), (.eff, ⟨(some 25), none, .app 2 24 (.t 22) (.t 24)⟩), (.pl, ⟨(some 26), none, .nilchk (.t 18)⟩), (.pl, ⟨(some 27), none, .fa 5 (.t 26)⟩), (.eff, ⟨none, none, .store 1 (.t 27) (.t 25)⟩)])
  (.keep [0, 3] (.seq (.reg [⟨(some 28), none, .mv (.t 0)⟩, ⟨(some 29), none, .call (.c (.fn K.rules_reader_must [] [])) [(.t 28), (.c (.str [58]))]⟩])
  (.keep [0, 3] (.seq (.reg [⟨(some 30), none, .mv (.t 0)⟩, ⟨(some 31), none, .call (.c (.fn K.rules_reader_alternatives [] [])) [(.t 30)]⟩, ⟨(some 4), none, .mv (.t 31)⟩])
  (.keep [0, 3, 4] (.seq (.reg [⟨(some 32), none, .mv (.t 0)⟩, ⟨(some 33), none, .call (.c (.fn K.rules_reader_must [] [])) [(.t 32), (.c (.str [59]))]⟩])
  (.keep [0, 3, 4] (.draw [(.pl, ⟨(some 34), none, .mv (.t 0)⟩), (.pl, ⟨(some 35), none, .mv (.t 0)⟩), (.pl, ⟨(some 36), none, .nilchk (.t 35)⟩), (.pl, ⟨(some 37), none, .fa 3 (.t 36)⟩), (.pl, ⟨(some 38), none, .fa 0 (.t 37)⟩), (.pl, ⟨(some 39), none, .load false 1 (.t 38)⟩), (.pl, ⟨(some 40), none, .fa 0 (.t 3)⟩), (.pl, ⟨(some 41), none, .load false 1 (.t 40)⟩), (.pl, ⟨(some 42), none, .mv (.t 4)⟩), (.pl, ⟨(some 43), none, .bld [(.str []), (.int .i64 (0))] [(0, 1, (.t 41)), (1, 1, (.t 42))]⟩), (.pl, ⟨(some 44), none, .bsl 2 true [(.str []), (.int .i64 (0))] 1 [(0, (.t 43))]⟩), (.eff, ⟨(some 45), none, .app 2 24 (.t 39) (.t 44)⟩), (.pl, ⟨(some 46), none, .nilchk (.t 34)⟩), (.pl, ⟨(some 47), none, .fa 3 (.t 46)⟩), (.pl, ⟨(some 48), none, .fa 0 (.t 47)⟩), (.eff, ⟨none, none, .store 1 (.t 48) (.t 45)⟩)]))))))))))))
  (.keep [0] (.draw [(.pl, ⟨(some 6), none, .mv (.t 0)⟩), (.pl, ⟨(some 7), none, .nilchk (.t 6)⟩), (.pl, ⟨(some 8), none, .fa 1 (.t 7)⟩), (.pl, ⟨(some 9), none, .load false 1 (.t 8)⟩), (.pl, ⟨(some 10), none, .mv (.t 0)⟩), (.pl, ⟨(some 11), none, .nilchk (.t 10)⟩), (.pl, ⟨(some 12), none, .fa 0 (.t 11)⟩), (.pl, ⟨(some 13), none, .load false 1 (.t 12)⟩), (.pl, ⟨(some 14), none, .len false (.t 13)⟩), (.pl, ⟨(some 15), none, .bin .lss (.t 9) (.t 14)⟩), (.pl, ⟨(some 2), none, .mv (.t 15)⟩)]))))) [0, 2]
def A.rules_reader_text : AFn := ⟨49, [], (.seq (.reg [⟨(some 2), none, .mv (.c (.bool true))⟩])
  (.keep [0, 2] (.block 0 (.loop A.rules_reader_text.L0))))⟩
def A.rules_reader_name : AFn := ⟨52, [(2, (some (true, 2)))], (.seq (.reg [⟨(some 2), none, .alloc [(.str []), (.int .i64 (0))]⟩])
  (.keep [0, 2] (.seq (.seq (.draw [(.pl, ⟨(some 4), none, .mv (.t 0)⟩), (.pl, ⟨(some 5), none, .nilchk (.t 4)⟩), (.pl, ⟨(some 6), none, .fa 1 (.t 5)⟩), (.pl, ⟨(some 7), none, .load false 1 (.t 6)⟩), (.pl, ⟨(some 8), none, .mv (.t 0)⟩), (.pl, ⟨(some 9), none, .nilchk (.t 8)⟩), (.pl, ⟨(some 10), none, .fa 0 (.t 9)⟩), (.pl, ⟨(some 11), none, .load false 1 (.t 10)⟩), (.pl, ⟨(some 12), none, .len false (.t 11)⟩), (.pl, ⟨(some 13), none, .bin .geq (.t 7) (.t 12)⟩), (.pl, ⟨(some 14), none, .mv (.t 13)⟩), (.pl, ⟨(some 15), (some (14, false)), .mv (.t 0)⟩), (.pl, ⟨(some 16), (some (14, false)), .nilchk (.t 15)⟩), (.pl, ⟨(some 17), (some (14, false)), .fa 0 (.t 16)⟩), (.pl, ⟨(some 18), (some (14, false)), .load false 1 (.t 17)⟩), (.pl, ⟨(some 19), (some (14, false)), .mv (.t 0)⟩), (.pl, ⟨(some 20), (some (14, false)), .nilchk (.t 19)⟩), (.pl, ⟨(some 21), (some (14, false)), .fa 1 (.t 20)⟩), (.pl, ⟨(some 22), (some (14, false)), .load false 1 (.t 21)⟩), (.pl, ⟨(some 23), (some (14, false)), .ia 3 (.t 18) (.t 22)⟩), (.pl, ⟨(some 24), (some (14, false)), .fa 0 (.t 23)⟩), (.pl, ⟨(some 25), (some (14, false)), .load false 1 (.t 24)⟩), (.pl, ⟨(some 26), (some (14, false)), .bin .neq (.t 25) (.c (.int .i64 (1)))⟩), (.pl, ⟨(some 27), none, .pick (.t 14) (.c (.bool true)) (.t 26)⟩)])
  (.keep [0, 2, 27] (.cond (.t 27) (.reg [⟨(some 28), none, .mv (.t 0)⟩, ⟨(some 29), none, .call (.c (.fn K.rules_reader_fail [] [])) [(.t 28)]⟩]) .skip)))
  (.keep [0, 2] (.seq (.draw [(.pl, ⟨(some 30), none, .mv (.t 0)⟩), (.pl, ⟨(some 31), none, .nilchk (.t 30)⟩), (.pl, ⟨(some 32), none, .fa 0 (.t 31)⟩), (.fl, ⟨(some 33), none, .load false 1 (.t 32)⟩), (.pl, ⟨(some 34), none, .mv (.t 0)⟩), (.pl, ⟨(some 35), none, .nilchk (.t 34)⟩), (.pl, ⟨(some 36), none, .fa 1 (.t 35)⟩), (.fl, ⟨(some 37), none, .load false 1 (.t 36)⟩), (.pl, ⟨(some 38), none, .ia 3 (.t 33) (.t 37)⟩), (.fl, ⟨(some 39), none, .load true 3 (.t 38)⟩), (.eff, ⟨(some 3), none, .alloc [(.int .i64 (0)), (.str []), (.int .i64 (0))]⟩), (.efo, ⟨none, none, .store 3 (.t 3) (.t 39)⟩)])
  (.keep [0, 2, 3] (.seq (.reg [⟨(some 40), none, .mv (.t 0)⟩, ⟨(some 41), none, .nilchk (.t 40)⟩, ⟨(some 42), none, .fa 1 (.t 41)⟩, ⟨(some 43), none, .load false 1 (.t 42)⟩, ⟨(some 44), none, .bin .add (.t 43) (.c (.int .i64 (1)))⟩, ⟨(some 45), none, .nilchk (.t 40)⟩, ⟨(some 46), none, .fa 1 (.t 45)⟩, ⟨none, none, .store 1 (.t 46) (.t 44)⟩])
  (.keep [2, 3] (.seq (.reg [⟨(some 47), none, .fa 1 (.t 3)⟩, ⟨(some 48), none, .load false 1 (.t 47)⟩, ⟨(some 49), none, .fa 2 (.t 3)⟩, ⟨(some 50), none, .load false 1 (.t 49)⟩, ⟨(some 51), none, .bld [(.str []), (.int .i64 (0))] [(0, 1, (.t 48)), (1, 1, (.t 50))]⟩, ⟨none, none, .store 2 (.t 2) (.t 51)⟩]) .ret)))))))))⟩
def A.rules_reader_must : AFn := ⟨10, [], (.seq (.reg [⟨(some 4), none, .mv (.t 0)⟩, ⟨(some 5), none, .mv (.t 1)⟩, ⟨(some 6), none, .call (.c (.fn K.rules_reader_take [] [])) [(.t 4), (.t 5)]⟩, ⟨(some 7), none, .un .not (.t 6)⟩])
  (.keep [0, 7] (.cond (.t 7) (.reg [⟨(some 8), none, .mv (.t 0)⟩, ⟨(some 9), none, .call (.c (.fn K.rules_reader_fail [] [])) [(.t 8)]⟩]) .skip)))⟩
def A.rules_reader_alternatives.L1 : AC := .post (.seq (.seq (.reg [⟨(some 9), none, .mv (.t 0)⟩, ⟨(some 10), none, .call (.c (.fn K.rules_reader_begins [] [])) [(.t 9)]⟩])
  (.keep [0, 3, 5, 10] (.cond (.t 10) .skip (.exit 2))))
  (.keep [0, 3, 5] (.block 3 (.reg [⟨(some 11), none, .mv (.t 5)⟩, ⟨(some 12), none, .mv (.t 0)⟩, ⟨(some 13), none, .call (.c (.fn K.rules_reader_item [] [])) [(.t 12)]⟩, ⟨(some 14), none, .bsl 1 false [(.int .i64 (0))] 1 [(0, (.t 13))]⟩, ⟨(some 15), none, .app 1 8 (.t 11) (.t 14)⟩, ⟨(some 5), none, .mv (.t 15)⟩])))) [0, 3, 5]
def A.rules_reader_alternatives.L0 : AC := .post (.seq (.seq (.reg [⟨(some 6), none, .mv (.t 4)⟩])
  (.keep [0, 3, 6] (.cond (.t 6) .skip (.exit 0))))
  (.keep [0, 3] (.seq (.block 1 (.seq (.reg [⟨(some 5), none, .mv (.c (.sl 0 1 []))⟩])
  (.keep [0, 3, 5] (.seq (.block 2 (.loop A.rules_reader_alternatives.L1))
  (.keep [0, 3, 5] (.reg [⟨(some 16), none, .mv (.t 3)⟩, ⟨(some 17), none, .mv (.t 0)⟩, ⟨(some 18), none, .mv (.t 5)⟩, ⟨(some 19), none, .call (.c (.fn K.rules_reader_one [] [])) [(.t 17), (.c (.int .i64 (1))), (.t 18)]⟩, ⟨(some 20), none, .bsl 1 false [(.int .i64 (0))] 1 [(0, (.t 19))]⟩, ⟨(some 21), none, .app 1 8 (.t 16) (.t 20)⟩, ⟨(some 3), none, .mv (.t 21)⟩]))))))
  (.keep [0, 3] (.reg [⟨(some 7), none, .mv (.t 0)⟩, ⟨(some 8), none, .call (.c (.fn K.rules_reader_take [] [])) [(.t 7), (.c (.str [124]))]⟩, ⟨(some 4), none, .mv (.t 8)⟩]))))) [0, 3, 4]
def A.rules_reader_alternatives : AFn := ⟨25, [(2, none)], (.seq (.reg [⟨(some 2), none, .mv (.c (.int .i64 (0)))⟩])
  (.keep [0] (.seq (.reg [⟨(some 3), none, .mv (.c (.sl 0 1 []))⟩])
  (.keep [0, 3] (.seq (.seq (.reg [⟨(some 4), none, .mv (.c (.bool true))⟩])
  (.keep [0, 3, 4] (.block 0 (.loop A.rules_reader_alternatives.L0))))
  (.keep [0, 3] (.seq (.reg [⟨(some 22), none, .mv (.t 0)⟩, ⟨(some 23), none, .mv (.t 3)⟩, ⟨(some 24), none, .call (.c (.fn K.rules_reader_one [] [])) [(.t 22), (.c (.int .i64 (2))), (.t 23)]⟩, ⟨(some 2), none, .mv (.t 24)⟩]) .ret)))))))⟩
def A.rules_reader_take : AFn := ⟨18, [(4, none)], (.seq (.reg [⟨(some 4), none, .mv (.c (.bool false))⟩])
  (.keep [0, 1] (.seq (.reg [⟨(some 6), none, .mv (.t 0)⟩, ⟨(some 7), none, .mv (.t 1)⟩, ⟨(some 8), none, .call (.c (.fn K.rules_reader_ahead [] [])) [(.t 6), (.t 7)]⟩, ⟨(some 5), none, .mv (.t 8)⟩])
  (.keep [0, 5] (.seq (.seq (.reg [⟨(some 9), none, .mv (.t 5)⟩])
  (.keep [0, 5, 9] (.cond (.t 9) (.reg [⟨(some 10), none, .mv (.t 0)⟩, ⟨(some 11), none, .nilchk (.t 10)⟩, ⟨(some 12), none, .fa 1 (.t 11)⟩, ⟨(some 13), none, .load false 1 (.t 12)⟩, ⟨(some 14), none, .bin .add (.t 13) (.c (.int .i64 (1)))⟩, ⟨(some 15), none, .nilchk (.t 10)⟩, ⟨(some 16), none, .fa 1 (.t 15)⟩, ⟨none, none, .store 1 (.t 16) (.t 14)⟩]) .skip)))
  (.keep [5] (.seq (.reg [⟨(some 17), none, .mv (.t 5)⟩, ⟨(some 4), none, .mv (.t 17)⟩]) .ret)))))))⟩
def A.rules_reader_begins : AFn := ⟨31, [(2, none)], (.seq (.reg [⟨(some 2), none, .mv (.c (.bool false))⟩])
  (.keep [0] (.seq (.draw [(.pl, ⟨(some 3), none, .mv (.t 0)⟩), (.pl, ⟨(some 4), none, .nilchk (.t 3)⟩), (.pl, ⟨(some 5), none, .fa 1 (.t 4)⟩), (.pl, ⟨(some 6), none, .load false 1 (.t 5)⟩), (.pl, ⟨(some 7), none, .mv (.t 0)⟩), (.pl, ⟨(some 8), none, .nilchk (.t 7)⟩), (.pl, ⟨(some 9), none, .fa 0 (.t 8)⟩), (.pl, ⟨(some 10), none, .load false 1 (.t 9)⟩), (.pl, ⟨(some 11), none, .len false (.t 10)⟩), (.pl, ⟨(some 12), none, .bin .lss (.t 6) (.t 11)⟩), (.pl, ⟨(some 13), none, .mv (.t 12)⟩), (.pl, ⟨(some 14), (some (13, true)), .mv (.t 0)⟩), (.pl, ⟨(some 15), (some (13, true)), .nilchk (.t 14)⟩), (.pl, ⟨(some 16), (some (13, true)), .fa 0 (.t 15)⟩), (.pl, ⟨(some 17), (some (13, true)), .load false 1 (.t 16)⟩), (.pl, ⟨(some 18), (some (13, true)), .mv (.t 0)⟩), (.pl, ⟨(some 19), (some (13, true)), .nilchk (.t 18)⟩), (.pl, ⟨(some 20), (some (13, true)), .fa 1 (.t 19)⟩), (.pl, ⟨(some 21), (some (13, true)), .load false 1 (.t 20)⟩), (.pl, ⟨(some 22), (some (13, true)), .ia 3 (.t 17) (.t 21)⟩), (.pl, ⟨(some 23), (some (13, true)), .fa 0 (.t 22)⟩), (.pl, ⟨(some 24), (some (13, true)), .load false 1 (.t 23)⟩), (.pl, ⟨(some 25), (some (13, true)), .bin .neq (.t 24) (.c (.int .i64 (3)))⟩), (.pl, ⟨(some 26), (some (13, true)), .mv (.t 25)⟩), (.pl, ⟨(some 27), (some (26, false)), .mv (.t 0)⟩), (.pl, ⟨(some 28), (some (26, false)), .call (.c (.fn K.rules_reader_ahead [] [])) [(.t 27), (.c (.str [40]))]⟩), (.pl, ⟨(some 29), (some (13, true)), .pick (.t 26) (.c (.bool true)) (.t 28)⟩), (.pl, ⟨(some 30), none, .pick (.t 13) (.t 29) (.c (.bool false))⟩), (.pl, ⟨(some 2), none, .mv (.t 30)⟩)]) .ret)))⟩
def A.rules_reader_item : AFn := ⟨28, [(2, none)], (.seq (.reg [⟨(some 2), none, .mv (.c (.int .i64 (0)))⟩])
  (.keep [0] (.seq (.reg [⟨(some 4), none, .mv (.t 0)⟩, ⟨(some 5), none, .call (.c (.fn K.rules_reader_atom [] [])) [(.t 4)]⟩, ⟨(some 3), none, .mv (.t 5)⟩])
  (.keep [0, 3] (.seq (.block 0 (.seq (.reg [⟨(some 7), none, .mv (.t 0)⟩, ⟨(some 8), none, .call (.c (.fn K.rules_reader_take [] [])) [(.t 7), (.c (.str [42]))]⟩, ⟨(some 6), none, .mv (.t 8)⟩])
  (.keep [0, 3, 6] (.cond (.t 6) (.seq (.reg [⟨(some 9), none, .mv (.t 0)⟩, ⟨(some 10), none, .mv (.t 3)⟩, ⟨(some 11), none, .bsl 1 false [(.int .i64 (0))] 1 [(0, (.t 10))]⟩, ⟨(some 12), none, .call (.c (.fn K.rules_reader_node [] [])) [(.t 9), (.c (.int .i64 (3))), (.c (.str [])), (.t 11)]⟩, ⟨(some 2), none, .mv (.t 12)⟩]) .ret) (.seq (.reg [⟨(some 14), none, .mv (.t 0)⟩, ⟨(some 15), none, .call (.c (.fn K.rules_reader_take [] [])) [(.t 14), (.c (.str [43]))]⟩, ⟨(some 13), none, .mv (.t 15)⟩])
  (.keep [0, 3, 13] (.cond (.t 13) (.seq (.reg [⟨(some 16), none, .mv (.t 0)⟩, ⟨(some 17), none, .mv (.t 3)⟩, ⟨(some 18), none, .bsl 1 false [(.int .i64 (0))] 1 [(0, (.t 17))]⟩, ⟨(some 19), none, .call (.c (.fn K.rules_reader_node [] [])) [(.t 16), (.c (.int .i64 (4))), (.c (.str [])), (.t 18)]⟩, ⟨(some 2), none, .mv (.t 19)⟩]) .ret) (.seq (.reg [⟨(some 21), none, .mv (.t 0)⟩, ⟨(some 22), none, .call (.c (.fn K.rules_reader_take [] [])) [(.t 21), (.c (.str [63]))]⟩, ⟨(some 20), none, .mv (.t 22)⟩])
  (.keep [0, 3, 20] (.cond (.t 20) (.seq (.reg [⟨(some 23), none, .mv (.t 0)⟩, ⟨(some 24), none, .mv (.t 3)⟩, ⟨(some 25), none, .bsl 1 false [(.int .i64 (0))] 1 [(0, (.t 24))]⟩, ⟨(some 26), none, .call (.c (.fn K.rules_reader_node [] [])) [(.t 23), (.c (.int .i64 (5))), (.c (.str [])), (.t 25)]⟩, ⟨(some 2), none, .mv (.t 26)⟩]) .ret) .skip))))))))))
  (.keep [3] (.seq (.reg [⟨(some 27), none, .mv (.t 3)⟩, ⟨(some 2), none, .mv (.t 27)⟩]) .ret)))))))⟩
def A.rules_reader_one : AFn := ⟨17, [(6, none)], (.seq (.reg [⟨(some 6), none, .mv (.c (.int .i64 (0)))⟩])
  (.keep [0, 1, 2] (.seq (.seq (.reg [⟨(some 7), none, .mv (.t 2)⟩, ⟨(some 8), none, .len false (.t 7)⟩, ⟨(some 9), none, .bin .eql (.t 8) (.c (.int .i64 (1)))⟩])
  (.keep [0, 1, 2, 9] (.cond (.t 9) (.seq (.reg [⟨(some 10), none, .mv (.t 2)⟩, ⟨(some 11), none, .ia 1 (.t 10) (.c (.int .i64 (0)))⟩, ⟨(some 12), none, .load false 1 (.t 11)⟩, ⟨(some 6), none, .mv (.t 12)⟩]) .ret) .skip)))
  (.keep [0, 1, 2] (.seq (.reg [⟨(some 13), none, .mv (.t 0)⟩, ⟨(some 14), none, .mv (.t 1)⟩, ⟨(some 15), none, .mv (.t 2)⟩, ⟨(some 16), none, .call (.c (.fn K.rules_reader_node [] [])) [(.t 13), (.t 14), (.c (.str [])), (.t 15)]⟩, ⟨(some 6), none, .mv (.t 16)⟩]) .ret)))))⟩
def A.rules_reader_ahead : AFn := ⟨44, [(4, none)], (.seq (.reg [⟨(some 4), none, .mv (.c (.bool false))⟩])
  (.keep [0, 1] (.seq (.draw [(.pl, ⟨(some 5), none, .mv (.t 0)⟩), (.pl, ⟨(some 6), none, .nilchk (.t 5)⟩), (.pl, ⟨(some 7), none, .fa 1 (.t 6)⟩), (.pl, ⟨(some 8), none, .load false 1 (.t 7)⟩), (.pl, ⟨(some 9), none, .mv (.t 0)⟩), (.pl, ⟨(some 10), none, .nilchk (.t 9)⟩), (.pl, ⟨(some 11), none, .fa 0 (.t 10)⟩), (.pl, ⟨(some 12), none, .load false 1 (.t 11)⟩), (.pl, ⟨(some 13), none, .len false (.t 12)⟩), (.pl, ⟨(some 14), none, .bin .lss (.t 8) (.t 13)⟩), (.pl, ⟨(some 15), none, .mv (.t 14)⟩), (.pl, ⟨(some 16), (some (15, true)), .mv (.t 0)⟩), (.pl, ⟨(some 17), (some (15, true)), .nilchk (.t 16)⟩), (.pl, ⟨(some 18), (some (15, true)), .fa 0 (.t 17)⟩), (.pl, ⟨(some 19), (some (15, true)), .load false 1 (.t 18)⟩), (.pl, ⟨(some 20), (some (15, true)), .mv (.t 0)⟩), (.pl, ⟨(some 21), (some (15, true)), .nilchk (.t 20)⟩), (.pl, ⟨(some 22), (some (15, true)), .fa 1 (.t 21)⟩), (.pl, ⟨(some 23), (some (15, true)), .load false 1 (.t 22)⟩), (.pl, ⟨(some 24), (some (15, true)), .ia 3 (.t 19) (.t 23)⟩), (.pl, ⟨(some 25), (some (15, true)), .fa 0 (.t 24)⟩), (.pl, ⟨(some 26), (some (15, true)), .load false 1 (.t 25)⟩), (.pl, ⟨(some 27), (some (15, true)), .bin .eql (.t 26) (.c (.int .i64 (3)))⟩), (.pl, ⟨(some 28), none, .pick (.t 15) (.t 27) (.c (.bool false))⟩), (.pl, ⟨(some 29), none, .mv (.t 28)⟩), (.pl, ⟨(some 30), (some (29, true)), .mv (.t 0)⟩), (.pl, ⟨(some 31), (some (29, true)), .nilchk (.t 30)⟩), (.pl, ⟨(some 32), (some (29, true)), .fa 0 (.t 31)⟩), (.pl, ⟨(some 33), (some (29, true)), .load false 1 (.t 32)⟩), (.pl, ⟨(some 34), (some (29, true)), .mv (.t 0)⟩), (.pl, ⟨(some 35), (some (29, true)), .nilchk (.t 34)⟩), (.pl, ⟨(some 36), (some (29, true)), .fa 1 (.t 35)⟩), (.pl, ⟨(some 37), (some (29, true)), .load false 1 (.t 36)⟩), (.pl, ⟨(some 38), (some (29, true)), .ia 3 (.t 33) (.t 37)⟩), (.pl, ⟨(some 39), (some (29, true)), .fa 1 (.t 38)⟩), (.pl, ⟨(some 40), (some (29, true)), .load false 1 (.t 39)⟩), (.pl, ⟨(some 41), (some (29, true)), .mv (.t 1)⟩), (.pl, ⟨(some 42), (some (29, true)), .bin .eql (.t 40) (.t 41)⟩), (.pl, ⟨(some 43), none, .pick (.t 29) (.t 42) (.c (.bool false))⟩), (.pl, ⟨(some 4), none, .mv (.t 43)⟩)]) .ret)))⟩
def A.rules_reader_atom : AFn := ⟨53, [(2, none)], (.seq (.reg [⟨(some 2), none, .mv (.c (.int .i64 (0)))⟩])
  (.keep [0] (.seq (.seq (.reg [⟨(some 6), none, .mv (.t 0)⟩, ⟨(some 7), none, .call (.c (.fn K.rules_reader_take [] [])) [(.t 6), (.c (.str [40]))]⟩])
  (.keep [0, 7] (.cond (.t 7) (.seq (.reg [⟨(some 8), none, .mv (.t 0)⟩, ⟨(some 9), none, .call (.c (.fn K.rules_reader_alternatives [] [])) [(.t 8)]⟩, ⟨(some 3), none, .mv (.t 9)⟩])
  (.keep [0, 3] (.seq (.reg [⟨(some 10), none, .mv (.t 0)⟩, ⟨(some 11), none, .call (.c (.fn K.rules_reader_must [] [])) [(.t 10), (.c (.str [41]))]⟩])
  (.keep [3] (.seq (.reg [⟨(some 12), none, .mv (.t 3)⟩, ⟨(some 2), none, .mv (.t 12)⟩]) .ret))))) .skip)))
  (.keep [0] (.seq (.seq (.draw [(.pl, ⟨(some 13), none, .mv (.t 0)⟩), (.pl, ⟨(some 14), none, .nilchk (.t 13)⟩), (.pl, ⟨(some 15), none, .fa 0 (.t 14)⟩), (.fl, ⟨(some 16), none, .load false 1 (.t 15)⟩), (.pl, ⟨(some 17), none, .mv (.t 0)⟩), (.pl, ⟨(some 18), none, .nilchk (.t 17)⟩), (.pl, ⟨(some 19), none, .fa 1 (.t 18)⟩), (.fl, ⟨(some 20), none, .load false 1 (.t 19)⟩), (.pl, ⟨(some 21), none, .ia 3 (.t 16) (.t 20)⟩), (.fl, ⟨(some 22), none, .load true 3 (.t 21)⟩), (.eff, ⟨(some 4), none, .alloc [(.int .i64 (0)), (.str []), (.int .i64 (0))]⟩), (.efo, ⟨none, none, .store 3 (.t 4) (.t 22)⟩)])
  (.keep [0, 4] (.seq (.reg [⟨(some 23), none, .fa 0 (.t 4)⟩, ⟨(some 24), none, .load false 1 (.t 23)⟩, ⟨(some 25), none, .bin .eql (.t 24) (.c (.int .i64 (2)))⟩])
  (.keep [0, 4, 25] (.cond (.t 25) (.seq (.reg [⟨(some 26), none, .mv (.t 0)⟩, ⟨(some 27), none, .nilchk (.t 26)⟩, ⟨(some 28), none, .fa 1 (.t 27)⟩, ⟨(some 29), none, .load false 1 (.t 28)⟩, ⟨(some 30), none, .bin .add (.t 29) (.c (.int .i64 (1)))⟩, ⟨(some 31), none, .nilchk (.t 26)⟩, ⟨(some 32), none, .fa 1 (.t 31)⟩, ⟨none, none, .store 1 (.t 32) (.t 30)⟩])
  (.keep [0, 4] (.seq (.reg [⟨(some 33), none, .mv (.t 0)⟩, ⟨(some 34), none, .fa 1 (.t 4)⟩, ⟨(some 35), none, .load false 1 (.t 34)⟩, ⟨(some 36), none, .call (.c (.fn K.rules_reader_node [] [])) [(.t 33), (.c (.int .i64 (7))), (.t 35), (.c (.sl 0 1 []))]⟩, ⟨(some 2), none, .mv (.t 36)⟩]) .ret))) .skip)))))
  (.keep [0] (.seq (.reg [⟨(some 37), none, .mv (.t 0)⟩, ⟨(some 38), none, .call (.c (.fn K.rules_reader_name [] [])) [(.t 37)]⟩, ⟨(some 5), none, .alloc [(.str []), (.int .i64 (0))]⟩, ⟨none, none, .store 2 (.t 5) (.t 38)⟩])
  (.keep [0, 5] (.seq (.draw [(.pl, ⟨(some 39), none, .mv (.t 0)⟩), (.pl, ⟨(some 40), none, .mv (.t 0)⟩), (.pl, ⟨(some 41), none, .nilchk (.t 40)⟩), (.pl, ⟨(some 42), none, .fa 6 (.t 41)⟩), (.pl, ⟨(some 43), none, .load false 1 (.t 42)⟩), (.pl, ⟨(some 44), none, .load true 2 (.t 5)⟩), (.pl, ⟨(some 45), none, .bsl 2 true [(.str []), (.int .i64 (0))] 1 [(0, (.t 44))]⟩), (.eff, ⟨(some 46), none, .app 2 24 (.t 43) (.t 45)⟩), (.pl, ⟨(some 47), none, .nilchk (.t 39)⟩), (.pl, ⟨(some 48), none, .fa 6 (.t 47)⟩), (.eff, ⟨none, none, .store 1 (.t 48) (.t 46)⟩)])
  (.keep [0, 5] (.seq (.reg [⟨(some 49), none, .mv (.t 0)⟩, ⟨(some 50), none, .fa 0 (.t 5)⟩, ⟨(some 51), none, .load false 1 (.t 50)⟩, ⟨(some 52), none, .call (.c (.fn K.rules_reader_node [] [])) [(.t 49), (.c (.int .i64 (6))), (.t 51), (.c (.sl 0 1 []))]⟩, ⟨(some 2), none, .mv (.t 52)⟩]) .ret)))))))))))⟩
def A.rules_reader_node : AFn := ⟨31, [(8, none)], (.seq (.reg [⟨(some 8), none, .mv (.c (.int .i64 (0)))⟩])
  (.keep [0, 1, 2, 3] (.seq (.reg [⟨(some 9), none, .mv (.t 0)⟩, ⟨(some 10), none, .mv (.t 0)⟩, ⟨(some 11), none, .nilchk (.t 10)⟩, ⟨(some 12), none, .fa 3 (.t 11)⟩, ⟨(some 13), none, .fa 1 (.t 12)⟩, ⟨(some 14), none, .load false 1 (.t 13)⟩, ⟨(some 15), none, .mv (.t 1)⟩, ⟨(some 16), none, .mv (.t 2)⟩, ⟨(some 17), none, .mv (.t 3)⟩, ⟨(some 18), none, .bld [(.int .i64 (0)), (.str []), (.sl 0 1 [])] [(0, 1, (.t 15)), (1, 1, (.t 16)), (2, 1, (.t 17))]⟩, ⟨(some 19), none, .bsl 3 true [(.int .i64 (0)), (.str []), (.sl 0 1 [])] 1 [(0, (.t 18))]⟩, ⟨(some 20), none, .app 3 48 (.t 14) (.t 19)⟩, ⟨(some 21), none, .nilchk (.t 9)⟩, ⟨(some 22), none, .fa 3 (.t 21)⟩, ⟨(some 23), none, .fa 1 (.t 22)⟩, ⟨none, none, .store 1 (.t 23) (.t 20)⟩])
  (.keep [0] (.seq (.reg [⟨(some 24), none, .mv (.t 0)⟩, ⟨(some 25), none, .nilchk (.t 24)⟩, ⟨(some 26), none, .fa 3 (.t 25)⟩, ⟨(some 27), none, .fa 1 (.t 26)⟩, ⟨(some 28), none, .load false 1 (.t 27)⟩, ⟨(some 29), none, .len false (.t 28)⟩, ⟨(some 30), none, .bin .sub (.t 29) (.c (.int .i64 (1)))⟩, ⟨(some 8), none, .mv (.t 30)⟩]) .ret)))))⟩
def A.rules_Tree_fine : AFn := ⟨68, [(4, none)], (.seq (.reg [⟨(some 2), none, .box (.t 0)⟩, ⟨(some 3), none, .box (.t 1)⟩, ⟨(some 4), none, .mv (.c (.bool false))⟩])
  (.keep [2, 3] (.seq (.reg [⟨(some 6), none, .fa 2 (.t 3)⟩, ⟨(some 7), none, .load false 1 (.t 6)⟩, ⟨(some 8), none, .len false (.t 7)⟩, ⟨(some 5), none, .mv (.t 8)⟩])
  (.keep [2, 3, 5] (.seq (.seq (.reg [⟨(some 9), none, .fa 0 (.t 3)⟩, ⟨(some 10), none, .load false 1 (.t 9)⟩])
  (.keep [2, 3, 5, 10] (.block 0 (.seq (.reg [⟨(some 12), none, .bin .eql (.t 10) (.c (.int .i64 (1)))⟩, ⟨(some 11), none, .mv (.t 12)⟩])
  (.keep [2, 3, 5, 10, 11] (.cond (.t 11) (.seq (.reg [⟨(some 13), none, .fa 1 (.t 3)⟩, ⟨(some 14), none, .load false 1 (.t 13)⟩, ⟨(some 15), none, .bin .eql (.t 14) (.c (.str []))⟩, ⟨(some 16), none, .mv (.t 15)⟩, ⟨(some 17), (some (16, true)), .mv (.t 5)⟩, ⟨(some 18), (some (16, true)), .bin .neq (.t 17) (.c (.int .i64 (1)))⟩, ⟨(some 19), none, .pick (.t 16) (.t 18) (.c (.bool false))⟩, ⟨(some 4), none, .mv (.t 19)⟩]) .ret) (.seq (.reg [⟨(some 21), none, .bin .eql (.t 10) (.c (.int .i64 (2)))⟩, ⟨(some 20), none, .mv (.t 21)⟩])
  (.keep [2, 3, 5, 10, 20] (.cond (.t 20) (.seq (.reg [⟨(some 22), none, .fa 1 (.t 3)⟩, ⟨(some 23), none, .load false 1 (.t 22)⟩, ⟨(some 24), none, .bin .eql (.t 23) (.c (.str []))⟩, ⟨(some 25), none, .mv (.t 24)⟩, ⟨(some 26), (some (25, true)), .mv (.t 5)⟩, ⟨(some 27), (some (25, true)), .bin .gtr (.t 26) (.c (.int .i64 (1)))⟩, ⟨(some 28), none, .pick (.t 25) (.t 27) (.c (.bool false))⟩, ⟨(some 4), none, .mv (.t 28)⟩]) .ret) (.seq (.seq (.reg [⟨(some 30), none, .bin .eql (.t 10) (.c (.int .i64 (3)))⟩, ⟨(some 29), none, .mv (.t 30)⟩])
  (.keep [2, 3, 5, 10, 29] (.cond (.t 29) .skip (.seq (.reg [⟨(some 31), none, .bin .eql (.t 10) (.c (.int .i64 (4)))⟩, ⟨(some 29), none, .mv (.t 31)⟩])
  (.keep [2, 3, 5, 10, 29] (.cond (.t 29) .skip (.reg [⟨(some 32), none, .bin .eql (.t 10) (.c (.int .i64 (5)))⟩, ⟨(some 29), none, .mv (.t 32)⟩])))))))
  (.keep [2, 3, 5, 10, 29] (.cond (.t 29) (.seq (.reg [⟨(some 33), none, .fa 1 (.t 3)⟩, ⟨(some 34), none, .load false 1 (.t 33)⟩, ⟨(some 35), none, .bin .eql (.t 34) (.c (.str []))⟩, ⟨(some 36), none, .mv (.t 35)⟩, ⟨(some 37), (some (36, true)), .mv (.t 5)⟩, ⟨(some 38), (some (36, true)), .bin .eql (.t 37) (.c (.int .i64 (1)))⟩, ⟨(some 39), none, .pick (.t 36) (.t 38) (.c (.bool false))⟩, ⟨(some 4), none, .mv (.t 39)⟩]) .ret) (.seq (.reg [⟨(some 41), none, .bin .eql (.t 10) (.c (.int .i64 (6)))⟩, ⟨(some 40), none, .mv (.t 41)⟩])
  (.keep [2, 3, 5, 10, 40] (.cond (.t 40) (.seq (.reg [⟨(some 42), none, .mv (.t 5)⟩, ⟨(some 43), none, .bin .eql (.t 42) (.c (.int .i64 (0)))⟩, ⟨(some 44), none, .mv (.t 43)⟩, ⟨(some 45), (some (44, true)), .fa 0 (.t 2)⟩, ⟨(some 46), (some (44, true)), .load false 1 (.t 45)⟩, ⟨(some 47), (some (44, true)), .mkfn K.rules_Tree_fine_1 [] [(.t 3)]⟩, ⟨(some 48), (some (44, true)), .call (.c (.fn K.slices_ContainsFunc_Rule [] [])) [(.t 46), (.t 47)]⟩, ⟨(some 49), none, .pick (.t 44) (.t 48) (.c (.bool false))⟩, ⟨(some 4), none, .mv (.t 49)⟩]) .ret) (.seq (.reg [⟨(some 51), none, .bin .eql (.t 10) (.c (.int .i64 (7)))⟩, ⟨(some 50), none, .mv (.t 51)⟩])
  (.keep [3, 5, 50] (.cond (.t 50) (.seq (.reg [⟨(some 52), none, .mv (.t 5)⟩, ⟨(some 53), none, .bin .eql (.t 52) (.c (.int .i64 (0)))⟩, ⟨(some 54), none, .mv (.t 53)⟩, ⟨(some 55), (some (54, true)), .fa 1 (.t 3)⟩, ⟨(some 56), (some (54, true)), .load false 1 (.t 55)⟩, ⟨(some 57), (some (54, true)), .s2b (.t 56)⟩, ⟨(some 58), (some (54, true)), .call (.c (.fn K.slices_Contains_byte [] [])) [(.t 57), (.c (.int .u8 (39)))]⟩, ⟨(some 59), (some (54, true)), .un .not (.t 58)⟩, ⟨(some 60), none, .pick (.t 54) (.t 59) (.c (.bool false))⟩, ⟨(some 61), none, .mv (.t 60)⟩, ⟨(some 62), (some (61, true)), .fa 1 (.t 3)⟩, ⟨(some 63), (some (61, true)), .load false 1 (.t 62)⟩, ⟨(some 64), (some (61, true)), .bin .add (.c (.str [39])) (.t 63)⟩, ⟨(some 65), (some (61, true)), .bin .add (.t 64) (.c (.str [39]))⟩, ⟨(some 66), (some (61, true)), .call (.c (.fn K.rules_token [] [])) [(.t 65), (.c (.int .i64 (2)))]⟩, ⟨(some 67), none, .pick (.t 61) (.t 66) (.c (.bool false))⟩, ⟨(some 4), none, .mv (.t 67)⟩]) .ret) .skip))))))))))))))))))
  (.keep [] (.seq (.reg [⟨(some 4), none, .mv (.c (.bool false))⟩]) .ret)))))))⟩
def A.rules_reader_names.L0 : AC := .post (.seq (.reg [⟨(some 16), none, .bin .lss (.t 15) (.t 14)⟩])
  (.keep [0, 4, 13, 14, 15, 16] (.seq (.cond (.t 16) .skip (.exit 0))
  (.keep [0, 4, 13, 14, 15] (.seq (.block 1 (.seq (.reg [⟨(some 17), none, .ia 2 (.t 13) (.t 15)⟩, ⟨(some 18), none, .load true 2 (.t 17)⟩, ⟨(some 6), none, .alloc [(.str []), (.int .i64 (0))]⟩, ⟨none, none, .store 2 (.t 6) (.t 18)⟩])
  (.keep [0, 4, 6, 13, 14, 15] (.seq (.reg [⟨(some 19), none, .mv (.t 4)⟩, ⟨(some 20), none, .fa 0 (.t 6)⟩, ⟨(some 21), none, .load false 1 (.t 20)⟩, ⟨(some 22), none, .lkp .s (.int .i64 (0)) false (.t 19) (.t 21)⟩, ⟨(some 23), none, .bin .add (.t 22) (.c (.int .i64 (1)))⟩, ⟨none, none, .mupd .s (.t 19) (.t 21) (.t 23)⟩])
  (.keep [0, 4, 6, 13, 14, 15] (.seq (.reg [⟨(some 24), none, .mv (.t 4)⟩, ⟨(some 25), none, .fa 0 (.t 6)⟩, ⟨(some 26), none, .load false 1 (.t 25)⟩, ⟨(some 27), none, .lkp .s (.int .i64 (0)) false (.t 24) (.t 26)⟩, ⟨(some 28), none, .bin .gtr (.t 27) (.c (.int .i64 (1)))⟩])
  (.keep [0, 4, 6, 13, 14, 15, 28] (.cond (.t 28) (.seq (.reg [⟨(some 29), none, .fa 1 (.t 6)⟩, ⟨(some 30), none, .load false 1 (.t 29)⟩, ⟨(some 2), none, .mv (.t 30)⟩, ⟨(some 3), none, .mv (.c (.int .i64 (7)))⟩]) .ret) .skip))))))))
  (.keep [0, 4, 13, 14, 15] (.reg [⟨(some 31), none, .bin .add (.t 15) (.c (.int .i64 (1)))⟩, ⟨(some 15), none, .mv (.t 31)⟩]))))))) [0, 4, 13, 14, 15]
def A.rules_reader_names.L1 : AC := .post (.seq (.reg [⟨(some 38), none, .bin .lss (.t 37) (.t 36)⟩])
  (.keep [4, 35, 36, 37, 38] (.seq (.cond (.t 38) .skip (.exit 2))
  (.keep [4, 35, 36, 37] (.seq (.block 3 (.seq (.reg [⟨(some 39), none, .ia 2 (.t 35) (.t 37)⟩, ⟨(some 40), none, .load true 2 (.t 39)⟩, ⟨(some 8), none, .alloc [(.str []), (.int .i64 (0))]⟩, ⟨none, none, .store 2 (.t 8) (.t 40)⟩])
  (.keep [4, 8, 35, 36, 37] (.seq (.reg [⟨(some 41), none, .mv (.t 4)⟩, ⟨(some 42), none, .fa 0 (.t 8)⟩, ⟨(some 43), none, .load false 1 (.t 42)⟩, ⟨(some 44), none, .lkp .s (.int .i64 (0)) false (.t 41) (.t 43)⟩, ⟨(some 45), none, .bin .eql (.t 44) (.c (.int .i64 (0)))⟩])
  (.keep [4, 8, 35, 36, 37, 45] (.cond (.t 45) (.seq (.reg [⟨(some 46), none, .fa 1 (.t 8)⟩, ⟨(some 47), none, .load false 1 (.t 46)⟩, ⟨(some 2), none, .mv (.t 47)⟩, ⟨(some 3), none, .mv (.c (.int .i64 (6)))⟩]) .ret) .skip))))))
  (.keep [4, 35, 36, 37] (.reg [⟨(some 48), none, .bin .add (.t 37) (.c (.int .i64 (1)))⟩, ⟨(some 37), none, .mv (.t 48)⟩]))))))) [4, 35, 36, 37]
def A.rules_reader_names : AFn := ⟨49, [(2, none), (3, none)], (.seq (.reg [⟨(some 2), none, .mv (.c (.int .i64 (0)))⟩, ⟨(some 3), none, .mv (.c (.int .i64 (0)))⟩])
  (.keep [0] (.seq (.reg [⟨(some 9), none, .mkm⟩, ⟨(some 4), none, .mv (.t 9)⟩])
  (.keep [0, 4] (.seq (.seq (.reg [⟨(some 10), none, .mv (.t 0)⟩, ⟨(some 11), none, .nilchk (.t 10)⟩, ⟨(some 12), none, .fa 5 (.t 11)⟩, ⟨(some 13), none, .load false 1 (.t 12)⟩, ⟨(some 14), none, .len false (.t 13)⟩, ⟨(some 15), none, .mv (.c (.int .i64 (0)))⟩])
  (.keep [0, 4, 13, 14, 15] (.block 0 (.loop A.rules_reader_names.L0))))
  (.keep [0, 4] (.seq (.seq (.reg [⟨(some 32), none, .mv (.t 0)⟩, ⟨(some 33), none, .nilchk (.t 32)⟩, ⟨(some 34), none, .fa 6 (.t 33)⟩, ⟨(some 35), none, .load false 1 (.t 34)⟩, ⟨(some 36), none, .len false (.t 35)⟩, ⟨(some 37), none, .mv (.c (.int .i64 (0)))⟩])
  (.keep [4, 35, 36, 37] (.block 2 (.loop A.rules_reader_names.L1))))
  (.keep [] (.seq (.reg [⟨(some 2), none, .mv (.c (.int .i64 (0)))⟩, ⟨(some 3), none, .mv (.c (.int .i64 (0)))⟩]) .ret)))))))))⟩
def A.rules_reader_fail : AFn := ⟨29, [], (.seq (.seq (.draw [(.pl, ⟨(some 2), none, .mv (.t 0)⟩), (.pl, ⟨(some 3), none, .nilchk (.t 2)⟩), (.pl, ⟨(some 4), none, .fa 1 (.t 3)⟩), (.pl, ⟨(some 5), none, .load false 1 (.t 4)⟩), (.pl, ⟨(some 6), none, .mv (.t 0)⟩), (.pl, ⟨(some 7), none, .nilchk (.t 6)⟩), (.pl, ⟨(some 8), none, .fa 0 (.t 7)⟩), (.pl, ⟨(some 9), none, .load false 1 (.t 8)⟩), (.pl, ⟨(some 10), none, .len false (.t 9)⟩), (.pl, ⟨(some 11), none, .bin .lss (.t 5) (.t 10)⟩)])
  (.keep [0, 11] (.cond (.t 11) (.drawP [(.pl, ⟨(some 12), none, .mv (.t 0)⟩), (.pl, ⟨(some 13), none, .nilchk (.t 12)⟩), (.pl, ⟨(some 14), none, .fa 0 (.t 13)⟩), (.pl, ⟨(some 15), none, .load false 1 (.t 14)⟩), (.pl, ⟨(some 16), none, .mv (.t 0)⟩), (.pl, ⟨(some 17), none, .nilchk (.t 16)⟩), (.pl, ⟨(some 18), none, .fa 1 (.t 17)⟩), (.pl, ⟨(some 19), none, .load false 1 (.t 18)⟩), (.pl, ⟨(some 20), none, .ia 3 (.t 15) (.t 19)⟩), (.pl, ⟨(some 21), none, .fa 2 (.t 20)⟩), (.pl, ⟨(some 22), none, .load false 1 (.t 21)⟩), (.pl, ⟨(some 23), none, .mkif 83 (.t 22)⟩), (.eff, ⟨none, none, .call (.c (.fn 0 [] [])) [(.t 23)]⟩)]) .skip)))
  (.keep [0] (.reg [⟨(some 24), none, .mv (.t 0)⟩, ⟨(some 25), none, .nilchk (.t 24)⟩, ⟨(some 26), none, .fa 2 (.t 25)⟩, ⟨(some 27), none, .load false 1 (.t 26)⟩, ⟨(some 28), none, .mkif 83 (.t 27)⟩, ⟨none, none, .call (.c (.fn 0 [] [])) [(.t 28)]⟩])))⟩
end Go.Proofs.Ytecgbggobecpjaa.Al
namespace Go.Proofs.Ytecgbggobecpjaa.Al
open Go Go.RowKit
set_option linter.unusedSimpArgs false
set_option linter.unusedVariables false
attribute [-simp] List.getD_eq_getElem?_getD Int.not_lt Int.not_le List.map_take
/-- A node, a rule, a tree. -/
structure Nd where
  kind : Int
  name : Str
  kids : List Int
  deriving DecidableEq
structure Rl where
  name : Str
  body : Int
  deriving DecidableEq
structure Te where
  rules : List Rl
  nodes : List Nd
  deriving DecidableEq
def ndC (n : Nd) : List V := [.int .i64 n.kind, .str n.name, .sl 1 0 (ints n.kids)]
def ndV (n : Nd) : V := .agg (ndC n)
def rlC (r : Rl) : List V := [.str r.name, .int .i64 r.body]
def rlV (r : Rl) : V := .agg (rlC r)
def teC (t : Te) : List V := [.sl 2 0 (t.rules.map rlV), .sl 3 0 (t.nodes.map ndV)]
def teV (t : Te) : V := .agg (teC t)
theorem encRl : Enc rlV 2 true := ⟨fun _ => rfl, fun _ => rfl, fun _ => rfl, fun a n m v hv => by simp [rlV, rlC, V.cells] at hv; rcases hv with rfl | rfl <;> simp⟩
theorem encNd : Enc ndV 3 true := ⟨fun _ => rfl, fun _ => rfl, fun _ => rfl, fun a n m v hv => by
  simp [ndV, ndC, V.cells] at hv
  rcases hv with rfl | rfl | rfl
  · simp
  · simp
  · rw [Bdd_sl0]; exact ⟨by omega, Bdd_ints _ _ _⟩⟩
structure TeOk (t : Te) : Prop where
  rules : t.rules.length ≤ maxLen
  nodes : t.nodes.length ≤ maxLen
  rname : ∀ r ∈ t.rules, r.name.length ≤ maxLen
  nname : ∀ n ∈ t.nodes, n.name.length ≤ maxLen
  kids : ∀ n ∈ t.nodes, n.kids.length ≤ maxLen
def largeT (t : Te) : Bool := decide (30 < t.rules.length) || decide (210 < t.nodes.length) || (t.rules.any fun r => decide (100 < r.name.length)) || t.nodes.any fun n => decide (100 < n.name.length) || decide (210 < n.kids.length)
section
variable {X : Cx} {h : AH} {Q : V → AH → Prop}
theorem largeT_spec (H : Has (Ecx X) K.probatelaw06_Large A.probatelaw06_Large) (t : Te) (ok : TeOk t) (hQ : Q (.bool (largeT t)) h) : Ecx X K.probatelaw06_Large [teV t] h Q := by
  refine fn_walk H (by simp [A.probatelaw06_Large]) fun wf => ?_
  have gr := (Gr.refl h).new (teC t)
  have htc : teC t = [.sl 2 0 (t.rules.map rlV), .sl 3 0 (t.nodes.map ndV)] := rfl
  have hb0 : (h.new (teC t)).objs h.nobj = teC t := by simp
  have hb1 : (h.new (teC t)).nobj = h.nobj + 1 := by simp
  have ho := ok.rules
  have hn := ok.nodes
  unfold maxLen at ho hn
  simp [A.probatelaw06_Large, teV, V.cells, V.good, htc]
  rw [← htc]
  generalize h.new (teC t) = h1 at *
  by_cases c1 : (30 : Int) < t.rules.length
  · have : largeT t = true := by
      have : 30 < t.rules.length := by omega
      simp [largeT, this]
    rw [this] at hQ
    simp [c1]
    exact fin_wk gr (.same _) (by simp) hQ
  simp [c1, hb0, htc]
  by_cases c2 : (210 : Int) < t.nodes.length
  · have : largeT t = true := by
      have : 210 < t.nodes.length := by omega
      simp [largeT, this]
    rw [this] at hQ
    simp [c2]
    exact fin_wk gr (.same _) (by simp) hQ
  simp [c2, hb0, htc]
  refine loopI (n := t.rules.length) (fun m env h' => ∃ k, k ≤ t.rules.length ∧ m = t.rules.length - k ∧ Gr h h' ∧ h'.objs h.nobj = teC t ∧ h.nobj < h'.nobj ∧ env = [(1, .ptr h.nobj 0), (18, .sl 2 0 (t.rules.map rlV)), (19, .int .i64 t.rules.length), (20, .int .i64 k)] ∧ (t.rules.take k).any (fun r => decide (100 < r.name.length)) = false) ?_ ⟨0, by omega, by omega, gr, hb0, by omega, rfl, by simp⟩
  rintro m env h' ⟨k, hk, rfl, gr', ob, nb, rfl, ha⟩
  unfold A.probatelaw06_Large.L0
  by_cases hlt : k < t.rules.length
  · have hlt' : (k : Int) < t.rules.length := by omega
    have hg : (t.rules.map rlV).getD k .undef = rlV t.rules[k] := Enc.getD hlt
    have hw1 : IntKind.i64.wrap ((k : Int) + 1) = ((k + 1 : Nat) : Int) := by rw [wrap_i64 (by omega) (by omega)]; rfl
    have n1 : ¬ h.nobj = h'.nobj := by omega
    by_cases c3 : (100 : Int) < t.rules[k].name.length
    · have : largeT t = true := by
        have : (t.rules.any fun r => decide (100 < r.name.length)) = true := List.any_eq_true.2 ⟨_, List.getElem_mem hlt, by simp; omega⟩
        simp [largeT, this]
      rw [this] at hQ
      simp [hlt', hg, rlV, rlC, V.cells, V.good, setAt, c3]
      exact fin_wk (gr'.new _) (.same _) (by simp) hQ
    · simp [hlt', hg, rlV, rlC, V.cells, V.good, setAt, c3, hw1]
      exact ⟨t.rules.length - (k + 1), by omega, iv ⟨k + 1, by omega, rfl, gr'.new _, by simp [n1, ob], by simp; omega, rfl, by
        rw [List.take_succ_eq_append_getElem hlt, List.any_append, ha]; simp; omega⟩⟩
  · have hlt' : ¬ (k : Int) < t.rules.length := by omega
    obtain rfl : k = t.rules.length := by omega
    rw [List.take_length] at ha
    simp [hlt', ob, htc]
    refine loopI (n := t.nodes.length) (fun m env h' => ∃ k, k ≤ t.nodes.length ∧ m = t.nodes.length - k ∧ Gr h h' ∧ env = [(30, .sl 3 0 (t.nodes.map ndV)), (31, .int .i64 t.nodes.length), (32, .int .i64 k)] ∧ (t.nodes.take k).any (fun n => decide (100 < n.name.length) || decide (210 < n.kids.length)) = false) ?_ ⟨0, by omega, by omega, gr', rfl, by simp⟩
    rintro m env h2 ⟨k, hk, rfl, gr2, rfl, hb⟩
    unfold A.probatelaw06_Large.L1
    by_cases hlt : k < t.nodes.length
    · have hlt' : (k : Int) < t.nodes.length := by omega
      have hg : (t.nodes.map ndV).getD k .undef = ndV t.nodes[k] := Enc.getD hlt
      have hw1 : IntKind.i64.wrap ((k : Int) + 1) = ((k + 1 : Nat) : Int) := by rw [wrap_i64 (by omega) (by omega)]; rfl
      by_cases c3 : (100 : Int) < t.nodes[k].name.length
      · have : largeT t = true := by
          have : (t.nodes.any fun n => decide (100 < n.name.length) || decide (210 < n.kids.length)) = true := List.any_eq_true.2 ⟨_, List.getElem_mem hlt, by simp; omega⟩
          simp [largeT, this]
        rw [this] at hQ
        simp [hlt', hg, ndV, ndC, V.cells, V.good, setAt, c3]
        exact fin_wk (gr2.new _) (.same _) (by simp) hQ
      by_cases c4 : (210 : Int) < t.nodes[k].kids.length
      · have : largeT t = true := by
          have : (t.nodes.any fun n => decide (100 < n.name.length) || decide (210 < n.kids.length)) = true := List.any_eq_true.2 ⟨_, List.getElem_mem hlt, by simp; omega⟩
          simp [largeT, this]
        rw [this] at hQ
        simp [hlt', hg, ndV, ndC, V.cells, V.good, setAt, c3, c4, ints]
        exact fin_wk (gr2.new _) (.same _) (by simp) hQ
      · simp [hlt', hg, ndV, ndC, V.cells, V.good, setAt, c3, c4, hw1, ints]
        exact ⟨t.nodes.length - (k + 1), by omega, iv ⟨k + 1, by omega, rfl, gr2.new _, rfl, by
          rw [List.take_succ_eq_append_getElem hlt, List.any_append, hb]; simp; omega⟩⟩
    · have hlt' : ¬ (k : Int) < t.nodes.length := by omega
      obtain rfl : k = t.nodes.length := by omega
      rw [List.take_length] at hb
      have : largeT t = false := by simp only [largeT, ha, hb, Bool.or_false]; simp; omega
      rw [this] at hQ
      simp [hlt']
      exact fin_wk gr2 (.same _) (by simp) hQ
def rnames (t : Te) : List Str := t.rules.map (·.name)
theorem hasRule_spec (H : Has (Ecx X) K.probateref06_Tree_rule A.probateref06_Tree_rule) (t : Te) (s : Str) (hl : t.rules.length < 2 ^ 62) (hQ : Q (.bool (decide (s ∈ rnames t))) h) : Ecx X K.probateref06_Tree_rule [teV t, .str s] h Q := by
  refine fn_walk H (by simp [A.probateref06_Tree_rule]) fun wf => ?_
  have htc : teC t = [.sl 2 0 (t.rules.map rlV), .sl 3 0 (t.nodes.map ndV)] := rfl
  have gr := (Gr.refl h).new (teC t)
  have hb0 : (h.new (teC t)).objs h.nobj = teC t := by simp
  simp [A.probateref06_Tree_rule, teV, V.cells, V.good]
  generalize h.new (teC t) = h1 at *
  refine loopI (n := t.rules.length) (fun m env h' => ∃ k, k ≤ t.rules.length ∧ m = t.rules.length - k ∧ h' = h1 ∧ env = [(1, .str s), (2, .ptr h.nobj 0), (5, .int .i64 k)] ∧ (s ∈ rnames t ↔ s ∈ (rnames t).drop k)) ?_ ⟨0, by omega, by omega, rfl, rfl, by simp⟩
  rintro m env h' ⟨k, hk, rfl, rfl, rfl, hp⟩
  unfold A.probateref06_Tree_rule.L0
  have hrl : (rnames t).length = t.rules.length := by simp [rnames]
  by_cases hlt : k < t.rules.length
  · have hlt' : (k : Int) < t.rules.length := by omega
    have hg : (t.rules.map rlV).getD k .undef = rlV t.rules[k] := Enc.getD hlt
    have hw1 : IntKind.i64.wrap ((k : Int) + 1) = ((k + 1 : Nat) : Int) := by rw [wrap_i64 (by omega) (by omega)]; rfl
    rw [List.drop_eq_getElem_cons (by omega), show (rnames t)[k] = t.rules[k].name by simp [rnames], List.mem_cons] at hp
    by_cases c : t.rules[k].name = s
    · have : decide (s ∈ rnames t) = true := by simp [hp, c]
      rw [this] at hQ
      simp [hlt', hg, hb0, htc, rlV, rlC, V.cells, c]
      exact fin_wk gr (.same _) (by simp) hQ
    · simp [hlt', hg, hb0, htc, rlV, rlC, V.cells, c, hw1]
      exact ⟨t.rules.length - (k + 1), by omega, iv ⟨k + 1, by omega, rfl, rfl, rfl, hp.trans ⟨fun h => h.resolve_left (fun e => c e.symm), .inr⟩⟩⟩
  · have hlt' : ¬ (k : Int) < t.rules.length := by omega
    obtain rfl : k = t.rules.length := by omega
    rw [← hrl, List.drop_length] at hp
    have : decide (s ∈ rnames t) = false := by simp [hp]
    rw [this] at hQ
    simp [hlt', hb0, htc]
    exact fin_wk gr (.same _) (by simp) hQ
/-- May a text stand between quotes? -/
def quoteT (s : Str) : Bool := s.all quotedB && decide (0 < s.length) && decide (s.length ≤ 3998)
theorem rquote_spec (H : Has (Ecx X) K.probateref06_quote A.probateref06_quote) (s : Str) (hl : s.length < 2 ^ 62) (hQ : Q (.bool (quoteT s)) h) : Ecx X K.probateref06_quote [.str s] h Q := by
  refine fn_walk H (by simp [A.probateref06_quote]) fun wf => ?_
  simp [A.probateref06_quote]
  refine loopI (n := s.length) (fun m env h' => ∃ k, k ≤ s.length ∧ m = s.length - k ∧ h' = h ∧ env = [(0, .str s), (3, .int .i64 k)] ∧ s.all quotedB = (s.drop k).all quotedB) ?_ ⟨0, by omega, by omega, rfl, rfl, by simp⟩
  rintro m env h' ⟨k, hk, rfl, rfl, rfl, hp⟩
  unfold A.probateref06_quote.L0
  by_cases hlt : k < s.length
  · have hlt' : (k : Int) < s.length := by omega
    have hw1 : IntKind.i64.wrap ((k : Int) + 1) = ((k + 1 : Nat) : Int) := by rw [wrap_i64 (by omega) (by omega)]; rfl
    have hg : ((s.getD k 0).toNat : Int) = bt s[k] := by simp [bt, List.getD_eq_getElem?_getD, hlt]
    rw [List.drop_eq_getElem_cons hlt, List.all_cons] at hp
    have hqd : quotedB s[k] = (decide (32 ≤ bt s[k]) && decide (bt s[k] ≤ 126) && decide (bt s[k] ≠ 39)) := rfl
    generalize bt s[k] = c at *
    by_cases c1 : c < 32
    · have : quoteT s = false := by simp only [quoteT, hp, hqd]; simp [show ¬ 32 ≤ c by omega]
      rw [this] at hQ
      simp [hlt', hg, c1]
      exact fin (by simp) hQ
    by_cases c2 : 126 < c
    · have : quoteT s = false := by simp only [quoteT, hp, hqd]; simp [show ¬ c ≤ 126 by omega]
      rw [this] at hQ
      simp [hlt', hg, c1, c2]
      exact fin (by simp) hQ
    by_cases c3 : c = 39
    · have : quoteT s = false := by simp only [quoteT, hp, hqd]; simp [c3]
      rw [this] at hQ
      subst c3
      simp [hlt', hg, c1, c2]
      exact fin (by simp) hQ
    · simp [hlt', hg, c1, c2, c3, hw1]
      exact ⟨s.length - (k + 1), by omega, iv ⟨k + 1, by omega, rfl, rfl, rfl, by rw [hp, hqd]; simp [show 32 ≤ c by omega, show c ≤ 126 by omega, c3]⟩⟩
  · have hlt' : ¬ (k : Int) < s.length := by omega
    obtain rfl : k = s.length := by omega
    have ha : s.all quotedB = true := by rw [hp]; simp
    by_cases c1 : (0 : Int) < s.length
    · by_cases c2 : (s.length : Int) ≤ 3998
      · have : quoteT s = true := by simp only [quoteT, ha]; simp; omega
        rw [this] at hQ
        have c1' : 0 < s.length := by omega
        simp [hlt', c1', c2]
        exact fin (by simp) hQ
      · have : quoteT s = false := by simp only [quoteT, ha]; simp; omega
        rw [this] at hQ
        have c1' : 0 < s.length := by omega
        simp [hlt', c1', c2]
        exact fin (by simp) hQ
    · have : quoteT s = false := by simp only [quoteT, ha]; simp; omega
      rw [this] at hQ
      have c1' : ¬ 0 < s.length := by omega
      simp [hlt', c1']
      exact fin (by simp) hQ
/-- May a node be, but for its kids' places? -/
def fineT (t : Te) (n : Nd) : Bool :=
  if n.kind = 6 then decide (n.kids.length = 0) && decide (n.name ∈ rnames t)
  else if n.kind = 7 then decide (n.kids.length = 0) && quoteT n.name
  else decide (n.name = []) && ((decide (n.kind = 1) && decide (n.kids.length ≠ 1)) || (decide (n.kind = 2) && decide (2 ≤ n.kids.length)) || (decide (3 ≤ n.kind) && decide (n.kind ≤ 5) && decide (n.kids.length = 1)))
theorem rfine_spec (H : Has (Ecx X) K.probateref06_Tree_fine A.probateref06_Tree_fine) (HR : Has (Ecx X) K.probateref06_Tree_rule A.probateref06_Tree_rule) (HQ : Has (Ecx X) K.probateref06_quote A.probateref06_quote) (t : Te) (n : Nd)
    (hl : t.rules.length < 2 ^ 62) (hn : n.name.length < 2 ^ 62) (hQ : Q (.bool (fineT t n)) h) : Ecx X K.probateref06_Tree_fine [teV t, ndV n] h Q := by
  refine fn_walk H (by simp [A.probateref06_Tree_fine]) fun wf => ?_
  have htc : teC t = [.sl 2 0 (t.rules.map rlV), .sl 3 0 (t.nodes.map ndV)] := rfl
  have gr := ((Gr.refl h).new (teC t)).new (ndC n)
  have n1 : ¬ h.nobj = h.nobj + 1 := by omega
  have hb0 : ((h.new (teC t)).new (ndC n)).objs h.nobj = teC t := by simp [n1]
  have hb1 : ((h.new (teC t)).new (ndC n)).objs (h.nobj + 1) = ndC n := by simp
  obtain ⟨kind, name, kids⟩ := n
  simp [A.probateref06_Tree_fine, teV, ndV, V.cells, V.good]
  have hnc : ndC ⟨kind, name, kids⟩ = [.int .i64 kind, .str name, .sl 1 0 (kids.map (.int .i64))] := rfl
  generalize (h.new (teC t)).new (ndC ⟨kind, name, kids⟩) = h1 at *
  simp [hb1, hnc]
  unfold fineT at hQ
  simp only at hQ
  by_cases k6 : kind = 6
  · subst k6
    by_cases c : kids = []
    · subst c
      simp [hb0, htc, hb1, hnc] at hQ ⊢
      refine ecall (hasRule_spec HR t name hl ?_)
      simp
      exact fin_wk gr (.same _) (by simp) hQ
    · simp [hb0, htc, hb1, hnc, c] at hQ ⊢
      exact fin_wk gr (.same _) (by simp) hQ
  by_cases k7 : kind = 7
  · subst k7
    by_cases c : kids = []
    · subst c
      simp [hb0, htc, hb1, hnc] at hQ ⊢
      refine ecall (rquote_spec HQ name hn ?_)
      simp
      exact fin_wk gr (.same _) (by simp) hQ
    · simp [hb0, htc, hb1, hnc, c] at hQ ⊢
      exact fin_wk gr (.same _) (by simp) hQ
  simp [k6, k7, hb1, hnc] at hQ ⊢
  by_cases c0 : name = []
  case neg =>
    simp [c0] at hQ ⊢
    exact fin_wk gr (.same _) (by simp) hQ
  subst c0
  simp [hb1, hnc] at hQ ⊢
  by_cases k1 : kind = 1
  · subst k1
    by_cases c : kids.length = 1
    · have c' : ((kids.length : Nat) : Int) = 1 := by omega
      simp [hb1, hnc, c, c'] at hQ ⊢
      exact fin_wk gr (.same _) (by simp) hQ
    · have c' : ¬ ((kids.length : Nat) : Int) = 1 := by omega
      simp [hb1, hnc, c, c'] at hQ ⊢
      exact fin_wk gr (.same _) (by simp) hQ
  by_cases k2 : kind = 2
  · subst k2
    by_cases c : 2 ≤ kids.length
    · have c' : (2 : Int) ≤ (kids.length : Nat) := by omega
      simp [hb1, hnc, c, c'] at hQ ⊢
      exact fin_wk gr (.same _) (by simp) hQ
    · have c' : ¬ (2 : Int) ≤ (kids.length : Nat) := by omega
      simp [hb1, hnc, c, c'] at hQ ⊢
      exact fin_wk gr (.same _) (by simp) hQ
  by_cases k3 : 3 ≤ kind
  case neg =>
    simp [hb1, hnc, k1, k2, k3] at hQ ⊢
    exact fin_wk gr (.same _) (by simp) hQ
  by_cases k5 : kind ≤ 5
  case neg =>
    simp [hb1, hnc, k1, k2, k3, k5] at hQ ⊢
    exact fin_wk gr (.same _) (by simp) hQ
  by_cases c : kids.length = 1
  · have c' : ((kids.length : Nat) : Int) = 1 := by omega
    simp [hb1, hnc, k1, k2, k3, k5, c, c'] at hQ ⊢
    exact fin_wk gr (.same _) (by simp) hQ
  · have c' : ¬ ((kids.length : Nat) : Int) = 1 := by omega
    simp [hb1, hnc, k1, k2, k3, k5, c, c'] at hQ ⊢
    exact fin_wk gr (.same _) (by simp) hQ
/-- Is a text just one token of a kind? -/
def tokenT (s : Str) (kind : Int) : Bool := match (scanR s).1 with
  | [a] => decide ((scanR s).2.2 = 0) && decide ((a.kind : Int) = kind) && decide (a.at' = 0) && (decide (kind = 2) || decide (a.text = s))
  | _ => false
theorem token_spec (L : LS X) (H : Has (Ecx X) K.rules_token A.rules_token) (s : Str) (kind : Int) (hl : s.length ≤ 2 ^ 40) (hQ : Q (.bool (tokenT s kind)) h) : Ecx X K.rules_token [.str s, .int .i64 kind] h Q := by
  refine fn_walk H (by simp [A.rules_token]) fun wf => ?_
  simp [A.rules_token]
  refine ecall (scan_spec L s hl ?_)
  simp [scanV]
  unfold tokenT at hQ
  generalize scanR s = R at *
  obtain ⟨l, p, e⟩ := R
  simp only at hQ ⊢
  by_cases c : e = 0
  case neg =>
    have hq : Q (.bool false) h := by
      match l, hQ with
      | [], hQ => exact hQ
      | [a], hQ => simpa [c] using hQ
      | _ :: _ :: _, hQ => exact hQ
    simp [c]
    exact fin (by simp) hq
  subst c
  match l, hQ with
  | [], hQ => simp at hQ ⊢; exact fin (by simp) hQ
  | a :: b :: r, hQ =>
    have c' : ¬ (((a :: b :: r).length : Nat) : Int) = 1 := by simp; omega
    simp at hQ c' ⊢
    simp [c']
    exact fin (by simp) hQ
  | [a], hQ =>
    simp [tokV, tokC, V.cells] at hQ ⊢
    by_cases k1 : (a.kind : Int) = kind
    case neg =>
      simp [k1] at hQ ⊢
      exact fin (by simp) hQ
    by_cases k2 : a.at' = 0
    case neg =>
      simp [k1, k2] at hQ ⊢
      exact fin (by simp) hQ
    by_cases k3 : kind = 2
    · simp [k1, k2, k3, tokC] at hQ ⊢
      exact fin (by simp) hQ
    by_cases k4 : a.text = s
    · simp [k1, k2, k3, k4, tokC] at hQ ⊢
      exact fin (by simp) hQ
    · simp [k1, k2, k3, k4, tokC] at hQ ⊢
      exact fin (by simp) hQ
def plcB (c : Int) : Str → Nat → Int
  | [], _ => -1
  | a :: l, i => if c = bt a then (i : Int) else plcB c l (i + 1)
theorem plcB_any (c : Int) : ∀ (l : Str) (i : Nat), decide (0 ≤ plcB c l i) = l.any fun a => decide (c = bt a)
  | [], i => by simp [plcB]
  | a :: l, i => by
    unfold plcB
    by_cases e : c = bt a
    · simp [e]
    · simp only [if_neg e, List.any_cons, decide_eq_false e, Bool.false_or]; exact plcB_any c l (i + 1)
theorem indexB_spec (H : Has (Ecx X) K.slices_Index_byte A.slices_Index_byte) (s : Str) (st : Nat) (c : Int) (hl : s.length < 2 ^ 62) (hQ : Q (.int .i64 (plcB c s 0)) h) : Ecx X K.slices_Index_byte [.sl 1 st (bytesV s), .int .u8 c] h Q := by
  refine fn_walk H (by simp [A.slices_Index_byte]) fun wf => ?_
  have hsl : (bytesV s).length = s.length := by simp [bytesV]
  simp [A.slices_Index_byte, hsl]
  refine loopI (n := s.length) (fun m env h' => ∃ k, k ≤ s.length ∧ m = s.length - k ∧ h' = h ∧ env = [(0, .sl 1 st (bytesV s)), (1, .int .u8 c), (7, .int .i64 s.length), (8, .int .i64 k)] ∧ plcB c s 0 = plcB c (s.drop k) k) ?_ ⟨0, by omega, by omega, rfl, rfl, rfl⟩
  rintro m env h' ⟨k, hk, rfl, rfl, rfl, hp⟩
  unfold A.slices_Index_byte.L0
  by_cases hlt : k < s.length
  · have hlt' : (k : Int) < s.length := by omega
    have hg : (bytesV s).getD k .undef = .int .u8 (bt s[k]) := by simp [bytesV, bt, List.getD_eq_getElem?_getD, hlt]
    have hw1 : IntKind.i64.wrap ((k : Int) + 1) = ((k + 1 : Nat) : Int) := by rw [wrap_i64 (by omega) (by omega)]; rfl
    rw [List.drop_eq_getElem_cons hlt, plcB] at hp
    by_cases e : c = bt s[k]
    · rw [if_pos e] at hp
      rw [hp] at hQ
      simp [hlt', hg, hsl, V.cells, ← e]
      exact fin (by simp) hQ
    · rw [if_neg e] at hp
      simp [hlt', hg, hsl, V.cells, e, hw1]
      exact ⟨s.length - (k + 1), by omega, iv ⟨k + 1, by omega, rfl, rfl, rfl, hp⟩⟩
  · have hlt' : ¬ (k : Int) < s.length := by omega
    obtain rfl : k = s.length := by omega
    rw [List.drop_length, plcB] at hp
    rw [hp] at hQ
    simp [hlt', hsl]
    exact fin (by simp) hQ
theorem containsB_spec (H : Has (Ecx X) K.slices_Contains_byte A.slices_Contains_byte) (H2 : Has (Ecx X) K.slices_Index_byte A.slices_Index_byte) (s : Str) (st : Nat) (c : Int) (hl : s.length < 2 ^ 62) (hQ : Q (.bool (s.any fun a => decide (c = bt a))) h) :
    Ecx X K.slices_Contains_byte [.sl 1 st (bytesV s), .int .u8 c] h Q := by
  refine fn_walk H (by simp [A.slices_Contains_byte]) fun wf => ?_
  simp [A.slices_Contains_byte]
  refine ecall (indexB_spec H2 s st c hl ?_)
  have := plcB_any c s 0
  simp [this]
  exact fin (by simp) hQ
/-- As the program asks. -/
def fineP (t : Te) (n : Nd) : Bool :=
  if n.kind = 7 then decide (n.kids.length = 0) && (!(n.name.any fun a => decide (39 = bt a))) && tokenT (39 :: n.name ++ [39]) 2 else fineT t n
structure LRu (X : Cx) : Prop where
  s : LS X
  token : Has (Ecx X) K.rules_token A.rules_token
  fine : Has (Ecx X) K.rules_Tree_fine A.rules_Tree_fine
  fine1 : Has (Ecx X) K.rules_Tree_fine_1 A.rules_Tree_fine_1
  right : Has (Ecx X) K.rules_Right A.rules_Right
  right1 : Has (Ecx X) K.rules_Right_1 A.rules_Right_1
  ctR : Has (Ecx X) K.slices_ContainsFunc_Rule A.slices_ContainsFunc_Rule
  ixR : Has (Ecx X) K.slices_IndexFunc_Rule A.slices_IndexFunc_Rule
  ctB : Has (Ecx X) K.slices_Contains_byte A.slices_Contains_byte
  ixB : Has (Ecx X) K.slices_Index_byte A.slices_Index_byte
  eqI : Has (Ecx X) K.slices_Equal_int A.slices_Equal_int
theorem fine1_spec (L : LRu X) (r : Rl) {o : Nat} {n : Nd} (ho : h.objs o = ndC n) (hob : o < h.nobj) (hQ : Q (.bool (decide (r.name = n.name))) h) : Ecx X K.rules_Tree_fine_1 [rlV r, .ptr o 0] h Q := by
  refine fn_walk L.fine1 (by simp [A.rules_Tree_fine_1]) fun wf => ?_
  have gr := (Gr.refl h).new (rlC r)
  have n1 : ¬ o = h.nobj := by omega
  obtain ⟨kind, name, kids⟩ := n
  have hnc : ndC ⟨kind, name, kids⟩ = [.int .i64 kind, .str name, .sl 1 0 (ints kids)] := rfl
  have hrc : rlC r = [.str r.name, .int .i64 r.body] := rfl
  simp [A.rules_Tree_fine_1, rlV, V.cells, V.good, n1, ho, hnc, hrc]
  exact fin_wk (by rw [← hrc]; exact gr) (.same _) (by simp) hQ
theorem rufine_spec (L : LRu X) (t : Te) (n : Nd) (hl : t.rules.length < 2 ^ 62) (hn : n.name.length ≤ 2 ^ 30) (hQ : Q (.bool (fineP t n)) h) : Ecx X K.rules_Tree_fine [teV t, ndV n] h Q := by
  refine fn_walk L.fine (by simp [A.rules_Tree_fine]) fun wf => ?_
  have htc : teC t = [.sl 2 0 (t.rules.map rlV), .sl 3 0 (t.nodes.map ndV)] := rfl
  have gr := ((Gr.refl h).new (teC t)).new (ndC n)
  have n1 : ¬ h.nobj = h.nobj + 1 := by omega
  have hb0 : ((h.new (teC t)).new (ndC n)).objs h.nobj = teC t := by simp [n1]
  have hb1 : ((h.new (teC t)).new (ndC n)).objs (h.nobj + 1) = ndC n := by simp
  have hb2 : ((h.new (teC t)).new (ndC n)).nobj = h.nobj + 2 := by simp
  obtain ⟨kind, name, kids⟩ := n
  simp [A.rules_Tree_fine, teV, ndV, V.cells, V.good]
  have hnc : ∀ a b c, ndC ⟨a, b, c⟩ = [.int .i64 a, .str b, .sl 1 0 (c.map (.int .i64))] := fun _ _ _ => rfl
  generalize (h.new (teC t)).new (ndC ⟨kind, name, kids⟩) = h1 at *
  simp [hb1, hnc]
  unfold fineP fineT at hQ
  simp only at hQ hn
  by_cases k1 : kind = 1
  · subst k1
    by_cases c0 : name = []
    · by_cases c : kids.length = 1
      · have c' : ((kids.length : Nat) : Int) = 1 := by omega
        simp [hb1, hnc, c0, c, c'] at hQ ⊢
        exact fin_wk gr (.same _) (by simp) hQ
      · have c' : ¬ ((kids.length : Nat) : Int) = 1 := by omega
        simp [hb1, hnc, c0, c, c'] at hQ ⊢
        exact fin_wk gr (.same _) (by simp) hQ
    · simp [hb1, hnc, c0] at hQ ⊢
      exact fin_wk gr (.same _) (by simp) hQ
  by_cases k2 : kind = 2
  · subst k2
    by_cases c0 : name = []
    · by_cases c : 2 ≤ kids.length
      · have c' : (1 : Int) < (kids.length : Nat) := by omega
        simp [hb1, hnc, c0, c, c'] at hQ ⊢
        exact fin_wk gr (.same _) (by simp) hQ
      · have c' : ¬ (1 : Int) < (kids.length : Nat) := by omega
        simp [hb1, hnc, c0, c, c'] at hQ ⊢
        exact fin_wk gr (.same _) (by simp) hQ
    · simp [hb1, hnc, c0] at hQ ⊢
      exact fin_wk gr (.same _) (by simp) hQ
  have three : ∀ k : Int, (k = 3 ∨ k = 4 ∨ k = 5) → kind = k → (Q (.bool (decide (name = []) && decide (kids.length = 1))) h) := fun k hk e => by
    subst e
    rcases hk with rfl | rfl | rfl <;> simpa using hQ
  by_cases k3 : kind = 3 ∨ kind = 4 ∨ kind = 5
  · have q := three kind k3 rfl
    clear three
    have fin3 : ∀ b, Q (.bool b) h → Fin h (.bool b) h1 (Lz.mk (a := Q)) := fun b hb => fin_wk gr (.same _) (by simp) hb
    by_cases c0 : name = [] <;> by_cases c : kids.length = 1
    all_goals
      first
        | (have c' : ((kids.length : Nat) : Int) = 1 := by omega
           rcases k3 with rfl | rfl | rfl <;> simp [hb1, hnc, c0, c, c'] at q ⊢ <;> exact fin3 _ q)
        | (have c' : ¬ ((kids.length : Nat) : Int) = 1 := by omega
           rcases k3 with rfl | rfl | rfl <;> simp [hb1, hnc, c0, c, c'] at q ⊢ <;> exact fin3 _ q)
  clear three
  have k3' : ¬ kind = 3 := fun e => k3 (.inl e)
  have k4' : ¬ kind = 4 := fun e => k3 (.inr (.inl e))
  have k5' : ¬ kind = 5 := fun e => k3 (.inr (.inr e))
  by_cases k6 : kind = 6
  · subst k6
    by_cases c : kids = []
    · subst c
      simp [hb0, htc, hb1, hnc] at hQ ⊢
      have hct := L.ctR
      rw [show A.slices_ContainsFunc_Rule = ctfF K.slices_IndexFunc_Rule from rfl] at hct
      have hix := L.ixR
      rw [show A.slices_IndexFunc_Rule = ixfF 2 true from rfl] at hix
      refine ecall (containsFunc encRl hct hix t.rules 0 _ [] _ (fun r => decide (r.name = name)) hl (fun r _ Q' h' gr' hQ' => ?_) ?_)
      · exact fine1_spec L r ((gr'.objs _ (by omega)).trans hb1) (by have := gr'.nobj; omega) hQ'
      have : (t.rules.any fun r => decide (r.name = name)) = decide (name ∈ rnames t) := by
        apply Bool.eq_iff_iff.2
        simp [rnames]
      simp [this]
      exact fin_wk gr (.same _) (by simp) hQ
    · simp [hb0, htc, hb1, hnc, c] at hQ ⊢
      exact fin_wk gr (.same _) (by simp) hQ
  by_cases k7 : kind = 7
  · subst k7
    by_cases c : kids = []
    · subst c
      simp [hb0, htc, hb1, hnc] at hQ ⊢
      refine ecall (containsB_spec L.ctB L.ixB name 0 39 (by omega) ?_)
      cases hb : name.any fun a => decide (39 = bt a) with
      | true =>
        rw [hb] at hQ
        simp at hQ ⊢
        exact fin_wk gr (.same _) (by simp) hQ
      | false =>
        rw [hb] at hQ
        simp [hb1, hnc] at hQ ⊢
        refine ⟨by omega, by omega, ecall (token_spec L.s L.token (39 :: (name ++ [39])) 2 (by simp; omega) ?_)⟩
        simp
        exact fin_wk gr (.same _) (by simp) hQ
    · simp [hb0, htc, hb1, hnc, c] at hQ ⊢
      exact fin_wk gr (.same _) (by simp) hQ
  have hf : Q (.bool false) h := by
    have e2 : (decide (3 ≤ kind) && decide (kind ≤ 5)) = false := by simp; omega
    simpa only [if_neg k7, if_neg k6, decide_eq_false k1, decide_eq_false k2, e2, Bool.false_and, Bool.false_or, Bool.or_false, Bool.and_false] using hQ
  simp [k1, k2, k3', k4', k5', k6, k7]
  exact fin_wk gr (.same _) (by simp) hf
end
theorem runN_allT {p : UInt8 → Bool} : ∀ {l r : Str}, l.all p = true → runN p (l ++ r) = l.length + runN p r
  | [], r, _ => by simp
  | a :: l, r, h => by
    simp only [List.all_cons, Bool.and_eq_true] at h
    have := runN_allT (p := p) (l := l) (r := r) h.2
    unfold runN at this ⊢
    simp only [List.cons_append, List.takeWhile_cons, h.1, if_true, List.length_cons, this]; omega
theorem runN_bad {p : UInt8 → Bool} : ∀ {l r : Str}, l.all p = false → ∃ h : runN p (l ++ r) < l.length, p (l[runN p (l ++ r)]) = false
  | [], r, h => by simp at h
  | a :: l, r, h => by
    cases ha : p a with
    | false => 
      have : runN p (a :: l ++ r) = 0 := by simp [runN, List.takeWhile_cons, ha]
      exact ⟨by rw [this]; simp, by simp only [this]; exact ha⟩
    | true =>
      simp only [List.all_cons, ha, Bool.true_and] at h
      obtain ⟨h1, h2⟩ := runN_bad (p := p) (l := l) (r := r) h
      have : runN p (a :: l ++ r) = runN p (l ++ r) + 1 := by simp [runN, List.takeWhile_cons, ha]
      exact ⟨by rw [this]; simpa using h1, by simp only [this, List.getElem_cons_succ]; exact h2⟩
theorem sfirst_quote (name : Str) (h39 : (name.any fun a => decide (39 = bt a)) = false) : sfirst (39 :: name ++ [39]) = if name.all quotedB && decide (0 < name.length) then (2, name, name.length + 2) else (0, [], 0) := by
  have hb : bt 39 = 39 := rfl
  have hl : letterI 39 = false := by decide
  have hd : (39 :: name ++ [39]).drop 1 = name ++ [39] := rfl
  have h0 : (39 :: name ++ [39] : Str).getD 0 0 = 39 := rfl
  have hlen : (39 :: name ++ [39] : Str).length = name.length + 2 := by simp
  unfold sfirst
  simp only [h0, hb, hd, hlen, hl]
  rw [if_neg (by omega), if_neg (by omega), if_neg (by simp), if_pos trivial]
  cases ha : name.all quotedB with
  | true =>
    have hr : runN quotedB (name ++ [39]) = name.length := by
      rw [runN_allT ha]; simp [runN, List.takeWhile_cons, show quotedB 39 = false from by decide]
    generalize runN quotedB (name ++ [39]) = k at *
    subst hr
    by_cases h1 : 0 < name.length
    · have hg : (39 :: name ++ [39] : Str).getD (name.length + 1) 0 = 39 := by simp [List.getD_eq_getElem?_getD]
      rw [if_neg (by rintro (h | h | h) <;> first | omega | exact h (by rw [hg]; rfl))]
      simp [h1]
    · rw [if_pos (Or.inl (show name.length = 0 by omega))]
      simp [h1]
  | false =>
    obtain ⟨h1, h2⟩ := runN_bad (r := [39]) ha
    generalize hk : runN quotedB (name ++ [39]) = k at *
    have hg : (39 :: name ++ [39] : Str).getD (k + 1) 0 = name[k] := by
      simp [List.getD_eq_getElem?_getD, List.getElem?_append_left h1, h1]
    have hne : bt name[k] ≠ 39 := fun e => by
      have := List.any_eq_false.1 h39 _ (List.getElem_mem h1)
      simp [e] at this
    rw [if_pos (.inr (.inr (by rw [hg]; exact hne)))]
    simp
theorem token_quote (name : Str) (h39 : (name.any fun a => decide (39 = bt a)) = false) : tokenT (39 :: name ++ [39]) 2 = quoteT name := by
  have hs := sfirst_quote name h39
  have hlen : (39 :: name ++ [39] : Str).length = name.length + 2 := by simp
  have hne : (39 :: name ++ [39] : Str) ≠ [] := by simp
  unfold tokenT scanR
  rw [hlen]
  by_cases hb : 4000 < name.length + 2
  · rw [if_pos hb]
    simp [quoteT]; omega
  rw [if_neg hb, scanL_step 0 hne, hs]
  cases ha : name.all quotedB && decide (0 < name.length) with
  | true =>
    simp only [if_true]
    have hd : (39 :: name ++ [39] : Str).drop (name.length + 2) = [] := by simp
    rw [if_neg (by omega), hd, scanL_nil]
    simp only [Bool.and_eq_true, decide_eq_true_eq] at ha
    simp [quoteT, ha.1]; omega
  | false =>
    simp only [Bool.false_eq_true, if_false, if_true]
    have : quoteT name = false := by unfold quoteT; rw [ha]; rfl
    rw [this]
theorem fineP_eq (t : Te) (n : Nd) : fineP t n = fineT t n := by
  unfold fineP
  split
  · rename_i h7
    unfold fineT
    rw [if_neg (by omega), if_pos h7]
    cases h39 : n.name.any fun a => decide (39 = bt a) with
    | false => rw [token_quote _ h39]; simp
    | true =>
      have : quoteT n.name = false := by
        unfold quoteT
        have : n.name.all quotedB = false := by
          obtain ⟨a, ha, hb⟩ := List.any_eq_true.1 h39
          apply Bool.eq_false_iff.2
          intro hall
          have := List.all_eq_true.1 hall a ha
          simp [quotedB, quotedI] at this
          simp at hb
          omega
        rw [this]; rfl
      rw [this]; simp
  · rfl
end Go.Proofs.Ytecgbggobecpjaa.Al
namespace Go.Proofs.Ytecgbggobecpjaa.Al
open Go
def yK : Keys := ⟨fun k => ([0, 0, 1, 2, 0, 0, 0, 0, 0, 0, 0, 0, 0, 0, 0, 0, 0, 0, 0, 0, 0, 0, 0, 0, 0, 0, 0, 0, 0, 0, 0, 0, 0, 0, 0, 0, 22, 0, 0, 0, 0, 0, 0, 0, 0, 0, 0, 0, 0, 15, 18, 0, 0, 0, 0, 0, 0, 0, 0, 0, 0, 0, 0, 0, 0, 0, 0, 0, 0, 0, 0, 0, 0, 0, 0, 0, 0, 0, 0, 0, 0, 0, 0, 0, 0, 0, 0, 33, 36, 37, 0, 0, 0, 0, 0, 0, 0, 0, 0, 0, 0, 0, 46, 47, 48, 49, 50, 51, 0, 0, 0, 0, 0, 0, 0, 57, 58, 0, 64, 65, 69, 70, 71, 72, 73, 74, 75, 76, 77, 78, 79, 80, 81, 82, 83, 84, 85, 86, 87, 88, 89, 0, 0, 0, 0, 0, 0, 0, 0, 3, 4, 5, 0, 0, 0, 0, 0, 0, 0, 0, 0, 0, 0, 0, 0, 0, 0, 0, 0, 0, 0, 0, 0, 0, 0, 0, 0, 0, 0, 0, 0, 0, 0, 0, 0, 7, 0, 0, 11, 0, 0, 12, 6, 8, 9, 10, 13, 14, 0, 0, 0, 0, 0, 0, 0, 0, 0, 0, 0, 0, 27, 0, 0, 0, 0, 0, 0, 0, 0, 0, 0, 0, 0, 0, 0, 0, 0, 0, 0, 0, 0, 0, 0, 0, 0, 0, 0, 0, 0, 0, 0, 0, 0, 0, 0, 0, 0, 0, 0, 0, 23, 24, 25, 26, 16, 17, 19, 20, 21, 28, 29, 30, 31, 32, 0, 0, 0, 0, 0, 0, 0, 0, 0, 0, 0, 0, 0, 0, 0, 0, 0, 0, 0, 0, 0, 0, 0, 0, 0, 0, 0, 0, 0, 0, 0, 0, 0, 0, 0, 0, 0, 0, 41, 42, 43, 34, 35, 38, 39, 40, 44, 45, 0, 0, 0, 0, 0, 0, 0, 0, 0, 0, 0, 0, 0, 0, 0, 0, 0, 0, 56, 52, 53, 54, 55, 0, 0, 0, 0, 0, 0, 59, 60, 61, 62, 63, 0, 66, 67, 68, 0, 0, 0, 0, 0, 0, 0, 0, 0, 0, 0, 0, 0, 0, 0, 0, 0, 0, 0, 0, 0, 0, 0, 0, 0, 0, 0, 0, 0, 0, 0, 0, 0, 0, 0, 0, 0, 0, 0, 0, 0, 0, 0, 0, 0, 0, 0, 0, 0, 0, 0, 0, 0, 0, 0, 0, 0, 0, 0, 0, 0, 0, 0, 0, 0, 0, 0, 0] : List Nat).getD k 0, fun k => ([1, 2, 3, 149, 150, 151, 192, 185, 193, 194, 195, 188, 191, 196, 197, 49, 254, 255, 50, 256, 257, 258, 36, 250, 251, 252, 253, 210, 259, 260, 261, 262, 263, 87, 305, 306, 88, 89, 307, 308, 309, 302, 303, 304, 310, 311, 102, 103, 104, 105, 106, 107, 331, 332, 333, 334, 330, 115, 116, 341, 342, 343, 344, 345, 118, 119, 347, 348, 349, 120, 121, 122, 123, 124, 125, 126, 127, 128, 129, 130, 131, 132, 133, 134, 135, 136, 137, 138, 139, 140] : List Nat).getD k 0, fun k => ([33, 34, 35, 37, 38, 39, 40, 45, 81, 82, 83, 85, 94, 95, 108, 109, 242, 243, 244, 248, 249, 259, 289, 290, 292, 294, 300, 301] : List Nat).contains k, fun _ => false⟩
noncomputable abbrev cxZ (W0 : World) (Z : Value → AH → Prop) : Cx := ⟨Try.prog, yK.tbl, W0, Z⟩
noncomputable abbrev cxOf (W0 : World) : Cx := cxZ W0 fun _ _ => False
end Go.Proofs.Ytecgbggobecpjaa.Al
namespace Go.Proofs.Ytecgbggobecpjaa.Al
open Go
theorem tie_slices_ContainsFunc_Rule : compFn Try.prog yK Try.f24 = some A.slices_ContainsFunc_Rule.strip := by kernel_rfl
theorem has_slices_ContainsFunc_Rule (W0 : World) {Z : Value → AH → Prop} : Has (Ecx (cxZ W0 Z)) K.slices_ContainsFunc_Rule A.slices_ContainsFunc_Rule := fn_sound Try.checked.mixed rfl (by exact Try.func24) (by kernel_rfl) tie_slices_ContainsFunc_Rule
theorem tie_slices_Equal_int : compFn Try.prog yK Try.f27 = some A.slices_Equal_int.strip := by kernel_rfl
theorem has_slices_Equal_int (W0 : World) {Z : Value → AH → Prop} : Has (Ecx (cxZ W0 Z)) K.slices_Equal_int A.slices_Equal_int := fn_sound Try.checked.mixed rfl (by exact Try.func27) (by kernel_rfl) tie_slices_Equal_int
theorem tie_slices_Equal_Rule : compFn Try.prog yK Try.f30 = some A.slices_Equal_Rule.strip := by kernel_rfl
theorem has_slices_Equal_Rule (W0 : World) {Z : Value → AH → Prop} : Has (Ecx (cxZ W0 Z)) K.slices_Equal_Rule A.slices_Equal_Rule := fn_sound Try.checked.mixed rfl (by exact Try.func30) (by kernel_rfl) tie_slices_Equal_Rule
theorem tie_slices_EqualFunc_Node : compFn Try.prog yK Try.f31 = some A.slices_EqualFunc_Node.strip := by kernel_rfl
theorem has_slices_EqualFunc_Node (W0 : World) {Z : Value → AH → Prop} : Has (Ecx (cxZ W0 Z)) K.slices_EqualFunc_Node A.slices_EqualFunc_Node := fn_sound Try.checked.mixed rfl (by exact Try.func31) (by kernel_rfl) tie_slices_EqualFunc_Node
theorem tie_slices_IndexFunc_Rule : compFn Try.prog yK Try.f41 = some A.slices_IndexFunc_Rule.strip := by kernel_rfl
theorem has_slices_IndexFunc_Rule (W0 : World) {Z : Value → AH → Prop} : Has (Ecx (cxZ W0 Z)) K.slices_IndexFunc_Rule A.slices_IndexFunc_Rule := fn_sound Try.checked.mixed rfl (by exact Try.func41) (by kernel_rfl) tie_slices_IndexFunc_Rule
theorem tie_slices_Contains_byte : compFn Try.prog yK Try.f43 = some A.slices_Contains_byte.strip := by kernel_rfl
theorem has_slices_Contains_byte (W0 : World) {Z : Value → AH → Prop} : Has (Ecx (cxZ W0 Z)) K.slices_Contains_byte A.slices_Contains_byte := fn_sound Try.checked.mixed rfl (by exact Try.func43) (by kernel_rfl) tie_slices_Contains_byte
theorem tie_strings_Cut : compFn Try.prog yK Try.f46 = some A.strings_Cut.strip := by kernel_rfl
theorem has_strings_Cut (W0 : World) {Z : Value → AH → Prop} : Has (Ecx (cxZ W0 Z)) K.strings_Cut A.strings_Cut := fn_sound Try.checked.mixed rfl (by exact Try.func46) (by kernel_rfl) tie_strings_Cut
theorem tie_strings_IndexByte : compFn Try.prog yK Try.f51 = some A.strings_IndexByte.strip := by kernel_rfl
theorem has_strings_IndexByte (W0 : World) {Z : Value → AH → Prop} : Has (Ecx (cxZ W0 Z)) K.strings_IndexByte A.strings_IndexByte := fn_sound Try.checked.mixed rfl (by exact Try.func51) (by kernel_rfl) tie_strings_IndexByte
theorem tie_slices_Index_byte : compFn Try.prog yK Try.f56 = some A.slices_Index_byte.strip := by kernel_rfl
theorem has_slices_Index_byte (W0 : World) {Z : Value → AH → Prop} : Has (Ecx (cxZ W0 Z)) K.slices_Index_byte A.slices_Index_byte := fn_sound Try.checked.mixed rfl (by exact Try.func56) (by kernel_rfl) tie_slices_Index_byte
theorem tie_stringslite_Cut : compFn Try.prog yK Try.f57 = some A.stringslite_Cut.strip := by kernel_rfl
theorem has_stringslite_Cut (W0 : World) {Z : Value → AH → Prop} : Has (Ecx (cxZ W0 Z)) K.stringslite_Cut A.stringslite_Cut := fn_sound Try.checked.mixed rfl (by exact Try.func57) (by kernel_rfl) tie_stringslite_Cut
theorem tie_stringslite_IndexByte : compFn Try.prog yK Try.f58 = some A.stringslite_IndexByte.strip := by kernel_rfl
theorem has_stringslite_IndexByte (W0 : World) {Z : Value → AH → Prop} : Has (Ecx (cxZ W0 Z)) K.stringslite_IndexByte A.stringslite_IndexByte := fn_sound Try.checked.mixed rfl (by exact Try.func58) (by kernel_rfl) tie_stringslite_IndexByte
theorem tie_stringslite_Index : compFn Try.prog yK Try.f64 = some A.stringslite_Index.strip := by kernel_rfl
theorem has_stringslite_Index (W0 : World) {Z : Value → AH → Prop} : Has (Ecx (cxZ W0 Z)) K.stringslite_Index A.stringslite_Index := fn_sound Try.checked.mixed rfl (by exact Try.func64) (by kernel_rfl) tie_stringslite_Index
end Go.Proofs.Ytecgbggobecpjaa.Al
namespace Go.Proofs.Ytecgbggobecpjaa.Al
open Go
theorem tie_rules_Read : compFn Try.prog yK Try.f8 = some A.rules_Read.strip := by kernel_rfl
theorem has_rules_Read (W0 : World) {Z : Value → AH → Prop} : Has (Ecx (cxZ W0 Z)) K.rules_Read A.rules_Read := fn_sound Try.checked.mixed rfl (by exact Try.func8) (by kernel_rfl) tie_rules_Read
theorem tie_rules_Right : compFn Try.prog yK Try.f12 = some A.rules_Right.strip := by kernel_rfl
theorem has_rules_Right (W0 : World) {Z : Value → AH → Prop} : Has (Ecx (cxZ W0 Z)) K.rules_Right A.rules_Right := fn_sound Try.checked.mixed rfl (by exact Try.func12) (by kernel_rfl) tie_rules_Right
theorem tie_rules_Same : compFn Try.prog yK Try.f14 = some A.rules_Same.strip := by kernel_rfl
theorem has_rules_Same (W0 : World) {Z : Value → AH → Prop} : Has (Ecx (cxZ W0 Z)) K.rules_Same A.rules_Same := fn_sound Try.checked.mixed rfl (by exact Try.func14) (by kernel_rfl) tie_rules_Same
theorem tie_rules_reader_names : compFn Try.prog yK Try.f17 = some A.rules_reader_names.strip := by kernel_rfl
theorem has_rules_reader_names (W0 : World) {Z : Value → AH → Prop} : Has (Ecx (cxZ W0 Z)) K.rules_reader_names A.rules_reader_names := fn_sound Try.checked.mixed rfl (by exact Try.func17) (by kernel_rfl) tie_rules_reader_names
theorem tie_rules_token : compFn Try.prog yK Try.f23 = some A.rules_token.strip := by kernel_rfl
theorem has_rules_token (W0 : World) {Z : Value → AH → Prop} : Has (Ecx (cxZ W0 Z)) K.rules_token A.rules_token := fn_sound Try.checked.mixed rfl (by exact Try.func23) (by kernel_rfl) tie_rules_token
theorem tie_rules_Right_1 : compFn Try.prog yK Try.f25 = some A.rules_Right_1.strip := by kernel_rfl
theorem has_rules_Right_1 (W0 : World) {Z : Value → AH → Prop} : Has (Ecx (cxZ W0 Z)) K.rules_Right_1 A.rules_Right_1 := fn_sound Try.checked.mixed rfl (by exact Try.func25) (by kernel_rfl) tie_rules_Right_1
theorem tie_rules_Tree_fine : compFn Try.prog yK Try.f26 = some A.rules_Tree_fine.strip := by kernel_rfl
theorem has_rules_Tree_fine (W0 : World) {Z : Value → AH → Prop} : Has (Ecx (cxZ W0 Z)) K.rules_Tree_fine A.rules_Tree_fine := fn_sound Try.checked.mixed rfl (by exact Try.func26) (by kernel_rfl) tie_rules_Tree_fine
theorem tie_rules_Same_1 : compFn Try.prog yK Try.f32 = some A.rules_Same_1.strip := by kernel_rfl
theorem has_rules_Same_1 (W0 : World) {Z : Value → AH → Prop} : Has (Ecx (cxZ W0 Z)) K.rules_Same_1 A.rules_Same_1 := fn_sound Try.checked.mixed rfl (by exact Try.func32) (by kernel_rfl) tie_rules_Same_1
theorem tie_rules_reader_text : compFn Try.prog yK Try.f35 = some A.rules_reader_text.strip := by kernel_rfl
theorem has_rules_reader_text (W0 : World) {Z : Value → AH → Prop} : Has (Ecx (cxZ W0 Z)) K.rules_reader_text A.rules_reader_text := fn_sound Try.checked.mixed rfl (by exact Try.func35) (by kernel_rfl) tie_rules_reader_text
theorem tie_rules_Tree_fine_1 : compFn Try.prog yK Try.f42 = some A.rules_Tree_fine_1.strip := by kernel_rfl
theorem has_rules_Tree_fine_1 (W0 : World) {Z : Value → AH → Prop} : Has (Ecx (cxZ W0 Z)) K.rules_Tree_fine_1 A.rules_Tree_fine_1 := fn_sound Try.checked.mixed rfl (by exact Try.func42) (by kernel_rfl) tie_rules_Tree_fine_1
theorem tie_rules_reader_name : compFn Try.prog yK Try.f52 = some A.rules_reader_name.strip := by kernel_rfl
theorem has_rules_reader_name (W0 : World) {Z : Value → AH → Prop} : Has (Ecx (cxZ W0 Z)) K.rules_reader_name A.rules_reader_name := fn_sound Try.checked.mixed rfl (by exact Try.func52) (by kernel_rfl) tie_rules_reader_name
theorem tie_rules_reader_must : compFn Try.prog yK Try.f53 = some A.rules_reader_must.strip := by kernel_rfl
theorem has_rules_reader_must (W0 : World) {Z : Value → AH → Prop} : Has (Ecx (cxZ W0 Z)) K.rules_reader_must A.rules_reader_must := fn_sound Try.checked.mixed rfl (by exact Try.func53) (by kernel_rfl) tie_rules_reader_must
theorem tie_rules_reader_alternatives : compFn Try.prog yK Try.f54 = some A.rules_reader_alternatives.strip := by kernel_rfl
theorem has_rules_reader_alternatives (W0 : World) {Z : Value → AH → Prop} : Has (Ecx (cxZ W0 Z)) K.rules_reader_alternatives A.rules_reader_alternatives := fn_sound Try.checked.mixed rfl (by exact Try.func54) (by kernel_rfl) tie_rules_reader_alternatives
theorem tie_rules_reader_fail : compFn Try.prog yK Try.f59 = some A.rules_reader_fail.strip := by kernel_rfl
theorem has_rules_reader_fail (W0 : World) {Z : Value → AH → Prop} : Has (Ecx (cxZ W0 Z)) K.rules_reader_fail A.rules_reader_fail := fn_sound Try.checked.mixed rfl (by exact Try.func59) (by kernel_rfl) tie_rules_reader_fail
theorem tie_rules_reader_take : compFn Try.prog yK Try.f60 = some A.rules_reader_take.strip := by kernel_rfl
theorem has_rules_reader_take (W0 : World) {Z : Value → AH → Prop} : Has (Ecx (cxZ W0 Z)) K.rules_reader_take A.rules_reader_take := fn_sound Try.checked.mixed rfl (by exact Try.func60) (by kernel_rfl) tie_rules_reader_take
theorem tie_rules_reader_begins : compFn Try.prog yK Try.f61 = some A.rules_reader_begins.strip := by kernel_rfl
theorem has_rules_reader_begins (W0 : World) {Z : Value → AH → Prop} : Has (Ecx (cxZ W0 Z)) K.rules_reader_begins A.rules_reader_begins := fn_sound Try.checked.mixed rfl (by exact Try.func61) (by kernel_rfl) tie_rules_reader_begins
theorem tie_rules_reader_item : compFn Try.prog yK Try.f62 = some A.rules_reader_item.strip := by kernel_rfl
theorem has_rules_reader_item (W0 : World) {Z : Value → AH → Prop} : Has (Ecx (cxZ W0 Z)) K.rules_reader_item A.rules_reader_item := fn_sound Try.checked.mixed rfl (by exact Try.func62) (by kernel_rfl) tie_rules_reader_item
theorem tie_rules_reader_one : compFn Try.prog yK Try.f63 = some A.rules_reader_one.strip := by kernel_rfl
theorem has_rules_reader_one (W0 : World) {Z : Value → AH → Prop} : Has (Ecx (cxZ W0 Z)) K.rules_reader_one A.rules_reader_one := fn_sound Try.checked.mixed rfl (by exact Try.func63) (by kernel_rfl) tie_rules_reader_one
theorem tie_rules_reader_ahead : compFn Try.prog yK Try.f66 = some A.rules_reader_ahead.strip := by kernel_rfl
theorem has_rules_reader_ahead (W0 : World) {Z : Value → AH → Prop} : Has (Ecx (cxZ W0 Z)) K.rules_reader_ahead A.rules_reader_ahead := fn_sound Try.checked.mixed rfl (by exact Try.func66) (by kernel_rfl) tie_rules_reader_ahead
theorem tie_rules_reader_atom : compFn Try.prog yK Try.f67 = some A.rules_reader_atom.strip := by kernel_rfl
theorem has_rules_reader_atom (W0 : World) {Z : Value → AH → Prop} : Has (Ecx (cxZ W0 Z)) K.rules_reader_atom A.rules_reader_atom := fn_sound Try.checked.mixed rfl (by exact Try.func67) (by kernel_rfl) tie_rules_reader_atom
theorem tie_rules_reader_node : compFn Try.prog yK Try.f68 = some A.rules_reader_node.strip := by kernel_rfl
theorem has_rules_reader_node (W0 : World) {Z : Value → AH → Prop} : Has (Ecx (cxZ W0 Z)) K.rules_reader_node A.rules_reader_node := fn_sound Try.checked.mixed rfl (by exact Try.func68) (by kernel_rfl) tie_rules_reader_node
end Go.Proofs.Ytecgbggobecpjaa.Al
namespace Go.Proofs.Ytecgbggobecpjaa.Al
open Go
theorem tie_scan_Scan : compFn Try.prog yK Try.f15 = some A.scan_Scan.strip := by kernel_rfl
theorem has_scan_Scan (W0 : World) {Z : Value → AH → Prop} : Has (Ecx (cxZ W0 Z)) K.scan_Scan A.scan_Scan := fn_sound Try.checked.mixed rfl (by exact Try.func15) (by kernel_rfl) tie_scan_Scan
theorem tie_scan_first : compFn Try.prog yK Try.f33 = some A.scan_first.strip := by kernel_rfl
theorem has_scan_first (W0 : World) {Z : Value → AH → Prop} : Has (Ecx (cxZ W0 Z)) K.scan_first A.scan_first := fn_sound Try.checked.mixed rfl (by exact Try.func33) (by kernel_rfl) tie_scan_first
theorem tie_scan_letter : compFn Try.prog yK Try.f47 = some A.scan_letter.strip := by kernel_rfl
theorem has_scan_letter (W0 : World) {Z : Value → AH → Prop} : Has (Ecx (cxZ W0 Z)) K.scan_letter A.scan_letter := fn_sound Try.checked.mixed rfl (by exact Try.func47) (by kernel_rfl) tie_scan_letter
theorem tie_scan_run : compFn Try.prog yK Try.f48 = some A.scan_run.strip := by kernel_rfl
theorem has_scan_run (W0 : World) {Z : Value → AH → Prop} : Has (Ecx (cxZ W0 Z)) K.scan_run A.scan_run := fn_sound Try.checked.mixed rfl (by exact Try.func48) (by kernel_rfl) tie_scan_run
theorem tie_scan_part : compFn Try.prog yK Try.f49 = some A.scan_part.strip := by kernel_rfl
theorem has_scan_part (W0 : World) {Z : Value → AH → Prop} : Has (Ecx (cxZ W0 Z)) K.scan_part A.scan_part := fn_sound Try.checked.mixed rfl (by exact Try.func49) (by kernel_rfl) tie_scan_part
theorem tie_scan_quoted : compFn Try.prog yK Try.f50 = some A.scan_quoted.strip := by kernel_rfl
theorem has_scan_quoted (W0 : World) {Z : Value → AH → Prop} : Has (Ecx (cxZ W0 Z)) K.scan_quoted A.scan_quoted := fn_sound Try.checked.mixed rfl (by exact Try.func50) (by kernel_rfl) tie_scan_quoted
end Go.Proofs.Ytecgbggobecpjaa.Al
namespace Go.Proofs.Ytecgbggobecpjaa.Al
def A.rules_Right_o.L1 : AC := .post (.seq (.seq (.reg [⟨(some 59), none, .mv (.t 3)⟩, ⟨(some 60), none, .fa 1 (.t 5)⟩, ⟨(some 61), none, .load false 1 (.t 60)⟩, ⟨(some 62), none, .bin .leq (.t 59) (.t 61)⟩])
  (.keep [1, 3, 5, 6, 26, 27, 28, 62] (.cond (.t 62) .skip (.exit 2))))
  (.keep [1, 3, 5, 6, 26, 27, 28] (.seq (.block 3 (.seq (.reg [⟨(some 65), none, .fa 1 (.t 1)⟩, ⟨(some 66), none, .load false 1 (.t 65)⟩, ⟨(some 67), none, .mv (.t 3)⟩, ⟨(some 68), none, .ia 3 (.t 66) (.t 67)⟩, ⟨(some 69), none, .load true 3 (.t 68)⟩, ⟨(some 7), none, .alloc [(.int .i64 (0)), (.str []), (.sl 0 1 [])]⟩, ⟨none, none, .store 3 (.t 7) (.t 69)⟩])
  (.keep [1, 3, 5, 6, 7, 26, 27, 28] (.seq (.reg [⟨(some 70), none, .mv (.t 6)⟩, ⟨(some 71), none, .len false (.t 70)⟩, ⟨(some 72), none, .fa 2 (.t 7)⟩, ⟨(some 73), none, .load false 1 (.t 72)⟩, ⟨(some 74), none, .len false (.t 73)⟩, ⟨(some 75), none, .bin .sub (.t 71) (.t 74)⟩, ⟨(some 8), none, .mv (.t 75)⟩])
  (.keep [1, 3, 5, 6, 7, 8, 26, 27, 28] (.seq (.seq (.draw [(.pl, ⟨(some 76), none, .load true 2 (.t 1)⟩), (.pl, ⟨(some 77), none, .load true 3 (.t 7)⟩), (.pl, ⟨(some 78), none, .call (.c (.fn K.rules_Tree_fine [] [])) [(.t 76), (.t 77)]⟩), (.pl, ⟨(some 79), none, .un .not (.t 78)⟩), (.pl, ⟨(some 80), none, .mv (.t 79)⟩), (.pl, ⟨(some 81), (some (80, false)), .mv (.t 8)⟩), (.pl, ⟨(some 82), (some (80, false)), .bin .lss (.t 81) (.c (.int .i64 (0)))⟩), (.pl, ⟨(some 83), none, .pick (.t 80) (.c (.bool true)) (.t 82)⟩), (.pl, ⟨(some 84), none, .mv (.t 83)⟩), (.pl, ⟨(some 85), (some (84, false)), .mv (.t 6)⟩), (.pl, ⟨(some 86), (some (84, false)), .mv (.t 8)⟩), (.pl, ⟨(some 87), (some (84, false)), .slc 1 (.t 85) (some (.t 86)) none⟩), (.pl, ⟨(some 88), (some (84, false)), .fa 2 (.t 7)⟩), (.pl, ⟨(some 89), (some (84, false)), .load false 1 (.t 88)⟩), (.pl, ⟨(some 90), (some (84, false)), .call (.c (.fn K.slices_Equal_int [] [])) [(.t 87), (.t 89)]⟩), (.pl, ⟨(some 91), (some (84, false)), .un .not (.t 90)⟩), (.pl, ⟨(some 92), none, .pick (.t 84) (.c (.bool true)) (.t 91)⟩)])
  (.keep [1, 3, 5, 6, 8, 26, 27, 28, 92] (.cond (.t 92) (.seq (.reg [⟨(some 2), none, .mv (.c (.bool false))⟩]) .ret) .skip)))
  (.keep [1, 3, 5, 6, 8, 26, 27, 28] (.reg [⟨(some 93), none, .mv (.t 6)⟩, ⟨(some 94), none, .mv (.t 8)⟩, ⟨(some 95), none, .slc 1 (.t 93) none (some (.t 94))⟩, ⟨(some 96), none, .mv (.t 3)⟩, ⟨(some 97), none, .bsl 1 false [(.int .i64 (0))] 1 [(0, (.t 96))]⟩, ⟨(some 98), none, .appg 1 8 (.t 95) (.t 97)⟩, ⟨(some 6), none, .mv (.t 98)⟩]))))))))
  (.keep [1, 3, 5, 6, 26, 27, 28] (.reg [⟨(some 63), none, .mv (.t 3)⟩, ⟨(some 64), none, .bin .add (.t 63) (.c (.int .i64 (1)))⟩, ⟨(some 3), none, .mv (.t 64)⟩]))))) [1, 3, 5, 6, 26, 27, 28]
def A.rules_Right_o.L0 : AC := .post (.seq (.reg [⟨(some 29), none, .bin .lss (.t 28) (.t 27)⟩])
  (.keep [1, 3, 26, 27, 28, 29] (.seq (.cond (.t 29) .skip (.exit 0))
  (.keep [1, 3, 26, 27, 28] (.seq (.block 1 (.seq (.reg [⟨(some 30), none, .mv (.t 28)⟩, ⟨(some 31), none, .ia 2 (.t 26) (.t 28)⟩, ⟨(some 32), none, .load true 2 (.t 31)⟩, ⟨(some 5), none, .alloc [(.str []), (.int .i64 (0))]⟩, ⟨(some 4), none, .mv (.t 30)⟩, ⟨none, none, .store 2 (.t 5) (.t 32)⟩])
  (.keep [1, 3, 4, 5, 26, 27, 28] (.seq (.seq (.reg [⟨(some 33), none, .fa 0 (.t 5)⟩, ⟨(some 34), none, .load false 1 (.t 33)⟩, ⟨(some 35), none, .call (.c (.fn K.rules_token [] [])) [(.t 34), (.c (.int .i64 (1)))]⟩, ⟨(some 36), none, .un .not (.t 35)⟩, ⟨(some 37), none, .mv (.t 36)⟩, ⟨(some 38), (some (37, false)), .fa 0 (.t 1)⟩, ⟨(some 39), (some (37, false)), .load false 1 (.t 38)⟩, ⟨(some 40), (some (37, false)), .mv (.t 4)⟩, ⟨(some 41), (some (37, false)), .slc 2 (.t 39) none (some (.t 40))⟩, ⟨(some 42), (some (37, false)), .mkfn K.rules_Right_1 [] [(.t 5)]⟩, ⟨(some 43), (some (37, false)), .call (.c (.fn K.slices_ContainsFunc_Rule [] [])) [(.t 41), (.t 42)]⟩, ⟨(some 44), none, .pick (.t 37) (.c (.bool true)) (.t 43)⟩, ⟨(some 45), none, .mv (.t 44)⟩, ⟨(some 46), (some (45, false)), .fa 1 (.t 5)⟩, ⟨(some 47), (some (45, false)), .load false 1 (.t 46)⟩, ⟨(some 48), (some (45, false)), .mv (.t 3)⟩, ⟨(some 49), (some (45, false)), .bin .lss (.t 47) (.t 48)⟩, ⟨(some 50), none, .pick (.t 45) (.c (.bool true)) (.t 49)⟩, ⟨(some 51), none, .mv (.t 50)⟩, ⟨(some 52), (some (51, false)), .fa 1 (.t 5)⟩, ⟨(some 53), (some (51, false)), .load false 1 (.t 52)⟩, ⟨(some 54), (some (51, false)), .fa 1 (.t 1)⟩, ⟨(some 55), (some (51, false)), .load false 1 (.t 54)⟩, ⟨(some 56), (some (51, false)), .len false (.t 55)⟩, ⟨(some 57), (some (51, false)), .bin .geq (.t 53) (.t 56)⟩, ⟨(some 58), none, .pick (.t 51) (.c (.bool true)) (.t 57)⟩])
  (.keep [1, 3, 5, 26, 27, 28, 58] (.cond (.t 58) (.seq (.reg [⟨(some 2), none, .mv (.c (.bool false))⟩]) .ret) .skip)))
  (.keep [1, 3, 5, 26, 27, 28] (.seq (.reg [⟨(some 6), none, .mv (.c (.sl 0 1 []))⟩])
  (.keep [1, 3, 5, 6, 26, 27, 28] (.seq (.block 2 (.loop A.rules_Right_o.L1))
  (.keep [1, 3, 6, 26, 27, 28] (.seq (.reg [⟨(some 99), none, .mv (.t 6)⟩, ⟨(some 100), none, .len false (.t 99)⟩, ⟨(some 101), none, .bin .neq (.t 100) (.c (.int .i64 (1)))⟩])
  (.keep [1, 3, 26, 27, 28, 101] (.cond (.t 101) (.seq (.reg [⟨(some 2), none, .mv (.c (.bool false))⟩]) .ret) .skip))))))))))))
  (.keep [1, 3, 26, 27, 28] (.reg [⟨(some 102), none, .bin .add (.t 28) (.c (.int .i64 (1)))⟩, ⟨(some 28), none, .mv (.t 102)⟩]))))))) [1, 3, 26, 27, 28]
def A.rules_Right_o : AFn := ⟨108, [(2, none)], (.seq (.reg [⟨(some 1), none, .box (.t 0)⟩, ⟨(some 2), none, .mv (.c (.bool false))⟩])
  (.keep [1] (.seq (.seq (.reg [⟨(some 9), none, .fa 0 (.t 1)⟩, ⟨(some 10), none, .load false 1 (.t 9)⟩, ⟨(some 11), none, .len false (.t 10)⟩, ⟨(some 12), none, .bin .eql (.t 11) (.c (.int .i64 (0)))⟩, ⟨(some 13), none, .mv (.t 12)⟩, ⟨(some 14), (some (13, false)), .fa 0 (.t 1)⟩, ⟨(some 15), (some (13, false)), .load false 1 (.t 14)⟩, ⟨(some 16), (some (13, false)), .len false (.t 15)⟩, ⟨(some 17), (some (13, false)), .bin .gtr (.t 16) (.c (.int .i64 (24)))⟩, ⟨(some 18), none, .pick (.t 13) (.c (.bool true)) (.t 17)⟩, ⟨(some 19), none, .mv (.t 18)⟩, ⟨(some 20), (some (19, false)), .fa 1 (.t 1)⟩, ⟨(some 21), (some (19, false)), .load false 1 (.t 20)⟩, ⟨(some 22), (some (19, false)), .len false (.t 21)⟩, ⟨(some 23), (some (19, false)), .bin .gtr (.t 22) (.c (.int .i64 (200)))⟩, ⟨(some 24), none, .pick (.t 19) (.c (.bool true)) (.t 23)⟩])
  (.keep [1, 24] (.cond (.t 24) (.seq (.reg [⟨(some 2), none, .mv (.c (.bool false))⟩]) .ret) .skip)))
  (.keep [1] (.seq (.reg [⟨(some 3), none, .mv (.c (.int .i64 (0)))⟩])
  (.keep [1, 3] (.seq (.seq (.reg [⟨(some 25), none, .fa 0 (.t 1)⟩, ⟨(some 26), none, .load false 1 (.t 25)⟩, ⟨(some 27), none, .len false (.t 26)⟩, ⟨(some 28), none, .mv (.c (.int .i64 (0)))⟩])
  (.keep [1, 3, 26, 27, 28] (.block 0 (.loop A.rules_Right_o.L0))))
  (.keep [1, 3] (.seq (.reg [⟨(some 103), none, .mv (.t 3)⟩, ⟨(some 104), none, .fa 1 (.t 1)⟩, ⟨(some 105), none, .load false 1 (.t 104)⟩, ⟨(some 106), none, .len false (.t 105)⟩, ⟨(some 107), none, .bin .eql (.t 103) (.t 106)⟩, ⟨(some 2), none, .mv (.t 107)⟩]) .ret)))))))))⟩
end Go.Proofs.Ytecgbggobecpjaa.Al
namespace Go.Proofs.Ytecgbggobecpjaa.Al
open Go
theorem tie_o_rules_Right : compFn Try.prog ({ yK with om := fun n => ([1000098] : List Nat).contains n }) Try.f12 = some A.rules_Right_o.strip := by kernel_rfl
theorem has_o_rules_Right (W0 : World) {Z : Value → AH → Prop} : Has (Ecx (cxZ W0 Z)) K.rules_Right A.rules_Right_o := fn_sound (Y := ({ yK with om := fun n => ([1000098] : List Nat).contains n })) Try.checked.mixed rfl (by exact Try.func12) (by kernel_rfl) tie_o_rules_Right
end Go.Proofs.Ytecgbggobecpjaa.Al
namespace Go.Proofs.Ytecgbggobecpjaa.Al
open Go Go.RowKit
theorem ext_indexByte (W : World) {Z : Value → AH → Prop} (s : Str) (c : Int) (h : AH) (Q : V → AH → Prop) (hQ : Q (.int .i64 (idxB s c)) h) : Ecx (cxZ W Z) K.bytealg_IndexByteString [.str s, .int .u8 c] h Q :=
  indexByte_ext (X := cxZ W Z) (fn := Try.f65) (by exact Try.func65) (by kernel_rfl) (by kernel_rfl) (by kernel_rfl) (by kernel_rfl) s c hQ
theorem ls (W : World) {Z : Value → AH → Prop} : LS (cxZ W Z) := ⟨has_scan_letter W, has_scan_part W, has_scan_quoted W, has_scan_run W, has_scan_first W, has_scan_Scan W, has_strings_Cut W, has_strings_IndexByte W, has_stringslite_Cut W, has_stringslite_IndexByte W, has_stringslite_Index W, ext_indexByte W⟩
theorem lru (W : World) {Z : Value → AH → Prop} : LRu (cxZ W Z) := ⟨ls W, has_rules_token W, has_rules_Tree_fine W, has_rules_Tree_fine_1 W, has_rules_Right W, has_rules_Right_1 W, has_slices_ContainsFunc_Rule W, has_slices_IndexFunc_Rule W, has_slices_Contains_byte W, has_slices_Index_byte W, has_slices_Equal_int W⟩
theorem arg_node {u : V} (a : Arg Try.prog 44 u) : ∃ x : Nd, u = ndV x ∧ (x.name.length ≤ maxLen ∧ x.kids.length ≤ maxLen) := by
  obtain ⟨l, rfl, t⟩ := arg_struct Try.underlying44 a
  obtain ⟨a0, r, rfl, y0, t⟩ := tys_cons t
  obtain ⟨a1, r, rfl, y1, t⟩ := tys_cons t
  obtain ⟨a2, r, rfl, y2, t⟩ := tys_cons t
  obtain rfl := tys_nil t
  obtain ⟨n, rfl, _, _⟩ := ty_i64 (by kernel_rfl) y0
  obtain ⟨s, rfl, hs⟩ := ty_str (by kernel_rfl) y1
  obtain ⟨m, rfl, hm, hl⟩ := ty_sl (e := 3) (by kernel_rfl) y2
  obtain ⟨l, rfl, _⟩ := list_form (f := .int .i64) (p := fun _ => True) (fun v hv => by obtain ⟨n, e, _, h2⟩ := arg_i64 Try.underlying3 hv; exact ⟨n, e, trivial⟩) m hl
  rw [show Try.prog.cellsOf 3 = 1 by kernel_rfl]
  exact ⟨⟨n, s, l⟩, rfl, hs, by simpa using hm⟩
theorem arg_rule {u : V} (a : Arg Try.prog 46 u) : ∃ x : Rl, u = rlV x ∧ x.name.length ≤ maxLen := by
  obtain ⟨l, rfl, t⟩ := arg_struct Try.underlying46 a
  obtain ⟨a0, r, rfl, y0, t⟩ := tys_cons t
  obtain ⟨a1, r, rfl, y1, t⟩ := tys_cons t
  obtain rfl := tys_nil t
  obtain ⟨s, rfl, hs⟩ := ty_str (by kernel_rfl) y0
  obtain ⟨n, rfl, _, _⟩ := ty_i64 (by kernel_rfl) y1
  exact ⟨⟨s, n⟩, rfl, hs⟩
theorem arg_tree {u : V} (a : Arg Try.prog 25 u) : ∃ t : Te, u = teV t ∧ TeOk t := by
  obtain ⟨l, rfl, t⟩ := arg_struct Try.underlying25 a
  obtain ⟨a0, r, rfl, y0, t⟩ := tys_cons t
  obtain ⟨a1, r, rfl, y1, t⟩ := tys_cons t
  obtain rfl := tys_nil t
  obtain ⟨m, rfl, hm, hl⟩ := ty_sl (e := 46) (by kernel_rfl) y0
  obtain ⟨rs, rfl, hr⟩ := list_form (f := rlV) (fun v hv => arg_rule hv) m hl
  obtain ⟨m2, rfl, hm2, hl2⟩ := ty_sl (e := 44) (by kernel_rfl) y1
  obtain ⟨ns, rfl, hn⟩ := list_form (f := ndV) (fun v hv => arg_node hv) m2 hl2
  rw [show Try.prog.cellsOf 46 = 2 by kernel_rfl, show Try.prog.cellsOf 44 = 3 by kernel_rfl]
  exact ⟨⟨rs, ns⟩, rfl, ⟨by simpa using hm, by simpa using hm2, hr, fun n h => (hn n h).1, fun n h => (hn n h).2⟩⟩
end Go.Proofs.Ytecgbggobecpjaa.Al
namespace Go.Proofs.Ytecgbggobecpjaa.Al
open Go Go.RowKit
set_option linter.unusedSimpArgs false
set_option linter.unusedVariables false
/-- With other stamps' ghosts. -/
theorem Rel.retip {X : Cx} {g g' : Gh} {w : World} {h h' : AH} (n3 : 3 ≤ h'.next) {n : Nat} (hn : n ≤ h'.next) (hnx : h'.nobj ≤ h.nobj) (hgo : g'.obj = g.obj) (hgm : g'.mp = g.mp) (hgp : g'.pub = g.pub) (hgt : ∀ s, s < n → g'.tip s = g.tip s) (h3n : 3 ≤ n)
    (ht : ∀ s e, s < n → h'.tips s = some e → h.tips s = some e) {v : V} {x : Value} (r : Rel X g w h v x) (bd : Bdd n h'.nobj v) : Rel X g' w h' v x := by
  induction r with
  | bool b => exact .bool b
  | int k n => exact .int k n
  | str s => exact .str s
  | slnil e st hst => exact .slnil e st hst
  | slemp e a => exact .slemp e a
  | sl e st l b' off cap x h1 hs hcap he hc ho hp hr h2 h3 ih =>
    cases bd with
    | sl _ _ _ hs' hl =>
      have hsn : st < n := by omega
      refine .sl e st l b' off cap x h1 (by omega) hcap he hc ho (by rw [hgp]; exact hp) (fun i hi => ih i hi (hl _ (List.getElem_mem hi))) h2 (fun e' he' => ?_)
      obtain ⟨a, b, c, d⟩ := h3 e' (ht _ _ hsn he')
      exact ⟨a, by rw [hgt _ hsn]; exact b, by rw [hgp]; exact c, d⟩
  | agg l cs hl ho hr ih =>
    cases bd with
    | agg _ hb => exact .agg l cs hl ho (fun i h1 h2 => ih i h1 h2 (hb _ (List.getElem_mem h1)))
  | ptr o off hn hm => cases bd with | ptr _ _ ho => rw [← hgo]; exact .ptr o off ho (by rw [hgm]; exact hm)
  | mapr o hn hm => cases bd with | mapr _ ho => rw [← hgo]; exact .mapr o ho (by rw [hgm]; exact hm)
  | mapn => exact .mapn
  | osl e o off len cap c hn hm hc hk => cases bd with | osl _ _ _ _ _ ho => rw [← hgo]; exact .osl e o off len cap c ho (by rw [hgm]; exact hm) hc hk
  | rptr l off b' base x hc ho hp hr ih =>
    cases bd with
    | rptr _ _ hb => exact .rptr l off b' base x hc ho (by rw [hgp]; exact hp) (fun i hi => ih i hi (hb _ (List.getElem_mem hi)))
  | nilp => exact .nilp
  | fn f first cap fs cs h0 hf hcl hr1 hr2 ih1 ih2 =>
    cases bd with
    | fn _ _ _ b1 b2 => exact .fn f first cap fs cs h0 hf hcl (fun i h1 h2 => ih1 i h1 h2 (b1 _ (List.getElem_mem h1))) (fun i h1 h2 => ih2 i h1 h2 (b2 _ (List.getElem_mem h1)))
  | nilf => exact .nilf
  | tup l cs hl hr ih =>
    cases bd with
    | tup _ hb => exact .tup l cs hl (fun i h1 h2 => ih i h1 h2 (hb _ (List.getElem_mem h1)))
  | cval c => exact .cval c
  | undef v => exact .undef v
/-- From h to h1 a slice of that stamp has been appended to. -/
structure SE (e : Nat) (h h1 : AH) (st st1 : Nat) : Prop where
  next : h.next ≤ h1.next
  nobj : h.nobj ≤ h1.nobj
  objs : ∀ o, o < h.nobj → h1.objs o = h.objs o
  tips : ∀ s, s < h.next → (s ≠ st ∨ s ≤ 2) → h1.tips s = h.tips s
  st : (st1 = st ∧ h1.tips st = h.tips st ∧ (st ≤ 2 ∨ st < h.next)) ∨ (h.next ≤ st1 ∧ st1 < h1.next ∧ h1.tips st1 = some e)
theorem SE.refl {e : Nat} {h : AH} {st : Nat} (hs : st ≤ 2 ∨ st < h.next) : SE e h h st st := ⟨Nat.le_refl _, Nat.le_refl _, fun _ _ => rfl, fun _ _ _ => rfl, .inl ⟨rfl, rfl, hs⟩⟩
theorem SE.new {e : Nat} {h h1 : AH} {st st1 : Nat} (s : SE e h h1 st st1) (z : List V) : SE e h (h1.new z) st st1 :=
  ⟨s.next, Nat.le_succ_of_le s.nobj, fun o ho => by rw [new_objs_ne _ _ (by have := s.nobj; omega)]; exact s.objs o ho, s.tips, s.st⟩
theorem SE.set {e : Nat} {h h1 : AH} {st st1 : Nat} (s : SE e h h1 st st1) {o : Nat} (ho : h.nobj ≤ o) (z : List V) : SE e h (h1.set o z) st st1 :=
  ⟨s.next, s.nobj, fun o' ho' => by rw [set_objs_ne _ _ _ (by omega)]; exact s.objs o' ho', s.tips, s.st⟩
theorem push_tips_at {h : AH} {st e s : Nat} (h1 : s < h.next) (h2 : s ≠ st ∨ s ≤ 2) : (h.push st e).tips s = h.tips s := by
  have hne : s ≠ h.next := by omega
  unfold AH.push
  split
  · exact updN_ne _ _ hne
  · have e1 : ((h.drop st).grow e).tips s = (h.drop st).tips s := updN_ne _ _ hne
    rw [e1]; exact updN_ne _ _ (by omega)
theorem SE.push {e : Nat} {h h1 : AH} (n3 : 3 ≤ h.next) {st st1 : Nat} (s : SE e h h1 st st1) : SE e h (h1.push st1 e) st h1.next := by
  have a := s.next
  refine ⟨by rw [push_next]; omega, by rw [push_nobj]; exact s.nobj, fun o ho => by rw [push_objs]; exact s.objs o ho, fun k hk hn => ?_, .inr ⟨a, by rw [push_next]; omega, push_new h1 st1 e⟩⟩
  rw [push_tips_at (by omega) ?_]
  · exact s.tips k hk hn
  · rcases s.st with ⟨b, _⟩ | ⟨b, _⟩
    · rw [b]; exact hn
    · omega
/-- A slice to which may be appended. -/
structure May (e : Nat) (h : AH) (e1 st : Nat) (l : List V) : Prop where
  el : l = [] ∨ e1 = e
  st : st = 1 ∨ st = 2 ∨ h.tips st = some e
theorem May.app {e : Nat} {h : AH} {e1 st : Nat} {l : List V} (y : May e h e1 st l) {sz e2 : Nat} {m : List V} (hm : m ≠ []) (he : e2 = e) (hb : (l.length + m.length) * sz ≤ 2 ^ 46) {K : V → AH → Prop} {zK : Lz K}
    (hk : K (.sl e h.next (l ++ m)) (h.push st e)) : App h e sz e1 st l e2 m zK :=
  ⟨fun h0 => absurd h0 hm, fun _ => ⟨y.st, y.el, he, hb, hk⟩⟩
theorem May.se {e : Nat} {h h1 : AH} {e1 st st1 : Nat} {l : List V} (y : May e h e1 st l) (s : SE e h h1 st st1) {l1 : List V} {e2 : Nat} (hl : l1 = [] ∨ e2 = e) : May e h1 e2 st1 l1 :=
  ⟨hl, by
    rcases s.st with ⟨b, c, _⟩ | ⟨b, _, c⟩
    · rw [b, c]; exact y.st
    · exact .inr (.inr c)⟩
section
variable {X : Cx} {h : AH} {Q : V → AH → Prop}
/-- A call that appends to a slice, and hands it back. -/
theorem Ecx.tip {k : Nat} {args : List V} {st e : Nat} (hst : st ≤ 2 ∨ st < h.next)
    (c : Ecx X k args h fun r h1 => ∃ st1 l, r = .sl e st1 l ∧ SE e h h1 st st1 ∧ h.next ≤ st1 ∧ (∀ v ∈ cellsOf l, Bdd h.next h.nobj v) ∧ Q (.sl e h.next l) (h.push st e)) : Ecx X k args h Q := by
  intro g w cargs I rl
  refine (c g w cargs I rl).mono ?_
  rintro x w' ⟨r, h1, g', ⟨st1, l, rfl, se, hle, hb, q⟩, I', rx, S⟩
  have n3 := I.next
  have hs1 : st1 < h1.next ∧ h1.tips st1 = some e := by
    rcases se.st with ⟨b, c, d⟩ | ⟨b, c, d⟩
    · omega
    · exact ⟨c, d⟩
  have htn : (h.push st e).next = h.next + 1 := push_next _ _ _
  have hob : (h.push st e).objs = h.objs := push_objs _ _ _
  have hno : (h.push st e).nobj = h.nobj := push_nobj _ _ _
  have htip : ∀ s e', s < h.next → (h.push st e).tips s = some e' → h.tips s = some e' ∧ h1.tips s = some e' := fun s e' hs he => by
    by_cases hq : s ≠ st ∨ s ≤ 2
    · rw [push_tips_at hs hq] at he
      exact ⟨he, by rw [se.tips s hs hq]; exact he⟩
    · obtain rfl : s = st := by omega
      unfold AH.push at he
      rw [if_neg (by omega)] at he
      have e1 : ((h.drop s).grow e).tips s = (h.drop s).tips s := updN_ne _ _ (by show s ≠ h.next; omega)
      rw [e1, show (h.drop s).tips s = none from updN_same _ _ _] at he
      cases he
  have htop : ∀ s e', (h.push st e).tips s = some e' → s < h.next ∨ (s = h.next ∧ e' = e) := fun s e' he => by
    by_cases hq : s = h.next
    · subst hq; rw [push_new] at he; exact .inr ⟨rfl, (Option.some.inj he).symm⟩
    · left
      have : (h.push st e).tips s = some e' → h.tips s = some e' := fun he => by
        unfold AH.push at he
        split at he
        · rwa [show (h.grow e).tips s = h.tips s from updN_ne _ _ hq] at he
        · rw [show ((h.drop st).grow e).tips s = (h.drop st).tips s from updN_ne _ _ hq] at he
          by_cases hs : s = st
          · subst hs; rw [show (h.drop s).tips s = none from updN_same _ _ _] at he; cases he
          · rwa [show (h.drop st).tips s = h.tips s from updN_ne _ _ hs] at he
      exact (I.tipB s e' (this he)).2.1
  obtain ⟨g2, hg2e⟩ : ∃ g2 : Gh, g2 = { g' with tip := updN g'.tip h.next (g'.tip st1) } := ⟨_, rfl⟩
  have ho2 : g2.obj = g'.obj := by rw [hg2e]
  have hm2 : g2.mp = g'.mp := by rw [hg2e]
  have hp2 : g2.pub = g'.pub := by rw [hg2e]
  have hg2 : ∀ s, s < h.next → g2.tip s = g'.tip s := fun s hs => by rw [hg2e]; exact updN_ne _ _ (by omega)
  have hg2n : g2.tip h.next = g'.tip st1 := by rw [hg2e]; exact updN_same _ _ _
  have conv : ∀ {v : V} {x : Value}, Rel X g' w' h1 v x → Bdd h.next h.nobj v → Rel X g2 w' (h.push st e) v x := fun {v x} r b =>
    Rel.retip (g := g') (g' := g2) (n := h.next) (by rw [htn]; omega) (by rw [htn]; omega) (by rw [hno]; exact se.nobj) ho2 hm2 hp2 hg2 n3 (fun s e' hs he => (htip s e' hs he).2) r (by rw [hno]; exact b)
  have hbd : ∀ o, o < h.nobj → ∀ v ∈ h.objs o, Bdd h.next h.nobj v := fun o ho v hv => I.objBdd ho v hv
  have S2 : Stp g w h g2 w' (h.push st e) :=
    { next := by rw [htn]; omega
      nobj := by rw [hno]; exact Nat.le_refl _
      obj := by rw [ho2]; exact S.obj
      mp := by rw [hm2]; exact S.mp
      pub := by rw [hp2]; exact S.pub
      cell := S.cell
      tip := fun s hs e' he => by
        obtain ⟨a, b⟩ := htip s e' hs he
        obtain ⟨c, d, f⟩ := S.tip s hs e' b
        exact ⟨a, by rw [hg2 s hs]; exact d, by rw [hp2]; exact f⟩
      row := fun s hs e' he => S.row s hs e' (htip s e' hs he).2 }
  refine ⟨_, _, g2, q, ?_, ?_, S2⟩
  · exact
      { below := I'.below
        next := by rw [htn]; omega
        maps := fun o ho hm => by
          rw [hno] at ho
          rw [hm2] at hm
          unfold MapOk
          rw [ho2]
          obtain ⟨es, k1, k2, k3, k4⟩ := I'.maps o (Nat.lt_of_lt_of_le ho se.nobj) hm
          refine ⟨es, k1, by rw [hob, ← se.objs o ho]; exact k2, k3, fun i i1 i2 => ?_⟩
          simp only [hob] at i1 ⊢
          have := k4 i (by rw [se.objs o ho]; exact i1) i2
          simp only [se.objs o ho] at this
          exact conv this (hbd o ho _ (List.getElem_mem i1))
        objs := fun o ho hm hne => by
          rw [hno] at ho
          rw [hob] at hne
          rw [hm2] at hm
          rw [ho2]
          obtain ⟨cs, t, k1, k2, k3, k4⟩ := I'.objs o (Nat.lt_of_lt_of_le ho se.nobj) hm (by rw [se.objs o ho]; exact hne)
          refine ⟨cs, t, k1, by rw [hob, ← se.objs o ho]; exact k2, k3, fun i i1 i2 => ?_⟩
          simp only [hob] at i1 ⊢
          have := k4 i (by rw [se.objs o ho]; exact i1) i2
          simp only [se.objs o ho] at this
          exact conv this (hbd o ho _ (List.getElem_mem i1))
        objL := fun {o} ho => by rw [ho2]; exact I'.objL (Nat.lt_of_lt_of_le (by rw [hno] at ho; exact ho) se.nobj)
        objB := fun o ho => by
          rw [hno] at ho
          rw [ho2, hm2, hp2]
          refine ⟨(I'.objB o (Nat.lt_of_lt_of_le ho se.nobj)).1, fun hm hne => (I'.objB o (Nat.lt_of_lt_of_le ho se.nobj)).2 hm ?_⟩
          rw [se.objs o ho]; rw [hob] at hne; exact hne
        objI := fun o o' a b => by rw [ho2]; exact I'.objI o o' (Nat.lt_of_lt_of_le (by rw [hno] at a; exact a) se.nobj) (Nat.lt_of_lt_of_le (by rw [hno] at b; exact b) se.nobj)
        tipB := fun s e' he => by
          rcases htop s e' he with hs | ⟨rfl, rfl⟩
          · obtain ⟨a, b, c, d⟩ := I'.tipB s e' (htip s e' hs he).2
            exact ⟨a, by rw [htn]; omega, by rw [hg2 s hs]; exact c, by rw [hg2 s hs]; exact d⟩
          · obtain ⟨a, b, c, d⟩ := I'.tipB st1 e' hs1.2
            exact ⟨n3, by rw [htn]; omega, by rw [hg2n]; exact c, by rw [hg2n]; exact d⟩
        tipI := fun s e' s' e'' he he' heq => by
          rcases htop s e' he with hs | ⟨rfl, rfl⟩ <;> rcases htop s' e'' he' with hs' | ⟨rfl, rfl⟩
          · rw [hg2 s hs, hg2 s' hs'] at heq
            exact I'.tipI s e' s' e'' (htip s e' hs he).2 (htip s' e'' hs' he').2 heq
          · rw [hg2 s hs, hg2n] at heq
            have := I'.tipI s e' st1 e'' (htip s e' hs he).2 hs1.2 heq
            omega
          · rw [hg2 s' hs', hg2n] at heq
            have := I'.tipI st1 e' s' e'' hs1.2 (htip s' e'' hs' he').2 heq
            omega
          · rfl
        tipO := fun o s e' ho he => by
          rw [hno] at ho
          rw [ho2]
          rcases htop s e' he with hs | ⟨rfl, rfl⟩
          · rw [hg2 s hs]; exact I'.tipO o s e' (Nat.lt_of_lt_of_le ho se.nobj) (htip s e' hs he).2
          · rw [hg2n]; exact I'.tipO o st1 e' (Nat.lt_of_lt_of_le ho se.nobj) hs1.2
        pubB := by rw [hp2]; exact I'.pubB }
  · cases rx with
    | slnil e st hst => omega
    | slemp e a => omega
    | sl e st l b' off cap x h1' hs hcap he hc ho hp hr h2 h3 =>
      refine .sl e h.next l b' off cap x (by omega) (by rw [htn]; omega) hcap he hc ho (by rw [hp2]; exact hp) (fun i hi => conv (hr i hi) (hb _ (List.getElem_mem hi))) (fun e2 => by omega) (fun e' he' => ?_)
      rw [push_new] at he'
      obtain rfl := Option.some.inj he'
      obtain ⟨a, b, c, d⟩ := h3 _ hs1.2
      exact ⟨rfl, by rw [hg2n]; exact b, by rw [hp2]; exact c, d⟩
end
end Go.Proofs.Ytecgbggobecpjaa.Al
namespace Go.Proofs.Ytecgbggobecpjaa.Al
open Go Go.RowKit
set_option linter.unusedSimpArgs false
set_option linter.unusedVariables false
attribute [-simp] List.getD_eq_getElem?_getD Int.not_lt Int.not_le List.map_take List.map_map
/-! ### What is read, in plain Lean -/
/-- A name that is used, or given, and its place. -/
structure Use where
  name : Str
  at' : Nat
  deriving DecidableEq
def useV (u : Use) : V := .agg [.str u.name, .int .i64 u.at']
/-- A reader's state. -/
structure PS where
  at' : Nat
  rules : List Rl
  nodes : List Nd
  given : List Use
  used : List Use
def PS.adv (s : PS) : PS := { s with at' := s.at' + 1 }
def PS.lay (s : PS) (kind : Int) (name : Str) (kids : List Int) : PS := { s with nodes := s.nodes ++ [⟨kind, name, kids⟩] }
def PS.last (s : PS) : Int := (s.nodes.length : Int) - 1
section
variable (toks : List Tok) (en : Nat)
def aheadP (a : Nat) (m : Str) : Bool := match toks[a]? with
  | some t => decide (t.kind = 3) && decide (t.text = m)
  | none => false
/-- The place of the next token, or the text's end. -/
def plcP (a : Nat) : Nat := match toks[a]? with
  | some t => t.at'
  | none => en
def bgnP (a : Nat) : Bool := match toks[a]? with
  | some t => decide (t.kind ≠ 3) || decide (t.text = [40])
  | none => false
abbrev PR (α : Type) := Except Nat (PS × α)
def pbnd {α β : Type} (r : PR α) (f : PS → α → PR β) : PR β := match r with
  | .ok (s, a) => f s a
  | .error p => .error p
def mustP (m : Str) (s : PS) : PR Unit := if aheadP toks s.at' m then .ok (s.adv, ()) else .error (plcP toks en s.at')
def nameP (s : PS) : PR Use := match toks[s.at']? with
  | some t => if t.kind = 1 then .ok (s.adv, ⟨t.text, t.at'⟩) else .error t.at'
  | none => .error en
def nodeP (kind : Int) (name : Str) (kids : List Int) (s : PS) : PS × Int := ((s.lay kind name kids), (s.nodes.length : Int))
def oneP (kind : Int) (l : List Int) (s : PS) : PS × Int := match l with
  | [n] => (s, n)
  | l => nodeP kind [] l s
def useP (u : Use) (s : PS) : PS := { s with used := s.used ++ [u] }
def atomP (alt : PS → PR Int) (s : PS) : PR Int :=
  if aheadP toks s.at' [40] then pbnd (alt s.adv) fun s1 n => pbnd (mustP toks en [41] s1) fun s2 _ => .ok (s2, n)
  else match toks[s.at']? with
    | none => .error en
    | some t => if t.kind = 2 then .ok (nodeP 7 t.text [] s.adv) else pbnd (nameP toks en s) fun s1 u => .ok (nodeP 6 u.name [] (useP u s1))
def markP (s : PS) (n : Int) : PS × Int :=
  if aheadP toks s.at' [42] then nodeP 3 [] [n] s.adv
  else if aheadP toks s.at' [43] then nodeP 4 [] [n] s.adv
  else if aheadP toks s.at' [63] then nodeP 5 [] [n] s.adv
  else (s, n)
def itemP (alt : PS → PR Int) (s : PS) : PR Int := pbnd (atomP toks en alt s) fun s1 n => .ok (markP toks s1 n)
def itemsP (alt : PS → PR Int) : Nat → PS → List Int → PR (List Int)
  | 0, s, l => .ok (s, l)
  | k + 1, s, l => if bgnP toks s.at' then pbnd (itemP toks en alt s) fun s1 n => itemsP alt k s1 (l ++ [n]) else .ok (s, l)
def seqP (alt : PS → PR Int) (s : PS) : PR Int := pbnd (itemsP toks en alt (toks.length + 1) s []) fun s1 l => .ok (oneP 1 l s1)
def altsL (alt : PS → PR Int) : Nat → PS → List Int → PR (List Int)
  | 0, s, l => .ok (s, l)
  | k + 1, s, l => pbnd (seqP toks en alt s) fun s1 n => if aheadP toks s1.at' [124] then altsL alt k s1.adv (l ++ [n]) else .ok (s1, l ++ [n])
def altsP : Nat → PS → PR Int
  | 0, s => .error 0
  | f + 1, s => pbnd (altsL toks en (altsP f) (toks.length + 1) s []) fun s1 l => .ok (oneP 2 l s1)
def giveP (u : Use) (s : PS) : PS := { s with given := s.given ++ [u] }
def ruleP (s : PS) : PR Unit := pbnd (nameP toks en s) fun s1 u => pbnd (mustP toks en [58] (giveP u s1)) fun s2 _ => pbnd (altsP toks en (toks.length + 1) s2) fun s3 n =>
  pbnd (mustP toks en [59] s3) fun s4 _ => .ok ({ s4 with rules := s4.rules ++ [⟨u.name, n⟩] }, ())
def textL : Nat → PS → PR Unit
  | 0, s => .ok (s, ())
  | k + 1, s => pbnd (ruleP toks en s) fun s1 _ => if s1.at' < toks.length then textL k s1 else .ok (s1, ())
def textP : PR Unit := textL toks en (toks.length + 1) ⟨0, [], [], [], []⟩
end
/-! ### Where it stands, and how much there is -/
def pot (toks : List Tok) (s : PS) : Nat := s.nodes.length + s.used.length + s.given.length + s.rules.length + 8 * (toks.length - s.at')
/-- From s to s' something may have been read. -/
structure Fwd (toks : List Tok) (c : Nat) (s s' : PS) : Prop where
  at1 : s.at' ≤ s'.at'
  at2 : s'.at' ≤ toks.length
  pot : pot toks s' ≤ pot toks s + c
section
variable {toks : List Tok} {en : Nat}
theorem aheadP_lt {a : Nat} {m : Str} (h : aheadP toks a m = true) : a < toks.length := by
  unfold aheadP at h
  rcases Nat.lt_or_ge a toks.length with c | c
  · exact c
  · rw [List.getElem?_eq_none c] at h; simp at h
theorem bgnP_lt {a : Nat} (h : bgnP toks a = true) : a < toks.length := by
  unfold bgnP at h
  rcases Nat.lt_or_ge a toks.length with c | c
  · exact c
  · rw [List.getElem?_eq_none c] at h; simp at h
theorem pot_adv {s : PS} (h : s.at' < toks.length) : pot toks s.adv + 8 = pot toks s := by unfold pot PS.adv; simp only; omega
theorem pbnd_ok {α β : Type} {r : PR α} {f : PS → α → PR β} {x : PS × β} (h : pbnd r f = .ok x) : ∃ s a, r = .ok (s, a) ∧ f s a = .ok x := by
  unfold pbnd at h
  split at h
  · exact ⟨_, _, rfl, h⟩
  · cases h
theorem must_fwd {m : Str} {s s' : PS} {u : Unit} (h : mustP toks en m s = .ok (s', u)) : s' = s.adv ∧ s.at' < toks.length := by
  unfold mustP at h
  split at h
  · rename_i c; cases h; exact ⟨rfl, aheadP_lt c⟩
  · cases h
theorem name_fwd {s s' : PS} {u : Use} (h : nameP toks en s = .ok (s', u)) : s' = s.adv ∧ s.at' < toks.length := by
  unfold nameP at h
  split at h
  · rename_i t e
    split at h
    · cases h
      exact ⟨rfl, (List.getElem?_eq_some_iff.1 e).1⟩
    · cases h
  · cases h
theorem one_fwd (kind : Int) (l : List Int) (s : PS) : (oneP kind l s).1.at' = s.at' ∧ pot toks (oneP kind l s).1 ≤ pot toks s + 1 := by
  unfold oneP
  split
  · exact ⟨rfl, Nat.le_succ _⟩
  · exact ⟨rfl, by unfold pot nodeP PS.lay; simp; omega⟩
theorem mark_fwd {s : PS} (n : Int) (h : s.at' ≤ toks.length) : Fwd toks 0 s (markP toks s n).1 := by
  have key : ∀ k : Int, s.at' < toks.length → Fwd toks 0 s (nodeP k [] [n] s.adv).1 := fun k hl =>
    ⟨by simp [nodeP, PS.lay, PS.adv], by simp [nodeP, PS.lay, PS.adv]; omega, by
      have := pot_adv hl
      unfold pot PS.adv at this
      unfold nodeP PS.lay PS.adv pot; simp at this ⊢; omega⟩
  unfold markP
  split
  · rename_i c; exact key 3 (aheadP_lt c)
  split
  · rename_i c; exact key 4 (aheadP_lt c)
  split
  · rename_i c; exact key 5 (aheadP_lt c)
  · exact ⟨Nat.le_refl _, h, Nat.le_refl _⟩
/-- Alternatives go on. -/
def AltFwd (toks : List Tok) (alt : PS → PR Int) : Prop := ∀ s s' n, s.at' ≤ toks.length → alt s = .ok (s', n) → Fwd toks 2 s s'
theorem atom_fwd {alt : PS → PR Int} (ha : AltFwd toks alt) {s s' : PS} {n : Int} (h : atomP toks en alt s = .ok (s', n)) : s.at' < s'.at' ∧ Fwd toks 0 s s' := by
  unfold atomP at h
  split at h
  · rename_i c
    have hl := aheadP_lt c
    obtain ⟨s1, n1, h1, h2⟩ := pbnd_ok h
    obtain ⟨s2, u, h3, h4⟩ := pbnd_ok h2
    cases h4
    obtain ⟨rfl, hl2⟩ := must_fwd h3
    have f := ha _ _ _ (by simp [PS.adv]; omega) h1
    have p1 := pot_adv hl
    have p2 := pot_adv hl2
    have a1 := f.at1
    simp only [PS.adv] at a1
    refine ⟨by simp only [PS.adv]; omega, ⟨by simp only [PS.adv]; omega, by simp only [PS.adv]; omega, ?_⟩⟩
    have := f.pot; omega
  · split at h
    · cases h
    · rename_i t e
      have hl := (List.getElem?_eq_some_iff.1 e).1
      split at h
      · cases h
        refine ⟨by simp [PS.lay, PS.adv], ⟨by simp [PS.lay, PS.adv], by simp [PS.lay, PS.adv]; omega, ?_⟩⟩
        unfold pot PS.lay PS.adv; simp; omega
      · obtain ⟨s1, u, h1, h2⟩ := pbnd_ok h
        cases h2
        obtain ⟨rfl, _⟩ := name_fwd h1
        refine ⟨by simp [PS.lay, PS.adv, useP], ⟨by simp [PS.lay, PS.adv, useP], by simp [PS.lay, PS.adv, useP]; omega, ?_⟩⟩
        unfold pot PS.lay PS.adv useP; simp; omega
theorem item_fwd {alt : PS → PR Int} (ha : AltFwd toks alt) {s s' : PS} {n : Int} (h : itemP toks en alt s = .ok (s', n)) : s.at' < s'.at' ∧ Fwd toks 0 s s' := by
  unfold itemP at h
  obtain ⟨s1, n1, h1, h2⟩ := pbnd_ok h
  obtain ⟨a, f⟩ := atom_fwd ha h1
  have g := mark_fwd n1 f.at2
  have e : s' = (markP toks s1 n1).1 := by have := congrArg (fun x => x.toOption.map (·.1)) h2; simpa [Except.toOption] using this.symm
  rw [e]
  have := f.pot; have := g.pot; have := g.at1
  exact ⟨by omega, ⟨by omega, g.at2, by omega⟩⟩
theorem items_fwd {alt : PS → PR Int} (ha : AltFwd toks alt) : ∀ (k : Nat) {s s' : PS} {l l' : List Int}, s.at' ≤ toks.length → itemsP toks en alt k s l = .ok (s', l') → Fwd toks 0 s s'
  | 0, s, s', l, l', hs, h => by cases h; exact ⟨Nat.le_refl _, hs, by omega⟩
  | k + 1, s, s', l, l', hs, h => by
    unfold itemsP at h
    split at h
    · obtain ⟨s1, n, h1, h2⟩ := pbnd_ok h
      obtain ⟨a, f⟩ := item_fwd ha h1
      have g := items_fwd ha k f.at2 h2
      have := f.pot; have := g.pot; have := g.at1
      exact ⟨by omega, g.at2, by omega⟩
    · cases h; exact ⟨Nat.le_refl _, hs, by omega⟩
theorem seq_fwd {alt : PS → PR Int} (ha : AltFwd toks alt) {s s' : PS} {n : Int} (hs : s.at' ≤ toks.length) (h : seqP toks en alt s = .ok (s', n)) : Fwd toks 1 s s' := by
  unfold seqP at h
  obtain ⟨s1, l, h1, h2⟩ := pbnd_ok h
  have f := items_fwd ha _ hs h1
  have e : s' = (oneP 1 l s1).1 := by have := congrArg (fun x => x.toOption.map (·.1)) h2; simpa [Except.toOption] using this.symm
  obtain ⟨o1, o2⟩ := one_fwd (toks := toks) 1 l s1
  rw [e]
  have := f.pot; have := f.at1; have := f.at2
  exact ⟨by omega, by omega, by omega⟩
theorem altsL_fwd {alt : PS → PR Int} (ha : AltFwd toks alt) : ∀ (k : Nat) {s s' : PS} {l l' : List Int}, s.at' ≤ toks.length → altsL toks en alt k s l = .ok (s', l') → Fwd toks 1 s s'
  | 0, s, s', l, l', hs, h => by cases h; exact ⟨Nat.le_refl _, hs, by omega⟩
  | k + 1, s, s', l, l', hs, h => by
    unfold altsL at h
    obtain ⟨s1, n, h1, h2⟩ := pbnd_ok h
    have f := seq_fwd ha hs h1
    have := f.pot; have := f.at1; have := f.at2
    split at h2
    · rename_i c
      have hl := aheadP_lt c
      have p := pot_adv hl
      have g := altsL_fwd ha k (by simp [PS.adv]; omega) h2
      have := g.pot; have a := g.at1
      simp only [PS.adv] at a
      exact ⟨by omega, g.at2, by omega⟩
    · cases h2; exact f
theorem alts_fwd : ∀ f, AltFwd toks (altsP toks en f)
  | 0, s, s', n, _, h => by cases h
  | f + 1, s, s', n, hs, h => by
    unfold altsP at h
    obtain ⟨s1, l, h1, h2⟩ := pbnd_ok h
    have g := altsL_fwd (alts_fwd f) _ hs h1
    have e : s' = (oneP 2 l s1).1 := by have := congrArg (fun x => x.toOption.map (·.1)) h2; simpa [Except.toOption] using this.symm
    obtain ⟨o1, o2⟩ := one_fwd (toks := toks) 2 l s1
    rw [e]
    have := g.pot; have := g.at1; have := g.at2
    exact ⟨by omega, by omega, by omega⟩
theorem rule_fwd {s s' : PS} {u : Unit} (hs : s.at' ≤ toks.length) (h : ruleP toks en s = .ok (s', u)) : s.at' < s'.at' ∧ Fwd toks 0 s s' := by
  unfold ruleP at h
  obtain ⟨s1, u1, h1, h⟩ := pbnd_ok h
  obtain ⟨s2, u2, h2, h⟩ := pbnd_ok h
  obtain ⟨s3, n, h3, h⟩ := pbnd_ok h
  obtain ⟨s4, u4, h4, h⟩ := pbnd_ok h
  cases h
  obtain ⟨rfl, l1⟩ := name_fwd h1
  obtain ⟨rfl, l2⟩ := must_fwd h2
  obtain ⟨rfl, l4⟩ := must_fwd h4
  have l2' : s.at' + 1 < toks.length := by simpa [giveP, PS.adv] using l2
  have f := alts_fwd _ _ _ _ (by simp [giveP, PS.adv]; omega) h3
  have a1 := f.at1
  have p1 := f.pot
  have p4 := pot_adv l4
  simp only [giveP, PS.adv] at a1
  refine ⟨by simp [PS.adv]; omega, ⟨by simp [PS.adv]; omega, by simp [PS.adv]; omega, ?_⟩⟩
  unfold pot giveP PS.adv at *
  simp at *
  omega
theorem textL_fwd : ∀ (k : Nat) {s s' : PS} {u : Unit}, s.at' ≤ toks.length → textL toks en k s = .ok (s', u) → Fwd toks 0 s s'
  | 0, s, s', u, hs, h => by cases h; exact ⟨Nat.le_refl _, hs, Nat.le_refl _⟩
  | k + 1, s, s', u, hs, h => by
    unfold textL at h
    obtain ⟨s1, u1, h1, h2⟩ := pbnd_ok h
    have f := (rule_fwd hs h1).2
    have := f.pot; have := f.at1
    split at h2
    · have g := textL_fwd k f.at2 h2
      have := g.pot; have := g.at1
      exact ⟨by omega, g.at2, by omega⟩
    · cases h2; exact f
theorem textP_pot {s' : PS} {u : Unit} (h : textP toks en = .ok (s', u)) : pot toks s' ≤ 8 * toks.length := by
  have f := textL_fwd _ (by simp) h
  have := f.pot
  simp [pot] at this ⊢; omega
end
/-! ### Its object -/
/-- The stamps of its slices. -/
structure S4 where
  a : Nat
  b : Nat
  c : Nat
  d : Nat
def S4.has (σ : S4) (s : Nat) : Prop := s = σ.a ∨ s = σ.b ∨ s = σ.c ∨ s = σ.d
structure RdO (h : AH) (o : Nat) (v0 v2 : V) (a eg : Nat) (R N G U : List V) (σ : S4) : Prop where
  ob : ∃ e1 e2 e3 e4, h.objs o = [v0, .int .i64 a, v2, .sl e1 σ.a R, .sl e2 σ.b N, .sl e3 σ.c G, .sl e4 σ.d U] ∧ May 2 h e1 σ.a R ∧ May 3 h e2 σ.b N ∧ May eg h e3 σ.c G ∧ May eg h e4 σ.d U
  lt : o < h.nobj
  lo : 3 ≤ h.next ∧ ∀ s, s ≤ 2 → h.tips s = none
  sb : ∀ s, σ.has s → s ≤ 2 ∨ s < h.next
  ab : σ.a ≤ 2 ∨ σ.a ≠ σ.b
  ac : σ.a ≤ 2 ∨ σ.a ≠ σ.c
  ad : σ.a ≤ 2 ∨ σ.a ≠ σ.d
  bc : σ.b ≤ 2 ∨ σ.b ≠ σ.c
  bd : σ.b ≤ 2 ∨ σ.b ≠ σ.d
  cd : σ.c ≤ 2 ∨ σ.c ≠ σ.d
/-- From h to h1 only this object has been turned, and its slices. -/
structure RE (h h1 : AH) (o : Nat) (σ σ1 : S4) : Prop where
  next : h.next ≤ h1.next
  nobj : h.nobj ≤ h1.nobj
  objs : ∀ o', o' < h.nobj → o' ≠ o → h1.objs o' = h.objs o'
  tips : ∀ s, s < h.next → (¬ σ.has s ∨ s ≤ 2) → h1.tips s = h.tips s
  st : ∀ s, σ1.has s → σ.has s ∨ h.next ≤ s
theorem RE.refl (h : AH) (o : Nat) (σ : S4) : RE h h o σ σ := ⟨Nat.le_refl _, Nat.le_refl _, fun _ _ _ => rfl, fun _ _ _ => rfl, fun _ h => .inl h⟩
theorem RE.trans {h h1 h2 : AH} {o : Nat} {σ σ1 σ2 : S4} (a : RE h h1 o σ σ1) (b : RE h1 h2 o σ1 σ2) : RE h h2 o σ σ2 where
  next := Nat.le_trans a.next b.next
  nobj := Nat.le_trans a.nobj b.nobj
  objs o' h' hn := (b.objs o' (Nat.lt_of_lt_of_le h' a.nobj) hn).trans (a.objs o' h' hn)
  tips s hs hn := by
    have h1 : ¬ σ1.has s ∨ s ≤ 2 := by
      rcases hn with c | c
      · left; intro e; rcases a.st s e with d | d
        · exact c d
        · omega
      · exact .inr c
    exact (b.tips s (Nat.lt_of_lt_of_le hs a.next) h1).trans (a.tips s hs hn)
  st s hs := by
    rcases b.st s hs with e | e
    · exact a.st s e
    · exact .inr (Nat.le_trans a.next e)
theorem RE.new {h h1 : AH} {o : Nat} {σ σ1 : S4} (f : RE h h1 o σ σ1) (z : List V) : RE h (h1.new z) o σ σ1 :=
  ⟨f.next, Nat.le_succ_of_le f.nobj, fun o' ho hn => by rw [new_objs_ne _ _ (by have := f.nobj; omega)]; exact f.objs o' ho hn, f.tips, f.st⟩
theorem RE.set {h h1 : AH} {o : Nat} {σ σ1 : S4} (f : RE h h1 o σ σ1) {o' : Nat} (ho : o' = o ∨ h.nobj ≤ o') (z : List V) : RE h (h1.set o' z) o σ σ1 :=
  ⟨f.next, f.nobj, fun o2 ho' hn => by
    rw [set_objs_ne _ _ _ (by rintro rfl; rcases ho with h | h; exact hn h; omega)]; exact f.objs o2 ho' hn, f.tips, f.st⟩
/-- A slice of one's own is pushed. -/
theorem RE.push {h h1 : AH} {o : Nat} {σ σ1 : S4} (f : RE h h1 o σ σ1) {s : Nat} (hs : s ≤ 2 ∨ h.next ≤ s) (e : Nat) : RE h (h1.push s e) o σ σ1 := by
  have n := f.next
  exact ⟨by rw [push_next]; omega, by rw [push_nobj]; exact f.nobj, fun o' ho hn => by rw [push_objs]; exact f.objs o' ho hn, fun s' hs' hn => by
    rw [← f.tips s' hs' hn]
    by_cases c : s ≤ 2
    · have : ((h1.push s e).tips s') = h1.tips s' := by unfold AH.push; rw [if_pos c]; exact updN_ne _ _ (by omega)
      exact this
    · exact push_tips_at (by omega) (by omega), f.st⟩
theorem May.keep {e : Nat} {h h1 : AH} {e1 st : Nat} {l : List V} (m : May e h e1 st l) (ht : st ≤ 2 ∨ h1.tips st = h.tips st) (h2 : st ≤ 2 → h.tips st = none) : May e h1 e1 st l :=
  ⟨m.el, by
    rcases m.st with c | c | c
    · exact .inl c
    · exact .inr (.inl c)
    · rcases ht with d | d
      · rw [h2 d] at c; cases c
      · exact .inr (.inr (by rw [d]; exact c))⟩
theorem Wf.low {h : AH} (w : Wf h) {s : Nat} (hs : s ≤ 2) : h.tips s = none := by
  cases e : h.tips s with
  | none => rfl
  | some t => have := (w.tips s t e).1; omega
theorem Wf.lo {h : AH} (wf : Wf h) : 3 ≤ h.next ∧ ∀ s, s ≤ 2 → h.tips s = none := ⟨wf.next, fun _ hs => wf.low hs⟩
theorem push_low {h : AH} (lo : 3 ≤ h.next ∧ ∀ s, s ≤ 2 → h.tips s = none) (s e : Nat) : 3 ≤ (h.push s e).next ∧ ∀ s', s' ≤ 2 → (h.push s e).tips s' = none := by
  refine ⟨by rw [push_next]; omega, fun s' hs => ?_⟩
  rw [push_tips_at (by omega) (.inr hs)]; exact lo.2 s' hs
/-- Its object stays where others are turned. -/
theorem RdO.keep {h h1 : AH} {o : Nat} {v0 v2 : V} {a eg : Nat} {R N G U : List V} {σ : S4} (r : RdO h o v0 v2 a eg R N G U σ) (hn : h.next ≤ h1.next) (hb : h.nobj ≤ h1.nobj) (ho : h1.objs o = h.objs o)
    (ht : ∀ s, σ.has s → s ≤ 2 ∨ h1.tips s = h.tips s) (hl : ∀ s, s ≤ 2 → h1.tips s = none) : RdO h1 o v0 v2 a eg R N G U σ := by
  obtain ⟨e1, e2, e3, e4, ob, m1, m2, m3, m4⟩ := r.ob
  exact ⟨⟨e1, e2, e3, e4, by rw [ho]; exact ob, m1.keep (ht _ (.inl rfl)) (r.lo.2 _), m2.keep (ht _ (.inr (.inl rfl))) (r.lo.2 _), m3.keep (ht _ (.inr (.inr (.inl rfl)))) (r.lo.2 _), m4.keep (ht _ (.inr (.inr (.inr rfl)))) (r.lo.2 _)⟩,
    by have := r.lt; omega, ⟨by have := r.lo.1; omega, hl⟩, fun s hs => by have := r.sb s hs; omega, r.ab, r.ac, r.ad, r.bc, r.bd, r.cd⟩
theorem RdO.new {h : AH} {o : Nat} {v0 v2 : V} {a eg : Nat} {R N G U : List V} {σ : S4} (r : RdO h o v0 v2 a eg R N G U σ) (z : List V) : RdO (h.new z) o v0 v2 a eg R N G U σ :=
  r.keep (Nat.le_refl _) (Nat.le_succ _) (new_objs_ne _ _ (by have := r.lt; omega)) (fun _ _ => .inr rfl) r.lo.2
theorem RdO.other {h : AH} {o o' : Nat} {v0 v2 : V} {a eg : Nat} {R N G U : List V} {σ : S4} (r : RdO h o v0 v2 a eg R N G U σ) (ho : o' ≠ o) (z : List V) : RdO (h.set o' z) o v0 v2 a eg R N G U σ :=
  r.keep (Nat.le_refl _) (Nat.le_refl _) (set_objs_ne _ _ _ (fun e => ho e.symm)) (fun _ _ => .inr rfl) r.lo.2
theorem RdO.push {h : AH} {o : Nat} {v0 v2 : V} {a eg : Nat} {R N G U : List V} {σ : S4} (r : RdO h o v0 v2 a eg R N G U σ) {s : Nat} (hs : s ≤ 2 ∨ ¬ σ.has s) (e : Nat) : RdO (h.push s e) o v0 v2 a eg R N G U σ :=
  r.keep (by rw [push_next]; omega) (by rw [push_nobj]; exact Nat.le_refl _) (by rw [push_objs]) (fun s' h' => by
    by_cases c : s' ≤ 2
    · exact .inl c
    · right
      have := r.sb s' h'
      by_cases d : s ≤ 2
      · unfold AH.push; rw [if_pos d]; exact updN_ne _ _ (by omega)
      · exact push_tips_at (by omega) (.inl (by rintro rfl; rcases hs with q | q; exact d q; exact q h'))) (push_low r.lo s e).2
/-- It goes on. -/
theorem RdO.cells {h : AH} {o : Nat} {v0 v2 : V} {a eg : Nat} {R N G U : List V} {σ : S4} (r : RdO h o v0 v2 a eg R N G U σ) {e1 e2 e3 e4 : Nat} (ob : h.objs o = [v0, .int .i64 a, v2, .sl e1 σ.a R, .sl e2 σ.b N, .sl e3 σ.c G, .sl e4 σ.d U]) (v0' : V) (a' : Nat) (v2' : V) :
    RdO (h.set o [v0', .int .i64 a', v2', .sl e1 σ.a R, .sl e2 σ.b N, .sl e3 σ.c G, .sl e4 σ.d U]) o v0' v2' a' eg R N G U σ := by
  obtain ⟨f1, f2, f3, f4, ob', m1, m2, m3, m4⟩ := r.ob
  rw [ob] at ob'
  simp at ob'
  obtain ⟨rfl, rfl, rfl, rfl⟩ := ob'
  exact ⟨⟨_, _, _, _, set_objs_same _ _ _, ⟨m1.el, m1.st⟩, ⟨m2.el, m2.st⟩, ⟨m3.el, m3.st⟩, ⟨m4.el, m4.st⟩⟩, r.lt, r.lo, r.sb, r.ab, r.ac, r.ad, r.bc, r.bd, r.cd⟩
theorem May.push {e : Nat} {h : AH} {e1 st : Nat} {l : List V} (m : May e h e1 st l) (lo : 3 ≤ h.next ∧ ∀ s, s ≤ 2 → h.tips s = none) (hb : st ≤ 2 ∨ st < h.next) {s : Nat} (ne : st ≤ 2 ∨ st ≠ s) (e' : Nat) : May e (h.push s e') e1 st l := by
  by_cases c : st ≤ 2
  · exact m.keep (.inl c) (lo.2 _)
  · refine ⟨m.el, ?_⟩
    rcases m.st with d | d | d
    · exact .inl d
    · exact .inr (.inl d)
    · refine .inr (.inr ?_)
      rw [push_tips_at (by omega) (by omega)]; exact d
theorem RE.pushO {h : AH} {o : Nat} {σ σ1 : S4} {s : Nat} (hs : σ.has s) (e : Nat) (h1 : ∀ s, σ1.has s → σ.has s ∨ h.next ≤ s) (z : List V) : RE h ((h.push s e).set o z) o σ σ1 := by
  refine ⟨by rw [set_next, push_next]; omega, by rw [set_nobj, push_nobj]; exact Nat.le_refl _, fun o' _ hn => by rw [set_objs_ne _ _ _ hn, push_objs], fun s' hs' hn => ?_, h1⟩
  rw [set_tips]
  by_cases c : s ≤ 2
  · unfold AH.push; rw [if_pos c]; exact updN_ne _ _ (by omega)
  · refine push_tips_at hs' ?_
    rcases hn with d | d
    · left; rintro rfl; exact d hs
    · exact .inr d
section
variable {h : AH} {o : Nat} {v0 v2 : V} {a eg : Nat} {R N G U : List V} {σ : S4} {e1 e2 e3 e4 : Nat}
theorem RdO.pushR (r : RdO h o v0 v2 a eg R N G U σ) (ob : h.objs o = [v0, .int .i64 a, v2, .sl e1 σ.a R, .sl e2 σ.b N, .sl e3 σ.c G, .sl e4 σ.d U]) (x : V) : RdO ((h.push σ.a 2).set o [v0, .int .i64 a, v2, .sl 2 h.next (R ++ [x]), .sl e2 σ.b N, .sl e3 σ.c G, .sl e4 σ.d U]) o v0 v2 a eg (R ++ [x]) N G U { σ with a := h.next } ∧ RE h ((h.push σ.a 2).set o [v0, .int .i64 a, v2, .sl 2 h.next (R ++ [x]), .sl e2 σ.b N, .sl e3 σ.c G, .sl e4 σ.d U]) o σ { σ with a := h.next } := by
  obtain ⟨f1, f2, f3, f4, ob', m1, m2, m3, m4⟩ := r.ob
  rw [ob] at ob'
  simp at ob'
  obtain ⟨rfl, rfl, rfl, rfl⟩ := ob'
  have hb : ∀ s, S4.has { σ with a := h.next } s → s = h.next ∨ σ.has s := fun s hs => by
    rcases hs with e | e | e | e <;> subst e <;> simp [S4.has]
  exact ⟨⟨⟨_, _, _, _, set_objs_same _ _ _, ⟨.inr rfl, .inr (.inr (by rw [set_tips]; exact push_new h _ _))⟩, (let q := m2.push r.lo (r.sb _ (.inr (.inl rfl))) (by have := r.ab; omega) 2; ⟨q.el, q.st⟩), (let q := m3.push r.lo (r.sb _ (.inr (.inr (.inl rfl)))) (by have := r.ac; omega) 2; ⟨q.el, q.st⟩), (let q := m4.push r.lo (r.sb _ (.inr (.inr (.inr rfl)))) (by have := r.ad; omega) 2; ⟨q.el, q.st⟩)⟩, by rw [set_nobj, push_nobj]; exact r.lt, by rw [set_next, set_tips]; exact push_low r.lo _ _, fun s hs => by
      rw [set_next, push_next]
      rcases hb s hs with e | e
      · omega
      · have := r.sb s e; omega, (.inr (by show h.next ≠ σ.b; have := r.sb σ.b (.inr (.inl rfl)); have := r.lo.1; omega)), (.inr (by show h.next ≠ σ.c; have := r.sb σ.c (.inr (.inr (.inl rfl))); have := r.lo.1; omega)), (.inr (by show h.next ≠ σ.d; have := r.sb σ.d (.inr (.inr (.inr rfl))); have := r.lo.1; omega)), r.bc, r.bd, r.cd⟩,
    RE.pushO (.inl rfl) _ (fun s hs => (hb s hs).elim (fun e => .inr (by omega)) .inl) _⟩
theorem RdO.pushN (r : RdO h o v0 v2 a eg R N G U σ) (ob : h.objs o = [v0, .int .i64 a, v2, .sl e1 σ.a R, .sl e2 σ.b N, .sl e3 σ.c G, .sl e4 σ.d U]) (x : V) : RdO ((h.push σ.b 3).set o [v0, .int .i64 a, v2, .sl e1 σ.a R, .sl 3 h.next (N ++ [x]), .sl e3 σ.c G, .sl e4 σ.d U]) o v0 v2 a eg R (N ++ [x]) G U { σ with b := h.next } ∧ RE h ((h.push σ.b 3).set o [v0, .int .i64 a, v2, .sl e1 σ.a R, .sl 3 h.next (N ++ [x]), .sl e3 σ.c G, .sl e4 σ.d U]) o σ { σ with b := h.next } := by
  obtain ⟨f1, f2, f3, f4, ob', m1, m2, m3, m4⟩ := r.ob
  rw [ob] at ob'
  simp at ob'
  obtain ⟨rfl, rfl, rfl, rfl⟩ := ob'
  have hb : ∀ s, S4.has { σ with b := h.next } s → s = h.next ∨ σ.has s := fun s hs => by
    rcases hs with e | e | e | e <;> subst e <;> simp [S4.has]
  exact ⟨⟨⟨_, _, _, _, set_objs_same _ _ _, (let q := m1.push r.lo (r.sb _ (.inl rfl)) r.ab 3; ⟨q.el, q.st⟩), ⟨.inr rfl, .inr (.inr (by rw [set_tips]; exact push_new h _ _))⟩, (let q := m3.push r.lo (r.sb _ (.inr (.inr (.inl rfl)))) (by have := r.bc; omega) 3; ⟨q.el, q.st⟩), (let q := m4.push r.lo (r.sb _ (.inr (.inr (.inr rfl)))) (by have := r.bd; omega) 3; ⟨q.el, q.st⟩)⟩, by rw [set_nobj, push_nobj]; exact r.lt, by rw [set_next, set_tips]; exact push_low r.lo _ _, fun s hs => by
      rw [set_next, push_next]
      rcases hb s hs with e | e
      · omega
      · have := r.sb s e; omega, (by show σ.a ≤ 2 ∨ σ.a ≠ h.next; have := r.sb σ.a (.inl rfl); omega), r.ac, r.ad, (.inr (by show h.next ≠ σ.c; have := r.sb σ.c (.inr (.inr (.inl rfl))); have := r.lo.1; omega)), (.inr (by show h.next ≠ σ.d; have := r.sb σ.d (.inr (.inr (.inr rfl))); have := r.lo.1; omega)), r.cd⟩,
    RE.pushO (.inr (.inl rfl)) _ (fun s hs => (hb s hs).elim (fun e => .inr (by omega)) .inl) _⟩
theorem RdO.pushG (r : RdO h o v0 v2 a eg R N G U σ) (ob : h.objs o = [v0, .int .i64 a, v2, .sl e1 σ.a R, .sl e2 σ.b N, .sl e3 σ.c G, .sl e4 σ.d U]) (x : V) : RdO ((h.push σ.c eg).set o [v0, .int .i64 a, v2, .sl e1 σ.a R, .sl e2 σ.b N, .sl eg h.next (G ++ [x]), .sl e4 σ.d U]) o v0 v2 a eg R N (G ++ [x]) U { σ with c := h.next } ∧ RE h ((h.push σ.c eg).set o [v0, .int .i64 a, v2, .sl e1 σ.a R, .sl e2 σ.b N, .sl eg h.next (G ++ [x]), .sl e4 σ.d U]) o σ { σ with c := h.next } := by
  obtain ⟨f1, f2, f3, f4, ob', m1, m2, m3, m4⟩ := r.ob
  rw [ob] at ob'
  simp at ob'
  obtain ⟨rfl, rfl, rfl, rfl⟩ := ob'
  have hb : ∀ s, S4.has { σ with c := h.next } s → s = h.next ∨ σ.has s := fun s hs => by
    rcases hs with e | e | e | e <;> subst e <;> simp [S4.has]
  exact ⟨⟨⟨_, _, _, _, set_objs_same _ _ _, (let q := m1.push r.lo (r.sb _ (.inl rfl)) r.ac eg; ⟨q.el, q.st⟩), (let q := m2.push r.lo (r.sb _ (.inr (.inl rfl))) r.bc eg; ⟨q.el, q.st⟩), ⟨.inr rfl, .inr (.inr (by rw [set_tips]; exact push_new h _ _))⟩, (let q := m4.push r.lo (r.sb _ (.inr (.inr (.inr rfl)))) (by have := r.cd; omega) eg; ⟨q.el, q.st⟩)⟩, by rw [set_nobj, push_nobj]; exact r.lt, by rw [set_next, set_tips]; exact push_low r.lo _ _, fun s hs => by
      rw [set_next, push_next]
      rcases hb s hs with e | e
      · omega
      · have := r.sb s e; omega, r.ab, (by show σ.a ≤ 2 ∨ σ.a ≠ h.next; have := r.sb σ.a (.inl rfl); omega), r.ad, (by show σ.b ≤ 2 ∨ σ.b ≠ h.next; have := r.sb σ.b (.inr (.inl rfl)); omega), r.bd, (.inr (by show h.next ≠ σ.d; have := r.sb σ.d (.inr (.inr (.inr rfl))); have := r.lo.1; omega))⟩,
    RE.pushO (.inr (.inr (.inl rfl))) _ (fun s hs => (hb s hs).elim (fun e => .inr (by omega)) .inl) _⟩
theorem RdO.pushU (r : RdO h o v0 v2 a eg R N G U σ) (ob : h.objs o = [v0, .int .i64 a, v2, .sl e1 σ.a R, .sl e2 σ.b N, .sl e3 σ.c G, .sl e4 σ.d U]) (x : V) : RdO ((h.push σ.d eg).set o [v0, .int .i64 a, v2, .sl e1 σ.a R, .sl e2 σ.b N, .sl e3 σ.c G, .sl eg h.next (U ++ [x])]) o v0 v2 a eg R N G (U ++ [x]) { σ with d := h.next } ∧ RE h ((h.push σ.d eg).set o [v0, .int .i64 a, v2, .sl e1 σ.a R, .sl e2 σ.b N, .sl e3 σ.c G, .sl eg h.next (U ++ [x])]) o σ { σ with d := h.next } := by
  obtain ⟨f1, f2, f3, f4, ob', m1, m2, m3, m4⟩ := r.ob
  rw [ob] at ob'
  simp at ob'
  obtain ⟨rfl, rfl, rfl, rfl⟩ := ob'
  have hb : ∀ s, S4.has { σ with d := h.next } s → s = h.next ∨ σ.has s := fun s hs => by
    rcases hs with e | e | e | e <;> subst e <;> simp [S4.has]
  exact ⟨⟨⟨_, _, _, _, set_objs_same _ _ _, (let q := m1.push r.lo (r.sb _ (.inl rfl)) r.ad eg; ⟨q.el, q.st⟩), (let q := m2.push r.lo (r.sb _ (.inr (.inl rfl))) r.bd eg; ⟨q.el, q.st⟩), (let q := m3.push r.lo (r.sb _ (.inr (.inr (.inl rfl)))) r.cd eg; ⟨q.el, q.st⟩), ⟨.inr rfl, .inr (.inr (by rw [set_tips]; exact push_new h _ _))⟩⟩, by rw [set_nobj, push_nobj]; exact r.lt, by rw [set_next, set_tips]; exact push_low r.lo _ _, fun s hs => by
      rw [set_next, push_next]
      rcases hb s hs with e | e
      · omega
      · have := r.sb s e; omega, r.ab, r.ac, (by show σ.a ≤ 2 ∨ σ.a ≠ h.next; have := r.sb σ.a (.inl rfl); omega), r.bc, (by show σ.b ≤ 2 ∨ σ.b ≠ h.next; have := r.sb σ.b (.inr (.inl rfl)); omega), (by show σ.c ≤ 2 ∨ σ.c ≠ h.next; have := r.sb σ.c (.inr (.inr (.inl rfl))); omega)⟩,
    RE.pushO (.inr (.inr (.inr rfl))) _ (fun s hs => (hb s hs).elim (fun e => .inr (by omega)) .inl) _⟩
end
end Go.Proofs.Ytecgbggobecpjaa.Al
