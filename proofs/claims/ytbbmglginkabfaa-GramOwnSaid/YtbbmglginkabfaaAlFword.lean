/-
  The functions of word as abstract code, written by a program of this claim (gen.py). Conditions: none.
-/
import Derived.Test.YtbbmglginkabfaaAlKeys
namespace Go.Proofs.Ytbbmglginkabfaa.Al
def A.word_Bytes : AFn := ⟨15, [(2, none), (3, none)], (.seq (.reg [⟨(some 2), none, .mv (.c (.sl 0 1 []))⟩, ⟨(some 3), none, .mv (.c (.int .i64 (0)))⟩])
  (.keep [0] (.seq (.seq (.reg [⟨(some 5), none, .mv (.t 0)⟩, ⟨(some 6), none, .call (.c (.fn K.word_Right [] [])) [(.t 5)]⟩, ⟨(some 7), none, .un .not (.t 6)⟩])
  (.keep [0, 7] (.cond (.t 7) (.seq (.reg [⟨(some 2), none, .mv (.c (.sl 0 1 []))⟩, ⟨(some 3), none, .mv (.c (.int .i64 (1)))⟩]) .ret) .skip)))
  (.keep [0] (.seq (.reg [⟨(some 8), none, .bld [(.sl 0 1 [])] []⟩, ⟨(some 9), none, .box (.t 8)⟩, ⟨(some 4), none, .mv (.t 9)⟩])
  (.keep [0, 4] (.seq (.reg [⟨(some 10), none, .mv (.t 4)⟩, ⟨(some 11), none, .mv (.t 0)⟩, ⟨(some 12), none, .call (.c (.fn K.wire_Writer_Nums [] [])) [(.t 10), (.t 11)]⟩])
  (.keep [4] (.seq (.reg [⟨(some 13), none, .mv (.t 4)⟩, ⟨(some 14), none, .call (.c (.fn K.wire_Writer_Bytes [] [])) [(.t 13)]⟩, ⟨(some 2), none, .mv (.t 14)⟩, ⟨(some 3), none, .mv (.c (.int .i64 (0)))⟩]) .ret)))))))))⟩
def A.word_Read : AFn := ⟨17, [(2, none), (3, none)], (.seq (.reg [⟨(some 2), none, .mv (.c (.sl 0 1 []))⟩, ⟨(some 3), none, .mv (.c (.int .i64 (0)))⟩])
  (.keep [0] (.seq (.reg [⟨(some 7), none, .mv (.t 0)⟩, ⟨(some 8), none, .call (.c (.fn K.wire_New [] [])) [(.t 7)]⟩, ⟨(some 4), none, .mv (.t 8)⟩])
  (.keep [4] (.seq (.reg [⟨(some 9), none, .mv (.t 4)⟩, ⟨(some 10), none, .call (.c (.fn K.wire_Reader_Nums [] [])) [(.t 9), (.c (.int .i64 (24))), (.c (.int .i64 (15)))]⟩, ⟨(some 5), none, .mv (.t 10)⟩])
  (.keep [4, 5] (.seq (.seq (.reg [⟨(some 11), none, .mv (.t 4)⟩, ⟨(some 12), none, .call (.c (.fn K.wire_Reader_End [] [])) [(.t 11)]⟩, ⟨(some 6), none, .mv (.t 12)⟩])
  (.keep [5, 6] (.seq (.reg [⟨(some 13), none, .mv (.t 6)⟩, ⟨(some 14), none, .bin .neq (.t 13) (.c (.int .i64 (0)))⟩])
  (.keep [5, 6, 14] (.cond (.t 14) (.seq (.reg [⟨(some 15), none, .mv (.t 6)⟩, ⟨(some 2), none, .mv (.c (.sl 0 1 []))⟩, ⟨(some 3), none, .mv (.t 15)⟩]) .ret) .skip)))))
  (.keep [5] (.seq (.reg [⟨(some 16), none, .mv (.t 5)⟩, ⟨(some 2), none, .mv (.t 16)⟩, ⟨(some 3), none, .mv (.c (.int .i64 (0)))⟩]) .ret)))))))))⟩
def A.word_Apply.L1 : AC := .post (.seq (.seq (.reg [⟨(some 29), none, .mv (.t 9)⟩, ⟨(some 30), none, .fa 0 (.t 11)⟩, ⟨(some 31), none, .load false 1 (.t 30)⟩, ⟨(some 32), none, .bin .lss (.t 29) (.t 31)⟩])
  (.keep [0, 6, 7, 8, 9, 11, 23, 24, 25, 32] (.cond (.t 32) .skip (.exit 3))))
  (.keep [0, 6, 7, 8, 9, 11, 23, 24, 25] (.seq (.block 4 (.reg [⟨(some 35), none, .mv (.t 8)⟩, ⟨(some 36), none, .mv (.t 0)⟩, ⟨(some 37), none, .mv (.t 9)⟩, ⟨(some 38), none, .ia 1 (.t 36) (.t 37)⟩, ⟨(some 39), none, .load false 1 (.t 38)⟩, ⟨(some 40), none, .call (.t 35) [(.t 39)]⟩]))
  (.keep [0, 6, 7, 8, 9, 11, 23, 24, 25] (.reg [⟨(some 33), none, .mv (.t 9)⟩, ⟨(some 34), none, .bin .add (.t 33) (.c (.int .i64 (1)))⟩, ⟨(some 9), none, .mv (.t 34)⟩]))))) [0, 6, 7, 8, 9, 11, 23, 24, 25]
def A.word_Apply.L0 : AC := .post (.seq (.reg [⟨(some 26), none, .bin .lss (.t 25) (.t 24)⟩])
  (.keep [0, 6, 7, 8, 9, 23, 24, 25, 26] (.seq (.cond (.t 26) .skip (.exit 1))
  (.keep [0, 6, 7, 8, 9, 23, 24, 25] (.seq (.block 2 (.seq (.reg [⟨(some 27), none, .ia 3 (.t 23) (.t 25)⟩, ⟨(some 28), none, .load true 3 (.t 27)⟩, ⟨(some 11), none, .alloc [(.int .i64 (0)), (.bool false), (.int .i64 (0))]⟩, ⟨none, none, .store 3 (.t 11) (.t 28)⟩])
  (.keep [0, 6, 7, 8, 9, 11, 23, 24, 25] (.seq (.block 3 (.loop A.word_Apply.L1))
  (.keep [0, 6, 7, 8, 9, 11, 23, 24, 25] (.seq (.reg [⟨(some 41), none, .fa 1 (.t 11)⟩, ⟨(some 42), none, .load false 1 (.t 41)⟩])
  (.keep [0, 6, 7, 8, 9, 11, 23, 24, 25, 42] (.cond (.t 42) (.reg [⟨(some 43), none, .mv (.t 9)⟩, ⟨(some 44), none, .bin .add (.t 43) (.c (.int .i64 (1)))⟩, ⟨(some 9), none, .mv (.t 44)⟩]) (.reg [⟨(some 45), none, .mv (.t 8)⟩, ⟨(some 46), none, .fa 2 (.t 11)⟩, ⟨(some 47), none, .load false 1 (.t 46)⟩, ⟨(some 48), none, .call (.t 45) [(.t 47)]⟩])))))))))
  (.keep [0, 6, 7, 8, 9, 23, 24, 25] (.reg [⟨(some 49), none, .bin .add (.t 25) (.c (.int .i64 (1)))⟩, ⟨(some 25), none, .mv (.t 49)⟩]))))))) [0, 6, 7, 8, 9, 23, 24, 25]
def A.word_Apply.L2 : AC := .post (.seq (.seq (.reg [⟨(some 50), none, .mv (.t 9)⟩, ⟨(some 51), none, .mv (.t 0)⟩, ⟨(some 52), none, .len false (.t 51)⟩, ⟨(some 53), none, .bin .lss (.t 50) (.t 52)⟩])
  (.keep [0, 6, 7, 8, 9, 53] (.cond (.t 53) .skip (.exit 5))))
  (.keep [0, 6, 7, 8, 9] (.seq (.block 6 (.reg [⟨(some 56), none, .mv (.t 8)⟩, ⟨(some 57), none, .mv (.t 0)⟩, ⟨(some 58), none, .mv (.t 9)⟩, ⟨(some 59), none, .ia 1 (.t 57) (.t 58)⟩, ⟨(some 60), none, .load false 1 (.t 59)⟩, ⟨(some 61), none, .call (.t 56) [(.t 60)]⟩]))
  (.keep [0, 6, 7, 8, 9] (.reg [⟨(some 54), none, .mv (.t 9)⟩, ⟨(some 55), none, .bin .add (.t 54) (.c (.int .i64 (1)))⟩, ⟨(some 9), none, .mv (.t 55)⟩]))))) [0, 6, 7, 8, 9]
def A.word_Apply : AFn := ⟨65, [(4, none), (5, none)], (.seq (.reg [⟨(some 4), none, .mv (.c (.sl 0 1 []))⟩, ⟨(some 5), none, .mv (.c (.int .i64 (0)))⟩])
  (.keep [0, 1] (.seq (.block 0 (.seq (.reg [⟨(some 13), none, .mv (.t 0)⟩, ⟨(some 14), none, .call (.c (.fn K.word_Right [] [])) [(.t 13)]⟩, ⟨(some 15), none, .un .not (.t 14)⟩, ⟨(some 12), none, .mv (.t 15)⟩])
  (.keep [0, 1, 12] (.cond (.t 12) (.seq (.reg [⟨(some 4), none, .mv (.c (.sl 0 1 []))⟩, ⟨(some 5), none, .mv (.c (.int .i64 (1)))⟩]) .ret) (.seq (.reg [⟨(some 17), none, .mv (.t 1)⟩, ⟨(some 18), none, .mv (.t 0)⟩, ⟨(some 19), none, .len false (.t 18)⟩, ⟨(some 20), none, .call (.c (.fn K.word_May [] [])) [(.t 17), (.t 19)]⟩, ⟨(some 21), none, .un .not (.t 20)⟩, ⟨(some 16), none, .mv (.t 21)⟩])
  (.keep [0, 1, 16] (.cond (.t 16) (.seq (.reg [⟨(some 4), none, .mv (.c (.sl 0 1 []))⟩, ⟨(some 5), none, .mv (.c (.int .i64 (2)))⟩]) .ret) .skip)))))))
  (.keep [0, 1] (.seq (.reg [⟨(some 6), none, .alloc [(.sl 0 1 [])]⟩])
  (.keep [0, 1, 6] (.seq (.reg [⟨(some 7), none, .alloc [(.int .i64 (0))]⟩, ⟨none, none, .store 1 (.t 7) (.c (.int .i64 (0)))⟩])
  (.keep [0, 1, 6, 7] (.seq (.reg [⟨(some 22), none, .mkfn K.word_Apply_1 [] [(.t 7), (.t 6)]⟩, ⟨(some 8), none, .mv (.t 22)⟩])
  (.keep [0, 1, 6, 7, 8] (.seq (.reg [⟨(some 9), none, .mv (.c (.int .i64 (0)))⟩])
  (.keep [0, 1, 6, 7, 8, 9] (.seq (.seq (.reg [⟨(some 23), none, .mv (.t 1)⟩, ⟨(some 24), none, .len false (.t 23)⟩, ⟨(some 25), none, .mv (.c (.int .i64 (0)))⟩])
  (.keep [0, 6, 7, 8, 9, 23, 24, 25] (.block 1 (.loop A.word_Apply.L0))))
  (.keep [0, 6, 7, 8, 9] (.seq (.block 5 (.loop A.word_Apply.L2))
  (.keep [6, 7] (.seq (.seq (.reg [⟨(some 62), none, .load false 1 (.t 7)⟩, ⟨(some 63), none, .bin .gtr (.t 62) (.c (.int .i64 (24)))⟩])
  (.keep [6, 63] (.cond (.t 63) (.seq (.reg [⟨(some 4), none, .mv (.c (.sl 0 1 []))⟩, ⟨(some 5), none, .mv (.c (.int .i64 (5)))⟩]) .ret) .skip)))
  (.keep [6] (.seq (.reg [⟨(some 64), none, .load false 1 (.t 6)⟩, ⟨(some 4), none, .mv (.t 64)⟩, ⟨(some 5), none, .mv (.c (.int .i64 (0)))⟩]) .ret)))))))))))))))))))⟩
def A.word_Right : AFn := ⟨10, [(2, none)], (.seq (.reg [⟨(some 2), none, .mv (.c (.bool false))⟩])
  (.keep [0] (.seq (.reg [⟨(some 3), none, .mv (.t 0)⟩, ⟨(some 4), none, .len false (.t 3)⟩, ⟨(some 5), none, .bin .leq (.t 4) (.c (.int .i64 (24)))⟩, ⟨(some 6), none, .mv (.t 5)⟩, ⟨(some 7), (some (6, true)), .mv (.t 0)⟩, ⟨(some 8), (some (6, true)), .call (.c (.fn K.word_below [] [])) [(.t 7), (.c (.int .i64 (16)))]⟩, ⟨(some 9), none, .pick (.t 6) (.t 8) (.c (.bool false))⟩, ⟨(some 2), none, .mv (.t 9)⟩]) .ret)))⟩
def A.word_Fits : AFn := ⟨13, [(4, none)], (.seq (.reg [⟨(some 2), none, .box (.t 0)⟩, ⟨(some 4), none, .mv (.c (.bool false))⟩])
  (.keep [1, 2] (.seq (.reg [⟨(some 5), none, .mv (.t 1)⟩, ⟨(some 6), none, .call (.c (.fn K.word_Right [] [])) [(.t 5)]⟩, ⟨(some 7), none, .mv (.t 6)⟩, ⟨(some 8), (some (7, true)), .mv (.t 1)⟩, ⟨(some 9), (some (7, true)), .fa 0 (.t 2)⟩, ⟨(some 10), (some (7, true)), .load false 1 (.t 9)⟩, ⟨(some 11), (some (7, true)), .call (.c (.fn K.word_below [] [])) [(.t 8), (.t 10)]⟩, ⟨(some 12), none, .pick (.t 7) (.t 11) (.c (.bool false))⟩, ⟨(some 4), none, .mv (.t 12)⟩]) .ret)))⟩
def A.word_May.L0 : AC := .post (.seq (.reg [⟨(some 12), none, .bin .lss (.t 11) (.t 10)⟩])
  (.keep [1, 5, 6, 9, 10, 11, 12] (.seq (.cond (.t 12) .skip (.exit 0))
  (.keep [1, 5, 6, 9, 10, 11] (.seq (.block 1 (.seq (.reg [⟨(some 13), none, .ia 3 (.t 9) (.t 11)⟩, ⟨(some 14), none, .load true 3 (.t 13)⟩, ⟨(some 8), none, .alloc [(.int .i64 (0)), (.bool false), (.int .i64 (0))]⟩, ⟨none, none, .store 3 (.t 8) (.t 14)⟩])
  (.keep [1, 5, 6, 8, 9, 10, 11] (.seq (.seq (.reg [⟨(some 15), none, .load true 3 (.t 8)⟩, ⟨(some 16), none, .mv (.t 5)⟩, ⟨(some 17), none, .mv (.t 6)⟩, ⟨(some 18), none, .mv (.t 1)⟩, ⟨(some 19), none, .call (.c (.fn K.word_fine [] [])) [(.t 15), (.t 16), (.t 17), (.t 18)]⟩, ⟨(some 20), none, .un .not (.t 19)⟩])
  (.keep [1, 8, 9, 10, 11, 20] (.cond (.t 20) (.seq (.reg [⟨(some 4), none, .mv (.c (.bool false))⟩]) .ret) .skip)))
  (.keep [1, 8, 9, 10, 11] (.draw [(.pl, ⟨(some 21), none, .fa 0 (.t 8)⟩), (.pl, ⟨(some 22), none, .load false 1 (.t 21)⟩), (.pl, ⟨(some 23), none, .fa 1 (.t 8)⟩), (.pl, ⟨(some 24), none, .load false 1 (.t 23)⟩), (.pl, ⟨(some 5), none, .mv (.t 22)⟩), (.pl, ⟨(some 6), none, .mv (.t 24)⟩)]))))))
  (.keep [1, 5, 6, 9, 10, 11] (.reg [⟨(some 25), none, .bin .add (.t 11) (.c (.int .i64 (1)))⟩, ⟨(some 11), none, .mv (.t 25)⟩]))))))) [1, 5, 6, 9, 10, 11]
def A.word_May : AFn := ⟨26, [(4, none)], (.seq (.reg [⟨(some 4), none, .mv (.c (.bool false))⟩])
  (.keep [0, 1] (.seq (.reg [⟨(some 5), none, .mv (.c (.int .i64 (0)))⟩, ⟨(some 6), none, .mv (.c (.bool false))⟩])
  (.keep [0, 1, 5, 6] (.seq (.seq (.reg [⟨(some 9), none, .mv (.t 0)⟩, ⟨(some 10), none, .len false (.t 9)⟩, ⟨(some 11), none, .mv (.c (.int .i64 (0)))⟩])
  (.keep [1, 5, 6, 9, 10, 11] (.block 0 (.loop A.word_May.L0))))
  (.keep [] (.seq (.reg [⟨(some 4), none, .mv (.c (.bool true))⟩]) .ret)))))))⟩
def A.word_Apply_1 : AFn := ⟨12, [], (.seq (.reg [⟨(some 4), none, .load false 1 (.t 1)⟩, ⟨(some 5), none, .bin .add (.t 4) (.c (.int .i64 (1)))⟩, ⟨none, none, .store 1 (.t 1) (.t 5)⟩])
  (.keep [0, 1, 2] (.seq (.reg [⟨(some 6), none, .load false 1 (.t 1)⟩, ⟨(some 7), none, .bin .leq (.t 6) (.c (.int .i64 (24)))⟩])
  (.keep [0, 2, 7] (.cond (.t 7) (.reg [⟨(some 8), none, .load false 1 (.t 2)⟩, ⟨(some 9), none, .mv (.t 0)⟩, ⟨(some 10), none, .bsl 1 false [(.int .i64 (0))] 1 [(0, (.t 9))]⟩, ⟨(some 11), none, .app 1 8 (.t 8) (.t 10)⟩, ⟨none, none, .store 1 (.t 2) (.t 11)⟩]) .skip)))))⟩
def A.word_below.L0 : AC := .post (.seq (.reg [⟨(some 10), none, .bin .lss (.t 9) (.t 8)⟩])
  (.keep [1, 7, 8, 9, 10] (.seq (.cond (.t 10) .skip (.exit 0))
  (.keep [1, 7, 8, 9] (.seq (.block 1 (.seq (.reg [⟨(some 11), none, .ia 1 (.t 7) (.t 9)⟩, ⟨(some 12), none, .load false 1 (.t 11)⟩, ⟨(some 6), none, .mv (.t 12)⟩])
  (.keep [1, 6, 7, 8, 9] (.seq (.reg [⟨(some 13), none, .mv (.t 6)⟩, ⟨(some 14), none, .bin .lss (.t 13) (.c (.int .i64 (0)))⟩, ⟨(some 15), none, .mv (.t 14)⟩, ⟨(some 16), (some (15, false)), .mv (.t 6)⟩, ⟨(some 17), (some (15, false)), .mv (.t 1)⟩, ⟨(some 18), (some (15, false)), .bin .geq (.t 16) (.t 17)⟩, ⟨(some 19), none, .pick (.t 15) (.c (.bool true)) (.t 18)⟩])
  (.keep [1, 7, 8, 9, 19] (.cond (.t 19) (.seq (.reg [⟨(some 4), none, .mv (.c (.bool false))⟩]) .ret) .skip))))))
  (.keep [1, 7, 8, 9] (.reg [⟨(some 20), none, .bin .add (.t 9) (.c (.int .i64 (1)))⟩, ⟨(some 9), none, .mv (.t 20)⟩]))))))) [1, 7, 8, 9]
def A.word_below : AFn := ⟨21, [(4, none)], (.seq (.reg [⟨(some 4), none, .mv (.c (.bool false))⟩])
  (.keep [0, 1] (.seq (.seq (.reg [⟨(some 7), none, .mv (.t 0)⟩, ⟨(some 8), none, .len false (.t 7)⟩, ⟨(some 9), none, .mv (.c (.int .i64 (0)))⟩])
  (.keep [1, 7, 8, 9] (.block 0 (.loop A.word_below.L0))))
  (.keep [] (.seq (.reg [⟨(some 4), none, .mv (.c (.bool true))⟩]) .ret)))))⟩
def A.word_fine : AFn := ⟨48, [(8, none)], (.seq (.reg [⟨(some 4), none, .box (.t 0)⟩, ⟨(some 8), none, .mv (.c (.bool false))⟩])
  (.keep [1, 2, 3, 4] (.seq (.block 0 (.seq (.seq (.reg [⟨(some 10), none, .fa 0 (.t 4)⟩, ⟨(some 11), none, .load false 1 (.t 10)⟩, ⟨(some 12), none, .bin .lss (.t 11) (.c (.int .i64 (0)))⟩, ⟨(some 9), none, .mv (.t 12)⟩])
  (.keep [1, 2, 3, 4, 9] (.cond (.t 9) .skip (.seq (.reg [⟨(some 13), none, .fa 0 (.t 4)⟩, ⟨(some 14), none, .load false 1 (.t 13)⟩, ⟨(some 15), none, .mv (.t 3)⟩, ⟨(some 16), none, .bin .gtr (.t 14) (.t 15)⟩, ⟨(some 9), none, .mv (.t 16)⟩])
  (.keep [1, 2, 3, 4, 9] (.cond (.t 9) .skip (.seq (.reg [⟨(some 17), none, .fa 0 (.t 4)⟩, ⟨(some 18), none, .load false 1 (.t 17)⟩, ⟨(some 19), none, .mv (.t 1)⟩, ⟨(some 20), none, .bin .lss (.t 18) (.t 19)⟩, ⟨(some 9), none, .mv (.t 20)⟩])
  (.keep [1, 2, 3, 4, 9] (.cond (.t 9) .skip (.reg [⟨(some 21), none, .mv (.t 2)⟩, ⟨(some 22), none, .mv (.t 21)⟩, ⟨(some 23), (some (22, true)), .fa 0 (.t 4)⟩, ⟨(some 24), (some (22, true)), .load false 1 (.t 23)⟩, ⟨(some 25), (some (22, true)), .mv (.t 1)⟩, ⟨(some 26), (some (22, true)), .bin .eql (.t 24) (.t 25)⟩, ⟨(some 27), none, .pick (.t 22) (.t 26) (.c (.bool false))⟩, ⟨(some 9), none, .mv (.t 27)⟩]))))))))))
  (.keep [3, 4, 9] (.cond (.t 9) (.seq (.reg [⟨(some 8), none, .mv (.c (.bool false))⟩]) .ret) (.seq (.reg [⟨(some 29), none, .fa 1 (.t 4)⟩, ⟨(some 30), none, .load false 1 (.t 29)⟩, ⟨(some 28), none, .mv (.t 30)⟩])
  (.keep [3, 4, 28] (.cond (.t 28) (.seq (.reg [⟨(some 31), none, .fa 0 (.t 4)⟩, ⟨(some 32), none, .load false 1 (.t 31)⟩, ⟨(some 33), none, .mv (.t 3)⟩, ⟨(some 34), none, .bin .lss (.t 32) (.t 33)⟩, ⟨(some 35), none, .mv (.t 34)⟩, ⟨(some 36), (some (35, true)), .fa 2 (.t 4)⟩, ⟨(some 37), (some (35, true)), .load false 1 (.t 36)⟩, ⟨(some 38), (some (35, true)), .bin .eql (.t 37) (.c (.int .i64 (0)))⟩, ⟨(some 39), none, .pick (.t 35) (.t 38) (.c (.bool false))⟩, ⟨(some 8), none, .mv (.t 39)⟩]) .ret) .skip)))))))
  (.keep [4] (.seq (.reg [⟨(some 40), none, .fa 2 (.t 4)⟩, ⟨(some 41), none, .load false 1 (.t 40)⟩, ⟨(some 42), none, .bin .geq (.t 41) (.c (.int .i64 (0)))⟩, ⟨(some 43), none, .mv (.t 42)⟩, ⟨(some 44), (some (43, true)), .fa 2 (.t 4)⟩, ⟨(some 45), (some (43, true)), .load false 1 (.t 44)⟩, ⟨(some 46), (some (43, true)), .bin .lss (.t 45) (.c (.int .i64 (16)))⟩, ⟨(some 47), none, .pick (.t 43) (.t 46) (.c (.bool false))⟩, ⟨(some 8), none, .mv (.t 47)⟩]) .ret)))))⟩
end Go.Proofs.Ytbbmglginkabfaa.Al
