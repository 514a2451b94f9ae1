/-
  The functions of lib as abstract code, written by a program of this claim (gen.py). Conditions: none.
-/
import Derived.Test.YtbbmglginkabfaaAlKeys
namespace Go.Proofs.Ytbbmglginkabfaa.Al
def A.slices_Clone_byte : AFn := ⟨8, [(2, none)], (.seq (.reg [⟨(some 2), none, .mv (.c (.sl 0 1 []))⟩])
  (.keep [0] (.seq (.seq (.reg [⟨(some 3), none, .mv (.t 0)⟩, ⟨(some 4), none, .isnil false false (.t 3)⟩])
  (.keep [0, 4] (.cond (.t 4) (.seq (.reg [⟨(some 2), none, .mv (.c (.sl 0 1 []))⟩]) .ret) .skip)))
  (.keep [0] (.seq (.reg [⟨(some 5), none, .bsl 1 false [(.int .u8 (0))] 0 []⟩, ⟨(some 6), none, .mv (.t 0)⟩, ⟨(some 7), none, .app 1 1 (.t 5) (.t 6)⟩, ⟨(some 2), none, .mv (.t 7)⟩]) .ret)))))⟩
def A.slices_ContainsFunc_Prod : AFn := ⟨9, [(4, none)], (.seq (.reg [⟨(some 4), none, .mv (.c (.bool false))⟩])
  (.keep [0, 1] (.seq (.reg [⟨(some 5), none, .mv (.t 0)⟩, ⟨(some 6), none, .mv (.t 1)⟩, ⟨(some 7), none, .call (.c (.fn K.slices_IndexFunc_Prod [] [])) [(.t 5), (.t 6)]⟩, ⟨(some 8), none, .bin .geq (.t 7) (.c (.int .i64 (0)))⟩, ⟨(some 4), none, .mv (.t 8)⟩]) .ret)))⟩
def A.slices_EqualFunc_Prod.L0 : AC := .post (.seq (.reg [⟨(some 18), none, .bin .lss (.t 17) (.t 16)⟩])
  (.keep [1, 2, 15, 16, 17, 18] (.seq (.cond (.t 18) .skip (.exit 0))
  (.keep [1, 2, 15, 16, 17] (.seq (.block 1 (.seq (.reg [⟨(some 19), none, .mv (.t 17)⟩, ⟨(some 20), none, .ia 2 (.t 15) (.t 17)⟩, ⟨(some 21), none, .load true 2 (.t 20)⟩, ⟨(some 8), none, .alloc [(.int .i64 (0)), (.sl 0 1 [])]⟩, ⟨(some 7), none, .mv (.t 19)⟩, ⟨none, none, .store 2 (.t 8) (.t 21)⟩])
  (.keep [1, 2, 7, 8, 15, 16, 17] (.seq (.reg [⟨(some 22), none, .mv (.t 1)⟩, ⟨(some 23), none, .mv (.t 7)⟩, ⟨(some 24), none, .ia 2 (.t 22) (.t 23)⟩, ⟨(some 25), none, .load true 2 (.t 24)⟩, ⟨(some 9), none, .alloc [(.int .i64 (0)), (.sl 0 1 [])]⟩, ⟨none, none, .store 2 (.t 9) (.t 25)⟩])
  (.keep [1, 2, 8, 9, 15, 16, 17] (.seq (.reg [⟨(some 26), none, .mv (.t 2)⟩, ⟨(some 27), none, .load true 2 (.t 8)⟩, ⟨(some 28), none, .load true 2 (.t 9)⟩, ⟨(some 29), none, .call (.t 26) [(.t 27), (.t 28)]⟩, ⟨(some 30), none, .un .not (.t 29)⟩])
  (.keep [1, 2, 15, 16, 17, 30] (.cond (.t 30) (.seq (.reg [⟨(some 6), none, .mv (.c (.bool false))⟩]) .ret) .skip))))))))
  (.keep [1, 2, 15, 16, 17] (.reg [⟨(some 31), none, .bin .add (.t 17) (.c (.int .i64 (1)))⟩, ⟨(some 17), none, .mv (.t 31)⟩]))))))) [1, 2, 15, 16, 17]
def A.slices_EqualFunc_Prod : AFn := ⟨32, [(6, none)], (.seq (.reg [⟨(some 6), none, .mv (.c (.bool false))⟩])
  (.keep [0, 1, 2] (.seq (.seq (.reg [⟨(some 10), none, .mv (.t 0)⟩, ⟨(some 11), none, .len false (.t 10)⟩, ⟨(some 12), none, .mv (.t 1)⟩, ⟨(some 13), none, .len false (.t 12)⟩, ⟨(some 14), none, .bin .neq (.t 11) (.t 13)⟩])
  (.keep [0, 1, 2, 14] (.cond (.t 14) (.seq (.reg [⟨(some 6), none, .mv (.c (.bool false))⟩]) .ret) .skip)))
  (.keep [0, 1, 2] (.seq (.seq (.reg [⟨(some 15), none, .mv (.t 0)⟩, ⟨(some 16), none, .len false (.t 15)⟩, ⟨(some 17), none, .mv (.c (.int .i64 (0)))⟩])
  (.keep [1, 2, 15, 16, 17] (.block 0 (.loop A.slices_EqualFunc_Prod.L0))))
  (.keep [] (.seq (.reg [⟨(some 6), none, .mv (.c (.bool true))⟩]) .ret)))))))⟩
def A.slices_Clone_Sym : AFn := ⟨8, [(2, none)], (.seq (.reg [⟨(some 2), none, .mv (.c (.sl 0 1 []))⟩])
  (.keep [0] (.seq (.seq (.reg [⟨(some 3), none, .mv (.t 0)⟩, ⟨(some 4), none, .isnil false false (.t 3)⟩])
  (.keep [0, 4] (.cond (.t 4) (.seq (.reg [⟨(some 2), none, .mv (.c (.sl 0 1 []))⟩]) .ret) .skip)))
  (.keep [0] (.seq (.reg [⟨(some 5), none, .bsl 2 true [(.bool false), (.int .i64 (0))] 0 []⟩, ⟨(some 6), none, .mv (.t 0)⟩, ⟨(some 7), none, .app 2 16 (.t 5) (.t 6)⟩, ⟨(some 2), none, .mv (.t 7)⟩]) .ret)))))⟩
def A.strings_Cut : AFn := ⟨13, [(4, none), (5, none), (6, none)], (.seq (.reg [⟨(some 4), none, .mv (.c (.str []))⟩, ⟨(some 5), none, .mv (.c (.str []))⟩, ⟨(some 6), none, .mv (.c (.bool false))⟩])
  (.keep [0, 1] (.seq (.reg [⟨(some 7), none, .mv (.t 0)⟩, ⟨(some 8), none, .mv (.t 1)⟩, ⟨(some 9), none, .call (.c (.fn K.stringslite_Cut [] [])) [(.t 7), (.t 8)]⟩, ⟨(some 10), none, .ext (.t 9) 0⟩, ⟨(some 11), none, .ext (.t 9) 1⟩, ⟨(some 12), none, .ext (.t 9) 2⟩, ⟨(some 4), none, .mv (.t 10)⟩, ⟨(some 5), none, .mv (.t 11)⟩, ⟨(some 6), none, .mv (.t 12)⟩]) .ret)))⟩
def A.strings_IndexByte : AFn := ⟨8, [(4, none)], (.seq (.reg [⟨(some 4), none, .mv (.c (.int .i64 (0)))⟩])
  (.keep [0, 1] (.seq (.reg [⟨(some 5), none, .mv (.t 0)⟩, ⟨(some 6), none, .mv (.t 1)⟩, ⟨(some 7), none, .call (.c (.fn K.stringslite_IndexByte [] [])) [(.t 5), (.t 6)]⟩, ⟨(some 4), none, .mv (.t 7)⟩]) .ret)))⟩
def A.slices_IndexFunc_Prod.L0 : AC := .post (.seq (.reg [⟨(some 9), none, .bin .lss (.t 8) (.t 7)⟩])
  (.keep [0, 1, 7, 8, 9] (.seq (.cond (.t 9) .skip (.exit 0))
  (.keep [0, 1, 7, 8] (.seq (.block 1 (.seq (.reg [⟨(some 10), none, .mv (.t 8)⟩, ⟨(some 5), none, .mv (.t 10)⟩])
  (.keep [0, 1, 5, 7, 8] (.seq (.reg [⟨(some 11), none, .mv (.t 1)⟩, ⟨(some 12), none, .mv (.t 0)⟩, ⟨(some 13), none, .mv (.t 5)⟩, ⟨(some 14), none, .ia 2 (.t 12) (.t 13)⟩, ⟨(some 15), none, .load true 2 (.t 14)⟩, ⟨(some 16), none, .call (.t 11) [(.t 15)]⟩])
  (.keep [0, 1, 5, 7, 8, 16] (.cond (.t 16) (.seq (.reg [⟨(some 17), none, .mv (.t 5)⟩, ⟨(some 4), none, .mv (.t 17)⟩]) .ret) .skip))))))
  (.keep [0, 1, 7, 8] (.reg [⟨(some 18), none, .bin .add (.t 8) (.c (.int .i64 (1)))⟩, ⟨(some 8), none, .mv (.t 18)⟩]))))))) [0, 1, 7, 8]
def A.slices_IndexFunc_Prod : AFn := ⟨19, [(4, none)], (.seq (.reg [⟨(some 4), none, .mv (.c (.int .i64 (0)))⟩])
  (.keep [0, 1] (.seq (.seq (.reg [⟨(some 6), none, .mv (.t 0)⟩, ⟨(some 7), none, .len false (.t 6)⟩, ⟨(some 8), none, .mv (.c (.int .i64 (0)))⟩])
  (.keep [0, 1, 7, 8] (.block 0 (.loop A.slices_IndexFunc_Prod.L0))))
  (.keep [] (.seq (.reg [⟨(some 4), none, .mv (.c (.int .i64 (-1)))⟩]) .ret)))))⟩
def A.slices_ContainsFunc_Sym : AFn := ⟨9, [(4, none)], (.seq (.reg [⟨(some 4), none, .mv (.c (.bool false))⟩])
  (.keep [0, 1] (.seq (.reg [⟨(some 5), none, .mv (.t 0)⟩, ⟨(some 6), none, .mv (.t 1)⟩, ⟨(some 7), none, .call (.c (.fn K.slices_IndexFunc_Sym [] [])) [(.t 5), (.t 6)]⟩, ⟨(some 8), none, .bin .geq (.t 7) (.c (.int .i64 (0)))⟩, ⟨(some 4), none, .mv (.t 8)⟩]) .ret)))⟩
def A.slices_Equal_Sym.L0 : AC := .post (.seq (.reg [⟨(some 14), none, .bin .lss (.t 13) (.t 12)⟩])
  (.keep [0, 1, 12, 13, 14] (.seq (.cond (.t 14) .skip (.exit 0))
  (.keep [0, 1, 12, 13] (.seq (.block 1 (.seq (.reg [⟨(some 15), none, .mv (.t 13)⟩, ⟨(some 5), none, .mv (.t 15)⟩])
  (.keep [0, 1, 5, 12, 13] (.seq (.draw [(.pl, ⟨(some 16), none, .mv (.t 0)⟩), (.pl, ⟨(some 17), none, .mv (.t 5)⟩), (.pl, ⟨(some 18), none, .ia 2 (.t 16) (.t 17)⟩), (.pl, ⟨(some 19), none, .load true 2 (.t 18)⟩), (.pl, ⟨(some 20), none, .mv (.t 1)⟩), (.pl, ⟨(some 21), none, .mv (.t 5)⟩), (.pl, ⟨(some 22), none, .ia 2 (.t 20) (.t 21)⟩), (.pl, ⟨(some 23), none, .load true 2 (.t 22)⟩), (.pl, ⟨(some 24), none, .eqs true [(.b, 0), (.i, 1)] (.t 19) (.t 23)⟩)])
  (.keep [0, 1, 12, 13, 24] (.cond (.t 24) (.seq (.reg [⟨(some 4), none, .mv (.c (.bool false))⟩]) .ret) .skip))))))
  (.keep [0, 1, 12, 13] (.reg [⟨(some 25), none, .bin .add (.t 13) (.c (.int .i64 (1)))⟩, ⟨(some 13), none, .mv (.t 25)⟩]))))))) [0, 1, 12, 13]
def A.slices_Equal_Sym : AFn := ⟨26, [(4, none)], (.seq (.reg [⟨(some 4), none, .mv (.c (.bool false))⟩])
  (.keep [0, 1] (.seq (.seq (.reg [⟨(some 6), none, .mv (.t 0)⟩, ⟨(some 7), none, .len false (.t 6)⟩, ⟨(some 8), none, .mv (.t 1)⟩, ⟨(some 9), none, .len false (.t 8)⟩, ⟨(some 10), none, .bin .neq (.t 7) (.t 9)⟩])
  (.keep [0, 1, 10] (.cond (.t 10) (.seq (.reg [⟨(some 4), none, .mv (.c (.bool false))⟩]) .ret) .skip)))
  (.keep [0, 1] (.seq (.seq (.reg [⟨(some 11), none, .mv (.t 0)⟩, ⟨(some 12), none, .len false (.t 11)⟩, ⟨(some 13), none, .mv (.c (.int .i64 (0)))⟩])
  (.keep [0, 1, 12, 13] (.block 0 (.loop A.slices_Equal_Sym.L0))))
  (.keep [] (.seq (.reg [⟨(some 4), none, .mv (.c (.bool true))⟩]) .ret)))))))⟩
def A.stringslite_Cut : AFn := ⟨23, [(4, none), (5, none), (6, none)], (.seq (.reg [⟨(some 4), none, .mv (.c (.str []))⟩, ⟨(some 5), none, .mv (.c (.str []))⟩, ⟨(some 6), none, .mv (.c (.bool false))⟩])
  (.keep [0, 1] (.seq (.seq (.reg [⟨(some 8), none, .mv (.t 0)⟩, ⟨(some 9), none, .mv (.t 1)⟩, ⟨(some 10), none, .call (.c (.fn K.stringslite_Index [] [])) [(.t 8), (.t 9)]⟩, ⟨(some 7), none, .mv (.t 10)⟩])
  (.keep [0, 1, 7] (.seq (.reg [⟨(some 11), none, .mv (.t 7)⟩, ⟨(some 12), none, .bin .geq (.t 11) (.c (.int .i64 (0)))⟩])
  (.keep [0, 1, 7, 12] (.cond (.t 12) (.seq (.draw [(.pl, ⟨(some 13), none, .mv (.t 0)⟩), (.pl, ⟨(some 14), none, .mv (.t 7)⟩), (.pl, ⟨(some 15), none, .slcs (.t 13) none (some (.t 14))⟩), (.pl, ⟨(some 16), none, .mv (.t 0)⟩), (.pl, ⟨(some 17), none, .mv (.t 7)⟩), (.pl, ⟨(some 18), none, .mv (.t 1)⟩), (.pl, ⟨(some 19), none, .len true (.t 18)⟩), (.pl, ⟨(some 20), none, .bin .add (.t 17) (.t 19)⟩), (.pl, ⟨(some 21), none, .slcs (.t 16) (some (.t 20)) none⟩), (.pl, ⟨(some 4), none, .mv (.t 15)⟩), (.pl, ⟨(some 5), none, .mv (.t 21)⟩), (.pl, ⟨(some 6), none, .mv (.c (.bool true))⟩)]) .ret) .skip)))))
  (.keep [0] (.seq (.reg [⟨(some 22), none, .mv (.t 0)⟩, ⟨(some 4), none, .mv (.t 22)⟩, ⟨(some 5), none, .mv (.c (.str []))⟩, ⟨(some 6), none, .mv (.c (.bool false))⟩]) .ret)))))⟩
def A.stringslite_IndexByte : AFn := ⟨8, [(4, none)], (.seq (.reg [⟨(some 4), none, .mv (.c (.int .i64 (0)))⟩])
  (.keep [0, 1] (.seq (.reg [⟨(some 5), none, .mv (.t 0)⟩, ⟨(some 6), none, .mv (.t 1)⟩, ⟨(some 7), none, .call (.c (.fn K.bytealg_IndexByteString [] [])) [(.t 5), (.t 6)]⟩, ⟨(some 4), none, .mv (.t 7)⟩]) .ret)))⟩
def A.slices_IndexFunc_Sym.L0 : AC := .post (.seq (.reg [⟨(some 9), none, .bin .lss (.t 8) (.t 7)⟩])
  (.keep [0, 1, 7, 8, 9] (.seq (.cond (.t 9) .skip (.exit 0))
  (.keep [0, 1, 7, 8] (.seq (.block 1 (.seq (.reg [⟨(some 10), none, .mv (.t 8)⟩, ⟨(some 5), none, .mv (.t 10)⟩])
  (.keep [0, 1, 5, 7, 8] (.seq (.reg [⟨(some 11), none, .mv (.t 1)⟩, ⟨(some 12), none, .mv (.t 0)⟩, ⟨(some 13), none, .mv (.t 5)⟩, ⟨(some 14), none, .ia 2 (.t 12) (.t 13)⟩, ⟨(some 15), none, .load true 2 (.t 14)⟩, ⟨(some 16), none, .call (.t 11) [(.t 15)]⟩])
  (.keep [0, 1, 5, 7, 8, 16] (.cond (.t 16) (.seq (.reg [⟨(some 17), none, .mv (.t 5)⟩, ⟨(some 4), none, .mv (.t 17)⟩]) .ret) .skip))))))
  (.keep [0, 1, 7, 8] (.reg [⟨(some 18), none, .bin .add (.t 8) (.c (.int .i64 (1)))⟩, ⟨(some 8), none, .mv (.t 18)⟩]))))))) [0, 1, 7, 8]
def A.slices_IndexFunc_Sym : AFn := ⟨19, [(4, none)], (.seq (.reg [⟨(some 4), none, .mv (.c (.int .i64 (0)))⟩])
  (.keep [0, 1] (.seq (.seq (.reg [⟨(some 6), none, .mv (.t 0)⟩, ⟨(some 7), none, .len false (.t 6)⟩, ⟨(some 8), none, .mv (.c (.int .i64 (0)))⟩])
  (.keep [0, 1, 7, 8] (.block 0 (.loop A.slices_IndexFunc_Sym.L0))))
  (.keep [] (.seq (.reg [⟨(some 4), none, .mv (.c (.int .i64 (-1)))⟩]) .ret)))))⟩
def A.stringslite_Index.L0 : AC := .post (.seq (.seq (.reg [⟨(some 57), none, .mv (.t 8)⟩, ⟨(some 58), none, .mv (.t 9)⟩, ⟨(some 59), none, .bin .lss (.t 57) (.t 58)⟩])
  (.keep [0, 1, 5, 6, 7, 8, 9, 10, 59] (.cond (.t 59) .skip (.exit 1))))
  (.keep [0, 1, 5, 6, 7, 8, 9, 10] (.block 2 (.seq (.seq (.reg [⟨(some 60), none, .mv (.t 0)⟩, ⟨(some 61), none, .mv (.t 8)⟩, ⟨(some 62), none, .ixs (.t 60) (.t 61)⟩, ⟨(some 63), none, .mv (.t 6)⟩, ⟨(some 64), none, .bin .neq (.t 62) (.t 63)⟩])
  (.keep [0, 1, 5, 6, 7, 8, 9, 10, 64] (.cond (.t 64) (.seq (.reg [⟨(some 65), none, .mv (.t 0)⟩, ⟨(some 66), none, .mv (.t 8)⟩, ⟨(some 67), none, .bin .add (.t 66) (.c (.int .i64 (1)))⟩, ⟨(some 68), none, .mv (.t 9)⟩, ⟨(some 69), none, .slcs (.t 65) (some (.t 67)) (some (.t 68))⟩, ⟨(some 70), none, .mv (.t 6)⟩, ⟨(some 71), none, .call (.c (.fn K.stringslite_IndexByte [] [])) [(.t 69), (.t 70)]⟩, ⟨(some 11), none, .mv (.t 71)⟩])
  (.keep [0, 1, 5, 6, 7, 8, 9, 10, 11] (.seq (.seq (.reg [⟨(some 72), none, .mv (.t 11)⟩, ⟨(some 73), none, .bin .lss (.t 72) (.c (.int .i64 (0)))⟩])
  (.keep [0, 1, 5, 6, 7, 8, 9, 10, 11, 73] (.cond (.t 73) (.seq (.reg [⟨(some 4), none, .mv (.c (.int .i64 (-1)))⟩]) .ret) .skip)))
  (.keep [0, 1, 5, 6, 7, 8, 9, 10, 11] (.reg [⟨(some 74), none, .mv (.t 8)⟩, ⟨(some 75), none, .mv (.t 11)⟩, ⟨(some 76), none, .bin .add (.t 75) (.c (.int .i64 (1)))⟩, ⟨(some 77), none, .bin .add (.t 74) (.t 76)⟩, ⟨(some 8), none, .mv (.t 77)⟩]))))) .skip)))
  (.keep [0, 1, 5, 6, 7, 8, 9, 10] (.seq (.seq (.reg [⟨(some 78), none, .mv (.t 0)⟩, ⟨(some 79), none, .mv (.t 8)⟩, ⟨(some 80), none, .bin .add (.t 79) (.c (.int .i64 (1)))⟩, ⟨(some 81), none, .ixs (.t 78) (.t 80)⟩, ⟨(some 82), none, .mv (.t 7)⟩, ⟨(some 83), none, .bin .eql (.t 81) (.t 82)⟩, ⟨(some 84), none, .mv (.t 83)⟩, ⟨(some 85), (some (84, true)), .mv (.t 0)⟩, ⟨(some 86), (some (84, true)), .mv (.t 8)⟩, ⟨(some 87), (some (84, true)), .mv (.t 8)⟩, ⟨(some 88), (some (84, true)), .mv (.t 5)⟩, ⟨(some 89), (some (84, true)), .bin .add (.t 87) (.t 88)⟩, ⟨(some 90), (some (84, true)), .slcs (.t 85) (some (.t 86)) (some (.t 89))⟩, ⟨(some 91), (some (84, true)), .mv (.t 1)⟩, ⟨(some 92), (some (84, true)), .bin .eql (.t 90) (.t 91)⟩, ⟨(some 93), none, .pick (.t 84) (.t 92) (.c (.bool false))⟩])
  (.keep [0, 1, 5, 6, 7, 8, 9, 10, 93] (.cond (.t 93) (.seq (.reg [⟨(some 94), none, .mv (.t 8)⟩, ⟨(some 4), none, .mv (.t 94)⟩]) .ret) .skip)))
  (.keep [0, 1, 5, 6, 7, 8, 9, 10] (.seq (.reg [⟨(some 95), none, .mv (.t 8)⟩, ⟨(some 96), none, .bin .add (.t 95) (.c (.int .i64 (1)))⟩, ⟨(some 8), none, .mv (.t 96)⟩])
  (.keep [0, 1, 5, 6, 7, 8, 9, 10] (.seq (.reg [⟨(some 97), none, .mv (.t 10)⟩, ⟨(some 98), none, .bin .add (.t 97) (.c (.int .i64 (1)))⟩, ⟨(some 10), none, .mv (.t 98)⟩])
  (.keep [0, 1, 5, 6, 7, 8, 9, 10] (.seq (.reg [⟨(some 99), none, .mv (.t 5)⟩, ⟨(some 100), none, .load false 1 (.c .undef)⟩, ⟨(some 101), none, .bin .leq (.t 99) (.t 100)⟩, ⟨(some 102), none, .mv (.t 101)⟩, ⟨(some 103), (some (102, true)), .mv (.t 10)⟩, ⟨(some 104), (some (102, true)), .mv (.t 8)⟩, ⟨(some 105), (some (102, true)), .call (.c (.fn K.bytealg_Cutover [] [])) [(.t 104)]⟩, ⟨(some 106), (some (102, true)), .bin .gtr (.t 103) (.t 105)⟩, ⟨(some 107), none, .pick (.t 102) (.t 106) (.c (.bool false))⟩])
  (.keep [0, 1, 5, 6, 7, 8, 9, 10, 107] (.cond (.t 107) (.seq (.reg [⟨(some 108), none, .mv (.t 0)⟩, ⟨(some 109), none, .mv (.t 8)⟩, ⟨(some 110), none, .slcs (.t 108) (some (.t 109)) none⟩, ⟨(some 111), none, .mv (.t 1)⟩, ⟨(some 112), none, .call (.c (.fn K.bytealg_IndexString [] [])) [(.t 110), (.t 111)]⟩, ⟨(some 12), none, .mv (.t 112)⟩])
  (.keep [8, 12] (.seq (.seq (.reg [⟨(some 113), none, .mv (.t 12)⟩, ⟨(some 114), none, .bin .geq (.t 113) (.c (.int .i64 (0)))⟩])
  (.keep [8, 12, 114] (.cond (.t 114) (.seq (.reg [⟨(some 115), none, .mv (.t 12)⟩, ⟨(some 116), none, .mv (.t 8)⟩, ⟨(some 117), none, .bin .add (.t 115) (.t 116)⟩, ⟨(some 4), none, .mv (.t 117)⟩]) .ret) .skip)))
  (.keep [] (.seq (.reg [⟨(some 4), none, .mv (.c (.int .i64 (-1)))⟩]) .ret))))) (.seq (.reg [⟨(some 118), none, .mv (.t 5)⟩, ⟨(some 119), none, .load false 1 (.c .undef)⟩, ⟨(some 120), none, .bin .gtr (.t 118) (.t 119)⟩, ⟨(some 121), none, .mv (.t 120)⟩, ⟨(some 122), (some (121, true)), .mv (.t 10)⟩, ⟨(some 123), (some (121, true)), .mv (.t 8)⟩, ⟨(some 124), (some (121, true)), .bin .shr (.t 123) (.c (.int .u64 (4)))⟩, ⟨(some 125), (some (121, true)), .bin .add (.c (.int .i64 (4))) (.t 124)⟩, ⟨(some 126), (some (121, true)), .bin .geq (.t 122) (.t 125)⟩, ⟨(some 127), none, .pick (.t 121) (.t 126) (.c (.bool false))⟩, ⟨(some 128), none, .mv (.t 127)⟩, ⟨(some 129), (some (128, true)), .mv (.t 8)⟩, ⟨(some 130), (some (128, true)), .mv (.t 9)⟩, ⟨(some 131), (some (128, true)), .bin .lss (.t 129) (.t 130)⟩, ⟨(some 132), none, .pick (.t 128) (.t 131) (.c (.bool false))⟩])
  (.keep [0, 1, 5, 6, 7, 8, 9, 10, 132] (.cond (.t 132) (.seq (.reg [⟨(some 133), none, .mv (.t 0)⟩, ⟨(some 134), none, .mv (.t 8)⟩, ⟨(some 135), none, .slcs (.t 133) (some (.t 134)) none⟩, ⟨(some 136), none, .mv (.t 1)⟩, ⟨(some 137), none, .call (.c (.fn K.bytealg_IndexRabinKarp_string [] [])) [(.t 135), (.t 136)]⟩, ⟨(some 13), none, .mv (.t 137)⟩])
  (.keep [8, 13] (.seq (.seq (.reg [⟨(some 138), none, .mv (.t 13)⟩, ⟨(some 139), none, .bin .lss (.t 138) (.c (.int .i64 (0)))⟩])
  (.keep [8, 13, 139] (.cond (.t 139) (.seq (.reg [⟨(some 4), none, .mv (.c (.int .i64 (-1)))⟩]) .ret) .skip)))
  (.keep [8, 13] (.seq (.reg [⟨(some 140), none, .mv (.t 8)⟩, ⟨(some 141), none, .mv (.t 13)⟩, ⟨(some 142), none, .bin .add (.t 140) (.t 141)⟩, ⟨(some 4), none, .mv (.t 142)⟩]) .ret))))) .skip))))))))))))))))) [0, 1, 5, 6, 7, 8, 9, 10]
def A.stringslite_Index : AFn := ⟨143, [(4, none)], (.seq (.reg [⟨(some 4), none, .mv (.c (.int .i64 (0)))⟩])
  (.keep [0, 1] (.seq (.reg [⟨(some 14), none, .mv (.t 1)⟩, ⟨(some 15), none, .len true (.t 14)⟩, ⟨(some 5), none, .mv (.t 15)⟩])
  (.keep [0, 1, 5] (.seq (.block 0 (.seq (.reg [⟨(some 17), none, .mv (.t 5)⟩, ⟨(some 18), none, .bin .eql (.t 17) (.c (.int .i64 (0)))⟩, ⟨(some 19), none, .mv (.t 18)⟩, ⟨(some 20), (some (19, false)), .mv (.t 1)⟩, ⟨(some 21), (some (19, false)), .mv (.t 0)⟩, ⟨(some 22), (some (19, false)), .bin .eql (.t 20) (.t 21)⟩, ⟨(some 23), none, .pick (.t 19) (.c (.bool true)) (.t 22)⟩, ⟨(some 16), none, .mv (.t 23)⟩])
  (.keep [0, 1, 5, 16] (.cond (.t 16) (.seq (.reg [⟨(some 4), none, .mv (.c (.int .i64 (0)))⟩]) .ret) (.seq (.reg [⟨(some 25), none, .mv (.t 5)⟩, ⟨(some 26), none, .bin .eql (.t 25) (.c (.int .i64 (1)))⟩, ⟨(some 24), none, .mv (.t 26)⟩])
  (.keep [0, 1, 5, 24] (.cond (.t 24) (.seq (.reg [⟨(some 27), none, .mv (.t 0)⟩, ⟨(some 28), none, .mv (.t 1)⟩, ⟨(some 29), none, .ixs (.t 28) (.c (.int .i64 (0)))⟩, ⟨(some 30), none, .call (.c (.fn K.stringslite_IndexByte [] [])) [(.t 27), (.t 29)]⟩, ⟨(some 4), none, .mv (.t 30)⟩]) .ret) (.seq (.reg [⟨(some 32), none, .mv (.t 5)⟩, ⟨(some 33), none, .mv (.t 0)⟩, ⟨(some 34), none, .len true (.t 33)⟩, ⟨(some 35), none, .bin .geq (.t 32) (.t 34)⟩, ⟨(some 31), none, .mv (.t 35)⟩])
  (.keep [0, 1, 5, 31] (.cond (.t 31) (.seq (.reg [⟨(some 4), none, .mv (.c (.int .i64 (-1)))⟩]) .ret) (.seq (.reg [⟨(some 37), none, .mv (.t 5)⟩, ⟨(some 38), none, .load false 1 (.c .undef)⟩, ⟨(some 39), none, .bin .leq (.t 37) (.t 38)⟩, ⟨(some 40), none, .mv (.t 39)⟩, ⟨(some 41), (some (40, true)), .mv (.t 0)⟩, ⟨(some 42), (some (40, true)), .len true (.t 41)⟩, ⟨(some 43), (some (40, true)), .bin .leq (.t 42) (.c (.int .i64 (64)))⟩, ⟨(some 44), none, .pick (.t 40) (.t 43) (.c (.bool false))⟩, ⟨(some 36), none, .mv (.t 44)⟩])
  (.keep [0, 1, 5, 36] (.cond (.t 36) (.seq (.reg [⟨(some 45), none, .mv (.t 0)⟩, ⟨(some 46), none, .mv (.t 1)⟩, ⟨(some 47), none, .call (.c (.fn K.bytealg_IndexString [] [])) [(.t 45), (.t 46)]⟩, ⟨(some 4), none, .mv (.t 47)⟩]) .ret) .skip)))))))))))))
  (.keep [0, 1, 5] (.seq (.reg [⟨(some 48), none, .mv (.t 1)⟩, ⟨(some 49), none, .ixs (.t 48) (.c (.int .i64 (0)))⟩, ⟨(some 6), none, .mv (.t 49)⟩])
  (.keep [0, 1, 5, 6] (.seq (.reg [⟨(some 50), none, .mv (.t 1)⟩, ⟨(some 51), none, .ixs (.t 50) (.c (.int .i64 (1)))⟩, ⟨(some 7), none, .mv (.t 51)⟩])
  (.keep [0, 1, 5, 6, 7] (.seq (.reg [⟨(some 8), none, .mv (.c (.int .i64 (0)))⟩])
  (.keep [0, 1, 5, 6, 7, 8] (.seq (.reg [⟨(some 52), none, .mv (.t 0)⟩, ⟨(some 53), none, .len true (.t 52)⟩, ⟨(some 54), none, .mv (.t 5)⟩, ⟨(some 55), none, .bin .sub (.t 53) (.t 54)⟩, ⟨(some 56), none, .bin .add (.t 55) (.c (.int .i64 (1)))⟩, ⟨(some 9), none, .mv (.t 56)⟩])
  (.keep [0, 1, 5, 6, 7, 8, 9] (.seq (.reg [⟨(some 10), none, .mv (.c (.int .i64 (0)))⟩])
  (.keep [0, 1, 5, 6, 7, 8, 9, 10] (.seq (.block 1 (.loop A.stringslite_Index.L0))
  (.keep [] (.seq (.reg [⟨(some 4), none, .mv (.c (.int .i64 (-1)))⟩]) .ret)))))))))))))))))))⟩
def A.bytealg_Cutover : AFn := ⟨6, [(2, none)], (.seq (.reg [⟨(some 2), none, .mv (.c (.int .i64 (0)))⟩])
  (.keep [0] (.seq (.reg [⟨(some 3), none, .mv (.t 0)⟩, ⟨(some 4), none, .bin .add (.t 3) (.c (.int .i64 (16)))⟩, ⟨(some 5), none, .bin .quo (.t 4) (.c (.int .i64 (8)))⟩, ⟨(some 2), none, .mv (.t 5)⟩]) .ret)))⟩
def A.bytealg_IndexRabinKarp_string.L0 : AC := .post (.seq (.seq (.reg [⟨(some 18), none, .mv (.t 9)⟩, ⟨(some 19), none, .mv (.t 7)⟩, ⟨(some 20), none, .bin .lss (.t 18) (.t 19)⟩])
  (.keep [0, 1, 5, 6, 7, 8, 9, 20] (.cond (.t 20) .skip (.exit 0))))
  (.keep [0, 1, 5, 6, 7, 8, 9] (.seq (.block 1 (.reg [⟨(some 23), none, .mv (.t 8)⟩, ⟨(some 24), none, .bin .mul (.t 23) (.c (.int .u32 (16777619)))⟩, ⟨(some 25), none, .mv (.t 0)⟩, ⟨(some 26), none, .mv (.t 9)⟩, ⟨(some 27), none, .ixs (.t 25) (.t 26)⟩, ⟨(some 28), none, .conv .u32 (.t 27)⟩, ⟨(some 29), none, .bin .add (.t 24) (.t 28)⟩, ⟨(some 8), none, .mv (.t 29)⟩]))
  (.keep [0, 1, 5, 6, 7, 8, 9] (.reg [⟨(some 21), none, .mv (.t 9)⟩, ⟨(some 22), none, .bin .add (.t 21) (.c (.int .i64 (1)))⟩, ⟨(some 9), none, .mv (.t 22)⟩]))))) [0, 1, 5, 6, 7, 8, 9]
def A.bytealg_IndexRabinKarp_string.L1 : AC := .post (.seq (.seq (.reg [⟨(some 41), none, .mv (.t 10)⟩, ⟨(some 42), none, .mv (.t 0)⟩, ⟨(some 43), none, .len true (.t 42)⟩, ⟨(some 44), none, .bin .lss (.t 41) (.t 43)⟩])
  (.keep [0, 1, 5, 6, 7, 8, 10, 44] (.cond (.t 44) .skip (.exit 2))))
  (.keep [0, 1, 5, 6, 7, 8, 10] (.block 3 (.seq (.reg [⟨(some 45), none, .mv (.t 8)⟩, ⟨(some 46), none, .bin .mul (.t 45) (.c (.int .u32 (16777619)))⟩, ⟨(some 8), none, .mv (.t 46)⟩])
  (.keep [0, 1, 5, 6, 7, 8, 10] (.seq (.reg [⟨(some 47), none, .mv (.t 8)⟩, ⟨(some 48), none, .mv (.t 0)⟩, ⟨(some 49), none, .mv (.t 10)⟩, ⟨(some 50), none, .ixs (.t 48) (.t 49)⟩, ⟨(some 51), none, .conv .u32 (.t 50)⟩, ⟨(some 52), none, .bin .add (.t 47) (.t 51)⟩, ⟨(some 8), none, .mv (.t 52)⟩])
  (.keep [0, 1, 5, 6, 7, 8, 10] (.seq (.reg [⟨(some 53), none, .mv (.t 8)⟩, ⟨(some 54), none, .mv (.t 6)⟩, ⟨(some 55), none, .mv (.t 0)⟩, ⟨(some 56), none, .mv (.t 10)⟩, ⟨(some 57), none, .mv (.t 7)⟩, ⟨(some 58), none, .bin .sub (.t 56) (.t 57)⟩, ⟨(some 59), none, .ixs (.t 55) (.t 58)⟩, ⟨(some 60), none, .conv .u32 (.t 59)⟩, ⟨(some 61), none, .bin .mul (.t 54) (.t 60)⟩, ⟨(some 62), none, .bin .sub (.t 53) (.t 61)⟩, ⟨(some 8), none, .mv (.t 62)⟩])
  (.keep [0, 1, 5, 6, 7, 8, 10] (.seq (.reg [⟨(some 63), none, .mv (.t 10)⟩, ⟨(some 64), none, .bin .add (.t 63) (.c (.int .i64 (1)))⟩, ⟨(some 10), none, .mv (.t 64)⟩])
  (.keep [0, 1, 5, 6, 7, 8, 10] (.seq (.reg [⟨(some 65), none, .mv (.t 8)⟩, ⟨(some 66), none, .mv (.t 5)⟩, ⟨(some 67), none, .bin .eql (.t 65) (.t 66)⟩, ⟨(some 68), none, .mv (.t 67)⟩, ⟨(some 69), (some (68, true)), .mv (.t 0)⟩, ⟨(some 70), (some (68, true)), .mv (.t 10)⟩, ⟨(some 71), (some (68, true)), .mv (.t 7)⟩, ⟨(some 72), (some (68, true)), .bin .sub (.t 70) (.t 71)⟩, ⟨(some 73), (some (68, true)), .mv (.t 10)⟩, ⟨(some 74), (some (68, true)), .slcs (.t 69) (some (.t 72)) (some (.t 73))⟩, ⟨(some 75), (some (68, true)), .mv (.t 1)⟩, ⟨(some 76), (some (68, true)), .bin .eql (.t 74) (.t 75)⟩, ⟨(some 77), none, .pick (.t 68) (.t 76) (.c (.bool false))⟩])
  (.keep [0, 1, 5, 6, 7, 8, 10, 77] (.cond (.t 77) (.seq (.reg [⟨(some 78), none, .mv (.t 10)⟩, ⟨(some 79), none, .mv (.t 7)⟩, ⟨(some 80), none, .bin .sub (.t 78) (.t 79)⟩, ⟨(some 4), none, .mv (.t 80)⟩]) .ret) .skip)))))))))))))) [0, 1, 5, 6, 7, 8, 10]
def A.bytealg_IndexRabinKarp_string : AFn := ⟨81, [(4, none)], (.seq (.reg [⟨(some 4), none, .mv (.c (.int .i64 (0)))⟩])
  (.keep [0, 1] (.seq (.reg [⟨(some 12), none, .mv (.t 1)⟩, ⟨(some 13), none, .call (.c (.fn K.bytealg_hashStr_string [] [])) [(.t 12)]⟩, ⟨(some 11), none, .mv (.t 13)⟩, ⟨(some 14), none, .ext (.t 11) 0⟩, ⟨(some 15), none, .ext (.t 11) 1⟩, ⟨(some 5), none, .mv (.t 14)⟩, ⟨(some 6), none, .mv (.t 15)⟩])
  (.keep [0, 1, 5, 6] (.seq (.reg [⟨(some 16), none, .mv (.t 1)⟩, ⟨(some 17), none, .len true (.t 16)⟩, ⟨(some 7), none, .mv (.t 17)⟩])
  (.keep [0, 1, 5, 6, 7] (.seq (.reg [⟨(some 8), none, .mv (.c (.int .u32 (0)))⟩])
  (.keep [0, 1, 5, 6, 7, 8] (.seq (.seq (.reg [⟨(some 9), none, .mv (.c (.int .i64 (0)))⟩])
  (.keep [0, 1, 5, 6, 7, 8, 9] (.block 0 (.loop A.bytealg_IndexRabinKarp_string.L0))))
  (.keep [0, 1, 5, 6, 7, 8] (.seq (.seq (.reg [⟨(some 30), none, .mv (.t 8)⟩, ⟨(some 31), none, .mv (.t 5)⟩, ⟨(some 32), none, .bin .eql (.t 30) (.t 31)⟩, ⟨(some 33), none, .mv (.t 32)⟩, ⟨(some 34), (some (33, true)), .mv (.t 0)⟩, ⟨(some 35), (some (33, true)), .mv (.t 7)⟩, ⟨(some 36), (some (33, true)), .slcs (.t 34) none (some (.t 35))⟩, ⟨(some 37), (some (33, true)), .mv (.t 1)⟩, ⟨(some 38), (some (33, true)), .bin .eql (.t 36) (.t 37)⟩, ⟨(some 39), none, .pick (.t 33) (.t 38) (.c (.bool false))⟩])
  (.keep [0, 1, 5, 6, 7, 8, 39] (.cond (.t 39) (.seq (.reg [⟨(some 4), none, .mv (.c (.int .i64 (0)))⟩]) .ret) .skip)))
  (.keep [0, 1, 5, 6, 7, 8] (.seq (.seq (.reg [⟨(some 40), none, .mv (.t 7)⟩, ⟨(some 10), none, .mv (.t 40)⟩])
  (.keep [0, 1, 5, 6, 7, 8, 10] (.block 2 (.loop A.bytealg_IndexRabinKarp_string.L1))))
  (.keep [] (.seq (.reg [⟨(some 4), none, .mv (.c (.int .i64 (-1)))⟩]) .ret)))))))))))))))⟩
def A.bytealg_hashStr_string.L0 : AC := .post (.seq (.seq (.reg [⟨(some 9), none, .mv (.t 5)⟩, ⟨(some 10), none, .mv (.t 0)⟩, ⟨(some 11), none, .len true (.t 10)⟩, ⟨(some 12), none, .bin .lss (.t 9) (.t 11)⟩])
  (.keep [0, 4, 5, 12] (.cond (.t 12) .skip (.exit 0))))
  (.keep [0, 4, 5] (.seq (.block 1 (.reg [⟨(some 15), none, .mv (.t 4)⟩, ⟨(some 16), none, .bin .mul (.t 15) (.c (.int .u32 (16777619)))⟩, ⟨(some 17), none, .mv (.t 0)⟩, ⟨(some 18), none, .mv (.t 5)⟩, ⟨(some 19), none, .ixs (.t 17) (.t 18)⟩, ⟨(some 20), none, .conv .u32 (.t 19)⟩, ⟨(some 21), none, .bin .add (.t 16) (.t 20)⟩, ⟨(some 4), none, .mv (.t 21)⟩]))
  (.keep [0, 4, 5] (.reg [⟨(some 13), none, .mv (.t 5)⟩, ⟨(some 14), none, .bin .add (.t 13) (.c (.int .i64 (1)))⟩, ⟨(some 5), none, .mv (.t 14)⟩]))))) [0, 4, 5]
def A.bytealg_hashStr_string.L1 : AC := .post (.seq (.seq (.reg [⟨(some 24), none, .mv (.t 8)⟩, ⟨(some 25), none, .bin .gtr (.t 24) (.c (.int .i64 (0)))⟩])
  (.keep [4, 6, 7, 8, 25] (.cond (.t 25) .skip (.exit 2))))
  (.keep [4, 6, 7, 8] (.seq (.block 3 (.seq (.seq (.reg [⟨(some 28), none, .mv (.t 8)⟩, ⟨(some 29), none, .bin .and (.t 28) (.c (.int .i64 (1)))⟩, ⟨(some 30), none, .bin .neq (.t 29) (.c (.int .i64 (0)))⟩])
  (.keep [4, 6, 7, 8, 30] (.cond (.t 30) (.reg [⟨(some 31), none, .mv (.t 6)⟩, ⟨(some 32), none, .mv (.t 7)⟩, ⟨(some 33), none, .bin .mul (.t 31) (.t 32)⟩, ⟨(some 6), none, .mv (.t 33)⟩]) .skip)))
  (.keep [4, 6, 7, 8] (.reg [⟨(some 34), none, .mv (.t 7)⟩, ⟨(some 35), none, .mv (.t 7)⟩, ⟨(some 36), none, .bin .mul (.t 34) (.t 35)⟩, ⟨(some 7), none, .mv (.t 36)⟩]))))
  (.keep [4, 6, 7, 8] (.reg [⟨(some 26), none, .mv (.t 8)⟩, ⟨(some 27), none, .bin .shr (.t 26) (.c (.int .u64 (1)))⟩, ⟨(some 8), none, .mv (.t 27)⟩]))))) [4, 6, 7, 8]
def A.bytealg_hashStr_string : AFn := ⟨39, [(2, none), (3, none)], (.seq (.reg [⟨(some 2), none, .mv (.c (.int .u32 (0)))⟩, ⟨(some 3), none, .mv (.c (.int .u32 (0)))⟩])
  (.keep [0] (.seq (.reg [⟨(some 4), none, .mv (.c (.int .u32 (0)))⟩])
  (.keep [0, 4] (.seq (.seq (.reg [⟨(some 5), none, .mv (.c (.int .i64 (0)))⟩])
  (.keep [0, 4, 5] (.block 0 (.loop A.bytealg_hashStr_string.L0))))
  (.keep [0, 4] (.seq (.reg [⟨(some 6), none, .mv (.c (.int .u32 (1)))⟩, ⟨(some 7), none, .mv (.c (.int .u32 (16777619)))⟩])
  (.keep [0, 4, 6, 7] (.seq (.seq (.reg [⟨(some 22), none, .mv (.t 0)⟩, ⟨(some 23), none, .len true (.t 22)⟩, ⟨(some 8), none, .mv (.t 23)⟩])
  (.keep [4, 6, 7, 8] (.block 2 (.loop A.bytealg_hashStr_string.L1))))
  (.keep [4, 6] (.seq (.reg [⟨(some 37), none, .mv (.t 4)⟩, ⟨(some 38), none, .mv (.t 6)⟩, ⟨(some 2), none, .mv (.t 37)⟩, ⟨(some 3), none, .mv (.t 38)⟩]) .ret)))))))))))⟩
def A.slices_Equal_int.L0 : AC := .post (.seq (.reg [⟨(some 14), none, .bin .lss (.t 13) (.t 12)⟩])
  (.keep [0, 1, 12, 13, 14] (.seq (.cond (.t 14) .skip (.exit 0))
  (.keep [0, 1, 12, 13] (.seq (.block 1 (.seq (.reg [⟨(some 15), none, .mv (.t 13)⟩, ⟨(some 5), none, .mv (.t 15)⟩])
  (.keep [0, 1, 5, 12, 13] (.seq (.draw [(.pl, ⟨(some 16), none, .mv (.t 0)⟩), (.pl, ⟨(some 17), none, .mv (.t 5)⟩), (.pl, ⟨(some 18), none, .ia 1 (.t 16) (.t 17)⟩), (.pl, ⟨(some 19), none, .load false 1 (.t 18)⟩), (.pl, ⟨(some 20), none, .mv (.t 1)⟩), (.pl, ⟨(some 21), none, .mv (.t 5)⟩), (.pl, ⟨(some 22), none, .ia 1 (.t 20) (.t 21)⟩), (.pl, ⟨(some 23), none, .load false 1 (.t 22)⟩), (.pl, ⟨(some 24), none, .bin .neq (.t 19) (.t 23)⟩)])
  (.keep [0, 1, 12, 13, 24] (.cond (.t 24) (.seq (.reg [⟨(some 4), none, .mv (.c (.bool false))⟩]) .ret) .skip))))))
  (.keep [0, 1, 12, 13] (.reg [⟨(some 25), none, .bin .add (.t 13) (.c (.int .i64 (1)))⟩, ⟨(some 13), none, .mv (.t 25)⟩]))))))) [0, 1, 12, 13]
def A.slices_Equal_int : AFn := ⟨26, [(4, none)], (.seq (.reg [⟨(some 4), none, .mv (.c (.bool false))⟩])
  (.keep [0, 1] (.seq (.seq (.reg [⟨(some 6), none, .mv (.t 0)⟩, ⟨(some 7), none, .len false (.t 6)⟩, ⟨(some 8), none, .mv (.t 1)⟩, ⟨(some 9), none, .len false (.t 8)⟩, ⟨(some 10), none, .bin .neq (.t 7) (.t 9)⟩])
  (.keep [0, 1, 10] (.cond (.t 10) (.seq (.reg [⟨(some 4), none, .mv (.c (.bool false))⟩]) .ret) .skip)))
  (.keep [0, 1] (.seq (.seq (.reg [⟨(some 11), none, .mv (.t 0)⟩, ⟨(some 12), none, .len false (.t 11)⟩, ⟨(some 13), none, .mv (.c (.int .i64 (0)))⟩])
  (.keep [0, 1, 12, 13] (.block 0 (.loop A.slices_Equal_int.L0))))
  (.keep [] (.seq (.reg [⟨(some 4), none, .mv (.c (.bool true))⟩]) .ret)))))))⟩
def A.slices_ContainsFunc_Node : AFn := ⟨9, [(4, none)], (.seq (.reg [⟨(some 4), none, .mv (.c (.bool false))⟩])
  (.keep [0, 1] (.seq (.reg [⟨(some 5), none, .mv (.t 0)⟩, ⟨(some 6), none, .mv (.t 1)⟩, ⟨(some 7), none, .call (.c (.fn K.slices_IndexFunc_Node [] [])) [(.t 5), (.t 6)]⟩, ⟨(some 8), none, .bin .geq (.t 7) (.c (.int .i64 (0)))⟩, ⟨(some 4), none, .mv (.t 8)⟩]) .ret)))⟩
def A.slices_ContainsFunc_Edit : AFn := ⟨9, [(4, none)], (.seq (.reg [⟨(some 4), none, .mv (.c (.bool false))⟩])
  (.keep [0, 1] (.seq (.reg [⟨(some 5), none, .mv (.t 0)⟩, ⟨(some 6), none, .mv (.t 1)⟩, ⟨(some 7), none, .call (.c (.fn K.slices_IndexFunc_Edit [] [])) [(.t 5), (.t 6)]⟩, ⟨(some 8), none, .bin .geq (.t 7) (.c (.int .i64 (0)))⟩, ⟨(some 4), none, .mv (.t 8)⟩]) .ret)))⟩
def A.slices_ContainsFunc_Item : AFn := ⟨9, [(4, none)], (.seq (.reg [⟨(some 4), none, .mv (.c (.bool false))⟩])
  (.keep [0, 1] (.seq (.reg [⟨(some 5), none, .mv (.t 0)⟩, ⟨(some 6), none, .mv (.t 1)⟩, ⟨(some 7), none, .call (.c (.fn K.slices_IndexFunc_Item [] [])) [(.t 5), (.t 6)]⟩, ⟨(some 8), none, .bin .geq (.t 7) (.c (.int .i64 (0)))⟩, ⟨(some 4), none, .mv (.t 8)⟩]) .ret)))⟩
def A.slices_ContainsFunc_Item_2 : AFn := ⟨9, [(4, none)], (.seq (.reg [⟨(some 4), none, .mv (.c (.bool false))⟩])
  (.keep [0, 1] (.seq (.reg [⟨(some 5), none, .mv (.t 0)⟩, ⟨(some 6), none, .mv (.t 1)⟩, ⟨(some 7), none, .call (.c (.fn K.slices_IndexFunc_Item_2 [] [])) [(.t 5), (.t 6)]⟩, ⟨(some 8), none, .bin .geq (.t 7) (.c (.int .i64 (0)))⟩, ⟨(some 4), none, .mv (.t 8)⟩]) .ret)))⟩
def A.slices_ContainsFunc_int : AFn := ⟨9, [(4, none)], (.seq (.reg [⟨(some 4), none, .mv (.c (.bool false))⟩])
  (.keep [0, 1] (.seq (.reg [⟨(some 5), none, .mv (.t 0)⟩, ⟨(some 6), none, .mv (.t 1)⟩, ⟨(some 7), none, .call (.c (.fn K.slices_IndexFunc_int [] [])) [(.t 5), (.t 6)]⟩, ⟨(some 8), none, .bin .geq (.t 7) (.c (.int .i64 (0)))⟩, ⟨(some 4), none, .mv (.t 8)⟩]) .ret)))⟩
def A.slices_Equal_Edit.L0 : AC := .post (.seq (.reg [⟨(some 14), none, .bin .lss (.t 13) (.t 12)⟩])
  (.keep [0, 1, 12, 13, 14] (.seq (.cond (.t 14) .skip (.exit 0))
  (.keep [0, 1, 12, 13] (.seq (.block 1 (.seq (.reg [⟨(some 15), none, .mv (.t 13)⟩, ⟨(some 5), none, .mv (.t 15)⟩])
  (.keep [0, 1, 5, 12, 13] (.seq (.draw [(.pl, ⟨(some 16), none, .mv (.t 0)⟩), (.pl, ⟨(some 17), none, .mv (.t 5)⟩), (.pl, ⟨(some 18), none, .ia 3 (.t 16) (.t 17)⟩), (.pl, ⟨(some 19), none, .load true 3 (.t 18)⟩), (.pl, ⟨(some 20), none, .mv (.t 1)⟩), (.pl, ⟨(some 21), none, .mv (.t 5)⟩), (.pl, ⟨(some 22), none, .ia 3 (.t 20) (.t 21)⟩), (.pl, ⟨(some 23), none, .load true 3 (.t 22)⟩), (.pl, ⟨(some 24), none, .eqs true [(.i, 0), (.b, 1), (.i, 2)] (.t 19) (.t 23)⟩)])
  (.keep [0, 1, 12, 13, 24] (.cond (.t 24) (.seq (.reg [⟨(some 4), none, .mv (.c (.bool false))⟩]) .ret) .skip))))))
  (.keep [0, 1, 12, 13] (.reg [⟨(some 25), none, .bin .add (.t 13) (.c (.int .i64 (1)))⟩, ⟨(some 13), none, .mv (.t 25)⟩]))))))) [0, 1, 12, 13]
def A.slices_Equal_Edit : AFn := ⟨26, [(4, none)], (.seq (.reg [⟨(some 4), none, .mv (.c (.bool false))⟩])
  (.keep [0, 1] (.seq (.seq (.reg [⟨(some 6), none, .mv (.t 0)⟩, ⟨(some 7), none, .len false (.t 6)⟩, ⟨(some 8), none, .mv (.t 1)⟩, ⟨(some 9), none, .len false (.t 8)⟩, ⟨(some 10), none, .bin .neq (.t 7) (.t 9)⟩])
  (.keep [0, 1, 10] (.cond (.t 10) (.seq (.reg [⟨(some 4), none, .mv (.c (.bool false))⟩]) .ret) .skip)))
  (.keep [0, 1] (.seq (.seq (.reg [⟨(some 11), none, .mv (.t 0)⟩, ⟨(some 12), none, .len false (.t 11)⟩, ⟨(some 13), none, .mv (.c (.int .i64 (0)))⟩])
  (.keep [0, 1, 12, 13] (.block 0 (.loop A.slices_Equal_Edit.L0))))
  (.keep [] (.seq (.reg [⟨(some 4), none, .mv (.c (.bool true))⟩]) .ret)))))))⟩
def A.slices_EqualFunc_Item.L0 : AC := .post (.seq (.reg [⟨(some 18), none, .bin .lss (.t 17) (.t 16)⟩])
  (.keep [1, 2, 15, 16, 17, 18] (.seq (.cond (.t 18) .skip (.exit 0))
  (.keep [1, 2, 15, 16, 17] (.seq (.block 1 (.seq (.reg [⟨(some 19), none, .mv (.t 17)⟩, ⟨(some 20), none, .ia 1 (.t 15) (.t 17)⟩, ⟨(some 21), none, .load false 1 (.t 20)⟩, ⟨(some 7), none, .mv (.t 19)⟩, ⟨(some 8), none, .mv (.t 21)⟩])
  (.keep [1, 2, 7, 8, 15, 16, 17] (.seq (.reg [⟨(some 22), none, .mv (.t 1)⟩, ⟨(some 23), none, .mv (.t 7)⟩, ⟨(some 24), none, .ia 1 (.t 22) (.t 23)⟩, ⟨(some 25), none, .load false 1 (.t 24)⟩, ⟨(some 9), none, .mv (.t 25)⟩])
  (.keep [1, 2, 8, 9, 15, 16, 17] (.seq (.reg [⟨(some 26), none, .mv (.t 2)⟩, ⟨(some 27), none, .mv (.t 8)⟩, ⟨(some 28), none, .mv (.t 9)⟩, ⟨(some 29), none, .call (.t 26) [(.t 27), (.t 28)]⟩, ⟨(some 30), none, .un .not (.t 29)⟩])
  (.keep [1, 2, 15, 16, 17, 30] (.cond (.t 30) (.seq (.reg [⟨(some 6), none, .mv (.c (.bool false))⟩]) .ret) .skip))))))))
  (.keep [1, 2, 15, 16, 17] (.reg [⟨(some 31), none, .bin .add (.t 17) (.c (.int .i64 (1)))⟩, ⟨(some 17), none, .mv (.t 31)⟩]))))))) [1, 2, 15, 16, 17]
def A.slices_EqualFunc_Item : AFn := ⟨32, [(6, none)], (.seq (.reg [⟨(some 6), none, .mv (.c (.bool false))⟩])
  (.keep [0, 1, 2] (.seq (.seq (.reg [⟨(some 10), none, .mv (.t 0)⟩, ⟨(some 11), none, .len false (.t 10)⟩, ⟨(some 12), none, .mv (.t 1)⟩, ⟨(some 13), none, .len false (.t 12)⟩, ⟨(some 14), none, .bin .neq (.t 11) (.t 13)⟩])
  (.keep [0, 1, 2, 14] (.cond (.t 14) (.seq (.reg [⟨(some 6), none, .mv (.c (.bool false))⟩]) .ret) .skip)))
  (.keep [0, 1, 2] (.seq (.seq (.reg [⟨(some 15), none, .mv (.t 0)⟩, ⟨(some 16), none, .len false (.t 15)⟩, ⟨(some 17), none, .mv (.c (.int .i64 (0)))⟩])
  (.keep [1, 2, 15, 16, 17] (.block 0 (.loop A.slices_EqualFunc_Item.L0))))
  (.keep [] (.seq (.reg [⟨(some 6), none, .mv (.c (.bool true))⟩]) .ret)))))))⟩
def A.slices_Equal_Item.L0 : AC := .post (.seq (.reg [⟨(some 14), none, .bin .lss (.t 13) (.t 12)⟩])
  (.keep [0, 1, 12, 13, 14] (.seq (.cond (.t 14) .skip (.exit 0))
  (.keep [0, 1, 12, 13] (.seq (.block 1 (.seq (.reg [⟨(some 15), none, .mv (.t 13)⟩, ⟨(some 5), none, .mv (.t 15)⟩])
  (.keep [0, 1, 5, 12, 13] (.seq (.draw [(.pl, ⟨(some 16), none, .mv (.t 0)⟩), (.pl, ⟨(some 17), none, .mv (.t 5)⟩), (.pl, ⟨(some 18), none, .ia 3 (.t 16) (.t 17)⟩), (.pl, ⟨(some 19), none, .load true 3 (.t 18)⟩), (.pl, ⟨(some 20), none, .mv (.t 1)⟩), (.pl, ⟨(some 21), none, .mv (.t 5)⟩), (.pl, ⟨(some 22), none, .ia 3 (.t 20) (.t 21)⟩), (.pl, ⟨(some 23), none, .load true 3 (.t 22)⟩), (.pl, ⟨(some 24), none, .eqs true [(.i, 0), (.i, 1), (.i, 2)] (.t 19) (.t 23)⟩)])
  (.keep [0, 1, 12, 13, 24] (.cond (.t 24) (.seq (.reg [⟨(some 4), none, .mv (.c (.bool false))⟩]) .ret) .skip))))))
  (.keep [0, 1, 12, 13] (.reg [⟨(some 25), none, .bin .add (.t 13) (.c (.int .i64 (1)))⟩, ⟨(some 13), none, .mv (.t 25)⟩]))))))) [0, 1, 12, 13]
def A.slices_Equal_Item : AFn := ⟨26, [(4, none)], (.seq (.reg [⟨(some 4), none, .mv (.c (.bool false))⟩])
  (.keep [0, 1] (.seq (.seq (.reg [⟨(some 6), none, .mv (.t 0)⟩, ⟨(some 7), none, .len false (.t 6)⟩, ⟨(some 8), none, .mv (.t 1)⟩, ⟨(some 9), none, .len false (.t 8)⟩, ⟨(some 10), none, .bin .neq (.t 7) (.t 9)⟩])
  (.keep [0, 1, 10] (.cond (.t 10) (.seq (.reg [⟨(some 4), none, .mv (.c (.bool false))⟩]) .ret) .skip)))
  (.keep [0, 1] (.seq (.seq (.reg [⟨(some 11), none, .mv (.t 0)⟩, ⟨(some 12), none, .len false (.t 11)⟩, ⟨(some 13), none, .mv (.c (.int .i64 (0)))⟩])
  (.keep [0, 1, 12, 13] (.block 0 (.loop A.slices_Equal_Item.L0))))
  (.keep [] (.seq (.reg [⟨(some 4), none, .mv (.c (.bool true))⟩]) .ret)))))))⟩
def A.slices_EqualFunc_int.L0 : AC := .post (.seq (.reg [⟨(some 18), none, .bin .lss (.t 17) (.t 16)⟩])
  (.keep [1, 2, 15, 16, 17, 18] (.seq (.cond (.t 18) .skip (.exit 0))
  (.keep [1, 2, 15, 16, 17] (.seq (.block 1 (.seq (.reg [⟨(some 19), none, .mv (.t 17)⟩, ⟨(some 20), none, .ia 1 (.t 15) (.t 17)⟩, ⟨(some 21), none, .load false 1 (.t 20)⟩, ⟨(some 7), none, .mv (.t 19)⟩, ⟨(some 8), none, .mv (.t 21)⟩])
  (.keep [1, 2, 7, 8, 15, 16, 17] (.seq (.reg [⟨(some 22), none, .mv (.t 1)⟩, ⟨(some 23), none, .mv (.t 7)⟩, ⟨(some 24), none, .ia 1 (.t 22) (.t 23)⟩, ⟨(some 25), none, .load false 1 (.t 24)⟩, ⟨(some 9), none, .mv (.t 25)⟩])
  (.keep [1, 2, 8, 9, 15, 16, 17] (.seq (.reg [⟨(some 26), none, .mv (.t 2)⟩, ⟨(some 27), none, .mv (.t 8)⟩, ⟨(some 28), none, .mv (.t 9)⟩, ⟨(some 29), none, .call (.t 26) [(.t 27), (.t 28)]⟩, ⟨(some 30), none, .un .not (.t 29)⟩])
  (.keep [1, 2, 15, 16, 17, 30] (.cond (.t 30) (.seq (.reg [⟨(some 6), none, .mv (.c (.bool false))⟩]) .ret) .skip))))))))
  (.keep [1, 2, 15, 16, 17] (.reg [⟨(some 31), none, .bin .add (.t 17) (.c (.int .i64 (1)))⟩, ⟨(some 17), none, .mv (.t 31)⟩]))))))) [1, 2, 15, 16, 17]
def A.slices_EqualFunc_int : AFn := ⟨32, [(6, none)], (.seq (.reg [⟨(some 6), none, .mv (.c (.bool false))⟩])
  (.keep [0, 1, 2] (.seq (.seq (.reg [⟨(some 10), none, .mv (.t 0)⟩, ⟨(some 11), none, .len false (.t 10)⟩, ⟨(some 12), none, .mv (.t 1)⟩, ⟨(some 13), none, .len false (.t 12)⟩, ⟨(some 14), none, .bin .neq (.t 11) (.t 13)⟩])
  (.keep [0, 1, 2, 14] (.cond (.t 14) (.seq (.reg [⟨(some 6), none, .mv (.c (.bool false))⟩]) .ret) .skip)))
  (.keep [0, 1, 2] (.seq (.seq (.reg [⟨(some 15), none, .mv (.t 0)⟩, ⟨(some 16), none, .len false (.t 15)⟩, ⟨(some 17), none, .mv (.c (.int .i64 (0)))⟩])
  (.keep [1, 2, 15, 16, 17] (.block 0 (.loop A.slices_EqualFunc_int.L0))))
  (.keep [] (.seq (.reg [⟨(some 6), none, .mv (.c (.bool true))⟩]) .ret)))))))⟩
def A.slices_ContainsFunc_Rule : AFn := ⟨9, [(4, none)], (.seq (.reg [⟨(some 4), none, .mv (.c (.bool false))⟩])
  (.keep [0, 1] (.seq (.reg [⟨(some 5), none, .mv (.t 0)⟩, ⟨(some 6), none, .mv (.t 1)⟩, ⟨(some 7), none, .call (.c (.fn K.slices_IndexFunc_Rule [] [])) [(.t 5), (.t 6)]⟩, ⟨(some 8), none, .bin .geq (.t 7) (.c (.int .i64 (0)))⟩, ⟨(some 4), none, .mv (.t 8)⟩]) .ret)))⟩
def A.slices_Equal_Rule.L0 : AC := .post (.seq (.reg [⟨(some 14), none, .bin .lss (.t 13) (.t 12)⟩])
  (.keep [0, 1, 12, 13, 14] (.seq (.cond (.t 14) .skip (.exit 0))
  (.keep [0, 1, 12, 13] (.seq (.block 1 (.seq (.reg [⟨(some 15), none, .mv (.t 13)⟩, ⟨(some 5), none, .mv (.t 15)⟩])
  (.keep [0, 1, 5, 12, 13] (.seq (.draw [(.pl, ⟨(some 16), none, .mv (.t 0)⟩), (.pl, ⟨(some 17), none, .mv (.t 5)⟩), (.pl, ⟨(some 18), none, .ia 2 (.t 16) (.t 17)⟩), (.pl, ⟨(some 19), none, .load true 2 (.t 18)⟩), (.pl, ⟨(some 20), none, .mv (.t 1)⟩), (.pl, ⟨(some 21), none, .mv (.t 5)⟩), (.pl, ⟨(some 22), none, .ia 2 (.t 20) (.t 21)⟩), (.pl, ⟨(some 23), none, .load true 2 (.t 22)⟩), (.pl, ⟨(some 24), none, .eqs true [(.s, 0), (.i, 1)] (.t 19) (.t 23)⟩)])
  (.keep [0, 1, 12, 13, 24] (.cond (.t 24) (.seq (.reg [⟨(some 4), none, .mv (.c (.bool false))⟩]) .ret) .skip))))))
  (.keep [0, 1, 12, 13] (.reg [⟨(some 25), none, .bin .add (.t 13) (.c (.int .i64 (1)))⟩, ⟨(some 13), none, .mv (.t 25)⟩]))))))) [0, 1, 12, 13]
def A.slices_Equal_Rule : AFn := ⟨26, [(4, none)], (.seq (.reg [⟨(some 4), none, .mv (.c (.bool false))⟩])
  (.keep [0, 1] (.seq (.seq (.reg [⟨(some 6), none, .mv (.t 0)⟩, ⟨(some 7), none, .len false (.t 6)⟩, ⟨(some 8), none, .mv (.t 1)⟩, ⟨(some 9), none, .len false (.t 8)⟩, ⟨(some 10), none, .bin .neq (.t 7) (.t 9)⟩])
  (.keep [0, 1, 10] (.cond (.t 10) (.seq (.reg [⟨(some 4), none, .mv (.c (.bool false))⟩]) .ret) .skip)))
  (.keep [0, 1] (.seq (.seq (.reg [⟨(some 11), none, .mv (.t 0)⟩, ⟨(some 12), none, .len false (.t 11)⟩, ⟨(some 13), none, .mv (.c (.int .i64 (0)))⟩])
  (.keep [0, 1, 12, 13] (.block 0 (.loop A.slices_Equal_Rule.L0))))
  (.keep [] (.seq (.reg [⟨(some 4), none, .mv (.c (.bool true))⟩]) .ret)))))))⟩
def A.slices_EqualFunc_Node.L0 : AC := .post (.seq (.reg [⟨(some 18), none, .bin .lss (.t 17) (.t 16)⟩])
  (.keep [1, 2, 15, 16, 17, 18] (.seq (.cond (.t 18) .skip (.exit 0))
  (.keep [1, 2, 15, 16, 17] (.seq (.block 1 (.seq (.reg [⟨(some 19), none, .mv (.t 17)⟩, ⟨(some 20), none, .ia 3 (.t 15) (.t 17)⟩, ⟨(some 21), none, .load true 3 (.t 20)⟩, ⟨(some 8), none, .alloc [(.int .i64 (0)), (.str []), (.sl 0 1 [])]⟩, ⟨(some 7), none, .mv (.t 19)⟩, ⟨none, none, .store 3 (.t 8) (.t 21)⟩])
  (.keep [1, 2, 7, 8, 15, 16, 17] (.seq (.reg [⟨(some 22), none, .mv (.t 1)⟩, ⟨(some 23), none, .mv (.t 7)⟩, ⟨(some 24), none, .ia 3 (.t 22) (.t 23)⟩, ⟨(some 25), none, .load true 3 (.t 24)⟩, ⟨(some 9), none, .alloc [(.int .i64 (0)), (.str []), (.sl 0 1 [])]⟩, ⟨none, none, .store 3 (.t 9) (.t 25)⟩])
  (.keep [1, 2, 8, 9, 15, 16, 17] (.seq (.reg [⟨(some 26), none, .mv (.t 2)⟩, ⟨(some 27), none, .load true 3 (.t 8)⟩, ⟨(some 28), none, .load true 3 (.t 9)⟩, ⟨(some 29), none, .call (.t 26) [(.t 27), (.t 28)]⟩, ⟨(some 30), none, .un .not (.t 29)⟩])
  (.keep [1, 2, 15, 16, 17, 30] (.cond (.t 30) (.seq (.reg [⟨(some 6), none, .mv (.c (.bool false))⟩]) .ret) .skip))))))))
  (.keep [1, 2, 15, 16, 17] (.reg [⟨(some 31), none, .bin .add (.t 17) (.c (.int .i64 (1)))⟩, ⟨(some 17), none, .mv (.t 31)⟩]))))))) [1, 2, 15, 16, 17]
def A.slices_EqualFunc_Node : AFn := ⟨32, [(6, none)], (.seq (.reg [⟨(some 6), none, .mv (.c (.bool false))⟩])
  (.keep [0, 1, 2] (.seq (.seq (.reg [⟨(some 10), none, .mv (.t 0)⟩, ⟨(some 11), none, .len false (.t 10)⟩, ⟨(some 12), none, .mv (.t 1)⟩, ⟨(some 13), none, .len false (.t 12)⟩, ⟨(some 14), none, .bin .neq (.t 11) (.t 13)⟩])
  (.keep [0, 1, 2, 14] (.cond (.t 14) (.seq (.reg [⟨(some 6), none, .mv (.c (.bool false))⟩]) .ret) .skip)))
  (.keep [0, 1, 2] (.seq (.seq (.reg [⟨(some 15), none, .mv (.t 0)⟩, ⟨(some 16), none, .len false (.t 15)⟩, ⟨(some 17), none, .mv (.c (.int .i64 (0)))⟩])
  (.keep [1, 2, 15, 16, 17] (.block 0 (.loop A.slices_EqualFunc_Node.L0))))
  (.keep [] (.seq (.reg [⟨(some 6), none, .mv (.c (.bool true))⟩]) .ret)))))))⟩
def A.strings_Builder_Len : AFn := ⟨8, [(2, none)], (.seq (.reg [⟨(some 2), none, .mv (.c (.int .i64 (0)))⟩])
  (.keep [0] (.seq (.reg [⟨(some 3), none, .mv (.t 0)⟩, ⟨(some 4), none, .nilchk (.t 3)⟩, ⟨(some 5), none, .fa 1 (.t 4)⟩, ⟨(some 6), none, .load false 1 (.t 5)⟩, ⟨(some 7), none, .len false (.t 6)⟩, ⟨(some 2), none, .mv (.t 7)⟩]) .ret)))⟩
def A.slices_IndexFunc_Node.L0 : AC := .post (.seq (.reg [⟨(some 9), none, .bin .lss (.t 8) (.t 7)⟩])
  (.keep [0, 1, 7, 8, 9] (.seq (.cond (.t 9) .skip (.exit 0))
  (.keep [0, 1, 7, 8] (.seq (.block 1 (.seq (.reg [⟨(some 10), none, .mv (.t 8)⟩, ⟨(some 5), none, .mv (.t 10)⟩])
  (.keep [0, 1, 5, 7, 8] (.seq (.reg [⟨(some 11), none, .mv (.t 1)⟩, ⟨(some 12), none, .mv (.t 0)⟩, ⟨(some 13), none, .mv (.t 5)⟩, ⟨(some 14), none, .ia 2 (.t 12) (.t 13)⟩, ⟨(some 15), none, .load true 2 (.t 14)⟩, ⟨(some 16), none, .call (.t 11) [(.t 15)]⟩])
  (.keep [0, 1, 5, 7, 8, 16] (.cond (.t 16) (.seq (.reg [⟨(some 17), none, .mv (.t 5)⟩, ⟨(some 4), none, .mv (.t 17)⟩]) .ret) .skip))))))
  (.keep [0, 1, 7, 8] (.reg [⟨(some 18), none, .bin .add (.t 8) (.c (.int .i64 (1)))⟩, ⟨(some 8), none, .mv (.t 18)⟩]))))))) [0, 1, 7, 8]
def A.slices_IndexFunc_Node : AFn := ⟨19, [(4, none)], (.seq (.reg [⟨(some 4), none, .mv (.c (.int .i64 (0)))⟩])
  (.keep [0, 1] (.seq (.seq (.reg [⟨(some 6), none, .mv (.t 0)⟩, ⟨(some 7), none, .len false (.t 6)⟩, ⟨(some 8), none, .mv (.c (.int .i64 (0)))⟩])
  (.keep [0, 1, 7, 8] (.block 0 (.loop A.slices_IndexFunc_Node.L0))))
  (.keep [] (.seq (.reg [⟨(some 4), none, .mv (.c (.int .i64 (-1)))⟩]) .ret)))))⟩
def A.slices_ContainsFunc_int_2 : AFn := ⟨9, [(4, none)], (.seq (.reg [⟨(some 4), none, .mv (.c (.bool false))⟩])
  (.keep [0, 1] (.seq (.reg [⟨(some 5), none, .mv (.t 0)⟩, ⟨(some 6), none, .mv (.t 1)⟩, ⟨(some 7), none, .call (.c (.fn K.slices_IndexFunc_int_2 [] [])) [(.t 5), (.t 6)]⟩, ⟨(some 8), none, .bin .geq (.t 7) (.c (.int .i64 (0)))⟩, ⟨(some 4), none, .mv (.t 8)⟩]) .ret)))⟩
def A.slices_IndexFunc_Edit.L0 : AC := .post (.seq (.reg [⟨(some 9), none, .bin .lss (.t 8) (.t 7)⟩])
  (.keep [0, 1, 7, 8, 9] (.seq (.cond (.t 9) .skip (.exit 0))
  (.keep [0, 1, 7, 8] (.seq (.block 1 (.seq (.reg [⟨(some 10), none, .mv (.t 8)⟩, ⟨(some 5), none, .mv (.t 10)⟩])
  (.keep [0, 1, 5, 7, 8] (.seq (.reg [⟨(some 11), none, .mv (.t 1)⟩, ⟨(some 12), none, .mv (.t 0)⟩, ⟨(some 13), none, .mv (.t 5)⟩, ⟨(some 14), none, .ia 3 (.t 12) (.t 13)⟩, ⟨(some 15), none, .load true 3 (.t 14)⟩, ⟨(some 16), none, .call (.t 11) [(.t 15)]⟩])
  (.keep [0, 1, 5, 7, 8, 16] (.cond (.t 16) (.seq (.reg [⟨(some 17), none, .mv (.t 5)⟩, ⟨(some 4), none, .mv (.t 17)⟩]) .ret) .skip))))))
  (.keep [0, 1, 7, 8] (.reg [⟨(some 18), none, .bin .add (.t 8) (.c (.int .i64 (1)))⟩, ⟨(some 8), none, .mv (.t 18)⟩]))))))) [0, 1, 7, 8]
def A.slices_IndexFunc_Edit : AFn := ⟨19, [(4, none)], (.seq (.reg [⟨(some 4), none, .mv (.c (.int .i64 (0)))⟩])
  (.keep [0, 1] (.seq (.seq (.reg [⟨(some 6), none, .mv (.t 0)⟩, ⟨(some 7), none, .len false (.t 6)⟩, ⟨(some 8), none, .mv (.c (.int .i64 (0)))⟩])
  (.keep [0, 1, 7, 8] (.block 0 (.loop A.slices_IndexFunc_Edit.L0))))
  (.keep [] (.seq (.reg [⟨(some 4), none, .mv (.c (.int .i64 (-1)))⟩]) .ret)))))⟩
def A.slices_IndexFunc_Item.L0 : AC := .post (.seq (.reg [⟨(some 9), none, .bin .lss (.t 8) (.t 7)⟩])
  (.keep [0, 1, 7, 8, 9] (.seq (.cond (.t 9) .skip (.exit 0))
  (.keep [0, 1, 7, 8] (.seq (.block 1 (.seq (.reg [⟨(some 10), none, .mv (.t 8)⟩, ⟨(some 5), none, .mv (.t 10)⟩])
  (.keep [0, 1, 5, 7, 8] (.seq (.reg [⟨(some 11), none, .mv (.t 1)⟩, ⟨(some 12), none, .mv (.t 0)⟩, ⟨(some 13), none, .mv (.t 5)⟩, ⟨(some 14), none, .ia 3 (.t 12) (.t 13)⟩, ⟨(some 15), none, .load true 3 (.t 14)⟩, ⟨(some 16), none, .call (.t 11) [(.t 15)]⟩])
  (.keep [0, 1, 5, 7, 8, 16] (.cond (.t 16) (.seq (.reg [⟨(some 17), none, .mv (.t 5)⟩, ⟨(some 4), none, .mv (.t 17)⟩]) .ret) .skip))))))
  (.keep [0, 1, 7, 8] (.reg [⟨(some 18), none, .bin .add (.t 8) (.c (.int .i64 (1)))⟩, ⟨(some 8), none, .mv (.t 18)⟩]))))))) [0, 1, 7, 8]
def A.slices_IndexFunc_Item : AFn := ⟨19, [(4, none)], (.seq (.reg [⟨(some 4), none, .mv (.c (.int .i64 (0)))⟩])
  (.keep [0, 1] (.seq (.seq (.reg [⟨(some 6), none, .mv (.t 0)⟩, ⟨(some 7), none, .len false (.t 6)⟩, ⟨(some 8), none, .mv (.c (.int .i64 (0)))⟩])
  (.keep [0, 1, 7, 8] (.block 0 (.loop A.slices_IndexFunc_Item.L0))))
  (.keep [] (.seq (.reg [⟨(some 4), none, .mv (.c (.int .i64 (-1)))⟩]) .ret)))))⟩
def A.slices_IndexFunc_Item_2.L0 : AC := .post (.seq (.reg [⟨(some 9), none, .bin .lss (.t 8) (.t 7)⟩])
  (.keep [0, 1, 7, 8, 9] (.seq (.cond (.t 9) .skip (.exit 0))
  (.keep [0, 1, 7, 8] (.seq (.block 1 (.seq (.reg [⟨(some 10), none, .mv (.t 8)⟩, ⟨(some 5), none, .mv (.t 10)⟩])
  (.keep [0, 1, 5, 7, 8] (.seq (.reg [⟨(some 11), none, .mv (.t 1)⟩, ⟨(some 12), none, .mv (.t 0)⟩, ⟨(some 13), none, .mv (.t 5)⟩, ⟨(some 14), none, .ia 1 (.t 12) (.t 13)⟩, ⟨(some 15), none, .load false 1 (.t 14)⟩, ⟨(some 16), none, .call (.t 11) [(.t 15)]⟩])
  (.keep [0, 1, 5, 7, 8, 16] (.cond (.t 16) (.seq (.reg [⟨(some 17), none, .mv (.t 5)⟩, ⟨(some 4), none, .mv (.t 17)⟩]) .ret) .skip))))))
  (.keep [0, 1, 7, 8] (.reg [⟨(some 18), none, .bin .add (.t 8) (.c (.int .i64 (1)))⟩, ⟨(some 8), none, .mv (.t 18)⟩]))))))) [0, 1, 7, 8]
def A.slices_IndexFunc_Item_2 : AFn := ⟨19, [(4, none)], (.seq (.reg [⟨(some 4), none, .mv (.c (.int .i64 (0)))⟩])
  (.keep [0, 1] (.seq (.seq (.reg [⟨(some 6), none, .mv (.t 0)⟩, ⟨(some 7), none, .len false (.t 6)⟩, ⟨(some 8), none, .mv (.c (.int .i64 (0)))⟩])
  (.keep [0, 1, 7, 8] (.block 0 (.loop A.slices_IndexFunc_Item_2.L0))))
  (.keep [] (.seq (.reg [⟨(some 4), none, .mv (.c (.int .i64 (-1)))⟩]) .ret)))))⟩
def A.slices_IndexFunc_int.L0 : AC := .post (.seq (.reg [⟨(some 9), none, .bin .lss (.t 8) (.t 7)⟩])
  (.keep [0, 1, 7, 8, 9] (.seq (.cond (.t 9) .skip (.exit 0))
  (.keep [0, 1, 7, 8] (.seq (.block 1 (.seq (.reg [⟨(some 10), none, .mv (.t 8)⟩, ⟨(some 5), none, .mv (.t 10)⟩])
  (.keep [0, 1, 5, 7, 8] (.seq (.reg [⟨(some 11), none, .mv (.t 1)⟩, ⟨(some 12), none, .mv (.t 0)⟩, ⟨(some 13), none, .mv (.t 5)⟩, ⟨(some 14), none, .ia 1 (.t 12) (.t 13)⟩, ⟨(some 15), none, .load false 1 (.t 14)⟩, ⟨(some 16), none, .call (.t 11) [(.t 15)]⟩])
  (.keep [0, 1, 5, 7, 8, 16] (.cond (.t 16) (.seq (.reg [⟨(some 17), none, .mv (.t 5)⟩, ⟨(some 4), none, .mv (.t 17)⟩]) .ret) .skip))))))
  (.keep [0, 1, 7, 8] (.reg [⟨(some 18), none, .bin .add (.t 8) (.c (.int .i64 (1)))⟩, ⟨(some 8), none, .mv (.t 18)⟩]))))))) [0, 1, 7, 8]
def A.slices_IndexFunc_int : AFn := ⟨19, [(4, none)], (.seq (.reg [⟨(some 4), none, .mv (.c (.int .i64 (0)))⟩])
  (.keep [0, 1] (.seq (.seq (.reg [⟨(some 6), none, .mv (.t 0)⟩, ⟨(some 7), none, .len false (.t 6)⟩, ⟨(some 8), none, .mv (.c (.int .i64 (0)))⟩])
  (.keep [0, 1, 7, 8] (.block 0 (.loop A.slices_IndexFunc_int.L0))))
  (.keep [] (.seq (.reg [⟨(some 4), none, .mv (.c (.int .i64 (-1)))⟩]) .ret)))))⟩
def A.slices_IndexFunc_Rule.L0 : AC := .post (.seq (.reg [⟨(some 9), none, .bin .lss (.t 8) (.t 7)⟩])
  (.keep [0, 1, 7, 8, 9] (.seq (.cond (.t 9) .skip (.exit 0))
  (.keep [0, 1, 7, 8] (.seq (.block 1 (.seq (.reg [⟨(some 10), none, .mv (.t 8)⟩, ⟨(some 5), none, .mv (.t 10)⟩])
  (.keep [0, 1, 5, 7, 8] (.seq (.reg [⟨(some 11), none, .mv (.t 1)⟩, ⟨(some 12), none, .mv (.t 0)⟩, ⟨(some 13), none, .mv (.t 5)⟩, ⟨(some 14), none, .ia 2 (.t 12) (.t 13)⟩, ⟨(some 15), none, .load true 2 (.t 14)⟩, ⟨(some 16), none, .call (.t 11) [(.t 15)]⟩])
  (.keep [0, 1, 5, 7, 8, 16] (.cond (.t 16) (.seq (.reg [⟨(some 17), none, .mv (.t 5)⟩, ⟨(some 4), none, .mv (.t 17)⟩]) .ret) .skip))))))
  (.keep [0, 1, 7, 8] (.reg [⟨(some 18), none, .bin .add (.t 8) (.c (.int .i64 (1)))⟩, ⟨(some 8), none, .mv (.t 18)⟩]))))))) [0, 1, 7, 8]
def A.slices_IndexFunc_Rule : AFn := ⟨19, [(4, none)], (.seq (.reg [⟨(some 4), none, .mv (.c (.int .i64 (0)))⟩])
  (.keep [0, 1] (.seq (.seq (.reg [⟨(some 6), none, .mv (.t 0)⟩, ⟨(some 7), none, .len false (.t 6)⟩, ⟨(some 8), none, .mv (.c (.int .i64 (0)))⟩])
  (.keep [0, 1, 7, 8] (.block 0 (.loop A.slices_IndexFunc_Rule.L0))))
  (.keep [] (.seq (.reg [⟨(some 4), none, .mv (.c (.int .i64 (-1)))⟩]) .ret)))))⟩
def A.slices_Contains_byte : AFn := ⟨9, [(4, none)], (.seq (.reg [⟨(some 4), none, .mv (.c (.bool false))⟩])
  (.keep [0, 1] (.seq (.reg [⟨(some 5), none, .mv (.t 0)⟩, ⟨(some 6), none, .mv (.t 1)⟩, ⟨(some 7), none, .call (.c (.fn K.slices_Index_byte [] [])) [(.t 5), (.t 6)]⟩, ⟨(some 8), none, .bin .geq (.t 7) (.c (.int .i64 (0)))⟩, ⟨(some 4), none, .mv (.t 8)⟩]) .ret)))⟩
def A.slices_IndexFunc_int_2.L0 : AC := .post (.seq (.reg [⟨(some 9), none, .bin .lss (.t 8) (.t 7)⟩])
  (.keep [0, 1, 7, 8, 9] (.seq (.cond (.t 9) .skip (.exit 0))
  (.keep [0, 1, 7, 8] (.seq (.block 1 (.seq (.reg [⟨(some 10), none, .mv (.t 8)⟩, ⟨(some 5), none, .mv (.t 10)⟩])
  (.keep [0, 1, 5, 7, 8] (.seq (.reg [⟨(some 11), none, .mv (.t 1)⟩, ⟨(some 12), none, .mv (.t 0)⟩, ⟨(some 13), none, .mv (.t 5)⟩, ⟨(some 14), none, .ia 1 (.t 12) (.t 13)⟩, ⟨(some 15), none, .load false 1 (.t 14)⟩, ⟨(some 16), none, .call (.t 11) [(.t 15)]⟩])
  (.keep [0, 1, 5, 7, 8, 16] (.cond (.t 16) (.seq (.reg [⟨(some 17), none, .mv (.t 5)⟩, ⟨(some 4), none, .mv (.t 17)⟩]) .ret) .skip))))))
  (.keep [0, 1, 7, 8] (.reg [⟨(some 18), none, .bin .add (.t 8) (.c (.int .i64 (1)))⟩, ⟨(some 8), none, .mv (.t 18)⟩]))))))) [0, 1, 7, 8]
def A.slices_IndexFunc_int_2 : AFn := ⟨19, [(4, none)], (.seq (.reg [⟨(some 4), none, .mv (.c (.int .i64 (0)))⟩])
  (.keep [0, 1] (.seq (.seq (.reg [⟨(some 6), none, .mv (.t 0)⟩, ⟨(some 7), none, .len false (.t 6)⟩, ⟨(some 8), none, .mv (.c (.int .i64 (0)))⟩])
  (.keep [0, 1, 7, 8] (.block 0 (.loop A.slices_IndexFunc_int_2.L0))))
  (.keep [] (.seq (.reg [⟨(some 4), none, .mv (.c (.int .i64 (-1)))⟩]) .ret)))))⟩
def A.slices_Index_byte.L0 : AC := .post (.seq (.reg [⟨(some 9), none, .bin .lss (.t 8) (.t 7)⟩])
  (.keep [0, 1, 7, 8, 9] (.seq (.cond (.t 9) .skip (.exit 0))
  (.keep [0, 1, 7, 8] (.seq (.block 1 (.seq (.reg [⟨(some 10), none, .mv (.t 8)⟩, ⟨(some 5), none, .mv (.t 10)⟩])
  (.keep [0, 1, 5, 7, 8] (.seq (.reg [⟨(some 11), none, .mv (.t 1)⟩, ⟨(some 12), none, .mv (.t 0)⟩, ⟨(some 13), none, .mv (.t 5)⟩, ⟨(some 14), none, .ia 1 (.t 12) (.t 13)⟩, ⟨(some 15), none, .load false 1 (.t 14)⟩, ⟨(some 16), none, .bin .eql (.t 11) (.t 15)⟩])
  (.keep [0, 1, 5, 7, 8, 16] (.cond (.t 16) (.seq (.reg [⟨(some 17), none, .mv (.t 5)⟩, ⟨(some 4), none, .mv (.t 17)⟩]) .ret) .skip))))))
  (.keep [0, 1, 7, 8] (.reg [⟨(some 18), none, .bin .add (.t 8) (.c (.int .i64 (1)))⟩, ⟨(some 8), none, .mv (.t 18)⟩]))))))) [0, 1, 7, 8]
def A.slices_Index_byte : AFn := ⟨19, [(4, none)], (.seq (.reg [⟨(some 4), none, .mv (.c (.int .i64 (0)))⟩])
  (.keep [0, 1] (.seq (.seq (.reg [⟨(some 6), none, .mv (.t 0)⟩, ⟨(some 7), none, .len false (.t 6)⟩, ⟨(some 8), none, .mv (.c (.int .i64 (0)))⟩])
  (.keep [0, 1, 7, 8] (.block 0 (.loop A.slices_Index_byte.L0))))
  (.keep [] (.seq (.reg [⟨(some 4), none, .mv (.c (.int .i64 (-1)))⟩]) .ret)))))⟩
end Go.Proofs.Ytbbmglginkabfaa.Al
