/-
  The functions of wire as abstract code, written by a program of this claim (gen.py). Conditions: none.
-/
import Derived.Test.YtbbmglginkabfaaAlKeys
namespace Go.Proofs.Ytbbmglginkabfaa.Al
def A.wire_Writer_Bytes : AFn := ⟨8, [(2, none)], (.seq (.reg [⟨(some 2), none, .mv (.c (.sl 0 1 []))⟩])
  (.keep [0] (.seq (.reg [⟨(some 3), none, .mv (.t 0)⟩, ⟨(some 4), none, .nilchk (.t 3)⟩, ⟨(some 5), none, .fa 0 (.t 4)⟩, ⟨(some 6), none, .load false 1 (.t 5)⟩, ⟨(some 7), none, .call (.c (.fn K.slices_Clone_byte [] [])) [(.t 6)]⟩, ⟨(some 2), none, .mv (.t 7)⟩]) .ret)))⟩
def A.wire_New : AFn := ⟨7, [(2, none)], (.seq (.reg [⟨(some 2), none, .mv (.c .nilp)⟩])
  (.keep [0] (.seq (.reg [⟨(some 3), none, .mv (.t 0)⟩, ⟨(some 4), none, .call (.c (.fn K.slices_Clone_byte [] [])) [(.t 3)]⟩, ⟨(some 5), none, .bld [(.sl 0 1 []), (.int .i64 (0))] [(0, 1, (.t 4))]⟩, ⟨(some 6), none, .box (.t 5)⟩, ⟨(some 2), none, .mv (.t 6)⟩]) .ret)))⟩
def A.wire_Reader_Num : AFn := ⟨41, [(4, none)], (.seq (.reg [⟨(some 4), none, .mv (.c (.int .i64 (0)))⟩])
  (.keep [0, 1] (.seq (.reg [⟨(some 9), none, .mv (.t 0)⟩, ⟨(some 10), none, .nilchk (.t 9)⟩, ⟨(some 11), none, .fa 0 (.t 10)⟩, ⟨(some 12), none, .load false 1 (.t 11)⟩, ⟨(some 13), none, .call (.c (.fn K.vary_Take [] [])) [(.t 12)]⟩, ⟨(some 8), none, .mv (.t 13)⟩, ⟨(some 14), none, .ext (.t 8) 0⟩, ⟨(some 15), none, .ext (.t 8) 1⟩, ⟨(some 16), none, .ext (.t 8) 2⟩, ⟨(some 5), none, .mv (.t 14)⟩, ⟨(some 6), none, .mv (.t 15)⟩, ⟨(some 7), none, .mv (.t 16)⟩])
  (.keep [0, 1, 5, 6, 7] (.seq (.seq (.reg [⟨(some 17), none, .mv (.t 7)⟩, ⟨(some 18), none, .bin .eql (.t 17) (.c (.int .i64 (0)))⟩, ⟨(some 19), none, .mv (.t 18)⟩, ⟨(some 20), (some (19, true)), .mv (.t 5)⟩, ⟨(some 21), (some (19, true)), .mv (.t 1)⟩, ⟨(some 22), (some (19, true)), .conv .u64 (.t 21)⟩, ⟨(some 23), (some (19, true)), .bin .gtr (.t 20) (.t 22)⟩, ⟨(some 24), none, .pick (.t 19) (.t 23) (.c (.bool false))⟩])
  (.keep [0, 5, 6, 7, 24] (.cond (.t 24) (.reg [⟨(some 7), none, .mv (.c (.int .i64 (5)))⟩]) .skip)))
  (.keep [0, 5, 6, 7] (.seq (.seq (.reg [⟨(some 25), none, .mv (.t 7)⟩, ⟨(some 26), none, .bin .neq (.t 25) (.c (.int .i64 (0)))⟩])
  (.keep [0, 5, 6, 7, 26] (.cond (.t 26) (.seq (.reg [⟨(some 27), none, .mv (.t 0)⟩, ⟨(some 28), none, .mv (.t 7)⟩, ⟨(some 29), none, .call (.c (.fn K.wire_Reader_Wrong [] [])) [(.t 27), (.t 28)]⟩])
  (.keep [] (.seq (.reg [⟨(some 4), none, .mv (.c (.int .i64 (0)))⟩]) .ret))) .skip)))
  (.keep [0, 5, 6] (.seq (.reg [⟨(some 30), none, .mv (.t 0)⟩, ⟨(some 31), none, .mv (.t 0)⟩, ⟨(some 32), none, .nilchk (.t 31)⟩, ⟨(some 33), none, .fa 0 (.t 32)⟩, ⟨(some 34), none, .load false 1 (.t 33)⟩, ⟨(some 35), none, .mv (.t 6)⟩, ⟨(some 36), none, .slc 1 (.t 34) (some (.t 35)) none⟩, ⟨(some 37), none, .nilchk (.t 30)⟩, ⟨(some 38), none, .fa 0 (.t 37)⟩, ⟨none, none, .store 1 (.t 38) (.t 36)⟩])
  (.keep [5] (.seq (.reg [⟨(some 39), none, .mv (.t 5)⟩, ⟨(some 40), none, .conv .i64 (.t 39)⟩, ⟨(some 4), none, .mv (.t 40)⟩]) .ret)))))))))))⟩
def A.wire_Reader_Bool : AFn := ⟨6, [(2, none)], (.seq (.reg [⟨(some 2), none, .mv (.c (.bool false))⟩])
  (.keep [0] (.seq (.reg [⟨(some 3), none, .mv (.t 0)⟩, ⟨(some 4), none, .call (.c (.fn K.wire_Reader_Num [] [])) [(.t 3), (.c (.int .i64 (1)))]⟩, ⟨(some 5), none, .bin .eql (.t 4) (.c (.int .i64 (1)))⟩, ⟨(some 2), none, .mv (.t 5)⟩]) .ret)))⟩
def A.wire_Reader_Nums : AFn := ⟨14, [(6, none)], (.seq (.reg [⟨(some 5), none, .box (.t 2)⟩, ⟨(some 6), none, .mv (.c (.sl 0 1 []))⟩])
  (.keep [0, 1, 5] (.seq (.reg [⟨(some 8), none, .mv (.t 0)⟩, ⟨(some 9), none, .mkfn K.wire_Reader_Num [(.t 8)] []⟩, ⟨(some 7), none, .alloc [.nilf]⟩, ⟨none, none, .store 1 (.t 7) (.t 9)⟩])
  (.keep [0, 1, 5, 7] (.seq (.reg [⟨(some 10), none, .mv (.t 0)⟩, ⟨(some 11), none, .mv (.t 1)⟩, ⟨(some 12), none, .mkfn K.wire_Reader_Nums_1 [] [(.t 7), (.t 5)]⟩, ⟨(some 13), none, .call (.c (.fn K.wire_List_int [] [])) [(.t 10), (.t 11), (.t 12)]⟩, ⟨(some 6), none, .mv (.t 13)⟩]) .ret)))))⟩
def A.wire_Reader_Wrong : AFn := ⟨20, [], (.seq (.reg [⟨(some 4), none, .mv (.t 0)⟩, ⟨(some 5), none, .nilchk (.t 4)⟩, ⟨(some 6), none, .fa 1 (.t 5)⟩, ⟨(some 7), none, .load false 1 (.t 6)⟩, ⟨(some 8), none, .bin .eql (.t 7) (.c (.int .i64 (0)))⟩, ⟨(some 9), none, .mv (.t 8)⟩, ⟨(some 10), (some (9, true)), .mv (.t 1)⟩, ⟨(some 11), (some (9, true)), .bin .neq (.t 10) (.c (.int .i64 (0)))⟩, ⟨(some 12), none, .pick (.t 9) (.t 11) (.c (.bool false))⟩])
  (.keep [0, 1, 12] (.cond (.t 12) (.reg [⟨(some 13), none, .mv (.t 0)⟩, ⟨(some 14), none, .mv (.t 0)⟩, ⟨(some 15), none, .mv (.t 1)⟩, ⟨(some 16), none, .nilchk (.t 13)⟩, ⟨(some 17), none, .fa 0 (.t 16)⟩, ⟨none, none, .store 1 (.t 17) (.c (.sl 0 1 []))⟩, ⟨(some 18), none, .nilchk (.t 14)⟩, ⟨(some 19), none, .fa 1 (.t 18)⟩, ⟨none, none, .store 1 (.t 19) (.t 15)⟩]) .skip)))⟩
def A.wire_Reader_Left : AFn := ⟨8, [(2, none)], (.seq (.reg [⟨(some 2), none, .mv (.c (.int .i64 (0)))⟩])
  (.keep [0] (.seq (.reg [⟨(some 3), none, .mv (.t 0)⟩, ⟨(some 4), none, .nilchk (.t 3)⟩, ⟨(some 5), none, .fa 0 (.t 4)⟩, ⟨(some 6), none, .load false 1 (.t 5)⟩, ⟨(some 7), none, .len false (.t 6)⟩, ⟨(some 2), none, .mv (.t 7)⟩]) .ret)))⟩
def A.wire_Reader_End : AFn := ⟨20, [(2, none)], (.seq (.reg [⟨(some 2), none, .mv (.c (.int .i64 (0)))⟩])
  (.keep [0] (.seq (.seq (.reg [⟨(some 3), none, .mv (.t 0)⟩, ⟨(some 4), none, .nilchk (.t 3)⟩, ⟨(some 5), none, .fa 1 (.t 4)⟩, ⟨(some 6), none, .load false 1 (.t 5)⟩, ⟨(some 7), none, .bin .eql (.t 6) (.c (.int .i64 (0)))⟩, ⟨(some 8), none, .mv (.t 7)⟩, ⟨(some 9), (some (8, true)), .mv (.t 0)⟩, ⟨(some 10), (some (8, true)), .nilchk (.t 9)⟩, ⟨(some 11), (some (8, true)), .fa 0 (.t 10)⟩, ⟨(some 12), (some (8, true)), .load false 1 (.t 11)⟩, ⟨(some 13), (some (8, true)), .len false (.t 12)⟩, ⟨(some 14), (some (8, true)), .bin .gtr (.t 13) (.c (.int .i64 (0)))⟩, ⟨(some 15), none, .pick (.t 8) (.t 14) (.c (.bool false))⟩])
  (.keep [0, 15] (.cond (.t 15) (.seq (.reg [⟨(some 2), none, .mv (.c (.int .i64 (4)))⟩]) .ret) .skip)))
  (.keep [0] (.seq (.reg [⟨(some 16), none, .mv (.t 0)⟩, ⟨(some 17), none, .nilchk (.t 16)⟩, ⟨(some 18), none, .fa 1 (.t 17)⟩, ⟨(some 19), none, .load false 1 (.t 18)⟩, ⟨(some 2), none, .mv (.t 19)⟩]) .ret)))))⟩
def A.wire_List_Thing.L0 : AC := .post (.seq (.reg [⟨(some 12), none, .bin .lss (.t 11) (.t 10)⟩])
  (.keep [0, 2, 7, 10, 11, 12] (.seq (.cond (.t 12) .skip (.exit 0))
  (.keep [0, 2, 7, 10, 11] (.seq (.block 1 (.seq (.seq (.reg [⟨(some 13), none, .mv (.t 0)⟩, ⟨(some 14), none, .nilchk (.t 13)⟩, ⟨(some 15), none, .fa 1 (.t 14)⟩, ⟨(some 16), none, .load false 1 (.t 15)⟩, ⟨(some 17), none, .bin .neq (.t 16) (.c (.int .i64 (0)))⟩])
  (.keep [0, 2, 7, 10, 11, 17] (.cond (.t 17) (.exit 0) .skip)))
  (.keep [0, 2, 7, 10, 11] (.reg [⟨(some 18), none, .mv (.t 7)⟩, ⟨(some 19), none, .mv (.t 2)⟩, ⟨(some 20), none, .mv (.t 0)⟩, ⟨(some 21), none, .call (.t 19) [(.t 20)]⟩, ⟨(some 22), none, .bsl 4 true [(.int .i64 (0)), (.int .i64 (0)), (.sl 0 1 []), (.int .i64 (0))] 1 [(0, (.t 21))]⟩, ⟨(some 23), none, .app 4 48 (.t 18) (.t 22)⟩, ⟨(some 7), none, .mv (.t 23)⟩]))))
  (.keep [0, 2, 7, 10, 11] (.reg [⟨(some 24), none, .bin .add (.t 11) (.c (.int .i64 (1)))⟩, ⟨(some 11), none, .mv (.t 24)⟩]))))))) [0, 2, 7, 10, 11]
def A.wire_List_Thing : AFn := ⟨31, [(6, none)], (.seq (.reg [⟨(some 6), none, .mv (.c (.sl 0 1 []))⟩])
  (.keep [0, 1, 2] (.seq (.reg [⟨(some 7), none, .mv (.c (.sl 0 1 []))⟩])
  (.keep [0, 1, 2, 7] (.seq (.seq (.reg [⟨(some 8), none, .mv (.t 0)⟩, ⟨(some 9), none, .mv (.t 1)⟩, ⟨(some 10), none, .call (.c (.fn K.wire_Reader_Num [] [])) [(.t 8), (.t 9)]⟩, ⟨(some 11), none, .mv (.c (.int .i64 (0)))⟩])
  (.keep [0, 2, 7, 10, 11] (.block 0 (.loop A.wire_List_Thing.L0))))
  (.keep [0, 7] (.seq (.seq (.reg [⟨(some 25), none, .mv (.t 0)⟩, ⟨(some 26), none, .nilchk (.t 25)⟩, ⟨(some 27), none, .fa 1 (.t 26)⟩, ⟨(some 28), none, .load false 1 (.t 27)⟩, ⟨(some 29), none, .bin .neq (.t 28) (.c (.int .i64 (0)))⟩])
  (.keep [7, 29] (.cond (.t 29) (.seq (.reg [⟨(some 6), none, .mv (.c (.sl 0 1 []))⟩]) .ret) .skip)))
  (.keep [7] (.seq (.reg [⟨(some 30), none, .mv (.t 7)⟩, ⟨(some 6), none, .mv (.t 30)⟩]) .ret)))))))))⟩
def A.wire_Writer_Nums.L0 : AC := .post (.seq (.reg [⟨(some 16), none, .bin .lss (.t 15) (.t 14)⟩])
  (.keep [4, 13, 14, 15, 16] (.seq (.cond (.t 16) .skip (.exit 0))
  (.keep [4, 13, 14, 15] (.seq (.block 1 (.seq (.reg [⟨(some 17), none, .ia 1 (.t 13) (.t 15)⟩, ⟨(some 18), none, .load false 1 (.t 17)⟩, ⟨(some 6), none, .mv (.t 18)⟩])
  (.keep [4, 6, 13, 14, 15] (.reg [⟨(some 19), none, .mv (.t 4)⟩, ⟨(some 20), none, .mv (.t 6)⟩, ⟨(some 21), none, .call (.t 19) [(.t 20)]⟩]))))
  (.keep [4, 13, 14, 15] (.reg [⟨(some 22), none, .bin .add (.t 15) (.c (.int .i64 (1)))⟩, ⟨(some 15), none, .mv (.t 22)⟩]))))))) [4, 13, 14, 15]
def A.wire_Writer_Nums : AFn := ⟨23, [], (.seq (.reg [⟨(some 7), none, .mv (.t 0)⟩, ⟨(some 8), none, .mv (.t 1)⟩, ⟨(some 9), none, .len false (.t 8)⟩, ⟨(some 10), none, .call (.c (.fn K.wire_Writer_Num [] [])) [(.t 7), (.t 9)]⟩])
  (.keep [0, 1] (.seq (.reg [⟨(some 11), none, .mv (.t 0)⟩, ⟨(some 12), none, .mkfn K.wire_Writer_Num [(.t 11)] []⟩, ⟨(some 4), none, .mv (.t 12)⟩])
  (.keep [1, 4] (.seq (.reg [⟨(some 13), none, .mv (.t 1)⟩, ⟨(some 14), none, .len false (.t 13)⟩, ⟨(some 15), none, .mv (.c (.int .i64 (0)))⟩])
  (.keep [4, 13, 14, 15] (.block 0 (.loop A.wire_Writer_Nums.L0))))))))⟩
def A.wire_Writer_Bool : AFn := ⟨9, [], (.seq (.reg [⟨(some 4), none, .mv (.c (.int .i64 (0)))⟩])
  (.keep [0, 1, 4] (.seq (.seq (.reg [⟨(some 5), none, .mv (.t 1)⟩])
  (.keep [0, 4, 5] (.cond (.t 5) (.reg [⟨(some 4), none, .mv (.c (.int .i64 (1)))⟩]) .skip)))
  (.keep [0, 4] (.reg [⟨(some 6), none, .mv (.t 0)⟩, ⟨(some 7), none, .mv (.t 4)⟩, ⟨(some 8), none, .call (.c (.fn K.wire_Writer_Num [] [])) [(.t 6), (.t 7)]⟩])))))⟩
def A.wire_Writer_Num : AFn := ⟨15, [], (.draw [(.pl, ⟨(some 4), none, .mv (.t 0)⟩), (.pl, ⟨(some 5), none, .mv (.t 0)⟩), (.pl, ⟨(some 6), none, .nilchk (.t 5)⟩), (.pl, ⟨(some 7), none, .fa 0 (.t 6)⟩), (.pl, ⟨(some 8), none, .load false 1 (.t 7)⟩), (.pl, ⟨(some 9), none, .mv (.t 1)⟩), (.pl, ⟨(some 10), none, .conv .u64 (.t 9)⟩), (.pl, ⟨(some 11), none, .call (.c (.fn K.vary_Put [] [])) [(.t 10)]⟩), (.eff, ⟨(some 12), none, .app 1 1 (.t 8) (.t 11)⟩), (.pl, ⟨(some 13), none, .nilchk (.t 4)⟩), (.pl, ⟨(some 14), none, .fa 0 (.t 13)⟩), (.eff, ⟨none, none, .store 1 (.t 14) (.t 12)⟩)])⟩
def A.wire_List_int.L0 : AC := .post (.seq (.reg [⟨(some 12), none, .bin .lss (.t 11) (.t 10)⟩])
  (.keep [0, 2, 7, 10, 11, 12] (.seq (.cond (.t 12) .skip (.exit 0))
  (.keep [0, 2, 7, 10, 11] (.seq (.block 1 (.seq (.seq (.reg [⟨(some 13), none, .mv (.t 0)⟩, ⟨(some 14), none, .nilchk (.t 13)⟩, ⟨(some 15), none, .fa 1 (.t 14)⟩, ⟨(some 16), none, .load false 1 (.t 15)⟩, ⟨(some 17), none, .bin .neq (.t 16) (.c (.int .i64 (0)))⟩])
  (.keep [0, 2, 7, 10, 11, 17] (.cond (.t 17) (.exit 0) .skip)))
  (.keep [0, 2, 7, 10, 11] (.reg [⟨(some 18), none, .mv (.t 7)⟩, ⟨(some 19), none, .mv (.t 2)⟩, ⟨(some 20), none, .mv (.t 0)⟩, ⟨(some 21), none, .call (.t 19) [(.t 20)]⟩, ⟨(some 22), none, .bsl 1 false [(.int .i64 (0))] 1 [(0, (.t 21))]⟩, ⟨(some 23), none, .app 1 8 (.t 18) (.t 22)⟩, ⟨(some 7), none, .mv (.t 23)⟩]))))
  (.keep [0, 2, 7, 10, 11] (.reg [⟨(some 24), none, .bin .add (.t 11) (.c (.int .i64 (1)))⟩, ⟨(some 11), none, .mv (.t 24)⟩]))))))) [0, 2, 7, 10, 11]
def A.wire_List_int : AFn := ⟨31, [(6, none)], (.seq (.reg [⟨(some 6), none, .mv (.c (.sl 0 1 []))⟩])
  (.keep [0, 1, 2] (.seq (.reg [⟨(some 7), none, .mv (.c (.sl 0 1 []))⟩])
  (.keep [0, 1, 2, 7] (.seq (.seq (.reg [⟨(some 8), none, .mv (.t 0)⟩, ⟨(some 9), none, .mv (.t 1)⟩, ⟨(some 10), none, .call (.c (.fn K.wire_Reader_Num [] [])) [(.t 8), (.t 9)]⟩, ⟨(some 11), none, .mv (.c (.int .i64 (0)))⟩])
  (.keep [0, 2, 7, 10, 11] (.block 0 (.loop A.wire_List_int.L0))))
  (.keep [0, 7] (.seq (.seq (.reg [⟨(some 25), none, .mv (.t 0)⟩, ⟨(some 26), none, .nilchk (.t 25)⟩, ⟨(some 27), none, .fa 1 (.t 26)⟩, ⟨(some 28), none, .load false 1 (.t 27)⟩, ⟨(some 29), none, .bin .neq (.t 28) (.c (.int .i64 (0)))⟩])
  (.keep [7, 29] (.cond (.t 29) (.seq (.reg [⟨(some 6), none, .mv (.c (.sl 0 1 []))⟩]) .ret) .skip)))
  (.keep [7] (.seq (.reg [⟨(some 30), none, .mv (.t 7)⟩, ⟨(some 6), none, .mv (.t 30)⟩]) .ret)))))))))⟩
def A.wire_Reader_Nums_1 : AFn := ⟨8, [(4, none)], (.seq (.reg [⟨(some 4), none, .mv (.c (.int .i64 (0)))⟩])
  (.keep [1, 2] (.seq (.reg [⟨(some 5), none, .load false 1 (.t 1)⟩, ⟨(some 6), none, .load false 1 (.t 2)⟩, ⟨(some 7), none, .call (.t 5) [(.t 6)]⟩, ⟨(some 4), none, .mv (.t 7)⟩]) .ret)))⟩
def A.wire_List_Prod.L0 : AC := .post (.seq (.reg [⟨(some 12), none, .bin .lss (.t 11) (.t 10)⟩])
  (.keep [0, 2, 7, 10, 11, 12] (.seq (.cond (.t 12) .skip (.exit 0))
  (.keep [0, 2, 7, 10, 11] (.seq (.block 1 (.seq (.seq (.reg [⟨(some 13), none, .mv (.t 0)⟩, ⟨(some 14), none, .nilchk (.t 13)⟩, ⟨(some 15), none, .fa 1 (.t 14)⟩, ⟨(some 16), none, .load false 1 (.t 15)⟩, ⟨(some 17), none, .bin .neq (.t 16) (.c (.int .i64 (0)))⟩])
  (.keep [0, 2, 7, 10, 11, 17] (.cond (.t 17) (.exit 0) .skip)))
  (.keep [0, 2, 7, 10, 11] (.reg [⟨(some 18), none, .mv (.t 7)⟩, ⟨(some 19), none, .mv (.t 2)⟩, ⟨(some 20), none, .mv (.t 0)⟩, ⟨(some 21), none, .call (.t 19) [(.t 20)]⟩, ⟨(some 22), none, .bsl 2 true [(.int .i64 (0)), (.sl 0 1 [])] 1 [(0, (.t 21))]⟩, ⟨(some 23), none, .app 2 32 (.t 18) (.t 22)⟩, ⟨(some 7), none, .mv (.t 23)⟩]))))
  (.keep [0, 2, 7, 10, 11] (.reg [⟨(some 24), none, .bin .add (.t 11) (.c (.int .i64 (1)))⟩, ⟨(some 11), none, .mv (.t 24)⟩]))))))) [0, 2, 7, 10, 11]
def A.wire_List_Prod : AFn := ⟨31, [(6, none)], (.seq (.reg [⟨(some 6), none, .mv (.c (.sl 0 1 []))⟩])
  (.keep [0, 1, 2] (.seq (.reg [⟨(some 7), none, .mv (.c (.sl 0 1 []))⟩])
  (.keep [0, 1, 2, 7] (.seq (.seq (.reg [⟨(some 8), none, .mv (.t 0)⟩, ⟨(some 9), none, .mv (.t 1)⟩, ⟨(some 10), none, .call (.c (.fn K.wire_Reader_Num [] [])) [(.t 8), (.t 9)]⟩, ⟨(some 11), none, .mv (.c (.int .i64 (0)))⟩])
  (.keep [0, 2, 7, 10, 11] (.block 0 (.loop A.wire_List_Prod.L0))))
  (.keep [0, 7] (.seq (.seq (.reg [⟨(some 25), none, .mv (.t 0)⟩, ⟨(some 26), none, .nilchk (.t 25)⟩, ⟨(some 27), none, .fa 1 (.t 26)⟩, ⟨(some 28), none, .load false 1 (.t 27)⟩, ⟨(some 29), none, .bin .neq (.t 28) (.c (.int .i64 (0)))⟩])
  (.keep [7, 29] (.cond (.t 29) (.seq (.reg [⟨(some 6), none, .mv (.c (.sl 0 1 []))⟩]) .ret) .skip)))
  (.keep [7] (.seq (.reg [⟨(some 30), none, .mv (.t 7)⟩, ⟨(some 6), none, .mv (.t 30)⟩]) .ret)))))))))⟩
def A.wire_List_Sym.L0 : AC := .post (.seq (.reg [⟨(some 12), none, .bin .lss (.t 11) (.t 10)⟩])
  (.keep [0, 2, 7, 10, 11, 12] (.seq (.cond (.t 12) .skip (.exit 0))
  (.keep [0, 2, 7, 10, 11] (.seq (.block 1 (.seq (.seq (.reg [⟨(some 13), none, .mv (.t 0)⟩, ⟨(some 14), none, .nilchk (.t 13)⟩, ⟨(some 15), none, .fa 1 (.t 14)⟩, ⟨(some 16), none, .load false 1 (.t 15)⟩, ⟨(some 17), none, .bin .neq (.t 16) (.c (.int .i64 (0)))⟩])
  (.keep [0, 2, 7, 10, 11, 17] (.cond (.t 17) (.exit 0) .skip)))
  (.keep [0, 2, 7, 10, 11] (.reg [⟨(some 18), none, .mv (.t 7)⟩, ⟨(some 19), none, .mv (.t 2)⟩, ⟨(some 20), none, .mv (.t 0)⟩, ⟨(some 21), none, .call (.t 19) [(.t 20)]⟩, ⟨(some 22), none, .bsl 2 true [(.bool false), (.int .i64 (0))] 1 [(0, (.t 21))]⟩, ⟨(some 23), none, .app 2 16 (.t 18) (.t 22)⟩, ⟨(some 7), none, .mv (.t 23)⟩]))))
  (.keep [0, 2, 7, 10, 11] (.reg [⟨(some 24), none, .bin .add (.t 11) (.c (.int .i64 (1)))⟩, ⟨(some 11), none, .mv (.t 24)⟩]))))))) [0, 2, 7, 10, 11]
def A.wire_List_Sym : AFn := ⟨31, [(6, none)], (.seq (.reg [⟨(some 6), none, .mv (.c (.sl 0 1 []))⟩])
  (.keep [0, 1, 2] (.seq (.reg [⟨(some 7), none, .mv (.c (.sl 0 1 []))⟩])
  (.keep [0, 1, 2, 7] (.seq (.seq (.reg [⟨(some 8), none, .mv (.t 0)⟩, ⟨(some 9), none, .mv (.t 1)⟩, ⟨(some 10), none, .call (.c (.fn K.wire_Reader_Num [] [])) [(.t 8), (.t 9)]⟩, ⟨(some 11), none, .mv (.c (.int .i64 (0)))⟩])
  (.keep [0, 2, 7, 10, 11] (.block 0 (.loop A.wire_List_Sym.L0))))
  (.keep [0, 7] (.seq (.seq (.reg [⟨(some 25), none, .mv (.t 0)⟩, ⟨(some 26), none, .nilchk (.t 25)⟩, ⟨(some 27), none, .fa 1 (.t 26)⟩, ⟨(some 28), none, .load false 1 (.t 27)⟩, ⟨(some 29), none, .bin .neq (.t 28) (.c (.int .i64 (0)))⟩])
  (.keep [7, 29] (.cond (.t 29) (.seq (.reg [⟨(some 6), none, .mv (.c (.sl 0 1 []))⟩]) .ret) .skip)))
  (.keep [7] (.seq (.reg [⟨(some 30), none, .mv (.t 7)⟩, ⟨(some 6), none, .mv (.t 30)⟩]) .ret)))))))))⟩
def A.wire_List_Edit.L0 : AC := .post (.seq (.reg [⟨(some 12), none, .bin .lss (.t 11) (.t 10)⟩])
  (.keep [0, 2, 7, 10, 11, 12] (.seq (.cond (.t 12) .skip (.exit 0))
  (.keep [0, 2, 7, 10, 11] (.seq (.block 1 (.seq (.seq (.reg [⟨(some 13), none, .mv (.t 0)⟩, ⟨(some 14), none, .nilchk (.t 13)⟩, ⟨(some 15), none, .fa 1 (.t 14)⟩, ⟨(some 16), none, .load false 1 (.t 15)⟩, ⟨(some 17), none, .bin .neq (.t 16) (.c (.int .i64 (0)))⟩])
  (.keep [0, 2, 7, 10, 11, 17] (.cond (.t 17) (.exit 0) .skip)))
  (.keep [0, 2, 7, 10, 11] (.reg [⟨(some 18), none, .mv (.t 7)⟩, ⟨(some 19), none, .mv (.t 2)⟩, ⟨(some 20), none, .mv (.t 0)⟩, ⟨(some 21), none, .call (.t 19) [(.t 20)]⟩, ⟨(some 22), none, .bsl 3 true [(.int .i64 (0)), (.bool false), (.int .i64 (0))] 1 [(0, (.t 21))]⟩, ⟨(some 23), none, .app 3 24 (.t 18) (.t 22)⟩, ⟨(some 7), none, .mv (.t 23)⟩]))))
  (.keep [0, 2, 7, 10, 11] (.reg [⟨(some 24), none, .bin .add (.t 11) (.c (.int .i64 (1)))⟩, ⟨(some 11), none, .mv (.t 24)⟩]))))))) [0, 2, 7, 10, 11]
def A.wire_List_Edit : AFn := ⟨31, [(6, none)], (.seq (.reg [⟨(some 6), none, .mv (.c (.sl 0 1 []))⟩])
  (.keep [0, 1, 2] (.seq (.reg [⟨(some 7), none, .mv (.c (.sl 0 1 []))⟩])
  (.keep [0, 1, 2, 7] (.seq (.seq (.reg [⟨(some 8), none, .mv (.t 0)⟩, ⟨(some 9), none, .mv (.t 1)⟩, ⟨(some 10), none, .call (.c (.fn K.wire_Reader_Num [] [])) [(.t 8), (.t 9)]⟩, ⟨(some 11), none, .mv (.c (.int .i64 (0)))⟩])
  (.keep [0, 2, 7, 10, 11] (.block 0 (.loop A.wire_List_Edit.L0))))
  (.keep [0, 7] (.seq (.seq (.reg [⟨(some 25), none, .mv (.t 0)⟩, ⟨(some 26), none, .nilchk (.t 25)⟩, ⟨(some 27), none, .fa 1 (.t 26)⟩, ⟨(some 28), none, .load false 1 (.t 27)⟩, ⟨(some 29), none, .bin .neq (.t 28) (.c (.int .i64 (0)))⟩])
  (.keep [7, 29] (.cond (.t 29) (.seq (.reg [⟨(some 6), none, .mv (.c (.sl 0 1 []))⟩]) .ret) .skip)))
  (.keep [7] (.seq (.reg [⟨(some 30), none, .mv (.t 7)⟩, ⟨(some 6), none, .mv (.t 30)⟩]) .ret)))))))))⟩
def A.wire_List_Item.L0 : AC := .post (.seq (.reg [⟨(some 12), none, .bin .lss (.t 11) (.t 10)⟩])
  (.keep [0, 2, 7, 10, 11, 12] (.seq (.cond (.t 12) .skip (.exit 0))
  (.keep [0, 2, 7, 10, 11] (.seq (.block 1 (.seq (.seq (.reg [⟨(some 13), none, .mv (.t 0)⟩, ⟨(some 14), none, .nilchk (.t 13)⟩, ⟨(some 15), none, .fa 1 (.t 14)⟩, ⟨(some 16), none, .load false 1 (.t 15)⟩, ⟨(some 17), none, .bin .neq (.t 16) (.c (.int .i64 (0)))⟩])
  (.keep [0, 2, 7, 10, 11, 17] (.cond (.t 17) (.exit 0) .skip)))
  (.keep [0, 2, 7, 10, 11] (.reg [⟨(some 18), none, .mv (.t 7)⟩, ⟨(some 19), none, .mv (.t 2)⟩, ⟨(some 20), none, .mv (.t 0)⟩, ⟨(some 21), none, .call (.t 19) [(.t 20)]⟩, ⟨(some 22), none, .bsl 1 false [(.sl 0 1 [])] 1 [(0, (.t 21))]⟩, ⟨(some 23), none, .app 1 24 (.t 18) (.t 22)⟩, ⟨(some 7), none, .mv (.t 23)⟩]))))
  (.keep [0, 2, 7, 10, 11] (.reg [⟨(some 24), none, .bin .add (.t 11) (.c (.int .i64 (1)))⟩, ⟨(some 11), none, .mv (.t 24)⟩]))))))) [0, 2, 7, 10, 11]
def A.wire_List_Item : AFn := ⟨31, [(6, none)], (.seq (.reg [⟨(some 6), none, .mv (.c (.sl 0 1 []))⟩])
  (.keep [0, 1, 2] (.seq (.reg [⟨(some 7), none, .mv (.c (.sl 0 1 []))⟩])
  (.keep [0, 1, 2, 7] (.seq (.seq (.reg [⟨(some 8), none, .mv (.t 0)⟩, ⟨(some 9), none, .mv (.t 1)⟩, ⟨(some 10), none, .call (.c (.fn K.wire_Reader_Num [] [])) [(.t 8), (.t 9)]⟩, ⟨(some 11), none, .mv (.c (.int .i64 (0)))⟩])
  (.keep [0, 2, 7, 10, 11] (.block 0 (.loop A.wire_List_Item.L0))))
  (.keep [0, 7] (.seq (.seq (.reg [⟨(some 25), none, .mv (.t 0)⟩, ⟨(some 26), none, .nilchk (.t 25)⟩, ⟨(some 27), none, .fa 1 (.t 26)⟩, ⟨(some 28), none, .load false 1 (.t 27)⟩, ⟨(some 29), none, .bin .neq (.t 28) (.c (.int .i64 (0)))⟩])
  (.keep [7, 29] (.cond (.t 29) (.seq (.reg [⟨(some 6), none, .mv (.c (.sl 0 1 []))⟩]) .ret) .skip)))
  (.keep [7] (.seq (.reg [⟨(some 30), none, .mv (.t 7)⟩, ⟨(some 6), none, .mv (.t 30)⟩]) .ret)))))))))⟩
def A.wire_List_int_2.L0 : AC := .post (.seq (.reg [⟨(some 12), none, .bin .lss (.t 11) (.t 10)⟩])
  (.keep [0, 2, 7, 10, 11, 12] (.seq (.cond (.t 12) .skip (.exit 0))
  (.keep [0, 2, 7, 10, 11] (.seq (.block 1 (.seq (.seq (.reg [⟨(some 13), none, .mv (.t 0)⟩, ⟨(some 14), none, .nilchk (.t 13)⟩, ⟨(some 15), none, .fa 1 (.t 14)⟩, ⟨(some 16), none, .load false 1 (.t 15)⟩, ⟨(some 17), none, .bin .neq (.t 16) (.c (.int .i64 (0)))⟩])
  (.keep [0, 2, 7, 10, 11, 17] (.cond (.t 17) (.exit 0) .skip)))
  (.keep [0, 2, 7, 10, 11] (.reg [⟨(some 18), none, .mv (.t 7)⟩, ⟨(some 19), none, .mv (.t 2)⟩, ⟨(some 20), none, .mv (.t 0)⟩, ⟨(some 21), none, .call (.t 19) [(.t 20)]⟩, ⟨(some 22), none, .bsl 1 false [(.sl 0 1 [])] 1 [(0, (.t 21))]⟩, ⟨(some 23), none, .app 1 24 (.t 18) (.t 22)⟩, ⟨(some 7), none, .mv (.t 23)⟩]))))
  (.keep [0, 2, 7, 10, 11] (.reg [⟨(some 24), none, .bin .add (.t 11) (.c (.int .i64 (1)))⟩, ⟨(some 11), none, .mv (.t 24)⟩]))))))) [0, 2, 7, 10, 11]
def A.wire_List_int_2 : AFn := ⟨31, [(6, none)], (.seq (.reg [⟨(some 6), none, .mv (.c (.sl 0 1 []))⟩])
  (.keep [0, 1, 2] (.seq (.reg [⟨(some 7), none, .mv (.c (.sl 0 1 []))⟩])
  (.keep [0, 1, 2, 7] (.seq (.seq (.reg [⟨(some 8), none, .mv (.t 0)⟩, ⟨(some 9), none, .mv (.t 1)⟩, ⟨(some 10), none, .call (.c (.fn K.wire_Reader_Num [] [])) [(.t 8), (.t 9)]⟩, ⟨(some 11), none, .mv (.c (.int .i64 (0)))⟩])
  (.keep [0, 2, 7, 10, 11] (.block 0 (.loop A.wire_List_int_2.L0))))
  (.keep [0, 7] (.seq (.seq (.reg [⟨(some 25), none, .mv (.t 0)⟩, ⟨(some 26), none, .nilchk (.t 25)⟩, ⟨(some 27), none, .fa 1 (.t 26)⟩, ⟨(some 28), none, .load false 1 (.t 27)⟩, ⟨(some 29), none, .bin .neq (.t 28) (.c (.int .i64 (0)))⟩])
  (.keep [7, 29] (.cond (.t 29) (.seq (.reg [⟨(some 6), none, .mv (.c (.sl 0 1 []))⟩]) .ret) .skip)))
  (.keep [7] (.seq (.reg [⟨(some 30), none, .mv (.t 7)⟩, ⟨(some 6), none, .mv (.t 30)⟩]) .ret)))))))))⟩
def A.wire_List_Item_2.L0 : AC := .post (.seq (.reg [⟨(some 12), none, .bin .lss (.t 11) (.t 10)⟩])
  (.keep [0, 2, 7, 10, 11, 12] (.seq (.cond (.t 12) .skip (.exit 0))
  (.keep [0, 2, 7, 10, 11] (.seq (.block 1 (.seq (.seq (.reg [⟨(some 13), none, .mv (.t 0)⟩, ⟨(some 14), none, .nilchk (.t 13)⟩, ⟨(some 15), none, .fa 1 (.t 14)⟩, ⟨(some 16), none, .load false 1 (.t 15)⟩, ⟨(some 17), none, .bin .neq (.t 16) (.c (.int .i64 (0)))⟩])
  (.keep [0, 2, 7, 10, 11, 17] (.cond (.t 17) (.exit 0) .skip)))
  (.keep [0, 2, 7, 10, 11] (.reg [⟨(some 18), none, .mv (.t 7)⟩, ⟨(some 19), none, .mv (.t 2)⟩, ⟨(some 20), none, .mv (.t 0)⟩, ⟨(some 21), none, .call (.t 19) [(.t 20)]⟩, ⟨(some 22), none, .bsl 3 true [(.int .i64 (0)), (.int .i64 (0)), (.int .i64 (0))] 1 [(0, (.t 21))]⟩, ⟨(some 23), none, .app 3 24 (.t 18) (.t 22)⟩, ⟨(some 7), none, .mv (.t 23)⟩]))))
  (.keep [0, 2, 7, 10, 11] (.reg [⟨(some 24), none, .bin .add (.t 11) (.c (.int .i64 (1)))⟩, ⟨(some 11), none, .mv (.t 24)⟩]))))))) [0, 2, 7, 10, 11]
def A.wire_List_Item_2 : AFn := ⟨31, [(6, none)], (.seq (.reg [⟨(some 6), none, .mv (.c (.sl 0 1 []))⟩])
  (.keep [0, 1, 2] (.seq (.reg [⟨(some 7), none, .mv (.c (.sl 0 1 []))⟩])
  (.keep [0, 1, 2, 7] (.seq (.seq (.reg [⟨(some 8), none, .mv (.t 0)⟩, ⟨(some 9), none, .mv (.t 1)⟩, ⟨(some 10), none, .call (.c (.fn K.wire_Reader_Num [] [])) [(.t 8), (.t 9)]⟩, ⟨(some 11), none, .mv (.c (.int .i64 (0)))⟩])
  (.keep [0, 2, 7, 10, 11] (.block 0 (.loop A.wire_List_Item_2.L0))))
  (.keep [0, 7] (.seq (.seq (.reg [⟨(some 25), none, .mv (.t 0)⟩, ⟨(some 26), none, .nilchk (.t 25)⟩, ⟨(some 27), none, .fa 1 (.t 26)⟩, ⟨(some 28), none, .load false 1 (.t 27)⟩, ⟨(some 29), none, .bin .neq (.t 28) (.c (.int .i64 (0)))⟩])
  (.keep [7, 29] (.cond (.t 29) (.seq (.reg [⟨(some 6), none, .mv (.c (.sl 0 1 []))⟩]) .ret) .skip)))
  (.keep [7] (.seq (.reg [⟨(some 30), none, .mv (.t 7)⟩, ⟨(some 6), none, .mv (.t 30)⟩]) .ret)))))))))⟩
end Go.Proofs.Ytbbmglginkabfaa.Al
