/-
  The functions of probateref02 as abstract code, written by a program of this claim (gen.py). Conditions: none.
-/
import Derived.Test.YtpnbdnmmfaomlaaAlKeys
namespace Go.Proofs.Ytpnbdnmmfaomlaa.Al
def A.probateref02_Nums.L0 : AC := .post (.seq (.seq (.reg [⟨(some 9), none, .mv (.t 4)⟩, ⟨(some 10), none, .mv (.t 0)⟩, ⟨(some 11), none, .len false (.t 10)⟩, ⟨(some 12), none, .bin .lss (.t 9) (.t 11)⟩])
  (.keep [0, 3, 4, 12] (.cond (.t 12) .skip (.exit 0))))
  (.keep [0, 3, 4] (.seq (.block 1 (.reg [⟨(some 15), none, .mv (.t 3)⟩, ⟨(some 16), none, .mv (.t 0)⟩, ⟨(some 17), none, .mv (.t 4)⟩, ⟨(some 18), none, .ia 1 (.t 16) (.t 17)⟩, ⟨(some 19), none, .load false 1 (.t 18)⟩, ⟨(some 20), none, .conv .u64 (.t 19)⟩, ⟨(some 21), none, .call (.c (.fn K.probateref01_Put [] [])) [(.t 20)]⟩, ⟨(some 22), none, .app 1 1 (.t 15) (.t 21)⟩, ⟨(some 3), none, .mv (.t 22)⟩]))
  (.keep [0, 3, 4] (.reg [⟨(some 13), none, .mv (.t 4)⟩, ⟨(some 14), none, .bin .add (.t 13) (.c (.int .i64 (1)))⟩, ⟨(some 4), none, .mv (.t 14)⟩]))))) [0, 3, 4]
def A.probateref02_Nums : AFn := ⟨24, [(2, none)], (.seq (.reg [⟨(some 2), none, .mv (.c (.sl 0 1 []))⟩])
  (.keep [0] (.seq (.reg [⟨(some 5), none, .mv (.t 0)⟩, ⟨(some 6), none, .len false (.t 5)⟩, ⟨(some 7), none, .conv .u64 (.t 6)⟩, ⟨(some 8), none, .call (.c (.fn K.probateref01_Put [] [])) [(.t 7)]⟩, ⟨(some 3), none, .mv (.t 8)⟩])
  (.keep [0, 3] (.seq (.seq (.reg [⟨(some 4), none, .mv (.c (.int .i64 (0)))⟩])
  (.keep [0, 3, 4] (.block 0 (.loop A.probateref02_Nums.L0))))
  (.keep [3] (.seq (.reg [⟨(some 23), none, .mv (.t 3)⟩, ⟨(some 2), none, .mv (.t 23)⟩]) .ret)))))))⟩
def A.probateref02_Reader_Num : AFn := ⟨46, [(4, none)], (.seq (.reg [⟨(some 4), none, .mv (.c (.int .i64 (0)))⟩])
  (.keep [0, 1] (.seq (.seq (.reg [⟨(some 8), none, .mv (.t 0)⟩, ⟨(some 9), none, .nilchk (.t 8)⟩, ⟨(some 10), none, .fa 1 (.t 9)⟩, ⟨(some 11), none, .load false 1 (.t 10)⟩, ⟨(some 12), none, .bin .neq (.t 11) (.c (.int .i64 (0)))⟩])
  (.keep [0, 1, 12] (.cond (.t 12) (.seq (.reg [⟨(some 4), none, .mv (.c (.int .i64 (0)))⟩]) .ret) .skip)))
  (.keep [0, 1] (.seq (.reg [⟨(some 14), none, .mv (.t 0)⟩, ⟨(some 15), none, .nilchk (.t 14)⟩, ⟨(some 16), none, .fa 0 (.t 15)⟩, ⟨(some 17), none, .load false 1 (.t 16)⟩, ⟨(some 18), none, .call (.c (.fn K.probateref01_Take [] [])) [(.t 17)]⟩, ⟨(some 13), none, .mv (.t 18)⟩, ⟨(some 19), none, .ext (.t 13) 0⟩, ⟨(some 20), none, .ext (.t 13) 1⟩, ⟨(some 21), none, .ext (.t 13) 2⟩, ⟨(some 5), none, .mv (.t 19)⟩, ⟨(some 6), none, .mv (.t 20)⟩, ⟨(some 7), none, .mv (.t 21)⟩])
  (.keep [0, 1, 5, 6, 7] (.seq (.seq (.reg [⟨(some 22), none, .mv (.t 7)⟩, ⟨(some 23), none, .bin .neq (.t 22) (.c (.int .i64 (0)))⟩])
  (.keep [0, 1, 5, 6, 7, 23] (.cond (.t 23) (.seq (.reg [⟨(some 24), none, .mv (.t 0)⟩, ⟨(some 25), none, .mv (.t 7)⟩, ⟨(some 26), none, .nilchk (.t 24)⟩, ⟨(some 27), none, .fa 1 (.t 26)⟩, ⟨none, none, .store 1 (.t 27) (.t 25)⟩])
  (.keep [] (.seq (.reg [⟨(some 4), none, .mv (.c (.int .i64 (0)))⟩]) .ret))) .skip)))
  (.keep [0, 1, 5, 6] (.seq (.seq (.reg [⟨(some 28), none, .mv (.t 5)⟩, ⟨(some 29), none, .mv (.t 1)⟩, ⟨(some 30), none, .conv .u64 (.t 29)⟩, ⟨(some 31), none, .bin .gtr (.t 28) (.t 30)⟩])
  (.keep [0, 5, 6, 31] (.cond (.t 31) (.seq (.reg [⟨(some 32), none, .mv (.t 0)⟩, ⟨(some 33), none, .nilchk (.t 32)⟩, ⟨(some 34), none, .fa 1 (.t 33)⟩, ⟨none, none, .store 1 (.t 34) (.c (.int .i64 (5)))⟩])
  (.keep [] (.seq (.reg [⟨(some 4), none, .mv (.c (.int .i64 (0)))⟩]) .ret))) .skip)))
  (.keep [0, 5, 6] (.seq (.reg [⟨(some 35), none, .mv (.t 0)⟩, ⟨(some 36), none, .mv (.t 0)⟩, ⟨(some 37), none, .nilchk (.t 36)⟩, ⟨(some 38), none, .fa 0 (.t 37)⟩, ⟨(some 39), none, .load false 1 (.t 38)⟩, ⟨(some 40), none, .mv (.t 6)⟩, ⟨(some 41), none, .slc 1 (.t 39) (some (.t 40)) none⟩, ⟨(some 42), none, .nilchk (.t 35)⟩, ⟨(some 43), none, .fa 0 (.t 42)⟩, ⟨none, none, .store 1 (.t 43) (.t 41)⟩])
  (.keep [5] (.seq (.reg [⟨(some 44), none, .mv (.t 5)⟩, ⟨(some 45), none, .conv .i64 (.t 44)⟩, ⟨(some 4), none, .mv (.t 45)⟩]) .ret)))))))))))))⟩
def A.probateref02_Same.L0 : AC := .post (.seq (.seq (.reg [⟨(some 11), none, .mv (.t 5)⟩, ⟨(some 12), none, .mv (.t 0)⟩, ⟨(some 13), none, .len false (.t 12)⟩, ⟨(some 14), none, .bin .lss (.t 11) (.t 13)⟩])
  (.keep [0, 1, 5, 14] (.cond (.t 14) .skip (.exit 0))))
  (.keep [0, 1, 5] (.seq (.block 1 (.seq (.draw [(.pl, ⟨(some 17), none, .mv (.t 0)⟩), (.pl, ⟨(some 18), none, .mv (.t 5)⟩), (.pl, ⟨(some 19), none, .ia 1 (.t 17) (.t 18)⟩), (.pl, ⟨(some 20), none, .load false 1 (.t 19)⟩), (.pl, ⟨(some 21), none, .mv (.t 1)⟩), (.pl, ⟨(some 22), none, .mv (.t 5)⟩), (.pl, ⟨(some 23), none, .ia 1 (.t 21) (.t 22)⟩), (.pl, ⟨(some 24), none, .load false 1 (.t 23)⟩), (.pl, ⟨(some 25), none, .bin .neq (.t 20) (.t 24)⟩)])
  (.keep [0, 1, 5, 25] (.cond (.t 25) (.seq (.reg [⟨(some 4), none, .mv (.c (.bool false))⟩]) .ret) .skip))))
  (.keep [0, 1, 5] (.reg [⟨(some 15), none, .mv (.t 5)⟩, ⟨(some 16), none, .bin .add (.t 15) (.c (.int .i64 (1)))⟩, ⟨(some 5), none, .mv (.t 16)⟩]))))) [0, 1, 5]
def A.probateref02_Same : AFn := ⟨26, [(4, none)], (.seq (.reg [⟨(some 4), none, .mv (.c (.bool false))⟩])
  (.keep [0, 1] (.seq (.seq (.reg [⟨(some 6), none, .mv (.t 0)⟩, ⟨(some 7), none, .len false (.t 6)⟩, ⟨(some 8), none, .mv (.t 1)⟩, ⟨(some 9), none, .len false (.t 8)⟩, ⟨(some 10), none, .bin .neq (.t 7) (.t 9)⟩])
  (.keep [0, 1, 10] (.cond (.t 10) (.seq (.reg [⟨(some 4), none, .mv (.c (.bool false))⟩]) .ret) .skip)))
  (.keep [0, 1] (.seq (.seq (.reg [⟨(some 5), none, .mv (.c (.int .i64 (0)))⟩])
  (.keep [0, 1, 5] (.block 0 (.loop A.probateref02_Same.L0))))
  (.keep [] (.seq (.reg [⟨(some 4), none, .mv (.c (.bool true))⟩]) .ret)))))))⟩
def A.probateref02_Reader_Nums.L0 : AC := .post (.seq (.seq (.reg [⟨(some 14), none, .mv (.t 9)⟩, ⟨(some 15), none, .mv (.t 8)⟩, ⟨(some 16), none, .bin .lss (.t 14) (.t 15)⟩, ⟨(some 17), none, .mv (.t 16)⟩, ⟨(some 18), (some (17, true)), .mv (.t 0)⟩, ⟨(some 19), (some (17, true)), .nilchk (.t 18)⟩, ⟨(some 20), (some (17, true)), .fa 1 (.t 19)⟩, ⟨(some 21), (some (17, true)), .load false 1 (.t 20)⟩, ⟨(some 22), (some (17, true)), .bin .eql (.t 21) (.c (.int .i64 (0)))⟩, ⟨(some 23), none, .pick (.t 17) (.t 22) (.c (.bool false))⟩])
  (.keep [0, 2, 7, 8, 9, 23] (.cond (.t 23) .skip (.exit 0))))
  (.keep [0, 2, 7, 8, 9] (.seq (.block 1 (.reg [⟨(some 26), none, .mv (.t 7)⟩, ⟨(some 27), none, .mv (.t 0)⟩, ⟨(some 28), none, .mv (.t 2)⟩, ⟨(some 29), none, .call (.c (.fn K.probateref02_Reader_Num [] [])) [(.t 27), (.t 28)]⟩, ⟨(some 30), none, .bsl 1 false [(.int .i64 (0))] 1 [(0, (.t 29))]⟩, ⟨(some 31), none, .app 1 8 (.t 26) (.t 30)⟩, ⟨(some 7), none, .mv (.t 31)⟩]))
  (.keep [0, 2, 7, 8, 9] (.reg [⟨(some 24), none, .mv (.t 9)⟩, ⟨(some 25), none, .bin .add (.t 24) (.c (.int .i64 (1)))⟩, ⟨(some 9), none, .mv (.t 25)⟩]))))) [0, 2, 7, 8, 9]
def A.probateref02_Reader_Nums : AFn := ⟨38, [(6, none)], (.seq (.reg [⟨(some 6), none, .mv (.c (.sl 0 1 []))⟩])
  (.keep [0, 1, 2] (.seq (.reg [⟨(some 10), none, .bsl 1 false [(.int .i64 (0))] 0 []⟩, ⟨(some 7), none, .mv (.t 10)⟩])
  (.keep [0, 1, 2, 7] (.seq (.reg [⟨(some 11), none, .mv (.t 0)⟩, ⟨(some 12), none, .mv (.t 1)⟩, ⟨(some 13), none, .call (.c (.fn K.probateref02_Reader_Num [] [])) [(.t 11), (.t 12)]⟩, ⟨(some 8), none, .mv (.t 13)⟩])
  (.keep [0, 2, 7, 8] (.seq (.seq (.reg [⟨(some 9), none, .mv (.c (.int .i64 (0)))⟩])
  (.keep [0, 2, 7, 8, 9] (.block 0 (.loop A.probateref02_Reader_Nums.L0))))
  (.keep [0, 7] (.seq (.seq (.reg [⟨(some 32), none, .mv (.t 0)⟩, ⟨(some 33), none, .nilchk (.t 32)⟩, ⟨(some 34), none, .fa 1 (.t 33)⟩, ⟨(some 35), none, .load false 1 (.t 34)⟩, ⟨(some 36), none, .bin .neq (.t 35) (.c (.int .i64 (0)))⟩])
  (.keep [7, 36] (.cond (.t 36) (.seq (.reg [⟨(some 6), none, .mv (.c (.sl 0 1 []))⟩]) .ret) .skip)))
  (.keep [7] (.seq (.reg [⟨(some 37), none, .mv (.t 7)⟩, ⟨(some 6), none, .mv (.t 37)⟩]) .ret)))))))))))⟩
def A.probateref02_Reader_Wrong : AFn := ⟨13, [], (.seq (.reg [⟨(some 4), none, .mv (.t 0)⟩, ⟨(some 5), none, .nilchk (.t 4)⟩, ⟨(some 6), none, .fa 1 (.t 5)⟩, ⟨(some 7), none, .load false 1 (.t 6)⟩, ⟨(some 8), none, .bin .eql (.t 7) (.c (.int .i64 (0)))⟩])
  (.keep [0, 1, 8] (.cond (.t 8) (.reg [⟨(some 9), none, .mv (.t 0)⟩, ⟨(some 10), none, .mv (.t 1)⟩, ⟨(some 11), none, .nilchk (.t 9)⟩, ⟨(some 12), none, .fa 1 (.t 11)⟩, ⟨none, none, .store 1 (.t 12) (.t 10)⟩]) .skip)))⟩
def A.probateref02_Reader_Left : AFn := ⟨13, [(2, none)], (.seq (.reg [⟨(some 2), none, .mv (.c (.int .i64 (0)))⟩])
  (.keep [0] (.seq (.seq (.reg [⟨(some 3), none, .mv (.t 0)⟩, ⟨(some 4), none, .nilchk (.t 3)⟩, ⟨(some 5), none, .fa 1 (.t 4)⟩, ⟨(some 6), none, .load false 1 (.t 5)⟩, ⟨(some 7), none, .bin .neq (.t 6) (.c (.int .i64 (0)))⟩])
  (.keep [0, 7] (.cond (.t 7) (.seq (.reg [⟨(some 2), none, .mv (.c (.int .i64 (0)))⟩]) .ret) .skip)))
  (.keep [0] (.seq (.reg [⟨(some 8), none, .mv (.t 0)⟩, ⟨(some 9), none, .nilchk (.t 8)⟩, ⟨(some 10), none, .fa 0 (.t 9)⟩, ⟨(some 11), none, .load false 1 (.t 10)⟩, ⟨(some 12), none, .len false (.t 11)⟩, ⟨(some 2), none, .mv (.t 12)⟩]) .ret)))))⟩
def A.probateref02_Reader_End : AFn := ⟨20, [(2, none)], (.seq (.reg [⟨(some 2), none, .mv (.c (.int .i64 (0)))⟩])
  (.keep [0] (.seq (.seq (.reg [⟨(some 3), none, .mv (.t 0)⟩, ⟨(some 4), none, .nilchk (.t 3)⟩, ⟨(some 5), none, .fa 1 (.t 4)⟩, ⟨(some 6), none, .load false 1 (.t 5)⟩, ⟨(some 7), none, .bin .eql (.t 6) (.c (.int .i64 (0)))⟩, ⟨(some 8), none, .mv (.t 7)⟩, ⟨(some 9), (some (8, true)), .mv (.t 0)⟩, ⟨(some 10), (some (8, true)), .nilchk (.t 9)⟩, ⟨(some 11), (some (8, true)), .fa 0 (.t 10)⟩, ⟨(some 12), (some (8, true)), .load false 1 (.t 11)⟩, ⟨(some 13), (some (8, true)), .len false (.t 12)⟩, ⟨(some 14), (some (8, true)), .bin .gtr (.t 13) (.c (.int .i64 (0)))⟩, ⟨(some 15), none, .pick (.t 8) (.t 14) (.c (.bool false))⟩])
  (.keep [0, 15] (.cond (.t 15) (.seq (.reg [⟨(some 2), none, .mv (.c (.int .i64 (4)))⟩]) .ret) .skip)))
  (.keep [0] (.seq (.reg [⟨(some 16), none, .mv (.t 0)⟩, ⟨(some 17), none, .nilchk (.t 16)⟩, ⟨(some 18), none, .fa 1 (.t 17)⟩, ⟨(some 19), none, .load false 1 (.t 18)⟩, ⟨(some 2), none, .mv (.t 19)⟩]) .ret)))))⟩
end Go.Proofs.Ytpnbdnmmfaomlaa.Al
