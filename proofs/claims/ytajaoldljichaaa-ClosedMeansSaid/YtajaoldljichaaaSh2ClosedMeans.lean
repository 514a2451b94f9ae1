/-
  What the law ClosedMeans needs of this claim's texts (part 2). Conditions: each theorem's own.
-/
import Derived.Test.YtajaoldljichaaaAlKeys
import Derived.Test.YtajaoldljichaaaAlC
import Derived.Test.YtajaoldljichaaaAlA
import Derived.Test.YtajaoldljichaaaAlB
import Derived.Test.YtajaoldljichaaaSh1ClosedMeans
namespace Go.Proofs.Ytajaoldljichaaa.Al
def A.tree_Replay : AFn := ⟨21, [(4, none), (5, none)], (.seq (.reg [⟨(some 2), none, .box (.t 0)⟩, ⟨(some 4), none, .mv (.c (.sl 0 1 []))⟩, ⟨(some 5), none, .mv (.c (.int .i64 (0)))⟩])
  (.keep [1, 2] (.seq (.reg [⟨(some 9), none, .load true 4 (.t 2)⟩, ⟨(some 10), none, .mv (.t 1)⟩, ⟨(some 11), none, .call (.c (.fn K.tree_replay [] [])) [(.t 9), (.t 10)]⟩, ⟨(some 8), none, .mv (.t 11)⟩, ⟨(some 12), none, .ext (.t 8) 0⟩, ⟨(some 13), none, .ext (.t 8) 1⟩, ⟨(some 6), none, .mv (.t 12)⟩, ⟨(some 7), none, .mv (.t 13)⟩])
  (.keep [6, 7] (.seq (.seq (.reg [⟨(some 14), none, .mv (.t 7)⟩, ⟨(some 15), none, .bin .neq (.t 14) (.c (.int .i64 (0)))⟩])
  (.keep [6, 7, 15] (.cond (.t 15) (.seq (.reg [⟨(some 16), none, .mv (.t 7)⟩, ⟨(some 4), none, .mv (.c (.sl 0 1 []))⟩, ⟨(some 5), none, .mv (.t 16)⟩]) .ret) .skip)))
  (.keep [6] (.seq (.reg [⟨(some 17), none, .mv (.t 6)⟩, ⟨(some 18), none, .nilchk (.t 17)⟩, ⟨(some 19), none, .fa 5 (.t 18)⟩, ⟨(some 20), none, .load false 1 (.t 19)⟩, ⟨(some 4), none, .mv (.t 20)⟩, ⟨(some 5), none, .mv (.c (.int .i64 (0)))⟩]) .ret)))))))⟩
def A.tree_Nodes : AFn := ⟨21, [(4, none), (5, none)], (.seq (.reg [⟨(some 2), none, .box (.t 0)⟩, ⟨(some 4), none, .mv (.c (.sl 0 1 []))⟩, ⟨(some 5), none, .mv (.c (.int .i64 (0)))⟩])
  (.keep [1, 2] (.seq (.reg [⟨(some 9), none, .load true 4 (.t 2)⟩, ⟨(some 10), none, .mv (.t 1)⟩, ⟨(some 11), none, .call (.c (.fn K.tree_replay [] [])) [(.t 9), (.t 10)]⟩, ⟨(some 8), none, .mv (.t 11)⟩, ⟨(some 12), none, .ext (.t 8) 0⟩, ⟨(some 13), none, .ext (.t 8) 1⟩, ⟨(some 6), none, .mv (.t 12)⟩, ⟨(some 7), none, .mv (.t 13)⟩])
  (.keep [6, 7] (.seq (.seq (.reg [⟨(some 14), none, .mv (.t 7)⟩, ⟨(some 15), none, .bin .neq (.t 14) (.c (.int .i64 (0)))⟩])
  (.keep [6, 7, 15] (.cond (.t 15) (.seq (.reg [⟨(some 16), none, .mv (.t 7)⟩, ⟨(some 4), none, .mv (.c (.sl 0 1 []))⟩, ⟨(some 5), none, .mv (.t 16)⟩]) .ret) .skip)))
  (.keep [6] (.seq (.reg [⟨(some 17), none, .mv (.t 6)⟩, ⟨(some 18), none, .nilchk (.t 17)⟩, ⟨(some 19), none, .fa 6 (.t 18)⟩, ⟨(some 20), none, .load false 1 (.t 19)⟩, ⟨(some 4), none, .mv (.t 20)⟩, ⟨(some 5), none, .mv (.c (.int .i64 (0)))⟩]) .ret)))))))⟩
def A.tree_replay.L0 : AC := .post (.seq (.reg [⟨(some 35), none, .bin .lss (.t 34) (.t 33)⟩])
  (.keep [2, 6, 32, 33, 34, 35] (.seq (.cond (.t 35) .skip (.exit 1))
  (.keep [2, 6, 32, 33, 34] (.seq (.block 2 (.seq (.reg [⟨(some 36), none, .ia 1 (.t 32) (.t 34)⟩, ⟨(some 37), none, .load false 1 (.t 36)⟩, ⟨(some 8), none, .mv (.t 37)⟩])
  (.keep [2, 6, 8, 32, 33, 34] (.seq (.reg [⟨(some 39), none, .mv (.t 6)⟩, ⟨(some 40), none, .call (.c (.fn K.tree_replayer_run [] [])) [(.t 39)]⟩, ⟨(some 38), none, .mv (.t 40)⟩, ⟨(some 41), none, .ext (.t 38) 0⟩, ⟨(some 42), none, .ext (.t 38) 1⟩, ⟨(some 9), none, .mv (.t 41)⟩, ⟨(some 10), none, .mv (.t 42)⟩])
  (.keep [2, 6, 8, 9, 10, 32, 33, 34] (.seq (.seq (.reg [⟨(some 43), none, .mv (.t 10)⟩, ⟨(some 44), none, .un .not (.t 43)⟩, ⟨(some 45), none, .mv (.t 44)⟩, ⟨(some 46), (some (45, false)), .mv (.t 8)⟩, ⟨(some 47), (some (45, false)), .bin .lss (.t 46) (.c (.int .i64 (0)))⟩, ⟨(some 48), none, .pick (.t 45) (.c (.bool true)) (.t 47)⟩, ⟨(some 49), none, .mv (.t 48)⟩, ⟨(some 50), (some (49, false)), .mv (.t 8)⟩, ⟨(some 51), (some (49, false)), .fa 3 (.t 2)⟩, ⟨(some 52), (some (49, false)), .load false 1 (.t 51)⟩, ⟨(some 53), (some (49, false)), .len false (.t 52)⟩, ⟨(some 54), (some (49, false)), .bin .geq (.t 50) (.t 53)⟩, ⟨(some 55), none, .pick (.t 49) (.c (.bool true)) (.t 54)⟩, ⟨(some 56), none, .mv (.t 55)⟩, ⟨(some 57), (some (56, false)), .fa 3 (.t 2)⟩, ⟨(some 58), (some (56, false)), .load false 1 (.t 57)⟩, ⟨(some 59), (some (56, false)), .mv (.t 8)⟩, ⟨(some 60), (some (56, false)), .ia 2 (.t 58) (.t 59)⟩, ⟨(some 61), (some (56, false)), .fa 0 (.t 60)⟩, ⟨(some 62), (some (56, false)), .load false 1 (.t 61)⟩, ⟨(some 63), (some (56, false)), .mv (.t 9)⟩, ⟨(some 64), (some (56, false)), .bin .neq (.t 62) (.t 63)⟩, ⟨(some 65), none, .pick (.t 56) (.c (.bool true)) (.t 64)⟩])
  (.keep [2, 6, 8, 32, 33, 34, 65] (.cond (.t 65) (.seq (.reg [⟨(some 4), none, .mv (.c .nilp)⟩, ⟨(some 5), none, .mv (.c (.int .i64 (2)))⟩]) .ret) .skip)))
  (.keep [2, 6, 8, 32, 33, 34] (.reg [⟨(some 66), none, .mv (.t 6)⟩, ⟨(some 67), none, .mv (.t 8)⟩, ⟨(some 68), none, .call (.c (.fn K.tree_replayer_open [] [])) [(.t 66), (.t 67)]⟩]))))))))
  (.keep [2, 6, 32, 33, 34] (.reg [⟨(some 69), none, .bin .add (.t 34) (.c (.int .i64 (1)))⟩, ⟨(some 34), none, .mv (.t 69)⟩]))))))) [2, 6, 32, 33, 34]
def A.tree_replay : AFn := ⟨77, [(4, none), (5, none)], (.seq (.reg [⟨(some 2), none, .box (.t 0)⟩, ⟨(some 4), none, .mv (.c .nilp)⟩, ⟨(some 5), none, .mv (.c (.int .i64 (0)))⟩])
  (.keep [1, 2] (.seq (.block 0 (.seq (.reg [⟨(some 14), none, .load true 4 (.t 2)⟩, ⟨(some 15), none, .call (.c (.fn K.gram_Right [] [])) [(.t 14)]⟩, ⟨(some 16), none, .un .not (.t 15)⟩, ⟨(some 13), none, .mv (.t 16)⟩])
  (.keep [1, 2, 13] (.cond (.t 13) (.seq (.reg [⟨(some 4), none, .mv (.c .nilp)⟩, ⟨(some 5), none, .mv (.c (.int .i64 (1)))⟩]) .ret) (.seq (.reg [⟨(some 18), none, .mv (.t 1)⟩, ⟨(some 19), none, .len false (.t 18)⟩, ⟨(some 20), none, .bin .gtr (.t 19) (.c (.int .i64 (2000)))⟩, ⟨(some 17), none, .mv (.t 20)⟩])
  (.keep [1, 2, 17] (.cond (.t 17) (.seq (.reg [⟨(some 4), none, .mv (.c .nilp)⟩, ⟨(some 5), none, .mv (.c (.int .i64 (5)))⟩]) .ret) .skip)))))))
  (.keep [1, 2] (.seq (.reg [⟨(some 21), none, .load true 4 (.t 2)⟩, ⟨(some 22), none, .bld [(.int .i64 (0)), (.int .i64 (0)), (.int .i64 (0)), (.sl 0 1 []), (.sl 0 1 []), (.sl 0 1 []), (.sl 0 1 [])] [(0, 4, (.t 21))]⟩, ⟨(some 23), none, .box (.t 22)⟩, ⟨(some 6), none, .mv (.t 23)⟩])
  (.keep [1, 2, 6] (.seq (.draw [(.pl, ⟨(some 24), none, .mv (.t 6)⟩), (.pl, ⟨(some 25), none, .nilchk (.t 24)⟩), (.pl, ⟨(some 26), none, .fa 4 (.t 25)⟩), (.pl, ⟨(some 27), none, .fa 2 (.t 2)⟩), (.pl, ⟨(some 28), none, .load false 1 (.t 27)⟩), (.pl, ⟨(some 29), none, .bld [(.bool false), (.int .i64 (0))] [(0, 1, (.c (.bool true))), (1, 1, (.t 28))]⟩), (.pl, ⟨(some 30), none, .bld [(.bool false), (.int .i64 (0)), (.int .i64 (0)), (.bool false)] [(0, 2, (.t 29)), (2, 1, (.c (.int .i64 (-1))))]⟩), (.pl, ⟨(some 31), none, .call (.c (.fn K.tree_stack_part_push [] [])) [(.t 26), (.t 30)]⟩)])
  (.keep [1, 2, 6] (.seq (.seq (.reg [⟨(some 32), none, .mv (.t 1)⟩, ⟨(some 33), none, .len false (.t 32)⟩, ⟨(some 34), none, .mv (.c (.int .i64 (0)))⟩])
  (.keep [2, 6, 32, 33, 34] (.block 1 (.loop A.tree_replay.L0))))
  (.keep [6] (.seq (.seq (.reg [⟨(some 71), none, .mv (.t 6)⟩, ⟨(some 72), none, .call (.c (.fn K.tree_replayer_run [] [])) [(.t 71)]⟩, ⟨(some 70), none, .mv (.t 72)⟩, ⟨(some 73), none, .ext (.t 70) 0⟩, ⟨(some 74), none, .ext (.t 70) 1⟩, ⟨(some 11), none, .mv (.t 73)⟩, ⟨(some 12), none, .mv (.t 74)⟩])
  (.keep [6, 12] (.seq (.reg [⟨(some 75), none, .mv (.t 12)⟩])
  (.keep [6, 75] (.cond (.t 75) (.seq (.reg [⟨(some 4), none, .mv (.c .nilp)⟩, ⟨(some 5), none, .mv (.c (.int .i64 (3)))⟩]) .ret) .skip)))))
  (.keep [6] (.seq (.reg [⟨(some 76), none, .mv (.t 6)⟩, ⟨(some 4), none, .mv (.t 76)⟩, ⟨(some 5), none, .mv (.c (.int .i64 (0)))⟩]) .ret)))))))))))))⟩
def A.tree_stack_part_push : AFn := ⟨14, [], (.seq (.reg [⟨(some 3), none, .box (.t 1)⟩])
  (.keep [0, 3] (.draw [(.pl, ⟨(some 4), none, .mv (.t 0)⟩), (.pl, ⟨(some 5), none, .mv (.t 0)⟩), (.pl, ⟨(some 6), none, .nilchk (.t 5)⟩), (.pl, ⟨(some 7), none, .fa 0 (.t 6)⟩), (.pl, ⟨(some 8), none, .load false 1 (.t 7)⟩), (.pl, ⟨(some 9), none, .load true 4 (.t 3)⟩), (.pl, ⟨(some 10), none, .bsl 4 true [(.bool false), (.int .i64 (0)), (.int .i64 (0)), (.bool false)] 1 [(0, (.t 9))]⟩), (.eff, ⟨(some 11), none, .app 4 32 (.t 8) (.t 10)⟩), (.pl, ⟨(some 12), none, .nilchk (.t 4)⟩), (.pl, ⟨(some 13), none, .fa 0 (.t 12)⟩), (.eff, ⟨none, none, .store 1 (.t 13) (.t 11)⟩)])))⟩
def A.tree_replayer_run.L0 : AC := .post (.block 1 (.seq (.reg [⟨(some 7), none, .mv (.t 0)⟩, ⟨(some 8), none, .nilchk (.t 7)⟩, ⟨(some 9), none, .fa 4 (.t 8)⟩, ⟨(some 10), none, .call (.c (.fn K.tree_stack_part_pop [] [])) [(.t 9)]⟩, ⟨(some 6), none, .mv (.t 10)⟩, ⟨(some 11), none, .ext (.t 6) 0⟩, ⟨(some 12), none, .ext (.t 6) 1⟩, ⟨(some 4), none, .alloc [(.bool false), (.int .i64 (0)), (.int .i64 (0)), (.bool false)]⟩, ⟨none, none, .store 4 (.t 4) (.t 11)⟩, ⟨(some 5), none, .mv (.t 12)⟩])
  (.keep [0, 4, 5] (.seq (.seq (.reg [⟨(some 13), none, .mv (.t 5)⟩, ⟨(some 14), none, .un .not (.t 13)⟩])
  (.keep [0, 4, 14] (.cond (.t 14) (.seq (.reg [⟨(some 2), none, .mv (.c (.int .i64 (0)))⟩, ⟨(some 3), none, .mv (.c (.bool false))⟩]) .ret) .skip)))
  (.keep [0, 4] (.seq (.reg [⟨(some 15), none, .mv (.t 0)⟩, ⟨(some 16), none, .load true 4 (.t 4)⟩, ⟨(some 17), none, .call (.c (.fn K.tree_replayer_here [] [])) [(.t 15), (.t 16)]⟩])
  (.keep [0, 4] (.seq (.block 2 (.seq (.reg [⟨(some 19), none, .fa 3 (.t 4)⟩, ⟨(some 20), none, .load false 1 (.t 19)⟩, ⟨(some 18), none, .mv (.t 20)⟩])
  (.keep [0, 4, 18] (.cond (.t 18) (.exit 1) (.seq (.reg [⟨(some 22), none, .fa 0 (.t 4)⟩, ⟨(some 23), none, .fa 0 (.t 22)⟩, ⟨(some 24), none, .load false 1 (.t 23)⟩, ⟨(some 21), none, .mv (.t 24)⟩])
  (.keep [0, 4, 21] (.cond (.t 21) (.seq (.reg [⟨(some 25), none, .fa 0 (.t 4)⟩, ⟨(some 26), none, .fa 1 (.t 25)⟩, ⟨(some 27), none, .load false 1 (.t 26)⟩, ⟨(some 2), none, .mv (.t 27)⟩, ⟨(some 3), none, .mv (.c (.bool true))⟩]) .ret) .skip)))))))
  (.keep [0, 4] (.draw [(.pl, ⟨(some 28), none, .mv (.t 0)⟩), (.pl, ⟨(some 29), none, .mv (.t 0)⟩), (.pl, ⟨(some 30), none, .nilchk (.t 29)⟩), (.pl, ⟨(some 31), none, .fa 5 (.t 30)⟩), (.pl, ⟨(some 32), none, .load false 1 (.t 31)⟩), (.pl, ⟨(some 33), none, .fa 0 (.t 4)⟩), (.pl, ⟨(some 34), none, .fa 1 (.t 33)⟩), (.pl, ⟨(some 35), none, .load false 1 (.t 34)⟩), (.pl, ⟨(some 36), none, .bsl 1 false [(.int .i64 (0))] 1 [(0, (.t 35))]⟩), (.eff, ⟨(some 37), none, .app 1 8 (.t 32) (.t 36)⟩), (.pl, ⟨(some 38), none, .nilchk (.t 28)⟩), (.pl, ⟨(some 39), none, .fa 5 (.t 38)⟩), (.eff, ⟨none, none, .store 1 (.t 39) (.t 37)⟩)])))))))))) [0]
def A.tree_replayer_run : AFn := ⟨40, [(2, none), (3, none)], (.seq (.reg [⟨(some 2), none, .mv (.c (.int .i64 (0)))⟩, ⟨(some 3), none, .mv (.c (.bool false))⟩])
  (.keep [0] (.block 0 (.loop A.tree_replayer_run.L0))))⟩
def A.tree_replayer_open.L0 : AC := .post (.seq (.seq (.reg [⟨(some 41), none, .mv (.t 6)⟩, ⟨(some 42), none, .bin .geq (.t 41) (.c (.int .i64 (0)))⟩])
  (.keep [0, 4, 5, 6, 42] (.cond (.t 42) .skip (.exit 0))))
  (.keep [0, 4, 5, 6] (.seq (.block 1 (.draw [(.pl, ⟨(some 45), none, .mv (.t 0)⟩), (.pl, ⟨(some 46), none, .nilchk (.t 45)⟩), (.pl, ⟨(some 47), none, .fa 4 (.t 46)⟩), (.pl, ⟨(some 48), none, .mv (.t 5)⟩), (.pl, ⟨(some 49), none, .mv (.t 6)⟩), (.pl, ⟨(some 50), none, .ia 2 (.t 48) (.t 49)⟩), (.pl, ⟨(some 51), none, .load true 2 (.t 50)⟩), (.pl, ⟨(some 52), none, .mv (.t 4)⟩), (.pl, ⟨(some 53), none, .bld [(.bool false), (.int .i64 (0)), (.int .i64 (0)), (.bool false)] [(0, 2, (.t 51)), (2, 1, (.t 52))]⟩), (.pl, ⟨(some 54), none, .call (.c (.fn K.tree_stack_part_push [] [])) [(.t 47), (.t 53)]⟩)]))
  (.keep [0, 4, 5, 6] (.reg [⟨(some 43), none, .mv (.t 6)⟩, ⟨(some 44), none, .bin .sub (.t 43) (.c (.int .i64 (1)))⟩, ⟨(some 6), none, .mv (.t 44)⟩]))))) [0, 4, 5, 6]
def A.tree_replayer_open : AFn := ⟨55, [], (.seq (.reg [⟨(some 7), none, .mv (.t 0)⟩, ⟨(some 8), none, .nilchk (.t 7)⟩, ⟨(some 9), none, .fa 6 (.t 8)⟩, ⟨(some 10), none, .load false 1 (.t 9)⟩, ⟨(some 11), none, .len false (.t 10)⟩, ⟨(some 4), none, .mv (.t 11)⟩])
  (.keep [0, 1, 4] (.seq (.reg [⟨(some 12), none, .mv (.t 0)⟩, ⟨(some 13), none, .mv (.t 0)⟩, ⟨(some 14), none, .nilchk (.t 13)⟩, ⟨(some 15), none, .fa 6 (.t 14)⟩, ⟨(some 16), none, .load false 1 (.t 15)⟩, ⟨(some 17), none, .mv (.t 1)⟩, ⟨(some 18), none, .bld [(.int .i64 (0)), (.sl 0 1 [])] [(0, 1, (.t 17))]⟩, ⟨(some 19), none, .bsl 2 true [(.int .i64 (0)), (.sl 0 1 [])] 1 [(0, (.t 18))]⟩, ⟨(some 20), none, .app 2 32 (.t 16) (.t 19)⟩, ⟨(some 21), none, .nilchk (.t 12)⟩, ⟨(some 22), none, .fa 6 (.t 21)⟩, ⟨none, none, .store 1 (.t 22) (.t 20)⟩])
  (.keep [0, 1, 4] (.seq (.reg [⟨(some 23), none, .mv (.t 0)⟩, ⟨(some 24), none, .nilchk (.t 23)⟩, ⟨(some 25), none, .fa 4 (.t 24)⟩, ⟨(some 26), none, .mv (.t 4)⟩, ⟨(some 27), none, .bld [(.bool false), (.int .i64 (0)), (.int .i64 (0)), (.bool false)] [(2, 1, (.t 26)), (3, 1, (.c (.bool true)))]⟩, ⟨(some 28), none, .call (.c (.fn K.tree_stack_part_push [] [])) [(.t 25), (.t 27)]⟩])
  (.keep [0, 1, 4] (.seq (.reg [⟨(some 29), none, .mv (.t 0)⟩, ⟨(some 30), none, .nilchk (.t 29)⟩, ⟨(some 31), none, .fa 0 (.t 30)⟩, ⟨(some 32), none, .fa 3 (.t 31)⟩, ⟨(some 33), none, .load false 1 (.t 32)⟩, ⟨(some 34), none, .mv (.t 1)⟩, ⟨(some 35), none, .ia 2 (.t 33) (.t 34)⟩, ⟨(some 36), none, .fa 1 (.t 35)⟩, ⟨(some 37), none, .load false 1 (.t 36)⟩, ⟨(some 5), none, .mv (.t 37)⟩])
  (.keep [0, 4, 5] (.seq (.reg [⟨(some 38), none, .mv (.t 5)⟩, ⟨(some 39), none, .len false (.t 38)⟩, ⟨(some 40), none, .bin .sub (.t 39) (.c (.int .i64 (1)))⟩, ⟨(some 6), none, .mv (.t 40)⟩])
  (.keep [0, 4, 5, 6] (.block 0 (.loop A.tree_replayer_open.L0))))))))))))⟩
def A.tree_stack_part_pop : AFn := ⟨39, [(2, (some (true, 4))), (3, none)], (.seq (.reg [⟨(some 2), none, .alloc [(.bool false), (.int .i64 (0)), (.int .i64 (0)), (.bool false)]⟩, ⟨(some 3), none, .mv (.c (.bool false))⟩])
  (.keep [0, 2] (.seq (.reg [⟨(some 4), none, .alloc [(.bool false), (.int .i64 (0)), (.int .i64 (0)), (.bool false)]⟩])
  (.keep [0, 2, 4] (.seq (.seq (.reg [⟨(some 5), none, .mv (.t 0)⟩, ⟨(some 6), none, .nilchk (.t 5)⟩, ⟨(some 7), none, .fa 0 (.t 6)⟩, ⟨(some 8), none, .load false 1 (.t 7)⟩, ⟨(some 9), none, .len false (.t 8)⟩, ⟨(some 10), none, .bin .eql (.t 9) (.c (.int .i64 (0)))⟩])
  (.keep [0, 2, 4, 10] (.cond (.t 10) (.seq (.reg [⟨(some 11), none, .load true 4 (.t 4)⟩, ⟨none, none, .store 4 (.t 2) (.t 11)⟩, ⟨(some 3), none, .mv (.c (.bool false))⟩]) .ret) .skip)))
  (.keep [0, 2, 4] (.seq (.draw [(.pl, ⟨(some 12), none, .mv (.t 0)⟩), (.pl, ⟨(some 13), none, .nilchk (.t 12)⟩), (.pl, ⟨(some 14), none, .fa 0 (.t 13)⟩), (.pl, ⟨(some 15), none, .load false 1 (.t 14)⟩), (.pl, ⟨(some 16), none, .mv (.t 0)⟩), (.pl, ⟨(some 17), none, .nilchk (.t 16)⟩), (.pl, ⟨(some 18), none, .fa 0 (.t 17)⟩), (.pl, ⟨(some 19), none, .load false 1 (.t 18)⟩), (.pl, ⟨(some 20), none, .len false (.t 19)⟩), (.pl, ⟨(some 21), none, .bin .sub (.t 20) (.c (.int .i64 (1)))⟩), (.pl, ⟨(some 22), none, .ia 4 (.t 15) (.t 21)⟩), (.pl, ⟨(some 23), none, .load true 4 (.t 22)⟩), (.eff, ⟨none, none, .store 4 (.t 4) (.t 23)⟩)])
  (.keep [0, 2, 4] (.seq (.draw [(.pl, ⟨(some 24), none, .mv (.t 0)⟩), (.pl, ⟨(some 25), none, .mv (.t 0)⟩), (.pl, ⟨(some 26), none, .nilchk (.t 25)⟩), (.pl, ⟨(some 27), none, .fa 0 (.t 26)⟩), (.pl, ⟨(some 28), none, .load false 1 (.t 27)⟩), (.pl, ⟨(some 29), none, .mv (.t 0)⟩), (.pl, ⟨(some 30), none, .nilchk (.t 29)⟩), (.pl, ⟨(some 31), none, .fa 0 (.t 30)⟩), (.pl, ⟨(some 32), none, .load false 1 (.t 31)⟩), (.pl, ⟨(some 33), none, .len false (.t 32)⟩), (.pl, ⟨(some 34), none, .bin .sub (.t 33) (.c (.int .i64 (1)))⟩), (.pl, ⟨(some 35), none, .slc 4 (.t 28) none (some (.t 34))⟩), (.pl, ⟨(some 36), none, .nilchk (.t 24)⟩), (.pl, ⟨(some 37), none, .fa 0 (.t 36)⟩), (.eff, ⟨none, none, .store 1 (.t 37) (.t 35)⟩)])
  (.keep [2, 4] (.seq (.reg [⟨(some 38), none, .load true 4 (.t 4)⟩, ⟨none, none, .store 4 (.t 2) (.t 38)⟩, ⟨(some 3), none, .mv (.c (.bool true))⟩]) .ret)))))))))))⟩
def A.tree_replayer_here : AFn := ⟨29, [], (.seq (.reg [⟨(some 3), none, .box (.t 1)⟩])
  (.keep [0, 3] (.seq (.reg [⟨(some 5), none, .fa 2 (.t 3)⟩, ⟨(some 6), none, .load false 1 (.t 5)⟩, ⟨(some 7), none, .bin .geq (.t 6) (.c (.int .i64 (0)))⟩])
  (.keep [0, 3, 7] (.cond (.t 7) (.seq (.draw [(.pl, ⟨(some 8), none, .mv (.t 0)⟩), (.pl, ⟨(some 9), none, .nilchk (.t 8)⟩), (.pl, ⟨(some 10), none, .fa 6 (.t 9)⟩), (.pl, ⟨(some 11), none, .load false 1 (.t 10)⟩), (.pl, ⟨(some 12), none, .fa 2 (.t 3)⟩), (.pl, ⟨(some 13), none, .load false 1 (.t 12)⟩), (.pl, ⟨(some 14), none, .ia 2 (.t 11) (.t 13)⟩), (.pl, ⟨(some 4), none, .mv (.t 14)⟩)])
  (.keep [0, 4] (.draw [(.pl, ⟨(some 15), none, .mv (.t 4)⟩), (.pl, ⟨(some 16), none, .mv (.t 4)⟩), (.pl, ⟨(some 17), none, .nilchk (.t 16)⟩), (.pl, ⟨(some 18), none, .fa 1 (.t 17)⟩), (.pl, ⟨(some 19), none, .load false 1 (.t 18)⟩), (.pl, ⟨(some 20), none, .mv (.t 0)⟩), (.pl, ⟨(some 21), none, .nilchk (.t 20)⟩), (.pl, ⟨(some 22), none, .fa 5 (.t 21)⟩), (.pl, ⟨(some 23), none, .load false 1 (.t 22)⟩), (.pl, ⟨(some 24), none, .len false (.t 23)⟩), (.pl, ⟨(some 25), none, .bsl 1 false [(.int .i64 (0))] 1 [(0, (.t 24))]⟩), (.eff, ⟨(some 26), none, .app 1 8 (.t 19) (.t 25)⟩), (.pl, ⟨(some 27), none, .nilchk (.t 15)⟩), (.pl, ⟨(some 28), none, .fa 1 (.t 27)⟩), (.eff, ⟨none, none, .store 1 (.t 28) (.t 26)⟩)]))) .skip)))))⟩
end Go.Proofs.Ytajaoldljichaaa.Al
namespace Go.Proofs.Ytajaoldljichaaa.Al
def A.tree_replay_o.L0 : AC := .post (.seq (.reg [⟨(some 35), none, .bin .lss (.t 34) (.t 33)⟩])
  (.keep [2, 6, 32, 33, 34, 35] (.seq (.cond (.t 35) .skip (.exit 1))
  (.keep [2, 6, 32, 33, 34] (.seq (.block 2 (.seq (.reg [⟨(some 36), none, .ia 1 (.t 32) (.t 34)⟩, ⟨(some 37), none, .load false 1 (.t 36)⟩, ⟨(some 8), none, .mv (.t 37)⟩])
  (.keep [2, 6, 8, 32, 33, 34] (.seq (.reg [⟨(some 39), none, .mv (.t 6)⟩, ⟨(some 40), none, .call (.c (.fn K.tree_replayer_run [] [])) [(.t 39)]⟩, ⟨(some 38), none, .mv (.t 40)⟩, ⟨(some 41), none, .ext (.t 38) 0⟩, ⟨(some 42), none, .ext (.t 38) 1⟩, ⟨(some 9), none, .mv (.t 41)⟩, ⟨(some 10), none, .mv (.t 42)⟩])
  (.keep [2, 6, 8, 9, 10, 32, 33, 34] (.seq (.seq (.reg [⟨(some 43), none, .mv (.t 10)⟩, ⟨(some 44), none, .un .not (.t 43)⟩, ⟨(some 45), none, .mv (.t 44)⟩, ⟨(some 46), (some (45, false)), .mv (.t 8)⟩, ⟨(some 47), (some (45, false)), .bin .lss (.t 46) (.c (.int .i64 (0)))⟩, ⟨(some 48), none, .pick (.t 45) (.c (.bool true)) (.t 47)⟩, ⟨(some 49), none, .mv (.t 48)⟩, ⟨(some 50), (some (49, false)), .mv (.t 8)⟩, ⟨(some 51), (some (49, false)), .fa 3 (.t 2)⟩, ⟨(some 52), (some (49, false)), .load false 1 (.t 51)⟩, ⟨(some 53), (some (49, false)), .len false (.t 52)⟩, ⟨(some 54), (some (49, false)), .bin .geq (.t 50) (.t 53)⟩, ⟨(some 55), none, .pick (.t 49) (.c (.bool true)) (.t 54)⟩, ⟨(some 56), none, .mv (.t 55)⟩, ⟨(some 57), (some (56, false)), .fa 3 (.t 2)⟩, ⟨(some 58), (some (56, false)), .load false 1 (.t 57)⟩, ⟨(some 59), (some (56, false)), .mv (.t 8)⟩, ⟨(some 60), (some (56, false)), .ia 2 (.t 58) (.t 59)⟩, ⟨(some 61), (some (56, false)), .fa 0 (.t 60)⟩, ⟨(some 62), (some (56, false)), .load false 1 (.t 61)⟩, ⟨(some 63), (some (56, false)), .mv (.t 9)⟩, ⟨(some 64), (some (56, false)), .bin .neq (.t 62) (.t 63)⟩, ⟨(some 65), none, .pick (.t 56) (.c (.bool true)) (.t 64)⟩])
  (.keep [2, 6, 8, 32, 33, 34, 65] (.cond (.t 65) (.seq (.reg [⟨(some 4), none, .mv (.c .nilp)⟩, ⟨(some 5), none, .mv (.c (.int .i64 (2)))⟩]) .ret) .skip)))
  (.keep [2, 6, 8, 32, 33, 34] (.reg [⟨(some 66), none, .mv (.t 6)⟩, ⟨(some 67), none, .mv (.t 8)⟩, ⟨(some 68), none, .call (.c (.fn K.tree_replayer_open [] [])) [(.t 66), (.t 67)]⟩]))))))))
  (.keep [2, 6, 32, 33, 34] (.reg [⟨(some 69), none, .bin .add (.t 34) (.c (.int .i64 (1)))⟩, ⟨(some 34), none, .mv (.t 69)⟩]))))))) [2, 6, 32, 33, 34]
def A.tree_replay_o : AFn := ⟨77, [(4, none), (5, none)], (.seq (.reg [⟨(some 2), none, .box (.t 0)⟩, ⟨(some 4), none, .mv (.c .nilp)⟩, ⟨(some 5), none, .mv (.c (.int .i64 (0)))⟩])
  (.keep [1, 2] (.seq (.block 0 (.seq (.reg [⟨(some 14), none, .load true 4 (.t 2)⟩, ⟨(some 15), none, .call (.c (.fn K.gram_Right [] [])) [(.t 14)]⟩, ⟨(some 16), none, .un .not (.t 15)⟩, ⟨(some 13), none, .mv (.t 16)⟩])
  (.keep [1, 2, 13] (.cond (.t 13) (.seq (.reg [⟨(some 4), none, .mv (.c .nilp)⟩, ⟨(some 5), none, .mv (.c (.int .i64 (1)))⟩]) .ret) (.seq (.reg [⟨(some 18), none, .mv (.t 1)⟩, ⟨(some 19), none, .len false (.t 18)⟩, ⟨(some 20), none, .bin .gtr (.t 19) (.c (.int .i64 (2000)))⟩, ⟨(some 17), none, .mv (.t 20)⟩])
  (.keep [1, 2, 17] (.cond (.t 17) (.seq (.reg [⟨(some 4), none, .mv (.c .nilp)⟩, ⟨(some 5), none, .mv (.c (.int .i64 (5)))⟩]) .ret) .skip)))))))
  (.keep [1, 2] (.seq (.reg [⟨(some 21), none, .load true 4 (.t 2)⟩, ⟨(some 22), none, .bld [(.int .i64 (0)), (.int .i64 (0)), (.int .i64 (0)), (.sl 0 1 []), (.sl 0 1 []), (.sl 0 1 []), (.sl 0 1 [])] [(0, 4, (.t 21))]⟩, ⟨(some 23), none, .box (.t 22)⟩, ⟨(some 6), none, .mv (.t 23)⟩])
  (.keep [1, 2, 6] (.seq (.seq (.draw [(.pl, ⟨(some 24), none, .mv (.t 6)⟩), (.pl, ⟨(some 25), none, .nilchk (.t 24)⟩), (.pl, ⟨(some 26), none, .fa 4 (.t 25)⟩), (.pl, ⟨(some 27), none, .fa 2 (.t 2)⟩), (.pl, ⟨(some 28), none, .load false 1 (.t 27)⟩), (.pl, ⟨(some 29), none, .bld [(.bool false), (.int .i64 (0))] [(0, 1, (.c (.bool true))), (1, 1, (.t 28))]⟩), (.pl, ⟨(some 30), none, .bld [(.bool false), (.int .i64 (0)), (.int .i64 (0)), (.bool false)] [(0, 2, (.t 29)), (2, 1, (.c (.int .i64 (-1))))]⟩)])
  (.keep [1, 2, 6, 26, 30] (.reg [⟨(some 31), none, .call (.c (.fn K.tree_stack_part_push [] [])) [(.t 26), (.t 30)]⟩])))
  (.keep [1, 2, 6] (.seq (.seq (.reg [⟨(some 32), none, .mv (.t 1)⟩, ⟨(some 33), none, .len false (.t 32)⟩, ⟨(some 34), none, .mv (.c (.int .i64 (0)))⟩])
  (.keep [2, 6, 32, 33, 34] (.block 1 (.loop A.tree_replay_o.L0))))
  (.keep [6] (.seq (.seq (.reg [⟨(some 71), none, .mv (.t 6)⟩, ⟨(some 72), none, .call (.c (.fn K.tree_replayer_run [] [])) [(.t 71)]⟩, ⟨(some 70), none, .mv (.t 72)⟩, ⟨(some 73), none, .ext (.t 70) 0⟩, ⟨(some 74), none, .ext (.t 70) 1⟩, ⟨(some 11), none, .mv (.t 73)⟩, ⟨(some 12), none, .mv (.t 74)⟩])
  (.keep [6, 12] (.seq (.reg [⟨(some 75), none, .mv (.t 12)⟩])
  (.keep [6, 75] (.cond (.t 75) (.seq (.reg [⟨(some 4), none, .mv (.c .nilp)⟩, ⟨(some 5), none, .mv (.c (.int .i64 (3)))⟩]) .ret) .skip)))))
  (.keep [6] (.seq (.reg [⟨(some 76), none, .mv (.t 6)⟩, ⟨(some 4), none, .mv (.t 76)⟩, ⟨(some 5), none, .mv (.c (.int .i64 (0)))⟩]) .ret)))))))))))))⟩
def A.tree_replayer_open_o.L0 : AC := .post (.seq (.seq (.reg [⟨(some 41), none, .mv (.t 6)⟩, ⟨(some 42), none, .bin .geq (.t 41) (.c (.int .i64 (0)))⟩])
  (.keep [0, 4, 5, 6, 42] (.cond (.t 42) .skip (.exit 0))))
  (.keep [0, 4, 5, 6] (.seq (.block 1 (.seq (.draw [(.pl, ⟨(some 45), none, .mv (.t 0)⟩), (.pl, ⟨(some 46), none, .nilchk (.t 45)⟩), (.pl, ⟨(some 47), none, .fa 4 (.t 46)⟩), (.pl, ⟨(some 48), none, .mv (.t 5)⟩), (.pl, ⟨(some 49), none, .mv (.t 6)⟩), (.pl, ⟨(some 50), none, .ia 2 (.t 48) (.t 49)⟩), (.pl, ⟨(some 51), none, .load true 2 (.t 50)⟩), (.pl, ⟨(some 52), none, .mv (.t 4)⟩), (.pl, ⟨(some 53), none, .bld [(.bool false), (.int .i64 (0)), (.int .i64 (0)), (.bool false)] [(0, 2, (.t 51)), (2, 1, (.t 52))]⟩)])
  (.keep [0, 4, 5, 6, 47, 53] (.reg [⟨(some 54), none, .call (.c (.fn K.tree_stack_part_push [] [])) [(.t 47), (.t 53)]⟩]))))
  (.keep [0, 4, 5, 6] (.reg [⟨(some 43), none, .mv (.t 6)⟩, ⟨(some 44), none, .bin .sub (.t 43) (.c (.int .i64 (1)))⟩, ⟨(some 6), none, .mv (.t 44)⟩]))))) [0, 4, 5, 6]
def A.tree_replayer_open_o : AFn := ⟨55, [], (.seq (.reg [⟨(some 7), none, .mv (.t 0)⟩, ⟨(some 8), none, .nilchk (.t 7)⟩, ⟨(some 9), none, .fa 6 (.t 8)⟩, ⟨(some 10), none, .load false 1 (.t 9)⟩, ⟨(some 11), none, .len false (.t 10)⟩, ⟨(some 4), none, .mv (.t 11)⟩])
  (.keep [0, 1, 4] (.seq (.reg [⟨(some 12), none, .mv (.t 0)⟩, ⟨(some 13), none, .mv (.t 0)⟩, ⟨(some 14), none, .nilchk (.t 13)⟩, ⟨(some 15), none, .fa 6 (.t 14)⟩, ⟨(some 16), none, .load false 1 (.t 15)⟩, ⟨(some 17), none, .mv (.t 1)⟩, ⟨(some 18), none, .bld [(.int .i64 (0)), (.sl 0 1 [])] [(0, 1, (.t 17))]⟩, ⟨(some 19), none, .bsl 2 true [(.int .i64 (0)), (.sl 0 1 [])] 1 [(0, (.t 18))]⟩, ⟨(some 20), none, .appg 2 32 (.t 16) (.t 19)⟩, ⟨(some 21), none, .nilchk (.t 12)⟩, ⟨(some 22), none, .fa 6 (.t 21)⟩, ⟨none, none, .store 1 (.t 22) (.t 20)⟩])
  (.keep [0, 1, 4] (.seq (.reg [⟨(some 23), none, .mv (.t 0)⟩, ⟨(some 24), none, .nilchk (.t 23)⟩, ⟨(some 25), none, .fa 4 (.t 24)⟩, ⟨(some 26), none, .mv (.t 4)⟩, ⟨(some 27), none, .bld [(.bool false), (.int .i64 (0)), (.int .i64 (0)), (.bool false)] [(2, 1, (.t 26)), (3, 1, (.c (.bool true)))]⟩, ⟨(some 28), none, .call (.c (.fn K.tree_stack_part_push [] [])) [(.t 25), (.t 27)]⟩])
  (.keep [0, 1, 4] (.seq (.reg [⟨(some 29), none, .mv (.t 0)⟩, ⟨(some 30), none, .nilchk (.t 29)⟩, ⟨(some 31), none, .fa 0 (.t 30)⟩, ⟨(some 32), none, .fa 3 (.t 31)⟩, ⟨(some 33), none, .load false 1 (.t 32)⟩, ⟨(some 34), none, .mv (.t 1)⟩, ⟨(some 35), none, .ia 2 (.t 33) (.t 34)⟩, ⟨(some 36), none, .fa 1 (.t 35)⟩, ⟨(some 37), none, .load false 1 (.t 36)⟩, ⟨(some 5), none, .mv (.t 37)⟩])
  (.keep [0, 4, 5] (.seq (.reg [⟨(some 38), none, .mv (.t 5)⟩, ⟨(some 39), none, .len false (.t 38)⟩, ⟨(some 40), none, .bin .sub (.t 39) (.c (.int .i64 (1)))⟩, ⟨(some 6), none, .mv (.t 40)⟩])
  (.keep [0, 4, 5, 6] (.block 0 (.loop A.tree_replayer_open_o.L0))))))))))))⟩
end Go.Proofs.Ytajaoldljichaaa.Al
namespace Go.Proofs.Ytajaoldljichaaa.Al
open Go Go.RowKit
set_option linter.unusedSimpArgs false
set_option linter.unusedVariables false
attribute [-simp] List.getD_eq_getElem?_getD Int.not_lt Int.not_le List.map_take
/-- What the laws on open order give for push. -/
def HasPush (X : Cx) (k : Nat) : Prop := ∀ {args : List V} {h : AH} {Q : V → AH → Prop}, args.length ≤ 14 →
  (awp (Ecx X) A.tree_push.C0 (initEnv 0 args) h fun e env1 h1 => match e with
    | .nrm => awpAny (Ecx X) (A.tree_push.R.zip A.tree_push.D) (fun _ h2 => Q (.tup []) h2) 11 [] env1 h1
    | _ => False) → Ecx X k args h Q
section
variable {X : Cx} {h : AH} {Q : V → AH → Prop}
abbrev pushL : List (AOper × List Nat) := A.tree_push.R.zip A.tree_push.D
/-- What is laid into the stack's holder. -/
def PushV (h : AH) (o off : Nat) (Q : V → AH → Prop) (v : V) (h2 : AH) : Prop := v.cells = [v] ∧ v.good = true ∧ h2.objs o = h.objs o ∧ Q (.tup []) (h2.set o ((h.objs o).set off v))
theorem bsl_wp {E : Sig} {ρ : AO → V} {h : AH} {K : V → AH → Prop} {v : V} (hr : ρ (.t 9) = v) (hv : v.cells.length = 4 ∧ v.good = true ∧ v.isAgg = true) (hk : K (.sl 4 2 [v]) h) : AOp.wp E ρ h K (.bsl 4 true [(.bool false), (.int .i64 (0)), (.int .i64 (0)), (.bool false)] 1 [(0, (.t 9))]) := by
  simp only [AOp.wp, List.map_cons, List.map_nil, hr, List.replicate, fillL]
  rw [if_pos ⟨hv.1, by simp, hv.2.1, hv.2.2⟩]
  exact hk
theorem push_app {k : Nat} (H : HasPush X k) (o off : Nat) (x : List V) (hx : x.length = 4) (ok : o < h.nobj) (hol0 : off < (h.objs o).length)
    (hA0 : appgK 4 32 ((h.objs o).getD off .undef) (some (4, 1, x)) (h.new x) fun v h2 => PushV h o off Q v h2) : Ecx X k [.ptr o off, .agg x] h Q := by
  refine H (by simp) ?_
  show acZ (Ecx X) _ h (Lz.mk (a := A.tree_push.C0)) (Lz.mk (a := _))
  simp [A.tree_push.C0, V.cells, V.good]
  have n1 : ¬ o = h.nobj := by omega
  have e1 : (h.new x).objs o = h.objs o := new_objs_ne h x n1
  have e2 : (h.new x).objs h.nobj = x := new_objs_same h x
  have e3 : (((h.new x).objs h.nobj).drop 0).take 4 = x := by rw [e2, List.drop_zero, ← hx, List.take_length]
  have hol : off + 1 ≤ (h.objs o).length := hol0
  have hol1 : off + 0 < ((h.new x).objs o).length := by rw [e1]; exact hol0
  have hx1 : 0 + 4 ≤ ((h.new x).objs h.nobj).length := by rw [e2, hx]; exact Nat.le_refl _
  have hv9 : (V.agg ((((h.new x).objs h.nobj).drop 0).take 4)).cells.length = 4 ∧ (V.agg ((((h.new x).objs h.nobj).drop 0).take 4)).good = true ∧ (V.agg ((((h.new x).objs h.nobj).drop 0).take 4)).isAgg = true := by
    rw [e3]; exact ⟨hx, rfl, rfl⟩
  have hA : appgK 4 32 (((h.new x).objs o).getD off .undef) (V.held (h.new x) (.sl 4 2 [.agg ((((h.new x).objs h.nobj).drop 0).take 4)])) (h.new x) fun v h2 => PushV h o off Q v h2 := by
    rw [e1, e3]
    have : V.held (h.new x) (.sl 4 2 [.agg x]) = some (4, 1, x) := by simp [V.held, V.cells]
    rw [this]; exact hA0
  have u10 : ∀ (v : V) (h2 : AH), PushV h o off Q v h2 → awpAny (Ecx X) pushL (fun _ h2 => Q (.tup []) h2) 1 [0, 1, 2, 3, 4, 5, 6, 7, 8, 9] [(0, .ptr o off), (3, .ptr h.nobj 0), (4, .ptr o off), (5, .ptr o off), (6, .ptr o off), (7, .ptr o off), (8, ((h.new x).objs o).getD off .undef), (9, .agg ((((h.new x).objs h.nobj).drop 0).take 4)), (10, .sl 4 2 [.agg ((((h.new x).objs h.nobj).drop 0).take 4)]), (11, v), (12, .ptr o off), (13, .ptr o off)] h2 := fun v h2 hv => by
    rw [awpAny]
    simp (config := { decide := true }) only [A.tree_push.R, A.tree_push.D, pushL, List.zip_cons_cons, List.zip_nil_left, eachP, rdyB, memB, allB, sins, sputO, sput, gdP, ev, get, Bool.and_true, Bool.true_and, Bool.or_false, Bool.or_true, Bool.not_true, Bool.not_false, if_true, if_false, Bool.false_eq_true, and_true, true_and, Nat.reduceAdd, Nat.reduceLT, Nat.reduceEqDiff]
    exact ⟨by show v.cells.length = 1; rw [hv.1]; rfl, hv.2.1, by rw [hv.2.2.1]; exact hol, by show Q (.tup []) (h2.set o (setAt (h2.objs o) off v.cells)); rw [hv.1, hv.2.2.1]; exact hv.2.2.2⟩
  have u9 : ∀ (v : V) (h2 : AH), PushV h o off Q v h2 → awpAny (Ecx X) pushL (fun _ h2 => Q (.tup []) h2) 2 [0, 1, 2, 3, 4, 5, 6, 7, 8] [(0, .ptr o off), (3, .ptr h.nobj 0), (4, .ptr o off), (5, .ptr o off), (6, .ptr o off), (7, .ptr o off), (8, ((h.new x).objs o).getD off .undef), (9, .agg ((((h.new x).objs h.nobj).drop 0).take 4)), (10, .sl 4 2 [.agg ((((h.new x).objs h.nobj).drop 0).take 4)]), (11, v), (12, .ptr o off)] h2 := fun v h2 hv => by
    rw [awpAny]
    simp (config := { decide := true }) only [A.tree_push.R, A.tree_push.D, pushL, List.zip_cons_cons, List.zip_nil_left, eachP, rdyB, memB, allB, sins, sputO, sput, gdP, ev, get, Bool.and_true, Bool.true_and, Bool.or_false, Bool.or_true, Bool.not_true, Bool.not_false, if_true, if_false, Bool.false_eq_true, and_true, true_and, Nat.reduceAdd, Nat.reduceLT, Nat.reduceEqDiff]
    exact u10 v h2 hv
  have t_1 : ∀ (v : V) (h2 : AH), PushV h o off Q v h2 → awpAny (Ecx X) pushL (fun _ h2 => Q (.tup []) h2) 3 [0, 1, 2, 3, 4, 5, 6, 7] [(0, .ptr o off), (3, .ptr h.nobj 0), (4, .ptr o off), (5, .ptr o off), (6, .ptr o off), (7, .ptr o off), (8, ((h.new x).objs o).getD off .undef), (9, .agg ((((h.new x).objs h.nobj).drop 0).take 4)), (10, .sl 4 2 [.agg ((((h.new x).objs h.nobj).drop 0).take 4)]), (11, v)] h2 := fun v h2 hv => by
    rw [awpAny]
    simp (config := { decide := true }) only [A.tree_push.R, A.tree_push.D, pushL, List.zip_cons_cons, List.zip_nil_left, eachP, rdyB, memB, allB, sins, sputO, sput, gdP, ev, get, Bool.and_true, Bool.true_and, Bool.or_false, Bool.or_true, Bool.not_true, Bool.not_false, if_true, if_false, Bool.false_eq_true, and_true, true_and, Nat.reduceAdd, Nat.reduceLT, Nat.reduceEqDiff]
    exact u9 v h2 hv
  have t_0 : ∀ (v : V) (h2 : AH), PushV h o off Q v h2 → awpAny (Ecx X) pushL (fun _ h2 => Q (.tup []) h2) 4 [1, 2, 3, 4, 5, 6, 7] [(0, .ptr o off), (3, .ptr h.nobj 0), (5, .ptr o off), (6, .ptr o off), (7, .ptr o off), (8, ((h.new x).objs o).getD off .undef), (9, .agg ((((h.new x).objs h.nobj).drop 0).take 4)), (10, .sl 4 2 [.agg ((((h.new x).objs h.nobj).drop 0).take 4)]), (11, v)] h2 := fun v h2 hv => by
    rw [awpAny]
    simp (config := { decide := true }) only [A.tree_push.R, A.tree_push.D, pushL, List.zip_cons_cons, List.zip_nil_left, eachP, rdyB, memB, allB, sins, sputO, sput, gdP, ev, get, Bool.and_true, Bool.true_and, Bool.or_false, Bool.or_true, Bool.not_true, Bool.not_false, if_true, if_false, Bool.false_eq_true, and_true, true_and, Nat.reduceAdd, Nat.reduceLT, Nat.reduceEqDiff]
    exact t_1 v h2 hv
  have s_1_4_2 : awpAny (Ecx X) pushL (fun _ h2 => Q (.tup []) h2) 4 [0, 1, 2, 3, 4, 5, 6] [(0, .ptr o off), (3, .ptr h.nobj 0), (4, .ptr o off), (5, .ptr o off), (6, .ptr o off), (7, .ptr o off), (8, ((h.new x).objs o).getD off .undef), (9, .agg ((((h.new x).objs h.nobj).drop 0).take 4)), (10, .sl 4 2 [.agg ((((h.new x).objs h.nobj).drop 0).take 4)])] (h.new x) := by
    rw [awpAny]
    simp (config := { decide := true }) only [A.tree_push.R, A.tree_push.D, pushL, List.zip_cons_cons, List.zip_nil_left, eachP, rdyB, memB, allB, sins, sputO, sput, gdP, ev, get, Bool.and_true, Bool.true_and, Bool.or_false, Bool.or_true, Bool.not_true, Bool.not_false, if_true, if_false, Bool.false_eq_true, and_true, true_and, Nat.reduceAdd, Nat.reduceLT, Nat.reduceEqDiff]
    exact appgK_mono (fun v h2 hv => t_1 v h2 hv) hA
  have s_1_4_1 : awpAny (Ecx X) pushL (fun _ h2 => Q (.tup []) h2) 5 [0, 1, 2, 3, 4, 5] [(0, .ptr o off), (3, .ptr h.nobj 0), (4, .ptr o off), (5, .ptr o off), (6, .ptr o off), (7, .ptr o off), (8, ((h.new x).objs o).getD off .undef), (9, .agg ((((h.new x).objs h.nobj).drop 0).take 4))] (h.new x) := by
    rw [awpAny]
    simp (config := { decide := true }) only [A.tree_push.R, A.tree_push.D, pushL, List.zip_cons_cons, List.zip_nil_left, eachP, rdyB, memB, allB, sins, sputO, sput, gdP, ev, get, Bool.and_true, Bool.true_and, Bool.or_false, Bool.or_true, Bool.not_true, Bool.not_false, if_true, if_false, Bool.false_eq_true, and_true, true_and, Nat.reduceAdd, Nat.reduceLT, Nat.reduceEqDiff]
    exact bsl_wp rfl hv9 s_1_4_2
  have s_1_4_0 : awpAny (Ecx X) pushL (fun _ h2 => Q (.tup []) h2) 6 [0, 1, 2, 3, 4] [(0, .ptr o off), (3, .ptr h.nobj 0), (4, .ptr o off), (5, .ptr o off), (6, .ptr o off), (7, .ptr o off), (8, ((h.new x).objs o).getD off .undef)] (h.new x) := by
    rw [awpAny]
    simp (config := { decide := true }) only [A.tree_push.R, A.tree_push.D, pushL, List.zip_cons_cons, List.zip_nil_left, eachP, rdyB, memB, allB, sins, sputO, sput, gdP, ev, get, Bool.and_true, Bool.true_and, Bool.or_false, Bool.or_true, Bool.not_true, Bool.not_false, if_true, if_false, Bool.false_eq_true, and_true, true_and, Nat.reduceAdd, Nat.reduceLT, Nat.reduceEqDiff]
    exact ⟨hx1, s_1_4_1⟩
  have s_1_3_2 : awpAny (Ecx X) pushL (fun _ h2 => Q (.tup []) h2) 5 [0, 1, 2, 3, 5, 6] [(0, .ptr o off), (3, .ptr h.nobj 0), (4, .ptr o off), (5, .ptr o off), (6, .ptr o off), (7, .ptr o off), (9, .agg ((((h.new x).objs h.nobj).drop 0).take 4)), (10, .sl 4 2 [.agg ((((h.new x).objs h.nobj).drop 0).take 4)])] (h.new x) := by
    rw [awpAny]
    simp (config := { decide := true }) only [A.tree_push.R, A.tree_push.D, pushL, List.zip_cons_cons, List.zip_nil_left, eachP, rdyB, memB, allB, sins, sputO, sput, gdP, ev, get, Bool.and_true, Bool.true_and, Bool.or_false, Bool.or_true, Bool.not_true, Bool.not_false, if_true, if_false, Bool.false_eq_true, and_true, true_and, Nat.reduceAdd, Nat.reduceLT, Nat.reduceEqDiff]
    exact ⟨hol1, s_1_4_2⟩
  have s_1_3_1 : awpAny (Ecx X) pushL (fun _ h2 => Q (.tup []) h2) 6 [0, 1, 2, 3, 5] [(0, .ptr o off), (3, .ptr h.nobj 0), (4, .ptr o off), (5, .ptr o off), (6, .ptr o off), (7, .ptr o off), (9, .agg ((((h.new x).objs h.nobj).drop 0).take 4))] (h.new x) := by
    rw [awpAny]
    simp (config := { decide := true }) only [A.tree_push.R, A.tree_push.D, pushL, List.zip_cons_cons, List.zip_nil_left, eachP, rdyB, memB, allB, sins, sputO, sput, gdP, ev, get, Bool.and_true, Bool.true_and, Bool.or_false, Bool.or_true, Bool.not_true, Bool.not_false, if_true, if_false, Bool.false_eq_true, and_true, true_and, Nat.reduceAdd, Nat.reduceLT, Nat.reduceEqDiff]
    exact ⟨⟨hol1, s_1_4_1⟩, bsl_wp rfl hv9 s_1_3_2⟩
  have s_1_3_0 : awpAny (Ecx X) pushL (fun _ h2 => Q (.tup []) h2) 7 [0, 1, 2, 3] [(0, .ptr o off), (3, .ptr h.nobj 0), (4, .ptr o off), (5, .ptr o off), (6, .ptr o off), (7, .ptr o off)] (h.new x) := by
    rw [awpAny]
    simp (config := { decide := true }) only [A.tree_push.R, A.tree_push.D, pushL, List.zip_cons_cons, List.zip_nil_left, eachP, rdyB, memB, allB, sins, sputO, sput, gdP, ev, get, Bool.and_true, Bool.true_and, Bool.or_false, Bool.or_true, Bool.not_true, Bool.not_false, if_true, if_false, Bool.false_eq_true, and_true, true_and, Nat.reduceAdd, Nat.reduceLT, Nat.reduceEqDiff]
    exact ⟨⟨hol1, s_1_4_0⟩, ⟨hx1, s_1_3_1⟩⟩
  have s_1_2_2 : awpAny (Ecx X) pushL (fun _ h2 => Q (.tup []) h2) 6 [0, 1, 2, 5, 6] [(0, .ptr o off), (3, .ptr h.nobj 0), (4, .ptr o off), (5, .ptr o off), (6, .ptr o off), (9, .agg ((((h.new x).objs h.nobj).drop 0).take 4)), (10, .sl 4 2 [.agg ((((h.new x).objs h.nobj).drop 0).take 4)])] (h.new x) := by
    rw [awpAny]
    simp (config := { decide := true }) only [A.tree_push.R, A.tree_push.D, pushL, List.zip_cons_cons, List.zip_nil_left, eachP, rdyB, memB, allB, sins, sputO, sput, gdP, ev, get, Bool.and_true, Bool.true_and, Bool.or_false, Bool.or_true, Bool.not_true, Bool.not_false, if_true, if_false, Bool.false_eq_true, and_true, true_and, Nat.reduceAdd, Nat.reduceLT, Nat.reduceEqDiff]
    exact s_1_3_2
  have s_1_2_1 : awpAny (Ecx X) pushL (fun _ h2 => Q (.tup []) h2) 7 [0, 1, 2, 5] [(0, .ptr o off), (3, .ptr h.nobj 0), (4, .ptr o off), (5, .ptr o off), (6, .ptr o off), (9, .agg ((((h.new x).objs h.nobj).drop 0).take 4))] (h.new x) := by
    rw [awpAny]
    simp (config := { decide := true }) only [A.tree_push.R, A.tree_push.D, pushL, List.zip_cons_cons, List.zip_nil_left, eachP, rdyB, memB, allB, sins, sputO, sput, gdP, ev, get, Bool.and_true, Bool.true_and, Bool.or_false, Bool.or_true, Bool.not_true, Bool.not_false, if_true, if_false, Bool.false_eq_true, and_true, true_and, Nat.reduceAdd, Nat.reduceLT, Nat.reduceEqDiff]
    exact ⟨s_1_3_1, bsl_wp rfl hv9 s_1_2_2⟩
  have s_1_2_0 : awpAny (Ecx X) pushL (fun _ h2 => Q (.tup []) h2) 8 [0, 1, 2] [(0, .ptr o off), (3, .ptr h.nobj 0), (4, .ptr o off), (5, .ptr o off), (6, .ptr o off)] (h.new x) := by
    rw [awpAny]
    simp (config := { decide := true }) only [A.tree_push.R, A.tree_push.D, pushL, List.zip_cons_cons, List.zip_nil_left, eachP, rdyB, memB, allB, sins, sputO, sput, gdP, ev, get, Bool.and_true, Bool.true_and, Bool.or_false, Bool.or_true, Bool.not_true, Bool.not_false, if_true, if_false, Bool.false_eq_true, and_true, true_and, Nat.reduceAdd, Nat.reduceLT, Nat.reduceEqDiff]
    exact ⟨s_1_3_0, ⟨hx1, s_1_2_1⟩⟩
  have s_1_1_2 : awpAny (Ecx X) pushL (fun _ h2 => Q (.tup []) h2) 7 [0, 1, 5, 6] [(0, .ptr o off), (3, .ptr h.nobj 0), (4, .ptr o off), (5, .ptr o off), (9, .agg ((((h.new x).objs h.nobj).drop 0).take 4)), (10, .sl 4 2 [.agg ((((h.new x).objs h.nobj).drop 0).take 4)])] (h.new x) := by
    rw [awpAny]
    simp (config := { decide := true }) only [A.tree_push.R, A.tree_push.D, pushL, List.zip_cons_cons, List.zip_nil_left, eachP, rdyB, memB, allB, sins, sputO, sput, gdP, ev, get, Bool.and_true, Bool.true_and, Bool.or_false, Bool.or_true, Bool.not_true, Bool.not_false, if_true, if_false, Bool.false_eq_true, and_true, true_and, Nat.reduceAdd, Nat.reduceLT, Nat.reduceEqDiff]
    exact s_1_2_2
  have s_1_1_1 : awpAny (Ecx X) pushL (fun _ h2 => Q (.tup []) h2) 8 [0, 1, 5] [(0, .ptr o off), (3, .ptr h.nobj 0), (4, .ptr o off), (5, .ptr o off), (9, .agg ((((h.new x).objs h.nobj).drop 0).take 4))] (h.new x) := by
    rw [awpAny]
    simp (config := { decide := true }) only [A.tree_push.R, A.tree_push.D, pushL, List.zip_cons_cons, List.zip_nil_left, eachP, rdyB, memB, allB, sins, sputO, sput, gdP, ev, get, Bool.and_true, Bool.true_and, Bool.or_false, Bool.or_true, Bool.not_true, Bool.not_false, if_true, if_false, Bool.false_eq_true, and_true, true_and, Nat.reduceAdd, Nat.reduceLT, Nat.reduceEqDiff]
    exact ⟨s_1_2_1, bsl_wp rfl hv9 s_1_1_2⟩
  have s_1_1_0 : awpAny (Ecx X) pushL (fun _ h2 => Q (.tup []) h2) 9 [0, 1] [(0, .ptr o off), (3, .ptr h.nobj 0), (4, .ptr o off), (5, .ptr o off)] (h.new x) := by
    rw [awpAny]
    simp (config := { decide := true }) only [A.tree_push.R, A.tree_push.D, pushL, List.zip_cons_cons, List.zip_nil_left, eachP, rdyB, memB, allB, sins, sputO, sput, gdP, ev, get, Bool.and_true, Bool.true_and, Bool.or_false, Bool.or_true, Bool.not_true, Bool.not_false, if_true, if_false, Bool.false_eq_true, and_true, true_and, Nat.reduceAdd, Nat.reduceLT, Nat.reduceEqDiff]
    exact ⟨s_1_2_0, ⟨hx1, s_1_1_1⟩⟩
  have s_1_0_2 : awpAny (Ecx X) pushL (fun _ h2 => Q (.tup []) h2) 8 [0, 5, 6] [(0, .ptr o off), (3, .ptr h.nobj 0), (4, .ptr o off), (9, .agg ((((h.new x).objs h.nobj).drop 0).take 4)), (10, .sl 4 2 [.agg ((((h.new x).objs h.nobj).drop 0).take 4)])] (h.new x) := by
    rw [awpAny]
    simp (config := { decide := true }) only [A.tree_push.R, A.tree_push.D, pushL, List.zip_cons_cons, List.zip_nil_left, eachP, rdyB, memB, allB, sins, sputO, sput, gdP, ev, get, Bool.and_true, Bool.true_and, Bool.or_false, Bool.or_true, Bool.not_true, Bool.not_false, if_true, if_false, Bool.false_eq_true, and_true, true_and, Nat.reduceAdd, Nat.reduceLT, Nat.reduceEqDiff]
    exact s_1_1_2
  have s_1_0_1 : awpAny (Ecx X) pushL (fun _ h2 => Q (.tup []) h2) 9 [0, 5] [(0, .ptr o off), (3, .ptr h.nobj 0), (4, .ptr o off), (9, .agg ((((h.new x).objs h.nobj).drop 0).take 4))] (h.new x) := by
    rw [awpAny]
    simp (config := { decide := true }) only [A.tree_push.R, A.tree_push.D, pushL, List.zip_cons_cons, List.zip_nil_left, eachP, rdyB, memB, allB, sins, sputO, sput, gdP, ev, get, Bool.and_true, Bool.true_and, Bool.or_false, Bool.or_true, Bool.not_true, Bool.not_false, if_true, if_false, Bool.false_eq_true, and_true, true_and, Nat.reduceAdd, Nat.reduceLT, Nat.reduceEqDiff]
    exact ⟨s_1_1_1, bsl_wp rfl hv9 s_1_0_2⟩
  have s_1_0_0 : awpAny (Ecx X) pushL (fun _ h2 => Q (.tup []) h2) 10 [0] [(0, .ptr o off), (3, .ptr h.nobj 0), (4, .ptr o off)] (h.new x) := by
    rw [awpAny]
    simp (config := { decide := true }) only [A.tree_push.R, A.tree_push.D, pushL, List.zip_cons_cons, List.zip_nil_left, eachP, rdyB, memB, allB, sins, sputO, sput, gdP, ev, get, Bool.and_true, Bool.true_and, Bool.or_false, Bool.or_true, Bool.not_true, Bool.not_false, if_true, if_false, Bool.false_eq_true, and_true, true_and, Nat.reduceAdd, Nat.reduceLT, Nat.reduceEqDiff]
    exact ⟨s_1_1_0, ⟨hx1, s_1_0_1⟩⟩
  have s_0_4_2 : awpAny (Ecx X) pushL (fun _ h2 => Q (.tup []) h2) 5 [1, 2, 3, 4, 5, 6] [(0, .ptr o off), (3, .ptr h.nobj 0), (5, .ptr o off), (6, .ptr o off), (7, .ptr o off), (8, ((h.new x).objs o).getD off .undef), (9, .agg ((((h.new x).objs h.nobj).drop 0).take 4)), (10, .sl 4 2 [.agg ((((h.new x).objs h.nobj).drop 0).take 4)])] (h.new x) := by
    rw [awpAny]
    simp (config := { decide := true }) only [A.tree_push.R, A.tree_push.D, pushL, List.zip_cons_cons, List.zip_nil_left, eachP, rdyB, memB, allB, sins, sputO, sput, gdP, ev, get, Bool.and_true, Bool.true_and, Bool.or_false, Bool.or_true, Bool.not_true, Bool.not_false, if_true, if_false, Bool.false_eq_true, and_true, true_and, Nat.reduceAdd, Nat.reduceLT, Nat.reduceEqDiff]
    exact ⟨s_1_4_2, appgK_mono (fun v h2 hv => t_0 v h2 hv) hA⟩
  have s_0_4_1 : awpAny (Ecx X) pushL (fun _ h2 => Q (.tup []) h2) 6 [1, 2, 3, 4, 5] [(0, .ptr o off), (3, .ptr h.nobj 0), (5, .ptr o off), (6, .ptr o off), (7, .ptr o off), (8, ((h.new x).objs o).getD off .undef), (9, .agg ((((h.new x).objs h.nobj).drop 0).take 4))] (h.new x) := by
    rw [awpAny]
    simp (config := { decide := true }) only [A.tree_push.R, A.tree_push.D, pushL, List.zip_cons_cons, List.zip_nil_left, eachP, rdyB, memB, allB, sins, sputO, sput, gdP, ev, get, Bool.and_true, Bool.true_and, Bool.or_false, Bool.or_true, Bool.not_true, Bool.not_false, if_true, if_false, Bool.false_eq_true, and_true, true_and, Nat.reduceAdd, Nat.reduceLT, Nat.reduceEqDiff]
    exact ⟨s_1_4_1, bsl_wp rfl hv9 s_0_4_2⟩
  have s_0_4_0 : awpAny (Ecx X) pushL (fun _ h2 => Q (.tup []) h2) 7 [1, 2, 3, 4] [(0, .ptr o off), (3, .ptr h.nobj 0), (5, .ptr o off), (6, .ptr o off), (7, .ptr o off), (8, ((h.new x).objs o).getD off .undef)] (h.new x) := by
    rw [awpAny]
    simp (config := { decide := true }) only [A.tree_push.R, A.tree_push.D, pushL, List.zip_cons_cons, List.zip_nil_left, eachP, rdyB, memB, allB, sins, sputO, sput, gdP, ev, get, Bool.and_true, Bool.true_and, Bool.or_false, Bool.or_true, Bool.not_true, Bool.not_false, if_true, if_false, Bool.false_eq_true, and_true, true_and, Nat.reduceAdd, Nat.reduceLT, Nat.reduceEqDiff]
    exact ⟨s_1_4_0, ⟨hx1, s_0_4_1⟩⟩
  have s_0_3_2 : awpAny (Ecx X) pushL (fun _ h2 => Q (.tup []) h2) 6 [1, 2, 3, 5, 6] [(0, .ptr o off), (3, .ptr h.nobj 0), (5, .ptr o off), (6, .ptr o off), (7, .ptr o off), (9, .agg ((((h.new x).objs h.nobj).drop 0).take 4)), (10, .sl 4 2 [.agg ((((h.new x).objs h.nobj).drop 0).take 4)])] (h.new x) := by
    rw [awpAny]
    simp (config := { decide := true }) only [A.tree_push.R, A.tree_push.D, pushL, List.zip_cons_cons, List.zip_nil_left, eachP, rdyB, memB, allB, sins, sputO, sput, gdP, ev, get, Bool.and_true, Bool.true_and, Bool.or_false, Bool.or_true, Bool.not_true, Bool.not_false, if_true, if_false, Bool.false_eq_true, and_true, true_and, Nat.reduceAdd, Nat.reduceLT, Nat.reduceEqDiff]
    exact ⟨s_1_3_2, ⟨hol1, s_0_4_2⟩⟩
  have s_0_3_1 : awpAny (Ecx X) pushL (fun _ h2 => Q (.tup []) h2) 7 [1, 2, 3, 5] [(0, .ptr o off), (3, .ptr h.nobj 0), (5, .ptr o off), (6, .ptr o off), (7, .ptr o off), (9, .agg ((((h.new x).objs h.nobj).drop 0).take 4))] (h.new x) := by
    rw [awpAny]
    simp (config := { decide := true }) only [A.tree_push.R, A.tree_push.D, pushL, List.zip_cons_cons, List.zip_nil_left, eachP, rdyB, memB, allB, sins, sputO, sput, gdP, ev, get, Bool.and_true, Bool.true_and, Bool.or_false, Bool.or_true, Bool.not_true, Bool.not_false, if_true, if_false, Bool.false_eq_true, and_true, true_and, Nat.reduceAdd, Nat.reduceLT, Nat.reduceEqDiff]
    exact ⟨s_1_3_1, ⟨hol1, s_0_4_1⟩, bsl_wp rfl hv9 s_0_3_2⟩
  have s_0_3_0 : awpAny (Ecx X) pushL (fun _ h2 => Q (.tup []) h2) 8 [1, 2, 3] [(0, .ptr o off), (3, .ptr h.nobj 0), (5, .ptr o off), (6, .ptr o off), (7, .ptr o off)] (h.new x) := by
    rw [awpAny]
    simp (config := { decide := true }) only [A.tree_push.R, A.tree_push.D, pushL, List.zip_cons_cons, List.zip_nil_left, eachP, rdyB, memB, allB, sins, sputO, sput, gdP, ev, get, Bool.and_true, Bool.true_and, Bool.or_false, Bool.or_true, Bool.not_true, Bool.not_false, if_true, if_false, Bool.false_eq_true, and_true, true_and, Nat.reduceAdd, Nat.reduceLT, Nat.reduceEqDiff]
    exact ⟨s_1_3_0, ⟨hol1, s_0_4_0⟩, ⟨hx1, s_0_3_1⟩⟩
  have s_0_2_2 : awpAny (Ecx X) pushL (fun _ h2 => Q (.tup []) h2) 7 [1, 2, 5, 6] [(0, .ptr o off), (3, .ptr h.nobj 0), (5, .ptr o off), (6, .ptr o off), (9, .agg ((((h.new x).objs h.nobj).drop 0).take 4)), (10, .sl 4 2 [.agg ((((h.new x).objs h.nobj).drop 0).take 4)])] (h.new x) := by
    rw [awpAny]
    simp (config := { decide := true }) only [A.tree_push.R, A.tree_push.D, pushL, List.zip_cons_cons, List.zip_nil_left, eachP, rdyB, memB, allB, sins, sputO, sput, gdP, ev, get, Bool.and_true, Bool.true_and, Bool.or_false, Bool.or_true, Bool.not_true, Bool.not_false, if_true, if_false, Bool.false_eq_true, and_true, true_and, Nat.reduceAdd, Nat.reduceLT, Nat.reduceEqDiff]
    exact ⟨s_1_2_2, s_0_3_2⟩
  have s_0_2_1 : awpAny (Ecx X) pushL (fun _ h2 => Q (.tup []) h2) 8 [1, 2, 5] [(0, .ptr o off), (3, .ptr h.nobj 0), (5, .ptr o off), (6, .ptr o off), (9, .agg ((((h.new x).objs h.nobj).drop 0).take 4))] (h.new x) := by
    rw [awpAny]
    simp (config := { decide := true }) only [A.tree_push.R, A.tree_push.D, pushL, List.zip_cons_cons, List.zip_nil_left, eachP, rdyB, memB, allB, sins, sputO, sput, gdP, ev, get, Bool.and_true, Bool.true_and, Bool.or_false, Bool.or_true, Bool.not_true, Bool.not_false, if_true, if_false, Bool.false_eq_true, and_true, true_and, Nat.reduceAdd, Nat.reduceLT, Nat.reduceEqDiff]
    exact ⟨s_1_2_1, s_0_3_1, bsl_wp rfl hv9 s_0_2_2⟩
  have s_0_2_0 : awpAny (Ecx X) pushL (fun _ h2 => Q (.tup []) h2) 9 [1, 2] [(0, .ptr o off), (3, .ptr h.nobj 0), (5, .ptr o off), (6, .ptr o off)] (h.new x) := by
    rw [awpAny]
    simp (config := { decide := true }) only [A.tree_push.R, A.tree_push.D, pushL, List.zip_cons_cons, List.zip_nil_left, eachP, rdyB, memB, allB, sins, sputO, sput, gdP, ev, get, Bool.and_true, Bool.true_and, Bool.or_false, Bool.or_true, Bool.not_true, Bool.not_false, if_true, if_false, Bool.false_eq_true, and_true, true_and, Nat.reduceAdd, Nat.reduceLT, Nat.reduceEqDiff]
    exact ⟨s_1_2_0, s_0_3_0, ⟨hx1, s_0_2_1⟩⟩
  have s_0_1_2 : awpAny (Ecx X) pushL (fun _ h2 => Q (.tup []) h2) 8 [1, 5, 6] [(0, .ptr o off), (3, .ptr h.nobj 0), (5, .ptr o off), (9, .agg ((((h.new x).objs h.nobj).drop 0).take 4)), (10, .sl 4 2 [.agg ((((h.new x).objs h.nobj).drop 0).take 4)])] (h.new x) := by
    rw [awpAny]
    simp (config := { decide := true }) only [A.tree_push.R, A.tree_push.D, pushL, List.zip_cons_cons, List.zip_nil_left, eachP, rdyB, memB, allB, sins, sputO, sput, gdP, ev, get, Bool.and_true, Bool.true_and, Bool.or_false, Bool.or_true, Bool.not_true, Bool.not_false, if_true, if_false, Bool.false_eq_true, and_true, true_and, Nat.reduceAdd, Nat.reduceLT, Nat.reduceEqDiff]
    exact ⟨s_1_1_2, s_0_2_2⟩
  have s_0_1_1 : awpAny (Ecx X) pushL (fun _ h2 => Q (.tup []) h2) 9 [1, 5] [(0, .ptr o off), (3, .ptr h.nobj 0), (5, .ptr o off), (9, .agg ((((h.new x).objs h.nobj).drop 0).take 4))] (h.new x) := by
    rw [awpAny]
    simp (config := { decide := true }) only [A.tree_push.R, A.tree_push.D, pushL, List.zip_cons_cons, List.zip_nil_left, eachP, rdyB, memB, allB, sins, sputO, sput, gdP, ev, get, Bool.and_true, Bool.true_and, Bool.or_false, Bool.or_true, Bool.not_true, Bool.not_false, if_true, if_false, Bool.false_eq_true, and_true, true_and, Nat.reduceAdd, Nat.reduceLT, Nat.reduceEqDiff]
    exact ⟨s_1_1_1, s_0_2_1, bsl_wp rfl hv9 s_0_1_2⟩
  have s_0_1_0 : awpAny (Ecx X) pushL (fun _ h2 => Q (.tup []) h2) 10 [1] [(0, .ptr o off), (3, .ptr h.nobj 0), (5, .ptr o off)] (h.new x) := by
    rw [awpAny]
    simp (config := { decide := true }) only [A.tree_push.R, A.tree_push.D, pushL, List.zip_cons_cons, List.zip_nil_left, eachP, rdyB, memB, allB, sins, sputO, sput, gdP, ev, get, Bool.and_true, Bool.true_and, Bool.or_false, Bool.or_true, Bool.not_true, Bool.not_false, if_true, if_false, Bool.false_eq_true, and_true, true_and, Nat.reduceAdd, Nat.reduceLT, Nat.reduceEqDiff]
    exact ⟨s_1_1_0, s_0_2_0, ⟨hx1, s_0_1_1⟩⟩
  have s_0_0_2 : awpAny (Ecx X) pushL (fun _ h2 => Q (.tup []) h2) 9 [5, 6] [(0, .ptr o off), (3, .ptr h.nobj 0), (9, .agg ((((h.new x).objs h.nobj).drop 0).take 4)), (10, .sl 4 2 [.agg ((((h.new x).objs h.nobj).drop 0).take 4)])] (h.new x) := by
    rw [awpAny]
    simp (config := { decide := true }) only [A.tree_push.R, A.tree_push.D, pushL, List.zip_cons_cons, List.zip_nil_left, eachP, rdyB, memB, allB, sins, sputO, sput, gdP, ev, get, Bool.and_true, Bool.true_and, Bool.or_false, Bool.or_true, Bool.not_true, Bool.not_false, if_true, if_false, Bool.false_eq_true, and_true, true_and, Nat.reduceAdd, Nat.reduceLT, Nat.reduceEqDiff]
    exact ⟨s_1_0_2, s_0_1_2⟩
  have s_0_0_1 : awpAny (Ecx X) pushL (fun _ h2 => Q (.tup []) h2) 10 [5] [(0, .ptr o off), (3, .ptr h.nobj 0), (9, .agg ((((h.new x).objs h.nobj).drop 0).take 4))] (h.new x) := by
    rw [awpAny]
    simp (config := { decide := true }) only [A.tree_push.R, A.tree_push.D, pushL, List.zip_cons_cons, List.zip_nil_left, eachP, rdyB, memB, allB, sins, sputO, sput, gdP, ev, get, Bool.and_true, Bool.true_and, Bool.or_false, Bool.or_true, Bool.not_true, Bool.not_false, if_true, if_false, Bool.false_eq_true, and_true, true_and, Nat.reduceAdd, Nat.reduceLT, Nat.reduceEqDiff]
    exact ⟨s_1_0_1, s_0_1_1, bsl_wp rfl hv9 s_0_0_2⟩
  have s_0_0_0 : awpAny (Ecx X) pushL (fun _ h2 => Q (.tup []) h2) 11 [] [(0, .ptr o off), (3, .ptr h.nobj 0)] (h.new x) := by
    rw [awpAny]
    simp (config := { decide := true }) only [A.tree_push.R, A.tree_push.D, pushL, List.zip_cons_cons, List.zip_nil_left, eachP, rdyB, memB, allB, sins, sputO, sput, gdP, ev, get, Bool.and_true, Bool.true_and, Bool.or_false, Bool.or_true, Bool.not_true, Bool.not_false, if_true, if_false, Bool.false_eq_true, and_true, true_and, Nat.reduceAdd, Nat.reduceLT, Nat.reduceEqDiff]
    exact ⟨s_1_0_0, s_0_1_0, ⟨hx1, s_0_0_1⟩⟩

  exact s_0_0_0
theorem push_has {Y : Keys} (hm : X.P.follows .mixedOrders = true) (hY : X.tbl = Y.tbl) {k : Nat} {fn : Func} (hf : X.P.funcs[X.tbl k]? = some fn) (hname : (fn.name == "runtime.NumGoroutine") = false) (hk0 : FK k) {c0 : Code} {id : Nat} {ops : Array Oper}
    (hb : fn.body = some (.seq c0 (.region id ops true))) (hN : fn.ntmps = 14) (hres : resSlots X.P fn.results.toList = some []) (h0 : comp X.P Y 14 c0 = some A.tree_push.C0.strip) (hc : compOpers X.P Y 14 ops ops.toList = some A.tree_push.R) (hd : depsOf ops = A.tree_push.D) (h2 : edgesDown ops = true) : HasPush X k := by
  intro args h Q hl hk g w cargs I rl
  refine .inl ⟨fn, hk0, hf, hname, by rw [hb]; rfl, ?_⟩
  refine calls_of_wp hf hb ((wpIn_wide (n := 0)).1 ?_)
  show Code.wpIn (FR none) 0 X.P _ _ _ w
  have H0 : Hold X 14 [] g w h (initEnv 0 args) { tmps := cargs ++ Array.replicate (fn.ntmps - cargs.size) undef, defers := [] } := by
    refine ⟨fun n => ?_, I, ?_, rfl⟩
    · rw [initEnv_get]
      split
      · rename_i hn
        have hn1 : n < args.length := by omega
        have hn2 : n < cargs.size := by rw [← rl.1]; exact hn1
        have : (cargs ++ Array.replicate (fn.ntmps - cargs.size) undef).getD n undef = cargs[n] := by
          simp [Array.getD_eq_getD_getElem?, Array.getElem?_append, hn2]
        simp only [this, Nat.sub_zero, List.getD, List.getElem?_eq_getElem hn1, Option.getD_some]
        exact rl.2 n hn1 hn2
      · exact .undef _
    · simp; have := rl.1; omega
  have hlen : A.tree_push.R.length = 11 := rfl
  refine wpIn_seq (code_sound (ro := none) (ds := []) hm hY A.tree_push.C0 c0 h0 H0 hk (fun e env1 h1' g1 w1 a1 q H1 S1 => ?_) (fun p w' a' z hd' => ?_))
  · cases e with
    | exit n => exact q.elim
    | ret => exact q.elim
    | nrm =>
      refine any_sound (ro := none) (ds := []) hm hY hc hd h2 H1 (K := fun _ h2 => Q (.tup []) h2) q (fun env' h' g' w' a' q' H' S' => ?_) (fun p w' a' z hd' => ?_)
      · obtain ⟨v, u, hrun, q2, rv⟩ := results_run (K := fun v => Q v h') H'.env H'.inv hres q'
        exact ⟨H'.defers, _, hrun, .inl ⟨_, rfl, v, h', g', q2, H'.inv, rv, S1.trans S'⟩⟩
      · exact ⟨hd', .inr ⟨p, rfl, z.trans S1⟩⟩
  · exact ⟨hd', .inr ⟨p, rfl, z⟩⟩
end
end Go.Proofs.Ytajaoldljichaaa.Al
namespace Go.Proofs.Ytajaoldljichaaa.Al
open Go Go.RowKit
set_option linter.unusedSimpArgs false
set_option linter.unusedVariables false
attribute [-simp] List.getD_eq_getElem?_getD Int.not_lt Int.not_le List.map_take
structure Pt where
  sym : Sy
  node : Int
  fin : Bool
  deriving DecidableEq
/-- A production of a derivation, and where its symbols lie. -/
structure Dn where
  prod : Int
  at' : List Int
  deriving DecidableEq
structure Rp where
  todo : List Pt
  word : List Int
  nodes : List Dn
def ptC (p : Pt) : List V := [.bool p.sym.non, .int .i64 p.sym.n, .int .i64 p.node, .bool p.fin]
def ptsC (l : List Pt) : List V := l.flatMap ptC
def dnC (n : Dn) (a : Nat × Nat) : List V := [.int .i64 n.prod, .sl a.1 a.2 (ints n.at')]
def dnsC : List Dn → List (Nat × Nat) → List V
  | n :: l, a :: as => dnC n a ++ dnsC l as
  | _, _ => []
/-- A slice that may be appended to, its stamp st. -/
def OwnS (h0 h : AH) (e st : Nat) (l : List Int) : Prop := (l = [] ∨ e = 1) ∧ (st = 1 ∨ st = 2 ∨ (h.tips st = some 1 ∧ h0.next ≤ st ∧ st < h.next))
theorem ptsC_len (l : List Pt) : (ptsC l).length = l.length * 4 := by
  induction l with
  | nil => rfl
  | cons p l ih => simp [ptsC, ptC] at ih ⊢; omega
theorem ptsC_snoc (l : List Pt) (p : Pt) : ptsC (l ++ [p]) = ptsC l ++ ptC p := by simp [ptsC]
theorem dnsC_len : ∀ (l : List Dn) (as : List (Nat × Nat)), l.length = as.length → (dnsC l as).length = l.length * 2
  | [], [], _ => rfl
  | n :: l, a :: as, h => by
    have := dnsC_len l as (by simpa using h)
    simp [dnsC, dnC] at this ⊢; omega
theorem dnsC_get : ∀ (l : List Dn) (as : List (Nat × Nat)) (h : l.length = as.length) (i : Nat) (h1 : i < l.length) (h2 : i < as.length), (dnsC l as)[i * 2]? = some (.int .i64 l[i].prod) ∧ (dnsC l as)[i * 2 + 1]? = some (.sl as[i].1 as[i].2 (ints l[i].at'))
  | n :: l, a :: as, h, 0, _, _ => by simp [dnsC, dnC]
  | n :: l, a :: as, h, i + 1, h1, h2 => by
    have := dnsC_get l as (by simpa using h) i (by simpa using h1) (by simpa using h2)
    simp only [dnsC, dnC]
    rw [show (i + 1) * 2 = i * 2 + 2 by omega, show i * 2 + 2 + 1 = (i * 2 + 1) + 2 by omega]
    simpa using this
theorem dnsC_set : ∀ (l : List Dn) (as : List (Nat × Nat)) (h : l.length = as.length) (i : Nat) (h1 : i < l.length) (d : Dn) (a : Nat × Nat), d.prod = l[i].prod → (dnsC l as).set (i * 2 + 1) (.sl a.1 a.2 (ints d.at')) = dnsC (l.set i d) (as.set i a)
  | n :: l, b :: as, h, 0, _, d, a, hd => by simp at hd; simp [dnsC, dnC, hd]
  | n :: l, b :: as, h, i + 1, h1, d, a, hd => by
    have := dnsC_set l as (by simpa using h) i (by simpa using h1) d a (by simpa using hd)
    simp only [dnsC, dnC, List.set_cons_succ]
    rw [show (i + 1) * 2 + 1 = (i * 2 + 1) + 2 by omega]
    simpa using this
theorem dnsC_snoc : ∀ (l : List Dn) (as : List (Nat × Nat)) (h : l.length = as.length) (d : Dn) (a : Nat × Nat), dnsC (l ++ [d]) (as ++ [a]) = dnsC l as ++ dnC d a
  | [], [], _, d, a => by simp [dnsC]
  | n :: l, b :: as, h, d, a => by
    have := dnsC_snoc l as (by simpa using h) d a
    simp only [List.cons_append, dnsC, this, List.append_assoc]
/-- The stack: in no object yet, or in object t. -/
def StkH (h : AH) (T : V) (l : List Pt) (t : Nat) : Prop := (∃ e, T = .sl e 1 [] ∧ l = []) ∨ ∃ c, T = .osl 4 t 0 l.length c ∧ c ≠ 0 ∧ l.length ≤ c ∧ c * 4 ≤ (h.objs t).length ∧ (h.objs t).take (l.length * 4) = ptsC l.reverse
def NdsH (h : AH) (N : V) (l : List Dn) (u : Nat) (as : List (Nat × Nat)) : Prop := (∃ e, N = .sl e 1 [] ∧ l = [] ∧ as = []) ∨ ∃ c, N = .osl 2 u 0 l.length c ∧ c ≠ 0 ∧ l.length ≤ c ∧ c * 2 ≤ (h.objs u).length ∧ l.length = as.length ∧ (h.objs u).take (l.length * 2) = dnsC l as
def V.isOsl : V → Bool
  | .osl .. => true
  | _ => false
/-- A replayer in object o; F: other objects, with what they hold. -/
structure RpH (F : List (Nat × List V)) (h0 h : AH) (o : Nat) (g : Gm) (s : Rp) : Prop where
  gr : Gr h0 h
  n3 : 3 ≤ h0.next
  ex : ∃ T N We Ws t u as, h.objs o = [.int .i64 g.terms, .int .i64 g.nons, .int .i64 g.start, .sl 2 0 (g.prods.map prV), T, .sl We Ws (ints s.word), N] ∧ StkH h T s.todo t ∧ NdsH h N s.nodes u as ∧ OwnS h0 h We Ws s.word ∧
    (∀ i (h1 : i < s.nodes.length) (h2 : i < as.length), OwnS h0 h as[i].1 as[i].2 s.nodes[i].at' ∧ (as[i].2 ≤ 2 ∨ as[i].2 ≠ Ws) ∧ ∀ j (h3 : j < as.length), j ≠ i → as[i].2 ≤ 2 ∨ as[j].2 ≠ as[i].2) ∧
    h0.nobj ≤ o ∧ o < h.nobj ∧ (T.isOsl = true → h0.nobj ≤ t ∧ t < h.nobj ∧ t ≠ o) ∧ (N.isOsl = true → h0.nobj ≤ u ∧ u < h.nobj ∧ u ≠ o) ∧ (T.isOsl = true → N.isOsl = true → u ≠ t) ∧
    ∀ q ∈ F, q.1 < h.nobj ∧ h.objs q.1 = q.2 ∧ q.1 ≠ o ∧ (T.isOsl = true → q.1 ≠ t) ∧ (N.isOsl = true → q.1 ≠ u)
theorem OwnS.push {h0 h : AH} {e st1 st : Nat} {l : List Int} (o : OwnS h0 h e st1 l) (n3 : 3 ≤ h0.next) (ne : st1 ≤ 2 ∨ st1 ≠ st) : OwnS h0 (h.push st 1) e st1 l := by
  refine ⟨o.1, ?_⟩
  rcases o.2 with h1 | h1 | ⟨h1, h2, h3⟩
  · exact .inl h1
  · exact .inr (.inl h1)
  · exact .inr (.inr ⟨by rw [push_tips_ne (by omega) (by omega)]; exact h1, h2, by rw [push_next]; omega⟩)
theorem OwnS.fresh {h0 h : AH} (g : Gr h0 h) (st : Nat) (l : List Int) : OwnS h0 (h.push st 1) 1 h.next l :=
  ⟨.inr rfl, .inr (.inr ⟨push_new h st 1, g.next, by rw [push_next]; omega⟩)⟩
theorem OwnS.own {h0 h : AH} {e st : Nat} {l : List Int} (o : OwnS h0 h e st l) (g : Gr h0 h) : Own h0 h 1 e st (ints l) :=
  ⟨g, o.1.imp (fun h => by rw [h]; rfl) id, o.2.imp id (Or.imp id fun h => ⟨h.1, h.2.1⟩)⟩
theorem OwnS.gr {h0 h : AH} {e st : Nat} {l : List Int} (o : OwnS h0 h e st l) {h2 : AH} (h1 : h2.tips = h.tips) (h3 : h2.next = h.next) : OwnS h0 h2 e st l := by
  unfold OwnS at *; rw [h1, h3]; exact o
theorem OwnS.st_push {h0 h : AH} {e st : Nat} {l : List Int} (o : OwnS h0 h e st l) : st ≤ 2 ∨ h0.next ≤ st := by
  rcases o.2 with h | h | h
  · omega
  · omega
  · exact .inr h.2.1
/-- Where a symbol begins is noted. -/
def hereR (s : Rp) (p : Pt) : Rp := if 0 ≤ p.node then { s with nodes := s.nodes.modify p.node.toNat fun n => { n with at' := n.at' ++ [(s.word.length : Int)] } } else s
structure LTr (X : Cx) : Prop where
  push : HasPush X K.tree_stack_part_push
  pop : Has (Ecx X) K.tree_stack_part_pop A.tree_stack_part_pop
  here : Has (Ecx X) K.tree_replayer_here A.tree_replayer_here
  run : Has (Ecx X) K.tree_replayer_run A.tree_replayer_run
  opn : Has (Ecx X) K.tree_replayer_open A.tree_replayer_open_o
  replay : Has (Ecx X) K.tree_replay A.tree_replay_o
  replay' : Has (Ecx X) K.tree_Replay A.tree_Replay
  nodes : Has (Ecx X) K.tree_Nodes A.tree_Nodes
section
variable {X : Cx} {h : AH} {Q : V → AH → Prop}
theorem RpH.new {F : List (Nat × List V)} {h0 h : AH} {o : Nat} {g : Gm} {s : Rp} (r : RpH F h0 h o g s) (z : List V) : RpH F h0 (h.new z) o g s := by
  obtain ⟨gr, n3, T, N, We, Ws, t, u, as, c, ht, hn, hw, ha, o1, o2, p1, p2, p3, p4⟩ := r
  refine ⟨gr.new z, n3, T, N, We, Ws, t, u, as, by rw [new_objs_ne h z (by omega)]; exact c, ?_, ?_, hw, ha, o1, Nat.lt_succ_of_lt o2, fun q => ⟨(p1 q).1, Nat.lt_succ_of_lt (p1 q).2.1, (p1 q).2.2⟩, fun q => ⟨(p2 q).1, Nat.lt_succ_of_lt (p2 q).2.1, (p2 q).2.2⟩, p3, fun q hq => ⟨Nat.lt_succ_of_lt (p4 q hq).1, by rw [new_objs_ne h z (by have := (p4 q hq).1; omega)]; exact (p4 q hq).2.1, (p4 q hq).2.2⟩⟩
  · rcases ht with ht | ⟨c', e, ht⟩
    · exact .inl ht
    · have := (p1 (by rw [e]; rfl)).2.1
      exact .inr ⟨c', e, by rw [new_objs_ne h z (by omega)]; exact ht⟩
  · rcases hn with hn | ⟨c', e, hn⟩
    · exact .inl hn
    · have := (p2 (by rw [e]; rfl)).2.1
      exact .inr ⟨c', e, by rw [new_objs_ne h z (by omega)]; exact hn⟩
theorem RpH.local {F : List (Nat × List V)} {h0 h : AH} {o : Nat} {g : Gm} {s : Rp} (r : RpH F h0 h o g s) (z : List V) : RpH ((h.nobj, z) :: F) h0 (h.new z) o g s := by
  obtain ⟨gr, n3, T, N, We, Ws, t, u, as, c, ht, hn, hw, ha, o1, o2, p1, p2, p3, p4⟩ := r
  refine ⟨gr.new z, n3, T, N, We, Ws, t, u, as, by rw [new_objs_ne h z (by omega)]; exact c, ?_, ?_, hw, ha, o1, Nat.lt_succ_of_lt o2, fun q => ⟨(p1 q).1, Nat.lt_succ_of_lt (p1 q).2.1, (p1 q).2.2⟩, fun q => ⟨(p2 q).1, Nat.lt_succ_of_lt (p2 q).2.1, (p2 q).2.2⟩, p3, fun q hq => ?_⟩
  · rcases ht with ht | ⟨c', e, ht⟩
    · exact .inl ht
    · have := (p1 (by rw [e]; rfl)).2.1
      exact .inr ⟨c', e, by rw [new_objs_ne h z (by omega)]; exact ht⟩
  · rcases hn with hn | ⟨c', e, hn⟩
    · exact .inl hn
    · have := (p2 (by rw [e]; rfl)).2.1
      exact .inr ⟨c', e, by rw [new_objs_ne h z (by omega)]; exact hn⟩
  · rcases List.mem_cons.1 hq with rfl | hq
    · exact ⟨Nat.lt_succ_self _, updN_same _ _ _, by simp only; omega, fun q => by have := (p1 q).2.1; simp only; omega, fun q => by have := (p2 q).2.1; simp only; omega⟩
    · exact ⟨Nat.lt_succ_of_lt (p4 q hq).1, by rw [new_objs_ne h z (by have := (p4 q hq).1; omega)]; exact (p4 q hq).2.1, (p4 q hq).2.2⟩
theorem RpH.drop {F : List (Nat × List V)} {q : Nat × List V} {h0 h : AH} {o : Nat} {g : Gm} {s : Rp} (r : RpH (q :: F) h0 h o g s) : RpH F h0 h o g s := by
  obtain ⟨gr, n3, T, N, We, Ws, t, u, as, c, ht, hn, hw, ha, o1, o2, p1, p2, p3, p4⟩ := r
  exact ⟨gr, n3, T, N, We, Ws, t, u, as, c, ht, hn, hw, ha, o1, o2, p1, p2, p3, fun q hq => p4 q (List.mem_cons_of_mem _ hq)⟩
theorem RpH.at {F : List (Nat × List V)} {q : Nat × List V} {h0 h : AH} {o : Nat} {g : Gm} {s : Rp} (r : RpH (q :: F) h0 h o g s) : q.1 < h.nobj ∧ h.objs q.1 = q.2 := by
  obtain ⟨gr, n3, T, N, We, Ws, t, u, as, c, ht, hn, hw, ha, o1, o2, p1, p2, p3, p4⟩ := r
  exact ⟨(p4 q (List.mem_cons_self ..)).1, (p4 q (List.mem_cons_self ..)).2.1⟩
theorem here_spec (L : LTr X) {F : List (Nat × List V)} {h0 : AH} {o : Nat} {g : Gm} {s : Rp} (r : RpH F h0 h o g s) (p : Pt) (hp : p.node < s.nodes.length) (hw : s.word.length < 2 ^ 30) (hn : s.nodes.length < 2 ^ 30) (ha : ∀ n ∈ s.nodes, n.at'.length < 2 ^ 30)
    (hQ : ∀ h', RpH F h0 h' o g (hereR s p) → Q (.tup []) h') : Ecx X K.tree_replayer_here [.ptr o 0, .agg (ptC p)] h Q := by
  refine fn_any L.here (by simp [A.tree_replayer_here]) fun wf => ?_
  have r1 := r.new (ptC p)
  obtain ⟨gr, n3, T, N, We, Ws, t, u, as, c, ht, hN, hW, hA, o1, o2, p1, p2, p3, p4⟩ := r1
  have n1 : ¬ o = h.nobj := by have := r.ex; obtain ⟨_, _, _, _, _, _, _, _, _, _, _, _, _, q, _⟩ := this; omega
  obtain ⟨sym, nd, fi⟩ := p
  simp only at hp
  by_cases c0 : 0 ≤ nd
  · obtain ⟨i, rfl⟩ : ∃ n : Nat, nd = n := ⟨nd.toNat, by omega⟩
    have hi : i < s.nodes.length := by omega
    rcases hN with ⟨e, rfl, hnil, _⟩ | ⟨cp, rfl, cne, cle, cl, la, ct⟩
    · rw [hnil] at hi; simp at hi
    · obtain ⟨u1, u2, u3⟩ := p2 rfl
      have hia : i < as.length := by omega
      have hil : i * 2 + 1 < ((h.new (ptC ⟨sym, i, fi⟩)).objs u).length := by omega
      obtain ⟨d1, d2⟩ := dnsC_get s.nodes as la i hi hia
      have hgd : ((h.new (ptC ⟨sym, i, fi⟩)).objs u).getD (i * 2 + 1) .undef = .sl as[i].1 as[i].2 (ints s.nodes[i].at') := by
        have e : ((h.new (ptC ⟨sym, i, fi⟩)).objs u)[i * 2 + 1]? = (((h.new (ptC ⟨sym, i, fi⟩)).objs u).take (s.nodes.length * 2))[i * 2 + 1]? := by rw [List.getElem?_take, if_pos (by omega)]
        rw [List.getD_eq_getElem?_getD, e, ct, d2]; rfl
      have hal := ha _ (List.getElem_mem hi)
      obtain ⟨a1, a2, a3⟩ := hA i hi hia
      have un : ¬ u = h.nobj ∨ u = h.nobj := by omega
      simp only [ptC] at *
      simp [A.tree_replayer_here, V.cells, V.good, c, hi, hgd, hil, fillL, V.isAgg]
      generalize hC : [V.bool sym.non, V.int IntKind.i64 sym.n, V.int IntKind.i64 i, V.bool fi] = C at *
      refine (a1.own gr).appF (by simp) rfl (by simp [ints]; omega) fun _ => ?_
      have hlu : i * 2 + 1 < (((h.new C).push as[i].2 1).objs u).length := by rw [push_objs]; exact hil
      simp [setAt, push_objs, hil, V.cells, V.good]
      have hstp := a1.st_push
      have hnx := gr.next
      refine ⟨by omega, hQ _ ⟨(gr.push hstp 1).set u1 _, n3, T, _, We, Ws, t, u, as.set i (1, (h.new C).next), ?_, ?_, .inr ⟨cp, ?_, cne, ?_, ?_, ?_, ?_⟩, ?_, ?_, o1, ?_, ?_, ?_, p3, fun q hq => ?_⟩⟩
      · rw [set_objs_ne _ _ _ (fun e => u3 e.symm), push_objs]
        simp only [hereR, Int.natCast_nonneg, if_true]; exact c
      · rcases ht with ht | ⟨c', e, ht1, ht2, ht3, ht4⟩
        · exact .inl (by simpa [hereR] using ht)
        · have := p3 (by rw [e]; rfl) rfl
          refine .inr ⟨c', by simpa [hereR] using e, ht1, by simpa [hereR] using ht2, ?_⟩
          rw [set_objs_ne _ _ _ (fun e => this e.symm), push_objs]
          exact ⟨ht3, by simpa [hereR] using ht4⟩
      · simp [hereR]
      · simpa [hereR] using cle
      · rw [set_objs_same, List.length_set]; exact cl
      · simpa [hereR] using la
      · rw [set_objs_same]
        have hmod : (s.nodes.modify i fun n => { n with at' := n.at' ++ [(s.word.length : Int)] }) = s.nodes.set i ⟨s.nodes[i].prod, s.nodes[i].at' ++ [(s.word.length : Int)]⟩ := by
          refine List.ext_getElem? fun q => ?_
          rw [List.getElem?_modify, List.getElem?_set]
          by_cases e : i = q
          · subst e; simp [hi]
          · simp [e]
        have hh : (hereR s ⟨sym, i, fi⟩).nodes = s.nodes.set i ⟨s.nodes[i].prod, s.nodes[i].at' ++ [(s.word.length : Int)]⟩ := by simp only [hereR, Int.natCast_nonneg, if_true, Int.toNat_natCast]; exact hmod
        rw [hh, List.length_set, List.take_set, ct]
        have := dnsC_set s.nodes as la i hi ⟨s.nodes[i].prod, s.nodes[i].at' ++ [(s.word.length : Int)]⟩ (1, (h.new C).next) rfl
        rw [← this]; simp [ints]
      · have : (hereR s ⟨sym, i, fi⟩).word = s.word := by simp [hereR]
        rw [this]
        exact (hW.push (st := as[i].2) n3 (by omega)).gr rfl rfl
      · intro k h1 h2
        have hk : k < s.nodes.length := by simpa [hereR] using h1
        have hk2 : k < as.length := by omega
        obtain ⟨b1, b2, b3⟩ := hA k hk hk2
        have hnode : (hereR s ⟨sym, i, fi⟩).nodes[k] = if k = i then ⟨s.nodes[k].prod, s.nodes[k].at' ++ [(s.word.length : Int)]⟩ else s.nodes[k] := by
          simp only [hereR, Int.natCast_nonneg, if_true, Int.toNat_natCast, List.getElem_modify]
          by_cases e : i = k
          · subst e; simp
          · have e' : ¬ k = i := fun q => e q.symm
            simp [e, e']
        have hWs : Ws ≤ 2 ∨ Ws < (h.new C).next := by rcases hW.2 with q | q | q <;> omega
        rw [hnode]
        by_cases e : k = i
        · subst e
          rw [if_pos rfl]
          simp only [List.getElem_set_self]
          refine ⟨(OwnS.fresh gr as[k].2 _).gr rfl rfl, by omega, fun j h3 hj => ?_⟩
          have hj2 : j < as.length := by simpa using h3
          obtain ⟨e1, _⟩ := hA j (by omega) hj2
          have : as[j].2 ≤ 2 ∨ as[j].2 < (h.new C).next := by rcases e1.2 with q | q | q <;> omega
          rw [List.getElem_set_ne (fun q => hj q.symm)]
          omega
        · rw [if_neg e]
          simp only [List.getElem_set_ne (fun q => e q.symm)]
          refine ⟨(b1.push (st := as[i].2) n3 ?_).gr rfl rfl, b2, fun j h3 hj => ?_⟩
          · have := b3 i hia (fun q => e q.symm); omega
          · have hj2 : j < as.length := by simpa using h3
            by_cases ej : j = i
            · subst ej
              have : as[k].2 ≤ 2 ∨ as[k].2 < (h.new C).next := by rcases b1.2 with q | q | q <;> omega
              simp only [List.getElem_set_self]
              omega
            · rw [List.getElem_set_ne (fun q => ej q.symm)]
              exact b3 j hj2 hj
      · show o < ((h.new C).push as[i].2 1).nobj; rw [push_nobj]; exact o2
      · intro q; have := p1 q; exact ⟨this.1, by show t < ((h.new C).push as[i].2 1).nobj; rw [push_nobj]; exact this.2.1, this.2.2⟩
      · intro q; exact ⟨u1, by show u < ((h.new C).push as[i].2 1).nobj; rw [push_nobj]; exact u2, u3⟩
      · obtain ⟨f1, f2, f3, f4, f5⟩ := p4 q hq
        refine ⟨by show q.1 < ((h.new C).push as[i].2 1).nobj; rw [push_nobj]; exact f1, ?_, f3, f4, fun _ => f5 rfl⟩
        rw [set_objs_ne _ _ _ (f5 rfl), push_objs]; exact f2
  · have hq : hereR s ⟨sym, nd, fi⟩ = s := by simp [hereR, c0]
    rw [hq] at hQ
    have c0' : ¬ (0 : Int) ≤ nd := c0
    simp [A.tree_replayer_here, ptC, V.cells, V.good, c0']
    exact hQ _ (r.new _)
theorem RpH.tail {F : List (Nat × List V)} {h0 h : AH} {o : Nat} {g : Gm} {s : Rp} (r : RpH F h0 h o g s) : h0.nobj ≤ o ∧ o < h.nobj := by
  obtain ⟨_, _, T, N, We, Ws, t, u, as, c, ht, hn, hw, ha, o1, o2, _⟩ := r
  exact ⟨o1, o2⟩
theorem rpush_spec (L : LTr X) {F : List (Nat × List V)} {h0 : AH} {o : Nat} {g : Gm} {s : Rp} (r : RpH F h0 h o g s) (p : Pt) (hl : s.todo.length < 2 ^ 30)
    (hQ : ∀ h', RpH F h0 h' o g { s with todo := p :: s.todo } → Q (.tup []) h') : Ecx X K.tree_stack_part_push [.ptr o 4, .agg (ptC p)] h Q := by
  have r0 := r
  obtain ⟨gr, n3, T, N, We, Ws, t, u, as, c, ht, hN, hW, hA, o1, o2, p1, p2, p3, p4⟩ := r
  refine push_app L.push o 4 (ptC p) rfl o2 (by rw [c]; simp) ?_
  have hT : (h.objs o).getD 4 .undef = T := by rw [c]; rfl
  have hset : ∀ v, (h.objs o).set 4 v = [.int .i64 g.terms, .int .i64 g.nons, .int .i64 g.start, .sl 2 0 (g.prods.map prV), v, .sl We Ws (ints s.word), N] := fun v => by rw [c]; rfl
  rw [hT]
  have noh : ¬ o = h.nobj := by omega
  have hp4 : (ptC p).length = 4 := rfl
  -- the stack goes into a new object
  have fresh : ∀ (c' : Nat), s.todo.length + 1 ≤ c' → ∀ z, c' * 4 ≤ z.length → z.take ((s.todo.length + 1) * 4) = ptsC (p :: s.todo).reverse →
      RpH F h0 (((h.new (ptC p)).new z).set o ((h.objs o).set 4 (.osl 4 (h.nobj + 1) 0 (s.todo.length + 1) c'))) o g { s with todo := p :: s.todo } := by
    intro c' hc z hz ht'
    have q1 : ¬ h.nobj + 1 = o := by omega
    refine ⟨((gr.new _).new _).set o1 _, n3, _, N, We, Ws, h.nobj + 1, u, as, by rw [set_objs_same, hset]; rfl, .inr ⟨c', rfl, by omega, by simpa using hc, ?_, ?_⟩, ?_, hW.gr rfl rfl, fun i h1 h2 => ⟨(hA i h1 h2).1.gr rfl rfl, (hA i h1 h2).2⟩, o1, ?_, ?_, ?_, ?_, fun q hq => ?_⟩
    · simp only [set_objs_ne _ _ _ q1, new_objs_same]
      have : ((h.new (ptC p)).new z).objs (h.nobj + 1) = z := updN_same _ _ _
      rw [this]; exact hz
    · rw [set_objs_ne _ _ _ q1]
      have : ((h.new (ptC p)).new z).objs (h.nobj + 1) = z := updN_same _ _ _
      rw [this]; simpa using ht'
    · rcases hN with hN | ⟨c2, e, hN⟩
      · exact .inl hN
      · obtain ⟨u1, u2, u3⟩ := p2 (by rw [e]; rfl)
        refine .inr ⟨c2, e, ?_⟩
        rw [set_objs_ne _ _ _ u3, new_objs_ne _ _ (by show ¬ u = h.nobj + 1; omega), new_objs_ne _ _ (by omega)]
        exact hN
    · show o < h.nobj + 1 + 1; omega
    · intro _; exact ⟨by have := gr.nobj; omega, by show _ < h.nobj + 1 + 1; omega, q1⟩
    · intro q; have := p2 q; exact ⟨this.1, by show _ < h.nobj + 1 + 1; omega, this.2.2⟩
    · intro _ q; have := p2 q; omega
    · obtain ⟨f1, f2, f3, f4, f5⟩ := p4 q hq
      refine ⟨by show q.1 < h.nobj + 1 + 1; omega, ?_, f3, fun _ => by omega, f5⟩
      rw [set_objs_ne _ _ _ f3, new_objs_ne _ _ (by show ¬ q.1 = h.nobj + 1; omega), new_objs_ne _ _ (by omega)]; exact f2
  rcases ht with ⟨e, rfl, hnil⟩ | ⟨cp, rfl, cne, cle, cl, ct⟩
  · refine ⟨by omega, rfl, .inl rfl, rfl, by omega, fun c' hc => ?_⟩
    have hz : s.todo.length = 0 := by rw [hnil]; rfl
    refine ⟨rfl, rfl, by rw [new_objs_ne _ _ (by show ¬ o = h.nobj + 1; omega), new_objs_ne _ _ noh], hQ _ ?_⟩
    have := fresh c' (by omega) (ptC p ++ List.replicate ((c' - 1) * 4) .undef) (by simp [hp4]; omega) (by rw [hnil]; simp [ptsC, ← hp4])
    rw [hz] at this
    exact this
  · obtain ⟨t1, t2, t3⟩ := p1 rfl
    have tn : ¬ t = h.nobj := by omega
    have et : (h.new (ptC p)).objs t = h.objs t := new_objs_ne h _ tn
    refine ⟨by omega, rfl, rfl, cne, by rw [et]; omega, by omega, fun hle => ?_, fun hgt c' hc => ?_⟩
    · -- in place
      rw [et]
      refine ⟨rfl, rfl, by rw [set_objs_ne _ _ _ (fun q => t3 q.symm), new_objs_ne _ _ noh], hQ _ ?_⟩
      have hsl : (setAt (h.objs t) (0 + s.todo.length * 4) (ptC p)).length = (h.objs t).length := by simp [ptC, setAt]
      have hst : (setAt (h.objs t) (0 + s.todo.length * 4) (ptC p)).take ((s.todo.length + 1) * 4) = ptsC (p :: s.todo).reverse := by
        rw [List.reverse_cons, ptsC_snoc, ← ct]
        have hcl : 0 + s.todo.length * 4 + (ptC p).length ≤ (h.objs t).length := by rw [hp4]; omega
        refine List.ext_getElem? fun q => ?_
        rw [List.getElem?_take, List.getElem?_append, List.length_take]
        by_cases hq : q < (s.todo.length + 1) * 4
        · rw [if_pos hq, setAt_getElem? _ _ _ _ hcl]
          by_cases hq2 : q < s.todo.length * 4
          · rw [if_neg (by omega), if_pos (by omega), List.getElem?_take, if_pos hq2]
          · rw [if_pos (by rw [hp4]; omega), if_neg (by omega)]
            congr 1; omega
        · rw [if_neg hq, if_neg (by omega), List.getElem?_eq_none (by rw [hp4]; omega)]
      refine ⟨((gr.new _).set t1 _).set o1 _, n3, _, N, We, Ws, t, u, as, by rw [set_objs_same, hset]; rfl, .inr ⟨cp, rfl, cne, by simpa using hle, ?_, ?_⟩, ?_, hW.gr rfl rfl, fun i h1 h2 => ⟨(hA i h1 h2).1.gr rfl rfl, (hA i h1 h2).2⟩, o1, ?_, ?_, ?_, ?_, fun q hq => ?_⟩
      · rw [set_objs_ne _ _ _ t3, set_objs_same, hsl]; exact cl
      · rw [set_objs_ne _ _ _ t3, set_objs_same]; exact hst
      · rcases hN with hN | ⟨c2, e, hN⟩
        · exact .inl hN
        · obtain ⟨u1, u2, u3⟩ := p2 (by rw [e]; rfl)
          have := p3 rfl (by rw [e]; rfl)
          refine .inr ⟨c2, e, ?_⟩
          rw [set_objs_ne _ _ _ u3, set_objs_ne _ _ _ this, new_objs_ne _ _ (by omega)]
          exact hN
      · show o < h.nobj + 1; omega
      · intro _; exact ⟨t1, by show _ < h.nobj + 1; omega, t3⟩
      · intro q; have := p2 q; exact ⟨this.1, by show _ < h.nobj + 1; omega, this.2.2⟩
      · intro _ q; exact p3 rfl q
      · obtain ⟨f1, f2, f3, f4, f5⟩ := p4 q hq
        refine ⟨by show q.1 < h.nobj + 1; omega, ?_, f3, fun _ => f4 rfl, f5⟩
        rw [set_objs_ne _ _ _ f3, set_objs_ne _ _ _ (f4 rfl), new_objs_ne _ _ (by omega)]; exact f2
    · refine ⟨rfl, rfl, by rw [new_objs_ne _ _ (by show ¬ o = h.nobj + 1; omega), new_objs_ne _ _ noh], hQ _ ?_⟩
      rw [et]
      have htk : ((h.objs t).drop 0).take (s.todo.length * 4) = ptsC s.todo.reverse := by rw [List.drop_zero]; exact ct
      have hpl : (ptsC s.todo.reverse).length = s.todo.length * 4 := by rw [ptsC_len]; simp
      refine fresh c' (by omega) _ ?_ ?_
      · rw [htk]; simp [hpl, hp4]; omega
      · rw [htk, List.reverse_cons, ptsC_snoc]
        rw [List.take_append_of_le_length (by simp [hpl, hp4]; omega), List.take_of_length_le (by simp [hpl, hp4]; omega)]
/-- Another stack, of the same object, in the replayer. -/
theorem RpH.todo {F : List (Nat × List V)} {h0 h : AH} {o : Nat} {g : Gm} {s : Rp} (gr : Gr h0 h) (n3 : 3 ≤ h0.next) {T N : V} {We Ws t u : Nat} {as : List (Nat × Nat)} {l : List Pt}
    (c : h.objs o = [.int .i64 g.terms, .int .i64 g.nons, .int .i64 g.start, .sl 2 0 (g.prods.map prV), T, .sl We Ws (ints s.word), N]) (ht : StkH h T l t) (hN : NdsH h N s.nodes u as) (hW : OwnS h0 h We Ws s.word)
    (hA : ∀ i (h1 : i < s.nodes.length) (h2 : i < as.length), OwnS h0 h as[i].1 as[i].2 s.nodes[i].at' ∧ (as[i].2 ≤ 2 ∨ as[i].2 ≠ Ws) ∧ ∀ j (h3 : j < as.length), j ≠ i → as[i].2 ≤ 2 ∨ as[j].2 ≠ as[i].2)
    (o1 : h0.nobj ≤ o) (o2 : o < h.nobj) (p1 : T.isOsl = true → h0.nobj ≤ t ∧ t < h.nobj ∧ t ≠ o) (p2 : N.isOsl = true → h0.nobj ≤ u ∧ u < h.nobj ∧ u ≠ o) (p3 : T.isOsl = true → N.isOsl = true → u ≠ t)
    (p4 : ∀ q ∈ F, q.1 < h.nobj ∧ h.objs q.1 = q.2 ∧ q.1 ≠ o ∧ (T.isOsl = true → q.1 ≠ t) ∧ (N.isOsl = true → q.1 ≠ u)) :
    RpH F h0 h o g { s with todo := l } := ⟨gr, n3, T, N, We, Ws, t, u, as, c, ht, hN, hW, hA, o1, o2, p1, p2, p3, p4⟩
theorem pop_spec (L : LTr X) {F : List (Nat × List V)} {h0 : AH} {o : Nat} {g : Gm} {s : Rp} (r : RpH F h0 h o g s) (hl : s.todo.length < 2 ^ 30)
    (hQ0 : s.todo = [] → ∀ h', RpH F h0 h' o g s → Q (.tup [.agg [.bool false, .int .i64 0, .int .i64 0, .bool false], .bool false]) h')
    (hQ1 : ∀ p l, s.todo = p :: l → ∀ h', RpH F h0 h' o g { s with todo := l } → Q (.tup [.agg (ptC p), .bool true]) h') : Ecx X K.tree_stack_part_pop [.ptr o 4] h Q := by
  refine fn_any L.pop (by simp [A.tree_stack_part_pop]) fun wf => ?_
  have r2' := (r.new [.bool false, .int .i64 0, .int .i64 0, .bool false]).new [.bool false, .int .i64 0, .int .i64 0, .bool false]
  have r0 := r.tail
  have n1 : ¬ o = h.nobj := by omega
  have n2 : ¬ o = h.nobj + 1 := by omega
  obtain ⟨gr, n3, T, N, We, Ws, t, u, as, c0, ht, hN, hW, hA, o1, o2, p1, p2, p3, p4⟩ := r
  cases htd : s.todo with
  | nil =>
    have hlen : ∃ (e c' : Nat), T = .sl e 1 [] ∨ T = .osl 4 t 0 0 c' := by
      rcases ht with ⟨e, q, _⟩ | ⟨c', q, _⟩
      · exact ⟨e, 0, .inl q⟩
      · exact ⟨0, c', .inr (by rw [q, htd]; rfl)⟩
    obtain ⟨e, c', hT⟩ := hlen
    rcases hT with rfl | rfl
    · simp [A.tree_stack_part_pop, c0, n1, n2, setAt, V.cells, V.good]
      exact hQ0 htd _ r2'
    · simp [A.tree_stack_part_pop, c0, n1, n2, setAt, V.cells, V.good]
      exact hQ0 htd _ r2'
  | cons p l =>
    rcases ht with ⟨e, _, q⟩ | ⟨cp, rfl, cne, cle, cl, ct⟩
    · rw [htd] at q; cases q
    · obtain ⟨t1, t2, t3⟩ := p1 rfl
      have hlen : s.todo.length = l.length + 1 := by rw [htd]; rfl
      rw [hlen] at cle ct c0
      have m1 : ¬ t = h.nobj := by omega
      have m2 : ¬ t = h.nobj + 1 := by omega
      have m3 : ¬ h.nobj + 1 = o := fun e => n2 e.symm
      have m4 : ¬ h.nobj = o := fun e => n1 e.symm
      have m5 : ¬ t = o := t3
      have hpt : ((h.objs t).drop (l.length * 4)).take 4 = ptC p := by
        have : ((h.objs t).take ((l.length + 1) * 4)).drop (l.length * 4) = ptC p := by
          rw [ct, htd, List.reverse_cons, ptsC_snoc, List.drop_append_of_le_length (by rw [ptsC_len]; simp), List.drop_eq_nil_of_le (by rw [ptsC_len]; simp), List.nil_append]
        rw [← this, List.drop_take]; congr 1; omega
      have hl4 : l.length * 4 + 4 ≤ (h.objs t).length := by omega
      have hne : ¬ ((l.length : Int) + 1 = 0) := by omega
      have hw1 : IntKind.i64.wrap (l.length : Int) = (l.length : Int) := wrap_i64 (by omega) (by omega)
      have hst : setAt [V.bool false, V.int IntKind.i64 0, V.int IntKind.i64 0, V.bool false] 0 (ptC p) = ptC p := rfl
      have hp4 : (ptC p).length = 4 ∧ (ptC p).take 4 = ptC p := ⟨rfl, rfl⟩
      have hmin : min 4 ((h.objs t).length - l.length * 4) = 4 := by omega
      have hlt : (l.length : Int) < (l.length : Int) + 1 := by omega
      have hcp : (l.length : Int) ≤ cp := by omega
      have hs1 : ∀ v, setAt [V.int IntKind.i64 g.terms, V.int IntKind.i64 g.nons, V.int IntKind.i64 g.start, V.sl 2 0 (g.prods.map prV), V.osl 4 t 0 (l.length + 1) cp, V.sl We Ws (ints s.word), N] 4 [v] = [V.int IntKind.i64 g.terms, V.int IntKind.i64 g.nons, V.int IntKind.i64 g.start, V.sl 2 0 (g.prods.map prV), v, V.sl We Ws (ints s.word), N] := fun v => rfl
      simp [A.tree_stack_part_pop, c0, n1, n2, m1, m2, m3, m4, m5, V.cells, V.good, hne, hw1, hpt, hl4, cne, hlt, hst, hp4.1, hp4.2, hmin, hcp, hs1]
      refine hQ1 p l htd _ (RpH.todo (((gr.set o1 _).new _).new _) n3 (T := .osl 4 t 0 l.length cp) ?_ (.inr ⟨cp, rfl, cne, by omega, ?_, ?_⟩) ?_ (hW.gr rfl rfl) (fun i h1 h2 => ⟨(hA i h1 h2).1.gr rfl rfl, (hA i h1 h2).2⟩) o1 (by show o < h.nobj + 1 + 1; omega) (fun _ => ⟨t1, by show t < h.nobj + 1 + 1; omega, t3⟩) (fun q => ⟨(p2 q).1, by show u < h.nobj + 1 + 1; have := (p2 q).2.1; omega, (p2 q).2.2⟩) (fun _ q => p3 rfl q) (fun q hq => ?_))
      · rw [new_objs_ne _ _ (by exact n2), new_objs_ne _ _ (by exact n1), set_objs_same]
      · rw [new_objs_ne _ _ (by exact m2), new_objs_ne _ _ (by exact m1), set_objs_ne _ _ _ t3]; exact cl
      · rw [new_objs_ne _ _ (by exact m2), new_objs_ne _ _ (by exact m1), set_objs_ne _ _ _ t3]
        have : (h.objs t).take (l.length * 4) = ((h.objs t).take ((l.length + 1) * 4)).take (l.length * 4) := by rw [List.take_take]; congr 1; omega
        rw [this, ct, htd, List.reverse_cons, ptsC_snoc, List.take_append_of_le_length (by rw [ptsC_len]; simp), List.take_of_length_le (by rw [ptsC_len]; simp)]
      · rcases hN with hN | ⟨c2, e, hN⟩
        · exact .inl hN
        · obtain ⟨u1, u2, u3⟩ := p2 (by rw [e]; rfl)
          refine .inr ⟨c2, e, ?_⟩
          rw [new_objs_ne _ _ (by show ¬ u = h.nobj + 1; omega), new_objs_ne _ _ (by show ¬ u = h.nobj; omega), set_objs_ne _ _ _ u3]
          exact hN
      · obtain ⟨f1, f2, f3, f4, f5⟩ := p4 q hq
        refine ⟨by show q.1 < h.nobj + 1 + 1; omega, ?_, f3, fun _ => f4 rfl, f5⟩
        rw [new_objs_ne _ _ (by show ¬ q.1 = h.nobj + 1; omega), new_objs_ne _ _ (by show ¬ q.1 = h.nobj; omega), set_objs_ne _ _ _ f3]; exact f2
/-! ### Up to the next nonterminal -/
def runR : List Pt → List Int → List Dn → Option Int × Rp
  | [], w, ns => (none, ⟨[], w, ns⟩)
  | p :: l, w, ns =>
    let ns' := (hereR ⟨l, w, ns⟩ p).nodes
    if p.fin = true then runR l w ns' else if p.sym.non = true then (some p.sym.n, ⟨l, w, ns'⟩) else runR l (w ++ [p.sym.n]) ns'
theorem hereR_len (s : Rp) (p : Pt) : (hereR s p).nodes.length = s.nodes.length ∧ (hereR s p).word = s.word ∧ (hereR s p).todo = s.todo := by
  unfold hereR; split <;> simp
/-- Bounds of what is at work: c parts were taken. -/
structure BdR (s : Rp) (c : Nat) : Prop where
  n : s.nodes.length ≤ 2000
  w : s.word.length ≤ c
  a : ∀ n ∈ s.nodes, n.at'.length ≤ c
  t : c + s.todo.length ≤ 1 + 10 * s.nodes.length
  p : ∀ p ∈ s.todo, p.node < s.nodes.length
theorem BdR.here {s : Rp} {c : Nat} {p : Pt} {l : List Pt} (b : BdR s c) (h : s.todo = p :: l) : BdR (hereR { s with todo := l } p) (c + 1) := by
  obtain ⟨h1, h2, h3⟩ := hereR_len { s with todo := l } p
  have ht := b.t
  rw [h, List.length_cons] at ht
  refine ⟨by rw [h1]; exact b.n, by rw [h2]; have := b.w; simp only; omega, fun n hn => ?_, by rw [h1, h3]; simp only; omega, fun q hq => by rw [h3] at hq; rw [h1]; exact b.p q (by rw [h]; exact List.mem_cons_of_mem _ hq)⟩
  unfold hereR at hn
  split at hn
  · simp only at hn
    obtain ⟨i, hi, rfl⟩ := List.getElem_of_mem hn
    rw [List.getElem_modify]
    simp only [List.length_modify] at hi
    have := b.a _ (List.getElem_mem hi)
    split
    · simp only [List.length_append, List.length_cons, List.length_nil]; omega
    · omega
  · have := b.a n hn; omega
theorem BdR.word {s : Rp} {c : Nat} (b : BdR s (c + 1)) {w : List Int} {x : Int} (hw : s.word = w) (hc : w.length ≤ c) : BdR { s with word := w ++ [x] } (c + 1) :=
  ⟨b.n, by simp; omega, b.a, b.t, b.p⟩
def runV : Option Int → V
  | some n => .tup [.int .i64 n, .bool true]
  | none => .tup [.int .i64 0, .bool false]
theorem RpH.wordUp {F : List (Nat × List V)} {h0 h : AH} {o : Nat} {g : Gm} {td : List Pt} {wd : List Int} {ns : List Dn} (gr : Gr h0 h) (n3 : 3 ≤ h0.next) {T N : V} {We Ws t u : Nat} {as : List (Nat × Nat)} (x : Int)
    (ht : StkH h T td t) (hN : NdsH h N ns u as) (hW : OwnS h0 h We Ws wd)
    (hA : ∀ i (h1 : i < ns.length) (h2 : i < as.length), OwnS h0 h as[i].1 as[i].2 ns[i].at' ∧ (as[i].2 ≤ 2 ∨ as[i].2 ≠ Ws) ∧ ∀ j (h3 : j < as.length), j ≠ i → as[i].2 ≤ 2 ∨ as[j].2 ≠ as[i].2)
    (o1 : h0.nobj ≤ o) (o2 : o < h.nobj) (p1 : T.isOsl = true → h0.nobj ≤ t ∧ t < h.nobj ∧ t ≠ o) (p2 : N.isOsl = true → h0.nobj ≤ u ∧ u < h.nobj ∧ u ≠ o) (p3 : T.isOsl = true → N.isOsl = true → u ≠ t)
    (p4 : ∀ q ∈ F, q.1 < h.nobj ∧ h.objs q.1 = q.2 ∧ q.1 ≠ o ∧ (T.isOsl = true → q.1 ≠ t) ∧ (N.isOsl = true → q.1 ≠ u)) :
    RpH F h0 ((h.push Ws 1).set o [.int .i64 g.terms, .int .i64 g.nons, .int .i64 g.start, .sl 2 0 (g.prods.map prV), T, .sl 1 h.next (ints wd ++ [.int .i64 x]), N]) o g ⟨td, wd ++ [x], ns⟩ := by
  have hst := hW.st_push
  have hnx := gr.next
  refine ⟨(gr.push hst 1).set o1 _, n3, T, N, 1, h.next, t, u, as, by rw [set_objs_same]; simp [ints], ?_, ?_, (OwnS.fresh gr Ws _).gr rfl rfl, fun i h1 h2 => ?_, o1, ?_, ?_, ?_, p3, fun q hq => ?_⟩
  · rcases ht with ht | ⟨c', e, ht⟩
    · exact .inl ht
    · refine .inr ⟨c', e, ?_⟩
      rw [set_objs_ne _ _ _ (p1 (by rw [e]; rfl)).2.2, push_objs]; exact ht
  · rcases hN with hN | ⟨c', e, hN⟩
    · exact .inl hN
    · refine .inr ⟨c', e, ?_⟩
      rw [set_objs_ne _ _ _ (p2 (by rw [e]; rfl)).2.2, push_objs]; exact hN
  · obtain ⟨a1, a2, a3⟩ := hA i h1 h2
    refine ⟨(a1.push (st := Ws) n3 a2).gr rfl rfl, ?_, a3⟩
    have : as[i].2 ≤ 2 ∨ as[i].2 < h.next := by rcases a1.2 with q | q | q <;> omega
    omega
  · show o < (h.push Ws 1).nobj; rw [push_nobj]; exact o2
  · intro q; have := p1 q; exact ⟨this.1, by show t < (h.push Ws 1).nobj; rw [push_nobj]; exact this.2.1, this.2.2⟩
  · intro q; have := p2 q; exact ⟨this.1, by show u < (h.push Ws 1).nobj; rw [push_nobj]; exact this.2.1, this.2.2⟩
  · obtain ⟨f1, f2, f3, f4, f5⟩ := p4 q hq
    exact ⟨by show q.1 < (h.push Ws 1).nobj; rw [push_nobj]; exact f1, by rw [set_objs_ne _ _ _ f3, push_objs]; exact f2, f3, f4, f5⟩
theorem run_spec (L : LTr X) {F : List (Nat × List V)} {h0 : AH} {o : Nat} {g : Gm} {s : Rp} {c : Nat} (r : RpH F h0 h o g s) (b : BdR s c)
    (hQ : ∀ h' c', RpH F h0 h' o g (runR s.todo s.word s.nodes).2 → BdR (runR s.todo s.word s.nodes).2 c' → Q (runV (runR s.todo s.word s.nodes).1) h') : Ecx X K.tree_replayer_run [.ptr o 0] h Q := by
  refine fn_any L.run (by simp [A.tree_replayer_run]) fun wf => ?_
  simp [A.tree_replayer_run]
  refine loopI (n := s.todo.length) (fun m env h' => ∃ s' c', m = s'.todo.length ∧ RpH F h0 h' o g s' ∧ BdR s' c' ∧ runR s'.todo s'.word s'.nodes = runR s.todo s.word s.nodes ∧ env = [(0, V.ptr o 0)]) ?_ ⟨s, c, rfl, r, b, rfl, by simp⟩
  rintro m env h' ⟨s', c', rfl, r', b', he, rfl⟩
  unfold A.tree_replayer_run.L0
  rw [← he] at hQ
  obtain ⟨td, wd, ns⟩ := s'
  have hbt := b'.t
  have hbn := b'.n
  simp only at hbt hbn
  simp
  refine ecall (pop_spec L r' (by simp only; omega) (fun h0' h2 r2 => ?_) (fun p l h0' h2 r2 => ?_))
  · simp only at h0'
    subst h0'
    simp [V.cells, V.good, setAt]
    exact hQ _ _ (r2.new _) b'
  · simp only at h0'
    subst h0'
    have bh := b'.here (p := p) (l := l) rfl
    have hst : setAt [V.bool false, V.int IntKind.i64 0, V.int IntKind.i64 0, V.bool false] 0 (ptC p) = ptC p := rfl
    have hp4 : (ptC p).length = 4 ∧ (ptC p).take 4 = ptC p ∧ (ptC p).getD 3 .undef = .bool p.fin ∧ (ptC p).getD 0 .undef = .bool p.sym.non ∧ (ptC p).getD 1 .undef = .int .i64 p.sym.n := ⟨rfl, rfl, rfl, rfl, rfl⟩
    simp [V.cells, V.good, hst, hp4.1, hp4.2.1]
    refine ecall (here_spec L (r2.local (ptC p)) p (b'.p p (List.mem_cons_self ..)) (by have := b'.w; simp only at this ⊢; omega) (by simp only; omega) (fun n hn => by have := b'.a n hn; omega) fun h3 r3 => ?_)
    obtain ⟨f1, f2⟩ := r3.at
    simp only at f1 f2
    have hrun := he
    cases hfin : p.fin with
    | true =>
      simp [f2, hp4, hfin]
      have e2 : runR (p :: l) wd ns = runR l wd (hereR ⟨l, wd, ns⟩ p).nodes := by rw [runR]; simp [hfin]
      obtain ⟨q1, q2, q3⟩ := hereR_len ⟨l, wd, ns⟩ p
      refine ⟨l.length, by omega, iv ⟨hereR ⟨l, wd, ns⟩ p, _, by rw [q3], r3.drop, bh, ?_, by simp⟩⟩
      rw [q2, q3, ← he, e2]
    | false =>
      obtain ⟨q1, q2, q3⟩ := hereR_len ⟨l, wd, ns⟩ p
      cases hnon : p.sym.non with
      | true =>
        have e2 : runR (p :: l) wd ns = (some p.sym.n, ⟨l, wd, (hereR ⟨l, wd, ns⟩ p).nodes⟩) := by rw [runR]; simp [hfin, hnon]
        simp [f2, hp4, hfin, hnon]
        have hQ' := hQ h3 (c' + 1)
        simp only [e2] at hQ'
        have hst : (⟨l, wd, (hereR ⟨l, wd, ns⟩ p).nodes⟩ : Rp) = hereR ⟨l, wd, ns⟩ p := by
          rw [show hereR ⟨l, wd, ns⟩ p = ⟨(hereR ⟨l, wd, ns⟩ p).todo, (hereR ⟨l, wd, ns⟩ p).word, (hereR ⟨l, wd, ns⟩ p).nodes⟩ from rfl, q2, q3]
        rw [hst] at hQ'
        exact hQ' r3.drop bh
      | false =>
        have e2 : runR (p :: l) wd ns = runR l (wd ++ [p.sym.n]) (hereR ⟨l, wd, ns⟩ p).nodes := by rw [runR]; simp [hfin, hnon]
        have r4 := r3.drop
        obtain ⟨gr, n3, T, N, We, Ws, t, u, as, cc, ht, hN, hW, hA, o1, o2, p1, p2, p3, p4⟩ := r4
        have bw := b'.w
        simp only at bw
        have hwl : (hereR ⟨l, wd, ns⟩ p).word = wd := q2
        rw [hwl] at cc hW
        simp [f2, hp4, hfin, hnon, cc, fillL, V.isAgg, V.cells, V.good]
        refine (hW.own gr).appF (by simp) rfl (by simp [ints]; omega) fun _ => ?_
        simp [push_objs, cc, V.cells, V.good, setAt]
        have rw' := RpH.wordUp (g := g) gr n3 p.sym.n ht hN hW hA o1 o2 p1 p2 p3 p4
        rw [q3] at rw'
        refine ⟨l.length, by omega, iv ⟨⟨l, wd ++ [p.sym.n], (hereR ⟨l, wd, ns⟩ p).nodes⟩, c' + 1, rfl, rw', ?_, ?_, by simp⟩⟩
        · have := bh.word (x := p.sym.n) q2 bw
          rw [show ({ hereR ⟨l, wd, ns⟩ p with word := wd ++ [p.sym.n] } : Rp) = ⟨(hereR ⟨l, wd, ns⟩ p).todo, wd ++ [p.sym.n], (hereR ⟨l, wd, ns⟩ p).nodes⟩ from rfl, q3] at this
          exact this
        · rw [← he, e2]
end
end Go.Proofs.Ytajaoldljichaaa.Al
namespace Go.Proofs.Ytajaoldljichaaa.Al
open Go Go.RowKit
set_option linter.unusedSimpArgs false
set_option linter.unusedVariables false
attribute [-simp] List.getD_eq_getElem?_getD Int.not_lt Int.not_le List.map_take
/-- A production takes a nonterminal's place. -/
def openR (g : Gm) (s : Rp) (i : Int) : Rp :=
  { s with todo := (prG g i).right.map (fun y => ⟨y, s.nodes.length, false⟩) ++ ⟨⟨false, 0⟩, s.nodes.length, true⟩ :: s.todo, nodes := s.nodes ++ [⟨i, []⟩] }
section
variable {X : Cx} {h : AH} {Q : V → AH → Prop}
theorem nodes_app {F : List (Nat × List V)} {h0 : AH} {o : Nat} {g : Gm} {s : Rp} {i : Int} {T N : V} {We Ws t u : Nat} {as : List (Nat × Nat)} (gr : Gr h0 h) (n3 : 3 ≤ h0.next) (hn : s.nodes.length < 2 ^ 30)
    (ht : StkH h T s.todo t) (hN : NdsH h N s.nodes u as) (hW : OwnS h0 h We Ws s.word)
    (hA : ∀ i (h1 : i < s.nodes.length) (h2 : i < as.length), OwnS h0 h as[i].1 as[i].2 s.nodes[i].at' ∧ (as[i].2 ≤ 2 ∨ as[i].2 ≠ Ws) ∧ ∀ j (h3 : j < as.length), j ≠ i → as[i].2 ≤ 2 ∨ as[j].2 ≠ as[i].2)
    (o1 : h0.nobj ≤ o) (o2 : o < h.nobj) (p1 : T.isOsl = true → h0.nobj ≤ t ∧ t < h.nobj ∧ t ≠ o) (p2 : N.isOsl = true → h0.nobj ≤ u ∧ u < h.nobj ∧ u ≠ o) (p3 : T.isOsl = true → N.isOsl = true → u ≠ t)
    (p4 : ∀ q ∈ F, q.1 < h.nobj ∧ h.objs q.1 = q.2 ∧ q.1 ≠ o ∧ (T.isOsl = true → q.1 ≠ t) ∧ (N.isOsl = true → q.1 ≠ u)) :
    appgK 2 32 N (some (2, 1, [.int .i64 i, .sl 0 1 []])) h fun v h' => (∃ a b d q, v = .osl 2 a b d q) ∧ h'.objs o = h.objs o ∧
      RpH F h0 (h'.set o [.int .i64 g.terms, .int .i64 g.nons, .int .i64 g.start, .sl 2 0 (g.prods.map prV), T, .sl We Ws (ints s.word), v]) o g { s with nodes := s.nodes ++ [⟨i, []⟩] } := by
  have hA' : ∀ (as' : List (Nat × Nat)), as.length = s.nodes.length → as' = as ++ [(0, 1)] → ∀ h2 : AH, h2.tips = h.tips → h2.next = h.next →
      ∀ k (h1 : k < (s.nodes ++ [(⟨i, []⟩ : Dn)]).length) (h2' : k < as'.length), OwnS h0 h2 as'[k].1 as'[k].2 (s.nodes ++ [(⟨i, []⟩ : Dn)])[k].at' ∧ (as'[k].2 ≤ 2 ∨ as'[k].2 ≠ Ws) ∧ ∀ j (h3 : j < as'.length), j ≠ k → as'[k].2 ≤ 2 ∨ as'[j].2 ≠ as'[k].2 := by
    intro as' hl e h2 e1 e2 k h1 h2'
    subst e
    by_cases hk : k < s.nodes.length
    · have hk2 : k < as.length := by omega
      obtain ⟨a1, a2, a3⟩ := hA k hk hk2
      rw [List.getElem_append_left hk2, List.getElem_append_left hk]
      refine ⟨a1.gr e1 e2, a2, fun j h3 hj => ?_⟩
      by_cases hj2 : j < as.length
      · rw [List.getElem_append_left hj2]; exact a3 j hj2 hj
      · rw [List.getElem_append_right (by omega)]
        have : j - as.length = 0 := by simp at h3; omega
        simp only [this, List.getElem_cons_zero]
        have := a1.st_push
        omega
    · have hk3 : k = s.nodes.length := by simp at h1; omega
      subst hk3
      rw [List.getElem_append_right (by omega), List.getElem_append_right (by omega)]
      simp only [Nat.sub_self, hl, List.getElem_cons_zero]
      exact ⟨⟨.inl rfl, .inl rfl⟩, .inl (by omega), fun j h3 hj => .inl (by omega)⟩
  have hTk : ∀ h2 : AH, (∀ q, q < h.nobj → q ≠ o → (N.isOsl = true → q ≠ u) → h2.objs q = h.objs q) → StkH h2 T s.todo t := fun h2 hq => by
    rcases ht with ht | ⟨c', e, ht⟩
    · exact .inl ht
    · obtain ⟨t1, t2, t3⟩ := p1 (by rw [e]; rfl)
      exact .inr ⟨c', e, by rw [hq t t2 t3 (fun q => fun z => p3 (by rw [e]; rfl) q z.symm)]; exact ht⟩
  -- a new object
  have fresh : ∀ (c' : Nat) (z : List V), as.length = s.nodes.length → s.nodes.length + 1 ≤ c' → c' * 2 ≤ z.length → z.take ((s.nodes.length + 1) * 2) = dnsC s.nodes as ++ [.int .i64 i, .sl 0 1 []] →
      RpH F h0 ((h.new z).set o [.int .i64 g.terms, .int .i64 g.nons, .int .i64 g.start, .sl 2 0 (g.prods.map prV), T, .sl We Ws (ints s.word), .osl 2 h.nobj 0 (s.nodes.length + 1) c']) o g { s with nodes := s.nodes ++ [⟨i, []⟩] } := by
    intro c' z hl hc hz htk
    have q1 : ¬ h.nobj = o := by omega
    refine ⟨(gr.new z).set o1 _, n3, T, .osl 2 h.nobj 0 (s.nodes.length + 1) c', We, Ws, t, h.nobj, as ++ [(0, 1)], set_objs_same _ _ _, hTk _ (fun q q2 q3 _ => ?_), .inr ⟨c', by simp, by omega, by simpa using hc, ?_, by simp [hl], ?_⟩, hW.gr rfl rfl, hA' _ hl rfl _ rfl rfl, o1, ?_, ?_, ?_, ?_, fun q hq => ?_⟩
    · rw [set_objs_ne _ _ _ q3, new_objs_ne _ _ (by omega)]
    · rw [set_objs_ne _ _ _ q1, new_objs_same]; exact hz
    · rw [set_objs_ne _ _ _ q1, new_objs_same, dnsC_snoc _ _ hl.symm]
      simpa [dnC, ints] using htk
    · show o < h.nobj + 1; omega
    · intro q; have := p1 q; exact ⟨this.1, by show t < h.nobj + 1; omega, this.2.2⟩
    · intro _; exact ⟨gr.nobj, by show h.nobj < h.nobj + 1; omega, q1⟩
    · intro q _; have := p1 q; omega
    · obtain ⟨f1, f2, f3, f4, f5⟩ := p4 q hq
      refine ⟨by show q.1 < h.nobj + 1; omega, ?_, f3, f4, fun _ => by omega⟩
      rw [set_objs_ne _ _ _ f3, new_objs_ne _ _ (by omega)]; exact f2
  rcases hN with ⟨e, rfl, hnil, has⟩ | ⟨cp, rfl, cne, cle, cl, la, ct⟩
  · refine ⟨by omega, rfl, .inl rfl, rfl, by omega, fun c' hc => ⟨⟨_, _, _, _, rfl⟩, new_objs_ne _ _ (by omega), ?_⟩⟩
    have := fresh c' ([.int .i64 i, .sl 0 1 []] ++ List.replicate ((c' - 1) * 2) .undef) (by rw [hnil, has]; rfl) (by rw [hnil]; simpa using hc) (by simp; omega) (by rw [hnil]; simp [dnsC])
    rw [show s.nodes.length = 0 by rw [hnil]; rfl] at this
    exact this
  · obtain ⟨u1, u2, u3⟩ := p2 rfl
    have hdl := dnsC_len s.nodes as la
    refine ⟨by omega, rfl, rfl, cne, by omega, by omega, fun hle => ⟨⟨_, _, _, _, rfl⟩, set_objs_ne _ _ _ (fun q => u3 q.symm), ?_⟩, fun hgt c' hc => ⟨⟨_, _, _, _, rfl⟩, new_objs_ne _ _ (by omega), ?_⟩⟩
    · have hcl : 0 + s.nodes.length * 2 + [V.int .i64 i, V.sl 0 1 []].length ≤ (h.objs u).length := by simp; omega
      refine ⟨(gr.set u1 _).set o1 _, n3, T, .osl 2 u 0 (s.nodes.length + 1) cp, We, Ws, t, u, as ++ [(0, 1)], set_objs_same _ _ _, hTk _ (fun q q2 q3 q4 => ?_), .inr ⟨cp, by simp, cne, by simpa using hle, ?_, by simp [la], ?_⟩, hW.gr rfl rfl, hA' _ la.symm rfl _ rfl rfl, o1, o2, p1, p2, p3, fun q hq => ?_⟩
      · rw [set_objs_ne _ _ _ q3, set_objs_ne _ _ _ (q4 rfl)]
      · rw [set_objs_ne _ _ _ u3, set_objs_same, setAt_length]; exact cl
      · rw [set_objs_ne _ _ _ u3, set_objs_same, dnsC_snoc _ _ la, ← ct]
        refine List.ext_getElem? fun q => ?_
        rw [List.getElem?_take, List.getElem?_append, List.length_take]
        simp only [List.length_append, List.length_cons, List.length_nil]
        by_cases hq : q < (s.nodes.length + (0 + 1)) * 2
        · rw [if_pos hq, setAt_getElem? _ _ _ _ hcl]
          by_cases hq2 : q < s.nodes.length * 2
          · rw [if_neg (by omega), if_pos (by omega), List.getElem?_take, if_pos hq2]
          · rw [if_pos (by simp; omega), if_neg (by omega)]
            simp only [dnC, ints, List.map_nil]
            congr 1; omega
        · rw [if_neg hq, if_neg (by omega), List.getElem?_eq_none (by simp [dnC]; omega)]
      · obtain ⟨f1, f2, f3, f4, f5⟩ := p4 q hq
        exact ⟨f1, by rw [set_objs_ne _ _ _ f3, set_objs_ne _ _ _ (f5 rfl)]; exact f2, f3, f4, f5⟩
    · have htk : ((h.objs u).drop 0).take (s.nodes.length * 2) = dnsC s.nodes as := by rw [List.drop_zero]; exact ct
      rw [htk]
      exact fresh c' _ la.symm (by omega) (by simp [hdl]; omega) (by rw [List.take_append_of_le_length (by simp [hdl]; omega), List.take_of_length_le (by simp [hdl]; omega)])
theorem open_spec (L : LTr X) {F : List (Nat × List V)} {h0 : AH} {o : Nat} {g : Gm} {s : Rp} {i : Int} (r : RpH F h0 h o g s) (h0' : 0 ≤ i) (h1 : i < g.prods.length) (hr : (prG g i).right.length < 2 ^ 29) (hg : g.prods.length < 2 ^ 30) (hn : s.nodes.length < 2 ^ 30) (ht : s.todo.length < 2 ^ 28)
    (hQ : ∀ h', RpH F h0 h' o g (openR g s i) → Q (.tup []) h') : Ecx X K.tree_replayer_open [.ptr o 0, .int .i64 i] h Q := by
  refine fn_any L.opn (by simp [A.tree_replayer_open_o]) fun wf => ?_
  obtain ⟨gr, n3, T, N, We, Ws, t, u, as, c, ht', hN, hW, hA, o1, o2, p1, p2, p3, p4⟩ := r
  have hnl : ∃ w : V, N = w ∧ (N = .sl 0 1 [] ∨ True) := ⟨N, rfl, .inr trivial⟩
  have app := nodes_app (i := i) (g := g) gr n3 hn ht' hN hW hA o1 o2 p1 p2 p3 p4
  have hlen : (∃ e, N = .sl e 1 [] ∧ s.nodes.length = 0) ∨ ∃ c', N = .osl 2 u 0 s.nodes.length c' := by
    rcases hN with ⟨e, q, q2, _⟩ | ⟨c', q, _⟩
    · exact .inl ⟨e, q, by rw [q2]; rfl⟩
    · exact .inr ⟨c', q⟩
  have vc1 : ∀ k n, (V.int k n).cells = [V.int k n] ∧ (V.int k n).good = true := fun _ _ => ⟨rfl, rfl⟩
  have vc2 : ∀ b, (V.bool b).cells = [V.bool b] ∧ (V.bool b).good = true := fun _ => ⟨rfl, rfl⟩
  have vc3 : ∀ l, (V.agg l).cells = l ∧ (V.agg l).good = true := fun _ => ⟨rfl, rfl⟩
  have vc4 : ∀ e st l, (V.sl e st l).cells = [V.sl e st l] ∧ (V.sl e st l).good = true := fun _ _ _ => ⟨rfl, rfl⟩
  have hs2 : ∀ a, setAt [V.int IntKind.i64 0, V.sl 0 1 []] 0 [a] = [a, V.sl 0 1 []] := fun _ => rfl
  have hs7 : ∀ N' v, setAt [V.int IntKind.i64 g.terms, V.int IntKind.i64 g.nons, V.int IntKind.i64 g.start, V.sl 2 0 (g.prods.map prV), T, V.sl We Ws (ints s.word), N'] 6 [v] = [V.int IntKind.i64 g.terms, V.int IntKind.i64 g.nons, V.int IntKind.i64 g.start, V.sl 2 0 (g.prods.map prV), T, V.sl We Ws (ints s.word), v] := fun _ _ => rfl
  obtain ⟨n, rfl, hin, e1, e2⟩ := prG_get h0' h1
  have hs4 : ∀ a b, setAt [V.bool false, V.int IntKind.i64 0, V.int IntKind.i64 0, V.bool false] 2 [a] = [V.bool false, V.int IntKind.i64 0, a, V.bool false] ∧ setAt [V.bool false, V.int IntKind.i64 0, a, V.bool false] 3 [b] = [V.bool false, V.int IntKind.i64 0, a, b] := fun _ _ => ⟨rfl, rfl⟩
  have hw1 : IntKind.i64.wrap (((prG g n).right.length : Int) - 1) = ((prG g n).right.length : Int) - 1 := wrap_i64 (by omega) (by omega)
  rcases hlen with ⟨e, rfl, hz⟩ | ⟨c', rfl⟩
  · have hs0 : s.nodes = [] := List.eq_nil_of_length_eq_zero hz
    simp [A.tree_replayer_open_o, c, fillL, V.isAgg, vc1, vc2, vc3, vc4, fillV, hs2]
    refine appgK_mono (fun v h' hv => ?_) app
    obtain ⟨⟨va, vb, vd, vq, rfl⟩, v3, v4⟩ := hv
    rw [c] at v3
    simp [v3, hs7, fillV, vc1, vc2, hs4, V.cells, V.good]
    refine ecall (rpush_spec L v4 ⟨⟨false, 0⟩, (0 : Nat), true⟩ (by simp only; omega) fun h2 r2 => ?_)
    obtain ⟨gr', n3', T', N', We', Ws', t', u', as', c', ht2, hN2, hW2, hA2, o12, o22, p12, p22, p32, p42⟩ := r2
    have r2 : RpH F h0 h2 o g { s with todo := ⟨⟨false, 0⟩, (0 : Nat), true⟩ :: s.todo, nodes := s.nodes ++ [⟨n, []⟩] } := ⟨gr', n3', T', N', We', Ws', t', u', as', c', ht2, hN2, hW2, hA2, o12, o22, p12, p22, p32, p42⟩
    simp [c', h1, e2, prV, prC, V.cells, hw1]
    generalize hR : (prG g n).right = R at *
    refine loopI (n := R.length) (fun m env h' => ∃ k, k ≤ R.length ∧ k = m ∧ RpH F h0 h' o g { s with todo := (R.drop k).map (fun y => (⟨y, (0 : Nat), false⟩ : Pt)) ++ ⟨⟨false, 0⟩, (0 : Nat), true⟩ :: s.todo, nodes := s.nodes ++ [⟨(n : Int), []⟩] } ∧
      env = [(0, V.ptr o 0), (4, V.int IntKind.i64 0), (5, V.sl 2 0 (List.map symV R)), (6, V.int IntKind.i64 ((k : Int) - 1))]) ?_ ⟨R.length, Nat.le_refl _, rfl, by rw [List.drop_length]; exact r2, by simp⟩
    rintro m env h3 ⟨k, hk, rfl, r3, rfl⟩
    unfold A.tree_replayer_open_o.L0
    by_cases hk0 : k = 0
    · subst hk0
      simp
      rw [List.drop_zero] at r3
      have he : openR g s n = { s with todo := R.map (fun y => (⟨y, (0 : Nat), false⟩ : Pt)) ++ ⟨⟨false, 0⟩, (0 : Nat), true⟩ :: s.todo, nodes := s.nodes ++ [⟨(n : Int), []⟩] } := by simp only [openR, hR, hz]
      rw [he] at hQ
      exact hQ _ r3
    · obtain ⟨k, rfl⟩ : ∃ q, k = q + 1 := ⟨k - 1, by omega⟩
      have hk1 : k < R.length := by omega
      have e3 : ((k + 1 : Nat) : Int) - 1 = k := by omega
      have hg : (R.map symV).getD k .undef = symV R[k] := Enc.getD hk1
      have hw2 : IntKind.i64.wrap ((k : Int) - 1) = (k : Int) - 1 := wrap_i64 (by omega) (by omega)
      rw [e3]
      have hk' : (k : Int) < R.length := by omega
      simp [hk', hg, symV, symC, V.cells, V.good, fillV, setAt]
      refine ecall (rpush_spec L r3 ⟨R[k], (0 : Nat), false⟩ (by simp; omega) fun h4 r4 => ?_)
      simp [hw2]
      refine ⟨k, by omega, iv ⟨k, by omega, rfl, ?_, by simp⟩⟩
      rw [List.drop_eq_getElem_cons hk1]
      exact r4
  · simp [A.tree_replayer_open_o, c, fillL, V.isAgg, vc1, vc2, vc3, vc4, fillV, hs2]
    refine appgK_mono (fun v h' hv => ?_) app
    obtain ⟨⟨va, vb, vd, vq, rfl⟩, v3, v4⟩ := hv
    rw [c] at v3
    simp [v3, hs7, fillV, vc1, vc2, hs4, V.cells, V.good]
    refine ecall (rpush_spec L v4 ⟨⟨false, 0⟩, s.nodes.length, true⟩ (by simp only; omega) fun h2 r2 => ?_)
    obtain ⟨gr', n3', T', N', We', Ws', t', u', as', c', ht2, hN2, hW2, hA2, o12, o22, p12, p22, p32, p42⟩ := r2
    have r2 : RpH F h0 h2 o g { s with todo := ⟨⟨false, 0⟩, s.nodes.length, true⟩ :: s.todo, nodes := s.nodes ++ [⟨n, []⟩] } := ⟨gr', n3', T', N', We', Ws', t', u', as', c', ht2, hN2, hW2, hA2, o12, o22, p12, p22, p32, p42⟩
    simp [c', h1, e2, prV, prC, V.cells, hw1]
    generalize hR : (prG g n).right = R at *
    refine loopI (n := R.length) (fun m env h' => ∃ k, k ≤ R.length ∧ k = m ∧ RpH F h0 h' o g { s with todo := (R.drop k).map (fun y => (⟨y, (s.nodes.length : Nat), false⟩ : Pt)) ++ ⟨⟨false, 0⟩, (s.nodes.length : Nat), true⟩ :: s.todo, nodes := s.nodes ++ [⟨(n : Int), []⟩] } ∧
      env = [(0, V.ptr o 0), (4, V.int IntKind.i64 s.nodes.length), (5, V.sl 2 0 (List.map symV R)), (6, V.int IntKind.i64 ((k : Int) - 1))]) ?_ ⟨R.length, Nat.le_refl _, rfl, by rw [List.drop_length]; exact r2, by simp⟩
    rintro m env h3 ⟨k, hk, rfl, r3, rfl⟩
    unfold A.tree_replayer_open_o.L0
    by_cases hk0 : k = 0
    · subst hk0
      simp
      rw [List.drop_zero] at r3
      have he : openR g s n = { s with todo := R.map (fun y => (⟨y, (s.nodes.length : Nat), false⟩ : Pt)) ++ ⟨⟨false, 0⟩, (s.nodes.length : Nat), true⟩ :: s.todo, nodes := s.nodes ++ [⟨(n : Int), []⟩] } := by simp only [openR, hR]
      rw [he] at hQ
      exact hQ _ r3
    · obtain ⟨k, rfl⟩ : ∃ q, k = q + 1 := ⟨k - 1, by omega⟩
      have hk1 : k < R.length := by omega
      have e3 : ((k + 1 : Nat) : Int) - 1 = k := by omega
      have hg : (R.map symV).getD k .undef = symV R[k] := Enc.getD hk1
      have hw2 : IntKind.i64.wrap ((k : Int) - 1) = (k : Int) - 1 := wrap_i64 (by omega) (by omega)
      rw [e3]
      have hk' : (k : Int) < R.length := by omega
      simp [hk', hg, symV, symC, V.cells, V.good, fillV, setAt]
      refine ecall (rpush_spec L r3 ⟨R[k], (s.nodes.length : Nat), false⟩ (by simp; omega) fun h4 r4 => ?_)
      simp [hw2]
      refine ⟨k, by omega, iv ⟨k, by omega, rfl, ?_, by simp⟩⟩
      rw [List.drop_eq_getElem_cons hk1]
      exact r4
end
end Go.Proofs.Ytajaoldljichaaa.Al
namespace Go.Proofs.Ytajaoldljichaaa.Al
open Go Go.RowKit
set_option linter.unusedSimpArgs false
set_option linter.unusedVariables false
attribute [-simp] List.getD_eq_getElem?_getD Int.not_lt Int.not_le List.map_take
def runS (s : Rp) : Option Int × Rp := runR s.todo s.word s.nodes
def iniR (g : Gm) : Rp := ⟨[⟨⟨true, g.start⟩, -1, false⟩], [], []⟩
def stepR (g : Gm) (s : Rp) (i : Int) : Option Rp := match runS s with
  | (some n, s') => if 0 ≤ i ∧ i < g.prods.length ∧ (prG g i).left = n then some (openR g s' i) else none
  | (none, _) => none
def stepsR (g : Gm) : List Int → Rp → Option Rp
  | [], s => some s
  | i :: l, s => match stepR g s i with
    | some s' => stepsR g l s'
    | none => none
/-- What is laid when all is replayed. -/
def replayR (g : Gm) (l : List Int) : Option Rp := match stepsR g l (iniR g) with
  | some s => match runS s with
    | (none, s') => some s'
    | (some _, _) => none
  | none => none
def ReplayOk (g : Gm) (l : List Int) (s : Rp) : Prop := rightG g = true ∧ l.length ≤ 2000 ∧ replayR g l = some s
theorem runR_nodes : ∀ (td : List Pt) (w : List Int) (ns : List Dn), (runR td w ns).2.nodes.length = ns.length
  | [], _, _ => rfl
  | p :: l, w, ns => by
    have h1 := (hereR_len ⟨l, w, ns⟩ p).1
    rw [runR]
    split
    · rw [runR_nodes]; exact h1
    · split
      · exact h1
      · rw [runR_nodes]; exact h1
theorem right_parts {g : Gm} (h : rightG g = true) : g.prods.length ≤ 60 ∧ (∀ i : Int, 0 ≤ i → i < g.prods.length → (prG g i).right.length ≤ 8) := by
  simp only [rightG, headG, Bool.and_eq_true, decide_eq_true_eq] at h
  refine ⟨h.1.2, fun i h0 h1 => ?_⟩
  obtain ⟨n, rfl, hn, e, _⟩ := prG_get h0 h1
  have := List.all_eq_true.1 h.2 _ (List.getElem_mem hn)
  simp only [fitsG, Bool.and_eq_true, decide_eq_true_eq] at this
  rw [e]; exact this.1.2
theorem BdR.opn {g : Gm} {s : Rp} {c : Nat} {i : Int} (b : BdR s c) (hn : s.nodes.length + 1 ≤ 2000) (hr : (prG g i).right.length ≤ 8) : BdR (openR g s i) c := by
  have ht := b.t
  refine ⟨by simpa [openR] using hn, b.w, fun n h => ?_, by simp [openR]; omega, fun p h => ?_⟩
  · simp only [openR, List.mem_append, List.mem_singleton] at h
    rcases h with h | rfl
    · exact b.a n h
    · simp
  · simp only [openR, List.mem_append, List.mem_map, List.mem_cons] at h
    simp only [openR, List.length_append, List.length_cons, List.length_nil]
    rcases h with ⟨y, _, rfl⟩ | rfl | h
    · simp only; omega
    · simp only; omega
    · have := b.p p h; omega
structure LTw (X : Cx) : Prop where
  tr : LTr X
  gr : LGr X
section
variable {X : Cx} {h : AH} {Q : V → AH → Prop}
theorem replay_spec (L : LTw X) (g : Gm) (l : List Int) (e st : Nat) (he : l = [] ∨ e = 1) (hg : GmOk g) (hl : l.length < 2 ^ 40)
    (hQ1 : ∀ s, ReplayOk g l s → ∀ h0 h' o c, Gr h h0 → RpH [] h0 h' o g s → BdR s c → Q (.tup [.ptr o 0, .int .i64 0]) h') (hQ0 : (¬ ∃ s, ReplayOk g l s) → ∀ n h', n ≠ 0 → Gr h h' → Q (.tup [.nilp, .int .i64 n]) h') :
    Ecx X K.tree_replay [gmV g, .sl e st (ints l)] h Q := by
  refine fn_any L.tr.replay (by simp [A.tree_replay_o]) fun wf => ?_
  have g1 : (gmC g).length = 4 ∧ (gmC g).take 4 = gmC g := ⟨rfl, rfl⟩
  have gr1 := (Gr.refl h).new (gmC g)
  simp [A.tree_replay_o, gmV, V.cells, V.good, g1.1, g1.2]
  refine ecall (right3R L.gr g hg ?_)
  by_cases c1 : rightG g = true
  · obtain ⟨b1, b2⟩ := right_parts c1
    by_cases c2 : l.length ≤ 2000
    · have c2' : ¬ (2000 : Int) < l.length := by omega
      simp [c1, c2', fillV, setAt, gmC, V.cells, V.good]
      generalize hO : h.nobj + 1 = o
      have hgmC : [V.int IntKind.i64 g.terms, V.int IntKind.i64 g.nons, V.int IntKind.i64 g.start, V.sl 2 0 (List.map prV g.prods)] = gmC g := rfl
      rw [hgmC]
      have n3 : 3 ≤ (h.new (gmC g)).next := wf.next
      have hb : (h.new (gmC g)).objs h.nobj = gmC g := updN_same _ _ _
      have ho : o = (h.new (gmC g)).nobj := hO.symm
      have r0 : RpH [] (h.new (gmC g)) ((h.new (gmC g)).new [V.int IntKind.i64 g.terms, V.int IntKind.i64 g.nons, V.int IntKind.i64 g.start, V.sl 2 0 (List.map prV g.prods), V.sl 0 1 [], V.sl 0 1 [], V.sl 0 1 []]) o g ⟨[], [], []⟩ :=
        ⟨(Gr.refl _).new _, n3, .sl 0 1 [], .sl 0 1 [], 0, 1, 0, 0, [], by rw [ho]; exact updN_same _ _ _, .inl ⟨0, rfl, rfl⟩, .inl ⟨0, rfl, rfl, rfl⟩, ⟨.inl rfl, .inl rfl⟩, fun i h1 => by simp at h1, by omega, by rw [ho]; exact Nat.lt_succ_self _, fun q => by simp [V.isOsl] at q, fun q => by simp [V.isOsl] at q, fun q => by simp [V.isOsl] at q, fun q hq => by cases hq⟩
      refine ecall (rpush_spec L.tr r0 ⟨⟨true, g.start⟩, -1, false⟩ (by simp) fun h2 r2 => ?_)
      have b0 : BdR (iniR g) 0 := ⟨by simp [iniR], by simp [iniR], fun n hn => by simp [iniR] at hn, by simp [iniR], fun p hp => by simp [iniR] at hp; subst hp; simp [iniR]⟩
      simp
      refine loopI (n := l.length) (fun m env h' => ∃ k s c, k ≤ l.length ∧ m = l.length - k ∧ RpH [] (h.new (gmC g)) h' o g s ∧ BdR s c ∧ s.nodes.length = k ∧ stepsR g (l.drop k) s = stepsR g l (iniR g) ∧
        env = [(2, V.ptr h.nobj 0), (6, V.ptr o 0), (32, V.sl e st (ints l)), (33, V.int IntKind.i64 l.length), (34, V.int IntKind.i64 k)]) ?_ ⟨0, iniR g, 0, by omega, by omega, r2, b0, rfl, by rw [List.drop_zero], by simp⟩
      rintro m env h' ⟨k, s, c, hk, rfl, r, b, hns, hst, rfl⟩
      unfold A.tree_replay_o.L0
      have hbx : h'.objs h.nobj = gmC g := by rw [r.gr.objs _ (Nat.lt_succ_self _)]; exact hb
      have bn := b.n
      have bt := b.t
      have grh : ∀ h'' s', RpH [] (h.new (gmC g)) h'' o g s' → Gr h h'' := fun h'' s' r => gr1.trans r.gr
      by_cases hk2 : k < l.length
      · have hk' : (k : Int) < l.length := by omega
        have hgt := ints_getD (l := l) hk2
        have hw1 : IntKind.i64.wrap ((k : Int) + 1) = ((k + 1 : Nat) : Int) := by rw [wrap_i64 (by omega) (by omega)]; rfl
        have he1 : e = 1 := by
          rcases he with q | q
          · rw [q] at hk2; simp at hk2
          · exact q
        subst he1
        have hd : l.drop k = l.getD k 0 :: l.drop (k + 1) := by rw [List.drop_eq_getElem_cons hk2]; simp [List.getD_eq_getElem?_getD, hk2]
        rw [hd] at hst
        generalize l.getD k 0 = i at *
        simp [hk', hgt]
        refine ecall (run_spec L.tr r b fun h3 c3 r3 b3 => ?_)
        have hnl := runR_nodes s.todo s.word s.nodes
        have hstep : stepR g s i = match runR s.todo s.word s.nodes with
          | (some n, s') => if 0 ≤ i ∧ i < g.prods.length ∧ (prG g i).left = n then some (openR g s' i) else none
          | (none, _) => none := rfl
        generalize hrr : runR s.todo s.word s.nodes = rr at *
        obtain ⟨nn, s3⟩ := rr
        simp only at r3 b3 hnl hstep
        have hbx3 : h3.objs h.nobj = gmC g := by rw [r3.gr.objs _ (Nat.lt_succ_self _)]; exact hb
        have g3 : (gmC g).getD 3 .undef = .sl 2 0 (g.prods.map prV) := rfl
        have bad : stepR g s i = none → ¬ ∃ s, ReplayOk g l s := fun hn ⟨s', q⟩ => by
          have q3 := q.2.2
          unfold replayR at q3
          rw [← hst, stepsR, hn] at q3
          simp at q3
        cases nn with
        | none =>
          simp only at hstep
          simp [runV]
          exact hQ0 (bad hstep) _ _ (by decide) (grh _ _ r3)
        | some n =>
          simp only at hstep
          by_cases q1 : 0 ≤ i
          · by_cases q2 : i < g.prods.length
            · obtain ⟨j, rfl, hj, e1, e2⟩ := prG_get q1 q2
              have hj0 : ¬ (j : Int) < 0 := by omega
              by_cases q3 : (prG g j).left = n
              · have hs' : stepR g s j = some (openR g s3 j) := by rw [hstep, if_pos ⟨q1, q2, q3⟩]
                have q2' : ¬ (g.prods.length : Int) ≤ j := by omega
                have hbl := b2 j q1 q2
                simp [runV, hbx3, g1.1, g3, q2, q2', hj0, e2, prV, prC, V.cells, q3]
                refine ecall (open_spec L.tr r3 q1 q2 (by omega) (by omega) (by omega) (by have := b3.t; have := b3.n; omega) fun h4 r4 => ?_)
                have b4 := b3.opn (i := j) (g := g) (by omega) hbl
                rw [stepsR, hs'] at hst
                simp [hw1]
                refine ⟨l.length - (k + 1), by omega, iv ⟨k + 1, openR g s3 j, c3, by omega, rfl, r4, b4, by simp [openR]; omega, hst, by simp⟩⟩
              · have hs' : stepR g s j = none := by rw [hstep, if_neg (fun q => q3 q.2.2)]
                have q2' : ¬ (g.prods.length : Int) ≤ j := by omega
                simp [runV, hbx3, g1.1, g3, q2, q2', hj0, e2, prV, prC, V.cells, q3]
                exact hQ0 (bad hs') _ _ (by decide) (grh _ _ r3)
            · have hs' : stepR g s i = none := by rw [hstep, if_neg (fun q => q2 q.2.1)]
              have q1' : ¬ i < 0 := by omega
              have q2' : (g.prods.length : Int) ≤ i := by omega
              simp [runV, hbx3, g1.1, g3, q1', q2']
              exact hQ0 (bad hs') _ _ (by decide) (grh _ _ r3)
          · have hs' : stepR g s i = none := by rw [hstep, if_neg (fun q => q1 q.1)]
            have q1' : i < 0 := by omega
            simp [runV, q1']
            exact hQ0 (bad hs') _ _ (by decide) (grh _ _ r3)
      · have hk' : ¬ (k : Int) < l.length := by omega
        rw [List.drop_eq_nil_of_le (by omega), stepsR] at hst
        simp [hk']
        refine ecall (run_spec L.tr r b fun h3 c3 r3 b3 => ?_)
        have hrep : replayR g l = match runR s.todo s.word s.nodes with
          | (none, s') => some s'
          | (some _, _) => none := by unfold replayR; rw [← hst]; rfl
        generalize hrr : runR s.todo s.word s.nodes = rr at *
        obtain ⟨nn, s3⟩ := rr
        simp only at r3 b3
        cases nn with
        | none =>
          simp [runV]
          exact hQ1 s3 ⟨c1, c2, hrep⟩ _ _ _ _ gr1 r3 b3
        | some n =>
          simp [runV]
          exact hQ0 (fun ⟨s', q⟩ => by rw [q.2.2] at hrep; cases hrep) _ _ (by decide) (grh _ _ r3)
    · have c2' : (2000 : Int) < l.length := by omega
      simp [c1, c2']
      exact hQ0 (fun ⟨s, q⟩ => c2 q.2.1) _ _ (by decide) gr1
  · have c1' : rightG g = false := by simpa using c1
    simp [c1']
    exact hQ0 (fun ⟨s, q⟩ => c1 q.1) _ _ (by decide) gr1
end
end Go.Proofs.Ytajaoldljichaaa.Al
namespace Go.Proofs.Ytajaoldljichaaa.Al
open Go Go.RowKit
set_option linter.unusedSimpArgs false
set_option linter.unusedVariables false
attribute [-simp] List.getD_eq_getElem?_getD Int.not_lt Int.not_le List.map_take
section
variable {X : Cx} {h : AH} {Q : V → AH → Prop}
theorem OwnS.wk {h0 h : AH} {e st : Nat} {l : List Int} (o : OwnS h0 h e st l) : Wk (.sl e st (ints l)) (.sl 1 0 (ints l)) := by
  rcases o.1 with rfl | rfl
  · exact .nil e 1 st
  · exact .sl 1 st _
theorem Wk.tt {a a' b b' : V} (wa : Wk a a') (wb : Wk b b') : Wk (.tup [a, b]) (.tup [a', b']) := .tup _ _ rfl fun i h1 h2 => by
  match i with
  | 0 => exact wa
  | 1 => exact wb
  | n + 2 => simp at h1; omega
theorem treplay_spec (L : LTw X) (g : Gm) (l : List Int) (e st : Nat) (he : l = [] ∨ e = 1) (hg : GmOk g) (hl : l.length < 2 ^ 40)
    (hQ1 : ∀ s, ReplayOk g l s → Q (.tup [.sl 1 0 (ints s.word), .int .i64 0]) h) (hQ0 : (¬ ∃ s, ReplayOk g l s) → ∀ n, n ≠ 0 → Q (.tup [.sl 0 1 [], .int .i64 n]) h) : Ecx X K.tree_Replay [gmV g, .sl e st (ints l)] h Q := by
  refine fn_walk L.tr.replay' (by simp [A.tree_Replay]) fun wf => ?_
  have g1 : (gmC g).length = 4 ∧ (gmC g).take 4 = gmC g := ⟨rfl, rfl⟩
  have gr1 := (Gr.refl h).new (gmC g)
  simp [A.tree_Replay, gmV, V.cells, V.good, g1.1, g1.2]
  refine ecall (replay_spec L g l e st he hg hl (fun s ok h0 h' o c gr r b => ?_) (fun no n h' hn gr => ?_))
  · obtain ⟨g0, n3, T, N, We, Ws, t, u, as, cc, ht, hN, hW, hA, o1, o2, p1, p2, p3, p4⟩ := r
    simp [cc]
    exact fin_wk (gr1.trans (gr.trans g0)) (Wk.tt hW.wk (.same _)) (by simp [Bdd_sl0]; exact Bdd_ints _ _ _) (hQ1 s ok)
  · simp [hn]
    exact fin_wk (gr1.trans gr) (.same _) (by simp) (hQ0 no n hn)
theorem tnodes_spec (L : LTw X) (g : Gm) (l : List Int) (e st : Nat) (he : l = [] ∨ e = 1) (hg : GmOk g) (hl : l.length < 2 ^ 40)
    (hQ1 : ∀ s, ReplayOk g l s → ∀ h' N u as c, Gr h h' → NdsH h' N s.nodes u as → (N.isOsl = true → u < h'.nobj) → (∀ i (h1 : i < s.nodes.length) (h2 : i < as.length), s.nodes[i].at' = [] ∨ as[i].1 = 1) → BdR s c → Q (.tup [N, .int .i64 0]) h')
    (hQ0 : (¬ ∃ s, ReplayOk g l s) → ∀ n h', n ≠ 0 → Gr h h' → Q (.tup [.sl 0 1 [], .int .i64 n]) h') : Ecx X K.tree_Nodes [gmV g, .sl e st (ints l)] h Q := by
  refine fn_any L.tr.nodes (by simp [A.tree_Nodes]) fun wf => ?_
  have g1 : (gmC g).length = 4 ∧ (gmC g).take 4 = gmC g := ⟨rfl, rfl⟩
  have gr1 := (Gr.refl h).new (gmC g)
  simp [A.tree_Nodes, gmV, V.cells, V.good, g1.1, g1.2]
  refine ecall (replay_spec L g l e st he hg hl (fun s ok h0 h' o c gr r b => ?_) (fun no n h' hn gr => ?_))
  · obtain ⟨g0, n3, T, N, We, Ws, t, u, as, cc, ht, hN, hW, hA, o1, o2, p1, p2, p3, p4⟩ := r
    simp [cc]
    exact hQ1 s ok _ N u as c (gr1.trans (gr.trans g0)) hN (fun q => (p2 q).2.1) (fun i h1 h2 => (hA i h1 h2).1.1) b
  · simp [hn]
    exact hQ0 no n _ hn (gr1.trans gr)
/-! ### IndexFunc, ContainsFunc over nodes -/
theorem indexFuncN {k kf u : Nat} (H : Has (Ecx X) k (ixfF 2 true)) {N : V} {l : List Dn} {as : List (Nat × Nat)} (hN : NdsH h N l u as) (hu : N.isOsl = true → u < h.nobj) (first cap : List V) (p : Dn → Bool) (hl : l.length < 2 ^ 40)
    (hp : ∀ i (h1 : i < l.length) (h2 : i < as.length), ∀ (Q : V → AH → Prop) (h' : AH), Gr h h' → Q (.bool (p l[i])) h' → Ecx X kf (first ++ .agg (dnC l[i] as[i]) :: cap) h' Q) (hQ : Q (.int .i64 (idxP p l)) h) : Ecx X k [N, .fn kf first cap] h Q := by
  refine fn_walk H (by simp [ixfF]) fun wf => ?_
  rcases hN with ⟨e, rfl, rfl, _⟩ | ⟨c, rfl, cne, cle, cl, la, ct⟩
  · simp [ixfF]
    refine loopI (n := 0) (fun n env h' => n = 0 ∧ Gr h h' ∧ env = [(0, .sl e 1 []), (1, .fn kf first cap), (7, .int .i64 0), (8, .int .i64 0)]) ?_ ⟨rfl, Gr.refl h, by simp⟩
    rintro n env h' ⟨rfl, gr, rfl⟩
    unfold ixfL
    simp
    exact fin_wk gr (.same _) (by simp) hQ
  · have hu' := hu rfl
    simp [ixfF]
    refine loopI (n := l.length) (fun n env h' => ∃ k, k ≤ l.length ∧ n = l.length - k ∧ Gr h h' ∧ env = [(0, .osl 2 u 0 l.length c), (1, .fn kf first cap), (7, .int .i64 l.length), (8, .int .i64 k)] ∧ (l.take k).any p = false) ?_ ⟨0, by omega, by omega, Gr.refl h, by simp, by simp⟩
    rintro n env h' ⟨j, hj, rfl, gr, rfl, ha⟩
    unfold ixfL
    have hd := idxP_drop p l j hj ha
    have hou := gr.objs u hu'
    by_cases hlt : j < l.length
    · have hlt' : (j : Int) < l.length := by omega
      have hw1 : IntKind.i64.wrap ((j : Int) + 1) = ((j + 1 : Nat) : Int) := by rw [wrap_i64 (by omega) (by omega)]; rfl
      have hja : j < as.length := by omega
      have hsl : ((h.objs u).drop (j * 2)).take 2 = dnC l[j] as[j] := by
        obtain ⟨d1, d2⟩ := dnsC_get l as la j hlt hja
        refine List.ext_getElem? fun q => ?_
        rw [List.getElem?_take, List.getElem?_drop]
        have ht : ∀ z, z < l.length * 2 → (h.objs u)[z]? = (dnsC l as)[z]? := fun z hz => by rw [← ct, List.getElem?_take, if_pos hz]
        match q with
        | 0 => rw [if_pos (by omega), Nat.add_zero, ht _ (by omega), d1]; rfl
        | 1 => rw [if_pos (by omega), ht _ (by omega), d2]; rfl
        | q + 2 => rw [if_neg (by omega)]; rfl
      have hle : j * 2 + 2 ≤ (h.objs u).length := by omega
      simp [hlt', hou, hle, hsl]
      refine ecall ?_
      refine hp j hlt hja _ _ gr ?_
      rw [List.drop_eq_getElem_cons hlt, idxP] at hd
      cases hpa : p l[j] with
      | true =>
        rw [hpa] at hd
        simp at hd ⊢
        rw [hd] at hQ
        exact fin_wk gr (.same _) (by simp) hQ
      | false =>
        simp [hw1]
        exact ⟨l.length - (j + 1), by omega, iv ⟨j + 1, by omega, rfl, gr, rfl, by
          rw [List.take_succ_eq_append_getElem hlt, List.any_append, ha]; simp [hpa]⟩⟩
    · have hlt' : ¬ (j : Int) < l.length := by omega
      obtain rfl : j = l.length := by omega
      rw [List.drop_length, idxP] at hd
      simp at hd
      simp [hlt']
      rw [hd] at hQ
      exact fin_wk gr (.same _) (by simp) hQ
theorem containsFuncN {k k2 kf u : Nat} (H : Has (Ecx X) k (ctfF k2)) (H2 : Has (Ecx X) k2 (ixfF 2 true)) {N : V} {l : List Dn} {as : List (Nat × Nat)} (hN : NdsH h N l u as) (hu : N.isOsl = true → u < h.nobj) (first cap : List V) (p : Dn → Bool) (hl : l.length < 2 ^ 40)
    (hp : ∀ i (h1 : i < l.length) (h2 : i < as.length), ∀ (Q : V → AH → Prop) (h' : AH), Gr h h' → Q (.bool (p l[i])) h' → Ecx X kf (first ++ .agg (dnC l[i] as[i]) :: cap) h' Q) (hQ : Q (.bool (l.any p)) h) : Ecx X k [N, .fn kf first cap] h Q := by
  refine fn_walk H (by simp [ctfF]) fun wf => ?_
  simp [ctfF]
  refine ecall (indexFuncN H2 hN hu first cap p hl hp ?_)
  simp
  obtain ⟨h1, h2⟩ := idxP_any p l
  have : decide (0 ≤ idxP p l) = l.any p := by
    cases h3 : l.any p
    · simp; intro h4; have := h2.1 h4; rw [h3] at this; cases this
    · simp; exact h2.2 h3
  rw [this]
  exact fin (by simp) hQ
end
end Go.Proofs.Ytajaoldljichaaa.Al
namespace Go.Proofs.Ytajaoldljichaaa.Al
open Go Go.RowKit
set_option linter.unusedSimpArgs false
set_option linter.unusedVariables false
attribute [-simp] List.getD_eq_getElem?_getD Int.not_lt Int.not_le List.map_take
theorem ctf_node : A.slices_ContainsFunc_Node = ctfF K.slices_IndexFunc_Node := rfl
theorem ixf_node : A.slices_IndexFunc_Node = ixfF 2 true := rfl
theorem ctf_int2 : A.slices_ContainsFunc_int_2 = ctfF K.slices_IndexFunc_int_2 := rfl
theorem ixf_int2 : A.slices_IndexFunc_int_2 = ixfF 1 false := rfl
/-- The whole item of a production, from a place. -/
def wholeI (g : Gm) (q from' : Int) : It := ⟨q, (prG g q).right.length, from'⟩
/-- Does a symbol lead from a place to another one? -/
def LeadsP (g : Gm) (w : List Int) (ss : List (List It)) (s : Sy) (a b : Int) : Prop :=
  if s.non = true then ∃ q ∈ ofG g s.n, InS ss (wholeI g q a, b) else b = a + 1 ∧ w.getD a.toNat 0 = s.n
structure LCl2 (X : Cx) (f : Nat) : Prop where
  cl : LCl X f
  tw : LTw X
  leads : Has (Ecx X) K.closed_looker_leads A.closed_looker_leads
  leads1 : Has (Ecx X) K.closed_looker_leads_1 A.closed_looker_leads_1
  other : Has (Ecx X) K.closed_looker_other A.closed_looker_other
  alone : Has (Ecx X) K.closed_Alone A.closed_Alone
  ctI : Has (Ecx X) K.slices_ContainsFunc_int_2 A.slices_ContainsFunc_int_2
  ixI : Has (Ecx X) K.slices_IndexFunc_int_2 A.slices_IndexFunc_int_2
  ctN : Has (Ecx X) K.slices_ContainsFunc_Node A.slices_ContainsFunc_Node
  ixN : Has (Ecx X) K.slices_IndexFunc_Node A.slices_IndexFunc_Node
  eqI : Has (Ecx X) K.slices_Equal_int A.slices_Equal_int
section
variable {X : Cx} {h : AH} {Q : V → AH → Prop} {f : Nat}
theorem here_bP {ss : List (List It)} {l : List (Pk × Nat)} (hh : HereOk ss l) (k : Pk) : decide (0 < cntK k l) = bP (InS ss k) := (bP_eq (by simp [hh k])).symm
theorem ofG_mem {g : Gm} {n q : Int} (h : q ∈ ofG g n) : 0 ≤ q ∧ q < g.prods.length ∧ (prG g q).left = n := by
  have key : ∀ (l : List Pr) (i : Nat), q ∈ ofF n l i → ∃ j, ∃ hj : j < l.length, q = i + j ∧ l[j].left = n := by
    intro l
    induction l with
    | nil => intro i h; simp [ofF] at h
    | cons p l ih =>
      intro i h
      rw [ofF] at h
      rcases List.mem_append.1 h with h | h
      · split at h
        · rename_i e; simp at h; exact ⟨0, by simp, by simp [h], e⟩
        · cases h
      · obtain ⟨j, hj, e1, e2⟩ := ih (i + 1) h
        exact ⟨j + 1, by simpa using hj, by rw [e1]; push_cast; omega, by simpa using e2⟩
  obtain ⟨j, hj, e1, e2⟩ := key g.prods 0 h
  refine ⟨by omega, by omega, ?_⟩
  have : q.toNat = j := by omega
  simp [prG, this, List.getD_eq_getElem?_getD, hj, e2]
theorem leads1_spec (L : LCl2 X f) {o om : Nat} {g : Gm} {w : List Int} {ss : List (List It)} {l : List (Pk × Nat)} (hz : SzG g ss) (M : Lk h o om g w ss) (hm : h.objs om = heV l) (hh : HereOk ss l) {b1 b2 b3 : Nat} {a b : Int}
    (l1 : b1 < h.nobj) (l2 : b2 < h.nobj) (l3 : b3 < h.nobj) (c1 : h.objs b1 = [.ptr o 0]) (c2 : h.objs b2 = [.int .i64 a]) (c3 : h.objs b3 = [.int .i64 b]) {q : Int} (h0 : 0 ≤ q) (h1 : q < g.prods.length)
    (hQ : Q (.bool (bP (InS ss (wholeI g q a, b)))) h) : Ecx X K.closed_looker_leads_1 [.int .i64 q, .ptr b1 0, .ptr b2 0, .ptr b3 0] h Q := by
  refine fn_walk L.leads1 (by simp [A.closed_looker_leads_1]) fun wf => ?_
  obtain ⟨n, rfl, hn, e1, e2⟩ := prG_get h0 h1
  obtain ⟨t1, t2, t3, t4, t5, t6, t7⟩ := lkT g w ss om
  simp [A.closed_looker_leads_1, c1, c2, c3, M.c, t1, t4, h1, e2, prV, prC, V.cells, fillV, setAt, V.good]
  refine dcall (.bool (bP (InS ss (wholeI g n a, b)))) (chas_spec L.cl.has M hm (wholeI g n a) b (by rw [here_bP hh]; exact ⟨rfl, rfl⟩)) ?_
  simp
  exact fin (by simp) hQ
theorem leads_spec (L : LCl2 X f) {o om : Nat} {g : Gm} {w : List Int} {ss : List (List It)} {l : List (Pk × Nat)} (hz : SzG g ss) (M : Lk h o om g w ss) (hm : h.objs om = heV l) (hh : HereOk ss l) (s : Sy) {a b : Int} (ha : 0 ≤ a ∧ a < 2 ^ 40) (hab : b = a + 1 → a < w.length)
    (hQ : Q (.bool (bP (LeadsP g w ss s a b))) h) : Ecx X K.closed_looker_leads [.ptr o 0, symV s, .int .i64 a, .int .i64 b] h Q := by
  refine fn_walk L.leads (by simp [A.closed_looker_leads]) fun wf => ?_
  obtain ⟨non, n⟩ := s
  obtain ⟨t1, t2, t3, t4, t5, t6, t7⟩ := lkT g w ss om
  have gr4 := ((((Gr.refl h).new [.ptr o 0]).new [.bool non, .int .i64 n]).new [.int .i64 a]).new [.int .i64 b]
  have n1 : ¬ o = h.nobj := by have := M.lt; omega
  have n2 : ¬ o = h.nobj + 1 := by have := M.lt; omega
  have n3 : ¬ o = h.nobj + 2 := by have := M.lt; omega
  have n4 : ¬ o = h.nobj + 3 := by have := M.lt; omega
  have hw1 : IntKind.i64.wrap (a + 1) = a + 1 := wrap_i64 (by omega) (by omega)
  have k1 : ¬ h.nobj = h.nobj + 1 + 2 := by omega
  have k2 : ¬ h.nobj + 1 = h.nobj + 1 + 2 := by omega
  have k3 : ¬ h.nobj + 2 = h.nobj + 1 + 2 := by omega
  have k4 : ¬ h.nobj = h.nobj + 3 := by omega
  have k5 : ¬ h.nobj + 1 = h.nobj + 3 := by omega
  have k6 : ¬ h.nobj + 2 = h.nobj + 3 := by omega
  have mc := M.c
  cases non with
  | false =>
    have hb : bP (LeadsP g w ss ⟨false, n⟩ a b) = (decide (b = a + 1) && decide (w.getD a.toNat 0 = n)) := bP_eq (by simp [LeadsP])
    rw [hb] at hQ
    obtain ⟨i, rfl⟩ : ∃ i : Nat, a = i := ⟨a.toNat, by omega⟩
    by_cases c : b = (i : Int) + 1
    · have hi : i < w.length := by have := hab c; omega
      have hi' : (i : Int) < w.length := by omega
      have hg := ints_getD (l := w) hi
      by_cases c2 : w.getD i 0 = n
      · simp [c, c2] at hQ
        simp [A.closed_looker_leads, symV, symC, V.cells, V.good, hw1, k1, k2, k3, k4, k5, k6, c, n1, n2, n3, n4, mc, t1, t5, hi', hg, c2]
        exact fin_wk (c ▸ gr4) (.same _) (by simp) hQ
      · simp [c, c2] at hQ
        simp [A.closed_looker_leads, symV, symC, V.cells, V.good, hw1, k1, k2, k3, k4, k5, k6, c, n1, n2, n3, n4, mc, t1, t5, hi', hg, c2]
        exact fin_wk (c ▸ gr4) (.same _) (by simp) hQ
    · simp [c] at hQ
      simp [A.closed_looker_leads, symV, symC, V.cells, V.good, hw1, k1, k2, k3, k4, k5, k6, c, n1, n2, n3, n4]
      exact fin_wk gr4 (.same _) (by simp) hQ
  | true =>
    have hb : bP (LeadsP g w ss ⟨true, n⟩ a b) = (ofG g n).any fun q => bP (InS ss (wholeI g q a, b)) := bP_eq (by
      simp only [LeadsP, List.any_eq_true, ↓reduceIte]
      exact ⟨fun ⟨q, h1, h2⟩ => ⟨q, h1, bP_of h2⟩, fun ⟨q, h1, h2⟩ => ⟨q, h1, bP_t h2⟩⟩)
    rw [hb] at hQ
    have d1 : ((((h.new [.ptr o 0]).new [.bool true, .int .i64 n]).new [.int .i64 a]).new [.int .i64 b]).objs h.nobj = [.ptr o 0] := by simp [k1, k4]
    have d2 : ((((h.new [.ptr o 0]).new [.bool true, .int .i64 n]).new [.int .i64 a]).new [.int .i64 b]).objs (h.nobj + 2) = [.int .i64 a] := by simp [k6]
    have d3 : ((((h.new [.ptr o 0]).new [.bool true, .int .i64 n]).new [.int .i64 a]).new [.int .i64 b]).objs (h.nobj + 3) = [.int .i64 b] := by simp
    simp [A.closed_looker_leads, symV, symC, V.cells, V.good, hw1, k1, k2, k3, k4, k5, k6, n1, n2, n3, n4, mc, t1, t2]
    generalize hH : (((h.new [.ptr o 0]).new [.bool true, .int .i64 n]).new [.int .i64 a]).new [.int .i64 b] = H at *
    have M4 := M.gr gr4
    have hom : H.objs om = heV l := (gr4.objs _ M.ltm).trans hm
    have hgl : g.prods.length ≤ 2 ^ 40 := by have := hz.gl; omega
    have htl := ofF_len n g.prods 0
    refine dcall (.sl 1 0 (ints (ofG g n))) (ofP_spec L.cl.of g n hgl ⟨rfl, rfl⟩) ?_
    simp
    have e1 : h.nobj < H.nobj := by rw [← hH]; show h.nobj < h.nobj + 1 + 1 + 1 + 1; omega
    have e3 : h.nobj + 2 < H.nobj := by rw [← hH]; show h.nobj + 2 < h.nobj + 1 + 1 + 1 + 1; omega
    have e4 : h.nobj + 3 < H.nobj := by rw [← hH]; show h.nobj + 3 < h.nobj + 1 + 1 + 1 + 1; omega
    have ctI := L.ctI
    have ixI := L.ixI
    rw [ctf_int2] at ctI
    rw [ixf_int2] at ixI
    refine dcall (.bool ((ofG g n).any fun q => bP (InS ss (wholeI g q a, b)))) ?_ ?_
    · refine containsFunc encInt ctI ixI (ofG g n) 0 _ [] _ (fun q => bP (InS ss (wholeI g q a, b))) (by unfold ofG; omega) (fun q hq Q' h' r' y' => ?_) ⟨rfl, rfl⟩
      obtain ⟨q0, q1, _⟩ := ofG_mem hq
      exact leads1_spec L hz (M4.gr r') ((r'.objs _ M4.ltm).trans hom) hh (Nat.lt_of_lt_of_le e1 r'.nobj) (Nat.lt_of_lt_of_le e3 r'.nobj) (Nat.lt_of_lt_of_le e4 r'.nobj) ((r'.objs _ e1).trans d1) ((r'.objs _ e3).trans d2) ((r'.objs _ e4).trans d3) q0 q1 y'
    · simp
      exact fin_wk gr4 (.same _) (by simp) hQ
/-! ### Another node -/
structure NodeOk (g : Gm) (w : List Int) (d : Dn) : Prop where
  p0 : 0 ≤ d.prod
  p1 : d.prod < g.prods.length
  al : d.at'.length = (prG g d.prod).right.length + 1
  a : ∀ x ∈ d.at', 0 ≤ x ∧ x ≤ w.length
def frmN (d : Dn) : Int := d.at'.getD 0 0
def toN (d : Dn) : Int := d.at'.getD (d.at'.length - 1) 0
def OtherA (g : Gm) (ss : List (List It)) (d : Dn) (q : Int) : Prop := q ≠ d.prod ∧ InS ss (wholeI g q (frmN d), toN d)
def OtherC (g : Gm) (w : List Int) (ss : List (List It)) (d : Dn) (k : Nat) (m : Int) : Prop := m ≠ d.at'.getD k 0 ∧ InS ss (⟨d.prod, k, frmN d⟩, m) ∧ ∃ hk : k < (prG g d.prod).right.length, LeadsP g w ss (prG g d.prod).right[k] m (d.at'.getD (k + 1) 0)
def OtherB (g : Gm) (w : List Int) (ss : List (List It)) (d : Dn) (k : Nat) : Prop := ∃ m, frmN d ≤ m ∧ m ≤ d.at'.getD (k + 1) 0 ∧ OtherC g w ss d k m
def OtherP (g : Gm) (w : List Int) (ss : List (List It)) (d : Dn) : Prop := (∃ q ∈ ofG g (prG g d.prod).left, OtherA g ss d q) ∨ ∃ k, k < (prG g d.prod).right.length ∧ OtherB g w ss d k
theorem other_spec (L : LCl2 X f) {o om : Nat} {g : Gm} {w : List Int} {ss : List (List It)} {l : List (Pk × Nat)} (hz : SzG g ss) (hwl : w.length < 2 ^ 30) (M : Lk h o om g w ss) (hm : h.objs om = heV l) (hh : HereOk ss l) (d : Dn) (st : Nat) (hd : NodeOk g w d)
    (hQ : Q (.bool (bP (OtherP g w ss d))) h) : Ecx X K.closed_looker_other [.ptr o 0, .agg (dnC d (1, st))] h Q := by
  refine fn_walk L.other (by simp [A.closed_looker_other]) fun wf => ?_
  obtain ⟨t1, t2, t3, t4, t5, t6, t7⟩ := lkT g w ss om
  obtain ⟨n, en, hn, e1, e2⟩ := prG_get hd.p0 hd.p1
  have hp1 := hd.p1
  obtain ⟨prod, at'⟩ := d
  simp only at en hp1 e1 e2
  subst en
  have mc := M.c
  have n1 : ¬ o = h.nobj := by have := M.lt; omega
  have n2 : ¬ o = h.nobj + 1 := by have := M.lt; omega
  have gr2 := ((Gr.refl h).new [.int .i64 n, .sl 1 st (ints at')]).new [.int .i64 (prG g n).left, .sl 2 0 ((prG g n).right.map symV)]
  have hal := hd.al
  simp only at hal
  have g0 := ints_getD (l := at') (i := 0) (by omega)
  have g1 := ints_getD (l := at') (i := at'.length - 1) (by omega)
  have hr := hz.pr n
  have hw1 : IntKind.i64.wrap ((at'.length : Int) - 1) = ((at'.length - 1 : Nat) : Int) := by rw [wrap_i64 (by omega) (by omega)]; omega
  have l0 : 0 < at'.length := by omega
  have l1 : (at'.length - 1 : Nat) < at'.length := by omega
  have hgl : g.prods.length ≤ 2 ^ 40 := by have := hz.gl; omega
  simp [A.closed_looker_other, dnC, V.cells, V.good, n1, n2, mc, t1, t2, t4, hp1, e2, prV, prC, setAt, g0, g1, hw1, l0, l1]
  generalize hR : prG g n = R at *
  refine dcall (.sl 1 0 (ints (ofG g R.left))) (ofP_spec L.cl.of g R.left hgl ⟨rfl, rfl⟩) ?_
  simp
  have htl := ofF_len R.left g.prods 0
  have hlo : (ofG g R.left).length ≤ g.prods.length := htl
  generalize hH : (h.new [.int .i64 n, .sl 1 st (ints at')]).new [.int .i64 R.left, .sl 2 0 (R.right.map symV)] = H at *
  have b1 : h.nobj < H.nobj := by rw [← hH]; show h.nobj < h.nobj + 1 + 1; omega
  have b2 : h.nobj + 1 < H.nobj := by rw [← hH]; show h.nobj + 1 < h.nobj + 1 + 1; omega
  have c1 : H.objs h.nobj = [.int .i64 n, .sl 1 st (ints at')] := by rw [← hH]; simp
  have c2 : H.objs (h.nobj + 1) = [.int .i64 R.left, .sl 2 0 (R.right.map symV)] := by rw [← hH]; simp
  have M4 := M.gr gr2
  have hom : H.objs om = heV l := (gr2.objs _ M.ltm).trans hm
  refine loopI (n := (ofG g R.left).length) (fun m env h' => ∃ k, k ≤ (ofG g R.left).length ∧ m = (ofG g R.left).length - k ∧ Gr H h' ∧ (∀ q ∈ (ofG g R.left).take k, ¬ OtherA g ss ⟨n, at'⟩ q) ∧
    env = [(0, V.ptr o 0), (3, V.ptr h.nobj 0), (5, V.ptr (h.nobj + 1) 0), (6, V.int .i64 (at'.getD 0 0)), (7, V.int .i64 (at'.getD (at'.length - 1) 0)), (41, V.sl 1 0 (ints (ofG g R.left))), (42, V.int IntKind.i64 (ofG g R.left).length), (43, V.int IntKind.i64 k)]) ?_ ⟨0, by omega, by omega, Gr.refl H, by simp, by simp⟩
  rintro m env h' ⟨k, hk, rfl, gr, hf, rfl⟩
  unfold A.closed_looker_other.L0
  have d1 := (gr.objs _ b1).trans c1
  have d2 := (gr.objs _ b2).trans c2
  by_cases hk2 : k < (ofG g R.left).length
  · have hk' : (k : Int) < (ofG g R.left).length := by omega
    have hgt := ints_getD (l := ofG g R.left) hk2
    have hqm : (ofG g R.left).getD k 0 ∈ ofG g R.left := by rw [List.getD_eq_getElem?_getD, List.getElem?_eq_getElem hk2]; exact List.getElem_mem hk2
    have htk : (ofG g R.left).take (k + 1) = (ofG g R.left).take k ++ [(ofG g R.left).getD k 0] := by rw [List.getD_eq_getElem?_getD, List.getElem?_eq_getElem hk2]; exact List.take_succ_eq_append_getElem hk2
    obtain ⟨q0, q1, q2⟩ := ofG_mem hqm
    obtain ⟨q3, e3, hn3, e4, e5⟩ := prG_get q0 q1
    have hw2 : IntKind.i64.wrap ((k : Int) + 1) = ((k + 1 : Nat) : Int) := by rw [wrap_i64 (by omega) (by omega)]; rfl
    generalize (ofG g R.left).getD k 0 = q at *
    subst e3
    have M5 := M4.gr gr
    by_cases c : (q3 : Int) = n
    · have hno : ¬ OtherA g ss ⟨n, at'⟩ q3 := fun y => y.1 c
      simp [hk', hgt, d1, c, hw2]
      exact ⟨(ofG g R.left).length - (k + 1), by omega, iv ⟨k + 1, by omega, rfl, gr, fun q hq => by
        rw [htk] at hq
        rcases List.mem_append.1 hq with hq | hq
        · exact hf q hq
        · simp at hq; subst hq; exact hno, by simp⟩⟩
    · simp [hk', hgt, d1, c, M5.c, t1, t4, q1, e5, prV, prC, V.cells, fillV, setAt, V.good]
      refine ecall (chas_spec L.cl.has M5 ((gr.objs _ M4.ltm).trans hom) (wholeI g q3 (at'.getD 0 0)) (at'.getD (at'.length - 1) 0) ?_)
      rw [here_bP hh]
      by_cases c3 : InS ss (wholeI g q3 (at'.getD 0 0), at'.getD (at'.length - 1) 0)
      · have hP : OtherP g w ss ⟨n, at'⟩ := .inl ⟨q3, by rw [hR]; exact hqm, c, c3⟩
        rw [bP_t hP] at hQ
        rw [bP_t c3]
        simp [c]
        exact fin_wk (gr2.trans gr) (.same _) (by simp) hQ
      · have hno : ¬ OtherA g ss ⟨n, at'⟩ q3 := fun y => c3 y.2
        rw [bP_f c3]
        simp [c, hw2]
        exact ⟨(ofG g R.left).length - (k + 1), by omega, iv ⟨k + 1, by omega, rfl, gr, fun q hq => by
          rw [htk] at hq
          rcases List.mem_append.1 hq with hq | hq
          · exact hf q hq
          · simp at hq; subst hq; exact hno, by simp⟩⟩
  · have hk' : ¬ (k : Int) < (ofG g R.left).length := by omega
    obtain rfl : k = (ofG g R.left).length := by omega
    rw [List.take_length] at hf
    simp [hk', d2]
    refine loopI (n := R.right.length) (fun m env h' => ∃ k, k ≤ R.right.length ∧ m = R.right.length - k ∧ Gr H h' ∧ (∀ k2, k2 < k → ¬ OtherB g w ss ⟨n, at'⟩ k2) ∧
      env = [(0, V.ptr o 0), (3, V.ptr h.nobj 0), (6, V.int IntKind.i64 (at'.getD 0 0)), (71, V.sl 2 0 (List.map symV R.right)), (72, V.int IntKind.i64 ↑R.right.length), (73, V.int IntKind.i64 k)]) ?_ ⟨0, by omega, by omega, gr, by simp, by simp⟩
    rintro m env h' ⟨k, hk, rfl, gr, hfB, rfl⟩
    unfold A.closed_looker_other.L1
    have d1 := (gr.objs _ b1).trans c1
    by_cases hk2 : k < R.right.length
    · have hk' : (k : Int) < R.right.length := by omega
      have hg : (R.right.map symV).getD k .undef = symV R.right[k] := Enc.getD hk2
      have hgk := ints_getD (l := at') (i := k + 1) (by omega)
      have hw2 : IntKind.i64.wrap ((k : Int) + 1) = ((k + 1 : Nat) : Int) := by rw [wrap_i64 (by omega) (by omega)]; rfl
      have hka : k + 1 < at'.length := by omega
      have m1 : ¬ h.nobj = h'.nobj := by have := gr.nobj; omega
      have d3 : (h'.new (symC R.right[k])).objs h.nobj = [.int .i64 n, .sl 1 st (ints at')] := by rw [new_objs_ne _ _ m1]; exact d1
      have gr3 := gr.new (symC R.right[k])
      simp [hk', hg, symV, V.cells, V.good, symC, setAt, m1, d1, hw2, hgk, hka]
      refine ⟨by omega, by omega, ?_⟩
      have hgo := ints_getD (l := at') (i := k) (by omega)
      have hkb : k < at'.length := by omega
      have dA : ∀ i (hi : i < at'.length), 0 ≤ at'.getD i 0 ∧ at'.getD i 0 ≤ w.length := fun i hi => by
        rw [List.getD_eq_getElem?_getD, List.getElem?_eq_getElem hi]
        exact hd.a _ (List.getElem_mem hi)
      have a0 := dA 0 (by omega)
      have a1 := dA (k + 1) (by omega)
      refine loopI (n := (at'.getD (k + 1) 0 + 1 - at'.getD 0 0).toNat) (fun N env h2 => ∃ m, at'.getD 0 0 ≤ m ∧ N = (at'.getD (k + 1) 0 + 1 - m).toNat ∧ Gr (h'.new [V.bool R.right[k].non, V.int IntKind.i64 R.right[k].n]) h2 ∧ (∀ m2, at'.getD 0 0 ≤ m2 → m2 < m → ¬ OtherC g w ss ⟨n, at'⟩ k m2) ∧
        env = [(0, V.ptr o 0), (3, V.ptr h.nobj 0), (6, V.int IntKind.i64 (at'.getD 0 0)), (10, V.int IntKind.i64 ↑k), (11, V.ptr h'.nobj 0), (12, V.int IntKind.i64 (at'.getD (k + 1) 0)), (13, V.int IntKind.i64 m), (71, V.sl 2 0 (List.map symV R.right)), (72, V.int IntKind.i64 ↑R.right.length), (73, V.int IntKind.i64 ↑k)]) ?_ ⟨_, Int.le_refl _, rfl, Gr.refl _, by intro m2 x y; omega, by simp⟩
      rintro N env h2 ⟨m, hm0, rfl, gr4, hfC, rfl⟩
      unfold A.closed_looker_other.L2
      have gr5 := (gr.new [V.bool R.right[k].non, V.int IntKind.i64 R.right[k].n]).trans gr4
      have d4 := (gr5.objs _ b1).trans c1
      have d5 : h2.objs h'.nobj = [V.bool R.right[k].non, V.int IntKind.i64 R.right[k].n] := by rw [gr4.objs _ (by show h'.nobj < h'.nobj + 1; omega)]; simp
      have M6 := M4.gr gr5
      by_cases hmk : m ≤ at'.getD (k + 1) 0
      · have hw3 : IntKind.i64.wrap (m + 1) = m + 1 := wrap_i64 (by omega) (by omega)
        have hnext : ¬ OtherC g w ss ⟨n, at'⟩ k m → ∀ m2, at'.getD 0 0 ≤ m2 → m2 < m + 1 → ¬ OtherC g w ss ⟨n, at'⟩ k m2 := fun hno m2 x y => by
          by_cases e : m2 = m
          · subst e; exact hno
          · exact hfC m2 x (by omega)
        by_cases c : m = at'.getD k 0
        · have hno : ¬ OtherC g w ss ⟨n, at'⟩ k m := fun y => y.1 c
          have hmk2 := hmk
          have hw4 := hw3
          rw [c] at hmk2 hw4
          simp [hmk2, d4, d5, hgo, hkb, c, hw4]
          exact ⟨_, by rw [c] at hmk; omega, iv ⟨at'.getD k 0 + 1, by rw [← c]; omega, rfl, gr4, by rw [← c]; exact hnext hno, by simp⟩⟩
        · simp [hmk, d4, d5, hgo, hkb, c]
          have hom2 := (gr5.objs _ M4.ltm).trans hom
          refine ecall (chas_spec L.cl.has M6 hom2 ⟨n, k, at'.getD 0 0⟩ m ?_)
          rw [here_bP hh]
          by_cases c3 : InS ss (⟨n, k, at'.getD 0 0⟩, m)
          · rw [bP_t c3]
            simp [c, d4, d5, hgo, hkb]
            refine ecall (leads_spec L hz M6 hom2 hh R.right[k] (a := m) (b := at'.getD (k + 1) 0) ⟨by omega, by omega⟩ (fun e => by omega) ?_)
            by_cases c4 : LeadsP g w ss R.right[k] m (at'.getD (k + 1) 0)
            · have hP : OtherP g w ss ⟨n, at'⟩ := .inr ⟨k, by rw [hR]; exact hk2, m, hm0, hmk, c, c3, by rw [hR]; exact ⟨hk2, c4⟩⟩
              rw [bP_t hP] at hQ
              rw [bP_t c4]
              simp [c]
              exact fin_wk (gr2.trans gr5) (.same _) (by simp) hQ
            · have hno : ¬ OtherC g w ss ⟨n, at'⟩ k m := by
                rintro ⟨_, _, y1, y2⟩
                simp only [hR] at y1 y2
                exact c4 y2
              rw [bP_f c4]
              simp [c, hw3]
              exact ⟨_, by omega, iv ⟨m + 1, by omega, rfl, gr4, hnext hno, by simp⟩⟩
          · have hno : ¬ OtherC g w ss ⟨n, at'⟩ k m := fun y => c3 y.2.1
            rw [bP_f c3]
            simp [c, hw3]
            exact ⟨_, by omega, iv ⟨m + 1, by omega, rfl, gr4, hnext hno, by simp⟩⟩
      · have hno : ¬ OtherB g w ss ⟨n, at'⟩ k := fun ⟨m2, x, y, z⟩ => hfC m2 x (by simp only at y; omega) z
        simp [hmk, hw2]
        exact ⟨R.right.length - (k + 1), by omega, iv ⟨k + 1, by omega, rfl, gr5, fun k2 hk3 => by
          by_cases e : k2 = k
          · subst e; exact hno
          · exact hfB k2 (by omega), by simp⟩⟩
    · have hk' : ¬ (k : Int) < R.right.length := by omega
      obtain rfl : k = R.right.length := by omega
      have hP : ¬ OtherP g w ss ⟨n, at'⟩ := by
        rintro (⟨q, hq, y⟩ | ⟨k2, y1, y2⟩)
        · simp only [hR] at hq; exact hf q hq y
        · simp only [hR] at y1; exact hfB k2 y1 y2
      rw [bP_f hP] at hQ
      simp [hk']
      exact fin_wk (gr2.trans gr) (.same _) (by simp) hQ
end
end Go.Proofs.Ytajaoldljichaaa.Al
namespace Go.Proofs.Ytajaoldljichaaa.Al
open Go Go.RowKit
set_option linter.unusedSimpArgs false
set_option linter.unusedVariables false
attribute [-simp] List.getD_eq_getElem?_getD Int.not_lt Int.not_le List.map_take
/-! ### What holds of nodes while a derivation is replayed -/
def pend (td : List Pt) (j : Nat) : Nat := td.countP fun p => decide (p.node = (j : Int))
structure NdI (g : Gm) (td : List Pt) (wl : Nat) (ns : List Dn) : Prop where
  nd : ∀ j (hj : j < ns.length), 0 ≤ ns[j].prod ∧ ns[j].prod < g.prods.length ∧ ns[j].at'.length + pend td j = (prG g ns[j].prod).right.length + 1 ∧ ∀ x ∈ ns[j].at', 0 ≤ x ∧ x ≤ (wl : Int)
  td : ∀ p ∈ td, p.node < ns.length
theorem NdI.ini (g : Gm) : NdI g (iniR g).todo 0 [] := ⟨fun j hj => by simp at hj, fun p hp => by simp [iniR] at hp; subst hp; simp⟩
theorem NdI.word {g : Gm} {td : List Pt} {wl wl' : Nat} {ns : List Dn} (i : NdI g td wl ns) (h : wl ≤ wl') : NdI g td wl' ns :=
  ⟨fun j hj => by obtain ⟨a, b, c, d⟩ := i.nd j hj; exact ⟨a, b, c, fun x hx => by have := d x hx; omega⟩, i.td⟩
theorem NdI.here {g : Gm} {p : Pt} {l : List Pt} {w : List Int} {ns : List Dn} (i : NdI g (p :: l) w.length ns) : NdI g l w.length (hereR ⟨l, w, ns⟩ p).nodes := by
  unfold hereR
  by_cases c : 0 ≤ p.node
  · simp only [c, ↓reduceIte]
    refine ⟨fun j hj => ?_, fun q hq => by simpa using i.td q (List.mem_cons_of_mem _ hq)⟩
    rw [List.length_modify] at hj
    obtain ⟨a, b, e, d⟩ := i.nd j hj
    rw [List.getElem_modify]
    by_cases c2 : p.node.toNat = j
    · have : p.node = (j : Int) := by omega
      simp only [c2, ↓reduceIte]
      refine ⟨a, b, ?_, fun x hx => ?_⟩
      · simp only [pend, List.countP_cons, this, decide_true, ↓reduceIte] at e
        simp only [pend, List.length_append, List.length_cons, List.length_nil]; omega
      · rcases List.mem_append.1 hx with hx | hx
        · exact d x hx
        · simp at hx; omega
    · have : ¬ p.node = (j : Int) := by omega
      simp only [c2, ↓reduceIte]
      refine ⟨a, b, ?_, d⟩
      simpa [pend, List.countP_cons, this] using e
  · simp only [c, ↓reduceIte]
    refine ⟨fun j hj => ?_, fun q hq => i.td q (List.mem_cons_of_mem _ hq)⟩
    obtain ⟨a, b, e, d⟩ := i.nd j hj
    have : ¬ p.node = (j : Int) := by omega
    exact ⟨a, b, by simpa [pend, List.countP_cons, this] using e, d⟩
theorem NdI.run {g : Gm} : ∀ (td : List Pt) (w : List Int) (ns : List Dn), NdI g td w.length ns → NdI g (runR td w ns).2.todo (runR td w ns).2.word.length (runR td w ns).2.nodes
  | [], w, ns, i => i
  | p :: l, w, ns, i => by
    have i2 := i.here
    rw [runR]
    split
    · exact NdI.run _ _ _ i2
    · split
      · exact i2
      · exact NdI.run _ _ _ (by rw [List.length_append]; exact i2.word (by simp))
theorem NdI.opn {g : Gm} {s : Rp} {i : Int} (n : NdI g s.todo s.word.length s.nodes) (h0 : 0 ≤ i) (h1 : i < g.prods.length) : NdI g (openR g s i).todo (openR g s i).word.length (openR g s i).nodes := by
  refine ⟨fun j hj => ?_, fun p hp => ?_⟩
  · simp only [openR] at hj ⊢
    by_cases c : j < s.nodes.length
    · rw [List.getElem_append_left c]
      obtain ⟨a, b, e, d⟩ := n.nd j c
      refine ⟨a, b, ?_, d⟩
      have h2 : (List.countP (fun p : Pt => decide (p.node = (j : Int))) ((prG g i).right.map (fun y => ⟨y, s.nodes.length, false⟩))) = 0 := by
        rw [List.countP_eq_zero]; intro p hp
        obtain ⟨y, _, rfl⟩ := List.mem_map.1 hp
        simp; omega
      have h3 : ¬ (s.nodes.length : Int) = (j : Int) := by omega
      simp only [pend, List.countP_append, List.countP_cons, h2, h3, decide_false] at e ⊢
      simpa using e
    · have hj2 : j = s.nodes.length := by simp at hj; omega
      subst hj2
      simp only [List.getElem_append_right (Nat.le_refl _), Nat.sub_self, List.getElem_cons_zero]
      refine ⟨h0, h1, ?_, by simp⟩
      have h2 : (List.countP (fun p : Pt => decide (p.node = (s.nodes.length : Int))) ((prG g i).right.map (fun y => ⟨y, s.nodes.length, false⟩))) = (prG g i).right.length := by
        rw [List.countP_eq_length.2 (by intro p hp; obtain ⟨y, _, rfl⟩ := List.mem_map.1 hp; simp), List.length_map]
      have h3 : (List.countP (fun p : Pt => decide (p.node = (s.nodes.length : Int))) s.todo) = 0 := by
        rw [List.countP_eq_zero]; intro p hp
        have := n.td p hp
        simp; omega
      simp only [pend, List.countP_append, List.countP_cons, h2, h3, decide_true, ↓reduceIte, List.length_nil]; omega
  · simp only [openR, List.mem_append, List.mem_map, List.mem_cons, List.length_append, List.length_cons, List.length_nil] at hp ⊢
    rcases hp with ⟨y, _, rfl⟩ | rfl | hp
    · simp only; omega
    · simp only; omega
    · have := n.td p hp; omega
theorem NdI.steps {g : Gm} : ∀ (l : List Int) (s s' : Rp), NdI g s.todo s.word.length s.nodes → stepsR g l s = some s' → NdI g s'.todo s'.word.length s'.nodes
  | [], s, s', i, h => by simp [stepsR] at h; subst h; exact i
  | k :: l, s, s', i, h => by
    rw [stepsR] at h
    split at h
    · rename_i s2 e
      refine NdI.steps l _ _ ?_ h
      rw [stepR] at e
      have i2 := i.run
      split at e
      · rename_i n s3 e3
        split at e
        · rename_i c
          injection e with e
          subst e
          rw [show s3 = (runR s.todo s.word s.nodes).2 by rw [← runS.eq_1, e3]] at *
          exact NdI.opn i2 c.1 c.2.1
        · cases e
      · cases e
    · cases h
theorem runR_done : ∀ (td : List Pt) (w : List Int) (ns : List Dn), (runR td w ns).1 = none → (runR td w ns).2.todo = []
  | [], w, ns, _ => rfl
  | p :: l, w, ns, h => by
    rw [runR] at h ⊢
    split
    · rename_i c; rw [if_pos c] at h; exact runR_done _ _ _ h
    · rename_i c
      rw [if_neg c] at h
      split
      · rename_i c2; rw [if_pos c2] at h; cases h
      · rename_i c2; rw [if_neg c2] at h; exact runR_done _ _ _ h
theorem replay_nodes {g : Gm} {l : List Int} {s : Rp} (h : ReplayOk g l s) : ∀ d ∈ s.nodes, NodeOk g s.word d := by
  obtain ⟨_, _, h⟩ := h
  rw [replayR] at h
  split at h
  · rename_i s2 e
    have i2 := (NdI.steps l _ _ (NdI.ini g) e).run
    split at h
    · rename_i s3 e3
      injection h with h
      subst h
      have e4 : s3 = (runR s2.todo s2.word s2.nodes).2 := by rw [← runS.eq_1, e3]
      have e5 := runR_done s2.todo s2.word s2.nodes (by rw [← runS.eq_1, e3])
      rw [← e4] at i2 e5
      intro d hd
      obtain ⟨j, hj, rfl⟩ := List.getElem_of_mem hd
      obtain ⟨a, b, c, d⟩ := i2.nd j hj
      rw [e5] at c
      exact ⟨a, b, by simpa [pend] using c, d⟩
    · cases h
  · cases h
/-! ### Alone -/
def AloneP (g : Gm) (w : List Int) (ss : List (List It)) (l : List Int) : Prop := LookOk g w ss ∧ ss.length = w.length + 1 ∧ ClosedP g w ss ∧ ∃ s, ReplayOk g l s ∧ s.word = w ∧ ∀ d ∈ s.nodes, ¬ OtherP g w ss d
theorem ReplayOk.one {g : Gm} {l : List Int} {s s' : Rp} (a : ReplayOk g l s) (b : ReplayOk g l s') : s = s' := by
  have := a.2.2.symm.trans b.2.2
  injection this
section
variable {X : Cx} {h : AH} {Q : V → AH → Prop} {f : Nat}
theorem eqInt_spec (H : Has (Ecx X) K.slices_Equal_int A.slices_Equal_int) (a b : List Int) (s t : Nat) (ha : a.length < 2 ^ 62) (hQ : Q (.bool (decide (a = b))) h) : Ecx X K.slices_Equal_int [.sl 1 s (ints a), .sl 1 t (ints b)] h Q := by
  refine fn_walk H (by simp [A.slices_Equal_int]) fun wf => ?_
  by_cases hl : a.length = b.length
  · have hl' : (a.length : Int) = b.length := by omega
    simp [A.slices_Equal_int, hl']
    refine loopI (n := a.length) (fun m env h' => ∃ k, k ≤ a.length ∧ m = a.length - k ∧ h' = h ∧ env = [(0, .sl 1 s (ints a)), (1, .sl 1 t (ints b)), (12, .int .i64 b.length), (13, .int .i64 k)] ∧ a.take k = b.take k) ?_ ⟨0, by omega, by omega, rfl, rfl, rfl⟩
    rintro m env h' ⟨k, hk, rfl, rfl, rfl, he⟩
    unfold A.slices_Equal_int.L0
    by_cases hlt : k < a.length
    · have hlt' : (k : Int) < b.length := by omega
      have hlb : k < b.length := by omega
      have hga := ints_getD (l := a) hlt
      have hgb := ints_getD (l := b) hlb
      have hw1 : IntKind.i64.wrap ((k : Int) + 1) = ((k + 1 : Nat) : Int) := by rw [wrap_i64 (by omega) (by omega)]; rfl
      have ea : a.getD k 0 = a[k] := by rw [List.getD_eq_getElem?_getD, List.getElem?_eq_getElem hlt]; rfl
      have eb : b.getD k 0 = b[k] := by rw [List.getD_eq_getElem?_getD, List.getElem?_eq_getElem hlb]; rfl
      rw [ea] at hga
      rw [eb] at hgb
      by_cases e : a[k] = b[k]
      · simp [hl', hlt', hga, hgb, V.cells, e, hw1]
        exact ⟨a.length - (k + 1), by omega, iv ⟨k + 1, by omega, rfl, rfl, rfl, take_ext2 hlt hlb he e⟩⟩
      · have hf : decide (a = b) = false := by
          simp only [decide_eq_false_iff_not]; rintro rfl; exact e rfl
        rw [hf] at hQ
        simp [hl', hlt', hga, hgb, V.cells, e]
        exact fin (by simp) hQ
    · have hlt' : ¬ (k : Int) < b.length := by omega
      simp [hl', hlt']
      refine fin (by simp) ?_
      have hk : k = a.length := by omega
      subst hk
      rw [List.take_length, hl, List.take_length] at he
      subst he
      simpa using hQ
  · have hl' : ¬ (a.length : Int) = b.length := by omega
    have hf : decide (a = b) = false := by
      simp only [decide_eq_false_iff_not]; rintro rfl; exact hl rfl
    rw [hf] at hQ
    simp [A.slices_Equal_int, hl']
    exact fin (by simp) hQ
theorem alone_spec (L : LCl2 X f) {g : Gm} {w : List Int} {ss : List (List It)} {l : List Int} (hz : SzG g ss) (hw : w.length < 2 ^ 30) (hl : l.length < 2 ^ 40)
    (hQ : Q (.bool (bP (AloneP g w ss l))) h) : Ecx X K.closed_Alone [gmV g, .sl 1 0 (ints w), .sl 1 0 (ss.map setV), .sl 1 0 (ints l)] h Q := by
  refine fn_walk L.alone (by simp [A.closed_Alone]) fun wf => ?_
  have g1 : (gmC g).length = 4 ∧ (gmC g).take 4 = gmC g := ⟨rfl, rfl⟩
  have hlw : IntKind.i64.wrap ((w.length : Int) + 1) = ((w.length + 1 : Nat) : Int) := by rw [wrap_i64 (by omega) (by omega)]; rfl
  have hgok : GmOk g := ⟨by have := hz.gl; simp [maxLen]; omega, fun p hp => by have := hz.r p hp; simp [maxLen]; omega⟩
  simp [A.closed_Alone, gmV, V.cells, V.good, g1.1, g1.2]
  have gr1 := (Gr.refl h).new (gmC g)
  refine ecall (look_spec L.cl hz (by omega) (fun h0 h' gr => ?_) (fun h1 h' o om cl gr _ M hm hh => ?_))
  · have h2 : ¬ AloneP g w ss l := fun q => h0 q.1
    rw [bP_f h2] at hQ
    simp
    exact fin_wk (gr1.trans gr) (.same _) (by simp) hQ
  · have gr2 := gr1.trans gr
    have cg : h'.objs h.nobj = gmC g := by rw [gr.objs _ (by show h.nobj < h.nobj + 1; omega)]; simp
    by_cases c1 : ss.length = w.length + 1
    · have c1' : (ss.length : Int) = (w.length : Int) + 1 := by omega
      simp [c1', hlw]
      refine ecall (closed1_spec L.cl hz h1 M hm hh ?_)
      by_cases c2 : ClosedP g w ss
      · rw [bP_t c2]
        simp [cg, g1.1, g1.2]
        refine ecall (treplay_spec L.tw g l 1 0 (.inr rfl) hgok hl (fun s ok => ?_) (fun no n hn => ?_))
        · simp [cg, g1.1, g1.2]
          refine ecall (tnodes_spec L.tw g l 1 0 (.inr rfl) hgok hl (fun s' ok' h3 N u as c gr3 hN hu hA hB => ?_) (fun no => absurd ⟨s, ok⟩ no))
          obtain rfl := ok.one ok'
          simp
          have hsw : s.word.length < 2 ^ 62 := by have := hB.w; have := hB.t; have := hB.n; omega
          refine ecall (eqInt_spec L.eqI s.word w 0 0 hsw ?_)
          by_cases c3 : s.word = w
          · have hnd := replay_nodes ok
            rw [c3] at hnd
            have M3 := M.gr gr3
            have hm3 := (gr3.objs _ M.ltm).trans hm
            have ctN := L.ctN
            have ixN := L.ixN
            rw [ctf_node] at ctN
            rw [ixf_node] at ixN
            simp [c3]
            refine ecall (containsFuncN ctN ixN hN hu [.ptr o 0] [] (fun d => bP (OtherP g w ss d)) (by have := hB.n; omega) (fun i i1 i2 Q' h4 gr4 y => ?_) ?_)
            · have hd := hnd _ (List.getElem_mem i1)
              have ha1 : as[i] = (1, as[i].2) := by
                rcases hA i i1 i2 with e | e
                · have := hd.al; rw [e] at this; simp at this
                · exact Prod.ext e rfl
              rw [ha1]
              exact other_spec L hz hw (M3.gr gr4) ((gr4.objs _ M3.ltm).trans hm3) hh _ _ hd y
            · have e : (!s.nodes.any fun d => bP (OtherP g w ss d)) = bP (AloneP g w ss l) := (bP_eq (by
                simp only [Bool.not_eq_true', List.any_eq_false]
                exact ⟨fun q => ⟨h1, c1, c2, s, ok, c3, fun d hd y => q d hd (bP_t y)⟩, fun ⟨_, _, _, s', o', _, q⟩ d hd y => by
                  obtain rfl := ok.one o'
                  exact q d hd (bP_of y)⟩)).symm
              rw [← e] at hQ
              simp
              exact fin_wk (gr2.trans gr3) (.same _) (by simp) hQ
          · have h2 : ¬ AloneP g w ss l := fun ⟨_, _, _, s', o', e', _⟩ => c3 (by rw [ok.one o']; exact e')
            rw [bP_f h2] at hQ
            simp [c3]
            exact fin_wk (gr2.trans gr3) (.same _) (by simp) hQ
        · have h2 : ¬ AloneP g w ss l := fun ⟨_, _, _, s', o', _⟩ => no ⟨s', o'⟩
          rw [bP_f h2] at hQ
          simp [cg, g1.1, g1.2]
          refine ecall (tnodes_spec L.tw g l 1 0 (.inr rfl) hgok hl (fun s' ok' => absurd ⟨s', ok'⟩ no) (fun no n2 h3 hn2 gr3 => ?_))
          simp [hn]
          exact fin_wk (gr2.trans gr3) (.same _) (by simp) hQ
      · have h2 : ¬ AloneP g w ss l := fun q => c2 q.2.2.1
        rw [bP_f h2] at hQ
        rw [bP_f c2]
        simp
        exact fin_wk gr2 (.same _) (by simp) hQ
    · have c1' : ¬ (ss.length : Int) = (w.length : Int) + 1 := by omega
      have h2 : ¬ AloneP g w ss l := fun q => c1 q.2.1
      rw [bP_f h2] at hQ
      simp [c1', hlw]
      exact fin_wk gr2 (.same _) (by simp) hQ
end
end Go.Proofs.Ytajaoldljichaaa.Al
namespace Go.Proofs.Ytajaoldljichaaa.Al
open Go Go.RowKit
set_option linter.unusedSimpArgs false
set_option linter.unusedVariables false
attribute [-simp] List.getD_eq_getElem?_getD Int.not_lt Int.not_le List.map_take
theorem headG_iff {g : Gm} : headG g = true ↔ 0 ≤ g.terms ∧ g.terms ≤ 16 ∧ 1 ≤ g.nons ∧ g.nons ≤ 24 ∧ 0 ≤ g.start ∧ g.start < g.nons ∧ g.prods.length ≤ 60 := by
  simp [headG, and_assoc]
structure RightG (g : Gm) : Prop where
  head : 0 ≤ g.terms ∧ g.terms ≤ 16 ∧ 1 ≤ g.nons ∧ g.nons ≤ 24 ∧ 0 ≤ g.start ∧ g.start < g.nons ∧ g.prods.length ≤ 60
  prods : ∀ p ∈ g.prods, 0 ≤ p.left ∧ p.left < g.nons ∧ p.right.length ≤ 8 ∧ ∀ s ∈ p.right, 0 ≤ s.n ∧ s.n < (if s.non = true then g.nons else g.terms)
theorem rightG_iff {g : Gm} : rightG g = true ↔ RightG g := by
  constructor
  · intro h
    simp only [rightG, Bool.and_eq_true, headG_iff, List.all_eq_true] at h
    refine ⟨h.1, fun p hp => ?_⟩
    have := h.2 p hp
    simp only [fitsG, thereG, Bool.and_eq_true, decide_eq_true_eq, if_true, List.all_eq_true] at this
    exact ⟨this.1.1.1, this.1.1.2, this.1.2, this.2⟩
  · intro ⟨h1, h2⟩
    simp only [rightG, Bool.and_eq_true, headG_iff, List.all_eq_true]
    refine ⟨h1, fun p hp => ?_⟩
    obtain ⟨a, b, c, d⟩ := h2 p hp
    simp only [fitsG, thereG, Bool.and_eq_true, decide_eq_true_eq, if_true, List.all_eq_true]
    exact ⟨⟨⟨a, b⟩, c⟩, d⟩
theorem RightG.sym {g : Gm} (r : RightG g) {p : Pr} (hp : p ∈ g.prods) {s : Sy} (hs : s ∈ p.right) : 0 ≤ s.n ∧ s.n ≤ 23 := by
  have h1 := (r.prods p hp).2.2.2 s hs
  have h2 := r.head
  split at h1 <;> omega
end Go.Proofs.Ytajaoldljichaaa.Al
namespace Go.Proofs.Ytajaoldljichaaa.Al
open Go Go.RowKit
set_option linter.unusedSimpArgs false
set_option linter.unusedVariables false
attribute [-simp] List.getD_eq_getElem?_getD Int.not_lt Int.not_le List.map_take
/-! ### Steps -/
def okS (s : Sy) : Prop := 0 ≤ s.n ∧ s.n ≤ 23
def okP (p : Pr) : Prop := (0 ≤ p.left ∧ p.left ≤ 23) ∧ p.right.length ≤ 8 ∧ ∀ s ∈ p.right, okS s
def okG (g : Gm) : Prop := (0 ≤ g.terms ∧ g.terms ≤ 16) ∧ (0 ≤ g.nons ∧ g.nons ≤ 24) ∧ (0 ≤ g.start ∧ g.start ≤ 23) ∧ g.prods.length ≤ 60 ∧ ∀ p ∈ g.prods, okP p
theorem RightG.ok {g : Gm} (r : RightG g) : okG g := by
  obtain ⟨a, b, c, d, e, f, i⟩ := r.head
  refine ⟨⟨a, b⟩, ⟨by omega, d⟩, ⟨e, by omega⟩, i, fun p hp => ?_⟩
  obtain ⟨h1, h2, h3, h4⟩ := r.prods p hp
  exact ⟨⟨h1, by omega⟩, h3, fun s hs => r.sym hp hs⟩
/-! ### Readers that may be -/
end Go.Proofs.Ytajaoldljichaaa.Al
namespace Go.Proofs.Ytajaoldljichaaa.Al
def A.probatelaw19_ClosedMeans : AFn := ⟨76, [(6, none)], (.seq (.reg [⟨(some 3), none, .box (.t 0)⟩, ⟨(some 6), none, .mv (.c (.bool false))⟩])
  (.keep [1, 2, 3] (.seq (.seq (.reg [⟨(some 9), none, .call (.c (.fn K.probatelaw19_awake [] [])) []⟩, ⟨(some 10), none, .un .not (.t 9)⟩])
  (.keep [1, 2, 3, 10] (.cond (.t 10) (.seq (.reg [⟨(some 6), none, .mv (.c (.bool false))⟩]) .ret) .skip)))
  (.keep [1, 2, 3] (.seq (.seq (.reg [⟨(some 11), none, .load true 4 (.t 3)⟩, ⟨(some 12), none, .mv (.t 1)⟩, ⟨(some 13), none, .call (.c (.fn K.probatelaw17_Large [] [])) [(.t 11), (.t 12)]⟩, ⟨(some 14), none, .mv (.t 13)⟩, ⟨(some 15), (some (14, false)), .mv (.t 2)⟩, ⟨(some 16), (some (14, false)), .call (.c (.fn K.probatelaw19_large [] [])) [(.t 15)]⟩, ⟨(some 17), none, .pick (.t 14) (.c (.bool true)) (.t 16)⟩, ⟨(some 18), none, .mv (.t 17)⟩, ⟨(some 19), (some (18, false)), .mv (.t 1)⟩, ⟨(some 20), (some (18, false)), .len false (.t 19)⟩, ⟨(some 21), (some (18, false)), .bin .gtr (.t 20) (.c (.int .i64 (8)))⟩, ⟨(some 22), none, .pick (.t 18) (.c (.bool true)) (.t 21)⟩, ⟨(some 23), none, .mv (.t 22)⟩, ⟨(some 24), (some (23, false)), .load true 4 (.t 3)⟩, ⟨(some 25), (some (23, false)), .mv (.t 1)⟩, ⟨(some 26), (some (23, false)), .mv (.t 2)⟩, ⟨(some 27), (some (23, false)), .call (.c (.fn K.closed_Closed [] [])) [(.t 24), (.t 25), (.t 26)]⟩, ⟨(some 28), (some (23, false)), .un .not (.t 27)⟩, ⟨(some 29), none, .pick (.t 23) (.c (.bool true)) (.t 28)⟩, ⟨(some 30), none, .mv (.t 29)⟩, ⟨(some 31), (some (30, false)), .load true 4 (.t 3)⟩, ⟨(some 32), (some (30, false)), .mv (.t 1)⟩, ⟨(some 33), (some (30, false)), .call (.c (.fn K.probateref04_Fits [] [])) [(.t 31), (.t 32)]⟩, ⟨(some 34), (some (30, false)), .un .not (.t 33)⟩, ⟨(some 35), none, .pick (.t 30) (.c (.bool true)) (.t 34)⟩])
  (.keep [1, 2, 3, 35] (.cond (.t 35) (.seq (.reg [⟨(some 6), none, .mv (.c (.bool true))⟩]) .ret) .skip)))
  (.keep [1, 2, 3] (.seq (.reg [⟨(some 36), none, .mv (.t 2)⟩, ⟨(some 37), none, .len false (.t 36)⟩, ⟨(some 38), none, .bin .sub (.t 37) (.c (.int .i64 (1)))⟩, ⟨(some 7), none, .mv (.t 38)⟩])
  (.keep [1, 2, 3, 7] (.seq (.draw [(.pl, ⟨(some 39), none, .load true 4 (.t 3)⟩), (.pl, ⟨(some 40), none, .mv (.t 2)⟩), (.pl, ⟨(some 41), none, .mv (.t 7)⟩), (.pl, ⟨(some 42), none, .ia 1 (.t 40) (.t 41)⟩), (.pl, ⟨(some 43), none, .load false 1 (.t 42)⟩), (.pl, ⟨(some 44), none, .call (.c (.fn K.chart_Next [] [])) [(.t 39), (.t 43)]⟩), (.pl, ⟨(some 8), none, .mv (.t 44)⟩)])
  (.keep [1, 3, 7, 8] (.seq (.seq (.draw [(.pl, ⟨(some 45), none, .load true 4 (.t 3)⟩), (.pl, ⟨(some 46), none, .mv (.t 1)⟩), (.pl, ⟨(some 47), none, .mv (.t 7)⟩), (.pl, ⟨(some 48), none, .slc 1 (.t 46) none (some (.t 47))⟩), (.pl, ⟨(some 49), none, .call (.c (.fn K.probateref08_In [] [])) [(.t 45), (.t 48)]⟩), (.pl, ⟨(some 50), none, .mv (.t 49)⟩), (.pl, ⟨(some 51), (some (50, true)), .mv (.t 8)⟩), (.pl, ⟨(some 52), (some (50, true)), .bin .shr (.t 51) (.c (.int .u64 (16)))⟩), (.pl, ⟨(some 53), (some (50, true)), .bin .and (.t 52) (.c (.int .u32 (1)))⟩), (.pl, ⟨(some 54), (some (50, true)), .bin .eql (.t 53) (.c (.int .u32 (0)))⟩), (.pl, ⟨(some 55), none, .pick (.t 50) (.t 54) (.c (.bool false))⟩)])
  (.keep [1, 3, 7, 8, 55] (.cond (.t 55) (.seq (.reg [⟨(some 6), none, .mv (.c (.bool false))⟩]) .ret) .skip)))
  (.keep [1, 3, 7, 8] (.seq (.reg [⟨(some 56), none, .load true 4 (.t 3)⟩, ⟨(some 57), none, .mv (.t 1)⟩, ⟨(some 58), none, .call (.c (.fn K.probateref08_In [] [])) [(.t 56), (.t 57)]⟩, ⟨(some 59), none, .un .not (.t 58)⟩, ⟨(some 60), none, .mv (.t 59)⟩, ⟨(some 61), (some (60, false)), .mv (.t 7)⟩, ⟨(some 62), (some (60, false)), .mv (.t 1)⟩, ⟨(some 63), (some (60, false)), .len false (.t 62)⟩, ⟨(some 64), (some (60, false)), .bin .eql (.t 61) (.t 63)⟩, ⟨(some 65), none, .pick (.t 60) (.c (.bool true)) (.t 64)⟩, ⟨(some 66), none, .mv (.t 65)⟩, ⟨(some 67), (some (66, false)), .mv (.t 8)⟩, ⟨(some 68), (some (66, false)), .mv (.t 1)⟩, ⟨(some 69), (some (66, false)), .mv (.t 7)⟩, ⟨(some 70), (some (66, false)), .ia 1 (.t 68) (.t 69)⟩, ⟨(some 71), (some (66, false)), .load false 1 (.t 70)⟩, ⟨(some 72), (some (66, false)), .bin .shr (.t 67) (.t 71)⟩, ⟨(some 73), (some (66, false)), .bin .and (.t 72) (.c (.int .u32 (1)))⟩, ⟨(some 74), (some (66, false)), .bin .eql (.t 73) (.c (.int .u32 (1)))⟩, ⟨(some 75), none, .pick (.t 66) (.c (.bool true)) (.t 74)⟩, ⟨(some 6), none, .mv (.t 75)⟩]) .ret)))))))))))))⟩
def A.probatelaw19_awake : AFn := ⟨62, [(0, none)], (.seq (.reg [⟨(some 0), none, .mv (.c (.bool false))⟩])
  (.keep [] (.seq (.reg [⟨(some 3), none, .bld [(.bool false), (.int .i64 (0))] []⟩, ⟨(some 4), none, .bsl 2 true [(.bool false), (.int .i64 (0))] 1 [(0, (.t 3))]⟩, ⟨(some 5), none, .bld [(.int .i64 (0)), (.sl 0 1 [])] [(1, 1, (.t 4))]⟩, ⟨(some 6), none, .bsl 2 true [(.int .i64 (0)), (.sl 0 1 [])] 1 [(0, (.t 5))]⟩, ⟨(some 7), none, .bld [(.int .i64 (0)), (.int .i64 (0)), (.int .i64 (0)), (.sl 0 1 [])] [(0, 1, (.c (.int .i64 (1)))), (1, 1, (.c (.int .i64 (1)))), (3, 1, (.t 6))]⟩, ⟨(some 1), none, .alloc [(.int .i64 (0)), (.int .i64 (0)), (.int .i64 (0)), (.sl 0 1 [])]⟩, ⟨none, none, .store 4 (.t 1) (.t 7)⟩])
  (.keep [1] (.seq (.reg [⟨(some 8), none, .bld [(.int .i64 (0)), (.int .i64 (0)), (.int .i64 (0))] []⟩, ⟨(some 9), none, .bsl 3 true [(.int .i64 (0)), (.int .i64 (0)), (.int .i64 (0))] 1 [(0, (.t 8))]⟩, ⟨(some 10), none, .bld [(.int .i64 (0)), (.int .i64 (0)), (.int .i64 (0))] [(1, 1, (.c (.int .i64 (1))))]⟩, ⟨(some 11), none, .bsl 3 true [(.int .i64 (0)), (.int .i64 (0)), (.int .i64 (0))] 1 [(0, (.t 10))]⟩, ⟨(some 12), none, .bsl 1 false [(.sl 0 1 [])] 2 [(0, (.t 9)), (1, (.t 11))]⟩, ⟨(some 2), none, .mv (.t 12)⟩])
  (.keep [1, 2] (.seq (.draw [(.pl, ⟨(some 13), none, .load true 4 (.t 1)⟩), (.pl, ⟨(some 14), none, .bsl 1 false [(.int .i64 (0))] 1 [(0, (.c (.int .i64 (0))))]⟩), (.pl, ⟨(some 15), none, .mv (.t 2)⟩), (.pl, ⟨(some 16), none, .call (.c (.fn K.closed_Closed [] [])) [(.t 13), (.t 14), (.t 15)]⟩), (.pl, ⟨(some 17), none, .mv (.t 16)⟩), (.pl, ⟨(some 18), (some (17, true)), .load true 4 (.t 1)⟩), (.pl, ⟨(some 19), (some (17, true)), .bsl 1 false [(.int .i64 (0))] 1 [(0, (.c (.int .i64 (0))))]⟩), (.pl, ⟨(some 20), (some (17, true)), .bld [(.int .i64 (0)), (.int .i64 (0)), (.int .i64 (0))] []⟩), (.pl, ⟨(some 21), (some (17, true)), .bsl 3 true [(.int .i64 (0)), (.int .i64 (0)), (.int .i64 (0))] 1 [(0, (.t 20))]⟩), (.pl, ⟨(some 22), (some (17, true)), .bsl 1 false [(.sl 0 1 [])] 2 [(0, (.t 21)), (1, (.c (.sl 0 1 [])))]⟩), (.pl, ⟨(some 23), (some (17, true)), .call (.c (.fn K.closed_Closed [] [])) [(.t 18), (.t 19), (.t 22)]⟩), (.pl, ⟨(some 24), (some (17, true)), .un .not (.t 23)⟩), (.pl, ⟨(some 25), none, .pick (.t 17) (.t 24) (.c (.bool false))⟩), (.pl, ⟨(some 26), none, .mv (.t 25)⟩), (.pl, ⟨(some 27), (some (26, true)), .load true 4 (.t 1)⟩), (.pl, ⟨(some 28), (some (26, true)), .bsl 1 false [(.int .i64 (0))] 1 [(0, (.c (.int .i64 (0))))]⟩), (.pl, ⟨(some 29), (some (26, true)), .mv (.t 2)⟩), (.pl, ⟨(some 30), (some (26, true)), .slc 1 (.t 29) none (some (.c (.int .i64 (1))))⟩), (.pl, ⟨(some 31), (some (26, true)), .call (.c (.fn K.closed_Closed [] [])) [(.t 27), (.t 28), (.t 30)]⟩), (.pl, ⟨(some 32), none, .pick (.t 26) (.t 31) (.c (.bool false))⟩), (.pl, ⟨(some 33), none, .mv (.t 32)⟩), (.pl, ⟨(some 34), (some (33, true)), .load true 4 (.t 1)⟩), (.pl, ⟨(some 35), (some (33, true)), .mv (.t 2)⟩), (.pl, ⟨(some 36), (some (33, true)), .call (.c (.fn K.closed_Closed [] [])) [(.t 34), (.c (.sl 0 1 [])), (.t 35)]⟩), (.pl, ⟨(some 37), (some (33, true)), .un .not (.t 36)⟩), (.pl, ⟨(some 38), none, .pick (.t 33) (.t 37) (.c (.bool false))⟩), (.pl, ⟨(some 39), none, .mv (.t 38)⟩), (.pl, ⟨(some 40), (some (39, true)), .load true 4 (.t 1)⟩), (.pl, ⟨(some 41), (some (39, true)), .bsl 1 false [(.int .i64 (0))] 1 [(0, (.c (.int .i64 (0))))]⟩), (.pl, ⟨(some 42), (some (39, true)), .mv (.t 2)⟩), (.pl, ⟨(some 43), (some (39, true)), .bsl 1 false [(.int .i64 (0))] 1 [(0, (.c (.int .i64 (0))))]⟩), (.pl, ⟨(some 44), (some (39, true)), .call (.c (.fn K.closed_Alone [] [])) [(.t 40), (.t 41), (.t 42), (.t 43)]⟩), (.pl, ⟨(some 45), none, .pick (.t 39) (.t 44) (.c (.bool false))⟩), (.pl, ⟨(some 46), none, .mv (.t 45)⟩), (.pl, ⟨(some 47), (some (46, true)), .load true 4 (.t 1)⟩), (.pl, ⟨(some 48), (some (46, true)), .bsl 1 false [(.int .i64 (0))] 1 [(0, (.c (.int .i64 (0))))]⟩), (.pl, ⟨(some 49), (some (46, true)), .mv (.t 2)⟩), (.pl, ⟨(some 50), (some (46, true)), .call (.c (.fn K.closed_Alone [] [])) [(.t 47), (.t 48), (.t 49), (.c (.sl 0 1 []))]⟩), (.pl, ⟨(some 51), (some (46, true)), .un .not (.t 50)⟩), (.pl, ⟨(some 52), none, .pick (.t 46) (.t 51) (.c (.bool false))⟩), (.pl, ⟨(some 53), none, .mv (.t 52)⟩), (.pl, ⟨(some 54), (some (53, true)), .load true 4 (.t 1)⟩), (.pl, ⟨(some 55), (some (53, true)), .bsl 1 false [(.int .i64 (0))] 1 [(0, (.c (.int .i64 (0))))]⟩), (.pl, ⟨(some 56), (some (53, true)), .mv (.t 2)⟩), (.pl, ⟨(some 57), (some (53, true)), .slc 1 (.t 56) none (some (.c (.int .i64 (1))))⟩), (.pl, ⟨(some 58), (some (53, true)), .bsl 1 false [(.int .i64 (0))] 1 [(0, (.c (.int .i64 (0))))]⟩), (.pl, ⟨(some 59), (some (53, true)), .call (.c (.fn K.closed_Alone [] [])) [(.t 54), (.t 55), (.t 57), (.t 58)]⟩), (.pl, ⟨(some 60), (some (53, true)), .un .not (.t 59)⟩), (.pl, ⟨(some 61), none, .pick (.t 53) (.t 60) (.c (.bool false))⟩), (.pl, ⟨(some 0), none, .mv (.t 61)⟩)]) .ret)))))))⟩
def A.probatelaw19_large.L0 : AC := .post (.seq (.reg [⟨(some 11), none, .bin .lss (.t 10) (.t 9)⟩])
  (.keep [8, 9, 10, 11] (.seq (.cond (.t 11) .skip (.exit 0))
  (.keep [8, 9, 10] (.seq (.block 1 (.seq (.reg [⟨(some 12), none, .ia 1 (.t 8) (.t 10)⟩, ⟨(some 13), none, .load false 1 (.t 12)⟩, ⟨(some 4), none, .mv (.t 13)⟩])
  (.keep [4, 8, 9, 10] (.seq (.reg [⟨(some 14), none, .mv (.t 4)⟩, ⟨(some 15), none, .len false (.t 14)⟩, ⟨(some 16), none, .bin .gtr (.t 15) (.c (.int .i64 (200)))⟩])
  (.keep [8, 9, 10, 16] (.cond (.t 16) (.seq (.reg [⟨(some 2), none, .mv (.c (.bool true))⟩]) .ret) .skip))))))
  (.keep [8, 9, 10] (.reg [⟨(some 17), none, .bin .add (.t 10) (.c (.int .i64 (1)))⟩, ⟨(some 10), none, .mv (.t 17)⟩]))))))) [8, 9, 10]
def A.probatelaw19_large : AFn := ⟨18, [(2, none)], (.seq (.reg [⟨(some 2), none, .mv (.c (.bool false))⟩])
  (.keep [0] (.seq (.seq (.reg [⟨(some 5), none, .mv (.t 0)⟩, ⟨(some 6), none, .len false (.t 5)⟩, ⟨(some 7), none, .bin .gtr (.t 6) (.c (.int .i64 (30)))⟩])
  (.keep [0, 7] (.cond (.t 7) (.seq (.reg [⟨(some 2), none, .mv (.c (.bool true))⟩]) .ret) .skip)))
  (.keep [0] (.seq (.seq (.reg [⟨(some 8), none, .mv (.t 0)⟩, ⟨(some 9), none, .len false (.t 8)⟩, ⟨(some 10), none, .mv (.c (.int .i64 (0)))⟩])
  (.keep [8, 9, 10] (.block 0 (.loop A.probatelaw19_large.L0))))
  (.keep [] (.seq (.reg [⟨(some 2), none, .mv (.c (.bool false))⟩]) .ret)))))))⟩
end Go.Proofs.Ytajaoldljichaaa.Al
namespace Go.Proofs.Ytajaoldljichaaa.Al
open Go Go.RowKit
set_option linter.unusedSimpArgs false
set_option linter.unusedVariables false
attribute [-simp] List.getD_eq_getElem?_getD Int.not_lt Int.not_le List.map_take
/-- Two slices that this call has made, and may append to, each without the other one. -/
structure TwoB (h0 h : AH) (ea e1 st1 : Nat) (l1 : List V) (eb e2 st2 : Nat) (l2 : List V) : Prop where
  a : Own h0 h ea e1 st1 l1
  b : Own h0 h eb e2 st2 l2
  w3 : 3 ≤ h0.next
  ba : st1 ≤ 2 ∨ st1 < h.next
  bb : st2 ≤ 2 ∨ st2 < h.next
  ne : st1 ≤ 2 ∨ st2 ≤ 2 ∨ ¬ st1 = st2
theorem TwoB.new {h0 h : AH} {ea eb e1 st1 e2 st2 : Nat} {l1 l2 : List V} (t : TwoB h0 h ea e1 st1 l1 eb e2 st2 l2) (z : List V) : TwoB h0 (h.new z) ea e1 st1 l1 eb e2 st2 l2 :=
  ⟨t.a.new z, t.b.new z, t.w3, t.ba, t.bb, t.ne⟩
end Go.Proofs.Ytajaoldljichaaa.Al
namespace Go.Proofs.Ytajaoldljichaaa.Al
open Go Go.RowKit
set_option linter.unusedSimpArgs false
set_option linter.unusedVariables false
attribute [-simp] List.getD_eq_getElem?_getD Int.not_lt Int.not_le List.map_take
/-- From a step and a place, symbols come by these nodes; their places; then the next step and place. -/
inductive DS (g : Gm) (l : List Int) : List Sy → Nat → Int → List Int → List Dn → Nat → Int → Prop where
  | nil (i : Nat) (a : Int) : DS g l [] i a [] [] i a
  | term (n : Int) {r : List Sy} {i : Nat} {a : Int} {ps : List Int} {ds : List Dn} {i' : Nat} {a' : Int} (h : DS g l r i (a + 1) ps ds i' a') : DS g l (⟨false, n⟩ :: r) i a (a :: ps) ds i' a'
  | non (n q : Int) {r : List Sy} {i : Nat} {a : Int} {ps1 ps2 : List Int} {ds1 ds2 : List Dn} {i1 i2 : Nat} {a1 a2 : Int} (hi : l[i]? = some q) (q0 : 0 ≤ q) (q1 : q < g.prods.length) (hl : (prG g q).left = n)
      (h1 : DS g l (prG g q).right (i + 1) a ps1 ds1 i1 a1) (h2 : DS g l r i1 a1 ps2 ds2 i2 a2) : DS g l (⟨true, n⟩ :: r) i a (a :: ps2) (⟨q, ps1 ++ [a1]⟩ :: ds1 ++ ds2) i2 a2
end Go.Proofs.Ytajaoldljichaaa.Al
namespace Go.Proofs.Ytajaoldljichaaa.Al
open Go Go.RowKit
set_option linter.unusedSimpArgs false
set_option linter.unusedVariables false
attribute [-simp] List.getD_eq_getElem?_getD Int.not_lt Int.not_le List.map_take
theorem DS.le {g : Gm} {l : List Int} {r : List Sy} {i : Nat} {a : Int} {ps : List Int} {ds : List Dn} {i' : Nat} {a' : Int} (d : DS g l r i a ps ds i' a') : i ≤ i' ∧ a ≤ a' ∧ ps.length = r.length := by
  induction d with
  | nil i a => exact ⟨Nat.le_refl _, Int.le_refl _, rfl⟩
  | term n h ih => simp; omega
  | non n q hi q0 q1 hl h1 h2 ih1 ih2 => simp; omega
theorem DS.cnt {g : Gm} {l : List Int} (hp : ∀ i : Int, 0 ≤ i → i < g.prods.length → (prG g i).right.length ≤ 8) {r : List Sy} {i : Nat} {a : Int} {ps : List Int} {ds : List Dn} {i' : Nat} {a' : Int} (d : DS g l r i a ps ds i' a') :
    i' = i + ds.length ∧ (i ≤ l.length → i' ≤ l.length) ∧ a' ≤ a + r.length + 8 * ds.length := by
  induction d with
  | nil i a => simp
  | term n h ih => simp at ih ⊢; omega
  | non n q hi q0 q1 hl h1 h2 ih1 ih2 =>
    rename_i i0 _ _ _ _ _ _ _ _ _
    have := hp q q0 q1
    have hil : i0 < l.length := by
      by_cases c : i0 < l.length
      · exact c
      · rw [List.getElem?_eq_none (by omega)] at hi; cases hi
    simp only [List.length_append, List.length_cons] at *
    push_cast
    omega
structure NdX (h : AH) (N : V) (ns : List Dn) (u : Nat) (as : List (Nat × Nat)) : Prop where
  n : NdsH h N ns u as
  u : N.isOsl = true → u < h.nobj
  e : ∀ i (h1 : i < ns.length) (h2 : i < as.length), ns[i].at' = [] ∨ as[i].1 = 1
def osN (N : V) (u : Nat) : List Nat := if N.isOsl = true then [u] else []
theorem NdX.len {h : AH} {N : V} {ns : List Dn} {u : Nat} {as : List (Nat × Nat)} (x : NdX h N ns u as) : ns.length = as.length := by
  rcases x.n with ⟨e, _, h1, h2⟩ | ⟨c, _, _, _, _, h, _⟩
  · rw [h1, h2]; rfl
  · exact h
theorem NdX.osl {h : AH} {N : V} {ns : List Dn} {u : Nat} {as : List (Nat × Nat)} (x : NdX h N ns u as) (hn : ns ≠ []) : N.isOsl = true := by
  rcases x.n with ⟨e, _, h1, _⟩ | ⟨c, e, _⟩
  · exact absurd h1 hn
  · rw [e]; rfl
theorem NdX.fr {h h' : AH} {os : List Nat} {N : V} {ns : List Dn} {u : Nat} {as : List (Nat × Nat)} (x : NdX h N ns u as) (f : FrO os h h') (hu : N.isOsl = true → u ∉ os) : NdX h' N ns u as := by
  refine ⟨?_, fun q => Nat.lt_of_lt_of_le (x.u q) f.nobj, x.e⟩
  rcases x.n with q | ⟨c, e, h1, h2, h3, h4, h5⟩
  · exact .inl q
  · have := f.objs u (x.u (by rw [e]; rfl)) (hu (by rw [e]; rfl))
    exact .inr ⟨c, e, h1, h2, by rw [this]; exact h3, h4, by rw [this]; exact h5⟩
theorem NdX.app {h : AH} {N : V} {ns : List Dn} {u : Nat} {as : List (Nat × Nat)} (x : NdX h N ns u as) (q : Int) (hn : ns.length < 2 ^ 30) :
    appgK 2 32 N (some (2, 1, [.int .i64 q, .sl 0 1 []])) h fun v h' => ∃ u' as' c, v = .osl 2 u' 0 (ns.length + 1) c ∧ NdX h' v (ns ++ [⟨q, []⟩]) u' as' ∧ (u' ∈ osN N u ∨ h.nobj ≤ u') ∧ FrO (osN N u) h h' := by
  have hlen := x.len
  have he : ∀ (as' : List (Nat × Nat)), as' = as ++ [(0, 1)] → ∀ i (h1 : i < (ns ++ [(⟨q, []⟩ : Dn)]).length) (h2 : i < as'.length), (ns ++ [(⟨q, []⟩ : Dn)])[i].at' = [] ∨ as'[i].1 = 1 := by
    rintro as' rfl i h1 h2
    by_cases c : i < ns.length
    · rw [List.getElem_append_left c, List.getElem_append_left (by omega)]
      exact x.e i c (by omega)
    · left
      rw [List.getElem_append_right (by omega)]
      have : i - ns.length = 0 := by simp at h1; omega
      simp [this]
  rcases x.n with ⟨e, rfl, hnil, has⟩ | ⟨cp, rfl, cne, cle, cl, la, ct⟩
  · subst hnil
    subst has
    refine ⟨by omega, rfl, .inl rfl, rfl, by omega, fun c hc => ⟨h.nobj, [(0, 1)], c, rfl, ⟨.inr ⟨c, rfl, by omega, by simpa using hc, ?_, rfl, ?_⟩, fun _ => by show h.nobj < h.nobj + 1; omega, he _ rfl⟩, .inr (Nat.le_refl _), (((Gr.refl h).new _).frO _)⟩⟩
    · rw [new_objs_same]; simp; omega
    · rw [new_objs_same]; simp [dnsC, dnC, ints]
  · have hu := x.u rfl
    have hdl := dnsC_len ns as la
    refine ⟨by omega, rfl, rfl, cne, by omega, by omega, fun hle => ⟨u, as ++ [(0, 1)], cp, rfl, ⟨.inr ⟨cp, by simp, cne, by simpa using hle, ?_, by simp [la], ?_⟩, fun _ => hu, he _ rfl⟩, .inl (by simp [osN, V.isOsl]), FrO.set (FrO.refl _ h) (by simp [osN, V.isOsl]) _⟩, fun hgt c hc => ⟨h.nobj, as ++ [(0, 1)], c, rfl, ⟨.inr ⟨c, by simp, by omega, by simpa using hc, ?_, by simp [la], ?_⟩, fun _ => by show h.nobj < h.nobj + 1; omega, he _ rfl⟩, .inr (Nat.le_refl _), (((Gr.refl h).new _).frO _)⟩⟩
    · rw [set_objs_same, setAt_length]; exact cl
    · have hcl : 0 + ns.length * 2 + [V.int .i64 q, V.sl 0 1 []].length ≤ (h.objs u).length := by simp; omega
      rw [set_objs_same, dnsC_snoc _ _ la, ← ct]
      refine List.ext_getElem? fun j => ?_
      rw [List.getElem?_take, List.getElem?_append, List.length_take]
      simp only [List.length_append, List.length_cons, List.length_nil]
      by_cases hq : j < (ns.length + (0 + 1)) * 2
      · rw [if_pos hq, setAt_getElem? _ _ _ _ hcl]
        by_cases hq2 : j < ns.length * 2
        · rw [if_neg (by omega), if_pos (by omega), List.getElem?_take, if_pos hq2]
        · rw [if_pos (by simp; omega), if_neg (by omega)]
          simp only [dnC, ints, List.map_nil]
          congr 1; omega
      · rw [if_neg hq, if_neg (by omega), List.getElem?_eq_none (by simp [dnC]; omega)]
    · rw [new_objs_same]
      simp; omega
    · have htk : ((h.objs u).drop 0).take (ns.length * 2) = dnsC ns as := by rw [List.drop_zero]; exact ct
      rw [new_objs_same, htk, dnsC_snoc _ _ la]
      rw [List.take_append_of_le_length (by simp [hdl]; omega), List.take_of_length_le (by simp [hdl]; omega)]
      rfl
/-- The places of a node are laid. -/
theorem NdX.put {h : AH} {N : V} {ns : List Dn} {u : Nat} {as : List (Nat × Nat)} (x : NdX h N ns u as) {n : Nat} (hn : n < ns.length) (st : Nat) (at' : List Int) :
    NdX (h.set u (setAt (h.objs u) (n * 2 + 1) [.sl 1 st (ints at')])) N (ns.set n ⟨ns[n].prod, at'⟩) u (as.set n (1, st)) := by
  have hlen := x.len
  refine ⟨?_, x.u, fun i h1 h2 => ?_⟩
  · rcases x.n with ⟨e, _, hnil, _⟩ | ⟨cp, rfl, cne, cle, cl, la, ct⟩
    · subst hnil; simp at hn
    · have hdl := dnsC_len ns as la
      have hcl : n * 2 + 1 + [V.sl 1 st (ints at')].length ≤ (h.objs u).length := by simp; omega
      refine .inr ⟨cp, by simp, cne, by simpa using cle, by rw [set_objs_same, setAt_length]; exact cl, by simpa using la, ?_⟩
      rw [set_objs_same, ← dnsC_set ns as la n hn ⟨ns[n].prod, at'⟩ (1, st) rfl, ← ct]
      refine List.ext_getElem? fun j => ?_
      rw [List.getElem?_take, setAt_getElem? _ _ _ _ hcl, List.getElem?_set, List.length_take, List.getElem?_take]
      simp only [List.length_set, List.length_cons, List.length_nil]
      by_cases c : j = n * 2 + 1
      · subst c
        rw [if_pos (by omega), if_pos (by omega), if_pos rfl, if_pos (by omega)]; simp
      · by_cases hj : j < ns.length * 2
        · simp only [hj, ↓reduceIte]
          rw [if_neg (by omega), if_neg (fun e => c e.symm)]
        · simp only [hj, ↓reduceIte]
          rw [if_neg (fun e => c e.symm)]
  · rw [List.length_set] at h1 h2
    rw [List.getElem_set, List.getElem_set]
    split
    · exact .inr rfl
    · exact x.e i h1 h2
theorem FrO.push {os : List Nat} {a b : AH} (f : FrO os a b) {st : Nat} (hs : st ≤ 2 ∨ a.next ≤ st) (e : Nat) : FrO os a (b.push st e) := by
  refine ⟨by rw [push_next]; have := f.next; omega, by rw [push_nobj]; exact f.nobj, fun o ho hn => by rw [push_objs]; exact f.objs o ho hn, fun s hs' => ?_⟩
  have hne : s ≠ b.next := by have := f.next; omega
  rw [← f.tips s hs']
  unfold AH.push
  split
  · exact updN_ne _ _ hne
  · have e1 : ((b.drop st).grow e).tips s = (b.drop st).tips s := updN_ne _ _ hne
    rw [e1]; exact updN_ne _ _ (by omega)
theorem FrO.comp {os os2 : List Nat} {a b c : AH} (x : FrO os a b) (y : FrO os2 b c) (h : ∀ o ∈ os2, o ∈ os ∨ a.nobj ≤ o) : FrO os a c :=
  ⟨Nat.le_trans x.next y.next, Nat.le_trans x.nobj y.nobj, fun o ho hn => (y.objs o (Nat.lt_of_lt_of_le ho x.nobj) (fun q => by rcases h o q with q | q; exact hn q; omega)).trans (x.objs o ho hn), fun s hs => (y.tips s (Nat.lt_of_lt_of_le hs x.next)).trans (x.tips s hs)⟩
theorem OwnS.frO {os : List Nat} {h0 h h2 : AH} {e st : Nat} {l : List Int} (o : OwnS h0 h e st l) (f : FrO os h h2) : OwnS h0 h2 e st l := by
  refine ⟨o.1, ?_⟩
  rcases o.2 with h1 | h1 | ⟨h1, h2, h3⟩
  · exact .inl h1
  · exact .inr (.inl h1)
  · exact .inr (.inr ⟨(f.tips _ h3).trans h1, h2, Nat.lt_of_lt_of_le h3 f.next⟩)
/-- An append to a slice of numbers that this call has made. -/
theorem OwnS.app {os : List Nat} {h0 h : AH} {e st : Nat} {l : List Int} (o : OwnS h0 h e st l) (f : FrO os h0 h) (x : Int) (hb : l.length < 2 ^ 40) {K : V → AH → Prop} {zK : Lz K}
    (hk : ∀ st' h', OwnS h0 h' 1 st' (l ++ [x]) → FrO os h0 h' → h'.objs = h.objs → h'.nobj = h.nobj → K (.sl 1 st' (ints (l ++ [x]))) h') : App h 1 8 e st (ints l) 1 [.int .i64 x] zK := by
  have em : ints l ++ [V.int .i64 x] = ints (l ++ [x]) := by simp [ints]
  refine ⟨fun h1 => (by cases h1), fun _ => ⟨?_, o.1.imp (fun q => by rw [q]; rfl) id, rfl, by simp [ints]; omega, ?_⟩⟩
  · exact o.2.imp id (Or.imp id fun q => q.1)
  · have := hk h.next (h.push st 1) ⟨.inr rfl, .inr (.inr ⟨push_new h st 1, f.next, by rw [push_next]; omega⟩)⟩ (f.push o.st_push 1) (push_objs _ _ _) (push_nobj _ _ _)
    rw [← em] at this; exact this
theorem NdX.same {h h' : AH} {N : V} {ns : List Dn} {u : Nat} {as : List (Nat × Nat)} (x : NdX h N ns u as) (o : h'.objs = h.objs) (n : h'.nobj = h.nobj) : NdX h' N ns u as := by
  refine ⟨?_, fun q => by rw [n]; exact x.u q, x.e⟩
  rcases x.n with q | ⟨c, e, q1, q2, q3, q4, q5⟩
  · exact .inl q
  · exact .inr ⟨c, e, q1, q2, by rw [o]; exact q3, q4, by rw [o]; exact q5⟩
end Go.Proofs.Ytajaoldljichaaa.Al
namespace Go.Proofs.Ytajaoldljichaaa.Al
open Go Go.RowKit
set_option linter.unusedSimpArgs false
set_option linter.unusedVariables false
attribute [-simp] List.getD_eq_getElem?_getD Int.not_lt Int.not_le List.map_take
theorem NdX.get {h : AH} {N : V} {ns : List Dn} {u : Nat} {as : List (Nat × Nat)} (x : NdX h N ns u as) {i : Nat} (hi : i < ns.length) (ha : ns[i].at' ≠ []) :
    ∃ c st, N = .osl 2 u 0 ns.length c ∧ i * 2 + 2 ≤ (h.objs u).length ∧ (h.objs u).getD (i * 2) .undef = .int .i64 ns[i].prod ∧ (h.objs u).getD (i * 2 + 1) .undef = .sl 1 st (ints ns[i].at') := by
  rcases x.n with ⟨e, _, h1, _⟩ | ⟨c, e, q1, q2, q3, q4, q5⟩
  · subst h1; simp at hi
  · obtain ⟨d1, d2⟩ := dnsC_get ns as q4 i hi (by omega)
    rw [← q5, List.getElem?_take, if_pos (by omega)] at d1 d2
    have e1 : as[i].1 = 1 := by
      rcases x.e i hi (by omega) with z | z
      · exact absurd z ha
      · exact z
    refine ⟨c, as[i].2, e, by omega, ?_, ?_⟩
    · rw [List.getD_eq_getElem?_getD, d1]; rfl
    · rw [List.getD_eq_getElem?_getD, d2, e1]; rfl
end Go.Proofs.Ytajaoldljichaaa.Al
namespace Go.Proofs.Ytajaoldljichaaa.Al
def A.probatelaw09_Large.L0 : AC := .post (.seq (.reg [⟨(some 13), none, .bin .lss (.t 12) (.t 11)⟩])
  (.keep [10, 11, 12, 13] (.seq (.cond (.t 13) .skip (.exit 0))
  (.keep [10, 11, 12] (.seq (.block 1 (.seq (.reg [⟨(some 14), none, .ia 2 (.t 10) (.t 12)⟩, ⟨(some 15), none, .load true 2 (.t 14)⟩, ⟨(some 4), none, .alloc [(.int .i64 (0)), (.sl 0 1 [])]⟩, ⟨none, none, .store 2 (.t 4) (.t 15)⟩])
  (.keep [4, 10, 11, 12] (.seq (.reg [⟨(some 16), none, .fa 1 (.t 4)⟩, ⟨(some 17), none, .load false 1 (.t 16)⟩, ⟨(some 18), none, .len false (.t 17)⟩, ⟨(some 19), none, .bin .gtr (.t 18) (.c (.int .i64 (20)))⟩])
  (.keep [10, 11, 12, 19] (.cond (.t 19) (.seq (.reg [⟨(some 2), none, .mv (.c (.bool true))⟩]) .ret) .skip))))))
  (.keep [10, 11, 12] (.reg [⟨(some 20), none, .bin .add (.t 12) (.c (.int .i64 (1)))⟩, ⟨(some 12), none, .mv (.t 20)⟩]))))))) [10, 11, 12]
def A.probatelaw09_Large : AFn := ⟨21, [(2, none)], (.seq (.reg [⟨(some 1), none, .box (.t 0)⟩, ⟨(some 2), none, .mv (.c (.bool false))⟩])
  (.keep [1] (.seq (.seq (.reg [⟨(some 5), none, .fa 3 (.t 1)⟩, ⟨(some 6), none, .load false 1 (.t 5)⟩, ⟨(some 7), none, .len false (.t 6)⟩, ⟨(some 8), none, .bin .gtr (.t 7) (.c (.int .i64 (100)))⟩])
  (.keep [1, 8] (.cond (.t 8) (.seq (.reg [⟨(some 2), none, .mv (.c (.bool true))⟩]) .ret) .skip)))
  (.keep [1] (.seq (.seq (.reg [⟨(some 9), none, .fa 3 (.t 1)⟩, ⟨(some 10), none, .load false 1 (.t 9)⟩, ⟨(some 11), none, .len false (.t 10)⟩, ⟨(some 12), none, .mv (.c (.int .i64 (0)))⟩])
  (.keep [10, 11, 12] (.block 0 (.loop A.probatelaw09_Large.L0))))
  (.keep [] (.seq (.reg [⟨(some 2), none, .mv (.c (.bool false))⟩]) .ret)))))))⟩
end Go.Proofs.Ytajaoldljichaaa.Al
namespace Go.Proofs.Ytajaoldljichaaa.Al
def A.probatelaw17_Large : AFn := ⟨28, [(4, none)], (.seq (.reg [⟨(some 2), none, .box (.t 0)⟩, ⟨(some 4), none, .mv (.c (.bool false))⟩])
  (.keep [1, 2] (.seq (.reg [⟨(some 5), none, .load true 4 (.t 2)⟩, ⟨(some 6), none, .call (.c (.fn K.probatelaw09_Large [] [])) [(.t 5)]⟩, ⟨(some 7), none, .mv (.t 6)⟩, ⟨(some 8), (some (7, false)), .fa 3 (.t 2)⟩, ⟨(some 9), (some (7, false)), .load false 1 (.t 8)⟩, ⟨(some 10), (some (7, false)), .len false (.t 9)⟩, ⟨(some 11), (some (7, false)), .bin .gtr (.t 10) (.c (.int .i64 (20)))⟩, ⟨(some 12), none, .pick (.t 7) (.c (.bool true)) (.t 11)⟩, ⟨(some 13), none, .mv (.t 12)⟩, ⟨(some 14), (some (13, false)), .mv (.t 1)⟩, ⟨(some 15), (some (13, false)), .len false (.t 14)⟩, ⟨(some 16), (some (13, false)), .bin .gtr (.t 15) (.c (.int .i64 (8)))⟩, ⟨(some 17), (some (13, false)), .mv (.t 16)⟩, ⟨(some 18), (some (17, true)), .mv (.t 1)⟩, ⟨(some 19), (some (17, true)), .len false (.t 18)⟩, ⟨(some 20), (some (17, true)), .bin .leq (.t 19) (.c (.int .i64 (24)))⟩, ⟨(some 21), (some (13, false)), .pick (.t 17) (.t 20) (.c (.bool false))⟩, ⟨(some 22), none, .pick (.t 13) (.c (.bool true)) (.t 21)⟩, ⟨(some 23), none, .mv (.t 22)⟩, ⟨(some 24), (some (23, false)), .mv (.t 1)⟩, ⟨(some 25), (some (23, false)), .len false (.t 24)⟩, ⟨(some 26), (some (23, false)), .bin .gtr (.t 25) (.c (.int .i64 (40)))⟩, ⟨(some 27), none, .pick (.t 23) (.c (.bool true)) (.t 26)⟩, ⟨(some 4), none, .mv (.t 27)⟩]) .ret)))⟩
end Go.Proofs.Ytajaoldljichaaa.Al
namespace Go.Proofs.Ytajaoldljichaaa.Al
open Go Go.RowKit
set_option linter.unusedSimpArgs false
set_option linter.unusedVariables false
attribute [-simp] List.getD_eq_getElem?_getD Int.not_lt Int.not_le List.map_take
def large9 (g : Gm) : Bool := decide ((100 : Int) < g.prods.length) || g.prods.any fun p => decide ((20 : Int) < p.right.length)
def large17 (g : Gm) (w : List Int) : Bool := large9 g || decide ((20 : Int) < g.prods.length) || (decide ((8 : Int) < w.length) && decide ((w.length : Int) ≤ 24)) || decide ((40 : Int) < w.length)
def large19 (ss : List (List It)) : Bool := decide ((30 : Int) < ss.length) || ss.any fun l => decide ((200 : Int) < l.length)
structure LLw (X : Cx) : Prop where
  l9 : Has (Ecx X) K.probatelaw09_Large A.probatelaw09_Large
  l17 : Has (Ecx X) K.probatelaw17_Large A.probatelaw17_Large
  l19 : Has (Ecx X) K.probatelaw19_large A.probatelaw19_large
section
variable {X : Cx} {h : AH} {Q : V → AH → Prop}
theorem large19_spec (L : LLw X) (ss : List (List It)) (hQ : Q (.bool (large19 ss)) h) : Ecx X K.probatelaw19_large [.sl 1 0 (ss.map setV)] h Q := by
  refine fn_walk L.l19 (by simp [A.probatelaw19_large]) fun wf => ?_
  by_cases c1 : (30 : Int) < ss.length
  · have : large19 ss = true := by simp [large19, c1]
    rw [this] at hQ
    simp [A.probatelaw19_large, c1]
    exact fin (by simp) hQ
  · have e1 : large19 ss = ss.any fun l => decide ((200 : Int) < l.length) := by simp [large19, c1]
    rw [e1] at hQ
    simp [A.probatelaw19_large, c1]
    refine loopI (n := ss.length) (fun m env h' => ∃ k, k ≤ ss.length ∧ m = ss.length - k ∧ h' = h ∧ env = [(8, .sl 1 0 (ss.map setV)), (9, .int .i64 ss.length), (10, .int .i64 k)] ∧ (ss.take k).any (fun l => decide ((200 : Int) < l.length)) = false) ?_ ⟨0, by omega, by omega, rfl, by simp, by simp⟩
    rintro m env h' ⟨k, hk, rfl, rfl, rfl, he⟩
    unfold A.probatelaw19_large.L0
    by_cases hlt : k < ss.length
    · have hlt' : (k : Int) < ss.length := by omega
      have hg : (ss.map setV).getD k .undef = .sl 3 0 (ss[k].map itV) := by rw [Enc.getD hlt]; rfl
      have hw1 : IntKind.i64.wrap ((k : Int) + 1) = ((k + 1 : Nat) : Int) := by rw [wrap_i64 (by omega) (by omega)]; rfl
      have htk : ss.take (k + 1) = ss.take k ++ [ss[k]] := List.take_succ_eq_append_getElem hlt
      have hmem := List.getElem_mem hlt
      generalize ss[k] = y at *
      by_cases c : (200 : Int) < y.length
      · have e2 : (ss.any fun l => decide ((200 : Int) < l.length)) = true := List.any_eq_true.2 ⟨y, hmem, by simpa using c⟩
        rw [e2] at hQ
        simp [hlt', hg, V.cells, c]
        exact fin (by simp) hQ
      · simp [hlt', hg, V.cells, c, hw1]
        exact ⟨ss.length - (k + 1), by omega, iv ⟨k + 1, by omega, rfl, rfl, by simp, by rw [htk, List.any_append, he]; simp; omega⟩⟩
    · have hlt' : ¬ (k : Int) < ss.length := by omega
      obtain rfl : k = ss.length := by omega
      rw [List.take_length] at he
      rw [he] at hQ
      simp [hlt']
      exact fin (by simp) hQ
theorem large9_spec (L : LLw X) (g : Gm) (hQ : Q (.bool (large9 g)) h) : Ecx X K.probatelaw09_Large [gmV g] h Q := by
  refine fn_walk L.l9 (by simp [A.probatelaw09_Large]) fun wf => ?_
  have gr1 := (Gr.refl h).new (gmC g)
  have gd : (gmC g).length = 4 ∧ (gmC g).getD 3 .undef = .sl 2 0 (g.prods.map prV) := ⟨rfl, rfl⟩
  by_cases c1 : (100 : Int) < g.prods.length
  · have : large9 g = true := by simp [large9, c1]
    rw [this] at hQ
    simp [A.probatelaw09_Large, c1, gmV, V.cells, V.good, gd]
    exact fin_wk gr1 (.same _) (by simp) hQ
  · have e1 : large9 g = g.prods.any fun p => decide ((20 : Int) < p.right.length) := by simp [large9, c1]
    rw [e1] at hQ
    simp [A.probatelaw09_Large, c1, gmV, V.cells, V.good, gd]
    refine loopI (n := g.prods.length) (fun m env h' => ∃ k, k ≤ g.prods.length ∧ m = g.prods.length - k ∧ Gr h h' ∧ env = [(10, .sl 2 0 (g.prods.map prV)), (11, .int .i64 g.prods.length), (12, .int .i64 k)] ∧ (g.prods.take k).any (fun p => decide ((20 : Int) < p.right.length)) = false) ?_ ⟨0, by omega, by omega, gr1, by simp, by simp⟩
    rintro m env h' ⟨k, hk, rfl, gr, rfl, he⟩
    unfold A.probatelaw09_Large.L0
    by_cases hlt : k < g.prods.length
    · have hlt' : (k : Int) < g.prods.length := by omega
      have hg : (g.prods.map prV).getD k .undef = prV g.prods[k] := Enc.getD hlt
      have hw1 : IntKind.i64.wrap ((k : Int) + 1) = ((k + 1 : Nat) : Int) := by rw [wrap_i64 (by omega) (by omega)]; rfl
      have htk : g.prods.take (k + 1) = g.prods.take k ++ [g.prods[k]] := List.take_succ_eq_append_getElem hlt
      have hmem := List.getElem_mem hlt
      generalize g.prods[k] = y at *
      by_cases c : (20 : Int) < y.right.length
      · have e2 : (g.prods.any fun p => decide ((20 : Int) < p.right.length)) = true := List.any_eq_true.2 ⟨y, hmem, by simpa using c⟩
        rw [e2] at hQ
        simp [hlt', hg, V.cells, V.good, c, prV, prC, setAt]
        exact fin_wk (gr.new _) (.same _) (by simp) hQ
      · simp [hlt', hg, V.cells, V.good, c, hw1, prV, prC, setAt]
        exact ⟨g.prods.length - (k + 1), by omega, iv ⟨k + 1, by omega, rfl, gr.new _, by simp, by rw [htk, List.any_append, he]; simp; omega⟩⟩
    · have hlt' : ¬ (k : Int) < g.prods.length := by omega
      obtain rfl : k = g.prods.length := by omega
      rw [List.take_length] at he
      rw [he] at hQ
      simp [hlt']
      exact fin_wk gr (.same _) (by simp) hQ
theorem large17_spec (L : LLw X) (g : Gm) (w : List Int) (hQ : Q (.bool (large17 g w)) h) : Ecx X K.probatelaw17_Large [gmV g, .sl 1 0 (ints w)] h Q := by
  refine fn_walk L.l17 (by simp [A.probatelaw17_Large]) fun wf => ?_
  have gr1 := (Gr.refl h).new (gmC g)
  have gd : (gmC g).length = 4 ∧ (gmC g).take 4 = gmC g ∧ (gmC g).getD 3 .undef = .sl 2 0 (g.prods.map prV) := ⟨rfl, rfl, rfl⟩
  simp [A.probatelaw17_Large, gmV, V.cells, V.good, gd]
  refine ecall (large9_spec L g ?_)
  have e : large17 g w = (large9 g || decide ((20 : Int) < g.prods.length) || (decide ((8 : Int) < w.length) && decide ((w.length : Int) ≤ 24)) || decide ((40 : Int) < w.length)) := rfl
  generalize large17 g w = r at *
  generalize large9 g = b9 at *
  cases b9 <;> by_cases c1 : (20 : Int) < g.prods.length <;> by_cases c2 : (8 : Int) < w.length <;> by_cases c3 : (w.length : Int) ≤ 24 <;> by_cases c4 : (40 : Int) < w.length <;> simp [c1, c2, c3, c4] at e <;> subst e <;> simp [c1, c2, c3, c4, gd] <;> exact fin_wk gr1 (.same _) (by simp) hQ
end
end Go.Proofs.Ytajaoldljichaaa.Al
namespace Go.Proofs.Ytajaoldljichaaa.Al
open Go Go.RowKit
set_option linter.unusedSimpArgs false
set_option linter.unusedVariables false
attribute [-simp] List.getD_eq_getElem?_getD Int.not_lt Int.not_le List.map_take
def gA : Gm := ⟨1, 1, 0, [⟨0, [⟨false, 0⟩]⟩]⟩
def iA : It := ⟨0, 0, 0⟩
def iB : It := ⟨0, 1, 0⟩
theorem WkL.agg {l m : List V} (w : WkL l m) : Wk (.agg l) (.agg m) := .agg l m w.get.1 w.get.2
theorem WkL.sl1 {st : Nat} {l m : List V} (w : WkL l m) (hl : cellsOf l = l) (hm : cellsOf m = m) (hc : ∀ v ∈ m, v.cells.length = 1) : Wk (.sl 1 st l) (.sl 1 0 m) :=
  .sld 1 st l m w.get.1 hc (by rw [hl, hm]; exact w.get.1) (fun i h1 h2 => by simp only [hl, hm]; exact w.get.2 i (by rw [hl] at h1; exact h1) (by rw [hm] at h2; exact h2))
theorem wkG : Wk (.agg [.int .i64 1, .int .i64 1, .int .i64 0, .sl 2 2 [.agg [.int .i64 0, .sl 2 2 [.agg [.bool false, .int .i64 0]]]]]) (gmV gA) :=
  WkL.agg (.cons (.same _) (.cons (.same _) (.cons (.same _) (.cons (WkE.sl (.cons (.cons (.same _) (.cons (.sl 2 2 _) .nil)) .nil) (show ∀ v ∈ gA.prods.map prV, v.cells.length = 2 from by intro v hv; simp [gA] at hv; subst hv; rfl)) .nil))))
theorem wkAB : Wk (.sl 1 2 [.sl 3 2 [.agg [.int .i64 0, .int .i64 0, .int .i64 0]], .sl 3 2 [.agg [.int .i64 0, .int .i64 1, .int .i64 0]]]) (.sl 1 0 ([[iA], [iB]].map setV)) :=
  WkL.sl1 (.cons (.sl 3 2 _) (.cons (.sl 3 2 _) .nil)) rfl rfl (by intro v hv; simp at hv; rcases hv with rfl | rfl <;> rfl)
theorem wkA : ∀ st, Wk (.sl 1 st [.sl 3 2 [.agg [.int .i64 0, .int .i64 0, .int .i64 0]]]) (.sl 1 0 ([[iA]].map setV)) := fun st =>
  WkL.sl1 (.cons (.sl 3 2 _) .nil) rfl rfl (by intro v hv; simp at hv; subst hv; rfl)
theorem wkA0 : Wk (.sl 1 2 [.sl 3 2 [.agg [.int .i64 0, .int .i64 0, .int .i64 0]], .sl 0 1 []]) (.sl 1 0 ([[iA], []].map setV)) :=
  WkL.sl1 (.cons (.sl 3 2 _) (.cons (.nil 0 3 1) .nil)) rfl rfl (by intro v hv; simp at hv; rcases hv with rfl | rfl <;> rfl)
theorem inS_set {ss : List (List It)} {k : Pk} : InS ss k ↔ 0 ≤ k.2 ∧ k.1 ∈ setA ss k.2 := by
  constructor
  · rintro ⟨i, hi, e, h⟩
    refine ⟨by omega, ?_⟩
    rw [e]; simp [setA, List.getD_eq_getElem?_getD, hi, h]
  · rintro ⟨h0, h⟩
    by_cases c : k.2.toNat < ss.length
    · refine ⟨k.2.toNat, c, by omega, ?_⟩
      simpa [setA, List.getD_eq_getElem?_getD, c] using h
    · rw [setA, List.getD_eq_getElem?_getD, List.getElem?_eq_none (by omega)] at h
      simp at h
instance (ss : List (List It)) (k : Pk) : Decidable (InS ss k) := decidable_of_iff _ inS_set.symm
instance (g : Gm) (ss : List (List It)) : Decidable (MayS g ss) := by unfold MayS; infer_instance
instance (g : Gm) (w : List Int) (ss : List (List It)) : Decidable (LookOk g w ss) := by unfold LookOk; infer_instance
instance (g : Gm) (w : List Int) (ss : List (List It)) : Decidable (ClosedP g w ss) := by unfold ClosedP; infer_instance
theorem aw1 : LookOk gA [0] [[iA], [iB]] ∧ ClosedP gA [0] [[iA], [iB]] := by decide
theorem aw2 : ¬ (LookOk gA [0] [[iA], []] ∧ ClosedP gA [0] [[iA], []]) := by decide
theorem aw3 : LookOk gA [0] [[iA]] ∧ ClosedP gA [0] [[iA]] := by decide
theorem aw4 : ¬ (LookOk gA [] [[iA], [iB]] ∧ ClosedP gA [] [[iA], [iB]]) := by decide
theorem aw5 : AloneP gA [0] [[iA], [iB]] [0] := by
  refine ⟨aw1.1, rfl, aw1.2, ⟨[], [0], [⟨0, [0, 1]⟩]⟩, ⟨by decide, by decide, by rfl⟩, rfl, fun d hd => ?_⟩
  simp at hd
  subst hd
  rintro (⟨q, hq, h1, _⟩ | ⟨k, hk, m, h1, h2, h3, h4, _⟩)
  · have e : ofG gA (prG gA 0).left = [0] := by decide
    rw [show (prG gA (Dn.mk 0 [0, 1]).prod).left = (prG gA 0).left from rfl, e] at hq
    simp at hq
    exact h1 hq
  · have hk' : k = 0 := by
      have : k < 1 := hk
      omega
    subst hk'
    have a1 : (0 : Int) ≤ m := h1
    have a2 : m ≤ (1 : Int) := h2
    have a3 : m ≠ (0 : Int) := h3
    obtain rfl : m = 1 := by omega
    revert h4
    decide
theorem aw6 : ¬ AloneP gA [0] [[iA], [iB]] [] := by
  rintro ⟨_, _, _, s, ⟨_, _, h⟩, _⟩
  have : replayR gA [] = none := by rfl
  rw [this] at h; cases h
theorem aw7 : ¬ AloneP gA [0] [[iA]] [0] := fun h => absurd h.2.1 (by decide)
section
variable {X : Cx} {h : AH} {Q : V → AH → Prop} {f : Nat}
theorem awake19_spec (L : LCl2 X f) (H : Has (Ecx X) K.probatelaw19_awake A.probatelaw19_awake) (hQ : Q (.bool true) h) : Ecx X K.probatelaw19_awake [] h Q := by
  refine fn_walk H (by simp [A.probatelaw19_awake]) fun wf => ?_
  simp [A.probatelaw19_awake, fillV, fillL, setAt, V.cells, V.good, V.isAgg]
  have zA : ∀ ss : List (List It), ss.length < 2 ^ 30 → (∀ l ∈ ss, l.length < 2 ^ 30) → SzG gA ss := fun ss a b => ⟨by decide, by decide, a, b⟩
  have k0 : ints [0] = [V.int .i64 0] := rfl
  refine dcall (.bool true) (Ecx.wkL (.cons wkG (.cons (.sl 1 2 _) (.cons wkAB .nil))) (closed_spec L.cl (w := [0]) (zA _ (by decide) (by decide)) (by decide) ⟨by rw [bP_t aw1], rfl⟩)) ?_
  simp
  refine dcall (.bool false) (Ecx.wkL (.cons wkG (.cons (.sl 1 2 _) (.cons wkA0 .nil))) (closed_spec L.cl (w := [0]) (zA _ (by decide) (by decide)) (by decide) ⟨by rw [bP_f aw2], rfl⟩)) ?_
  simp
  refine dcall (.bool true) (Ecx.wkL (.cons wkG (.cons (.sl 1 2 _) (.cons (wkA _) .nil))) (closed_spec L.cl (w := [0]) (zA _ (by decide) (by decide)) (by decide) ⟨by rw [bP_t aw3], rfl⟩)) ?_
  simp
  refine dcall (.bool false) (Ecx.wkL (.cons wkG (.cons (.nil _ 1 _) (.cons wkAB .nil))) (closed_spec L.cl (w := []) (zA _ (by decide) (by decide)) (by decide) ⟨by rw [bP_f aw4], rfl⟩)) ?_
  simp
  refine dcall (.bool true) (Ecx.wkL (.cons wkG (.cons (.sl 1 2 _) (.cons wkAB (.cons (.sl 1 2 _) .nil)))) (alone_spec L (w := [0]) (l := [0]) (zA _ (by decide) (by decide)) (by decide) (by decide) ⟨by rw [bP_t aw5], rfl⟩)) ?_
  simp
  refine dcall (.bool false) (Ecx.wkL (.cons wkG (.cons (.sl 1 2 _) (.cons wkAB (.cons (.nil _ 1 _) .nil)))) (alone_spec L (w := [0]) (l := []) (zA _ (by decide) (by decide)) (by decide) (by decide) ⟨by rw [bP_f aw6], rfl⟩)) ?_
  simp
  refine dcall (.bool false) (Ecx.wkL (.cons wkG (.cons (.sl 1 2 _) (.cons (wkA _) (.cons (.sl 1 2 _) .nil)))) (alone_spec L (w := [0]) (l := [0]) (zA _ (by decide) (by decide)) (by decide) (by decide) ⟨by rw [bP_f aw7], rfl⟩)) ?_
  simp
  exact fin_wk ((Gr.refl h).new _) (.same _) (by simp) hQ
end
end Go.Proofs.Ytajaoldljichaaa.Al
namespace Go.Proofs.Ytajaoldljichaaa.Al
open Go Go.RowKit
set_option linter.unusedSimpArgs false
set_option linter.unusedVariables false
/-- Symbols come to a part of a word. -/
inductive Dv (g : Gm) (w : List Int) : List Sy → Nat → Nat → Prop
  | nil (a : Nat) (h : a ≤ w.length) : Dv g w [] a a
  | tok (s : Sy) (r : List Sy) (a b : Nat) (hn : s.non = false) (ha : a < w.length) (he : w[a] = s.n) (h : Dv g w r (a + 1) b) : Dv g w (s :: r) a b
  | non (s : Sy) (r : List Sy) (p : Pr) (a m b : Nat) (hn : s.non = true) (hp : p ∈ g.prods) (hl : p.left = s.n) (h1 : Dv g w p.right a m) (h2 : Dv g w r m b) : Dv g w (s :: r) a b
theorem Dv.le {g : Gm} {w : List Int} {ss : List Sy} {a b : Nat} (d : Dv g w ss a b) : a ≤ b ∧ b ≤ w.length := by
  induction d with
  | nil a h => exact ⟨Nat.le_refl _, h⟩
  | tok s r a b hn ha he h ih => exact ⟨by omega, ih.2⟩
  | non s r p a m b hn hp hl h1 h2 ih1 ih2 => exact ⟨by omega, ih2.2⟩
theorem Dv.app {g : Gm} {w : List Int} {ss rs : List Sy} {a b c : Nat} (d : Dv g w ss a b) (e : Dv g w rs b c) : Dv g w (ss ++ rs) a c := by
  induction d with
  | nil a h => exact e
  | tok s r a b hn ha he h ih => exact .tok _ _ _ _ hn ha he (ih e)
  | non s r p a m b hn hp hl h1 h2 ih1 ih2 => exact .non _ _ p _ _ _ hn hp hl h1 (ih2 e)
theorem Dv.split {g : Gm} {w : List Int} {rs : List Sy} {c : Nat} : ∀ {ss : List Sy} {a : Nat}, Dv g w (ss ++ rs) a c → ∃ b, Dv g w ss a b ∧ Dv g w rs b c
  | [], a, d => ⟨a, .nil a (by have := d.le; omega), d⟩
  | s :: ss, a, d => by
    cases d with
    | tok _ _ _ _ hn ha he h =>
      obtain ⟨b, x, y⟩ := Dv.split h
      exact ⟨b, .tok _ _ _ _ hn ha he x, y⟩
    | non _ _ p _ m _ hn hp hl h1 h2 =>
      obtain ⟨b, x, y⟩ := Dv.split h2
      exact ⟨b, .non _ _ p _ _ _ hn hp hl h1 x, y⟩
/-- One nonterminal. -/
def DvN (g : Gm) (w : List Int) (n : Int) (a b : Nat) : Prop := Dv g w [⟨true, n⟩] a b
theorem DvN.iff {g : Gm} {w : List Int} {n : Int} {a b : Nat} : DvN g w n a b ↔ ∃ p ∈ g.prods, p.left = n ∧ Dv g w p.right a b := by
  constructor
  · intro d
    cases d with
    | tok _ _ _ _ hn => cases hn
    | non _ _ p _ m _ hn hp hl h1 h2 => cases h2; exact ⟨p, hp, hl, h1⟩
  · rintro ⟨p, hp, hl, h⟩
    exact .non _ _ p _ b _ rfl hp hl h (.nil _ h.le.2)
theorem Dv.cons_non {g : Gm} {w : List Int} {s : Sy} {r : List Sy} {a b : Nat} (hn : s.non = true) : Dv g w (s :: r) a b ↔ ∃ m, DvN g w s.n a m ∧ Dv g w r m b := by
  obtain ⟨non, n⟩ := s
  cases hn
  constructor
  · intro d
    cases d with
    | tok _ _ _ _ hn => cases hn
    | non _ _ p _ m _ hn hp hl h1 h2 => exact ⟨m, DvN.iff.2 ⟨p, hp, hl, h1⟩, h2⟩
  · rintro ⟨m, h1, h2⟩
    obtain ⟨p, hp, hl, h⟩ := DvN.iff.1 h1
    exact .non _ _ p _ m _ rfl hp hl h h2
theorem Dv.cons_tok {g : Gm} {w : List Int} {s : Sy} {r : List Sy} {a b : Nat} (hn : s.non = false) : Dv g w (s :: r) a b ↔ ∃ h : a < w.length, w[a] = s.n ∧ Dv g w r (a + 1) b := by
  constructor
  · intro d
    cases d with
    | tok _ _ _ _ _ ha he h => exact ⟨ha, he, h⟩
    | non _ _ p _ m _ hn' => rw [hn] at hn'; cases hn'
  · rintro ⟨ha, he, h⟩; exact .tok _ _ _ _ hn ha he h
/-! ### Rows -/
/-- Things mean parts, one behind the other (L: the last place). -/
def RowR (L : Nat) : List (Nat → Nat → Bool) → Nat → Nat → Prop
  | [], a, b => a = b
  | c :: cs, a, b => ∃ m, a ≤ m ∧ m ≤ L ∧ c a m = true ∧ RowR L cs m b
theorem RowR.le {L : Nat} : ∀ {cs : List (Nat → Nat → Bool)} {a b : Nat}, a ≤ L → RowR L cs a b → a ≤ b ∧ b ≤ L
  | [], a, b, h, e => by cases e; exact ⟨Nat.le_refl _, h⟩
  | c :: cs, a, b, h, ⟨m, h1, h2, _, h4⟩ => by have := RowR.le h2 h4; omega
def stepW (at' : Nat → Bool) (c : Nat → Nat → Bool) : Nat → Bool := fun b => (List.range (b + 1)).any fun a => at' a && c a b
def foldR (cs : List (Nat → Nat → Bool)) (at' : Nat → Bool) : Nat → Bool := cs.foldl stepW at'
theorem foldR_iff {L : Nat} : ∀ (cs : List (Nat → Nat → Bool)) (at' : Nat → Bool) (b : Nat), b ≤ L → (foldR cs at' b = true ↔ ∃ a, a ≤ L ∧ at' a = true ∧ RowR L cs a b)
  | [], at', b, hb => by
    simp only [foldR, List.foldl_nil, RowR]
    exact ⟨fun h => ⟨b, hb, h, rfl⟩, fun ⟨a, _, h, e⟩ => e ▸ h⟩
  | c :: cs, at', b, hb => by
    have ih := foldR_iff (L := L) cs (stepW at' c) b hb
    unfold foldR at ih ⊢
    rw [List.foldl_cons, ih]
    simp only [stepW, List.any_eq_true, Bool.and_eq_true, List.mem_range]
    constructor
    · rintro ⟨m, hm, ⟨a, ha, h1, h2⟩, h3⟩
      exact ⟨a, by omega, h1, m, by omega, hm, h2, h3⟩
    · rintro ⟨a, ha, h1, m, h2, h3, h4, h5⟩
      exact ⟨m, h3, ⟨a, by omega, h1, h4⟩, h5⟩
/-- A token's part. -/
def tokM (w : List Int) (t : Int) (a b : Nat) : Bool := decide (b = a + 1) && decide (w[a]? = some t)
/-- What a symbol means by a table. -/
def symC2 (w : List Int) (M : Nat → Nat → Nat → Bool) (s : Sy) : Nat → Nat → Bool := if s.non then M s.n.toNat else tokM w s.n
theorem row_sound {g : Gm} {w : List Int} {M : Nat → Nat → Nat → Bool} (hM : ∀ n a b, M n a b = true → DvN g w n a b) : ∀ (ss : List Sy) (a b : Nat), (∀ s ∈ ss, 0 ≤ s.n) → a ≤ w.length → RowR w.length (ss.map (symC2 w M)) a b → Dv g w ss a b
  | [], a, b, _, ha, h => by cases h; exact .nil _ ha
  | s :: ss, a, b, h0, ha, ⟨m, h1, h2, h3, h4⟩ => by
    have ih := row_sound hM ss m b (fun s hs => h0 s (by simp [hs])) h2 h4
    have hs0 := h0 s (by simp)
    unfold symC2 at h3
    by_cases hn : s.non = true
    · rw [if_pos hn] at h3
      have := hM _ _ _ h3
      rw [show ((s.n.toNat : Nat) : Int) = s.n by omega] at this
      exact (Dv.cons_non hn).2 ⟨m, this, ih⟩
    · rw [if_neg hn] at h3
      unfold tokM at h3
      simp only [Bool.and_eq_true, decide_eq_true_eq] at h3
      obtain ⟨rfl, e⟩ := h3
      obtain ⟨hlt, e⟩ := List.getElem?_eq_some_iff.1 e
      exact (Dv.cons_tok (by simpa using hn)).2 ⟨hlt, e, ih⟩
/-- A table that holds has all. -/
theorem row_complete {g : Gm} {w : List Int} {N : Nat} {M : Nat → Nat → Nat → Bool} (hp : ∀ p ∈ g.prods, 0 ≤ p.left ∧ p.left < N) (hc : ∀ p ∈ g.prods, ∀ a b, a ≤ w.length → RowR w.length (p.right.map (symC2 w M)) a b → M p.left.toNat a b = true) {ss : List Sy} {a b : Nat} (d : Dv g w ss a b) :
    RowR w.length (ss.map (symC2 w M)) a b := by
  induction d with
  | nil a h => rfl
  | tok s r a b hn ha he h ih =>
    refine ⟨a + 1, by omega, by omega, ?_, ih⟩
    unfold symC2 tokM
    rw [hn]
    simp [ha, he]
  | non s r p a m b hn hpm hl h1 h2 ih1 ih2 =>
    have l1 := h1.le
    have l2 := h2.le
    refine ⟨m, l1.1, l1.2, ?_, ih2⟩
    unfold symC2
    rw [if_pos hn, ← hl]
    exact hc p hpm a m (by omega) ih1
/-! ### How many are not there -/
def trips (N L : Nat) : List (Nat × Nat × Nat) := (List.range N).flatMap fun n => (List.range (L + 1)).flatMap fun a => (List.range (L + 1)).map fun b => (n, a, b)
theorem mem_trips {N L n a b : Nat} : (n, a, b) ∈ trips N L ↔ n < N ∧ a ≤ L ∧ b ≤ L := by
  simp only [trips, List.mem_flatMap, List.mem_range, List.mem_map, Prod.mk.injEq]
  constructor
  · rintro ⟨n', h1, a', h2, b', h3, rfl, rfl, rfl⟩; omega
  · rintro ⟨h1, h2, h3⟩; exact ⟨n, h1, a, by omega, b, by omega, rfl, rfl, rfl⟩
def falses (N L : Nat) (M : Nat → Nat → Nat → Bool) : Nat := (trips N L).countP fun t => !M t.1 t.2.1 t.2.2
def setM (M : Nat → Nat → Nat → Bool) (n a b : Nat) : Nat → Nat → Nat → Bool := fun n' a' b' => if n' = n ∧ a' = a ∧ b' = b then true else M n' a' b'
theorem countP_lt {α : Type} {p q : α → Bool} {x : α} : ∀ {l : List α}, (∀ y, q y = true → p y = true) → x ∈ l → p x = true → q x = false → l.countP q < l.countP p
  | [], _, hx, _, _ => by simp at hx
  | y :: l, h, hx, h1, h2 => by
    have hle : ∀ l : List α, l.countP q ≤ l.countP p := fun l => List.countP_mono_left (fun y _ => h y)
    rcases List.mem_cons.1 hx with rfl | hx
    · have := hle l
      simp [List.countP_cons, h1, h2]; omega
    · have ih := countP_lt h hx h1 h2
      simp only [List.countP_cons]
      have := h y
      cases hq : q y <;> cases hp : p y <;> simp_all
      omega
theorem falses_set {N L : Nat} {M : Nat → Nat → Nat → Bool} {n a b : Nat} (hn : n < N) (ha : a ≤ L) (hb : b ≤ L) (h : M n a b = false) : falses N L (setM M n a b) < falses N L M := by
  unfold falses
  refine countP_lt (x := (n, a, b)) (fun y hy => ?_) (mem_trips.2 ⟨hn, ha, hb⟩) (by simp [h]) (by simp [setM])
  simp only [setM] at hy
  split at hy
  · simp at hy
  · exact hy
end Go.Proofs.Ytajaoldljichaaa.Al
namespace Go.Proofs.Ytajaoldljichaaa.Al
open Go Go.RowKit
set_option linter.unusedSimpArgs false
set_option linter.unusedVariables false
theorem u32_bv {a : Nat} (ha : a < 2 ^ 32) : (BitVec.ofInt IntKind.u32.bits (a : Int)).toNat = a := by
  show (BitVec.ofInt 32 (a : Int)).toNat = a
  rw [BitVec.ofInt_natCast, BitVec.toNat_ofNat]
  exact Nat.mod_eq_of_lt ha
theorem or_u32 {a b : Nat} (ha : a < 2 ^ 32) (hb : b < 2 ^ 32) : bitOr .u32 (a : Int) (b : Int) = ((a ||| b : Nat) : Int) := by
  unfold bitOr
  rw [BitVec.toNat_or, u32_bv ha, u32_bv hb]
  have := Nat.or_lt_two_pow ha hb
  exact wrap_u32 (by omega) (by omega)
theorem and_u32 {a b : Nat} (ha : a < 2 ^ 32) (hb : b < 2 ^ 32) : bitAnd .u32 (a : Int) (b : Int) = ((a &&& b : Nat) : Int) := by
  unfold bitAnd
  rw [BitVec.toNat_and, u32_bv ha, u32_bv hb]
  have : a &&& b ≤ a := Nat.and_le_left
  exact wrap_u32 (by omega) (by omega)
theorem shl_u32 {x t : Nat} (h : x * 2 ^ t < 2 ^ 32) (ht : t < 32) : IntKind.u32.wrap ((x : Int) * 2 ^ (min ((t : Nat) : Int).toNat IntKind.u32.bits)) = ((x * 2 ^ t : Nat) : Int) := by
  have e : min ((t : Nat) : Int).toNat IntKind.u32.bits = t := by
    show min ((t : Nat) : Int).toNat 32 = t
    omega
  rw [e]
  have e2 : (x : Int) * 2 ^ t = ((x * 2 ^ t : Nat) : Int) := by push_cast; rfl
  rw [e2]
  exact wrap_u32 (by omega) (by omega)
theorem shl1_u32 {t : Nat} (ht : t < 32) : IntKind.u32.wrap (2 ^ (min t IntKind.u32.bits)) = ((2 ^ t : Nat) : Int) := by
  have := shl_u32 (x := 1) (t := t) (by rw [Nat.one_mul]; exact Nat.pow_lt_pow_right (by omega) ht) ht
  simpa using this
theorem shr_u32 {a t : Nat} (ht : t ≤ 32) : (a : Int).fdiv (2 ^ (min t IntKind.u32.bits)) = ((a >>> t : Nat) : Int) := by
  have e : min t IntKind.u32.bits = t := by
    show min t 32 = t
    omega
  rw [e, Nat.shiftRight_eq_div_pow]
  have e2 : (2 : Int) ^ t = ((2 ^ t : Nat) : Int) := by push_cast; rfl
  rw [e2, Int.fdiv_eq_ediv_of_nonneg _ (Int.natCast_nonneg _)]
  rfl
theorem shl1_u32' {t : Nat} (ht : t < 32) : IntKind.u32.wrap (2 ^ (min t 32)) = ((2 ^ t : Nat) : Int) := shl1_u32 ht
theorem shr_lt {a t : Nat} (ha : a < 2 ^ 32) : a >>> t < 2 ^ 32 := by
  rw [Nat.shiftRight_eq_div_pow]
  exact Nat.lt_of_le_of_lt (Nat.div_le_self _ _) ha
/-- A bit, asked. -/
theorem bit_u32 {a t : Nat} (ha : a < 2 ^ 32) : bitAnd .u32 ((a >>> t : Nat) : Int) 1 = if a.testBit t = true then 1 else 0 := by
  have := and_u32 (a := a >>> t) (b := 1) (shr_lt ha) (by decide)
  rw [show ((1 : Nat) : Int) = 1 from rfl] at this
  rw [this, Nat.and_one_is_mod]
  have e : a.testBit t = decide ((a >>> t) % 2 = 1) := by
    rw [Nat.testBit_eq_decide_div_mod_eq, Nat.shiftRight_eq_div_pow]
  rw [e]
  by_cases c : (a >>> t) % 2 = 1
  · simp [c]
  · have : (a >>> t) % 2 = 0 := by omega
    simp [c, this]
theorem bit_u32i {a t : Nat} (ha : a < 2 ^ 32) : bitAnd .u32 ((a : Int) >>> t) 1 = if a.testBit t = true then 1 else 0 := by
  rw [← bit_u32 ha]; rfl
theorem shr_u32i {a t : Nat} (ht : t ≤ 32) : (a : Int).fdiv (2 ^ (min t 32)) = (a : Int) >>> t := shr_u32 ht
theorem pow_lt32 {t : Nat} (ht : t < 32) : 2 ^ t < 2 ^ 32 := Nat.pow_lt_pow_right (by omega) ht
end Go.Proofs.Ytajaoldljichaaa.Al
namespace Go.Proofs.Ytajaoldljichaaa.Al
def A.chart_Next.L0 : AC := .post (.seq (.reg [⟨(some 16), none, .bin .lss (.t 15) (.t 14)⟩])
  (.keep [2, 5, 13, 14, 15, 16] (.seq (.cond (.t 16) .skip (.exit 0))
  (.keep [2, 5, 13, 14, 15] (.seq (.block 1 (.seq (.reg [⟨(some 17), none, .ia 3 (.t 13) (.t 15)⟩, ⟨(some 18), none, .load true 3 (.t 17)⟩, ⟨(some 7), none, .alloc [(.int .i64 (0)), (.int .i64 (0)), (.int .i64 (0))]⟩, ⟨none, none, .store 3 (.t 7) (.t 18)⟩])
  (.keep [2, 5, 7, 13, 14, 15] (.seq (.seq (.draw [(.pl, ⟨(some 19), none, .fa 0 (.t 7)⟩), (.pl, ⟨(some 20), none, .load false 1 (.t 19)⟩), (.pl, ⟨(some 21), none, .bin .lss (.t 20) (.c (.int .i64 (0)))⟩), (.pl, ⟨(some 22), none, .mv (.t 21)⟩), (.pl, ⟨(some 23), (some (22, false)), .fa 0 (.t 7)⟩), (.pl, ⟨(some 24), (some (22, false)), .load false 1 (.t 23)⟩), (.pl, ⟨(some 25), (some (22, false)), .fa 3 (.t 2)⟩), (.pl, ⟨(some 26), (some (22, false)), .load false 1 (.t 25)⟩), (.pl, ⟨(some 27), (some (22, false)), .len false (.t 26)⟩), (.pl, ⟨(some 28), (some (22, false)), .bin .geq (.t 24) (.t 27)⟩), (.pl, ⟨(some 29), none, .pick (.t 22) (.c (.bool true)) (.t 28)⟩), (.pl, ⟨(some 30), none, .mv (.t 29)⟩), (.pl, ⟨(some 31), (some (30, false)), .fa 1 (.t 7)⟩), (.pl, ⟨(some 32), (some (30, false)), .load false 1 (.t 31)⟩), (.pl, ⟨(some 33), (some (30, false)), .bin .lss (.t 32) (.c (.int .i64 (0)))⟩), (.pl, ⟨(some 34), none, .pick (.t 30) (.c (.bool true)) (.t 33)⟩), (.pl, ⟨(some 35), none, .mv (.t 34)⟩), (.pl, ⟨(some 36), (some (35, false)), .fa 1 (.t 7)⟩), (.pl, ⟨(some 37), (some (35, false)), .load false 1 (.t 36)⟩), (.pl, ⟨(some 38), (some (35, false)), .fa 3 (.t 2)⟩), (.pl, ⟨(some 39), (some (35, false)), .load false 1 (.t 38)⟩), (.pl, ⟨(some 40), (some (35, false)), .fa 0 (.t 7)⟩), (.pl, ⟨(some 41), (some (35, false)), .load false 1 (.t 40)⟩), (.pl, ⟨(some 42), (some (35, false)), .ia 2 (.t 39) (.t 41)⟩), (.pl, ⟨(some 43), (some (35, false)), .fa 1 (.t 42)⟩), (.pl, ⟨(some 44), (some (35, false)), .load false 1 (.t 43)⟩), (.pl, ⟨(some 45), (some (35, false)), .len false (.t 44)⟩), (.pl, ⟨(some 46), (some (35, false)), .bin .gtr (.t 37) (.t 45)⟩), (.pl, ⟨(some 47), none, .pick (.t 35) (.c (.bool true)) (.t 46)⟩)])
  (.keep [2, 5, 7, 13, 14, 15, 47] (.cond (.t 47) (.exit 1) .skip)))
  (.keep [2, 5, 7, 13, 14, 15] (.seq (.reg [⟨(some 49), none, .load true 4 (.t 2)⟩, ⟨(some 50), none, .load true 3 (.t 7)⟩, ⟨(some 51), none, .call (.c (.fn K.chart_next [] [])) [(.t 49), (.t 50)]⟩, ⟨(some 48), none, .mv (.t 51)⟩, ⟨(some 52), none, .ext (.t 48) 0⟩, ⟨(some 53), none, .ext (.t 48) 1⟩, ⟨(some 8), none, .alloc [(.bool false), (.int .i64 (0))]⟩, ⟨none, none, .store 2 (.t 8) (.t 52)⟩, ⟨(some 9), none, .mv (.t 53)⟩])
  (.keep [2, 5, 7, 8, 9, 13, 14, 15] (.block 2 (.seq (.reg [⟨(some 55), none, .mv (.t 9)⟩, ⟨(some 56), none, .mv (.t 55)⟩, ⟨(some 57), (some (56, true)), .fa 0 (.t 8)⟩, ⟨(some 58), (some (56, true)), .load false 1 (.t 57)⟩, ⟨(some 59), (some (56, true)), .un .not (.t 58)⟩, ⟨(some 60), none, .pick (.t 56) (.t 59) (.c (.bool false))⟩, ⟨(some 54), none, .mv (.t 60)⟩])
  (.keep [2, 5, 7, 8, 9, 13, 14, 15, 54] (.cond (.t 54) (.reg [⟨(some 61), none, .mv (.t 5)⟩, ⟨(some 62), none, .fa 1 (.t 8)⟩, ⟨(some 63), none, .load false 1 (.t 62)⟩, ⟨(some 64), none, .bin .shl (.c (.int .u32 (1))) (.t 63)⟩, ⟨(some 65), none, .bin .or (.t 61) (.t 64)⟩, ⟨(some 5), none, .mv (.t 65)⟩]) (.seq (.draw [(.pl, ⟨(some 67), none, .mv (.t 9)⟩), (.pl, ⟨(some 68), none, .un .not (.t 67)⟩), (.pl, ⟨(some 69), none, .mv (.t 68)⟩), (.pl, ⟨(some 70), (some (69, true)), .fa 3 (.t 2)⟩), (.pl, ⟨(some 71), (some (69, true)), .load false 1 (.t 70)⟩), (.pl, ⟨(some 72), (some (69, true)), .fa 0 (.t 7)⟩), (.pl, ⟨(some 73), (some (69, true)), .load false 1 (.t 72)⟩), (.pl, ⟨(some 74), (some (69, true)), .ia 2 (.t 71) (.t 73)⟩), (.pl, ⟨(some 75), (some (69, true)), .fa 0 (.t 74)⟩), (.pl, ⟨(some 76), (some (69, true)), .load false 1 (.t 75)⟩), (.pl, ⟨(some 77), (some (69, true)), .fa 2 (.t 2)⟩), (.pl, ⟨(some 78), (some (69, true)), .load false 1 (.t 77)⟩), (.pl, ⟨(some 79), (some (69, true)), .bin .eql (.t 76) (.t 78)⟩), (.pl, ⟨(some 80), none, .pick (.t 69) (.t 79) (.c (.bool false))⟩), (.pl, ⟨(some 81), none, .mv (.t 80)⟩), (.pl, ⟨(some 82), (some (81, true)), .fa 2 (.t 7)⟩), (.pl, ⟨(some 83), (some (81, true)), .load false 1 (.t 82)⟩), (.pl, ⟨(some 84), (some (81, true)), .bin .eql (.t 83) (.c (.int .i64 (0)))⟩), (.pl, ⟨(some 85), none, .pick (.t 81) (.t 84) (.c (.bool false))⟩), (.pl, ⟨(some 66), none, .mv (.t 85)⟩)])
  (.keep [2, 5, 13, 14, 15, 66] (.cond (.t 66) (.reg [⟨(some 86), none, .mv (.t 5)⟩, ⟨(some 87), none, .bin .or (.t 86) (.c (.int .u32 (65536)))⟩, ⟨(some 5), none, .mv (.t 87)⟩]) .skip))))))))))))))
  (.keep [2, 5, 13, 14, 15] (.reg [⟨(some 88), none, .bin .add (.t 15) (.c (.int .i64 (1)))⟩, ⟨(some 15), none, .mv (.t 88)⟩]))))))) [2, 5, 13, 14, 15]
def A.chart_Next : AFn := ⟨90, [(4, none)], (.seq (.reg [⟨(some 2), none, .box (.t 0)⟩, ⟨(some 4), none, .mv (.c (.int .u32 (0)))⟩])
  (.keep [1, 2] (.seq (.seq (.reg [⟨(some 10), none, .load true 4 (.t 2)⟩, ⟨(some 11), none, .call (.c (.fn K.gram_Right [] [])) [(.t 10)]⟩, ⟨(some 12), none, .un .not (.t 11)⟩])
  (.keep [1, 2, 12] (.cond (.t 12) (.seq (.reg [⟨(some 4), none, .mv (.c (.int .u32 (0)))⟩]) .ret) .skip)))
  (.keep [1, 2] (.seq (.reg [⟨(some 5), none, .mv (.c (.int .u32 (0)))⟩])
  (.keep [1, 2, 5] (.seq (.seq (.reg [⟨(some 13), none, .mv (.t 1)⟩, ⟨(some 14), none, .len false (.t 13)⟩, ⟨(some 15), none, .mv (.c (.int .i64 (0)))⟩])
  (.keep [2, 5, 13, 14, 15] (.block 0 (.loop A.chart_Next.L0))))
  (.keep [5] (.seq (.reg [⟨(some 89), none, .mv (.t 5)⟩, ⟨(some 4), none, .mv (.t 89)⟩]) .ret)))))))))⟩
def A.chart_next : AFn := ⟨25, [(4, (some (true, 2))), (5, none)], (.seq (.reg [⟨(some 2), none, .box (.t 0)⟩, ⟨(some 3), none, .box (.t 1)⟩, ⟨(some 4), none, .alloc [(.bool false), (.int .i64 (0))]⟩, ⟨(some 5), none, .mv (.c (.bool false))⟩])
  (.keep [2, 3, 4] (.seq (.reg [⟨(some 7), none, .fa 3 (.t 2)⟩, ⟨(some 8), none, .load false 1 (.t 7)⟩, ⟨(some 9), none, .fa 0 (.t 3)⟩, ⟨(some 10), none, .load false 1 (.t 9)⟩, ⟨(some 11), none, .ia 2 (.t 8) (.t 10)⟩, ⟨(some 12), none, .fa 1 (.t 11)⟩, ⟨(some 13), none, .load false 1 (.t 12)⟩, ⟨(some 6), none, .mv (.t 13)⟩])
  (.keep [3, 4, 6] (.seq (.seq (.reg [⟨(some 14), none, .fa 1 (.t 3)⟩, ⟨(some 15), none, .load false 1 (.t 14)⟩, ⟨(some 16), none, .mv (.t 6)⟩, ⟨(some 17), none, .len false (.t 16)⟩, ⟨(some 18), none, .bin .eql (.t 15) (.t 17)⟩])
  (.keep [3, 4, 6, 18] (.cond (.t 18) (.seq (.reg [⟨(some 19), none, .bld [(.bool false), (.int .i64 (0))] []⟩, ⟨none, none, .store 2 (.t 4) (.t 19)⟩, ⟨(some 5), none, .mv (.c (.bool false))⟩]) .ret) .skip)))
  (.keep [3, 4, 6] (.seq (.reg [⟨(some 20), none, .mv (.t 6)⟩, ⟨(some 21), none, .fa 1 (.t 3)⟩, ⟨(some 22), none, .load false 1 (.t 21)⟩, ⟨(some 23), none, .ia 2 (.t 20) (.t 22)⟩, ⟨(some 24), none, .load true 2 (.t 23)⟩, ⟨none, none, .store 2 (.t 4) (.t 24)⟩, ⟨(some 5), none, .mv (.c (.bool true))⟩]) .ret)))))))⟩
end Go.Proofs.Ytajaoldljichaaa.Al
