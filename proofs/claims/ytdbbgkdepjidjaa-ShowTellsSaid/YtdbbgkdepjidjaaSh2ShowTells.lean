/-
  What the law ShowTells needs of this claim's texts (part 2). Conditions: each theorem's own.
-/
import Derived.Test.YtdbbgkdepjidjaaAlKeys
import Derived.Test.YtdbbgkdepjidjaaAlC
import Derived.Test.YtdbbgkdepjidjaaAlA
import Derived.Test.YtdbbgkdepjidjaaAlB
import Derived.Test.YtdbbgkdepjidjaaSh1ShowTells
namespace Go.Proofs.Ytdbbgkdepjidjaa.Al
def A.show_Text.L0 : AC := .post (.seq (.reg [⟨(some 18), none, .bin .lss (.t 17) (.t 16)⟩])
  (.keep [4, 5, 15, 16, 17, 18] (.seq (.cond (.t 18) .skip (.exit 0))
  (.keep [4, 5, 15, 16, 17] (.seq (.block 1 (.seq (.reg [⟨(some 19), none, .ia 2 (.t 15) (.t 17)⟩, ⟨(some 20), none, .load true 2 (.t 19)⟩, ⟨(some 7), none, .alloc [(.str []), (.int .i64 (0))]⟩, ⟨none, none, .store 2 (.t 7) (.t 20)⟩])
  (.keep [4, 5, 7, 15, 16, 17] (.seq (.reg [⟨(some 21), none, .mv (.t 4)⟩, ⟨(some 22), none, .nilchk (.t 21)⟩, ⟨(some 23), none, .fa 2 (.t 22)⟩, ⟨none, none, .store 1 (.t 23) (.c (.sl 0 1 []))⟩])
  (.keep [4, 5, 7, 15, 16, 17] (.seq (.reg [⟨(some 24), none, .mv (.t 4)⟩, ⟨(some 25), none, .fa 0 (.t 7)⟩, ⟨(some 26), none, .load false 1 (.t 25)⟩, ⟨(some 27), none, .bsl 1 false [(.str [])] 2 [(0, (.t 26)), (1, (.c (.str [58])))]⟩, ⟨(some 28), none, .call (.c (.fn K.show_writer_put [] [])) [(.t 24), (.t 27)]⟩])
  (.keep [4, 5, 7, 15, 16, 17] (.seq (.reg [⟨(some 29), none, .mv (.t 4)⟩, ⟨(some 30), none, .fa 1 (.t 7)⟩, ⟨(some 31), none, .load false 1 (.t 30)⟩, ⟨(some 32), none, .call (.c (.fn K.show_writer_node [] [])) [(.t 29), (.t 31)]⟩])
  (.keep [4, 5, 15, 16, 17] (.seq (.reg [⟨(some 33), none, .mv (.t 4)⟩, ⟨(some 34), none, .bsl 1 false [(.str [])] 1 [(0, (.c (.str [59])))]⟩, ⟨(some 35), none, .call (.c (.fn K.show_writer_put [] [])) [(.t 33), (.t 34)]⟩])
  (.keep [4, 5, 15, 16, 17] (.reg [⟨(some 36), none, .mv (.t 4)⟩, ⟨(some 37), none, .nilchk (.t 36)⟩, ⟨(some 38), none, .fa 2 (.t 37)⟩, ⟨(some 39), none, .load false 1 (.t 38)⟩, ⟨(some 40), none, .call (.c (.fn K.strings_Join [] [])) [(.t 39), (.c (.str [32]))]⟩, ⟨(some 41), none, .bin .add (.t 40) (.c (.str [10]))⟩, ⟨(some 42), none, .call (.c (.fn K.strings_Builder_WriteString [] [])) [(.t 5), (.t 41)]⟩]))))))))))))
  (.keep [4, 5, 15, 16, 17] (.reg [⟨(some 43), none, .bin .add (.t 17) (.c (.int .i64 (1)))⟩, ⟨(some 17), none, .mv (.t 43)⟩]))))))) [4, 5, 15, 16, 17]
def A.show_Text : AFn := ⟨47, [(2, none), (3, none)], (.seq (.reg [⟨(some 1), none, .box (.t 0)⟩, ⟨(some 2), none, .mv (.c (.str []))⟩, ⟨(some 3), none, .mv (.c (.int .i64 (0)))⟩])
  (.keep [1] (.seq (.seq (.reg [⟨(some 8), none, .load true 2 (.t 1)⟩, ⟨(some 9), none, .call (.c (.fn K.rules_Right [] [])) [(.t 8)]⟩, ⟨(some 10), none, .un .not (.t 9)⟩])
  (.keep [1, 10] (.cond (.t 10) (.seq (.reg [⟨(some 2), none, .mv (.c (.str []))⟩, ⟨(some 3), none, .mv (.c (.int .i64 (1)))⟩]) .ret) .skip)))
  (.keep [1] (.seq (.reg [⟨(some 11), none, .load true 2 (.t 1)⟩, ⟨(some 12), none, .bld [(.sl 0 1 []), (.sl 0 1 []), (.sl 0 1 [])] [(0, 2, (.t 11))]⟩, ⟨(some 13), none, .box (.t 12)⟩, ⟨(some 4), none, .mv (.t 13)⟩])
  (.keep [1, 4] (.seq (.reg [⟨(some 5), none, .alct 58 2 [.nilp, (.sl 0 1 [])]⟩])
  (.keep [1, 4, 5] (.seq (.seq (.reg [⟨(some 14), none, .fa 0 (.t 1)⟩, ⟨(some 15), none, .load false 1 (.t 14)⟩, ⟨(some 16), none, .len false (.t 15)⟩, ⟨(some 17), none, .mv (.c (.int .i64 (0)))⟩])
  (.keep [4, 5, 15, 16, 17] (.block 0 (.loop A.show_Text.L0))))
  (.keep [5] (.seq (.seq (.reg [⟨(some 44), none, .call (.c (.fn K.strings_Builder_Len [] [])) [(.t 5)]⟩, ⟨(some 45), none, .bin .gtr (.t 44) (.c (.int .i64 (4000)))⟩])
  (.keep [5, 45] (.cond (.t 45) (.seq (.reg [⟨(some 2), none, .mv (.c (.str []))⟩, ⟨(some 3), none, .mv (.c (.int .i64 (5)))⟩]) .ret) .skip)))
  (.keep [5] (.seq (.reg [⟨(some 46), none, .call (.c (.fn K.strings_Builder_String [] [])) [(.t 5)]⟩, ⟨(some 2), none, .mv (.t 46)⟩, ⟨(some 3), none, .mv (.c (.int .i64 (0)))⟩]) .ret)))))))))))))⟩
def A.show_Tokens : AFn := ⟨36, [(4, none), (5, none)], (.seq (.reg [⟨(some 2), none, .box (.t 0)⟩, ⟨(some 4), none, .mv (.c (.sl 0 1 []))⟩, ⟨(some 5), none, .mv (.c (.int .i64 (0)))⟩])
  (.keep [1, 2] (.seq (.block 0 (.seq (.reg [⟨(some 8), none, .load true 2 (.t 2)⟩, ⟨(some 9), none, .call (.c (.fn K.rules_Right [] [])) [(.t 8)]⟩, ⟨(some 10), none, .un .not (.t 9)⟩, ⟨(some 7), none, .mv (.t 10)⟩])
  (.keep [1, 2, 7] (.cond (.t 7) (.seq (.reg [⟨(some 4), none, .mv (.c (.sl 0 1 []))⟩, ⟨(some 5), none, .mv (.c (.int .i64 (1)))⟩]) .ret) (.seq (.reg [⟨(some 12), none, .mv (.t 1)⟩, ⟨(some 13), none, .bin .lss (.t 12) (.c (.int .i64 (0)))⟩, ⟨(some 14), none, .mv (.t 13)⟩, ⟨(some 15), (some (14, false)), .mv (.t 1)⟩, ⟨(some 16), (some (14, false)), .fa 0 (.t 2)⟩, ⟨(some 17), (some (14, false)), .load false 1 (.t 16)⟩, ⟨(some 18), (some (14, false)), .len false (.t 17)⟩, ⟨(some 19), (some (14, false)), .bin .geq (.t 15) (.t 18)⟩, ⟨(some 20), none, .pick (.t 14) (.c (.bool true)) (.t 19)⟩, ⟨(some 11), none, .mv (.t 20)⟩])
  (.keep [1, 2, 11] (.cond (.t 11) (.seq (.reg [⟨(some 4), none, .mv (.c (.sl 0 1 []))⟩, ⟨(some 5), none, .mv (.c (.int .i64 (11)))⟩]) .ret) .skip)))))))
  (.keep [1, 2] (.seq (.reg [⟨(some 21), none, .load true 2 (.t 2)⟩, ⟨(some 22), none, .bld [(.sl 0 1 []), (.sl 0 1 []), (.sl 0 1 [])] [(0, 2, (.t 21))]⟩, ⟨(some 23), none, .box (.t 22)⟩, ⟨(some 6), none, .mv (.t 23)⟩])
  (.keep [1, 2, 6] (.seq (.reg [⟨(some 24), none, .mv (.t 6)⟩, ⟨(some 25), none, .fa 0 (.t 2)⟩, ⟨(some 26), none, .load false 1 (.t 25)⟩, ⟨(some 27), none, .mv (.t 1)⟩, ⟨(some 28), none, .ia 2 (.t 26) (.t 27)⟩, ⟨(some 29), none, .fa 1 (.t 28)⟩, ⟨(some 30), none, .load false 1 (.t 29)⟩, ⟨(some 31), none, .call (.c (.fn K.show_writer_node [] [])) [(.t 24), (.t 30)]⟩])
  (.keep [6] (.seq (.reg [⟨(some 32), none, .mv (.t 6)⟩, ⟨(some 33), none, .nilchk (.t 32)⟩, ⟨(some 34), none, .fa 2 (.t 33)⟩, ⟨(some 35), none, .load false 1 (.t 34)⟩, ⟨(some 4), none, .mv (.t 35)⟩, ⟨(some 5), none, .mv (.c (.int .i64 (0)))⟩]) .ret)))))))))⟩
def A.show_writer_put : AFn := ⟨13, [], (.reg [⟨(some 4), none, .mv (.t 0)⟩, ⟨(some 5), none, .mv (.t 0)⟩, ⟨(some 6), none, .nilchk (.t 5)⟩, ⟨(some 7), none, .fa 2 (.t 6)⟩, ⟨(some 8), none, .load false 1 (.t 7)⟩, ⟨(some 9), none, .mv (.t 1)⟩, ⟨(some 10), none, .app 1 16 (.t 8) (.t 9)⟩, ⟨(some 11), none, .nilchk (.t 4)⟩, ⟨(some 12), none, .fa 2 (.t 11)⟩, ⟨none, none, .store 1 (.t 12) (.t 10)⟩])⟩
def A.show_writer_node : AFn := ⟨65, [], (.seq (.reg [⟨(some 2), none, .box (.t 0)⟩])
  (.keep [1, 2] (.seq (.reg [⟨(some 7), none, .load false 1 (.t 2)⟩, ⟨(some 8), none, .nilchk (.t 7)⟩, ⟨(some 9), none, .fa 0 (.t 8)⟩, ⟨(some 10), none, .fa 1 (.t 9)⟩, ⟨(some 11), none, .load false 1 (.t 10)⟩, ⟨(some 12), none, .mv (.t 1)⟩, ⟨(some 13), none, .ia 3 (.t 11) (.t 12)⟩, ⟨(some 14), none, .load true 3 (.t 13)⟩, ⟨(some 4), none, .alloc [(.int .i64 (0)), (.str []), (.sl 0 1 [])]⟩, ⟨none, none, .store 3 (.t 4) (.t 14)⟩])
  (.keep [2, 4] (.seq (.reg [⟨(some 15), none, .fa 0 (.t 4)⟩, ⟨(some 16), none, .load false 1 (.t 15)⟩])
  (.keep [2, 4, 16] (.block 0 (.seq (.reg [⟨(some 34), none, .bin .eql (.t 16) (.c (.int .i64 (6)))⟩, ⟨(some 33), none, .mv (.t 34)⟩])
  (.keep [2, 4, 16, 33] (.cond (.t 33) (.reg [⟨(some 35), none, .load false 1 (.t 2)⟩, ⟨(some 36), none, .fa 1 (.t 4)⟩, ⟨(some 37), none, .load false 1 (.t 36)⟩, ⟨(some 38), none, .bsl 1 false [(.str [])] 1 [(0, (.t 37))]⟩, ⟨(some 39), none, .call (.c (.fn K.show_writer_put [] [])) [(.t 35), (.t 38)]⟩]) (.seq (.reg [⟨(some 41), none, .bin .eql (.t 16) (.c (.int .i64 (7)))⟩, ⟨(some 40), none, .mv (.t 41)⟩])
  (.keep [2, 4, 16, 40] (.cond (.t 40) (.reg [⟨(some 42), none, .load false 1 (.t 2)⟩, ⟨(some 43), none, .fa 1 (.t 4)⟩, ⟨(some 44), none, .load false 1 (.t 43)⟩, ⟨(some 45), none, .bin .add (.c (.str [39])) (.t 44)⟩, ⟨(some 46), none, .bin .add (.t 45) (.c (.str [39]))⟩, ⟨(some 47), none, .bsl 1 false [(.str [])] 1 [(0, (.t 46))]⟩, ⟨(some 48), none, .call (.c (.fn K.show_writer_put [] [])) [(.t 42), (.t 47)]⟩]) (.seq (.reg [⟨(some 50), none, .bin .eql (.t 16) (.c (.int .i64 (1)))⟩, ⟨(some 49), none, .mv (.t 50)⟩])
  (.keep [2, 4, 16, 49] (.cond (.t 49) (.reg [⟨(some 51), none, .fa 2 (.t 4)⟩, ⟨(some 52), none, .load false 1 (.t 51)⟩, ⟨(some 53), none, .load false 1 (.t 2)⟩, ⟨(some 54), none, .mkfn K.show_writer_item [(.t 53)] []⟩, ⟨(some 55), none, .call (.c (.fn K.show_each [] [])) [(.t 52), (.t 54), (.c (.sl 0 1 []))]⟩]) (.seq (.reg [⟨(some 57), none, .bin .eql (.t 16) (.c (.int .i64 (2)))⟩, ⟨(some 56), none, .mv (.t 57)⟩])
  (.keep [2, 4, 56] (.cond (.t 56) (.reg [⟨(some 58), none, .fa 2 (.t 4)⟩, ⟨(some 59), none, .load false 1 (.t 58)⟩, ⟨(some 60), none, .load false 1 (.t 2)⟩, ⟨(some 61), none, .mkfn K.show_writer_alternative [(.t 60)] []⟩, ⟨(some 62), none, .mkfn K.show_writer_node_1 [] [(.t 2)]⟩, ⟨(some 63), none, .bsl 1 false [.nilf] 1 [(0, (.t 62))]⟩, ⟨(some 64), none, .call (.c (.fn K.show_each [] [])) [(.t 59), (.t 61), (.t 63)]⟩]) (.seq (.reg [⟨(some 18), none, .fa 0 (.t 4)⟩, ⟨(some 19), none, .load false 1 (.t 18)⟩, ⟨(some 20), none, .call (.c (.fn K.show_repeated [] [])) [(.t 19)]⟩, ⟨(some 17), none, .mv (.t 20)⟩, ⟨(some 21), none, .ext (.t 17) 0⟩, ⟨(some 22), none, .ext (.t 17) 1⟩, ⟨(some 5), none, .mv (.t 21)⟩, ⟨(some 6), none, .mv (.t 22)⟩])
  (.keep [2, 4, 5] (.seq (.draw [(.pl, ⟨(some 23), none, .load false 1 (.t 2)⟩), (.pl, ⟨(some 24), none, .fa 2 (.t 4)⟩), (.pl, ⟨(some 25), none, .load false 1 (.t 24)⟩), (.pl, ⟨(some 26), none, .ia 1 (.t 25) (.c (.int .i64 (0)))⟩), (.pl, ⟨(some 27), none, .load false 1 (.t 26)⟩), (.eff, ⟨(some 28), none, .call (.c (.fn K.show_writer_atom [] [])) [(.t 23), (.t 27)]⟩)])
  (.keep [2, 5] (.reg [⟨(some 29), none, .load false 1 (.t 2)⟩, ⟨(some 30), none, .mv (.t 5)⟩, ⟨(some 31), none, .bsl 1 false [(.str [])] 1 [(0, (.t 30))]⟩, ⟨(some 32), none, .call (.c (.fn K.show_writer_put [] [])) [(.t 29), (.t 31)]⟩]))))))))))))))))))))))))⟩
def A.show_each.L1 : AC := .post (.seq (.reg [⟨(some 20), none, .bin .lss (.t 19) (.t 18)⟩])
  (.keep [1, 2, 6, 7, 10, 11, 12, 17, 18, 19, 20] (.seq (.cond (.t 20) .skip (.exit 2))
  (.keep [1, 2, 6, 7, 10, 11, 12, 17, 18, 19] (.seq (.block 3 (.seq (.reg [⟨(some 21), none, .ia 1 (.t 17) (.t 19)⟩, ⟨(some 22), none, .load false 1 (.t 21)⟩, ⟨(some 9), none, .mv (.t 22)⟩])
  (.keep [1, 2, 6, 7, 9, 10, 11, 12, 17, 18, 19] (.seq (.reg [⟨(some 23), none, .mv (.t 6)⟩, ⟨(some 24), none, .bin .gtr (.t 23) (.c (.int .i64 (0)))⟩])
  (.keep [1, 2, 6, 7, 9, 10, 11, 12, 17, 18, 19, 24] (.cond (.t 24) (.reg [⟨(some 25), none, .mv (.t 9)⟩, ⟨(some 26), none, .call (.t 25) []⟩]) .skip))))))
  (.keep [1, 2, 6, 7, 10, 11, 12, 17, 18, 19] (.reg [⟨(some 27), none, .bin .add (.t 19) (.c (.int .i64 (1)))⟩, ⟨(some 19), none, .mv (.t 27)⟩]))))))) [1, 2, 6, 7, 10, 11, 12, 17, 18, 19]
def A.show_each.L0 : AC := .post (.seq (.reg [⟨(some 13), none, .bin .lss (.t 12) (.t 11)⟩])
  (.keep [1, 2, 10, 11, 12, 13] (.seq (.cond (.t 13) .skip (.exit 0))
  (.keep [1, 2, 10, 11, 12] (.seq (.block 1 (.seq (.reg [⟨(some 14), none, .mv (.t 12)⟩, ⟨(some 15), none, .ia 1 (.t 10) (.t 12)⟩, ⟨(some 16), none, .load false 1 (.t 15)⟩, ⟨(some 6), none, .mv (.t 14)⟩, ⟨(some 7), none, .mv (.t 16)⟩])
  (.keep [1, 2, 6, 7, 10, 11, 12] (.seq (.seq (.reg [⟨(some 17), none, .mv (.t 2)⟩, ⟨(some 18), none, .len false (.t 17)⟩, ⟨(some 19), none, .mv (.c (.int .i64 (0)))⟩])
  (.keep [1, 2, 6, 7, 10, 11, 12, 17, 18, 19] (.block 2 (.loop A.show_each.L1))))
  (.keep [1, 2, 7, 10, 11, 12] (.reg [⟨(some 28), none, .mv (.t 1)⟩, ⟨(some 29), none, .mv (.t 7)⟩, ⟨(some 30), none, .call (.t 28) [(.t 29)]⟩]))))))
  (.keep [1, 2, 10, 11, 12] (.reg [⟨(some 31), none, .bin .add (.t 12) (.c (.int .i64 (1)))⟩, ⟨(some 12), none, .mv (.t 31)⟩]))))))) [1, 2, 10, 11, 12]
def A.show_each : AFn := ⟨32, [], (.seq (.reg [⟨(some 10), none, .mv (.t 0)⟩, ⟨(some 11), none, .len false (.t 10)⟩, ⟨(some 12), none, .mv (.c (.int .i64 (0)))⟩])
  (.keep [1, 2, 10, 11, 12] (.block 0 (.loop A.show_each.L0))))⟩
def A.show_writer_item : AFn := ⟨26, [], (.seq (.seq (.reg [⟨(some 7), none, .mv (.t 0)⟩, ⟨(some 8), none, .nilchk (.t 7)⟩, ⟨(some 9), none, .fa 0 (.t 8)⟩, ⟨(some 10), none, .fa 1 (.t 9)⟩, ⟨(some 11), none, .load false 1 (.t 10)⟩, ⟨(some 12), none, .mv (.t 1)⟩, ⟨(some 13), none, .ia 3 (.t 11) (.t 12)⟩, ⟨(some 14), none, .fa 0 (.t 13)⟩, ⟨(some 15), none, .load false 1 (.t 14)⟩, ⟨(some 16), none, .call (.c (.fn K.show_repeated [] [])) [(.t 15)]⟩, ⟨(some 6), none, .mv (.t 16)⟩, ⟨(some 17), none, .ext (.t 6) 0⟩, ⟨(some 18), none, .ext (.t 6) 1⟩, ⟨(some 4), none, .mv (.t 17)⟩, ⟨(some 5), none, .mv (.t 18)⟩])
  (.keep [0, 1, 5] (.seq (.reg [⟨(some 19), none, .mv (.t 5)⟩])
  (.keep [0, 1, 19] (.cond (.t 19) (.seq (.reg [⟨(some 20), none, .mv (.t 0)⟩, ⟨(some 21), none, .mv (.t 1)⟩, ⟨(some 22), none, .call (.c (.fn K.show_writer_node [] [])) [(.t 20), (.t 21)]⟩]) .ret) .skip)))))
  (.keep [0, 1] (.reg [⟨(some 23), none, .mv (.t 0)⟩, ⟨(some 24), none, .mv (.t 1)⟩, ⟨(some 25), none, .call (.c (.fn K.show_writer_atom [] [])) [(.t 23), (.t 24)]⟩])))⟩
def A.show_writer_alternative : AFn := ⟨20, [], (.seq (.seq (.reg [⟨(some 4), none, .mv (.t 0)⟩, ⟨(some 5), none, .nilchk (.t 4)⟩, ⟨(some 6), none, .fa 0 (.t 5)⟩, ⟨(some 7), none, .fa 1 (.t 6)⟩, ⟨(some 8), none, .load false 1 (.t 7)⟩, ⟨(some 9), none, .mv (.t 1)⟩, ⟨(some 10), none, .ia 3 (.t 8) (.t 9)⟩, ⟨(some 11), none, .fa 0 (.t 10)⟩, ⟨(some 12), none, .load false 1 (.t 11)⟩, ⟨(some 13), none, .bin .eql (.t 12) (.c (.int .i64 (1)))⟩])
  (.keep [0, 1, 13] (.cond (.t 13) (.seq (.reg [⟨(some 14), none, .mv (.t 0)⟩, ⟨(some 15), none, .mv (.t 1)⟩, ⟨(some 16), none, .call (.c (.fn K.show_writer_node [] [])) [(.t 14), (.t 15)]⟩]) .ret) .skip)))
  (.keep [0, 1] (.reg [⟨(some 17), none, .mv (.t 0)⟩, ⟨(some 18), none, .mv (.t 1)⟩, ⟨(some 19), none, .call (.c (.fn K.show_writer_item [] [])) [(.t 17), (.t 18)]⟩])))⟩
def A.show_writer_node_1 : AFn := ⟨4, [], (.reg [⟨(some 1), none, .load false 1 (.t 0)⟩, ⟨(some 2), none, .bsl 1 false [(.str [])] 1 [(0, (.c (.str [124])))]⟩, ⟨(some 3), none, .call (.c (.fn K.show_writer_put [] [])) [(.t 1), (.t 2)]⟩])⟩
def A.show_repeated : AFn := ⟨11, [(2, none), (3, none)], (.seq (.reg [⟨(some 2), none, .mv (.c (.str []))⟩, ⟨(some 3), none, .mv (.c (.bool false))⟩])
  (.keep [0] (.seq (.seq (.reg [⟨(some 4), none, .mv (.t 0)⟩])
  (.keep [4] (.block 0 (.seq (.reg [⟨(some 6), none, .bin .eql (.t 4) (.c (.int .i64 (3)))⟩, ⟨(some 5), none, .mv (.t 6)⟩])
  (.keep [4, 5] (.cond (.t 5) (.seq (.reg [⟨(some 2), none, .mv (.c (.str [42]))⟩, ⟨(some 3), none, .mv (.c (.bool true))⟩]) .ret) (.seq (.reg [⟨(some 8), none, .bin .eql (.t 4) (.c (.int .i64 (4)))⟩, ⟨(some 7), none, .mv (.t 8)⟩])
  (.keep [4, 7] (.cond (.t 7) (.seq (.reg [⟨(some 2), none, .mv (.c (.str [43]))⟩, ⟨(some 3), none, .mv (.c (.bool true))⟩]) .ret) (.seq (.reg [⟨(some 10), none, .bin .eql (.t 4) (.c (.int .i64 (5)))⟩, ⟨(some 9), none, .mv (.t 10)⟩])
  (.keep [9] (.cond (.t 9) (.seq (.reg [⟨(some 2), none, .mv (.c (.str [63]))⟩, ⟨(some 3), none, .mv (.c (.bool true))⟩]) .ret) .skip))))))))))))
  (.keep [] (.seq (.reg [⟨(some 2), none, .mv (.c (.str []))⟩, ⟨(some 3), none, .mv (.c (.bool false))⟩]) .ret)))))⟩
def A.show_writer_atom : AFn := ⟨26, [], (.seq (.seq (.reg [⟨(some 5), none, .mv (.t 0)⟩, ⟨(some 6), none, .nilchk (.t 5)⟩, ⟨(some 7), none, .fa 0 (.t 6)⟩, ⟨(some 8), none, .fa 1 (.t 7)⟩, ⟨(some 9), none, .load false 1 (.t 8)⟩, ⟨(some 10), none, .mv (.t 1)⟩, ⟨(some 11), none, .ia 3 (.t 9) (.t 10)⟩, ⟨(some 12), none, .fa 0 (.t 11)⟩, ⟨(some 13), none, .load false 1 (.t 12)⟩, ⟨(some 4), none, .mv (.t 13)⟩])
  (.keep [0, 1, 4] (.seq (.reg [⟨(some 14), none, .mv (.t 4)⟩, ⟨(some 15), none, .bin .eql (.t 14) (.c (.int .i64 (6)))⟩, ⟨(some 16), none, .mv (.t 15)⟩, ⟨(some 17), (some (16, false)), .mv (.t 4)⟩, ⟨(some 18), (some (16, false)), .bin .eql (.t 17) (.c (.int .i64 (7)))⟩, ⟨(some 19), none, .pick (.t 16) (.c (.bool true)) (.t 18)⟩])
  (.keep [0, 1, 19] (.cond (.t 19) (.seq (.reg [⟨(some 20), none, .mv (.t 0)⟩, ⟨(some 21), none, .mv (.t 1)⟩, ⟨(some 22), none, .call (.c (.fn K.show_writer_node [] [])) [(.t 20), (.t 21)]⟩]) .ret) .skip)))))
  (.keep [0, 1] (.reg [⟨(some 23), none, .mv (.t 0)⟩, ⟨(some 24), none, .mv (.t 1)⟩, ⟨(some 25), none, .call (.c (.fn K.show_writer_bracketed [] [])) [(.t 23), (.t 24)]⟩])))⟩
def A.show_writer_bracketed : AFn := ⟨13, [], (.seq (.reg [⟨(some 4), none, .mv (.t 0)⟩, ⟨(some 5), none, .bsl 1 false [(.str [])] 1 [(0, (.c (.str [40])))]⟩, ⟨(some 6), none, .call (.c (.fn K.show_writer_put [] [])) [(.t 4), (.t 5)]⟩])
  (.keep [0, 1] (.seq (.reg [⟨(some 7), none, .mv (.t 0)⟩, ⟨(some 8), none, .mv (.t 1)⟩, ⟨(some 9), none, .call (.c (.fn K.show_writer_node [] [])) [(.t 7), (.t 8)]⟩])
  (.keep [0] (.reg [⟨(some 10), none, .mv (.t 0)⟩, ⟨(some 11), none, .bsl 1 false [(.str [])] 1 [(0, (.c (.str [41])))]⟩, ⟨(some 12), none, .call (.c (.fn K.show_writer_put [] [])) [(.t 10), (.t 11)]⟩])))))⟩
end Go.Proofs.Ytdbbgkdepjidjaa.Al
namespace Go.Proofs.Ytdbbgkdepjidjaa.Al
open Go Go.RowKit
set_option linter.unusedSimpArgs false
set_option linter.unusedVariables false
attribute [-simp] List.getD_eq_getElem?_getD Int.not_lt Int.not_le List.map_take List.map_map
/-! ### What is told, in plain Lean -/
section
variable (t : Te)
def kindT (n : Int) : Int := match t.nodes[n.toNat]? with
  | some x => x.kind
  | none => 0
def brk (l : List Str) : List Str := [40] :: (l ++ [[41]])
def atomW (rec : Int → List Str) (n : Int) : List Str := if kindT t n = 6 ∨ kindT t n = 7 then rec n else brk (rec n)
def itemW (rec : Int → List Str) (n : Int) : List Str := if 3 ≤ kindT t n ∧ kindT t n ≤ 5 then rec n else atomW t rec n
def altW (rec : Int → List Str) (n : Int) : List Str := if kindT t n = 1 then rec n else itemW t rec n
/-- Of each, and something between. -/
def eachW (sep : List Str) (one : Int → List Str) (l : List Int) : List Str := match l with
  | [] => []
  | k :: r => one k ++ r.flatMap fun k => sep ++ one k
def markW (k : Int) : Str := if k = 3 then [42] else if k = 4 then [43] else if k = 5 then [63] else []
/-- A node's tokens. -/
def tokW : Nat → Int → List Str
  | 0, _ => []
  | f + 1, n => match t.nodes[n.toNat]? with
    | none => []
    | some x => if x.kind = 6 then [x.name] else if x.kind = 7 then [39 :: (x.name ++ [39])]
      else if x.kind = 1 then eachW [] (itemW t (tokW f)) x.kids
      else if x.kind = 2 then eachW [[124]] (altW t (tokW f)) x.kids
      else atomW t (tokW f) (x.kids.getD 0 0) ++ [markW x.kind]
end
theorem eachW_snoc (sep : List Str) (one : Int → List Str) (l : List Int) (k : Int) : eachW sep one (l ++ [k]) = eachW sep one l ++ ((if l = [] then [] else sep) ++ one k) := by
  cases l with
  | nil => simp [eachW]
  | cons a l => simp [eachW]
theorem eachW_take {sep : List Str} {one : Int → List Str} {l : List Int} {i : Nat} (h : i < l.length) : eachW sep one (l.take (i + 1)) = eachW sep one (l.take i) ++ ((if i = 0 then [] else sep) ++ one l[i]) := by
  rw [List.take_succ_eq_append_getElem h, eachW_snoc]
  congr 2
  cases l with
  | nil => simp at h
  | cons a l => simp
theorem eachW_len {sep : List Str} {one : Int → List Str} {l : List Int} (i : Nat) : (eachW sep one (l.take i)).length ≤ (eachW sep one l).length := by
  cases l with
  | nil => simp [eachW]
  | cons a l =>
    cases i with
    | zero => simp [eachW]
    | succ i =>
      simp only [List.take_succ_cons, eachW, List.length_append]
      have : l.flatMap (fun k => sep ++ one k) = (l.take i).flatMap (fun k => sep ++ one k) ++ (l.drop i).flatMap (fun k => sep ++ one k) := by rw [← List.flatMap_append, List.take_append_drop]
      rw [this, List.length_append]; omega
/-! ### One answer -/
/-- A call with one answer. -/
def Det (X : Cx) (k : Nat) (args : List V) (h : AH) (v : V) (h1 : AH) : Prop := Ecx X k args h fun v' h' => v' = v ∧ h' = h1
theorem Det.to {X : Cx} {k : Nat} {args : List V} {h h1 : AH} {v : V} {Q : V → AH → Prop} (d : Det X k args h v h1) (hq : Q v h1) : Ecx X k args h Q := d.mono fun r h' e => by rw [e.1, e.2]; exact hq
/-- Steps, one behind the other. -/
theorem chainD {α : Type} (P : Nat → α → Prop) (R : Nat → α → α → Prop) : ∀ (n : Nat) (a0 : α), P 0 a0 → (∀ i a, i < n → P i a → ∃ b, P (i + 1) b ∧ R i a b) →
    ∃ f : Nat → α, f 0 = a0 ∧ (∀ i, i ≤ n → P i (f i)) ∧ ∀ i, i < n → R i (f i) (f (i + 1))
  | 0, a0, h0, _ => ⟨fun _ => a0, rfl, fun i hi => by obtain rfl : i = 0 := by omega
                                                      exact h0, fun i hi => by omega⟩
  | n + 1, a0, h0, hs => by
    obtain ⟨f, f0, f1, f2⟩ := chainD P R n a0 h0 fun i a hi => hs i a (by omega)
    obtain ⟨b, b1, b2⟩ := hs n (f n) (by omega) (f1 n (Nat.le_refl _))
    refine ⟨fun i => if i ≤ n then f i else b, by simp [f0], fun i hi => ?_, fun i hi => ?_⟩
    · by_cases c : i ≤ n
      · simp only [if_pos c]; exact f1 i c
      · obtain rfl : i = n + 1 := by omega
        simp only [if_neg c]; exact b1
    · by_cases c : i + 1 ≤ n
      · simp only [if_pos c, if_pos (show i ≤ n by omega)]; exact f2 i (by omega)
      · obtain rfl : i = n := by omega
        simp only [if_neg c, if_pos (Nat.le_refl i)]; exact b2
/-! ### Its object -/
structure WrO (h : AH) (o : Nat) (t : Te) (st : Nat) (L : List Str) : Prop where
  ob : ∃ e, h.objs o = [.sl 2 0 (t.rules.map rlV), .sl 3 0 (t.nodes.map ndV), .sl e st (strs L)] ∧ May 1 h e st (strs L)
  lt : o < h.nobj
  lo : 3 ≤ h.next ∧ ∀ s, s ≤ 2 → h.tips s = none
  sb : st ≤ 2 ∨ st < h.next
/-- From h to h1 only this object has been turned, and its slice. -/
structure SWE (h h1 : AH) (o st st1 : Nat) : Prop where
  next : h.next ≤ h1.next
  nobj : h.nobj ≤ h1.nobj
  objs : ∀ o', o' < h.nobj → o' ≠ o → h1.objs o' = h.objs o'
  tips : ∀ s, s < h.next → (s ≠ st ∨ s ≤ 2) → h1.tips s = h.tips s
  st : st1 = st ∨ h.next ≤ st1
theorem SWE.refl (h : AH) (o st : Nat) : SWE h h o st st := ⟨Nat.le_refl _, Nat.le_refl _, fun _ _ _ => rfl, fun _ _ _ => rfl, .inl rfl⟩
theorem SWE.trans {h h1 h2 : AH} {o st st1 st2 : Nat} (a : SWE h h1 o st st1) (b : SWE h1 h2 o st1 st2) : SWE h h2 o st st2 where
  next := Nat.le_trans a.next b.next
  nobj := Nat.le_trans a.nobj b.nobj
  objs o' h' hn := (b.objs o' (Nat.lt_of_lt_of_le h' a.nobj) hn).trans (a.objs o' h' hn)
  tips s hs hn := by
    have h1 : s ≠ st1 ∨ s ≤ 2 := by
      rcases hn with c | c
      · left; rcases a.st with d | d
        · rw [d]; exact c
        · omega
      · exact .inr c
    exact (b.tips s (Nat.lt_of_lt_of_le hs a.next) h1).trans (a.tips s hs hn)
  st := by
    rcases b.st with e | e
    · rw [e]; exact a.st
    · exact .inr (Nat.le_trans a.next e)
theorem SWE.new {h h1 : AH} {o st st1 : Nat} (f : SWE h h1 o st st1) (z : List V) : SWE h (h1.new z) o st st1 :=
  ⟨f.next, Nat.le_succ_of_le f.nobj, fun o' ho hn => by rw [new_objs_ne _ _ (by have := f.nobj; omega)]; exact f.objs o' ho hn, f.tips, f.st⟩
theorem SWE.set {h h1 : AH} {o st st1 : Nat} (f : SWE h h1 o st st1) {o' : Nat} (ho : o' = o ∨ h.nobj ≤ o') (z : List V) : SWE h (h1.set o' z) o st st1 :=
  ⟨f.next, f.nobj, fun o2 ho' hn => by
    rw [set_objs_ne _ _ _ (by rintro rfl; rcases ho with h | h; exact hn h; omega)]; exact f.objs o2 ho' hn, f.tips, f.st⟩
section
variable {h : AH} {o st : Nat} {t : Te} {L : List Str}
theorem WrO.new (r : WrO h o t st L) (z : List V) : WrO (h.new z) o t st L := by
  obtain ⟨e, ob, m⟩ := r.ob
  exact ⟨⟨e, by rw [new_objs_ne _ _ (by have := r.lt; omega)]; exact ob, ⟨m.el, m.st⟩⟩, Nat.lt_succ_of_lt r.lt, r.lo, r.sb⟩
theorem WrO.push (r : WrO h o t st L) {e : Nat} (ob : h.objs o = [.sl 2 0 (t.rules.map rlV), .sl 3 0 (t.nodes.map ndV), .sl e st (strs L)]) (M : List Str) :
    WrO ((h.push st 1).set o [.sl 2 0 (t.rules.map rlV), .sl 3 0 (t.nodes.map ndV), .sl 1 h.next (strs (L ++ M))]) o t h.next (L ++ M) ∧ SWE h ((h.push st 1).set o [.sl 2 0 (t.rules.map rlV), .sl 3 0 (t.nodes.map ndV), .sl 1 h.next (strs (L ++ M))]) o st h.next := by
  refine ⟨⟨⟨1, set_objs_same _ _ _, ⟨.inr rfl, .inr (.inr (by rw [set_tips]; exact push_new h _ _))⟩⟩, by rw [set_nobj, push_nobj]; exact r.lt, by rw [set_next, set_tips]; exact push_low r.lo _ _, .inr (by rw [set_next, push_next]; omega)⟩,
    ⟨by rw [set_next, push_next]; omega, by rw [set_nobj, push_nobj]; exact Nat.le_refl _, fun o' _ hn => by rw [set_objs_ne _ _ _ hn, push_objs], fun s hs hn => by
      rw [set_tips]
      by_cases c : st ≤ 2
      · unfold AH.push; rw [if_pos c]; exact updN_ne _ _ (by omega)
      · exact push_tips_at hs (by omega), .inr (Nat.le_refl _)⟩⟩
end
structure LWr (X : Cx) : Prop where
  put : Has (Ecx X) K.show_writer_put A.show_writer_put
  rep : Has (Ecx X) K.show_repeated A.show_repeated
  bracketed : Has (Ecx X) K.show_writer_bracketed A.show_writer_bracketed
  atom : Has (Ecx X) K.show_writer_atom A.show_writer_atom
  item : Has (Ecx X) K.show_writer_item A.show_writer_item
  each : Has (Ecx X) K.show_each A.show_each
  alt : Has (Ecx X) K.show_writer_alternative A.show_writer_alternative
  node : Has (Ecx X) K.show_writer_node A.show_writer_node
  node1 : Has (Ecx X) K.show_writer_node_1 A.show_writer_node_1
section
variable {X : Cx} {h : AH} {o st : Nat} {t : Te} {L : List Str}
theorem wPut (W : LWr X) (r : WrO h o t st L) (M : List Str) (hm : M ≠ []) (hl : L.length + M.length ≤ 2 ^ 40) {st2 : Nat} :
    ∃ h1, Det X K.show_writer_put [.ptr o 0, .sl 1 st2 (strs M)] h (.tup []) h1 ∧ SWE h h1 o st h.next ∧ WrO h1 o t h.next (L ++ M) := by
  obtain ⟨e, ob, m⟩ := r.ob
  obtain ⟨r1, g1⟩ := r.push ob M
  refine ⟨_, ?_, g1, r1⟩
  refine fn_any W.put (by simp [A.show_writer_put]) fun wf => ?_
  simp [A.show_writer_put, ob]
  refine m.app (by simpa [strs] using hm) rfl (by simp [strs]; omega) ?_
  simp [setAt, V.cells, V.good, push_objs, ob, strs]
theorem wRep (W : LWr X) (k : Int) {Q : V → AH → Prop} (hQ : Q (.tup [.str (markW k), .bool (decide (3 ≤ k ∧ k ≤ 5))]) h) : Ecx X K.show_repeated [.int .i64 k] h Q := by
  refine fn_walk W.rep (by simp [A.show_repeated]) fun wf => ?_
  by_cases c3 : k = 3
  · subst c3; simp [A.show_repeated]; exact fin (by simp) hQ
  by_cases c4 : k = 4
  · subst c4; simp [A.show_repeated]; exact fin (by simp) hQ
  by_cases c5 : k = 5
  · subst c5; simp [A.show_repeated]; exact fin (by simp) hQ
  have hk : decide (3 ≤ k ∧ k ≤ 5) = false := by simp; omega
  rw [hk] at hQ
  simp [markW, c3, c4, c5] at hQ
  simp [A.show_repeated, c3, c4, c5]
  exact fin (by simp) hQ
end
end Go.Proofs.Ytdbbgkdepjidjaa.Al
namespace Go.Proofs.Ytdbbgkdepjidjaa.Al
open Go Go.RowKit
set_option linter.unusedSimpArgs false
set_option linter.unusedVariables false
attribute [-simp] List.getD_eq_getElem?_getD Int.not_lt Int.not_le List.map_take List.map_map
/-- A call that puts out M. -/
def WD (X : Cx) (k : Nat) (args : List V) (h : AH) (o : Nat) (t : Te) (st : Nat) (L M : List Str) : Prop := ∃ h1 st1, Det X k args h (.tup []) h1 ∧ SWE h h1 o st st1 ∧ WrO h1 o t st1 (L ++ M)
/-- Nodes below f. -/
def NodeD (X : Cx) (t : Te) (f : Nat) : Prop := ∀ h o st L (n : Nat), WrO h o t st L → n < f → n < t.nodes.length → L.length + (tokW t f n).length ≤ 2 ^ 40 → WD X K.show_writer_node [.ptr o 0, .int .i64 n] h o t st L (tokW t f n)
section
variable {X : Cx} {h : AH} {o st : Nat} {t : Te} {L : List Str} {f : Nat}
theorem brk_len (l : List Str) : (brk l).length = l.length + 2 := by simp [brk]
theorem wBracketed (W : LWr X) (nd : NodeD X t f) (r : WrO h o t st L) {n : Nat} (hn : n < f) (hl : n < t.nodes.length) (hb : L.length + (brk (tokW t f n)).length ≤ 2 ^ 40) :
    WD X K.show_writer_bracketed [.ptr o 0, .int .i64 n] h o t st L (brk (tokW t f n)) := by
  rw [brk_len] at hb
  obtain ⟨h1, d1, g1, r1⟩ := wPut W r [[40]] (by simp) (by simp; omega) (st2 := 2)
  obtain ⟨h2, st2, d2, g2, r2⟩ := nd h1 o _ _ n r1 hn hl (by simp; omega)
  obtain ⟨h3, d3, g3, r3⟩ := wPut W r2 [[41]] (by simp) (by simp; omega) (st2 := 2)
  refine ⟨h3, _, ?_, g1.trans (g2.trans g3), by simpa [brk] using r3⟩
  refine fn_any W.bracketed (by simp [A.show_writer_bracketed]) fun wf => ?_
  simp [A.show_writer_bracketed, fillL]
  refine ecall (d1.to ?_)
  simp [fillL]
  refine ecall (d2.to ?_)
  simp [fillL]
  refine ecall (d3.to ?_)
  simp
theorem kindT_at {n : Nat} (hl : n < t.nodes.length) : kindT t n = t.nodes[n].kind := by simp [kindT, hl]
theorem wAtom (W : LWr X) (nd : NodeD X t f) (r : WrO h o t st L) {n : Nat} (hn : n < f) (hl : n < t.nodes.length) (hb : L.length + (atomW t (tokW t f) n).length ≤ 2 ^ 40) :
    WD X K.show_writer_atom [.ptr o 0, .int .i64 n] h o t st L (atomW t (tokW t f) n) := by
  obtain ⟨e, ob, m⟩ := id r.ob
  have hg : (t.nodes.map ndV).getD n .undef = ndV t.nodes[n] := Enc.getD hl
  have hl' : (n : Int) < t.nodes.length := by omega
  have hk := kindT_at hl
  unfold atomW at hb ⊢
  rw [hk] at hb ⊢
  by_cases c : t.nodes[n].kind = 6 ∨ t.nodes[n].kind = 7
  · rw [if_pos c] at hb ⊢
    obtain ⟨h1, st1, d1, g1, r1⟩ := nd h o _ _ n r hn hl hb
    refine ⟨h1, st1, ?_, g1, r1⟩
    refine fn_any W.atom (by simp [A.show_writer_atom]) fun wf => ?_
    rcases c with c | c
    · simp [A.show_writer_atom, ob, hl', hg, ndV, ndC, V.cells, c]
      refine ecall (d1.to ?_)
      simp
    · simp [A.show_writer_atom, ob, hl', hg, ndV, ndC, V.cells, c]
      refine ecall (d1.to ?_)
      simp
  · rw [if_neg c] at hb ⊢
    obtain ⟨h1, st1, d1, g1, r1⟩ := wBracketed W nd r hn hl hb
    refine ⟨h1, st1, ?_, g1, r1⟩
    have c6 : ¬ t.nodes[n].kind = 6 := fun e => c (.inl e)
    have c7 : ¬ t.nodes[n].kind = 7 := fun e => c (.inr e)
    refine fn_any W.atom (by simp [A.show_writer_atom]) fun wf => ?_
    simp [A.show_writer_atom, ob, hl', hg, ndV, ndC, V.cells, c6, c7]
    refine ecall (d1.to ?_)
    simp
theorem wItem (W : LWr X) (nd : NodeD X t f) (r : WrO h o t st L) {n : Nat} (hn : n < f) (hl : n < t.nodes.length) (hb : L.length + (itemW t (tokW t f) n).length ≤ 2 ^ 40) :
    WD X K.show_writer_item [.ptr o 0, .int .i64 n] h o t st L (itemW t (tokW t f) n) := by
  obtain ⟨e, ob, m⟩ := id r.ob
  have hg : (t.nodes.map ndV).getD n .undef = ndV t.nodes[n] := Enc.getD hl
  have hl' : (n : Int) < t.nodes.length := by omega
  have hk := kindT_at hl
  unfold itemW at hb ⊢
  rw [hk] at hb ⊢
  by_cases c : 3 ≤ t.nodes[n].kind ∧ t.nodes[n].kind ≤ 5
  · rw [if_pos c] at hb ⊢
    obtain ⟨h1, st1, d1, g1, r1⟩ := nd h o _ _ n r hn hl hb
    refine ⟨h1, st1, ?_, g1, r1⟩
    refine fn_any W.item (by simp [A.show_writer_item]) fun wf => ?_
    simp [A.show_writer_item, ob, hl', hg, ndV, ndC, V.cells]
    refine ecall (wRep W t.nodes[n].kind ?_)
    simp [c]
    refine ecall (d1.to ?_)
    simp
  · rw [if_neg c] at hb ⊢
    obtain ⟨h1, st1, d1, g1, r1⟩ := wAtom W nd r hn hl hb
    refine ⟨h1, st1, ?_, g1, r1⟩
    refine fn_any W.item (by simp [A.show_writer_item]) fun wf => ?_
    simp [A.show_writer_item, ob, hl', hg, ndV, ndC, V.cells]
    refine ecall (wRep W t.nodes[n].kind ?_)
    simp [c]
    refine ecall (d1.to ?_)
    simp
theorem wAlt (W : LWr X) (nd : NodeD X t f) (r : WrO h o t st L) {n : Nat} (hn : n < f) (hl : n < t.nodes.length) (hb : L.length + (altW t (tokW t f) n).length ≤ 2 ^ 40) :
    WD X K.show_writer_alternative [.ptr o 0, .int .i64 n] h o t st L (altW t (tokW t f) n) := by
  obtain ⟨e, ob, m⟩ := id r.ob
  have hg : (t.nodes.map ndV).getD n .undef = ndV t.nodes[n] := Enc.getD hl
  have hl' : (n : Int) < t.nodes.length := by omega
  have hk := kindT_at hl
  unfold altW at hb ⊢
  rw [hk] at hb ⊢
  by_cases c : t.nodes[n].kind = 1
  · rw [if_pos c] at hb ⊢
    obtain ⟨h1, st1, d1, g1, r1⟩ := nd h o _ _ n r hn hl hb
    refine ⟨h1, st1, ?_, g1, r1⟩
    refine fn_any W.alt (by simp [A.show_writer_alternative]) fun wf => ?_
    simp [A.show_writer_alternative, ob, hl', hg, ndV, ndC, V.cells, c]
    refine ecall (d1.to ?_)
    simp
  · rw [if_neg c] at hb ⊢
    obtain ⟨h1, st1, d1, g1, r1⟩ := wItem W nd r hn hl hb
    refine ⟨h1, st1, ?_, g1, r1⟩
    refine fn_any W.alt (by simp [A.show_writer_alternative]) fun wf => ?_
    simp [A.show_writer_alternative, ob, hl', hg, ndV, ndC, V.cells, c]
    refine ecall (d1.to ?_)
    simp
/-- Of each of some kids, and something between. -/
theorem wEach (W : LWr X) (r : WrO h o t st L) {kids : List Int} (hkl : kids.length ≤ 2 ^ 30) {one : Int → List Str} {sep : List Str} {k1 : Nat} {bt : V} {sk : Nat}
    (hone : ∀ h' st' L' i (hi : i < kids.length), SWE h h' o st st' → WrO h' o t st' L' → L'.length + (one kids[i]).length ≤ 2 ^ 40 → WD X k1 [.ptr o 0, .int .i64 kids[i]] h' o t st' L' (one kids[i]))
    (hbt : (sep = [] ∧ bt = .sl 0 1 []) ∨ ∃ k2 b, bt = .sl 1 2 [.fn k2 [] b] ∧ ∀ h' st' L', SWE h h' o st st' → WrO h' o t st' L' → L'.length + sep.length ≤ 2 ^ 40 → WD X k2 b h' o t st' L' sep)
    (hb : L.length + (eachW sep one kids).length ≤ 2 ^ 40) :
    WD X K.show_each [.sl 1 sk (ints kids), .fn k1 [.ptr o 0] [], bt] h o t st L (eachW sep one kids) := by
  have hil : (ints kids).length = kids.length := by simp [ints]
  have hlen : ∀ i, i < kids.length → L.length + ((eachW sep one (kids.take i)).length + ((if i = 0 then [] else sep) ++ one (kids.getD i 0)).length) ≤ 2 ^ 40 := fun i hi => by
    have h1 := eachW_take (sep := sep) (one := one) hi
    have h2 := eachW_len (sep := sep) (one := one) (l := kids) (i + 1)
    have h3 : kids.getD i 0 = kids[i] := by simp [List.getD, hi]
    rw [h1, List.length_append] at h2
    rw [h3]; omega
  rcases hbt with ⟨rfl, rfl⟩ | ⟨k2, b, rfl, hsep⟩
  · obtain ⟨F, f0, f1, f2⟩ := chainD (fun i (a : AH × Nat) => SWE h a.1 o st a.2 ∧ WrO a.1 o t a.2 (L ++ eachW [] one (kids.take i))) (fun i a b => Det X k1 [.ptr o 0, .int .i64 (kids.getD i 0)] a.1 (.tup []) b.1) kids.length (h, st) ⟨SWE.refl h o st, by simpa [eachW] using r⟩ (fun i a hi ⟨g, w⟩ => by
      have h3 : kids.getD i 0 = kids[i] := by simp [List.getD, hi]
      have hb1 := hlen i hi
      simp only [ite_self, List.nil_append, h3] at hb1
      obtain ⟨h1, st1, d1, g1, r1⟩ := hone a.1 a.2 _ i hi g w (by rw [List.length_append]; omega)
      exact ⟨(h1, st1), ⟨g.trans g1, by rw [eachW_take hi]; simpa using r1⟩, by rw [h3]; exact d1⟩)
    refine ⟨(F kids.length).1, (F kids.length).2, ?_, (f1 _ (Nat.le_refl _)).1, by simpa using (f1 _ (Nat.le_refl _)).2⟩
    refine fn_any W.each (by simp [A.show_each]) fun wf => ?_
    simp [A.show_each, hil]
    refine loopI (n := kids.length) (fun m env h' => ∃ k, k ≤ kids.length ∧ m = kids.length - k ∧ h' = (F k).1 ∧
      env = [(1, .fn k1 [.ptr o 0] []), (2, .sl 0 1 []), (10, .sl 1 sk (ints kids)), (11, .int .i64 kids.length), (12, .int .i64 k)]) ?_ ⟨0, by omega, by omega, by rw [f0], rfl⟩
    rintro m env h' ⟨k, hk, rfl, rfl, rfl⟩
    unfold A.show_each.L0
    by_cases hlt : k < kids.length
    · have hlt' : (k : Int) < kids.length := by omega
      have hgk := ints_get hlt
      have h3 : kids.getD k 0 = kids[k] := by simp [List.getD, hlt]
      have d := f2 k hlt
      rw [h3] at d
      have hw1 : IntKind.i64.wrap ((k : Int) + 1) = ((k + 1 : Nat) : Int) := by rw [wrap_i64 (by omega) (by omega)]; rfl
      simp [hlt', hgk, V.cells]
      refine loopI (n := 0) (fun m env h' => m = 0 ∧ h' = (F k).1 ∧
        env = [(1, .fn k1 [.ptr o 0] []), (2, .sl 0 1 []), (6, .int .i64 k), (7, .int .i64 kids[k]), (10, .sl 1 sk (ints kids)), (11, .int .i64 kids.length), (12, .int .i64 k), (17, .sl 0 1 []), (18, .int .i64 0), (19, .int .i64 0)]) ?_ ⟨rfl, rfl, rfl⟩
      rintro m env h' ⟨rfl, rfl, rfl⟩
      unfold A.show_each.L1
      simp
      refine ecall (d.to ?_)
      simp [hw1, -Int.natCast_add]
      exact ⟨kids.length - (k + 1), by omega, iv ⟨k + 1, by omega, rfl, rfl, rfl⟩⟩
    · have hlt' : ¬ (k : Int) < kids.length := by omega
      obtain rfl : k = kids.length := by omega
      simp [hlt']
  · obtain ⟨F, f0, f1, f2⟩ := chainD (fun i (a : AH × Nat) => SWE h a.1 o st a.2 ∧ WrO a.1 o t a.2 (L ++ eachW sep one (kids.take i))) (fun i a c => ∃ hm, ((i = 0 ∧ hm = a.1) ∨ (i ≠ 0 ∧ Det X k2 b a.1 (.tup []) hm)) ∧ Det X k1 [.ptr o 0, .int .i64 (kids.getD i 0)] hm (.tup []) c.1) kids.length (h, st) ⟨SWE.refl h o st, by simpa [eachW] using r⟩ (fun i a hi ⟨g, w⟩ => by
      have h3 : kids.getD i 0 = kids[i] := by simp [List.getD, hi]
      have hb1 := hlen i hi
      rw [h3] at hb1
      by_cases c : i = 0
      · rw [if_pos c] at hb1
        obtain ⟨h1, st1, d1, g1, r1⟩ := hone a.1 a.2 _ i hi g w (by rw [List.length_append]; simp at hb1; omega)
        exact ⟨(h1, st1), ⟨g.trans g1, by rw [eachW_take hi, if_pos c]; simpa using r1⟩, a.1, .inl ⟨c, rfl⟩, by rw [h3]; exact d1⟩
      · rw [if_neg c, List.length_append] at hb1
        obtain ⟨h1, st1, d1, g1, r1⟩ := hsep a.1 a.2 _ g w (by rw [List.length_append]; omega)
        obtain ⟨h2, st2, d2, g2, r2⟩ := hone h1 st1 _ i hi (g.trans g1) r1 (by simp only [List.length_append]; omega)
        exact ⟨(h2, st2), ⟨(g.trans g1).trans g2, by rw [eachW_take hi, if_neg c]; simpa using r2⟩, h1, .inr ⟨c, d1⟩, by rw [h3]; exact d2⟩)
    refine ⟨(F kids.length).1, (F kids.length).2, ?_, (f1 _ (Nat.le_refl _)).1, by simpa using (f1 _ (Nat.le_refl _)).2⟩
    refine fn_any W.each (by simp [A.show_each]) fun wf => ?_
    simp [A.show_each, hil]
    refine loopI (n := kids.length) (fun m env h' => ∃ k, k ≤ kids.length ∧ m = kids.length - k ∧ h' = (F k).1 ∧
      env = [(1, .fn k1 [.ptr o 0] []), (2, .sl 1 2 [.fn k2 [] b]), (10, .sl 1 sk (ints kids)), (11, .int .i64 kids.length), (12, .int .i64 k)]) ?_ ⟨0, by omega, by omega, by rw [f0], rfl⟩
    rintro m env h' ⟨k, hk, rfl, rfl, rfl⟩
    unfold A.show_each.L0
    by_cases hlt : k < kids.length
    · have hlt' : (k : Int) < kids.length := by omega
      have hgk := ints_get hlt
      have h3 : kids.getD k 0 = kids[k] := by simp [List.getD, hlt]
      obtain ⟨hm, dm, d⟩ := f2 k hlt
      rw [h3] at d
      have hw1 : IntKind.i64.wrap ((k : Int) + 1) = ((k + 1 : Nat) : Int) := by rw [wrap_i64 (by omega) (by omega)]; rfl
      simp [hlt', hgk, V.cells]
      refine loopI (n := 1) (fun m env h' => ∃ j, j ≤ 1 ∧ m = 1 - j ∧ h' = (if j = 0 then (F k).1 else hm) ∧
        env = [(1, .fn k1 [.ptr o 0] []), (2, .sl 1 2 [.fn k2 [] b]), (6, .int .i64 k), (7, .int .i64 kids[k]), (10, .sl 1 sk (ints kids)), (11, .int .i64 kids.length), (12, .int .i64 k), (17, .sl 1 2 [.fn k2 [] b]), (18, .int .i64 1), (19, .int .i64 j)]) ?_ ⟨0, by omega, rfl, rfl, rfl⟩
      rintro m env h' ⟨j, hj, rfl, rfl, rfl⟩
      unfold A.show_each.L1
      by_cases hj0 : j = 0
      · subst hj0
        rcases dm with ⟨rfl, rfl⟩ | ⟨hk0, dm⟩
        · simp [V.cells]
          exact iv ⟨1, by omega, rfl, rfl, rfl⟩
        · have hk0' : (0 : Int) < k := by omega
          simp [V.cells, hk0', Nat.pos_of_ne_zero hk0]
          refine ecall (dm.to ?_)
          simp
          exact iv ⟨1, by omega, rfl, rfl, rfl⟩
      · obtain rfl : j = 1 := by omega
        simp
        refine ecall (d.to ?_)
        simp [hw1, -Int.natCast_add]
        exact ⟨kids.length - (k + 1), by omega, iv ⟨k + 1, by omega, rfl, rfl, rfl⟩⟩
    · have hlt' : ¬ (k : Int) < kids.length := by omega
      obtain rfl : k = kids.length := by omega
      simp [hlt']
/-- A tree whose nodes can be put out. -/
structure TOk (t : Te) : Prop where
  lt : ∀ i (h : i < t.nodes.length), ∀ k ∈ t.nodes[i].kids, 0 ≤ k ∧ k < i
  nm : ∀ x ∈ t.nodes, x.name.length ≤ 2 ^ 40
  ks : ∀ x ∈ t.nodes, x.kids.length ≤ 2 ^ 30
  kd : ∀ x ∈ t.nodes, x.kind = 6 ∨ x.kind = 7 ∨ x.kind = 1 ∨ x.kind = 2 ∨ (3 ≤ x.kind ∧ x.kind ≤ 5 ∧ x.kids.length = 1)
  n1 : t.nodes.length ≤ 2 ^ 30
theorem wNode1 (W : LWr X) (r : WrO h o t st L) {b : Nat} (hb : h.objs b = [.ptr o 0]) (hl : L.length + 1 ≤ 2 ^ 40) : WD X K.show_writer_node_1 [.ptr b 0] h o t st L [[124]] := by
  obtain ⟨h1, d1, g1, r1⟩ := wPut W r [[124]] (by simp) (by simp; omega) (st2 := 2)
  refine ⟨h1, _, ?_, g1, r1⟩
  refine fn_any W.node1 (by simp [A.show_writer_node_1]) fun wf => ?_
  simp [A.show_writer_node_1, hb, V.cells, fillL]
  refine ecall (d1.to ?_)
  simp
theorem wNode (W : LWr X) (T : TOk t) : ∀ f, NodeD X t f
  | 0, h, o, st, L, n, r, hn, hl, hb => by omega
  | f + 1, h, o, st, L, n, r, hn, hl, hb => by
    have nd := wNode W T f
    obtain ⟨e, ob, m⟩ := id r.ob
    have hg : (t.nodes.map ndV).getD n .undef = ndV t.nodes[n] := Enc.getD hl
    have hl' : (n : Int) < t.nodes.length := by omega
    have tk : tokW t (f + 1) n = if t.nodes[n].kind = 6 then [t.nodes[n].name] else if t.nodes[n].kind = 7 then [39 :: (t.nodes[n].name ++ [39])]
      else if t.nodes[n].kind = 1 then eachW [] (itemW t (tokW t f)) t.nodes[n].kids
      else if t.nodes[n].kind = 2 then eachW [[124]] (altW t (tokW t f)) t.nodes[n].kids
      else atomW t (tokW t f) (t.nodes[n].kids.getD 0 0) ++ [markW t.nodes[n].kind] := by
      rw [tokW]; simp [hl]
    have hlt := T.lt n hl
    have hnm := T.nm _ (List.getElem_mem hl)
    have hks := T.ks _ (List.getElem_mem hl)
    have hkd := T.kd _ (List.getElem_mem hl)
    have hn1 := T.n1
    rw [tk] at hb ⊢
    have hx' : ndV t.nodes[n] = .agg [.int .i64 t.nodes[n].kind, .str t.nodes[n].name, .sl 1 0 (ints t.nodes[n].kids)] := rfl
    rw [hx'] at hg
    generalize t.nodes[n].kind = kind at *
    generalize t.nodes[n].name = name at *
    generalize t.nodes[n].kids = kids at *
    have q1 : ¬ o = h.nobj := by have := r.lt; omega
    have q2 : ¬ o = h.nobj + 1 := by have := r.lt; omega
    have q3 : ¬ h.nobj = o := fun e => q1 e.symm
    have q4 : ¬ h.nobj + 1 = o := fun e => q2 e.symm
    generalize hA : (h.new [.ptr o 0]).new [.int .i64 kind, .str name, .sl 1 0 (ints kids)] = hA'
    have gA : SWE h hA' o st st := by rw [← hA]; exact ((SWE.refl h o st).new _).new _
    have rA : WrO hA' o t st L := by rw [← hA]; exact (r.new _).new _
    have oB : hA'.objs h.nobj = [.ptr o 0] := by rw [← hA]; simp
    have oC : hA'.objs (h.nobj + 1) = [.int .i64 kind, .str name, .sl 1 0 (ints kids)] := by rw [← hA]; simp
    have nA : hA'.nobj = h.nobj + 2 := by rw [← hA]; simp
    have kidN : ∀ k ∈ kids, ∃ m : Nat, k = (m : Int) ∧ m < f ∧ m < t.nodes.length := fun k hk => by
      obtain ⟨a, b⟩ := hlt k hk
      exact ⟨k.toNat, by omega, by omega, by omega⟩
    by_cases c6 : kind = 6
    · subst c6
      rw [if_pos rfl] at hb ⊢
      obtain ⟨h1, d1, g1, r1⟩ := wPut W rA [name] (by simp) (by simpa using hb) (st2 := 2)
      refine ⟨h1, _, ?_, gA.trans g1, r1⟩
      refine fn_any W.node (by simp [A.show_writer_node]) fun wf => ?_
      simp [A.show_writer_node, ob, hl', hg, V.cells, V.good, setAt, fillL, q1, q2, q3, q4]
      rw [hA]
      refine ecall (d1.to ?_)
      simp
    rw [if_neg c6] at hb ⊢
    by_cases c7 : kind = 7
    · subst c7
      rw [if_pos rfl] at hb ⊢
      obtain ⟨h1, d1, g1, r1⟩ := wPut W rA [39 :: (name ++ [39])] (by simp) (by simpa using hb) (st2 := 2)
      refine ⟨h1, _, ?_, gA.trans g1, r1⟩
      refine fn_any W.node (by simp [A.show_writer_node]) fun wf => ?_
      simp [A.show_writer_node, ob, hl', hg, V.cells, V.good, setAt, fillL, q1, q2, q3, q4]
      rw [hA]
      refine ⟨by omega, by omega, ?_⟩
      refine ecall (d1.to ?_)
      simp
    rw [if_neg c7] at hb ⊢
    by_cases c1 : kind = 1
    · subst c1
      rw [if_pos rfl] at hb ⊢
      obtain ⟨h1, st1, d1, g1, r1⟩ := wEach W rA (kids := kids) (sk := 0) (k1 := K.show_writer_item) hks (fun h' st' L' i hi g w hb' => by
        obtain ⟨m, e1, e2, e3⟩ := kidN _ (List.getElem_mem hi)
        rw [e1] at hb' ⊢
        exact wItem W nd w e2 e3 hb') (.inl ⟨rfl, rfl⟩) hb
      refine ⟨h1, _, ?_, gA.trans g1, r1⟩
      refine fn_any W.node (by simp [A.show_writer_node]) fun wf => ?_
      simp [A.show_writer_node, ob, hl', hg, V.cells, V.good, setAt, fillL, q1, q2, q3, q4]
      rw [hA]
      refine ecall (d1.to ?_)
      simp
    rw [if_neg c1] at hb ⊢
    by_cases c2 : kind = 2
    · subst c2
      rw [if_pos rfl] at hb ⊢
      obtain ⟨h1, st1, d1, g1, r1⟩ := wEach W rA (kids := kids) (sk := 0) (k1 := K.show_writer_alternative) hks (fun h' st' L' i hi g w hb' => by
        obtain ⟨m, e1, e2, e3⟩ := kidN _ (List.getElem_mem hi)
        rw [e1] at hb' ⊢
        exact wAlt W nd w e2 e3 hb') (.inr ⟨K.show_writer_node_1, [.ptr h.nobj 0], rfl, fun h' st' L' g w hb' => wNode1 W w (by rw [g.objs _ (by omega) q3]; exact oB) (by simpa using hb')⟩) hb
      refine ⟨h1, _, ?_, gA.trans g1, r1⟩
      refine fn_any W.node (by simp [A.show_writer_node]) fun wf => ?_
      simp [A.show_writer_node, ob, hl', hg, V.cells, V.good, setAt, fillL, q1, q2, q3, q4]
      rw [hA]
      refine ecall (d1.to ?_)
      simp
    rw [if_neg c2] at hb ⊢
    obtain ⟨k3, k5, k1⟩ : 3 ≤ kind ∧ kind ≤ 5 ∧ kids.length = 1 := by omega
    obtain ⟨k, rfl⟩ := List.length_eq_one_iff.1 k1
    obtain ⟨m, rfl, e2, e3⟩ := kidN k (by simp)
    simp only [List.getD_cons_zero] at hb ⊢
    rw [List.length_append] at hb
    obtain ⟨h1, st1, d1, g1, r1⟩ := wAtom W nd rA e2 e3 (by omega)
    obtain ⟨h2, d2, g2, r2⟩ := wPut W r1 [markW kind] (by simp) (by rw [List.length_append]; omega) (st2 := 2)
    refine ⟨h2, _, ?_, gA.trans (g1.trans g2), by simpa using r2⟩
    refine fn_any W.node (by simp [A.show_writer_node]) fun wf => ?_
    simp [A.show_writer_node, ob, hl', hg, V.cells, V.good, setAt, fillL, q1, q2, q3, q4, c6, c7, c1, c2]
    rw [hA]
    refine ecall (wRep W kind ?_)
    have oB1 : h1.objs h.nobj = [.ptr o 0] := by rw [g1.objs _ (by omega) q3]; exact oB
    simp [oB, oC, ints, V.cells]
    refine dcallE _ _ d1 ?_
    simp [oB1, fillL]
    refine ecall (d2.to ?_)
    simp
end
end Go.Proofs.Ytdbbgkdepjidjaa.Al
namespace Go.Proofs.Ytdbbgkdepjidjaa.Al
def A.probatelaw07_ShowTells.L0 : AC := .post (.seq (.reg [⟨(some 92), none, .bin .lss (.t 91) (.t 90)⟩])
  (.keep [9, 11, 90, 91, 92] (.seq (.cond (.t 92) .skip (.exit 1))
  (.keep [9, 11, 90, 91] (.seq (.block 2 (.seq (.reg [⟨(some 93), none, .mv (.t 91)⟩, ⟨(some 12), none, .mv (.t 93)⟩])
  (.keep [9, 11, 12, 90, 91] (.seq (.draw [(.pl, ⟨(some 94), none, .mv (.t 9)⟩), (.pl, ⟨(some 95), none, .mv (.t 12)⟩), (.pl, ⟨(some 96), none, .ia 1 (.t 94) (.t 95)⟩), (.pl, ⟨(some 97), none, .load false 1 (.t 96)⟩), (.pl, ⟨(some 98), none, .mv (.t 11)⟩), (.pl, ⟨(some 99), none, .mv (.t 12)⟩), (.pl, ⟨(some 100), none, .ia 1 (.t 98) (.t 99)⟩), (.pl, ⟨(some 101), none, .load false 1 (.t 100)⟩), (.pl, ⟨(some 102), none, .bin .neq (.t 97) (.t 101)⟩)])
  (.keep [9, 11, 90, 91, 102] (.cond (.t 102) (.seq (.reg [⟨(some 4), none, .mv (.c (.bool false))⟩]) .ret) .skip))))))
  (.keep [9, 11, 90, 91] (.reg [⟨(some 103), none, .bin .add (.t 91) (.c (.int .i64 (1)))⟩, ⟨(some 91), none, .mv (.t 103)⟩]))))))) [9, 11, 90, 91]
def A.probatelaw07_ShowTells : AFn := ⟨104, [(4, none)], (.seq (.reg [⟨(some 2), none, .box (.t 0)⟩, ⟨(some 4), none, .mv (.c (.bool false))⟩])
  (.keep [1, 2] (.seq (.seq (.reg [⟨(some 13), none, .call (.c (.fn K.probatelaw07_awake [] [])) []⟩, ⟨(some 14), none, .un .not (.t 13)⟩])
  (.keep [1, 2, 14] (.cond (.t 14) (.seq (.reg [⟨(some 4), none, .mv (.c (.bool false))⟩]) .ret) .skip)))
  (.keep [1, 2] (.seq (.seq (.reg [⟨(some 15), none, .load true 2 (.t 2)⟩, ⟨(some 16), none, .call (.c (.fn K.probatelaw06_Large [] [])) [(.t 15)]⟩])
  (.keep [1, 2, 16] (.cond (.t 16) (.seq (.reg [⟨(some 4), none, .mv (.c (.bool true))⟩]) .ret) .skip)))
  (.keep [1, 2] (.seq (.reg [⟨(some 18), none, .load true 2 (.t 2)⟩, ⟨(some 19), none, .call (.c (.fn K.show_Text [] [])) [(.t 18)]⟩, ⟨(some 17), none, .mv (.t 19)⟩, ⟨(some 20), none, .ext (.t 17) 0⟩, ⟨(some 21), none, .ext (.t 17) 1⟩, ⟨(some 5), none, .mv (.t 20)⟩, ⟨(some 6), none, .mv (.t 21)⟩])
  (.keep [1, 2, 5, 6] (.seq (.reg [⟨(some 23), none, .load true 2 (.t 2)⟩, ⟨(some 24), none, .call (.c (.fn K.probatelaw06_Own [] [])) [(.t 23)]⟩, ⟨(some 25), none, .call (.c (.fn K.probateref07_Text [] [])) [(.t 24)]⟩, ⟨(some 22), none, .mv (.t 25)⟩, ⟨(some 26), none, .ext (.t 22) 0⟩, ⟨(some 27), none, .ext (.t 22) 1⟩, ⟨(some 7), none, .mv (.t 26)⟩, ⟨(some 8), none, .mv (.t 27)⟩])
  (.keep [1, 2, 5, 6, 7, 8] (.seq (.seq (.reg [⟨(some 28), none, .mv (.t 5)⟩, ⟨(some 29), none, .mv (.t 7)⟩, ⟨(some 30), none, .bin .neq (.t 28) (.t 29)⟩, ⟨(some 31), none, .mv (.t 30)⟩, ⟨(some 32), (some (31, false)), .mv (.t 6)⟩, ⟨(some 33), (some (31, false)), .mv (.t 8)⟩, ⟨(some 34), (some (31, false)), .bin .neq (.t 32) (.t 33)⟩, ⟨(some 35), none, .pick (.t 31) (.c (.bool true)) (.t 34)⟩])
  (.keep [1, 2, 35] (.cond (.t 35) (.seq (.reg [⟨(some 4), none, .mv (.c (.bool false))⟩]) .ret) .skip)))
  (.keep [1, 2] (.seq (.reg [⟨(some 37), none, .load true 2 (.t 2)⟩, ⟨(some 38), none, .mv (.t 1)⟩, ⟨(some 39), none, .call (.c (.fn K.show_Tokens [] [])) [(.t 37), (.t 38)]⟩, ⟨(some 36), none, .mv (.t 39)⟩, ⟨(some 40), none, .ext (.t 36) 0⟩, ⟨(some 41), none, .ext (.t 36) 1⟩, ⟨(some 9), none, .mv (.t 40)⟩, ⟨(some 10), none, .mv (.t 41)⟩])
  (.keep [1, 2, 9, 10] (.seq (.block 0 (.seq (.reg [⟨(some 43), none, .load true 2 (.t 2)⟩, ⟨(some 44), none, .call (.c (.fn K.probatelaw06_Own [] [])) [(.t 43)]⟩, ⟨(some 45), none, .call (.c (.fn K.probateref06_Right [] [])) [(.t 44)]⟩, ⟨(some 46), none, .un .not (.t 45)⟩, ⟨(some 42), none, .mv (.t 46)⟩])
  (.keep [1, 2, 9, 10, 42] (.cond (.t 42) (.seq (.reg [⟨(some 47), none, .mv (.t 10)⟩, ⟨(some 48), none, .bin .eql (.t 47) (.c (.int .i64 (1)))⟩, ⟨(some 49), none, .mv (.t 48)⟩, ⟨(some 50), (some (49, true)), .mv (.t 9)⟩, ⟨(some 51), (some (49, true)), .len false (.t 50)⟩, ⟨(some 52), (some (49, true)), .bin .eql (.t 51) (.c (.int .i64 (0)))⟩, ⟨(some 53), none, .pick (.t 49) (.t 52) (.c (.bool false))⟩, ⟨(some 4), none, .mv (.t 53)⟩]) .ret) (.seq (.reg [⟨(some 55), none, .mv (.t 1)⟩, ⟨(some 56), none, .bin .lss (.t 55) (.c (.int .i64 (0)))⟩, ⟨(some 57), none, .mv (.t 56)⟩, ⟨(some 58), (some (57, false)), .mv (.t 1)⟩, ⟨(some 59), (some (57, false)), .fa 0 (.t 2)⟩, ⟨(some 60), (some (57, false)), .load false 1 (.t 59)⟩, ⟨(some 61), (some (57, false)), .len false (.t 60)⟩, ⟨(some 62), (some (57, false)), .bin .geq (.t 58) (.t 61)⟩, ⟨(some 63), none, .pick (.t 57) (.c (.bool true)) (.t 62)⟩, ⟨(some 54), none, .mv (.t 63)⟩])
  (.keep [1, 2, 9, 10, 54] (.cond (.t 54) (.seq (.reg [⟨(some 64), none, .mv (.t 10)⟩, ⟨(some 65), none, .bin .eql (.t 64) (.c (.int .i64 (11)))⟩, ⟨(some 66), none, .mv (.t 65)⟩, ⟨(some 67), (some (66, true)), .mv (.t 9)⟩, ⟨(some 68), (some (66, true)), .len false (.t 67)⟩, ⟨(some 69), (some (66, true)), .bin .eql (.t 68) (.c (.int .i64 (0)))⟩, ⟨(some 70), none, .pick (.t 66) (.t 69) (.c (.bool false))⟩, ⟨(some 4), none, .mv (.t 70)⟩]) .ret) .skip)))))))
  (.keep [1, 2, 9, 10] (.seq (.draw [(.pl, ⟨(some 71), none, .load true 2 (.t 2)⟩), (.pl, ⟨(some 72), none, .call (.c (.fn K.probatelaw06_Own [] [])) [(.t 71)]⟩), (.pl, ⟨(some 73), none, .fa 0 (.t 2)⟩), (.pl, ⟨(some 74), none, .load false 1 (.t 73)⟩), (.pl, ⟨(some 75), none, .mv (.t 1)⟩), (.pl, ⟨(some 76), none, .ia 2 (.t 74) (.t 75)⟩), (.pl, ⟨(some 77), none, .fa 1 (.t 76)⟩), (.pl, ⟨(some 78), none, .load false 1 (.t 77)⟩), (.eff, ⟨(some 79), none, .call (.c (.fn K.probateref07_Node [] [])) [(.t 72), (.t 78)]⟩), (.pl, ⟨(some 11), none, .mv (.t 79)⟩)])
  (.keep [9, 10, 11] (.seq (.seq (.reg [⟨(some 80), none, .mv (.t 10)⟩, ⟨(some 81), none, .bin .neq (.t 80) (.c (.int .i64 (0)))⟩, ⟨(some 82), none, .mv (.t 81)⟩, ⟨(some 83), (some (82, false)), .mv (.t 9)⟩, ⟨(some 84), (some (82, false)), .len false (.t 83)⟩, ⟨(some 85), (some (82, false)), .mv (.t 11)⟩, ⟨(some 86), (some (82, false)), .len false (.t 85)⟩, ⟨(some 87), (some (82, false)), .bin .neq (.t 84) (.t 86)⟩, ⟨(some 88), none, .pick (.t 82) (.c (.bool true)) (.t 87)⟩])
  (.keep [9, 11, 88] (.cond (.t 88) (.seq (.reg [⟨(some 4), none, .mv (.c (.bool false))⟩]) .ret) .skip)))
  (.keep [9, 11] (.seq (.seq (.reg [⟨(some 89), none, .mv (.t 9)⟩, ⟨(some 90), none, .len false (.t 89)⟩, ⟨(some 91), none, .mv (.c (.int .i64 (0)))⟩])
  (.keep [9, 11, 90, 91] (.block 1 (.loop A.probatelaw07_ShowTells.L0))))
  (.keep [] (.seq (.reg [⟨(some 4), none, .mv (.c (.bool true))⟩]) .ret)))))))))))))))))))))))⟩
def A.probatelaw07_awake : AFn := ⟨78, [(0, none)], (.seq (.reg [⟨(some 0), none, .mv (.c (.bool false))⟩])
  (.keep [] (.seq (.reg [⟨(some 10), none, .bld [(.str []), (.int .i64 (0))] [(0, 1, (.c (.str [115]))), (1, 1, (.c (.int .i64 (5))))]⟩, ⟨(some 11), none, .bsl 2 true [(.str []), (.int .i64 (0))] 1 [(0, (.t 10))]⟩, ⟨(some 12), none, .bld [(.int .i64 (0)), (.str []), (.sl 0 1 [])] [(0, 1, (.c (.int .i64 (7)))), (1, 1, (.c (.str [97])))]⟩, ⟨(some 13), none, .bld [(.int .i64 (0)), (.str []), (.sl 0 1 [])] [(0, 1, (.c (.int .i64 (6)))), (1, 1, (.c (.str [115])))]⟩, ⟨(some 14), none, .bsl 1 false [(.int .i64 (0))] 2 [(0, (.c (.int .i64 (0)))), (1, (.c (.int .i64 (1))))]⟩, ⟨(some 15), none, .bld [(.int .i64 (0)), (.str []), (.sl 0 1 [])] [(0, 1, (.c (.int .i64 (1)))), (2, 1, (.t 14))]⟩, ⟨(some 16), none, .bsl 1 false [(.int .i64 (0))] 1 [(0, (.c (.int .i64 (2))))]⟩, ⟨(some 17), none, .bld [(.int .i64 (0)), (.str []), (.sl 0 1 [])] [(0, 1, (.c (.int .i64 (3)))), (2, 1, (.t 16))]⟩, ⟨(some 18), none, .bld [(.int .i64 (0)), (.str []), (.sl 0 1 [])] [(0, 1, (.c (.int .i64 (1))))]⟩, ⟨(some 19), none, .bsl 1 false [(.int .i64 (0))] 2 [(0, (.c (.int .i64 (3)))), (1, (.c (.int .i64 (4))))]⟩, ⟨(some 20), none, .bld [(.int .i64 (0)), (.str []), (.sl 0 1 [])] [(0, 1, (.c (.int .i64 (2)))), (2, 1, (.t 19))]⟩, ⟨(some 21), none, .bsl 3 true [(.int .i64 (0)), (.str []), (.sl 0 1 [])] 6 [(0, (.t 12)), (1, (.t 13)), (2, (.t 15)), (3, (.t 17)), (4, (.t 18)), (5, (.t 20))]⟩, ⟨(some 22), none, .bld [(.sl 0 1 []), (.sl 0 1 [])] [(0, 1, (.t 11)), (1, 1, (.t 21))]⟩, ⟨(some 1), none, .alloc [(.sl 0 1 []), (.sl 0 1 [])]⟩, ⟨none, none, .store 2 (.t 1) (.t 22)⟩])
  (.keep [1] (.seq (.reg [⟨(some 24), none, .load true 2 (.t 1)⟩, ⟨(some 25), none, .call (.c (.fn K.show_Text [] [])) [(.t 24)]⟩, ⟨(some 23), none, .mv (.t 25)⟩, ⟨(some 26), none, .ext (.t 23) 0⟩, ⟨(some 27), none, .ext (.t 23) 1⟩, ⟨(some 2), none, .mv (.t 26)⟩, ⟨(some 3), none, .mv (.t 27)⟩])
  (.keep [1, 2, 3] (.seq (.reg [⟨(some 29), none, .load true 2 (.t 1)⟩, ⟨(some 30), none, .call (.c (.fn K.show_Tokens [] [])) [(.t 29), (.c (.int .i64 (0)))]⟩, ⟨(some 28), none, .mv (.t 30)⟩, ⟨(some 31), none, .ext (.t 28) 0⟩, ⟨(some 32), none, .ext (.t 28) 1⟩, ⟨(some 4), none, .mv (.t 31)⟩, ⟨(some 5), none, .mv (.t 32)⟩])
  (.keep [1, 2, 3, 4, 5] (.seq (.reg [⟨(some 34), none, .bld [(.sl 0 1 []), (.sl 0 1 [])] []⟩, ⟨(some 35), none, .call (.c (.fn K.show_Text [] [])) [(.t 34)]⟩, ⟨(some 33), none, .mv (.t 35)⟩, ⟨(some 36), none, .ext (.t 33) 0⟩, ⟨(some 37), none, .ext (.t 33) 1⟩, ⟨(some 6), none, .mv (.t 36)⟩, ⟨(some 7), none, .mv (.t 37)⟩])
  (.keep [1, 2, 3, 4, 5, 7] (.seq (.reg [⟨(some 39), none, .load true 2 (.t 1)⟩, ⟨(some 40), none, .call (.c (.fn K.show_Tokens [] [])) [(.t 39), (.c (.int .i64 (1)))]⟩, ⟨(some 38), none, .mv (.t 40)⟩, ⟨(some 41), none, .ext (.t 38) 0⟩, ⟨(some 42), none, .ext (.t 38) 1⟩, ⟨(some 8), none, .mv (.t 41)⟩, ⟨(some 9), none, .mv (.t 42)⟩])
  (.keep [2, 3, 4, 5, 7, 9] (.seq (.reg [⟨(some 43), none, .mv (.t 2)⟩, ⟨(some 44), none, .bin .eql (.t 43) (.c (.str [115, 32, 58, 32, 40, 32, 39, 97, 39, 32, 115, 32, 41, 32, 42, 32, 124, 32, 59, 10]))⟩, ⟨(some 45), none, .mv (.t 44)⟩, ⟨(some 46), (some (45, true)), .mv (.t 3)⟩, ⟨(some 47), (some (45, true)), .bin .eql (.t 46) (.c (.int .i64 (0)))⟩, ⟨(some 48), none, .pick (.t 45) (.t 47) (.c (.bool false))⟩, ⟨(some 49), none, .mv (.t 48)⟩, ⟨(some 50), (some (49, true)), .mv (.t 4)⟩, ⟨(some 51), (some (49, true)), .len false (.t 50)⟩, ⟨(some 52), (some (49, true)), .bin .eql (.t 51) (.c (.int .i64 (6)))⟩, ⟨(some 53), none, .pick (.t 49) (.t 52) (.c (.bool false))⟩, ⟨(some 54), none, .mv (.t 53)⟩, ⟨(some 55), (some (54, true)), .mv (.t 4)⟩, ⟨(some 56), (some (54, true)), .ia 1 (.t 55) (.c (.int .i64 (0)))⟩, ⟨(some 57), (some (54, true)), .load false 1 (.t 56)⟩, ⟨(some 58), (some (54, true)), .bin .eql (.t 57) (.c (.str [40]))⟩, ⟨(some 59), none, .pick (.t 54) (.t 58) (.c (.bool false))⟩, ⟨(some 60), none, .mv (.t 59)⟩, ⟨(some 61), (some (60, true)), .mv (.t 4)⟩, ⟨(some 62), (some (60, true)), .ia 1 (.t 61) (.c (.int .i64 (5)))⟩, ⟨(some 63), (some (60, true)), .load false 1 (.t 62)⟩, ⟨(some 64), (some (60, true)), .bin .eql (.t 63) (.c (.str [124]))⟩, ⟨(some 65), none, .pick (.t 60) (.t 64) (.c (.bool false))⟩, ⟨(some 66), none, .mv (.t 65)⟩, ⟨(some 67), (some (66, true)), .mv (.t 5)⟩, ⟨(some 68), (some (66, true)), .bin .eql (.t 67) (.c (.int .i64 (0)))⟩, ⟨(some 69), none, .pick (.t 66) (.t 68) (.c (.bool false))⟩, ⟨(some 70), none, .mv (.t 69)⟩, ⟨(some 71), (some (70, true)), .mv (.t 7)⟩, ⟨(some 72), (some (70, true)), .bin .eql (.t 71) (.c (.int .i64 (1)))⟩, ⟨(some 73), none, .pick (.t 70) (.t 72) (.c (.bool false))⟩, ⟨(some 74), none, .mv (.t 73)⟩, ⟨(some 75), (some (74, true)), .mv (.t 9)⟩, ⟨(some 76), (some (74, true)), .bin .eql (.t 75) (.c (.int .i64 (11)))⟩, ⟨(some 77), none, .pick (.t 74) (.t 76) (.c (.bool false))⟩, ⟨(some 0), none, .mv (.t 77)⟩]) .ret)))))))))))))⟩
def A.probateref07_Text.L1 : AC := .post (.seq (.seq (.reg [⟨(some 35), none, .mv (.t 7)⟩, ⟨(some 36), none, .mv (.t 6)⟩, ⟨(some 37), none, .len false (.t 36)⟩, ⟨(some 38), none, .bin .lss (.t 35) (.t 37)⟩])
  (.keep [1, 4, 5, 6, 7, 38] (.cond (.t 38) .skip (.exit 2))))
  (.keep [1, 4, 5, 6, 7] (.seq (.block 3 (.reg [⟨(some 41), none, .mv (.t 4)⟩, ⟨(some 42), none, .bin .add (.t 41) (.c (.str [32]))⟩, ⟨(some 43), none, .mv (.t 6)⟩, ⟨(some 44), none, .mv (.t 7)⟩, ⟨(some 45), none, .ia 1 (.t 43) (.t 44)⟩, ⟨(some 46), none, .load false 1 (.t 45)⟩, ⟨(some 47), none, .bin .add (.t 42) (.t 46)⟩, ⟨(some 4), none, .mv (.t 47)⟩]))
  (.keep [1, 4, 5, 6, 7] (.reg [⟨(some 39), none, .mv (.t 7)⟩, ⟨(some 40), none, .bin .add (.t 39) (.c (.int .i64 (1)))⟩, ⟨(some 7), none, .mv (.t 40)⟩]))))) [1, 4, 5, 6, 7]
def A.probateref07_Text.L0 : AC := .post (.seq (.seq (.reg [⟨(some 11), none, .mv (.t 5)⟩, ⟨(some 12), none, .fa 0 (.t 1)⟩, ⟨(some 13), none, .load false 1 (.t 12)⟩, ⟨(some 14), none, .len false (.t 13)⟩, ⟨(some 15), none, .bin .lss (.t 11) (.t 14)⟩])
  (.keep [1, 4, 5, 15] (.cond (.t 15) .skip (.exit 0))))
  (.keep [1, 4, 5] (.seq (.block 1 (.seq (.reg [⟨(some 18), none, .mv (.t 4)⟩, ⟨(some 19), none, .fa 0 (.t 1)⟩, ⟨(some 20), none, .load false 1 (.t 19)⟩, ⟨(some 21), none, .mv (.t 5)⟩, ⟨(some 22), none, .ia 2 (.t 20) (.t 21)⟩, ⟨(some 23), none, .fa 0 (.t 22)⟩, ⟨(some 24), none, .load false 1 (.t 23)⟩, ⟨(some 25), none, .bin .add (.t 18) (.t 24)⟩, ⟨(some 26), none, .bin .add (.t 25) (.c (.str [32, 58]))⟩, ⟨(some 4), none, .mv (.t 26)⟩])
  (.keep [1, 4, 5] (.seq (.draw [(.pl, ⟨(some 27), none, .load true 2 (.t 1)⟩), (.pl, ⟨(some 28), none, .fa 0 (.t 1)⟩), (.pl, ⟨(some 29), none, .load false 1 (.t 28)⟩), (.pl, ⟨(some 30), none, .mv (.t 5)⟩), (.pl, ⟨(some 31), none, .ia 2 (.t 29) (.t 30)⟩), (.pl, ⟨(some 32), none, .fa 1 (.t 31)⟩), (.pl, ⟨(some 33), none, .load false 1 (.t 32)⟩), (.eff, ⟨(some 34), none, .call (.c (.fn K.probateref07_Node [] [])) [(.t 27), (.t 33)]⟩), (.pl, ⟨(some 6), none, .mv (.t 34)⟩)])
  (.keep [1, 4, 5, 6] (.seq (.seq (.reg [⟨(some 7), none, .mv (.c (.int .i64 (0)))⟩])
  (.keep [1, 4, 5, 6, 7] (.block 2 (.loop A.probateref07_Text.L1))))
  (.keep [1, 4, 5] (.reg [⟨(some 48), none, .mv (.t 4)⟩, ⟨(some 49), none, .bin .add (.t 48) (.c (.str [32, 59, 10]))⟩, ⟨(some 4), none, .mv (.t 49)⟩]))))))))
  (.keep [1, 4, 5] (.reg [⟨(some 16), none, .mv (.t 5)⟩, ⟨(some 17), none, .bin .add (.t 16) (.c (.int .i64 (1)))⟩, ⟨(some 5), none, .mv (.t 17)⟩]))))) [1, 4, 5]
def A.probateref07_Text : AFn := ⟨54, [(2, none), (3, none)], (.seq (.reg [⟨(some 1), none, .box (.t 0)⟩, ⟨(some 2), none, .mv (.c (.str []))⟩, ⟨(some 3), none, .mv (.c (.int .i64 (0)))⟩])
  (.keep [1] (.seq (.seq (.reg [⟨(some 8), none, .load true 2 (.t 1)⟩, ⟨(some 9), none, .call (.c (.fn K.probateref06_Right [] [])) [(.t 8)]⟩, ⟨(some 10), none, .un .not (.t 9)⟩])
  (.keep [1, 10] (.cond (.t 10) (.seq (.reg [⟨(some 2), none, .mv (.c (.str []))⟩, ⟨(some 3), none, .mv (.c (.int .i64 (1)))⟩]) .ret) .skip)))
  (.keep [1] (.seq (.reg [⟨(some 4), none, .mv (.c (.str []))⟩])
  (.keep [1, 4] (.seq (.seq (.reg [⟨(some 5), none, .mv (.c (.int .i64 (0)))⟩])
  (.keep [1, 4, 5] (.block 0 (.loop A.probateref07_Text.L0))))
  (.keep [4] (.seq (.seq (.reg [⟨(some 50), none, .mv (.t 4)⟩, ⟨(some 51), none, .len true (.t 50)⟩, ⟨(some 52), none, .bin .gtr (.t 51) (.c (.int .i64 (4000)))⟩])
  (.keep [4, 52] (.cond (.t 52) (.seq (.reg [⟨(some 2), none, .mv (.c (.str []))⟩, ⟨(some 3), none, .mv (.c (.int .i64 (5)))⟩]) .ret) .skip)))
  (.keep [4] (.seq (.reg [⟨(some 53), none, .mv (.t 4)⟩, ⟨(some 2), none, .mv (.t 53)⟩, ⟨(some 3), none, .mv (.c (.int .i64 (0)))⟩]) .ret)))))))))))⟩
def A.probateref07_Node.L0 : AC := .post (.seq (.seq (.reg [⟨(some 61), none, .mv (.t 7)⟩, ⟨(some 62), none, .fa 2 (.t 5)⟩, ⟨(some 63), none, .load false 1 (.t 62)⟩, ⟨(some 64), none, .len false (.t 63)⟩, ⟨(some 65), none, .bin .lss (.t 61) (.t 64)⟩])
  (.keep [2, 5, 6, 7, 65] (.cond (.t 65) .skip (.exit 1))))
  (.keep [2, 5, 6, 7] (.seq (.block 2 (.draw [(.pl, ⟨(some 68), none, .mv (.t 6)⟩), (.pl, ⟨(some 69), none, .load true 2 (.t 2)⟩), (.pl, ⟨(some 70), none, .fa 2 (.t 5)⟩), (.pl, ⟨(some 71), none, .load false 1 (.t 70)⟩), (.pl, ⟨(some 72), none, .mv (.t 7)⟩), (.pl, ⟨(some 73), none, .ia 1 (.t 71) (.t 72)⟩), (.pl, ⟨(some 74), none, .load false 1 (.t 73)⟩), (.eff, ⟨(some 75), none, .call (.c (.fn K.probateref07_item [] [])) [(.t 69), (.t 74), (.c (.bool true))]⟩), (.eff, ⟨(some 76), none, .app 1 16 (.t 68) (.t 75)⟩), (.pl, ⟨(some 6), none, .mv (.t 76)⟩)]))
  (.keep [2, 5, 6, 7] (.reg [⟨(some 66), none, .mv (.t 7)⟩, ⟨(some 67), none, .bin .add (.t 66) (.c (.int .i64 (1)))⟩, ⟨(some 7), none, .mv (.t 67)⟩]))))) [2, 5, 6, 7]
def A.probateref07_Node.L1 : AC := .post (.seq (.seq (.reg [⟨(some 79), none, .mv (.t 8)⟩, ⟨(some 80), none, .fa 2 (.t 5)⟩, ⟨(some 81), none, .load false 1 (.t 80)⟩, ⟨(some 82), none, .len false (.t 81)⟩, ⟨(some 83), none, .bin .lss (.t 79) (.t 82)⟩])
  (.keep [2, 5, 6, 8, 83] (.cond (.t 83) .skip (.exit 3))))
  (.keep [2, 5, 6, 8] (.seq (.block 4 (.seq (.seq (.reg [⟨(some 86), none, .mv (.t 8)⟩, ⟨(some 87), none, .bin .gtr (.t 86) (.c (.int .i64 (0)))⟩])
  (.keep [2, 5, 6, 8, 87] (.cond (.t 87) (.reg [⟨(some 88), none, .mv (.t 6)⟩, ⟨(some 89), none, .bsl 1 false [(.str [])] 1 [(0, (.c (.str [124])))]⟩, ⟨(some 90), none, .app 1 16 (.t 88) (.t 89)⟩, ⟨(some 6), none, .mv (.t 90)⟩]) .skip)))
  (.keep [2, 5, 6, 8] (.seq (.draw [(.pl, ⟨(some 91), none, .fa 1 (.t 2)⟩), (.pl, ⟨(some 92), none, .load false 1 (.t 91)⟩), (.pl, ⟨(some 93), none, .fa 2 (.t 5)⟩), (.pl, ⟨(some 94), none, .load false 1 (.t 93)⟩), (.pl, ⟨(some 95), none, .mv (.t 8)⟩), (.pl, ⟨(some 96), none, .ia 1 (.t 94) (.t 95)⟩), (.pl, ⟨(some 97), none, .load false 1 (.t 96)⟩), (.pl, ⟨(some 98), none, .ia 3 (.t 92) (.t 97)⟩), (.pl, ⟨(some 99), none, .fa 0 (.t 98)⟩), (.pl, ⟨(some 100), none, .load false 1 (.t 99)⟩), (.pl, ⟨(some 101), none, .bin .eql (.t 100) (.c (.int .i64 (1)))⟩)])
  (.keep [2, 5, 6, 8, 101] (.cond (.t 101) (.draw [(.pl, ⟨(some 102), none, .mv (.t 6)⟩), (.pl, ⟨(some 103), none, .load true 2 (.t 2)⟩), (.pl, ⟨(some 104), none, .fa 2 (.t 5)⟩), (.pl, ⟨(some 105), none, .load false 1 (.t 104)⟩), (.pl, ⟨(some 106), none, .mv (.t 8)⟩), (.pl, ⟨(some 107), none, .ia 1 (.t 105) (.t 106)⟩), (.pl, ⟨(some 108), none, .load false 1 (.t 107)⟩), (.eff, ⟨(some 109), none, .call (.c (.fn K.probateref07_Node [] [])) [(.t 103), (.t 108)]⟩), (.eff, ⟨(some 110), none, .app 1 16 (.t 102) (.t 109)⟩), (.pl, ⟨(some 6), none, .mv (.t 110)⟩)]) (.draw [(.pl, ⟨(some 111), none, .mv (.t 6)⟩), (.pl, ⟨(some 112), none, .load true 2 (.t 2)⟩), (.pl, ⟨(some 113), none, .fa 2 (.t 5)⟩), (.pl, ⟨(some 114), none, .load false 1 (.t 113)⟩), (.pl, ⟨(some 115), none, .mv (.t 8)⟩), (.pl, ⟨(some 116), none, .ia 1 (.t 114) (.t 115)⟩), (.pl, ⟨(some 117), none, .load false 1 (.t 116)⟩), (.eff, ⟨(some 118), none, .call (.c (.fn K.probateref07_item [] [])) [(.t 112), (.t 117), (.c (.bool true))]⟩), (.eff, ⟨(some 119), none, .app 1 16 (.t 111) (.t 118)⟩), (.pl, ⟨(some 6), none, .mv (.t 119)⟩)])))))))
  (.keep [2, 5, 6, 8] (.reg [⟨(some 84), none, .mv (.t 8)⟩, ⟨(some 85), none, .bin .add (.t 84) (.c (.int .i64 (1)))⟩, ⟨(some 8), none, .mv (.t 85)⟩]))))) [2, 5, 6, 8]
def A.probateref07_Node : AFn := ⟨121, [(4, none)], (.seq (.reg [⟨(some 2), none, .box (.t 0)⟩, ⟨(some 4), none, .mv (.c (.sl 0 1 []))⟩])
  (.keep [1, 2] (.seq (.reg [⟨(some 9), none, .fa 1 (.t 2)⟩, ⟨(some 10), none, .load false 1 (.t 9)⟩, ⟨(some 11), none, .mv (.t 1)⟩, ⟨(some 12), none, .ia 3 (.t 10) (.t 11)⟩, ⟨(some 13), none, .load true 3 (.t 12)⟩, ⟨(some 5), none, .alloc [(.int .i64 (0)), (.str []), (.sl 0 1 [])]⟩, ⟨none, none, .store 3 (.t 5) (.t 13)⟩])
  (.keep [2, 5] (.seq (.reg [⟨(some 14), none, .bsl 1 false [(.str [])] 0 []⟩, ⟨(some 6), none, .mv (.t 14)⟩])
  (.keep [2, 5, 6] (.seq (.seq (.reg [⟨(some 15), none, .fa 0 (.t 5)⟩, ⟨(some 16), none, .load false 1 (.t 15)⟩])
  (.keep [2, 5, 6, 16] (.block 0 (.seq (.reg [⟨(some 18), none, .bin .eql (.t 16) (.c (.int .i64 (7)))⟩, ⟨(some 17), none, .mv (.t 18)⟩])
  (.keep [2, 5, 6, 16, 17] (.cond (.t 17) (.seq (.reg [⟨(some 19), none, .fa 1 (.t 5)⟩, ⟨(some 20), none, .load false 1 (.t 19)⟩, ⟨(some 21), none, .bin .add (.c (.str [39])) (.t 20)⟩, ⟨(some 22), none, .bin .add (.t 21) (.c (.str [39]))⟩, ⟨(some 23), none, .bsl 1 false [(.str [])] 1 [(0, (.t 22))]⟩, ⟨(some 4), none, .mv (.t 23)⟩]) .ret) (.seq (.reg [⟨(some 25), none, .bin .eql (.t 16) (.c (.int .i64 (6)))⟩, ⟨(some 24), none, .mv (.t 25)⟩])
  (.keep [2, 5, 6, 16, 24] (.cond (.t 24) (.seq (.reg [⟨(some 26), none, .fa 1 (.t 5)⟩, ⟨(some 27), none, .load false 1 (.t 26)⟩, ⟨(some 28), none, .bsl 1 false [(.str [])] 1 [(0, (.t 27))]⟩, ⟨(some 4), none, .mv (.t 28)⟩]) .ret) (.seq (.reg [⟨(some 30), none, .bin .eql (.t 16) (.c (.int .i64 (3)))⟩, ⟨(some 29), none, .mv (.t 30)⟩])
  (.keep [2, 5, 6, 16, 29] (.cond (.t 29) (.seq (.draw [(.pl, ⟨(some 31), none, .load true 2 (.t 2)⟩), (.pl, ⟨(some 32), none, .fa 2 (.t 5)⟩), (.pl, ⟨(some 33), none, .load false 1 (.t 32)⟩), (.pl, ⟨(some 34), none, .ia 1 (.t 33) (.c (.int .i64 (0)))⟩), (.pl, ⟨(some 35), none, .load false 1 (.t 34)⟩), (.eff, ⟨(some 36), none, .call (.c (.fn K.probateref07_item [] [])) [(.t 31), (.t 35), (.c (.bool false))]⟩), (.pl, ⟨(some 37), none, .bsl 1 false [(.str [])] 1 [(0, (.c (.str [42])))]⟩), (.eff, ⟨(some 38), none, .app 1 16 (.t 36) (.t 37)⟩), (.pl, ⟨(some 4), none, .mv (.t 38)⟩)]) .ret) (.seq (.reg [⟨(some 40), none, .bin .eql (.t 16) (.c (.int .i64 (4)))⟩, ⟨(some 39), none, .mv (.t 40)⟩])
  (.keep [2, 5, 6, 16, 39] (.cond (.t 39) (.seq (.draw [(.pl, ⟨(some 41), none, .load true 2 (.t 2)⟩), (.pl, ⟨(some 42), none, .fa 2 (.t 5)⟩), (.pl, ⟨(some 43), none, .load false 1 (.t 42)⟩), (.pl, ⟨(some 44), none, .ia 1 (.t 43) (.c (.int .i64 (0)))⟩), (.pl, ⟨(some 45), none, .load false 1 (.t 44)⟩), (.eff, ⟨(some 46), none, .call (.c (.fn K.probateref07_item [] [])) [(.t 41), (.t 45), (.c (.bool false))]⟩), (.pl, ⟨(some 47), none, .bsl 1 false [(.str [])] 1 [(0, (.c (.str [43])))]⟩), (.eff, ⟨(some 48), none, .app 1 16 (.t 46) (.t 47)⟩), (.pl, ⟨(some 4), none, .mv (.t 48)⟩)]) .ret) (.seq (.reg [⟨(some 50), none, .bin .eql (.t 16) (.c (.int .i64 (5)))⟩, ⟨(some 49), none, .mv (.t 50)⟩])
  (.keep [2, 5, 6, 16, 49] (.cond (.t 49) (.seq (.draw [(.pl, ⟨(some 51), none, .load true 2 (.t 2)⟩), (.pl, ⟨(some 52), none, .fa 2 (.t 5)⟩), (.pl, ⟨(some 53), none, .load false 1 (.t 52)⟩), (.pl, ⟨(some 54), none, .ia 1 (.t 53) (.c (.int .i64 (0)))⟩), (.pl, ⟨(some 55), none, .load false 1 (.t 54)⟩), (.eff, ⟨(some 56), none, .call (.c (.fn K.probateref07_item [] [])) [(.t 51), (.t 55), (.c (.bool false))]⟩), (.pl, ⟨(some 57), none, .bsl 1 false [(.str [])] 1 [(0, (.c (.str [63])))]⟩), (.eff, ⟨(some 58), none, .app 1 16 (.t 56) (.t 57)⟩), (.pl, ⟨(some 4), none, .mv (.t 58)⟩)]) .ret) (.seq (.reg [⟨(some 60), none, .bin .eql (.t 16) (.c (.int .i64 (1)))⟩, ⟨(some 59), none, .mv (.t 60)⟩])
  (.keep [2, 5, 6, 16, 59] (.cond (.t 59) (.seq (.reg [⟨(some 7), none, .mv (.c (.int .i64 (0)))⟩])
  (.keep [2, 5, 6, 7] (.block 1 (.loop A.probateref07_Node.L0)))) (.seq (.reg [⟨(some 78), none, .bin .eql (.t 16) (.c (.int .i64 (2)))⟩, ⟨(some 77), none, .mv (.t 78)⟩])
  (.keep [2, 5, 6, 77] (.cond (.t 77) (.seq (.reg [⟨(some 8), none, .mv (.c (.int .i64 (0)))⟩])
  (.keep [2, 5, 6, 8] (.block 3 (.loop A.probateref07_Node.L1)))) .skip))))))))))))))))))))))))
  (.keep [6] (.seq (.reg [⟨(some 120), none, .mv (.t 6)⟩, ⟨(some 4), none, .mv (.t 120)⟩]) .ret)))))))))⟩
def A.probateref07_item : AFn := ⟨30, [(6, none)], (.seq (.reg [⟨(some 3), none, .box (.t 0)⟩, ⟨(some 6), none, .mv (.c (.sl 0 1 []))⟩])
  (.keep [1, 2, 3] (.seq (.reg [⟨(some 8), none, .fa 1 (.t 3)⟩, ⟨(some 9), none, .load false 1 (.t 8)⟩, ⟨(some 10), none, .mv (.t 1)⟩, ⟨(some 11), none, .ia 3 (.t 9) (.t 10)⟩, ⟨(some 12), none, .fa 0 (.t 11)⟩, ⟨(some 13), none, .load false 1 (.t 12)⟩, ⟨(some 7), none, .mv (.t 13)⟩])
  (.keep [1, 2, 3, 7] (.seq (.seq (.reg [⟨(some 14), none, .mv (.t 7)⟩, ⟨(some 15), none, .bin .geq (.t 14) (.c (.int .i64 (6)))⟩, ⟨(some 16), none, .mv (.t 15)⟩, ⟨(some 17), (some (16, false)), .mv (.t 2)⟩, ⟨(some 18), (some (16, false)), .mv (.t 17)⟩, ⟨(some 19), (some (18, true)), .mv (.t 7)⟩, ⟨(some 20), (some (18, true)), .bin .geq (.t 19) (.c (.int .i64 (3)))⟩, ⟨(some 21), (some (16, false)), .pick (.t 18) (.t 20) (.c (.bool false))⟩, ⟨(some 22), none, .pick (.t 16) (.c (.bool true)) (.t 21)⟩])
  (.keep [1, 3, 22] (.cond (.t 22) (.seq (.reg [⟨(some 23), none, .load true 2 (.t 3)⟩, ⟨(some 24), none, .mv (.t 1)⟩, ⟨(some 25), none, .call (.c (.fn K.probateref07_Node [] [])) [(.t 23), (.t 24)]⟩, ⟨(some 6), none, .mv (.t 25)⟩]) .ret) .skip)))
  (.keep [1, 3] (.seq (.reg [⟨(some 26), none, .load true 2 (.t 3)⟩, ⟨(some 27), none, .mv (.t 1)⟩, ⟨(some 28), none, .call (.c (.fn K.probateref07_Node [] [])) [(.t 26), (.t 27)]⟩, ⟨(some 29), none, .call (.c (.fn K.probateref07_brackets [] [])) [(.t 28)]⟩, ⟨(some 6), none, .mv (.t 29)⟩]) .ret)))))))⟩
def A.probateref07_brackets : AFn := ⟨8, [(2, none)], (.seq (.reg [⟨(some 2), none, .mv (.c (.sl 0 1 []))⟩])
  (.keep [0] (.seq (.reg [⟨(some 3), none, .bsl 1 false [(.str [])] 1 [(0, (.c (.str [40])))]⟩, ⟨(some 4), none, .mv (.t 0)⟩, ⟨(some 5), none, .app 1 16 (.t 3) (.t 4)⟩, ⟨(some 6), none, .bsl 1 false [(.str [])] 1 [(0, (.c (.str [41])))]⟩, ⟨(some 7), none, .app 1 16 (.t 5) (.t 6)⟩, ⟨(some 2), none, .mv (.t 7)⟩]) .ret)))⟩
end Go.Proofs.Ytdbbgkdepjidjaa.Al
namespace Go.Proofs.Ytdbbgkdepjidjaa.Al
open Go Go.RowKit
set_option linter.unusedSimpArgs false
set_option linter.unusedVariables false
attribute [-simp] List.getD_eq_getElem?_getD Int.not_lt Int.not_le List.map_take List.map_map
structure LWrR (X : Cx) : Prop where
  brackets : Has (Ecx X) K.probateref07_brackets A.probateref07_brackets
  item : Has (Ecx X) K.probateref07_item A.probateref07_item
  node : Has (Ecx X) K.probateref07_Node A.probateref07_Node
/-- A call that makes M. -/
def RD (X : Cx) (k : Nat) (args : List V) (h : AH) (M : List Str) : Prop := ∃ e st h1, Det X k args h (.sl e st (strs M)) h1 ∧ Own h h1 1 e st (strs M)
def RNodeD (X : Cx) (t : Te) (f : Nat) : Prop := ∀ h (n : Nat), n < f → n < t.nodes.length → (tokW t f n).length ≤ 2 ^ 40 → RD X K.probateref07_Node [teV t, .int .i64 n] h (tokW t f n)
section
variable {X : Cx} {h : AH} {t : Te} {f : Nat}
theorem Gr.trans' {h h1 h2 : AH} (a : Gr h h1) (b : Gr h1 h2) : Gr h h2 :=
  ⟨Nat.le_trans a.next b.next, Nat.le_trans a.nobj b.nobj, fun o ho => (b.objs o (Nat.lt_of_lt_of_le ho a.nobj)).trans (a.objs o ho), fun s hs => (b.tips s (Nat.lt_of_lt_of_le hs a.next)).trans (a.tips s hs)⟩
theorem Own.from {h0 h h1 : AH} {e e1 st : Nat} {l : List V} (g : Gr h0 h) (o : Own h h1 e e1 st l) : Own h0 h1 e e1 st l :=
  ⟨g.trans' o.gr, o.el, by
    rcases o.st with a | a | a
    · exact .inl a
    · exact .inr (.inl a)
    · exact .inr (.inr ⟨a.1, Nat.le_trans g.next a.2⟩)⟩
/-- An append with one answer. -/
theorem Own.appD {h0 h : AH} {e1 st : Nat} {L : List Str} (o : Own h0 h 1 e1 st (strs L)) {e2 : Nat} {M : List Str} (he : M ≠ [] → e2 = 1) (hb : L.length + M.length ≤ 2 ^ 41) :
    ∃ e' st' h', (∀ {K : V → AH → Prop} {zK : Lz K}, K (.sl e' st' (strs (L ++ M))) h' → App h 1 16 e1 st (strs L) e2 (strs M) zK) ∧ Own h0 h' 1 e' st' (strs (L ++ M)) ∧ (h'.objs = h.objs ∧ h'.nobj = h.nobj) ∧ ((st = 1 ∨ st = 2 ∨ st < h.next) → (st' = 1 ∨ st' = 2 ∨ st' < h'.next)) := by
  by_cases hm : M = []
  · subst hm
    refine ⟨e1, st, h, fun hk => ⟨fun _ => by simpa using hk, fun c => absurd rfl c⟩, by simpa using o, ⟨rfl, rfl⟩, id⟩
  · have hm' : strs M ≠ [] := by simpa [strs] using hm
    have hs : st = 1 ∨ st = 2 ∨ h.tips st = some 1 := by
      rcases o.st with a | a | a
      · exact .inl a
      · exact .inr (.inl a)
      · exact .inr (.inr a.1)
    refine ⟨1, h.next, h.push st 1, fun {K zK} hk => ⟨fun c => absurd c hm', fun _ => ⟨hs, o.el, he hm, by simp [strs]; omega, by simpa [strs] using hk⟩⟩, ⟨o.gr.push ?_ 1, .inr rfl, .inr (.inr ⟨push_new h st 1, o.gr.next⟩)⟩, ⟨push_objs _ _ _, push_nobj _ _ _⟩, fun _ => .inr (.inr (by rw [push_next]; omega))⟩
    rcases o.st with a | a | a
    · omega
    · omega
    · exact .inr a.2
theorem rBrackets (W : LWrR X) {e st : Nat} {l : List Str} (he : l ≠ [] → e = 1) (hl : l.length ≤ 2 ^ 40) : RD X K.probateref07_brackets [.sl e st (strs l)] h (brk l) := by
  have o0 : Own h h 1 1 2 (strs [[40]]) := Own.full (Gr.refl h) 1 _
  obtain ⟨e1, st1, h1, k1, o1, _, _⟩ := o0.appD (e2 := e) (M := l) he (by simp; omega)
  obtain ⟨e2, st2, h2, k2, o2, _, _⟩ := o1.appD (e2 := 1) (M := [[41]]) (fun _ => rfl) (by simp; omega)
  refine ⟨e2, st2, h2, ?_, by simpa [brk] using o2⟩
  refine fn_any W.brackets (by simp [A.probateref07_brackets]) fun wf => ?_
  simp [A.probateref07_brackets, fillL]
  refine k1 ?_
  simp [fillL]
  refine k2 ?_
  simp [brk]
/-- As an item. -/
def itemR (t : Te) (rec : Int → List Str) (n : Int) (many : Bool) : List Str := if 6 ≤ kindT t n ∨ (many = true ∧ 3 ≤ kindT t n) then rec n else brk (rec n)
theorem rItem (W : LWrR X) (nd : RNodeD X t f) {n : Nat} (hn : n < f) (hl : n < t.nodes.length) (many : Bool) (hb : (itemR t (tokW t f) n many).length ≤ 2 ^ 40) :
    RD X K.probateref07_item [teV t, .int .i64 n, .bool many] h (itemR t (tokW t f) n many) := by
  have hg : (t.nodes.map ndV).getD n .undef = ndV t.nodes[n] := Enc.getD hl
  have hl' : (n : Int) < t.nodes.length := by omega
  have hk := kindT_at hl
  have htc : teC t = [.sl 2 0 (t.rules.map rlV), .sl 3 0 (t.nodes.map ndV)] := rfl
  have htv : V.agg [.sl 2 0 (t.rules.map rlV), .sl 3 0 (t.nodes.map ndV)] = teV t := rfl
  unfold itemR at hb ⊢
  rw [hk] at hb ⊢
  have g0 := (Gr.refl h).new (teC t)
  by_cases c : 6 ≤ t.nodes[n].kind ∨ (many = true ∧ 3 ≤ t.nodes[n].kind)
  · rw [if_pos c] at hb ⊢
    obtain ⟨e, st, h1, d, o⟩ := nd (h.new (teC t)) n hn hl hb
    refine ⟨e, st, h1, ?_, o.from g0⟩
    refine fn_any W.item (by simp [A.probateref07_item]) fun wf => ?_
    by_cases c6 : 6 ≤ t.nodes[n].kind
    · simp [A.probateref07_item, teV, htc, V.cells, V.good, setAt, hl', hg, ndV, ndC, c6]
      rw [htv, ← htc]
      refine ecall (d.to ?_)
      simp
    · obtain ⟨rfl, c3⟩ := c.resolve_left c6
      simp [A.probateref07_item, teV, htc, V.cells, V.good, setAt, hl', hg, ndV, ndC, c6, c3]
      rw [htv, ← htc]
      refine ecall (d.to ?_)
      simp
  · rw [if_neg c] at hb ⊢
    rw [brk_len] at hb
    obtain ⟨e, st, h1, d, o⟩ := nd (h.new (teC t)) n hn hl (by omega)
    obtain ⟨e2, st2, h2, d2, o2⟩ := rBrackets (h := h1) W (e := e) (st := st) (l := tokW t f n) (fun hne => o.el.resolve_left (by simpa [strs] using hne)) (by omega)
    refine ⟨e2, st2, h2, ?_, o2.from (g0.trans' o.gr)⟩
    have c6 : ¬ 6 ≤ t.nodes[n].kind := fun q => c (.inl q)
    have c3 : many = false ∨ ¬ 3 ≤ t.nodes[n].kind := by
      cases many with
      | false => exact .inl rfl
      | true => exact .inr fun q => c (.inr ⟨rfl, q⟩)
    refine fn_any W.item (by simp [A.probateref07_item]) fun wf => ?_
    rcases c3 with rfl | c3
    · simp [A.probateref07_item, teV, htc, V.cells, V.good, setAt, hl', hg, ndV, ndC, c6]
      rw [htv, ← htc]
      refine ecall (d.to ?_)
      simp
      refine ecall (d2.to ?_)
      simp
    · cases many
      · simp [A.probateref07_item, teV, htc, V.cells, V.good, setAt, hl', hg, ndV, ndC, c6]
        rw [htv, ← htc]
        refine ecall (d.to ?_)
        simp
        refine ecall (d2.to ?_)
        simp
      · simp [A.probateref07_item, teV, htc, V.cells, V.good, setAt, hl', hg, ndV, ndC, c6, c3]
        rw [htv, ← htc]
        refine ecall (d.to ?_)
        simp
        refine ecall (d2.to ?_)
        simp
theorem itemR_atom (rec : Int → List Str) {n : Nat} (hl : n < t.nodes.length) (T : TOk t) : itemR t rec n false = atomW t rec n := by
  have hkd := T.kd _ (List.getElem_mem hl)
  unfold itemR atomW
  rw [kindT_at hl]
  by_cases c : t.nodes[n].kind = 6 ∨ t.nodes[n].kind = 7
  · rw [if_pos c, if_pos (by omega)]
  · rw [if_neg c, if_neg (by simp; omega)]
theorem itemR_item (rec : Int → List Str) {n : Nat} (hl : n < t.nodes.length) (T : TOk t) : itemR t rec n true = itemW t rec n := by
  have hkd := T.kd _ (List.getElem_mem hl)
  unfold itemR itemW atomW
  rw [kindT_at hl]
  by_cases c : 6 ≤ t.nodes[n].kind ∨ (true = true ∧ 3 ≤ t.nodes[n].kind)
  · rw [if_pos c]
    by_cases c2 : 3 ≤ t.nodes[n].kind ∧ t.nodes[n].kind ≤ 5
    · rw [if_pos c2]
    · rw [if_neg c2, if_pos (by omega)]
  · rw [if_neg c, if_neg (by simp at c; omega), if_neg (by simp at c; omega)]
/-- What a call makes is appended. -/
theorem stepD {hA a : AH} {e st : Nat} {L : List Str} (o : Own hA a 1 e st (strs L)) (b : st = 1 ∨ st = 2 ∨ st < a.next) {k : Nat} {args : List V} {M : List Str} (d : RD X k args a M) (hb : L.length + M.length ≤ 2 ^ 41) :
    ∃ e1 st1 h1 e' st' h', Det X k args a (.sl e1 st1 (strs M)) h1 ∧ (∀ {K : V → AH → Prop} {zK : Lz K}, K (.sl e' st' (strs (L ++ M))) h' → App h1 1 16 e st (strs L) e1 (strs M) zK) ∧ Own hA h' 1 e' st' (strs (L ++ M)) ∧ (st' = 1 ∨ st' = 2 ∨ st' < h'.next) := by
  obtain ⟨e1, st1, h1, d1, o1⟩ := d
  have o2 : Own hA h1 1 e st (strs L) := ⟨o.gr.trans' o1.gr, o.el, by
    rcases o.st with c | c | c
    · exact .inl c
    · exact .inr (.inl c)
    · rcases b with b | b | b
      · exact .inl b
      · exact .inr (.inl b)
      · exact .inr (.inr ⟨by rw [o1.gr.tips st b]; exact c.1, c.2⟩)⟩
  obtain ⟨e', st', h', k', o', ob, bd⟩ := o2.appD (e2 := e1) (M := M) (fun hne => o1.el.resolve_left (by simpa [strs] using hne)) hb
  have bb : st = 1 ∨ st = 2 ∨ st < h1.next := by
    have := o1.gr.next
    omega
  exact ⟨e1, st1, h1, e', st', h', d1, k', o', bd bb⟩
theorem rNode (W : LWrR X) (T : TOk t) : ∀ f, RNodeD X t f
  | 0, h, n, hn, hl, hb => by omega
  | f + 1, h, n, hn, hl, hb => by
    have nd := rNode W T f
    have hg : (t.nodes.map ndV).getD n .undef = ndV t.nodes[n] := Enc.getD hl
    have hl' : (n : Int) < t.nodes.length := by omega
    have htc : teC t = [.sl 2 0 (t.rules.map rlV), .sl 3 0 (t.nodes.map ndV)] := rfl
    have htv : V.agg [.sl 2 0 (t.rules.map rlV), .sl 3 0 (t.nodes.map ndV)] = teV t := rfl
    have tk : tokW t (f + 1) n = if t.nodes[n].kind = 6 then [t.nodes[n].name] else if t.nodes[n].kind = 7 then [39 :: (t.nodes[n].name ++ [39])]
      else if t.nodes[n].kind = 1 then eachW [] (itemW t (tokW t f)) t.nodes[n].kids
      else if t.nodes[n].kind = 2 then eachW [[124]] (altW t (tokW t f)) t.nodes[n].kids
      else atomW t (tokW t f) (t.nodes[n].kids.getD 0 0) ++ [markW t.nodes[n].kind] := by
      rw [tokW]; simp [hl]
    have hlt := T.lt n hl
    have hnm := T.nm _ (List.getElem_mem hl)
    have hks := T.ks _ (List.getElem_mem hl)
    have hkd := T.kd _ (List.getElem_mem hl)
    have hn1 := T.n1
    rw [tk] at hb ⊢
    have hx' : ndV t.nodes[n] = .agg [.int .i64 t.nodes[n].kind, .str t.nodes[n].name, .sl 1 0 (ints t.nodes[n].kids)] := rfl
    rw [hx'] at hg
    generalize t.nodes[n].kind = kind at *
    generalize t.nodes[n].name = name at *
    generalize t.nodes[n].kids = kids at *
    generalize hA : (h.new [.sl 2 0 (t.rules.map rlV), .sl 3 0 (t.nodes.map ndV)]).new [.int .i64 kind, .str name, .sl 1 0 (ints kids)] = hA'
    have gA : Gr h hA' := by rw [← hA]; exact ((Gr.refl h).new _).new _
    have oB : hA'.objs h.nobj = [.sl 2 0 (t.rules.map rlV), .sl 3 0 (t.nodes.map ndV)] := by rw [← hA]; simp
    have oC : hA'.objs (h.nobj + 1) = [.int .i64 kind, .str name, .sl 1 0 (ints kids)] := by rw [← hA]; simp
    have nA : hA'.nobj = h.nobj + 2 := by rw [← hA]; simp
    have hil : (ints kids).length = kids.length := by simp [ints]
    have kidN : ∀ k ∈ kids, ∃ m : Nat, k = (m : Int) ∧ m < f ∧ m < t.nodes.length := fun k hk => by
      obtain ⟨a, b⟩ := hlt k hk
      exact ⟨k.toNat, by omega, by omega, by omega⟩
    by_cases c6 : kind = 6
    · subst c6
      rw [if_pos rfl] at hb ⊢
      refine ⟨1, 2, hA', ?_, Own.full gA 1 _⟩
      refine fn_any W.node (by simp [A.probateref07_Node]) fun wf => ?_
      simp [A.probateref07_Node, teV, htc, hl', hg, V.cells, V.good, setAt, fillL]
      exact ⟨rfl, hA⟩
    rw [if_neg c6] at hb ⊢
    by_cases c7 : kind = 7
    · subst c7
      rw [if_pos rfl] at hb ⊢
      refine ⟨1, 2, hA', ?_, Own.full gA 1 _⟩
      refine fn_any W.node (by simp [A.probateref07_Node]) fun wf => ?_
      simp [A.probateref07_Node, teV, htc, hl', hg, V.cells, V.good, setAt, fillL]
      exact ⟨by omega, by omega, rfl, hA⟩
    rw [if_neg c7] at hb ⊢
    have hlen : ∀ (sep : List Str) (one : Int → List Str), (eachW sep one kids).length ≤ 2 ^ 40 → ∀ i (hi : i < kids.length), (eachW sep one (kids.take i)).length + ((if i = 0 then [] else sep) ++ one kids[i]).length ≤ 2 ^ 40 := fun sep one hb i hi => by
      have h1 := eachW_take (sep := sep) (one := one) hi
      have h2 := eachW_len (sep := sep) (one := one) (l := kids) (i + 1)
      rw [h1, List.length_append] at h2
      omega
    have o0 : Own hA' hA' 1 1 2 (strs []) := Own.full (Gr.refl hA') 1 _
    by_cases c1 : kind = 1
    · subst c1
      rw [if_pos rfl] at hb ⊢
      obtain ⟨F, f0, f1, f2⟩ := chainD (fun i (a : AH × Nat × Nat) => Own hA' a.1 1 a.2.1 a.2.2 (strs (eachW [] (itemW t (tokW t f)) (kids.take i))) ∧ (a.2.2 = 1 ∨ a.2.2 = 2 ∨ a.2.2 < a.1.next))
        (fun i a b => ∃ e1 st1 h1, Det X K.probateref07_item [teV t, .int .i64 (kids.getD i 0), .bool true] a.1 (.sl e1 st1 (strs (itemW t (tokW t f) (kids.getD i 0)))) h1 ∧
          ∀ {K : V → AH → Prop} {zK : Lz K}, K (.sl b.2.1 b.2.2 (strs (eachW [] (itemW t (tokW t f)) (kids.take (i + 1))))) b.1 → App h1 1 16 a.2.1 a.2.2 (strs (eachW [] (itemW t (tokW t f)) (kids.take i))) e1 (strs (itemW t (tokW t f) (kids.getD i 0))) zK)
        kids.length (hA', 1, 2) ⟨by simpa [eachW] using o0, .inr (.inl rfl)⟩ (fun i a hi ⟨o, b⟩ => by
          have h3 : kids.getD i 0 = kids[i] := by simp [List.getD, hi]
          have hb1 := hlen _ _ hb i hi
          simp only [ite_self, List.nil_append] at hb1
          have ht := eachW_take (sep := []) (one := itemW t (tokW t f)) hi
          simp only [ite_self, List.nil_append] at ht
          obtain ⟨m, e1, e2, e3⟩ := kidN _ (List.getElem_mem hi)
          rw [h3]
          rw [e1] at hb1 ht ⊢
          have hit := itemR_item (tokW t f) e3 T
          have d := rItem (h := a.1) W nd e2 e3 true (by rw [hit]; omega)
          rw [hit] at d
          obtain ⟨e1, st1, h1, e', st', h', d1, k1, o1, b1⟩ := stepD o b d (by omega)
          exact ⟨(h', e', st'), ⟨by rw [ht]; exact o1, b1⟩, e1, st1, h1, d1, fun hk => k1 (by rw [← ht]; exact hk)⟩)
      have oF := (f1 _ (Nat.le_refl _)).1
      rw [List.take_length] at oF
      refine ⟨_, _, (F kids.length).1, ?_, oF.from gA⟩
      refine fn_any W.node (by simp [A.probateref07_Node]) fun wf => ?_
      simp [A.probateref07_Node, teV, htc, hl', hg, V.cells, V.good, setAt, fillL]
      rw [hA]
      refine loopI (n := kids.length) (fun m env h' => ∃ k, k ≤ kids.length ∧ m = kids.length - k ∧ h' = (F k).1 ∧
        env = [(2, .ptr h.nobj 0), (5, .ptr (h.nobj + 1) 0), (6, .sl (F k).2.1 (F k).2.2 (strs (eachW [] (itemW t (tokW t f)) (kids.take k)))), (7, .int .i64 k)]) ?_ ⟨0, by omega, by omega, by rw [f0], by rw [f0]; rfl⟩
      rintro m env h' ⟨k, hk, rfl, rfl, rfl⟩
      unfold A.probateref07_Node.L0
      have gk := (f1 k hk).1.gr
      have oB' : (F k).1.objs h.nobj = [.sl 2 0 (t.rules.map rlV), .sl 3 0 (t.nodes.map ndV)] := by rw [gk.objs _ (by omega)]; exact oB
      have oC' : (F k).1.objs (h.nobj + 1) = [.int .i64 1, .str name, .sl 1 0 (ints kids)] := by rw [gk.objs _ (by omega)]; exact oC
      by_cases hlt : k < kids.length
      · have hlt' : (k : Int) < kids.length := by omega
        have hgk := ints_get hlt
        have h3 : kids.getD k 0 = kids[k] := by simp [List.getD, hlt]
        obtain ⟨e1, st1, h1, d, k1⟩ := f2 k hlt
        rw [h3] at d k1
        have hw1 : IntKind.i64.wrap ((k : Int) + 1) = ((k + 1 : Nat) : Int) := by rw [wrap_i64 (by omega) (by omega)]; rfl
        simp [oB', oC', hil, hlt', hgk, V.cells]
        rw [htv]
        refine dcallE _ _ d ?_
        simp
        refine k1 ?_
        simp [hw1, -Int.natCast_add]
        exact ⟨kids.length - (k + 1), by omega, iv ⟨k + 1, by omega, rfl, rfl, rfl⟩⟩
      · have hlt' : ¬ (k : Int) < kids.length := by omega
        obtain rfl : k = kids.length := by omega
        simp [oC', hil, hlt']
    rw [if_neg c1] at hb ⊢
    by_cases c2 : kind = 2
    · subst c2
      rw [if_pos rfl] at hb ⊢
      have step : ∀ (a : AH × Nat × Nat) i (hi : i < kids.length), Own hA' a.1 1 a.2.1 a.2.2 (strs (eachW [[124]] (altW t (tokW t f)) (kids.take i))) → (a.2.2 = 1 ∨ a.2.2 = 2 ∨ a.2.2 < a.1.next) →
          ∃ am : AH × Nat × Nat, Own hA' am.1 1 am.2.1 am.2.2 (strs (eachW [[124]] (altW t (tokW t f)) (kids.take i) ++ (if i = 0 then [] else [[124]]))) ∧ (am.2.2 = 1 ∨ am.2.2 = 2 ∨ am.2.2 < am.1.next) ∧ ((i = 0 ∧ am = a) ∨ (i ≠ 0 ∧ am.1.objs = a.1.objs ∧ ∀ {K : V → AH → Prop} {zK : Lz K},
            K (.sl am.2.1 am.2.2 (strs (eachW [[124]] (altW t (tokW t f)) (kids.take i) ++ [[124]]))) am.1 → App a.1 1 16 a.2.1 a.2.2 (strs (eachW [[124]] (altW t (tokW t f)) (kids.take i))) 1 (strs [[124]]) zK)) := fun a i hi o b => by
        by_cases c : i = 0
        · exact ⟨a, by simpa [c] using o, b, .inl ⟨c, rfl⟩⟩
        · have hb1 := hlen _ _ hb i hi
          obtain ⟨e', st', h', k', o', ⟨q1, _⟩, b'⟩ := o.appD (e2 := 1) (M := [[124]]) (fun _ => rfl) (by simp; omega)
          exact ⟨(h', e', st'), by rw [if_neg c]; exact o', b' b, .inr ⟨c, q1, fun hk => k' hk⟩⟩
      obtain ⟨F, f0, f1, f2⟩ := chainD (fun i (a : AH × Nat × Nat) => Own hA' a.1 1 a.2.1 a.2.2 (strs (eachW [[124]] (altW t (tokW t f)) (kids.take i))) ∧ (a.2.2 = 1 ∨ a.2.2 = 2 ∨ a.2.2 < a.1.next))
        (fun i a b => ∃ am : AH × Nat × Nat, ((i = 0 ∧ am = a) ∨ (i ≠ 0 ∧ am.1.objs = a.1.objs ∧ ∀ {K : V → AH → Prop} {zK : Lz K},
            K (.sl am.2.1 am.2.2 (strs (eachW [[124]] (altW t (tokW t f)) (kids.take i) ++ [[124]]))) am.1 → App a.1 1 16 a.2.1 a.2.2 (strs (eachW [[124]] (altW t (tokW t f)) (kids.take i))) 1 (strs [[124]]) zK)) ∧
          ∃ e1 st1 h1, ((kindT t (kids.getD i 0) = 1 ∧ Det X K.probateref07_Node [teV t, .int .i64 (kids.getD i 0)] am.1 (.sl e1 st1 (strs (altW t (tokW t f) (kids.getD i 0)))) h1) ∨
            (kindT t (kids.getD i 0) ≠ 1 ∧ Det X K.probateref07_item [teV t, .int .i64 (kids.getD i 0), .bool true] am.1 (.sl e1 st1 (strs (altW t (tokW t f) (kids.getD i 0)))) h1)) ∧
          ∀ {K : V → AH → Prop} {zK : Lz K}, K (.sl b.2.1 b.2.2 (strs (eachW [[124]] (altW t (tokW t f)) (kids.take (i + 1))))) b.1 → App h1 1 16 am.2.1 am.2.2 (strs (eachW [[124]] (altW t (tokW t f)) (kids.take i) ++ (if i = 0 then [] else [[124]]))) e1 (strs (altW t (tokW t f) (kids.getD i 0))) zK)
        kids.length (hA', 1, 2) ⟨by simpa [eachW] using o0, .inr (.inl rfl)⟩ (fun i a hi ⟨o, b⟩ => by
          have h3 : kids.getD i 0 = kids[i] := by simp [List.getD, hi]
          have hb1 := hlen _ _ hb i hi
          rw [List.length_append] at hb1
          have ht := eachW_take (sep := [[124]]) (one := altW t (tokW t f)) hi
          obtain ⟨am, oM, bM, rM⟩ := step a i hi o b
          obtain ⟨m, e1, e2, e3⟩ := kidN _ (List.getElem_mem hi)
          rw [h3]
          rw [e1] at hb1 ht ⊢
          have hbL : (eachW [[124]] (altW t (tokW t f)) (kids.take i) ++ (if i = 0 then [] else [[124]])).length + (altW t (tokW t f) m).length ≤ 2 ^ 41 := by rw [List.length_append]; omega
          by_cases c : kindT t m = 1
          · have ha : altW t (tokW t f) m = tokW t f m := by unfold altW; rw [if_pos c]
            have d := nd am.1 m e2 e3 (by rw [← ha]; omega)
            rw [← ha] at d
            obtain ⟨e1, st1, h1, e', st', h', d1, k1, o1, b1⟩ := stepD oM bM d hbL
            exact ⟨(h', e', st'), ⟨by rw [ht, ← List.append_assoc]; exact o1, b1⟩, am, rM, e1, st1, h1, .inl ⟨c, d1⟩, fun hk => k1 (by rw [ht, ← List.append_assoc] at hk; exact hk)⟩
          · have ha : altW t (tokW t f) m = itemW t (tokW t f) m := by unfold altW; rw [if_neg c]
            have hit := itemR_item (tokW t f) e3 T
            have d := rItem (h := am.1) W nd e2 e3 true (by rw [hit, ← ha]; omega)
            rw [hit, ← ha] at d
            obtain ⟨e1, st1, h1, e', st', h', d1, k1, o1, b1⟩ := stepD oM bM d hbL
            exact ⟨(h', e', st'), ⟨by rw [ht, ← List.append_assoc]; exact o1, b1⟩, am, rM, e1, st1, h1, .inr ⟨c, d1⟩, fun hk => k1 (by rw [ht, ← List.append_assoc] at hk; exact hk)⟩)
      have oF := (f1 _ (Nat.le_refl _)).1
      rw [List.take_length] at oF
      refine ⟨_, _, (F kids.length).1, ?_, oF.from gA⟩
      refine fn_any W.node (by simp [A.probateref07_Node]) fun wf => ?_
      simp [A.probateref07_Node, teV, htc, hl', hg, V.cells, V.good, setAt, fillL]
      rw [hA]
      refine loopI (n := kids.length) (fun m env h' => ∃ k, k ≤ kids.length ∧ m = kids.length - k ∧ h' = (F k).1 ∧
        env = [(2, .ptr h.nobj 0), (5, .ptr (h.nobj + 1) 0), (6, .sl (F k).2.1 (F k).2.2 (strs (eachW [[124]] (altW t (tokW t f)) (kids.take k)))), (8, .int .i64 k)]) ?_ ⟨0, by omega, by omega, by rw [f0], by rw [f0]; rfl⟩
      rintro m env h' ⟨k, hk, rfl, rfl, rfl⟩
      unfold A.probateref07_Node.L1
      have gk := (f1 k hk).1.gr
      have oB' : (F k).1.objs h.nobj = [.sl 2 0 (t.rules.map rlV), .sl 3 0 (t.nodes.map ndV)] := by rw [gk.objs _ (by omega)]; exact oB
      have oC' : (F k).1.objs (h.nobj + 1) = [.int .i64 2, .str name, .sl 1 0 (ints kids)] := by rw [gk.objs _ (by omega)]; exact oC
      by_cases hlt : k < kids.length
      · have hlt' : (k : Int) < kids.length := by omega
        have hgk := ints_get hlt
        have h3 : kids.getD k 0 = kids[k] := by simp [List.getD, hlt]
        obtain ⟨am, rM, e1, st1, h1, d, k1⟩ := f2 k hlt
        rw [h3] at d k1
        have hw1 : IntKind.i64.wrap ((k : Int) + 1) = ((k + 1 : Nat) : Int) := by rw [wrap_i64 (by omega) (by omega)]; rfl
        obtain ⟨m, q1, q2, q3⟩ := kidN _ (List.getElem_mem hlt)
        rw [q1] at d k1 hgk
        have hgm : (t.nodes.map ndV).getD m .undef = .agg (ndC t.nodes[m]) := Enc.getD q3
        have q3' : (m : Int) < t.nodes.length := by omega
        rw [kindT_at q3] at d
        have om : am.1.objs = (F k).1.objs := by
          rcases rM with ⟨_, rfl⟩ | ⟨_, q, _⟩
          · rfl
          · exact q
        have oB2 : am.1.objs h.nobj = [.sl 2 0 (t.rules.map rlV), .sl 3 0 (t.nodes.map ndV)] := by rw [om]; exact oB'
        have oC2 : am.1.objs (h.nobj + 1) = [.int .i64 2, .str name, .sl 1 0 (ints kids)] := by rw [om]; exact oC'
        rcases rM with ⟨rfl, rfl⟩ | ⟨hk0, _, kM⟩
        · simp only [if_true, List.append_nil] at k1
          rcases d with ⟨c, d⟩ | ⟨c, d⟩
          · simp [oB', oC', hil, hlt', hlt, hgk, V.cells, hgm, q3', c, ndC]
            rw [htv]
            refine dcallE _ _ d ?_
            simp
            refine k1 ?_
            simp
            exact ⟨kids.length - 1, by omega, iv ⟨1, by omega, rfl, rfl, rfl⟩⟩
          · simp [oB', oC', hil, hlt', hlt, hgk, V.cells, hgm, q3', c, ndC]
            rw [htv]
            refine dcallE _ _ d ?_
            simp
            refine k1 ?_
            simp
            exact ⟨kids.length - 1, by omega, iv ⟨1, by omega, rfl, rfl, rfl⟩⟩
        · have hk0' : (0 : Int) < k := by omega
          rw [if_neg hk0] at k1
          rcases d with ⟨c, d⟩ | ⟨c, d⟩
          · simp [oB', oC', hil, hlt', hgk, V.cells, hk0', Nat.pos_of_ne_zero hk0, fillL]
            refine kM ?_
            simp [oB2, oC2, hil, hlt', hgk, V.cells, hgm, q3', c, ndC]
            rw [htv]
            refine dcallE _ _ d ?_
            simp
            refine k1 ?_
            simp [hw1, -Int.natCast_add]
            exact ⟨kids.length - (k + 1), by omega, iv ⟨k + 1, by omega, rfl, rfl, rfl⟩⟩
          · simp [oB', oC', hil, hlt', hgk, V.cells, hk0', Nat.pos_of_ne_zero hk0, fillL]
            refine kM ?_
            simp [oB2, oC2, hil, hlt', hgk, V.cells, hgm, q3', c, ndC]
            rw [htv]
            refine dcallE _ _ d ?_
            simp
            refine k1 ?_
            simp [hw1, -Int.natCast_add]
            exact ⟨kids.length - (k + 1), by omega, iv ⟨k + 1, by omega, rfl, rfl, rfl⟩⟩
      · have hlt' : ¬ (k : Int) < kids.length := by omega
        obtain rfl : k = kids.length := by omega
        simp [oC', hil, hlt']
    rw [if_neg c2] at hb ⊢
    obtain ⟨k3, k5, k1⟩ : 3 ≤ kind ∧ kind ≤ 5 ∧ kids.length = 1 := by omega
    obtain ⟨k, rfl⟩ := List.length_eq_one_iff.1 k1
    obtain ⟨m, rfl, e2, e3⟩ := kidN k (by simp)
    simp only [List.getD_cons_zero] at hb ⊢
    rw [List.length_append] at hb
    have hi := itemR_atom (tokW t f) e3 T
    obtain ⟨e, st, h1, d, o⟩ := rItem (h := hA') W nd e2 e3 false (by rw [hi]; omega)
    rw [hi] at d o
    obtain ⟨e', st', h2, k2, o2, _, _⟩ := o.appD (e2 := 1) (M := [markW kind]) (fun _ => rfl) (by simp; omega)
    refine ⟨e', st', h2, ?_, o2.from gA⟩
    refine fn_any W.node (by simp [A.probateref07_Node]) fun wf => ?_
    have hA2 := hA
    simp only [ints, List.map_cons, List.map_nil] at hA2
    have h345 : kind = 3 ∨ kind = 4 ∨ kind = 5 := by omega
    rcases h345 with rfl | rfl | rfl
    all_goals
      simp [A.probateref07_Node, teV, htc, hl', hg, V.cells, V.good, setAt, fillL, ints]
      rw [hA2, htv]
      refine dcallE _ _ d ?_
      simp [fillL]
      refine k2 ?_
      simp
end
end Go.Proofs.Ytdbbgkdepjidjaa.Al
namespace Go.Proofs.Ytdbbgkdepjidjaa.Al
open Go Go.RowKit
set_option linter.unusedSimpArgs false
set_option linter.unusedVariables false
attribute [-simp] List.getD_eq_getElem?_getD Int.not_lt Int.not_le List.map_take
/-- What becomes of a word from a place on. -/
def appF (w : List Int) : List Ed → Nat → List Int
  | [], i => w.drop i
  | x :: l, i => (w.take x.at'.toNat).drop i ++ (if x.drop = true then appF w l (x.at'.toNat + 1) else x.tok :: appF w l x.at'.toNat)
end Go.Proofs.Ytdbbgkdepjidjaa.Al
namespace Go.Proofs.Ytdbbgkdepjidjaa.Al
open Go Go.RowKit
set_option linter.unusedSimpArgs false
set_option linter.unusedVariables false
attribute [-simp] List.getD_eq_getElem?_getD Int.not_lt Int.not_le List.map_take
/-- Objects of Apply: how many tokens were put (m), and the first 24 of them (o). -/
structure PO (h0 h : AH) (m o : Nat) (L : List Int) : Prop where
  own : ∃ e st, Own h0 h 1 e st (ints (L.take 24)) ∧ h.objs o = [.sl e st (ints (L.take 24))]
  many : h.objs m = [.int .i64 L.length]
  hm : h0.nobj ≤ m
  ho : h0.nobj ≤ o
  ne : ¬ m = o
  lm : m < h.nobj
  lo : o < h.nobj
theorem PO.new {h0 h : AH} {m o : Nat} {L : List Int} (p : PO h0 h m o L) (z : List V) : PO h0 (h.new z) m o L := by
  obtain ⟨e, st, ow, ob⟩ := p.own
  have := p.lm
  have := p.lo
  exact ⟨⟨e, st, ⟨ow.gr.new z, ow.el, ow.st⟩, by rw [new_objs_ne _ _ (by omega)]; exact ob⟩, by rw [new_objs_ne _ _ (by omega)]; exact p.many, p.hm, p.ho, p.ne, by simp; omega, by simp; omega⟩
theorem PO.set {h0 h : AH} {m o : Nat} {L : List Int} (p : PO h0 h m o L) {q : Nat} (hq : h0.nobj ≤ q) (h1 : ¬ m = q) (h2 : ¬ o = q) (z : List V) : PO h0 (h.set q z) m o L := by
  obtain ⟨e, st, ow, ob⟩ := p.own
  exact ⟨⟨e, st, ⟨ow.gr.set hq z, ow.el, ow.st⟩, by rw [set_objs_ne _ _ _ h2]; exact ob⟩, by rw [set_objs_ne _ _ _ h1]; exact p.many, p.hm, p.ho, p.ne, p.lm, p.lo⟩
theorem PO.gr {h0 h : AH} {m o : Nat} {L : List Int} (p : PO h0 h m o L) : Gr h0 h := by obtain ⟨e, st, ow, _⟩ := p.own; exact ow.gr
end Go.Proofs.Ytdbbgkdepjidjaa.Al
namespace Go.Proofs.Ytdbbgkdepjidjaa.Al
open Go Go.RowKit
set_option linter.unusedSimpArgs false
set_option linter.unusedVariables false
attribute [-simp] List.getD_eq_getElem?_getD Int.not_lt Int.not_le List.map_take
/-- A symbol, a production, a grammar. -/
structure Sy where
  non : Bool
  n : Int
  deriving DecidableEq
structure Pr where
  left : Int
  right : List Sy
  deriving DecidableEq
structure Gm where
  terms : Int
  nons : Int
  start : Int
  prods : List Pr
  deriving DecidableEq
def symC (s : Sy) : List V := [.bool s.non, .int .i64 s.n]
def symV (s : Sy) : V := .agg (symC s)
def prC (p : Pr) : List V := [.int .i64 p.left, .sl 2 0 (p.right.map symV)]
def prV (p : Pr) : V := .agg (prC p)
section
variable {X : Cx} {h : AH} {Q : V → AH → Prop}
/-! ### A nonterminal's productions -/
/-! ### A copy -/
end
end Go.Proofs.Ytdbbgkdepjidjaa.Al
namespace Go.Proofs.Ytdbbgkdepjidjaa.Al
open Go Go.RowKit
set_option linter.unusedSimpArgs false
set_option linter.unusedVariables false
attribute [-simp] List.getD_eq_getElem?_getD Int.not_lt Int.not_le List.map_take
section
variable {X : Cx} {h : AH} {Q : V → AH → Prop}
theorem Bdd_strs (n m : Nat) (l : List Str) : ∀ v ∈ cellsOf (strs l), Bdd n m v := by
  intro v hv
  have : ∀ l : List Str, cellsOf (strs l) = strs l := fun l => by
    induction l with
    | nil => rfl
    | cons a l ih => simp only [strs, List.map_cons, cellsOf_cons, V.cells, List.singleton_append] at *; rw [ih]
  rw [this] at hv
  obtain ⟨s, _, rfl⟩ := List.mem_map.1 hv
  simp
end
end Go.Proofs.Ytdbbgkdepjidjaa.Al
namespace Go.Proofs.Ytdbbgkdepjidjaa.Al
def A.rules_Right_o.L1 : AC := .post (.seq (.seq (.reg [⟨(some 59), none, .mv (.t 3)⟩, ⟨(some 60), none, .fa 1 (.t 5)⟩, ⟨(some 61), none, .load false 1 (.t 60)⟩, ⟨(some 62), none, .bin .leq (.t 59) (.t 61)⟩])
  (.keep [1, 3, 5, 6, 26, 27, 28, 62] (.cond (.t 62) .skip (.exit 2))))
  (.keep [1, 3, 5, 6, 26, 27, 28] (.seq (.block 3 (.seq (.reg [⟨(some 65), none, .fa 1 (.t 1)⟩, ⟨(some 66), none, .load false 1 (.t 65)⟩, ⟨(some 67), none, .mv (.t 3)⟩, ⟨(some 68), none, .ia 3 (.t 66) (.t 67)⟩, ⟨(some 69), none, .load true 3 (.t 68)⟩, ⟨(some 7), none, .alloc [(.int .i64 (0)), (.str []), (.sl 0 1 [])]⟩, ⟨none, none, .store 3 (.t 7) (.t 69)⟩])
  (.keep [1, 3, 5, 6, 7, 26, 27, 28] (.seq (.reg [⟨(some 70), none, .mv (.t 6)⟩, ⟨(some 71), none, .len false (.t 70)⟩, ⟨(some 72), none, .fa 2 (.t 7)⟩, ⟨(some 73), none, .load false 1 (.t 72)⟩, ⟨(some 74), none, .len false (.t 73)⟩, ⟨(some 75), none, .bin .sub (.t 71) (.t 74)⟩, ⟨(some 8), none, .mv (.t 75)⟩])
  (.keep [1, 3, 5, 6, 7, 8, 26, 27, 28] (.seq (.seq (.draw [(.pl, ⟨(some 76), none, .load true 2 (.t 1)⟩), (.pl, ⟨(some 77), none, .load true 3 (.t 7)⟩), (.pl, ⟨(some 78), none, .call (.c (.fn K.rules_Tree_fine [] [])) [(.t 76), (.t 77)]⟩), (.pl, ⟨(some 79), none, .un .not (.t 78)⟩), (.pl, ⟨(some 80), none, .mv (.t 79)⟩), (.pl, ⟨(some 81), (some (80, false)), .mv (.t 8)⟩), (.pl, ⟨(some 82), (some (80, false)), .bin .lss (.t 81) (.c (.int .i64 (0)))⟩), (.pl, ⟨(some 83), none, .pick (.t 80) (.c (.bool true)) (.t 82)⟩), (.pl, ⟨(some 84), none, .mv (.t 83)⟩), (.pl, ⟨(some 85), (some (84, false)), .mv (.t 6)⟩), (.pl, ⟨(some 86), (some (84, false)), .mv (.t 8)⟩), (.pl, ⟨(some 87), (some (84, false)), .slc 1 (.t 85) (some (.t 86)) none⟩), (.pl, ⟨(some 88), (some (84, false)), .fa 2 (.t 7)⟩), (.pl, ⟨(some 89), (some (84, false)), .load false 1 (.t 88)⟩), (.pl, ⟨(some 90), (some (84, false)), .call (.c (.fn K.slices_Equal_int [] [])) [(.t 87), (.t 89)]⟩), (.pl, ⟨(some 91), (some (84, false)), .un .not (.t 90)⟩), (.pl, ⟨(some 92), none, .pick (.t 84) (.c (.bool true)) (.t 91)⟩)])
  (.keep [1, 3, 5, 6, 8, 26, 27, 28, 92] (.cond (.t 92) (.seq (.reg [⟨(some 2), none, .mv (.c (.bool false))⟩]) .ret) .skip)))
  (.keep [1, 3, 5, 6, 8, 26, 27, 28] (.reg [⟨(some 93), none, .mv (.t 6)⟩, ⟨(some 94), none, .mv (.t 8)⟩, ⟨(some 95), none, .slc 1 (.t 93) none (some (.t 94))⟩, ⟨(some 96), none, .mv (.t 3)⟩, ⟨(some 97), none, .bsl 1 false [(.int .i64 (0))] 1 [(0, (.t 96))]⟩, ⟨(some 98), none, .appg 1 8 (.t 95) (.t 97)⟩, ⟨(some 6), none, .mv (.t 98)⟩]))))))))
  (.keep [1, 3, 5, 6, 26, 27, 28] (.reg [⟨(some 63), none, .mv (.t 3)⟩, ⟨(some 64), none, .bin .add (.t 63) (.c (.int .i64 (1)))⟩, ⟨(some 3), none, .mv (.t 64)⟩]))))) [1, 3, 5, 6, 26, 27, 28]
def A.rules_Right_o.L0 : AC := .post (.seq (.reg [⟨(some 29), none, .bin .lss (.t 28) (.t 27)⟩])
  (.keep [1, 3, 26, 27, 28, 29] (.seq (.cond (.t 29) .skip (.exit 0))
  (.keep [1, 3, 26, 27, 28] (.seq (.block 1 (.seq (.reg [⟨(some 30), none, .mv (.t 28)⟩, ⟨(some 31), none, .ia 2 (.t 26) (.t 28)⟩, ⟨(some 32), none, .load true 2 (.t 31)⟩, ⟨(some 5), none, .alloc [(.str []), (.int .i64 (0))]⟩, ⟨(some 4), none, .mv (.t 30)⟩, ⟨none, none, .store 2 (.t 5) (.t 32)⟩])
  (.keep [1, 3, 4, 5, 26, 27, 28] (.seq (.seq (.reg [⟨(some 33), none, .fa 0 (.t 5)⟩, ⟨(some 34), none, .load false 1 (.t 33)⟩, ⟨(some 35), none, .call (.c (.fn K.rules_token [] [])) [(.t 34), (.c (.int .i64 (1)))]⟩, ⟨(some 36), none, .un .not (.t 35)⟩, ⟨(some 37), none, .mv (.t 36)⟩, ⟨(some 38), (some (37, false)), .fa 0 (.t 1)⟩, ⟨(some 39), (some (37, false)), .load false 1 (.t 38)⟩, ⟨(some 40), (some (37, false)), .mv (.t 4)⟩, ⟨(some 41), (some (37, false)), .slc 2 (.t 39) none (some (.t 40))⟩, ⟨(some 42), (some (37, false)), .mkfn K.rules_Right_1 [] [(.t 5)]⟩, ⟨(some 43), (some (37, false)), .call (.c (.fn K.slices_ContainsFunc_Rule [] [])) [(.t 41), (.t 42)]⟩, ⟨(some 44), none, .pick (.t 37) (.c (.bool true)) (.t 43)⟩, ⟨(some 45), none, .mv (.t 44)⟩, ⟨(some 46), (some (45, false)), .fa 1 (.t 5)⟩, ⟨(some 47), (some (45, false)), .load false 1 (.t 46)⟩, ⟨(some 48), (some (45, false)), .mv (.t 3)⟩, ⟨(some 49), (some (45, false)), .bin .lss (.t 47) (.t 48)⟩, ⟨(some 50), none, .pick (.t 45) (.c (.bool true)) (.t 49)⟩, ⟨(some 51), none, .mv (.t 50)⟩, ⟨(some 52), (some (51, false)), .fa 1 (.t 5)⟩, ⟨(some 53), (some (51, false)), .load false 1 (.t 52)⟩, ⟨(some 54), (some (51, false)), .fa 1 (.t 1)⟩, ⟨(some 55), (some (51, false)), .load false 1 (.t 54)⟩, ⟨(some 56), (some (51, false)), .len false (.t 55)⟩, ⟨(some 57), (some (51, false)), .bin .geq (.t 53) (.t 56)⟩, ⟨(some 58), none, .pick (.t 51) (.c (.bool true)) (.t 57)⟩])
  (.keep [1, 3, 5, 26, 27, 28, 58] (.cond (.t 58) (.seq (.reg [⟨(some 2), none, .mv (.c (.bool false))⟩]) .ret) .skip)))
  (.keep [1, 3, 5, 26, 27, 28] (.seq (.reg [⟨(some 6), none, .mv (.c (.sl 0 1 []))⟩])
  (.keep [1, 3, 5, 6, 26, 27, 28] (.seq (.block 2 (.loop A.rules_Right_o.L1))
  (.keep [1, 3, 6, 26, 27, 28] (.seq (.reg [⟨(some 99), none, .mv (.t 6)⟩, ⟨(some 100), none, .len false (.t 99)⟩, ⟨(some 101), none, .bin .neq (.t 100) (.c (.int .i64 (1)))⟩])
  (.keep [1, 3, 26, 27, 28, 101] (.cond (.t 101) (.seq (.reg [⟨(some 2), none, .mv (.c (.bool false))⟩]) .ret) .skip))))))))))))
  (.keep [1, 3, 26, 27, 28] (.reg [⟨(some 102), none, .bin .add (.t 28) (.c (.int .i64 (1)))⟩, ⟨(some 28), none, .mv (.t 102)⟩]))))))) [1, 3, 26, 27, 28]
def A.rules_Right_o : AFn := ⟨108, [(2, none)], (.seq (.reg [⟨(some 1), none, .box (.t 0)⟩, ⟨(some 2), none, .mv (.c (.bool false))⟩])
  (.keep [1] (.seq (.seq (.reg [⟨(some 9), none, .fa 0 (.t 1)⟩, ⟨(some 10), none, .load false 1 (.t 9)⟩, ⟨(some 11), none, .len false (.t 10)⟩, ⟨(some 12), none, .bin .eql (.t 11) (.c (.int .i64 (0)))⟩, ⟨(some 13), none, .mv (.t 12)⟩, ⟨(some 14), (some (13, false)), .fa 0 (.t 1)⟩, ⟨(some 15), (some (13, false)), .load false 1 (.t 14)⟩, ⟨(some 16), (some (13, false)), .len false (.t 15)⟩, ⟨(some 17), (some (13, false)), .bin .gtr (.t 16) (.c (.int .i64 (24)))⟩, ⟨(some 18), none, .pick (.t 13) (.c (.bool true)) (.t 17)⟩, ⟨(some 19), none, .mv (.t 18)⟩, ⟨(some 20), (some (19, false)), .fa 1 (.t 1)⟩, ⟨(some 21), (some (19, false)), .load false 1 (.t 20)⟩, ⟨(some 22), (some (19, false)), .len false (.t 21)⟩, ⟨(some 23), (some (19, false)), .bin .gtr (.t 22) (.c (.int .i64 (200)))⟩, ⟨(some 24), none, .pick (.t 19) (.c (.bool true)) (.t 23)⟩])
  (.keep [1, 24] (.cond (.t 24) (.seq (.reg [⟨(some 2), none, .mv (.c (.bool false))⟩]) .ret) .skip)))
  (.keep [1] (.seq (.reg [⟨(some 3), none, .mv (.c (.int .i64 (0)))⟩])
  (.keep [1, 3] (.seq (.seq (.reg [⟨(some 25), none, .fa 0 (.t 1)⟩, ⟨(some 26), none, .load false 1 (.t 25)⟩, ⟨(some 27), none, .len false (.t 26)⟩, ⟨(some 28), none, .mv (.c (.int .i64 (0)))⟩])
  (.keep [1, 3, 26, 27, 28] (.block 0 (.loop A.rules_Right_o.L0))))
  (.keep [1, 3] (.seq (.reg [⟨(some 103), none, .mv (.t 3)⟩, ⟨(some 104), none, .fa 1 (.t 1)⟩, ⟨(some 105), none, .load false 1 (.t 104)⟩, ⟨(some 106), none, .len false (.t 105)⟩, ⟨(some 107), none, .bin .eql (.t 103) (.t 106)⟩, ⟨(some 2), none, .mv (.t 107)⟩]) .ret)))))))))⟩
end Go.Proofs.Ytdbbgkdepjidjaa.Al
namespace Go.Proofs.Ytdbbgkdepjidjaa.Al
open Go Go.RowKit
set_option linter.unusedSimpArgs false
set_option linter.unusedVariables false
attribute [-simp] List.getD_eq_getElem?_getD Int.not_lt Int.not_le List.map_take
section
variable {X : Cx} {h : AH} {Q : V → AH → Prop}
/-- Numbers that lie in an object, against numbers. -/
theorem eqO_spec (H : Has (Ecx X) K.slices_Equal_int A.slices_Equal_int) (a b : List Int) {o off c t n : Nat} {l : List V} (hn : a.length = n) (ho : h.objs o = l) (hoff : off + n ≤ l.length) (hl : (l.drop off).take n = ints a) (ha : n < 2 ^ 62)
    (hQ : Q (.bool (decide (a = b))) h) : Ecx X K.slices_Equal_int [.osl 1 o off n c, .sl 1 t (ints b)] h Q := by
  subst hn
  refine fn_walk H (by simp [A.slices_Equal_int]) fun wf => ?_
  by_cases hl' : (a.length : Int) = b.length
  · simp [A.slices_Equal_int, hl']
    refine loopI (n := a.length) (fun m env h' => ∃ k, k ≤ a.length ∧ m = a.length - k ∧ h' = h ∧ env = [(0, .osl 1 o off a.length c), (1, .sl 1 t (ints b)), (12, .int .i64 b.length), (13, .int .i64 k)] ∧ a.take k = b.take k) ?_ ⟨0, by omega, by omega, rfl, by rfl, rfl⟩
    rintro m env h' ⟨k, hk, rfl, rfl, rfl, he⟩
    unfold A.slices_Equal_int.L0
    by_cases hlt : k < a.length
    · have hlt' : (k : Int) < b.length := by omega
      have hlb : k < b.length := by omega
      have hga : l.getD (off + k) .undef = (V.int .i64) a[k] := by
        have : ((l.drop off).take a.length)[k]? = (ints a)[k]? := by rw [hl]
        rw [List.getElem?_take, if_pos hlt, List.getElem?_drop] at this
        simp only [List.getD_eq_getElem?_getD, this]
        simp [ints, hlt]
      have hgb := ints_get hlb
      have hr : off + k < l.length := by omega
      have hw1 : IntKind.i64.wrap ((k : Int) + 1) = ((k + 1 : Nat) : Int) := by rw [wrap_i64 (by omega) (by omega)]; rfl
      by_cases e : a[k] = b[k]
      · simp [hl', hlt', hlt, hga, hgb, V.cells, V.good, e, hw1, ho, hr]
        exact ⟨a.length - (k + 1), by omega, iv ⟨k + 1, by omega, rfl, rfl, rfl, take_ext2 hlt hlb he e⟩⟩
      · have hf : decide (a = b) = false := by
          simp only [decide_eq_false_iff_not]; rintro rfl; exact e rfl
        rw [hf] at hQ
        simp [hl', hlt', hlt, hga, hgb, V.cells, e, ho, hr]; exact fin (by simp) hQ
    · have hlt' : ¬ (k : Int) < b.length := by omega
      simp [hl', hlt']
      refine fin (by simp) ?_
      have hk : k = a.length := by omega
      rw [hk, List.take_length, show a.length = b.length by omega, List.take_length] at he
      simpa [he] using hQ
  · simp [A.slices_Equal_int, hl']
    refine fin (by simp) ?_
    have : decide (a = b) = false := by simp; intro h; exact hl' (by rw [h])
    rw [this] at hQ; exact hQ
theorem ruRight1_spec (L : LRu X) (r : Rl) {o : Nat} {n : Rl} (ho : h.objs o = rlC n) (hob : o < h.nobj) (hQ : Q (.bool (decide (r.name = n.name))) h) : Ecx X K.rules_Right_1 [rlV r, .ptr o 0] h Q := by
  refine fn_walk L.right1 (by simp [A.rules_Right_1]) fun wf => ?_
  have gr := (Gr.refl h).new (rlC r)
  have n1 : ¬ o = h.nobj := by omega
  have hnc : rlC n = [.str n.name, .int .i64 n.body] := rfl
  have hrc : rlC r = [.str r.name, .int .i64 r.body] := rfl
  simp [A.rules_Right_1, rlV, V.cells, V.good, n1, ho, hnc, hrc]
  exact fin_wk (by rw [← hrc]; exact gr) (.same _) (by simp) hQ
end
/-- One node: its kids are the last that are nobody's so far. -/
def stpS (t : Te) (a : Nat) (st : List Int) : Option (List Int) := match t.nodes[a]? with
  | some n => if fineP t n = true ∧ n.kids.length ≤ st.length ∧ st.drop (st.length - n.kids.length) = n.kids then some (st.take (st.length - n.kids.length) ++ [(a : Int)]) else none
  | none => none
def runS (t : Te) : Nat → Nat → List Int → Option (List Int)
  | 0, _, st => some st
  | k + 1, a, st => match stpS t a st with
    | some st' => runS t k (a + 1) st'
    | none => none
def rightS (t : Te) : List Rl → List Str → Nat → Option Nat
  | [], _, a => some a
  | r :: rs, seen, a => if tokenT r.name 1 = true ∧ r.name ∉ seen ∧ (a : Int) ≤ r.body ∧ r.body < t.nodes.length then (match runS t (r.body.toNat + 1 - a) a [] with
      | some [_] => rightS t rs (seen ++ [r.name]) (r.body.toNat + 1)
      | _ => none) else none
/-- As the program asks. -/
def rightP (t : Te) : Bool := decide (0 < t.rules.length) && decide (t.rules.length ≤ 24) && decide (t.nodes.length ≤ 200) && decide (rightS t t.rules [] 0 = some t.nodes.length)
/-- The open nodes, as they lie. -/
def StkV (lo : Nat) (h' : AH) (v : V) (st : List Int) : Prop := (st = [] ∧ v = .sl 0 1 []) ∨
  ∃ o cap, v = .osl 1 o 0 st.length cap ∧ cap ≠ 0 ∧ st.length ≤ cap ∧ lo < o ∧ o < h'.nobj ∧ cap ≤ (h'.objs o).length ∧ (h'.objs o).take st.length = ints st
section
variable {X : Cx} {h : AH} {Q : V → AH → Prop}
theorem appG_nil {K : V → AH → Prop} {zK : Lz K} {e sz e1 st st' : Nat} {m : List V} (hm : m ≠ []) (hst : st = 1 ∨ st = 2) (hb : m.length * sz ≤ 2 ^ 46)
    (hk : ∀ c, m.length ≤ c → K (.osl e h.nobj 0 m.length c) (h.new (cellsOf m ++ List.replicate ((c - m.length) * e) .undef))) : AppG h e sz (.sl e1 st []) (.sl e st' m) zK :=
  ⟨fun e => hm (List.eq_nil_of_length_eq_zero e), rfl, hst, rfl, hb, hk⟩
theorem appG_osl {K : V → AH → Prop} {zK : Lz K} {e sz o off len cap st' : Nat} {m : List V} (hm : m ≠ []) (hc : cap ≠ 0) (hf : off + cap * e ≤ (h.objs o).length) (hb : (len + m.length) * sz ≤ 2 ^ 46)
    (h1 : len + m.length ≤ cap → K (.osl e o off (len + m.length) cap) (h.set o (setAt (h.objs o) (off + len * e) (cellsOf m))))
    (h2 : cap < len + m.length → ∀ c, len + m.length ≤ c → K (.osl e h.nobj 0 (len + m.length) c) (h.new (((h.objs o).drop off).take (len * e) ++ cellsOf m ++ List.replicate ((c - (len + m.length)) * e) .undef))) : AppG h e sz (.osl e o off len cap) (.sl e st' m) zK :=
  ⟨fun e => hm (List.eq_nil_of_length_eq_zero e), rfl, rfl, hc, hf, hb, h1, h2⟩
theorem eqNil_spec (H : Has (Ecx X) K.slices_Equal_int A.slices_Equal_int) (b : List Int) {e s t : Nat} (hQ : Q (.bool (decide (b = []))) h) : Ecx X K.slices_Equal_int [.sl e s [], .sl 1 t (ints b)] h Q := by
  refine fn_walk H (by simp [A.slices_Equal_int]) fun wf => ?_
  have hb : (ints b).length = b.length := by simp [ints]
  by_cases c : b = []
  · subst c
    simp [A.slices_Equal_int, ints]
    refine loopI (n := 0) (fun m env h' => h' = h ∧ env = [(0, .sl e s []), (1, .sl 1 t []), (12, .int .i64 0), (13, .int .i64 0)]) ?_ ⟨rfl, rfl⟩
    rintro m env h' ⟨rfl, rfl⟩
    unfold A.slices_Equal_int.L0
    simp
    exact fin (by simp) (by simpa using hQ)
  · have c' : ¬ (0 : Int) = b.length := by have := List.length_pos_iff.2 c; omega
    have c2 : ¬ 0 = b.length := by have := List.length_pos_iff.2 c; omega
    simp [A.slices_Equal_int, hb, c', c2, c]
    exact fin (by simp) (by simpa [c] using hQ)
theorem take_set {l : List V} {st : List Int} {n r cap : Nat} {v : V} (hn : n = st.length) (ht : l.take n = ints st) (hr : r ≤ n) (hc : r < l.length) : (l.set r v).take (r + 1) = ints (st.take r) ++ [v] := by
  subst hn
  rw [List.take_succ_eq_append_getElem (by simpa using hc), List.getElem_set_self]
  congr 1
  rw [List.take_set_of_le (Nat.le_refl _)]
  have : (l.take st.length).take r = (ints st).take r := by rw [ht]
  rw [List.take_take, Nat.min_eq_left hr] at this
  rw [this]; simp [ints, List.map_take]
theorem StkV.to {lo : Nat} {h h' : AH} {v : V} {st : List Int} (s : StkV lo h v st) (hn : h.nobj ≤ h'.nobj) (ho : ∀ o, lo < o → o < h.nobj → h'.objs o = h.objs o) : StkV lo h' v st := by
  rcases s with s | ⟨o, cap, e1, e2, e3, e4, e5, e6, e7⟩
  · exact .inl s
  · exact .inr ⟨o, cap, e1, e2, e3, e4, by omega, by rw [ho o e4 e5]; exact e6, by rw [ho o e4 e5]; exact e7⟩
theorem rightL1 (L : LRu X) (t : Te) {h' h2 : AH} {r : Rl} {a B k : Nat} {Q : Ex → Env → AH → Prop} {zQ : Lz Q} {z : Lz (AC.loop A.rules_Right_o.L1)} (hr : t.rules.length < 2 ^ 30) (hn : t.nodes.length < 2 ^ 30) (hnn : ∀ n ∈ t.nodes, n.name.length ≤ 2 ^ 30) (hks : ∀ n ∈ t.nodes, n.kids.length ≤ 2 ^ 30)
    (q4 : Gr h h2) (q1 : h2.objs h.nobj = teC t) (q0 : h2.objs h'.nobj = rlC r) (nb : h.nobj < h'.nobj) (q5 : h'.nobj < h2.nobj) (hbod : (B : Int) = r.body) (hBl : B < t.nodes.length) (haB : a ≤ B)
    (hret : ∀ e h3, Gr h h3 → runS t (B + 1 - a) a [] = none → Q .ret ((2, .bool false) :: e) h3)
    (hex : ∀ h3 v st, Gr h h3 → h3.objs h.nobj = teC t → h.nobj < h3.nobj → StkV h'.nobj h3 v st → runS t (B + 1 - a) a [] = some st → Q (.exit 2) [(1, .ptr h.nobj 0), (3, .int .i64 ((B + 1 : Nat) : Int)), (5, .ptr h'.nobj 0), (6, v), (26, .sl 2 0 (t.rules.map rlV)), (27, .int .i64 t.rules.length), (28, .int .i64 k), (62, .bool false)] h3) :
    acZ (Ecx X) [(1, .ptr h.nobj 0), (3, .int .i64 (a : Int)), (5, .ptr h'.nobj 0), (6, .sl 0 1 []), (26, .sl 2 0 (t.rules.map rlV)), (27, .int .i64 t.rules.length), (28, .int .i64 k)] h2 z zQ := by
  have htc : teC t = [.sl 2 0 (t.rules.map rlV), .sl 3 0 (t.nodes.map ndV)] := rfl
  have hrc : rlC r = [.str r.name, .int .i64 r.body] := rfl
  refine loopI (n := B + 1 - a) (fun m env h3 => ∃ j st v, j ≤ B + 1 - a ∧ m = B + 1 - a - j ∧ Gr h h3 ∧ h3.objs h.nobj = teC t ∧ h3.objs h'.nobj = rlC r ∧ h'.nobj < h3.nobj ∧ env = [(1, .ptr h.nobj 0), (3, .int .i64 ((a + j : Nat) : Int)), (5, .ptr h'.nobj 0), (6, v), (26, .sl 2 0 (t.rules.map rlV)), (27, .int .i64 t.rules.length), (28, .int .i64 k)] ∧
    StkV h'.nobj h3 v st ∧ st.length ≤ j ∧ runS t (B + 1 - a - j) (a + j) st = runS t (B + 1 - a) a []) ?_ ⟨0, [], _, by omega, by omega, q4, q1, q0, q5, rfl, .inl ⟨rfl, rfl⟩, by simp, rfl⟩
  rintro m env h3 ⟨j, st, v, hj, rfl, gr3, ob3, or3, nb3, rfl, stk, hsl, hrun⟩
  unfold A.rules_Right_o.L1
  have n2 : ¬ h.nobj = h3.nobj := by omega
  have n3 : ¬ h'.nobj = h3.nobj := by omega
  by_cases hjl : j < B + 1 - a
  · have hle : ((a + j : Nat) : Int) ≤ r.body := by omega
    have hil : a + j < t.nodes.length := by omega
    have hil' : ((a + j : Nat) : Int) < t.nodes.length := by omega
    have hgn : (t.nodes.map ndV).getD (a + j) .undef = ndV t.nodes[a + j] := Enc.getD hil
    have hw2 : IntKind.i64.wrap (((a + j : Nat) : Int) + 1) = ((a + (j + 1) : Nat) : Int) := by rw [wrap_i64 (by omega) (by omega)]; rfl
    have hnk := hks _ (List.getElem_mem hil)
    have hnl := hnn _ (List.getElem_mem hil)
    have hst : stpS t (a + j) st = if fineP t t.nodes[a + j] = true ∧ t.nodes[a + j].kids.length ≤ st.length ∧ st.drop (st.length - t.nodes[a + j].kids.length) = t.nodes[a + j].kids then some (st.take (st.length - t.nodes[a + j].kids.length) ++ [((a + j : Nat) : Int)]) else none := by
      unfold stpS; rw [List.getElem?_eq_getElem hil]
    have hru := hrun
    rw [show B + 1 - a - j = (B + 1 - a - (j + 1)) + 1 by omega, runS, hst] at hru
    clear hst
    generalize t.nodes[a + j] = nd at *
    generalize haj : a + j = p at *
    have hnc : ndC nd = [.int .i64 nd.kind, .str nd.name, .sl 1 0 (ints nd.kids)] := rfl
    have u0 : (h3.new (ndC nd)).objs h3.nobj = ndC nd := by simp
    have u1 : (h3.new (ndC nd)).objs h.nobj = teC t := by simp [n2, ob3]
    have u2 : (h3.new (ndC nd)).objs h'.nobj = rlC r := by simp [n3, or3]
    have u3 : (h3.new (ndC nd)).nobj = h3.nobj + 1 := by simp
    have u4 := gr3.new (ndC nd)
    have u5 : ∀ o, o < h3.nobj → (h3.new (ndC nd)).objs o = h3.objs o := fun o ho => by rw [new_objs_ne _ _ (by omega)]
    have stk4 : StkV h'.nobj (h3.new (ndC nd)) v st := stk.to (by omega) fun o h1 h2 => u5 o h2
    simp [or3, hrc, hle, ob3, htc, hil', hgn, ndV, V.cells, V.good, hnc, setAt]
    rw [← hnc]
    generalize h3.new (ndC nd) = h4 at *
    rcases stk4 with ⟨rfl, rfl⟩ | ⟨o, cap, rfl, e2, e3, e4, e5, e6, e7⟩
    · cases hf : fineP t nd with
      | false =>
        rw [if_neg (fun e => by rw [hf] at e; exact absurd e.1 (by simp))] at hru
        simp [u0, hnc, u1, htc]
        rw [← hnc]
        refine dcall (.bool (fineP t nd)) (rufine_spec L t nd (by omega) hnl ⟨rfl, rfl⟩) ?_
        simp [hf]
        exact hret _ _ u4 hru.symm
      | true =>
      by_cases hz : nd.kids = []
      · rw [if_pos ⟨hf, by simp [hz], by simp [hz]⟩] at hru
        simp [u0, hnc, u1, htc]
        rw [← hnc]
        refine dcall (.bool (fineP t nd)) (rufine_spec L t nd (by omega) hnl ⟨rfl, rfl⟩) ?_
        have hw0 : IntKind.i64.wrap 0 = 0 := by rfl
        simp [hf, hz, u0, hnc, u1, htc, ints, hw0]
        refine dcall (.bool (decide (([] : List Int) = []))) (eqNil_spec (e := 0) (s := 1) (t := 0) L.eqI [] ⟨rfl, rfl⟩) ?_
        simp
        refine appG_nil (by simp) (.inl rfl) (by simp) fun c hc => ?_
        simp [hw2, V.cells]
        simp only [hz, List.length_nil, List.take_nil, List.nil_append] at hru
        exact ⟨B + 1 - a - (j + 1), by omega, iv ⟨j + 1, [(p : Int)], _, by omega, rfl, u4.new _, by rw [new_objs_ne _ _ (by omega)]; exact u1, by rw [new_objs_ne _ _ (by omega)]; exact u2, by simp; omega, by rw [← haj]; rfl,
          .inr ⟨h4.nobj, c, rfl, by simp at hc; omega, by simpa using hc, by omega, by simp, by simp at hc ⊢; omega, by simp [ints]⟩, by simp, by rw [show a + (j + 1) = p + 1 by omega]; exact hru⟩⟩
      · rw [if_neg (fun e => hz (List.eq_nil_of_length_eq_zero (by simpa using e.2.1)))] at hru
        have hzl : 0 < nd.kids.length := List.length_pos_iff.2 hz
        have hwr : IntKind.i64.wrap (0 - (nd.kids.length : Int)) = - (nd.kids.length : Int) := by rw [wrap_i64 (by omega) (by omega)]; omega
        simp [u0, hnc, u1, htc]
        rw [← hnc]
        refine dcall (.bool (fineP t nd)) (rufine_spec L t nd (by omega) hnl ⟨rfl, rfl⟩) ?_
        have hneg : -(nd.kids.length : Int) < 0 := by omega
        have hwr' : IntKind.i64.wrap (-(nd.kids.length : Int)) = -(nd.kids.length : Int) := wrap_i64 (by omega) (by omega)
        simp [hf, u0, hnc, u1, htc, ints, hwr', hneg, hzl, hz]
        exact hret _ _ u4 hru.symm
    · have hwr : IntKind.i64.wrap ((st.length : Int) - (nd.kids.length : Int)) = (st.length : Int) - (nd.kids.length : Int) := wrap_i64 (by omega) (by omega)
      cases hf : fineP t nd with
      | false =>
        rw [if_neg (fun e => by rw [hf] at e; exact absurd e.1 (by simp))] at hru
        simp [u0, hnc, u1, htc]
        rw [← hnc]
        refine dcall (.bool (fineP t nd)) (rufine_spec L t nd (by omega) hnl ⟨rfl, rfl⟩) ?_
        simp [hf]
        exact hret _ _ u4 hru.symm
      | true =>
      by_cases hz : nd.kids.length ≤ st.length
      · obtain ⟨r', hr'⟩ : ∃ r', r' = st.length - nd.kids.length := ⟨_, rfl⟩
        have hri : (st.length : Int) - (nd.kids.length : Int) = (r' : Int) := by omega
        rw [hri] at hwr
        have hneg : ¬ (r' : Int) < 0 := by omega
        have hrl : (r' : Int) ≤ st.length := by omega
        have hrc' : r' ≤ cap := by omega
        have hrc2 : (st.length : Int) ≤ cap := by omega
        have hrc3 : (r' : Int) ≤ cap := by omega
        rw [← hr'] at hru
        have hdrop : ((h4.objs o).drop r').take (st.length - r') = ints (st.drop r') := by
          rw [← List.drop_take, e7]; simp [ints]
        simp [u0, hnc, u1, htc, hri, hwr]
        rw [← hnc]
        refine dcall (.bool (fineP t nd)) (rufine_spec L t nd (by omega) hnl ⟨rfl, rfl⟩) ?_
        simp [hf, u0, hnc, u1, htc, hneg, hrl, hrc2, hrc3, ints, e3]
        refine dcall (.bool (decide (st.drop r' = nd.kids))) (eqO_spec L.eqI (st.drop r') nd.kids (l := h4.objs o) (by simp) rfl ?_ ?_ (by omega) ⟨rfl, rfl⟩) ?_
        · split <;> omega
        · by_cases hq : cap = r'
          · rw [if_pos hq]
            have : st.length - r' = 0 := by omega
            rw [this, show r' = st.length by omega]; simp [ints]
          · rw [if_neg hq]; exact hdrop
        by_cases hd : st.drop r' = nd.kids
        · rw [if_pos ⟨hf, hz, hd⟩] at hru
          simp only at hru
          simp [hd, hrc3]
          have hlen : (st.take r' ++ [(p : Int)]).length = r' + 1 := by simp; omega
          refine appG_osl (by simp) e2 (by omega) (by simp; omega) (fun hin => ?_) fun hout c hc => ?_
          · simp at hin
            simp [hw2, V.cells, setAt]
            have m1 : ¬ h.nobj = o := by omega
            have m2 : ¬ h'.nobj = o := by omega
            exact ⟨B + 1 - a - (j + 1), by omega, iv ⟨j + 1, _, _, by omega, rfl, u4.set (by omega) _, by rw [set_objs_ne _ _ _ m1]; exact u1, by rw [set_objs_ne _ _ _ m2]; exact u2, by rw [set_nobj]; omega, rfl,
              .inr ⟨o, cap, by rw [hlen], by omega, by omega, by omega, by rw [set_nobj]; exact e5, by rw [set_objs_same, List.length_set]; exact e6, by
                rw [set_objs_same, hlen, take_set (cap := cap) rfl e7 (by omega) (by omega)]; simp [ints]⟩, by omega, by rw [show a + (j + 1) = p + 1 by omega]; exact hru⟩⟩
          · simp at hout hc
            simp [hw2, V.cells, setAt]
            have htk : (h4.objs o).take r' = ints (st.take r') := by
              have : ((h4.objs o).take st.length).take r' = (ints st).take r' := by rw [e7]
              rw [List.take_take, Nat.min_eq_left (by omega)] at this
              rw [this]; simp [ints, List.map_take]
            have htl : (ints (st.take r')).length = r' := by simp [ints]; omega
            exact ⟨B + 1 - a - (j + 1), by omega, iv ⟨j + 1, _, _, by omega, rfl, u4.new _, by rw [new_objs_ne _ _ (by omega)]; exact u1, by rw [new_objs_ne _ _ (by omega)]; exact u2, by rw [new_nobj]; omega, rfl,
              .inr ⟨h4.nobj, c, by rw [hlen], by omega, by omega, by omega, by simp, by rw [new_objs_same, htk]; simp [htl]; omega, by
                rw [new_objs_same, htk, hlen, show ∀ R, ints (st.take r') ++ V.int .i64 (p : Int) :: R = (ints (st.take r') ++ [V.int .i64 (p : Int)]) ++ R from fun R => by simp, List.take_left' (by simp [htl])]; simp [ints]⟩, by omega, by rw [show a + (j + 1) = p + 1 by omega]; exact hru⟩⟩
        · rw [if_neg (fun e => hd e.2.2)] at hru
          simp [hd]
          exact hret _ _ u4 hru.symm
      · rw [if_neg (fun e => hz e.2.1)] at hru
        have hneg : (st.length : Int) - (nd.kids.length : Int) < 0 := by omega
        simp [u0, hnc, u1, htc, hwr]
        rw [← hnc]
        refine dcall (.bool (fineP t nd)) (rufine_spec L t nd (by omega) hnl ⟨rfl, rfl⟩) ?_
        simp [hf, hneg, show (st.length : Int) < nd.kids.length by omega, show st.length < nd.kids.length by omega]
        exact hret _ _ u4 hru.symm
  · have hle : ¬ ((a + j : Nat) : Int) ≤ r.body := by omega
    have hjj : B + 1 - a - j = 0 := by omega
    rw [hjj, runS] at hrun
    have hle2 : ¬ ((a : Int) + (j : Int) ≤ r.body) := by omega
    simp [or3, hrc, hle2]
    have := hex h3 v st gr3 ob3 (by omega) stk hrun.symm
    rw [show ((B + 1 : Nat) : Int) = (a : Int) + (j : Int) by omega] at this
    exact this
theorem ruRight_spec (L : LRu X) (HR : Has (Ecx X) K.rules_Right A.rules_Right_o) (t : Te) (hr : t.rules.length < 2 ^ 30) (hn : t.nodes.length < 2 ^ 30) (hrn : ∀ r ∈ t.rules, r.name.length ≤ 2 ^ 30) (hnn : ∀ n ∈ t.nodes, n.name.length ≤ 2 ^ 30) (hks : ∀ n ∈ t.nodes, n.kids.length ≤ 2 ^ 30)
    (hQ : Q (.bool (rightP t)) h) : Ecx X K.rules_Right [teV t] h Q := by
  refine fn_walk HR (by simp [A.rules_Right_o]) fun wf => ?_
  have htc : teC t = [.sl 2 0 (t.rules.map rlV), .sl 3 0 (t.nodes.map ndV)] := rfl
  have gr := (Gr.refl h).new (teC t)
  have hb0 : (h.new (teC t)).objs h.nobj = teC t := by simp
  have hb1 : (h.new (teC t)).nobj = h.nobj + 1 := by simp
  simp [A.rules_Right_o, teV, V.cells, V.good]
  generalize h.new (teC t) = h1 at *
  simp [hb0, htc]
  by_cases c0 : t.rules = []
  · have : rightP t = false := by simp [rightP, c0]
    rw [this] at hQ
    simp [c0]
    exact fin_wk gr (.same _) (by simp) hQ
  have c0' : 0 < t.rules.length := List.length_pos_iff.2 c0
  by_cases c1 : (24 : Int) < t.rules.length
  · have : rightP t = false := by
      have : ¬ t.rules.length ≤ 24 := by omega
      simp [rightP, this]
    rw [this] at hQ
    simp [c0, c1, hb0, htc]
    exact fin_wk gr (.same _) (by simp) hQ
  by_cases c2 : (200 : Int) < t.nodes.length
  · have : rightP t = false := by
      have : ¬ t.nodes.length ≤ 200 := by omega
      simp [rightP, this]
    rw [this] at hQ
    simp [c0, c1, c2, hb0, htc]
    exact fin_wk gr (.same _) (by simp) hQ
  have hrp : rightP t = decide (rightS t t.rules [] 0 = some t.nodes.length) := by
    unfold rightP
    rw [decide_eq_true c0', decide_eq_true (show t.rules.length ≤ 24 by omega), decide_eq_true (show t.nodes.length ≤ 200 by omega)]; simp
  rw [hrp] at hQ
  clear hrp
  simp [c0, c1, c2, hb0, htc]
  refine loopI (n := t.rules.length) (fun m env h' => ∃ k a, k ≤ t.rules.length ∧ m = t.rules.length - k ∧ a ≤ t.nodes.length ∧ Gr h h' ∧ h'.objs h.nobj = teC t ∧ h.nobj < h'.nobj ∧ env = [(1, .ptr h.nobj 0), (3, .int .i64 (a : Int)), (26, .sl 2 0 (t.rules.map rlV)), (27, .int .i64 t.rules.length), (28, .int .i64 k)] ∧
      rightS t (t.rules.drop k) ((rnames t).take k) a = rightS t t.rules [] 0) ?_ ⟨0, 0, by omega, by omega, by omega, gr, hb0, by omega, rfl, by simp⟩
  rintro m env h' ⟨k, a, hk, rfl, ha, gr', ob, nb, rfl, hS⟩
  unfold A.rules_Right_o.L0
  by_cases hlt : k < t.rules.length
  · have hlt' : (k : Int) < t.rules.length := by omega
    have hg : (t.rules.map rlV).getD k .undef = rlV t.rules[k] := Enc.getD hlt
    have hw1 : IntKind.i64.wrap ((k : Int) + 1) = ((k + 1 : Nat) : Int) := by rw [wrap_i64 (by omega) (by omega)]; rfl
    have hmem := hrn _ (List.getElem_mem hlt)
    have htk : (rnames t).take (k + 1) = (rnames t).take k ++ [t.rules[k].name] := by
      rw [List.take_succ_eq_append_getElem (by simp [rnames, hlt])]; simp [rnames]
    have hany : ((t.rules.take k).any fun r => decide (r.name = t.rules[k].name)) = decide (t.rules[k].name ∈ (rnames t).take k) := by
      apply Bool.eq_iff_iff.2
      simp [rnames, ← List.map_take]
    have hSd := hS
    rw [List.drop_eq_getElem_cons hlt, rightS] at hSd
    have hkl : (t.rules.map rlV).take k = (t.rules.take k).map rlV := List.map_take.symm
    generalize hrr : t.rules[k] = r at *
    have hrc : rlC r = [.str r.name, .int .i64 r.body] := rfl
    have n1 : ¬ h.nobj = h'.nobj := by omega
    have q0 : (h'.new (rlC r)).objs h'.nobj = rlC r := by simp
    have q1 : (h'.new (rlC r)).objs h.nobj = teC t := by simp [n1, ob]
    have q2 : (h'.new (rlC r)).nobj = h'.nobj + 1 := by simp
    have q3 : ∀ o, o < h'.nobj → (h'.new (rlC r)).objs o = h'.objs o := fun o ho => by rw [new_objs_ne _ _ (by omega)]
    have q4 := gr'.new (rlC r)
    simp [hlt', hg, rlV, V.cells, V.good, hrc, setAt]
    rw [← hrc]
    generalize h'.new (rlC r) = h2 at *
    refine ecall (token_spec L.s L.token r.name 1 (by omega) ?_)
    cases ht : tokenT r.name 1 with
    | false =>
      rw [if_neg (fun e => by rw [ht] at e; exact absurd e.1 (by simp))] at hSd
      rw [← hSd] at hQ
      simp
      exact fin_wk q4 (.same _) (by simp) (by simpa using hQ)
    | true =>
    have hct := L.ctR
    rw [show A.slices_ContainsFunc_Rule = ctfF K.slices_IndexFunc_Rule from rfl] at hct
    have hix := L.ixR
    rw [show A.slices_IndexFunc_Rule = ixfF 2 true from rfl] at hix
    simp [q1, htc, q0, hrc, hkl, show (k : Int) ≤ t.rules.length by omega]
    refine ecall (containsFunc encRl hct hix (t.rules.take k) _ _ [] _ (fun x => decide (x.name = r.name)) (by simp; omega) (fun x _ Q' h3 gr3 hQ' => ?_) ?_)
    · exact ruRight1_spec L x ((gr3.objs _ (by omega)).trans q0) (by have := gr3.nobj; omega) hQ'
    rw [hany]
    by_cases c3 : r.name ∈ (rnames t).take k
    · rw [if_neg (fun e => e.2.1 c3)] at hSd
      rw [← hSd] at hQ
      simp [c3]
      exact fin_wk q4 (.same _) (by simp) (by simpa using hQ)
    by_cases c4 : r.body < a
    · rw [if_neg (fun e => by omega)] at hSd
      rw [← hSd] at hQ
      simp [c3, c4, q0, hrc]
      exact fin_wk q4 (.same _) (by simp) (by simpa using hQ)
    by_cases c5 : (t.nodes.length : Int) ≤ r.body
    · rw [if_neg (fun e => by omega)] at hSd
      rw [← hSd] at hQ
      simp [c3, c4, c5, q0, q1, htc, hrc]
      exact fin_wk q4 (.same _) (by simp) (by simpa using hQ)
    rw [if_pos ⟨ht, c3, by omega, by omega⟩] at hSd
    simp [c3, c4, c5, q0, q1, htc, hrc]
    have q5 : h'.nobj < h2.nobj := by omega
    have hbod : ((r.body.toNat : Nat) : Int) = r.body := by omega
    generalize hB : r.body.toNat = B at *
    refine rightL1 L t hr hn hnn hks q4 q1 q0 nb q5 hbod (by omega) (by omega) (fun e h3 g3 he => ?_) (fun h3 v st g3 o3 n3 stk he => ?_)
    · rw [he] at hSd
      simp only at hSd
      rw [← hSd] at hQ
      simp
      exact fin_wk g3 (.same _) (by simp) (by simpa using hQ)
    · rw [he] at hSd
      have hnext : (st.length = 1 ∧ rightS t (t.rules.drop (k + 1)) ((rnames t).take k ++ [r.name]) (B + 1) = rightS t t.rules [] 0) ∨ (¬ st.length = 1 ∧ rightS t t.rules [] 0 = none) := by
        match st, hSd with
        | [x], hSd => exact .inl ⟨rfl, hSd⟩
        | [], hSd => exact .inr ⟨by simp, hSd.symm⟩
        | _ :: _ :: _, hSd => exact .inr ⟨by simp, hSd.symm⟩
      rw [← htk] at hnext
      have hvl : ∀ (env : Env) (K : V → AH → Prop) (zK : Lz K), K (.int .i64 st.length) h3 → lenZ (Ecx X) env h3 false v zK := fun env K zK hK => by
        rcases stk with ⟨rfl, rfl⟩ | ⟨o, cap, rfl, _⟩
        · simpa using hK
        · simpa using hK
      simp
      refine hvl _ _ _ ?_
      simp
      by_cases c6 : st.length = 1
      · have c6' : (st.length : Int) = 1 := by omega
        have hn2 := (hnext.resolve_right (fun e => e.1 c6)).2
        simp [c6', hw1]
        exact ⟨t.rules.length - (k + 1), by omega, iv ⟨k + 1, B + 1, by omega, rfl, by omega, g3, o3, n3, rfl, hn2⟩⟩
      · have c6' : ¬ (st.length : Int) = 1 := by omega
        rcases hnext with e | e
        · exact absurd e.1 c6
        · rw [e.2] at hQ
          simp [c6', c6]
          exact fin_wk g3 (.same _) (by simp) (by simpa using hQ)
  · have hlt' : ¬ (k : Int) < t.rules.length := by omega
    obtain rfl : k = t.rules.length := by omega
    rw [List.drop_length, rightS] at hS
    rw [← hS] at hQ
    simp [hlt', ob, htc]
    have : decide ((a : Int) = t.nodes.length) = decide (some a = some t.nodes.length) := by
      apply Bool.eq_iff_iff.2; simp; omega
    rw [this]
    exact fin_wk gr' (.same _) (by simp) hQ
end
end Go.Proofs.Ytdbbgkdepjidjaa.Al
namespace Go.Proofs.Ytdbbgkdepjidjaa.Al
open Go Go.RowKit
set_option linter.unusedSimpArgs false
set_option linter.unusedVariables false
attribute [-simp] List.getD_eq_getElem?_getD Int.not_lt Int.not_le List.map_take
/-- The numbers of a node, and of all below it. -/
def undK (L : Nat) (rec : Int → List Int → List Int) (n : Int) : List Int → List Int → List Int
  | [], out => out ++ [n]
  | k :: ks, out => if n ≤ k ∨ L < out.length then out ++ [-1] else undK L rec n ks (rec k out)
def undT (t : Te) : Nat → Int → List Int → List Int
  | 0, _, out => out ++ [-1]
  | f + 1, n, out => if n < 0 ∨ (t.nodes.length : Int) ≤ n ∨ t.nodes.length < out.length then out ++ [-1] else undK t.nodes.length (undT t f) n (match t.nodes[n.toNat]? with
    | some x => x.kids
    | none => []) out
theorem undK_len {L f : Nat} {rec : Int → List Int → List Int} (hr : ∀ k out, (rec k out).length ≤ max out.length L + f) (n : Int) : ∀ (ks out : List Int) (m : Nat), L ≤ m → out.length ≤ m + f → (undK L rec n ks out).length ≤ m + f + 1
  | [], out, m, hm, ho => by simp [undK]; omega
  | k :: ks, out, m, hm, ho => by
    unfold undK
    split
    · simp; omega
    · rename_i c
      refine undK_len hr n ks _ m hm ?_
      have := hr k out
      omega
theorem undT_len (t : Te) : ∀ (f : Nat) (n : Int) (out : List Int), (undT t f n out).length ≤ max out.length t.nodes.length + (f + 1)
  | 0, n, out => by simp [undT]; omega
  | f + 1, n, out => by
    unfold undT
    split
    · simp; omega
    · have := undK_len (L := t.nodes.length) (f := f + 1) (rec := undT t f) (fun k o => undT_len t f k o) n (match t.nodes[n.toNat]? with
        | some x => x.kids
        | none => []) out (max out.length t.nodes.length) (by omega) (by omega)
      omega
section
variable {X : Cx}
theorem under_spec (H : Has (Ecx X) K.probateref06_under A.probateref06_under) (t : Te) (hn : t.nodes.length < 2 ^ 30) (hks : ∀ n ∈ t.nodes, n.kids.length ≤ 2 ^ 30) : ∀ (f : Nat) (n : Int) (out : List Int), (n < f ∨ (t.nodes.length : Int) ≤ n) → max out.length t.nodes.length + (f + 1) ≤ 2 ^ 40 →
    ∀ {h : AH} {e1 st : Nat} {Q : V → AH → Prop}, May 1 h e1 st (ints out) → Q (.sl 1 h.next (ints (undT t f n out))) (h.push st 1) → Ecx X K.probateref06_under [teV t, .int .i64 n, .sl e1 st (ints out)] h Q := by
  intro f
  induction f with
  | zero =>
    intro n out hnf hb h e1 st Q my hQ
    refine Ecx.wf fun wf => Ecx.tip (st := st) (e := 1) ?_ ?_
    · rcases my.st with a | a | a
      · omega
      · omega
      · exact .inr (wf.tips _ _ a).2
    refine fn_any H (by simp [A.probateref06_under]) fun wf => ?_
    have hst : st ≤ 2 ∨ st < h.next := by
      rcases my.st with a | a | a
      · omega
      · omega
      · exact .inr (wf.tips _ _ a).2
    have htc : teC t = [.sl 2 0 (t.rules.map rlV), .sl 3 0 (t.nodes.map ndV)] := rfl
    have em : ints out ++ [V.int .i64 (-1)] = ints (undT t 0 n out) := by simp [undT, ints]
    have my1 : May 1 (h.new (teC t)) e1 st (ints out) := my.se ((SE.refl hst).new _) my.el
    have p0 : (h.new (teC t)).objs h.nobj = teC t := by simp
    have se1 : SE 1 h (h.new (teC t)) st st := (SE.refl hst).new _
    have pn : (h.new (teC t)).next = h.next := rfl
    have fin : ∀ {K : V → AH → Prop} (zK : Lz K), (K (.sl 1 h.next (ints (undT t 0 n out))) ((h.new (teC t)).push st 1)) → App (h.new (teC t)) 1 8 e1 st (ints out) 1 [.int .i64 (-1)] zK := fun zK hk =>
      my1.app (by simp) rfl (by simp [ints]; omega) (by rw [em]; exact hk)
    have fin2 := se1.push wf.next
    simp [A.probateref06_under, teV, V.cells, V.good]
    generalize h.new (teC t) = h1 at *
    by_cases c1 : n < 0
    · simp [c1, fillL, V.isAgg]
      refine fin _ ?_
      simp
      rw [← pn]
      exact ⟨h1.next, ints (undT t 0 n out), ⟨rfl, rfl⟩, fin2, by omega, Bdd_ints _ _ _, by rw [pn]; exact hQ⟩
    · have c2 : (t.nodes.length : Int) ≤ n := by omega
      simp [c1, c2, p0, htc, fillL, V.isAgg]
      refine fin _ ?_
      simp
      rw [← pn]
      exact ⟨h1.next, ints (undT t 0 n out), ⟨rfl, rfl⟩, fin2, by omega, Bdd_ints _ _ _, by rw [pn]; exact hQ⟩
  | succ f ih =>
    intro n out hnf hb h e1 st Q my hQ
    refine Ecx.wf fun wf => Ecx.tip (st := st) (e := 1) ?_ ?_
    · rcases my.st with a | a | a
      · omega
      · omega
      · exact .inr (wf.tips _ _ a).2
    refine fn_any H (by simp [A.probateref06_under]) fun wf => ?_
    have hst : st ≤ 2 ∨ st < h.next := by
      rcases my.st with a | a | a
      · omega
      · omega
      · exact .inr (wf.tips _ _ a).2
    have n3 := wf.next
    have htc : teC t = [.sl 2 0 (t.rules.map rlV), .sl 3 0 (t.nodes.map ndV)] := rfl
    have se1 : SE 1 h (h.new (teC t)) st st := (SE.refl hst).new _
    have p0 : (h.new (teC t)).objs h.nobj = teC t := by simp
    have p2 : (h.new (teC t)).nobj = h.nobj + 1 := by simp
    have hil : (ints out).length = out.length := by simp [ints]
    generalize hR : undT t (f + 1) n out = R at *
    -- one number more, and back
    have done : ∀ {h' : AH} {e2 st2 : Nat} {o2 : List Int} (v : Int), SE 1 h h' st st2 → (ints o2 = [] ∨ e2 = 1) → o2.length ≤ 2 ^ 40 → o2 ++ [v] = R → ∀ {K : V → AH → Prop} (zK : Lz K),
        ((∃ st1 l, V.sl 1 h'.next (ints R) = .sl 1 st1 l ∧ SE 1 h (h'.push st2 1) st st1 ∧ h.next ≤ st1 ∧ (∀ v ∈ cellsOf l, Bdd h.next h.nobj v) ∧ Q (.sl 1 h.next l) (h.push st 1)) → K (.sl 1 h'.next (ints R)) (h'.push st2 1)) →
        App h' 1 8 e2 st2 (ints o2) 1 [.int .i64 v] zK := fun {h' e2 st2 o2} v se el hl e K zK hk => by
      have em : ints o2 ++ [V.int .i64 v] = ints R := by rw [← e]; simp [ints]
      refine (my.se se el).app (by simp) rfl (by simp [ints]; omega) ?_
      rw [em]
      exact hk ⟨h'.next, ints R, rfl, se.push n3, se.next, Bdd_ints _ _ _, hQ⟩
    simp [A.probateref06_under, teV, V.cells, V.good]
    generalize h.new (teC t) = h1 at *
    by_cases c0 : n < 0 ∨ (t.nodes.length : Int) ≤ n ∨ t.nodes.length < out.length
    · rw [undT, if_pos c0] at hR
      by_cases c1 : n < 0
      · simp [c1, fillL, V.isAgg]
        refine done (-1) se1 my.el (by omega) hR _ fun hq => ?_
        simp
        simpa using hq
      by_cases c2 : (t.nodes.length : Int) ≤ n
      · simp [c1, c2, p0, htc, fillL, V.isAgg]
        refine done (-1) se1 my.el (by omega) hR _ fun hq => ?_
        simp
        simpa using hq
      · have c3 : (t.nodes.length : Int) < out.length := by omega
        simp [c1, c2, c3, p0, htc, fillL, V.isAgg, hil]
        refine done (-1) se1 my.el (by omega) hR _ fun hq => ?_
        simp
        simpa using hq
    rw [undT, if_neg c0] at hR
    have c1 : ¬ n < 0 := by omega
    have c2 : ¬ (t.nodes.length : Int) ≤ n := by omega
    have c3 : ¬ (t.nodes.length : Int) < out.length := by omega
    obtain ⟨m, rfl⟩ : ∃ m : Nat, n = (m : Int) := ⟨n.toNat, by omega⟩
    have hm : m < t.nodes.length := by omega
    have hm' : (m : Int) < t.nodes.length := by omega
    have hg : (t.nodes.map ndV).getD m .undef = ndV t.nodes[m] := Enc.getD hm
    have hkl := hks _ (List.getElem_mem hm)
    rw [Int.toNat_natCast, List.getElem?_eq_getElem hm] at hR
    simp only at hR
    generalize t.nodes[m] = nd at *
    obtain ⟨kind, name, ks⟩ := nd
    simp only at hkl hR
    have hnc : ndC ⟨kind, name, ks⟩ = [.int .i64 kind, .str name, .sl 1 0 (ints ks)] := rfl
    have hksl : (ints ks).length = ks.length := by simp [ints]
    simp [c1, c2, c3, p0, htc, hil]
    refine loopI (n := ks.length) (fun mm env h' => ∃ i e2 st2 o2, i ≤ ks.length ∧ mm = ks.length - i ∧ env = [(1, .int .i64 (m : Int)), (2, .sl e2 st2 (ints o2)), (3, .ptr h.nobj 0), (7, .int .i64 i)] ∧ SE 1 h h' st st2 ∧ (ints o2 = [] ∨ e2 = 1) ∧ h'.objs h.nobj = teC t ∧ h.nobj < h'.nobj ∧
      o2.length ≤ max out.length t.nodes.length + (f + 1) ∧ undK t.nodes.length (undT t f) m (ks.drop i) o2 = R) ?_
      ⟨0, e1, st, out, by omega, by omega, rfl, se1, my.el, p0, by omega, by omega, by simpa using hR⟩
    rintro mm env h' ⟨i, e2, st2, o2, hi, rfl, rfl, se2, el2, b0, nb, hol, hu⟩
    unfold A.probateref06_under.L0
    have hil2 : (ints o2).length = o2.length := by simp [ints]
    by_cases hlt : i < ks.length
    · have hlt' : (i : Int) < ks.length := by omega
      have hgk := ints_get hlt
      have hw1 : IntKind.i64.wrap ((i : Int) + 1) = ((i + 1 : Nat) : Int) := by rw [wrap_i64 (by omega) (by omega)]; rfl
      rw [List.drop_eq_getElem_cons hlt, undK] at hu
      by_cases c4 : (m : Int) ≤ ks[i] ∨ t.nodes.length < o2.length
      · rw [if_pos c4] at hu
        by_cases c5 : (m : Int) ≤ ks[i]
        · simp [b0, htc, hm', hg, ndV, hnc, V.cells, hksl, hlt', hgk, c5, fillL, V.isAgg]
          refine done (-1) se2 el2 (by omega) hu _ fun hq => ?_
          simp
          simpa using hq
        · have c6 : (t.nodes.length : Int) < o2.length := by omega
          simp [b0, htc, hm', hg, ndV, hnc, V.cells, hksl, hlt', hgk, c5, c6, hil2, fillL, V.isAgg]
          refine done (-1) se2 el2 (by omega) hu _ fun hq => ?_
          simp
          simpa using hq
      · rw [if_neg c4] at hu
        have c5 : ¬ (m : Int) ≤ ks[i] := fun e => c4 (.inl e)
        have c6 : ¬ (t.nodes.length : Int) < o2.length := fun e => c4 (.inr (by omega))
        have := undT_len t f ks[i] o2
        simp [b0, htc, hm', hg, ndV, hnc, V.cells, hksl, hlt', hgk, c5, c6, hil2]
        rw [← htc]
        refine ecall (ih ks[i] o2 (by omega) (by omega) (my.se se2 el2) ?_)
        simp [hw1]
        exact ⟨ks.length - (i + 1), by omega, iv ⟨i + 1, 1, _, _, by omega, rfl, rfl, se2.push n3, .inr rfl, by rw [push_objs]; exact b0, by rw [push_nobj]; exact nb, by omega, hu⟩⟩
    · have hlt' : ¬ (i : Int) < ks.length := by omega
      obtain rfl : i = ks.length := by omega
      rw [List.drop_length, undK] at hu
      simp [b0, htc, hm', hg, ndV, hnc, V.cells, hksl, hlt', fillL, V.isAgg]
      refine done _ se2 el2 (by omega) hu _ fun hq => ?_
      simp
      simpa using hq
end
/-- The numbers from 0 on. -/
def iotaI (n : Nat) : List Int := (List.range n).map fun i : Nat => (i : Int)
@[simp] theorem iotaI_len (n : Nat) : (iotaI n).length = n := by simp [iotaI]
theorem iotaI_succ (n : Nat) : iotaI (n + 1) = iotaI n ++ [(n : Int)] := by simp [iotaI, List.range_succ]
theorem iotaI_get {n i : Nat} (h : i < n) : (iotaI n)[i]? = some (i : Int) := by simp [iotaI, h]
/-- A name, as the reference asks. -/
def nameR (s : Str) : Bool := match scanR s with
  | ([a], _, e) => decide (e = 0) && decide (a.kind = 1) && decide (a.text = s)
  | _ => false
def rightR (t : Te) : List Rl → List Str → List Int → Option (List Int)
  | [], _, all => some all
  | r :: rs, seen, all => if nameR r.name = true ∧ r.name ∉ seen then rightR t rs (seen ++ [r.name]) (undT t t.nodes.length r.body all) else none
/-- As the reference asks. -/
def rightD (t : Te) : Bool := decide (0 < t.rules.length) && decide (t.rules.length ≤ 24) && decide (t.nodes.length ≤ 200) && (match rightR t t.rules [] [] with
  | some all => decide (all = iotaI t.nodes.length) && t.nodes.all (fineT t)
  | none => false)
structure LR6 (X : Cx) : Prop where
  s : LSR X
  under : Has (Ecx X) K.probateref06_under A.probateref06_under
  right : Has (Ecx X) K.probateref06_Right A.probateref06_Right
  fine : Has (Ecx X) K.probateref06_Tree_fine A.probateref06_Tree_fine
  rule : Has (Ecx X) K.probateref06_Tree_rule A.probateref06_Tree_rule
  quote : Has (Ecx X) K.probateref06_quote A.probateref06_quote
section
variable {X : Cx} {h : AH} {Q : V → AH → Prop}
theorem rRightL1 (t : Te) {o i : Nat} {v3 : V} {Q : Ex → Env → AH → Prop} {zQ : Lz Q} {z : Lz (AC.loop A.probateref06_Right.L1)} (hi : i < t.rules.length) (hr : t.rules.length < 2 ^ 30) (ho : h.objs o = teC t)
    (hret : ∀ e, t.rules[i].name ∈ (rnames t).take i → Q .ret ((2, .bool false) :: e) h)
    (hex : t.rules[i].name ∉ (rnames t).take i → Q (.exit 2) [(1, .ptr o 0), (3, v3), (4, .int .i64 i), (8, .int .i64 i), (74, .bool false)] h) :
    acZ (Ecx X) [(1, .ptr o 0), (3, v3), (4, .int .i64 i), (8, .int .i64 0)] h z zQ := by
  have htc : teC t = [.sl 2 0 (t.rules.map rlV), .sl 3 0 (t.nodes.map ndV)] := rfl
  have hgi : (t.rules.map rlV).getD i .undef = rlV t.rules[i] := Enc.getD hi
  have hii : (i : Int) < t.rules.length := by omega
  generalize t.rules[i] = r at *
  refine loopI (n := i) (fun m env h' => ∃ k, k ≤ i ∧ m = i - k ∧ h' = h ∧ env = [(1, .ptr o 0), (3, v3), (4, .int .i64 i), (8, .int .i64 k)] ∧ (r.name ∈ (rnames t).take i ↔ r.name ∈ ((rnames t).take i).drop k)) ?_ ⟨0, by omega, by omega, rfl, rfl, by simp⟩
  rintro m env h' ⟨k, hk, rfl, rfl, rfl, hm⟩
  unfold A.probateref06_Right.L1
  have hrl : ((rnames t).take i).length = i := by simp [rnames]; omega
  by_cases hlt : k < i
  · have hlt' : (k : Int) < i := by omega
    have hkl : (k : Int) < t.rules.length := by omega
    have hgk : (t.rules.map rlV).getD k .undef = rlV (t.rules[k]'(by omega)) := Enc.getD (by omega)
    have hw1 : IntKind.i64.wrap ((k : Int) + 1) = ((k + 1 : Nat) : Int) := by rw [wrap_i64 (by omega) (by omega)]; rfl
    rw [List.drop_eq_getElem_cons (by omega), show ((rnames t).take i)[k]'(by omega) = (t.rules[k]'(by omega)).name by simp [rnames], List.mem_cons] at hm
    generalize t.rules[k]'(by omega) = x at *
    by_cases c : x.name = r.name
    · simp [hlt', ho, htc, hkl, hii, hgk, hgi, rlV, rlC, V.cells, c]
      exact hret _ (hm.2 (.inl c.symm))
    · simp [hlt', ho, htc, hkl, hii, hgk, hgi, rlV, rlC, V.cells, c, hw1]
      exact ⟨i - (k + 1), by omega, iv ⟨k + 1, by omega, rfl, rfl, rfl, hm.trans ⟨fun h => h.resolve_left (fun e => c e.symm), .inr⟩⟩⟩
  · have hlt' : ¬ (k : Int) < i := by omega
    obtain rfl : k = i := by omega
    have hd : ((rnames t).take k).drop k = [] := List.drop_eq_nil_of_le (by omega)
    rw [hd] at hm
    simp [hlt']
    simpa using hex (fun e => by simpa using hm.1 e)
theorem rRight_spec (L : LR6 X) (t : Te) (hr : t.rules.length < 2 ^ 30) (hn : t.nodes.length < 2 ^ 30) (hrn : ∀ r ∈ t.rules, r.name.length ≤ 2 ^ 30) (hnn : ∀ n ∈ t.nodes, n.name.length ≤ 2 ^ 30) (hks : ∀ n ∈ t.nodes, n.kids.length ≤ 2 ^ 30)
    (hQ : Q (.bool (rightD t)) h) : Ecx X K.probateref06_Right [teV t] h Q := by
  refine fn_walk L.right (by simp [A.probateref06_Right]) fun wf => ?_
  have htc : teC t = [.sl 2 0 (t.rules.map rlV), .sl 3 0 (t.nodes.map ndV)] := rfl
  have gr := (Gr.refl h).new (teC t)
  have hb0 : (h.new (teC t)).objs h.nobj = teC t := by simp
  have hb1 : (h.new (teC t)).nobj = h.nobj + 1 := by simp
  simp [A.probateref06_Right, teV, V.cells, V.good]
  generalize h.new (teC t) = h1 at *
  simp [hb0, htc]
  by_cases c0 : (t.rules.length : Int) < 1
  · have : rightD t = false := by
      have : ¬ 0 < t.rules.length := by omega
      simp [rightD, this]
    rw [this] at hQ
    simp [c0, hb0, htc]
    exact fin_wk gr (.same _) (by simp) hQ
  by_cases c1 : (24 : Int) < t.rules.length
  · have : rightD t = false := by
      have : ¬ t.rules.length ≤ 24 := by omega
      simp [rightD, this]
    rw [this] at hQ
    simp [c0, c1, hb0, htc]
    exact fin_wk gr (.same _) (by simp) hQ
  by_cases c2 : (200 : Int) < t.nodes.length
  · have : rightD t = false := by
      have : ¬ t.nodes.length ≤ 200 := by omega
      simp [rightD, this]
    rw [this] at hQ
    simp [c0, c1, c2, hb0, htc]
    exact fin_wk gr (.same _) (by simp) hQ
  have hrp : rightD t = (match rightR t t.rules [] [] with
      | some all => decide (all = iotaI t.nodes.length) && t.nodes.all (fineT t)
      | none => false) := by
    unfold rightD
    rw [decide_eq_true (show 0 < t.rules.length by omega), decide_eq_true (show t.rules.length ≤ 24 by omega), decide_eq_true (show t.nodes.length ≤ 200 by omega)]; simp
  rw [hrp] at hQ
  clear hrp
  simp [c0, c1, c2, hb0, htc, fillL]
  refine loopI (n := t.rules.length) (fun m env h' => ∃ k e1 st all, k ≤ t.rules.length ∧ m = t.rules.length - k ∧ Own h h' 1 e1 st (ints all) ∧ h'.objs h.nobj = teC t ∧ h.nobj < h'.nobj ∧ env = [(1, .ptr h.nobj 0), (3, .sl e1 st (ints all)), (4, .int .i64 k)] ∧
      all.length ≤ t.nodes.length + k * (t.nodes.length + 1) ∧ rightR t (t.rules.drop k) ((rnames t).take k) all = rightR t t.rules [] []) ?_ ⟨0, 1, 2, [], by omega, by omega, Own.full gr 1 [], hb0, by omega, rfl, by simp, by simp⟩
  rintro m env h' ⟨k, e1, st, all, hk, rfl, ow, ob, nb, rfl, hal, hS⟩
  unfold A.probateref06_Right.L0
  by_cases hlt : k < t.rules.length
  · have hlt' : (k : Int) < t.rules.length := by omega
    have hg : (t.rules.map rlV).getD k .undef = rlV t.rules[k] := Enc.getD hlt
    have hw1 : IntKind.i64.wrap ((k : Int) + 1) = ((k + 1 : Nat) : Int) := by rw [wrap_i64 (by omega) (by omega)]; rfl
    have hmem := hrn _ (List.getElem_mem hlt)
    have htk : (rnames t).take (k + 1) = (rnames t).take k ++ [t.rules[k].name] := by
      rw [List.take_succ_eq_append_getElem (by simp [rnames, hlt])]; simp [rnames]
    have hSd := hS
    rw [List.drop_eq_getElem_cons hlt, rightR] at hSd
    generalize hrr : t.rules[k] = r at *
    have hrc : rlC r = [.str r.name, .int .i64 r.body] := rfl
    have fail : rightR t t.rules [] [] = none → Fin h (.bool false) h' (Lz.mk (a := Q)) := fun e => by
      rw [e] at hQ
      exact fin_wk ow.gr (.same _) (by simp) hQ
    simp [hlt', hg, rlV, V.cells, V.good, hrc, ob, htc]
    refine ecall (rscan_spec L.s r.name (by omega) ?_)
    have hnm : nameR r.name = (match scanR r.name with
      | ([a], _, e) => decide (e = 0) && decide (a.kind = 1) && decide (a.text = r.name)
      | _ => false) := rfl
    simp [scanV]
    generalize scanR r.name = R at *
    obtain ⟨l, p, e⟩ := R
    simp only at hnm ⊢
    by_cases ce : e = 0
    case neg =>
      have hf : nameR r.name = false := by
        rw [hnm]
        match l with
        | [] => rfl
        | [a] => simp [ce]
        | _ :: _ :: _ => rfl
      rw [if_neg (fun e => by rw [hf] at e; exact absurd e.1 (by simp))] at hSd
      simp [ce]
      exact fail hSd.symm
    subst ce
    match l, hnm with
    | [], hnm =>
      rw [if_neg (fun e => by rw [hnm] at e; exact absurd e.1 (by simp))] at hSd
      simp
      exact fail hSd.symm
    | a :: b :: rr, hnm =>
      rw [if_neg (fun e => by rw [hnm] at e; exact absurd e.1 (by simp))] at hSd
      have c' : ¬ (((a :: b :: rr).length : Nat) : Int) = 1 := by simp; omega
      simp at c' ⊢
      simp [c']
      exact fail hSd.symm
    | [a], hnm =>
      simp only [decide_true, Bool.true_and] at hnm
      by_cases k1 : a.kind = 1
      case neg =>
        have hf : nameR r.name = false := by rw [hnm]; simp [k1]
        rw [if_neg (fun e => by rw [hf] at e; exact absurd e.1 (by simp))] at hSd
        have k1' : ¬ (a.kind : Int) = 1 := by omega
        simp [tokV, tokC, V.cells, k1, k1']
        exact fail hSd.symm
      by_cases k2 : a.text = r.name
      case neg =>
        have hf : nameR r.name = false := by rw [hnm]; simp [k2]
        rw [if_neg (fun e => by rw [hf] at e; exact absurd e.1 (by simp))] at hSd
        simp [tokV, tokC, V.cells, k1, k2, ob, htc, hlt', hg, rlV, hrc]
        exact fail hSd.symm
      have hf : nameR r.name = true := by rw [hnm]; simp [k1, k2]
      simp [tokV, tokC, V.cells, k1, k2, ob, htc, hlt', hg, rlV, hrc]
      refine rRightL1 t hlt hr ob (fun e he => ?_) (fun he => ?_)
      · rw [hrr] at he
        rw [if_neg (fun e => e.2 he)] at hSd
        simp
        exact fail hSd.symm
      · rw [hrr] at he
        rw [if_pos ⟨hf, he⟩] at hSd
        rw [← htk] at hSd
        have hul := undT_len t t.nodes.length r.body all
        have hmul : k * (t.nodes.length + 1) ≤ 24 * 201 := Nat.mul_le_mul (by omega) (by omega)
        have hmul2 : (k + 1) * (t.nodes.length + 1) = k * (t.nodes.length + 1) + (t.nodes.length + 1) := by rw [Nat.add_mul]; omega
        have my : May 1 h' e1 st (ints all) := ⟨ow.el, by rcases ow.st with a | a | a <;> simp [a]⟩
        simp [ob, htc, hlt', hg, rlV, hrc, V.cells]
        rw [← htc]
        refine dcallE _ _ (under_spec L.under t hn hks t.nodes.length r.body all (by omega) (by omega) my ⟨rfl, rfl⟩) ?_
        simp [hw1]
        have gr2 : Gr h (h'.push st 1) := ow.gr.push (by rcases ow.st with a | a | a <;> omega) 1
        exact ⟨t.rules.length - (k + 1), by omega, iv ⟨k + 1, 1, h'.next, _, by omega, rfl, ⟨gr2, .inr rfl, .inr (.inr ⟨push_new h' st 1, ow.gr.next⟩)⟩, by rw [push_objs]; exact ob, by rw [push_nobj]; exact nb, rfl, by omega, hSd⟩⟩
  · have hlt' : ¬ (k : Int) < t.rules.length := by omega
    obtain rfl : k = t.rules.length := by omega
    rw [List.drop_length, rightR] at hS
    rw [← hS] at hQ
    simp only at hQ
    have hil : (ints all).length = all.length := by simp [ints]
    by_cases c3 : all.length = t.nodes.length
    case neg =>
      have hf : decide (all = iotaI t.nodes.length) = false := by
        simp only [decide_eq_false_iff_not]; intro e; rw [e] at c3; simp at c3
      rw [hf] at hQ
      have c3' : ¬ (all.length : Int) = t.nodes.length := by omega
      simp [hlt', ob, htc, hil, c3, c3']
      exact fin_wk ow.gr (.same _) (by simp) hQ
    have c3' : (all.length : Int) = t.nodes.length := by omega
    simp [hlt', ob, htc, hil, c3, c3']
    refine loopI (n := all.length) (fun m env h2 => ∃ j, j ≤ all.length ∧ m = all.length - j ∧ h2 = h' ∧ env = [(1, .ptr h.nobj 0), (3, .sl e1 st (ints all)), (9, .int .i64 j)] ∧ all.take j = iotaI j ∧ (t.nodes.take j).all (fineT t) = true) ?_ ⟨0, by omega, by omega, rfl, rfl, by simp [iotaI], by simp⟩
    rintro m env h2 ⟨j, hj, rfl, rfl, rfl, ha, hfi⟩
    unfold A.probateref06_Right.L2
    by_cases hjl : j < all.length
    · obtain rfl : e1 = 1 := ow.el.resolve_left (fun e => by rw [e] at hil; simp at hil; omega)
      have hjl' : (j : Int) < all.length := by omega
      have hjn : j < t.nodes.length := by omega
      have hjn' : (j : Int) < t.nodes.length := by omega
      have hga := ints_get hjl
      have hgn : (t.nodes.map ndV).getD j .undef = ndV t.nodes[j] := Enc.getD hjn
      have hw1 : IntKind.i64.wrap ((j : Int) + 1) = ((j + 1 : Nat) : Int) := by rw [wrap_i64 (by omega) (by omega)]; rfl
      have hnl := hnn _ (List.getElem_mem hjn)
      have hnc : ndC t.nodes[j] = [.int .i64 t.nodes[j].kind, .str t.nodes[j].name, .sl 1 0 (ints t.nodes[j].kids)] := rfl
      by_cases c4 : all[j] = j
      · cases c5 : fineT t t.nodes[j] with
        | false =>
          have hf : t.nodes.all (fineT t) = false := by
            apply Bool.eq_false_iff.2; intro e
            rw [List.all_eq_true] at e
            rw [e _ (List.getElem_mem hjn)] at c5; cases c5
          rw [hf, Bool.and_false] at hQ
          simp [hil, hjl', hjn', hga, V.cells, c4, ob, htc, hgn, ndV, hnc, c3']
          rw [← htc, ← hnc]
          refine dcall (.bool (fineT t t.nodes[j])) (rfine_spec L.fine L.rule L.quote t _ (by omega) (by omega) ⟨rfl, rfl⟩) ?_
          simp [c5]
          exact fin_wk ow.gr (.same _) (by simp) hQ
        | true =>
          simp [hil, hjl', hjn', hga, V.cells, c4, ob, htc, hgn, ndV, hnc, c3']
          rw [← htc, ← hnc]
          refine dcall (.bool (fineT t t.nodes[j])) (rfine_spec L.fine L.rule L.quote t _ (by omega) (by omega) ⟨rfl, rfl⟩) ?_
          simp [c5, hw1]
          exact ⟨all.length - (j + 1), by omega, iv ⟨j + 1, by omega, rfl, rfl, rfl, by rw [List.take_succ_eq_append_getElem hjl, ha, c4, iotaI_succ], by rw [List.take_succ_eq_append_getElem hjn, List.all_append, hfi]; simp [c5]⟩⟩
      · have hf : decide (all = iotaI t.nodes.length) = false := by
          simp only [decide_eq_false_iff_not]; intro e
          apply c4
          have : all[j]? = (iotaI t.nodes.length)[j]? := by rw [← e]
          rw [iotaI_get hjn, List.getElem?_eq_getElem hjl] at this
          exact Option.some.inj this
        rw [hf] at hQ
        simp [hil, hjl', hjn', hga, V.cells, c4, c3']
        exact fin_wk ow.gr (.same _) (by simp) hQ
    · have hjl' : ¬ (j : Int) < all.length := by omega
      obtain rfl : j = all.length := by omega
      rw [List.take_length, c3] at ha
      rw [List.take_of_length_le (by omega)] at hfi
      rw [ha, hfi] at hQ
      simp [hil, hjl', c3']
      exact fin_wk ow.gr (.same _) (by simp) (by simpa using hQ)
end
end Go.Proofs.Ytdbbgkdepjidjaa.Al
namespace Go.Proofs.Ytdbbgkdepjidjaa.Al
open Go Go.RowKit
set_option linter.unusedSimpArgs false
set_option linter.unusedVariables false
attribute [-simp] List.getD_eq_getElem?_getD Int.not_lt Int.not_le List.drop_one List.map_take
theorem take_run (p : UInt8 → Bool) (s : Str) : ∀ c ∈ s.take (runN p s), p c = true := by
  rw [take_runN]; intro c hc; exact List.all_eq_true.1 (List.all_takeWhile (p := p)) c hc |> fun h => by simpa using h
/-- As it is written. -/
def tokText (t : Tok) : Str := if t.kind = 2 then 39 :: (t.text ++ [39]) else t.text
def goodTok (t : Tok) : Prop := (t.kind = 1 ∧ (∃ c r, t.text = c :: r ∧ letterB c = true) ∧ ∀ c ∈ t.text, partB c = true) ∨ (t.kind = 2 ∧ t.text ≠ [] ∧ ∀ c ∈ t.text, quotedB c = true) ∨ (t.kind = 3 ∧ ∃ c, t.text = [c] ∧ c ∈ marksL)
theorem sfirst_cons (c : UInt8) (s : Str) : sfirst (c :: s) =
    if bt c = 35 then (0, [], runN notLf (c :: s))
    else if bt c = 13 ∨ bt c = 32 ∨ bt c = 9 ∨ bt c = 10 then (0, [], 1)
    else if letterB c then (1, (c :: s).take (runN partB (c :: s)), runN partB (c :: s))
    else if bt c = 39 then
      if runN quotedB s = 0 ∨ runN quotedB s = s.length ∨ bt (s.getD (runN quotedB s) 0) ≠ 39 then (0, [], 0) else (2, s.take (runN quotedB s), runN quotedB s + 2)
    else if c ∈ marksL then (3, [c], 1)
    else (0, [], 0) := by
  unfold sfirst
  simp only [List.getD_cons_zero, List.drop_succ_cons, List.drop_zero, List.length_cons, List.getD_cons_succ, List.take_succ_cons, List.take_zero, Nat.add_right_cancel_iff]
  rfl
theorem sfirst_tok {s : Str} (k : Nat) (hne : s ≠ []) (h0 : (sfirst s).2.2 ≠ 0) (h1 : (sfirst s).1 ≠ 0) :
    goodTok ⟨(sfirst s).1, (sfirst s).2.1, k⟩ ∧ tokText ⟨(sfirst s).1, (sfirst s).2.1, k⟩ = s.take (sfirst s).2.2 := by
  cases s with
  | nil => exact absurd rfl hne
  | cons c s =>
    rw [sfirst_cons] at h0 h1 ⊢
    by_cases c1 : bt c = 35
    · rw [if_pos c1] at h1; exact absurd rfl h1
    rw [if_neg c1] at h0 h1 ⊢
    by_cases c2 : bt c = 13 ∨ bt c = 32 ∨ bt c = 9 ∨ bt c = 10
    · rw [if_pos c2] at h1; exact absurd rfl h1
    rw [if_neg c2] at h0 h1 ⊢
    by_cases c3 : letterB c = true
    · rw [if_pos c3] at h0 h1 ⊢
      have hp : partB c = true := by simp only [letterB] at c3; simp [partB, partI, c3]
      refine ⟨.inl ⟨rfl, ⟨c, s.take (runN partB s), ?_, c3⟩, take_run partB (c :: s)⟩, rfl⟩
      simp [runN_cons, hp]
    rw [if_neg c3] at h0 h1 ⊢
    by_cases c4 : bt c = 39
    · rw [if_pos c4] at h0 h1 ⊢
      by_cases c5 : runN quotedB s = 0 ∨ runN quotedB s = s.length ∨ bt (s.getD (runN quotedB s) 0) ≠ 39
      · rw [if_pos c5] at h1; exact absurd rfl h1
      rw [if_neg c5] at h0 h1 ⊢
      have hle := runN_le quotedB s
      have c6 : runN quotedB s < s.length := by omega
      have c7 : s.getD (runN quotedB s) 0 = 39 := bt_inj.1 ((show bt (s.getD (runN quotedB s) 0) = 39 by omega).trans rfl)
      have c8 : c = 39 := bt_inj.1 (c4.trans rfl)
      refine ⟨.inr (.inl ⟨rfl, ?_, take_run quotedB s⟩), ?_⟩
      · intro e; have e2 := congrArg List.length e; simp only [List.length_take, List.length_nil] at e2; omega
      · simp only [tokText, if_true, List.take_succ_cons, c8]
        rw [List.take_succ_eq_append_getElem c6]
        have : s[runN quotedB s] = 39 := by rw [← c7]; simp [List.getD, List.getElem?_eq_getElem c6]
        rw [this]
    rw [if_neg c4] at h0 h1 ⊢
    by_cases c5 : c ∈ marksL
    · rw [if_pos c5]
      exact ⟨.inr (.inr ⟨rfl, c, rfl, c5⟩), rfl⟩
    · rw [if_neg c5] at h1; exact absurd rfl h1
/-- Each stands at its place. -/
def chain (s0 : Str) : Nat → List Tok → Prop
  | _, [] => True
  | k, t :: l => goodTok t ∧ k ≤ t.at' ∧ t.at' + (tokText t).length ≤ s0.length ∧ (s0.drop t.at').take (tokText t).length = tokText t ∧ chain s0 (t.at' + (tokText t).length) l
theorem chain_mono {s0 : Str} {k k' : Nat} (h : k ≤ k') : ∀ {l : List Tok}, chain s0 k' l → chain s0 k l
  | [], _ => trivial
  | t :: l, ⟨a, b, c⟩ => ⟨a, by omega, c⟩
theorem scanL_chain (s0 : Str) : ∀ (n k : Nat), k ≤ s0.length → chain s0 k (scanL n (s0.drop k) k).1
  | 0, k, h => trivial
  | n + 1, k, h => by
    by_cases hne : s0.drop k = []
    · rw [hne, scanL_nil]; trivial
    rw [scanL_step k hne]
    split
    · trivial
    · rename_i h0
      have hle := sfirst_le hne
      simp at hle
      have ih := scanL_chain s0 n (k + (sfirst (s0.drop k)).2.2) (by omega)
      rw [← List.drop_drop] at ih
      by_cases h1 : (sfirst (s0.drop k)).1 = 0
      · rw [if_pos h1]
        exact chain_mono (by omega) ih
      · rw [if_neg h1]
        obtain ⟨g, e⟩ := sfirst_tok k hne h0 h1
        have hlen : (tokText ⟨(sfirst (s0.drop k)).1, (sfirst (s0.drop k)).2.1, k⟩).length = (sfirst (s0.drop k)).2.2 := by rw [e]; simp; omega
        refine ⟨g, by simp, by rw [hlen]; simp; omega, by rw [hlen, e], ?_⟩
        rw [hlen]; exact ih
theorem scanR_chain (s : Str) : chain s 0 (scanR s).1 := by
  unfold scanR
  split
  · trivial
  · split
    · trivial
    · exact scanL_chain s s.length 0 (by omega)
/-! ### Between -/
end Go.Proofs.Ytdbbgkdepjidjaa.Al
namespace Go.Proofs.Ytdbbgkdepjidjaa.Al
open Go Go.RowKit
set_option linter.unusedSimpArgs false
set_option linter.unusedVariables false
theorem iotaI_pre {u : List Int} {n : Nat} (h : u <+: iotaI n) : u = iotaI u.length ∧ u.length ≤ n := by
  have hl : u.length ≤ n := by simpa using h.length_le
  refine ⟨?_, hl⟩
  rw [List.prefix_iff_eq_take] at h
  rw [h]
  simp only [iotaI, ← List.map_take, List.take_range, List.length_map, List.length_range]
theorem iotaI_last {l : List Int} {v : Int} {n : Nat} (h : l ++ [v] = iotaI n) : n = l.length + 1 ∧ v = l.length ∧ l = iotaI l.length := by
  have hn : n = l.length + 1 := by have := congrArg List.length h; simp at this; omega
  subst hn
  rw [iotaI_succ] at h
  obtain ⟨a, b⟩ := List.append_inj' h rfl
  exact ⟨rfl, by simpa using b, a⟩
theorem undK_pre {L : Nat} {rec : Int → List Int → List Int} (hr : ∀ k out, out <+: rec k out) (n : Int) : ∀ (ks out : List Int), out <+: undK L rec n ks out
  | [], out => ⟨[n], rfl⟩
  | k :: ks, out => by
    unfold undK
    split
    · exact ⟨[-1], rfl⟩
    · exact (hr k out).trans (undK_pre hr n ks _)
theorem undT_pre (t : Te) : ∀ (f : Nat) (n : Int) (out : List Int), out <+: undT t f n out
  | 0, n, out => ⟨[-1], rfl⟩
  | f + 1, n, out => by
    unfold undT
    split
    · exact ⟨[-1], rfl⟩
    · exact undK_pre (undT_pre t f) n _ _
theorem rightR_pre (t : Te) : ∀ (rs : List Rl) (seen : List Str) (u v : List Int), rightR t rs seen u = some v → u <+: v
  | [], _, u, v, h => by simp [rightR] at h; subst h; exact List.prefix_refl _
  | r :: rs, seen, u, v, h => by
    unfold rightR at h
    split at h
    · exact (undT_pre t _ _ _).trans (rightR_pre t rs _ _ _ h)
    · cases h
theorem runS_add (t : Te) : ∀ (j k a : Nat) (st st1 : List Int), runS t j a st = some st1 → runS t (j + k) a st = runS t k (a + j) st1
  | 0, k, a, st, st1, h => by simp [runS] at h; subst h; simp
  | j + 1, k, a, st, st1, h => by
    rw [show j + 1 + k = (j + k) + 1 by omega, runS]
    rw [runS] at h
    cases hs : stpS t a st with
    | none => rw [hs] at h; cases h
    | some st2 =>
      rw [hs] at h
      simp only at h ⊢
      rw [runS_add t j k (a + 1) st2 st1 h, show a + 1 + j = a + (j + 1) by omega]
/-- What the reference lists in order, the stack takes. -/
theorem runS_und (t : Te) (hf : ∀ n ∈ t.nodes, fineP t n = true) : ∀ (f : Nat) (n : Int) (a b : Nat), undT t f n (iotaI a) = iotaI b → b ≤ t.nodes.length →
    ∃ m : Nat, n = m ∧ a ≤ m ∧ b = m + 1 ∧ ∀ st, runS t (b - a) a st = some (st ++ [n])
  | 0, n, a, b, h, hb => by
    have := iotaI_last h; omega
  | f + 1, n, a, b, h, hb => by
    unfold undT at h
    split at h
    · have := iotaI_last h; omega
    · rename_i c
      obtain ⟨m, rfl⟩ : ∃ m : Nat, n = (m : Int) := ⟨n.toNat, by omega⟩
      have hm : m < t.nodes.length := by omega
      rw [Int.toNat_natCast, List.getElem?_eq_getElem hm] at h
      simp only at h
      have key : ∀ (ks : List Int) (a' : Nat), undK t.nodes.length (undT t f) m ks (iotaI a') = iotaI b → a' ≤ m ∧ b = m + 1 ∧ ∀ st, runS t (m - a') a' st = some (st ++ ks) := by
        intro ks
        induction ks with
        | nil =>
          intro a' h
          have := iotaI_last h
          simp at this
          obtain ⟨h1, h2⟩ := this
          refine ⟨by omega, by omega, fun st => ?_⟩
          rw [show m - a' = 0 by omega]; simp [runS]
        | cons k ks ih =>
          intro a' h
          unfold undK at h
          split at h
          · have := iotaI_last h; omega
          · rename_i c2
            have hp := undK_pre (L := t.nodes.length) (undT_pre t f) m ks (undT t f k (iotaI a'))
            rw [h] at hp
            obtain ⟨e1, e2⟩ := iotaI_pre hp
            obtain ⟨q, hq, q1, q2, q3⟩ := runS_und t hf f k a' _ e1 (by omega)
            rw [e1] at h
            obtain ⟨r1, r2, r3⟩ := ih _ h
            refine ⟨by omega, r2, fun st => ?_⟩
            have := runS_add t ((undT t f k (iotaI a')).length - a') (m - (undT t f k (iotaI a')).length) a' st _ (q3 st)
            rw [show (undT t f k (iotaI a')).length - a' + (m - (undT t f k (iotaI a')).length) = m - a' by omega, show a' + ((undT t f k (iotaI a')).length - a') = (undT t f k (iotaI a')).length by omega, r3] at this
            rw [this]; simp
      obtain ⟨k1, k2, k3⟩ := key _ a h
      refine ⟨m, rfl, k1, k2, fun st => ?_⟩
      have hlast : runS t 1 m (st ++ t.nodes[m].kids) = some (st ++ [(m : Int)]) := by
        simp only [runS, stpS]
        rw [List.getElem?_eq_getElem hm]
        simp only
        rw [if_pos ⟨hf _ (List.getElem_mem hm), by simp, by simp⟩]
        simp
      have := runS_add t (m - a) 1 a st _ (k3 st)
      rw [show m - a + 1 = b - a by omega, show a + (m - a) = m by omega, hlast] at this
      exact this
/-- A stack covers what stands from a place to a place. -/
inductive Seg (t : Te) : Nat → List Int → Nat → Prop
  | nil (a : Nat) : Seg t a [] a
  | cons (a c b : Nat) (st : List Int) (h : ∀ f : Nat, c < f → undT t f c (iotaI a) = iotaI (c + 1)) (h1 : a ≤ c) (h2 : Seg t (c + 1) st b) : Seg t a ((c : Int) :: st) b
theorem Seg.le {t : Te} {a b : Nat} {st : List Int} (s : Seg t a st b) : a ≤ b := by
  induction s with
  | nil => exact Nat.le_refl _
  | cons a c b st h h1 h2 ih => omega
theorem Seg.app {t : Te} {a b c : Nat} {s1 s2 : List Int} (x : Seg t a s1 b) (y : Seg t b s2 c) : Seg t a (s1 ++ s2) c := by
  induction x with
  | nil => exact y
  | cons a c b st h h1 h2 ih => exact .cons _ _ _ _ h h1 (ih y)
theorem Seg.split {t : Te} {c : Nat} {s2 : List Int} : ∀ {s1 : List Int} {a : Nat}, Seg t a (s1 ++ s2) c → ∃ b, Seg t a s1 b ∧ Seg t b s2 c
  | [], a, x => ⟨a, .nil a, x⟩
  | v :: s1, a, x => by
    cases x with
    | cons a k b st h h1 h2 =>
      obtain ⟨m, y, z⟩ := Seg.split h2
      exact ⟨m, .cons _ _ _ _ h h1 y, z⟩
theorem undK_seg {t : Te} {f n : Nat} (hn : n < t.nodes.length) (hf : n ≤ f) : ∀ {ks : List Int} {a : Nat}, Seg t a ks n → undK t.nodes.length (undT t f) n ks (iotaI a) = iotaI (n + 1)
  | [], a, s => by cases s; simp [undK, iotaI_succ]
  | k :: ks, a, s => by
    cases s with
    | cons a c b st h h1 h2 =>
      have := h2.le
      unfold undK
      rw [if_neg (by simp; omega), h f (by omega)]
      exact undK_seg hn hf h2
theorem Seg.step {t : Te} {lo a : Nat} {st st' : List Int} (s : Seg t lo st a) (h : stpS t a st = some st') : Seg t lo st' (a + 1) ∧ ∃ h : a < t.nodes.length, fineP t t.nodes[a] = true := by
  unfold stpS at h
  split at h
  · rename_i nd hnd
    obtain ⟨hlt, rfl⟩ := List.getElem?_eq_some_iff.1 hnd
    split at h
    · rename_i c
      obtain ⟨c1, c2, c3⟩ := c
      obtain rfl := Option.some.inj h
      refine ⟨?_, hlt, c1⟩
      rw [← List.take_append_drop (st.length - t.nodes[a].kids.length) st, c3] at s
      obtain ⟨b, s1, s2⟩ := Seg.split s
      refine s1.app (.cons _ _ _ _ (fun f hf => ?_) s2.le (.nil _))
      obtain ⟨f, rfl⟩ : ∃ g, f = g + 1 := ⟨f - 1, by omega⟩
      unfold undT
      have := s2.le
      rw [if_neg (by simp; omega), Int.toNat_natCast, List.getElem?_eq_getElem hlt]
      exact undK_seg hlt (by omega) s2
    · cases h
  · cases h
theorem Seg.run {t : Te} {lo : Nat} : ∀ (k a : Nat) (st st' : List Int), Seg t lo st a → runS t k a st = some st' → Seg t lo st' (a + k) ∧ ∀ i, a ≤ i → i < a + k → ∃ h : i < t.nodes.length, fineP t t.nodes[i] = true
  | 0, a, st, st', s, h => by simp [runS] at h; subst h; exact ⟨s, fun i h1 h2 => by omega⟩
  | k + 1, a, st, st', s, h => by
    rw [runS] at h
    cases hs : stpS t a st with
    | none => rw [hs] at h; cases h
    | some st2 =>
      rw [hs] at h
      obtain ⟨s2, hlt, hf⟩ := s.step hs
      obtain ⟨s3, h3⟩ := Seg.run k (a + 1) st2 st' s2 h
      refine ⟨by rw [show a + (k + 1) = a + 1 + k by omega]; exact s3, fun i h1 h2 => ?_⟩
      by_cases e : i = a
      · subst e; exact ⟨hlt, hf⟩
      · exact h3 i (by omega) (by omega)
theorem name_eq (s : Str) : nameR s = tokenT s 1 := by
  have hch := scanR_chain s
  unfold nameR tokenT
  generalize scanR s = R at *
  obtain ⟨l, p, e⟩ := R
  match l, hch with
  | [], _ => rfl
  | _ :: _ :: _, _ => rfl
  | [a], hch =>
    obtain ⟨g, h1, h2, _⟩ := hch
    simp only at h2 ⊢
    by_cases k1 : a.kind = 1
    · by_cases k2 : a.text = s
      · have : tokText a = s := by unfold tokText; rw [k1, k2]; simp
        rw [this] at h2
        have h0 : a.at' = 0 := by omega
        simp [k1, k2, h0]
      · simp [k1, k2]
    · have : ¬ (a.kind : Int) = 1 := by omega
      simp [k1, this]
theorem right_fwd (t : Te) : ∀ (rs : List Rl) (seen : List Str) (a b : Nat), rightS t rs seen a = some b → rightR t rs seen (iotaI a) = some (iotaI b) ∧ ∀ i, a ≤ i → i < b → ∃ h : i < t.nodes.length, fineP t t.nodes[i] = true
  | [], seen, a, b, h => by simp [rightS] at h; subst h; exact ⟨rfl, fun i h1 h2 => by omega⟩
  | r :: rs, seen, a, b, h => by
    unfold rightS at h
    split at h
    · rename_i c
      obtain ⟨c1, c2, c3, c4⟩ := c
      split at h
      · rename_i x hx
        obtain ⟨B, hB⟩ : ∃ B : Nat, r.body = (B : Int) := ⟨r.body.toNat, by omega⟩
        rw [hB, Int.toNat_natCast] at hx h
        obtain ⟨s, hs⟩ := Seg.run _ _ _ _ (Seg.nil a) hx
        obtain ⟨k1, k2⟩ := right_fwd t rs _ _ _ h
        have hu : undT t t.nodes.length r.body (iotaI a) = iotaI (B + 1) := by
          rw [show a + (B + 1 - a) = B + 1 by omega] at s
          cases s with
          | cons a c b st h h1 h2 =>
            cases h2
            rw [hB]; exact h _ (by omega)
        refine ⟨?_, fun i h1 h2 => ?_⟩
        · unfold rightR
          rw [if_pos ⟨by rw [name_eq]; exact c1, c2⟩, hu]; exact k1
        · by_cases e : i < B + 1
          · exact hs i h1 (by omega)
          · exact k2 i (by omega) h2
      · cases h
    · cases h
theorem right_bwd (t : Te) (hf : ∀ n ∈ t.nodes, fineP t n = true) : ∀ (rs : List Rl) (seen : List Str) (a : Nat), rightR t rs seen (iotaI a) = some (iotaI t.nodes.length) → rightS t rs seen a = some t.nodes.length
  | [], seen, a, h => by
    simp [rightR] at h
    have := congrArg List.length h
    simp at this
    simp [rightS, this]
  | r :: rs, seen, a, h => by
    unfold rightR at h
    split at h
    · rename_i c
      obtain ⟨c1, c2⟩ := c
      obtain ⟨e1, e2⟩ := iotaI_pre (rightR_pre t _ _ _ _ h)
      obtain ⟨m, hm, q1, q2, q3⟩ := runS_und t hf _ _ _ _ e1 e2
      rw [e1, q2] at h
      have ih := right_bwd t hf rs _ _ h
      unfold rightS
      rw [q2] at q3
      rw [hm, Int.toNat_natCast, if_pos ⟨by rw [← name_eq]; exact c1, c2, by omega, by omega⟩, q3 []]
      exact ih
    · cases h
/-- The program's and the reference's answers are the same. -/
theorem right_eq (t : Te) : rightP t = rightD t := by
  have hfe : ∀ n, fineT t n = fineP t n := fun n => (fineP_eq t n).symm
  unfold rightP rightD
  congr 1
  apply Bool.eq_iff_iff.2
  simp only [decide_eq_true_eq]
  constructor
  · intro h
    obtain ⟨k1, k2⟩ := right_fwd t _ _ _ _ h
    rw [show iotaI 0 = [] from rfl] at k1
    rw [k1]
    simp only [decide_true, Bool.true_and, List.all_eq_true]
    intro n hn
    obtain ⟨i, hi, rfl⟩ := List.getElem_of_mem hn
    obtain ⟨_, hf⟩ := k2 i (by omega) hi
    rw [hfe]; exact hf
  · intro h
    split at h
    · rename_i all hall
      simp only [Bool.and_eq_true, decide_eq_true_eq, List.all_eq_true] at h
      rw [h.1] at hall
      exact right_bwd t (fun n hn => by rw [← hfe]; exact h.2 n hn) _ _ 0 hall
    · cases h
end Go.Proofs.Ytdbbgkdepjidjaa.Al
namespace Go.Proofs.Ytdbbgkdepjidjaa.Al
open Go Go.RowKit
set_option linter.unusedSimpArgs false
set_option linter.unusedVariables false
def iotaF (a k : Nat) : List Int := (List.range k).map fun i : Nat => ((a + i : Nat) : Int)
theorem iotaF_zero (k : Nat) : iotaF 0 k = iotaI k := by simp [iotaF, iotaI]
theorem iotaF_succ (a k : Nat) : iotaF a (k + 1) = (a : Int) :: iotaF (a + 1) k := by
  simp only [iotaF, List.range_succ_eq_map, List.map_cons, List.map_map, Nat.add_zero]
  congr 1
  apply List.map_congr_left
  intro i _
  simp only [Function.comp, Nat.succ_eq_add_one]; congr 1; omega
theorem iotaF_add (a j k : Nat) : iotaF a (j + k) = iotaF a j ++ iotaF (a + j) k := by
  induction j generalizing a with
  | zero => simp [iotaF]
  | succ j ih => rw [show j + 1 + k = (j + k) + 1 by omega, iotaF_succ, iotaF_succ, ih, show a + 1 + j = a + (j + 1) by omega]; simp
/-- What is known of a tree that may be. -/
structure RTe (t : Te) : Prop where
  r0 : 0 < t.rules.length
  r1 : t.rules.length ≤ 24
  n1 : t.nodes.length ≤ 200
  names : (rnames t).Nodup
  fine : ∀ n ∈ t.nodes, fineT t n = true
  perm : (t.nodes.flatMap (·.kids) ++ t.rules.map (·.body)).Perm (iotaI t.nodes.length)
  lt : ∀ i (h : i < t.nodes.length), ∀ k ∈ t.nodes[i].kids, 0 ≤ k ∧ k < i
  tok : ∀ r ∈ t.rules, tokenT r.name 1 = true
theorem stpS_perm {t : Te} {a : Nat} {st st' : List Int} (h : stpS t a st = some st') : ∃ hlt : a < t.nodes.length, (t.nodes[a].kids ++ st').Perm (st ++ [(a : Int)]) ∧ fineP t t.nodes[a] = true ∧ (∀ k ∈ t.nodes[a].kids, k ∈ st) ∧ ∀ x ∈ st', x ∈ st ∨ x = a := by
  unfold stpS at h
  split at h
  · rename_i nd hnd
    obtain ⟨hlt, rfl⟩ := List.getElem?_eq_some_iff.1 hnd
    split at h
    · rename_i c
      obtain ⟨c1, c2, c3⟩ := c
      obtain rfl := Option.some.inj h
      refine ⟨hlt, ?_, c1, fun k hk => ?_, fun x hx => ?_⟩
      · have e := List.take_append_drop (st.length - t.nodes[a].kids.length) st
        rw [c3] at e
        rw [← List.append_assoc]
        refine List.Perm.append_right _ ?_
        refine List.perm_append_comm.trans ?_
        rw [e]
      · rw [← c3] at hk; exact List.mem_of_mem_drop hk
      · simp only [List.mem_append, List.mem_singleton] at hx
        exact hx.imp List.mem_of_mem_take id
    · cases h
  · cases h
theorem runS_perm {t : Te} : ∀ (k a : Nat) (st st' : List Int), runS t k a st = some st' → (∀ x ∈ st, 0 ≤ x ∧ x < (a : Int)) →
    (((t.nodes.drop a).take k).flatMap (·.kids) ++ st').Perm (st ++ iotaF a k) ∧ (∀ x ∈ st', 0 ≤ x ∧ x < ((a + k : Nat) : Int)) ∧ ∀ i (h : i < t.nodes.length), a ≤ i → i < a + k → ∀ m ∈ t.nodes[i].kids, 0 ≤ m ∧ m < i
  | 0, a, st, st', h, hs => by
    simp [runS] at h; subst h
    exact ⟨by simp [iotaF], by simpa using hs, fun i _ h1 h2 => by omega⟩
  | k + 1, a, st, st', h, hs => by
    rw [runS] at h
    cases hst : stpS t a st with
    | none => rw [hst] at h; cases h
    | some st2 =>
      rw [hst] at h
      obtain ⟨hlt, p1, p2, p3, p4⟩ := stpS_perm hst
      have hs2 : ∀ x ∈ st2, 0 ≤ x ∧ x < ((a + 1 : Nat) : Int) := fun x hx => by
        rcases p4 x hx with e | e
        · have := hs x e; omega
        · omega
      obtain ⟨q1, q2, q3⟩ := runS_perm k (a + 1) st2 st' h hs2
      refine ⟨?_, by rw [show a + (k + 1) = a + 1 + k by omega]; exact q2, fun i hi h1 h2 m hm => ?_⟩
      · rw [List.drop_eq_getElem_cons hlt, List.take_succ_cons, List.flatMap_cons, List.append_assoc, iotaF_succ]
        refine (List.Perm.append_left _ q1).trans ?_
        rw [← List.append_assoc]
        refine (List.Perm.append_right _ p1).trans ?_
        simp
      · by_cases e : i = a
        · subst e; exact hs m (p3 m hm)
        · exact q3 i hi (by omega) (by omega) m hm
theorem rightS_all {t : Te} : ∀ (rs : List Rl) (seen : List Str) (a b : Nat), rightS t rs seen a = some b → seen.Nodup → a ≤ b ∧
    (seen ++ rs.map (·.name)).Nodup ∧ (((t.nodes.drop a).take (b - a)).flatMap (·.kids) ++ rs.map (·.body)).Perm (iotaF a (b - a)) ∧ (∀ i (h : i < t.nodes.length), a ≤ i → i < b → ∀ m ∈ t.nodes[i].kids, 0 ≤ m ∧ m < i) ∧ ∀ r ∈ rs, tokenT r.name 1 = true
  | [], seen, a, b, h, hs => by
    simp [rightS] at h; subst h
    exact ⟨Nat.le_refl _, by simpa using hs, by simp [iotaF], fun i _ h1 h2 => by omega, by simp⟩
  | r :: rs, seen, a, b, h, hs => by
    unfold rightS at h
    split at h
    · rename_i c
      obtain ⟨c1, c2, c3, c4⟩ := c
      split at h
      · rename_i x hx
        obtain ⟨B, hB⟩ : ∃ B : Nat, r.body = (B : Int) := ⟨r.body.toNat, by omega⟩
        rw [hB, Int.toNat_natCast] at hx h
        have hns : (seen ++ [r.name]).Nodup := by
          rw [List.nodup_append]
          exact ⟨hs, by simp, fun a ha b hb e => by simp at hb; subst e; subst hb; exact c2 ha⟩
        obtain ⟨k1, k2, k3, k4, k5⟩ := rightS_all rs _ _ _ h hns
        obtain ⟨p1, p2, p3⟩ := runS_perm _ _ _ _ hx (by simp)
        obtain ⟨s, hsf⟩ := Seg.run _ _ _ _ (Seg.nil a) hx
        have hxB : x = (B : Int) := by
          rw [show a + (B + 1 - a) = B + 1 by omega] at s
          cases s with
          | cons a c b st h h1 h2 => cases h2; rfl
        subst hxB
        refine ⟨by omega, by simpa using k2, ?_, fun i hi h1 h2 m hm => ?_, fun q hq => ?_⟩
        · have e1 : b - a = (B + 1 - a) + (b - (B + 1)) := by omega
          have e2 : (t.nodes.drop a).take (b - a) = (t.nodes.drop a).take (B + 1 - a) ++ (t.nodes.drop (B + 1)).take (b - (B + 1)) := by
            rw [e1, List.take_add, List.drop_drop, show a + (B + 1 - a) = B + 1 by omega]
          rw [e2, List.flatMap_append, e1, iotaF_add, show a + (B + 1 - a) = B + 1 by omega]
          simp only [List.map_cons, hB]
          simp only [List.nil_append] at p1
          refine List.Perm.trans ?_ (p1.append k3)
          simp only [List.append_assoc]
          refine List.Perm.append_left _ ?_
          refine List.Perm.trans (List.perm_middle) ?_
          simp
        · by_cases e : i < B + 1
          · exact p3 i hi h1 (by omega) m hm
          · exact k4 i hi (by omega) h2 m hm
        · rcases List.mem_cons.1 hq with rfl | hq
          · exact c1
          · exact k5 q hq
      · cases h
    · cases h
theorem rte_of {t : Te} (h : rightP t = true) : RTe t := by
  have hD := h
  rw [right_eq] at hD
  unfold rightP at h
  simp only [Bool.and_eq_true, decide_eq_true_eq] at h
  obtain ⟨⟨⟨h1, h2⟩, h3⟩, h4⟩ := h
  obtain ⟨k1, k2, k3, k4, k5⟩ := rightS_all _ _ _ _ h4 (by simp)
  obtain ⟨_, hfi⟩ := right_fwd t _ _ _ _ h4
  rw [iotaF_zero] at k3
  simp only [Nat.sub_zero, List.drop_zero, List.take_length] at k3
  exact ⟨h1, h2, h3, by simpa [rnames] using k2, fun n hn => by
    obtain ⟨i, hi, rfl⟩ := List.getElem_of_mem hn
    rw [← fineP_eq]; exact (hfi i (by omega) hi).2, k3, fun i hi m hm => k4 i hi (by omega) hi m hm, k5⟩
theorem iotaI_nodup (n : Nat) : (iotaI n).Nodup := by
  unfold iotaI
  refine List.Pairwise.map _ (fun a b h => ?_) List.nodup_range
  intro e; exact h (by omega)
theorem RTe.nodup {t : Te} (r : RTe t) : (t.nodes.flatMap (·.kids) ++ t.rules.map (·.body)).Nodup := r.perm.nodup_iff.2 (iotaI_nodup _)
theorem flat_at {α : Type} {f : α → List Int} : ∀ (l : List α) (i j : Nat) (hi : i < l.length) (hj : j < l.length) (m : Int), (l.flatMap f).Nodup → m ∈ f l[i] → m ∈ f l[j] → i = j
  | [], i, j, hi, hj, m, _, _, _ => by simp at hi
  | a :: l, i, j, hi, hj, m, h, h1, h2 => by
    rw [List.flatMap_cons, List.nodup_append] at h
    match i, j with
    | 0, 0 => rfl
    | 0, j + 1 =>
      exfalso
      simp at h1 h2 hj
      exact h.2.2 m h1 m (List.mem_flatMap.2 ⟨_, List.getElem_mem hj, h2⟩) rfl
    | i + 1, 0 =>
      exfalso
      simp at h1 h2 hi
      exact h.2.2 m h2 m (List.mem_flatMap.2 ⟨_, List.getElem_mem hi, h1⟩) rfl
    | i + 1, j + 1 =>
      simp at hi hj h1 h2
      rw [flat_at l i j hi hj m h.2.1 h1 h2]
/-- A node is one's kid. -/
theorem RTe.one {t : Te} (r : RTe t) {i j : Nat} (hi : i < t.nodes.length) (hj : j < t.nodes.length) {m : Int} (h1 : m ∈ t.nodes[i].kids) (h2 : m ∈ t.nodes[j].kids) : i = j :=
  flat_at (f := (·.kids)) t.nodes i j hi hj m (List.nodup_append.1 r.nodup).1 h1 h2
theorem RTe.body {t : Te} (r : RTe t) {q : Rl} (hq : q ∈ t.rules) : 0 ≤ q.body ∧ q.body < t.nodes.length := by
  have : q.body ∈ iotaI t.nodes.length := r.perm.mem_iff.1 (List.mem_append.2 (.inr (List.mem_map.2 ⟨q, hq, rfl⟩)))
  unfold iotaI at this
  obtain ⟨i, hi, e⟩ := List.mem_map.1 this
  simp at hi
  omega
end Go.Proofs.Ytdbbgkdepjidjaa.Al
namespace Go.Proofs.Ytdbbgkdepjidjaa.Al
open Go Go.RowKit
set_option linter.unusedSimpArgs false
set_option linter.unusedVariables false
attribute [-simp] List.getD_eq_getElem?_getD Int.not_lt Int.not_le List.map_take
structure RightG (g : Gm) : Prop where
  head : 0 ≤ g.terms ∧ g.terms ≤ 16 ∧ 1 ≤ g.nons ∧ g.nons ≤ 24 ∧ 0 ≤ g.start ∧ g.start < g.nons ∧ g.prods.length ≤ 60
  prods : ∀ p ∈ g.prods, 0 ≤ p.left ∧ p.left < g.nons ∧ p.right.length ≤ 8 ∧ ∀ s ∈ p.right, 0 ≤ s.n ∧ s.n < (if s.non = true then g.nons else g.terms)
theorem RightG.sym {g : Gm} (r : RightG g) {p : Pr} (hp : p ∈ g.prods) {s : Sy} (hs : s ∈ p.right) : 0 ≤ s.n ∧ s.n ≤ 23 := by
  have h1 := (r.prods p hp).2.2.2 s hs
  have h2 := r.head
  split at h1 <;> omega
end Go.Proofs.Ytdbbgkdepjidjaa.Al
namespace Go.Proofs.Ytdbbgkdepjidjaa.Al
open Go Go.RowKit
set_option linter.unusedSimpArgs false
set_option linter.unusedVariables false
attribute [-simp] List.getD_eq_getElem?_getD Int.not_lt Int.not_le List.map_take
/-! ### Steps -/
def okS (s : Sy) : Prop := 0 ≤ s.n ∧ s.n ≤ 23
def okP (p : Pr) : Prop := (0 ≤ p.left ∧ p.left ≤ 23) ∧ p.right.length ≤ 8 ∧ ∀ s ∈ p.right, okS s
def okG (g : Gm) : Prop := (0 ≤ g.terms ∧ g.terms ≤ 16) ∧ (0 ≤ g.nons ∧ g.nons ≤ 24) ∧ (0 ≤ g.start ∧ g.start ≤ 23) ∧ g.prods.length ≤ 60 ∧ ∀ p ∈ g.prods, okP p
theorem RightG.ok {g : Gm} (r : RightG g) : okG g := by
  obtain ⟨a, b, c, d, e, f, i⟩ := r.head
  refine ⟨⟨a, b⟩, ⟨by omega, d⟩, ⟨e, by omega⟩, i, fun p hp => ?_⟩
  obtain ⟨h1, h2, h3, h4⟩ := r.prods p hp
  exact ⟨⟨h1, by omega⟩, h3, fun s hs => r.sym hp hs⟩
/-! ### Readers that may be -/
end Go.Proofs.Ytdbbgkdepjidjaa.Al
namespace Go.Proofs.Ytdbbgkdepjidjaa.Al
open Go Go.RowKit
set_option linter.unusedSimpArgs false
set_option linter.unusedVariables false
attribute [-simp] List.getD_eq_getElem?_getD Int.not_lt Int.not_le List.map_take
structure TeSm (t : Te) : Prop where
  r : t.rules.length ≤ 30
  n : t.nodes.length ≤ 210
  rn : ∀ r ∈ t.rules, r.name.length ≤ 2 ^ 30
  nn : ∀ n ∈ t.nodes, n.name.length ≤ 2 ^ 30
  ks : ∀ n ∈ t.nodes, n.kids.length ≤ 2 ^ 30
theorem sm_of {t : Te} (h : largeT t = false) : TeSm t := by
  unfold largeT at h
  simp only [Bool.or_eq_false_iff, decide_eq_false_iff_not, List.any_eq_false] at h
  obtain ⟨⟨⟨h1, h2⟩, h3⟩, h4⟩ := h
  refine ⟨by omega, by omega, fun r hr => ?_, fun n hn => ?_, fun n hn => ?_⟩
  · have := h3 r hr; simp at this; omega
  · have := h4 n hn; simp at this; omega
  · have := h4 n hn; simp at this; omega
theorem Bdd_teV (n m : Nat) (t : Te) : Bdd n m (teV t) := by
  simp only [teV, teC, Bdd_agg]
  intro v hv
  simp at hv
  rcases hv with rfl | rfl
  · rw [Bdd_sl0]; exact ⟨by omega, encRl.cells _ _ _⟩
  · rw [Bdd_sl0]; exact ⟨by omega, encNd.cells _ _ _⟩
section
variable {X : Cx} {h : AH} {Q : V → AH → Prop}
theorem Wk.l2 {a b c d : V} (x : Wk a c) (y : Wk b d) : Wk (.agg [a, b]) (.agg [c, d]) := .agg _ _ rfl fun i h1 h2 => by
  match i with
  | 0 => exact x
  | 1 => exact y
  | n + 2 => simp at h1; omega
theorem Wk.sln {e e1 st : Nat} {l : List V} (h : l = [] ∨ e1 = e) : Wk (.sl e1 st l) (.sl e 0 l) := by
  rcases h with rfl | rfl
  · exact .nil _ _ _
  · exact .sl _ _ _
theorem own6_spec (H : Has (Ecx X) K.probatelaw06_Own A.probatelaw06_Own) (t : Te) (hr : t.rules.length ≤ 2 ^ 30) (hn : t.nodes.length ≤ 2 ^ 30) (hQ : Q (teV t) h) : Ecx X K.probatelaw06_Own [teV t] h Q := by
  refine fn_walk H (by simp [A.probatelaw06_Own]) fun wf => ?_
  have htc : teC t = [.sl 2 0 (t.rules.map rlV), .sl 3 0 (t.nodes.map ndV)] := rfl
  have gr := (((Gr.refl h).new (teC t)).new [.sl 0 1 [], .sl 0 1 []]).new [.sl 0 1 [], .sl 0 1 []]
  have hb0 : (((h.new (teC t)).new [.sl 0 1 [], .sl 0 1 []]).new [.sl 0 1 [], .sl 0 1 []]).objs h.nobj = teC t := by simp
  have hb1 : (((h.new (teC t)).new [.sl 0 1 [], .sl 0 1 []]).new [.sl 0 1 [], .sl 0 1 []]).objs (h.nobj + 1) = [.sl 0 1 [], .sl 0 1 []] := by simp
  have hb2 : (((h.new (teC t)).new [.sl 0 1 [], .sl 0 1 []]).new [.sl 0 1 [], .sl 0 1 []]).objs (h.nobj + 2) = [.sl 0 1 [], .sl 0 1 []] := by simp
  have hb3 : (((h.new (teC t)).new [.sl 0 1 [], .sl 0 1 []]).new [.sl 0 1 [], .sl 0 1 []]).nobj = h.nobj + 3 := by simp
  simp [A.probatelaw06_Own, teV, V.cells, V.good, fillV, setAt]
  generalize (((h.new (teC t)).new [.sl 0 1 [], .sl 0 1 []]).new [.sl 0 1 [], .sl 0 1 []]) = h1 at *
  simp [hb0, htc]
  refine loopI (n := t.rules.length) (fun m env h' => ∃ k e1 st, k ≤ t.rules.length ∧ m = t.rules.length - k ∧ Own h h' 2 e1 st ((t.rules.take k).map rlV) ∧ h'.objs h.nobj = teC t ∧ h'.objs (h.nobj + 1) = [.sl 0 1 [], .sl 0 1 []] ∧ h'.objs (h.nobj + 2) = [.sl e1 st ((t.rules.take k).map rlV), .sl 0 1 []] ∧ h.nobj + 3 ≤ h'.nobj ∧
      env = [(1, .ptr h.nobj 0), (2, .ptr (h.nobj + 1) 0), (3, .ptr (h.nobj + 2) 0), (10, .sl 2 0 (t.rules.map rlV)), (11, .int .i64 t.rules.length), (12, .int .i64 k)]) ?_
    ⟨0, 0, 1, by omega, by omega, ⟨gr, .inl rfl, .inl rfl⟩, hb0, hb1, by simpa using hb2, by omega, rfl⟩
  rintro m env h' ⟨k, e1, st, hk, rfl, ow, ob0, ob1, ob2, nb, rfl⟩
  unfold A.probatelaw06_Own.L0
  by_cases hlt : k < t.rules.length
  · have hlt' : (k : Int) < t.rules.length := by omega
    have hg : (t.rules.map rlV).getD k .undef = rlV t.rules[k] := Enc.getD hlt
    have hw1 : IntKind.i64.wrap ((k : Int) + 1) = ((k + 1 : Nat) : Int) := by rw [wrap_i64 (by omega) (by omega)]; rfl
    have hrc : rlC t.rules[k] = [.str t.rules[k].name, .int .i64 t.rules[k].body] := rfl
    have hts : (t.rules.take k).map rlV ++ [rlV t.rules[k]] = (t.rules.take (k + 1)).map rlV := by
      rw [List.take_succ_eq_append_getElem hlt, List.map_append]; rfl
    have hsn : (t.rules.take k).length = k := by simp; omega
    generalize t.rules[k] = r at *
    have n1 : ¬ h.nobj + 2 = h'.nobj := by omega
    have n0 : ¬ h.nobj = h'.nobj := by omega
    have n2 : ¬ h.nobj + 1 = h'.nobj := by omega
    have q0 : (h'.new (rlC r)).objs h'.nobj = rlC r := by simp
    have q1 : (h'.new (rlC r)).objs h.nobj = teC t := by simp [n0, ob0]
    have q2 : (h'.new (rlC r)).objs (h.nobj + 1) = [.sl 0 1 [], .sl 0 1 []] := by simp [n2, ob1]
    have q3 : (h'.new (rlC r)).objs (h.nobj + 2) = [.sl e1 st ((t.rules.take k).map rlV), .sl 0 1 []] := by simp [n1, ob2]
    have q4 : (h'.new (rlC r)).nobj = h'.nobj + 1 := by simp
    have ow2 := ow.new (rlC r)
    simp [hlt', hg, rlV, V.cells, V.good, hrc, setAt]
    rw [← hrc]
    generalize h'.new (rlC r) = h2 at *
    simp [q0, q3, hrc, fillL, V.isAgg]
    rw [← hrc, show V.agg (rlC r) = rlV r from rfl]
    refine ow2.appZ (fun _ => rfl) (by simp [hsn]; omega) fun e2 st2 h3 o3 ob3 no3 => ?_
    rw [hts] at o3 ⊢
    have m0 : ¬ h.nobj = h.nobj + 2 := by omega
    have m1 : ¬ h.nobj + 1 = h.nobj + 2 := by omega
    simp [hw1, V.cells, V.good, setAt, ob3, q3]
    exact ⟨t.rules.length - (k + 1), by omega, iv ⟨k + 1, e2, st2, by omega, rfl, o3.set (by omega) _, by rw [set_objs_ne _ _ _ m0, ob3]; exact q1, by rw [set_objs_ne _ _ _ m1, ob3]; exact q2, by rw [set_objs_same], by rw [set_nobj]; omega, rfl⟩⟩
  · have hlt' : ¬ (k : Int) < t.rules.length := by omega
    obtain rfl : k = t.rules.length := by omega
    rw [List.take_length] at ow ob2
    simp [hlt', ob0, htc]
    have hel := ow.el
    have gr2 := ow.gr
    refine loopI (n := t.nodes.length) (fun m env h2 => ∃ k e2 st2, k ≤ t.nodes.length ∧ m = t.nodes.length - k ∧ Own h h2 3 e2 st2 ((t.nodes.take k).map ndV) ∧ h2.objs (h.nobj + 1) = [.sl 0 1 [], .sl 0 1 []] ∧ h2.objs (h.nobj + 2) = [.sl e1 st (t.rules.map rlV), .sl e2 st2 ((t.nodes.take k).map ndV)] ∧ h.nobj + 3 ≤ h2.nobj ∧
      env = [(2, .ptr (h.nobj + 1) 0), (3, .ptr (h.nobj + 2) 0), (24, .sl 3 0 (t.nodes.map ndV)), (25, .int .i64 t.nodes.length), (26, .int .i64 k)]) ?_
      ⟨0, 0, 1, by omega, by omega, ⟨gr2, .inl rfl, .inl rfl⟩, ob1, by simpa using ob2, by omega, rfl⟩
    clear ow ob0 ob1 ob2 nb gr2 h'
    rintro m env h' ⟨k, e2, st2, hk, rfl, ow, ob1, ob2, nb, rfl⟩
    unfold A.probatelaw06_Own.L1
    by_cases hlt : k < t.nodes.length
    · have hlt' : (k : Int) < t.nodes.length := by omega
      have hg : (t.nodes.map ndV).getD k .undef = ndV t.nodes[k] := Enc.getD hlt
      have hw1 : IntKind.i64.wrap ((k : Int) + 1) = ((k + 1 : Nat) : Int) := by rw [wrap_i64 (by omega) (by omega)]; rfl
      have hnc : ndC t.nodes[k] = [.int .i64 t.nodes[k].kind, .str t.nodes[k].name, .sl 1 0 (ints t.nodes[k].kids)] := rfl
      have hts : (t.nodes.take k).map ndV ++ [ndV t.nodes[k]] = (t.nodes.take (k + 1)).map ndV := by
        rw [List.take_succ_eq_append_getElem hlt, List.map_append]; rfl
      have hsn : (t.nodes.take k).length = k := by simp; omega
      generalize t.nodes[k] = r at *
      have n1 : ¬ h.nobj + 2 = h'.nobj := by omega
      have n2 : ¬ h.nobj + 1 = h'.nobj := by omega
      have q0 : (h'.new (ndC r)).objs h'.nobj = ndC r := by simp
      have q2 : (h'.new (ndC r)).objs (h.nobj + 1) = [.sl 0 1 [], .sl 0 1 []] := by simp [n2, ob1]
      have q3 : (h'.new (ndC r)).objs (h.nobj + 2) = [.sl e1 st (t.rules.map rlV), .sl e2 st2 ((t.nodes.take k).map ndV)] := by simp [n1, ob2]
      have q4 : (h'.new (ndC r)).nobj = h'.nobj + 1 := by simp
      have ow2 := ow.new (ndC r)
      simp [hlt', hg, ndV, V.cells, V.good, hnc, setAt]
      rw [← hnc]
      generalize h'.new (ndC r) = h2 at *
      simp [q0, q3, hnc, fillL, V.isAgg]
      rw [← hnc, show V.agg (ndC r) = ndV r from rfl]
      refine ow2.appZ (fun _ => rfl) (by simp [hsn]; omega) fun e3 st3 h3 o3 ob3 no3 => ?_
      rw [hts] at o3 ⊢
      have m1 : ¬ h.nobj + 1 = h.nobj + 2 := by omega
      simp [hw1, V.cells, V.good, setAt, ob3, q3]
      exact ⟨t.nodes.length - (k + 1), by omega, iv ⟨k + 1, e3, st3, by omega, rfl, o3.set (by omega) _, by rw [set_objs_ne _ _ _ m1, ob3]; exact q2, by rw [set_objs_same], by rw [set_nobj]; omega, rfl⟩⟩
    · have hlt' : ¬ (k : Int) < t.nodes.length := by omega
      obtain rfl : k = t.nodes.length := by omega
      rw [List.take_length] at ow ob2
      have hb := Bdd_teV h.next h.nobj t
      have m1 : ¬ h.nobj + 1 = h.nobj + 2 := by omega
      simp [hlt', ob2, ob1, V.cells, V.good, setAt]
      exact fin_wk (ow.gr.set (by omega) _) (Wk.l2 (Wk.sln hel) (Wk.sln ow.el)) hb hQ
end
/-- Productions, as they lie: of their symbols less may be known. -/
def PrWL : List V → List Pr → Prop
  | [], [] => True
  | v :: vs, p :: ps => (∃ e st, v = .agg [.int .i64 p.left, .sl e st (p.right.map symV)] ∧ (p.right = [] ∨ e = 2)) ∧ PrWL vs ps
  | _, _ => False
theorem PrWL.app : ∀ {vs : List V} {ps : List Pr} {us : List V} {qs : List Pr}, PrWL vs ps → PrWL us qs → PrWL (vs ++ us) (ps ++ qs)
  | [], [], _, _, _, h => h
  | v :: vs, p :: ps, _, _, ⟨a, b⟩, h => ⟨a, PrWL.app b h⟩
theorem PrWL.len : ∀ {vs : List V} {ps : List Pr}, PrWL vs ps → vs.length = ps.length
  | [], [], _ => rfl
  | v :: vs, p :: ps, ⟨_, b⟩ => by simp [PrWL.len b]
theorem PrWL.wkl : ∀ {vs : List V} {ps : List Pr}, PrWL vs ps → WkL (cellsOf vs) (cellsOf (ps.map prV))
  | [], [], _ => .nil
  | v :: vs, p :: ps, ⟨⟨e, st, hv, h⟩, b⟩ => by
    subst hv
    simp only [List.map_cons, cellsOf_cons]
    refine .cons (.same _) (.cons (Wk.sln ?_) (PrWL.wkl b))
    rcases h with h | h
    · left; rw [h]; rfl
    · exact .inr h
theorem PrWL.wk {vs : List V} {ps : List Pr} (h : PrWL vs ps) {e st : Nat} (he : vs = [] ∨ e = 2) : Wk (.sl e st vs) (.sl 2 0 (ps.map prV)) := by
  obtain ⟨a, b⟩ := h.wkl.get
  rcases he with rfl | rfl
  · match ps, h with
    | [], _ => exact .nil _ _ _
  · exact .sld _ _ _ _ (by simp [h.len]) (fun v hv => by
      obtain ⟨p, _, rfl⟩ := List.mem_map.1 hv
      rfl) a b
theorem RTe.in {t : Te} (r : RTe t) {i : Nat} (hi : i < t.nodes.length) : ∀ m ∈ t.nodes[i].kids, 0 ≤ m ∧ m < t.nodes.length := fun m hm => by have := r.lt i hi m hm; omega
end Go.Proofs.Ytdbbgkdepjidjaa.Al
namespace Go.Proofs.Ytdbbgkdepjidjaa.Al
open Go Go.RowKit
set_option linter.unusedSimpArgs false
set_option linter.unusedVariables false
attribute [-simp] List.getD_eq_getElem?_getD Int.not_lt Int.not_le List.map_take List.map_map
section
variable {X : Cx} {wr : Int → Value} {toks : List Tok} {en : Nat}
variable {h : AH} {o : Nat} {σ : S4} {Q : V → AH → Prop}
/-- A slice of one's own beside the reader's. -/
structure Loc (h0 h : AH) (σ : S4) (e st : Nat) (l : List V) : Prop where
  may : May 1 h e st l
  lo : st ≤ 2 ∨ (h0.next ≤ st ∧ st < h.next ∧ ¬ σ.has st)
theorem Loc.nil (h0 h : AH) (σ : S4) : Loc h0 h σ 0 1 [] := ⟨⟨.inl rfl, .inl rfl⟩, .inl (by omega)⟩
theorem Loc.from {h0 h1 : AH} {σ1 : S4} {e st : Nat} {l : List V} (c : Loc h0 h σ e st l) (g : RE h h1 o σ σ1) (lo : ∀ s, s ≤ 2 → h.tips s = none) : Loc h0 h1 σ1 e st l := by
  refine ⟨c.may.keep ?_ (lo _), ?_⟩
  · rcases c.lo with d | ⟨d1, d2, d3⟩
    · exact .inl d
    · exact .inr (g.tips _ d2 (.inl d3))
  · rcases c.lo with d | ⟨d1, d2, d3⟩
    · exact .inl d
    · refine .inr ⟨d1, by have := g.next; omega, fun e => ?_⟩
      rcases g.st _ e with q | q
      · exact d3 q
      · omega
/-- It is pushed. -/
theorem Loc.app {h0 : AH} {s : PS} {e st : Nat} {l : List V} (c : Loc h0 h σ e st l) (hn : h0.next ≤ h.next) (r : RdP toks en h o s σ) {m : List V} (hm : m ≠ []) (hb : (l.length + m.length) * 8 ≤ 2 ^ 46) {K : V → AH → Prop} {zK : Lz K}
    (hk : RdP toks en (h.push st 1) o s σ → Loc h0 (h.push st 1) σ 1 h.next (l ++ m) → (∀ e2 s2 l2, Loc h0 h σ e2 s2 l2 → (s2 ≤ 2 ∨ s2 ≠ st) → Loc h0 (h.push st 1) σ e2 s2 l2 ∧ (s2 ≤ 2 ∨ s2 ≠ h.next)) → K (.sl 1 h.next (l ++ m)) (h.push st 1)) : App h 1 8 e st l 1 m zK := by
  refine c.may.app hm rfl hb (hk ?_ ?_ ?_)
  · obtain ⟨N, hN, rd⟩ := r
    exact ⟨N, hN, rd.push (by rcases c.lo with d | d; exact .inl d; exact .inr d.2.2) 1⟩
  · obtain ⟨N, hN, rd⟩ := r
    refine ⟨⟨.inr rfl, .inr (.inr (push_new _ _ _))⟩, .inr ⟨hn, by rw [push_next]; omega, fun q => ?_⟩⟩
    have := rd.sb _ q
    have := rd.lo.1
    omega
  · intro e2 s2 l2 c2 ne
    obtain ⟨N, hN, rd⟩ := r
    refine ⟨⟨c2.may.push rd.lo (by rcases c2.lo with d | d; exact .inl d; exact .inr d.2.1) ne 1, ?_⟩, ?_⟩
    · rcases c2.lo with d | ⟨d1, d2, d3⟩
      · exact .inl d
      · exact .inr ⟨d1, by rw [push_next]; omega, d3⟩
    · rcases c2.lo with d | ⟨d1, d2, d3⟩
      · exact .inl d
      · right; omega
end
end Go.Proofs.Ytdbbgkdepjidjaa.Al
namespace Go.Proofs.Ytdbbgkdepjidjaa.Al
open Go Go.RowKit
set_option linter.unusedSimpArgs false
set_option linter.unusedVariables false
attribute [-simp] List.getD_eq_getElem?_getD Int.not_lt Int.not_le List.map_take List.map_map
/-! ### Names -/
section
variable {X : Cx} {h : AH} {Q : V → AH → Prop}
/-! ### Read -/
def noTe : Te := ⟨[], []⟩
theorem RE.gr {h0 h h1 : AH} {o : Nat} {σ σ1 : S4} (G : Gr h0 h) (f : RE h h1 o σ σ1) (ho : h0.nobj ≤ o) (hs : ∀ s, σ.has s → s ≤ 2 ∨ h0.next ≤ s) : Gr h0 h1 := by
  have g1 := G.next
  have g2 := G.nobj
  exact ⟨Nat.le_trans g1 f.next, Nat.le_trans g2 f.nobj, fun o' h' => (f.objs o' (by omega) (by omega)).trans (G.objs o' h'), fun s h' => (f.tips s (by omega) (by
    by_cases c : σ.has s
    · rcases hs s c with d | d
      · exact .inr d
      · omega
    · exact .inl c)).trans (G.tips s h')⟩
theorem wk_tree {e1 s1 e2 s2 : Nat} {R : List Rl} {N : List V} {l : List Nd} (h1 : R = [] ∨ e1 = 2) (h2 : l = [] ∨ e2 = 3) (hN : WkE N (l.map ndV)) : Wk (.agg [.sl e1 s1 (R.map rlV), .sl e2 s2 N]) (teV ⟨R, l⟩) := by
  have w1 : Wk (.sl e1 s1 (R.map rlV)) (.sl 2 0 (R.map rlV)) := by
    rcases h1 with rfl | rfl
    · exact .nil _ _ _
    · exact .sl _ _ _
  have w2 : Wk (.sl e2 s2 N) (.sl 3 0 (l.map ndV)) := by
    rcases h2 with rfl | rfl
    · cases hN; exact .nil _ _ _
    · exact hN.sl (fun v hv => by obtain ⟨n, _, rfl⟩ := List.mem_map.1 hv; rfl)
  refine .agg _ _ rfl fun i i1 i2 => ?_
  match i with
  | 0 => exact w1
  | 1 => exact w2
  | n + 2 => simp at i1; omega
end
end Go.Proofs.Ytdbbgkdepjidjaa.Al
namespace Go.Proofs.Ytdbbgkdepjidjaa.Al
open Go Go.RowKit
set_option linter.unusedSimpArgs false
set_option linter.unusedVariables false
/-- A node may be, but for what its name means. -/
def fineL (toks : List Tok) (U : List Use) (n : Nd) : Prop :=
  (n.kind = 6 ∧ n.kids = [] ∧ ∃ u ∈ U, u.name = n.name) ∨ (n.kind = 7 ∧ n.kids = [] ∧ ∃ t ∈ toks, t.kind = 2 ∧ t.text = n.name) ∨
  (n.name = [] ∧ ((n.kind = 1 ∧ n.kids.length ≠ 1) ∨ (n.kind = 2 ∧ 2 ≤ n.kids.length) ∨ (3 ≤ n.kind ∧ n.kind ≤ 5 ∧ n.kids.length = 1)))
/-- From s to s' nodes have been laid, which leave ks open. -/
structure Grow (toks : List Tok) (s s' : PS) (ks : List Int) : Prop where
  nodes : ∃ new, s'.nodes = s.nodes ++ new ∧ ∀ n ∈ new, fineL toks s'.used n
  used : ∃ us, s'.used = s.used ++ us ∧ ∀ u ∈ us, ∃ t ∈ toks, t.at' = u.at'
  given : s'.given = s.given
  rules : s'.rules = s.rules
  run : ∀ t : Te, s'.nodes <+: t.nodes → (∀ n ∈ t.nodes, fineP t n = true) → ∀ st, runS t (s'.nodes.length - s.nodes.length) s.nodes.length st = some (st ++ ks)
section
variable {toks : List Tok} {en : Nat}
theorem fineL.mono {U U' : List Use} {n : Nd} (h : fineL toks U n) (hU : ∀ u ∈ U, u ∈ U') : fineL toks U' n := by
  rcases h with ⟨a, b, u, c, d⟩ | h | h
  · exact .inl ⟨a, b, u, hU u c, d⟩
  · exact .inr (.inl h)
  · exact .inr (.inr h)
theorem Grow.refl (s : PS) : Grow toks s s [] := ⟨⟨[], by simp, by simp⟩, ⟨[], by simp, by simp⟩, rfl, rfl, fun t _ _ st => by simp [runS]⟩
theorem Grow.pre {s s' : PS} {ks : List Int} (g : Grow toks s s' ks) : s.nodes <+: s'.nodes := by
  obtain ⟨new, e, _⟩ := g.nodes
  exact ⟨new, e.symm⟩
theorem Grow.trans {s s1 s2 : PS} {k1 k2 : List Int} (a : Grow toks s s1 k1) (b : Grow toks s1 s2 k2) : Grow toks s s2 (k1 ++ k2) := by
  obtain ⟨n1, e1, f1⟩ := a.nodes
  obtain ⟨n2, e2, f2⟩ := b.nodes
  obtain ⟨u1, x1, y1⟩ := a.used
  obtain ⟨u2, x2, y2⟩ := b.used
  refine ⟨⟨n1 ++ n2, by rw [e2, e1, List.append_assoc], fun n hn => ?_⟩, ⟨u1 ++ u2, by rw [x2, x1, List.append_assoc], fun u hu => ?_⟩, b.given.trans a.given, b.rules.trans a.rules, fun t hp hf st => ?_⟩
  · rcases List.mem_append.1 hn with h | h
    · exact (f1 n h).mono (fun u hu => by rw [x2]; exact List.mem_append_left _ hu)
    · exact f2 n h
  · rcases List.mem_append.1 hu with h | h
    · exact y1 u h
    · exact y2 u h
  · have r1 := a.run t (b.pre.trans hp) hf st
    have r2 := b.run t hp hf (st ++ k1)
    have l1 : s1.nodes.length = s.nodes.length + n1.length := by rw [e1]; simp
    have l2 : s2.nodes.length = s1.nodes.length + n2.length := by rw [e2]; simp
    have := runS_add t (s1.nodes.length - s.nodes.length) (s2.nodes.length - s1.nodes.length) s.nodes.length st _ r1
    rw [show s.nodes.length + (s1.nodes.length - s.nodes.length) = s1.nodes.length by omega, r2, show s1.nodes.length - s.nodes.length + (s2.nodes.length - s1.nodes.length) = s2.nodes.length - s.nodes.length by omega] at this
    rw [this, List.append_assoc]
theorem Grow.at {s s' : PS} {ks : List Int} (g : Grow toks s s' ks) (a : Nat) : Grow toks s { s' with at' := a } ks := ⟨g.nodes, g.used, g.given, g.rules, g.run⟩
end
/-! ### Tokens alone -/
/-! ### What Read tells -/
/-- Where it is wrong is within the text. -/
def ErrOk (en : Nat) {α : Type} (r : PR α) : Prop := ∀ p, r = .error p → p ≤ en
theorem ErrOk.ok {en : Nat} {α : Type} (x : PS × α) : ErrOk en (.ok x) := fun p h => by cases h
end Go.Proofs.Ytdbbgkdepjidjaa.Al
namespace Go.Proofs.Ytdbbgkdepjidjaa.Al
open Go Go.RowKit
set_option linter.unusedSimpArgs false
set_option linter.unusedVariables false
attribute [-simp] List.getD_eq_getElem?_getD Int.not_lt Int.not_le List.map_take List.map_map
def utokV (u : Use) : V := tokV ⟨1, u.name, u.at'⟩
/-- Something is wrong, at this place. -/
def RdW (toks : List Tok) (en : Nat) (h : AH) (o : Nat) (p c : Nat) (σ : S4) : Prop := ∃ (a : Nat) (R : List Rl) (N : List V) (G U : List Use), plcP toks en a = p ∧ a ≤ toks.length ∧ R.length + N.length + G.length + U.length ≤ c ∧ RdO h o (.sl 3 0 (toks.map tokV)) (.bool true) a 3 (R.map rlV) N (G.map utokV) (U.map utokV) σ
theorem RdW.mono {toks : List Tok} {en : Nat} {h : AH} {o p c c' : Nat} {σ : S4} (r : RdW toks en h o p c σ) (hc : c ≤ c') : RdW toks en h o p c' σ := by
  obtain ⟨a, R, N, G, U, h1, h2, h3, h4⟩ := r
  exact ⟨a, R, N, G, U, h1, h2, by omega, h4⟩
end Go.Proofs.Ytdbbgkdepjidjaa.Al
