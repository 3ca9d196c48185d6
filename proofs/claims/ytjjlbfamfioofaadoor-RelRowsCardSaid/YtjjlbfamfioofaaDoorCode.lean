/-
  The functions of the program as the abstract machine reads them, and that they are just that.
  Conditions: none.
-/
import Derived.Test.YtjjlbfamfioofaaDoorAm3
import Derived.Test.YtjjlbfamfioofaaDoorProg
import Derived.KernelRfl
namespace Go.Proofs.YtjjlbfamfioofaaDoor.AM
open Go.RowKit
def n_belatedlaw2_RelOrders : FuncId := 3
def n_belatedlaw2_RelRows : FuncId := 4
def n_belatedlaw2_able : FuncId := 5
def n_rel_Order : FuncId := 6
def n_belatedref2_Order : FuncId := 7
def n_belatedlaw2_ints : FuncId := 8
def n_rel_Meet : FuncId := 9
def n_rel_Cross : FuncId := 10
def n_rel_Acyclic : FuncId := 11
def n_rel_Has : FuncId := 12
def n_rel_Events : FuncId := 13
def n_rel_List : FuncId := 14
def n_rel_Pair : FuncId := 15
def n_rel_Seq : FuncId := 16
def n_rel_Count : FuncId := 17
def n_rel_Plus : FuncId := 18
def n_rel_Union : FuncId := 19
def n_rel_Inverse : FuncId := 20
def n_rel_First : FuncId := 21
def n_rel_next : FuncId := 22
def n_math_bits_TrailingZeros32 : FuncId := 23
def n_belatedref2_In : FuncId := 24
def n_rel_has : FuncId := 25
def n_rel_Irreflexive : FuncId := 26
def n_rel_event : FuncId := 27
def n_rel_Id : FuncId := 28
def n_math_bits_OnesCount32 : FuncId := 29
def n_rel_Empty : FuncId := 30
def g_math_bits_deBruijn32tab : Nat := 0
def s_256_1024 : ByteArray := ⟨#[0, 1, 1, 2, 1, 2, 2, 3, 1, 2, 2, 3, 2, 3, 3, 4, 1, 2, 2, 3, 2, 3, 3, 4, 2, 3, 3, 4, 3, 4, 4, 5, 1, 2, 2, 3, 2, 3, 3, 4, 2, 3, 3, 4, 3, 4, 4, 5, 2, 3, 3, 4, 3, 4, 4, 5, 3, 4, 4, 5, 4, 5, 5, 6, 1, 2, 2, 3, 2, 3, 3, 4, 2, 3, 3, 4, 3, 4, 4, 5, 2, 3, 3, 4, 3, 4, 4, 5, 3, 4, 4, 5, 4, 5, 5, 6, 2, 3, 3, 4, 3, 4, 4, 5, 3, 4, 4, 5, 4, 5, 5, 6, 3, 4, 4, 5, 4, 5, 5, 6, 4, 5, 5, 6, 5, 6, 6, 7, 1, 2, 2, 3, 2, 3, 3, 4, 2, 3, 3, 4, 3, 4, 4, 5, 2, 3, 3, 4, 3, 4, 4, 5, 3, 4, 4, 5, 4, 5, 5, 6, 2, 3, 3, 4, 3, 4, 4, 5, 3, 4, 4, 5, 4, 5, 5, 6, 3, 4, 4, 5, 4, 5, 5, 6, 4, 5, 5, 6, 5, 6, 6, 7, 2, 3, 3, 4, 3, 4, 4, 5, 3, 4, 4, 5, 4, 5, 5, 6, 3, 4, 4, 5, 4, 5, 5, 6, 4, 5, 5, 6, 5, 6, 6, 7, 3, 4, 4, 5, 4, 5, 5, 6, 4, 5, 5, 6, 5, 6, 6, 7, 4, 5, 5, 6, 5, 6, 6, 7, 5, 6, 6, 7, 6, 7, 7, 8]⟩
def c_belatedlaw2_RelOrders : AFunc := ⟨31, [.tmp 4],
 (.seq (.ops [⟨(some 3), .box 32 (.tmp 1), none⟩,
   ⟨(some 4), .mv (.const (.bool false)), none⟩])
 (.seq (.seq (.ops [⟨(some 9), .call n_belatedlaw2_able [], none⟩,
   ⟨(some 10), .un .not (.tmp 9), none⟩])
 (.cond (.tmp 10) (.seq (.ops [⟨(some 4), .mv (.const (.bool false)), none⟩])
 .ret) .skip))
 (.seq (.ops [⟨(some 12), .mv (.tmp 0), none⟩,
   ⟨(some 13), .load 32 (.tmp 3), none⟩,
   ⟨(some 14), .call n_rel_Order [(.tmp 12), (.tmp 13)], none⟩,
   ⟨(some 11), .mv (.tmp 14), none⟩,
   ⟨(some 15), .extract (.tmp 11) 0, none⟩,
   ⟨(some 16), .extract (.tmp 11) 1, none⟩,
   ⟨(some 5), .mv (.tmp 15), none⟩,
   ⟨(some 6), .mv (.tmp 16), none⟩])
 (.seq (.ops [⟨(some 18), .mv (.tmp 0), none⟩,
   ⟨(some 19), .load 32 (.tmp 3), none⟩,
   ⟨(some 20), .call n_belatedref2_Order [(.tmp 18), (.tmp 19)], none⟩,
   ⟨(some 17), .mv (.tmp 20), none⟩,
   ⟨(some 21), .extract (.tmp 17) 0, none⟩,
   ⟨(some 22), .extract (.tmp 17) 1, none⟩,
   ⟨(some 7), .mv (.tmp 21), none⟩,
   ⟨(some 8), .mv (.tmp 22), none⟩])
 (.seq (.ops [⟨(some 23), .mv (.tmp 6), none⟩,
   ⟨(some 24), .mv (.tmp 8), none⟩,
   ⟨(some 25), .eqv false .bool (.tmp 23) (.tmp 24), none⟩,
   ⟨(some 26), .mv (.tmp 25), none⟩,
   ⟨(some 27), .mv (.tmp 5), (some (26, true))⟩,
   ⟨(some 28), .mv (.tmp 7), (some (26, true))⟩,
   ⟨(some 29), .call n_belatedlaw2_ints [(.tmp 27), (.tmp 28)], (some (26, true))⟩,
   ⟨(some 30), .pick (.tmp 26) (.tmp 29) (.const (.bool false)), none⟩,
   ⟨(some 4), .mv (.tmp 30), none⟩])
 .ret)))))⟩
def c_belatedlaw2_RelRows : AFunc := ⟨77, [.tmp 4],
 (.seq (.ops [⟨(some 3), .box 32 (.tmp 1), none⟩,
   ⟨(some 4), .mv (.const (.bool false)), none⟩])
 (.seq (.seq (.ops [⟨(some 10), .call n_belatedlaw2_able [], none⟩,
   ⟨(some 11), .un .not (.tmp 10), none⟩])
 (.cond (.tmp 11) (.seq (.ops [⟨(some 4), .mv (.const (.bool false)), none⟩])
 .ret) .skip))
 (.seq (.ops [⟨(some 12), .load 32 (.tmp 3), none⟩,
   ⟨(some 13), .mv (.tmp 0), none⟩,
   ⟨(some 14), .mv (.tmp 0), none⟩,
   ⟨(some 5), .alloc (List.replicate 32 (.int .u32 0)), none⟩,
   ⟨(some 15), .call n_rel_Cross [(.tmp 13), (.tmp 14)], none⟩,
   ⟨none, .again 32 (.tmp 3) 12, none⟩,
   ⟨(some 16), .mkRow (List.replicate 32 (.int .u32 0)) 2 [(0, 32, (.tmp 12)), (32, 32, (.tmp 15))], none⟩,
   ⟨(some 17), .call n_rel_Meet [(.tmp 16)], none⟩,
   ⟨none, .store 32 (.tmp 5) (.tmp 17), none⟩])
 (.seq (.ops [⟨(some 19), .mv (.tmp 0), none⟩,
   ⟨(some 20), .load 32 (.tmp 3), none⟩,
   ⟨(some 21), .call n_rel_Order [(.tmp 19), (.tmp 20)], none⟩,
   ⟨(some 18), .mv (.tmp 21), none⟩,
   ⟨(some 22), .extract (.tmp 18) 0, none⟩,
   ⟨(some 23), .extract (.tmp 18) 1, none⟩,
   ⟨(some 6), .mv (.tmp 22), none⟩,
   ⟨(some 7), .mv (.tmp 23), none⟩])
 (.seq (.seq (.ops [⟨(some 24), .mv (.tmp 7), none⟩,
   ⟨(some 25), .load 32 (.tmp 5), none⟩,
   ⟨(some 26), .call n_rel_Acyclic [(.tmp 25)], none⟩,
   ⟨(some 27), .eqv true .bool (.tmp 24) (.tmp 26), none⟩,
   ⟨(some 28), .mv (.tmp 27), none⟩,
   ⟨(some 29), .mv (.tmp 7), (some (28, false))⟩,
   ⟨(some 30), .un .not (.tmp 29), (some (28, false))⟩,
   ⟨(some 31), .mv (.tmp 30), (some (28, false))⟩,
   ⟨(some 32), .mv (.tmp 6), (some (31, true))⟩,
   ⟨(some 33), .len (.tmp 32), (some (31, true))⟩,
   ⟨(some 34), .bin .neq (.tmp 33) (.const (.int .i64 0)), (some (31, true))⟩,
   ⟨(some 35), .pick (.tmp 31) (.tmp 34) (.const (.bool false)), (some (28, false))⟩,
   ⟨(some 36), .pick (.tmp 28) (.const (.bool true)) (.tmp 35), none⟩])
 (.cond (.tmp 36) (.seq (.ops [⟨(some 4), .mv (.const (.bool false)), none⟩])
 .ret) .skip))
 (.seq (.seq (.ops [⟨(some 8), .mv (.const (.int .i64 0)), none⟩])
 (.block 0 (.loop (.seq (.seq (.ops [⟨(some 37), .mv (.tmp 8), none⟩,
     ⟨(some 38), .mv (.tmp 6), none⟩,
     ⟨(some 39), .len (.tmp 38), none⟩,
     ⟨(some 40), .bin .lss (.tmp 37) (.tmp 39), none⟩,
     ⟨(some 41), .mv (.tmp 40), none⟩,
     ⟨(some 42), .mv (.tmp 7), (some (41, true))⟩,
     ⟨(some 43), .pick (.tmp 41) (.tmp 42) (.const (.bool false)), none⟩])
   (.cond (.tmp 43) .skip (.exit 0)))
   (.seq (.block 1 (.seq (.ops [⟨(some 9), .mv (.const (.int .i64 0)), none⟩])
    (.block 2 (.loop (.seq (.seq (.ops [⟨(some 46), .mv (.tmp 9), none⟩,
        ⟨(some 47), .mv (.tmp 8), none⟩,
        ⟨(some 48), .bin .leq (.tmp 46) (.tmp 47), none⟩])
      (.cond (.tmp 48) .skip (.exit 2)))
      (.seq (.block 3 (.seq (.ops [⟨(some 51), .load 32 (.tmp 5), none⟩,
         ⟨(some 52), .mv (.tmp 6), none⟩,
         ⟨(some 53), .mv (.tmp 8), none⟩,
         ⟨(some 54), .atRow 1 (.tmp 52) (.tmp 53), none⟩,
         ⟨(some 55), .load1 (.tmp 54), none⟩,
         ⟨(some 56), .mv (.tmp 6), none⟩,
         ⟨(some 57), .mv (.tmp 9), none⟩,
         ⟨(some 58), .atRow 1 (.tmp 56) (.tmp 57), none⟩,
         ⟨(some 59), .load1 (.tmp 58), none⟩,
         ⟨(some 60), .call n_rel_Has [(.tmp 51), (.tmp 55), (.tmp 59)], none⟩])
       (.cond (.tmp 60) (.seq (.ops [⟨(some 4), .mv (.const (.bool false)), none⟩])
       .ret) .skip)))
      (.ops [⟨(some 49), .mv (.tmp 9), none⟩,
        ⟨(some 50), .bin .add (.tmp 49) (.const (.int .i64 1)), none⟩,
        ⟨(some 9), .mv (.tmp 50), none⟩])))))))
   (.ops [⟨(some 44), .mv (.tmp 8), none⟩,
     ⟨(some 45), .bin .add (.tmp 44) (.const (.int .i64 1)), none⟩,
     ⟨(some 8), .mv (.tmp 45), none⟩]))))))
 (.seq (.ops [⟨(some 61), .mv (.tmp 7), none⟩,
   ⟨(some 62), .un .not (.tmp 61), none⟩,
   ⟨(some 63), .mv (.tmp 62), none⟩,
   ⟨(some 64), .mv (.tmp 6), (some (63, false))⟩,
   ⟨(some 65), .call n_rel_Events [(.tmp 64)], (some (63, false))⟩,
   ⟨(some 66), .mv (.tmp 0), (some (63, false))⟩,
   ⟨(some 67), .bin .eql (.tmp 65) (.tmp 66), (some (63, false))⟩,
   ⟨(some 68), .mv (.tmp 67), (some (63, false))⟩,
   ⟨(some 69), .mv (.tmp 6), (some (68, true))⟩,
   ⟨(some 70), .len (.tmp 69), (some (68, true))⟩,
   ⟨(some 71), .mv (.tmp 0), (some (68, true))⟩,
   ⟨(some 72), .call n_rel_List [(.tmp 71)], (some (68, true))⟩,
   ⟨(some 73), .len (.tmp 72), (some (68, true))⟩,
   ⟨(some 74), .bin .eql (.tmp 70) (.tmp 73), (some (68, true))⟩,
   ⟨(some 75), .pick (.tmp 68) (.tmp 74) (.const (.bool false)), (some (63, false))⟩,
   ⟨(some 76), .pick (.tmp 63) (.const (.bool true)) (.tmp 75), none⟩,
   ⟨(some 4), .mv (.tmp 76), none⟩])
 .ret)))))))⟩
def c_belatedlaw2_able : AFunc := ⟨42, [.tmp 0],
 (.seq (.ops [⟨(some 0), .mv (.const (.bool false)), none⟩])
 (.seq (.ops [⟨(some 4), .build [(.int .i64 0), (.int .i64 0)] [(0, 1, (.const (.int .i64 0))), (1, 1, (.const (.int .i64 1)))], none⟩,
   ⟨(some 5), .mkRow [(.int .i64 0), (.int .i64 0)] 1 [(0, 2, (.tmp 4))], none⟩,
   ⟨(some 6), .call n_rel_Pair [(.tmp 5)], none⟩,
   ⟨(some 7), .build [(.int .i64 0), (.int .i64 0)] [(0, 1, (.const (.int .i64 1))), (1, 1, (.const (.int .i64 2)))], none⟩,
   ⟨(some 8), .mkRow [(.int .i64 0), (.int .i64 0)] 1 [(0, 2, (.tmp 7))], none⟩,
   ⟨(some 9), .call n_rel_Pair [(.tmp 8)], none⟩,
   ⟨(some 1), .alloc (List.replicate 32 (.int .u32 0)), none⟩,
   ⟨(some 2), .alloc (List.replicate 32 (.int .u32 0)), none⟩,
   ⟨none, .store 32 (.tmp 1) (.tmp 6), none⟩,
   ⟨none, .store 32 (.tmp 2) (.tmp 9), none⟩])
 (.seq (.ops [⟨(some 10), .load 32 (.tmp 1), none⟩,
   ⟨(some 11), .load 32 (.tmp 2), none⟩,
   ⟨(some 12), .mkRow (List.replicate 32 (.int .u32 0)) 2 [(0, 32, (.tmp 10)), (32, 32, (.tmp 11))], none⟩,
   ⟨(some 13), .call n_rel_Seq [(.tmp 12)], none⟩,
   ⟨(some 3), .alloc (List.replicate 32 (.int .u32 0)), none⟩,
   ⟨none, .store 32 (.tmp 3) (.tmp 13), none⟩])
 (.seq (.ops [⟨(some 14), .load 32 (.tmp 3), none⟩,
   ⟨(some 15), .call n_rel_Has [(.tmp 14), (.const (.int .i64 0)), (.const (.int .i64 2))], none⟩,
   ⟨(some 16), .mv (.tmp 15), none⟩,
   ⟨(some 17), .load 32 (.tmp 3), (some (16, true))⟩,
   ⟨(some 18), .call n_rel_Count [(.tmp 17)], (some (16, true))⟩,
   ⟨(some 19), .bin .eql (.tmp 18) (.const (.int .i64 1)), (some (16, true))⟩,
   ⟨(some 20), .pick (.tmp 16) (.tmp 19) (.const (.bool false)), none⟩,
   ⟨(some 21), .mv (.tmp 20), none⟩,
   ⟨(some 22), .load 32 (.tmp 1), (some (21, true))⟩,
   ⟨(some 23), .load 32 (.tmp 2), (some (21, true))⟩,
   ⟨(some 24), .mkRow (List.replicate 32 (.int .u32 0)) 2 [(0, 32, (.tmp 22)), (32, 32, (.tmp 23))], (some (21, true))⟩,
   ⟨(some 25), .call n_rel_Union [(.tmp 24)], (some (21, true))⟩,
   ⟨(some 26), .call n_rel_Plus [(.tmp 25)], (some (21, true))⟩,
   ⟨(some 27), .call n_rel_Has [(.tmp 26), (.const (.int .i64 0)), (.const (.int .i64 2))], (some (21, true))⟩,
   ⟨(some 28), .pick (.tmp 21) (.tmp 27) (.const (.bool false)), none⟩,
   ⟨(some 29), .mv (.tmp 28), none⟩,
   ⟨(some 30), .load 32 (.tmp 1), (some (29, true))⟩,
   ⟨(some 31), .load 32 (.tmp 1), (some (29, true))⟩,
   ⟨(some 32), .call n_rel_Inverse [(.tmp 31)], (some (29, true))⟩,
   ⟨none, .again 32 (.tmp 1) 30, (some (29, true))⟩,
   ⟨(some 33), .mkRow (List.replicate 32 (.int .u32 0)) 2 [(0, 32, (.tmp 30)), (32, 32, (.tmp 32))], (some (29, true))⟩,
   ⟨(some 34), .call n_rel_Union [(.tmp 33)], (some (29, true))⟩,
   ⟨(some 35), .call n_rel_Acyclic [(.tmp 34)], (some (29, true))⟩,
   ⟨(some 36), .un .not (.tmp 35), (some (29, true))⟩,
   ⟨(some 37), .pick (.tmp 29) (.tmp 36) (.const (.bool false)), none⟩,
   ⟨(some 38), .mv (.tmp 37), none⟩,
   ⟨(some 39), .call n_rel_First [(.const (.int .i64 3))], (some (38, true))⟩,
   ⟨(some 40), .bin .eql (.tmp 39) (.const (.int .u32 7)), (some (38, true))⟩,
   ⟨(some 41), .pick (.tmp 38) (.tmp 40) (.const (.bool false)), none⟩,
   ⟨(some 0), .mv (.tmp 41), none⟩])
 .ret))))⟩
def c_rel_Order : AFunc := ⟨31, [.tmp 4, .tmp 5],
 (.seq (.ops [⟨(some 3), .box 32 (.tmp 1), none⟩,
   ⟨(some 4), .mv (.const (.slice none 0 0)), none⟩,
   ⟨(some 5), .mv (.const (.bool false)), none⟩])
 (.seq (.ops [⟨(some 6), .mv (.const (.slice none 0 0)), none⟩])
 (.seq (.block 0 (.loop (.seq (.seq (.ops [⟨(some 10), .mv (.tmp 0), none⟩,
     ⟨(some 11), .bin .neq (.tmp 10) (.const (.int .u32 0)), none⟩])
   (.cond (.tmp 11) .skip (.exit 0)))
   (.block 1 (.seq (.ops [⟨(some 12), .mv (.tmp 0), none⟩,
      ⟨(some 13), .load 32 (.tmp 3), none⟩,
      ⟨(some 14), .call n_rel_next [(.tmp 12), (.tmp 13)], none⟩,
      ⟨(some 7), .mv (.tmp 14), none⟩])
    (.seq (.ops [⟨(some 15), .mv (.tmp 0), none⟩,
      ⟨(some 16), .mv (.tmp 7), none⟩,
      ⟨(some 17), .bin .andNot (.tmp 15) (.tmp 16), none⟩,
      ⟨(some 8), .mv (.tmp 17), none⟩])
    (.seq (.seq (.ops [⟨(some 18), .mv (.tmp 8), none⟩,
      ⟨(some 19), .bin .eql (.tmp 18) (.const (.int .u32 0)), none⟩])
    (.cond (.tmp 19) (.seq (.ops [⟨(some 4), .mv (.const (.slice none 0 0)), none⟩,
      ⟨(some 5), .mv (.const (.bool false)), none⟩])
    .ret) .skip))
    (.seq (.ops [⟨(some 20), .mv (.tmp 8), none⟩,
      ⟨(some 21), .call n_math_bits_TrailingZeros32 [(.tmp 20)], none⟩,
      ⟨(some 9), .mv (.tmp 21), none⟩])
    (.seq (.ops [⟨(some 22), .mv (.tmp 6), none⟩,
      ⟨(some 23), .mv (.tmp 9), none⟩,
      ⟨(some 24), .mkRow [(.int .i64 0)] 1 [(0, 1, (.tmp 23))], none⟩,
      ⟨(some 25), .append 1 8 (.tmp 22) (.tmp 24), none⟩,
      ⟨(some 6), .mv (.tmp 25), none⟩])
    (.ops [⟨(some 26), .mv (.tmp 0), none⟩,
      ⟨(some 27), .mv (.tmp 9), none⟩,
      ⟨(some 28), .bin .shl (.const (.int .u32 1)) (.tmp 27), none⟩,
      ⟨(some 29), .bin .andNot (.tmp 26) (.tmp 28), none⟩,
      ⟨(some 0), .mv (.tmp 29), none⟩]))))))))))
 (.seq (.ops [⟨(some 30), .mv (.tmp 6), none⟩,
   ⟨(some 4), .mv (.tmp 30), none⟩,
   ⟨(some 5), .mv (.const (.bool true)), none⟩])
 .ret))))⟩
def c_belatedref2_Order : AFunc := ⟨60, [.tmp 4, .tmp 5],
 (.seq (.ops [⟨(some 3), .box 32 (.tmp 1), none⟩,
   ⟨(some 4), .mv (.const (.slice none 0 0)), none⟩,
   ⟨(some 5), .mv (.const (.bool false)), none⟩])
 (.seq (.ops [⟨(some 6), .mv (.const (.slice none 0 0)), none⟩])
 (.seq (.ops [⟨(some 12), .mv (.tmp 0), none⟩,
   ⟨(some 7), .mv (.tmp 12), none⟩])
 (.seq (.block 0 (.loop (.seq (.seq (.ops [⟨(some 13), .mv (.tmp 7), none⟩,
     ⟨(some 14), .bin .neq (.tmp 13) (.const (.int .u32 0)), none⟩])
   (.cond (.tmp 14) .skip (.exit 0)))
   (.block 1 (.seq (.ops [⟨(some 8), .mv (.const (.int .i64 (-1))), none⟩])
    (.seq (.seq (.ops [⟨(some 9), .mv (.const (.int .i64 0)), none⟩])
    (.block 2 (.loop (.seq (.seq (.ops [⟨(some 15), .mv (.tmp 9), none⟩,
        ⟨(some 16), .bin .lss (.tmp 15) (.const (.int .i64 32)), none⟩,
        ⟨(some 17), .mv (.tmp 16), none⟩,
        ⟨(some 18), .mv (.tmp 8), (some (17, true))⟩,
        ⟨(some 19), .bin .lss (.tmp 18) (.const (.int .i64 0)), (some (17, true))⟩,
        ⟨(some 20), .pick (.tmp 17) (.tmp 19) (.const (.bool false)), none⟩])
      (.cond (.tmp 20) .skip (.exit 2)))
      (.seq (.block 3 (.seq (.seq (.ops [⟨(some 23), .mv (.tmp 7), none⟩,
         ⟨(some 24), .mv (.tmp 9), none⟩,
         ⟨(some 25), .call n_belatedref2_In [(.tmp 23), (.tmp 24)], none⟩,
         ⟨(some 26), .un .not (.tmp 25), none⟩])
       (.cond (.tmp 26) (.exit 3) .skip))
       (.seq (.ops [⟨(some 10), .mv (.const (.bool true)), none⟩])
       (.seq (.seq (.ops [⟨(some 11), .mv (.const (.int .i64 0)), none⟩])
       (.block 4 (.loop (.seq (.seq (.ops [⟨(some 27), .mv (.tmp 11), none⟩,
           ⟨(some 28), .bin .lss (.tmp 27) (.const (.int .i64 32)), none⟩])
         (.cond (.tmp 28) .skip (.exit 4)))
         (.seq (.block 5 (.ops [⟨(some 31), .mv (.tmp 10), none⟩,
            ⟨(some 32), .mv (.tmp 31), none⟩,
            ⟨(some 33), .mv (.tmp 7), (some (32, true))⟩,
            ⟨(some 34), .mv (.tmp 11), (some (32, true))⟩,
            ⟨(some 35), .call n_belatedref2_In [(.tmp 33), (.tmp 34)], (some (32, true))⟩,
            ⟨(some 36), .mv (.tmp 35), (some (32, true))⟩,
            ⟨(some 37), .mv (.tmp 11), (some (36, true))⟩,
            ⟨(some 38), .atArr 32 1 (.tmp 3) (.tmp 37), (some (36, true))⟩,
            ⟨(some 39), .load1 (.tmp 38), (some (36, true))⟩,
            ⟨(some 40), .mv (.tmp 9), (some (36, true))⟩,
            ⟨(some 41), .bin .shr (.tmp 39) (.tmp 40), (some (36, true))⟩,
            ⟨(some 42), .bin .and (.tmp 41) (.const (.int .u32 1)), (some (36, true))⟩,
            ⟨(some 43), .bin .eql (.tmp 42) (.const (.int .u32 1)), (some (36, true))⟩,
            ⟨(some 44), .pick (.tmp 36) (.tmp 43) (.const (.bool false)), (some (32, true))⟩,
            ⟨(some 45), .un .not (.tmp 44), (some (32, true))⟩,
            ⟨(some 46), .pick (.tmp 32) (.tmp 45) (.const (.bool false)), none⟩,
            ⟨(some 10), .mv (.tmp 46), none⟩]))
         (.ops [⟨(some 29), .mv (.tmp 11), none⟩,
           ⟨(some 30), .bin .add (.tmp 29) (.const (.int .i64 1)), none⟩,
           ⟨(some 11), .mv (.tmp 30), none⟩]))))))
       (.seq (.ops [⟨(some 47), .mv (.tmp 10), none⟩])
       (.cond (.tmp 47) (.ops [⟨(some 48), .mv (.tmp 9), none⟩,
         ⟨(some 8), .mv (.tmp 48), none⟩]) .skip))))))
      (.ops [⟨(some 21), .mv (.tmp 9), none⟩,
        ⟨(some 22), .bin .add (.tmp 21) (.const (.int .i64 1)), none⟩,
        ⟨(some 9), .mv (.tmp 22), none⟩]))))))
    (.seq (.seq (.ops [⟨(some 49), .mv (.tmp 8), none⟩,
      ⟨(some 50), .bin .lss (.tmp 49) (.const (.int .i64 0)), none⟩])
    (.cond (.tmp 50) (.seq (.ops [⟨(some 4), .mv (.const (.slice none 0 0)), none⟩,
      ⟨(some 5), .mv (.const (.bool false)), none⟩])
    .ret) .skip))
    (.seq (.ops [⟨(some 51), .mv (.tmp 6), none⟩,
      ⟨(some 52), .mv (.tmp 8), none⟩,
      ⟨(some 53), .mkRow [(.int .i64 0)] 1 [(0, 1, (.tmp 52))], none⟩,
      ⟨(some 54), .append 1 8 (.tmp 51) (.tmp 53), none⟩,
      ⟨(some 6), .mv (.tmp 54), none⟩])
    (.ops [⟨(some 55), .mv (.tmp 7), none⟩,
      ⟨(some 56), .mv (.tmp 8), none⟩,
      ⟨(some 57), .bin .shl (.const (.int .u32 1)) (.tmp 56), none⟩,
      ⟨(some 58), .bin .andNot (.tmp 55) (.tmp 57), none⟩,
      ⟨(some 7), .mv (.tmp 58), none⟩])))))))))
 (.seq (.ops [⟨(some 59), .mv (.tmp 6), none⟩,
   ⟨(some 4), .mv (.tmp 59), none⟩,
   ⟨(some 5), .mv (.const (.bool true)), none⟩])
 .ret)))))⟩
def c_belatedlaw2_ints : AFunc := ⟨26, [.tmp 4],
 (.seq (.ops [⟨(some 4), .mv (.const (.bool false)), none⟩])
 (.seq (.seq (.ops [⟨(some 6), .mv (.tmp 0), none⟩,
   ⟨(some 7), .len (.tmp 6), none⟩,
   ⟨(some 8), .mv (.tmp 1), none⟩,
   ⟨(some 9), .len (.tmp 8), none⟩,
   ⟨(some 10), .bin .neq (.tmp 7) (.tmp 9), none⟩])
 (.cond (.tmp 10) (.seq (.ops [⟨(some 4), .mv (.const (.bool false)), none⟩])
 .ret) .skip))
 (.seq (.seq (.ops [⟨(some 5), .mv (.const (.int .i64 0)), none⟩])
 (.block 0 (.loop (.seq (.seq (.ops [⟨(some 11), .mv (.tmp 5), none⟩,
     ⟨(some 12), .mv (.tmp 0), none⟩,
     ⟨(some 13), .len (.tmp 12), none⟩,
     ⟨(some 14), .bin .lss (.tmp 11) (.tmp 13), none⟩])
   (.cond (.tmp 14) .skip (.exit 0)))
   (.seq (.block 1 (.seq (.ops [⟨(some 17), .mv (.tmp 0), none⟩,
      ⟨(some 18), .mv (.tmp 5), none⟩,
      ⟨(some 19), .atRow 1 (.tmp 17) (.tmp 18), none⟩,
      ⟨(some 20), .load1 (.tmp 19), none⟩,
      ⟨(some 21), .mv (.tmp 1), none⟩,
      ⟨(some 22), .mv (.tmp 5), none⟩,
      ⟨(some 23), .atRow 1 (.tmp 21) (.tmp 22), none⟩,
      ⟨(some 24), .load1 (.tmp 23), none⟩,
      ⟨(some 25), .bin .neq (.tmp 20) (.tmp 24), none⟩])
    (.cond (.tmp 25) (.seq (.ops [⟨(some 4), .mv (.const (.bool false)), none⟩])
    .ret) .skip)))
   (.ops [⟨(some 15), .mv (.tmp 5), none⟩,
     ⟨(some 16), .bin .add (.tmp 15) (.const (.int .i64 1)), none⟩,
     ⟨(some 5), .mv (.tmp 16), none⟩]))))))
 (.seq (.ops [⟨(some 4), .mv (.const (.bool true)), none⟩])
 .ret))))⟩
def c_rel_Meet : AFunc := ⟨28, [.cells 2 32],
 (.seq (.ops [⟨(some 2), .alloc (List.replicate 32 (.int .u32 0)), none⟩])
 (.seq (.ops [⟨(some 7), .call n_rel_Cross [(.const (.int .u32 4294967295)), (.const (.int .u32 4294967295))], none⟩,
   ⟨(some 3), .alloc (List.replicate 32 (.int .u32 0)), none⟩,
   ⟨none, .store 32 (.tmp 3) (.tmp 7), none⟩])
 (.seq (.seq (.ops [⟨(some 8), .mv (.tmp 0), none⟩,
   ⟨(some 9), .len (.tmp 8), none⟩,
   ⟨(some 10), .mv (.const (.int .i64 0)), none⟩])
 (.block 0 (.loop (.seq (.ops [⟨(some 11), .bin .lss (.tmp 10) (.tmp 9), none⟩])
   (.seq (.cond (.tmp 11) .skip (.exit 0))
   (.seq (.block 1 (.seq (.ops [⟨(some 12), .atRow 32 (.tmp 8) (.tmp 10), none⟩,
      ⟨(some 13), .load 32 (.tmp 12), none⟩,
      ⟨(some 5), .alloc (List.replicate 32 (.int .u32 0)), none⟩,
      ⟨none, .store 32 (.tmp 5) (.tmp 13), none⟩])
    (.seq (.ops [⟨(some 14), .mv (.const (.int .i64 0)), none⟩])
    (.block 2 (.loop (.seq (.ops [⟨(some 15), .bin .lss (.tmp 14) (.const (.int .i64 32)), none⟩])
      (.seq (.cond (.tmp 15) .skip (.exit 2))
      (.seq (.block 3 (.seq (.ops [⟨(some 16), .mv (.tmp 14), none⟩,
         ⟨(some 6), .mv (.tmp 16), none⟩])
       (.ops [⟨(some 17), .mv (.tmp 6), none⟩,
         ⟨(some 18), .atArr 32 1 (.tmp 3) (.tmp 17), none⟩,
         ⟨(some 19), .load1 (.tmp 18), none⟩,
         ⟨(some 20), .mv (.tmp 6), none⟩,
         ⟨(some 21), .atArr 32 1 (.tmp 5) (.tmp 20), none⟩,
         ⟨(some 22), .load1 (.tmp 21), none⟩,
         ⟨(some 23), .bin .and (.tmp 19) (.tmp 22), none⟩,
         ⟨(some 24), .atArr 32 1 (.tmp 3) (.tmp 17), none⟩,
         ⟨none, .store1 (.tmp 24) (.tmp 23), none⟩])))
      (.ops [⟨(some 25), .bin .add (.tmp 14) (.const (.int .i64 1)), none⟩,
        ⟨(some 14), .mv (.tmp 25), none⟩])))))))))
   (.ops [⟨(some 26), .bin .add (.tmp 10) (.const (.int .i64 1)), none⟩,
     ⟨(some 10), .mv (.tmp 26), none⟩])))))))
 (.seq (.ops [⟨(some 27), .load 32 (.tmp 3), none⟩,
   ⟨none, .store 32 (.tmp 2) (.tmp 27), none⟩])
 .ret))))⟩
def c_rel_Cross : AFunc := ⟨18, [.cells 4 32],
 (.seq (.ops [⟨(some 4), .alloc (List.replicate 32 (.int .u32 0)), none⟩])
 (.seq (.ops [⟨(some 5), .alloc (List.replicate 32 (.int .u32 0)), none⟩])
 (.seq (.seq (.ops [⟨(some 7), .mv (.const (.int .i64 0)), none⟩])
 (.block 0 (.loop (.seq (.ops [⟨(some 8), .bin .lss (.tmp 7) (.const (.int .i64 32)), none⟩])
   (.seq (.cond (.tmp 8) .skip (.exit 0))
   (.seq (.block 1 (.seq (.ops [⟨(some 9), .mv (.tmp 7), none⟩,
      ⟨(some 6), .mv (.tmp 9), none⟩])
    (.seq (.ops [⟨(some 10), .mv (.tmp 0), none⟩,
      ⟨(some 11), .mv (.tmp 6), none⟩,
      ⟨(some 12), .call n_rel_has [(.tmp 10), (.tmp 11)], none⟩])
    (.cond (.tmp 12) (.ops [⟨(some 13), .mv (.tmp 6), none⟩,
      ⟨(some 14), .mv (.tmp 1), none⟩,
      ⟨(some 15), .atArr 32 1 (.tmp 5) (.tmp 13), none⟩,
      ⟨none, .store1 (.tmp 15) (.tmp 14), none⟩]) .skip))))
   (.ops [⟨(some 16), .bin .add (.tmp 7) (.const (.int .i64 1)), none⟩,
     ⟨(some 7), .mv (.tmp 16), none⟩])))))))
 (.seq (.ops [⟨(some 17), .load 32 (.tmp 5), none⟩,
   ⟨none, .store 32 (.tmp 4) (.tmp 17), none⟩])
 .ret))))⟩
def c_rel_Acyclic : AFunc := ⟨6, [.tmp 2],
 (.seq (.ops [⟨(some 1), .box 32 (.tmp 0), none⟩,
   ⟨(some 2), .mv (.const (.bool false)), none⟩])
 (.seq (.ops [⟨(some 3), .load 32 (.tmp 1), none⟩,
   ⟨(some 4), .call n_rel_Plus [(.tmp 3)], none⟩,
   ⟨(some 5), .call n_rel_Irreflexive [(.tmp 4)], none⟩,
   ⟨(some 2), .mv (.tmp 5), none⟩])
 .ret))⟩
def c_rel_Has : AFunc := ⟨20, [.tmp 6],
 (.seq (.ops [⟨(some 3), .box 32 (.tmp 0), none⟩,
   ⟨(some 6), .mv (.const (.bool false)), none⟩])
 (.seq (.ops [⟨(some 7), .mv (.tmp 1), none⟩,
   ⟨(some 8), .call n_rel_event [(.tmp 7)], none⟩,
   ⟨(some 9), .mv (.tmp 8), none⟩,
   ⟨(some 10), .mv (.tmp 2), (some (9, true))⟩,
   ⟨(some 11), .call n_rel_event [(.tmp 10)], (some (9, true))⟩,
   ⟨(some 12), .pick (.tmp 9) (.tmp 11) (.const (.bool false)), none⟩,
   ⟨(some 13), .mv (.tmp 12), none⟩,
   ⟨(some 14), .mv (.tmp 1), (some (13, true))⟩,
   ⟨(some 15), .atArr 32 1 (.tmp 3) (.tmp 14), (some (13, true))⟩,
   ⟨(some 16), .load1 (.tmp 15), (some (13, true))⟩,
   ⟨(some 17), .mv (.tmp 2), (some (13, true))⟩,
   ⟨(some 18), .call n_rel_has [(.tmp 16), (.tmp 17)], (some (13, true))⟩,
   ⟨(some 19), .pick (.tmp 13) (.tmp 18) (.const (.bool false)), none⟩,
   ⟨(some 6), .mv (.tmp 19), none⟩])
 .ret))⟩
def c_rel_Events : AFunc := ⟨20, [.tmp 2],
 (.seq (.ops [⟨(some 2), .mv (.const (.int .u32 0)), none⟩])
 (.seq (.ops [⟨(some 3), .mv (.const (.int .u32 0)), none⟩])
 (.seq (.seq (.ops [⟨(some 6), .mv (.tmp 0), none⟩,
   ⟨(some 7), .len (.tmp 6), none⟩,
   ⟨(some 8), .mv (.const (.int .i64 0)), none⟩])
 (.block 0 (.loop (.seq (.ops [⟨(some 9), .bin .lss (.tmp 8) (.tmp 7), none⟩])
   (.seq (.cond (.tmp 9) .skip (.exit 0))
   (.seq (.block 1 (.seq (.ops [⟨(some 10), .atRow 1 (.tmp 6) (.tmp 8), none⟩,
      ⟨(some 11), .load1 (.tmp 10), none⟩,
      ⟨(some 5), .mv (.tmp 11), none⟩])
    (.seq (.ops [⟨(some 12), .mv (.tmp 5), none⟩,
      ⟨(some 13), .call n_rel_event [(.tmp 12)], none⟩])
    (.cond (.tmp 13) (.ops [⟨(some 14), .mv (.tmp 3), none⟩,
      ⟨(some 15), .mv (.tmp 5), none⟩,
      ⟨(some 16), .bin .shl (.const (.int .u32 1)) (.tmp 15), none⟩,
      ⟨(some 17), .bin .or (.tmp 14) (.tmp 16), none⟩,
      ⟨(some 3), .mv (.tmp 17), none⟩]) .skip))))
   (.ops [⟨(some 18), .bin .add (.tmp 8) (.const (.int .i64 1)), none⟩,
     ⟨(some 8), .mv (.tmp 18), none⟩])))))))
 (.seq (.ops [⟨(some 19), .mv (.tmp 3), none⟩,
   ⟨(some 2), .mv (.tmp 19), none⟩])
 .ret))))⟩
def c_rel_List : AFunc := ⟨17, [.tmp 2],
 (.seq (.ops [⟨(some 2), .mv (.const (.slice none 0 0)), none⟩])
 (.seq (.ops [⟨(some 3), .mv (.const (.slice none 0 0)), none⟩])
 (.seq (.seq (.ops [⟨(some 5), .mv (.const (.int .i64 0)), none⟩])
 (.block 0 (.loop (.seq (.ops [⟨(some 6), .bin .lss (.tmp 5) (.const (.int .i64 32)), none⟩])
   (.seq (.cond (.tmp 6) .skip (.exit 0))
   (.seq (.block 1 (.seq (.ops [⟨(some 7), .mv (.tmp 5), none⟩,
      ⟨(some 4), .mv (.tmp 7), none⟩])
    (.seq (.ops [⟨(some 8), .mv (.tmp 0), none⟩,
      ⟨(some 9), .mv (.tmp 4), none⟩,
      ⟨(some 10), .call n_rel_has [(.tmp 8), (.tmp 9)], none⟩])
    (.cond (.tmp 10) (.ops [⟨(some 11), .mv (.tmp 3), none⟩,
      ⟨(some 12), .mv (.tmp 4), none⟩,
      ⟨(some 13), .mkRow [(.int .i64 0)] 1 [(0, 1, (.tmp 12))], none⟩,
      ⟨(some 14), .append 1 8 (.tmp 11) (.tmp 13), none⟩,
      ⟨(some 3), .mv (.tmp 14), none⟩]) .skip))))
   (.ops [⟨(some 15), .bin .add (.tmp 5) (.const (.int .i64 1)), none⟩,
     ⟨(some 5), .mv (.tmp 15), none⟩])))))))
 (.seq (.ops [⟨(some 16), .mv (.tmp 3), none⟩,
   ⟨(some 2), .mv (.tmp 16), none⟩])
 .ret))))⟩
def c_rel_Pair : AFunc := ⟨31, [.cells 2 32],
 (.seq (.ops [⟨(some 2), .alloc (List.replicate 32 (.int .u32 0)), none⟩])
 (.seq (.ops [⟨(some 3), .alloc (List.replicate 32 (.int .u32 0)), none⟩])
 (.seq (.seq (.ops [⟨(some 6), .mv (.tmp 0), none⟩,
   ⟨(some 7), .len (.tmp 6), none⟩,
   ⟨(some 8), .mv (.const (.int .i64 0)), none⟩])
 (.block 0 (.loop (.seq (.ops [⟨(some 9), .bin .lss (.tmp 8) (.tmp 7), none⟩])
   (.seq (.cond (.tmp 9) .skip (.exit 0))
   (.seq (.block 1 (.seq (.ops [⟨(some 10), .atRow 2 (.tmp 6) (.tmp 8), none⟩,
      ⟨(some 11), .load 2 (.tmp 10), none⟩,
      ⟨(some 5), .alloc [(.int .i64 0), (.int .i64 0)], none⟩,
      ⟨none, .store 2 (.tmp 5) (.tmp 11), none⟩])
    (.seq (.ops [⟨(some 12), .atArr 2 1 (.tmp 5) (.const (.int .i64 0)), none⟩,
      ⟨(some 13), .load1 (.tmp 12), none⟩,
      ⟨(some 14), .call n_rel_event [(.tmp 13)], none⟩,
      ⟨(some 15), .mv (.tmp 14), none⟩,
      ⟨(some 16), .atArr 2 1 (.tmp 5) (.const (.int .i64 1)), (some (15, true))⟩,
      ⟨(some 17), .load1 (.tmp 16), (some (15, true))⟩,
      ⟨(some 18), .call n_rel_event [(.tmp 17)], (some (15, true))⟩,
      ⟨(some 19), .pick (.tmp 15) (.tmp 18) (.const (.bool false)), none⟩])
    (.cond (.tmp 19) (.ops [⟨(some 20), .atArr 2 1 (.tmp 5) (.const (.int .i64 0)), none⟩,
      ⟨(some 21), .load1 (.tmp 20), none⟩,
      ⟨(some 22), .atArr 32 1 (.tmp 3) (.tmp 21), none⟩,
      ⟨(some 23), .load1 (.tmp 22), none⟩,
      ⟨(some 24), .atArr 2 1 (.tmp 5) (.const (.int .i64 1)), none⟩,
      ⟨(some 25), .load1 (.tmp 24), none⟩,
      ⟨(some 26), .bin .shl (.const (.int .u32 1)) (.tmp 25), none⟩,
      ⟨(some 27), .bin .or (.tmp 23) (.tmp 26), none⟩,
      ⟨(some 28), .atArr 32 1 (.tmp 3) (.tmp 21), none⟩,
      ⟨none, .store1 (.tmp 28) (.tmp 27), none⟩]) .skip))))
   (.ops [⟨(some 29), .bin .add (.tmp 8) (.const (.int .i64 1)), none⟩,
     ⟨(some 8), .mv (.tmp 29), none⟩])))))))
 (.seq (.ops [⟨(some 30), .load 32 (.tmp 3), none⟩,
   ⟨none, .store 32 (.tmp 2) (.tmp 30), none⟩])
 .ret))))⟩
def c_rel_Seq : AFunc := ⟨27, [.cells 2 32],
 (.seq (.ops [⟨(some 2), .alloc (List.replicate 32 (.int .u32 0)), none⟩])
 (.seq (.ops [⟨(some 7), .call n_rel_Id [(.const (.int .u32 4294967295))], none⟩,
   ⟨(some 3), .alloc (List.replicate 32 (.int .u32 0)), none⟩,
   ⟨none, .store 32 (.tmp 3) (.tmp 7), none⟩])
 (.seq (.seq (.ops [⟨(some 8), .mv (.tmp 0), none⟩,
   ⟨(some 9), .len (.tmp 8), none⟩,
   ⟨(some 10), .mv (.const (.int .i64 0)), none⟩])
 (.block 0 (.loop (.seq (.ops [⟨(some 11), .bin .lss (.tmp 10) (.tmp 9), none⟩])
   (.seq (.cond (.tmp 11) .skip (.exit 0))
   (.seq (.block 1 (.seq (.ops [⟨(some 12), .atRow 32 (.tmp 8) (.tmp 10), none⟩,
      ⟨(some 13), .load 32 (.tmp 12), none⟩,
      ⟨(some 5), .alloc (List.replicate 32 (.int .u32 0)), none⟩,
      ⟨none, .store 32 (.tmp 5) (.tmp 13), none⟩])
    (.seq (.ops [⟨(some 14), .mv (.const (.int .i64 0)), none⟩])
    (.block 2 (.loop (.seq (.ops [⟨(some 15), .bin .lss (.tmp 14) (.const (.int .i64 32)), none⟩])
      (.seq (.cond (.tmp 15) .skip (.exit 2))
      (.seq (.block 3 (.seq (.ops [⟨(some 16), .mv (.tmp 14), none⟩,
         ⟨(some 6), .mv (.tmp 16), none⟩])
       (.ops [⟨(some 17), .mv (.tmp 6), none⟩,
         ⟨(some 18), .mv (.tmp 6), none⟩,
         ⟨(some 19), .atArr 32 1 (.tmp 3) (.tmp 18), none⟩,
         ⟨(some 20), .load1 (.tmp 19), none⟩,
         ⟨(some 21), .load 32 (.tmp 5), none⟩,
         ⟨(some 22), .call n_rel_next [(.tmp 20), (.tmp 21)], none⟩,
         ⟨(some 23), .atArr 32 1 (.tmp 3) (.tmp 17), none⟩,
         ⟨none, .store1 (.tmp 23) (.tmp 22), none⟩])))
      (.ops [⟨(some 24), .bin .add (.tmp 14) (.const (.int .i64 1)), none⟩,
        ⟨(some 14), .mv (.tmp 24), none⟩])))))))))
   (.ops [⟨(some 25), .bin .add (.tmp 10) (.const (.int .i64 1)), none⟩,
     ⟨(some 10), .mv (.tmp 25), none⟩])))))))
 (.seq (.ops [⟨(some 26), .load 32 (.tmp 3), none⟩,
   ⟨none, .store 32 (.tmp 2) (.tmp 26), none⟩])
 .ret))))⟩
def c_rel_Count : AFunc := ⟨16, [.tmp 2],
 (.seq (.ops [⟨(some 1), .box 32 (.tmp 0), none⟩,
   ⟨(some 2), .mv (.const (.int .i64 0)), none⟩])
 (.seq (.ops [⟨(some 3), .mv (.const (.int .i64 0)), none⟩])
 (.seq (.seq (.ops [⟨(some 6), .load 32 (.tmp 1), none⟩,
   ⟨(some 7), .mv (.const (.int .i64 0)), none⟩])
 (.block 0 (.loop (.seq (.ops [⟨(some 8), .bin .lss (.tmp 7) (.const (.int .i64 32)), none⟩])
   (.seq (.cond (.tmp 8) .skip (.exit 0))
   (.seq (.block 1 (.seq (.ops [⟨(some 9), .idxArr 32 1 (.tmp 6) (.tmp 7), none⟩,
      ⟨(some 5), .mv (.tmp 9), none⟩])
    (.ops [⟨(some 10), .mv (.tmp 3), none⟩,
      ⟨(some 11), .mv (.tmp 5), none⟩,
      ⟨(some 12), .call n_math_bits_OnesCount32 [(.tmp 11)], none⟩,
      ⟨(some 13), .bin .add (.tmp 10) (.tmp 12), none⟩,
      ⟨(some 3), .mv (.tmp 13), none⟩])))
   (.ops [⟨(some 14), .bin .add (.tmp 7) (.const (.int .i64 1)), none⟩,
     ⟨(some 7), .mv (.tmp 14), none⟩])))))))
 (.seq (.ops [⟨(some 15), .mv (.tmp 3), none⟩,
   ⟨(some 2), .mv (.tmp 15), none⟩])
 .ret))))⟩
def c_rel_Plus : AFunc := ⟨27, [.cells 2 32],
 (.seq (.ops [⟨(some 1), .box 32 (.tmp 0), none⟩,
   ⟨(some 2), .alloc (List.replicate 32 (.int .u32 0)), none⟩])
 (.seq (.seq (.ops [⟨(some 5), .mv (.const (.int .i64 0)), none⟩])
 (.block 0 (.loop (.seq (.ops [⟨(some 6), .bin .lss (.tmp 5) (.const (.int .i64 32)), none⟩])
   (.seq (.cond (.tmp 6) .skip (.exit 0))
   (.seq (.block 1 (.seq (.ops [⟨(some 7), .mv (.tmp 5), none⟩,
      ⟨(some 3), .mv (.tmp 7), none⟩])
    (.seq (.ops [⟨(some 8), .mv (.const (.int .i64 0)), none⟩])
    (.block 2 (.loop (.seq (.ops [⟨(some 9), .bin .lss (.tmp 8) (.const (.int .i64 32)), none⟩])
      (.seq (.cond (.tmp 9) .skip (.exit 2))
      (.seq (.block 3 (.seq (.ops [⟨(some 10), .mv (.tmp 8), none⟩,
         ⟨(some 4), .mv (.tmp 10), none⟩])
       (.seq (.ops [⟨(some 11), .mv (.tmp 4), none⟩,
         ⟨(some 12), .atArr 32 1 (.tmp 1) (.tmp 11), none⟩,
         ⟨(some 13), .load1 (.tmp 12), none⟩,
         ⟨(some 14), .mv (.tmp 3), none⟩,
         ⟨(some 15), .call n_rel_has [(.tmp 13), (.tmp 14)], none⟩])
       (.cond (.tmp 15) (.ops [⟨(some 16), .mv (.tmp 4), none⟩,
         ⟨(some 17), .atArr 32 1 (.tmp 1) (.tmp 16), none⟩,
         ⟨(some 18), .load1 (.tmp 17), none⟩,
         ⟨(some 19), .mv (.tmp 3), none⟩,
         ⟨(some 20), .atArr 32 1 (.tmp 1) (.tmp 19), none⟩,
         ⟨(some 21), .load1 (.tmp 20), none⟩,
         ⟨(some 22), .bin .or (.tmp 18) (.tmp 21), none⟩,
         ⟨(some 23), .atArr 32 1 (.tmp 1) (.tmp 16), none⟩,
         ⟨none, .store1 (.tmp 23) (.tmp 22), none⟩]) .skip))))
      (.ops [⟨(some 24), .bin .add (.tmp 8) (.const (.int .i64 1)), none⟩,
        ⟨(some 8), .mv (.tmp 24), none⟩])))))))))
   (.ops [⟨(some 25), .bin .add (.tmp 5) (.const (.int .i64 1)), none⟩,
     ⟨(some 5), .mv (.tmp 25), none⟩])))))))
 (.seq (.ops [⟨(some 26), .load 32 (.tmp 1), none⟩,
   ⟨none, .store 32 (.tmp 2) (.tmp 26), none⟩])
 .ret)))⟩
def c_rel_Union : AFunc := ⟨27, [.cells 2 32],
 (.seq (.ops [⟨(some 2), .alloc (List.replicate 32 (.int .u32 0)), none⟩])
 (.seq (.ops [⟨(some 3), .alloc (List.replicate 32 (.int .u32 0)), none⟩])
 (.seq (.seq (.ops [⟨(some 7), .mv (.tmp 0), none⟩,
   ⟨(some 8), .len (.tmp 7), none⟩,
   ⟨(some 9), .mv (.const (.int .i64 0)), none⟩])
 (.block 0 (.loop (.seq (.ops [⟨(some 10), .bin .lss (.tmp 9) (.tmp 8), none⟩])
   (.seq (.cond (.tmp 10) .skip (.exit 0))
   (.seq (.block 1 (.seq (.ops [⟨(some 11), .atRow 32 (.tmp 7) (.tmp 9), none⟩,
      ⟨(some 12), .load 32 (.tmp 11), none⟩,
      ⟨(some 5), .alloc (List.replicate 32 (.int .u32 0)), none⟩,
      ⟨none, .store 32 (.tmp 5) (.tmp 12), none⟩])
    (.seq (.ops [⟨(some 13), .mv (.const (.int .i64 0)), none⟩])
    (.block 2 (.loop (.seq (.ops [⟨(some 14), .bin .lss (.tmp 13) (.const (.int .i64 32)), none⟩])
      (.seq (.cond (.tmp 14) .skip (.exit 2))
      (.seq (.block 3 (.seq (.ops [⟨(some 15), .mv (.tmp 13), none⟩,
         ⟨(some 6), .mv (.tmp 15), none⟩])
       (.ops [⟨(some 16), .mv (.tmp 6), none⟩,
         ⟨(some 17), .atArr 32 1 (.tmp 3) (.tmp 16), none⟩,
         ⟨(some 18), .load1 (.tmp 17), none⟩,
         ⟨(some 19), .mv (.tmp 6), none⟩,
         ⟨(some 20), .atArr 32 1 (.tmp 5) (.tmp 19), none⟩,
         ⟨(some 21), .load1 (.tmp 20), none⟩,
         ⟨(some 22), .bin .or (.tmp 18) (.tmp 21), none⟩,
         ⟨(some 23), .atArr 32 1 (.tmp 3) (.tmp 16), none⟩,
         ⟨none, .store1 (.tmp 23) (.tmp 22), none⟩])))
      (.ops [⟨(some 24), .bin .add (.tmp 13) (.const (.int .i64 1)), none⟩,
        ⟨(some 13), .mv (.tmp 24), none⟩])))))))))
   (.ops [⟨(some 25), .bin .add (.tmp 9) (.const (.int .i64 1)), none⟩,
     ⟨(some 9), .mv (.tmp 25), none⟩])))))))
 (.seq (.ops [⟨(some 26), .load 32 (.tmp 3), none⟩,
   ⟨none, .store 32 (.tmp 2) (.tmp 26), none⟩])
 .ret))))⟩
def c_rel_Inverse : AFunc := ⟨27, [.cells 2 32],
 (.seq (.ops [⟨(some 1), .box 32 (.tmp 0), none⟩,
   ⟨(some 2), .alloc (List.replicate 32 (.int .u32 0)), none⟩])
 (.seq (.ops [⟨(some 3), .alloc (List.replicate 32 (.int .u32 0)), none⟩])
 (.seq (.seq (.ops [⟨(some 6), .mv (.const (.int .i64 0)), none⟩])
 (.block 0 (.loop (.seq (.ops [⟨(some 7), .bin .lss (.tmp 6) (.const (.int .i64 32)), none⟩])
   (.seq (.cond (.tmp 7) .skip (.exit 0))
   (.seq (.block 1 (.seq (.ops [⟨(some 8), .mv (.tmp 6), none⟩,
      ⟨(some 4), .mv (.tmp 8), none⟩])
    (.seq (.ops [⟨(some 9), .mv (.const (.int .i64 0)), none⟩])
    (.block 2 (.loop (.seq (.ops [⟨(some 10), .bin .lss (.tmp 9) (.const (.int .i64 32)), none⟩])
      (.seq (.cond (.tmp 10) .skip (.exit 2))
      (.seq (.block 3 (.seq (.ops [⟨(some 11), .mv (.tmp 9), none⟩,
         ⟨(some 5), .mv (.tmp 11), none⟩])
       (.seq (.ops [⟨(some 12), .mv (.tmp 4), none⟩,
         ⟨(some 13), .atArr 32 1 (.tmp 1) (.tmp 12), none⟩,
         ⟨(some 14), .load1 (.tmp 13), none⟩,
         ⟨(some 15), .mv (.tmp 5), none⟩,
         ⟨(some 16), .call n_rel_has [(.tmp 14), (.tmp 15)], none⟩])
       (.cond (.tmp 16) (.ops [⟨(some 17), .mv (.tmp 5), none⟩,
         ⟨(some 18), .atArr 32 1 (.tmp 3) (.tmp 17), none⟩,
         ⟨(some 19), .load1 (.tmp 18), none⟩,
         ⟨(some 20), .mv (.tmp 4), none⟩,
         ⟨(some 21), .bin .shl (.const (.int .u32 1)) (.tmp 20), none⟩,
         ⟨(some 22), .bin .or (.tmp 19) (.tmp 21), none⟩,
         ⟨(some 23), .atArr 32 1 (.tmp 3) (.tmp 17), none⟩,
         ⟨none, .store1 (.tmp 23) (.tmp 22), none⟩]) .skip))))
      (.ops [⟨(some 24), .bin .add (.tmp 9) (.const (.int .i64 1)), none⟩,
        ⟨(some 9), .mv (.tmp 24), none⟩])))))))))
   (.ops [⟨(some 25), .bin .add (.tmp 6) (.const (.int .i64 1)), none⟩,
     ⟨(some 6), .mv (.tmp 25), none⟩])))))))
 (.seq (.ops [⟨(some 26), .load 32 (.tmp 3), none⟩,
   ⟨none, .store 32 (.tmp 2) (.tmp 26), none⟩])
 .ret))))⟩
def c_rel_First : AFunc := ⟨9, [.tmp 2],
 (.seq (.ops [⟨(some 2), .mv (.const (.int .u32 0)), none⟩])
 (.seq (.seq (.ops [⟨(some 3), .mv (.tmp 0), none⟩,
   ⟨(some 4), .bin .geq (.tmp 3) (.const (.int .i64 32)), none⟩])
 (.cond (.tmp 4) (.seq (.ops [⟨(some 2), .mv (.const (.int .u32 4294967295)), none⟩])
 .ret) .skip))
 (.seq (.ops [⟨(some 5), .mv (.tmp 0), none⟩,
   ⟨(some 6), .max2 (.tmp 5) (.const (.int .i64 0)), none⟩,
   ⟨(some 7), .bin .shl (.const (.int .u32 1)) (.tmp 6), none⟩,
   ⟨(some 8), .bin .sub (.tmp 7) (.const (.int .u32 1)), none⟩,
   ⟨(some 2), .mv (.tmp 8), none⟩])
 .ret)))⟩
def c_rel_next : AFunc := ⟨20, [.tmp 4],
 (.seq (.ops [⟨(some 3), .box 32 (.tmp 1), none⟩,
   ⟨(some 4), .mv (.const (.int .u32 0)), none⟩])
 (.seq (.ops [⟨(some 5), .mv (.const (.int .u32 0)), none⟩])
 (.seq (.seq (.ops [⟨(some 7), .mv (.const (.int .i64 0)), none⟩])
 (.block 0 (.loop (.seq (.ops [⟨(some 8), .bin .lss (.tmp 7) (.const (.int .i64 32)), none⟩])
   (.seq (.cond (.tmp 8) .skip (.exit 0))
   (.seq (.block 1 (.seq (.ops [⟨(some 9), .mv (.tmp 7), none⟩,
      ⟨(some 6), .mv (.tmp 9), none⟩])
    (.seq (.ops [⟨(some 10), .mv (.tmp 0), none⟩,
      ⟨(some 11), .mv (.tmp 6), none⟩,
      ⟨(some 12), .call n_rel_has [(.tmp 10), (.tmp 11)], none⟩])
    (.cond (.tmp 12) (.ops [⟨(some 13), .mv (.tmp 5), none⟩,
      ⟨(some 14), .mv (.tmp 6), none⟩,
      ⟨(some 15), .atArr 32 1 (.tmp 3) (.tmp 14), none⟩,
      ⟨(some 16), .load1 (.tmp 15), none⟩,
      ⟨(some 17), .bin .or (.tmp 13) (.tmp 16), none⟩,
      ⟨(some 5), .mv (.tmp 17), none⟩]) .skip))))
   (.ops [⟨(some 18), .bin .add (.tmp 7) (.const (.int .i64 1)), none⟩,
     ⟨(some 7), .mv (.tmp 18), none⟩])))))))
 (.seq (.ops [⟨(some 19), .mv (.tmp 5), none⟩,
   ⟨(some 4), .mv (.tmp 19), none⟩])
 .ret))))⟩
def c_math_bits_TrailingZeros32 : AFunc := ⟨14, [.tmp 2],
 (.seq (.ops [⟨(some 2), .mv (.const (.int .i64 0)), none⟩])
 (.seq (.seq (.ops [⟨(some 3), .mv (.tmp 0), none⟩,
   ⟨(some 4), .bin .eql (.tmp 3) (.const (.int .u32 0)), none⟩])
 (.cond (.tmp 4) (.seq (.ops [⟨(some 2), .mv (.const (.int .i64 32)), none⟩])
 .ret) .skip))
 (.seq (.ops [⟨(some 5), .mv (.tmp 0), none⟩,
   ⟨(some 6), .mv (.tmp 0), none⟩,
   ⟨(some 7), .un .neg (.tmp 6), none⟩,
   ⟨(some 8), .bin .and (.tmp 5) (.tmp 7), none⟩,
   ⟨(some 9), .bin .mul (.tmp 8) (.const (.int .u32 125613361)), none⟩,
   ⟨(some 10), .bin .shr (.tmp 9) (.const (.int .u64 27)), none⟩,
   ⟨(some 11), .atArr 32 1 (.global g_math_bits_deBruijn32tab) (.tmp 10), none⟩,
   ⟨(some 12), .load1 (.tmp 11), none⟩,
   ⟨(some 13), .conv .i64 (.tmp 12), none⟩,
   ⟨(some 2), .mv (.tmp 13), none⟩])
 .ret)))⟩
def c_belatedref2_In : AFunc := ⟨18, [.tmp 4],
 (.seq (.ops [⟨(some 4), .mv (.const (.bool false)), none⟩])
 (.seq (.ops [⟨(some 5), .mv (.tmp 1), none⟩,
   ⟨(some 6), .bin .geq (.tmp 5) (.const (.int .i64 0)), none⟩,
   ⟨(some 7), .mv (.tmp 6), none⟩,
   ⟨(some 8), .mv (.tmp 1), (some (7, true))⟩,
   ⟨(some 9), .bin .lss (.tmp 8) (.const (.int .i64 32)), (some (7, true))⟩,
   ⟨(some 10), .pick (.tmp 7) (.tmp 9) (.const (.bool false)), none⟩,
   ⟨(some 11), .mv (.tmp 10), none⟩,
   ⟨(some 12), .mv (.tmp 0), (some (11, true))⟩,
   ⟨(some 13), .mv (.tmp 1), (some (11, true))⟩,
   ⟨(some 14), .bin .shr (.tmp 12) (.tmp 13), (some (11, true))⟩,
   ⟨(some 15), .bin .and (.tmp 14) (.const (.int .u32 1)), (some (11, true))⟩,
   ⟨(some 16), .bin .eql (.tmp 15) (.const (.int .u32 1)), (some (11, true))⟩,
   ⟨(some 17), .pick (.tmp 11) (.tmp 16) (.const (.bool false)), none⟩,
   ⟨(some 4), .mv (.tmp 17), none⟩])
 .ret))⟩
def c_rel_has : AFunc := ⟨10, [.tmp 4],
 (.seq (.ops [⟨(some 4), .mv (.const (.bool false)), none⟩])
 (.seq (.ops [⟨(some 5), .mv (.tmp 0), none⟩,
   ⟨(some 6), .mv (.tmp 1), none⟩,
   ⟨(some 7), .bin .shr (.tmp 5) (.tmp 6), none⟩,
   ⟨(some 8), .bin .and (.tmp 7) (.const (.int .u32 1)), none⟩,
   ⟨(some 9), .bin .eql (.tmp 8) (.const (.int .u32 1)), none⟩,
   ⟨(some 4), .mv (.tmp 9), none⟩])
 .ret))⟩
def c_rel_Irreflexive : AFunc := ⟨8, [.tmp 2],
 (.seq (.ops [⟨(some 1), .box 32 (.tmp 0), none⟩,
   ⟨(some 2), .mv (.const (.bool false)), none⟩])
 (.seq (.ops [⟨(some 3), .load 32 (.tmp 1), none⟩,
   ⟨(some 4), .call n_rel_Id [(.const (.int .u32 4294967295))], none⟩,
   ⟨none, .again 32 (.tmp 1) 3, none⟩,
   ⟨(some 5), .mkRow (List.replicate 32 (.int .u32 0)) 2 [(0, 32, (.tmp 3)), (32, 32, (.tmp 4))], none⟩,
   ⟨(some 6), .call n_rel_Meet [(.tmp 5)], none⟩,
   ⟨(some 7), .call n_rel_Empty [(.tmp 6)], none⟩,
   ⟨(some 2), .mv (.tmp 7), none⟩])
 .ret))⟩
def c_rel_event : AFunc := ⟨9, [.tmp 2],
 (.seq (.ops [⟨(some 2), .mv (.const (.bool false)), none⟩])
 (.seq (.ops [⟨(some 3), .mv (.tmp 0), none⟩,
   ⟨(some 4), .bin .geq (.tmp 3) (.const (.int .i64 0)), none⟩,
   ⟨(some 5), .mv (.tmp 4), none⟩,
   ⟨(some 6), .mv (.tmp 0), (some (5, true))⟩,
   ⟨(some 7), .bin .lss (.tmp 6) (.const (.int .i64 32)), (some (5, true))⟩,
   ⟨(some 8), .pick (.tmp 5) (.tmp 7) (.const (.bool false)), none⟩,
   ⟨(some 2), .mv (.tmp 8), none⟩])
 .ret))⟩
def c_rel_Id : AFunc := ⟨16, [.cells 2 32],
 (.seq (.ops [⟨(some 2), .alloc (List.replicate 32 (.int .u32 0)), none⟩])
 (.seq (.ops [⟨(some 3), .alloc (List.replicate 32 (.int .u32 0)), none⟩])
 (.seq (.seq (.ops [⟨(some 5), .mv (.const (.int .i64 0)), none⟩])
 (.block 0 (.loop (.seq (.ops [⟨(some 6), .bin .lss (.tmp 5) (.const (.int .i64 32)), none⟩])
   (.seq (.cond (.tmp 6) .skip (.exit 0))
   (.seq (.block 1 (.seq (.ops [⟨(some 7), .mv (.tmp 5), none⟩,
      ⟨(some 4), .mv (.tmp 7), none⟩])
    (.ops [⟨(some 8), .mv (.tmp 4), none⟩,
      ⟨(some 9), .mv (.tmp 0), none⟩,
      ⟨(some 10), .mv (.tmp 4), none⟩,
      ⟨(some 11), .bin .shl (.const (.int .u32 1)) (.tmp 10), none⟩,
      ⟨(some 12), .bin .and (.tmp 9) (.tmp 11), none⟩,
      ⟨(some 13), .atArr 32 1 (.tmp 3) (.tmp 8), none⟩,
      ⟨none, .store1 (.tmp 13) (.tmp 12), none⟩])))
   (.ops [⟨(some 14), .bin .add (.tmp 5) (.const (.int .i64 1)), none⟩,
     ⟨(some 5), .mv (.tmp 14), none⟩])))))))
 (.seq (.ops [⟨(some 15), .load 32 (.tmp 3), none⟩,
   ⟨none, .store 32 (.tmp 2) (.tmp 15), none⟩])
 .ret))))⟩
def c_math_bits_OnesCount32 : AFunc := ⟨21, [.tmp 2],
 (.seq (.ops [⟨(some 2), .mv (.const (.int .i64 0)), none⟩])
 (.seq (.ops [⟨(some 3), .mv (.tmp 0), none⟩,
   ⟨(some 4), .bin .shr (.tmp 3) (.const (.int .u64 24)), none⟩,
   ⟨(some 5), .idxStr (.const (.string s_256_1024)) (.tmp 4), none⟩,
   ⟨(some 6), .mv (.tmp 0), none⟩,
   ⟨(some 7), .bin .shr (.tmp 6) (.const (.int .u64 16)), none⟩,
   ⟨(some 8), .bin .and (.tmp 7) (.const (.int .u32 255)), none⟩,
   ⟨(some 9), .idxStr (.const (.string s_256_1024)) (.tmp 8), none⟩,
   ⟨(some 10), .bin .add (.tmp 5) (.tmp 9), none⟩,
   ⟨(some 11), .mv (.tmp 0), none⟩,
   ⟨(some 12), .bin .shr (.tmp 11) (.const (.int .u64 8)), none⟩,
   ⟨(some 13), .bin .and (.tmp 12) (.const (.int .u32 255)), none⟩,
   ⟨(some 14), .idxStr (.const (.string s_256_1024)) (.tmp 13), none⟩,
   ⟨(some 15), .bin .add (.tmp 10) (.tmp 14), none⟩,
   ⟨(some 16), .mv (.tmp 0), none⟩,
   ⟨(some 17), .bin .and (.tmp 16) (.const (.int .u32 255)), none⟩,
   ⟨(some 18), .idxStr (.const (.string s_256_1024)) (.tmp 17), none⟩,
   ⟨(some 19), .bin .add (.tmp 15) (.tmp 18), none⟩,
   ⟨(some 20), .conv .i64 (.tmp 19), none⟩,
   ⟨(some 2), .mv (.tmp 20), none⟩])
 .ret))⟩
def c_rel_Empty : AFunc := ⟨6, [.tmp 2],
 (.seq (.ops [⟨(some 1), .box 32 (.tmp 0), none⟩,
   ⟨(some 2), .mv (.const (.bool false)), none⟩])
 (.seq (.ops [⟨(some 3), .load 32 (.tmp 1), none⟩,
   ⟨(some 4), .build (List.replicate 32 (.int .u32 0)) [], none⟩,
   ⟨(some 5), .eqAgg false (List.replicate 32 .int) (.tmp 3) (.tmp 4), none⟩,
   ⟨(some 2), .mv (.tmp 5), none⟩])
 .ret))⟩
/-- The orders laid down. -/
def ords : List (Nat × List (Nat × List Nat)) := [(4, [(3, [0, 1, 2, 6, 3, 4, 5, 7])])]
/-- How many of the package's variables may be looked at. -/
def GG : Nat := 1
/-- The program as the abstract machine reads it. -/
noncomputable def FF : Funcs := fun f => (Tryd.prog.funcs[f]?).bind (normFunc Tryd.prog GG ((ords.lookup f).getD []))
theorem F_belatedlaw2_RelOrders : FF n_belatedlaw2_RelOrders = some c_belatedlaw2_RelOrders := by kernel_rfl
theorem F_belatedlaw2_RelRows : FF n_belatedlaw2_RelRows = some c_belatedlaw2_RelRows := by kernel_rfl
theorem F_belatedlaw2_able : FF n_belatedlaw2_able = some c_belatedlaw2_able := by kernel_rfl
theorem F_rel_Order : FF n_rel_Order = some c_rel_Order := by kernel_rfl
theorem F_belatedref2_Order : FF n_belatedref2_Order = some c_belatedref2_Order := by kernel_rfl
theorem F_belatedlaw2_ints : FF n_belatedlaw2_ints = some c_belatedlaw2_ints := by kernel_rfl
theorem F_rel_Meet : FF n_rel_Meet = some c_rel_Meet := by kernel_rfl
theorem F_rel_Cross : FF n_rel_Cross = some c_rel_Cross := by kernel_rfl
theorem F_rel_Acyclic : FF n_rel_Acyclic = some c_rel_Acyclic := by kernel_rfl
theorem F_rel_Has : FF n_rel_Has = some c_rel_Has := by kernel_rfl
theorem F_rel_Events : FF n_rel_Events = some c_rel_Events := by kernel_rfl
theorem F_rel_List : FF n_rel_List = some c_rel_List := by kernel_rfl
theorem F_rel_Pair : FF n_rel_Pair = some c_rel_Pair := by kernel_rfl
theorem F_rel_Seq : FF n_rel_Seq = some c_rel_Seq := by kernel_rfl
theorem F_rel_Count : FF n_rel_Count = some c_rel_Count := by kernel_rfl
theorem F_rel_Plus : FF n_rel_Plus = some c_rel_Plus := by kernel_rfl
theorem F_rel_Union : FF n_rel_Union = some c_rel_Union := by kernel_rfl
theorem F_rel_Inverse : FF n_rel_Inverse = some c_rel_Inverse := by kernel_rfl
theorem F_rel_First : FF n_rel_First = some c_rel_First := by kernel_rfl
theorem F_rel_next : FF n_rel_next = some c_rel_next := by kernel_rfl
theorem F_math_bits_TrailingZeros32 : FF n_math_bits_TrailingZeros32 = some c_math_bits_TrailingZeros32 := by kernel_rfl
theorem F_belatedref2_In : FF n_belatedref2_In = some c_belatedref2_In := by kernel_rfl
theorem F_rel_has : FF n_rel_has = some c_rel_has := by kernel_rfl
theorem F_rel_Irreflexive : FF n_rel_Irreflexive = some c_rel_Irreflexive := by kernel_rfl
theorem F_rel_event : FF n_rel_event = some c_rel_event := by kernel_rfl
theorem F_rel_Id : FF n_rel_Id = some c_rel_Id := by kernel_rfl
theorem F_math_bits_OnesCount32 : FF n_math_bits_OnesCount32 = some c_math_bits_OnesCount32 := by kernel_rfl
theorem F_rel_Empty : FF n_rel_Empty = some c_rel_Empty := by kernel_rfl
end Go.Proofs.YtjjlbfamfioofaaDoor.AM
