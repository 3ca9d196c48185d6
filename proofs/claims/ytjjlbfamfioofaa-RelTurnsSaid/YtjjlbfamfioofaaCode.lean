/-
  The functions of the program as the abstract machine reads them, and that they are just that.
  Conditions: none.
-/
import Derived.Test.YtjjlbfamfioofaaAm3
import Derived.Test.YtjjlbfamfioofaaProg
import Derived.KernelRfl
namespace Go.Proofs.Ytjjlbfamfioofaa.AM
open Go.RowKit
def n_belatedlaw2_RelMakes : FuncId := 3
def n_belatedlaw2_RelAlgebra : FuncId := 4
def n_belatedlaw2_RelLeast : FuncId := 5
def n_belatedlaw2_RelTurns : FuncId := 6
def n_belatedlaw2_RelSides : FuncId := 7
def n_belatedlaw2_RelSets : FuncId := 8
def n_belatedlaw2_RelTells : FuncId := 9
def n_belatedlaw2_able : FuncId := 10
def n_rel_Union : FuncId := 11
def n_rel_Meet : FuncId := 12
def n_rel_Seq : FuncId := 13
def n_belatedref2_Union : FuncId := 14
def n_belatedref2_Meet : FuncId := 15
def n_belatedref2_Seq : FuncId := 16
def n_rel_Inverse : FuncId := 17
def n_rel_Minus : FuncId := 18
def n_rel_Empty : FuncId := 19
def n_rel_Id : FuncId := 20
def n_rel_First : FuncId := 21
def n_rel_Plus : FuncId := 22
def n_belatedref2_Plus : FuncId := 23
def n_belatedref2_Minus : FuncId := 24
def n_belatedref2_Inverse : FuncId := 25
def n_rel_Star : FuncId := 26
def n_belatedref2_Join : FuncId := 27
def n_belatedref2_Id : FuncId := 28
def n_rel_Maybe : FuncId := 29
def n_rel_Cross : FuncId := 30
def n_rel_Domain : FuncId := 31
def n_rel_Range : FuncId := 32
def n_rel_Count : FuncId := 33
def n_rel_List : FuncId := 34
def n_rel_Events : FuncId := 35
def n_belatedlaw2_ints : FuncId := 36
def n_rel_Pair : FuncId := 37
def n_belatedref2_Cross : FuncId := 38
def n_rel_Pairs : FuncId := 39
def n_belatedref2_Pairs : FuncId := 40
def n_rel_Has : FuncId := 41
def n_rel_Irreflexive : FuncId := 42
def n_belatedref2_Irreflexive : FuncId := 43
def n_rel_Acyclic : FuncId := 44
def n_belatedref2_Acyclic : FuncId := 45
def n_rel_next : FuncId := 46
def n_belatedref2_Of : FuncId := 47
def n_belatedref2_Rel : FuncId := 48
def n_belatedref2_Two : FuncId := 49
def n_rel_has : FuncId := 50
def n_math_bits_OnesCount32 : FuncId := 51
def n_rel_event : FuncId := 52
def n_belatedref2_In : FuncId := 53
def s_256_1024 : ByteArray := ⟨#[0, 1, 1, 2, 1, 2, 2, 3, 1, 2, 2, 3, 2, 3, 3, 4, 1, 2, 2, 3, 2, 3, 3, 4, 2, 3, 3, 4, 3, 4, 4, 5, 1, 2, 2, 3, 2, 3, 3, 4, 2, 3, 3, 4, 3, 4, 4, 5, 2, 3, 3, 4, 3, 4, 4, 5, 3, 4, 4, 5, 4, 5, 5, 6, 1, 2, 2, 3, 2, 3, 3, 4, 2, 3, 3, 4, 3, 4, 4, 5, 2, 3, 3, 4, 3, 4, 4, 5, 3, 4, 4, 5, 4, 5, 5, 6, 2, 3, 3, 4, 3, 4, 4, 5, 3, 4, 4, 5, 4, 5, 5, 6, 3, 4, 4, 5, 4, 5, 5, 6, 4, 5, 5, 6, 5, 6, 6, 7, 1, 2, 2, 3, 2, 3, 3, 4, 2, 3, 3, 4, 3, 4, 4, 5, 2, 3, 3, 4, 3, 4, 4, 5, 3, 4, 4, 5, 4, 5, 5, 6, 2, 3, 3, 4, 3, 4, 4, 5, 3, 4, 4, 5, 4, 5, 5, 6, 3, 4, 4, 5, 4, 5, 5, 6, 4, 5, 5, 6, 5, 6, 6, 7, 2, 3, 3, 4, 3, 4, 4, 5, 3, 4, 4, 5, 4, 5, 5, 6, 3, 4, 4, 5, 4, 5, 5, 6, 4, 5, 5, 6, 5, 6, 6, 7, 3, 4, 4, 5, 4, 5, 5, 6, 4, 5, 5, 6, 5, 6, 6, 7, 4, 5, 5, 6, 5, 6, 6, 7, 5, 6, 6, 7, 6, 7, 7, 8]⟩
def c_belatedlaw2_RelMakes : AFunc := ⟨74, [.tmp 2],
 (.seq (.ops [⟨(some 2), .mv (.const (.bool false)), none⟩])
 (.seq (.seq (.ops [⟨(some 8), .call n_belatedlaw2_able [], none⟩,
   ⟨(some 9), .un .not (.tmp 8), none⟩])
 (.cond (.tmp 9) (.seq (.ops [⟨(some 2), .mv (.const (.bool false)), none⟩])
 .ret) .skip))
 (.seq (.seq (.ops [⟨(some 10), .mv (.tmp 0), none⟩,
   ⟨(some 11), .len (.tmp 10), none⟩,
   ⟨(some 12), .bin .gtr (.tmp 11) (.const (.int .i64 300)), none⟩])
 (.cond (.tmp 12) (.seq (.ops [⟨(some 2), .mv (.const (.bool true)), none⟩])
 .ret) .skip))
 (.seq (.ops [⟨(some 13), .mkRow (List.replicate 32 (.int .u32 0)) 0 [], none⟩,
   ⟨(some 14), .mv (.tmp 0), none⟩,
   ⟨(some 15), .append 32 128 (.tmp 13) (.tmp 14), none⟩,
   ⟨(some 16), .build (List.replicate 32 (.int .u32 0)) [(0, 1, (.const (.int .u32 7)))], none⟩,
   ⟨(some 17), .mkRow (List.replicate 32 (.int .u32 0)) 1 [(0, 32, (.tmp 16))], none⟩,
   ⟨(some 18), .append 32 128 (.tmp 15) (.tmp 17), none⟩,
   ⟨(some 3), .mv (.tmp 18), none⟩])
 (.seq (.ops [⟨(some 19), .mv (.tmp 3), none⟩,
   ⟨(some 20), .mv (.tmp 0), none⟩,
   ⟨(some 21), .len (.tmp 20), none⟩,
   ⟨(some 22), .slice 32 (.tmp 19) none (some (.tmp 21)), none⟩,
   ⟨(some 24), .mv (.tmp 3), none⟩,
   ⟨(some 25), .mv (.tmp 0), none⟩,
   ⟨(some 26), .len (.tmp 25), none⟩,
   ⟨(some 27), .slice 32 (.tmp 24) none (some (.tmp 26)), none⟩,
   ⟨(some 29), .mv (.tmp 3), none⟩,
   ⟨(some 30), .mv (.tmp 0), none⟩,
   ⟨(some 31), .len (.tmp 30), none⟩,
   ⟨(some 32), .slice 32 (.tmp 29) none (some (.tmp 31)), none⟩,
   ⟨(some 4), .alloc (List.replicate 32 (.int .u32 0)), none⟩,
   ⟨(some 5), .alloc (List.replicate 32 (.int .u32 0)), none⟩,
   ⟨(some 6), .alloc (List.replicate 32 (.int .u32 0)), none⟩,
   ⟨(some 23), .call n_rel_Union [(.tmp 22)], none⟩,
   ⟨(some 28), .call n_rel_Meet [(.tmp 27)], none⟩,
   ⟨(some 33), .call n_rel_Seq [(.tmp 32)], none⟩,
   ⟨none, .store 32 (.tmp 4) (.tmp 23), none⟩,
   ⟨none, .store 32 (.tmp 5) (.tmp 28), none⟩,
   ⟨none, .store 32 (.tmp 6) (.tmp 33), none⟩])
 (.seq (.seq (.ops [⟨(some 7), .mv (.const (.int .i64 0)), none⟩])
 (.block 0 (.loop (.seq (.seq (.ops [⟨(some 34), .mv (.tmp 7), none⟩,
     ⟨(some 35), .mv (.tmp 0), none⟩,
     ⟨(some 36), .len (.tmp 35), none⟩,
     ⟨(some 37), .bin .lss (.tmp 34) (.tmp 36), none⟩])
   (.cond (.tmp 37) .skip (.exit 0)))
   (.seq (.block 1 (.seq (.ops [⟨(some 40), .mv (.tmp 3), none⟩,
      ⟨(some 41), .mv (.tmp 7), none⟩,
      ⟨(some 42), .atRow 32 (.tmp 40) (.tmp 41), none⟩,
      ⟨(some 43), .load 32 (.tmp 42), none⟩,
      ⟨(some 44), .mv (.tmp 0), none⟩,
      ⟨(some 45), .mv (.tmp 7), none⟩,
      ⟨(some 46), .atRow 32 (.tmp 44) (.tmp 45), none⟩,
      ⟨(some 47), .load 32 (.tmp 46), none⟩,
      ⟨(some 48), .eqAgg true (List.replicate 32 .int) (.tmp 43) (.tmp 47), none⟩])
    (.cond (.tmp 48) (.seq (.ops [⟨(some 2), .mv (.const (.bool false)), none⟩])
    .ret) .skip)))
   (.ops [⟨(some 38), .mv (.tmp 7), none⟩,
     ⟨(some 39), .bin .add (.tmp 38) (.const (.int .i64 1)), none⟩,
     ⟨(some 7), .mv (.tmp 39), none⟩]))))))
 (.seq (.ops [⟨(some 49), .load 32 (.tmp 4), none⟩,
   ⟨(some 50), .mv (.tmp 0), none⟩,
   ⟨(some 51), .call n_belatedref2_Union [(.tmp 50)], none⟩,
   ⟨none, .again 32 (.tmp 4) 49, none⟩,
   ⟨(some 52), .eqAgg false (List.replicate 32 .int) (.tmp 49) (.tmp 51), none⟩,
   ⟨(some 53), .mv (.tmp 52), none⟩,
   ⟨(some 54), .load 32 (.tmp 5), (some (53, true))⟩,
   ⟨(some 55), .mv (.tmp 0), (some (53, true))⟩,
   ⟨(some 56), .call n_belatedref2_Meet [(.tmp 55)], (some (53, true))⟩,
   ⟨none, .again 32 (.tmp 5) 54, (some (53, true))⟩,
   ⟨(some 57), .eqAgg false (List.replicate 32 .int) (.tmp 54) (.tmp 56), (some (53, true))⟩,
   ⟨(some 58), .pick (.tmp 53) (.tmp 57) (.const (.bool false)), none⟩,
   ⟨(some 59), .mv (.tmp 58), none⟩,
   ⟨(some 60), .load 32 (.tmp 6), (some (59, true))⟩,
   ⟨(some 61), .mv (.tmp 0), (some (59, true))⟩,
   ⟨(some 62), .call n_belatedref2_Seq [(.tmp 61)], (some (59, true))⟩,
   ⟨none, .again 32 (.tmp 6) 60, (some (59, true))⟩,
   ⟨(some 63), .eqAgg false (List.replicate 32 .int) (.tmp 60) (.tmp 62), (some (59, true))⟩,
   ⟨(some 64), .pick (.tmp 59) (.tmp 63) (.const (.bool false)), none⟩,
   ⟨(some 65), .mv (.tmp 64), none⟩,
   ⟨(some 66), .mv (.tmp 3), (some (65, true))⟩,
   ⟨(some 67), .mv (.tmp 0), (some (65, true))⟩,
   ⟨(some 68), .len (.tmp 67), (some (65, true))⟩,
   ⟨(some 69), .atRow 32 (.tmp 66) (.tmp 68), (some (65, true))⟩,
   ⟨(some 70), .load 32 (.tmp 69), (some (65, true))⟩,
   ⟨(some 71), .build (List.replicate 32 (.int .u32 0)) [(0, 1, (.const (.int .u32 7)))], (some (65, true))⟩,
   ⟨(some 72), .eqAgg false (List.replicate 32 .int) (.tmp 70) (.tmp 71), (some (65, true))⟩,
   ⟨(some 73), .pick (.tmp 65) (.tmp 72) (.const (.bool false)), none⟩,
   ⟨(some 2), .mv (.tmp 73), none⟩])
 .ret)))))))⟩
def c_belatedlaw2_RelAlgebra : AFunc := ⟨116, [.tmp 6],
 (.seq (.ops [⟨(some 3), .box 32 (.tmp 0), none⟩,
   ⟨(some 4), .box 32 (.tmp 1), none⟩,
   ⟨(some 5), .box 32 (.tmp 2), none⟩,
   ⟨(some 6), .mv (.const (.bool false)), none⟩])
 (.seq (.seq (.ops [⟨(some 7), .call n_belatedlaw2_able [], none⟩,
   ⟨(some 8), .un .not (.tmp 7), none⟩])
 (.cond (.tmp 8) (.seq (.ops [⟨(some 6), .mv (.const (.bool false)), none⟩])
 .ret) .skip))
 (.seq (.seq (.ops [⟨(some 9), .load 32 (.tmp 3), none⟩,
   ⟨(some 10), .load 32 (.tmp 4), none⟩,
   ⟨(some 11), .mkRow (List.replicate 32 (.int .u32 0)) 2 [(0, 32, (.tmp 9)), (32, 32, (.tmp 10))], none⟩,
   ⟨(some 13), .load 32 (.tmp 5), none⟩,
   ⟨(some 16), .load 32 (.tmp 3), none⟩,
   ⟨(some 17), .load 32 (.tmp 4), none⟩,
   ⟨(some 18), .load 32 (.tmp 5), none⟩,
   ⟨(some 19), .mkRow (List.replicate 32 (.int .u32 0)) 2 [(0, 32, (.tmp 17)), (32, 32, (.tmp 18))], none⟩,
   ⟨(some 12), .call n_rel_Seq [(.tmp 11)], none⟩,
   ⟨none, .again 32 (.tmp 5) 13, none⟩,
   ⟨none, .again 32 (.tmp 3) 16, none⟩,
   ⟨none, .again 32 (.tmp 4) 17, none⟩,
   ⟨none, .again 32 (.tmp 5) 18, none⟩,
   ⟨(some 14), .mkRow (List.replicate 32 (.int .u32 0)) 2 [(0, 32, (.tmp 12)), (32, 32, (.tmp 13))], none⟩,
   ⟨(some 15), .call n_rel_Seq [(.tmp 14)], none⟩,
   ⟨none, .again 32 (.tmp 3) 16, none⟩,
   ⟨none, .again 32 (.tmp 4) 17, none⟩,
   ⟨none, .again 32 (.tmp 5) 18, none⟩,
   ⟨(some 20), .call n_rel_Seq [(.tmp 19)], none⟩,
   ⟨none, .again 32 (.tmp 3) 16, none⟩,
   ⟨(some 21), .mkRow (List.replicate 32 (.int .u32 0)) 2 [(0, 32, (.tmp 16)), (32, 32, (.tmp 20))], none⟩,
   ⟨(some 22), .call n_rel_Seq [(.tmp 21)], none⟩,
   ⟨(some 23), .eqAgg true (List.replicate 32 .int) (.tmp 15) (.tmp 22), none⟩,
   ⟨(some 24), .mv (.tmp 23), none⟩,
   ⟨(some 25), .load 32 (.tmp 3), (some (24, false))⟩,
   ⟨(some 26), .load 32 (.tmp 4), (some (24, false))⟩,
   ⟨(some 27), .load 32 (.tmp 5), (some (24, false))⟩,
   ⟨(some 28), .mkRow (List.replicate 32 (.int .u32 0)) 3 [(0, 32, (.tmp 25)), (32, 32, (.tmp 26)), (64, 32, (.tmp 27))], (some (24, false))⟩,
   ⟨(some 30), .load 32 (.tmp 3), (some (24, false))⟩,
   ⟨(some 31), .load 32 (.tmp 4), (some (24, false))⟩,
   ⟨(some 32), .mkRow (List.replicate 32 (.int .u32 0)) 2 [(0, 32, (.tmp 30)), (32, 32, (.tmp 31))], (some (24, false))⟩,
   ⟨(some 34), .load 32 (.tmp 5), (some (24, false))⟩,
   ⟨(some 29), .call n_rel_Seq [(.tmp 28)], (some (24, false))⟩,
   ⟨none, .again 32 (.tmp 3) 30, (some (24, false))⟩,
   ⟨none, .again 32 (.tmp 4) 31, (some (24, false))⟩,
   ⟨none, .again 32 (.tmp 5) 34, (some (24, false))⟩,
   ⟨(some 33), .call n_rel_Seq [(.tmp 32)], (some (24, false))⟩,
   ⟨none, .again 32 (.tmp 5) 34, (some (24, false))⟩,
   ⟨(some 35), .mkRow (List.replicate 32 (.int .u32 0)) 2 [(0, 32, (.tmp 33)), (32, 32, (.tmp 34))], (some (24, false))⟩,
   ⟨(some 36), .call n_rel_Seq [(.tmp 35)], (some (24, false))⟩,
   ⟨(some 37), .eqAgg true (List.replicate 32 .int) (.tmp 29) (.tmp 36), (some (24, false))⟩,
   ⟨(some 38), .pick (.tmp 24) (.const (.bool true)) (.tmp 37), none⟩,
   ⟨(some 39), .mv (.tmp 38), none⟩,
   ⟨(some 40), .load 32 (.tmp 3), (some (39, false))⟩,
   ⟨(some 41), .load 32 (.tmp 4), (some (39, false))⟩,
   ⟨(some 42), .mkRow (List.replicate 32 (.int .u32 0)) 2 [(0, 32, (.tmp 40)), (32, 32, (.tmp 41))], (some (39, false))⟩,
   ⟨(some 45), .load 32 (.tmp 4), (some (39, false))⟩,
   ⟨(some 47), .load 32 (.tmp 3), (some (39, false))⟩,
   ⟨(some 43), .call n_rel_Seq [(.tmp 42)], (some (39, false))⟩,
   ⟨none, .again 32 (.tmp 4) 45, (some (39, false))⟩,
   ⟨none, .again 32 (.tmp 3) 47, (some (39, false))⟩,
   ⟨(some 44), .call n_rel_Inverse [(.tmp 43)], (some (39, false))⟩,
   ⟨none, .again 32 (.tmp 4) 45, (some (39, false))⟩,
   ⟨none, .again 32 (.tmp 3) 47, (some (39, false))⟩,
   ⟨(some 46), .call n_rel_Inverse [(.tmp 45)], (some (39, false))⟩,
   ⟨none, .again 32 (.tmp 3) 47, (some (39, false))⟩,
   ⟨(some 48), .call n_rel_Inverse [(.tmp 47)], (some (39, false))⟩,
   ⟨(some 49), .mkRow (List.replicate 32 (.int .u32 0)) 2 [(0, 32, (.tmp 46)), (32, 32, (.tmp 48))], (some (39, false))⟩,
   ⟨(some 50), .call n_rel_Seq [(.tmp 49)], (some (39, false))⟩,
   ⟨(some 51), .eqAgg true (List.replicate 32 .int) (.tmp 44) (.tmp 50), (some (39, false))⟩,
   ⟨(some 52), .pick (.tmp 39) (.const (.bool true)) (.tmp 51), none⟩])
 (.cond (.tmp 52) (.seq (.ops [⟨(some 6), .mv (.const (.bool false)), none⟩])
 .ret) .skip))
 (.seq (.seq (.ops [⟨(some 53), .load 32 (.tmp 3), none⟩,
   ⟨(some 54), .load 32 (.tmp 4), none⟩,
   ⟨(some 55), .load 32 (.tmp 5), none⟩,
   ⟨(some 56), .mkRow (List.replicate 32 (.int .u32 0)) 2 [(0, 32, (.tmp 54)), (32, 32, (.tmp 55))], none⟩,
   ⟨(some 60), .load 32 (.tmp 3), none⟩,
   ⟨(some 61), .load 32 (.tmp 4), none⟩,
   ⟨(some 62), .mkRow (List.replicate 32 (.int .u32 0)) 2 [(0, 32, (.tmp 60)), (32, 32, (.tmp 61))], none⟩,
   ⟨(some 64), .load 32 (.tmp 3), none⟩,
   ⟨(some 65), .load 32 (.tmp 5), none⟩,
   ⟨(some 66), .mkRow (List.replicate 32 (.int .u32 0)) 2 [(0, 32, (.tmp 64)), (32, 32, (.tmp 65))], none⟩,
   ⟨(some 57), .call n_rel_Union [(.tmp 56)], none⟩,
   ⟨none, .again 32 (.tmp 3) 53, none⟩,
   ⟨none, .again 32 (.tmp 3) 60, none⟩,
   ⟨none, .again 32 (.tmp 4) 61, none⟩,
   ⟨none, .again 32 (.tmp 3) 64, none⟩,
   ⟨none, .again 32 (.tmp 5) 65, none⟩,
   ⟨(some 58), .mkRow (List.replicate 32 (.int .u32 0)) 2 [(0, 32, (.tmp 53)), (32, 32, (.tmp 57))], none⟩,
   ⟨(some 59), .call n_rel_Seq [(.tmp 58)], none⟩,
   ⟨none, .again 32 (.tmp 3) 60, none⟩,
   ⟨none, .again 32 (.tmp 4) 61, none⟩,
   ⟨none, .again 32 (.tmp 3) 64, none⟩,
   ⟨none, .again 32 (.tmp 5) 65, none⟩,
   ⟨(some 63), .call n_rel_Seq [(.tmp 62)], none⟩,
   ⟨none, .again 32 (.tmp 3) 64, none⟩,
   ⟨none, .again 32 (.tmp 5) 65, none⟩,
   ⟨(some 67), .call n_rel_Seq [(.tmp 66)], none⟩,
   ⟨(some 68), .mkRow (List.replicate 32 (.int .u32 0)) 2 [(0, 32, (.tmp 63)), (32, 32, (.tmp 67))], none⟩,
   ⟨(some 69), .call n_rel_Union [(.tmp 68)], none⟩,
   ⟨(some 70), .eqAgg true (List.replicate 32 .int) (.tmp 59) (.tmp 69), none⟩,
   ⟨(some 71), .mv (.tmp 70), none⟩,
   ⟨(some 72), .load 32 (.tmp 3), (some (71, false))⟩,
   ⟨(some 75), .load 32 (.tmp 3), (some (71, false))⟩,
   ⟨(some 73), .call n_rel_Inverse [(.tmp 72)], (some (71, false))⟩,
   ⟨none, .again 32 (.tmp 3) 75, (some (71, false))⟩,
   ⟨(some 74), .call n_rel_Inverse [(.tmp 73)], (some (71, false))⟩,
   ⟨none, .again 32 (.tmp 3) 75, (some (71, false))⟩,
   ⟨(some 76), .eqAgg true (List.replicate 32 .int) (.tmp 74) (.tmp 75), (some (71, false))⟩,
   ⟨(some 77), .pick (.tmp 71) (.const (.bool true)) (.tmp 76), none⟩])
 (.cond (.tmp 77) (.seq (.ops [⟨(some 6), .mv (.const (.bool false)), none⟩])
 .ret) .skip))
 (.seq (.ops [⟨(some 78), .load 32 (.tmp 3), none⟩,
   ⟨(some 79), .load 32 (.tmp 4), none⟩,
   ⟨(some 81), .load 32 (.tmp 3), none⟩,
   ⟨(some 82), .load 32 (.tmp 4), none⟩,
   ⟨(some 83), .mkRow (List.replicate 32 (.int .u32 0)) 2 [(0, 32, (.tmp 81)), (32, 32, (.tmp 82))], none⟩,
   ⟨(some 87), .load 32 (.tmp 3), none⟩,
   ⟨(some 80), .call n_rel_Minus [(.tmp 78), (.tmp 79)], none⟩,
   ⟨none, .again 32 (.tmp 3) 81, none⟩,
   ⟨none, .again 32 (.tmp 4) 82, none⟩,
   ⟨none, .again 32 (.tmp 3) 87, none⟩,
   ⟨(some 84), .call n_rel_Meet [(.tmp 83)], none⟩,
   ⟨none, .again 32 (.tmp 3) 87, none⟩,
   ⟨(some 85), .mkRow (List.replicate 32 (.int .u32 0)) 2 [(0, 32, (.tmp 80)), (32, 32, (.tmp 84))], none⟩,
   ⟨(some 86), .call n_rel_Union [(.tmp 85)], none⟩,
   ⟨none, .again 32 (.tmp 3) 87, none⟩,
   ⟨(some 88), .eqAgg false (List.replicate 32 .int) (.tmp 86) (.tmp 87), none⟩,
   ⟨(some 89), .mv (.tmp 88), none⟩,
   ⟨(some 90), .load 32 (.tmp 3), (some (89, true))⟩,
   ⟨(some 91), .load 32 (.tmp 4), (some (89, true))⟩,
   ⟨(some 93), .load 32 (.tmp 4), (some (89, true))⟩,
   ⟨(some 92), .call n_rel_Minus [(.tmp 90), (.tmp 91)], (some (89, true))⟩,
   ⟨none, .again 32 (.tmp 4) 93, (some (89, true))⟩,
   ⟨(some 94), .mkRow (List.replicate 32 (.int .u32 0)) 2 [(0, 32, (.tmp 92)), (32, 32, (.tmp 93))], (some (89, true))⟩,
   ⟨(some 95), .call n_rel_Meet [(.tmp 94)], (some (89, true))⟩,
   ⟨(some 96), .call n_rel_Empty [(.tmp 95)], (some (89, true))⟩,
   ⟨(some 97), .pick (.tmp 89) (.tmp 96) (.const (.bool false)), none⟩,
   ⟨(some 98), .mv (.tmp 97), none⟩,
   ⟨(some 99), .load 32 (.tmp 3), (some (98, true))⟩,
   ⟨(some 100), .load 32 (.tmp 4), (some (98, true))⟩,
   ⟨(some 101), .mkRow (List.replicate 32 (.int .u32 0)) 2 [(0, 32, (.tmp 99)), (32, 32, (.tmp 100))], (some (98, true))⟩,
   ⟨(some 103), .load 32 (.tmp 4), (some (98, true))⟩,
   ⟨(some 104), .load 32 (.tmp 3), (some (98, true))⟩,
   ⟨(some 105), .load 32 (.tmp 3), (some (98, true))⟩,
   ⟨(some 106), .mkRow (List.replicate 32 (.int .u32 0)) 3 [(0, 32, (.tmp 103)), (32, 32, (.tmp 104)), (64, 32, (.tmp 105))], (some (98, true))⟩,
   ⟨(some 102), .call n_rel_Union [(.tmp 101)], (some (98, true))⟩,
   ⟨none, .again 32 (.tmp 4) 103, (some (98, true))⟩,
   ⟨none, .again 32 (.tmp 3) 104, (some (98, true))⟩,
   ⟨none, .again 32 (.tmp 3) 105, (some (98, true))⟩,
   ⟨(some 107), .call n_rel_Union [(.tmp 106)], (some (98, true))⟩,
   ⟨(some 108), .eqAgg false (List.replicate 32 .int) (.tmp 102) (.tmp 107), (some (98, true))⟩,
   ⟨(some 109), .pick (.tmp 98) (.tmp 108) (.const (.bool false)), none⟩,
   ⟨(some 110), .mv (.tmp 109), none⟩,
   ⟨(some 111), .call n_rel_Seq [(.const (.slice none 0 0))], (some (110, true))⟩,
   ⟨(some 112), .call n_rel_First [(.const (.int .i64 32))], (some (110, true))⟩,
   ⟨(some 113), .call n_rel_Id [(.tmp 112)], (some (110, true))⟩,
   ⟨(some 114), .eqAgg false (List.replicate 32 .int) (.tmp 111) (.tmp 113), (some (110, true))⟩,
   ⟨(some 115), .pick (.tmp 110) (.tmp 114) (.const (.bool false)), none⟩,
   ⟨(some 6), .mv (.tmp 115), none⟩])
 .ret)))))⟩
def c_belatedlaw2_RelLeast : AFunc := ⟨52, [.tmp 4],
 (.seq (.ops [⟨(some 2), .box 32 (.tmp 0), none⟩,
   ⟨(some 3), .box 32 (.tmp 1), none⟩,
   ⟨(some 4), .mv (.const (.bool false)), none⟩])
 (.seq (.seq (.ops [⟨(some 7), .call n_belatedlaw2_able [], none⟩,
   ⟨(some 8), .un .not (.tmp 7), none⟩])
 (.cond (.tmp 8) (.seq (.ops [⟨(some 4), .mv (.const (.bool false)), none⟩])
 .ret) .skip))
 (.seq (.ops [⟨(some 9), .load 32 (.tmp 2), none⟩,
   ⟨(some 10), .call n_rel_Plus [(.tmp 9)], none⟩,
   ⟨(some 5), .alloc (List.replicate 32 (.int .u32 0)), none⟩,
   ⟨none, .store 32 (.tmp 5) (.tmp 10), none⟩])
 (.seq (.ops [⟨(some 11), .load 32 (.tmp 2), none⟩,
   ⟨(some 12), .load 32 (.tmp 3), none⟩,
   ⟨(some 13), .mkRow (List.replicate 32 (.int .u32 0)) 2 [(0, 32, (.tmp 11)), (32, 32, (.tmp 12))], none⟩,
   ⟨(some 14), .call n_rel_Union [(.tmp 13)], none⟩,
   ⟨(some 15), .call n_rel_Plus [(.tmp 14)], none⟩,
   ⟨(some 6), .alloc (List.replicate 32 (.int .u32 0)), none⟩,
   ⟨none, .store 32 (.tmp 6) (.tmp 15), none⟩])
 (.seq (.ops [⟨(some 16), .load 32 (.tmp 2), none⟩,
   ⟨(some 17), .load 32 (.tmp 5), none⟩,
   ⟨(some 18), .call n_rel_Minus [(.tmp 16), (.tmp 17)], none⟩,
   ⟨(some 19), .call n_rel_Empty [(.tmp 18)], none⟩,
   ⟨(some 20), .mv (.tmp 19), none⟩,
   ⟨(some 21), .load 32 (.tmp 5), (some (20, true))⟩,
   ⟨(some 22), .load 32 (.tmp 5), (some (20, true))⟩,
   ⟨(some 23), .mkRow (List.replicate 32 (.int .u32 0)) 2 [(0, 32, (.tmp 21)), (32, 32, (.tmp 22))], (some (20, true))⟩,
   ⟨(some 25), .load 32 (.tmp 5), (some (20, true))⟩,
   ⟨(some 24), .call n_rel_Seq [(.tmp 23)], (some (20, true))⟩,
   ⟨none, .again 32 (.tmp 5) 25, (some (20, true))⟩,
   ⟨(some 26), .call n_rel_Minus [(.tmp 24), (.tmp 25)], (some (20, true))⟩,
   ⟨(some 27), .call n_rel_Empty [(.tmp 26)], (some (20, true))⟩,
   ⟨(some 28), .pick (.tmp 20) (.tmp 27) (.const (.bool false)), none⟩,
   ⟨(some 29), .mv (.tmp 28), none⟩,
   ⟨(some 30), .load 32 (.tmp 5), (some (29, true))⟩,
   ⟨(some 32), .load 32 (.tmp 5), (some (29, true))⟩,
   ⟨(some 31), .call n_rel_Plus [(.tmp 30)], (some (29, true))⟩,
   ⟨none, .again 32 (.tmp 5) 32, (some (29, true))⟩,
   ⟨(some 33), .eqAgg false (List.replicate 32 .int) (.tmp 31) (.tmp 32), (some (29, true))⟩,
   ⟨(some 34), .pick (.tmp 29) (.tmp 33) (.const (.bool false)), none⟩,
   ⟨(some 35), .mv (.tmp 34), none⟩,
   ⟨(some 36), .load 32 (.tmp 5), (some (35, true))⟩,
   ⟨(some 37), .load 32 (.tmp 6), (some (35, true))⟩,
   ⟨(some 38), .call n_rel_Minus [(.tmp 36), (.tmp 37)], (some (35, true))⟩,
   ⟨(some 39), .call n_rel_Empty [(.tmp 38)], (some (35, true))⟩,
   ⟨(some 40), .pick (.tmp 35) (.tmp 39) (.const (.bool false)), none⟩,
   ⟨(some 41), .mv (.tmp 40), none⟩,
   ⟨(some 42), .load 32 (.tmp 2), (some (41, true))⟩,
   ⟨(some 43), .load 32 (.tmp 2), (some (41, true))⟩,
   ⟨(some 44), .load 32 (.tmp 5), (some (41, true))⟩,
   ⟨(some 45), .mkRow (List.replicate 32 (.int .u32 0)) 2 [(0, 32, (.tmp 43)), (32, 32, (.tmp 44))], (some (41, true))⟩,
   ⟨(some 49), .load 32 (.tmp 5), (some (41, true))⟩,
   ⟨(some 46), .call n_rel_Seq [(.tmp 45)], (some (41, true))⟩,
   ⟨none, .again 32 (.tmp 2) 42, (some (41, true))⟩,
   ⟨none, .again 32 (.tmp 5) 49, (some (41, true))⟩,
   ⟨(some 47), .mkRow (List.replicate 32 (.int .u32 0)) 2 [(0, 32, (.tmp 42)), (32, 32, (.tmp 46))], (some (41, true))⟩,
   ⟨(some 48), .call n_rel_Union [(.tmp 47)], (some (41, true))⟩,
   ⟨none, .again 32 (.tmp 5) 49, (some (41, true))⟩,
   ⟨(some 50), .eqAgg false (List.replicate 32 .int) (.tmp 48) (.tmp 49), (some (41, true))⟩,
   ⟨(some 51), .pick (.tmp 41) (.tmp 50) (.const (.bool false)), none⟩,
   ⟨(some 4), .mv (.tmp 51), none⟩])
 .ret)))))⟩
def c_belatedlaw2_RelTurns : AFunc := ⟨53, [.tmp 6],
 (.seq (.ops [⟨(some 3), .box 32 (.tmp 0), none⟩,
   ⟨(some 4), .box 32 (.tmp 1), none⟩,
   ⟨(some 6), .mv (.const (.bool false)), none⟩])
 (.seq (.ops [⟨(some 8), .load 32 (.tmp 3), none⟩,
   ⟨(some 9), .call n_belatedref2_Plus [(.tmp 8)], none⟩,
   ⟨(some 7), .alloc (List.replicate 32 (.int .u32 0)), none⟩,
   ⟨none, .store 32 (.tmp 7) (.tmp 9), none⟩])
 (.seq (.ops [⟨(some 10), .call n_belatedlaw2_able [], none⟩,
   ⟨(some 11), .mv (.tmp 10), none⟩,
   ⟨(some 12), .load 32 (.tmp 3), (some (11, true))⟩,
   ⟨(some 13), .load 32 (.tmp 4), (some (11, true))⟩,
   ⟨(some 15), .load 32 (.tmp 3), (some (11, true))⟩,
   ⟨(some 16), .load 32 (.tmp 4), (some (11, true))⟩,
   ⟨(some 14), .call n_rel_Minus [(.tmp 12), (.tmp 13)], (some (11, true))⟩,
   ⟨none, .again 32 (.tmp 3) 15, (some (11, true))⟩,
   ⟨none, .again 32 (.tmp 4) 16, (some (11, true))⟩,
   ⟨(some 17), .call n_belatedref2_Minus [(.tmp 15), (.tmp 16)], (some (11, true))⟩,
   ⟨(some 18), .eqAgg false (List.replicate 32 .int) (.tmp 14) (.tmp 17), (some (11, true))⟩,
   ⟨(some 19), .pick (.tmp 11) (.tmp 18) (.const (.bool false)), none⟩,
   ⟨(some 20), .mv (.tmp 19), none⟩,
   ⟨(some 21), .load 32 (.tmp 3), (some (20, true))⟩,
   ⟨(some 23), .load 32 (.tmp 3), (some (20, true))⟩,
   ⟨(some 22), .call n_rel_Inverse [(.tmp 21)], (some (20, true))⟩,
   ⟨none, .again 32 (.tmp 3) 23, (some (20, true))⟩,
   ⟨(some 24), .call n_belatedref2_Inverse [(.tmp 23)], (some (20, true))⟩,
   ⟨(some 25), .eqAgg false (List.replicate 32 .int) (.tmp 22) (.tmp 24), (some (20, true))⟩,
   ⟨(some 26), .pick (.tmp 20) (.tmp 25) (.const (.bool false)), none⟩,
   ⟨(some 27), .mv (.tmp 26), none⟩,
   ⟨(some 28), .load 32 (.tmp 3), (some (27, true))⟩,
   ⟨(some 30), .load 32 (.tmp 7), (some (27, true))⟩,
   ⟨(some 29), .call n_rel_Plus [(.tmp 28)], (some (27, true))⟩,
   ⟨none, .again 32 (.tmp 7) 30, (some (27, true))⟩,
   ⟨(some 31), .eqAgg false (List.replicate 32 .int) (.tmp 29) (.tmp 30), (some (27, true))⟩,
   ⟨(some 32), .pick (.tmp 27) (.tmp 31) (.const (.bool false)), none⟩,
   ⟨(some 33), .mv (.tmp 32), none⟩,
   ⟨(some 34), .mv (.tmp 2), (some (33, true))⟩,
   ⟨(some 35), .load 32 (.tmp 3), (some (33, true))⟩,
   ⟨(some 37), .mv (.tmp 2), (some (33, true))⟩,
   ⟨(some 39), .load 32 (.tmp 7), (some (33, true))⟩,
   ⟨(some 36), .call n_rel_Star [(.tmp 34), (.tmp 35)], (some (33, true))⟩,
   ⟨none, .again 32 (.tmp 7) 39, (some (33, true))⟩,
   ⟨(some 38), .call n_belatedref2_Id [(.tmp 37)], (some (33, true))⟩,
   ⟨none, .again 32 (.tmp 7) 39, (some (33, true))⟩,
   ⟨(some 40), .call n_belatedref2_Join [(.tmp 38), (.tmp 39)], (some (33, true))⟩,
   ⟨(some 41), .eqAgg false (List.replicate 32 .int) (.tmp 36) (.tmp 40), (some (33, true))⟩,
   ⟨(some 42), .pick (.tmp 33) (.tmp 41) (.const (.bool false)), none⟩,
   ⟨(some 43), .mv (.tmp 42), none⟩,
   ⟨(some 44), .mv (.tmp 2), (some (43, true))⟩,
   ⟨(some 45), .load 32 (.tmp 3), (some (43, true))⟩,
   ⟨(some 47), .mv (.tmp 2), (some (43, true))⟩,
   ⟨(some 49), .load 32 (.tmp 3), (some (43, true))⟩,
   ⟨(some 46), .call n_rel_Maybe [(.tmp 44), (.tmp 45)], (some (43, true))⟩,
   ⟨none, .again 32 (.tmp 3) 49, (some (43, true))⟩,
   ⟨(some 48), .call n_belatedref2_Id [(.tmp 47)], (some (43, true))⟩,
   ⟨none, .again 32 (.tmp 3) 49, (some (43, true))⟩,
   ⟨(some 50), .call n_belatedref2_Join [(.tmp 48), (.tmp 49)], (some (43, true))⟩,
   ⟨(some 51), .eqAgg false (List.replicate 32 .int) (.tmp 46) (.tmp 50), (some (43, true))⟩,
   ⟨(some 52), .pick (.tmp 43) (.tmp 51) (.const (.bool false)), none⟩,
   ⟨(some 6), .mv (.tmp 52), none⟩])
 .ret)))⟩
def c_belatedlaw2_RelSides : AFunc := ⟨92, [.tmp 6],
 (.seq (.ops [⟨(some 5), .box 32 (.tmp 2), none⟩,
   ⟨(some 6), .mv (.const (.bool false)), none⟩])
 (.seq (.seq (.ops [⟨(some 8), .call n_belatedlaw2_able [], none⟩,
   ⟨(some 9), .un .not (.tmp 8), none⟩])
 (.cond (.tmp 9) (.seq (.ops [⟨(some 6), .mv (.const (.bool false)), none⟩])
 .ret) .skip))
 (.seq (.ops [⟨(some 10), .mv (.tmp 0), none⟩,
   ⟨(some 11), .mv (.tmp 1), none⟩,
   ⟨(some 12), .call n_rel_Cross [(.tmp 10), (.tmp 11)], none⟩,
   ⟨(some 7), .alloc (List.replicate 32 (.int .u32 0)), none⟩,
   ⟨none, .store 32 (.tmp 7) (.tmp 12), none⟩])
 (.seq (.seq (.ops [⟨(some 13), .mv (.tmp 0), none⟩,
   ⟨(some 14), .bin .neq (.tmp 13) (.const (.int .u32 0)), none⟩,
   ⟨(some 15), .mv (.tmp 14), none⟩,
   ⟨(some 16), .mv (.tmp 1), (some (15, true))⟩,
   ⟨(some 17), .bin .neq (.tmp 16) (.const (.int .u32 0)), (some (15, true))⟩,
   ⟨(some 18), .pick (.tmp 15) (.tmp 17) (.const (.bool false)), none⟩,
   ⟨(some 19), .mv (.tmp 18), none⟩,
   ⟨(some 20), .load 32 (.tmp 7), (some (19, true))⟩,
   ⟨(some 21), .call n_rel_Domain [(.tmp 20)], (some (19, true))⟩,
   ⟨(some 22), .mv (.tmp 0), (some (19, true))⟩,
   ⟨(some 23), .bin .neq (.tmp 21) (.tmp 22), (some (19, true))⟩,
   ⟨(some 24), .mv (.tmp 23), (some (19, true))⟩,
   ⟨(some 25), .load 32 (.tmp 7), (some (24, false))⟩,
   ⟨(some 26), .call n_rel_Range [(.tmp 25)], (some (24, false))⟩,
   ⟨(some 27), .mv (.tmp 1), (some (24, false))⟩,
   ⟨(some 28), .bin .neq (.tmp 26) (.tmp 27), (some (24, false))⟩,
   ⟨(some 29), .pick (.tmp 24) (.const (.bool true)) (.tmp 28), (some (19, true))⟩,
   ⟨(some 30), .pick (.tmp 19) (.tmp 29) (.const (.bool false)), none⟩,
   ⟨(some 31), .mv (.tmp 30), none⟩,
   ⟨(some 32), .mv (.tmp 0), (some (31, false))⟩,
   ⟨(some 33), .bin .eql (.tmp 32) (.const (.int .u32 0)), (some (31, false))⟩,
   ⟨(some 34), .mv (.tmp 33), (some (31, false))⟩,
   ⟨(some 35), .mv (.tmp 1), (some (34, false))⟩,
   ⟨(some 36), .bin .eql (.tmp 35) (.const (.int .u32 0)), (some (34, false))⟩,
   ⟨(some 37), .pick (.tmp 34) (.const (.bool true)) (.tmp 36), (some (31, false))⟩,
   ⟨(some 38), .load 32 (.tmp 7), (some (31, false))⟩,
   ⟨(some 39), .call n_rel_Empty [(.tmp 38)], (some (31, false))⟩,
   ⟨(some 40), .eqv true .bool (.tmp 37) (.tmp 39), (some (31, false))⟩,
   ⟨(some 41), .pick (.tmp 31) (.const (.bool true)) (.tmp 40), none⟩])
 (.cond (.tmp 41) (.seq (.ops [⟨(some 6), .mv (.const (.bool false)), none⟩])
 .ret) .skip))
 (.seq (.seq (.ops [⟨(some 42), .load 32 (.tmp 5), none⟩,
   ⟨(some 43), .load 32 (.tmp 5), none⟩,
   ⟨(some 45), .load 32 (.tmp 5), none⟩,
   ⟨(some 44), .call n_rel_Domain [(.tmp 43)], none⟩,
   ⟨none, .again 32 (.tmp 5) 42, none⟩,
   ⟨none, .again 32 (.tmp 5) 45, none⟩,
   ⟨(some 46), .call n_rel_Range [(.tmp 45)], none⟩,
   ⟨none, .again 32 (.tmp 5) 42, none⟩,
   ⟨(some 47), .call n_rel_Cross [(.tmp 44), (.tmp 46)], none⟩,
   ⟨none, .again 32 (.tmp 5) 42, none⟩,
   ⟨(some 48), .call n_rel_Minus [(.tmp 42), (.tmp 47)], none⟩,
   ⟨(some 49), .call n_rel_Empty [(.tmp 48)], none⟩,
   ⟨(some 50), .un .not (.tmp 49), none⟩,
   ⟨(some 51), .mv (.tmp 50), none⟩,
   ⟨(some 52), .load 32 (.tmp 7), (some (51, false))⟩,
   ⟨(some 54), .mv (.tmp 0), (some (51, false))⟩,
   ⟨(some 57), .mv (.tmp 1), (some (51, false))⟩,
   ⟨(some 53), .call n_rel_Count [(.tmp 52)], (some (51, false))⟩,
   ⟨(some 55), .call n_rel_List [(.tmp 54)], (some (51, false))⟩,
   ⟨(some 56), .len (.tmp 55), (some (51, false))⟩,
   ⟨(some 58), .call n_rel_List [(.tmp 57)], (some (51, false))⟩,
   ⟨(some 59), .len (.tmp 58), (some (51, false))⟩,
   ⟨(some 60), .bin .mul (.tmp 56) (.tmp 59), (some (51, false))⟩,
   ⟨(some 61), .bin .neq (.tmp 53) (.tmp 60), (some (51, false))⟩,
   ⟨(some 62), .pick (.tmp 51) (.const (.bool true)) (.tmp 61), none⟩])
 (.cond (.tmp 62) (.seq (.ops [⟨(some 6), .mv (.const (.bool false)), none⟩])
 .ret) .skip))
 (.seq (.ops [⟨(some 63), .mv (.tmp 0), none⟩,
   ⟨(some 65), .load 32 (.tmp 5), none⟩,
   ⟨(some 66), .mv (.tmp 1), none⟩,
   ⟨(some 70), .load 32 (.tmp 5), none⟩,
   ⟨(some 71), .load 32 (.tmp 7), none⟩,
   ⟨(some 72), .mkRow (List.replicate 32 (.int .u32 0)) 2 [(0, 32, (.tmp 70)), (32, 32, (.tmp 71))], none⟩,
   ⟨(some 64), .call n_rel_Id [(.tmp 63)], none⟩,
   ⟨none, .again 32 (.tmp 5) 65, none⟩,
   ⟨none, .again 32 (.tmp 5) 70, none⟩,
   ⟨none, .again 32 (.tmp 7) 71, none⟩,
   ⟨(some 67), .call n_rel_Id [(.tmp 66)], none⟩,
   ⟨none, .again 32 (.tmp 5) 65, none⟩,
   ⟨none, .again 32 (.tmp 5) 70, none⟩,
   ⟨none, .again 32 (.tmp 7) 71, none⟩,
   ⟨(some 68), .mkRow (List.replicate 32 (.int .u32 0)) 3 [(0, 32, (.tmp 64)), (32, 32, (.tmp 65)), (64, 32, (.tmp 67))], none⟩,
   ⟨(some 69), .call n_rel_Seq [(.tmp 68)], none⟩,
   ⟨none, .again 32 (.tmp 5) 70, none⟩,
   ⟨none, .again 32 (.tmp 7) 71, none⟩,
   ⟨(some 73), .call n_rel_Meet [(.tmp 72)], none⟩,
   ⟨(some 74), .eqAgg false (List.replicate 32 .int) (.tmp 69) (.tmp 73), none⟩,
   ⟨(some 75), .mv (.tmp 74), none⟩,
   ⟨(some 76), .load 32 (.tmp 5), (some (75, true))⟩,
   ⟨(some 79), .load 32 (.tmp 5), (some (75, true))⟩,
   ⟨(some 77), .call n_rel_Inverse [(.tmp 76)], (some (75, true))⟩,
   ⟨none, .again 32 (.tmp 5) 79, (some (75, true))⟩,
   ⟨(some 78), .call n_rel_Domain [(.tmp 77)], (some (75, true))⟩,
   ⟨none, .again 32 (.tmp 5) 79, (some (75, true))⟩,
   ⟨(some 80), .call n_rel_Range [(.tmp 79)], (some (75, true))⟩,
   ⟨(some 81), .bin .eql (.tmp 78) (.tmp 80), (some (75, true))⟩,
   ⟨(some 82), .pick (.tmp 75) (.tmp 81) (.const (.bool false)), none⟩,
   ⟨(some 83), .mv (.tmp 82), none⟩,
   ⟨(some 84), .mv (.tmp 0), (some (83, true))⟩,
   ⟨(some 87), .mv (.tmp 0), (some (83, true))⟩,
   ⟨(some 85), .call n_rel_Id [(.tmp 84)], (some (83, true))⟩,
   ⟨(some 86), .call n_rel_Count [(.tmp 85)], (some (83, true))⟩,
   ⟨(some 88), .call n_rel_List [(.tmp 87)], (some (83, true))⟩,
   ⟨(some 89), .len (.tmp 88), (some (83, true))⟩,
   ⟨(some 90), .bin .eql (.tmp 86) (.tmp 89), (some (83, true))⟩,
   ⟨(some 91), .pick (.tmp 83) (.tmp 90) (.const (.bool false)), none⟩,
   ⟨(some 6), .mv (.tmp 91), none⟩])
 .ret))))))⟩
def c_belatedlaw2_RelSets : AFunc := ⟨161, [.tmp 10],
 (.seq (.ops [⟨(some 10), .mv (.const (.bool false)), none⟩])
 (.seq (.seq (.ops [⟨(some 21), .call n_belatedlaw2_able [], none⟩,
   ⟨(some 22), .un .not (.tmp 21), none⟩])
 (.cond (.tmp 22) (.seq (.ops [⟨(some 10), .mv (.const (.bool false)), none⟩])
 .ret) .skip))
 (.seq (.seq (.ops [⟨(some 23), .mv (.tmp 0), none⟩,
   ⟨(some 24), .len (.tmp 23), none⟩,
   ⟨(some 25), .bin .gtr (.tmp 24) (.const (.int .i64 300)), none⟩,
   ⟨(some 26), .mv (.tmp 25), none⟩,
   ⟨(some 27), .mv (.tmp 2), (some (26, false))⟩,
   ⟨(some 28), .len (.tmp 27), (some (26, false))⟩,
   ⟨(some 29), .bin .gtr (.tmp 28) (.const (.int .i64 300)), (some (26, false))⟩,
   ⟨(some 30), .pick (.tmp 26) (.const (.bool true)) (.tmp 29), none⟩])
 (.cond (.tmp 30) (.seq (.ops [⟨(some 10), .mv (.const (.bool true)), none⟩])
 .ret) .skip))
 (.seq (.ops [⟨(some 11), .mv (.const (.int .u32 0)), none⟩])
 (.seq (.seq (.ops [⟨(some 12), .mv (.const (.int .i64 0)), none⟩])
 (.block 0 (.loop (.seq (.seq (.ops [⟨(some 31), .mv (.tmp 12), none⟩,
     ⟨(some 32), .mv (.tmp 0), none⟩,
     ⟨(some 33), .len (.tmp 32), none⟩,
     ⟨(some 34), .bin .lss (.tmp 31) (.tmp 33), none⟩])
   (.cond (.tmp 34) .skip (.exit 0)))
   (.seq (.block 1 (.seq (.ops [⟨(some 37), .mv (.tmp 0), none⟩,
      ⟨(some 38), .mv (.tmp 12), none⟩,
      ⟨(some 39), .atRow 1 (.tmp 37) (.tmp 38), none⟩,
      ⟨(some 40), .load1 (.tmp 39), none⟩,
      ⟨(some 41), .bin .geq (.tmp 40) (.const (.int .i64 0)), none⟩,
      ⟨(some 42), .mv (.tmp 41), none⟩,
      ⟨(some 43), .mv (.tmp 0), (some (42, true))⟩,
      ⟨(some 44), .mv (.tmp 12), (some (42, true))⟩,
      ⟨(some 45), .atRow 1 (.tmp 43) (.tmp 44), (some (42, true))⟩,
      ⟨(some 46), .load1 (.tmp 45), (some (42, true))⟩,
      ⟨(some 47), .bin .lss (.tmp 46) (.const (.int .i64 32)), (some (42, true))⟩,
      ⟨(some 48), .pick (.tmp 42) (.tmp 47) (.const (.bool false)), none⟩])
    (.cond (.tmp 48) (.ops [⟨(some 49), .mv (.tmp 11), none⟩,
      ⟨(some 50), .mv (.tmp 0), none⟩,
      ⟨(some 51), .mv (.tmp 12), none⟩,
      ⟨(some 52), .atRow 1 (.tmp 50) (.tmp 51), none⟩,
      ⟨(some 53), .load1 (.tmp 52), none⟩,
      ⟨(some 54), .bin .shl (.const (.int .u32 1)) (.tmp 53), none⟩,
      ⟨(some 55), .bin .or (.tmp 49) (.tmp 54), none⟩,
      ⟨(some 11), .mv (.tmp 55), none⟩]) .skip)))
   (.ops [⟨(some 35), .mv (.tmp 12), none⟩,
     ⟨(some 36), .bin .add (.tmp 35) (.const (.int .i64 1)), none⟩,
     ⟨(some 12), .mv (.tmp 36), none⟩]))))))
 (.seq (.ops [⟨(some 13), .alloc (List.replicate 32 (.int .u32 0)), none⟩])
 (.seq (.seq (.ops [⟨(some 14), .mv (.const (.int .i64 0)), none⟩])
 (.block 2 (.loop (.seq (.seq (.ops [⟨(some 56), .mv (.tmp 14), none⟩,
     ⟨(some 57), .mv (.tmp 2), none⟩,
     ⟨(some 58), .len (.tmp 57), none⟩,
     ⟨(some 59), .bin .lss (.tmp 56) (.tmp 58), none⟩])
   (.cond (.tmp 59) .skip (.exit 2)))
   (.seq (.block 3 (.seq (.ops [⟨(some 62), .mv (.tmp 2), none⟩,
      ⟨(some 63), .mv (.tmp 14), none⟩,
      ⟨(some 64), .atRow 2 (.tmp 62) (.tmp 63), none⟩,
      ⟨(some 65), .atArr 2 1 (.tmp 64) (.const (.int .i64 0)), none⟩,
      ⟨(some 66), .load1 (.tmp 65), none⟩,
      ⟨(some 67), .mv (.tmp 2), none⟩,
      ⟨(some 68), .mv (.tmp 14), none⟩,
      ⟨(some 69), .atRow 2 (.tmp 67) (.tmp 68), none⟩,
      ⟨(some 70), .atArr 2 1 (.tmp 69) (.const (.int .i64 1)), none⟩,
      ⟨(some 71), .load1 (.tmp 70), none⟩,
      ⟨(some 15), .mv (.tmp 66), none⟩,
      ⟨(some 16), .mv (.tmp 71), none⟩])
    (.seq (.ops [⟨(some 72), .mv (.tmp 15), none⟩,
      ⟨(some 73), .bin .geq (.tmp 72) (.const (.int .i64 0)), none⟩,
      ⟨(some 74), .mv (.tmp 73), none⟩,
      ⟨(some 75), .mv (.tmp 15), (some (74, true))⟩,
      ⟨(some 76), .bin .lss (.tmp 75) (.const (.int .i64 32)), (some (74, true))⟩,
      ⟨(some 77), .pick (.tmp 74) (.tmp 76) (.const (.bool false)), none⟩,
      ⟨(some 78), .mv (.tmp 77), none⟩,
      ⟨(some 79), .mv (.tmp 16), (some (78, true))⟩,
      ⟨(some 80), .bin .geq (.tmp 79) (.const (.int .i64 0)), (some (78, true))⟩,
      ⟨(some 81), .pick (.tmp 78) (.tmp 80) (.const (.bool false)), none⟩,
      ⟨(some 82), .mv (.tmp 81), none⟩,
      ⟨(some 83), .mv (.tmp 16), (some (82, true))⟩,
      ⟨(some 84), .bin .lss (.tmp 83) (.const (.int .i64 32)), (some (82, true))⟩,
      ⟨(some 85), .pick (.tmp 82) (.tmp 84) (.const (.bool false)), none⟩])
    (.cond (.tmp 85) (.ops [⟨(some 86), .mv (.tmp 15), none⟩,
      ⟨(some 87), .atArr 32 1 (.tmp 13) (.tmp 86), none⟩,
      ⟨(some 88), .load1 (.tmp 87), none⟩,
      ⟨(some 89), .mv (.tmp 16), none⟩,
      ⟨(some 90), .bin .shl (.const (.int .u32 1)) (.tmp 89), none⟩,
      ⟨(some 91), .bin .or (.tmp 88) (.tmp 90), none⟩,
      ⟨(some 92), .atArr 32 1 (.tmp 13) (.tmp 86), none⟩,
      ⟨none, .store1 (.tmp 92) (.tmp 91), none⟩]) .skip))))
   (.ops [⟨(some 60), .mv (.tmp 14), none⟩,
     ⟨(some 61), .bin .add (.tmp 60) (.const (.int .i64 1)), none⟩,
     ⟨(some 14), .mv (.tmp 61), none⟩]))))))
 (.seq (.ops [⟨(some 17), .mv (.const (.int .u32 0)), none⟩])
 (.seq (.seq (.ops [⟨(some 18), .mv (.const (.int .i64 0)), none⟩])
 (.block 4 (.loop (.seq (.seq (.ops [⟨(some 93), .mv (.tmp 18), none⟩,
     ⟨(some 94), .bin .lss (.tmp 93) (.const (.int .i64 32)), none⟩,
     ⟨(some 95), .mv (.tmp 94), none⟩,
     ⟨(some 96), .mv (.tmp 18), (some (95, true))⟩,
     ⟨(some 97), .mv (.tmp 1), (some (95, true))⟩,
     ⟨(some 98), .bin .lss (.tmp 96) (.tmp 97), (some (95, true))⟩,
     ⟨(some 99), .pick (.tmp 95) (.tmp 98) (.const (.bool false)), none⟩])
   (.cond (.tmp 99) .skip (.exit 4)))
   (.seq (.block 5 (.ops [⟨(some 102), .mv (.tmp 17), none⟩,
      ⟨(some 103), .mv (.tmp 18), none⟩,
      ⟨(some 104), .bin .shl (.const (.int .u32 1)) (.tmp 103), none⟩,
      ⟨(some 105), .bin .or (.tmp 102) (.tmp 104), none⟩,
      ⟨(some 17), .mv (.tmp 105), none⟩]))
   (.ops [⟨(some 100), .mv (.tmp 18), none⟩,
     ⟨(some 101), .bin .add (.tmp 100) (.const (.int .i64 1)), none⟩,
     ⟨(some 18), .mv (.tmp 101), none⟩]))))))
 (.seq (.ops [⟨(some 19), .mv (.const (.slice none 0 0)), none⟩])
 (.seq (.seq (.ops [⟨(some 20), .mv (.const (.int .i64 0)), none⟩])
 (.block 6 (.loop (.seq (.seq (.ops [⟨(some 106), .mv (.tmp 20), none⟩,
     ⟨(some 107), .bin .lss (.tmp 106) (.const (.int .i64 32)), none⟩])
   (.cond (.tmp 107) .skip (.exit 6)))
   (.seq (.block 7 (.seq (.ops [⟨(some 110), .mv (.tmp 3), none⟩,
      ⟨(some 111), .mv (.tmp 20), none⟩,
      ⟨(some 112), .bin .shr (.tmp 110) (.tmp 111), none⟩,
      ⟨(some 113), .bin .and (.tmp 112) (.const (.int .u32 1)), none⟩,
      ⟨(some 114), .bin .eql (.tmp 113) (.const (.int .u32 1)), none⟩])
    (.cond (.tmp 114) (.ops [⟨(some 115), .mv (.tmp 19), none⟩,
      ⟨(some 116), .mv (.tmp 20), none⟩,
      ⟨(some 117), .mkRow [(.int .i64 0)] 1 [(0, 1, (.tmp 116))], none⟩,
      ⟨(some 118), .append 1 8 (.tmp 115) (.tmp 117), none⟩,
      ⟨(some 19), .mv (.tmp 118), none⟩]) .skip)))
   (.ops [⟨(some 108), .mv (.tmp 20), none⟩,
     ⟨(some 109), .bin .add (.tmp 108) (.const (.int .i64 1)), none⟩,
     ⟨(some 20), .mv (.tmp 109), none⟩]))))))
 (.seq (.ops [⟨(some 119), .mkRow [(.int .i64 0)] 0 [], none⟩,
   ⟨(some 120), .mv (.tmp 0), none⟩,
   ⟨(some 123), .mv (.tmp 11), none⟩,
   ⟨(some 121), .append 1 8 (.tmp 119) (.tmp 120), none⟩,
   ⟨(some 122), .call n_rel_Events [(.tmp 121)], none⟩,
   ⟨(some 124), .bin .eql (.tmp 122) (.tmp 123), none⟩,
   ⟨(some 125), .mv (.tmp 124), none⟩,
   ⟨(some 126), .mv (.tmp 1), (some (125, true))⟩,
   ⟨(some 128), .mv (.tmp 17), (some (125, true))⟩,
   ⟨(some 127), .call n_rel_First [(.tmp 126)], (some (125, true))⟩,
   ⟨(some 129), .bin .eql (.tmp 127) (.tmp 128), (some (125, true))⟩,
   ⟨(some 130), .pick (.tmp 125) (.tmp 129) (.const (.bool false)), none⟩,
   ⟨(some 131), .mv (.tmp 130), none⟩,
   ⟨(some 132), .mv (.tmp 3), (some (131, true))⟩,
   ⟨(some 134), .mv (.tmp 19), (some (131, true))⟩,
   ⟨(some 133), .call n_rel_List [(.tmp 132)], (some (131, true))⟩,
   ⟨(some 135), .call n_belatedlaw2_ints [(.tmp 133), (.tmp 134)], (some (131, true))⟩,
   ⟨(some 136), .pick (.tmp 131) (.tmp 135) (.const (.bool false)), none⟩,
   ⟨(some 137), .mv (.tmp 136), none⟩,
   ⟨(some 138), .mkRow [(.int .i64 0), (.int .i64 0)] 0 [], (some (137, true))⟩,
   ⟨(some 139), .mv (.tmp 2), (some (137, true))⟩,
   ⟨(some 142), .load 32 (.tmp 13), (some (137, true))⟩,
   ⟨(some 140), .append 2 16 (.tmp 138) (.tmp 139), (some (137, true))⟩,
   ⟨none, .again 32 (.tmp 13) 142, (some (137, true))⟩,
   ⟨(some 141), .call n_rel_Pair [(.tmp 140)], (some (137, true))⟩,
   ⟨none, .again 32 (.tmp 13) 142, (some (137, true))⟩,
   ⟨(some 143), .eqAgg false (List.replicate 32 .int) (.tmp 141) (.tmp 142), (some (137, true))⟩,
   ⟨(some 144), .pick (.tmp 137) (.tmp 143) (.const (.bool false)), none⟩,
   ⟨(some 145), .mv (.tmp 144), none⟩,
   ⟨(some 146), .mv (.tmp 3), (some (145, true))⟩,
   ⟨(some 148), .mv (.tmp 3), (some (145, true))⟩,
   ⟨(some 147), .call n_rel_Id [(.tmp 146)], (some (145, true))⟩,
   ⟨(some 149), .call n_belatedref2_Id [(.tmp 148)], (some (145, true))⟩,
   ⟨(some 150), .eqAgg false (List.replicate 32 .int) (.tmp 147) (.tmp 149), (some (145, true))⟩,
   ⟨(some 151), .pick (.tmp 145) (.tmp 150) (.const (.bool false)), none⟩,
   ⟨(some 152), .mv (.tmp 151), none⟩,
   ⟨(some 153), .mv (.tmp 3), (some (152, true))⟩,
   ⟨(some 154), .mv (.tmp 4), (some (152, true))⟩,
   ⟨(some 156), .mv (.tmp 3), (some (152, true))⟩,
   ⟨(some 157), .mv (.tmp 4), (some (152, true))⟩,
   ⟨(some 155), .call n_rel_Cross [(.tmp 153), (.tmp 154)], (some (152, true))⟩,
   ⟨(some 158), .call n_belatedref2_Cross [(.tmp 156), (.tmp 157)], (some (152, true))⟩,
   ⟨(some 159), .eqAgg false (List.replicate 32 .int) (.tmp 155) (.tmp 158), (some (152, true))⟩,
   ⟨(some 160), .pick (.tmp 152) (.tmp 159) (.const (.bool false)), none⟩,
   ⟨(some 10), .mv (.tmp 160), none⟩])
 .ret))))))))))))⟩
def c_belatedlaw2_RelTells : AFunc := ⟨113, [.tmp 6],
 (.seq (.ops [⟨(some 3), .box 32 (.tmp 0), none⟩,
   ⟨(some 6), .mv (.const (.bool false)), none⟩])
 (.seq (.seq (.ops [⟨(some 13), .call n_belatedlaw2_able [], none⟩,
   ⟨(some 14), .un .not (.tmp 13), none⟩])
 (.cond (.tmp 14) (.seq (.ops [⟨(some 6), .mv (.const (.bool false)), none⟩])
 .ret) .skip))
 (.seq (.ops [⟨(some 15), .load 32 (.tmp 3), none⟩,
   ⟨(some 17), .load 32 (.tmp 3), none⟩,
   ⟨(some 16), .call n_rel_Pairs [(.tmp 15)], none⟩,
   ⟨none, .again 32 (.tmp 3) 17, none⟩,
   ⟨(some 18), .call n_belatedref2_Pairs [(.tmp 17)], none⟩,
   ⟨(some 7), .mv (.tmp 16), none⟩,
   ⟨(some 8), .mv (.tmp 18), none⟩])
 (.seq (.seq (.ops [⟨(some 19), .mv (.tmp 7), none⟩,
   ⟨(some 20), .len (.tmp 19), none⟩,
   ⟨(some 21), .mv (.tmp 8), none⟩,
   ⟨(some 22), .len (.tmp 21), none⟩,
   ⟨(some 23), .bin .neq (.tmp 20) (.tmp 22), none⟩,
   ⟨(some 24), .mv (.tmp 23), none⟩,
   ⟨(some 25), .load 32 (.tmp 3), (some (24, false))⟩,
   ⟨(some 26), .call n_rel_Count [(.tmp 25)], (some (24, false))⟩,
   ⟨(some 27), .mv (.tmp 8), (some (24, false))⟩,
   ⟨(some 28), .len (.tmp 27), (some (24, false))⟩,
   ⟨(some 29), .bin .neq (.tmp 26) (.tmp 28), (some (24, false))⟩,
   ⟨(some 30), .pick (.tmp 24) (.const (.bool true)) (.tmp 29), none⟩,
   ⟨(some 31), .mv (.tmp 30), none⟩,
   ⟨(some 32), .load 32 (.tmp 3), (some (31, false))⟩,
   ⟨(some 33), .call n_rel_Empty [(.tmp 32)], (some (31, false))⟩,
   ⟨(some 34), .mv (.tmp 8), (some (31, false))⟩,
   ⟨(some 35), .len (.tmp 34), (some (31, false))⟩,
   ⟨(some 36), .bin .eql (.tmp 35) (.const (.int .i64 0)), (some (31, false))⟩,
   ⟨(some 37), .eqv true .bool (.tmp 33) (.tmp 36), (some (31, false))⟩,
   ⟨(some 38), .pick (.tmp 31) (.const (.bool true)) (.tmp 37), none⟩])
 (.cond (.tmp 38) (.seq (.ops [⟨(some 6), .mv (.const (.bool false)), none⟩])
 .ret) .skip))
 (.seq (.ops [⟨(some 9), .mv (.const (.int .u32 0)), none⟩,
   ⟨(some 10), .mv (.const (.int .u32 0)), none⟩])
 (.seq (.ops [⟨(some 11), .mv (.const (.bool false)), none⟩])
 (.seq (.seq (.ops [⟨(some 12), .mv (.const (.int .i64 0)), none⟩])
 (.block 0 (.loop (.seq (.seq (.ops [⟨(some 39), .mv (.tmp 12), none⟩,
     ⟨(some 40), .mv (.tmp 8), none⟩,
     ⟨(some 41), .len (.tmp 40), none⟩,
     ⟨(some 42), .bin .lss (.tmp 39) (.tmp 41), none⟩])
   (.cond (.tmp 42) .skip (.exit 0)))
   (.seq (.block 1 (.seq (.seq (.ops [⟨(some 45), .mv (.tmp 7), none⟩,
      ⟨(some 46), .mv (.tmp 12), none⟩,
      ⟨(some 47), .atRow 2 (.tmp 45) (.tmp 46), none⟩,
      ⟨(some 48), .load 2 (.tmp 47), none⟩,
      ⟨(some 49), .mv (.tmp 8), none⟩,
      ⟨(some 50), .mv (.tmp 12), none⟩,
      ⟨(some 51), .atRow 2 (.tmp 49) (.tmp 50), none⟩,
      ⟨(some 52), .load 2 (.tmp 51), none⟩,
      ⟨(some 53), .eqAgg true [.int, .int] (.tmp 48) (.tmp 52), none⟩])
    (.cond (.tmp 53) (.seq (.ops [⟨(some 6), .mv (.const (.bool false)), none⟩])
    .ret) .skip))
    (.seq (.ops [⟨(some 54), .mv (.tmp 9), none⟩,
      ⟨(some 55), .mv (.tmp 8), none⟩,
      ⟨(some 56), .mv (.tmp 12), none⟩,
      ⟨(some 57), .atRow 2 (.tmp 55) (.tmp 56), none⟩,
      ⟨(some 58), .atArr 2 1 (.tmp 57) (.const (.int .i64 0)), none⟩,
      ⟨(some 59), .load1 (.tmp 58), none⟩,
      ⟨(some 60), .bin .shl (.const (.int .u32 1)) (.tmp 59), none⟩,
      ⟨(some 61), .bin .or (.tmp 54) (.tmp 60), none⟩,
      ⟨(some 9), .mv (.tmp 61), none⟩])
    (.seq (.ops [⟨(some 62), .mv (.tmp 10), none⟩,
      ⟨(some 63), .mv (.tmp 8), none⟩,
      ⟨(some 64), .mv (.tmp 12), none⟩,
      ⟨(some 65), .atRow 2 (.tmp 63) (.tmp 64), none⟩,
      ⟨(some 66), .atArr 2 1 (.tmp 65) (.const (.int .i64 1)), none⟩,
      ⟨(some 67), .load1 (.tmp 66), none⟩,
      ⟨(some 68), .bin .shl (.const (.int .u32 1)) (.tmp 67), none⟩,
      ⟨(some 69), .bin .or (.tmp 62) (.tmp 68), none⟩,
      ⟨(some 10), .mv (.tmp 69), none⟩])
    (.ops [⟨(some 70), .mv (.tmp 11), none⟩,
      ⟨(some 71), .mv (.tmp 70), none⟩,
      ⟨(some 72), .mv (.tmp 8), (some (71, false))⟩,
      ⟨(some 73), .mv (.tmp 12), (some (71, false))⟩,
      ⟨(some 74), .atRow 2 (.tmp 72) (.tmp 73), (some (71, false))⟩,
      ⟨(some 75), .load 2 (.tmp 74), (some (71, false))⟩,
      ⟨(some 76), .mv (.tmp 1), (some (71, false))⟩,
      ⟨(some 77), .mv (.tmp 2), (some (71, false))⟩,
      ⟨(some 78), .build [(.int .i64 0), (.int .i64 0)] [(0, 1, (.tmp 76)), (1, 1, (.tmp 77))], (some (71, false))⟩,
      ⟨(some 79), .eqAgg false [.int, .int] (.tmp 75) (.tmp 78), (some (71, false))⟩,
      ⟨(some 80), .pick (.tmp 71) (.const (.bool true)) (.tmp 79), none⟩,
      ⟨(some 11), .mv (.tmp 80), none⟩])))))
   (.ops [⟨(some 43), .mv (.tmp 12), none⟩,
     ⟨(some 44), .bin .add (.tmp 43) (.const (.int .i64 1)), none⟩,
     ⟨(some 12), .mv (.tmp 44), none⟩]))))))
 (.seq (.ops [⟨(some 81), .load 32 (.tmp 3), none⟩,
   ⟨(some 82), .mv (.tmp 1), none⟩,
   ⟨(some 83), .mv (.tmp 2), none⟩,
   ⟨(some 85), .mv (.tmp 11), none⟩,
   ⟨(some 84), .call n_rel_Has [(.tmp 81), (.tmp 82), (.tmp 83)], none⟩,
   ⟨(some 86), .eqv false .bool (.tmp 84) (.tmp 85), none⟩,
   ⟨(some 87), .mv (.tmp 86), none⟩,
   ⟨(some 88), .load 32 (.tmp 3), (some (87, true))⟩,
   ⟨(some 90), .mv (.tmp 9), (some (87, true))⟩,
   ⟨(some 89), .call n_rel_Domain [(.tmp 88)], (some (87, true))⟩,
   ⟨(some 91), .bin .eql (.tmp 89) (.tmp 90), (some (87, true))⟩,
   ⟨(some 92), .pick (.tmp 87) (.tmp 91) (.const (.bool false)), none⟩,
   ⟨(some 93), .mv (.tmp 92), none⟩,
   ⟨(some 94), .load 32 (.tmp 3), (some (93, true))⟩,
   ⟨(some 96), .mv (.tmp 10), (some (93, true))⟩,
   ⟨(some 95), .call n_rel_Range [(.tmp 94)], (some (93, true))⟩,
   ⟨(some 97), .bin .eql (.tmp 95) (.tmp 96), (some (93, true))⟩,
   ⟨(some 98), .pick (.tmp 93) (.tmp 97) (.const (.bool false)), none⟩,
   ⟨(some 99), .mv (.tmp 98), none⟩,
   ⟨(some 100), .load 32 (.tmp 3), (some (99, true))⟩,
   ⟨(some 102), .load 32 (.tmp 3), (some (99, true))⟩,
   ⟨(some 101), .call n_rel_Irreflexive [(.tmp 100)], (some (99, true))⟩,
   ⟨none, .again 32 (.tmp 3) 102, (some (99, true))⟩,
   ⟨(some 103), .call n_belatedref2_Irreflexive [(.tmp 102)], (some (99, true))⟩,
   ⟨(some 104), .eqv false .bool (.tmp 101) (.tmp 103), (some (99, true))⟩,
   ⟨(some 105), .pick (.tmp 99) (.tmp 104) (.const (.bool false)), none⟩,
   ⟨(some 106), .mv (.tmp 105), none⟩,
   ⟨(some 107), .load 32 (.tmp 3), (some (106, true))⟩,
   ⟨(some 109), .load 32 (.tmp 3), (some (106, true))⟩,
   ⟨(some 108), .call n_rel_Acyclic [(.tmp 107)], (some (106, true))⟩,
   ⟨none, .again 32 (.tmp 3) 109, (some (106, true))⟩,
   ⟨(some 110), .call n_belatedref2_Acyclic [(.tmp 109)], (some (106, true))⟩,
   ⟨(some 111), .eqv false .bool (.tmp 108) (.tmp 110), (some (106, true))⟩,
   ⟨(some 112), .pick (.tmp 106) (.tmp 111) (.const (.bool false)), none⟩,
   ⟨(some 6), .mv (.tmp 112), none⟩])
 .ret))))))))⟩
def c_belatedlaw2_able : AFunc := ⟨42, [.tmp 0],
 (.seq (.ops [⟨(some 0), .mv (.const (.bool false)), none⟩])
 (.seq (.ops [⟨(some 4), .build [(.int .i64 0), (.int .i64 0)] [(0, 1, (.const (.int .i64 0))), (1, 1, (.const (.int .i64 1)))], none⟩,
   ⟨(some 5), .mkRow [(.int .i64 0), (.int .i64 0)] 1 [(0, 2, (.tmp 4))], none⟩,
   ⟨(some 6), .call n_rel_Pair [(.tmp 5)], none⟩,
   ⟨(some 7), .build [(.int .i64 0), (.int .i64 0)] [(0, 1, (.const (.int .i64 1))), (1, 1, (.const (.int .i64 2)))], none⟩,
   ⟨(some 8), .mkRow [(.int .i64 0), (.int .i64 0)] 1 [(0, 2, (.tmp 7))], none⟩,
   ⟨(some 9), .call n_rel_Pair [(.tmp 8)], none⟩,
   ⟨(some 1), .alloc (List.replicate 32 (.int .u32 0)), none⟩,
   ⟨(some 2), .alloc (List.replicate 32 (.int .u32 0)), none⟩,
   ⟨none, .store 32 (.tmp 1) (.tmp 6), none⟩,
   ⟨none, .store 32 (.tmp 2) (.tmp 9), none⟩])
 (.seq (.ops [⟨(some 10), .load 32 (.tmp 1), none⟩,
   ⟨(some 11), .load 32 (.tmp 2), none⟩,
   ⟨(some 12), .mkRow (List.replicate 32 (.int .u32 0)) 2 [(0, 32, (.tmp 10)), (32, 32, (.tmp 11))], none⟩,
   ⟨(some 13), .call n_rel_Seq [(.tmp 12)], none⟩,
   ⟨(some 3), .alloc (List.replicate 32 (.int .u32 0)), none⟩,
   ⟨none, .store 32 (.tmp 3) (.tmp 13), none⟩])
 (.seq (.ops [⟨(some 14), .load 32 (.tmp 3), none⟩,
   ⟨(some 15), .call n_rel_Has [(.tmp 14), (.const (.int .i64 0)), (.const (.int .i64 2))], none⟩,
   ⟨(some 16), .mv (.tmp 15), none⟩,
   ⟨(some 17), .load 32 (.tmp 3), (some (16, true))⟩,
   ⟨(some 18), .call n_rel_Count [(.tmp 17)], (some (16, true))⟩,
   ⟨(some 19), .bin .eql (.tmp 18) (.const (.int .i64 1)), (some (16, true))⟩,
   ⟨(some 20), .pick (.tmp 16) (.tmp 19) (.const (.bool false)), none⟩,
   ⟨(some 21), .mv (.tmp 20), none⟩,
   ⟨(some 22), .load 32 (.tmp 1), (some (21, true))⟩,
   ⟨(some 23), .load 32 (.tmp 2), (some (21, true))⟩,
   ⟨(some 24), .mkRow (List.replicate 32 (.int .u32 0)) 2 [(0, 32, (.tmp 22)), (32, 32, (.tmp 23))], (some (21, true))⟩,
   ⟨(some 25), .call n_rel_Union [(.tmp 24)], (some (21, true))⟩,
   ⟨(some 26), .call n_rel_Plus [(.tmp 25)], (some (21, true))⟩,
   ⟨(some 27), .call n_rel_Has [(.tmp 26), (.const (.int .i64 0)), (.const (.int .i64 2))], (some (21, true))⟩,
   ⟨(some 28), .pick (.tmp 21) (.tmp 27) (.const (.bool false)), none⟩,
   ⟨(some 29), .mv (.tmp 28), none⟩,
   ⟨(some 30), .load 32 (.tmp 1), (some (29, true))⟩,
   ⟨(some 31), .load 32 (.tmp 1), (some (29, true))⟩,
   ⟨(some 32), .call n_rel_Inverse [(.tmp 31)], (some (29, true))⟩,
   ⟨none, .again 32 (.tmp 1) 30, (some (29, true))⟩,
   ⟨(some 33), .mkRow (List.replicate 32 (.int .u32 0)) 2 [(0, 32, (.tmp 30)), (32, 32, (.tmp 32))], (some (29, true))⟩,
   ⟨(some 34), .call n_rel_Union [(.tmp 33)], (some (29, true))⟩,
   ⟨(some 35), .call n_rel_Acyclic [(.tmp 34)], (some (29, true))⟩,
   ⟨(some 36), .un .not (.tmp 35), (some (29, true))⟩,
   ⟨(some 37), .pick (.tmp 29) (.tmp 36) (.const (.bool false)), none⟩,
   ⟨(some 38), .mv (.tmp 37), none⟩,
   ⟨(some 39), .call n_rel_First [(.const (.int .i64 3))], (some (38, true))⟩,
   ⟨(some 40), .bin .eql (.tmp 39) (.const (.int .u32 7)), (some (38, true))⟩,
   ⟨(some 41), .pick (.tmp 38) (.tmp 40) (.const (.bool false)), none⟩,
   ⟨(some 0), .mv (.tmp 41), none⟩])
 .ret))))⟩
def c_rel_Union : AFunc := ⟨27, [.cells 2 32],
 (.seq (.ops [⟨(some 2), .alloc (List.replicate 32 (.int .u32 0)), none⟩])
 (.seq (.ops [⟨(some 3), .alloc (List.replicate 32 (.int .u32 0)), none⟩])
 (.seq (.seq (.ops [⟨(some 7), .mv (.tmp 0), none⟩,
   ⟨(some 8), .len (.tmp 7), none⟩,
   ⟨(some 9), .mv (.const (.int .i64 0)), none⟩])
 (.block 0 (.loop (.seq (.ops [⟨(some 10), .bin .lss (.tmp 9) (.tmp 8), none⟩])
   (.seq (.cond (.tmp 10) .skip (.exit 0))
   (.seq (.block 1 (.seq (.ops [⟨(some 11), .atRow 32 (.tmp 7) (.tmp 9), none⟩,
      ⟨(some 12), .load 32 (.tmp 11), none⟩,
      ⟨(some 5), .alloc (List.replicate 32 (.int .u32 0)), none⟩,
      ⟨none, .store 32 (.tmp 5) (.tmp 12), none⟩])
    (.seq (.ops [⟨(some 13), .mv (.const (.int .i64 0)), none⟩])
    (.block 2 (.loop (.seq (.ops [⟨(some 14), .bin .lss (.tmp 13) (.const (.int .i64 32)), none⟩])
      (.seq (.cond (.tmp 14) .skip (.exit 2))
      (.seq (.block 3 (.seq (.ops [⟨(some 15), .mv (.tmp 13), none⟩,
         ⟨(some 6), .mv (.tmp 15), none⟩])
       (.ops [⟨(some 16), .mv (.tmp 6), none⟩,
         ⟨(some 17), .atArr 32 1 (.tmp 3) (.tmp 16), none⟩,
         ⟨(some 18), .load1 (.tmp 17), none⟩,
         ⟨(some 19), .mv (.tmp 6), none⟩,
         ⟨(some 20), .atArr 32 1 (.tmp 5) (.tmp 19), none⟩,
         ⟨(some 21), .load1 (.tmp 20), none⟩,
         ⟨(some 22), .bin .or (.tmp 18) (.tmp 21), none⟩,
         ⟨(some 23), .atArr 32 1 (.tmp 3) (.tmp 16), none⟩,
         ⟨none, .store1 (.tmp 23) (.tmp 22), none⟩])))
      (.ops [⟨(some 24), .bin .add (.tmp 13) (.const (.int .i64 1)), none⟩,
        ⟨(some 13), .mv (.tmp 24), none⟩])))))))))
   (.ops [⟨(some 25), .bin .add (.tmp 9) (.const (.int .i64 1)), none⟩,
     ⟨(some 9), .mv (.tmp 25), none⟩])))))))
 (.seq (.ops [⟨(some 26), .load 32 (.tmp 3), none⟩,
   ⟨none, .store 32 (.tmp 2) (.tmp 26), none⟩])
 .ret))))⟩
def c_rel_Meet : AFunc := ⟨28, [.cells 2 32],
 (.seq (.ops [⟨(some 2), .alloc (List.replicate 32 (.int .u32 0)), none⟩])
 (.seq (.ops [⟨(some 7), .call n_rel_Cross [(.const (.int .u32 4294967295)), (.const (.int .u32 4294967295))], none⟩,
   ⟨(some 3), .alloc (List.replicate 32 (.int .u32 0)), none⟩,
   ⟨none, .store 32 (.tmp 3) (.tmp 7), none⟩])
 (.seq (.seq (.ops [⟨(some 8), .mv (.tmp 0), none⟩,
   ⟨(some 9), .len (.tmp 8), none⟩,
   ⟨(some 10), .mv (.const (.int .i64 0)), none⟩])
 (.block 0 (.loop (.seq (.ops [⟨(some 11), .bin .lss (.tmp 10) (.tmp 9), none⟩])
   (.seq (.cond (.tmp 11) .skip (.exit 0))
   (.seq (.block 1 (.seq (.ops [⟨(some 12), .atRow 32 (.tmp 8) (.tmp 10), none⟩,
      ⟨(some 13), .load 32 (.tmp 12), none⟩,
      ⟨(some 5), .alloc (List.replicate 32 (.int .u32 0)), none⟩,
      ⟨none, .store 32 (.tmp 5) (.tmp 13), none⟩])
    (.seq (.ops [⟨(some 14), .mv (.const (.int .i64 0)), none⟩])
    (.block 2 (.loop (.seq (.ops [⟨(some 15), .bin .lss (.tmp 14) (.const (.int .i64 32)), none⟩])
      (.seq (.cond (.tmp 15) .skip (.exit 2))
      (.seq (.block 3 (.seq (.ops [⟨(some 16), .mv (.tmp 14), none⟩,
         ⟨(some 6), .mv (.tmp 16), none⟩])
       (.ops [⟨(some 17), .mv (.tmp 6), none⟩,
         ⟨(some 18), .atArr 32 1 (.tmp 3) (.tmp 17), none⟩,
         ⟨(some 19), .load1 (.tmp 18), none⟩,
         ⟨(some 20), .mv (.tmp 6), none⟩,
         ⟨(some 21), .atArr 32 1 (.tmp 5) (.tmp 20), none⟩,
         ⟨(some 22), .load1 (.tmp 21), none⟩,
         ⟨(some 23), .bin .and (.tmp 19) (.tmp 22), none⟩,
         ⟨(some 24), .atArr 32 1 (.tmp 3) (.tmp 17), none⟩,
         ⟨none, .store1 (.tmp 24) (.tmp 23), none⟩])))
      (.ops [⟨(some 25), .bin .add (.tmp 14) (.const (.int .i64 1)), none⟩,
        ⟨(some 14), .mv (.tmp 25), none⟩])))))))))
   (.ops [⟨(some 26), .bin .add (.tmp 10) (.const (.int .i64 1)), none⟩,
     ⟨(some 10), .mv (.tmp 26), none⟩])))))))
 (.seq (.ops [⟨(some 27), .load 32 (.tmp 3), none⟩,
   ⟨none, .store 32 (.tmp 2) (.tmp 27), none⟩])
 .ret))))⟩
def c_rel_Seq : AFunc := ⟨27, [.cells 2 32],
 (.seq (.ops [⟨(some 2), .alloc (List.replicate 32 (.int .u32 0)), none⟩])
 (.seq (.ops [⟨(some 7), .call n_rel_Id [(.const (.int .u32 4294967295))], none⟩,
   ⟨(some 3), .alloc (List.replicate 32 (.int .u32 0)), none⟩,
   ⟨none, .store 32 (.tmp 3) (.tmp 7), none⟩])
 (.seq (.seq (.ops [⟨(some 8), .mv (.tmp 0), none⟩,
   ⟨(some 9), .len (.tmp 8), none⟩,
   ⟨(some 10), .mv (.const (.int .i64 0)), none⟩])
 (.block 0 (.loop (.seq (.ops [⟨(some 11), .bin .lss (.tmp 10) (.tmp 9), none⟩])
   (.seq (.cond (.tmp 11) .skip (.exit 0))
   (.seq (.block 1 (.seq (.ops [⟨(some 12), .atRow 32 (.tmp 8) (.tmp 10), none⟩,
      ⟨(some 13), .load 32 (.tmp 12), none⟩,
      ⟨(some 5), .alloc (List.replicate 32 (.int .u32 0)), none⟩,
      ⟨none, .store 32 (.tmp 5) (.tmp 13), none⟩])
    (.seq (.ops [⟨(some 14), .mv (.const (.int .i64 0)), none⟩])
    (.block 2 (.loop (.seq (.ops [⟨(some 15), .bin .lss (.tmp 14) (.const (.int .i64 32)), none⟩])
      (.seq (.cond (.tmp 15) .skip (.exit 2))
      (.seq (.block 3 (.seq (.ops [⟨(some 16), .mv (.tmp 14), none⟩,
         ⟨(some 6), .mv (.tmp 16), none⟩])
       (.ops [⟨(some 17), .mv (.tmp 6), none⟩,
         ⟨(some 18), .mv (.tmp 6), none⟩,
         ⟨(some 19), .atArr 32 1 (.tmp 3) (.tmp 18), none⟩,
         ⟨(some 20), .load1 (.tmp 19), none⟩,
         ⟨(some 21), .load 32 (.tmp 5), none⟩,
         ⟨(some 22), .call n_rel_next [(.tmp 20), (.tmp 21)], none⟩,
         ⟨(some 23), .atArr 32 1 (.tmp 3) (.tmp 17), none⟩,
         ⟨none, .store1 (.tmp 23) (.tmp 22), none⟩])))
      (.ops [⟨(some 24), .bin .add (.tmp 14) (.const (.int .i64 1)), none⟩,
        ⟨(some 14), .mv (.tmp 24), none⟩])))))))))
   (.ops [⟨(some 25), .bin .add (.tmp 10) (.const (.int .i64 1)), none⟩,
     ⟨(some 10), .mv (.tmp 25), none⟩])))))))
 (.seq (.ops [⟨(some 26), .load 32 (.tmp 3), none⟩,
   ⟨none, .store 32 (.tmp 2) (.tmp 26), none⟩])
 .ret))))⟩
def c_belatedref2_Union : AFunc := ⟨45, [.cells 2 32],
 (.seq (.ops [⟨(some 2), .alloc (List.replicate 32 (.int .u32 0)), none⟩])
 (.seq (.ops [⟨(some 3), .alloc (List.replicate 1024 (.bool false)), none⟩])
 (.seq (.seq (.ops [⟨(some 4), .mv (.const (.int .i64 0)), none⟩])
 (.block 0 (.loop (.seq (.seq (.ops [⟨(some 8), .mv (.tmp 4), none⟩,
     ⟨(some 9), .mv (.tmp 0), none⟩,
     ⟨(some 10), .len (.tmp 9), none⟩,
     ⟨(some 11), .bin .lss (.tmp 8) (.tmp 10), none⟩])
   (.cond (.tmp 11) .skip (.exit 0)))
   (.seq (.block 1 (.seq (.ops [⟨(some 14), .mv (.tmp 0), none⟩,
      ⟨(some 15), .mv (.tmp 4), none⟩,
      ⟨(some 16), .atRow 32 (.tmp 14) (.tmp 15), none⟩,
      ⟨(some 17), .load 32 (.tmp 16), none⟩,
      ⟨(some 18), .call n_belatedref2_Of [(.tmp 17)], none⟩,
      ⟨(some 5), .alloc (List.replicate 1024 (.bool false)), none⟩,
      ⟨none, .store 1024 (.tmp 5) (.tmp 18), none⟩])
    (.seq (.ops [⟨(some 6), .mv (.const (.int .i64 0)), none⟩])
    (.block 2 (.loop (.seq (.seq (.ops [⟨(some 19), .mv (.tmp 6), none⟩,
        ⟨(some 20), .bin .lss (.tmp 19) (.const (.int .i64 32)), none⟩])
      (.cond (.tmp 20) .skip (.exit 2)))
      (.seq (.block 3 (.seq (.ops [⟨(some 7), .mv (.const (.int .i64 0)), none⟩])
       (.block 4 (.loop (.seq (.seq (.ops [⟨(some 23), .mv (.tmp 7), none⟩,
           ⟨(some 24), .bin .lss (.tmp 23) (.const (.int .i64 32)), none⟩])
         (.cond (.tmp 24) .skip (.exit 4)))
         (.seq (.block 5 (.ops [⟨(some 27), .mv (.tmp 6), none⟩,
            ⟨(some 28), .mv (.tmp 7), none⟩,
            ⟨(some 29), .mv (.tmp 6), none⟩,
            ⟨(some 30), .mv (.tmp 7), none⟩,
            ⟨(some 31), .atArr 32 32 (.tmp 3) (.tmp 29), none⟩,
            ⟨(some 32), .atArr 32 1 (.tmp 31) (.tmp 30), none⟩,
            ⟨(some 33), .load1 (.tmp 32), none⟩,
            ⟨(some 34), .mv (.tmp 33), none⟩,
            ⟨(some 35), .mv (.tmp 6), (some (34, false))⟩,
            ⟨(some 36), .mv (.tmp 7), (some (34, false))⟩,
            ⟨(some 37), .atArr 32 32 (.tmp 5) (.tmp 35), (some (34, false))⟩,
            ⟨(some 38), .atArr 32 1 (.tmp 37) (.tmp 36), (some (34, false))⟩,
            ⟨(some 39), .load1 (.tmp 38), (some (34, false))⟩,
            ⟨(some 40), .pick (.tmp 34) (.const (.bool true)) (.tmp 39), none⟩,
            ⟨(some 41), .atArr 32 32 (.tmp 3) (.tmp 27), none⟩,
            ⟨(some 42), .atArr 32 1 (.tmp 41) (.tmp 28), none⟩,
            ⟨none, .store1 (.tmp 42) (.tmp 40), none⟩]))
         (.ops [⟨(some 25), .mv (.tmp 7), none⟩,
           ⟨(some 26), .bin .add (.tmp 25) (.const (.int .i64 1)), none⟩,
           ⟨(some 7), .mv (.tmp 26), none⟩])))))))
      (.ops [⟨(some 21), .mv (.tmp 6), none⟩,
        ⟨(some 22), .bin .add (.tmp 21) (.const (.int .i64 1)), none⟩,
        ⟨(some 6), .mv (.tmp 22), none⟩]))))))))
   (.ops [⟨(some 12), .mv (.tmp 4), none⟩,
     ⟨(some 13), .bin .add (.tmp 12) (.const (.int .i64 1)), none⟩,
     ⟨(some 4), .mv (.tmp 13), none⟩]))))))
 (.seq (.ops [⟨(some 43), .load 1024 (.tmp 3), none⟩,
   ⟨(some 44), .call n_belatedref2_Rel [(.tmp 43)], none⟩,
   ⟨none, .store 32 (.tmp 2) (.tmp 44), none⟩])
 .ret))))⟩
def c_belatedref2_Meet : AFunc := ⟨45, [.cells 2 32],
 (.seq (.ops [⟨(some 2), .alloc (List.replicate 32 (.int .u32 0)), none⟩])
 (.seq (.ops [⟨(some 3), .alloc (List.replicate 32 (.int .u32 0)), none⟩])
 (.seq (.seq (.ops [⟨(some 4), .mv (.const (.int .i64 0)), none⟩])
 (.block 0 (.loop (.seq (.seq (.ops [⟨(some 8), .mv (.tmp 4), none⟩,
     ⟨(some 9), .bin .lss (.tmp 8) (.const (.int .i64 32)), none⟩])
   (.cond (.tmp 9) .skip (.exit 0)))
   (.seq (.block 1 (.seq (.ops [⟨(some 5), .mv (.const (.int .i64 0)), none⟩])
    (.block 2 (.loop (.seq (.seq (.ops [⟨(some 12), .mv (.tmp 5), none⟩,
        ⟨(some 13), .bin .lss (.tmp 12) (.const (.int .i64 32)), none⟩])
      (.cond (.tmp 13) .skip (.exit 2)))
      (.seq (.block 3 (.seq (.ops [⟨(some 6), .mv (.const (.bool true)), none⟩])
       (.seq (.seq (.ops [⟨(some 7), .mv (.const (.int .i64 0)), none⟩])
       (.block 4 (.loop (.seq (.seq (.ops [⟨(some 16), .mv (.tmp 7), none⟩,
           ⟨(some 17), .mv (.tmp 0), none⟩,
           ⟨(some 18), .len (.tmp 17), none⟩,
           ⟨(some 19), .bin .lss (.tmp 16) (.tmp 18), none⟩])
         (.cond (.tmp 19) .skip (.exit 4)))
         (.seq (.block 5 (.ops [⟨(some 22), .mv (.tmp 6), none⟩,
            ⟨(some 23), .mv (.tmp 22), none⟩,
            ⟨(some 24), .mv (.tmp 0), (some (23, true))⟩,
            ⟨(some 25), .mv (.tmp 7), (some (23, true))⟩,
            ⟨(some 26), .mv (.tmp 4), (some (23, true))⟩,
            ⟨(some 27), .atRow 32 (.tmp 24) (.tmp 25), (some (23, true))⟩,
            ⟨(some 28), .atArr 32 1 (.tmp 27) (.tmp 26), (some (23, true))⟩,
            ⟨(some 29), .load1 (.tmp 28), (some (23, true))⟩,
            ⟨(some 30), .mv (.tmp 5), (some (23, true))⟩,
            ⟨(some 31), .bin .shr (.tmp 29) (.tmp 30), (some (23, true))⟩,
            ⟨(some 32), .bin .and (.tmp 31) (.const (.int .u32 1)), (some (23, true))⟩,
            ⟨(some 33), .bin .eql (.tmp 32) (.const (.int .u32 1)), (some (23, true))⟩,
            ⟨(some 34), .pick (.tmp 23) (.tmp 33) (.const (.bool false)), none⟩,
            ⟨(some 6), .mv (.tmp 34), none⟩]))
         (.ops [⟨(some 20), .mv (.tmp 7), none⟩,
           ⟨(some 21), .bin .add (.tmp 20) (.const (.int .i64 1)), none⟩,
           ⟨(some 7), .mv (.tmp 21), none⟩]))))))
       (.seq (.ops [⟨(some 35), .mv (.tmp 6), none⟩])
       (.cond (.tmp 35) (.ops [⟨(some 36), .mv (.tmp 4), none⟩,
         ⟨(some 37), .mv (.tmp 4), none⟩,
         ⟨(some 38), .atArr 32 1 (.tmp 3) (.tmp 37), none⟩,
         ⟨(some 39), .load1 (.tmp 38), none⟩,
         ⟨(some 40), .mv (.tmp 5), none⟩,
         ⟨(some 41), .bin .shl (.const (.int .u32 1)) (.tmp 40), none⟩,
         ⟨(some 42), .bin .or (.tmp 39) (.tmp 41), none⟩,
         ⟨(some 43), .atArr 32 1 (.tmp 3) (.tmp 36), none⟩,
         ⟨none, .store1 (.tmp 43) (.tmp 42), none⟩]) .skip)))))
      (.ops [⟨(some 14), .mv (.tmp 5), none⟩,
        ⟨(some 15), .bin .add (.tmp 14) (.const (.int .i64 1)), none⟩,
        ⟨(some 5), .mv (.tmp 15), none⟩])))))))
   (.ops [⟨(some 10), .mv (.tmp 4), none⟩,
     ⟨(some 11), .bin .add (.tmp 10) (.const (.int .i64 1)), none⟩,
     ⟨(some 4), .mv (.tmp 11), none⟩]))))))
 (.seq (.ops [⟨(some 44), .load 32 (.tmp 3), none⟩,
   ⟨none, .store 32 (.tmp 2) (.tmp 44), none⟩])
 .ret))))⟩
def c_belatedref2_Seq : AFunc := ⟨19, [.cells 2 32],
 (.seq (.ops [⟨(some 2), .alloc (List.replicate 32 (.int .u32 0)), none⟩])
 (.seq (.ops [⟨(some 5), .call n_belatedref2_Id [(.const (.int .u32 4294967295))], none⟩,
   ⟨(some 3), .alloc (List.replicate 32 (.int .u32 0)), none⟩,
   ⟨none, .store 32 (.tmp 3) (.tmp 5), none⟩])
 (.seq (.seq (.ops [⟨(some 4), .mv (.const (.int .i64 0)), none⟩])
 (.block 0 (.loop (.seq (.seq (.ops [⟨(some 6), .mv (.tmp 4), none⟩,
     ⟨(some 7), .mv (.tmp 0), none⟩,
     ⟨(some 8), .len (.tmp 7), none⟩,
     ⟨(some 9), .bin .lss (.tmp 6) (.tmp 8), none⟩])
   (.cond (.tmp 9) .skip (.exit 0)))
   (.seq (.block 1 (.ops [⟨(some 12), .load 32 (.tmp 3), none⟩,
      ⟨(some 13), .mv (.tmp 0), none⟩,
      ⟨(some 14), .mv (.tmp 4), none⟩,
      ⟨(some 15), .atRow 32 (.tmp 13) (.tmp 14), none⟩,
      ⟨(some 16), .load 32 (.tmp 15), none⟩,
      ⟨(some 17), .call n_belatedref2_Two [(.tmp 12), (.tmp 16)], none⟩,
      ⟨none, .store 32 (.tmp 3) (.tmp 17), none⟩]))
   (.ops [⟨(some 10), .mv (.tmp 4), none⟩,
     ⟨(some 11), .bin .add (.tmp 10) (.const (.int .i64 1)), none⟩,
     ⟨(some 4), .mv (.tmp 11), none⟩]))))))
 (.seq (.ops [⟨(some 18), .load 32 (.tmp 3), none⟩,
   ⟨none, .store 32 (.tmp 2) (.tmp 18), none⟩])
 .ret))))⟩
def c_rel_Inverse : AFunc := ⟨27, [.cells 2 32],
 (.seq (.ops [⟨(some 1), .box 32 (.tmp 0), none⟩,
   ⟨(some 2), .alloc (List.replicate 32 (.int .u32 0)), none⟩])
 (.seq (.ops [⟨(some 3), .alloc (List.replicate 32 (.int .u32 0)), none⟩])
 (.seq (.seq (.ops [⟨(some 6), .mv (.const (.int .i64 0)), none⟩])
 (.block 0 (.loop (.seq (.ops [⟨(some 7), .bin .lss (.tmp 6) (.const (.int .i64 32)), none⟩])
   (.seq (.cond (.tmp 7) .skip (.exit 0))
   (.seq (.block 1 (.seq (.ops [⟨(some 8), .mv (.tmp 6), none⟩,
      ⟨(some 4), .mv (.tmp 8), none⟩])
    (.seq (.ops [⟨(some 9), .mv (.const (.int .i64 0)), none⟩])
    (.block 2 (.loop (.seq (.ops [⟨(some 10), .bin .lss (.tmp 9) (.const (.int .i64 32)), none⟩])
      (.seq (.cond (.tmp 10) .skip (.exit 2))
      (.seq (.block 3 (.seq (.ops [⟨(some 11), .mv (.tmp 9), none⟩,
         ⟨(some 5), .mv (.tmp 11), none⟩])
       (.seq (.ops [⟨(some 12), .mv (.tmp 4), none⟩,
         ⟨(some 13), .atArr 32 1 (.tmp 1) (.tmp 12), none⟩,
         ⟨(some 14), .load1 (.tmp 13), none⟩,
         ⟨(some 15), .mv (.tmp 5), none⟩,
         ⟨(some 16), .call n_rel_has [(.tmp 14), (.tmp 15)], none⟩])
       (.cond (.tmp 16) (.ops [⟨(some 17), .mv (.tmp 5), none⟩,
         ⟨(some 18), .atArr 32 1 (.tmp 3) (.tmp 17), none⟩,
         ⟨(some 19), .load1 (.tmp 18), none⟩,
         ⟨(some 20), .mv (.tmp 4), none⟩,
         ⟨(some 21), .bin .shl (.const (.int .u32 1)) (.tmp 20), none⟩,
         ⟨(some 22), .bin .or (.tmp 19) (.tmp 21), none⟩,
         ⟨(some 23), .atArr 32 1 (.tmp 3) (.tmp 17), none⟩,
         ⟨none, .store1 (.tmp 23) (.tmp 22), none⟩]) .skip))))
      (.ops [⟨(some 24), .bin .add (.tmp 9) (.const (.int .i64 1)), none⟩,
        ⟨(some 9), .mv (.tmp 24), none⟩])))))))))
   (.ops [⟨(some 25), .bin .add (.tmp 6) (.const (.int .i64 1)), none⟩,
     ⟨(some 6), .mv (.tmp 25), none⟩])))))))
 (.seq (.ops [⟨(some 26), .load 32 (.tmp 3), none⟩,
   ⟨none, .store 32 (.tmp 2) (.tmp 26), none⟩])
 .ret))))⟩
def c_rel_Minus : AFunc := ⟨19, [.cells 4 32],
 (.seq (.ops [⟨(some 2), .box 32 (.tmp 0), none⟩,
   ⟨(some 3), .box 32 (.tmp 1), none⟩,
   ⟨(some 4), .alloc (List.replicate 32 (.int .u32 0)), none⟩])
 (.seq (.seq (.ops [⟨(some 6), .mv (.const (.int .i64 0)), none⟩])
 (.block 0 (.loop (.seq (.ops [⟨(some 7), .bin .lss (.tmp 6) (.const (.int .i64 32)), none⟩])
   (.seq (.cond (.tmp 7) .skip (.exit 0))
   (.seq (.block 1 (.seq (.ops [⟨(some 8), .mv (.tmp 6), none⟩,
      ⟨(some 5), .mv (.tmp 8), none⟩])
    (.ops [⟨(some 9), .mv (.tmp 5), none⟩,
      ⟨(some 10), .atArr 32 1 (.tmp 2) (.tmp 9), none⟩,
      ⟨(some 11), .load1 (.tmp 10), none⟩,
      ⟨(some 12), .mv (.tmp 5), none⟩,
      ⟨(some 13), .atArr 32 1 (.tmp 3) (.tmp 12), none⟩,
      ⟨(some 14), .load1 (.tmp 13), none⟩,
      ⟨(some 15), .bin .andNot (.tmp 11) (.tmp 14), none⟩,
      ⟨(some 16), .atArr 32 1 (.tmp 2) (.tmp 9), none⟩,
      ⟨none, .store1 (.tmp 16) (.tmp 15), none⟩])))
   (.ops [⟨(some 17), .bin .add (.tmp 6) (.const (.int .i64 1)), none⟩,
     ⟨(some 6), .mv (.tmp 17), none⟩])))))))
 (.seq (.ops [⟨(some 18), .load 32 (.tmp 2), none⟩,
   ⟨none, .store 32 (.tmp 4) (.tmp 18), none⟩])
 .ret)))⟩
def c_rel_Empty : AFunc := ⟨6, [.tmp 2],
 (.seq (.ops [⟨(some 1), .box 32 (.tmp 0), none⟩,
   ⟨(some 2), .mv (.const (.bool false)), none⟩])
 (.seq (.ops [⟨(some 3), .load 32 (.tmp 1), none⟩,
   ⟨(some 4), .build (List.replicate 32 (.int .u32 0)) [], none⟩,
   ⟨(some 5), .eqAgg false (List.replicate 32 .int) (.tmp 3) (.tmp 4), none⟩,
   ⟨(some 2), .mv (.tmp 5), none⟩])
 .ret))⟩
def c_rel_Id : AFunc := ⟨16, [.cells 2 32],
 (.seq (.ops [⟨(some 2), .alloc (List.replicate 32 (.int .u32 0)), none⟩])
 (.seq (.ops [⟨(some 3), .alloc (List.replicate 32 (.int .u32 0)), none⟩])
 (.seq (.seq (.ops [⟨(some 5), .mv (.const (.int .i64 0)), none⟩])
 (.block 0 (.loop (.seq (.ops [⟨(some 6), .bin .lss (.tmp 5) (.const (.int .i64 32)), none⟩])
   (.seq (.cond (.tmp 6) .skip (.exit 0))
   (.seq (.block 1 (.seq (.ops [⟨(some 7), .mv (.tmp 5), none⟩,
      ⟨(some 4), .mv (.tmp 7), none⟩])
    (.ops [⟨(some 8), .mv (.tmp 4), none⟩,
      ⟨(some 9), .mv (.tmp 0), none⟩,
      ⟨(some 10), .mv (.tmp 4), none⟩,
      ⟨(some 11), .bin .shl (.const (.int .u32 1)) (.tmp 10), none⟩,
      ⟨(some 12), .bin .and (.tmp 9) (.tmp 11), none⟩,
      ⟨(some 13), .atArr 32 1 (.tmp 3) (.tmp 8), none⟩,
      ⟨none, .store1 (.tmp 13) (.tmp 12), none⟩])))
   (.ops [⟨(some 14), .bin .add (.tmp 5) (.const (.int .i64 1)), none⟩,
     ⟨(some 5), .mv (.tmp 14), none⟩])))))))
 (.seq (.ops [⟨(some 15), .load 32 (.tmp 3), none⟩,
   ⟨none, .store 32 (.tmp 2) (.tmp 15), none⟩])
 .ret))))⟩
def c_rel_First : AFunc := ⟨9, [.tmp 2],
 (.seq (.ops [⟨(some 2), .mv (.const (.int .u32 0)), none⟩])
 (.seq (.seq (.ops [⟨(some 3), .mv (.tmp 0), none⟩,
   ⟨(some 4), .bin .geq (.tmp 3) (.const (.int .i64 32)), none⟩])
 (.cond (.tmp 4) (.seq (.ops [⟨(some 2), .mv (.const (.int .u32 4294967295)), none⟩])
 .ret) .skip))
 (.seq (.ops [⟨(some 5), .mv (.tmp 0), none⟩,
   ⟨(some 6), .max2 (.tmp 5) (.const (.int .i64 0)), none⟩,
   ⟨(some 7), .bin .shl (.const (.int .u32 1)) (.tmp 6), none⟩,
   ⟨(some 8), .bin .sub (.tmp 7) (.const (.int .u32 1)), none⟩,
   ⟨(some 2), .mv (.tmp 8), none⟩])
 .ret)))⟩
def c_rel_Plus : AFunc := ⟨27, [.cells 2 32],
 (.seq (.ops [⟨(some 1), .box 32 (.tmp 0), none⟩,
   ⟨(some 2), .alloc (List.replicate 32 (.int .u32 0)), none⟩])
 (.seq (.seq (.ops [⟨(some 5), .mv (.const (.int .i64 0)), none⟩])
 (.block 0 (.loop (.seq (.ops [⟨(some 6), .bin .lss (.tmp 5) (.const (.int .i64 32)), none⟩])
   (.seq (.cond (.tmp 6) .skip (.exit 0))
   (.seq (.block 1 (.seq (.ops [⟨(some 7), .mv (.tmp 5), none⟩,
      ⟨(some 3), .mv (.tmp 7), none⟩])
    (.seq (.ops [⟨(some 8), .mv (.const (.int .i64 0)), none⟩])
    (.block 2 (.loop (.seq (.ops [⟨(some 9), .bin .lss (.tmp 8) (.const (.int .i64 32)), none⟩])
      (.seq (.cond (.tmp 9) .skip (.exit 2))
      (.seq (.block 3 (.seq (.ops [⟨(some 10), .mv (.tmp 8), none⟩,
         ⟨(some 4), .mv (.tmp 10), none⟩])
       (.seq (.ops [⟨(some 11), .mv (.tmp 4), none⟩,
         ⟨(some 12), .atArr 32 1 (.tmp 1) (.tmp 11), none⟩,
         ⟨(some 13), .load1 (.tmp 12), none⟩,
         ⟨(some 14), .mv (.tmp 3), none⟩,
         ⟨(some 15), .call n_rel_has [(.tmp 13), (.tmp 14)], none⟩])
       (.cond (.tmp 15) (.ops [⟨(some 16), .mv (.tmp 4), none⟩,
         ⟨(some 17), .atArr 32 1 (.tmp 1) (.tmp 16), none⟩,
         ⟨(some 18), .load1 (.tmp 17), none⟩,
         ⟨(some 19), .mv (.tmp 3), none⟩,
         ⟨(some 20), .atArr 32 1 (.tmp 1) (.tmp 19), none⟩,
         ⟨(some 21), .load1 (.tmp 20), none⟩,
         ⟨(some 22), .bin .or (.tmp 18) (.tmp 21), none⟩,
         ⟨(some 23), .atArr 32 1 (.tmp 1) (.tmp 16), none⟩,
         ⟨none, .store1 (.tmp 23) (.tmp 22), none⟩]) .skip))))
      (.ops [⟨(some 24), .bin .add (.tmp 8) (.const (.int .i64 1)), none⟩,
        ⟨(some 8), .mv (.tmp 24), none⟩])))))))))
   (.ops [⟨(some 25), .bin .add (.tmp 5) (.const (.int .i64 1)), none⟩,
     ⟨(some 5), .mv (.tmp 25), none⟩])))))))
 (.seq (.ops [⟨(some 26), .load 32 (.tmp 1), none⟩,
   ⟨none, .store 32 (.tmp 2) (.tmp 26), none⟩])
 .ret)))⟩
def c_belatedref2_Plus : AFunc := ⟨46, [.cells 2 32],
 (.seq (.ops [⟨(some 1), .box 32 (.tmp 0), none⟩,
   ⟨(some 2), .alloc (List.replicate 32 (.int .u32 0)), none⟩])
 (.seq (.ops [⟨(some 7), .load 32 (.tmp 1), none⟩,
   ⟨(some 8), .call n_belatedref2_Of [(.tmp 7)], none⟩,
   ⟨(some 3), .alloc (List.replicate 1024 (.bool false)), none⟩,
   ⟨none, .store 1024 (.tmp 3) (.tmp 8), none⟩])
 (.seq (.seq (.ops [⟨(some 4), .mv (.const (.int .i64 0)), none⟩])
 (.block 0 (.loop (.seq (.seq (.ops [⟨(some 9), .mv (.tmp 4), none⟩,
     ⟨(some 10), .bin .lss (.tmp 9) (.const (.int .i64 32)), none⟩])
   (.cond (.tmp 10) .skip (.exit 0)))
   (.seq (.block 1 (.seq (.ops [⟨(some 5), .mv (.const (.int .i64 0)), none⟩])
    (.block 2 (.loop (.seq (.seq (.ops [⟨(some 13), .mv (.tmp 5), none⟩,
        ⟨(some 14), .bin .lss (.tmp 13) (.const (.int .i64 32)), none⟩])
      (.cond (.tmp 14) .skip (.exit 2)))
      (.seq (.block 3 (.seq (.ops [⟨(some 6), .mv (.const (.int .i64 0)), none⟩])
       (.block 4 (.loop (.seq (.seq (.ops [⟨(some 17), .mv (.tmp 6), none⟩,
           ⟨(some 18), .bin .lss (.tmp 17) (.const (.int .i64 32)), none⟩])
         (.cond (.tmp 18) .skip (.exit 4)))
         (.seq (.block 5 (.ops [⟨(some 21), .mv (.tmp 5), none⟩,
            ⟨(some 22), .mv (.tmp 6), none⟩,
            ⟨(some 23), .mv (.tmp 5), none⟩,
            ⟨(some 24), .mv (.tmp 6), none⟩,
            ⟨(some 25), .atArr 32 32 (.tmp 3) (.tmp 23), none⟩,
            ⟨(some 26), .atArr 32 1 (.tmp 25) (.tmp 24), none⟩,
            ⟨(some 27), .load1 (.tmp 26), none⟩,
            ⟨(some 28), .mv (.tmp 27), none⟩,
            ⟨(some 29), .mv (.tmp 5), (some (28, false))⟩,
            ⟨(some 30), .mv (.tmp 4), (some (28, false))⟩,
            ⟨(some 31), .atArr 32 32 (.tmp 3) (.tmp 29), (some (28, false))⟩,
            ⟨(some 32), .atArr 32 1 (.tmp 31) (.tmp 30), (some (28, false))⟩,
            ⟨(some 33), .load1 (.tmp 32), (some (28, false))⟩,
            ⟨(some 34), .mv (.tmp 33), (some (28, false))⟩,
            ⟨(some 35), .mv (.tmp 4), (some (34, true))⟩,
            ⟨(some 36), .mv (.tmp 6), (some (34, true))⟩,
            ⟨(some 37), .atArr 32 32 (.tmp 3) (.tmp 35), (some (34, true))⟩,
            ⟨(some 38), .atArr 32 1 (.tmp 37) (.tmp 36), (some (34, true))⟩,
            ⟨(some 39), .load1 (.tmp 38), (some (34, true))⟩,
            ⟨(some 40), .pick (.tmp 34) (.tmp 39) (.const (.bool false)), (some (28, false))⟩,
            ⟨(some 41), .pick (.tmp 28) (.const (.bool true)) (.tmp 40), none⟩,
            ⟨(some 42), .atArr 32 32 (.tmp 3) (.tmp 21), none⟩,
            ⟨(some 43), .atArr 32 1 (.tmp 42) (.tmp 22), none⟩,
            ⟨none, .store1 (.tmp 43) (.tmp 41), none⟩]))
         (.ops [⟨(some 19), .mv (.tmp 6), none⟩,
           ⟨(some 20), .bin .add (.tmp 19) (.const (.int .i64 1)), none⟩,
           ⟨(some 6), .mv (.tmp 20), none⟩])))))))
      (.ops [⟨(some 15), .mv (.tmp 5), none⟩,
        ⟨(some 16), .bin .add (.tmp 15) (.const (.int .i64 1)), none⟩,
        ⟨(some 5), .mv (.tmp 16), none⟩])))))))
   (.ops [⟨(some 11), .mv (.tmp 4), none⟩,
     ⟨(some 12), .bin .add (.tmp 11) (.const (.int .i64 1)), none⟩,
     ⟨(some 4), .mv (.tmp 12), none⟩]))))))
 (.seq (.ops [⟨(some 44), .load 1024 (.tmp 3), none⟩,
   ⟨(some 45), .call n_belatedref2_Rel [(.tmp 44)], none⟩,
   ⟨none, .store 32 (.tmp 2) (.tmp 45), none⟩])
 .ret))))⟩
def c_belatedref2_Minus : AFunc := ⟨20, [.cells 4 32],
 (.seq (.ops [⟨(some 2), .box 32 (.tmp 0), none⟩,
   ⟨(some 3), .box 32 (.tmp 1), none⟩,
   ⟨(some 4), .alloc (List.replicate 32 (.int .u32 0)), none⟩])
 (.seq (.seq (.ops [⟨(some 5), .mv (.const (.int .i64 0)), none⟩])
 (.block 0 (.loop (.seq (.seq (.ops [⟨(some 6), .mv (.tmp 5), none⟩,
     ⟨(some 7), .bin .lss (.tmp 6) (.const (.int .i64 32)), none⟩])
   (.cond (.tmp 7) .skip (.exit 0)))
   (.seq (.block 1 (.ops [⟨(some 10), .mv (.tmp 5), none⟩,
      ⟨(some 11), .mv (.tmp 5), none⟩,
      ⟨(some 12), .atArr 32 1 (.tmp 2) (.tmp 11), none⟩,
      ⟨(some 13), .load1 (.tmp 12), none⟩,
      ⟨(some 14), .mv (.tmp 5), none⟩,
      ⟨(some 15), .atArr 32 1 (.tmp 3) (.tmp 14), none⟩,
      ⟨(some 16), .load1 (.tmp 15), none⟩,
      ⟨(some 17), .bin .andNot (.tmp 13) (.tmp 16), none⟩,
      ⟨(some 18), .atArr 32 1 (.tmp 2) (.tmp 10), none⟩,
      ⟨none, .store1 (.tmp 18) (.tmp 17), none⟩]))
   (.ops [⟨(some 8), .mv (.tmp 5), none⟩,
     ⟨(some 9), .bin .add (.tmp 8) (.const (.int .i64 1)), none⟩,
     ⟨(some 5), .mv (.tmp 9), none⟩]))))))
 (.seq (.ops [⟨(some 19), .load 32 (.tmp 2), none⟩,
   ⟨none, .store 32 (.tmp 4) (.tmp 19), none⟩])
 .ret)))⟩
def c_belatedref2_Inverse : AFunc := ⟨28, [.cells 2 32],
 (.seq (.ops [⟨(some 1), .box 32 (.tmp 0), none⟩,
   ⟨(some 2), .alloc (List.replicate 32 (.int .u32 0)), none⟩])
 (.seq (.ops [⟨(some 7), .load 32 (.tmp 1), none⟩,
   ⟨(some 8), .call n_belatedref2_Of [(.tmp 7)], none⟩,
   ⟨(some 3), .alloc (List.replicate 1024 (.bool false)), none⟩,
   ⟨none, .store 1024 (.tmp 3) (.tmp 8), none⟩])
 (.seq (.ops [⟨(some 4), .alloc (List.replicate 1024 (.bool false)), none⟩])
 (.seq (.seq (.ops [⟨(some 5), .mv (.const (.int .i64 0)), none⟩])
 (.block 0 (.loop (.seq (.seq (.ops [⟨(some 9), .mv (.tmp 5), none⟩,
     ⟨(some 10), .bin .lss (.tmp 9) (.const (.int .i64 32)), none⟩])
   (.cond (.tmp 10) .skip (.exit 0)))
   (.seq (.block 1 (.seq (.ops [⟨(some 6), .mv (.const (.int .i64 0)), none⟩])
    (.block 2 (.loop (.seq (.seq (.ops [⟨(some 13), .mv (.tmp 6), none⟩,
        ⟨(some 14), .bin .lss (.tmp 13) (.const (.int .i64 32)), none⟩])
      (.cond (.tmp 14) .skip (.exit 2)))
      (.seq (.block 3 (.ops [⟨(some 17), .mv (.tmp 6), none⟩,
         ⟨(some 18), .mv (.tmp 5), none⟩,
         ⟨(some 19), .mv (.tmp 5), none⟩,
         ⟨(some 20), .mv (.tmp 6), none⟩,
         ⟨(some 21), .atArr 32 32 (.tmp 3) (.tmp 19), none⟩,
         ⟨(some 22), .atArr 32 1 (.tmp 21) (.tmp 20), none⟩,
         ⟨(some 23), .load1 (.tmp 22), none⟩,
         ⟨(some 24), .atArr 32 32 (.tmp 4) (.tmp 17), none⟩,
         ⟨(some 25), .atArr 32 1 (.tmp 24) (.tmp 18), none⟩,
         ⟨none, .store1 (.tmp 25) (.tmp 23), none⟩]))
      (.ops [⟨(some 15), .mv (.tmp 6), none⟩,
        ⟨(some 16), .bin .add (.tmp 15) (.const (.int .i64 1)), none⟩,
        ⟨(some 6), .mv (.tmp 16), none⟩])))))))
   (.ops [⟨(some 11), .mv (.tmp 5), none⟩,
     ⟨(some 12), .bin .add (.tmp 11) (.const (.int .i64 1)), none⟩,
     ⟨(some 5), .mv (.tmp 12), none⟩]))))))
 (.seq (.ops [⟨(some 26), .load 1024 (.tmp 4), none⟩,
   ⟨(some 27), .call n_belatedref2_Rel [(.tmp 26)], none⟩,
   ⟨none, .store 32 (.tmp 2) (.tmp 27), none⟩])
 .ret)))))⟩
def c_rel_Star : AFunc := ⟨11, [.cells 4 32],
 (.seq (.ops [⟨(some 3), .box 32 (.tmp 1), none⟩,
   ⟨(some 4), .alloc (List.replicate 32 (.int .u32 0)), none⟩])
 (.seq (.ops [⟨(some 5), .load 32 (.tmp 3), none⟩,
   ⟨(some 6), .call n_rel_Plus [(.tmp 5)], none⟩,
   ⟨(some 7), .mv (.tmp 0), none⟩,
   ⟨(some 8), .call n_rel_Id [(.tmp 7)], none⟩,
   ⟨(some 9), .mkRow (List.replicate 32 (.int .u32 0)) 2 [(0, 32, (.tmp 6)), (32, 32, (.tmp 8))], none⟩,
   ⟨(some 10), .call n_rel_Union [(.tmp 9)], none⟩,
   ⟨none, .store 32 (.tmp 4) (.tmp 10), none⟩])
 .ret))⟩
def c_belatedref2_Join : AFunc := ⟨20, [.cells 4 32],
 (.seq (.ops [⟨(some 2), .box 32 (.tmp 0), none⟩,
   ⟨(some 3), .box 32 (.tmp 1), none⟩,
   ⟨(some 4), .alloc (List.replicate 32 (.int .u32 0)), none⟩])
 (.seq (.seq (.ops [⟨(some 5), .mv (.const (.int .i64 0)), none⟩])
 (.block 0 (.loop (.seq (.seq (.ops [⟨(some 6), .mv (.tmp 5), none⟩,
     ⟨(some 7), .bin .lss (.tmp 6) (.const (.int .i64 32)), none⟩])
   (.cond (.tmp 7) .skip (.exit 0)))
   (.seq (.block 1 (.ops [⟨(some 10), .mv (.tmp 5), none⟩,
      ⟨(some 11), .mv (.tmp 5), none⟩,
      ⟨(some 12), .atArr 32 1 (.tmp 2) (.tmp 11), none⟩,
      ⟨(some 13), .load1 (.tmp 12), none⟩,
      ⟨(some 14), .mv (.tmp 5), none⟩,
      ⟨(some 15), .atArr 32 1 (.tmp 3) (.tmp 14), none⟩,
      ⟨(some 16), .load1 (.tmp 15), none⟩,
      ⟨(some 17), .bin .or (.tmp 13) (.tmp 16), none⟩,
      ⟨(some 18), .atArr 32 1 (.tmp 2) (.tmp 10), none⟩,
      ⟨none, .store1 (.tmp 18) (.tmp 17), none⟩]))
   (.ops [⟨(some 8), .mv (.tmp 5), none⟩,
     ⟨(some 9), .bin .add (.tmp 8) (.const (.int .i64 1)), none⟩,
     ⟨(some 5), .mv (.tmp 9), none⟩]))))))
 (.seq (.ops [⟨(some 19), .load 32 (.tmp 2), none⟩,
   ⟨none, .store 32 (.tmp 4) (.tmp 19), none⟩])
 .ret)))⟩
def c_belatedref2_Id : AFunc := ⟨16, [.cells 2 32],
 (.seq (.ops [⟨(some 2), .alloc (List.replicate 32 (.int .u32 0)), none⟩])
 (.seq (.ops [⟨(some 3), .alloc (List.replicate 32 (.int .u32 0)), none⟩])
 (.seq (.seq (.ops [⟨(some 4), .mv (.const (.int .i64 0)), none⟩])
 (.block 0 (.loop (.seq (.seq (.ops [⟨(some 5), .mv (.tmp 4), none⟩,
     ⟨(some 6), .bin .lss (.tmp 5) (.const (.int .i64 32)), none⟩])
   (.cond (.tmp 6) .skip (.exit 0)))
   (.seq (.block 1 (.ops [⟨(some 9), .mv (.tmp 4), none⟩,
      ⟨(some 10), .mv (.tmp 0), none⟩,
      ⟨(some 11), .mv (.tmp 4), none⟩,
      ⟨(some 12), .bin .shl (.const (.int .u32 1)) (.tmp 11), none⟩,
      ⟨(some 13), .bin .and (.tmp 10) (.tmp 12), none⟩,
      ⟨(some 14), .atArr 32 1 (.tmp 3) (.tmp 9), none⟩,
      ⟨none, .store1 (.tmp 14) (.tmp 13), none⟩]))
   (.ops [⟨(some 7), .mv (.tmp 4), none⟩,
     ⟨(some 8), .bin .add (.tmp 7) (.const (.int .i64 1)), none⟩,
     ⟨(some 4), .mv (.tmp 8), none⟩]))))))
 (.seq (.ops [⟨(some 15), .load 32 (.tmp 3), none⟩,
   ⟨none, .store 32 (.tmp 2) (.tmp 15), none⟩])
 .ret))))⟩
def c_rel_Maybe : AFunc := ⟨10, [.cells 4 32],
 (.seq (.ops [⟨(some 3), .box 32 (.tmp 1), none⟩,
   ⟨(some 4), .alloc (List.replicate 32 (.int .u32 0)), none⟩])
 (.seq (.ops [⟨(some 5), .load 32 (.tmp 3), none⟩,
   ⟨(some 6), .mv (.tmp 0), none⟩,
   ⟨(some 7), .call n_rel_Id [(.tmp 6)], none⟩,
   ⟨none, .again 32 (.tmp 3) 5, none⟩,
   ⟨(some 8), .mkRow (List.replicate 32 (.int .u32 0)) 2 [(0, 32, (.tmp 5)), (32, 32, (.tmp 7))], none⟩,
   ⟨(some 9), .call n_rel_Union [(.tmp 8)], none⟩,
   ⟨none, .store 32 (.tmp 4) (.tmp 9), none⟩])
 .ret))⟩
def c_rel_Cross : AFunc := ⟨18, [.cells 4 32],
 (.seq (.ops [⟨(some 4), .alloc (List.replicate 32 (.int .u32 0)), none⟩])
 (.seq (.ops [⟨(some 5), .alloc (List.replicate 32 (.int .u32 0)), none⟩])
 (.seq (.seq (.ops [⟨(some 7), .mv (.const (.int .i64 0)), none⟩])
 (.block 0 (.loop (.seq (.ops [⟨(some 8), .bin .lss (.tmp 7) (.const (.int .i64 32)), none⟩])
   (.seq (.cond (.tmp 8) .skip (.exit 0))
   (.seq (.block 1 (.seq (.ops [⟨(some 9), .mv (.tmp 7), none⟩,
      ⟨(some 6), .mv (.tmp 9), none⟩])
    (.seq (.ops [⟨(some 10), .mv (.tmp 0), none⟩,
      ⟨(some 11), .mv (.tmp 6), none⟩,
      ⟨(some 12), .call n_rel_has [(.tmp 10), (.tmp 11)], none⟩])
    (.cond (.tmp 12) (.ops [⟨(some 13), .mv (.tmp 6), none⟩,
      ⟨(some 14), .mv (.tmp 1), none⟩,
      ⟨(some 15), .atArr 32 1 (.tmp 5) (.tmp 13), none⟩,
      ⟨none, .store1 (.tmp 15) (.tmp 14), none⟩]) .skip))))
   (.ops [⟨(some 16), .bin .add (.tmp 7) (.const (.int .i64 1)), none⟩,
     ⟨(some 7), .mv (.tmp 16), none⟩])))))))
 (.seq (.ops [⟨(some 17), .load 32 (.tmp 5), none⟩,
   ⟨none, .store 32 (.tmp 4) (.tmp 17), none⟩])
 .ret))))⟩
def c_rel_Domain : AFunc := ⟨6, [.tmp 2],
 (.seq (.ops [⟨(some 1), .box 32 (.tmp 0), none⟩,
   ⟨(some 2), .mv (.const (.int .u32 0)), none⟩])
 (.seq (.ops [⟨(some 3), .load 32 (.tmp 1), none⟩,
   ⟨(some 4), .call n_rel_Inverse [(.tmp 3)], none⟩,
   ⟨(some 5), .call n_rel_Range [(.tmp 4)], none⟩,
   ⟨(some 2), .mv (.tmp 5), none⟩])
 .ret))⟩
def c_rel_Range : AFunc := ⟨5, [.tmp 2],
 (.seq (.ops [⟨(some 1), .box 32 (.tmp 0), none⟩,
   ⟨(some 2), .mv (.const (.int .u32 0)), none⟩])
 (.seq (.ops [⟨(some 3), .load 32 (.tmp 1), none⟩,
   ⟨(some 4), .call n_rel_next [(.const (.int .u32 4294967295)), (.tmp 3)], none⟩,
   ⟨(some 2), .mv (.tmp 4), none⟩])
 .ret))⟩
def c_rel_Count : AFunc := ⟨16, [.tmp 2],
 (.seq (.ops [⟨(some 1), .box 32 (.tmp 0), none⟩,
   ⟨(some 2), .mv (.const (.int .i64 0)), none⟩])
 (.seq (.ops [⟨(some 3), .mv (.const (.int .i64 0)), none⟩])
 (.seq (.seq (.ops [⟨(some 6), .load 32 (.tmp 1), none⟩,
   ⟨(some 7), .mv (.const (.int .i64 0)), none⟩])
 (.block 0 (.loop (.seq (.ops [⟨(some 8), .bin .lss (.tmp 7) (.const (.int .i64 32)), none⟩])
   (.seq (.cond (.tmp 8) .skip (.exit 0))
   (.seq (.block 1 (.seq (.ops [⟨(some 9), .idxArr 32 1 (.tmp 6) (.tmp 7), none⟩,
      ⟨(some 5), .mv (.tmp 9), none⟩])
    (.ops [⟨(some 10), .mv (.tmp 3), none⟩,
      ⟨(some 11), .mv (.tmp 5), none⟩,
      ⟨(some 12), .call n_math_bits_OnesCount32 [(.tmp 11)], none⟩,
      ⟨(some 13), .bin .add (.tmp 10) (.tmp 12), none⟩,
      ⟨(some 3), .mv (.tmp 13), none⟩])))
   (.ops [⟨(some 14), .bin .add (.tmp 7) (.const (.int .i64 1)), none⟩,
     ⟨(some 7), .mv (.tmp 14), none⟩])))))))
 (.seq (.ops [⟨(some 15), .mv (.tmp 3), none⟩,
   ⟨(some 2), .mv (.tmp 15), none⟩])
 .ret))))⟩
def c_rel_List : AFunc := ⟨17, [.tmp 2],
 (.seq (.ops [⟨(some 2), .mv (.const (.slice none 0 0)), none⟩])
 (.seq (.ops [⟨(some 3), .mv (.const (.slice none 0 0)), none⟩])
 (.seq (.seq (.ops [⟨(some 5), .mv (.const (.int .i64 0)), none⟩])
 (.block 0 (.loop (.seq (.ops [⟨(some 6), .bin .lss (.tmp 5) (.const (.int .i64 32)), none⟩])
   (.seq (.cond (.tmp 6) .skip (.exit 0))
   (.seq (.block 1 (.seq (.ops [⟨(some 7), .mv (.tmp 5), none⟩,
      ⟨(some 4), .mv (.tmp 7), none⟩])
    (.seq (.ops [⟨(some 8), .mv (.tmp 0), none⟩,
      ⟨(some 9), .mv (.tmp 4), none⟩,
      ⟨(some 10), .call n_rel_has [(.tmp 8), (.tmp 9)], none⟩])
    (.cond (.tmp 10) (.ops [⟨(some 11), .mv (.tmp 3), none⟩,
      ⟨(some 12), .mv (.tmp 4), none⟩,
      ⟨(some 13), .mkRow [(.int .i64 0)] 1 [(0, 1, (.tmp 12))], none⟩,
      ⟨(some 14), .append 1 8 (.tmp 11) (.tmp 13), none⟩,
      ⟨(some 3), .mv (.tmp 14), none⟩]) .skip))))
   (.ops [⟨(some 15), .bin .add (.tmp 5) (.const (.int .i64 1)), none⟩,
     ⟨(some 5), .mv (.tmp 15), none⟩])))))))
 (.seq (.ops [⟨(some 16), .mv (.tmp 3), none⟩,
   ⟨(some 2), .mv (.tmp 16), none⟩])
 .ret))))⟩
def c_rel_Events : AFunc := ⟨20, [.tmp 2],
 (.seq (.ops [⟨(some 2), .mv (.const (.int .u32 0)), none⟩])
 (.seq (.ops [⟨(some 3), .mv (.const (.int .u32 0)), none⟩])
 (.seq (.seq (.ops [⟨(some 6), .mv (.tmp 0), none⟩,
   ⟨(some 7), .len (.tmp 6), none⟩,
   ⟨(some 8), .mv (.const (.int .i64 0)), none⟩])
 (.block 0 (.loop (.seq (.ops [⟨(some 9), .bin .lss (.tmp 8) (.tmp 7), none⟩])
   (.seq (.cond (.tmp 9) .skip (.exit 0))
   (.seq (.block 1 (.seq (.ops [⟨(some 10), .atRow 1 (.tmp 6) (.tmp 8), none⟩,
      ⟨(some 11), .load1 (.tmp 10), none⟩,
      ⟨(some 5), .mv (.tmp 11), none⟩])
    (.seq (.ops [⟨(some 12), .mv (.tmp 5), none⟩,
      ⟨(some 13), .call n_rel_event [(.tmp 12)], none⟩])
    (.cond (.tmp 13) (.ops [⟨(some 14), .mv (.tmp 3), none⟩,
      ⟨(some 15), .mv (.tmp 5), none⟩,
      ⟨(some 16), .bin .shl (.const (.int .u32 1)) (.tmp 15), none⟩,
      ⟨(some 17), .bin .or (.tmp 14) (.tmp 16), none⟩,
      ⟨(some 3), .mv (.tmp 17), none⟩]) .skip))))
   (.ops [⟨(some 18), .bin .add (.tmp 8) (.const (.int .i64 1)), none⟩,
     ⟨(some 8), .mv (.tmp 18), none⟩])))))))
 (.seq (.ops [⟨(some 19), .mv (.tmp 3), none⟩,
   ⟨(some 2), .mv (.tmp 19), none⟩])
 .ret))))⟩
def c_belatedlaw2_ints : AFunc := ⟨26, [.tmp 4],
 (.seq (.ops [⟨(some 4), .mv (.const (.bool false)), none⟩])
 (.seq (.seq (.ops [⟨(some 6), .mv (.tmp 0), none⟩,
   ⟨(some 7), .len (.tmp 6), none⟩,
   ⟨(some 8), .mv (.tmp 1), none⟩,
   ⟨(some 9), .len (.tmp 8), none⟩,
   ⟨(some 10), .bin .neq (.tmp 7) (.tmp 9), none⟩])
 (.cond (.tmp 10) (.seq (.ops [⟨(some 4), .mv (.const (.bool false)), none⟩])
 .ret) .skip))
 (.seq (.seq (.ops [⟨(some 5), .mv (.const (.int .i64 0)), none⟩])
 (.block 0 (.loop (.seq (.seq (.ops [⟨(some 11), .mv (.tmp 5), none⟩,
     ⟨(some 12), .mv (.tmp 0), none⟩,
     ⟨(some 13), .len (.tmp 12), none⟩,
     ⟨(some 14), .bin .lss (.tmp 11) (.tmp 13), none⟩])
   (.cond (.tmp 14) .skip (.exit 0)))
   (.seq (.block 1 (.seq (.ops [⟨(some 17), .mv (.tmp 0), none⟩,
      ⟨(some 18), .mv (.tmp 5), none⟩,
      ⟨(some 19), .atRow 1 (.tmp 17) (.tmp 18), none⟩,
      ⟨(some 20), .load1 (.tmp 19), none⟩,
      ⟨(some 21), .mv (.tmp 1), none⟩,
      ⟨(some 22), .mv (.tmp 5), none⟩,
      ⟨(some 23), .atRow 1 (.tmp 21) (.tmp 22), none⟩,
      ⟨(some 24), .load1 (.tmp 23), none⟩,
      ⟨(some 25), .bin .neq (.tmp 20) (.tmp 24), none⟩])
    (.cond (.tmp 25) (.seq (.ops [⟨(some 4), .mv (.const (.bool false)), none⟩])
    .ret) .skip)))
   (.ops [⟨(some 15), .mv (.tmp 5), none⟩,
     ⟨(some 16), .bin .add (.tmp 15) (.const (.int .i64 1)), none⟩,
     ⟨(some 5), .mv (.tmp 16), none⟩]))))))
 (.seq (.ops [⟨(some 4), .mv (.const (.bool true)), none⟩])
 .ret))))⟩
def c_rel_Pair : AFunc := ⟨31, [.cells 2 32],
 (.seq (.ops [⟨(some 2), .alloc (List.replicate 32 (.int .u32 0)), none⟩])
 (.seq (.ops [⟨(some 3), .alloc (List.replicate 32 (.int .u32 0)), none⟩])
 (.seq (.seq (.ops [⟨(some 6), .mv (.tmp 0), none⟩,
   ⟨(some 7), .len (.tmp 6), none⟩,
   ⟨(some 8), .mv (.const (.int .i64 0)), none⟩])
 (.block 0 (.loop (.seq (.ops [⟨(some 9), .bin .lss (.tmp 8) (.tmp 7), none⟩])
   (.seq (.cond (.tmp 9) .skip (.exit 0))
   (.seq (.block 1 (.seq (.ops [⟨(some 10), .atRow 2 (.tmp 6) (.tmp 8), none⟩,
      ⟨(some 11), .load 2 (.tmp 10), none⟩,
      ⟨(some 5), .alloc [(.int .i64 0), (.int .i64 0)], none⟩,
      ⟨none, .store 2 (.tmp 5) (.tmp 11), none⟩])
    (.seq (.ops [⟨(some 12), .atArr 2 1 (.tmp 5) (.const (.int .i64 0)), none⟩,
      ⟨(some 13), .load1 (.tmp 12), none⟩,
      ⟨(some 14), .call n_rel_event [(.tmp 13)], none⟩,
      ⟨(some 15), .mv (.tmp 14), none⟩,
      ⟨(some 16), .atArr 2 1 (.tmp 5) (.const (.int .i64 1)), (some (15, true))⟩,
      ⟨(some 17), .load1 (.tmp 16), (some (15, true))⟩,
      ⟨(some 18), .call n_rel_event [(.tmp 17)], (some (15, true))⟩,
      ⟨(some 19), .pick (.tmp 15) (.tmp 18) (.const (.bool false)), none⟩])
    (.cond (.tmp 19) (.ops [⟨(some 20), .atArr 2 1 (.tmp 5) (.const (.int .i64 0)), none⟩,
      ⟨(some 21), .load1 (.tmp 20), none⟩,
      ⟨(some 22), .atArr 32 1 (.tmp 3) (.tmp 21), none⟩,
      ⟨(some 23), .load1 (.tmp 22), none⟩,
      ⟨(some 24), .atArr 2 1 (.tmp 5) (.const (.int .i64 1)), none⟩,
      ⟨(some 25), .load1 (.tmp 24), none⟩,
      ⟨(some 26), .bin .shl (.const (.int .u32 1)) (.tmp 25), none⟩,
      ⟨(some 27), .bin .or (.tmp 23) (.tmp 26), none⟩,
      ⟨(some 28), .atArr 32 1 (.tmp 3) (.tmp 21), none⟩,
      ⟨none, .store1 (.tmp 28) (.tmp 27), none⟩]) .skip))))
   (.ops [⟨(some 29), .bin .add (.tmp 8) (.const (.int .i64 1)), none⟩,
     ⟨(some 8), .mv (.tmp 29), none⟩])))))))
 (.seq (.ops [⟨(some 30), .load 32 (.tmp 3), none⟩,
   ⟨none, .store 32 (.tmp 2) (.tmp 30), none⟩])
 .ret))))⟩
def c_belatedref2_Cross : AFunc := ⟨18, [.cells 4 32],
 (.seq (.ops [⟨(some 4), .alloc (List.replicate 32 (.int .u32 0)), none⟩])
 (.seq (.ops [⟨(some 5), .alloc (List.replicate 32 (.int .u32 0)), none⟩])
 (.seq (.seq (.ops [⟨(some 6), .mv (.const (.int .i64 0)), none⟩])
 (.block 0 (.loop (.seq (.seq (.ops [⟨(some 7), .mv (.tmp 6), none⟩,
     ⟨(some 8), .bin .lss (.tmp 7) (.const (.int .i64 32)), none⟩])
   (.cond (.tmp 8) .skip (.exit 0)))
   (.seq (.block 1 (.seq (.ops [⟨(some 11), .mv (.tmp 0), none⟩,
      ⟨(some 12), .mv (.tmp 6), none⟩,
      ⟨(some 13), .call n_belatedref2_In [(.tmp 11), (.tmp 12)], none⟩])
    (.cond (.tmp 13) (.ops [⟨(some 14), .mv (.tmp 6), none⟩,
      ⟨(some 15), .mv (.tmp 1), none⟩,
      ⟨(some 16), .atArr 32 1 (.tmp 5) (.tmp 14), none⟩,
      ⟨none, .store1 (.tmp 16) (.tmp 15), none⟩]) .skip)))
   (.ops [⟨(some 9), .mv (.tmp 6), none⟩,
     ⟨(some 10), .bin .add (.tmp 9) (.const (.int .i64 1)), none⟩,
     ⟨(some 6), .mv (.tmp 10), none⟩]))))))
 (.seq (.ops [⟨(some 17), .load 32 (.tmp 5), none⟩,
   ⟨none, .store 32 (.tmp 4) (.tmp 17), none⟩])
 .ret))))⟩
def c_rel_Pairs : AFunc := ⟨29, [.tmp 2],
 (.seq (.ops [⟨(some 1), .box 32 (.tmp 0), none⟩,
   ⟨(some 2), .mv (.const (.slice none 0 0)), none⟩])
 (.seq (.ops [⟨(some 3), .mv (.const (.slice none 0 0)), none⟩])
 (.seq (.seq (.ops [⟨(some 8), .load 32 (.tmp 1), none⟩,
   ⟨(some 9), .mv (.const (.int .i64 0)), none⟩])
 (.block 0 (.loop (.seq (.ops [⟨(some 10), .bin .lss (.tmp 9) (.const (.int .i64 32)), none⟩])
   (.seq (.cond (.tmp 10) .skip (.exit 0))
   (.seq (.block 1 (.seq (.ops [⟨(some 11), .mv (.tmp 9), none⟩,
      ⟨(some 12), .idxArr 32 1 (.tmp 8) (.tmp 9), none⟩,
      ⟨(some 4), .mv (.tmp 11), none⟩,
      ⟨(some 5), .mv (.tmp 12), none⟩])
    (.seq (.ops [⟨(some 13), .mv (.tmp 5), none⟩,
      ⟨(some 14), .call n_rel_List [(.tmp 13)], none⟩,
      ⟨(some 15), .len (.tmp 14), none⟩,
      ⟨(some 16), .mv (.const (.int .i64 0)), none⟩])
    (.block 2 (.loop (.seq (.ops [⟨(some 17), .bin .lss (.tmp 16) (.tmp 15), none⟩])
      (.seq (.cond (.tmp 17) .skip (.exit 2))
      (.seq (.block 3 (.seq (.ops [⟨(some 18), .atRow 1 (.tmp 14) (.tmp 16), none⟩,
         ⟨(some 19), .load1 (.tmp 18), none⟩,
         ⟨(some 7), .mv (.tmp 19), none⟩])
       (.ops [⟨(some 20), .mv (.tmp 3), none⟩,
         ⟨(some 21), .mv (.tmp 4), none⟩,
         ⟨(some 22), .mv (.tmp 7), none⟩,
         ⟨(some 23), .build [(.int .i64 0), (.int .i64 0)] [(0, 1, (.tmp 21)), (1, 1, (.tmp 22))], none⟩,
         ⟨(some 24), .mkRow [(.int .i64 0), (.int .i64 0)] 1 [(0, 2, (.tmp 23))], none⟩,
         ⟨(some 25), .append 2 16 (.tmp 20) (.tmp 24), none⟩,
         ⟨(some 3), .mv (.tmp 25), none⟩])))
      (.ops [⟨(some 26), .bin .add (.tmp 16) (.const (.int .i64 1)), none⟩,
        ⟨(some 16), .mv (.tmp 26), none⟩])))))))))
   (.ops [⟨(some 27), .bin .add (.tmp 9) (.const (.int .i64 1)), none⟩,
     ⟨(some 9), .mv (.tmp 27), none⟩])))))))
 (.seq (.ops [⟨(some 28), .mv (.tmp 3), none⟩,
   ⟨(some 2), .mv (.tmp 28), none⟩])
 .ret))))⟩
def c_belatedref2_Pairs : AFunc := ⟨28, [.tmp 2],
 (.seq (.ops [⟨(some 1), .box 32 (.tmp 0), none⟩,
   ⟨(some 2), .mv (.const (.slice none 0 0)), none⟩])
 (.seq (.ops [⟨(some 3), .mv (.const (.slice none 0 0)), none⟩])
 (.seq (.seq (.ops [⟨(some 4), .mv (.const (.int .i64 0)), none⟩])
 (.block 0 (.loop (.seq (.seq (.ops [⟨(some 6), .mv (.tmp 4), none⟩,
     ⟨(some 7), .bin .lss (.tmp 6) (.const (.int .i64 32)), none⟩])
   (.cond (.tmp 7) .skip (.exit 0)))
   (.seq (.block 1 (.seq (.ops [⟨(some 5), .mv (.const (.int .i64 0)), none⟩])
    (.block 2 (.loop (.seq (.seq (.ops [⟨(some 10), .mv (.tmp 5), none⟩,
        ⟨(some 11), .bin .lss (.tmp 10) (.const (.int .i64 32)), none⟩])
      (.cond (.tmp 11) .skip (.exit 2)))
      (.seq (.block 3 (.seq (.ops [⟨(some 14), .mv (.tmp 4), none⟩,
         ⟨(some 15), .atArr 32 1 (.tmp 1) (.tmp 14), none⟩,
         ⟨(some 16), .load1 (.tmp 15), none⟩,
         ⟨(some 17), .mv (.tmp 5), none⟩,
         ⟨(some 18), .bin .shr (.tmp 16) (.tmp 17), none⟩,
         ⟨(some 19), .bin .and (.tmp 18) (.const (.int .u32 1)), none⟩,
         ⟨(some 20), .bin .eql (.tmp 19) (.const (.int .u32 1)), none⟩])
       (.cond (.tmp 20) (.ops [⟨(some 21), .mv (.tmp 3), none⟩,
         ⟨(some 22), .mv (.tmp 4), none⟩,
         ⟨(some 23), .mv (.tmp 5), none⟩,
         ⟨(some 24), .build [(.int .i64 0), (.int .i64 0)] [(0, 1, (.tmp 22)), (1, 1, (.tmp 23))], none⟩,
         ⟨(some 25), .mkRow [(.int .i64 0), (.int .i64 0)] 1 [(0, 2, (.tmp 24))], none⟩,
         ⟨(some 26), .append 2 16 (.tmp 21) (.tmp 25), none⟩,
         ⟨(some 3), .mv (.tmp 26), none⟩]) .skip)))
      (.ops [⟨(some 12), .mv (.tmp 5), none⟩,
        ⟨(some 13), .bin .add (.tmp 12) (.const (.int .i64 1)), none⟩,
        ⟨(some 5), .mv (.tmp 13), none⟩])))))))
   (.ops [⟨(some 8), .mv (.tmp 4), none⟩,
     ⟨(some 9), .bin .add (.tmp 8) (.const (.int .i64 1)), none⟩,
     ⟨(some 4), .mv (.tmp 9), none⟩]))))))
 (.seq (.ops [⟨(some 27), .mv (.tmp 3), none⟩,
   ⟨(some 2), .mv (.tmp 27), none⟩])
 .ret))))⟩
def c_rel_Has : AFunc := ⟨20, [.tmp 6],
 (.seq (.ops [⟨(some 3), .box 32 (.tmp 0), none⟩,
   ⟨(some 6), .mv (.const (.bool false)), none⟩])
 (.seq (.ops [⟨(some 7), .mv (.tmp 1), none⟩,
   ⟨(some 8), .call n_rel_event [(.tmp 7)], none⟩,
   ⟨(some 9), .mv (.tmp 8), none⟩,
   ⟨(some 10), .mv (.tmp 2), (some (9, true))⟩,
   ⟨(some 11), .call n_rel_event [(.tmp 10)], (some (9, true))⟩,
   ⟨(some 12), .pick (.tmp 9) (.tmp 11) (.const (.bool false)), none⟩,
   ⟨(some 13), .mv (.tmp 12), none⟩,
   ⟨(some 14), .mv (.tmp 1), (some (13, true))⟩,
   ⟨(some 15), .atArr 32 1 (.tmp 3) (.tmp 14), (some (13, true))⟩,
   ⟨(some 16), .load1 (.tmp 15), (some (13, true))⟩,
   ⟨(some 17), .mv (.tmp 2), (some (13, true))⟩,
   ⟨(some 18), .call n_rel_has [(.tmp 16), (.tmp 17)], (some (13, true))⟩,
   ⟨(some 19), .pick (.tmp 13) (.tmp 18) (.const (.bool false)), none⟩,
   ⟨(some 6), .mv (.tmp 19), none⟩])
 .ret))⟩
def c_rel_Irreflexive : AFunc := ⟨8, [.tmp 2],
 (.seq (.ops [⟨(some 1), .box 32 (.tmp 0), none⟩,
   ⟨(some 2), .mv (.const (.bool false)), none⟩])
 (.seq (.ops [⟨(some 3), .load 32 (.tmp 1), none⟩,
   ⟨(some 4), .call n_rel_Id [(.const (.int .u32 4294967295))], none⟩,
   ⟨none, .again 32 (.tmp 1) 3, none⟩,
   ⟨(some 5), .mkRow (List.replicate 32 (.int .u32 0)) 2 [(0, 32, (.tmp 3)), (32, 32, (.tmp 4))], none⟩,
   ⟨(some 6), .call n_rel_Meet [(.tmp 5)], none⟩,
   ⟨(some 7), .call n_rel_Empty [(.tmp 6)], none⟩,
   ⟨(some 2), .mv (.tmp 7), none⟩])
 .ret))⟩
def c_belatedref2_Irreflexive : AFunc := ⟨15, [.tmp 2],
 (.seq (.ops [⟨(some 1), .box 32 (.tmp 0), none⟩,
   ⟨(some 2), .mv (.const (.bool false)), none⟩])
 (.seq (.seq (.ops [⟨(some 3), .mv (.const (.int .i64 0)), none⟩])
 (.block 0 (.loop (.seq (.seq (.ops [⟨(some 4), .mv (.tmp 3), none⟩,
     ⟨(some 5), .bin .lss (.tmp 4) (.const (.int .i64 32)), none⟩])
   (.cond (.tmp 5) .skip (.exit 0)))
   (.seq (.block 1 (.seq (.ops [⟨(some 8), .mv (.tmp 3), none⟩,
      ⟨(some 9), .atArr 32 1 (.tmp 1) (.tmp 8), none⟩,
      ⟨(some 10), .load1 (.tmp 9), none⟩,
      ⟨(some 11), .mv (.tmp 3), none⟩,
      ⟨(some 12), .bin .shr (.tmp 10) (.tmp 11), none⟩,
      ⟨(some 13), .bin .and (.tmp 12) (.const (.int .u32 1)), none⟩,
      ⟨(some 14), .bin .eql (.tmp 13) (.const (.int .u32 1)), none⟩])
    (.cond (.tmp 14) (.seq (.ops [⟨(some 2), .mv (.const (.bool false)), none⟩])
    .ret) .skip)))
   (.ops [⟨(some 6), .mv (.tmp 3), none⟩,
     ⟨(some 7), .bin .add (.tmp 6) (.const (.int .i64 1)), none⟩,
     ⟨(some 3), .mv (.tmp 7), none⟩]))))))
 (.seq (.ops [⟨(some 2), .mv (.const (.bool true)), none⟩])
 .ret)))⟩
def c_rel_Acyclic : AFunc := ⟨6, [.tmp 2],
 (.seq (.ops [⟨(some 1), .box 32 (.tmp 0), none⟩,
   ⟨(some 2), .mv (.const (.bool false)), none⟩])
 (.seq (.ops [⟨(some 3), .load 32 (.tmp 1), none⟩,
   ⟨(some 4), .call n_rel_Plus [(.tmp 3)], none⟩,
   ⟨(some 5), .call n_rel_Irreflexive [(.tmp 4)], none⟩,
   ⟨(some 2), .mv (.tmp 5), none⟩])
 .ret))⟩
def c_belatedref2_Acyclic : AFunc := ⟨6, [.tmp 2],
 (.seq (.ops [⟨(some 1), .box 32 (.tmp 0), none⟩,
   ⟨(some 2), .mv (.const (.bool false)), none⟩])
 (.seq (.ops [⟨(some 3), .load 32 (.tmp 1), none⟩,
   ⟨(some 4), .call n_belatedref2_Plus [(.tmp 3)], none⟩,
   ⟨(some 5), .call n_belatedref2_Irreflexive [(.tmp 4)], none⟩,
   ⟨(some 2), .mv (.tmp 5), none⟩])
 .ret))⟩
def c_rel_next : AFunc := ⟨20, [.tmp 4],
 (.seq (.ops [⟨(some 3), .box 32 (.tmp 1), none⟩,
   ⟨(some 4), .mv (.const (.int .u32 0)), none⟩])
 (.seq (.ops [⟨(some 5), .mv (.const (.int .u32 0)), none⟩])
 (.seq (.seq (.ops [⟨(some 7), .mv (.const (.int .i64 0)), none⟩])
 (.block 0 (.loop (.seq (.ops [⟨(some 8), .bin .lss (.tmp 7) (.const (.int .i64 32)), none⟩])
   (.seq (.cond (.tmp 8) .skip (.exit 0))
   (.seq (.block 1 (.seq (.ops [⟨(some 9), .mv (.tmp 7), none⟩,
      ⟨(some 6), .mv (.tmp 9), none⟩])
    (.seq (.ops [⟨(some 10), .mv (.tmp 0), none⟩,
      ⟨(some 11), .mv (.tmp 6), none⟩,
      ⟨(some 12), .call n_rel_has [(.tmp 10), (.tmp 11)], none⟩])
    (.cond (.tmp 12) (.ops [⟨(some 13), .mv (.tmp 5), none⟩,
      ⟨(some 14), .mv (.tmp 6), none⟩,
      ⟨(some 15), .atArr 32 1 (.tmp 3) (.tmp 14), none⟩,
      ⟨(some 16), .load1 (.tmp 15), none⟩,
      ⟨(some 17), .bin .or (.tmp 13) (.tmp 16), none⟩,
      ⟨(some 5), .mv (.tmp 17), none⟩]) .skip))))
   (.ops [⟨(some 18), .bin .add (.tmp 7) (.const (.int .i64 1)), none⟩,
     ⟨(some 7), .mv (.tmp 18), none⟩])))))))
 (.seq (.ops [⟨(some 19), .mv (.tmp 5), none⟩,
   ⟨(some 4), .mv (.tmp 19), none⟩])
 .ret))))⟩
def c_belatedref2_Of : AFunc := ⟨26, [.cells 2 1024],
 (.seq (.ops [⟨(some 1), .box 32 (.tmp 0), none⟩,
   ⟨(some 2), .alloc (List.replicate 1024 (.bool false)), none⟩])
 (.seq (.ops [⟨(some 3), .alloc (List.replicate 1024 (.bool false)), none⟩])
 (.seq (.seq (.ops [⟨(some 4), .mv (.const (.int .i64 0)), none⟩])
 (.block 0 (.loop (.seq (.seq (.ops [⟨(some 6), .mv (.tmp 4), none⟩,
     ⟨(some 7), .bin .lss (.tmp 6) (.const (.int .i64 32)), none⟩])
   (.cond (.tmp 7) .skip (.exit 0)))
   (.seq (.block 1 (.seq (.ops [⟨(some 5), .mv (.const (.int .i64 0)), none⟩])
    (.block 2 (.loop (.seq (.seq (.ops [⟨(some 10), .mv (.tmp 5), none⟩,
        ⟨(some 11), .bin .lss (.tmp 10) (.const (.int .i64 32)), none⟩])
      (.cond (.tmp 11) .skip (.exit 2)))
      (.seq (.block 3 (.ops [⟨(some 14), .mv (.tmp 4), none⟩,
         ⟨(some 15), .mv (.tmp 5), none⟩,
         ⟨(some 16), .mv (.tmp 4), none⟩,
         ⟨(some 17), .atArr 32 1 (.tmp 1) (.tmp 16), none⟩,
         ⟨(some 18), .load1 (.tmp 17), none⟩,
         ⟨(some 19), .mv (.tmp 5), none⟩,
         ⟨(some 20), .bin .shr (.tmp 18) (.tmp 19), none⟩,
         ⟨(some 21), .bin .and (.tmp 20) (.const (.int .u32 1)), none⟩,
         ⟨(some 22), .bin .eql (.tmp 21) (.const (.int .u32 1)), none⟩,
         ⟨(some 23), .atArr 32 32 (.tmp 3) (.tmp 14), none⟩,
         ⟨(some 24), .atArr 32 1 (.tmp 23) (.tmp 15), none⟩,
         ⟨none, .store1 (.tmp 24) (.tmp 22), none⟩]))
      (.ops [⟨(some 12), .mv (.tmp 5), none⟩,
        ⟨(some 13), .bin .add (.tmp 12) (.const (.int .i64 1)), none⟩,
        ⟨(some 5), .mv (.tmp 13), none⟩])))))))
   (.ops [⟨(some 8), .mv (.tmp 4), none⟩,
     ⟨(some 9), .bin .add (.tmp 8) (.const (.int .i64 1)), none⟩,
     ⟨(some 4), .mv (.tmp 9), none⟩]))))))
 (.seq (.ops [⟨(some 25), .load 1024 (.tmp 3), none⟩,
   ⟨none, .store 1024 (.tmp 2) (.tmp 25), none⟩])
 .ret))))⟩
def c_belatedref2_Rel : AFunc := ⟨28, [.cells 2 32],
 (.seq (.ops [⟨(some 1), .box 1024 (.tmp 0), none⟩,
   ⟨(some 2), .alloc (List.replicate 32 (.int .u32 0)), none⟩])
 (.seq (.ops [⟨(some 3), .alloc (List.replicate 32 (.int .u32 0)), none⟩])
 (.seq (.seq (.ops [⟨(some 4), .mv (.const (.int .i64 0)), none⟩])
 (.block 0 (.loop (.seq (.seq (.ops [⟨(some 6), .mv (.tmp 4), none⟩,
     ⟨(some 7), .bin .lss (.tmp 6) (.const (.int .i64 32)), none⟩])
   (.cond (.tmp 7) .skip (.exit 0)))
   (.seq (.block 1 (.seq (.ops [⟨(some 5), .mv (.const (.int .i64 0)), none⟩])
    (.block 2 (.loop (.seq (.seq (.ops [⟨(some 10), .mv (.tmp 5), none⟩,
        ⟨(some 11), .bin .lss (.tmp 10) (.const (.int .i64 32)), none⟩])
      (.cond (.tmp 11) .skip (.exit 2)))
      (.seq (.block 3 (.seq (.ops [⟨(some 14), .mv (.tmp 4), none⟩,
         ⟨(some 15), .mv (.tmp 5), none⟩,
         ⟨(some 16), .atArr 32 32 (.tmp 1) (.tmp 14), none⟩,
         ⟨(some 17), .atArr 32 1 (.tmp 16) (.tmp 15), none⟩,
         ⟨(some 18), .load1 (.tmp 17), none⟩])
       (.cond (.tmp 18) (.ops [⟨(some 19), .mv (.tmp 4), none⟩,
         ⟨(some 20), .mv (.tmp 4), none⟩,
         ⟨(some 21), .atArr 32 1 (.tmp 3) (.tmp 20), none⟩,
         ⟨(some 22), .load1 (.tmp 21), none⟩,
         ⟨(some 23), .mv (.tmp 5), none⟩,
         ⟨(some 24), .bin .shl (.const (.int .u32 1)) (.tmp 23), none⟩,
         ⟨(some 25), .bin .or (.tmp 22) (.tmp 24), none⟩,
         ⟨(some 26), .atArr 32 1 (.tmp 3) (.tmp 19), none⟩,
         ⟨none, .store1 (.tmp 26) (.tmp 25), none⟩]) .skip)))
      (.ops [⟨(some 12), .mv (.tmp 5), none⟩,
        ⟨(some 13), .bin .add (.tmp 12) (.const (.int .i64 1)), none⟩,
        ⟨(some 5), .mv (.tmp 13), none⟩])))))))
   (.ops [⟨(some 8), .mv (.tmp 4), none⟩,
     ⟨(some 9), .bin .add (.tmp 8) (.const (.int .i64 1)), none⟩,
     ⟨(some 4), .mv (.tmp 9), none⟩]))))))
 (.seq (.ops [⟨(some 27), .load 32 (.tmp 3), none⟩,
   ⟨none, .store 32 (.tmp 2) (.tmp 27), none⟩])
 .ret))))⟩
def c_belatedref2_Two : AFunc := ⟨33, [.cells 4 32],
 (.seq (.ops [⟨(some 2), .box 32 (.tmp 0), none⟩,
   ⟨(some 3), .box 32 (.tmp 1), none⟩,
   ⟨(some 4), .alloc (List.replicate 32 (.int .u32 0)), none⟩])
 (.seq (.ops [⟨(some 5), .alloc (List.replicate 32 (.int .u32 0)), none⟩])
 (.seq (.seq (.ops [⟨(some 6), .mv (.const (.int .i64 0)), none⟩])
 (.block 0 (.loop (.seq (.seq (.ops [⟨(some 8), .mv (.tmp 6), none⟩,
     ⟨(some 9), .bin .lss (.tmp 8) (.const (.int .i64 32)), none⟩])
   (.cond (.tmp 9) .skip (.exit 0)))
   (.seq (.block 1 (.seq (.ops [⟨(some 7), .mv (.const (.int .i64 0)), none⟩])
    (.block 2 (.loop (.seq (.seq (.ops [⟨(some 12), .mv (.tmp 7), none⟩,
        ⟨(some 13), .bin .lss (.tmp 12) (.const (.int .i64 32)), none⟩])
      (.cond (.tmp 13) .skip (.exit 2)))
      (.seq (.block 3 (.seq (.ops [⟨(some 16), .mv (.tmp 6), none⟩,
         ⟨(some 17), .atArr 32 1 (.tmp 2) (.tmp 16), none⟩,
         ⟨(some 18), .load1 (.tmp 17), none⟩,
         ⟨(some 19), .mv (.tmp 7), none⟩,
         ⟨(some 20), .bin .shr (.tmp 18) (.tmp 19), none⟩,
         ⟨(some 21), .bin .and (.tmp 20) (.const (.int .u32 1)), none⟩,
         ⟨(some 22), .bin .eql (.tmp 21) (.const (.int .u32 1)), none⟩])
       (.cond (.tmp 22) (.ops [⟨(some 23), .mv (.tmp 6), none⟩,
         ⟨(some 24), .mv (.tmp 6), none⟩,
         ⟨(some 25), .atArr 32 1 (.tmp 5) (.tmp 24), none⟩,
         ⟨(some 26), .load1 (.tmp 25), none⟩,
         ⟨(some 27), .mv (.tmp 7), none⟩,
         ⟨(some 28), .atArr 32 1 (.tmp 3) (.tmp 27), none⟩,
         ⟨(some 29), .load1 (.tmp 28), none⟩,
         ⟨(some 30), .bin .or (.tmp 26) (.tmp 29), none⟩,
         ⟨(some 31), .atArr 32 1 (.tmp 5) (.tmp 23), none⟩,
         ⟨none, .store1 (.tmp 31) (.tmp 30), none⟩]) .skip)))
      (.ops [⟨(some 14), .mv (.tmp 7), none⟩,
        ⟨(some 15), .bin .add (.tmp 14) (.const (.int .i64 1)), none⟩,
        ⟨(some 7), .mv (.tmp 15), none⟩])))))))
   (.ops [⟨(some 10), .mv (.tmp 6), none⟩,
     ⟨(some 11), .bin .add (.tmp 10) (.const (.int .i64 1)), none⟩,
     ⟨(some 6), .mv (.tmp 11), none⟩]))))))
 (.seq (.ops [⟨(some 32), .load 32 (.tmp 5), none⟩,
   ⟨none, .store 32 (.tmp 4) (.tmp 32), none⟩])
 .ret))))⟩
def c_rel_has : AFunc := ⟨10, [.tmp 4],
 (.seq (.ops [⟨(some 4), .mv (.const (.bool false)), none⟩])
 (.seq (.ops [⟨(some 5), .mv (.tmp 0), none⟩,
   ⟨(some 6), .mv (.tmp 1), none⟩,
   ⟨(some 7), .bin .shr (.tmp 5) (.tmp 6), none⟩,
   ⟨(some 8), .bin .and (.tmp 7) (.const (.int .u32 1)), none⟩,
   ⟨(some 9), .bin .eql (.tmp 8) (.const (.int .u32 1)), none⟩,
   ⟨(some 4), .mv (.tmp 9), none⟩])
 .ret))⟩
def c_math_bits_OnesCount32 : AFunc := ⟨21, [.tmp 2],
 (.seq (.ops [⟨(some 2), .mv (.const (.int .i64 0)), none⟩])
 (.seq (.ops [⟨(some 3), .mv (.tmp 0), none⟩,
   ⟨(some 4), .bin .shr (.tmp 3) (.const (.int .u64 24)), none⟩,
   ⟨(some 5), .idxStr (.const (.string s_256_1024)) (.tmp 4), none⟩,
   ⟨(some 6), .mv (.tmp 0), none⟩,
   ⟨(some 7), .bin .shr (.tmp 6) (.const (.int .u64 16)), none⟩,
   ⟨(some 8), .bin .and (.tmp 7) (.const (.int .u32 255)), none⟩,
   ⟨(some 9), .idxStr (.const (.string s_256_1024)) (.tmp 8), none⟩,
   ⟨(some 10), .bin .add (.tmp 5) (.tmp 9), none⟩,
   ⟨(some 11), .mv (.tmp 0), none⟩,
   ⟨(some 12), .bin .shr (.tmp 11) (.const (.int .u64 8)), none⟩,
   ⟨(some 13), .bin .and (.tmp 12) (.const (.int .u32 255)), none⟩,
   ⟨(some 14), .idxStr (.const (.string s_256_1024)) (.tmp 13), none⟩,
   ⟨(some 15), .bin .add (.tmp 10) (.tmp 14), none⟩,
   ⟨(some 16), .mv (.tmp 0), none⟩,
   ⟨(some 17), .bin .and (.tmp 16) (.const (.int .u32 255)), none⟩,
   ⟨(some 18), .idxStr (.const (.string s_256_1024)) (.tmp 17), none⟩,
   ⟨(some 19), .bin .add (.tmp 15) (.tmp 18), none⟩,
   ⟨(some 20), .conv .i64 (.tmp 19), none⟩,
   ⟨(some 2), .mv (.tmp 20), none⟩])
 .ret))⟩
def c_rel_event : AFunc := ⟨9, [.tmp 2],
 (.seq (.ops [⟨(some 2), .mv (.const (.bool false)), none⟩])
 (.seq (.ops [⟨(some 3), .mv (.tmp 0), none⟩,
   ⟨(some 4), .bin .geq (.tmp 3) (.const (.int .i64 0)), none⟩,
   ⟨(some 5), .mv (.tmp 4), none⟩,
   ⟨(some 6), .mv (.tmp 0), (some (5, true))⟩,
   ⟨(some 7), .bin .lss (.tmp 6) (.const (.int .i64 32)), (some (5, true))⟩,
   ⟨(some 8), .pick (.tmp 5) (.tmp 7) (.const (.bool false)), none⟩,
   ⟨(some 2), .mv (.tmp 8), none⟩])
 .ret))⟩
def c_belatedref2_In : AFunc := ⟨18, [.tmp 4],
 (.seq (.ops [⟨(some 4), .mv (.const (.bool false)), none⟩])
 (.seq (.ops [⟨(some 5), .mv (.tmp 1), none⟩,
   ⟨(some 6), .bin .geq (.tmp 5) (.const (.int .i64 0)), none⟩,
   ⟨(some 7), .mv (.tmp 6), none⟩,
   ⟨(some 8), .mv (.tmp 1), (some (7, true))⟩,
   ⟨(some 9), .bin .lss (.tmp 8) (.const (.int .i64 32)), (some (7, true))⟩,
   ⟨(some 10), .pick (.tmp 7) (.tmp 9) (.const (.bool false)), none⟩,
   ⟨(some 11), .mv (.tmp 10), none⟩,
   ⟨(some 12), .mv (.tmp 0), (some (11, true))⟩,
   ⟨(some 13), .mv (.tmp 1), (some (11, true))⟩,
   ⟨(some 14), .bin .shr (.tmp 12) (.tmp 13), (some (11, true))⟩,
   ⟨(some 15), .bin .and (.tmp 14) (.const (.int .u32 1)), (some (11, true))⟩,
   ⟨(some 16), .bin .eql (.tmp 15) (.const (.int .u32 1)), (some (11, true))⟩,
   ⟨(some 17), .pick (.tmp 11) (.tmp 16) (.const (.bool false)), none⟩,
   ⟨(some 4), .mv (.tmp 17), none⟩])
 .ret))⟩
/-- The orders laid down. -/
def ords : List (Nat × List (Nat × List Nat)) := [(3, [(6, [0, 1, 2, 3, 5, 6, 7, 8, 10, 11, 12, 13, 15, 16, 17, 4, 9, 14, 18, 19, 20])]), (4, [(3, [0, 1, 2, 4, 7, 8, 9, 10, 3, 5, 6, 11, 12, 13, 14, 15, 16, 17, 18, 19, 21, 22, 23, 25, 20, 24, 26, 27, 28, 29, 30, 31, 32, 33, 36, 38, 34, 35, 37, 39, 40, 41, 42, 43]), (5, [0, 1, 2, 3, 7, 8, 9, 11, 12, 13, 4, 5, 6, 10, 14, 15, 16, 17, 18, 19, 22, 20, 21, 23, 24]), (7, [0, 1, 3, 4, 5, 9, 2, 6, 7, 8, 10, 11, 12, 13, 15, 14, 16, 17, 18, 19, 20, 21, 22, 23, 25, 26, 27, 28, 24, 29, 30, 31, 32, 33, 34, 35, 36, 37, 38])]), (5, [(5, [0, 1, 2, 3, 4, 5, 6, 7, 9, 8, 10, 11, 12, 13, 14, 16, 15, 17, 18, 19, 20, 21, 22, 23, 24, 25, 26, 27, 28, 29, 33, 30, 31, 32, 34, 35, 36])]), (6, [(2, [0, 1, 2, 3, 5, 6, 4, 7, 8, 9, 10, 11, 13, 12, 14, 15, 16, 17, 18, 20, 19, 21, 22, 23, 24, 25, 27, 29, 26, 28, 30, 31, 32, 33, 34, 35, 37, 39, 36, 38, 40, 41, 42, 43])]), (7, [(6, [0, 1, 3, 2, 4, 5, 6, 7, 8, 9, 10, 12, 15, 11, 13, 14, 16, 17, 18, 19, 20]), (8, [0, 2, 3, 7, 8, 9, 1, 4, 5, 6, 10, 11, 12, 13, 16, 14, 15, 17, 18, 19, 20, 21, 24, 22, 23, 25, 26, 27, 28, 29])]), (8, [(29, [0, 1, 4, 2, 3, 5, 6, 7, 9, 8, 10, 11, 12, 13, 15, 14, 16, 17, 18, 19, 20, 23, 21, 22, 24, 25, 26, 27, 29, 28, 30, 31, 32, 33, 34, 35, 37, 38, 36, 39, 40, 41, 42])]), (9, [(3, [0, 2, 1, 3, 4, 5]), (16, [0, 1, 2, 4, 3, 5, 6, 7, 9, 8, 10, 11, 12, 13, 15, 14, 16, 17, 18, 19, 21, 20, 22, 23, 24, 25, 26, 28, 27, 29, 30, 31, 32])])]
/-- How many of the package's variables may be looked at. -/
def GG : Nat := 0
/-- The program as the abstract machine reads it. -/
noncomputable def FF : Funcs := fun f => (Try.prog.funcs[f]?).bind (normFunc Try.prog GG ((ords.lookup f).getD []))
theorem F_belatedlaw2_RelMakes : FF n_belatedlaw2_RelMakes = some c_belatedlaw2_RelMakes := by kernel_rfl
theorem F_belatedlaw2_RelAlgebra : FF n_belatedlaw2_RelAlgebra = some c_belatedlaw2_RelAlgebra := by kernel_rfl
theorem F_belatedlaw2_RelLeast : FF n_belatedlaw2_RelLeast = some c_belatedlaw2_RelLeast := by kernel_rfl
theorem F_belatedlaw2_RelTurns : FF n_belatedlaw2_RelTurns = some c_belatedlaw2_RelTurns := by kernel_rfl
theorem F_belatedlaw2_RelSides : FF n_belatedlaw2_RelSides = some c_belatedlaw2_RelSides := by kernel_rfl
theorem F_belatedlaw2_RelSets : FF n_belatedlaw2_RelSets = some c_belatedlaw2_RelSets := by kernel_rfl
theorem F_belatedlaw2_RelTells : FF n_belatedlaw2_RelTells = some c_belatedlaw2_RelTells := by kernel_rfl
theorem F_belatedlaw2_able : FF n_belatedlaw2_able = some c_belatedlaw2_able := by kernel_rfl
theorem F_rel_Union : FF n_rel_Union = some c_rel_Union := by kernel_rfl
theorem F_rel_Meet : FF n_rel_Meet = some c_rel_Meet := by kernel_rfl
theorem F_rel_Seq : FF n_rel_Seq = some c_rel_Seq := by kernel_rfl
theorem F_belatedref2_Union : FF n_belatedref2_Union = some c_belatedref2_Union := by kernel_rfl
theorem F_belatedref2_Meet : FF n_belatedref2_Meet = some c_belatedref2_Meet := by kernel_rfl
theorem F_belatedref2_Seq : FF n_belatedref2_Seq = some c_belatedref2_Seq := by kernel_rfl
theorem F_rel_Inverse : FF n_rel_Inverse = some c_rel_Inverse := by kernel_rfl
theorem F_rel_Minus : FF n_rel_Minus = some c_rel_Minus := by kernel_rfl
theorem F_rel_Empty : FF n_rel_Empty = some c_rel_Empty := by kernel_rfl
theorem F_rel_Id : FF n_rel_Id = some c_rel_Id := by kernel_rfl
theorem F_rel_First : FF n_rel_First = some c_rel_First := by kernel_rfl
theorem F_rel_Plus : FF n_rel_Plus = some c_rel_Plus := by kernel_rfl
theorem F_belatedref2_Plus : FF n_belatedref2_Plus = some c_belatedref2_Plus := by kernel_rfl
theorem F_belatedref2_Minus : FF n_belatedref2_Minus = some c_belatedref2_Minus := by kernel_rfl
theorem F_belatedref2_Inverse : FF n_belatedref2_Inverse = some c_belatedref2_Inverse := by kernel_rfl
theorem F_rel_Star : FF n_rel_Star = some c_rel_Star := by kernel_rfl
theorem F_belatedref2_Join : FF n_belatedref2_Join = some c_belatedref2_Join := by kernel_rfl
theorem F_belatedref2_Id : FF n_belatedref2_Id = some c_belatedref2_Id := by kernel_rfl
theorem F_rel_Maybe : FF n_rel_Maybe = some c_rel_Maybe := by kernel_rfl
theorem F_rel_Cross : FF n_rel_Cross = some c_rel_Cross := by kernel_rfl
theorem F_rel_Domain : FF n_rel_Domain = some c_rel_Domain := by kernel_rfl
theorem F_rel_Range : FF n_rel_Range = some c_rel_Range := by kernel_rfl
theorem F_rel_Count : FF n_rel_Count = some c_rel_Count := by kernel_rfl
theorem F_rel_List : FF n_rel_List = some c_rel_List := by kernel_rfl
theorem F_rel_Events : FF n_rel_Events = some c_rel_Events := by kernel_rfl
theorem F_belatedlaw2_ints : FF n_belatedlaw2_ints = some c_belatedlaw2_ints := by kernel_rfl
theorem F_rel_Pair : FF n_rel_Pair = some c_rel_Pair := by kernel_rfl
theorem F_belatedref2_Cross : FF n_belatedref2_Cross = some c_belatedref2_Cross := by kernel_rfl
theorem F_rel_Pairs : FF n_rel_Pairs = some c_rel_Pairs := by kernel_rfl
theorem F_belatedref2_Pairs : FF n_belatedref2_Pairs = some c_belatedref2_Pairs := by kernel_rfl
theorem F_rel_Has : FF n_rel_Has = some c_rel_Has := by kernel_rfl
theorem F_rel_Irreflexive : FF n_rel_Irreflexive = some c_rel_Irreflexive := by kernel_rfl
theorem F_belatedref2_Irreflexive : FF n_belatedref2_Irreflexive = some c_belatedref2_Irreflexive := by kernel_rfl
theorem F_rel_Acyclic : FF n_rel_Acyclic = some c_rel_Acyclic := by kernel_rfl
theorem F_belatedref2_Acyclic : FF n_belatedref2_Acyclic = some c_belatedref2_Acyclic := by kernel_rfl
theorem F_rel_next : FF n_rel_next = some c_rel_next := by kernel_rfl
theorem F_belatedref2_Of : FF n_belatedref2_Of = some c_belatedref2_Of := by kernel_rfl
theorem F_belatedref2_Rel : FF n_belatedref2_Rel = some c_belatedref2_Rel := by kernel_rfl
theorem F_belatedref2_Two : FF n_belatedref2_Two = some c_belatedref2_Two := by kernel_rfl
theorem F_rel_has : FF n_rel_has = some c_rel_has := by kernel_rfl
theorem F_math_bits_OnesCount32 : FF n_math_bits_OnesCount32 = some c_math_bits_OnesCount32 := by kernel_rfl
theorem F_rel_event : FF n_rel_event = some c_rel_event := by kernel_rfl
theorem F_belatedref2_In : FF n_belatedref2_In = some c_belatedref2_In := by kernel_rfl
end Go.Proofs.Ytjjlbfamfioofaa.AM
