/-
  The functions of the program as the abstract machine reads them, and that they are just that.
  Conditions: none.
-/
import Derived.Test.YtjodnadlplicmaaAb
import Derived.Test.YtjodnadlplicmaaProg
import Derived.KernelRfl
namespace Go.Proofs.Ytjodnadlplicmaa.AM
open Go.RowKit
def n_belatedlaw3_UirChecks : FuncId := 3
def n_belatedlaw3_UirLocal : FuncId := 4
def n_belatedlaw3_UirSteps : FuncId := 5
def n_belatedlaw3_UirRight : FuncId := 6
def n_belatedlaw3_UirQuiet : FuncId := 7
def n_belatedlaw3_able : FuncId := 8
def n_uir_Check : FuncId := 9
def n_belatedref3_Check : FuncId := 10
def n_uir_Ops : FuncId := 11
def n_belatedref3_Ops : FuncId := 12
def n_uir_Branches : FuncId := 13
def n_belatedref3_Branches : FuncId := 14
def n_uir_Local : FuncId := 15
def n_belatedref3_Local : FuncId := 16
def n_belatedlaw3_ints : FuncId := 17
def n_uir_Reads : FuncId := 18
def n_uir_Writes : FuncId := 19
def n_uir_Right : FuncId := 20
def n_belatedref3_Right : FuncId := 21
def n_belatedref3_Reads : FuncId := 22
def n_belatedref3_Writes : FuncId := 23
def n_uir_Uses : FuncId := 24
def n_belatedref3_Uses : FuncId := 25
def n_uir_Gives : FuncId := 26
def n_belatedref3_Gives : FuncId := 27
def n_belatedref3_Memory : FuncId := 28
def n_uir_Local_1 : FuncId := 29
def n_bits_Mask : FuncId := 30
def n_bits_Place : FuncId := 31
def n_bits_Get : FuncId := 32
def n_bits_Alu : FuncId := 33
def n_bits_Rmw : FuncId := 34
def n_belatedref3_Thread_Plain : FuncId := 35
def n_belatedref3_Thread_Step : FuncId := 36
def n_uir_formed : FuncId := 37
def n_belatedref3_bare : FuncId := 38
def n_bits_sized : FuncId := 39
def n_bits_low : FuncId := 40
def n_belatedref1_Alu : FuncId := 41
def n_belatedref3_Thread_Where : FuncId := 42
def n_belatedref1_Get : FuncId := 43
def n_belatedref3_Thread_Datum : FuncId := 44
def n_belatedref1_Rmw : FuncId := 45
def n_uir_register : FuncId := 46
def n_uir_access : FuncId := 47
def n_uir_fence : FuncId := 48
def n_belatedref3_reg : FuncId := 49
def n_belatedref3_place : FuncId := 50
def n_belatedref3_Span : FuncId := 51
def n_belatedref3_Thread_get : FuncId := 52
def n_belatedref1_Mask : FuncId := 53
def n_belatedref1_Byte : FuncId := 54
def n_belatedref1_Place : FuncId := 55
def n_belatedref1_size : FuncId := 56
def c_belatedlaw3_UirChecks : AFunc := ⟨139, [.tmp 2],
 (.seq (.ops [⟨(some 2), .mv (.const (.bool false)), none⟩])
 (.seq (.seq (.ops [⟨(some 15), .call n_belatedlaw3_able [], none⟩,
   ⟨(some 16), .un .not (.tmp 15), none⟩])
 (.cond (.tmp 16) (.seq (.ops [⟨(some 2), .mv (.const (.bool false)), none⟩])
 .ret) .skip))
 (.seq (.ops [⟨(some 17), .mv (.tmp 0), none⟩,
   ⟨(some 18), .len (.tmp 17), none⟩,
   ⟨(some 3), .mv (.tmp 18), none⟩])
 (.seq (.seq (.ops [⟨(some 4), .mv (.const (.int .i64 0)), none⟩])
 (.block 0 (.loop (.seq (.seq (.ops [⟨(some 19), .mv (.tmp 4), none⟩,
     ⟨(some 20), .mv (.tmp 0), none⟩,
     ⟨(some 21), .len (.tmp 20), none⟩,
     ⟨(some 22), .bin .lss (.tmp 19) (.tmp 21), none⟩,
     ⟨(some 23), .mv (.tmp 22), none⟩,
     ⟨(some 24), .mv (.tmp 3), (some (23, true))⟩,
     ⟨(some 25), .bin .leq (.tmp 24) (.const (.int .i64 2000)), (some (23, true))⟩,
     ⟨(some 26), .pick (.tmp 23) (.tmp 25) (.const (.bool false)), none⟩])
   (.cond (.tmp 26) .skip (.exit 0)))
   (.seq (.block 1 (.ops [⟨(some 29), .mv (.tmp 3), none⟩,
      ⟨(some 30), .mv (.tmp 0), none⟩,
      ⟨(some 31), .mv (.tmp 4), none⟩,
      ⟨(some 32), .atRow 1 (.tmp 30) (.tmp 31), none⟩,
      ⟨(some 33), .load1 (.tmp 32), none⟩,
      ⟨(some 34), .len (.tmp 33), none⟩,
      ⟨(some 35), .bin .add (.tmp 29) (.tmp 34), none⟩,
      ⟨(some 3), .mv (.tmp 35), none⟩]))
   (.ops [⟨(some 27), .mv (.tmp 4), none⟩,
     ⟨(some 28), .bin .add (.tmp 27) (.const (.int .i64 1)), none⟩,
     ⟨(some 4), .mv (.tmp 28), none⟩]))))))
 (.seq (.seq (.ops [⟨(some 36), .mv (.tmp 3), none⟩,
   ⟨(some 37), .bin .gtr (.tmp 36) (.const (.int .i64 2000)), none⟩])
 (.cond (.tmp 37) (.seq (.ops [⟨(some 2), .mv (.const (.bool true)), none⟩])
 .ret) .skip))
 (.seq (.ops [⟨(some 5), .mv (.const (.slice none 0 0)), none⟩])
 (.seq (.seq (.ops [⟨(some 6), .mv (.const (.int .i64 0)), none⟩])
 (.block 2 (.loop (.seq (.seq (.ops [⟨(some 38), .mv (.tmp 6), none⟩,
     ⟨(some 39), .mv (.tmp 0), none⟩,
     ⟨(some 40), .len (.tmp 39), none⟩,
     ⟨(some 41), .bin .lss (.tmp 38) (.tmp 40), none⟩])
   (.cond (.tmp 41) .skip (.exit 2)))
   (.seq (.block 3 (.ops [⟨(some 44), .mv (.tmp 5), none⟩,
      ⟨(some 45), .mkRow (List.replicate 10 (.int .i64 0) ++ List.replicate 3 (.bool false) ++ List.replicate 3 (.int .i64 0) ++ [(.bool false)]) 0 [], none⟩,
      ⟨(some 46), .mv (.tmp 0), none⟩,
      ⟨(some 47), .mv (.tmp 6), none⟩,
      ⟨(some 48), .atRow 1 (.tmp 46) (.tmp 47), none⟩,
      ⟨(some 49), .load1 (.tmp 48), none⟩,
      ⟨(some 50), .append 17 120 (.tmp 45) (.tmp 49), none⟩,
      ⟨(some 51), .mkRow [(.slice none 0 0)] 1 [(0, 1, (.tmp 50))], none⟩,
      ⟨(some 52), .append 1 24 (.tmp 44) (.tmp 51), none⟩,
      ⟨(some 5), .mv (.tmp 52), none⟩]))
   (.ops [⟨(some 42), .mv (.tmp 6), none⟩,
     ⟨(some 43), .bin .add (.tmp 42) (.const (.int .i64 1)), none⟩,
     ⟨(some 6), .mv (.tmp 43), none⟩]))))))
 (.seq (.ops [⟨(some 54), .mv (.tmp 5), none⟩,
   ⟨(some 55), .call n_uir_Check [(.tmp 54)], none⟩,
   ⟨(some 53), .mv (.tmp 55), none⟩,
   ⟨(some 56), .extract (.tmp 53) 0, none⟩,
   ⟨(some 57), .extract (.tmp 53) 1, none⟩,
   ⟨(some 58), .extract (.tmp 53) 2, none⟩,
   ⟨(some 7), .mv (.tmp 56), none⟩,
   ⟨(some 8), .mv (.tmp 57), none⟩,
   ⟨(some 9), .mv (.tmp 58), none⟩])
 (.seq (.ops [⟨(some 60), .mv (.tmp 0), none⟩,
   ⟨(some 61), .call n_belatedref3_Check [(.tmp 60)], none⟩,
   ⟨(some 59), .mv (.tmp 61), none⟩,
   ⟨(some 62), .extract (.tmp 59) 0, none⟩,
   ⟨(some 63), .extract (.tmp 59) 1, none⟩,
   ⟨(some 64), .extract (.tmp 59) 2, none⟩,
   ⟨(some 10), .mv (.tmp 62), none⟩,
   ⟨(some 11), .mv (.tmp 63), none⟩,
   ⟨(some 12), .mv (.tmp 64), none⟩])
 (.seq (.seq (.ops [⟨(some 65), .mv (.tmp 7), none⟩,
   ⟨(some 66), .mv (.tmp 10), none⟩,
   ⟨(some 67), .bin .neq (.tmp 65) (.tmp 66), none⟩,
   ⟨(some 68), .mv (.tmp 67), none⟩,
   ⟨(some 69), .mv (.tmp 8), (some (68, false))⟩,
   ⟨(some 70), .mv (.tmp 11), (some (68, false))⟩,
   ⟨(some 71), .bin .neq (.tmp 69) (.tmp 70), (some (68, false))⟩,
   ⟨(some 72), .pick (.tmp 68) (.const (.bool true)) (.tmp 71), none⟩,
   ⟨(some 73), .mv (.tmp 72), none⟩,
   ⟨(some 74), .mv (.tmp 9), (some (73, false))⟩,
   ⟨(some 75), .mv (.tmp 12), (some (73, false))⟩,
   ⟨(some 76), .bin .neq (.tmp 74) (.tmp 75), (some (73, false))⟩,
   ⟨(some 77), .pick (.tmp 73) (.const (.bool true)) (.tmp 76), none⟩,
   ⟨(some 78), .mv (.tmp 77), none⟩,
   ⟨(some 79), .mv (.tmp 5), (some (78, false))⟩,
   ⟨(some 80), .len (.tmp 79), (some (78, false))⟩,
   ⟨(some 81), .mv (.tmp 0), (some (78, false))⟩,
   ⟨(some 82), .len (.tmp 81), (some (78, false))⟩,
   ⟨(some 83), .bin .neq (.tmp 80) (.tmp 82), (some (78, false))⟩,
   ⟨(some 84), .pick (.tmp 78) (.const (.bool true)) (.tmp 83), none⟩])
 (.cond (.tmp 84) (.seq (.ops [⟨(some 2), .mv (.const (.bool false)), none⟩])
 .ret) .skip))
 (.seq (.seq (.ops [⟨(some 13), .mv (.const (.int .i64 0)), none⟩])
 (.block 4 (.loop (.seq (.seq (.ops [⟨(some 85), .mv (.tmp 13), none⟩,
     ⟨(some 86), .mv (.tmp 0), none⟩,
     ⟨(some 87), .len (.tmp 86), none⟩,
     ⟨(some 88), .bin .lss (.tmp 85) (.tmp 87), none⟩])
   (.cond (.tmp 88) .skip (.exit 4)))
   (.seq (.block 5 (.seq (.seq (.ops [⟨(some 91), .mv (.tmp 5), none⟩,
      ⟨(some 92), .mv (.tmp 13), none⟩,
      ⟨(some 93), .atRow 1 (.tmp 91) (.tmp 92), none⟩,
      ⟨(some 94), .load1 (.tmp 93), none⟩,
      ⟨(some 96), .mv (.tmp 0), none⟩,
      ⟨(some 97), .mv (.tmp 13), none⟩,
      ⟨(some 98), .atRow 1 (.tmp 96) (.tmp 97), none⟩,
      ⟨(some 99), .load1 (.tmp 98), none⟩,
      ⟨(some 95), .call n_uir_Ops [(.tmp 94)], none⟩,
      ⟨none, .again1 (.tmp 98) 99, none⟩,
      ⟨(some 100), .call n_belatedref3_Ops [(.tmp 99)], none⟩,
      ⟨(some 101), .bin .neq (.tmp 95) (.tmp 100), none⟩,
      ⟨(some 102), .mv (.tmp 101), none⟩,
      ⟨(some 103), .mv (.tmp 5), (some (102, false))⟩,
      ⟨(some 104), .mv (.tmp 13), (some (102, false))⟩,
      ⟨(some 105), .atRow 1 (.tmp 103) (.tmp 104), (some (102, false))⟩,
      ⟨(some 106), .load1 (.tmp 105), (some (102, false))⟩,
      ⟨(some 108), .mv (.tmp 0), (some (102, false))⟩,
      ⟨(some 109), .mv (.tmp 13), (some (102, false))⟩,
      ⟨(some 110), .atRow 1 (.tmp 108) (.tmp 109), (some (102, false))⟩,
      ⟨(some 111), .load1 (.tmp 110), (some (102, false))⟩,
      ⟨(some 107), .call n_uir_Branches [(.tmp 106)], (some (102, false))⟩,
      ⟨none, .again1 (.tmp 110) 111, (some (102, false))⟩,
      ⟨(some 112), .call n_belatedref3_Branches [(.tmp 111)], (some (102, false))⟩,
      ⟨(some 113), .bin .neq (.tmp 107) (.tmp 112), (some (102, false))⟩,
      ⟨(some 114), .pick (.tmp 102) (.const (.bool true)) (.tmp 113), none⟩])
    (.cond (.tmp 114) (.seq (.ops [⟨(some 2), .mv (.const (.bool false)), none⟩])
    .ret) .skip))
    (.seq (.ops [⟨(some 14), .mv (.const (.int .i64 0)), none⟩])
    (.block 6 (.loop (.seq (.seq (.ops [⟨(some 115), .mv (.tmp 14), none⟩,
        ⟨(some 116), .mv (.tmp 0), none⟩,
        ⟨(some 117), .mv (.tmp 13), none⟩,
        ⟨(some 118), .atRow 1 (.tmp 116) (.tmp 117), none⟩,
        ⟨(some 119), .load1 (.tmp 118), none⟩,
        ⟨(some 120), .len (.tmp 119), none⟩,
        ⟨(some 121), .bin .lss (.tmp 115) (.tmp 120), none⟩])
      (.cond (.tmp 121) .skip (.exit 6)))
      (.seq (.block 7 (.seq (.ops [⟨(some 124), .mv (.tmp 5), none⟩,
         ⟨(some 125), .mv (.tmp 13), none⟩,
         ⟨(some 126), .atRow 1 (.tmp 124) (.tmp 125), none⟩,
         ⟨(some 127), .load1 (.tmp 126), none⟩,
         ⟨(some 128), .mv (.tmp 14), none⟩,
         ⟨(some 129), .atRow 17 (.tmp 127) (.tmp 128), none⟩,
         ⟨(some 130), .load 17 (.tmp 129), none⟩,
         ⟨(some 131), .mv (.tmp 0), none⟩,
         ⟨(some 132), .mv (.tmp 13), none⟩,
         ⟨(some 133), .atRow 1 (.tmp 131) (.tmp 132), none⟩,
         ⟨(some 134), .load1 (.tmp 133), none⟩,
         ⟨(some 135), .mv (.tmp 14), none⟩,
         ⟨(some 136), .atRow 17 (.tmp 134) (.tmp 135), none⟩,
         ⟨(some 137), .load 17 (.tmp 136), none⟩,
         ⟨(some 138), .eqAgg true (List.replicate 10 .int ++ List.replicate 3 .bool ++ List.replicate 3 .int ++ [.bool]) (.tmp 130) (.tmp 137), none⟩])
       (.cond (.tmp 138) (.seq (.ops [⟨(some 2), .mv (.const (.bool false)), none⟩])
       .ret) .skip)))
      (.ops [⟨(some 122), .mv (.tmp 14), none⟩,
        ⟨(some 123), .bin .add (.tmp 122) (.const (.int .i64 1)), none⟩,
        ⟨(some 14), .mv (.tmp 123), none⟩]))))))))
   (.ops [⟨(some 89), .mv (.tmp 13), none⟩,
     ⟨(some 90), .bin .add (.tmp 89) (.const (.int .i64 1)), none⟩,
     ⟨(some 13), .mv (.tmp 90), none⟩]))))))
 (.seq (.ops [⟨(some 2), .mv (.const (.bool true)), none⟩])
 .ret))))))))))))⟩
def c_belatedlaw3_UirLocal : AFunc := ⟨84, [.tmp 6],
 (.seq (.ops [⟨(some 4), .box 8 (.tmp 1), none⟩,
   ⟨(some 6), .mv (.const (.bool false)), none⟩])
 (.seq (.seq (.ops [⟨(some 16), .call n_belatedlaw3_able [], none⟩,
   ⟨(some 17), .un .not (.tmp 16), none⟩])
 (.cond (.tmp 17) (.seq (.ops [⟨(some 6), .mv (.const (.bool false)), none⟩])
 .ret) .skip))
 (.seq (.seq (.ops [⟨(some 18), .mv (.tmp 0), none⟩,
   ⟨(some 19), .len (.tmp 18), none⟩,
   ⟨(some 20), .bin .gtr (.tmp 19) (.const (.int .i64 2000)), none⟩,
   ⟨(some 21), .mv (.tmp 20), none⟩,
   ⟨(some 22), .mv (.tmp 2), (some (21, false))⟩,
   ⟨(some 23), .len (.tmp 22), (some (21, false))⟩,
   ⟨(some 24), .bin .gtr (.tmp 23) (.const (.int .i64 2000)), (some (21, false))⟩,
   ⟨(some 25), .pick (.tmp 21) (.const (.bool true)) (.tmp 24), none⟩])
 (.cond (.tmp 25) (.seq (.ops [⟨(some 6), .mv (.const (.bool true)), none⟩])
 .ret) .skip))
 (.seq (.ops [⟨(some 27), .mkRow (List.replicate 10 (.int .i64 0) ++ List.replicate 3 (.bool false) ++ List.replicate 3 (.int .i64 0) ++ [(.bool false)]) 0 [], none⟩,
   ⟨(some 28), .mv (.tmp 0), none⟩,
   ⟨(some 30), .load 8 (.tmp 4), none⟩,
   ⟨(some 31), .mkRow [(.int .i64 0)] 0 [], none⟩,
   ⟨(some 32), .mv (.tmp 2), none⟩,
   ⟨(some 7), .alloc (List.replicate 8 (.int .i64 0)), none⟩,
   ⟨(some 29), .append 17 120 (.tmp 27) (.tmp 28), none⟩,
   ⟨none, .again 8 (.tmp 4) 30, none⟩,
   ⟨(some 33), .append 1 8 (.tmp 31) (.tmp 32), none⟩,
   ⟨none, .again 8 (.tmp 4) 30, none⟩,
   ⟨(some 34), .call n_uir_Local [(.tmp 29), (.tmp 30), (.tmp 33)], none⟩,
   ⟨(some 26), .mv (.tmp 34), none⟩,
   ⟨(some 35), .extract (.tmp 26) 0, none⟩,
   ⟨(some 36), .extract (.tmp 26) 1, none⟩,
   ⟨(some 37), .extract (.tmp 26) 2, none⟩,
   ⟨(some 38), .extract (.tmp 26) 3, none⟩,
   ⟨none, .store 8 (.tmp 7) (.tmp 35), none⟩,
   ⟨(some 8), .mv (.tmp 36), none⟩,
   ⟨(some 9), .mv (.tmp 37), none⟩,
   ⟨(some 10), .mv (.tmp 38), none⟩])
 (.seq (.ops [⟨(some 40), .mv (.tmp 0), none⟩,
   ⟨(some 41), .load 8 (.tmp 4), none⟩,
   ⟨(some 42), .mv (.tmp 2), none⟩,
   ⟨(some 43), .call n_belatedref3_Local [(.tmp 40), (.tmp 41), (.tmp 42)], none⟩,
   ⟨(some 39), .mv (.tmp 43), none⟩,
   ⟨(some 44), .extract (.tmp 39) 0, none⟩,
   ⟨(some 45), .extract (.tmp 39) 1, none⟩,
   ⟨(some 46), .extract (.tmp 39) 2, none⟩,
   ⟨(some 47), .extract (.tmp 39) 3, none⟩,
   ⟨(some 11), .alloc (List.replicate 8 (.int .i64 0)), none⟩,
   ⟨none, .store 8 (.tmp 11) (.tmp 44), none⟩,
   ⟨(some 12), .mv (.tmp 45), none⟩,
   ⟨(some 13), .mv (.tmp 46), none⟩,
   ⟨(some 14), .mv (.tmp 47), none⟩])
 (.seq (.seq (.ops [⟨(some 48), .load 8 (.tmp 7), none⟩,
   ⟨(some 49), .load 8 (.tmp 11), none⟩,
   ⟨(some 50), .eqAgg true (List.replicate 8 .int) (.tmp 48) (.tmp 49), none⟩,
   ⟨(some 51), .mv (.tmp 50), none⟩,
   ⟨(some 52), .mv (.tmp 10), (some (51, false))⟩,
   ⟨(some 53), .mv (.tmp 14), (some (51, false))⟩,
   ⟨(some 54), .bin .neq (.tmp 52) (.tmp 53), (some (51, false))⟩,
   ⟨(some 55), .pick (.tmp 51) (.const (.bool true)) (.tmp 54), none⟩,
   ⟨(some 56), .mv (.tmp 55), none⟩,
   ⟨(some 57), .mv (.tmp 8), (some (56, false))⟩,
   ⟨(some 58), .len (.tmp 57), (some (56, false))⟩,
   ⟨(some 59), .mv (.tmp 12), (some (56, false))⟩,
   ⟨(some 60), .len (.tmp 59), (some (56, false))⟩,
   ⟨(some 61), .bin .neq (.tmp 58) (.tmp 60), (some (56, false))⟩,
   ⟨(some 62), .pick (.tmp 56) (.const (.bool true)) (.tmp 61), none⟩,
   ⟨(some 63), .mv (.tmp 62), none⟩,
   ⟨(some 64), .mv (.tmp 9), (some (63, false))⟩,
   ⟨(some 65), .mv (.tmp 13), (some (63, false))⟩,
   ⟨(some 66), .call n_belatedlaw3_ints [(.tmp 64), (.tmp 65)], (some (63, false))⟩,
   ⟨(some 67), .un .not (.tmp 66), (some (63, false))⟩,
   ⟨(some 68), .pick (.tmp 63) (.const (.bool true)) (.tmp 67), none⟩])
 (.cond (.tmp 68) (.seq (.ops [⟨(some 6), .mv (.const (.bool false)), none⟩])
 .ret) .skip))
 (.seq (.seq (.ops [⟨(some 15), .mv (.const (.int .i64 0)), none⟩])
 (.block 0 (.loop (.seq (.seq (.ops [⟨(some 69), .mv (.tmp 15), none⟩,
     ⟨(some 70), .mv (.tmp 8), none⟩,
     ⟨(some 71), .len (.tmp 70), none⟩,
     ⟨(some 72), .bin .lss (.tmp 69) (.tmp 71), none⟩])
   (.cond (.tmp 72) .skip (.exit 0)))
   (.seq (.block 1 (.seq (.ops [⟨(some 75), .mv (.tmp 8), none⟩,
      ⟨(some 76), .mv (.tmp 15), none⟩,
      ⟨(some 77), .atRow 15 (.tmp 75) (.tmp 76), none⟩,
      ⟨(some 78), .load 15 (.tmp 77), none⟩,
      ⟨(some 79), .mv (.tmp 12), none⟩,
      ⟨(some 80), .mv (.tmp 15), none⟩,
      ⟨(some 81), .atRow 15 (.tmp 79) (.tmp 80), none⟩,
      ⟨(some 82), .load 15 (.tmp 81), none⟩,
      ⟨(some 83), .eqAgg true (List.replicate 6 .int ++ List.replicate 2 .bool ++ List.replicate 2 .int ++ List.replicate 3 .bool ++ List.replicate 2 .int) (.tmp 78) (.tmp 82), none⟩])
    (.cond (.tmp 83) (.seq (.ops [⟨(some 6), .mv (.const (.bool false)), none⟩])
    .ret) .skip)))
   (.ops [⟨(some 73), .mv (.tmp 15), none⟩,
     ⟨(some 74), .bin .add (.tmp 73) (.const (.int .i64 1)), none⟩,
     ⟨(some 15), .mv (.tmp 74), none⟩]))))))
 (.seq (.ops [⟨(some 6), .mv (.const (.bool true)), none⟩])
 .ret))))))))⟩
def c_belatedlaw3_UirSteps : AFunc := ⟨175, [.tmp 6],
 (.seq (.ops [⟨(some 4), .box 8 (.tmp 1), none⟩,
   ⟨(some 6), .mv (.const (.bool false)), none⟩])
 (.seq (.seq (.ops [⟨(some 15), .call n_belatedlaw3_able [], none⟩,
   ⟨(some 16), .un .not (.tmp 15), none⟩])
 (.cond (.tmp 16) (.seq (.ops [⟨(some 6), .mv (.const (.bool false)), none⟩])
 .ret) .skip))
 (.seq (.seq (.ops [⟨(some 17), .mv (.tmp 0), none⟩,
   ⟨(some 18), .len (.tmp 17), none⟩,
   ⟨(some 19), .bin .gtr (.tmp 18) (.const (.int .i64 2000)), none⟩,
   ⟨(some 20), .mv (.tmp 19), none⟩,
   ⟨(some 21), .mv (.tmp 2), (some (20, false))⟩,
   ⟨(some 22), .len (.tmp 21), (some (20, false))⟩,
   ⟨(some 23), .bin .gtr (.tmp 22) (.const (.int .i64 2000)), (some (20, false))⟩,
   ⟨(some 24), .pick (.tmp 20) (.const (.bool true)) (.tmp 23), none⟩])
 (.cond (.tmp 24) (.seq (.ops [⟨(some 6), .mv (.const (.bool true)), none⟩])
 .ret) .skip))
 (.seq (.ops [⟨(some 26), .mkRow (List.replicate 10 (.int .i64 0) ++ List.replicate 3 (.bool false) ++ List.replicate 3 (.int .i64 0) ++ [(.bool false)]) 0 [], none⟩,
   ⟨(some 27), .mv (.tmp 0), none⟩,
   ⟨(some 29), .load 8 (.tmp 4), none⟩,
   ⟨(some 30), .mkRow [(.int .i64 0)] 0 [], none⟩,
   ⟨(some 31), .mv (.tmp 2), none⟩,
   ⟨(some 7), .alloc (List.replicate 8 (.int .i64 0)), none⟩,
   ⟨(some 28), .append 17 120 (.tmp 26) (.tmp 27), none⟩,
   ⟨none, .again 8 (.tmp 4) 29, none⟩,
   ⟨(some 32), .append 1 8 (.tmp 30) (.tmp 31), none⟩,
   ⟨none, .again 8 (.tmp 4) 29, none⟩,
   ⟨(some 33), .call n_uir_Local [(.tmp 28), (.tmp 29), (.tmp 32)], none⟩,
   ⟨(some 25), .mv (.tmp 33), none⟩,
   ⟨(some 34), .extract (.tmp 25) 0, none⟩,
   ⟨(some 35), .extract (.tmp 25) 1, none⟩,
   ⟨(some 36), .extract (.tmp 25) 2, none⟩,
   ⟨(some 37), .extract (.tmp 25) 3, none⟩,
   ⟨none, .store 8 (.tmp 7) (.tmp 34), none⟩,
   ⟨(some 8), .mv (.tmp 35), none⟩,
   ⟨(some 9), .mv (.tmp 36), none⟩,
   ⟨(some 10), .mv (.tmp 37), none⟩])
 (.seq (.seq (.ops [⟨(some 38), .mv (.tmp 10), none⟩,
   ⟨(some 39), .bin .neq (.tmp 38) (.const (.int .i64 0)), none⟩])
 (.cond (.tmp 39) (.seq (.ops [⟨(some 40), .mv (.tmp 8), none⟩,
   ⟨(some 41), .len (.tmp 40), none⟩,
   ⟨(some 42), .bin .eql (.tmp 41) (.const (.int .i64 0)), none⟩,
   ⟨(some 43), .mv (.tmp 42), none⟩,
   ⟨(some 44), .mv (.tmp 9), (some (43, true))⟩,
   ⟨(some 45), .len (.tmp 44), (some (43, true))⟩,
   ⟨(some 46), .bin .eql (.tmp 45) (.const (.int .i64 0)), (some (43, true))⟩,
   ⟨(some 47), .pick (.tmp 43) (.tmp 46) (.const (.bool false)), none⟩,
   ⟨(some 6), .mv (.tmp 47), none⟩])
 .ret) .skip))
 (.seq (.seq (.ops [⟨(some 11), .mv (.const (.int .i64 0)), none⟩])
 (.block 0 (.loop (.seq (.seq (.ops [⟨(some 48), .mv (.tmp 11), none⟩,
     ⟨(some 49), .mv (.tmp 9), none⟩,
     ⟨(some 50), .len (.tmp 49), none⟩,
     ⟨(some 51), .bin .lss (.tmp 48) (.tmp 50), none⟩])
   (.cond (.tmp 51) .skip (.exit 0)))
   (.seq (.block 1 (.seq (.ops [⟨(some 54), .mv (.tmp 11), none⟩,
      ⟨(some 55), .bin .eql (.tmp 54) (.const (.int .i64 0)), none⟩,
      ⟨(some 56), .mv (.tmp 55), none⟩,
      ⟨(some 57), .mv (.tmp 9), (some (56, true))⟩,
      ⟨(some 58), .atRow 1 (.tmp 57) (.const (.int .i64 0)), (some (56, true))⟩,
      ⟨(some 59), .load1 (.tmp 58), (some (56, true))⟩,
      ⟨(some 60), .bin .neq (.tmp 59) (.const (.int .i64 0)), (some (56, true))⟩,
      ⟨(some 61), .pick (.tmp 56) (.tmp 60) (.const (.bool false)), none⟩,
      ⟨(some 62), .mv (.tmp 61), none⟩,
      ⟨(some 63), .mv (.tmp 11), (some (62, false))⟩,
      ⟨(some 64), .bin .gtr (.tmp 63) (.const (.int .i64 0)), (some (62, false))⟩,
      ⟨(some 65), .mv (.tmp 64), (some (62, false))⟩,
      ⟨(some 66), .mv (.tmp 9), (some (65, true))⟩,
      ⟨(some 67), .mv (.tmp 11), (some (65, true))⟩,
      ⟨(some 68), .atRow 1 (.tmp 66) (.tmp 67), (some (65, true))⟩,
      ⟨(some 69), .load1 (.tmp 68), (some (65, true))⟩,
      ⟨(some 70), .mv (.tmp 9), (some (65, true))⟩,
      ⟨(some 71), .mv (.tmp 11), (some (65, true))⟩,
      ⟨(some 72), .bin .sub (.tmp 71) (.const (.int .i64 1)), (some (65, true))⟩,
      ⟨(some 73), .atRow 1 (.tmp 70) (.tmp 72), (some (65, true))⟩,
      ⟨(some 74), .load1 (.tmp 73), (some (65, true))⟩,
      ⟨(some 75), .bin .leq (.tmp 69) (.tmp 74), (some (65, true))⟩,
      ⟨(some 76), .pick (.tmp 65) (.tmp 75) (.const (.bool false)), (some (62, false))⟩,
      ⟨(some 77), .pick (.tmp 62) (.const (.bool true)) (.tmp 76), none⟩,
      ⟨(some 78), .mv (.tmp 77), none⟩,
      ⟨(some 79), .mv (.tmp 9), (some (78, false))⟩,
      ⟨(some 80), .mv (.tmp 11), (some (78, false))⟩,
      ⟨(some 81), .atRow 1 (.tmp 79) (.tmp 80), (some (78, false))⟩,
      ⟨(some 82), .load1 (.tmp 81), (some (78, false))⟩,
      ⟨(some 83), .mv (.tmp 0), (some (78, false))⟩,
      ⟨(some 84), .len (.tmp 83), (some (78, false))⟩,
      ⟨(some 85), .bin .geq (.tmp 82) (.tmp 84), (some (78, false))⟩,
      ⟨(some 86), .pick (.tmp 78) (.const (.bool true)) (.tmp 85), none⟩])
    (.cond (.tmp 86) (.seq (.ops [⟨(some 6), .mv (.const (.bool false)), none⟩])
    .ret) .skip)))
   (.ops [⟨(some 52), .mv (.tmp 11), none⟩,
     ⟨(some 53), .bin .add (.tmp 52) (.const (.int .i64 1)), none⟩,
     ⟨(some 11), .mv (.tmp 53), none⟩]))))))
 (.seq (.ops [⟨(some 12), .mv (.const (.int .i64 0)), none⟩])
 (.seq (.seq (.ops [⟨(some 13), .mv (.const (.int .i64 0)), none⟩])
 (.block 2 (.loop (.seq (.seq (.ops [⟨(some 87), .mv (.tmp 13), none⟩,
     ⟨(some 88), .mv (.tmp 8), none⟩,
     ⟨(some 89), .len (.tmp 88), none⟩,
     ⟨(some 90), .bin .lss (.tmp 87) (.tmp 89), none⟩])
   (.cond (.tmp 90) .skip (.exit 2)))
   (.seq (.block 3 (.seq (.ops [⟨(some 93), .mv (.tmp 8), none⟩,
      ⟨(some 94), .mv (.tmp 13), none⟩,
      ⟨(some 95), .atRow 15 (.tmp 93) (.tmp 94), none⟩,
      ⟨(some 96), .load 15 (.tmp 95), none⟩,
      ⟨(some 14), .alloc (List.replicate 6 (.int .i64 0) ++ List.replicate 2 (.bool false) ++ List.replicate 2 (.int .i64 0) ++ List.replicate 3 (.bool false) ++ List.replicate 2 (.int .i64 0)), none⟩,
      ⟨none, .store 15 (.tmp 14) (.tmp 96), none⟩])
    (.seq (.seq (.ops [⟨(some 97), .mv (.tmp 13), none⟩,
      ⟨(some 98), .bin .gtr (.tmp 97) (.const (.int .i64 0)), none⟩,
      ⟨(some 99), .mv (.tmp 98), none⟩,
      ⟨(some 100), .off 1 (.tmp 14), (some (99, true))⟩,
      ⟨(some 101), .load1 (.tmp 100), (some (99, true))⟩,
      ⟨(some 102), .mv (.tmp 8), (some (99, true))⟩,
      ⟨(some 103), .mv (.tmp 13), (some (99, true))⟩,
      ⟨(some 104), .bin .sub (.tmp 103) (.const (.int .i64 1)), (some (99, true))⟩,
      ⟨(some 105), .atRow 15 (.tmp 102) (.tmp 104), (some (99, true))⟩,
      ⟨(some 106), .off 1 (.tmp 105), (some (99, true))⟩,
      ⟨(some 107), .load1 (.tmp 106), (some (99, true))⟩,
      ⟨(some 108), .bin .leq (.tmp 101) (.tmp 107), (some (99, true))⟩,
      ⟨(some 109), .pick (.tmp 99) (.tmp 108) (.const (.bool false)), none⟩,
      ⟨(some 110), .mv (.tmp 109), none⟩,
      ⟨(some 111), .off 1 (.tmp 14), (some (110, false))⟩,
      ⟨(some 112), .load1 (.tmp 111), (some (110, false))⟩,
      ⟨(some 113), .mv (.tmp 9), (some (110, false))⟩,
      ⟨(some 114), .len (.tmp 113), (some (110, false))⟩,
      ⟨(some 115), .bin .geq (.tmp 112) (.tmp 114), (some (110, false))⟩,
      ⟨(some 116), .pick (.tmp 110) (.const (.bool true)) (.tmp 115), none⟩,
      ⟨(some 117), .mv (.tmp 116), none⟩,
      ⟨(some 118), .mv (.tmp 9), (some (117, false))⟩,
      ⟨(some 119), .off 1 (.tmp 14), (some (117, false))⟩,
      ⟨(some 120), .load1 (.tmp 119), (some (117, false))⟩,
      ⟨(some 121), .atRow 1 (.tmp 118) (.tmp 120), (some (117, false))⟩,
      ⟨(some 122), .load1 (.tmp 121), (some (117, false))⟩,
      ⟨(some 123), .off 2 (.tmp 14), (some (117, false))⟩,
      ⟨(some 124), .load1 (.tmp 123), (some (117, false))⟩,
      ⟨(some 125), .bin .neq (.tmp 122) (.tmp 124), (some (117, false))⟩,
      ⟨(some 126), .pick (.tmp 117) (.const (.bool true)) (.tmp 125), none⟩,
      ⟨(some 127), .mv (.tmp 126), none⟩,
      ⟨(some 128), .mv (.tmp 0), (some (127, false))⟩,
      ⟨(some 129), .off 2 (.tmp 14), (some (127, false))⟩,
      ⟨(some 130), .load1 (.tmp 129), (some (127, false))⟩,
      ⟨(some 131), .atRow 17 (.tmp 128) (.tmp 130), (some (127, false))⟩,
      ⟨(some 132), .off 0 (.tmp 131), (some (127, false))⟩,
      ⟨(some 133), .load1 (.tmp 132), (some (127, false))⟩,
      ⟨(some 134), .off 3 (.tmp 14), (some (127, false))⟩,
      ⟨(some 135), .load1 (.tmp 134), (some (127, false))⟩,
      ⟨(some 136), .bin .neq (.tmp 133) (.tmp 135), (some (127, false))⟩,
      ⟨(some 137), .pick (.tmp 127) (.const (.bool true)) (.tmp 136), none⟩,
      ⟨(some 138), .mv (.tmp 137), none⟩,
      ⟨(some 139), .off 6 (.tmp 14), (some (138, false))⟩,
      ⟨(some 140), .load1 (.tmp 139), (some (138, false))⟩,
      ⟨(some 141), .mv (.tmp 0), (some (138, false))⟩,
      ⟨(some 142), .off 2 (.tmp 14), (some (138, false))⟩,
      ⟨(some 143), .load1 (.tmp 142), (some (138, false))⟩,
      ⟨(some 144), .atRow 17 (.tmp 141) (.tmp 143), (some (138, false))⟩,
      ⟨(some 145), .load 17 (.tmp 144), (some (138, false))⟩,
      ⟨(some 146), .call n_uir_Reads [(.tmp 145)], (some (138, false))⟩,
      ⟨none, .again1 (.tmp 139) 140, (some (138, false))⟩,
      ⟨(some 147), .eqv true .bool (.tmp 140) (.tmp 146), (some (138, false))⟩,
      ⟨(some 148), .pick (.tmp 138) (.const (.bool true)) (.tmp 147), none⟩,
      ⟨(some 149), .mv (.tmp 148), none⟩,
      ⟨(some 150), .off 7 (.tmp 14), (some (149, false))⟩,
      ⟨(some 151), .load1 (.tmp 150), (some (149, false))⟩,
      ⟨(some 152), .mv (.tmp 0), (some (149, false))⟩,
      ⟨(some 153), .off 2 (.tmp 14), (some (149, false))⟩,
      ⟨(some 154), .load1 (.tmp 153), (some (149, false))⟩,
      ⟨(some 155), .atRow 17 (.tmp 152) (.tmp 154), (some (149, false))⟩,
      ⟨(some 156), .load 17 (.tmp 155), (some (149, false))⟩,
      ⟨(some 157), .call n_uir_Writes [(.tmp 156)], (some (149, false))⟩,
      ⟨none, .again1 (.tmp 150) 151, (some (149, false))⟩,
      ⟨(some 158), .eqv true .bool (.tmp 151) (.tmp 157), (some (149, false))⟩,
      ⟨(some 159), .pick (.tmp 149) (.const (.bool true)) (.tmp 158), none⟩])
    (.cond (.tmp 159) (.seq (.ops [⟨(some 6), .mv (.const (.bool false)), none⟩])
    .ret) .skip))
    (.seq (.ops [⟨(some 160), .off 6 (.tmp 14), none⟩,
      ⟨(some 161), .load1 (.tmp 160), none⟩])
    (.cond (.tmp 161) (.ops [⟨(some 162), .mv (.tmp 12), none⟩,
      ⟨(some 163), .bin .add (.tmp 162) (.const (.int .i64 1)), none⟩,
      ⟨(some 12), .mv (.tmp 163), none⟩]) .skip)))))
   (.ops [⟨(some 91), .mv (.tmp 13), none⟩,
     ⟨(some 92), .bin .add (.tmp 91) (.const (.int .i64 1)), none⟩,
     ⟨(some 13), .mv (.tmp 92), none⟩]))))))
 (.seq (.ops [⟨(some 164), .mv (.tmp 12), none⟩,
   ⟨(some 165), .mv (.tmp 2), none⟩,
   ⟨(some 166), .len (.tmp 165), none⟩,
   ⟨(some 167), .bin .leq (.tmp 164) (.tmp 166), none⟩,
   ⟨(some 168), .mv (.tmp 167), none⟩,
   ⟨(some 169), .mv (.tmp 9), (some (168, true))⟩,
   ⟨(some 170), .len (.tmp 169), (some (168, true))⟩,
   ⟨(some 171), .mv (.tmp 0), (some (168, true))⟩,
   ⟨(some 172), .len (.tmp 171), (some (168, true))⟩,
   ⟨(some 173), .bin .leq (.tmp 170) (.tmp 172), (some (168, true))⟩,
   ⟨(some 174), .pick (.tmp 168) (.tmp 173) (.const (.bool false)), none⟩,
   ⟨(some 6), .mv (.tmp 174), none⟩])
 .ret)))))))))⟩
def c_belatedlaw3_UirRight : AFunc := ⟨47, [.tmp 6],
 (.seq (.ops [⟨(some 3), .box 17 (.tmp 0), none⟩,
   ⟨(some 6), .mv (.const (.bool false)), none⟩])
 (.seq (.ops [⟨(some 7), .call n_belatedlaw3_able [], none⟩,
   ⟨(some 8), .mv (.tmp 7), none⟩,
   ⟨(some 9), .load 17 (.tmp 3), (some (8, true))⟩,
   ⟨(some 10), .mv (.tmp 1), (some (8, true))⟩,
   ⟨(some 11), .mv (.tmp 2), (some (8, true))⟩,
   ⟨(some 13), .load 17 (.tmp 3), (some (8, true))⟩,
   ⟨(some 14), .mv (.tmp 1), (some (8, true))⟩,
   ⟨(some 15), .mv (.tmp 2), (some (8, true))⟩,
   ⟨(some 12), .call n_uir_Right [(.tmp 9), (.tmp 10), (.tmp 11)], (some (8, true))⟩,
   ⟨none, .again 17 (.tmp 3) 13, (some (8, true))⟩,
   ⟨(some 16), .call n_belatedref3_Right [(.tmp 13), (.tmp 14), (.tmp 15)], (some (8, true))⟩,
   ⟨(some 17), .bin .eql (.tmp 12) (.tmp 16), (some (8, true))⟩,
   ⟨(some 18), .pick (.tmp 8) (.tmp 17) (.const (.bool false)), none⟩,
   ⟨(some 19), .mv (.tmp 18), none⟩,
   ⟨(some 20), .load 17 (.tmp 3), (some (19, true))⟩,
   ⟨(some 22), .load 17 (.tmp 3), (some (19, true))⟩,
   ⟨(some 21), .call n_uir_Reads [(.tmp 20)], (some (19, true))⟩,
   ⟨none, .again 17 (.tmp 3) 22, (some (19, true))⟩,
   ⟨(some 23), .call n_belatedref3_Reads [(.tmp 22)], (some (19, true))⟩,
   ⟨(some 24), .eqv false .bool (.tmp 21) (.tmp 23), (some (19, true))⟩,
   ⟨(some 25), .pick (.tmp 19) (.tmp 24) (.const (.bool false)), none⟩,
   ⟨(some 26), .mv (.tmp 25), none⟩,
   ⟨(some 27), .load 17 (.tmp 3), (some (26, true))⟩,
   ⟨(some 29), .load 17 (.tmp 3), (some (26, true))⟩,
   ⟨(some 28), .call n_uir_Writes [(.tmp 27)], (some (26, true))⟩,
   ⟨none, .again 17 (.tmp 3) 29, (some (26, true))⟩,
   ⟨(some 30), .call n_belatedref3_Writes [(.tmp 29)], (some (26, true))⟩,
   ⟨(some 31), .eqv false .bool (.tmp 28) (.tmp 30), (some (26, true))⟩,
   ⟨(some 32), .pick (.tmp 26) (.tmp 31) (.const (.bool false)), none⟩,
   ⟨(some 33), .mv (.tmp 32), none⟩,
   ⟨(some 34), .load 17 (.tmp 3), (some (33, true))⟩,
   ⟨(some 36), .load 17 (.tmp 3), (some (33, true))⟩,
   ⟨(some 35), .call n_uir_Uses [(.tmp 34)], (some (33, true))⟩,
   ⟨none, .again 17 (.tmp 3) 36, (some (33, true))⟩,
   ⟨(some 37), .call n_belatedref3_Uses [(.tmp 36)], (some (33, true))⟩,
   ⟨(some 38), .call n_belatedlaw3_ints [(.tmp 35), (.tmp 37)], (some (33, true))⟩,
   ⟨(some 39), .pick (.tmp 33) (.tmp 38) (.const (.bool false)), none⟩,
   ⟨(some 40), .mv (.tmp 39), none⟩,
   ⟨(some 41), .load 17 (.tmp 3), (some (40, true))⟩,
   ⟨(some 43), .load 17 (.tmp 3), (some (40, true))⟩,
   ⟨(some 42), .call n_uir_Gives [(.tmp 41)], (some (40, true))⟩,
   ⟨none, .again 17 (.tmp 3) 43, (some (40, true))⟩,
   ⟨(some 44), .call n_belatedref3_Gives [(.tmp 43)], (some (40, true))⟩,
   ⟨(some 45), .bin .eql (.tmp 42) (.tmp 44), (some (40, true))⟩,
   ⟨(some 46), .pick (.tmp 40) (.tmp 45) (.const (.bool false)), none⟩,
   ⟨(some 6), .mv (.tmp 46), none⟩])
 .ret))⟩
def c_belatedlaw3_UirQuiet : AFunc := ⟨149, [.tmp 10],
 (.seq (.ops [⟨(some 6), .box 8 (.tmp 1), none⟩,
   ⟨(some 10), .mv (.const (.bool false)), none⟩])
 (.seq (.seq (.ops [⟨(some 24), .call n_belatedlaw3_able [], none⟩,
   ⟨(some 25), .un .not (.tmp 24), none⟩])
 (.cond (.tmp 25) (.seq (.ops [⟨(some 10), .mv (.const (.bool false)), none⟩])
 .ret) .skip))
 (.seq (.seq (.ops [⟨(some 26), .mv (.tmp 0), none⟩,
   ⟨(some 27), .len (.tmp 26), none⟩,
   ⟨(some 28), .bin .gtr (.tmp 27) (.const (.int .i64 2000)), none⟩,
   ⟨(some 29), .mv (.tmp 28), none⟩,
   ⟨(some 30), .mv (.tmp 2), (some (29, false))⟩,
   ⟨(some 31), .len (.tmp 30), (some (29, false))⟩,
   ⟨(some 32), .bin .gtr (.tmp 31) (.const (.int .i64 2000)), (some (29, false))⟩,
   ⟨(some 33), .pick (.tmp 29) (.const (.bool true)) (.tmp 32), none⟩])
 (.cond (.tmp 33) (.seq (.ops [⟨(some 10), .mv (.const (.bool true)), none⟩])
 .ret) .skip))
 (.seq (.ops [⟨(some 34), .mv (.tmp 3), none⟩,
   ⟨(some 35), .bin .and (.tmp 34) (.const (.int .i64 7)), none⟩,
   ⟨(some 3), .mv (.tmp 35), none⟩])
 (.seq (.ops [⟨(some 11), .mv (.const (.bool false)), none⟩])
 (.seq (.seq (.ops [⟨(some 12), .mv (.const (.int .i64 0)), none⟩])
 (.block 0 (.loop (.seq (.seq (.ops [⟨(some 36), .mv (.tmp 12), none⟩,
     ⟨(some 37), .mv (.tmp 0), none⟩,
     ⟨(some 38), .len (.tmp 37), none⟩,
     ⟨(some 39), .bin .lss (.tmp 36) (.tmp 38), none⟩])
   (.cond (.tmp 39) .skip (.exit 0)))
   (.seq (.block 1 (.seq (.ops [⟨(some 42), .mv (.tmp 0), none⟩,
      ⟨(some 43), .mv (.tmp 12), none⟩,
      ⟨(some 44), .atRow 17 (.tmp 42) (.tmp 43), none⟩,
      ⟨(some 45), .load 17 (.tmp 44), none⟩,
      ⟨(some 46), .call n_uir_Uses [(.tmp 45)], none⟩,
      ⟨(some 13), .mv (.tmp 46), none⟩])
    (.seq (.seq (.ops [⟨(some 14), .mv (.const (.int .i64 0)), none⟩])
    (.block 2 (.loop (.seq (.seq (.ops [⟨(some 47), .mv (.tmp 14), none⟩,
        ⟨(some 48), .mv (.tmp 13), none⟩,
        ⟨(some 49), .len (.tmp 48), none⟩,
        ⟨(some 50), .bin .lss (.tmp 47) (.tmp 49), none⟩])
      (.cond (.tmp 50) .skip (.exit 2)))
      (.seq (.block 3 (.seq (.ops [⟨(some 53), .mv (.tmp 13), none⟩,
         ⟨(some 54), .mv (.tmp 14), none⟩,
         ⟨(some 55), .atRow 1 (.tmp 53) (.tmp 54), none⟩,
         ⟨(some 56), .load1 (.tmp 55), none⟩,
         ⟨(some 57), .mv (.tmp 3), none⟩,
         ⟨(some 58), .bin .eql (.tmp 56) (.tmp 57), none⟩])
       (.cond (.tmp 58) (.seq (.ops [⟨(some 10), .mv (.const (.bool true)), none⟩])
       .ret) .skip)))
      (.ops [⟨(some 51), .mv (.tmp 14), none⟩,
        ⟨(some 52), .bin .add (.tmp 51) (.const (.int .i64 1)), none⟩,
        ⟨(some 14), .mv (.tmp 52), none⟩]))))))
    (.ops [⟨(some 59), .mv (.tmp 11), none⟩,
      ⟨(some 60), .mv (.tmp 59), none⟩,
      ⟨(some 61), .mv (.tmp 0), (some (60, false))⟩,
      ⟨(some 62), .mv (.tmp 12), (some (60, false))⟩,
      ⟨(some 63), .atRow 17 (.tmp 61) (.tmp 62), (some (60, false))⟩,
      ⟨(some 64), .load 17 (.tmp 63), (some (60, false))⟩,
      ⟨(some 65), .call n_uir_Gives [(.tmp 64)], (some (60, false))⟩,
      ⟨(some 66), .mv (.tmp 3), (some (60, false))⟩,
      ⟨(some 67), .bin .eql (.tmp 65) (.tmp 66), (some (60, false))⟩,
      ⟨(some 68), .pick (.tmp 60) (.const (.bool true)) (.tmp 67), none⟩,
      ⟨(some 11), .mv (.tmp 68), none⟩]))))
   (.ops [⟨(some 40), .mv (.tmp 12), none⟩,
     ⟨(some 41), .bin .add (.tmp 40) (.const (.int .i64 1)), none⟩,
     ⟨(some 12), .mv (.tmp 41), none⟩]))))))
 (.seq (.ops [⟨(some 70), .mkRow (List.replicate 10 (.int .i64 0) ++ List.replicate 3 (.bool false) ++ List.replicate 3 (.int .i64 0) ++ [(.bool false)]) 0 [], none⟩,
   ⟨(some 71), .mv (.tmp 0), none⟩,
   ⟨(some 73), .load 8 (.tmp 6), none⟩,
   ⟨(some 74), .mkRow [(.int .i64 0)] 0 [], none⟩,
   ⟨(some 75), .mv (.tmp 2), none⟩,
   ⟨(some 15), .alloc (List.replicate 8 (.int .i64 0)), none⟩,
   ⟨(some 72), .append 17 120 (.tmp 70) (.tmp 71), none⟩,
   ⟨none, .again 8 (.tmp 6) 73, none⟩,
   ⟨(some 76), .append 1 8 (.tmp 74) (.tmp 75), none⟩,
   ⟨none, .again 8 (.tmp 6) 73, none⟩,
   ⟨(some 77), .call n_uir_Local [(.tmp 72), (.tmp 73), (.tmp 76)], none⟩,
   ⟨(some 69), .mv (.tmp 77), none⟩,
   ⟨(some 78), .extract (.tmp 69) 0, none⟩,
   ⟨(some 79), .extract (.tmp 69) 1, none⟩,
   ⟨(some 80), .extract (.tmp 69) 2, none⟩,
   ⟨(some 81), .extract (.tmp 69) 3, none⟩,
   ⟨none, .store 8 (.tmp 15) (.tmp 78), none⟩,
   ⟨(some 16), .mv (.tmp 79), none⟩,
   ⟨(some 17), .mv (.tmp 80), none⟩,
   ⟨(some 18), .mv (.tmp 81), none⟩])
 (.seq (.ops [⟨(some 82), .mv (.tmp 3), none⟩,
   ⟨(some 83), .mv (.tmp 4), none⟩,
   ⟨(some 84), .atArr 8 1 (.tmp 6) (.tmp 82), none⟩,
   ⟨none, .store1 (.tmp 84) (.tmp 83), none⟩])
 (.seq (.ops [⟨(some 86), .mkRow (List.replicate 10 (.int .i64 0) ++ List.replicate 3 (.bool false) ++ List.replicate 3 (.int .i64 0) ++ [(.bool false)]) 0 [], none⟩,
   ⟨(some 87), .mv (.tmp 0), none⟩,
   ⟨(some 89), .load 8 (.tmp 6), none⟩,
   ⟨(some 90), .mkRow [(.int .i64 0)] 0 [], none⟩,
   ⟨(some 91), .mv (.tmp 2), none⟩,
   ⟨(some 19), .alloc (List.replicate 8 (.int .i64 0)), none⟩,
   ⟨(some 88), .append 17 120 (.tmp 86) (.tmp 87), none⟩,
   ⟨none, .again 8 (.tmp 6) 89, none⟩,
   ⟨(some 92), .append 1 8 (.tmp 90) (.tmp 91), none⟩,
   ⟨none, .again 8 (.tmp 6) 89, none⟩,
   ⟨(some 93), .call n_uir_Local [(.tmp 88), (.tmp 89), (.tmp 92)], none⟩,
   ⟨(some 85), .mv (.tmp 93), none⟩,
   ⟨(some 94), .extract (.tmp 85) 0, none⟩,
   ⟨(some 95), .extract (.tmp 85) 1, none⟩,
   ⟨(some 96), .extract (.tmp 85) 2, none⟩,
   ⟨(some 97), .extract (.tmp 85) 3, none⟩,
   ⟨none, .store 8 (.tmp 19) (.tmp 94), none⟩,
   ⟨(some 20), .mv (.tmp 95), none⟩,
   ⟨(some 21), .mv (.tmp 96), none⟩,
   ⟨(some 22), .mv (.tmp 97), none⟩])
 (.seq (.seq (.ops [⟨(some 98), .mv (.tmp 18), none⟩,
   ⟨(some 99), .mv (.tmp 22), none⟩,
   ⟨(some 100), .bin .neq (.tmp 98) (.tmp 99), none⟩,
   ⟨(some 101), .mv (.tmp 100), none⟩,
   ⟨(some 102), .mv (.tmp 16), (some (101, false))⟩,
   ⟨(some 103), .len (.tmp 102), (some (101, false))⟩,
   ⟨(some 104), .mv (.tmp 20), (some (101, false))⟩,
   ⟨(some 105), .len (.tmp 104), (some (101, false))⟩,
   ⟨(some 106), .bin .neq (.tmp 103) (.tmp 105), (some (101, false))⟩,
   ⟨(some 107), .pick (.tmp 101) (.const (.bool true)) (.tmp 106), none⟩,
   ⟨(some 108), .mv (.tmp 107), none⟩,
   ⟨(some 109), .mv (.tmp 17), (some (108, false))⟩,
   ⟨(some 110), .mv (.tmp 21), (some (108, false))⟩,
   ⟨(some 111), .call n_belatedlaw3_ints [(.tmp 109), (.tmp 110)], (some (108, false))⟩,
   ⟨(some 112), .un .not (.tmp 111), (some (108, false))⟩,
   ⟨(some 113), .pick (.tmp 108) (.const (.bool true)) (.tmp 112), none⟩])
 (.cond (.tmp 113) (.seq (.ops [⟨(some 10), .mv (.const (.bool false)), none⟩])
 .ret) .skip))
 (.seq (.seq (.ops [⟨(some 23), .mv (.const (.int .i64 0)), none⟩])
 (.block 4 (.loop (.seq (.seq (.ops [⟨(some 114), .mv (.tmp 23), none⟩,
     ⟨(some 115), .mv (.tmp 16), none⟩,
     ⟨(some 116), .len (.tmp 115), none⟩,
     ⟨(some 117), .bin .lss (.tmp 114) (.tmp 116), none⟩])
   (.cond (.tmp 117) .skip (.exit 4)))
   (.seq (.block 5 (.seq (.ops [⟨(some 120), .mv (.tmp 16), none⟩,
      ⟨(some 121), .mv (.tmp 23), none⟩,
      ⟨(some 122), .atRow 15 (.tmp 120) (.tmp 121), none⟩,
      ⟨(some 123), .load 15 (.tmp 122), none⟩,
      ⟨(some 124), .mv (.tmp 20), none⟩,
      ⟨(some 125), .mv (.tmp 23), none⟩,
      ⟨(some 126), .atRow 15 (.tmp 124) (.tmp 125), none⟩,
      ⟨(some 127), .load 15 (.tmp 126), none⟩,
      ⟨(some 128), .eqAgg true (List.replicate 6 .int ++ List.replicate 2 .bool ++ List.replicate 2 .int ++ List.replicate 3 .bool ++ List.replicate 2 .int) (.tmp 123) (.tmp 127), none⟩])
    (.cond (.tmp 128) (.seq (.ops [⟨(some 10), .mv (.const (.bool false)), none⟩])
    .ret) .skip)))
   (.ops [⟨(some 118), .mv (.tmp 23), none⟩,
     ⟨(some 119), .bin .add (.tmp 118) (.const (.int .i64 1)), none⟩,
     ⟨(some 23), .mv (.tmp 119), none⟩]))))))
 (.seq (.seq (.ops [⟨(some 129), .mv (.tmp 11), none⟩,
   ⟨(some 130), .un .not (.tmp 129), none⟩,
   ⟨(some 131), .mv (.tmp 130), none⟩,
   ⟨(some 132), .mv (.tmp 18), (some (131, true))⟩,
   ⟨(some 133), .bin .eql (.tmp 132) (.const (.int .i64 0)), (some (131, true))⟩,
   ⟨(some 134), .pick (.tmp 131) (.tmp 133) (.const (.bool false)), none⟩,
   ⟨(some 135), .mv (.tmp 134), none⟩,
   ⟨(some 136), .mv (.tmp 3), (some (135, true))⟩,
   ⟨(some 137), .atArr 8 1 (.tmp 19) (.tmp 136), (some (135, true))⟩,
   ⟨(some 138), .load1 (.tmp 137), (some (135, true))⟩,
   ⟨(some 139), .mv (.tmp 4), (some (135, true))⟩,
   ⟨(some 140), .bin .neq (.tmp 138) (.tmp 139), (some (135, true))⟩,
   ⟨(some 141), .pick (.tmp 135) (.tmp 140) (.const (.bool false)), none⟩])
 (.cond (.tmp 141) (.seq (.ops [⟨(some 10), .mv (.const (.bool false)), none⟩])
 .ret) .skip))
 (.seq (.ops [⟨(some 142), .mv (.tmp 3), none⟩,
   ⟨(some 143), .mv (.tmp 3), none⟩,
   ⟨(some 144), .atArr 8 1 (.tmp 15) (.tmp 142), none⟩,
   ⟨none, .store1 (.tmp 144) (.const (.int .i64 0)), none⟩,
   ⟨(some 145), .atArr 8 1 (.tmp 19) (.tmp 143), none⟩,
   ⟨none, .store1 (.tmp 145) (.const (.int .i64 0)), none⟩])
 (.seq (.ops [⟨(some 146), .load 8 (.tmp 15), none⟩,
   ⟨(some 147), .load 8 (.tmp 19), none⟩,
   ⟨(some 148), .eqAgg false (List.replicate 8 .int) (.tmp 146) (.tmp 147), none⟩,
   ⟨(some 10), .mv (.tmp 148), none⟩])
 .ret))))))))))))))⟩
def c_belatedlaw3_able : AFunc := ⟨74, [.tmp 0],
 (.seq (.ops [⟨(some 0), .mv (.const (.bool false)), none⟩])
 (.seq (.ops [⟨(some 9), .build (List.replicate 10 (.int .i64 0) ++ List.replicate 3 (.bool false) ++ List.replicate 3 (.int .i64 0) ++ [(.bool false)]) [(0, 1, (.const (.int .i64 1))), (1, 1, (.const (.int .i64 1))), (2, 1, (.const (.int .i64 (-1)))), (3, 1, (.const (.int .i64 (-1)))), (4, 1, (.const (.int .i64 5))), (7, 1, (.const (.int .i64 (-1))))], none⟩,
   ⟨(some 10), .build (List.replicate 10 (.int .i64 0) ++ List.replicate 3 (.bool false) ++ List.replicate 3 (.int .i64 0) ++ [(.bool false)]) [(0, 1, (.const (.int .i64 5))), (1, 1, (.const (.int .i64 (-1)))), (2, 1, (.const (.int .i64 1))), (3, 1, (.const (.int .i64 (-1)))), (7, 1, (.const (.int .i64 (-1)))), (8, 1, (.const (.int .i64 8)))], none⟩,
   ⟨(some 11), .mkRow (List.replicate 10 (.int .i64 0) ++ List.replicate 3 (.bool false) ++ List.replicate 3 (.int .i64 0) ++ [(.bool false)]) 2 [(0, 17, (.tmp 9)), (17, 17, (.tmp 10))], none⟩,
   ⟨(some 1), .mv (.tmp 11), none⟩])
 (.seq (.ops [⟨(some 13), .mv (.tmp 1), none⟩,
   ⟨(some 14), .build (List.replicate 8 (.int .i64 0)) [], none⟩,
   ⟨(some 15), .call n_uir_Local [(.tmp 13), (.tmp 14), (.const (.slice none 0 0))], none⟩,
   ⟨(some 12), .mv (.tmp 15), none⟩,
   ⟨(some 16), .extract (.tmp 12) 0, none⟩,
   ⟨(some 17), .extract (.tmp 12) 1, none⟩,
   ⟨(some 18), .extract (.tmp 12) 2, none⟩,
   ⟨(some 19), .extract (.tmp 12) 3, none⟩,
   ⟨(some 2), .alloc (List.replicate 8 (.int .i64 0)), none⟩,
   ⟨none, .store 8 (.tmp 2) (.tmp 16), none⟩,
   ⟨(some 3), .mv (.tmp 17), none⟩,
   ⟨(some 4), .mv (.tmp 18), none⟩,
   ⟨(some 5), .mv (.tmp 19), none⟩])
 (.seq (.ops [⟨(some 21), .call n_uir_Check [(.const (.slice none 0 0))], none⟩,
   ⟨(some 20), .mv (.tmp 21), none⟩,
   ⟨(some 22), .extract (.tmp 20) 0, none⟩,
   ⟨(some 23), .extract (.tmp 20) 1, none⟩,
   ⟨(some 24), .extract (.tmp 20) 2, none⟩,
   ⟨(some 6), .mv (.tmp 22), none⟩,
   ⟨(some 7), .mv (.tmp 23), none⟩,
   ⟨(some 8), .mv (.tmp 24), none⟩])
 (.seq (.ops [⟨(some 25), .mv (.tmp 5), none⟩,
   ⟨(some 26), .bin .eql (.tmp 25) (.const (.int .i64 0)), none⟩,
   ⟨(some 27), .mv (.tmp 26), none⟩,
   ⟨(some 28), .atArr 8 1 (.tmp 2) (.const (.int .i64 1)), (some (27, true))⟩,
   ⟨(some 29), .load1 (.tmp 28), (some (27, true))⟩,
   ⟨(some 30), .bin .eql (.tmp 29) (.const (.int .i64 5)), (some (27, true))⟩,
   ⟨(some 31), .pick (.tmp 27) (.tmp 30) (.const (.bool false)), none⟩,
   ⟨(some 32), .mv (.tmp 31), none⟩,
   ⟨(some 33), .mv (.tmp 3), (some (32, true))⟩,
   ⟨(some 34), .len (.tmp 33), (some (32, true))⟩,
   ⟨(some 35), .bin .eql (.tmp 34) (.const (.int .i64 1)), (some (32, true))⟩,
   ⟨(some 36), .pick (.tmp 32) (.tmp 35) (.const (.bool false)), none⟩,
   ⟨(some 37), .mv (.tmp 36), none⟩,
   ⟨(some 38), .mv (.tmp 3), (some (37, true))⟩,
   ⟨(some 39), .atRow 15 (.tmp 38) (.const (.int .i64 0)), (some (37, true))⟩,
   ⟨(some 40), .off 9 (.tmp 39), (some (37, true))⟩,
   ⟨(some 41), .load1 (.tmp 40), (some (37, true))⟩,
   ⟨(some 42), .bin .eql (.tmp 41) (.const (.int .i64 5)), (some (37, true))⟩,
   ⟨(some 43), .pick (.tmp 37) (.tmp 42) (.const (.bool false)), none⟩,
   ⟨(some 44), .mv (.tmp 43), none⟩,
   ⟨(some 45), .mv (.tmp 3), (some (44, true))⟩,
   ⟨(some 46), .atRow 15 (.tmp 45) (.const (.int .i64 0)), (some (44, true))⟩,
   ⟨(some 47), .off 4 (.tmp 46), (some (44, true))⟩,
   ⟨(some 48), .off 1 (.tmp 47), (some (44, true))⟩,
   ⟨(some 49), .load1 (.tmp 48), (some (44, true))⟩,
   ⟨(some 50), .bin .eql (.tmp 49) (.const (.int .i64 255)), (some (44, true))⟩,
   ⟨(some 51), .pick (.tmp 44) (.tmp 50) (.const (.bool false)), none⟩,
   ⟨(some 52), .mv (.tmp 51), none⟩,
   ⟨(some 53), .mv (.tmp 4), (some (52, true))⟩,
   ⟨(some 54), .len (.tmp 53), (some (52, true))⟩,
   ⟨(some 55), .bin .eql (.tmp 54) (.const (.int .i64 2)), (some (52, true))⟩,
   ⟨(some 56), .pick (.tmp 52) (.tmp 55) (.const (.bool false)), none⟩,
   ⟨(some 57), .mv (.tmp 56), none⟩,
   ⟨(some 58), .mv (.tmp 8), (some (57, true))⟩,
   ⟨(some 59), .bin .neq (.tmp 58) (.const (.int .i64 0)), (some (57, true))⟩,
   ⟨(some 60), .pick (.tmp 57) (.tmp 59) (.const (.bool false)), none⟩,
   ⟨(some 61), .mv (.tmp 60), none⟩,
   ⟨(some 62), .mv (.tmp 1), (some (61, true))⟩,
   ⟨(some 63), .atRow 17 (.tmp 62) (.const (.int .i64 1)), (some (61, true))⟩,
   ⟨(some 64), .load 17 (.tmp 63), (some (61, true))⟩,
   ⟨(some 65), .call n_uir_Writes [(.tmp 64)], (some (61, true))⟩,
   ⟨(some 66), .pick (.tmp 61) (.tmp 65) (.const (.bool false)), none⟩,
   ⟨(some 67), .mv (.tmp 66), none⟩,
   ⟨(some 68), .mv (.tmp 1), (some (67, true))⟩,
   ⟨(some 69), .atRow 17 (.tmp 68) (.const (.int .i64 0)), (some (67, true))⟩,
   ⟨(some 70), .load 17 (.tmp 69), (some (67, true))⟩,
   ⟨(some 71), .call n_uir_Gives [(.tmp 70)], (some (67, true))⟩,
   ⟨(some 72), .bin .eql (.tmp 71) (.const (.int .i64 1)), (some (67, true))⟩,
   ⟨(some 73), .pick (.tmp 67) (.tmp 72) (.const (.bool false)), none⟩,
   ⟨(some 0), .mv (.tmp 73), none⟩])
 .ret)))))⟩
def c_uir_Check : AFunc := ⟨74, [.tmp 2, .tmp 3, .tmp 4],
 (.seq (.ops [⟨(some 2), .mv (.const (.int .i64 0)), none⟩,
   ⟨(some 3), .mv (.const (.int .i64 0)), none⟩,
   ⟨(some 4), .mv (.const (.int .i64 0)), none⟩])
 (.seq (.seq (.ops [⟨(some 14), .mv (.tmp 0), none⟩,
   ⟨(some 15), .len (.tmp 14), none⟩,
   ⟨(some 16), .bin .lss (.tmp 15) (.const (.int .i64 1)), none⟩,
   ⟨(some 17), .mv (.tmp 16), none⟩,
   ⟨(some 18), .mv (.tmp 0), (some (17, false))⟩,
   ⟨(some 19), .len (.tmp 18), (some (17, false))⟩,
   ⟨(some 20), .bin .gtr (.tmp 19) (.const (.int .i64 3)), (some (17, false))⟩,
   ⟨(some 21), .pick (.tmp 17) (.const (.bool true)) (.tmp 20), none⟩])
 (.cond (.tmp 21) (.seq (.ops [⟨(some 2), .mv (.const (.int .i64 0)), none⟩,
   ⟨(some 3), .mv (.const (.int .i64 0)), none⟩,
   ⟨(some 4), .mv (.const (.int .i64 30)), none⟩])
 .ret) .skip))
 (.seq (.ops [⟨(some 5), .mv (.const (.int .i64 0)), none⟩,
   ⟨(some 6), .mv (.const (.int .i64 0)), none⟩])
 (.seq (.seq (.ops [⟨(some 22), .mv (.tmp 0), none⟩,
   ⟨(some 23), .len (.tmp 22), none⟩,
   ⟨(some 24), .mv (.const (.int .i64 0)), none⟩])
 (.block 0 (.loop (.seq (.ops [⟨(some 25), .bin .lss (.tmp 24) (.tmp 23), none⟩])
   (.seq (.cond (.tmp 25) .skip (.exit 0))
   (.seq (.block 1 (.seq (.ops [⟨(some 26), .mv (.tmp 24), none⟩,
      ⟨(some 27), .atRow 1 (.tmp 22) (.tmp 24), none⟩,
      ⟨(some 28), .load1 (.tmp 27), none⟩,
      ⟨(some 7), .mv (.tmp 26), none⟩,
      ⟨(some 8), .mv (.tmp 28), none⟩])
    (.seq (.seq (.ops [⟨(some 29), .mv (.tmp 8), none⟩,
      ⟨(some 30), .len (.tmp 29), none⟩,
      ⟨(some 31), .bin .gtr (.tmp 30) (.const (.int .i64 8)), none⟩])
    (.cond (.tmp 31) (.seq (.ops [⟨(some 32), .mv (.tmp 7), none⟩,
      ⟨(some 2), .mv (.tmp 32), none⟩,
      ⟨(some 3), .mv (.const (.int .i64 0)), none⟩,
      ⟨(some 4), .mv (.const (.int .i64 31)), none⟩])
    .ret) .skip))
    (.seq (.ops [⟨(some 33), .mv (.tmp 5), none⟩,
      ⟨(some 34), .mv (.tmp 8), none⟩,
      ⟨(some 35), .call n_uir_Ops [(.tmp 34)], none⟩,
      ⟨(some 36), .bin .add (.tmp 33) (.tmp 35), none⟩,
      ⟨(some 5), .mv (.tmp 36), none⟩])
    (.ops [⟨(some 37), .mv (.tmp 6), none⟩,
      ⟨(some 38), .mv (.tmp 8), none⟩,
      ⟨(some 39), .call n_uir_Branches [(.tmp 38)], none⟩,
      ⟨(some 40), .bin .add (.tmp 37) (.tmp 39), none⟩,
      ⟨(some 6), .mv (.tmp 40), none⟩])))))
   (.ops [⟨(some 41), .bin .add (.tmp 24) (.const (.int .i64 1)), none⟩,
     ⟨(some 24), .mv (.tmp 41), none⟩])))))))
 (.seq (.seq (.ops [⟨(some 42), .mv (.tmp 0), none⟩,
   ⟨(some 43), .len (.tmp 42), none⟩,
   ⟨(some 44), .mv (.const (.int .i64 0)), none⟩])
 (.block 2 (.loop (.seq (.ops [⟨(some 45), .bin .lss (.tmp 44) (.tmp 43), none⟩])
   (.seq (.cond (.tmp 45) .skip (.exit 2))
   (.seq (.block 3 (.seq (.ops [⟨(some 46), .mv (.tmp 44), none⟩,
      ⟨(some 47), .atRow 1 (.tmp 42) (.tmp 44), none⟩,
      ⟨(some 48), .load1 (.tmp 47), none⟩,
      ⟨(some 9), .mv (.tmp 46), none⟩,
      ⟨(some 10), .mv (.tmp 48), none⟩])
    (.seq (.ops [⟨(some 49), .mv (.tmp 10), none⟩,
      ⟨(some 50), .len (.tmp 49), none⟩,
      ⟨(some 51), .mv (.const (.int .i64 0)), none⟩])
    (.block 4 (.loop (.seq (.ops [⟨(some 52), .bin .lss (.tmp 51) (.tmp 50), none⟩])
      (.seq (.cond (.tmp 52) .skip (.exit 4))
      (.seq (.block 5 (.seq (.ops [⟨(some 53), .mv (.tmp 51), none⟩,
         ⟨(some 54), .atRow 17 (.tmp 49) (.tmp 51), none⟩,
         ⟨(some 55), .load 17 (.tmp 54), none⟩,
         ⟨(some 12), .alloc (List.replicate 10 (.int .i64 0) ++ List.replicate 3 (.bool false) ++ List.replicate 3 (.int .i64 0) ++ [(.bool false)]), none⟩,
         ⟨(some 11), .mv (.tmp 53), none⟩,
         ⟨none, .store 17 (.tmp 12) (.tmp 55), none⟩])
       (.seq (.ops [⟨(some 56), .load 17 (.tmp 12), none⟩,
         ⟨(some 57), .mv (.tmp 11), none⟩,
         ⟨(some 58), .mv (.tmp 10), none⟩,
         ⟨(some 59), .len (.tmp 58), none⟩,
         ⟨(some 60), .call n_uir_Right [(.tmp 56), (.tmp 57), (.tmp 59)], none⟩,
         ⟨(some 13), .mv (.tmp 60), none⟩])
       (.seq (.ops [⟨(some 61), .mv (.tmp 13), none⟩,
         ⟨(some 62), .bin .neq (.tmp 61) (.const (.int .i64 0)), none⟩])
       (.cond (.tmp 62) (.seq (.ops [⟨(some 63), .mv (.tmp 9), none⟩,
         ⟨(some 64), .mv (.tmp 11), none⟩,
         ⟨(some 65), .mv (.tmp 13), none⟩,
         ⟨(some 2), .mv (.tmp 63), none⟩,
         ⟨(some 3), .mv (.tmp 64), none⟩,
         ⟨(some 4), .mv (.tmp 65), none⟩])
       .ret) .skip)))))
      (.ops [⟨(some 66), .bin .add (.tmp 51) (.const (.int .i64 1)), none⟩,
        ⟨(some 51), .mv (.tmp 66), none⟩])))))))))
   (.ops [⟨(some 67), .bin .add (.tmp 44) (.const (.int .i64 1)), none⟩,
     ⟨(some 44), .mv (.tmp 67), none⟩])))))))
 (.seq (.block 6 (.seq (.ops [⟨(some 69), .mv (.tmp 5), none⟩,
    ⟨(some 70), .bin .gtr (.tmp 69) (.const (.int .i64 6)), none⟩,
    ⟨(some 68), .mv (.tmp 70), none⟩])
  (.cond (.tmp 68) (.seq (.ops [⟨(some 2), .mv (.const (.int .i64 0)), none⟩,
    ⟨(some 3), .mv (.const (.int .i64 0)), none⟩,
    ⟨(some 4), .mv (.const (.int .i64 32)), none⟩])
  .ret) (.seq (.ops [⟨(some 72), .mv (.tmp 6), none⟩,
    ⟨(some 73), .bin .gtr (.tmp 72) (.const (.int .i64 3)), none⟩,
    ⟨(some 71), .mv (.tmp 73), none⟩])
  (.cond (.tmp 71) (.seq (.ops [⟨(some 2), .mv (.const (.int .i64 0)), none⟩,
    ⟨(some 3), .mv (.const (.int .i64 0)), none⟩,
    ⟨(some 4), .mv (.const (.int .i64 33)), none⟩])
  .ret) .skip)))))
 (.seq (.ops [⟨(some 2), .mv (.const (.int .i64 0)), none⟩,
   ⟨(some 3), .mv (.const (.int .i64 0)), none⟩,
   ⟨(some 4), .mv (.const (.int .i64 0)), none⟩])
 .ret)))))))⟩
def c_belatedref3_Check : AFunc := ⟨84, [.tmp 2, .tmp 3, .tmp 4],
 (.seq (.ops [⟨(some 2), .mv (.const (.int .i64 0)), none⟩,
   ⟨(some 3), .mv (.const (.int .i64 0)), none⟩,
   ⟨(some 4), .mv (.const (.int .i64 0)), none⟩])
 (.seq (.seq (.ops [⟨(some 11), .mv (.tmp 0), none⟩,
   ⟨(some 12), .len (.tmp 11), none⟩,
   ⟨(some 13), .bin .lss (.tmp 12) (.const (.int .i64 1)), none⟩,
   ⟨(some 14), .mv (.tmp 13), none⟩,
   ⟨(some 15), .mv (.tmp 0), (some (14, false))⟩,
   ⟨(some 16), .len (.tmp 15), (some (14, false))⟩,
   ⟨(some 17), .bin .gtr (.tmp 16) (.const (.int .i64 3)), (some (14, false))⟩,
   ⟨(some 18), .pick (.tmp 14) (.const (.bool true)) (.tmp 17), none⟩])
 (.cond (.tmp 18) (.seq (.ops [⟨(some 2), .mv (.const (.int .i64 0)), none⟩,
   ⟨(some 3), .mv (.const (.int .i64 0)), none⟩,
   ⟨(some 4), .mv (.const (.int .i64 30)), none⟩])
 .ret) .skip))
 (.seq (.ops [⟨(some 5), .mv (.const (.int .i64 0)), none⟩])
 (.seq (.ops [⟨(some 6), .mv (.const (.int .i64 0)), none⟩])
 (.seq (.seq (.ops [⟨(some 7), .mv (.const (.int .i64 0)), none⟩])
 (.block 0 (.loop (.seq (.seq (.ops [⟨(some 19), .mv (.tmp 7), none⟩,
     ⟨(some 20), .mv (.tmp 0), none⟩,
     ⟨(some 21), .len (.tmp 20), none⟩,
     ⟨(some 22), .bin .lss (.tmp 19) (.tmp 21), none⟩])
   (.cond (.tmp 22) .skip (.exit 0)))
   (.seq (.block 1 (.seq (.ops [⟨(some 25), .mv (.tmp 0), none⟩,
      ⟨(some 26), .mv (.tmp 7), none⟩,
      ⟨(some 27), .atRow 1 (.tmp 25) (.tmp 26), none⟩,
      ⟨(some 28), .load1 (.tmp 27), none⟩,
      ⟨(some 29), .len (.tmp 28), none⟩,
      ⟨(some 30), .bin .gtr (.tmp 29) (.const (.int .i64 8)), none⟩])
    (.cond (.tmp 30) (.seq (.ops [⟨(some 31), .mv (.tmp 7), none⟩,
      ⟨(some 2), .mv (.tmp 31), none⟩,
      ⟨(some 3), .mv (.const (.int .i64 0)), none⟩,
      ⟨(some 4), .mv (.const (.int .i64 31)), none⟩])
    .ret) .skip)))
   (.ops [⟨(some 23), .mv (.tmp 7), none⟩,
     ⟨(some 24), .bin .add (.tmp 23) (.const (.int .i64 1)), none⟩,
     ⟨(some 7), .mv (.tmp 24), none⟩]))))))
 (.seq (.seq (.ops [⟨(some 8), .mv (.const (.int .i64 0)), none⟩])
 (.block 2 (.loop (.seq (.seq (.ops [⟨(some 32), .mv (.tmp 8), none⟩,
     ⟨(some 33), .mv (.tmp 0), none⟩,
     ⟨(some 34), .len (.tmp 33), none⟩,
     ⟨(some 35), .bin .lss (.tmp 32) (.tmp 34), none⟩])
   (.cond (.tmp 35) .skip (.exit 2)))
   (.seq (.block 3 (.seq (.seq (.ops [⟨(some 9), .mv (.const (.int .i64 0)), none⟩])
    (.block 4 (.loop (.seq (.seq (.ops [⟨(some 38), .mv (.tmp 9), none⟩,
        ⟨(some 39), .mv (.tmp 0), none⟩,
        ⟨(some 40), .mv (.tmp 8), none⟩,
        ⟨(some 41), .atRow 1 (.tmp 39) (.tmp 40), none⟩,
        ⟨(some 42), .load1 (.tmp 41), none⟩,
        ⟨(some 43), .len (.tmp 42), none⟩,
        ⟨(some 44), .bin .lss (.tmp 38) (.tmp 43), none⟩])
      (.cond (.tmp 44) .skip (.exit 4)))
      (.seq (.block 5 (.seq (.ops [⟨(some 47), .mv (.tmp 0), none⟩,
         ⟨(some 48), .mv (.tmp 8), none⟩,
         ⟨(some 49), .atRow 1 (.tmp 47) (.tmp 48), none⟩,
         ⟨(some 50), .load1 (.tmp 49), none⟩,
         ⟨(some 51), .mv (.tmp 9), none⟩,
         ⟨(some 52), .atRow 17 (.tmp 50) (.tmp 51), none⟩,
         ⟨(some 53), .load 17 (.tmp 52), none⟩,
         ⟨(some 54), .mv (.tmp 9), none⟩,
         ⟨(some 55), .mv (.tmp 0), none⟩,
         ⟨(some 56), .mv (.tmp 8), none⟩,
         ⟨(some 57), .atRow 1 (.tmp 55) (.tmp 56), none⟩,
         ⟨(some 58), .load1 (.tmp 57), none⟩,
         ⟨(some 59), .len (.tmp 58), none⟩,
         ⟨(some 60), .call n_belatedref3_Right [(.tmp 53), (.tmp 54), (.tmp 59)], none⟩,
         ⟨(some 10), .mv (.tmp 60), none⟩])
       (.seq (.ops [⟨(some 61), .mv (.tmp 10), none⟩,
         ⟨(some 62), .bin .neq (.tmp 61) (.const (.int .i64 0)), none⟩])
       (.cond (.tmp 62) (.seq (.ops [⟨(some 63), .mv (.tmp 8), none⟩,
         ⟨(some 64), .mv (.tmp 9), none⟩,
         ⟨(some 65), .mv (.tmp 10), none⟩,
         ⟨(some 2), .mv (.tmp 63), none⟩,
         ⟨(some 3), .mv (.tmp 64), none⟩,
         ⟨(some 4), .mv (.tmp 65), none⟩])
       .ret) .skip))))
      (.ops [⟨(some 45), .mv (.tmp 9), none⟩,
        ⟨(some 46), .bin .add (.tmp 45) (.const (.int .i64 1)), none⟩,
        ⟨(some 9), .mv (.tmp 46), none⟩]))))))
    (.seq (.ops [⟨(some 66), .mv (.tmp 5), none⟩,
      ⟨(some 67), .mv (.tmp 0), none⟩,
      ⟨(some 68), .mv (.tmp 8), none⟩,
      ⟨(some 69), .atRow 1 (.tmp 67) (.tmp 68), none⟩,
      ⟨(some 70), .load1 (.tmp 69), none⟩,
      ⟨(some 71), .call n_belatedref3_Ops [(.tmp 70)], none⟩,
      ⟨(some 72), .bin .add (.tmp 66) (.tmp 71), none⟩,
      ⟨(some 5), .mv (.tmp 72), none⟩])
    (.ops [⟨(some 73), .mv (.tmp 6), none⟩,
      ⟨(some 74), .mv (.tmp 0), none⟩,
      ⟨(some 75), .mv (.tmp 8), none⟩,
      ⟨(some 76), .atRow 1 (.tmp 74) (.tmp 75), none⟩,
      ⟨(some 77), .load1 (.tmp 76), none⟩,
      ⟨(some 78), .call n_belatedref3_Branches [(.tmp 77)], none⟩,
      ⟨(some 79), .bin .add (.tmp 73) (.tmp 78), none⟩,
      ⟨(some 6), .mv (.tmp 79), none⟩]))))
   (.ops [⟨(some 36), .mv (.tmp 8), none⟩,
     ⟨(some 37), .bin .add (.tmp 36) (.const (.int .i64 1)), none⟩,
     ⟨(some 8), .mv (.tmp 37), none⟩]))))))
 (.seq (.seq (.ops [⟨(some 80), .mv (.tmp 5), none⟩,
   ⟨(some 81), .bin .gtr (.tmp 80) (.const (.int .i64 6)), none⟩])
 (.cond (.tmp 81) (.seq (.ops [⟨(some 2), .mv (.const (.int .i64 0)), none⟩,
   ⟨(some 3), .mv (.const (.int .i64 0)), none⟩,
   ⟨(some 4), .mv (.const (.int .i64 32)), none⟩])
 .ret) .skip))
 (.seq (.seq (.ops [⟨(some 82), .mv (.tmp 6), none⟩,
   ⟨(some 83), .bin .gtr (.tmp 82) (.const (.int .i64 3)), none⟩])
 (.cond (.tmp 83) (.seq (.ops [⟨(some 2), .mv (.const (.int .i64 0)), none⟩,
   ⟨(some 3), .mv (.const (.int .i64 0)), none⟩,
   ⟨(some 4), .mv (.const (.int .i64 33)), none⟩])
 .ret) .skip))
 (.seq (.ops [⟨(some 2), .mv (.const (.int .i64 0)), none⟩,
   ⟨(some 3), .mv (.const (.int .i64 0)), none⟩,
   ⟨(some 4), .mv (.const (.int .i64 0)), none⟩])
 .ret)))))))))⟩
def c_uir_Ops : AFunc := ⟨22, [.tmp 2],
 (.seq (.ops [⟨(some 2), .mv (.const (.int .i64 0)), none⟩])
 (.seq (.ops [⟨(some 3), .mv (.const (.int .i64 0)), none⟩])
 (.seq (.seq (.ops [⟨(some 6), .mv (.tmp 0), none⟩,
   ⟨(some 7), .len (.tmp 6), none⟩,
   ⟨(some 8), .mv (.const (.int .i64 0)), none⟩])
 (.block 0 (.loop (.seq (.ops [⟨(some 9), .bin .lss (.tmp 8) (.tmp 7), none⟩])
   (.seq (.cond (.tmp 9) .skip (.exit 0))
   (.seq (.block 1 (.seq (.ops [⟨(some 10), .atRow 17 (.tmp 6) (.tmp 8), none⟩,
      ⟨(some 11), .load 17 (.tmp 10), none⟩,
      ⟨(some 5), .alloc (List.replicate 10 (.int .i64 0) ++ List.replicate 3 (.bool false) ++ List.replicate 3 (.int .i64 0) ++ [(.bool false)]), none⟩,
      ⟨none, .store 17 (.tmp 5) (.tmp 11), none⟩])
    (.seq (.ops [⟨(some 12), .load 17 (.tmp 5), none⟩,
      ⟨(some 13), .call n_uir_Reads [(.tmp 12)], none⟩,
      ⟨(some 14), .mv (.tmp 13), none⟩,
      ⟨(some 15), .load 17 (.tmp 5), (some (14, false))⟩,
      ⟨(some 16), .call n_uir_Writes [(.tmp 15)], (some (14, false))⟩,
      ⟨(some 17), .pick (.tmp 14) (.const (.bool true)) (.tmp 16), none⟩])
    (.cond (.tmp 17) (.ops [⟨(some 18), .mv (.tmp 3), none⟩,
      ⟨(some 19), .bin .add (.tmp 18) (.const (.int .i64 1)), none⟩,
      ⟨(some 3), .mv (.tmp 19), none⟩]) .skip))))
   (.ops [⟨(some 20), .bin .add (.tmp 8) (.const (.int .i64 1)), none⟩,
     ⟨(some 8), .mv (.tmp 20), none⟩])))))))
 (.seq (.ops [⟨(some 21), .mv (.tmp 3), none⟩,
   ⟨(some 2), .mv (.tmp 21), none⟩])
 .ret))))⟩
def c_belatedref3_Ops : AFunc := ⟨19, [.tmp 2],
 (.seq (.ops [⟨(some 2), .mv (.const (.int .i64 0)), none⟩])
 (.seq (.ops [⟨(some 3), .mv (.const (.int .i64 0)), none⟩])
 (.seq (.seq (.ops [⟨(some 4), .mv (.const (.int .i64 0)), none⟩])
 (.block 0 (.loop (.seq (.seq (.ops [⟨(some 5), .mv (.tmp 4), none⟩,
     ⟨(some 6), .mv (.tmp 0), none⟩,
     ⟨(some 7), .len (.tmp 6), none⟩,
     ⟨(some 8), .bin .lss (.tmp 5) (.tmp 7), none⟩])
   (.cond (.tmp 8) .skip (.exit 0)))
   (.seq (.block 1 (.seq (.ops [⟨(some 11), .mv (.tmp 0), none⟩,
      ⟨(some 12), .mv (.tmp 4), none⟩,
      ⟨(some 13), .atRow 17 (.tmp 11) (.tmp 12), none⟩,
      ⟨(some 14), .load 17 (.tmp 13), none⟩,
      ⟨(some 15), .call n_belatedref3_Memory [(.tmp 14)], none⟩])
    (.cond (.tmp 15) (.ops [⟨(some 16), .mv (.tmp 3), none⟩,
      ⟨(some 17), .bin .add (.tmp 16) (.const (.int .i64 1)), none⟩,
      ⟨(some 3), .mv (.tmp 17), none⟩]) .skip)))
   (.ops [⟨(some 9), .mv (.tmp 4), none⟩,
     ⟨(some 10), .bin .add (.tmp 9) (.const (.int .i64 1)), none⟩,
     ⟨(some 4), .mv (.tmp 10), none⟩]))))))
 (.seq (.ops [⟨(some 18), .mv (.tmp 3), none⟩,
   ⟨(some 2), .mv (.tmp 18), none⟩])
 .ret))))⟩
def c_uir_Branches : AFunc := ⟨19, [.tmp 2],
 (.seq (.ops [⟨(some 2), .mv (.const (.int .i64 0)), none⟩])
 (.seq (.ops [⟨(some 3), .mv (.const (.int .i64 0)), none⟩])
 (.seq (.seq (.ops [⟨(some 6), .mv (.tmp 0), none⟩,
   ⟨(some 7), .len (.tmp 6), none⟩,
   ⟨(some 8), .mv (.const (.int .i64 0)), none⟩])
 (.block 0 (.loop (.seq (.ops [⟨(some 9), .bin .lss (.tmp 8) (.tmp 7), none⟩])
   (.seq (.cond (.tmp 9) .skip (.exit 0))
   (.seq (.block 1 (.seq (.ops [⟨(some 10), .atRow 17 (.tmp 6) (.tmp 8), none⟩,
      ⟨(some 11), .load 17 (.tmp 10), none⟩,
      ⟨(some 5), .alloc (List.replicate 10 (.int .i64 0) ++ List.replicate 3 (.bool false) ++ List.replicate 3 (.int .i64 0) ++ [(.bool false)]), none⟩,
      ⟨none, .store 17 (.tmp 5) (.tmp 11), none⟩])
    (.seq (.ops [⟨(some 12), .off 0 (.tmp 5), none⟩,
      ⟨(some 13), .load1 (.tmp 12), none⟩,
      ⟨(some 14), .bin .eql (.tmp 13) (.const (.int .i64 9)), none⟩])
    (.cond (.tmp 14) (.ops [⟨(some 15), .mv (.tmp 3), none⟩,
      ⟨(some 16), .bin .add (.tmp 15) (.const (.int .i64 1)), none⟩,
      ⟨(some 3), .mv (.tmp 16), none⟩]) .skip))))
   (.ops [⟨(some 17), .bin .add (.tmp 8) (.const (.int .i64 1)), none⟩,
     ⟨(some 8), .mv (.tmp 17), none⟩])))))))
 (.seq (.ops [⟨(some 18), .mv (.tmp 3), none⟩,
   ⟨(some 2), .mv (.tmp 18), none⟩])
 .ret))))⟩
def c_belatedref3_Branches : AFunc := ⟨20, [.tmp 2],
 (.seq (.ops [⟨(some 2), .mv (.const (.int .i64 0)), none⟩])
 (.seq (.ops [⟨(some 3), .mv (.const (.int .i64 0)), none⟩])
 (.seq (.seq (.ops [⟨(some 4), .mv (.const (.int .i64 0)), none⟩])
 (.block 0 (.loop (.seq (.seq (.ops [⟨(some 5), .mv (.tmp 4), none⟩,
     ⟨(some 6), .mv (.tmp 0), none⟩,
     ⟨(some 7), .len (.tmp 6), none⟩,
     ⟨(some 8), .bin .lss (.tmp 5) (.tmp 7), none⟩])
   (.cond (.tmp 8) .skip (.exit 0)))
   (.seq (.block 1 (.seq (.ops [⟨(some 11), .mv (.tmp 0), none⟩,
      ⟨(some 12), .mv (.tmp 4), none⟩,
      ⟨(some 13), .atRow 17 (.tmp 11) (.tmp 12), none⟩,
      ⟨(some 14), .off 0 (.tmp 13), none⟩,
      ⟨(some 15), .load1 (.tmp 14), none⟩,
      ⟨(some 16), .bin .eql (.tmp 15) (.const (.int .i64 9)), none⟩])
    (.cond (.tmp 16) (.ops [⟨(some 17), .mv (.tmp 3), none⟩,
      ⟨(some 18), .bin .add (.tmp 17) (.const (.int .i64 1)), none⟩,
      ⟨(some 3), .mv (.tmp 18), none⟩]) .skip)))
   (.ops [⟨(some 9), .mv (.tmp 4), none⟩,
     ⟨(some 10), .bin .add (.tmp 9) (.const (.int .i64 1)), none⟩,
     ⟨(some 4), .mv (.tmp 10), none⟩]))))))
 (.seq (.ops [⟨(some 19), .mv (.tmp 3), none⟩,
   ⟨(some 2), .mv (.tmp 19), none⟩])
 .ret))))⟩
def c_uir_Local : AFunc := ⟨198, [.cells 6 8, .tmp 7, .tmp 8, .tmp 9],
 (.seq (.ops [⟨(some 4), .box 8 (.tmp 1), none⟩,
   ⟨(some 6), .alloc (List.replicate 8 (.int .i64 0)), none⟩,
   ⟨(some 7), .mv (.const (.slice none 0 0)), none⟩,
   ⟨(some 8), .mv (.const (.slice none 0 0)), none⟩,
   ⟨(some 9), .mv (.const (.int .i64 0)), none⟩])
 (.seq (.seq (.ops [⟨(some 20), .mv (.tmp 0), none⟩,
   ⟨(some 21), .mkRow [(.slice none 0 0)] 1 [(0, 1, (.tmp 20))], none⟩,
   ⟨(some 22), .call n_uir_Check [(.tmp 21)], none⟩,
   ⟨(some 19), .mv (.tmp 22), none⟩,
   ⟨(some 23), .extract (.tmp 19) 0, none⟩,
   ⟨(some 24), .extract (.tmp 19) 1, none⟩,
   ⟨(some 25), .extract (.tmp 19) 2, none⟩,
   ⟨(some 10), .mv (.tmp 23), none⟩,
   ⟨(some 11), .mv (.tmp 24), none⟩,
   ⟨(some 12), .mv (.tmp 25), none⟩])
 (.seq (.ops [⟨(some 26), .mv (.tmp 12), none⟩,
   ⟨(some 27), .bin .neq (.tmp 26) (.const (.int .i64 0)), none⟩])
 (.cond (.tmp 27) (.seq (.ops [⟨(some 28), .load 8 (.tmp 6), none⟩,
   ⟨none, .store 8 (.tmp 6) (.tmp 28), none⟩,
   ⟨(some 7), .mv (.const (.slice none 0 0)), none⟩,
   ⟨(some 8), .mv (.const (.slice none 0 0)), none⟩,
   ⟨(some 9), .mv (.const (.int .i64 1)), none⟩])
 .ret) .skip)))
 (.seq (.ops [⟨(some 29), .func n_uir_Local_1 [] [(.tmp 4)], none⟩,
   ⟨(some 13), .mv (.tmp 29), none⟩])
 (.seq (.seq (.ops [⟨(some 14), .mv (.const (.int .i64 0)), none⟩])
 (.block 0 (.loop (.seq (.seq (.ops [⟨(some 30), .mv (.tmp 14), none⟩,
     ⟨(some 31), .mv (.tmp 0), none⟩,
     ⟨(some 32), .len (.tmp 31), none⟩,
     ⟨(some 33), .bin .lss (.tmp 30) (.tmp 32), none⟩])
   (.cond (.tmp 33) .skip (.exit 0)))
   (.block 1 (.seq (.ops [⟨(some 34), .mv (.tmp 0), none⟩,
      ⟨(some 35), .mv (.tmp 14), none⟩,
      ⟨(some 36), .atRow 17 (.tmp 34) (.tmp 35), none⟩,
      ⟨(some 37), .load 17 (.tmp 36), none⟩,
      ⟨(some 15), .alloc (List.replicate 10 (.int .i64 0) ++ List.replicate 3 (.bool false) ++ List.replicate 3 (.int .i64 0) ++ [(.bool false)]), none⟩,
      ⟨none, .store 17 (.tmp 15) (.tmp 37), none⟩])
    (.seq (.ops [⟨(some 38), .mv (.tmp 8), none⟩,
      ⟨(some 39), .len (.tmp 38), none⟩,
      ⟨(some 40), .mv (.tmp 14), none⟩,
      ⟨(some 41), .off 0 (.tmp 15), none⟩,
      ⟨(some 42), .load1 (.tmp 41), none⟩,
      ⟨(some 43), .off 10 (.tmp 15), none⟩,
      ⟨(some 44), .load1 (.tmp 43), none⟩,
      ⟨(some 45), .off 11 (.tmp 15), none⟩,
      ⟨(some 46), .load1 (.tmp 45), none⟩,
      ⟨(some 47), .off 12 (.tmp 15), none⟩,
      ⟨(some 48), .load1 (.tmp 47), none⟩,
      ⟨(some 49), .off 13 (.tmp 15), none⟩,
      ⟨(some 50), .load1 (.tmp 49), none⟩,
      ⟨(some 51), .off 14 (.tmp 15), none⟩,
      ⟨(some 52), .load1 (.tmp 51), none⟩,
      ⟨(some 53), .load 17 (.tmp 15), none⟩,
      ⟨(some 55), .load 17 (.tmp 15), none⟩,
      ⟨(some 16), .alloc (List.replicate 6 (.int .i64 0) ++ List.replicate 2 (.bool false) ++ List.replicate 2 (.int .i64 0) ++ List.replicate 3 (.bool false) ++ List.replicate 2 (.int .i64 0)), none⟩,
      ⟨(some 54), .call n_uir_Reads [(.tmp 53)], none⟩,
      ⟨none, .again1 (.tmp 41) 42, none⟩,
      ⟨none, .again1 (.tmp 43) 44, none⟩,
      ⟨none, .again1 (.tmp 45) 46, none⟩,
      ⟨none, .again1 (.tmp 47) 48, none⟩,
      ⟨none, .again1 (.tmp 49) 50, none⟩,
      ⟨none, .again1 (.tmp 51) 52, none⟩,
      ⟨none, .again 17 (.tmp 15) 55, none⟩,
      ⟨(some 56), .call n_uir_Writes [(.tmp 55)], none⟩,
      ⟨none, .again1 (.tmp 41) 42, none⟩,
      ⟨none, .again1 (.tmp 43) 44, none⟩,
      ⟨none, .again1 (.tmp 45) 46, none⟩,
      ⟨none, .again1 (.tmp 47) 48, none⟩,
      ⟨none, .again1 (.tmp 49) 50, none⟩,
      ⟨none, .again1 (.tmp 51) 52, none⟩,
      ⟨(some 57), .build (List.replicate 6 (.int .i64 0) ++ List.replicate 2 (.bool false) ++ List.replicate 2 (.int .i64 0) ++ List.replicate 3 (.bool false) ++ List.replicate 2 (.int .i64 0)) [(1, 1, (.tmp 39)), (2, 1, (.tmp 40)), (3, 1, (.tmp 42)), (10, 1, (.tmp 44)), (11, 1, (.tmp 46)), (12, 1, (.tmp 48)), (13, 1, (.tmp 50)), (14, 1, (.tmp 52)), (6, 1, (.tmp 54)), (7, 1, (.tmp 56))], none⟩,
      ⟨none, .store 15 (.tmp 16) (.tmp 57), none⟩])
    (.seq (.ops [⟨(some 58), .mv (.tmp 8), none⟩,
      ⟨(some 59), .mv (.tmp 14), none⟩,
      ⟨(some 60), .mkRow [(.int .i64 0)] 1 [(0, 1, (.tmp 59))], none⟩,
      ⟨(some 61), .append 1 8 (.tmp 58) (.tmp 60), none⟩,
      ⟨(some 8), .mv (.tmp 61), none⟩])
    (.seq (.ops [⟨(some 62), .mv (.tmp 14), none⟩,
      ⟨(some 63), .bin .add (.tmp 62) (.const (.int .i64 1)), none⟩,
      ⟨(some 14), .mv (.tmp 63), none⟩])
    (.seq (.seq (.ops [⟨(some 64), .off 6 (.tmp 16), none⟩,
      ⟨(some 65), .load1 (.tmp 64), none⟩,
      ⟨(some 66), .mv (.tmp 65), none⟩,
      ⟨(some 67), .off 7 (.tmp 16), (some (66, false))⟩,
      ⟨(some 68), .load1 (.tmp 67), (some (66, false))⟩,
      ⟨(some 69), .pick (.tmp 66) (.const (.bool true)) (.tmp 68), none⟩])
    (.cond (.tmp 69) (.ops [⟨(some 70), .off 5 (.tmp 15), none⟩,
      ⟨(some 71), .load1 (.tmp 70), none⟩,
      ⟨(some 72), .off 6 (.tmp 15), none⟩,
      ⟨(some 73), .load1 (.tmp 72), none⟩,
      ⟨(some 74), .mv (.tmp 13), none⟩,
      ⟨(some 75), .off 7 (.tmp 15), none⟩,
      ⟨(some 76), .load1 (.tmp 75), none⟩,
      ⟨(some 78), .off 8 (.tmp 15), none⟩,
      ⟨(some 79), .load1 (.tmp 78), none⟩,
      ⟨(some 81), .off 8 (.tmp 15), none⟩,
      ⟨(some 82), .load1 (.tmp 81), none⟩,
      ⟨(some 77), .callv (.tmp 74) [(.tmp 76), (.const (.int .i64 0))], none⟩,
      ⟨none, .again1 (.tmp 70) 71, none⟩,
      ⟨none, .again1 (.tmp 72) 73, none⟩,
      ⟨none, .again1 (.tmp 78) 79, none⟩,
      ⟨none, .again1 (.tmp 81) 82, none⟩,
      ⟨(some 80), .call n_bits_Place [(.tmp 73), (.tmp 77), (.tmp 79)], none⟩,
      ⟨none, .again1 (.tmp 70) 71, none⟩,
      ⟨none, .again1 (.tmp 81) 82, none⟩,
      ⟨(some 83), .call n_bits_Mask [(.tmp 80), (.tmp 82)], none⟩,
      ⟨none, .again1 (.tmp 70) 71, none⟩,
      ⟨(some 84), .build [(.int .i64 0), (.int .i64 0)] [(0, 1, (.tmp 71)), (1, 1, (.tmp 83))], none⟩,
      ⟨(some 85), .off 4 (.tmp 16), none⟩,
      ⟨none, .store 2 (.tmp 85) (.tmp 84), none⟩]) .skip))
    (.seq (.seq (.ops [⟨(some 86), .off 6 (.tmp 16), none⟩,
      ⟨(some 87), .load1 (.tmp 86), none⟩])
    (.cond (.tmp 87) (.seq (.seq (.ops [⟨(some 88), .mv (.tmp 2), none⟩,
      ⟨(some 89), .len (.tmp 88), none⟩,
      ⟨(some 90), .bin .eql (.tmp 89) (.const (.int .i64 0)), none⟩])
    (.cond (.tmp 90) (.seq (.ops [⟨(some 91), .build (List.replicate 8 (.int .i64 0)) [], none⟩,
      ⟨none, .store 8 (.tmp 6) (.tmp 91), none⟩,
      ⟨(some 7), .mv (.const (.slice none 0 0)), none⟩,
      ⟨(some 8), .mv (.const (.slice none 0 0)), none⟩,
      ⟨(some 9), .mv (.const (.int .i64 24)), none⟩])
    .ret) .skip))
    (.seq (.ops [⟨(some 92), .mv (.tmp 2), none⟩,
      ⟨(some 93), .atRow 1 (.tmp 92) (.const (.int .i64 0)), none⟩,
      ⟨(some 94), .load1 (.tmp 93), none⟩,
      ⟨(some 95), .off 8 (.tmp 15), none⟩,
      ⟨(some 96), .load1 (.tmp 95), none⟩,
      ⟨(some 97), .call n_bits_Get [(.tmp 94), (.const (.int .i64 0)), (.tmp 96)], none⟩,
      ⟨(some 98), .off 8 (.tmp 16), none⟩,
      ⟨none, .store1 (.tmp 98) (.tmp 97), none⟩])
    (.ops [⟨(some 99), .mv (.tmp 2), none⟩,
      ⟨(some 100), .slice 1 (.tmp 99) (some (.const (.int .i64 1))) none, none⟩,
      ⟨(some 2), .mv (.tmp 100), none⟩]))) .skip))
    (.seq (.ops [⟨(some 101), .off 8 (.tmp 16), none⟩,
      ⟨(some 102), .load1 (.tmp 101), none⟩,
      ⟨(some 17), .mv (.tmp 102), none⟩])
    (.seq (.seq (.ops [⟨(some 103), .off 0 (.tmp 15), none⟩,
      ⟨(some 104), .load1 (.tmp 103), none⟩])
    (.block 2 (.seq (.ops [⟨(some 106), .bin .eql (.tmp 104) (.const (.int .i64 1)), none⟩,
       ⟨(some 105), .mv (.tmp 106), none⟩])
     (.cond (.tmp 105) (.ops [⟨(some 107), .off 4 (.tmp 15), none⟩,
       ⟨(some 108), .load1 (.tmp 107), none⟩,
       ⟨(some 17), .mv (.tmp 108), none⟩]) (.seq (.ops [⟨(some 110), .bin .eql (.tmp 104) (.const (.int .i64 2)), none⟩,
       ⟨(some 109), .mv (.tmp 110), none⟩])
     (.cond (.tmp 109) (.ops [⟨(some 111), .off 2 (.tmp 15), none⟩,
       ⟨(some 112), .load1 (.tmp 111), none⟩,
       ⟨(some 113), .atArr 8 1 (.tmp 4) (.tmp 112), none⟩,
       ⟨(some 114), .load1 (.tmp 113), none⟩,
       ⟨(some 17), .mv (.tmp 114), none⟩]) (.seq (.ops [⟨(some 116), .bin .eql (.tmp 104) (.const (.int .i64 3)), none⟩,
       ⟨(some 115), .mv (.tmp 116), none⟩])
     (.cond (.tmp 115) (.ops [⟨(some 117), .off 9 (.tmp 15), none⟩,
       ⟨(some 118), .load1 (.tmp 117), none⟩,
       ⟨(some 119), .off 2 (.tmp 15), none⟩,
       ⟨(some 120), .load1 (.tmp 119), none⟩,
       ⟨(some 121), .atArr 8 1 (.tmp 4) (.tmp 120), none⟩,
       ⟨(some 122), .load1 (.tmp 121), none⟩,
       ⟨(some 123), .mv (.tmp 13), none⟩,
       ⟨(some 124), .off 3 (.tmp 15), none⟩,
       ⟨(some 125), .load1 (.tmp 124), none⟩,
       ⟨(some 126), .off 4 (.tmp 15), none⟩,
       ⟨(some 127), .load1 (.tmp 126), none⟩,
       ⟨(some 128), .callv (.tmp 123) [(.tmp 125), (.tmp 127)], none⟩,
       ⟨none, .again1 (.tmp 117) 118, none⟩,
       ⟨none, .again1 (.tmp 119) 120, none⟩,
       ⟨none, .again1 (.tmp 121) 122, none⟩,
       ⟨(some 129), .call n_bits_Alu [(.tmp 118), (.tmp 122), (.tmp 128)], none⟩,
       ⟨(some 17), .mv (.tmp 129), none⟩]) (.seq (.ops [⟨(some 131), .bin .eql (.tmp 104) (.const (.int .i64 5)), none⟩,
       ⟨(some 130), .mv (.tmp 131), none⟩])
     (.cond (.tmp 130) (.ops [⟨(some 132), .mv (.tmp 13), none⟩,
       ⟨(some 133), .off 2 (.tmp 15), none⟩,
       ⟨(some 134), .load1 (.tmp 133), none⟩,
       ⟨(some 135), .off 4 (.tmp 15), none⟩,
       ⟨(some 136), .load1 (.tmp 135), none⟩,
       ⟨(some 138), .off 8 (.tmp 15), none⟩,
       ⟨(some 139), .load1 (.tmp 138), none⟩,
       ⟨(some 137), .callv (.tmp 132) [(.tmp 134), (.tmp 136)], none⟩,
       ⟨none, .again1 (.tmp 138) 139, none⟩,
       ⟨(some 140), .call n_bits_Get [(.tmp 137), (.const (.int .i64 0)), (.tmp 139)], none⟩,
       ⟨(some 141), .off 9 (.tmp 16), none⟩,
       ⟨none, .store1 (.tmp 141) (.tmp 140), none⟩]) (.seq (.ops [⟨(some 143), .bin .eql (.tmp 104) (.const (.int .i64 6)), none⟩,
       ⟨(some 142), .mv (.tmp 143), none⟩])
     (.cond (.tmp 142) (.ops [⟨(some 144), .off 9 (.tmp 15), none⟩,
       ⟨(some 145), .load1 (.tmp 144), none⟩,
       ⟨(some 146), .off 8 (.tmp 16), none⟩,
       ⟨(some 147), .load1 (.tmp 146), none⟩,
       ⟨(some 148), .off 2 (.tmp 15), none⟩,
       ⟨(some 149), .load1 (.tmp 148), none⟩,
       ⟨(some 150), .atArr 8 1 (.tmp 4) (.tmp 149), none⟩,
       ⟨(some 151), .load1 (.tmp 150), none⟩,
       ⟨(some 152), .off 8 (.tmp 15), none⟩,
       ⟨(some 153), .load1 (.tmp 152), none⟩,
       ⟨(some 154), .call n_bits_Rmw [(.tmp 145), (.tmp 147), (.tmp 151), (.tmp 153)], none⟩,
       ⟨(some 155), .off 9 (.tmp 16), none⟩,
       ⟨none, .store1 (.tmp 155) (.tmp 154), none⟩]) (.seq (.ops [⟨(some 157), .bin .eql (.tmp 104) (.const (.int .i64 9)), none⟩,
       ⟨(some 156), .mv (.tmp 157), none⟩])
     (.cond (.tmp 156) (.seq (.ops [⟨(some 158), .off 2 (.tmp 15), none⟩,
       ⟨(some 159), .load1 (.tmp 158), none⟩,
       ⟨(some 160), .atArr 8 1 (.tmp 4) (.tmp 159), none⟩,
       ⟨(some 161), .load1 (.tmp 160), none⟩,
       ⟨(some 162), .bin .eql (.tmp 161) (.const (.int .i64 0)), none⟩,
       ⟨(some 163), .off 16 (.tmp 15), none⟩,
       ⟨(some 164), .load1 (.tmp 163), none⟩,
       ⟨(some 165), .eqv false .bool (.tmp 162) (.tmp 164), none⟩])
     (.cond (.tmp 165) (.ops [⟨(some 166), .off 15 (.tmp 15), none⟩,
       ⟨(some 167), .load1 (.tmp 166), none⟩,
       ⟨(some 14), .mv (.tmp 167), none⟩]) .skip)) .skip))))))))))))))
    (.seq (.seq (.ops [⟨(some 168), .load 17 (.tmp 15), none⟩,
      ⟨(some 169), .call n_uir_Gives [(.tmp 168)], none⟩,
      ⟨(some 18), .mv (.tmp 169), none⟩])
    (.seq (.ops [⟨(some 170), .mv (.tmp 18), none⟩,
      ⟨(some 171), .bin .geq (.tmp 170) (.const (.int .i64 0)), none⟩])
    (.cond (.tmp 171) (.ops [⟨(some 172), .mv (.tmp 18), none⟩,
      ⟨(some 173), .mv (.tmp 17), none⟩,
      ⟨(some 174), .atArr 8 1 (.tmp 4) (.tmp 172), none⟩,
      ⟨none, .store1 (.tmp 174) (.tmp 173), none⟩]) .skip)))
    (.seq (.ops [⟨(some 175), .off 6 (.tmp 16), none⟩,
      ⟨(some 176), .load1 (.tmp 175), none⟩,
      ⟨(some 177), .mv (.tmp 176), none⟩,
      ⟨(some 178), .off 7 (.tmp 16), (some (177, false))⟩,
      ⟨(some 179), .load1 (.tmp 178), (some (177, false))⟩,
      ⟨(some 180), .pick (.tmp 177) (.const (.bool true)) (.tmp 179), none⟩,
      ⟨(some 181), .mv (.tmp 180), none⟩,
      ⟨(some 182), .off 0 (.tmp 15), (some (181, false))⟩,
      ⟨(some 183), .load1 (.tmp 182), (some (181, false))⟩,
      ⟨(some 184), .bin .eql (.tmp 183) (.const (.int .i64 7)), (some (181, false))⟩,
      ⟨(some 185), .pick (.tmp 181) (.const (.bool true)) (.tmp 184), none⟩,
      ⟨(some 186), .mv (.tmp 185), none⟩,
      ⟨(some 187), .off 0 (.tmp 15), (some (186, false))⟩,
      ⟨(some 188), .load1 (.tmp 187), (some (186, false))⟩,
      ⟨(some 189), .bin .eql (.tmp 188) (.const (.int .i64 8)), (some (186, false))⟩,
      ⟨(some 190), .pick (.tmp 186) (.const (.bool true)) (.tmp 189), none⟩])
    (.cond (.tmp 190) (.ops [⟨(some 191), .mv (.tmp 7), none⟩,
      ⟨(some 192), .load 15 (.tmp 16), none⟩,
      ⟨(some 193), .mkRow (List.replicate 6 (.int .i64 0) ++ List.replicate 2 (.bool false) ++ List.replicate 2 (.int .i64 0) ++ List.replicate 3 (.bool false) ++ List.replicate 2 (.int .i64 0)) 1 [(0, 15, (.tmp 192))], none⟩,
      ⟨(some 194), .append 15 96 (.tmp 191) (.tmp 193), none⟩,
      ⟨(some 7), .mv (.tmp 194), none⟩]) .skip))))))))))))))))
 (.seq (.ops [⟨(some 195), .load 8 (.tmp 4), none⟩,
   ⟨(some 196), .mv (.tmp 7), none⟩,
   ⟨(some 197), .mv (.tmp 8), none⟩,
   ⟨none, .store 8 (.tmp 6) (.tmp 195), none⟩,
   ⟨(some 7), .mv (.tmp 196), none⟩,
   ⟨(some 8), .mv (.tmp 197), none⟩,
   ⟨(some 9), .mv (.const (.int .i64 0)), none⟩])
 .ret)))))⟩
def c_belatedref3_Local : AFunc := ⟨70, [.cells 6 8, .tmp 7, .tmp 8, .tmp 9],
 (.seq (.ops [⟨(some 4), .box 8 (.tmp 1), none⟩,
   ⟨(some 6), .alloc (List.replicate 8 (.int .i64 0)), none⟩,
   ⟨(some 7), .mv (.const (.slice none 0 0)), none⟩,
   ⟨(some 8), .mv (.const (.slice none 0 0)), none⟩,
   ⟨(some 9), .mv (.const (.int .i64 0)), none⟩])
 (.seq (.ops [⟨(some 10), .mv (.const (.slice none 0 0)), none⟩])
 (.seq (.ops [⟨(some 19), .mv (.tmp 10), none⟩,
   ⟨(some 20), .mv (.tmp 0), none⟩,
   ⟨(some 21), .mkRow [(.slice none 0 0)] 1 [(0, 1, (.tmp 20))], none⟩,
   ⟨(some 22), .append 1 24 (.tmp 19) (.tmp 21), none⟩,
   ⟨(some 23), .call n_belatedref3_Check [(.tmp 22)], none⟩,
   ⟨(some 18), .mv (.tmp 23), none⟩,
   ⟨(some 24), .extract (.tmp 18) 0, none⟩,
   ⟨(some 25), .extract (.tmp 18) 1, none⟩,
   ⟨(some 26), .extract (.tmp 18) 2, none⟩,
   ⟨(some 11), .mv (.tmp 24), none⟩,
   ⟨(some 12), .mv (.tmp 25), none⟩,
   ⟨(some 13), .mv (.tmp 26), none⟩])
 (.seq (.seq (.ops [⟨(some 27), .mv (.tmp 13), none⟩,
   ⟨(some 28), .bin .neq (.tmp 27) (.const (.int .i64 0)), none⟩])
 (.cond (.tmp 28) (.seq (.ops [⟨(some 29), .build (List.replicate 8 (.int .i64 0)) [], none⟩,
   ⟨none, .store 8 (.tmp 6) (.tmp 29), none⟩,
   ⟨(some 7), .mv (.const (.slice none 0 0)), none⟩,
   ⟨(some 8), .mv (.const (.slice none 0 0)), none⟩,
   ⟨(some 9), .mv (.const (.int .i64 1)), none⟩])
 .ret) .skip))
 (.seq (.ops [⟨(some 30), .mv (.tmp 0), none⟩,
   ⟨(some 31), .load 8 (.tmp 4), none⟩,
   ⟨(some 32), .build ([(.slice none 0 0)] ++ List.replicate 9 (.int .i64 0) ++ [(.slice none 0 0)]) [(0, 1, (.tmp 30)), (1, 8, (.tmp 31))], none⟩,
   ⟨(some 33), .box 11 (.tmp 32), none⟩,
   ⟨(some 14), .mv (.tmp 33), none⟩])
 (.seq (.ops [⟨(some 15), .mv (.const (.slice none 0 0)), none⟩])
 (.seq (.ops [⟨(some 16), .mv (.const (.int .i64 0)), none⟩])
 (.seq (.block 0 (.loop (.seq (.seq (.ops [⟨(some 34), .mv (.tmp 14), none⟩,
     ⟨(some 35), .call n_belatedref3_Thread_Plain [(.tmp 34)], none⟩])
   (.cond (.tmp 35) .skip (.exit 0)))
   (.block 1 (.seq (.ops [⟨(some 17), .mv (.const (.int .i64 0)), none⟩])
    (.seq (.seq (.ops [⟨(some 36), .mv (.tmp 0), none⟩,
      ⟨(some 37), .mv (.tmp 14), none⟩,
      ⟨(some 38), .nilCheck (.tmp 37), none⟩,
      ⟨(some 39), .off 9 (.tmp 38), none⟩,
      ⟨(some 40), .load1 (.tmp 39), none⟩,
      ⟨(some 41), .atRow 17 (.tmp 36) (.tmp 40), none⟩,
      ⟨(some 42), .load 17 (.tmp 41), none⟩,
      ⟨(some 43), .call n_belatedref3_Reads [(.tmp 42)], none⟩])
    (.cond (.tmp 43) (.seq (.seq (.ops [⟨(some 44), .mv (.tmp 16), none⟩,
      ⟨(some 45), .mv (.tmp 2), none⟩,
      ⟨(some 46), .len (.tmp 45), none⟩,
      ⟨(some 47), .bin .eql (.tmp 44) (.tmp 46), none⟩])
    (.cond (.tmp 47) (.seq (.ops [⟨(some 48), .build (List.replicate 8 (.int .i64 0)) [], none⟩,
      ⟨none, .store 8 (.tmp 6) (.tmp 48), none⟩,
      ⟨(some 7), .mv (.const (.slice none 0 0)), none⟩,
      ⟨(some 8), .mv (.const (.slice none 0 0)), none⟩,
      ⟨(some 9), .mv (.const (.int .i64 24)), none⟩])
    .ret) .skip))
    (.seq (.ops [⟨(some 49), .mv (.tmp 2), none⟩,
      ⟨(some 50), .mv (.tmp 16), none⟩,
      ⟨(some 51), .atRow 1 (.tmp 49) (.tmp 50), none⟩,
      ⟨(some 52), .load1 (.tmp 51), none⟩,
      ⟨(some 17), .mv (.tmp 52), none⟩])
    (.ops [⟨(some 53), .mv (.tmp 16), none⟩,
      ⟨(some 54), .bin .add (.tmp 53) (.const (.int .i64 1)), none⟩,
      ⟨(some 16), .mv (.tmp 54), none⟩]))) .skip))
    (.ops [⟨(some 55), .mv (.tmp 15), none⟩,
      ⟨(some 56), .mv (.tmp 14), none⟩,
      ⟨(some 57), .mv (.tmp 17), none⟩,
      ⟨(some 58), .call n_belatedref3_Thread_Step [(.tmp 56), (.tmp 57)], none⟩,
      ⟨(some 59), .mkRow (List.replicate 6 (.int .i64 0) ++ List.replicate 2 (.bool false) ++ List.replicate 2 (.int .i64 0) ++ List.replicate 3 (.bool false) ++ List.replicate 2 (.int .i64 0)) 1 [(0, 15, (.tmp 58))], none⟩,
      ⟨(some 60), .append 15 96 (.tmp 55) (.tmp 59), none⟩,
      ⟨(some 15), .mv (.tmp 60), none⟩])))))))
 (.seq (.ops [⟨(some 61), .mv (.tmp 14), none⟩,
   ⟨(some 62), .nilCheck (.tmp 61), none⟩,
   ⟨(some 63), .off 1 (.tmp 62), none⟩,
   ⟨(some 64), .load 8 (.tmp 63), none⟩,
   ⟨(some 65), .mv (.tmp 15), none⟩,
   ⟨(some 66), .mv (.tmp 14), none⟩,
   ⟨(some 67), .nilCheck (.tmp 66), none⟩,
   ⟨(some 68), .off 10 (.tmp 67), none⟩,
   ⟨(some 69), .load1 (.tmp 68), none⟩,
   ⟨none, .store 8 (.tmp 6) (.tmp 64), none⟩,
   ⟨none, .again1 (.tmp 68) 69, none⟩,
   ⟨(some 7), .mv (.tmp 65), none⟩,
   ⟨(some 8), .mv (.tmp 69), none⟩,
   ⟨(some 9), .mv (.const (.int .i64 0)), none⟩])
 .ret)))))))))⟩
def c_belatedlaw3_ints : AFunc := ⟨26, [.tmp 4],
 (.seq (.ops [⟨(some 4), .mv (.const (.bool false)), none⟩])
 (.seq (.seq (.ops [⟨(some 6), .mv (.tmp 0), none⟩,
   ⟨(some 7), .len (.tmp 6), none⟩,
   ⟨(some 8), .mv (.tmp 1), none⟩,
   ⟨(some 9), .len (.tmp 8), none⟩,
   ⟨(some 10), .bin .neq (.tmp 7) (.tmp 9), none⟩])
 (.cond (.tmp 10) (.seq (.ops [⟨(some 4), .mv (.const (.bool false)), none⟩])
 .ret) .skip))
 (.seq (.seq (.ops [⟨(some 5), .mv (.const (.int .i64 0)), none⟩])
 (.block 0 (.loop (.seq (.seq (.ops [⟨(some 11), .mv (.tmp 5), none⟩,
     ⟨(some 12), .mv (.tmp 0), none⟩,
     ⟨(some 13), .len (.tmp 12), none⟩,
     ⟨(some 14), .bin .lss (.tmp 11) (.tmp 13), none⟩])
   (.cond (.tmp 14) .skip (.exit 0)))
   (.seq (.block 1 (.seq (.ops [⟨(some 17), .mv (.tmp 0), none⟩,
      ⟨(some 18), .mv (.tmp 5), none⟩,
      ⟨(some 19), .atRow 1 (.tmp 17) (.tmp 18), none⟩,
      ⟨(some 20), .load1 (.tmp 19), none⟩,
      ⟨(some 21), .mv (.tmp 1), none⟩,
      ⟨(some 22), .mv (.tmp 5), none⟩,
      ⟨(some 23), .atRow 1 (.tmp 21) (.tmp 22), none⟩,
      ⟨(some 24), .load1 (.tmp 23), none⟩,
      ⟨(some 25), .bin .neq (.tmp 20) (.tmp 24), none⟩])
    (.cond (.tmp 25) (.seq (.ops [⟨(some 4), .mv (.const (.bool false)), none⟩])
    .ret) .skip)))
   (.ops [⟨(some 15), .mv (.tmp 5), none⟩,
     ⟨(some 16), .bin .add (.tmp 15) (.const (.int .i64 1)), none⟩,
     ⟨(some 5), .mv (.tmp 16), none⟩]))))))
 (.seq (.ops [⟨(some 4), .mv (.const (.bool true)), none⟩])
 .ret))))⟩
def c_uir_Reads : AFunc := ⟨11, [.tmp 2],
 (.seq (.ops [⟨(some 1), .box 17 (.tmp 0), none⟩,
   ⟨(some 2), .mv (.const (.bool false)), none⟩])
 (.seq (.ops [⟨(some 3), .off 0 (.tmp 1), none⟩,
   ⟨(some 4), .load1 (.tmp 3), none⟩,
   ⟨(some 5), .bin .eql (.tmp 4) (.const (.int .i64 4)), none⟩,
   ⟨(some 6), .mv (.tmp 5), none⟩,
   ⟨(some 7), .off 0 (.tmp 1), (some (6, false))⟩,
   ⟨(some 8), .load1 (.tmp 7), (some (6, false))⟩,
   ⟨(some 9), .bin .eql (.tmp 8) (.const (.int .i64 6)), (some (6, false))⟩,
   ⟨(some 10), .pick (.tmp 6) (.const (.bool true)) (.tmp 9), none⟩,
   ⟨(some 2), .mv (.tmp 10), none⟩])
 .ret))⟩
def c_uir_Writes : AFunc := ⟨11, [.tmp 2],
 (.seq (.ops [⟨(some 1), .box 17 (.tmp 0), none⟩,
   ⟨(some 2), .mv (.const (.bool false)), none⟩])
 (.seq (.ops [⟨(some 3), .off 0 (.tmp 1), none⟩,
   ⟨(some 4), .load1 (.tmp 3), none⟩,
   ⟨(some 5), .bin .eql (.tmp 4) (.const (.int .i64 5)), none⟩,
   ⟨(some 6), .mv (.tmp 5), none⟩,
   ⟨(some 7), .off 0 (.tmp 1), (some (6, false))⟩,
   ⟨(some 8), .load1 (.tmp 7), (some (6, false))⟩,
   ⟨(some 9), .bin .eql (.tmp 8) (.const (.int .i64 6)), (some (6, false))⟩,
   ⟨(some 10), .pick (.tmp 6) (.const (.bool true)) (.tmp 9), none⟩,
   ⟨(some 2), .mv (.tmp 10), none⟩])
 .ret))⟩
def c_uir_Right : AFunc := ⟨27, [.tmp 6],
 (.seq (.ops [⟨(some 3), .box 17 (.tmp 0), none⟩,
   ⟨(some 6), .mv (.const (.int .i64 0)), none⟩])
 (.seq (.block 0 (.seq (.ops [⟨(some 8), .load 17 (.tmp 3), none⟩,
    ⟨(some 9), .call n_uir_formed [(.tmp 8)], none⟩,
    ⟨(some 10), .un .not (.tmp 9), none⟩,
    ⟨(some 7), .mv (.tmp 10), none⟩])
  (.cond (.tmp 7) (.seq (.ops [⟨(some 6), .mv (.const (.int .i64 34)), none⟩])
  .ret) (.seq (.ops [⟨(some 12), .off 0 (.tmp 3), none⟩,
    ⟨(some 13), .load1 (.tmp 12), none⟩,
    ⟨(some 14), .bin .eql (.tmp 13) (.const (.int .i64 9)), none⟩,
    ⟨(some 15), .mv (.tmp 14), none⟩,
    ⟨(some 16), .off 15 (.tmp 3), (some (15, true))⟩,
    ⟨(some 17), .load1 (.tmp 16), (some (15, true))⟩,
    ⟨(some 18), .mv (.tmp 1), (some (15, true))⟩,
    ⟨(some 19), .bin .leq (.tmp 17) (.tmp 18), (some (15, true))⟩,
    ⟨(some 20), .mv (.tmp 19), (some (15, true))⟩,
    ⟨(some 21), .off 15 (.tmp 3), (some (20, false))⟩,
    ⟨(some 22), .load1 (.tmp 21), (some (20, false))⟩,
    ⟨(some 23), .mv (.tmp 2), (some (20, false))⟩,
    ⟨(some 24), .bin .gtr (.tmp 22) (.tmp 23), (some (20, false))⟩,
    ⟨(some 25), .pick (.tmp 20) (.const (.bool true)) (.tmp 24), (some (15, true))⟩,
    ⟨(some 26), .pick (.tmp 15) (.tmp 25) (.const (.bool false)), none⟩,
    ⟨(some 11), .mv (.tmp 26), none⟩])
  (.cond (.tmp 11) (.seq (.ops [⟨(some 6), .mv (.const (.int .i64 35)), none⟩])
  .ret) .skip)))))
 (.seq (.ops [⟨(some 6), .mv (.const (.int .i64 0)), none⟩])
 .ret)))⟩
def c_belatedref3_Right : AFunc := ⟨36, [.tmp 6],
 (.seq (.ops [⟨(some 3), .box 17 (.tmp 0), none⟩,
   ⟨(some 6), .mv (.const (.int .i64 0)), none⟩])
 (.seq (.ops [⟨(some 10), .load 17 (.tmp 3), none⟩,
   ⟨(some 11), .call n_belatedref3_bare [(.tmp 10)], none⟩,
   ⟨(some 9), .mv (.tmp 11), none⟩,
   ⟨(some 12), .extract (.tmp 9) 0, none⟩,
   ⟨(some 13), .extract (.tmp 9) 1, none⟩,
   ⟨(some 7), .alloc (List.replicate 10 (.int .i64 0) ++ List.replicate 3 (.bool false) ++ List.replicate 3 (.int .i64 0) ++ [(.bool false)]), none⟩,
   ⟨none, .store 17 (.tmp 7) (.tmp 12), none⟩,
   ⟨(some 8), .mv (.tmp 13), none⟩])
 (.seq (.seq (.ops [⟨(some 14), .mv (.tmp 8), none⟩,
   ⟨(some 15), .un .not (.tmp 14), none⟩,
   ⟨(some 16), .mv (.tmp 15), none⟩,
   ⟨(some 17), .load 17 (.tmp 7), (some (16, false))⟩,
   ⟨(some 18), .build (List.replicate 10 (.int .i64 0) ++ List.replicate 3 (.bool false) ++ List.replicate 3 (.int .i64 0) ++ [(.bool false)]) [(1, 1, (.const (.int .i64 (-1)))), (2, 1, (.const (.int .i64 (-1)))), (3, 1, (.const (.int .i64 (-1)))), (7, 1, (.const (.int .i64 (-1))))], (some (16, false))⟩,
   ⟨(some 19), .eqAgg true (List.replicate 10 .int ++ List.replicate 3 .bool ++ List.replicate 3 .int ++ [.bool]) (.tmp 17) (.tmp 18), (some (16, false))⟩,
   ⟨(some 20), .pick (.tmp 16) (.const (.bool true)) (.tmp 19), none⟩])
 (.cond (.tmp 20) (.seq (.ops [⟨(some 6), .mv (.const (.int .i64 34)), none⟩])
 .ret) .skip))
 (.seq (.seq (.ops [⟨(some 21), .off 0 (.tmp 3), none⟩,
   ⟨(some 22), .load1 (.tmp 21), none⟩,
   ⟨(some 23), .bin .eql (.tmp 22) (.const (.int .i64 9)), none⟩,
   ⟨(some 24), .mv (.tmp 23), none⟩,
   ⟨(some 25), .off 15 (.tmp 3), (some (24, true))⟩,
   ⟨(some 26), .load1 (.tmp 25), (some (24, true))⟩,
   ⟨(some 27), .mv (.tmp 1), (some (24, true))⟩,
   ⟨(some 28), .bin .leq (.tmp 26) (.tmp 27), (some (24, true))⟩,
   ⟨(some 29), .mv (.tmp 28), (some (24, true))⟩,
   ⟨(some 30), .off 15 (.tmp 3), (some (29, false))⟩,
   ⟨(some 31), .load1 (.tmp 30), (some (29, false))⟩,
   ⟨(some 32), .mv (.tmp 2), (some (29, false))⟩,
   ⟨(some 33), .bin .gtr (.tmp 31) (.tmp 32), (some (29, false))⟩,
   ⟨(some 34), .pick (.tmp 29) (.const (.bool true)) (.tmp 33), (some (24, true))⟩,
   ⟨(some 35), .pick (.tmp 24) (.tmp 34) (.const (.bool false)), none⟩])
 (.cond (.tmp 35) (.seq (.ops [⟨(some 6), .mv (.const (.int .i64 35)), none⟩])
 .ret) .skip))
 (.seq (.ops [⟨(some 6), .mv (.const (.int .i64 0)), none⟩])
 .ret)))))⟩
def c_belatedref3_Reads : AFunc := ⟨11, [.tmp 2],
 (.seq (.ops [⟨(some 1), .box 17 (.tmp 0), none⟩,
   ⟨(some 2), .mv (.const (.bool false)), none⟩])
 (.seq (.ops [⟨(some 3), .off 0 (.tmp 1), none⟩,
   ⟨(some 4), .load1 (.tmp 3), none⟩,
   ⟨(some 5), .bin .eql (.tmp 4) (.const (.int .i64 4)), none⟩,
   ⟨(some 6), .mv (.tmp 5), none⟩,
   ⟨(some 7), .off 0 (.tmp 1), (some (6, false))⟩,
   ⟨(some 8), .load1 (.tmp 7), (some (6, false))⟩,
   ⟨(some 9), .bin .eql (.tmp 8) (.const (.int .i64 6)), (some (6, false))⟩,
   ⟨(some 10), .pick (.tmp 6) (.const (.bool true)) (.tmp 9), none⟩,
   ⟨(some 2), .mv (.tmp 10), none⟩])
 .ret))⟩
def c_belatedref3_Writes : AFunc := ⟨11, [.tmp 2],
 (.seq (.ops [⟨(some 1), .box 17 (.tmp 0), none⟩,
   ⟨(some 2), .mv (.const (.bool false)), none⟩])
 (.seq (.ops [⟨(some 3), .off 0 (.tmp 1), none⟩,
   ⟨(some 4), .load1 (.tmp 3), none⟩,
   ⟨(some 5), .bin .eql (.tmp 4) (.const (.int .i64 5)), none⟩,
   ⟨(some 6), .mv (.tmp 5), none⟩,
   ⟨(some 7), .off 0 (.tmp 1), (some (6, false))⟩,
   ⟨(some 8), .load1 (.tmp 7), (some (6, false))⟩,
   ⟨(some 9), .bin .eql (.tmp 8) (.const (.int .i64 6)), (some (6, false))⟩,
   ⟨(some 10), .pick (.tmp 6) (.const (.bool true)) (.tmp 9), none⟩,
   ⟨(some 2), .mv (.tmp 10), none⟩])
 .ret))⟩
def c_uir_Uses : AFunc := ⟨49, [.tmp 2],
 (.seq (.ops [⟨(some 1), .box 17 (.tmp 0), none⟩,
   ⟨(some 2), .mv (.const (.slice none 0 0)), none⟩])
 (.seq (.ops [⟨(some 3), .mv (.const (.slice none 0 0)), none⟩])
 (.seq (.seq (.ops [⟨(some 7), .off 0 (.tmp 1), none⟩,
   ⟨(some 8), .load1 (.tmp 7), none⟩])
 (.block 0 (.seq (.seq (.ops [⟨(some 10), .bin .eql (.tmp 8) (.const (.int .i64 2)), none⟩,
    ⟨(some 9), .mv (.tmp 10), none⟩])
  (.cond (.tmp 9) .skip (.ops [⟨(some 11), .bin .eql (.tmp 8) (.const (.int .i64 9)), none⟩,
    ⟨(some 9), .mv (.tmp 11), none⟩])))
  (.cond (.tmp 9) (.ops [⟨(some 12), .off 2 (.tmp 1), none⟩,
    ⟨(some 13), .load1 (.tmp 12), none⟩,
    ⟨(some 14), .mkRow [(.int .i64 0)] 1 [(0, 1, (.tmp 13))], none⟩,
    ⟨(some 3), .mv (.tmp 14), none⟩]) (.seq (.ops [⟨(some 16), .bin .eql (.tmp 8) (.const (.int .i64 3)), none⟩,
    ⟨(some 15), .mv (.tmp 16), none⟩])
  (.cond (.tmp 15) (.ops [⟨(some 17), .off 2 (.tmp 1), none⟩,
    ⟨(some 18), .load1 (.tmp 17), none⟩,
    ⟨(some 19), .off 3 (.tmp 1), none⟩,
    ⟨(some 20), .load1 (.tmp 19), none⟩,
    ⟨(some 21), .mkRow [(.int .i64 0)] 2 [(0, 1, (.tmp 18)), (1, 1, (.tmp 20))], none⟩,
    ⟨(some 3), .mv (.tmp 21), none⟩]) (.seq (.ops [⟨(some 23), .bin .eql (.tmp 8) (.const (.int .i64 4)), none⟩,
    ⟨(some 22), .mv (.tmp 23), none⟩])
  (.cond (.tmp 22) (.ops [⟨(some 24), .off 7 (.tmp 1), none⟩,
    ⟨(some 25), .load1 (.tmp 24), none⟩,
    ⟨(some 26), .mkRow [(.int .i64 0)] 1 [(0, 1, (.tmp 25))], none⟩,
    ⟨(some 3), .mv (.tmp 26), none⟩]) (.seq (.seq (.ops [⟨(some 28), .bin .eql (.tmp 8) (.const (.int .i64 5)), none⟩,
    ⟨(some 27), .mv (.tmp 28), none⟩])
  (.cond (.tmp 27) .skip (.ops [⟨(some 29), .bin .eql (.tmp 8) (.const (.int .i64 6)), none⟩,
    ⟨(some 27), .mv (.tmp 29), none⟩])))
  (.cond (.tmp 27) (.ops [⟨(some 30), .off 2 (.tmp 1), none⟩,
    ⟨(some 31), .load1 (.tmp 30), none⟩,
    ⟨(some 32), .off 7 (.tmp 1), none⟩,
    ⟨(some 33), .load1 (.tmp 32), none⟩,
    ⟨(some 34), .mkRow [(.int .i64 0)] 2 [(0, 1, (.tmp 31)), (1, 1, (.tmp 33))], none⟩,
    ⟨(some 3), .mv (.tmp 34), none⟩]) .skip))))))))))
 (.seq (.ops [⟨(some 4), .mv (.const (.slice none 0 0)), none⟩])
 (.seq (.seq (.ops [⟨(some 35), .mv (.tmp 3), none⟩,
   ⟨(some 36), .len (.tmp 35), none⟩,
   ⟨(some 37), .mv (.const (.int .i64 0)), none⟩])
 (.block 1 (.loop (.seq (.ops [⟨(some 38), .bin .lss (.tmp 37) (.tmp 36), none⟩])
   (.seq (.cond (.tmp 38) .skip (.exit 1))
   (.seq (.block 2 (.seq (.ops [⟨(some 39), .atRow 1 (.tmp 35) (.tmp 37), none⟩,
      ⟨(some 40), .load1 (.tmp 39), none⟩,
      ⟨(some 6), .mv (.tmp 40), none⟩])
    (.seq (.ops [⟨(some 41), .mv (.tmp 6), none⟩,
      ⟨(some 42), .bin .neq (.tmp 41) (.const (.int .i64 (-1))), none⟩])
    (.cond (.tmp 42) (.ops [⟨(some 43), .mv (.tmp 4), none⟩,
      ⟨(some 44), .mv (.tmp 6), none⟩,
      ⟨(some 45), .mkRow [(.int .i64 0)] 1 [(0, 1, (.tmp 44))], none⟩,
      ⟨(some 46), .append 1 8 (.tmp 43) (.tmp 45), none⟩,
      ⟨(some 4), .mv (.tmp 46), none⟩]) .skip))))
   (.ops [⟨(some 47), .bin .add (.tmp 37) (.const (.int .i64 1)), none⟩,
     ⟨(some 37), .mv (.tmp 47), none⟩])))))))
 (.seq (.ops [⟨(some 48), .mv (.tmp 4), none⟩,
   ⟨(some 2), .mv (.tmp 48), none⟩])
 .ret))))))⟩
def c_belatedref3_Uses : AFunc := ⟨59, [.tmp 2],
 (.seq (.ops [⟨(some 1), .box 17 (.tmp 0), none⟩,
   ⟨(some 2), .mv (.const (.slice none 0 0)), none⟩])
 (.seq (.ops [⟨(some 3), .mv (.const (.slice none 0 0)), none⟩])
 (.seq (.seq (.ops [⟨(some 6), .off 0 (.tmp 1), none⟩,
   ⟨(some 7), .load1 (.tmp 6), none⟩])
 (.block 0 (.seq (.seq (.ops [⟨(some 9), .bin .eql (.tmp 7) (.const (.int .i64 2)), none⟩,
    ⟨(some 8), .mv (.tmp 9), none⟩])
  (.cond (.tmp 8) .skip (.seq (.ops [⟨(some 10), .bin .eql (.tmp 7) (.const (.int .i64 9)), none⟩,
    ⟨(some 8), .mv (.tmp 10), none⟩])
  (.cond (.tmp 8) .skip (.ops [⟨(some 11), .bin .eql (.tmp 7) (.const (.int .i64 6)), none⟩,
    ⟨(some 8), .mv (.tmp 11), none⟩])))))
  (.cond (.tmp 8) (.ops [⟨(some 12), .mv (.tmp 3), none⟩,
    ⟨(some 13), .off 2 (.tmp 1), none⟩,
    ⟨(some 14), .load1 (.tmp 13), none⟩,
    ⟨(some 15), .mkRow [(.int .i64 0)] 1 [(0, 1, (.tmp 14))], none⟩,
    ⟨(some 16), .append 1 8 (.tmp 12) (.tmp 15), none⟩,
    ⟨(some 3), .mv (.tmp 16), none⟩]) (.seq (.ops [⟨(some 18), .bin .eql (.tmp 7) (.const (.int .i64 3)), none⟩,
    ⟨(some 17), .mv (.tmp 18), none⟩])
  (.cond (.tmp 17) (.ops [⟨(some 19), .mv (.tmp 3), none⟩,
    ⟨(some 20), .off 2 (.tmp 1), none⟩,
    ⟨(some 21), .load1 (.tmp 20), none⟩,
    ⟨(some 22), .off 3 (.tmp 1), none⟩,
    ⟨(some 23), .load1 (.tmp 22), none⟩,
    ⟨(some 24), .mkRow [(.int .i64 0)] 2 [(0, 1, (.tmp 21)), (1, 1, (.tmp 23))], none⟩,
    ⟨(some 25), .append 1 8 (.tmp 19) (.tmp 24), none⟩,
    ⟨(some 3), .mv (.tmp 25), none⟩]) (.seq (.ops [⟨(some 27), .bin .eql (.tmp 7) (.const (.int .i64 5)), none⟩,
    ⟨(some 26), .mv (.tmp 27), none⟩])
  (.cond (.tmp 26) (.ops [⟨(some 28), .mv (.tmp 3), none⟩,
    ⟨(some 29), .off 2 (.tmp 1), none⟩,
    ⟨(some 30), .load1 (.tmp 29), none⟩,
    ⟨(some 31), .mkRow [(.int .i64 0)] 1 [(0, 1, (.tmp 30))], none⟩,
    ⟨(some 32), .append 1 8 (.tmp 28) (.tmp 31), none⟩,
    ⟨(some 3), .mv (.tmp 32), none⟩]) .skip))))))))
 (.seq (.seq (.ops [⟨(some 33), .load 17 (.tmp 1), none⟩,
   ⟨(some 34), .call n_belatedref3_Memory [(.tmp 33)], none⟩])
 (.cond (.tmp 34) (.ops [⟨(some 35), .mv (.tmp 3), none⟩,
   ⟨(some 36), .off 7 (.tmp 1), none⟩,
   ⟨(some 37), .load1 (.tmp 36), none⟩,
   ⟨(some 38), .mkRow [(.int .i64 0)] 1 [(0, 1, (.tmp 37))], none⟩,
   ⟨(some 39), .append 1 8 (.tmp 35) (.tmp 38), none⟩,
   ⟨(some 3), .mv (.tmp 39), none⟩]) .skip))
 (.seq (.ops [⟨(some 4), .mv (.const (.slice none 0 0)), none⟩])
 (.seq (.seq (.ops [⟨(some 5), .mv (.const (.int .i64 0)), none⟩])
 (.block 1 (.loop (.seq (.seq (.ops [⟨(some 40), .mv (.tmp 5), none⟩,
     ⟨(some 41), .mv (.tmp 3), none⟩,
     ⟨(some 42), .len (.tmp 41), none⟩,
     ⟨(some 43), .bin .lss (.tmp 40) (.tmp 42), none⟩])
   (.cond (.tmp 43) .skip (.exit 1)))
   (.seq (.block 2 (.seq (.ops [⟨(some 46), .mv (.tmp 3), none⟩,
      ⟨(some 47), .mv (.tmp 5), none⟩,
      ⟨(some 48), .atRow 1 (.tmp 46) (.tmp 47), none⟩,
      ⟨(some 49), .load1 (.tmp 48), none⟩,
      ⟨(some 50), .bin .neq (.tmp 49) (.const (.int .i64 (-1))), none⟩])
    (.cond (.tmp 50) (.ops [⟨(some 51), .mv (.tmp 4), none⟩,
      ⟨(some 52), .mv (.tmp 3), none⟩,
      ⟨(some 53), .mv (.tmp 5), none⟩,
      ⟨(some 54), .atRow 1 (.tmp 52) (.tmp 53), none⟩,
      ⟨(some 55), .load1 (.tmp 54), none⟩,
      ⟨(some 56), .mkRow [(.int .i64 0)] 1 [(0, 1, (.tmp 55))], none⟩,
      ⟨(some 57), .append 1 8 (.tmp 51) (.tmp 56), none⟩,
      ⟨(some 4), .mv (.tmp 57), none⟩]) .skip)))
   (.ops [⟨(some 44), .mv (.tmp 5), none⟩,
     ⟨(some 45), .bin .add (.tmp 44) (.const (.int .i64 1)), none⟩,
     ⟨(some 5), .mv (.tmp 45), none⟩]))))))
 (.seq (.ops [⟨(some 58), .mv (.tmp 4), none⟩,
   ⟨(some 2), .mv (.tmp 58), none⟩])
 .ret)))))))⟩
def c_uir_Gives : AFunc := ⟨13, [.tmp 2],
 (.seq (.ops [⟨(some 1), .box 17 (.tmp 0), none⟩,
   ⟨(some 2), .mv (.const (.int .i64 0)), none⟩])
 (.seq (.seq (.ops [⟨(some 3), .off 0 (.tmp 1), none⟩,
   ⟨(some 4), .load1 (.tmp 3), none⟩])
 (.block 0 (.seq (.seq (.ops [⟨(some 6), .bin .eql (.tmp 4) (.const (.int .i64 1)), none⟩,
    ⟨(some 5), .mv (.tmp 6), none⟩])
  (.cond (.tmp 5) .skip (.seq (.ops [⟨(some 7), .bin .eql (.tmp 4) (.const (.int .i64 2)), none⟩,
    ⟨(some 5), .mv (.tmp 7), none⟩])
  (.cond (.tmp 5) .skip (.seq (.ops [⟨(some 8), .bin .eql (.tmp 4) (.const (.int .i64 3)), none⟩,
    ⟨(some 5), .mv (.tmp 8), none⟩])
  (.cond (.tmp 5) .skip (.seq (.ops [⟨(some 9), .bin .eql (.tmp 4) (.const (.int .i64 4)), none⟩,
    ⟨(some 5), .mv (.tmp 9), none⟩])
  (.cond (.tmp 5) .skip (.ops [⟨(some 10), .bin .eql (.tmp 4) (.const (.int .i64 6)), none⟩,
    ⟨(some 5), .mv (.tmp 10), none⟩])))))))))
  (.cond (.tmp 5) (.seq (.ops [⟨(some 11), .off 1 (.tmp 1), none⟩,
    ⟨(some 12), .load1 (.tmp 11), none⟩,
    ⟨(some 2), .mv (.tmp 12), none⟩])
  .ret) .skip))))
 (.seq (.ops [⟨(some 2), .mv (.const (.int .i64 (-1))), none⟩])
 .ret)))⟩
def c_belatedref3_Gives : AFunc := ⟨13, [.tmp 2],
 (.seq (.ops [⟨(some 1), .box 17 (.tmp 0), none⟩,
   ⟨(some 2), .mv (.const (.int .i64 0)), none⟩])
 (.seq (.seq (.ops [⟨(some 3), .off 0 (.tmp 1), none⟩,
   ⟨(some 4), .load1 (.tmp 3), none⟩])
 (.block 0 (.seq (.seq (.ops [⟨(some 6), .bin .eql (.tmp 4) (.const (.int .i64 1)), none⟩,
    ⟨(some 5), .mv (.tmp 6), none⟩])
  (.cond (.tmp 5) .skip (.seq (.ops [⟨(some 7), .bin .eql (.tmp 4) (.const (.int .i64 2)), none⟩,
    ⟨(some 5), .mv (.tmp 7), none⟩])
  (.cond (.tmp 5) .skip (.seq (.ops [⟨(some 8), .bin .eql (.tmp 4) (.const (.int .i64 3)), none⟩,
    ⟨(some 5), .mv (.tmp 8), none⟩])
  (.cond (.tmp 5) .skip (.seq (.ops [⟨(some 9), .bin .eql (.tmp 4) (.const (.int .i64 4)), none⟩,
    ⟨(some 5), .mv (.tmp 9), none⟩])
  (.cond (.tmp 5) .skip (.ops [⟨(some 10), .bin .eql (.tmp 4) (.const (.int .i64 6)), none⟩,
    ⟨(some 5), .mv (.tmp 10), none⟩])))))))))
  (.cond (.tmp 5) (.seq (.ops [⟨(some 11), .off 1 (.tmp 1), none⟩,
    ⟨(some 12), .load1 (.tmp 11), none⟩,
    ⟨(some 2), .mv (.tmp 12), none⟩])
  .ret) .skip))))
 (.seq (.ops [⟨(some 2), .mv (.const (.int .i64 (-1))), none⟩])
 .ret)))⟩
def c_belatedref3_Memory : AFunc := ⟨16, [.tmp 2],
 (.seq (.ops [⟨(some 1), .box 17 (.tmp 0), none⟩,
   ⟨(some 2), .mv (.const (.bool false)), none⟩])
 (.seq (.ops [⟨(some 3), .off 0 (.tmp 1), none⟩,
   ⟨(some 4), .load1 (.tmp 3), none⟩,
   ⟨(some 5), .bin .eql (.tmp 4) (.const (.int .i64 4)), none⟩,
   ⟨(some 6), .mv (.tmp 5), none⟩,
   ⟨(some 7), .off 0 (.tmp 1), (some (6, false))⟩,
   ⟨(some 8), .load1 (.tmp 7), (some (6, false))⟩,
   ⟨(some 9), .bin .eql (.tmp 8) (.const (.int .i64 5)), (some (6, false))⟩,
   ⟨(some 10), .pick (.tmp 6) (.const (.bool true)) (.tmp 9), none⟩,
   ⟨(some 11), .mv (.tmp 10), none⟩,
   ⟨(some 12), .off 0 (.tmp 1), (some (11, false))⟩,
   ⟨(some 13), .load1 (.tmp 12), (some (11, false))⟩,
   ⟨(some 14), .bin .eql (.tmp 13) (.const (.int .i64 6)), (some (11, false))⟩,
   ⟨(some 15), .pick (.tmp 11) (.const (.bool true)) (.tmp 14), none⟩,
   ⟨(some 2), .mv (.tmp 15), none⟩])
 .ret))⟩
def c_uir_Local_1 : AFunc := ⟨12, [.tmp 5],
 (.seq (.ops [⟨(some 5), .mv (.const (.int .i64 0)), none⟩])
 (.seq (.seq (.ops [⟨(some 6), .mv (.tmp 0), none⟩,
   ⟨(some 7), .bin .eql (.tmp 6) (.const (.int .i64 (-1))), none⟩])
 (.cond (.tmp 7) (.seq (.ops [⟨(some 8), .mv (.tmp 1), none⟩,
   ⟨(some 5), .mv (.tmp 8), none⟩])
 .ret) .skip))
 (.seq (.ops [⟨(some 9), .mv (.tmp 0), none⟩,
   ⟨(some 10), .atArr 8 1 (.tmp 2) (.tmp 9), none⟩,
   ⟨(some 11), .load1 (.tmp 10), none⟩,
   ⟨(some 5), .mv (.tmp 11), none⟩])
 .ret)))⟩
def c_bits_Mask : AFunc := ⟨29, [.tmp 4],
 (.seq (.ops [⟨(some 4), .mv (.const (.int .i64 0)), none⟩])
 (.seq (.seq (.ops [⟨(some 5), .mv (.tmp 1), none⟩,
   ⟨(some 6), .call n_bits_sized [(.tmp 5)], none⟩,
   ⟨(some 7), .un .not (.tmp 6), none⟩,
   ⟨(some 8), .mv (.tmp 7), none⟩,
   ⟨(some 9), .mv (.tmp 0), (some (8, false))⟩,
   ⟨(some 10), .bin .lss (.tmp 9) (.const (.int .i64 0)), (some (8, false))⟩,
   ⟨(some 11), .pick (.tmp 8) (.const (.bool true)) (.tmp 10), none⟩,
   ⟨(some 12), .mv (.tmp 11), none⟩,
   ⟨(some 13), .mv (.tmp 0), (some (12, false))⟩,
   ⟨(some 14), .mv (.tmp 1), (some (12, false))⟩,
   ⟨(some 15), .bin .sub (.const (.int .i64 8)) (.tmp 14), (some (12, false))⟩,
   ⟨(some 16), .bin .gtr (.tmp 13) (.tmp 15), (some (12, false))⟩,
   ⟨(some 17), .pick (.tmp 12) (.const (.bool true)) (.tmp 16), none⟩,
   ⟨(some 18), .mv (.tmp 17), none⟩,
   ⟨(some 19), .mv (.tmp 0), (some (18, false))⟩,
   ⟨(some 20), .mv (.tmp 1), (some (18, false))⟩,
   ⟨(some 21), .bin .rem (.tmp 19) (.tmp 20), (some (18, false))⟩,
   ⟨(some 22), .bin .neq (.tmp 21) (.const (.int .i64 0)), (some (18, false))⟩,
   ⟨(some 23), .pick (.tmp 18) (.const (.bool true)) (.tmp 22), none⟩])
 (.cond (.tmp 23) (.seq (.ops [⟨(some 4), .mv (.const (.int .i64 0)), none⟩])
 .ret) .skip))
 (.seq (.ops [⟨(some 24), .mv (.tmp 1), none⟩,
   ⟨(some 25), .bin .shl (.const (.int .i64 1)) (.tmp 24), none⟩,
   ⟨(some 26), .bin .sub (.tmp 25) (.const (.int .i64 1)), none⟩,
   ⟨(some 27), .mv (.tmp 0), none⟩,
   ⟨(some 28), .bin .shl (.tmp 26) (.tmp 27), none⟩,
   ⟨(some 4), .mv (.tmp 28), none⟩])
 .ret)))⟩
def c_bits_Place : AFunc := ⟨17, [.tmp 6],
 (.seq (.ops [⟨(some 6), .mv (.const (.int .i64 0)), none⟩])
 (.seq (.seq (.ops [⟨(some 7), .mv (.tmp 2), none⟩,
   ⟨(some 8), .call n_bits_sized [(.tmp 7)], none⟩,
   ⟨(some 9), .un .not (.tmp 8), none⟩])
 (.cond (.tmp 9) (.seq (.ops [⟨(some 6), .mv (.const (.int .i64 (-1))), none⟩])
 .ret) .skip))
 (.seq (.ops [⟨(some 10), .mv (.tmp 0), none⟩,
   ⟨(some 11), .mv (.tmp 1), none⟩,
   ⟨(some 12), .bin .add (.tmp 10) (.tmp 11), none⟩,
   ⟨(some 13), .bin .and (.tmp 12) (.const (.int .i64 7)), none⟩,
   ⟨(some 14), .mv (.tmp 2), none⟩,
   ⟨(some 15), .bin .sub (.tmp 14) (.const (.int .i64 1)), none⟩,
   ⟨(some 16), .bin .andNot (.tmp 13) (.tmp 15), none⟩,
   ⟨(some 6), .mv (.tmp 16), none⟩])
 .ret)))⟩
def c_bits_Get : AFunc := ⟨19, [.tmp 6],
 (.seq (.ops [⟨(some 6), .mv (.const (.int .i64 0)), none⟩])
 (.seq (.seq (.ops [⟨(some 7), .mv (.tmp 1), none⟩,
   ⟨(some 8), .mv (.tmp 2), none⟩,
   ⟨(some 9), .call n_bits_Mask [(.tmp 7), (.tmp 8)], none⟩,
   ⟨(some 10), .bin .eql (.tmp 9) (.const (.int .i64 0)), none⟩])
 (.cond (.tmp 10) (.seq (.ops [⟨(some 6), .mv (.const (.int .i64 0)), none⟩])
 .ret) .skip))
 (.seq (.ops [⟨(some 11), .mv (.tmp 0), none⟩,
   ⟨(some 12), .conv .u64 (.tmp 11), none⟩,
   ⟨(some 13), .mv (.tmp 1), none⟩,
   ⟨(some 14), .bin .mul (.const (.int .i64 8)) (.tmp 13), none⟩,
   ⟨(some 15), .bin .shr (.tmp 12) (.tmp 14), none⟩,
   ⟨(some 16), .conv .i64 (.tmp 15), none⟩,
   ⟨(some 17), .mv (.tmp 2), none⟩,
   ⟨(some 18), .call n_bits_low [(.tmp 16), (.tmp 17)], none⟩,
   ⟨(some 6), .mv (.tmp 18), none⟩])
 .ret)))⟩
def c_bits_Alu : AFunc := ⟨33, [.tmp 6],
 (.seq (.ops [⟨(some 6), .mv (.const (.int .i64 0)), none⟩])
 (.seq (.seq (.ops [⟨(some 7), .mv (.tmp 0), none⟩])
 (.block 0 (.seq (.ops [⟨(some 9), .bin .eql (.tmp 7) (.const (.int .i64 1)), none⟩,
    ⟨(some 8), .mv (.tmp 9), none⟩])
  (.cond (.tmp 8) (.seq (.ops [⟨(some 10), .mv (.tmp 1), none⟩,
    ⟨(some 11), .mv (.tmp 2), none⟩,
    ⟨(some 12), .bin .add (.tmp 10) (.tmp 11), none⟩,
    ⟨(some 6), .mv (.tmp 12), none⟩])
  .ret) (.seq (.ops [⟨(some 14), .bin .eql (.tmp 7) (.const (.int .i64 2)), none⟩,
    ⟨(some 13), .mv (.tmp 14), none⟩])
  (.cond (.tmp 13) (.seq (.ops [⟨(some 15), .mv (.tmp 1), none⟩,
    ⟨(some 16), .mv (.tmp 2), none⟩,
    ⟨(some 17), .bin .sub (.tmp 15) (.tmp 16), none⟩,
    ⟨(some 6), .mv (.tmp 17), none⟩])
  .ret) (.seq (.ops [⟨(some 19), .bin .eql (.tmp 7) (.const (.int .i64 3)), none⟩,
    ⟨(some 18), .mv (.tmp 19), none⟩])
  (.cond (.tmp 18) (.seq (.ops [⟨(some 20), .mv (.tmp 1), none⟩,
    ⟨(some 21), .mv (.tmp 2), none⟩,
    ⟨(some 22), .bin .xor (.tmp 20) (.tmp 21), none⟩,
    ⟨(some 6), .mv (.tmp 22), none⟩])
  .ret) (.seq (.ops [⟨(some 24), .bin .eql (.tmp 7) (.const (.int .i64 4)), none⟩,
    ⟨(some 23), .mv (.tmp 24), none⟩])
  (.cond (.tmp 23) (.seq (.ops [⟨(some 25), .mv (.tmp 1), none⟩,
    ⟨(some 26), .mv (.tmp 2), none⟩,
    ⟨(some 27), .bin .and (.tmp 25) (.tmp 26), none⟩,
    ⟨(some 6), .mv (.tmp 27), none⟩])
  .ret) (.seq (.ops [⟨(some 29), .bin .eql (.tmp 7) (.const (.int .i64 5)), none⟩,
    ⟨(some 28), .mv (.tmp 29), none⟩])
  (.cond (.tmp 28) (.seq (.ops [⟨(some 30), .mv (.tmp 1), none⟩,
    ⟨(some 31), .mv (.tmp 2), none⟩,
    ⟨(some 32), .bin .or (.tmp 30) (.tmp 31), none⟩,
    ⟨(some 6), .mv (.tmp 32), none⟩])
  .ret) .skip))))))))))))
 (.seq (.ops [⟨(some 6), .mv (.const (.int .i64 0)), none⟩])
 .ret)))⟩
def c_bits_Rmw : AFunc := ⟨22, [.tmp 8],
 (.seq (.ops [⟨(some 8), .mv (.const (.int .i64 0)), none⟩])
 (.seq (.seq (.ops [⟨(some 9), .mv (.tmp 0), none⟩])
 (.block 0 (.seq (.ops [⟨(some 11), .bin .eql (.tmp 9) (.const (.int .i64 6)), none⟩,
    ⟨(some 10), .mv (.tmp 11), none⟩])
  (.cond (.tmp 10) (.seq (.ops [⟨(some 12), .mv (.tmp 2), none⟩,
    ⟨(some 13), .mv (.tmp 3), none⟩,
    ⟨(some 14), .call n_bits_Get [(.tmp 12), (.const (.int .i64 0)), (.tmp 13)], none⟩,
    ⟨(some 8), .mv (.tmp 14), none⟩])
  .ret) (.seq (.ops [⟨(some 16), .bin .eql (.tmp 9) (.const (.int .i64 1)), none⟩,
    ⟨(some 15), .mv (.tmp 16), none⟩])
  (.cond (.tmp 15) (.seq (.ops [⟨(some 17), .mv (.tmp 1), none⟩,
    ⟨(some 18), .mv (.tmp 2), none⟩,
    ⟨(some 19), .bin .add (.tmp 17) (.tmp 18), none⟩,
    ⟨(some 20), .mv (.tmp 3), none⟩,
    ⟨(some 21), .call n_bits_Get [(.tmp 19), (.const (.int .i64 0)), (.tmp 20)], none⟩,
    ⟨(some 8), .mv (.tmp 21), none⟩])
  .ret) .skip))))))
 (.seq (.ops [⟨(some 8), .mv (.const (.int .i64 0)), none⟩])
 .ret)))⟩
def c_belatedref3_Thread_Plain : AFunc := ⟨133, [.tmp 2],
 (.seq (.ops [⟨(some 2), .mv (.const (.bool false)), none⟩])
 (.seq (.block 0 (.loop (.seq (.seq (.ops [⟨(some 5), .mv (.tmp 0), none⟩,
     ⟨(some 6), .nilCheck (.tmp 5), none⟩,
     ⟨(some 7), .off 9 (.tmp 6), none⟩,
     ⟨(some 8), .load1 (.tmp 7), none⟩,
     ⟨(some 9), .mv (.tmp 0), none⟩,
     ⟨(some 10), .nilCheck (.tmp 9), none⟩,
     ⟨(some 11), .off 0 (.tmp 10), none⟩,
     ⟨(some 12), .load1 (.tmp 11), none⟩,
     ⟨(some 13), .len (.tmp 12), none⟩,
     ⟨(some 14), .bin .lss (.tmp 8) (.tmp 13), none⟩])
   (.cond (.tmp 14) .skip (.exit 0)))
   (.block 1 (.seq (.ops [⟨(some 15), .mv (.tmp 0), none⟩,
      ⟨(some 16), .nilCheck (.tmp 15), none⟩,
      ⟨(some 17), .off 0 (.tmp 16), none⟩,
      ⟨(some 18), .load1 (.tmp 17), none⟩,
      ⟨(some 19), .mv (.tmp 0), none⟩,
      ⟨(some 20), .nilCheck (.tmp 19), none⟩,
      ⟨(some 21), .off 9 (.tmp 20), none⟩,
      ⟨(some 22), .load1 (.tmp 21), none⟩,
      ⟨(some 23), .atRow 17 (.tmp 18) (.tmp 22), none⟩,
      ⟨(some 24), .load 17 (.tmp 23), none⟩,
      ⟨(some 3), .alloc (List.replicate 10 (.int .i64 0) ++ List.replicate 3 (.bool false) ++ List.replicate 3 (.int .i64 0) ++ [(.bool false)]), none⟩,
      ⟨none, .store 17 (.tmp 3) (.tmp 24), none⟩])
    (.seq (.seq (.ops [⟨(some 25), .load 17 (.tmp 3), none⟩,
      ⟨(some 26), .call n_belatedref3_Memory [(.tmp 25)], none⟩,
      ⟨(some 27), .mv (.tmp 26), none⟩,
      ⟨(some 28), .off 0 (.tmp 3), (some (27, false))⟩,
      ⟨(some 29), .load1 (.tmp 28), (some (27, false))⟩,
      ⟨(some 30), .bin .eql (.tmp 29) (.const (.int .i64 7)), (some (27, false))⟩,
      ⟨(some 31), .pick (.tmp 27) (.const (.bool true)) (.tmp 30), none⟩,
      ⟨(some 32), .mv (.tmp 31), none⟩,
      ⟨(some 33), .off 0 (.tmp 3), (some (32, false))⟩,
      ⟨(some 34), .load1 (.tmp 33), (some (32, false))⟩,
      ⟨(some 35), .bin .eql (.tmp 34) (.const (.int .i64 8)), (some (32, false))⟩,
      ⟨(some 36), .pick (.tmp 32) (.const (.bool true)) (.tmp 35), none⟩])
    (.cond (.tmp 36) (.seq (.ops [⟨(some 2), .mv (.const (.bool true)), none⟩])
    .ret) .skip))
    (.seq (.ops [⟨(some 37), .mv (.tmp 0), none⟩,
      ⟨(some 38), .mv (.tmp 0), none⟩,
      ⟨(some 39), .nilCheck (.tmp 38), none⟩,
      ⟨(some 40), .off 10 (.tmp 39), none⟩,
      ⟨(some 41), .load1 (.tmp 40), none⟩,
      ⟨(some 42), .mv (.tmp 0), none⟩,
      ⟨(some 43), .nilCheck (.tmp 42), none⟩,
      ⟨(some 44), .off 9 (.tmp 43), none⟩,
      ⟨(some 45), .load1 (.tmp 44), none⟩,
      ⟨(some 46), .mkRow [(.int .i64 0)] 1 [(0, 1, (.tmp 45))], none⟩,
      ⟨(some 47), .append 1 8 (.tmp 41) (.tmp 46), none⟩,
      ⟨(some 48), .nilCheck (.tmp 37), none⟩,
      ⟨(some 49), .off 10 (.tmp 48), none⟩,
      ⟨none, .store1 (.tmp 49) (.tmp 47), none⟩])
    (.seq (.ops [⟨(some 50), .mv (.tmp 0), none⟩,
      ⟨(some 51), .nilCheck (.tmp 50), none⟩,
      ⟨(some 52), .off 9 (.tmp 51), none⟩,
      ⟨(some 53), .load1 (.tmp 52), none⟩,
      ⟨(some 54), .bin .add (.tmp 53) (.const (.int .i64 1)), none⟩,
      ⟨(some 55), .nilCheck (.tmp 50), none⟩,
      ⟨(some 56), .off 9 (.tmp 55), none⟩,
      ⟨none, .store1 (.tmp 56) (.tmp 54), none⟩])
    (.seq (.ops [⟨(some 57), .off 0 (.tmp 3), none⟩,
      ⟨(some 58), .load1 (.tmp 57), none⟩])
    (.block 2 (.seq (.ops [⟨(some 60), .bin .eql (.tmp 58) (.const (.int .i64 1)), none⟩,
       ⟨(some 59), .mv (.tmp 60), none⟩])
     (.cond (.tmp 59) (.ops [⟨(some 61), .mv (.tmp 0), none⟩,
       ⟨(some 62), .off 1 (.tmp 3), none⟩,
       ⟨(some 63), .load1 (.tmp 62), none⟩,
       ⟨(some 64), .off 4 (.tmp 3), none⟩,
       ⟨(some 65), .load1 (.tmp 64), none⟩,
       ⟨(some 66), .nilCheck (.tmp 61), none⟩,
       ⟨(some 67), .off 1 (.tmp 66), none⟩,
       ⟨(some 68), .atArr 8 1 (.tmp 67) (.tmp 63), none⟩,
       ⟨none, .store1 (.tmp 68) (.tmp 65), none⟩]) (.seq (.ops [⟨(some 70), .bin .eql (.tmp 58) (.const (.int .i64 2)), none⟩,
       ⟨(some 69), .mv (.tmp 70), none⟩])
     (.cond (.tmp 69) (.ops [⟨(some 71), .mv (.tmp 0), none⟩,
       ⟨(some 72), .off 1 (.tmp 3), none⟩,
       ⟨(some 73), .load1 (.tmp 72), none⟩,
       ⟨(some 74), .mv (.tmp 0), none⟩,
       ⟨(some 75), .off 2 (.tmp 3), none⟩,
       ⟨(some 76), .load1 (.tmp 75), none⟩,
       ⟨(some 77), .nilCheck (.tmp 74), none⟩,
       ⟨(some 78), .off 1 (.tmp 77), none⟩,
       ⟨(some 79), .atArr 8 1 (.tmp 78) (.tmp 76), none⟩,
       ⟨(some 80), .load1 (.tmp 79), none⟩,
       ⟨(some 81), .nilCheck (.tmp 71), none⟩,
       ⟨(some 82), .off 1 (.tmp 81), none⟩,
       ⟨(some 83), .atArr 8 1 (.tmp 82) (.tmp 73), none⟩,
       ⟨none, .store1 (.tmp 83) (.tmp 80), none⟩]) (.seq (.ops [⟨(some 85), .bin .eql (.tmp 58) (.const (.int .i64 3)), none⟩,
       ⟨(some 84), .mv (.tmp 85), none⟩])
     (.cond (.tmp 84) (.seq (.ops [⟨(some 86), .off 4 (.tmp 3), none⟩,
       ⟨(some 87), .load1 (.tmp 86), none⟩,
       ⟨(some 4), .mv (.tmp 87), none⟩])
     (.seq (.seq (.ops [⟨(some 88), .off 3 (.tmp 3), none⟩,
       ⟨(some 89), .load1 (.tmp 88), none⟩,
       ⟨(some 90), .bin .geq (.tmp 89) (.const (.int .i64 0)), none⟩])
     (.cond (.tmp 90) (.ops [⟨(some 91), .mv (.tmp 0), none⟩,
       ⟨(some 92), .off 3 (.tmp 3), none⟩,
       ⟨(some 93), .load1 (.tmp 92), none⟩,
       ⟨(some 94), .nilCheck (.tmp 91), none⟩,
       ⟨(some 95), .off 1 (.tmp 94), none⟩,
       ⟨(some 96), .atArr 8 1 (.tmp 95) (.tmp 93), none⟩,
       ⟨(some 97), .load1 (.tmp 96), none⟩,
       ⟨(some 4), .mv (.tmp 97), none⟩]) .skip))
     (.ops [⟨(some 98), .mv (.tmp 0), none⟩,
       ⟨(some 99), .off 1 (.tmp 3), none⟩,
       ⟨(some 100), .load1 (.tmp 99), none⟩,
       ⟨(some 101), .off 9 (.tmp 3), none⟩,
       ⟨(some 102), .load1 (.tmp 101), none⟩,
       ⟨(some 103), .mv (.tmp 0), none⟩,
       ⟨(some 104), .off 2 (.tmp 3), none⟩,
       ⟨(some 105), .load1 (.tmp 104), none⟩,
       ⟨(some 106), .nilCheck (.tmp 103), none⟩,
       ⟨(some 107), .off 1 (.tmp 106), none⟩,
       ⟨(some 108), .atArr 8 1 (.tmp 107) (.tmp 105), none⟩,
       ⟨(some 109), .load1 (.tmp 108), none⟩,
       ⟨(some 110), .mv (.tmp 4), none⟩,
       ⟨(some 112), .nilCheck (.tmp 98), none⟩,
       ⟨(some 113), .off 1 (.tmp 112), none⟩,
       ⟨(some 111), .call n_belatedref1_Alu [(.tmp 102), (.tmp 109), (.tmp 110)], none⟩,
       ⟨none, .again1 (.tmp 99) 100, none⟩,
       ⟨(some 114), .atArr 8 1 (.tmp 113) (.tmp 100), none⟩,
       ⟨none, .store1 (.tmp 114) (.tmp 111), none⟩]))) (.seq (.ops [⟨(some 116), .bin .eql (.tmp 58) (.const (.int .i64 9)), none⟩,
       ⟨(some 115), .mv (.tmp 116), none⟩])
     (.cond (.tmp 115) (.seq (.ops [⟨(some 117), .mv (.tmp 0), none⟩,
       ⟨(some 118), .off 2 (.tmp 3), none⟩,
       ⟨(some 119), .load1 (.tmp 118), none⟩,
       ⟨(some 120), .nilCheck (.tmp 117), none⟩,
       ⟨(some 121), .off 1 (.tmp 120), none⟩,
       ⟨(some 122), .atArr 8 1 (.tmp 121) (.tmp 119), none⟩,
       ⟨(some 123), .load1 (.tmp 122), none⟩,
       ⟨(some 124), .bin .eql (.tmp 123) (.const (.int .i64 0)), none⟩,
       ⟨(some 125), .off 16 (.tmp 3), none⟩,
       ⟨(some 126), .load1 (.tmp 125), none⟩,
       ⟨(some 127), .eqv false .bool (.tmp 124) (.tmp 126), none⟩])
     (.cond (.tmp 127) (.ops [⟨(some 128), .mv (.tmp 0), none⟩,
       ⟨(some 129), .off 15 (.tmp 3), none⟩,
       ⟨(some 130), .load1 (.tmp 129), none⟩,
       ⟨(some 131), .nilCheck (.tmp 128), none⟩,
       ⟨(some 132), .off 9 (.tmp 131), none⟩,
       ⟨none, .store1 (.tmp 132) (.tmp 130), none⟩]) .skip)) .skip))))))))))))))))))
 (.seq (.ops [⟨(some 2), .mv (.const (.bool false)), none⟩])
 .ret)))⟩
def c_belatedref3_Thread_Step : AFunc := ⟨111, [.cells 4 15],
 (.seq (.ops [⟨(some 4), .alloc (List.replicate 6 (.int .i64 0) ++ List.replicate 2 (.bool false) ++ List.replicate 2 (.int .i64 0) ++ List.replicate 3 (.bool false) ++ List.replicate 2 (.int .i64 0)), none⟩])
 (.seq (.ops [⟨(some 7), .mv (.tmp 0), none⟩,
   ⟨(some 8), .nilCheck (.tmp 7), none⟩,
   ⟨(some 9), .off 0 (.tmp 8), none⟩,
   ⟨(some 10), .load1 (.tmp 9), none⟩,
   ⟨(some 11), .mv (.tmp 0), none⟩,
   ⟨(some 12), .nilCheck (.tmp 11), none⟩,
   ⟨(some 13), .off 9 (.tmp 12), none⟩,
   ⟨(some 14), .load1 (.tmp 13), none⟩,
   ⟨(some 15), .atRow 17 (.tmp 10) (.tmp 14), none⟩,
   ⟨(some 16), .load 17 (.tmp 15), none⟩,
   ⟨(some 5), .alloc (List.replicate 10 (.int .i64 0) ++ List.replicate 3 (.bool false) ++ List.replicate 3 (.int .i64 0) ++ [(.bool false)]), none⟩,
   ⟨none, .store 17 (.tmp 5) (.tmp 16), none⟩])
 (.seq (.ops [⟨(some 17), .mv (.tmp 0), none⟩,
   ⟨(some 18), .nilCheck (.tmp 17), none⟩,
   ⟨(some 19), .off 10 (.tmp 18), none⟩,
   ⟨(some 20), .load1 (.tmp 19), none⟩,
   ⟨(some 21), .len (.tmp 20), none⟩,
   ⟨(some 22), .mv (.tmp 0), none⟩,
   ⟨(some 23), .nilCheck (.tmp 22), none⟩,
   ⟨(some 24), .off 9 (.tmp 23), none⟩,
   ⟨(some 25), .load1 (.tmp 24), none⟩,
   ⟨(some 26), .off 0 (.tmp 5), none⟩,
   ⟨(some 27), .load1 (.tmp 26), none⟩,
   ⟨(some 28), .off 10 (.tmp 5), none⟩,
   ⟨(some 29), .load1 (.tmp 28), none⟩,
   ⟨(some 30), .off 11 (.tmp 5), none⟩,
   ⟨(some 31), .load1 (.tmp 30), none⟩,
   ⟨(some 32), .off 12 (.tmp 5), none⟩,
   ⟨(some 33), .load1 (.tmp 32), none⟩,
   ⟨(some 34), .off 13 (.tmp 5), none⟩,
   ⟨(some 35), .load1 (.tmp 34), none⟩,
   ⟨(some 36), .off 14 (.tmp 5), none⟩,
   ⟨(some 37), .load1 (.tmp 36), none⟩,
   ⟨(some 38), .load 17 (.tmp 5), none⟩,
   ⟨(some 40), .load 17 (.tmp 5), none⟩,
   ⟨(some 6), .alloc (List.replicate 6 (.int .i64 0) ++ List.replicate 2 (.bool false) ++ List.replicate 2 (.int .i64 0) ++ List.replicate 3 (.bool false) ++ List.replicate 2 (.int .i64 0)), none⟩,
   ⟨(some 39), .call n_belatedref3_Reads [(.tmp 38)], none⟩,
   ⟨none, .again1 (.tmp 19) 20, none⟩,
   ⟨none, .again1 (.tmp 24) 25, none⟩,
   ⟨none, .again1 (.tmp 26) 27, none⟩,
   ⟨none, .again1 (.tmp 28) 29, none⟩,
   ⟨none, .again1 (.tmp 30) 31, none⟩,
   ⟨none, .again1 (.tmp 32) 33, none⟩,
   ⟨none, .again1 (.tmp 34) 35, none⟩,
   ⟨none, .again1 (.tmp 36) 37, none⟩,
   ⟨none, .again 17 (.tmp 5) 40, none⟩,
   ⟨(some 41), .call n_belatedref3_Writes [(.tmp 40)], none⟩,
   ⟨none, .again1 (.tmp 19) 20, none⟩,
   ⟨none, .again1 (.tmp 24) 25, none⟩,
   ⟨none, .again1 (.tmp 26) 27, none⟩,
   ⟨none, .again1 (.tmp 28) 29, none⟩,
   ⟨none, .again1 (.tmp 30) 31, none⟩,
   ⟨none, .again1 (.tmp 32) 33, none⟩,
   ⟨none, .again1 (.tmp 34) 35, none⟩,
   ⟨none, .again1 (.tmp 36) 37, none⟩,
   ⟨(some 42), .build (List.replicate 6 (.int .i64 0) ++ List.replicate 2 (.bool false) ++ List.replicate 2 (.int .i64 0) ++ List.replicate 3 (.bool false) ++ List.replicate 2 (.int .i64 0)) [(1, 1, (.tmp 21)), (2, 1, (.tmp 25)), (3, 1, (.tmp 27)), (10, 1, (.tmp 29)), (11, 1, (.tmp 31)), (12, 1, (.tmp 33)), (13, 1, (.tmp 35)), (14, 1, (.tmp 37)), (6, 1, (.tmp 39)), (7, 1, (.tmp 41))], none⟩,
   ⟨none, .store 15 (.tmp 6) (.tmp 42), none⟩])
 (.seq (.seq (.ops [⟨(some 43), .load 17 (.tmp 5), none⟩,
   ⟨(some 44), .call n_belatedref3_Memory [(.tmp 43)], none⟩])
 (.cond (.tmp 44) (.ops [⟨(some 45), .mv (.tmp 0), none⟩,
   ⟨(some 46), .load 17 (.tmp 5), none⟩,
   ⟨(some 47), .call n_belatedref3_Thread_Where [(.tmp 45), (.tmp 46)], none⟩,
   ⟨(some 48), .off 4 (.tmp 6), none⟩,
   ⟨none, .store 2 (.tmp 48) (.tmp 47), none⟩]) .skip))
 (.seq (.seq (.ops [⟨(some 49), .off 6 (.tmp 6), none⟩,
   ⟨(some 50), .load1 (.tmp 49), none⟩])
 (.cond (.tmp 50) (.ops [⟨(some 51), .mv (.tmp 1), none⟩,
   ⟨(some 52), .off 8 (.tmp 5), none⟩,
   ⟨(some 53), .load1 (.tmp 52), none⟩,
   ⟨(some 54), .call n_belatedref1_Get [(.tmp 51), (.const (.int .i64 0)), (.tmp 53)], none⟩,
   ⟨(some 55), .off 8 (.tmp 6), none⟩,
   ⟨none, .store1 (.tmp 55) (.tmp 54), none⟩]) .skip))
 (.seq (.seq (.ops [⟨(some 56), .off 0 (.tmp 5), none⟩,
   ⟨(some 57), .load1 (.tmp 56), none⟩,
   ⟨(some 58), .bin .eql (.tmp 57) (.const (.int .i64 5)), none⟩])
 (.cond (.tmp 58) (.ops [⟨(some 59), .mv (.tmp 0), none⟩,
   ⟨(some 60), .load 17 (.tmp 5), none⟩,
   ⟨(some 62), .off 8 (.tmp 5), none⟩,
   ⟨(some 63), .load1 (.tmp 62), none⟩,
   ⟨(some 61), .call n_belatedref3_Thread_Datum [(.tmp 59), (.tmp 60)], none⟩,
   ⟨none, .again1 (.tmp 62) 63, none⟩,
   ⟨(some 64), .call n_belatedref1_Get [(.tmp 61), (.const (.int .i64 0)), (.tmp 63)], none⟩,
   ⟨(some 65), .off 9 (.tmp 6), none⟩,
   ⟨none, .store1 (.tmp 65) (.tmp 64), none⟩]) .skip))
 (.seq (.seq (.ops [⟨(some 66), .off 0 (.tmp 5), none⟩,
   ⟨(some 67), .load1 (.tmp 66), none⟩,
   ⟨(some 68), .bin .eql (.tmp 67) (.const (.int .i64 6)), none⟩])
 (.cond (.tmp 68) (.ops [⟨(some 69), .off 9 (.tmp 5), none⟩,
   ⟨(some 70), .load1 (.tmp 69), none⟩,
   ⟨(some 71), .off 8 (.tmp 6), none⟩,
   ⟨(some 72), .load1 (.tmp 71), none⟩,
   ⟨(some 73), .mv (.tmp 0), none⟩,
   ⟨(some 74), .load 17 (.tmp 5), none⟩,
   ⟨(some 76), .off 8 (.tmp 5), none⟩,
   ⟨(some 77), .load1 (.tmp 76), none⟩,
   ⟨(some 75), .call n_belatedref3_Thread_Datum [(.tmp 73), (.tmp 74)], none⟩,
   ⟨none, .again1 (.tmp 69) 70, none⟩,
   ⟨none, .again1 (.tmp 71) 72, none⟩,
   ⟨none, .again1 (.tmp 76) 77, none⟩,
   ⟨(some 78), .call n_belatedref1_Rmw [(.tmp 70), (.tmp 72), (.tmp 75), (.tmp 77)], none⟩,
   ⟨(some 79), .off 9 (.tmp 6), none⟩,
   ⟨none, .store1 (.tmp 79) (.tmp 78), none⟩]) .skip))
 (.seq (.seq (.ops [⟨(some 80), .off 6 (.tmp 6), none⟩,
   ⟨(some 81), .load1 (.tmp 80), none⟩])
 (.cond (.tmp 81) (.ops [⟨(some 82), .mv (.tmp 0), none⟩,
   ⟨(some 83), .off 1 (.tmp 5), none⟩,
   ⟨(some 84), .load1 (.tmp 83), none⟩,
   ⟨(some 85), .off 8 (.tmp 6), none⟩,
   ⟨(some 86), .load1 (.tmp 85), none⟩,
   ⟨(some 87), .nilCheck (.tmp 82), none⟩,
   ⟨(some 88), .off 1 (.tmp 87), none⟩,
   ⟨(some 89), .atArr 8 1 (.tmp 88) (.tmp 84), none⟩,
   ⟨none, .store1 (.tmp 89) (.tmp 86), none⟩]) .skip))
 (.seq (.ops [⟨(some 90), .mv (.tmp 0), none⟩,
   ⟨(some 91), .mv (.tmp 0), none⟩,
   ⟨(some 92), .nilCheck (.tmp 91), none⟩,
   ⟨(some 93), .off 10 (.tmp 92), none⟩,
   ⟨(some 94), .load1 (.tmp 93), none⟩,
   ⟨(some 95), .mv (.tmp 0), none⟩,
   ⟨(some 96), .nilCheck (.tmp 95), none⟩,
   ⟨(some 97), .off 9 (.tmp 96), none⟩,
   ⟨(some 98), .load1 (.tmp 97), none⟩,
   ⟨(some 99), .mkRow [(.int .i64 0)] 1 [(0, 1, (.tmp 98))], none⟩,
   ⟨(some 100), .append 1 8 (.tmp 94) (.tmp 99), none⟩,
   ⟨(some 101), .nilCheck (.tmp 90), none⟩,
   ⟨(some 102), .off 10 (.tmp 101), none⟩,
   ⟨none, .store1 (.tmp 102) (.tmp 100), none⟩])
 (.seq (.ops [⟨(some 103), .mv (.tmp 0), none⟩,
   ⟨(some 104), .nilCheck (.tmp 103), none⟩,
   ⟨(some 105), .off 9 (.tmp 104), none⟩,
   ⟨(some 106), .load1 (.tmp 105), none⟩,
   ⟨(some 107), .bin .add (.tmp 106) (.const (.int .i64 1)), none⟩,
   ⟨(some 108), .nilCheck (.tmp 103), none⟩,
   ⟨(some 109), .off 9 (.tmp 108), none⟩,
   ⟨none, .store1 (.tmp 109) (.tmp 107), none⟩])
 (.seq (.ops [⟨(some 110), .load 15 (.tmp 6), none⟩,
   ⟨none, .store 15 (.tmp 4) (.tmp 110), none⟩])
 .ret)))))))))))⟩
def c_uir_formed : AFunc := ⟨225, [.tmp 2],
 (.seq (.ops [⟨(some 1), .box 17 (.tmp 0), none⟩,
   ⟨(some 2), .mv (.const (.bool false)), none⟩])
 (.seq (.ops [⟨(some 5), .off 0 (.tmp 1), none⟩,
   ⟨(some 6), .load1 (.tmp 5), none⟩,
   ⟨(some 7), .build (List.replicate 10 (.int .i64 0) ++ List.replicate 3 (.bool false) ++ List.replicate 3 (.int .i64 0) ++ [(.bool false)]) [(0, 1, (.tmp 6)), (1, 1, (.const (.int .i64 (-1)))), (2, 1, (.const (.int .i64 (-1)))), (3, 1, (.const (.int .i64 (-1)))), (7, 1, (.const (.int .i64 (-1))))], none⟩,
   ⟨(some 3), .alloc (List.replicate 10 (.int .i64 0) ++ List.replicate 3 (.bool false) ++ List.replicate 3 (.int .i64 0) ++ [(.bool false)]), none⟩,
   ⟨none, .store 17 (.tmp 3) (.tmp 7), none⟩])
 (.seq (.ops [⟨(some 4), .mv (.const (.bool false)), none⟩])
 (.seq (.seq (.ops [⟨(some 8), .off 0 (.tmp 1), none⟩,
   ⟨(some 9), .load1 (.tmp 8), none⟩])
 (.block 0 (.seq (.ops [⟨(some 11), .bin .eql (.tmp 9) (.const (.int .i64 1)), none⟩,
    ⟨(some 10), .mv (.tmp 11), none⟩])
  (.cond (.tmp 10) (.seq (.ops [⟨(some 12), .off 1 (.tmp 1), none⟩,
    ⟨(some 13), .load1 (.tmp 12), none⟩,
    ⟨(some 14), .off 4 (.tmp 1), none⟩,
    ⟨(some 15), .load1 (.tmp 14), none⟩,
    ⟨(some 16), .off 1 (.tmp 3), none⟩,
    ⟨none, .store1 (.tmp 16) (.tmp 13), none⟩,
    ⟨none, .again1 (.tmp 14) 15, none⟩,
    ⟨(some 17), .off 4 (.tmp 3), none⟩,
    ⟨none, .store1 (.tmp 17) (.tmp 15), none⟩])
  (.ops [⟨(some 18), .off 1 (.tmp 1), none⟩,
    ⟨(some 19), .load1 (.tmp 18), none⟩,
    ⟨(some 20), .call n_uir_register [(.tmp 19)], none⟩,
    ⟨(some 4), .mv (.tmp 20), none⟩])) (.seq (.ops [⟨(some 22), .bin .eql (.tmp 9) (.const (.int .i64 2)), none⟩,
    ⟨(some 21), .mv (.tmp 22), none⟩])
  (.cond (.tmp 21) (.seq (.ops [⟨(some 23), .off 1 (.tmp 1), none⟩,
    ⟨(some 24), .load1 (.tmp 23), none⟩,
    ⟨(some 25), .off 2 (.tmp 1), none⟩,
    ⟨(some 26), .load1 (.tmp 25), none⟩,
    ⟨(some 27), .off 1 (.tmp 3), none⟩,
    ⟨none, .store1 (.tmp 27) (.tmp 24), none⟩,
    ⟨none, .again1 (.tmp 25) 26, none⟩,
    ⟨(some 28), .off 2 (.tmp 3), none⟩,
    ⟨none, .store1 (.tmp 28) (.tmp 26), none⟩])
  (.ops [⟨(some 29), .off 1 (.tmp 1), none⟩,
    ⟨(some 30), .load1 (.tmp 29), none⟩,
    ⟨(some 31), .call n_uir_register [(.tmp 30)], none⟩,
    ⟨(some 32), .mv (.tmp 31), none⟩,
    ⟨(some 33), .off 2 (.tmp 1), (some (32, true))⟩,
    ⟨(some 34), .load1 (.tmp 33), (some (32, true))⟩,
    ⟨(some 35), .call n_uir_register [(.tmp 34)], (some (32, true))⟩,
    ⟨(some 36), .pick (.tmp 32) (.tmp 35) (.const (.bool false)), none⟩,
    ⟨(some 4), .mv (.tmp 36), none⟩])) (.seq (.ops [⟨(some 38), .bin .eql (.tmp 9) (.const (.int .i64 3)), none⟩,
    ⟨(some 37), .mv (.tmp 38), none⟩])
  (.cond (.tmp 37) (.seq (.ops [⟨(some 39), .off 1 (.tmp 1), none⟩,
    ⟨(some 40), .load1 (.tmp 39), none⟩,
    ⟨(some 41), .off 9 (.tmp 1), none⟩,
    ⟨(some 42), .load1 (.tmp 41), none⟩,
    ⟨(some 43), .off 2 (.tmp 1), none⟩,
    ⟨(some 44), .load1 (.tmp 43), none⟩,
    ⟨(some 45), .off 3 (.tmp 1), none⟩,
    ⟨(some 46), .load1 (.tmp 45), none⟩,
    ⟨(some 47), .off 1 (.tmp 3), none⟩,
    ⟨none, .store1 (.tmp 47) (.tmp 40), none⟩,
    ⟨none, .again1 (.tmp 41) 42, none⟩,
    ⟨none, .again1 (.tmp 43) 44, none⟩,
    ⟨none, .again1 (.tmp 45) 46, none⟩,
    ⟨(some 48), .off 9 (.tmp 3), none⟩,
    ⟨none, .store1 (.tmp 48) (.tmp 42), none⟩,
    ⟨none, .again1 (.tmp 43) 44, none⟩,
    ⟨none, .again1 (.tmp 45) 46, none⟩,
    ⟨(some 49), .off 2 (.tmp 3), none⟩,
    ⟨none, .store1 (.tmp 49) (.tmp 44), none⟩,
    ⟨none, .again1 (.tmp 45) 46, none⟩,
    ⟨(some 50), .off 3 (.tmp 3), none⟩,
    ⟨none, .store1 (.tmp 50) (.tmp 46), none⟩])
  (.seq (.ops [⟨(some 51), .off 1 (.tmp 1), none⟩,
    ⟨(some 52), .load1 (.tmp 51), none⟩,
    ⟨(some 53), .call n_uir_register [(.tmp 52)], none⟩,
    ⟨(some 54), .mv (.tmp 53), none⟩,
    ⟨(some 55), .off 2 (.tmp 1), (some (54, true))⟩,
    ⟨(some 56), .load1 (.tmp 55), (some (54, true))⟩,
    ⟨(some 57), .call n_uir_register [(.tmp 56)], (some (54, true))⟩,
    ⟨(some 58), .pick (.tmp 54) (.tmp 57) (.const (.bool false)), none⟩,
    ⟨(some 59), .mv (.tmp 58), none⟩,
    ⟨(some 60), .off 9 (.tmp 1), (some (59, true))⟩,
    ⟨(some 61), .load1 (.tmp 60), (some (59, true))⟩,
    ⟨(some 62), .bin .geq (.tmp 61) (.const (.int .i64 1)), (some (59, true))⟩,
    ⟨(some 63), .pick (.tmp 59) (.tmp 62) (.const (.bool false)), none⟩,
    ⟨(some 64), .mv (.tmp 63), none⟩,
    ⟨(some 65), .off 9 (.tmp 1), (some (64, true))⟩,
    ⟨(some 66), .load1 (.tmp 65), (some (64, true))⟩,
    ⟨(some 67), .bin .leq (.tmp 66) (.const (.int .i64 5)), (some (64, true))⟩,
    ⟨(some 68), .pick (.tmp 64) (.tmp 67) (.const (.bool false)), none⟩,
    ⟨(some 4), .mv (.tmp 68), none⟩])
  (.seq (.ops [⟨(some 69), .off 3 (.tmp 1), none⟩,
    ⟨(some 70), .load1 (.tmp 69), none⟩,
    ⟨(some 71), .bin .eql (.tmp 70) (.const (.int .i64 (-1))), none⟩])
  (.cond (.tmp 71) (.ops [⟨(some 72), .off 4 (.tmp 1), none⟩,
    ⟨(some 73), .load1 (.tmp 72), none⟩,
    ⟨(some 74), .off 4 (.tmp 3), none⟩,
    ⟨none, .store1 (.tmp 74) (.tmp 73), none⟩]) (.ops [⟨(some 75), .mv (.tmp 4), none⟩,
    ⟨(some 76), .mv (.tmp 75), none⟩,
    ⟨(some 77), .off 3 (.tmp 1), (some (76, true))⟩,
    ⟨(some 78), .load1 (.tmp 77), (some (76, true))⟩,
    ⟨(some 79), .call n_uir_register [(.tmp 78)], (some (76, true))⟩,
    ⟨(some 80), .pick (.tmp 76) (.tmp 79) (.const (.bool false)), none⟩,
    ⟨(some 4), .mv (.tmp 80), none⟩]))))) (.seq (.ops [⟨(some 82), .bin .eql (.tmp 9) (.const (.int .i64 4)), none⟩,
    ⟨(some 81), .mv (.tmp 82), none⟩])
  (.cond (.tmp 81) (.seq (.ops [⟨(some 83), .off 1 (.tmp 1), none⟩,
    ⟨(some 84), .load1 (.tmp 83), none⟩,
    ⟨(some 85), .off 10 (.tmp 1), none⟩,
    ⟨(some 86), .load1 (.tmp 85), none⟩,
    ⟨(some 87), .off 11 (.tmp 1), none⟩,
    ⟨(some 88), .load1 (.tmp 87), none⟩,
    ⟨(some 89), .off 1 (.tmp 3), none⟩,
    ⟨none, .store1 (.tmp 89) (.tmp 84), none⟩,
    ⟨none, .again1 (.tmp 85) 86, none⟩,
    ⟨none, .again1 (.tmp 87) 88, none⟩,
    ⟨(some 90), .off 10 (.tmp 3), none⟩,
    ⟨none, .store1 (.tmp 90) (.tmp 86), none⟩,
    ⟨none, .again1 (.tmp 87) 88, none⟩,
    ⟨(some 91), .off 11 (.tmp 3), none⟩,
    ⟨none, .store1 (.tmp 91) (.tmp 88), none⟩])
  (.ops [⟨(some 92), .off 1 (.tmp 1), none⟩,
    ⟨(some 93), .load1 (.tmp 92), none⟩,
    ⟨(some 94), .call n_uir_register [(.tmp 93)], none⟩,
    ⟨(some 95), .mv (.tmp 94), none⟩,
    ⟨(some 96), .load 17 (.tmp 1), (some (95, true))⟩,
    ⟨(some 97), .call n_uir_access [(.tmp 96)], (some (95, true))⟩,
    ⟨(some 98), .pick (.tmp 95) (.tmp 97) (.const (.bool false)), none⟩,
    ⟨(some 99), .mv (.tmp 98), none⟩,
    ⟨(some 100), .off 10 (.tmp 1), (some (99, true))⟩,
    ⟨(some 101), .load1 (.tmp 100), (some (99, true))⟩,
    ⟨(some 102), .mv (.tmp 101), (some (99, true))⟩,
    ⟨(some 103), .off 11 (.tmp 1), (some (102, true))⟩,
    ⟨(some 104), .load1 (.tmp 103), (some (102, true))⟩,
    ⟨(some 105), .pick (.tmp 102) (.tmp 104) (.const (.bool false)), (some (99, true))⟩,
    ⟨(some 106), .un .not (.tmp 105), (some (99, true))⟩,
    ⟨(some 107), .pick (.tmp 99) (.tmp 106) (.const (.bool false)), none⟩,
    ⟨(some 4), .mv (.tmp 107), none⟩])) (.seq (.ops [⟨(some 109), .bin .eql (.tmp 9) (.const (.int .i64 5)), none⟩,
    ⟨(some 108), .mv (.tmp 109), none⟩])
  (.cond (.tmp 108) (.seq (.ops [⟨(some 110), .off 2 (.tmp 1), none⟩,
    ⟨(some 111), .load1 (.tmp 110), none⟩,
    ⟨(some 112), .off 12 (.tmp 1), none⟩,
    ⟨(some 113), .load1 (.tmp 112), none⟩,
    ⟨(some 114), .off 2 (.tmp 3), none⟩,
    ⟨none, .store1 (.tmp 114) (.tmp 111), none⟩,
    ⟨none, .again1 (.tmp 112) 113, none⟩,
    ⟨(some 115), .off 12 (.tmp 3), none⟩,
    ⟨none, .store1 (.tmp 115) (.tmp 113), none⟩])
  (.seq (.ops [⟨(some 116), .load 17 (.tmp 1), none⟩,
    ⟨(some 117), .call n_uir_access [(.tmp 116)], none⟩,
    ⟨(some 4), .mv (.tmp 117), none⟩])
  (.seq (.ops [⟨(some 118), .off 2 (.tmp 1), none⟩,
    ⟨(some 119), .load1 (.tmp 118), none⟩,
    ⟨(some 120), .bin .eql (.tmp 119) (.const (.int .i64 (-1))), none⟩])
  (.cond (.tmp 120) (.ops [⟨(some 121), .off 4 (.tmp 1), none⟩,
    ⟨(some 122), .load1 (.tmp 121), none⟩,
    ⟨(some 123), .off 4 (.tmp 3), none⟩,
    ⟨none, .store1 (.tmp 123) (.tmp 122), none⟩]) (.ops [⟨(some 124), .mv (.tmp 4), none⟩,
    ⟨(some 125), .mv (.tmp 124), none⟩,
    ⟨(some 126), .off 2 (.tmp 1), (some (125, true))⟩,
    ⟨(some 127), .load1 (.tmp 126), (some (125, true))⟩,
    ⟨(some 128), .call n_uir_register [(.tmp 127)], (some (125, true))⟩,
    ⟨(some 129), .pick (.tmp 125) (.tmp 128) (.const (.bool false)), none⟩,
    ⟨(some 4), .mv (.tmp 129), none⟩]))))) (.seq (.ops [⟨(some 131), .bin .eql (.tmp 9) (.const (.int .i64 6)), none⟩,
    ⟨(some 130), .mv (.tmp 131), none⟩])
  (.cond (.tmp 130) (.seq (.ops [⟨(some 132), .off 1 (.tmp 1), none⟩,
    ⟨(some 133), .load1 (.tmp 132), none⟩,
    ⟨(some 134), .off 2 (.tmp 1), none⟩,
    ⟨(some 135), .load1 (.tmp 134), none⟩,
    ⟨(some 136), .off 9 (.tmp 1), none⟩,
    ⟨(some 137), .load1 (.tmp 136), none⟩,
    ⟨(some 138), .off 10 (.tmp 1), none⟩,
    ⟨(some 139), .load1 (.tmp 138), none⟩,
    ⟨(some 140), .off 12 (.tmp 1), none⟩,
    ⟨(some 141), .load1 (.tmp 140), none⟩,
    ⟨(some 142), .off 1 (.tmp 3), none⟩,
    ⟨none, .store1 (.tmp 142) (.tmp 133), none⟩,
    ⟨none, .again1 (.tmp 134) 135, none⟩,
    ⟨none, .again1 (.tmp 136) 137, none⟩,
    ⟨none, .again1 (.tmp 138) 139, none⟩,
    ⟨none, .again1 (.tmp 140) 141, none⟩,
    ⟨(some 143), .off 2 (.tmp 3), none⟩,
    ⟨none, .store1 (.tmp 143) (.tmp 135), none⟩,
    ⟨none, .again1 (.tmp 136) 137, none⟩,
    ⟨none, .again1 (.tmp 138) 139, none⟩,
    ⟨none, .again1 (.tmp 140) 141, none⟩,
    ⟨(some 144), .off 9 (.tmp 3), none⟩,
    ⟨none, .store1 (.tmp 144) (.tmp 137), none⟩,
    ⟨none, .again1 (.tmp 138) 139, none⟩,
    ⟨none, .again1 (.tmp 140) 141, none⟩,
    ⟨(some 145), .off 10 (.tmp 3), none⟩,
    ⟨none, .store1 (.tmp 145) (.tmp 139), none⟩,
    ⟨none, .again1 (.tmp 140) 141, none⟩,
    ⟨(some 146), .off 12 (.tmp 3), none⟩,
    ⟨none, .store1 (.tmp 146) (.tmp 141), none⟩])
  (.ops [⟨(some 147), .off 1 (.tmp 1), none⟩,
    ⟨(some 148), .load1 (.tmp 147), none⟩,
    ⟨(some 149), .call n_uir_register [(.tmp 148)], none⟩,
    ⟨(some 150), .mv (.tmp 149), none⟩,
    ⟨(some 151), .off 2 (.tmp 1), (some (150, true))⟩,
    ⟨(some 152), .load1 (.tmp 151), (some (150, true))⟩,
    ⟨(some 153), .call n_uir_register [(.tmp 152)], (some (150, true))⟩,
    ⟨(some 154), .pick (.tmp 150) (.tmp 153) (.const (.bool false)), none⟩,
    ⟨(some 155), .mv (.tmp 154), none⟩,
    ⟨(some 156), .load 17 (.tmp 1), (some (155, true))⟩,
    ⟨(some 157), .call n_uir_access [(.tmp 156)], (some (155, true))⟩,
    ⟨(some 158), .pick (.tmp 155) (.tmp 157) (.const (.bool false)), none⟩,
    ⟨(some 159), .mv (.tmp 158), none⟩,
    ⟨(some 160), .off 9 (.tmp 1), (some (159, true))⟩,
    ⟨(some 161), .load1 (.tmp 160), (some (159, true))⟩,
    ⟨(some 162), .bin .eql (.tmp 161) (.const (.int .i64 6)), (some (159, true))⟩,
    ⟨(some 163), .mv (.tmp 162), (some (159, true))⟩,
    ⟨(some 164), .off 9 (.tmp 1), (some (163, false))⟩,
    ⟨(some 165), .load1 (.tmp 164), (some (163, false))⟩,
    ⟨(some 166), .bin .eql (.tmp 165) (.const (.int .i64 1)), (some (163, false))⟩,
    ⟨(some 167), .pick (.tmp 163) (.const (.bool true)) (.tmp 166), (some (159, true))⟩,
    ⟨(some 168), .pick (.tmp 159) (.tmp 167) (.const (.bool false)), none⟩,
    ⟨(some 4), .mv (.tmp 168), none⟩])) (.seq (.ops [⟨(some 170), .bin .eql (.tmp 9) (.const (.int .i64 7)), none⟩,
    ⟨(some 169), .mv (.tmp 170), none⟩])
  (.cond (.tmp 169) (.seq (.ops [⟨(some 171), .off 13 (.tmp 1), none⟩,
    ⟨(some 172), .load1 (.tmp 171), none⟩,
    ⟨(some 173), .off 14 (.tmp 1), none⟩,
    ⟨(some 174), .load1 (.tmp 173), none⟩,
    ⟨(some 175), .off 13 (.tmp 3), none⟩,
    ⟨none, .store1 (.tmp 175) (.tmp 172), none⟩,
    ⟨none, .again1 (.tmp 173) 174, none⟩,
    ⟨(some 176), .off 14 (.tmp 3), none⟩,
    ⟨none, .store1 (.tmp 176) (.tmp 174), none⟩])
  (.ops [⟨(some 177), .off 13 (.tmp 1), none⟩,
    ⟨(some 178), .load1 (.tmp 177), none⟩,
    ⟨(some 179), .call n_uir_fence [(.tmp 178)], none⟩,
    ⟨(some 180), .mv (.tmp 179), none⟩,
    ⟨(some 181), .off 14 (.tmp 1), (some (180, true))⟩,
    ⟨(some 182), .load1 (.tmp 181), (some (180, true))⟩,
    ⟨(some 183), .call n_uir_fence [(.tmp 182)], (some (180, true))⟩,
    ⟨(some 184), .pick (.tmp 180) (.tmp 183) (.const (.bool false)), none⟩,
    ⟨(some 4), .mv (.tmp 184), none⟩])) (.seq (.ops [⟨(some 186), .bin .eql (.tmp 9) (.const (.int .i64 8)), none⟩,
    ⟨(some 185), .mv (.tmp 186), none⟩])
  (.cond (.tmp 185) (.ops [⟨(some 4), .mv (.const (.bool true)), none⟩]) (.seq (.ops [⟨(some 188), .bin .eql (.tmp 9) (.const (.int .i64 9)), none⟩,
    ⟨(some 187), .mv (.tmp 188), none⟩])
  (.cond (.tmp 187) (.seq (.ops [⟨(some 189), .off 2 (.tmp 1), none⟩,
    ⟨(some 190), .load1 (.tmp 189), none⟩,
    ⟨(some 191), .off 16 (.tmp 1), none⟩,
    ⟨(some 192), .load1 (.tmp 191), none⟩,
    ⟨(some 193), .off 15 (.tmp 1), none⟩,
    ⟨(some 194), .load1 (.tmp 193), none⟩,
    ⟨(some 195), .off 2 (.tmp 3), none⟩,
    ⟨none, .store1 (.tmp 195) (.tmp 190), none⟩,
    ⟨none, .again1 (.tmp 191) 192, none⟩,
    ⟨none, .again1 (.tmp 193) 194, none⟩,
    ⟨(some 196), .off 16 (.tmp 3), none⟩,
    ⟨none, .store1 (.tmp 196) (.tmp 192), none⟩,
    ⟨none, .again1 (.tmp 193) 194, none⟩,
    ⟨(some 197), .off 15 (.tmp 3), none⟩,
    ⟨none, .store1 (.tmp 197) (.tmp 194), none⟩])
  (.ops [⟨(some 198), .off 2 (.tmp 1), none⟩,
    ⟨(some 199), .load1 (.tmp 198), none⟩,
    ⟨(some 200), .call n_uir_register [(.tmp 199)], none⟩,
    ⟨(some 4), .mv (.tmp 200), none⟩])) .skip))))))))))))))))))))
 (.seq (.seq (.ops [⟨(some 201), .load 17 (.tmp 1), none⟩,
   ⟨(some 202), .call n_uir_Reads [(.tmp 201)], none⟩,
   ⟨(some 203), .mv (.tmp 202), none⟩,
   ⟨(some 204), .load 17 (.tmp 1), (some (203, false))⟩,
   ⟨(some 205), .call n_uir_Writes [(.tmp 204)], (some (203, false))⟩,
   ⟨(some 206), .pick (.tmp 203) (.const (.bool true)) (.tmp 205), none⟩])
 (.cond (.tmp 206) (.ops [⟨(some 207), .off 5 (.tmp 1), none⟩,
   ⟨(some 208), .load1 (.tmp 207), none⟩,
   ⟨(some 209), .off 6 (.tmp 1), none⟩,
   ⟨(some 210), .load1 (.tmp 209), none⟩,
   ⟨(some 211), .off 7 (.tmp 1), none⟩,
   ⟨(some 212), .load1 (.tmp 211), none⟩,
   ⟨(some 213), .off 8 (.tmp 1), none⟩,
   ⟨(some 214), .load1 (.tmp 213), none⟩,
   ⟨(some 215), .off 5 (.tmp 3), none⟩,
   ⟨none, .store1 (.tmp 215) (.tmp 208), none⟩,
   ⟨none, .again1 (.tmp 209) 210, none⟩,
   ⟨none, .again1 (.tmp 211) 212, none⟩,
   ⟨none, .again1 (.tmp 213) 214, none⟩,
   ⟨(some 216), .off 6 (.tmp 3), none⟩,
   ⟨none, .store1 (.tmp 216) (.tmp 210), none⟩,
   ⟨none, .again1 (.tmp 211) 212, none⟩,
   ⟨none, .again1 (.tmp 213) 214, none⟩,
   ⟨(some 217), .off 7 (.tmp 3), none⟩,
   ⟨none, .store1 (.tmp 217) (.tmp 212), none⟩,
   ⟨none, .again1 (.tmp 213) 214, none⟩,
   ⟨(some 218), .off 8 (.tmp 3), none⟩,
   ⟨none, .store1 (.tmp 218) (.tmp 214), none⟩]) .skip))
 (.seq (.ops [⟨(some 219), .mv (.tmp 4), none⟩,
   ⟨(some 220), .mv (.tmp 219), none⟩,
   ⟨(some 221), .load 17 (.tmp 3), (some (220, true))⟩,
   ⟨(some 222), .load 17 (.tmp 1), (some (220, true))⟩,
   ⟨(some 223), .eqAgg false (List.replicate 10 .int ++ List.replicate 3 .bool ++ List.replicate 3 .int ++ [.bool]) (.tmp 221) (.tmp 222), (some (220, true))⟩,
   ⟨(some 224), .pick (.tmp 220) (.tmp 223) (.const (.bool false)), none⟩,
   ⟨(some 2), .mv (.tmp 224), none⟩])
 .ret))))))⟩
def c_belatedref3_bare : AFunc := ⟨192, [.cells 2 17, .tmp 3],
 (.seq (.ops [⟨(some 1), .box 17 (.tmp 0), none⟩,
   ⟨(some 2), .alloc (List.replicate 10 (.int .i64 0) ++ List.replicate 3 (.bool false) ++ List.replicate 3 (.int .i64 0) ++ [(.bool false)]), none⟩,
   ⟨(some 3), .mv (.const (.bool false)), none⟩])
 (.seq (.ops [⟨(some 6), .load 17 (.tmp 1), none⟩,
   ⟨(some 4), .alloc (List.replicate 10 (.int .i64 0) ++ List.replicate 3 (.bool false) ++ List.replicate 3 (.int .i64 0) ++ [(.bool false)]), none⟩,
   ⟨none, .store 17 (.tmp 4) (.tmp 6), none⟩])
 (.seq (.ops [⟨(some 5), .mv (.const (.bool true)), none⟩])
 (.seq (.ops [⟨(some 7), .off 0 (.tmp 4), none⟩,
   ⟨none, .store1 (.tmp 7) (.const (.int .i64 0)), none⟩])
 (.seq (.seq (.ops [⟨(some 8), .off 0 (.tmp 1), none⟩,
   ⟨(some 9), .load1 (.tmp 8), none⟩])
 (.block 0 (.seq (.ops [⟨(some 11), .bin .eql (.tmp 9) (.const (.int .i64 1)), none⟩,
    ⟨(some 10), .mv (.tmp 11), none⟩])
  (.cond (.tmp 10) (.seq (.ops [⟨(some 12), .off 1 (.tmp 1), none⟩,
    ⟨(some 13), .load1 (.tmp 12), none⟩,
    ⟨(some 14), .call n_belatedref3_reg [(.tmp 13)], none⟩,
    ⟨(some 5), .mv (.tmp 14), none⟩])
  (.seq (.ops [⟨(some 15), .off 1 (.tmp 4), none⟩,
    ⟨none, .store1 (.tmp 15) (.const (.int .i64 (-1))), none⟩])
  (.ops [⟨(some 16), .off 4 (.tmp 4), none⟩,
    ⟨none, .store1 (.tmp 16) (.const (.int .i64 0)), none⟩]))) (.seq (.ops [⟨(some 18), .bin .eql (.tmp 9) (.const (.int .i64 2)), none⟩,
    ⟨(some 17), .mv (.tmp 18), none⟩])
  (.cond (.tmp 17) (.seq (.ops [⟨(some 19), .off 1 (.tmp 1), none⟩,
    ⟨(some 20), .load1 (.tmp 19), none⟩,
    ⟨(some 21), .call n_belatedref3_reg [(.tmp 20)], none⟩,
    ⟨(some 22), .mv (.tmp 21), none⟩,
    ⟨(some 23), .off 2 (.tmp 1), (some (22, true))⟩,
    ⟨(some 24), .load1 (.tmp 23), (some (22, true))⟩,
    ⟨(some 25), .call n_belatedref3_reg [(.tmp 24)], (some (22, true))⟩,
    ⟨(some 26), .pick (.tmp 22) (.tmp 25) (.const (.bool false)), none⟩,
    ⟨(some 5), .mv (.tmp 26), none⟩])
  (.seq (.ops [⟨(some 27), .off 1 (.tmp 4), none⟩,
    ⟨none, .store1 (.tmp 27) (.const (.int .i64 (-1))), none⟩])
  (.ops [⟨(some 28), .off 2 (.tmp 4), none⟩,
    ⟨none, .store1 (.tmp 28) (.const (.int .i64 (-1))), none⟩]))) (.seq (.ops [⟨(some 30), .bin .eql (.tmp 9) (.const (.int .i64 3)), none⟩,
    ⟨(some 29), .mv (.tmp 30), none⟩])
  (.cond (.tmp 29) (.seq (.ops [⟨(some 31), .off 1 (.tmp 1), none⟩,
    ⟨(some 32), .load1 (.tmp 31), none⟩,
    ⟨(some 33), .call n_belatedref3_reg [(.tmp 32)], none⟩,
    ⟨(some 34), .mv (.tmp 33), none⟩,
    ⟨(some 35), .off 2 (.tmp 1), (some (34, true))⟩,
    ⟨(some 36), .load1 (.tmp 35), (some (34, true))⟩,
    ⟨(some 37), .call n_belatedref3_reg [(.tmp 36)], (some (34, true))⟩,
    ⟨(some 38), .pick (.tmp 34) (.tmp 37) (.const (.bool false)), none⟩,
    ⟨(some 39), .mv (.tmp 38), none⟩,
    ⟨(some 40), .off 9 (.tmp 1), (some (39, true))⟩,
    ⟨(some 41), .load1 (.tmp 40), (some (39, true))⟩,
    ⟨(some 42), .bin .geq (.tmp 41) (.const (.int .i64 1)), (some (39, true))⟩,
    ⟨(some 43), .pick (.tmp 39) (.tmp 42) (.const (.bool false)), none⟩,
    ⟨(some 44), .mv (.tmp 43), none⟩,
    ⟨(some 45), .off 9 (.tmp 1), (some (44, true))⟩,
    ⟨(some 46), .load1 (.tmp 45), (some (44, true))⟩,
    ⟨(some 47), .bin .leq (.tmp 46) (.const (.int .i64 5)), (some (44, true))⟩,
    ⟨(some 48), .pick (.tmp 44) (.tmp 47) (.const (.bool false)), none⟩,
    ⟨(some 49), .mv (.tmp 48), none⟩,
    ⟨(some 50), .off 3 (.tmp 1), (some (49, true))⟩,
    ⟨(some 51), .load1 (.tmp 50), (some (49, true))⟩,
    ⟨(some 52), .bin .eql (.tmp 51) (.const (.int .i64 (-1))), (some (49, true))⟩,
    ⟨(some 53), .mv (.tmp 52), (some (49, true))⟩,
    ⟨(some 54), .off 3 (.tmp 1), (some (53, false))⟩,
    ⟨(some 55), .load1 (.tmp 54), (some (53, false))⟩,
    ⟨(some 56), .call n_belatedref3_reg [(.tmp 55)], (some (53, false))⟩,
    ⟨(some 57), .mv (.tmp 56), (some (53, false))⟩,
    ⟨(some 58), .off 4 (.tmp 1), (some (57, true))⟩,
    ⟨(some 59), .load1 (.tmp 58), (some (57, true))⟩,
    ⟨(some 60), .bin .eql (.tmp 59) (.const (.int .i64 0)), (some (57, true))⟩,
    ⟨(some 61), .pick (.tmp 57) (.tmp 60) (.const (.bool false)), (some (53, false))⟩,
    ⟨(some 62), .pick (.tmp 53) (.const (.bool true)) (.tmp 61), (some (49, true))⟩,
    ⟨(some 63), .pick (.tmp 49) (.tmp 62) (.const (.bool false)), none⟩,
    ⟨(some 5), .mv (.tmp 63), none⟩])
  (.seq (.ops [⟨(some 64), .off 1 (.tmp 4), none⟩,
    ⟨none, .store1 (.tmp 64) (.const (.int .i64 (-1))), none⟩])
  (.seq (.ops [⟨(some 65), .off 2 (.tmp 4), none⟩,
    ⟨none, .store1 (.tmp 65) (.const (.int .i64 (-1))), none⟩])
  (.seq (.ops [⟨(some 66), .off 3 (.tmp 4), none⟩,
    ⟨none, .store1 (.tmp 66) (.const (.int .i64 (-1))), none⟩])
  (.seq (.ops [⟨(some 67), .off 9 (.tmp 4), none⟩,
    ⟨none, .store1 (.tmp 67) (.const (.int .i64 0)), none⟩])
  (.ops [⟨(some 68), .off 4 (.tmp 4), none⟩,
    ⟨none, .store1 (.tmp 68) (.const (.int .i64 0)), none⟩])))))) (.seq (.ops [⟨(some 70), .bin .eql (.tmp 9) (.const (.int .i64 4)), none⟩,
    ⟨(some 69), .mv (.tmp 70), none⟩])
  (.cond (.tmp 69) (.seq (.ops [⟨(some 71), .off 1 (.tmp 1), none⟩,
    ⟨(some 72), .load1 (.tmp 71), none⟩,
    ⟨(some 73), .call n_belatedref3_reg [(.tmp 72)], none⟩,
    ⟨(some 74), .mv (.tmp 73), none⟩,
    ⟨(some 75), .load 17 (.tmp 1), (some (74, true))⟩,
    ⟨(some 76), .call n_belatedref3_place [(.tmp 75)], (some (74, true))⟩,
    ⟨(some 77), .pick (.tmp 74) (.tmp 76) (.const (.bool false)), none⟩,
    ⟨(some 78), .mv (.tmp 77), none⟩,
    ⟨(some 79), .off 10 (.tmp 1), (some (78, true))⟩,
    ⟨(some 80), .load1 (.tmp 79), (some (78, true))⟩,
    ⟨(some 81), .mv (.tmp 80), (some (78, true))⟩,
    ⟨(some 82), .off 11 (.tmp 1), (some (81, true))⟩,
    ⟨(some 83), .load1 (.tmp 82), (some (81, true))⟩,
    ⟨(some 84), .pick (.tmp 81) (.tmp 83) (.const (.bool false)), (some (78, true))⟩,
    ⟨(some 85), .un .not (.tmp 84), (some (78, true))⟩,
    ⟨(some 86), .pick (.tmp 78) (.tmp 85) (.const (.bool false)), none⟩,
    ⟨(some 5), .mv (.tmp 86), none⟩])
  (.seq (.ops [⟨(some 87), .off 1 (.tmp 4), none⟩,
    ⟨none, .store1 (.tmp 87) (.const (.int .i64 (-1))), none⟩])
  (.seq (.ops [⟨(some 88), .off 10 (.tmp 4), none⟩,
    ⟨none, .store1 (.tmp 88) (.const (.bool false)), none⟩])
  (.ops [⟨(some 89), .off 11 (.tmp 4), none⟩,
    ⟨none, .store1 (.tmp 89) (.const (.bool false)), none⟩])))) (.seq (.ops [⟨(some 91), .bin .eql (.tmp 9) (.const (.int .i64 5)), none⟩,
    ⟨(some 90), .mv (.tmp 91), none⟩])
  (.cond (.tmp 90) (.seq (.ops [⟨(some 92), .load 17 (.tmp 1), none⟩,
    ⟨(some 93), .call n_belatedref3_place [(.tmp 92)], none⟩,
    ⟨(some 94), .mv (.tmp 93), none⟩,
    ⟨(some 95), .off 2 (.tmp 1), (some (94, true))⟩,
    ⟨(some 96), .load1 (.tmp 95), (some (94, true))⟩,
    ⟨(some 97), .bin .eql (.tmp 96) (.const (.int .i64 (-1))), (some (94, true))⟩,
    ⟨(some 98), .mv (.tmp 97), (some (94, true))⟩,
    ⟨(some 99), .off 2 (.tmp 1), (some (98, false))⟩,
    ⟨(some 100), .load1 (.tmp 99), (some (98, false))⟩,
    ⟨(some 101), .call n_belatedref3_reg [(.tmp 100)], (some (98, false))⟩,
    ⟨(some 102), .mv (.tmp 101), (some (98, false))⟩,
    ⟨(some 103), .off 4 (.tmp 1), (some (102, true))⟩,
    ⟨(some 104), .load1 (.tmp 103), (some (102, true))⟩,
    ⟨(some 105), .bin .eql (.tmp 104) (.const (.int .i64 0)), (some (102, true))⟩,
    ⟨(some 106), .pick (.tmp 102) (.tmp 105) (.const (.bool false)), (some (98, false))⟩,
    ⟨(some 107), .pick (.tmp 98) (.const (.bool true)) (.tmp 106), (some (94, true))⟩,
    ⟨(some 108), .pick (.tmp 94) (.tmp 107) (.const (.bool false)), none⟩,
    ⟨(some 5), .mv (.tmp 108), none⟩])
  (.seq (.ops [⟨(some 109), .off 2 (.tmp 4), none⟩,
    ⟨none, .store1 (.tmp 109) (.const (.int .i64 (-1))), none⟩])
  (.seq (.ops [⟨(some 110), .off 4 (.tmp 4), none⟩,
    ⟨none, .store1 (.tmp 110) (.const (.int .i64 0)), none⟩])
  (.ops [⟨(some 111), .off 12 (.tmp 4), none⟩,
    ⟨none, .store1 (.tmp 111) (.const (.bool false)), none⟩])))) (.seq (.ops [⟨(some 113), .bin .eql (.tmp 9) (.const (.int .i64 6)), none⟩,
    ⟨(some 112), .mv (.tmp 113), none⟩])
  (.cond (.tmp 112) (.seq (.ops [⟨(some 114), .off 1 (.tmp 1), none⟩,
    ⟨(some 115), .load1 (.tmp 114), none⟩,
    ⟨(some 116), .call n_belatedref3_reg [(.tmp 115)], none⟩,
    ⟨(some 117), .mv (.tmp 116), none⟩,
    ⟨(some 118), .off 2 (.tmp 1), (some (117, true))⟩,
    ⟨(some 119), .load1 (.tmp 118), (some (117, true))⟩,
    ⟨(some 120), .call n_belatedref3_reg [(.tmp 119)], (some (117, true))⟩,
    ⟨(some 121), .pick (.tmp 117) (.tmp 120) (.const (.bool false)), none⟩,
    ⟨(some 122), .mv (.tmp 121), none⟩,
    ⟨(some 123), .load 17 (.tmp 1), (some (122, true))⟩,
    ⟨(some 124), .call n_belatedref3_place [(.tmp 123)], (some (122, true))⟩,
    ⟨(some 125), .pick (.tmp 122) (.tmp 124) (.const (.bool false)), none⟩,
    ⟨(some 126), .mv (.tmp 125), none⟩,
    ⟨(some 127), .off 9 (.tmp 1), (some (126, true))⟩,
    ⟨(some 128), .load1 (.tmp 127), (some (126, true))⟩,
    ⟨(some 129), .bin .eql (.tmp 128) (.const (.int .i64 6)), (some (126, true))⟩,
    ⟨(some 130), .mv (.tmp 129), (some (126, true))⟩,
    ⟨(some 131), .off 9 (.tmp 1), (some (130, false))⟩,
    ⟨(some 132), .load1 (.tmp 131), (some (130, false))⟩,
    ⟨(some 133), .bin .eql (.tmp 132) (.const (.int .i64 1)), (some (130, false))⟩,
    ⟨(some 134), .pick (.tmp 130) (.const (.bool true)) (.tmp 133), (some (126, true))⟩,
    ⟨(some 135), .pick (.tmp 126) (.tmp 134) (.const (.bool false)), none⟩,
    ⟨(some 5), .mv (.tmp 135), none⟩])
  (.seq (.ops [⟨(some 136), .off 1 (.tmp 4), none⟩,
    ⟨none, .store1 (.tmp 136) (.const (.int .i64 (-1))), none⟩])
  (.seq (.ops [⟨(some 137), .off 2 (.tmp 4), none⟩,
    ⟨none, .store1 (.tmp 137) (.const (.int .i64 (-1))), none⟩])
  (.seq (.ops [⟨(some 138), .off 9 (.tmp 4), none⟩,
    ⟨none, .store1 (.tmp 138) (.const (.int .i64 0)), none⟩])
  (.seq (.ops [⟨(some 139), .off 10 (.tmp 4), none⟩,
    ⟨none, .store1 (.tmp 139) (.const (.bool false)), none⟩])
  (.ops [⟨(some 140), .off 12 (.tmp 4), none⟩,
    ⟨none, .store1 (.tmp 140) (.const (.bool false)), none⟩])))))) (.seq (.ops [⟨(some 142), .bin .eql (.tmp 9) (.const (.int .i64 7)), none⟩,
    ⟨(some 141), .mv (.tmp 142), none⟩])
  (.cond (.tmp 141) (.seq (.ops [⟨(some 143), .off 13 (.tmp 1), none⟩,
    ⟨(some 144), .load1 (.tmp 143), none⟩,
    ⟨(some 145), .bin .geq (.tmp 144) (.const (.int .i64 1)), none⟩,
    ⟨(some 146), .mv (.tmp 145), none⟩,
    ⟨(some 147), .off 13 (.tmp 1), (some (146, true))⟩,
    ⟨(some 148), .load1 (.tmp 147), (some (146, true))⟩,
    ⟨(some 149), .bin .leq (.tmp 148) (.const (.int .i64 3)), (some (146, true))⟩,
    ⟨(some 150), .pick (.tmp 146) (.tmp 149) (.const (.bool false)), none⟩,
    ⟨(some 151), .mv (.tmp 150), none⟩,
    ⟨(some 152), .off 14 (.tmp 1), (some (151, true))⟩,
    ⟨(some 153), .load1 (.tmp 152), (some (151, true))⟩,
    ⟨(some 154), .bin .geq (.tmp 153) (.const (.int .i64 1)), (some (151, true))⟩,
    ⟨(some 155), .pick (.tmp 151) (.tmp 154) (.const (.bool false)), none⟩,
    ⟨(some 156), .mv (.tmp 155), none⟩,
    ⟨(some 157), .off 14 (.tmp 1), (some (156, true))⟩,
    ⟨(some 158), .load1 (.tmp 157), (some (156, true))⟩,
    ⟨(some 159), .bin .leq (.tmp 158) (.const (.int .i64 3)), (some (156, true))⟩,
    ⟨(some 160), .pick (.tmp 156) (.tmp 159) (.const (.bool false)), none⟩,
    ⟨(some 5), .mv (.tmp 160), none⟩])
  (.seq (.ops [⟨(some 161), .off 13 (.tmp 4), none⟩,
    ⟨none, .store1 (.tmp 161) (.const (.int .i64 0)), none⟩])
  (.ops [⟨(some 162), .off 14 (.tmp 4), none⟩,
    ⟨none, .store1 (.tmp 162) (.const (.int .i64 0)), none⟩]))) (.seq (.ops [⟨(some 164), .bin .eql (.tmp 9) (.const (.int .i64 8)), none⟩,
    ⟨(some 163), .mv (.tmp 164), none⟩])
  (.cond (.tmp 163) .skip (.seq (.ops [⟨(some 166), .bin .eql (.tmp 9) (.const (.int .i64 9)), none⟩,
    ⟨(some 165), .mv (.tmp 166), none⟩])
  (.cond (.tmp 165) (.seq (.ops [⟨(some 167), .off 2 (.tmp 1), none⟩,
    ⟨(some 168), .load1 (.tmp 167), none⟩,
    ⟨(some 169), .call n_belatedref3_reg [(.tmp 168)], none⟩,
    ⟨(some 5), .mv (.tmp 169), none⟩])
  (.seq (.ops [⟨(some 170), .off 2 (.tmp 4), none⟩,
    ⟨none, .store1 (.tmp 170) (.const (.int .i64 (-1))), none⟩])
  (.seq (.ops [⟨(some 171), .off 16 (.tmp 4), none⟩,
    ⟨none, .store1 (.tmp 171) (.const (.bool false)), none⟩])
  (.ops [⟨(some 172), .off 15 (.tmp 4), none⟩,
    ⟨none, .store1 (.tmp 172) (.const (.int .i64 0)), none⟩])))) (.ops [⟨(some 5), .mv (.const (.bool false)), none⟩])))))))))))))))))))))
 (.seq (.seq (.ops [⟨(some 173), .off 0 (.tmp 1), none⟩,
   ⟨(some 174), .load1 (.tmp 173), none⟩,
   ⟨(some 175), .bin .eql (.tmp 174) (.const (.int .i64 4)), none⟩,
   ⟨(some 176), .mv (.tmp 175), none⟩,
   ⟨(some 177), .off 0 (.tmp 1), (some (176, false))⟩,
   ⟨(some 178), .load1 (.tmp 177), (some (176, false))⟩,
   ⟨(some 179), .bin .eql (.tmp 178) (.const (.int .i64 5)), (some (176, false))⟩,
   ⟨(some 180), .pick (.tmp 176) (.const (.bool true)) (.tmp 179), none⟩,
   ⟨(some 181), .mv (.tmp 180), none⟩,
   ⟨(some 182), .off 0 (.tmp 1), (some (181, false))⟩,
   ⟨(some 183), .load1 (.tmp 182), (some (181, false))⟩,
   ⟨(some 184), .bin .eql (.tmp 183) (.const (.int .i64 6)), (some (181, false))⟩,
   ⟨(some 185), .pick (.tmp 181) (.const (.bool true)) (.tmp 184), none⟩])
 (.cond (.tmp 185) (.seq (.ops [⟨(some 186), .off 5 (.tmp 4), none⟩,
   ⟨none, .store1 (.tmp 186) (.const (.int .i64 0)), none⟩])
 (.seq (.ops [⟨(some 187), .off 6 (.tmp 4), none⟩,
   ⟨none, .store1 (.tmp 187) (.const (.int .i64 0)), none⟩])
 (.seq (.ops [⟨(some 188), .off 7 (.tmp 4), none⟩,
   ⟨none, .store1 (.tmp 188) (.const (.int .i64 (-1))), none⟩])
 (.ops [⟨(some 189), .off 8 (.tmp 4), none⟩,
   ⟨none, .store1 (.tmp 189) (.const (.int .i64 0)), none⟩])))) .skip))
 (.seq (.ops [⟨(some 190), .load 17 (.tmp 4), none⟩,
   ⟨(some 191), .mv (.tmp 5), none⟩,
   ⟨none, .store 17 (.tmp 2) (.tmp 190), none⟩,
   ⟨(some 3), .mv (.tmp 191), none⟩])
 .ret)))))))⟩
def c_bits_sized : AFunc := ⟨17, [.tmp 2],
 (.seq (.ops [⟨(some 2), .mv (.const (.bool false)), none⟩])
 (.seq (.ops [⟨(some 3), .mv (.tmp 0), none⟩,
   ⟨(some 4), .bin .eql (.tmp 3) (.const (.int .i64 1)), none⟩,
   ⟨(some 5), .mv (.tmp 4), none⟩,
   ⟨(some 6), .mv (.tmp 0), (some (5, false))⟩,
   ⟨(some 7), .bin .eql (.tmp 6) (.const (.int .i64 2)), (some (5, false))⟩,
   ⟨(some 8), .pick (.tmp 5) (.const (.bool true)) (.tmp 7), none⟩,
   ⟨(some 9), .mv (.tmp 8), none⟩,
   ⟨(some 10), .mv (.tmp 0), (some (9, false))⟩,
   ⟨(some 11), .bin .eql (.tmp 10) (.const (.int .i64 4)), (some (9, false))⟩,
   ⟨(some 12), .pick (.tmp 9) (.const (.bool true)) (.tmp 11), none⟩,
   ⟨(some 13), .mv (.tmp 12), none⟩,
   ⟨(some 14), .mv (.tmp 0), (some (13, false))⟩,
   ⟨(some 15), .bin .eql (.tmp 14) (.const (.int .i64 8)), (some (13, false))⟩,
   ⟨(some 16), .pick (.tmp 13) (.const (.bool true)) (.tmp 15), none⟩,
   ⟨(some 2), .mv (.tmp 16), none⟩])
 .ret))⟩
def c_bits_low : AFunc := ⟨14, [.tmp 4],
 (.seq (.ops [⟨(some 4), .mv (.const (.int .i64 0)), none⟩])
 (.seq (.seq (.ops [⟨(some 5), .mv (.tmp 1), none⟩,
   ⟨(some 6), .bin .eql (.tmp 5) (.const (.int .i64 8)), none⟩])
 (.cond (.tmp 6) (.seq (.ops [⟨(some 7), .mv (.tmp 0), none⟩,
   ⟨(some 4), .mv (.tmp 7), none⟩])
 .ret) .skip))
 (.seq (.ops [⟨(some 8), .mv (.tmp 0), none⟩,
   ⟨(some 9), .mv (.tmp 1), none⟩,
   ⟨(some 10), .bin .mul (.const (.int .i64 8)) (.tmp 9), none⟩,
   ⟨(some 11), .bin .shl (.const (.int .i64 1)) (.tmp 10), none⟩,
   ⟨(some 12), .bin .sub (.tmp 11) (.const (.int .i64 1)), none⟩,
   ⟨(some 13), .bin .and (.tmp 8) (.tmp 12), none⟩,
   ⟨(some 4), .mv (.tmp 13), none⟩])
 .ret)))⟩
def c_belatedref1_Alu : AFunc := ⟨33, [.tmp 6],
 (.seq (.ops [⟨(some 6), .mv (.const (.int .i64 0)), none⟩])
 (.seq (.seq (.ops [⟨(some 7), .mv (.tmp 0), none⟩])
 (.block 0 (.seq (.ops [⟨(some 9), .bin .eql (.tmp 7) (.const (.int .i64 1)), none⟩,
    ⟨(some 8), .mv (.tmp 9), none⟩])
  (.cond (.tmp 8) (.seq (.ops [⟨(some 10), .mv (.tmp 1), none⟩,
    ⟨(some 11), .mv (.tmp 2), none⟩,
    ⟨(some 12), .bin .add (.tmp 10) (.tmp 11), none⟩,
    ⟨(some 6), .mv (.tmp 12), none⟩])
  .ret) (.seq (.ops [⟨(some 14), .bin .eql (.tmp 7) (.const (.int .i64 2)), none⟩,
    ⟨(some 13), .mv (.tmp 14), none⟩])
  (.cond (.tmp 13) (.seq (.ops [⟨(some 15), .mv (.tmp 1), none⟩,
    ⟨(some 16), .mv (.tmp 2), none⟩,
    ⟨(some 17), .bin .sub (.tmp 15) (.tmp 16), none⟩,
    ⟨(some 6), .mv (.tmp 17), none⟩])
  .ret) (.seq (.ops [⟨(some 19), .bin .eql (.tmp 7) (.const (.int .i64 3)), none⟩,
    ⟨(some 18), .mv (.tmp 19), none⟩])
  (.cond (.tmp 18) (.seq (.ops [⟨(some 20), .mv (.tmp 1), none⟩,
    ⟨(some 21), .mv (.tmp 2), none⟩,
    ⟨(some 22), .bin .xor (.tmp 20) (.tmp 21), none⟩,
    ⟨(some 6), .mv (.tmp 22), none⟩])
  .ret) (.seq (.ops [⟨(some 24), .bin .eql (.tmp 7) (.const (.int .i64 4)), none⟩,
    ⟨(some 23), .mv (.tmp 24), none⟩])
  (.cond (.tmp 23) (.seq (.ops [⟨(some 25), .mv (.tmp 1), none⟩,
    ⟨(some 26), .mv (.tmp 2), none⟩,
    ⟨(some 27), .bin .and (.tmp 25) (.tmp 26), none⟩,
    ⟨(some 6), .mv (.tmp 27), none⟩])
  .ret) (.seq (.ops [⟨(some 29), .bin .eql (.tmp 7) (.const (.int .i64 5)), none⟩,
    ⟨(some 28), .mv (.tmp 29), none⟩])
  (.cond (.tmp 28) (.seq (.ops [⟨(some 30), .mv (.tmp 1), none⟩,
    ⟨(some 31), .mv (.tmp 2), none⟩,
    ⟨(some 32), .bin .or (.tmp 30) (.tmp 31), none⟩,
    ⟨(some 6), .mv (.tmp 32), none⟩])
  .ret) .skip))))))))))))
 (.seq (.ops [⟨(some 6), .mv (.const (.int .i64 0)), none⟩])
 .ret)))⟩
def c_belatedref3_Thread_Where : AFunc := ⟨11, [.cells 4 2],
 (.seq (.ops [⟨(some 3), .box 17 (.tmp 1), none⟩,
   ⟨(some 4), .alloc [(.int .i64 0), (.int .i64 0)], none⟩])
 (.seq (.ops [⟨(some 5), .load 17 (.tmp 3), none⟩,
   ⟨(some 6), .mv (.tmp 0), none⟩,
   ⟨(some 7), .off 7 (.tmp 3), none⟩,
   ⟨(some 8), .load1 (.tmp 7), none⟩,
   ⟨(some 9), .call n_belatedref3_Thread_get [(.tmp 6), (.tmp 8)], none⟩,
   ⟨none, .again 17 (.tmp 3) 5, none⟩,
   ⟨(some 10), .call n_belatedref3_Span [(.tmp 5), (.tmp 9)], none⟩,
   ⟨none, .store 2 (.tmp 4) (.tmp 10), none⟩])
 .ret))⟩
def c_belatedref1_Get : AFunc := ⟨29, [.tmp 6],
 (.seq (.ops [⟨(some 6), .mv (.const (.int .i64 0)), none⟩])
 (.seq (.seq (.ops [⟨(some 9), .mv (.tmp 1), none⟩,
   ⟨(some 10), .mv (.tmp 2), none⟩,
   ⟨(some 11), .call n_belatedref1_Mask [(.tmp 9), (.tmp 10)], none⟩,
   ⟨(some 12), .bin .eql (.tmp 11) (.const (.int .i64 0)), none⟩])
 (.cond (.tmp 12) (.seq (.ops [⟨(some 6), .mv (.const (.int .i64 0)), none⟩])
 .ret) .skip))
 (.seq (.ops [⟨(some 7), .mv (.const (.int .i64 0)), none⟩])
 (.seq (.seq (.ops [⟨(some 8), .mv (.const (.int .i64 0)), none⟩])
 (.block 0 (.loop (.seq (.seq (.ops [⟨(some 13), .mv (.tmp 8), none⟩,
     ⟨(some 14), .mv (.tmp 2), none⟩,
     ⟨(some 15), .bin .lss (.tmp 13) (.tmp 14), none⟩])
   (.cond (.tmp 15) .skip (.exit 0)))
   (.seq (.block 1 (.ops [⟨(some 18), .mv (.tmp 7), none⟩,
      ⟨(some 19), .mv (.tmp 0), none⟩,
      ⟨(some 20), .mv (.tmp 1), none⟩,
      ⟨(some 21), .mv (.tmp 8), none⟩,
      ⟨(some 22), .bin .add (.tmp 20) (.tmp 21), none⟩,
      ⟨(some 23), .call n_belatedref1_Byte [(.tmp 19), (.tmp 22)], none⟩,
      ⟨(some 24), .mv (.tmp 8), none⟩,
      ⟨(some 25), .bin .mul (.const (.int .i64 8)) (.tmp 24), none⟩,
      ⟨(some 26), .bin .shl (.tmp 23) (.tmp 25), none⟩,
      ⟨(some 27), .bin .or (.tmp 18) (.tmp 26), none⟩,
      ⟨(some 7), .mv (.tmp 27), none⟩]))
   (.ops [⟨(some 16), .mv (.tmp 8), none⟩,
     ⟨(some 17), .bin .add (.tmp 16) (.const (.int .i64 1)), none⟩,
     ⟨(some 8), .mv (.tmp 17), none⟩]))))))
 (.seq (.ops [⟨(some 28), .mv (.tmp 7), none⟩,
   ⟨(some 6), .mv (.tmp 28), none⟩])
 .ret)))))⟩
def c_belatedref3_Thread_Datum : AFunc := ⟨19, [.tmp 4],
 (.seq (.ops [⟨(some 3), .box 17 (.tmp 1), none⟩,
   ⟨(some 4), .mv (.const (.int .i64 0)), none⟩])
 (.seq (.seq (.ops [⟨(some 5), .off 0 (.tmp 3), none⟩,
   ⟨(some 6), .load1 (.tmp 5), none⟩,
   ⟨(some 7), .bin .eql (.tmp 6) (.const (.int .i64 5)), none⟩,
   ⟨(some 8), .mv (.tmp 7), none⟩,
   ⟨(some 9), .off 2 (.tmp 3), (some (8, true))⟩,
   ⟨(some 10), .load1 (.tmp 9), (some (8, true))⟩,
   ⟨(some 11), .bin .lss (.tmp 10) (.const (.int .i64 0)), (some (8, true))⟩,
   ⟨(some 12), .pick (.tmp 8) (.tmp 11) (.const (.bool false)), none⟩])
 (.cond (.tmp 12) (.seq (.ops [⟨(some 13), .off 4 (.tmp 3), none⟩,
   ⟨(some 14), .load1 (.tmp 13), none⟩,
   ⟨(some 4), .mv (.tmp 14), none⟩])
 .ret) .skip))
 (.seq (.ops [⟨(some 15), .mv (.tmp 0), none⟩,
   ⟨(some 16), .off 2 (.tmp 3), none⟩,
   ⟨(some 17), .load1 (.tmp 16), none⟩,
   ⟨(some 18), .call n_belatedref3_Thread_get [(.tmp 15), (.tmp 17)], none⟩,
   ⟨(some 4), .mv (.tmp 18), none⟩])
 .ret)))⟩
def c_belatedref1_Rmw : AFunc := ⟨22, [.tmp 8],
 (.seq (.ops [⟨(some 8), .mv (.const (.int .i64 0)), none⟩])
 (.seq (.seq (.ops [⟨(some 9), .mv (.tmp 0), none⟩])
 (.block 0 (.seq (.ops [⟨(some 11), .bin .eql (.tmp 9) (.const (.int .i64 6)), none⟩,
    ⟨(some 10), .mv (.tmp 11), none⟩])
  (.cond (.tmp 10) (.seq (.ops [⟨(some 12), .mv (.tmp 2), none⟩,
    ⟨(some 13), .mv (.tmp 3), none⟩,
    ⟨(some 14), .call n_belatedref1_Get [(.tmp 12), (.const (.int .i64 0)), (.tmp 13)], none⟩,
    ⟨(some 8), .mv (.tmp 14), none⟩])
  .ret) (.seq (.ops [⟨(some 16), .bin .eql (.tmp 9) (.const (.int .i64 1)), none⟩,
    ⟨(some 15), .mv (.tmp 16), none⟩])
  (.cond (.tmp 15) (.seq (.ops [⟨(some 17), .mv (.tmp 1), none⟩,
    ⟨(some 18), .mv (.tmp 2), none⟩,
    ⟨(some 19), .bin .add (.tmp 17) (.tmp 18), none⟩,
    ⟨(some 20), .mv (.tmp 3), none⟩,
    ⟨(some 21), .call n_belatedref1_Get [(.tmp 19), (.const (.int .i64 0)), (.tmp 20)], none⟩,
    ⟨(some 8), .mv (.tmp 21), none⟩])
  .ret) .skip))))))
 (.seq (.ops [⟨(some 8), .mv (.const (.int .i64 0)), none⟩])
 .ret)))⟩
def c_uir_register : AFunc := ⟨9, [.tmp 2],
 (.seq (.ops [⟨(some 2), .mv (.const (.bool false)), none⟩])
 (.seq (.ops [⟨(some 3), .mv (.tmp 0), none⟩,
   ⟨(some 4), .bin .geq (.tmp 3) (.const (.int .i64 0)), none⟩,
   ⟨(some 5), .mv (.tmp 4), none⟩,
   ⟨(some 6), .mv (.tmp 0), (some (5, true))⟩,
   ⟨(some 7), .bin .lss (.tmp 6) (.const (.int .i64 8)), (some (5, true))⟩,
   ⟨(some 8), .pick (.tmp 5) (.tmp 7) (.const (.bool false)), none⟩,
   ⟨(some 2), .mv (.tmp 8), none⟩])
 .ret))⟩
def c_uir_access : AFunc := ⟨29, [.tmp 2],
 (.seq (.ops [⟨(some 1), .box 17 (.tmp 0), none⟩,
   ⟨(some 2), .mv (.const (.bool false)), none⟩])
 (.seq (.ops [⟨(some 3), .off 5 (.tmp 1), none⟩,
   ⟨(some 4), .load1 (.tmp 3), none⟩,
   ⟨(some 5), .bin .geq (.tmp 4) (.const (.int .i64 0)), none⟩,
   ⟨(some 6), .mv (.tmp 5), none⟩,
   ⟨(some 7), .off 5 (.tmp 1), (some (6, true))⟩,
   ⟨(some 8), .load1 (.tmp 7), (some (6, true))⟩,
   ⟨(some 9), .bin .lss (.tmp 8) (.const (.int .i64 3)), (some (6, true))⟩,
   ⟨(some 10), .pick (.tmp 6) (.tmp 9) (.const (.bool false)), none⟩,
   ⟨(some 11), .mv (.tmp 10), none⟩,
   ⟨(some 12), .off 6 (.tmp 1), (some (11, true))⟩,
   ⟨(some 13), .load1 (.tmp 12), (some (11, true))⟩,
   ⟨(some 14), .off 8 (.tmp 1), (some (11, true))⟩,
   ⟨(some 15), .load1 (.tmp 14), (some (11, true))⟩,
   ⟨(some 16), .call n_bits_Mask [(.tmp 13), (.tmp 15)], (some (11, true))⟩,
   ⟨(some 17), .bin .neq (.tmp 16) (.const (.int .i64 0)), (some (11, true))⟩,
   ⟨(some 18), .pick (.tmp 11) (.tmp 17) (.const (.bool false)), none⟩,
   ⟨(some 19), .mv (.tmp 18), none⟩,
   ⟨(some 20), .off 7 (.tmp 1), (some (19, true))⟩,
   ⟨(some 21), .load1 (.tmp 20), (some (19, true))⟩,
   ⟨(some 22), .bin .eql (.tmp 21) (.const (.int .i64 (-1))), (some (19, true))⟩,
   ⟨(some 23), .mv (.tmp 22), (some (19, true))⟩,
   ⟨(some 24), .off 7 (.tmp 1), (some (23, false))⟩,
   ⟨(some 25), .load1 (.tmp 24), (some (23, false))⟩,
   ⟨(some 26), .call n_uir_register [(.tmp 25)], (some (23, false))⟩,
   ⟨(some 27), .pick (.tmp 23) (.const (.bool true)) (.tmp 26), (some (19, true))⟩,
   ⟨(some 28), .pick (.tmp 19) (.tmp 27) (.const (.bool false)), none⟩,
   ⟨(some 2), .mv (.tmp 28), none⟩])
 .ret))⟩
def c_uir_fence : AFunc := ⟨9, [.tmp 2],
 (.seq (.ops [⟨(some 2), .mv (.const (.bool false)), none⟩])
 (.seq (.ops [⟨(some 3), .mv (.tmp 0), none⟩,
   ⟨(some 4), .bin .geq (.tmp 3) (.const (.int .i64 1)), none⟩,
   ⟨(some 5), .mv (.tmp 4), none⟩,
   ⟨(some 6), .mv (.tmp 0), (some (5, true))⟩,
   ⟨(some 7), .bin .leq (.tmp 6) (.const (.int .i64 3)), (some (5, true))⟩,
   ⟨(some 8), .pick (.tmp 5) (.tmp 7) (.const (.bool false)), none⟩,
   ⟨(some 2), .mv (.tmp 8), none⟩])
 .ret))⟩
def c_belatedref3_reg : AFunc := ⟨9, [.tmp 2],
 (.seq (.ops [⟨(some 2), .mv (.const (.bool false)), none⟩])
 (.seq (.ops [⟨(some 3), .mv (.tmp 0), none⟩,
   ⟨(some 4), .bin .geq (.tmp 3) (.const (.int .i64 0)), none⟩,
   ⟨(some 5), .mv (.tmp 4), none⟩,
   ⟨(some 6), .mv (.tmp 0), (some (5, true))⟩,
   ⟨(some 7), .bin .lss (.tmp 6) (.const (.int .i64 8)), (some (5, true))⟩,
   ⟨(some 8), .pick (.tmp 5) (.tmp 7) (.const (.bool false)), none⟩,
   ⟨(some 2), .mv (.tmp 8), none⟩])
 .ret))⟩
def c_belatedref3_place : AFunc := ⟨29, [.tmp 2],
 (.seq (.ops [⟨(some 1), .box 17 (.tmp 0), none⟩,
   ⟨(some 2), .mv (.const (.bool false)), none⟩])
 (.seq (.ops [⟨(some 3), .off 5 (.tmp 1), none⟩,
   ⟨(some 4), .load1 (.tmp 3), none⟩,
   ⟨(some 5), .bin .geq (.tmp 4) (.const (.int .i64 0)), none⟩,
   ⟨(some 6), .mv (.tmp 5), none⟩,
   ⟨(some 7), .off 5 (.tmp 1), (some (6, true))⟩,
   ⟨(some 8), .load1 (.tmp 7), (some (6, true))⟩,
   ⟨(some 9), .bin .lss (.tmp 8) (.const (.int .i64 3)), (some (6, true))⟩,
   ⟨(some 10), .pick (.tmp 6) (.tmp 9) (.const (.bool false)), none⟩,
   ⟨(some 11), .mv (.tmp 10), none⟩,
   ⟨(some 12), .off 6 (.tmp 1), (some (11, true))⟩,
   ⟨(some 13), .load1 (.tmp 12), (some (11, true))⟩,
   ⟨(some 14), .off 8 (.tmp 1), (some (11, true))⟩,
   ⟨(some 15), .load1 (.tmp 14), (some (11, true))⟩,
   ⟨(some 16), .call n_belatedref1_Mask [(.tmp 13), (.tmp 15)], (some (11, true))⟩,
   ⟨(some 17), .bin .neq (.tmp 16) (.const (.int .i64 0)), (some (11, true))⟩,
   ⟨(some 18), .pick (.tmp 11) (.tmp 17) (.const (.bool false)), none⟩,
   ⟨(some 19), .mv (.tmp 18), none⟩,
   ⟨(some 20), .off 7 (.tmp 1), (some (19, true))⟩,
   ⟨(some 21), .load1 (.tmp 20), (some (19, true))⟩,
   ⟨(some 22), .bin .eql (.tmp 21) (.const (.int .i64 (-1))), (some (19, true))⟩,
   ⟨(some 23), .mv (.tmp 22), (some (19, true))⟩,
   ⟨(some 24), .off 7 (.tmp 1), (some (23, false))⟩,
   ⟨(some 25), .load1 (.tmp 24), (some (23, false))⟩,
   ⟨(some 26), .call n_belatedref3_reg [(.tmp 25)], (some (23, false))⟩,
   ⟨(some 27), .pick (.tmp 23) (.const (.bool true)) (.tmp 26), (some (19, true))⟩,
   ⟨(some 28), .pick (.tmp 19) (.tmp 27) (.const (.bool false)), none⟩,
   ⟨(some 2), .mv (.tmp 28), none⟩])
 .ret))⟩
def c_belatedref3_Span : AFunc := ⟨17, [.cells 4 2],
 (.seq (.ops [⟨(some 2), .box 17 (.tmp 0), none⟩,
   ⟨(some 4), .alloc [(.int .i64 0), (.int .i64 0)], none⟩])
 (.seq (.ops [⟨(some 5), .off 5 (.tmp 2), none⟩,
   ⟨(some 6), .load1 (.tmp 5), none⟩,
   ⟨(some 7), .off 6 (.tmp 2), none⟩,
   ⟨(some 8), .load1 (.tmp 7), none⟩,
   ⟨(some 9), .mv (.tmp 1), none⟩,
   ⟨(some 10), .off 8 (.tmp 2), none⟩,
   ⟨(some 11), .load1 (.tmp 10), none⟩,
   ⟨(some 13), .off 8 (.tmp 2), none⟩,
   ⟨(some 14), .load1 (.tmp 13), none⟩,
   ⟨(some 12), .call n_belatedref1_Place [(.tmp 8), (.tmp 9), (.tmp 11)], none⟩,
   ⟨none, .again1 (.tmp 5) 6, none⟩,
   ⟨none, .again1 (.tmp 13) 14, none⟩,
   ⟨(some 15), .call n_belatedref1_Mask [(.tmp 12), (.tmp 14)], none⟩,
   ⟨none, .again1 (.tmp 5) 6, none⟩,
   ⟨(some 16), .build [(.int .i64 0), (.int .i64 0)] [(0, 1, (.tmp 6)), (1, 1, (.tmp 15))], none⟩,
   ⟨none, .store 2 (.tmp 4) (.tmp 16), none⟩])
 .ret))⟩
def c_belatedref3_Thread_get : AFunc := ⟨13, [.tmp 4],
 (.seq (.ops [⟨(some 4), .mv (.const (.int .i64 0)), none⟩])
 (.seq (.seq (.ops [⟨(some 5), .mv (.tmp 1), none⟩,
   ⟨(some 6), .bin .lss (.tmp 5) (.const (.int .i64 0)), none⟩])
 (.cond (.tmp 6) (.seq (.ops [⟨(some 4), .mv (.const (.int .i64 0)), none⟩])
 .ret) .skip))
 (.seq (.ops [⟨(some 7), .mv (.tmp 0), none⟩,
   ⟨(some 8), .mv (.tmp 1), none⟩,
   ⟨(some 9), .nilCheck (.tmp 7), none⟩,
   ⟨(some 10), .off 1 (.tmp 9), none⟩,
   ⟨(some 11), .atArr 8 1 (.tmp 10) (.tmp 8), none⟩,
   ⟨(some 12), .load1 (.tmp 11), none⟩,
   ⟨(some 4), .mv (.tmp 12), none⟩])
 .ret)))⟩
def c_belatedref1_Mask : AFunc := ⟨39, [.tmp 4],
 (.seq (.ops [⟨(some 4), .mv (.const (.int .i64 0)), none⟩])
 (.seq (.seq (.ops [⟨(some 7), .mv (.tmp 1), none⟩,
   ⟨(some 8), .call n_belatedref1_size [(.tmp 7)], none⟩,
   ⟨(some 9), .un .not (.tmp 8), none⟩,
   ⟨(some 10), .mv (.tmp 9), none⟩,
   ⟨(some 11), .mv (.tmp 0), (some (10, false))⟩,
   ⟨(some 12), .bin .lss (.tmp 11) (.const (.int .i64 0)), (some (10, false))⟩,
   ⟨(some 13), .pick (.tmp 10) (.const (.bool true)) (.tmp 12), none⟩,
   ⟨(some 14), .mv (.tmp 13), none⟩,
   ⟨(some 15), .mv (.tmp 0), (some (14, false))⟩,
   ⟨(some 16), .mv (.tmp 1), (some (14, false))⟩,
   ⟨(some 17), .bin .sub (.const (.int .i64 8)) (.tmp 16), (some (14, false))⟩,
   ⟨(some 18), .bin .gtr (.tmp 15) (.tmp 17), (some (14, false))⟩,
   ⟨(some 19), .pick (.tmp 14) (.const (.bool true)) (.tmp 18), none⟩,
   ⟨(some 20), .mv (.tmp 19), none⟩,
   ⟨(some 21), .mv (.tmp 0), (some (20, false))⟩,
   ⟨(some 22), .mv (.tmp 1), (some (20, false))⟩,
   ⟨(some 23), .bin .rem (.tmp 21) (.tmp 22), (some (20, false))⟩,
   ⟨(some 24), .bin .neq (.tmp 23) (.const (.int .i64 0)), (some (20, false))⟩,
   ⟨(some 25), .pick (.tmp 20) (.const (.bool true)) (.tmp 24), none⟩])
 (.cond (.tmp 25) (.seq (.ops [⟨(some 4), .mv (.const (.int .i64 0)), none⟩])
 .ret) .skip))
 (.seq (.ops [⟨(some 5), .mv (.const (.int .i64 0)), none⟩])
 (.seq (.seq (.ops [⟨(some 26), .mv (.tmp 0), none⟩,
   ⟨(some 6), .mv (.tmp 26), none⟩])
 (.block 0 (.loop (.seq (.seq (.ops [⟨(some 27), .mv (.tmp 6), none⟩,
     ⟨(some 28), .mv (.tmp 0), none⟩,
     ⟨(some 29), .mv (.tmp 1), none⟩,
     ⟨(some 30), .bin .add (.tmp 28) (.tmp 29), none⟩,
     ⟨(some 31), .bin .lss (.tmp 27) (.tmp 30), none⟩])
   (.cond (.tmp 31) .skip (.exit 0)))
   (.seq (.block 1 (.ops [⟨(some 34), .mv (.tmp 5), none⟩,
      ⟨(some 35), .mv (.tmp 6), none⟩,
      ⟨(some 36), .bin .shl (.const (.int .i64 1)) (.tmp 35), none⟩,
      ⟨(some 37), .bin .or (.tmp 34) (.tmp 36), none⟩,
      ⟨(some 5), .mv (.tmp 37), none⟩]))
   (.ops [⟨(some 32), .mv (.tmp 6), none⟩,
     ⟨(some 33), .bin .add (.tmp 32) (.const (.int .i64 1)), none⟩,
     ⟨(some 6), .mv (.tmp 33), none⟩]))))))
 (.seq (.ops [⟨(some 38), .mv (.tmp 5), none⟩,
   ⟨(some 4), .mv (.tmp 38), none⟩])
 .ret)))))⟩
def c_belatedref1_Byte : AFunc := ⟨10, [.tmp 4],
 (.seq (.ops [⟨(some 4), .mv (.const (.int .i64 0)), none⟩])
 (.seq (.ops [⟨(some 5), .mv (.tmp 0), none⟩,
   ⟨(some 6), .mv (.tmp 1), none⟩,
   ⟨(some 7), .bin .mul (.const (.int .i64 8)) (.tmp 6), none⟩,
   ⟨(some 8), .bin .shr (.tmp 5) (.tmp 7), none⟩,
   ⟨(some 9), .bin .and (.tmp 8) (.const (.int .i64 255)), none⟩,
   ⟨(some 4), .mv (.tmp 9), none⟩])
 .ret))⟩
def c_belatedref1_Place : AFunc := ⟨20, [.tmp 6],
 (.seq (.ops [⟨(some 6), .mv (.const (.int .i64 0)), none⟩])
 (.seq (.seq (.ops [⟨(some 8), .mv (.tmp 2), none⟩,
   ⟨(some 9), .call n_belatedref1_size [(.tmp 8)], none⟩,
   ⟨(some 10), .un .not (.tmp 9), none⟩])
 (.cond (.tmp 10) (.seq (.ops [⟨(some 6), .mv (.const (.int .i64 (-1))), none⟩])
 .ret) .skip))
 (.seq (.ops [⟨(some 11), .mv (.tmp 0), none⟩,
   ⟨(some 12), .mv (.tmp 1), none⟩,
   ⟨(some 13), .bin .add (.tmp 11) (.tmp 12), none⟩,
   ⟨(some 14), .bin .and (.tmp 13) (.const (.int .i64 7)), none⟩,
   ⟨(some 7), .mv (.tmp 14), none⟩])
 (.seq (.ops [⟨(some 15), .mv (.tmp 7), none⟩,
   ⟨(some 16), .mv (.tmp 7), none⟩,
   ⟨(some 17), .mv (.tmp 2), none⟩,
   ⟨(some 18), .bin .rem (.tmp 16) (.tmp 17), none⟩,
   ⟨(some 19), .bin .sub (.tmp 15) (.tmp 18), none⟩,
   ⟨(some 6), .mv (.tmp 19), none⟩])
 .ret))))⟩
def c_belatedref1_size : AFunc := ⟨17, [.tmp 2],
 (.seq (.ops [⟨(some 2), .mv (.const (.bool false)), none⟩])
 (.seq (.ops [⟨(some 3), .mv (.tmp 0), none⟩,
   ⟨(some 4), .bin .eql (.tmp 3) (.const (.int .i64 1)), none⟩,
   ⟨(some 5), .mv (.tmp 4), none⟩,
   ⟨(some 6), .mv (.tmp 0), (some (5, false))⟩,
   ⟨(some 7), .bin .eql (.tmp 6) (.const (.int .i64 2)), (some (5, false))⟩,
   ⟨(some 8), .pick (.tmp 5) (.const (.bool true)) (.tmp 7), none⟩,
   ⟨(some 9), .mv (.tmp 8), none⟩,
   ⟨(some 10), .mv (.tmp 0), (some (9, false))⟩,
   ⟨(some 11), .bin .eql (.tmp 10) (.const (.int .i64 4)), (some (9, false))⟩,
   ⟨(some 12), .pick (.tmp 9) (.const (.bool true)) (.tmp 11), none⟩,
   ⟨(some 13), .mv (.tmp 12), none⟩,
   ⟨(some 14), .mv (.tmp 0), (some (13, false))⟩,
   ⟨(some 15), .bin .eql (.tmp 14) (.const (.int .i64 8)), (some (13, false))⟩,
   ⟨(some 16), .pick (.tmp 13) (.const (.bool true)) (.tmp 15), none⟩,
   ⟨(some 2), .mv (.tmp 16), none⟩])
 .ret))⟩
/-- The orders laid down. -/
def ords : List (Nat × List (Nat × List Nat)) := [(3, [(22, [0, 1, 2, 3, 5, 6, 7, 8, 4, 9, 10, 11, 12, 13, 14, 15, 17, 18, 19, 20, 16, 21, 22, 23])]), (4, [(5, [0, 1, 3, 4, 5, 13, 2, 6, 7, 8, 9, 10, 11, 12, 14, 15, 16, 17])]), (5, [(5, [0, 1, 3, 4, 5, 13, 2, 6, 7, 8, 9, 10, 11, 12, 14, 15, 16, 17])]), (6, [(1, [0, 1, 2, 3, 4, 6, 7, 8, 5, 9, 10, 11, 12, 13, 15, 14, 16, 17, 18, 19, 20, 22, 21, 23, 24, 25, 26, 27, 29, 28, 30, 31, 32, 33, 34, 36, 35, 37, 38, 39, 40])]), (7, [(17, [0, 1, 3, 4, 5, 13, 2, 6, 7, 8, 9, 10, 11, 12, 14, 15, 16, 17]), (19, [0, 1, 3, 4, 5, 13, 2, 6, 7, 8, 9, 10, 11, 12, 14, 15, 16, 17])]), (15, [(8, [0, 1, 2, 3, 4, 5, 6, 7, 8, 9, 10, 11, 12, 13, 14, 15, 17, 20, 16, 18, 19, 21]), (12, [0, 1, 2, 3, 4, 5, 6, 8, 9, 11, 12, 7, 10, 13, 14, 15, 16]), (27, [0, 1, 2, 3, 4, 6, 7, 5, 8, 9, 10])]), (35, [(16, [0, 1, 2, 3, 4, 5, 6, 7, 8, 9, 10, 11, 12, 14, 15, 13, 16, 17])]), (36, [(2, [0, 1, 2, 3, 4, 5, 6, 7, 8, 9, 10, 11, 12, 13, 14, 15, 16, 17, 18, 19, 20, 21, 23, 26, 22, 24, 25, 27]), (8, [0, 1, 3, 4, 2, 5, 6, 7]), (10, [0, 1, 2, 3, 4, 5, 7, 8, 6, 9, 10, 11])]), (51, [(1, [0, 1, 2, 3, 4, 5, 6, 8, 9, 7, 10, 11, 12])])]
/-- How many of the package's variables may be looked at. -/
def GG : Nat := 0
/-- The program as the abstract machine reads it. -/
noncomputable def FF : Funcs := fun f => (Try.prog.funcs[f]?).bind (normFunc Try.prog GG ((ords.lookup f).getD []))
theorem F_belatedlaw3_UirChecks : FF n_belatedlaw3_UirChecks = some c_belatedlaw3_UirChecks := by kernel_rfl
theorem F_belatedlaw3_UirLocal : FF n_belatedlaw3_UirLocal = some c_belatedlaw3_UirLocal := by kernel_rfl
theorem F_belatedlaw3_UirSteps : FF n_belatedlaw3_UirSteps = some c_belatedlaw3_UirSteps := by kernel_rfl
theorem F_belatedlaw3_UirRight : FF n_belatedlaw3_UirRight = some c_belatedlaw3_UirRight := by kernel_rfl
theorem F_belatedlaw3_UirQuiet : FF n_belatedlaw3_UirQuiet = some c_belatedlaw3_UirQuiet := by kernel_rfl
theorem F_belatedlaw3_able : FF n_belatedlaw3_able = some c_belatedlaw3_able := by kernel_rfl
theorem F_uir_Check : FF n_uir_Check = some c_uir_Check := by kernel_rfl
theorem F_belatedref3_Check : FF n_belatedref3_Check = some c_belatedref3_Check := by kernel_rfl
theorem F_uir_Ops : FF n_uir_Ops = some c_uir_Ops := by kernel_rfl
theorem F_belatedref3_Ops : FF n_belatedref3_Ops = some c_belatedref3_Ops := by kernel_rfl
theorem F_uir_Branches : FF n_uir_Branches = some c_uir_Branches := by kernel_rfl
theorem F_belatedref3_Branches : FF n_belatedref3_Branches = some c_belatedref3_Branches := by kernel_rfl
theorem F_uir_Local : FF n_uir_Local = some c_uir_Local := by kernel_rfl
theorem F_belatedref3_Local : FF n_belatedref3_Local = some c_belatedref3_Local := by kernel_rfl
theorem F_belatedlaw3_ints : FF n_belatedlaw3_ints = some c_belatedlaw3_ints := by kernel_rfl
theorem F_uir_Reads : FF n_uir_Reads = some c_uir_Reads := by kernel_rfl
theorem F_uir_Writes : FF n_uir_Writes = some c_uir_Writes := by kernel_rfl
theorem F_uir_Right : FF n_uir_Right = some c_uir_Right := by kernel_rfl
theorem F_belatedref3_Right : FF n_belatedref3_Right = some c_belatedref3_Right := by kernel_rfl
theorem F_belatedref3_Reads : FF n_belatedref3_Reads = some c_belatedref3_Reads := by kernel_rfl
theorem F_belatedref3_Writes : FF n_belatedref3_Writes = some c_belatedref3_Writes := by kernel_rfl
theorem F_uir_Uses : FF n_uir_Uses = some c_uir_Uses := by kernel_rfl
theorem F_belatedref3_Uses : FF n_belatedref3_Uses = some c_belatedref3_Uses := by kernel_rfl
theorem F_uir_Gives : FF n_uir_Gives = some c_uir_Gives := by kernel_rfl
theorem F_belatedref3_Gives : FF n_belatedref3_Gives = some c_belatedref3_Gives := by kernel_rfl
theorem F_belatedref3_Memory : FF n_belatedref3_Memory = some c_belatedref3_Memory := by kernel_rfl
theorem F_uir_Local_1 : FF n_uir_Local_1 = some c_uir_Local_1 := by kernel_rfl
theorem F_bits_Mask : FF n_bits_Mask = some c_bits_Mask := by kernel_rfl
theorem F_bits_Place : FF n_bits_Place = some c_bits_Place := by kernel_rfl
theorem F_bits_Get : FF n_bits_Get = some c_bits_Get := by kernel_rfl
theorem F_bits_Alu : FF n_bits_Alu = some c_bits_Alu := by kernel_rfl
theorem F_bits_Rmw : FF n_bits_Rmw = some c_bits_Rmw := by kernel_rfl
theorem F_belatedref3_Thread_Plain : FF n_belatedref3_Thread_Plain = some c_belatedref3_Thread_Plain := by kernel_rfl
theorem F_belatedref3_Thread_Step : FF n_belatedref3_Thread_Step = some c_belatedref3_Thread_Step := by kernel_rfl
theorem F_uir_formed : FF n_uir_formed = some c_uir_formed := by kernel_rfl
theorem F_belatedref3_bare : FF n_belatedref3_bare = some c_belatedref3_bare := by kernel_rfl
theorem F_bits_sized : FF n_bits_sized = some c_bits_sized := by kernel_rfl
theorem F_bits_low : FF n_bits_low = some c_bits_low := by kernel_rfl
theorem F_belatedref1_Alu : FF n_belatedref1_Alu = some c_belatedref1_Alu := by kernel_rfl
theorem F_belatedref3_Thread_Where : FF n_belatedref3_Thread_Where = some c_belatedref3_Thread_Where := by kernel_rfl
theorem F_belatedref1_Get : FF n_belatedref1_Get = some c_belatedref1_Get := by kernel_rfl
theorem F_belatedref3_Thread_Datum : FF n_belatedref3_Thread_Datum = some c_belatedref3_Thread_Datum := by kernel_rfl
theorem F_belatedref1_Rmw : FF n_belatedref1_Rmw = some c_belatedref1_Rmw := by kernel_rfl
theorem F_uir_register : FF n_uir_register = some c_uir_register := by kernel_rfl
theorem F_uir_access : FF n_uir_access = some c_uir_access := by kernel_rfl
theorem F_uir_fence : FF n_uir_fence = some c_uir_fence := by kernel_rfl
theorem F_belatedref3_reg : FF n_belatedref3_reg = some c_belatedref3_reg := by kernel_rfl
theorem F_belatedref3_place : FF n_belatedref3_place = some c_belatedref3_place := by kernel_rfl
theorem F_belatedref3_Span : FF n_belatedref3_Span = some c_belatedref3_Span := by kernel_rfl
theorem F_belatedref3_Thread_get : FF n_belatedref3_Thread_get = some c_belatedref3_Thread_get := by kernel_rfl
theorem F_belatedref1_Mask : FF n_belatedref1_Mask = some c_belatedref1_Mask := by kernel_rfl
theorem F_belatedref1_Byte : FF n_belatedref1_Byte = some c_belatedref1_Byte := by kernel_rfl
theorem F_belatedref1_Place : FF n_belatedref1_Place = some c_belatedref1_Place := by kernel_rfl
theorem F_belatedref1_size : FF n_belatedref1_size = some c_belatedref1_size := by kernel_rfl
end Go.Proofs.Ytjodnadlplicmaa.AM
