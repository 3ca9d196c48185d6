/-
  The functions of the program as the abstract machine reads them, and that they are just that.
  Conditions: none.
-/
import Derived.Test.YtoeoahpngmhkdaaAb
import Derived.Test.YtoeoahpngmhkdaaProg
import Derived.KernelRfl
namespace Go.Proofs.Ytoeoahpngmhkdaa.AM
open Go.RowKit
def n_belatedlaw10_FlowPaths : FuncId := 3
def n_belatedlaw10_FlowCounts : FuncId := 4
def n_belatedlaw10_FlowHangs : FuncId := 5
def n_belatedlaw10_FlowValues : FuncId := 6
def n_belatedlaw10_FlowHolds : FuncId := 7
def n_belatedlaw10_FlowRuns : FuncId := 8
def n_belatedlaw10_able : FuncId := 9
def n_belatedlaw10_right : FuncId := 10
def n_flow_Paths : FuncId := 11
def n_belatedref10_Paths : FuncId := 12
def n_belatedlaw10_ints : FuncId := 13
def n_uir_Branches : FuncId := 14
def n_belatedlaw10_path : FuncId := 15
def n_flow_Addr : FuncId := 16
def n_belatedref10_Addr : FuncId := 17
def n_flow_Data : FuncId := 18
def n_belatedref10_Data : FuncId := 19
def n_flow_Ctrl : FuncId := 20
def n_belatedref10_Ctrl : FuncId := 21
def n_flow_Value : FuncId := 22
def n_belatedref10_Value : FuncId := 23
def n_flow_Def : FuncId := 24
def n_belatedref10_Def : FuncId := 25
def n_uir_Reads : FuncId := 26
def n_uir_Writes : FuncId := 27
def n_uir_Local : FuncId := 28
def n_uir_Check : FuncId := 29
def n_flow_Paths_1 : FuncId := 30
def n_slices_Clone_int_int : FuncId := 31
def n_belatedref10_from : FuncId := 32
def n_flow_ins : FuncId := 33
def n_uir_Ops : FuncId := 34
def n_flow_hangs : FuncId := 35
def n_belatedref3_Memory : FuncId := 36
def n_belatedref10_hangs : FuncId := 37
def n_belatedref3_Writes : FuncId := 38
def n_bits_Alu : FuncId := 39
def n_belatedref1_Alu : FuncId := 40
def n_uir_Gives : FuncId := 41
def n_belatedref3_Gives : FuncId := 42
def n_uir_Local_1 : FuncId := 43
def n_bits_Mask : FuncId := 44
def n_bits_Place : FuncId := 45
def n_bits_Get : FuncId := 46
def n_bits_Rmw : FuncId := 47
def n_uir_Right : FuncId := 48
def n_belatedref10_more : FuncId := 49
def n_bits_sized : FuncId := 50
def n_bits_low : FuncId := 51
def n_uir_formed : FuncId := 52
def n_uir_register : FuncId := 53
def n_uir_access : FuncId := 54
def n_uir_fence : FuncId := 55
def c_belatedlaw10_FlowPaths : AFunc := ⟨92, [.tmp 2],
 (.seq (.ops [⟨(some 2), .mv (.const (.bool false)), none⟩])
 (.seq (.seq (.ops [⟨(some 9), .call n_belatedlaw10_able [], none⟩,
   ⟨(some 10), .un .not (.tmp 9), none⟩])
 (.cond (.tmp 10) (.seq (.ops [⟨(some 2), .mv (.const (.bool false)), none⟩])
 .ret) .skip))
 (.seq (.seq (.ops [⟨(some 11), .mv (.tmp 0), none⟩,
   ⟨(some 12), .call n_belatedlaw10_right [(.tmp 11)], none⟩,
   ⟨(some 13), .un .not (.tmp 12), none⟩])
 (.cond (.tmp 13) (.seq (.ops [⟨(some 2), .mv (.const (.bool true)), none⟩])
 .ret) .skip))
 (.seq (.ops [⟨(some 14), .mkRow (List.replicate 10 (.int .i64 0) ++ List.replicate 3 (.bool false) ++ List.replicate 3 (.int .i64 0) ++ [(.bool false)]) 0 [], none⟩,
   ⟨(some 15), .mv (.tmp 0), none⟩,
   ⟨(some 16), .append 17 120 (.tmp 14) (.tmp 15), none⟩,
   ⟨(some 17), .call n_flow_Paths [(.tmp 16)], none⟩,
   ⟨(some 18), .mkRow (List.replicate 10 (.int .i64 0) ++ List.replicate 3 (.bool false) ++ List.replicate 3 (.int .i64 0) ++ [(.bool false)]) 0 [], none⟩,
   ⟨(some 19), .mv (.tmp 0), none⟩,
   ⟨(some 20), .append 17 120 (.tmp 18) (.tmp 19), none⟩,
   ⟨(some 21), .call n_flow_Paths [(.tmp 20)], none⟩,
   ⟨(some 3), .mv (.tmp 17), none⟩,
   ⟨(some 4), .mv (.tmp 21), none⟩])
 (.seq (.ops [⟨(some 22), .mv (.tmp 0), none⟩,
   ⟨(some 23), .call n_belatedref10_Paths [(.tmp 22)], none⟩,
   ⟨(some 5), .mv (.tmp 23), none⟩])
 (.seq (.seq (.ops [⟨(some 24), .mv (.tmp 3), none⟩,
   ⟨(some 25), .len (.tmp 24), none⟩,
   ⟨(some 26), .mv (.tmp 5), none⟩,
   ⟨(some 27), .len (.tmp 26), none⟩,
   ⟨(some 28), .bin .neq (.tmp 25) (.tmp 27), none⟩,
   ⟨(some 29), .mv (.tmp 28), none⟩,
   ⟨(some 30), .mv (.tmp 4), (some (29, false))⟩,
   ⟨(some 31), .len (.tmp 30), (some (29, false))⟩,
   ⟨(some 32), .mv (.tmp 5), (some (29, false))⟩,
   ⟨(some 33), .len (.tmp 32), (some (29, false))⟩,
   ⟨(some 34), .bin .neq (.tmp 31) (.tmp 33), (some (29, false))⟩,
   ⟨(some 35), .pick (.tmp 29) (.const (.bool true)) (.tmp 34), none⟩])
 (.cond (.tmp 35) (.seq (.ops [⟨(some 2), .mv (.const (.bool false)), none⟩])
 .ret) .skip))
 (.seq (.seq (.ops [⟨(some 6), .mv (.const (.int .i64 0)), none⟩])
 (.block 0 (.loop (.seq (.seq (.ops [⟨(some 36), .mv (.tmp 6), none⟩,
     ⟨(some 37), .mv (.tmp 3), none⟩,
     ⟨(some 38), .len (.tmp 37), none⟩,
     ⟨(some 39), .bin .lss (.tmp 36) (.tmp 38), none⟩])
   (.cond (.tmp 39) .skip (.exit 0)))
   (.seq (.block 1 (.seq (.seq (.ops [⟨(some 42), .mv (.tmp 3), none⟩,
      ⟨(some 43), .mv (.tmp 6), none⟩,
      ⟨(some 44), .atRow 1 (.tmp 42) (.tmp 43), none⟩,
      ⟨(some 45), .load1 (.tmp 44), none⟩,
      ⟨(some 46), .mv (.tmp 5), none⟩,
      ⟨(some 47), .mv (.tmp 6), none⟩,
      ⟨(some 48), .atRow 1 (.tmp 46) (.tmp 47), none⟩,
      ⟨(some 49), .load1 (.tmp 48), none⟩,
      ⟨(some 50), .call n_belatedlaw10_ints [(.tmp 45), (.tmp 49)], none⟩,
      ⟨(some 51), .un .not (.tmp 50), none⟩])
    (.cond (.tmp 51) (.seq (.ops [⟨(some 2), .mv (.const (.bool false)), none⟩])
    .ret) .skip))
    (.seq (.seq (.ops [⟨(some 7), .mv (.const (.int .i64 0)), none⟩])
    (.block 2 (.loop (.seq (.seq (.ops [⟨(some 52), .mv (.tmp 7), none⟩,
        ⟨(some 53), .mv (.tmp 3), none⟩,
        ⟨(some 54), .mv (.tmp 6), none⟩,
        ⟨(some 55), .atRow 1 (.tmp 53) (.tmp 54), none⟩,
        ⟨(some 56), .load1 (.tmp 55), none⟩,
        ⟨(some 57), .len (.tmp 56), none⟩,
        ⟨(some 58), .bin .lss (.tmp 52) (.tmp 57), none⟩])
      (.cond (.tmp 58) .skip (.exit 2)))
      (.seq (.block 3 (.ops [⟨(some 61), .mv (.tmp 3), none⟩,
         ⟨(some 62), .mv (.tmp 6), none⟩,
         ⟨(some 63), .atRow 1 (.tmp 61) (.tmp 62), none⟩,
         ⟨(some 64), .load1 (.tmp 63), none⟩,
         ⟨(some 65), .mv (.tmp 7), none⟩,
         ⟨(some 66), .atRow 1 (.tmp 64) (.tmp 65), none⟩,
         ⟨none, .store1 (.tmp 66) (.const (.int .i64 (-1))), none⟩]))
      (.ops [⟨(some 59), .mv (.tmp 7), none⟩,
        ⟨(some 60), .bin .add (.tmp 59) (.const (.int .i64 1)), none⟩,
        ⟨(some 7), .mv (.tmp 60), none⟩]))))))
    (.ops [⟨(some 67), .mv (.tmp 3), none⟩,
      ⟨(some 68), .mv (.tmp 6), none⟩,
      ⟨(some 69), .mv (.tmp 3), none⟩,
      ⟨(some 70), .mv (.tmp 6), none⟩,
      ⟨(some 71), .atRow 1 (.tmp 69) (.tmp 70), none⟩,
      ⟨(some 72), .load1 (.tmp 71), none⟩,
      ⟨(some 73), .mkRow [(.int .i64 0)] 1 [(0, 1, (.const (.int .i64 (-2))))], none⟩,
      ⟨(some 74), .append 1 8 (.tmp 72) (.tmp 73), none⟩,
      ⟨(some 75), .atRow 1 (.tmp 67) (.tmp 68), none⟩,
      ⟨none, .store1 (.tmp 75) (.tmp 74), none⟩]))))
   (.ops [⟨(some 40), .mv (.tmp 6), none⟩,
     ⟨(some 41), .bin .add (.tmp 40) (.const (.int .i64 1)), none⟩,
     ⟨(some 6), .mv (.tmp 41), none⟩]))))))
 (.seq (.seq (.ops [⟨(some 8), .mv (.const (.int .i64 0)), none⟩])
 (.block 4 (.loop (.seq (.seq (.ops [⟨(some 76), .mv (.tmp 8), none⟩,
     ⟨(some 77), .mv (.tmp 4), none⟩,
     ⟨(some 78), .len (.tmp 77), none⟩,
     ⟨(some 79), .bin .lss (.tmp 76) (.tmp 78), none⟩])
   (.cond (.tmp 79) .skip (.exit 4)))
   (.seq (.block 5 (.seq (.ops [⟨(some 82), .mv (.tmp 4), none⟩,
      ⟨(some 83), .mv (.tmp 8), none⟩,
      ⟨(some 84), .atRow 1 (.tmp 82) (.tmp 83), none⟩,
      ⟨(some 85), .load1 (.tmp 84), none⟩,
      ⟨(some 86), .mv (.tmp 5), none⟩,
      ⟨(some 87), .mv (.tmp 8), none⟩,
      ⟨(some 88), .atRow 1 (.tmp 86) (.tmp 87), none⟩,
      ⟨(some 89), .load1 (.tmp 88), none⟩,
      ⟨(some 90), .call n_belatedlaw10_ints [(.tmp 85), (.tmp 89)], none⟩,
      ⟨(some 91), .un .not (.tmp 90), none⟩])
    (.cond (.tmp 91) (.seq (.ops [⟨(some 2), .mv (.const (.bool false)), none⟩])
    .ret) .skip)))
   (.ops [⟨(some 80), .mv (.tmp 8), none⟩,
     ⟨(some 81), .bin .add (.tmp 80) (.const (.int .i64 1)), none⟩,
     ⟨(some 8), .mv (.tmp 81), none⟩]))))))
 (.seq (.ops [⟨(some 2), .mv (.const (.bool true)), none⟩])
 .ret)))))))))⟩
def c_belatedlaw10_FlowCounts : AFunc := ⟨180, [.tmp 2],
 (.seq (.ops [⟨(some 2), .mv (.const (.bool false)), none⟩])
 (.seq (.seq (.ops [⟨(some 10), .call n_belatedlaw10_able [], none⟩,
   ⟨(some 11), .un .not (.tmp 10), none⟩])
 (.cond (.tmp 11) (.seq (.ops [⟨(some 2), .mv (.const (.bool false)), none⟩])
 .ret) .skip))
 (.seq (.seq (.ops [⟨(some 12), .mv (.tmp 0), none⟩,
   ⟨(some 13), .call n_belatedlaw10_right [(.tmp 12)], none⟩,
   ⟨(some 14), .un .not (.tmp 13), none⟩])
 (.cond (.tmp 14) (.seq (.ops [⟨(some 2), .mv (.const (.bool true)), none⟩])
 .ret) .skip))
 (.seq (.ops [⟨(some 15), .mkRow (List.replicate 10 (.int .i64 0) ++ List.replicate 3 (.bool false) ++ List.replicate 3 (.int .i64 0) ++ [(.bool false)]) 0 [], none⟩,
   ⟨(some 16), .mv (.tmp 0), none⟩,
   ⟨(some 17), .append 17 120 (.tmp 15) (.tmp 16), none⟩,
   ⟨(some 18), .call n_flow_Paths [(.tmp 17)], none⟩,
   ⟨(some 3), .mv (.tmp 18), none⟩])
 (.seq (.seq (.ops [⟨(some 19), .mv (.tmp 3), none⟩,
   ⟨(some 20), .len (.tmp 19), none⟩,
   ⟨(some 21), .bin .lss (.tmp 20) (.const (.int .i64 1)), none⟩,
   ⟨(some 22), .mv (.tmp 21), none⟩,
   ⟨(some 23), .mv (.tmp 3), (some (22, false))⟩,
   ⟨(some 24), .len (.tmp 23), (some (22, false))⟩,
   ⟨(some 25), .mv (.tmp 0), (some (22, false))⟩,
   ⟨(some 26), .call n_uir_Branches [(.tmp 25)], (some (22, false))⟩,
   ⟨(some 27), .bin .shl (.const (.int .i64 1)) (.tmp 26), (some (22, false))⟩,
   ⟨(some 28), .bin .gtr (.tmp 24) (.tmp 27), (some (22, false))⟩,
   ⟨(some 29), .pick (.tmp 22) (.const (.bool true)) (.tmp 28), none⟩])
 (.cond (.tmp 29) (.seq (.ops [⟨(some 2), .mv (.const (.bool false)), none⟩])
 .ret) .skip))
 (.seq (.seq (.ops [⟨(some 4), .mv (.const (.int .i64 0)), none⟩])
 (.block 0 (.loop (.seq (.seq (.ops [⟨(some 30), .mv (.tmp 4), none⟩,
     ⟨(some 31), .mv (.tmp 3), none⟩,
     ⟨(some 32), .len (.tmp 31), none⟩,
     ⟨(some 33), .bin .lss (.tmp 30) (.tmp 32), none⟩])
   (.cond (.tmp 33) .skip (.exit 0)))
   (.seq (.block 1 (.seq (.ops [⟨(some 5), .mv (.const (.int .i64 0)), none⟩])
    (.seq (.seq (.ops [⟨(some 6), .mv (.const (.int .i64 0)), none⟩])
    (.block 2 (.loop (.seq (.seq (.ops [⟨(some 36), .mv (.tmp 6), none⟩,
        ⟨(some 37), .mv (.tmp 3), none⟩,
        ⟨(some 38), .mv (.tmp 4), none⟩,
        ⟨(some 39), .atRow 1 (.tmp 37) (.tmp 38), none⟩,
        ⟨(some 40), .load1 (.tmp 39), none⟩,
        ⟨(some 41), .len (.tmp 40), none⟩,
        ⟨(some 42), .bin .lss (.tmp 36) (.tmp 41), none⟩])
      (.cond (.tmp 42) .skip (.exit 2)))
      (.seq (.block 3 (.seq (.ops [⟨(some 45), .mv (.tmp 3), none⟩,
         ⟨(some 46), .mv (.tmp 4), none⟩,
         ⟨(some 47), .atRow 1 (.tmp 45) (.tmp 46), none⟩,
         ⟨(some 48), .load1 (.tmp 47), none⟩,
         ⟨(some 49), .mv (.tmp 6), none⟩,
         ⟨(some 50), .atRow 1 (.tmp 48) (.tmp 49), none⟩,
         ⟨(some 51), .load1 (.tmp 50), none⟩,
         ⟨(some 7), .mv (.tmp 51), none⟩])
       (.seq (.seq (.ops [⟨(some 52), .mv (.tmp 7), none⟩,
         ⟨(some 53), .bin .lss (.tmp 52) (.const (.int .i64 0)), none⟩,
         ⟨(some 54), .mv (.tmp 53), none⟩,
         ⟨(some 55), .mv (.tmp 7), (some (54, false))⟩,
         ⟨(some 56), .mv (.tmp 0), (some (54, false))⟩,
         ⟨(some 57), .len (.tmp 56), (some (54, false))⟩,
         ⟨(some 58), .bin .geq (.tmp 55) (.tmp 57), (some (54, false))⟩,
         ⟨(some 59), .pick (.tmp 54) (.const (.bool true)) (.tmp 58), none⟩,
         ⟨(some 60), .mv (.tmp 59), none⟩,
         ⟨(some 61), .mv (.tmp 6), (some (60, false))⟩,
         ⟨(some 62), .bin .eql (.tmp 61) (.const (.int .i64 0)), (some (60, false))⟩,
         ⟨(some 63), .mv (.tmp 62), (some (60, false))⟩,
         ⟨(some 64), .mv (.tmp 7), (some (63, true))⟩,
         ⟨(some 65), .bin .neq (.tmp 64) (.const (.int .i64 0)), (some (63, true))⟩,
         ⟨(some 66), .pick (.tmp 63) (.tmp 65) (.const (.bool false)), (some (60, false))⟩,
         ⟨(some 67), .pick (.tmp 60) (.const (.bool true)) (.tmp 66), none⟩,
         ⟨(some 68), .mv (.tmp 67), none⟩,
         ⟨(some 69), .mv (.tmp 6), (some (68, false))⟩,
         ⟨(some 70), .bin .gtr (.tmp 69) (.const (.int .i64 0)), (some (68, false))⟩,
         ⟨(some 71), .mv (.tmp 70), (some (68, false))⟩,
         ⟨(some 72), .mv (.tmp 7), (some (71, true))⟩,
         ⟨(some 73), .mv (.tmp 5), (some (71, true))⟩,
         ⟨(some 74), .bin .neq (.tmp 72) (.tmp 73), (some (71, true))⟩,
         ⟨(some 75), .pick (.tmp 71) (.tmp 74) (.const (.bool false)), (some (68, false))⟩,
         ⟨(some 76), .mv (.tmp 75), (some (68, false))⟩,
         ⟨(some 77), .mv (.tmp 0), (some (76, true))⟩,
         ⟨(some 78), .mv (.tmp 3), (some (76, true))⟩,
         ⟨(some 79), .mv (.tmp 4), (some (76, true))⟩,
         ⟨(some 80), .atRow 1 (.tmp 78) (.tmp 79), (some (76, true))⟩,
         ⟨(some 81), .load1 (.tmp 80), (some (76, true))⟩,
         ⟨(some 82), .mv (.tmp 6), (some (76, true))⟩,
         ⟨(some 83), .bin .sub (.tmp 82) (.const (.int .i64 1)), (some (76, true))⟩,
         ⟨(some 84), .atRow 1 (.tmp 81) (.tmp 83), (some (76, true))⟩,
         ⟨(some 85), .load1 (.tmp 84), (some (76, true))⟩,
         ⟨(some 86), .atRow 17 (.tmp 77) (.tmp 85), (some (76, true))⟩,
         ⟨(some 87), .off 0 (.tmp 86), (some (76, true))⟩,
         ⟨(some 88), .load1 (.tmp 87), (some (76, true))⟩,
         ⟨(some 89), .bin .eql (.tmp 88) (.const (.int .i64 9)), (some (76, true))⟩,
         ⟨(some 90), .mv (.tmp 89), (some (76, true))⟩,
         ⟨(some 91), .mv (.tmp 0), (some (90, true))⟩,
         ⟨(some 92), .mv (.tmp 3), (some (90, true))⟩,
         ⟨(some 93), .mv (.tmp 4), (some (90, true))⟩,
         ⟨(some 94), .atRow 1 (.tmp 92) (.tmp 93), (some (90, true))⟩,
         ⟨(some 95), .load1 (.tmp 94), (some (90, true))⟩,
         ⟨(some 96), .mv (.tmp 6), (some (90, true))⟩,
         ⟨(some 97), .bin .sub (.tmp 96) (.const (.int .i64 1)), (some (90, true))⟩,
         ⟨(some 98), .atRow 1 (.tmp 95) (.tmp 97), (some (90, true))⟩,
         ⟨(some 99), .load1 (.tmp 98), (some (90, true))⟩,
         ⟨(some 100), .atRow 17 (.tmp 91) (.tmp 99), (some (90, true))⟩,
         ⟨(some 101), .off 15 (.tmp 100), (some (90, true))⟩,
         ⟨(some 102), .load1 (.tmp 101), (some (90, true))⟩,
         ⟨(some 103), .mv (.tmp 7), (some (90, true))⟩,
         ⟨(some 104), .bin .eql (.tmp 102) (.tmp 103), (some (90, true))⟩,
         ⟨(some 105), .pick (.tmp 90) (.tmp 104) (.const (.bool false)), (some (76, true))⟩,
         ⟨(some 106), .un .not (.tmp 105), (some (76, true))⟩,
         ⟨(some 107), .pick (.tmp 76) (.tmp 106) (.const (.bool false)), (some (68, false))⟩,
         ⟨(some 108), .pick (.tmp 68) (.const (.bool true)) (.tmp 107), none⟩])
       (.cond (.tmp 108) (.seq (.ops [⟨(some 2), .mv (.const (.bool false)), none⟩])
       .ret) .skip))
       (.ops [⟨(some 109), .mv (.tmp 7), none⟩,
         ⟨(some 110), .bin .add (.tmp 109) (.const (.int .i64 1)), none⟩,
         ⟨(some 5), .mv (.tmp 110), none⟩]))))
      (.ops [⟨(some 43), .mv (.tmp 6), none⟩,
        ⟨(some 44), .bin .add (.tmp 43) (.const (.int .i64 1)), none⟩,
        ⟨(some 6), .mv (.tmp 44), none⟩]))))))
    (.seq (.ops [⟨(some 111), .mv (.tmp 3), none⟩,
      ⟨(some 112), .mv (.tmp 4), none⟩,
      ⟨(some 113), .atRow 1 (.tmp 111) (.tmp 112), none⟩,
      ⟨(some 114), .load1 (.tmp 113), none⟩,
      ⟨(some 115), .len (.tmp 114), none⟩,
      ⟨(some 8), .mv (.tmp 115), none⟩])
    (.seq (.seq (.ops [⟨(some 116), .mv (.tmp 8), none⟩,
      ⟨(some 117), .bin .eql (.tmp 116) (.const (.int .i64 0)), none⟩,
      ⟨(some 118), .mv (.tmp 117), none⟩,
      ⟨(some 119), .mv (.tmp 0), (some (118, true))⟩,
      ⟨(some 120), .len (.tmp 119), (some (118, true))⟩,
      ⟨(some 121), .bin .gtr (.tmp 120) (.const (.int .i64 0)), (some (118, true))⟩,
      ⟨(some 122), .pick (.tmp 118) (.tmp 121) (.const (.bool false)), none⟩,
      ⟨(some 123), .mv (.tmp 122), none⟩,
      ⟨(some 124), .mv (.tmp 8), (some (123, false))⟩,
      ⟨(some 125), .bin .gtr (.tmp 124) (.const (.int .i64 0)), (some (123, false))⟩,
      ⟨(some 126), .mv (.tmp 125), (some (123, false))⟩,
      ⟨(some 127), .mv (.tmp 5), (some (126, true))⟩,
      ⟨(some 128), .mv (.tmp 0), (some (126, true))⟩,
      ⟨(some 129), .len (.tmp 128), (some (126, true))⟩,
      ⟨(some 130), .bin .neq (.tmp 127) (.tmp 129), (some (126, true))⟩,
      ⟨(some 131), .pick (.tmp 126) (.tmp 130) (.const (.bool false)), (some (123, false))⟩,
      ⟨(some 132), .mv (.tmp 131), (some (123, false))⟩,
      ⟨(some 133), .mv (.tmp 0), (some (132, true))⟩,
      ⟨(some 134), .mv (.tmp 3), (some (132, true))⟩,
      ⟨(some 135), .mv (.tmp 4), (some (132, true))⟩,
      ⟨(some 136), .atRow 1 (.tmp 134) (.tmp 135), (some (132, true))⟩,
      ⟨(some 137), .load1 (.tmp 136), (some (132, true))⟩,
      ⟨(some 138), .mv (.tmp 8), (some (132, true))⟩,
      ⟨(some 139), .bin .sub (.tmp 138) (.const (.int .i64 1)), (some (132, true))⟩,
      ⟨(some 140), .atRow 1 (.tmp 137) (.tmp 139), (some (132, true))⟩,
      ⟨(some 141), .load1 (.tmp 140), (some (132, true))⟩,
      ⟨(some 142), .atRow 17 (.tmp 133) (.tmp 141), (some (132, true))⟩,
      ⟨(some 143), .off 0 (.tmp 142), (some (132, true))⟩,
      ⟨(some 144), .load1 (.tmp 143), (some (132, true))⟩,
      ⟨(some 145), .bin .eql (.tmp 144) (.const (.int .i64 9)), (some (132, true))⟩,
      ⟨(some 146), .mv (.tmp 145), (some (132, true))⟩,
      ⟨(some 147), .mv (.tmp 0), (some (146, true))⟩,
      ⟨(some 148), .mv (.tmp 3), (some (146, true))⟩,
      ⟨(some 149), .mv (.tmp 4), (some (146, true))⟩,
      ⟨(some 150), .atRow 1 (.tmp 148) (.tmp 149), (some (146, true))⟩,
      ⟨(some 151), .load1 (.tmp 150), (some (146, true))⟩,
      ⟨(some 152), .mv (.tmp 8), (some (146, true))⟩,
      ⟨(some 153), .bin .sub (.tmp 152) (.const (.int .i64 1)), (some (146, true))⟩,
      ⟨(some 154), .atRow 1 (.tmp 151) (.tmp 153), (some (146, true))⟩,
      ⟨(some 155), .load1 (.tmp 154), (some (146, true))⟩,
      ⟨(some 156), .atRow 17 (.tmp 147) (.tmp 155), (some (146, true))⟩,
      ⟨(some 157), .off 15 (.tmp 156), (some (146, true))⟩,
      ⟨(some 158), .load1 (.tmp 157), (some (146, true))⟩,
      ⟨(some 159), .mv (.tmp 0), (some (146, true))⟩,
      ⟨(some 160), .len (.tmp 159), (some (146, true))⟩,
      ⟨(some 161), .bin .eql (.tmp 158) (.tmp 160), (some (146, true))⟩,
      ⟨(some 162), .pick (.tmp 146) (.tmp 161) (.const (.bool false)), (some (132, true))⟩,
      ⟨(some 163), .un .not (.tmp 162), (some (132, true))⟩,
      ⟨(some 164), .pick (.tmp 132) (.tmp 163) (.const (.bool false)), (some (123, false))⟩,
      ⟨(some 165), .pick (.tmp 123) (.const (.bool true)) (.tmp 164), none⟩])
    (.cond (.tmp 165) (.seq (.ops [⟨(some 2), .mv (.const (.bool false)), none⟩])
    .ret) .skip))
    (.seq (.ops [⟨(some 9), .mv (.const (.int .i64 0)), none⟩])
    (.block 4 (.loop (.seq (.seq (.ops [⟨(some 166), .mv (.tmp 9), none⟩,
        ⟨(some 167), .mv (.tmp 4), none⟩,
        ⟨(some 168), .bin .lss (.tmp 166) (.tmp 167), none⟩])
      (.cond (.tmp 168) .skip (.exit 4)))
      (.seq (.block 5 (.seq (.ops [⟨(some 171), .mv (.tmp 3), none⟩,
         ⟨(some 172), .mv (.tmp 4), none⟩,
         ⟨(some 173), .atRow 1 (.tmp 171) (.tmp 172), none⟩,
         ⟨(some 174), .load1 (.tmp 173), none⟩,
         ⟨(some 175), .mv (.tmp 3), none⟩,
         ⟨(some 176), .mv (.tmp 9), none⟩,
         ⟨(some 177), .atRow 1 (.tmp 175) (.tmp 176), none⟩,
         ⟨(some 178), .load1 (.tmp 177), none⟩,
         ⟨(some 179), .call n_belatedlaw10_ints [(.tmp 174), (.tmp 178)], none⟩])
       (.cond (.tmp 179) (.seq (.ops [⟨(some 2), .mv (.const (.bool false)), none⟩])
       .ret) .skip)))
      (.ops [⟨(some 169), .mv (.tmp 9), none⟩,
        ⟨(some 170), .bin .add (.tmp 169) (.const (.int .i64 1)), none⟩,
        ⟨(some 9), .mv (.tmp 170), none⟩])))))))))))
   (.ops [⟨(some 34), .mv (.tmp 4), none⟩,
     ⟨(some 35), .bin .add (.tmp 34) (.const (.int .i64 1)), none⟩,
     ⟨(some 4), .mv (.tmp 35), none⟩]))))))
 (.seq (.ops [⟨(some 2), .mv (.const (.bool true)), none⟩])
 .ret)))))))⟩
def c_belatedlaw10_FlowHangs : AFunc := ⟨55, [.tmp 6],
 (.seq (.ops [⟨(some 6), .mv (.const (.bool false)), none⟩])
 (.seq (.seq (.ops [⟨(some 10), .call n_belatedlaw10_able [], none⟩,
   ⟨(some 11), .un .not (.tmp 10), none⟩])
 (.cond (.tmp 11) (.seq (.ops [⟨(some 6), .mv (.const (.bool false)), none⟩])
 .ret) .skip))
 (.seq (.seq (.ops [⟨(some 12), .mv (.tmp 0), none⟩,
   ⟨(some 13), .call n_belatedlaw10_right [(.tmp 12)], none⟩,
   ⟨(some 14), .un .not (.tmp 13), none⟩])
 (.cond (.tmp 14) (.seq (.ops [⟨(some 6), .mv (.const (.bool true)), none⟩])
 .ret) .skip))
 (.seq (.ops [⟨(some 15), .mv (.tmp 0), none⟩,
   ⟨(some 16), .mv (.tmp 1), none⟩,
   ⟨(some 17), .call n_belatedlaw10_path [(.tmp 15), (.tmp 16)], none⟩,
   ⟨(some 7), .mv (.tmp 17), none⟩])
 (.seq (.ops [⟨(some 18), .mkRow (List.replicate 10 (.int .i64 0) ++ List.replicate 3 (.bool false) ++ List.replicate 3 (.int .i64 0) ++ [(.bool false)]) 0 [], none⟩,
   ⟨(some 19), .mv (.tmp 0), none⟩,
   ⟨(some 20), .append 17 120 (.tmp 18) (.tmp 19), none⟩,
   ⟨(some 21), .mkRow [(.int .i64 0)] 0 [], none⟩,
   ⟨(some 22), .mv (.tmp 7), none⟩,
   ⟨(some 23), .append 1 8 (.tmp 21) (.tmp 22), none⟩,
   ⟨(some 8), .mv (.tmp 20), none⟩,
   ⟨(some 9), .mv (.tmp 23), none⟩])
 (.seq (.ops [⟨(some 24), .mv (.tmp 8), none⟩,
   ⟨(some 25), .mv (.tmp 9), none⟩,
   ⟨(some 26), .mv (.tmp 2), none⟩,
   ⟨(some 27), .call n_flow_Addr [(.tmp 24), (.tmp 25), (.tmp 26)], none⟩,
   ⟨(some 28), .mv (.tmp 0), none⟩,
   ⟨(some 29), .mv (.tmp 7), none⟩,
   ⟨(some 30), .mv (.tmp 2), none⟩,
   ⟨(some 31), .call n_belatedref10_Addr [(.tmp 28), (.tmp 29), (.tmp 30)], none⟩,
   ⟨(some 32), .bin .eql (.tmp 27) (.tmp 31), none⟩,
   ⟨(some 33), .mv (.tmp 32), none⟩,
   ⟨(some 34), .mv (.tmp 8), (some (33, true))⟩,
   ⟨(some 35), .mv (.tmp 9), (some (33, true))⟩,
   ⟨(some 36), .mv (.tmp 2), (some (33, true))⟩,
   ⟨(some 37), .call n_flow_Data [(.tmp 34), (.tmp 35), (.tmp 36)], (some (33, true))⟩,
   ⟨(some 38), .mv (.tmp 0), (some (33, true))⟩,
   ⟨(some 39), .mv (.tmp 7), (some (33, true))⟩,
   ⟨(some 40), .mv (.tmp 2), (some (33, true))⟩,
   ⟨(some 41), .call n_belatedref10_Data [(.tmp 38), (.tmp 39), (.tmp 40)], (some (33, true))⟩,
   ⟨(some 42), .bin .eql (.tmp 37) (.tmp 41), (some (33, true))⟩,
   ⟨(some 43), .pick (.tmp 33) (.tmp 42) (.const (.bool false)), none⟩,
   ⟨(some 44), .mv (.tmp 43), none⟩,
   ⟨(some 45), .mv (.tmp 8), (some (44, true))⟩,
   ⟨(some 46), .mv (.tmp 9), (some (44, true))⟩,
   ⟨(some 47), .mv (.tmp 2), (some (44, true))⟩,
   ⟨(some 48), .call n_flow_Ctrl [(.tmp 45), (.tmp 46), (.tmp 47)], (some (44, true))⟩,
   ⟨(some 49), .mv (.tmp 0), (some (44, true))⟩,
   ⟨(some 50), .mv (.tmp 7), (some (44, true))⟩,
   ⟨(some 51), .mv (.tmp 2), (some (44, true))⟩,
   ⟨(some 52), .call n_belatedref10_Ctrl [(.tmp 49), (.tmp 50), (.tmp 51)], (some (44, true))⟩,
   ⟨(some 53), .bin .eql (.tmp 48) (.tmp 52), (some (44, true))⟩,
   ⟨(some 54), .pick (.tmp 44) (.tmp 53) (.const (.bool false)), none⟩,
   ⟨(some 6), .mv (.tmp 54), none⟩])
 .ret))))))⟩
def c_belatedlaw10_FlowValues : AFunc := ⟨86, [.tmp 14],
 (.seq (.ops [⟨(some 9), .box 8 (.tmp 2), none⟩,
   ⟨(some 14), .mv (.const (.bool false)), none⟩])
 (.seq (.seq (.ops [⟨(some 20), .call n_belatedlaw10_able [], none⟩,
   ⟨(some 21), .un .not (.tmp 20), none⟩])
 (.cond (.tmp 21) (.seq (.ops [⟨(some 14), .mv (.const (.bool false)), none⟩])
 .ret) .skip))
 (.seq (.seq (.ops [⟨(some 22), .mv (.tmp 0), none⟩,
   ⟨(some 23), .call n_belatedlaw10_right [(.tmp 22)], none⟩,
   ⟨(some 24), .un .not (.tmp 23), none⟩,
   ⟨(some 25), .mv (.tmp 24), none⟩,
   ⟨(some 26), .mv (.tmp 5), (some (25, false))⟩,
   ⟨(some 27), .len (.tmp 26), (some (25, false))⟩,
   ⟨(some 28), .bin .gtr (.tmp 27) (.const (.int .i64 100)), (some (25, false))⟩,
   ⟨(some 29), .pick (.tmp 25) (.const (.bool true)) (.tmp 28), none⟩])
 (.cond (.tmp 29) (.seq (.ops [⟨(some 14), .mv (.const (.bool true)), none⟩])
 .ret) .skip))
 (.seq (.ops [⟨(some 30), .mv (.tmp 0), none⟩,
   ⟨(some 31), .mv (.tmp 1), none⟩,
   ⟨(some 32), .call n_belatedlaw10_path [(.tmp 30), (.tmp 31)], none⟩,
   ⟨(some 15), .mv (.tmp 32), none⟩])
 (.seq (.ops [⟨(some 34), .mkRow (List.replicate 10 (.int .i64 0) ++ List.replicate 3 (.bool false) ++ List.replicate 3 (.int .i64 0) ++ [(.bool false)]) 0 [], none⟩,
   ⟨(some 35), .mv (.tmp 0), none⟩,
   ⟨(some 37), .mkRow [(.int .i64 0)] 0 [], none⟩,
   ⟨(some 38), .mv (.tmp 15), none⟩,
   ⟨(some 40), .load 8 (.tmp 9), none⟩,
   ⟨(some 41), .mv (.tmp 3), none⟩,
   ⟨(some 42), .mv (.tmp 4), none⟩,
   ⟨(some 43), .mkRow [(.int .i64 0)] 0 [], none⟩,
   ⟨(some 44), .mv (.tmp 5), none⟩,
   ⟨(some 46), .mv (.tmp 6), none⟩,
   ⟨(some 36), .append 17 120 (.tmp 34) (.tmp 35), none⟩,
   ⟨none, .again 8 (.tmp 9) 40, none⟩,
   ⟨(some 39), .append 1 8 (.tmp 37) (.tmp 38), none⟩,
   ⟨none, .again 8 (.tmp 9) 40, none⟩,
   ⟨(some 45), .append 1 8 (.tmp 43) (.tmp 44), none⟩,
   ⟨none, .again 8 (.tmp 9) 40, none⟩,
   ⟨(some 47), .call n_flow_Value [(.tmp 36), (.tmp 39), (.tmp 40), (.tmp 41), (.tmp 42), (.tmp 45), (.tmp 46)], none⟩,
   ⟨(some 33), .mv (.tmp 47), none⟩,
   ⟨(some 48), .extract (.tmp 33) 0, none⟩,
   ⟨(some 49), .extract (.tmp 33) 1, none⟩,
   ⟨(some 16), .mv (.tmp 48), none⟩,
   ⟨(some 17), .mv (.tmp 49), none⟩])
 (.seq (.ops [⟨(some 51), .mv (.tmp 0), none⟩,
   ⟨(some 52), .mv (.tmp 15), none⟩,
   ⟨(some 53), .load 8 (.tmp 9), none⟩,
   ⟨(some 54), .mv (.tmp 3), none⟩,
   ⟨(some 55), .mv (.tmp 4), none⟩,
   ⟨(some 56), .mv (.tmp 5), none⟩,
   ⟨(some 57), .mv (.tmp 6), none⟩,
   ⟨(some 58), .call n_belatedref10_Value [(.tmp 51), (.tmp 52), (.tmp 53), (.tmp 54), (.tmp 55), (.tmp 56), (.tmp 57)], none⟩,
   ⟨(some 50), .mv (.tmp 58), none⟩,
   ⟨(some 59), .extract (.tmp 50) 0, none⟩,
   ⟨(some 60), .extract (.tmp 50) 1, none⟩,
   ⟨(some 18), .mv (.tmp 59), none⟩,
   ⟨(some 19), .mv (.tmp 60), none⟩])
 (.seq (.ops [⟨(some 61), .mv (.tmp 16), none⟩,
   ⟨(some 62), .mv (.tmp 18), none⟩,
   ⟨(some 63), .bin .eql (.tmp 61) (.tmp 62), none⟩,
   ⟨(some 64), .mv (.tmp 63), none⟩,
   ⟨(some 65), .mv (.tmp 17), (some (64, true))⟩,
   ⟨(some 66), .mv (.tmp 19), (some (64, true))⟩,
   ⟨(some 67), .eqv false .bool (.tmp 65) (.tmp 66), (some (64, true))⟩,
   ⟨(some 68), .pick (.tmp 64) (.tmp 67) (.const (.bool false)), none⟩,
   ⟨(some 69), .mv (.tmp 68), none⟩,
   ⟨(some 70), .mkRow (List.replicate 10 (.int .i64 0) ++ List.replicate 3 (.bool false) ++ List.replicate 3 (.int .i64 0) ++ [(.bool false)]) 0 [], (some (69, true))⟩,
   ⟨(some 71), .mv (.tmp 0), (some (69, true))⟩,
   ⟨(some 72), .append 17 120 (.tmp 70) (.tmp 71), (some (69, true))⟩,
   ⟨(some 73), .mkRow [(.int .i64 0)] 0 [], (some (69, true))⟩,
   ⟨(some 74), .mv (.tmp 15), (some (69, true))⟩,
   ⟨(some 75), .append 1 8 (.tmp 73) (.tmp 74), (some (69, true))⟩,
   ⟨(some 76), .mv (.tmp 3), (some (69, true))⟩,
   ⟨(some 77), .mv (.tmp 4), (some (69, true))⟩,
   ⟨(some 78), .call n_flow_Def [(.tmp 72), (.tmp 75), (.tmp 76), (.tmp 77)], (some (69, true))⟩,
   ⟨(some 79), .mv (.tmp 0), (some (69, true))⟩,
   ⟨(some 80), .mv (.tmp 15), (some (69, true))⟩,
   ⟨(some 81), .mv (.tmp 3), (some (69, true))⟩,
   ⟨(some 82), .mv (.tmp 4), (some (69, true))⟩,
   ⟨(some 83), .call n_belatedref10_Def [(.tmp 79), (.tmp 80), (.tmp 81), (.tmp 82)], (some (69, true))⟩,
   ⟨(some 84), .bin .eql (.tmp 78) (.tmp 83), (some (69, true))⟩,
   ⟨(some 85), .pick (.tmp 69) (.tmp 84) (.const (.bool false)), none⟩,
   ⟨(some 14), .mv (.tmp 85), none⟩])
 .ret)))))))⟩
def c_belatedlaw10_FlowHolds : AFunc := ⟨146, [.tmp 14],
 (.seq (.ops [⟨(some 9), .box 8 (.tmp 2), none⟩,
   ⟨(some 14), .mv (.const (.bool false)), none⟩])
 (.seq (.seq (.ops [⟨(some 24), .call n_belatedlaw10_able [], none⟩,
   ⟨(some 25), .un .not (.tmp 24), none⟩])
 (.cond (.tmp 25) (.seq (.ops [⟨(some 14), .mv (.const (.bool false)), none⟩])
 .ret) .skip))
 (.seq (.seq (.ops [⟨(some 26), .mv (.tmp 0), none⟩,
   ⟨(some 27), .call n_belatedlaw10_right [(.tmp 26)], none⟩,
   ⟨(some 28), .un .not (.tmp 27), none⟩,
   ⟨(some 29), .mv (.tmp 28), none⟩,
   ⟨(some 30), .mv (.tmp 4), (some (29, false))⟩,
   ⟨(some 31), .len (.tmp 30), (some (29, false))⟩,
   ⟨(some 32), .bin .lss (.tmp 31) (.const (.int .i64 8)), (some (29, false))⟩,
   ⟨(some 33), .pick (.tmp 29) (.const (.bool true)) (.tmp 32), none⟩,
   ⟨(some 34), .mv (.tmp 33), none⟩,
   ⟨(some 35), .mv (.tmp 4), (some (34, false))⟩,
   ⟨(some 36), .len (.tmp 35), (some (34, false))⟩,
   ⟨(some 37), .bin .gtr (.tmp 36) (.const (.int .i64 100)), (some (34, false))⟩,
   ⟨(some 38), .pick (.tmp 34) (.const (.bool true)) (.tmp 37), none⟩])
 (.cond (.tmp 38) (.seq (.ops [⟨(some 14), .mv (.const (.bool true)), none⟩])
 .ret) .skip))
 (.seq (.ops [⟨(some 39), .mv (.tmp 0), none⟩,
   ⟨(some 40), .mv (.tmp 1), none⟩,
   ⟨(some 41), .call n_belatedlaw10_path [(.tmp 39), (.tmp 40)], none⟩,
   ⟨(some 15), .mv (.tmp 41), none⟩])
 (.seq (.seq (.ops [⟨(some 42), .mv (.tmp 3), none⟩,
   ⟨(some 43), .bin .lss (.tmp 42) (.const (.int .i64 0)), none⟩,
   ⟨(some 44), .mv (.tmp 43), none⟩,
   ⟨(some 45), .mv (.tmp 3), (some (44, false))⟩,
   ⟨(some 46), .mv (.tmp 15), (some (44, false))⟩,
   ⟨(some 47), .len (.tmp 46), (some (44, false))⟩,
   ⟨(some 48), .bin .geq (.tmp 45) (.tmp 47), (some (44, false))⟩,
   ⟨(some 49), .pick (.tmp 44) (.const (.bool true)) (.tmp 48), none⟩,
   ⟨(some 50), .mv (.tmp 49), none⟩,
   ⟨(some 51), .mv (.tmp 0), (some (50, false))⟩,
   ⟨(some 52), .mv (.tmp 15), (some (50, false))⟩,
   ⟨(some 53), .mv (.tmp 3), (some (50, false))⟩,
   ⟨(some 54), .atRow 1 (.tmp 52) (.tmp 53), (some (50, false))⟩,
   ⟨(some 55), .load1 (.tmp 54), (some (50, false))⟩,
   ⟨(some 56), .atRow 17 (.tmp 51) (.tmp 55), (some (50, false))⟩,
   ⟨(some 57), .load 17 (.tmp 56), (some (50, false))⟩,
   ⟨(some 58), .call n_uir_Reads [(.tmp 57)], (some (50, false))⟩,
   ⟨(some 59), .un .not (.tmp 58), (some (50, false))⟩,
   ⟨(some 60), .mv (.tmp 59), (some (50, false))⟩,
   ⟨(some 61), .mv (.tmp 0), (some (60, true))⟩,
   ⟨(some 62), .mv (.tmp 15), (some (60, true))⟩,
   ⟨(some 63), .mv (.tmp 3), (some (60, true))⟩,
   ⟨(some 64), .atRow 1 (.tmp 62) (.tmp 63), (some (60, true))⟩,
   ⟨(some 65), .load1 (.tmp 64), (some (60, true))⟩,
   ⟨(some 66), .atRow 17 (.tmp 61) (.tmp 65), (some (60, true))⟩,
   ⟨(some 67), .load 17 (.tmp 66), (some (60, true))⟩,
   ⟨(some 68), .call n_uir_Writes [(.tmp 67)], (some (60, true))⟩,
   ⟨(some 69), .un .not (.tmp 68), (some (60, true))⟩,
   ⟨(some 70), .pick (.tmp 60) (.tmp 69) (.const (.bool false)), (some (50, false))⟩,
   ⟨(some 71), .pick (.tmp 50) (.const (.bool true)) (.tmp 70), none⟩])
 (.cond (.tmp 71) (.seq (.ops [⟨(some 72), .mv (.tmp 0), none⟩,
   ⟨(some 73), .mv (.tmp 15), none⟩,
   ⟨(some 74), .mv (.tmp 3), none⟩,
   ⟨(some 75), .call n_flow_Addr [(.tmp 72), (.tmp 73), (.tmp 74)], none⟩,
   ⟨(some 76), .bin .eql (.tmp 75) (.const (.int .i64 0)), none⟩,
   ⟨(some 77), .mv (.tmp 76), none⟩,
   ⟨(some 78), .mv (.tmp 0), (some (77, true))⟩,
   ⟨(some 79), .mv (.tmp 15), (some (77, true))⟩,
   ⟨(some 80), .mv (.tmp 3), (some (77, true))⟩,
   ⟨(some 81), .call n_flow_Data [(.tmp 78), (.tmp 79), (.tmp 80)], (some (77, true))⟩,
   ⟨(some 82), .bin .eql (.tmp 81) (.const (.int .i64 0)), (some (77, true))⟩,
   ⟨(some 83), .pick (.tmp 77) (.tmp 82) (.const (.bool false)), none⟩,
   ⟨(some 14), .mv (.tmp 83), none⟩])
 .ret) .skip))
 (.seq (.ops [⟨(some 84), .mv (.tmp 0), none⟩,
   ⟨(some 85), .mv (.tmp 15), none⟩,
   ⟨(some 86), .mv (.tmp 3), none⟩,
   ⟨(some 87), .atRow 1 (.tmp 85) (.tmp 86), none⟩,
   ⟨(some 88), .load1 (.tmp 87), none⟩,
   ⟨(some 89), .atRow 17 (.tmp 84) (.tmp 88), none⟩,
   ⟨(some 90), .load 17 (.tmp 89), none⟩,
   ⟨(some 16), .alloc (List.replicate 10 (.int .i64 0) ++ List.replicate 3 (.bool false) ++ List.replicate 3 (.int .i64 0) ++ [(.bool false)]), none⟩,
   ⟨none, .store 17 (.tmp 16) (.tmp 90), none⟩])
 (.seq (.ops [⟨(some 91), .mv (.tmp 0), none⟩,
   ⟨(some 92), .mv (.tmp 15), none⟩,
   ⟨(some 93), .mv (.tmp 3), none⟩,
   ⟨(some 94), .call n_flow_Addr [(.tmp 91), (.tmp 92), (.tmp 93)], none⟩,
   ⟨(some 17), .mv (.tmp 94), none⟩])
 (.seq (.ops [⟨(some 96), .mv (.tmp 0), none⟩,
   ⟨(some 97), .mv (.tmp 15), none⟩,
   ⟨(some 98), .load 8 (.tmp 9), none⟩,
   ⟨(some 99), .mv (.tmp 3), none⟩,
   ⟨(some 100), .off 7 (.tmp 16), none⟩,
   ⟨(some 101), .load1 (.tmp 100), none⟩,
   ⟨(some 102), .mv (.tmp 4), none⟩,
   ⟨(some 103), .mv (.tmp 5), none⟩,
   ⟨(some 104), .mv (.tmp 17), none⟩,
   ⟨(some 105), .bin .or (.tmp 103) (.tmp 104), none⟩,
   ⟨(some 106), .call n_flow_Value [(.tmp 96), (.tmp 97), (.tmp 98), (.tmp 99), (.tmp 101), (.tmp 102), (.tmp 105)], none⟩,
   ⟨(some 95), .mv (.tmp 106), none⟩,
   ⟨(some 107), .extract (.tmp 95) 0, none⟩,
   ⟨(some 108), .extract (.tmp 95) 1, none⟩,
   ⟨(some 18), .mv (.tmp 107), none⟩,
   ⟨(some 19), .mv (.tmp 108), none⟩])
 (.seq (.ops [⟨(some 109), .mkRow [(.int .i64 0)] 0 [], none⟩,
   ⟨(some 110), .mv (.tmp 4), none⟩,
   ⟨(some 111), .append 1 8 (.tmp 109) (.tmp 110), none⟩,
   ⟨(some 20), .mv (.tmp 111), none⟩])
 (.seq (.seq (.ops [⟨(some 21), .mv (.const (.int .i64 0)), none⟩])
 (.block 0 (.loop (.seq (.seq (.ops [⟨(some 112), .mv (.tmp 21), none⟩,
     ⟨(some 113), .bin .lss (.tmp 112) (.const (.int .i64 8)), none⟩])
   (.cond (.tmp 113) .skip (.exit 0)))
   (.seq (.block 1 (.seq (.ops [⟨(some 116), .mv (.tmp 17), none⟩,
      ⟨(some 117), .mv (.tmp 21), none⟩,
      ⟨(some 118), .bin .shr (.tmp 116) (.tmp 117), none⟩,
      ⟨(some 119), .bin .and (.tmp 118) (.const (.int .i64 1)), none⟩,
      ⟨(some 120), .bin .eql (.tmp 119) (.const (.int .i64 0)), none⟩])
    (.cond (.tmp 120) (.ops [⟨(some 121), .mv (.tmp 20), none⟩,
      ⟨(some 122), .mv (.tmp 21), none⟩,
      ⟨(some 123), .mv (.tmp 6), none⟩,
      ⟨(some 124), .atRow 1 (.tmp 121) (.tmp 122), none⟩,
      ⟨none, .store1 (.tmp 124) (.tmp 123), none⟩]) .skip)))
   (.ops [⟨(some 114), .mv (.tmp 21), none⟩,
     ⟨(some 115), .bin .add (.tmp 114) (.const (.int .i64 1)), none⟩,
     ⟨(some 21), .mv (.tmp 115), none⟩]))))))
 (.seq (.ops [⟨(some 126), .mv (.tmp 0), none⟩,
   ⟨(some 127), .mv (.tmp 15), none⟩,
   ⟨(some 128), .load 8 (.tmp 9), none⟩,
   ⟨(some 129), .mv (.tmp 3), none⟩,
   ⟨(some 130), .off 7 (.tmp 16), none⟩,
   ⟨(some 131), .load1 (.tmp 130), none⟩,
   ⟨(some 132), .mv (.tmp 20), none⟩,
   ⟨(some 133), .mv (.tmp 17), none⟩,
   ⟨(some 134), .call n_flow_Value [(.tmp 126), (.tmp 127), (.tmp 128), (.tmp 129), (.tmp 131), (.tmp 132), (.tmp 133)], none⟩,
   ⟨(some 125), .mv (.tmp 134), none⟩,
   ⟨(some 135), .extract (.tmp 125) 0, none⟩,
   ⟨(some 136), .extract (.tmp 125) 1, none⟩,
   ⟨(some 22), .mv (.tmp 135), none⟩,
   ⟨(some 23), .mv (.tmp 136), none⟩])
 (.seq (.ops [⟨(some 137), .mv (.tmp 19), none⟩,
   ⟨(some 138), .mv (.tmp 137), none⟩,
   ⟨(some 139), .mv (.tmp 23), (some (138, true))⟩,
   ⟨(some 140), .pick (.tmp 138) (.tmp 139) (.const (.bool false)), none⟩,
   ⟨(some 141), .mv (.tmp 140), none⟩,
   ⟨(some 142), .mv (.tmp 18), (some (141, true))⟩,
   ⟨(some 143), .mv (.tmp 22), (some (141, true))⟩,
   ⟨(some 144), .bin .eql (.tmp 142) (.tmp 143), (some (141, true))⟩,
   ⟨(some 145), .pick (.tmp 141) (.tmp 144) (.const (.bool false)), none⟩,
   ⟨(some 14), .mv (.tmp 145), none⟩])
 .ret))))))))))))⟩
def c_belatedlaw10_FlowRuns : AFunc := ⟨122, [.tmp 6],
 (.seq (.ops [⟨(some 4), .box 8 (.tmp 1), none⟩,
   ⟨(some 6), .mv (.const (.bool false)), none⟩])
 (.seq (.seq (.ops [⟨(some 20), .call n_belatedlaw10_able [], none⟩,
   ⟨(some 21), .un .not (.tmp 20), none⟩])
 (.cond (.tmp 21) (.seq (.ops [⟨(some 6), .mv (.const (.bool false)), none⟩])
 .ret) .skip))
 (.seq (.seq (.ops [⟨(some 22), .mv (.tmp 0), none⟩,
   ⟨(some 23), .call n_belatedlaw10_right [(.tmp 22)], none⟩,
   ⟨(some 24), .un .not (.tmp 23), none⟩,
   ⟨(some 25), .mv (.tmp 24), none⟩,
   ⟨(some 26), .mv (.tmp 2), (some (25, false))⟩,
   ⟨(some 27), .len (.tmp 26), (some (25, false))⟩,
   ⟨(some 28), .bin .gtr (.tmp 27) (.const (.int .i64 100)), (some (25, false))⟩,
   ⟨(some 29), .pick (.tmp 25) (.const (.bool true)) (.tmp 28), none⟩])
 (.cond (.tmp 29) (.seq (.ops [⟨(some 6), .mv (.const (.bool true)), none⟩])
 .ret) .skip))
 (.seq (.ops [⟨(some 31), .mkRow (List.replicate 10 (.int .i64 0) ++ List.replicate 3 (.bool false) ++ List.replicate 3 (.int .i64 0) ++ [(.bool false)]) 0 [], none⟩,
   ⟨(some 32), .mv (.tmp 0), none⟩,
   ⟨(some 34), .load 8 (.tmp 4), none⟩,
   ⟨(some 35), .mkRow [(.int .i64 0)] 0 [], none⟩,
   ⟨(some 36), .mv (.tmp 2), none⟩,
   ⟨(some 7), .alloc (List.replicate 8 (.int .i64 0)), none⟩,
   ⟨(some 33), .append 17 120 (.tmp 31) (.tmp 32), none⟩,
   ⟨none, .again 8 (.tmp 4) 34, none⟩,
   ⟨(some 37), .append 1 8 (.tmp 35) (.tmp 36), none⟩,
   ⟨none, .again 8 (.tmp 4) 34, none⟩,
   ⟨(some 38), .call n_uir_Local [(.tmp 33), (.tmp 34), (.tmp 37)], none⟩,
   ⟨(some 30), .mv (.tmp 38), none⟩,
   ⟨(some 39), .extract (.tmp 30) 0, none⟩,
   ⟨(some 40), .extract (.tmp 30) 1, none⟩,
   ⟨(some 41), .extract (.tmp 30) 2, none⟩,
   ⟨(some 42), .extract (.tmp 30) 3, none⟩,
   ⟨none, .store 8 (.tmp 7) (.tmp 39), none⟩,
   ⟨(some 8), .mv (.tmp 40), none⟩,
   ⟨(some 9), .mv (.tmp 41), none⟩,
   ⟨(some 10), .mv (.tmp 42), none⟩])
 (.seq (.seq (.ops [⟨(some 43), .mv (.tmp 10), none⟩,
   ⟨(some 44), .bin .neq (.tmp 43) (.const (.int .i64 0)), none⟩])
 (.cond (.tmp 44) (.seq (.ops [⟨(some 6), .mv (.const (.bool true)), none⟩])
 .ret) .skip))
 (.seq (.ops [⟨(some 11), .mv (.const (.bool false)), none⟩])
 (.seq (.ops [⟨(some 45), .mkRow (List.replicate 10 (.int .i64 0) ++ List.replicate 3 (.bool false) ++ List.replicate 3 (.int .i64 0) ++ [(.bool false)]) 0 [], none⟩,
   ⟨(some 46), .mv (.tmp 0), none⟩,
   ⟨(some 47), .append 17 120 (.tmp 45) (.tmp 46), none⟩,
   ⟨(some 48), .call n_flow_Paths [(.tmp 47)], none⟩,
   ⟨(some 12), .mv (.tmp 48), none⟩])
 (.seq (.seq (.ops [⟨(some 13), .mv (.const (.int .i64 0)), none⟩])
 (.block 0 (.loop (.seq (.seq (.ops [⟨(some 49), .mv (.tmp 13), none⟩,
     ⟨(some 50), .mv (.tmp 12), none⟩,
     ⟨(some 51), .len (.tmp 50), none⟩,
     ⟨(some 52), .bin .lss (.tmp 49) (.tmp 51), none⟩])
   (.cond (.tmp 52) .skip (.exit 0)))
   (.seq (.block 1 (.ops [⟨(some 55), .mv (.tmp 11), none⟩,
      ⟨(some 56), .mv (.tmp 55), none⟩,
      ⟨(some 57), .mv (.tmp 12), (some (56, false))⟩,
      ⟨(some 58), .mv (.tmp 13), (some (56, false))⟩,
      ⟨(some 59), .atRow 1 (.tmp 57) (.tmp 58), (some (56, false))⟩,
      ⟨(some 60), .load1 (.tmp 59), (some (56, false))⟩,
      ⟨(some 61), .mv (.tmp 9), (some (56, false))⟩,
      ⟨(some 62), .call n_belatedlaw10_ints [(.tmp 60), (.tmp 61)], (some (56, false))⟩,
      ⟨(some 63), .pick (.tmp 56) (.const (.bool true)) (.tmp 62), none⟩,
      ⟨(some 11), .mv (.tmp 63), none⟩]))
   (.ops [⟨(some 53), .mv (.tmp 13), none⟩,
     ⟨(some 54), .bin .add (.tmp 53) (.const (.int .i64 1)), none⟩,
     ⟨(some 13), .mv (.tmp 54), none⟩]))))))
 (.seq (.ops [⟨(some 64), .mkSlice 1 8 [(.int .i64 0)] (.const (.int .i64 8)), none⟩,
   ⟨(some 14), .mv (.tmp 64), none⟩,
   ⟨(some 15), .mv (.const (.int .i64 0)), none⟩])
 (.seq (.seq (.ops [⟨(some 16), .mv (.const (.int .i64 0)), none⟩])
 (.block 2 (.loop (.seq (.seq (.ops [⟨(some 65), .mv (.tmp 16), none⟩,
     ⟨(some 66), .mv (.tmp 8), none⟩,
     ⟨(some 67), .len (.tmp 66), none⟩,
     ⟨(some 68), .bin .lss (.tmp 65) (.tmp 67), none⟩])
   (.cond (.tmp 68) .skip (.exit 2)))
   (.seq (.block 3 (.seq (.ops [⟨(some 71), .mv (.tmp 8), none⟩,
      ⟨(some 72), .mv (.tmp 16), none⟩,
      ⟨(some 73), .atRow 15 (.tmp 71) (.tmp 72), none⟩,
      ⟨(some 74), .off 6 (.tmp 73), none⟩,
      ⟨(some 75), .load1 (.tmp 74), none⟩])
    (.cond (.tmp 75) (.seq (.ops [⟨(some 76), .mv (.tmp 14), none⟩,
      ⟨(some 77), .mv (.tmp 8), none⟩,
      ⟨(some 78), .mv (.tmp 16), none⟩,
      ⟨(some 79), .atRow 15 (.tmp 77) (.tmp 78), none⟩,
      ⟨(some 80), .off 1 (.tmp 79), none⟩,
      ⟨(some 81), .load1 (.tmp 80), none⟩,
      ⟨(some 82), .mv (.tmp 8), none⟩,
      ⟨(some 83), .mv (.tmp 16), none⟩,
      ⟨(some 84), .atRow 15 (.tmp 82) (.tmp 83), none⟩,
      ⟨(some 85), .off 8 (.tmp 84), none⟩,
      ⟨(some 86), .load1 (.tmp 85), none⟩,
      ⟨(some 87), .atRow 1 (.tmp 76) (.tmp 81), none⟩,
      ⟨none, .store1 (.tmp 87) (.tmp 86), none⟩])
    (.ops [⟨(some 88), .mv (.tmp 15), none⟩,
      ⟨(some 89), .mv (.tmp 8), none⟩,
      ⟨(some 90), .mv (.tmp 16), none⟩,
      ⟨(some 91), .atRow 15 (.tmp 89) (.tmp 90), none⟩,
      ⟨(some 92), .off 1 (.tmp 91), none⟩,
      ⟨(some 93), .load1 (.tmp 92), none⟩,
      ⟨(some 94), .bin .shl (.const (.int .i64 1)) (.tmp 93), none⟩,
      ⟨(some 95), .bin .or (.tmp 88) (.tmp 94), none⟩,
      ⟨(some 15), .mv (.tmp 95), none⟩])) .skip)))
   (.ops [⟨(some 69), .mv (.tmp 16), none⟩,
     ⟨(some 70), .bin .add (.tmp 69) (.const (.int .i64 1)), none⟩,
     ⟨(some 16), .mv (.tmp 70), none⟩]))))))
 (.seq (.seq (.ops [⟨(some 17), .mv (.const (.int .i64 0)), none⟩])
 (.block 4 (.loop (.seq (.seq (.ops [⟨(some 96), .mv (.tmp 17), none⟩,
     ⟨(some 97), .bin .lss (.tmp 96) (.const (.int .i64 8)), none⟩])
   (.cond (.tmp 97) .skip (.exit 4)))
   (.seq (.block 5 (.seq (.ops [⟨(some 101), .mv (.tmp 0), none⟩,
      ⟨(some 102), .mv (.tmp 9), none⟩,
      ⟨(some 103), .load 8 (.tmp 4), none⟩,
      ⟨(some 104), .mv (.tmp 9), none⟩,
      ⟨(some 105), .len (.tmp 104), none⟩,
      ⟨(some 106), .mv (.tmp 17), none⟩,
      ⟨(some 107), .mv (.tmp 14), none⟩,
      ⟨(some 108), .mv (.tmp 15), none⟩,
      ⟨(some 109), .call n_flow_Value [(.tmp 101), (.tmp 102), (.tmp 103), (.tmp 105), (.tmp 106), (.tmp 107), (.tmp 108)], none⟩,
      ⟨(some 100), .mv (.tmp 109), none⟩,
      ⟨(some 110), .extract (.tmp 100) 0, none⟩,
      ⟨(some 111), .extract (.tmp 100) 1, none⟩,
      ⟨(some 18), .mv (.tmp 110), none⟩,
      ⟨(some 19), .mv (.tmp 111), none⟩])
    (.seq (.ops [⟨(some 112), .mv (.tmp 19), none⟩,
      ⟨(some 113), .un .not (.tmp 112), none⟩,
      ⟨(some 114), .mv (.tmp 113), none⟩,
      ⟨(some 115), .mv (.tmp 18), (some (114, false))⟩,
      ⟨(some 116), .mv (.tmp 17), (some (114, false))⟩,
      ⟨(some 117), .atArr 8 1 (.tmp 7) (.tmp 116), (some (114, false))⟩,
      ⟨(some 118), .load1 (.tmp 117), (some (114, false))⟩,
      ⟨(some 119), .bin .neq (.tmp 115) (.tmp 118), (some (114, false))⟩,
      ⟨(some 120), .pick (.tmp 114) (.const (.bool true)) (.tmp 119), none⟩])
    (.cond (.tmp 120) (.seq (.ops [⟨(some 6), .mv (.const (.bool false)), none⟩])
    .ret) .skip))))
   (.ops [⟨(some 98), .mv (.tmp 17), none⟩,
     ⟨(some 99), .bin .add (.tmp 98) (.const (.int .i64 1)), none⟩,
     ⟨(some 17), .mv (.tmp 99), none⟩]))))))
 (.seq (.ops [⟨(some 121), .mv (.tmp 11), none⟩,
   ⟨(some 6), .mv (.tmp 121), none⟩])
 .ret))))))))))))⟩
def c_belatedlaw10_able : AFunc := ⟨50, [.tmp 0],
 (.seq (.ops [⟨(some 0), .mv (.const (.bool false)), none⟩])
 (.seq (.ops [⟨(some 3), .build (List.replicate 10 (.int .i64 0) ++ List.replicate 3 (.bool false) ++ List.replicate 3 (.int .i64 0) ++ [(.bool false)]) [(0, 1, (.const (.int .i64 4))), (1, 1, (.const (.int .i64 1))), (2, 1, (.const (.int .i64 (-1)))), (3, 1, (.const (.int .i64 (-1)))), (7, 1, (.const (.int .i64 (-1)))), (8, 1, (.const (.int .i64 8)))], none⟩,
   ⟨(some 4), .build (List.replicate 10 (.int .i64 0) ++ List.replicate 3 (.bool false) ++ List.replicate 3 (.int .i64 0) ++ [(.bool false)]) [(0, 1, (.const (.int .i64 9))), (1, 1, (.const (.int .i64 (-1)))), (2, 1, (.const (.int .i64 1))), (3, 1, (.const (.int .i64 (-1)))), (7, 1, (.const (.int .i64 (-1)))), (16, 1, (.const (.bool true))), (15, 1, (.const (.int .i64 3)))], none⟩,
   ⟨(some 5), .build (List.replicate 10 (.int .i64 0) ++ List.replicate 3 (.bool false) ++ List.replicate 3 (.int .i64 0) ++ [(.bool false)]) [(0, 1, (.const (.int .i64 5))), (1, 1, (.const (.int .i64 (-1)))), (2, 1, (.const (.int .i64 1))), (3, 1, (.const (.int .i64 (-1)))), (7, 1, (.const (.int .i64 (-1)))), (5, 1, (.const (.int .i64 1))), (8, 1, (.const (.int .i64 8)))], none⟩,
   ⟨(some 6), .mkRow (List.replicate 10 (.int .i64 0) ++ List.replicate 3 (.bool false) ++ List.replicate 3 (.int .i64 0) ++ [(.bool false)]) 3 [(0, 17, (.tmp 3)), (17, 17, (.tmp 4)), (34, 17, (.tmp 5))], none⟩,
   ⟨(some 1), .mv (.tmp 6), none⟩])
 (.seq (.ops [⟨(some 7), .mv (.tmp 1), none⟩,
   ⟨(some 8), .call n_flow_Paths [(.tmp 7)], none⟩,
   ⟨(some 2), .mv (.tmp 8), none⟩])
 (.seq (.ops [⟨(some 9), .mv (.tmp 2), none⟩,
   ⟨(some 10), .len (.tmp 9), none⟩,
   ⟨(some 11), .bin .eql (.tmp 10) (.const (.int .i64 2)), none⟩,
   ⟨(some 12), .mv (.tmp 11), none⟩,
   ⟨(some 13), .mv (.tmp 2), (some (12, true))⟩,
   ⟨(some 14), .atRow 1 (.tmp 13) (.const (.int .i64 0)), (some (12, true))⟩,
   ⟨(some 15), .load1 (.tmp 14), (some (12, true))⟩,
   ⟨(some 16), .len (.tmp 15), (some (12, true))⟩,
   ⟨(some 17), .bin .eql (.tmp 16) (.const (.int .i64 3)), (some (12, true))⟩,
   ⟨(some 18), .pick (.tmp 12) (.tmp 17) (.const (.bool false)), none⟩,
   ⟨(some 19), .mv (.tmp 18), none⟩,
   ⟨(some 20), .mv (.tmp 2), (some (19, true))⟩,
   ⟨(some 21), .atRow 1 (.tmp 20) (.const (.int .i64 1)), (some (19, true))⟩,
   ⟨(some 22), .load1 (.tmp 21), (some (19, true))⟩,
   ⟨(some 23), .len (.tmp 22), (some (19, true))⟩,
   ⟨(some 24), .bin .eql (.tmp 23) (.const (.int .i64 2)), (some (19, true))⟩,
   ⟨(some 25), .pick (.tmp 19) (.tmp 24) (.const (.bool false)), none⟩,
   ⟨(some 26), .mv (.tmp 25), none⟩,
   ⟨(some 27), .mv (.tmp 1), (some (26, true))⟩,
   ⟨(some 28), .mv (.tmp 2), (some (26, true))⟩,
   ⟨(some 29), .atRow 1 (.tmp 28) (.const (.int .i64 0)), (some (26, true))⟩,
   ⟨(some 30), .load1 (.tmp 29), (some (26, true))⟩,
   ⟨(some 31), .call n_flow_Data [(.tmp 27), (.tmp 30), (.const (.int .i64 2))], (some (26, true))⟩,
   ⟨(some 32), .bin .eql (.tmp 31) (.const (.int .i64 1)), (some (26, true))⟩,
   ⟨(some 33), .pick (.tmp 26) (.tmp 32) (.const (.bool false)), none⟩,
   ⟨(some 34), .mv (.tmp 33), none⟩,
   ⟨(some 35), .mv (.tmp 1), (some (34, true))⟩,
   ⟨(some 36), .mv (.tmp 2), (some (34, true))⟩,
   ⟨(some 37), .atRow 1 (.tmp 36) (.const (.int .i64 0)), (some (34, true))⟩,
   ⟨(some 38), .load1 (.tmp 37), (some (34, true))⟩,
   ⟨(some 39), .call n_flow_Ctrl [(.tmp 35), (.tmp 38), (.const (.int .i64 2))], (some (34, true))⟩,
   ⟨(some 40), .bin .eql (.tmp 39) (.const (.int .i64 1)), (some (34, true))⟩,
   ⟨(some 41), .pick (.tmp 34) (.tmp 40) (.const (.bool false)), none⟩,
   ⟨(some 42), .mv (.tmp 41), none⟩,
   ⟨(some 43), .mv (.tmp 1), (some (42, true))⟩,
   ⟨(some 44), .mv (.tmp 2), (some (42, true))⟩,
   ⟨(some 45), .atRow 1 (.tmp 44) (.const (.int .i64 0)), (some (42, true))⟩,
   ⟨(some 46), .load1 (.tmp 45), (some (42, true))⟩,
   ⟨(some 47), .call n_flow_Def [(.tmp 43), (.tmp 46), (.const (.int .i64 2)), (.const (.int .i64 1))], (some (42, true))⟩,
   ⟨(some 48), .bin .eql (.tmp 47) (.const (.int .i64 0)), (some (42, true))⟩,
   ⟨(some 49), .pick (.tmp 42) (.tmp 48) (.const (.bool false)), none⟩,
   ⟨(some 0), .mv (.tmp 49), none⟩])
 .ret))))⟩
def c_belatedlaw10_right : AFunc := ⟨17, [.tmp 2],
 (.seq (.ops [⟨(some 2), .mv (.const (.bool false)), none⟩])
 (.seq (.ops [⟨(some 7), .mkRow (List.replicate 10 (.int .i64 0) ++ List.replicate 3 (.bool false) ++ List.replicate 3 (.int .i64 0) ++ [(.bool false)]) 0 [], none⟩,
   ⟨(some 8), .mv (.tmp 0), none⟩,
   ⟨(some 9), .append 17 120 (.tmp 7) (.tmp 8), none⟩,
   ⟨(some 10), .mkRow [(.slice none 0 0)] 1 [(0, 1, (.tmp 9))], none⟩,
   ⟨(some 11), .call n_uir_Check [(.tmp 10)], none⟩,
   ⟨(some 6), .mv (.tmp 11), none⟩,
   ⟨(some 12), .extract (.tmp 6) 0, none⟩,
   ⟨(some 13), .extract (.tmp 6) 1, none⟩,
   ⟨(some 14), .extract (.tmp 6) 2, none⟩,
   ⟨(some 3), .mv (.tmp 12), none⟩,
   ⟨(some 4), .mv (.tmp 13), none⟩,
   ⟨(some 5), .mv (.tmp 14), none⟩])
 (.seq (.ops [⟨(some 15), .mv (.tmp 5), none⟩,
   ⟨(some 16), .bin .eql (.tmp 15) (.const (.int .i64 0)), none⟩,
   ⟨(some 2), .mv (.tmp 16), none⟩])
 .ret)))⟩
def c_flow_Paths : AFunc := ⟨21, [.tmp 2],
 (.seq (.ops [⟨(some 1), .box 1 (.tmp 0), none⟩,
   ⟨(some 2), .mv (.const (.slice none 0 0)), none⟩])
 (.seq (.seq (.ops [⟨(some 9), .load1 (.tmp 1), none⟩,
   ⟨(some 10), .mkRow [(.slice none 0 0)] 1 [(0, 1, (.tmp 9))], none⟩,
   ⟨(some 11), .call n_uir_Check [(.tmp 10)], none⟩,
   ⟨(some 8), .mv (.tmp 11), none⟩,
   ⟨(some 12), .extract (.tmp 8) 0, none⟩,
   ⟨(some 13), .extract (.tmp 8) 1, none⟩,
   ⟨(some 14), .extract (.tmp 8) 2, none⟩,
   ⟨(some 3), .mv (.tmp 12), none⟩,
   ⟨(some 4), .mv (.tmp 13), none⟩,
   ⟨(some 5), .mv (.tmp 14), none⟩])
 (.seq (.ops [⟨(some 15), .mv (.tmp 5), none⟩,
   ⟨(some 16), .bin .neq (.tmp 15) (.const (.int .i64 0)), none⟩])
 (.cond (.tmp 16) (.seq (.ops [⟨(some 2), .mv (.const (.slice none 0 0)), none⟩])
 .ret) .skip)))
 (.seq (.ops [⟨(some 6), .alloc [(.slice none 0 0)], none⟩])
 (.seq (.ops [⟨(some 7), .alloc [.nilFunc], none⟩])
 (.seq (.ops [⟨(some 17), .func n_flow_Paths_1 [] [(.tmp 1), (.tmp 6), (.tmp 7)], none⟩,
   ⟨none, .store1 (.tmp 7) (.tmp 17), none⟩])
 (.seq (.ops [⟨(some 18), .load1 (.tmp 7), none⟩,
   ⟨(some 19), .callv (.tmp 18) [(.const (.slice none 0 0)), (.const (.int .i64 0))], none⟩])
 (.seq (.ops [⟨(some 20), .load1 (.tmp 6), none⟩,
   ⟨(some 2), .mv (.tmp 20), none⟩])
 .ret)))))))⟩
def c_belatedref10_Paths : AFunc := ⟨5, [.tmp 2],
 (.seq (.ops [⟨(some 2), .mv (.const (.slice none 0 0)), none⟩])
 (.seq (.ops [⟨(some 3), .mv (.tmp 0), none⟩,
   ⟨(some 4), .call n_belatedref10_from [(.tmp 3), (.const (.int .i64 0))], none⟩,
   ⟨(some 2), .mv (.tmp 4), none⟩])
 .ret))⟩
def c_belatedlaw10_ints : AFunc := ⟨26, [.tmp 4],
 (.seq (.ops [⟨(some 4), .mv (.const (.bool false)), none⟩])
 (.seq (.seq (.ops [⟨(some 6), .mv (.tmp 0), none⟩,
   ⟨(some 7), .len (.tmp 6), none⟩,
   ⟨(some 8), .mv (.tmp 1), none⟩,
   ⟨(some 9), .len (.tmp 8), none⟩,
   ⟨(some 10), .bin .neq (.tmp 7) (.tmp 9), none⟩])
 (.cond (.tmp 10) (.seq (.ops [⟨(some 4), .mv (.const (.bool false)), none⟩])
 .ret) .skip))
 (.seq (.seq (.ops [⟨(some 5), .mv (.const (.int .i64 0)), none⟩])
 (.block 0 (.loop (.seq (.seq (.ops [⟨(some 11), .mv (.tmp 5), none⟩,
     ⟨(some 12), .mv (.tmp 0), none⟩,
     ⟨(some 13), .len (.tmp 12), none⟩,
     ⟨(some 14), .bin .lss (.tmp 11) (.tmp 13), none⟩])
   (.cond (.tmp 14) .skip (.exit 0)))
   (.seq (.block 1 (.seq (.ops [⟨(some 17), .mv (.tmp 0), none⟩,
      ⟨(some 18), .mv (.tmp 5), none⟩,
      ⟨(some 19), .atRow 1 (.tmp 17) (.tmp 18), none⟩,
      ⟨(some 20), .load1 (.tmp 19), none⟩,
      ⟨(some 21), .mv (.tmp 1), none⟩,
      ⟨(some 22), .mv (.tmp 5), none⟩,
      ⟨(some 23), .atRow 1 (.tmp 21) (.tmp 22), none⟩,
      ⟨(some 24), .load1 (.tmp 23), none⟩,
      ⟨(some 25), .bin .neq (.tmp 20) (.tmp 24), none⟩])
    (.cond (.tmp 25) (.seq (.ops [⟨(some 4), .mv (.const (.bool false)), none⟩])
    .ret) .skip)))
   (.ops [⟨(some 15), .mv (.tmp 5), none⟩,
     ⟨(some 16), .bin .add (.tmp 15) (.const (.int .i64 1)), none⟩,
     ⟨(some 5), .mv (.tmp 16), none⟩]))))))
 (.seq (.ops [⟨(some 4), .mv (.const (.bool true)), none⟩])
 .ret))))⟩
def c_uir_Branches : AFunc := ⟨19, [.tmp 2],
 (.seq (.ops [⟨(some 2), .mv (.const (.int .i64 0)), none⟩])
 (.seq (.ops [⟨(some 3), .mv (.const (.int .i64 0)), none⟩])
 (.seq (.seq (.ops [⟨(some 6), .mv (.tmp 0), none⟩,
   ⟨(some 7), .len (.tmp 6), none⟩,
   ⟨(some 8), .mv (.const (.int .i64 0)), none⟩])
 (.block 0 (.loop (.seq (.ops [⟨(some 9), .bin .lss (.tmp 8) (.tmp 7), none⟩])
   (.seq (.cond (.tmp 9) .skip (.exit 0))
   (.seq (.block 1 (.seq (.ops [⟨(some 10), .atRow 17 (.tmp 6) (.tmp 8), none⟩,
      ⟨(some 11), .load 17 (.tmp 10), none⟩,
      ⟨(some 5), .alloc (List.replicate 10 (.int .i64 0) ++ List.replicate 3 (.bool false) ++ List.replicate 3 (.int .i64 0) ++ [(.bool false)]), none⟩,
      ⟨none, .store 17 (.tmp 5) (.tmp 11), none⟩])
    (.seq (.ops [⟨(some 12), .off 0 (.tmp 5), none⟩,
      ⟨(some 13), .load1 (.tmp 12), none⟩,
      ⟨(some 14), .bin .eql (.tmp 13) (.const (.int .i64 9)), none⟩])
    (.cond (.tmp 14) (.ops [⟨(some 15), .mv (.tmp 3), none⟩,
      ⟨(some 16), .bin .add (.tmp 15) (.const (.int .i64 1)), none⟩,
      ⟨(some 3), .mv (.tmp 16), none⟩]) .skip))))
   (.ops [⟨(some 17), .bin .add (.tmp 8) (.const (.int .i64 1)), none⟩,
     ⟨(some 8), .mv (.tmp 17), none⟩])))))))
 (.seq (.ops [⟨(some 18), .mv (.tmp 3), none⟩,
   ⟨(some 2), .mv (.tmp 18), none⟩])
 .ret))))⟩
def c_belatedlaw10_path : AFunc := ⟨21, [.tmp 4],
 (.seq (.ops [⟨(some 4), .mv (.const (.slice none 0 0)), none⟩])
 (.seq (.ops [⟨(some 6), .mv (.tmp 0), none⟩,
   ⟨(some 7), .call n_belatedref10_Paths [(.tmp 6)], none⟩,
   ⟨(some 5), .mv (.tmp 7), none⟩])
 (.seq (.ops [⟨(some 8), .mv (.tmp 5), none⟩,
   ⟨(some 9), .mv (.tmp 1), none⟩,
   ⟨(some 10), .mv (.tmp 5), none⟩,
   ⟨(some 11), .len (.tmp 10), none⟩,
   ⟨(some 12), .bin .rem (.tmp 9) (.tmp 11), none⟩,
   ⟨(some 13), .mv (.tmp 5), none⟩,
   ⟨(some 14), .len (.tmp 13), none⟩,
   ⟨(some 15), .bin .add (.tmp 12) (.tmp 14), none⟩,
   ⟨(some 16), .mv (.tmp 5), none⟩,
   ⟨(some 17), .len (.tmp 16), none⟩,
   ⟨(some 18), .bin .rem (.tmp 15) (.tmp 17), none⟩,
   ⟨(some 19), .atRow 1 (.tmp 8) (.tmp 18), none⟩,
   ⟨(some 20), .load1 (.tmp 19), none⟩,
   ⟨(some 4), .mv (.tmp 20), none⟩])
 .ret)))⟩
def c_flow_Addr : AFunc := ⟨31, [.tmp 6],
 (.seq (.ops [⟨(some 6), .mv (.const (.int .i64 0)), none⟩])
 (.seq (.ops [⟨(some 10), .mv (.tmp 0), none⟩,
   ⟨(some 11), .mv (.tmp 1), none⟩,
   ⟨(some 12), .mv (.tmp 2), none⟩,
   ⟨(some 13), .call n_flow_ins [(.tmp 10), (.tmp 11), (.tmp 12)], none⟩,
   ⟨(some 9), .mv (.tmp 13), none⟩,
   ⟨(some 14), .extract (.tmp 9) 0, none⟩,
   ⟨(some 15), .extract (.tmp 9) 1, none⟩,
   ⟨(some 7), .alloc (List.replicate 10 (.int .i64 0) ++ List.replicate 3 (.bool false) ++ List.replicate 3 (.int .i64 0) ++ [(.bool false)]), none⟩,
   ⟨none, .store 17 (.tmp 7) (.tmp 14), none⟩,
   ⟨(some 8), .mv (.tmp 15), none⟩])
 (.seq (.seq (.ops [⟨(some 16), .mv (.tmp 8), none⟩,
   ⟨(some 17), .un .not (.tmp 16), none⟩,
   ⟨(some 18), .mv (.tmp 17), none⟩,
   ⟨(some 19), .load 17 (.tmp 7), (some (18, false))⟩,
   ⟨(some 20), .mkRow (List.replicate 10 (.int .i64 0) ++ List.replicate 3 (.bool false) ++ List.replicate 3 (.int .i64 0) ++ [(.bool false)]) 1 [(0, 17, (.tmp 19))], (some (18, false))⟩,
   ⟨(some 21), .call n_uir_Ops [(.tmp 20)], (some (18, false))⟩,
   ⟨(some 22), .bin .eql (.tmp 21) (.const (.int .i64 0)), (some (18, false))⟩,
   ⟨(some 23), .pick (.tmp 18) (.const (.bool true)) (.tmp 22), none⟩])
 (.cond (.tmp 23) (.seq (.ops [⟨(some 6), .mv (.const (.int .i64 0)), none⟩])
 .ret) .skip))
 (.seq (.ops [⟨(some 24), .mv (.tmp 0), none⟩,
   ⟨(some 25), .mv (.tmp 1), none⟩,
   ⟨(some 26), .mv (.tmp 2), none⟩,
   ⟨(some 27), .off 7 (.tmp 7), none⟩,
   ⟨(some 28), .load1 (.tmp 27), none⟩,
   ⟨(some 29), .mkRow [(.int .i64 0)] 1 [(0, 1, (.tmp 28))], none⟩,
   ⟨(some 30), .call n_flow_hangs [(.tmp 24), (.tmp 25), (.tmp 26), (.tmp 29)], none⟩,
   ⟨(some 6), .mv (.tmp 30), none⟩])
 .ret))))⟩
def c_belatedref10_Addr : AFunc := ⟨38, [.tmp 6],
 (.seq (.ops [⟨(some 6), .mv (.const (.int .i64 0)), none⟩])
 (.seq (.seq (.ops [⟨(some 7), .mv (.tmp 2), none⟩,
   ⟨(some 8), .bin .lss (.tmp 7) (.const (.int .i64 0)), none⟩,
   ⟨(some 9), .mv (.tmp 8), none⟩,
   ⟨(some 10), .mv (.tmp 2), (some (9, false))⟩,
   ⟨(some 11), .mv (.tmp 1), (some (9, false))⟩,
   ⟨(some 12), .len (.tmp 11), (some (9, false))⟩,
   ⟨(some 13), .bin .geq (.tmp 10) (.tmp 12), (some (9, false))⟩,
   ⟨(some 14), .pick (.tmp 9) (.const (.bool true)) (.tmp 13), none⟩,
   ⟨(some 15), .mv (.tmp 14), none⟩,
   ⟨(some 16), .mv (.tmp 0), (some (15, false))⟩,
   ⟨(some 17), .mv (.tmp 1), (some (15, false))⟩,
   ⟨(some 18), .mv (.tmp 2), (some (15, false))⟩,
   ⟨(some 19), .atRow 1 (.tmp 17) (.tmp 18), (some (15, false))⟩,
   ⟨(some 20), .load1 (.tmp 19), (some (15, false))⟩,
   ⟨(some 21), .atRow 17 (.tmp 16) (.tmp 20), (some (15, false))⟩,
   ⟨(some 22), .load 17 (.tmp 21), (some (15, false))⟩,
   ⟨(some 23), .call n_belatedref3_Memory [(.tmp 22)], (some (15, false))⟩,
   ⟨(some 24), .un .not (.tmp 23), (some (15, false))⟩,
   ⟨(some 25), .pick (.tmp 15) (.const (.bool true)) (.tmp 24), none⟩])
 (.cond (.tmp 25) (.seq (.ops [⟨(some 6), .mv (.const (.int .i64 0)), none⟩])
 .ret) .skip))
 (.seq (.ops [⟨(some 26), .mv (.tmp 0), none⟩,
   ⟨(some 27), .mv (.tmp 1), none⟩,
   ⟨(some 28), .mv (.tmp 2), none⟩,
   ⟨(some 29), .mv (.tmp 0), none⟩,
   ⟨(some 30), .mv (.tmp 1), none⟩,
   ⟨(some 31), .mv (.tmp 2), none⟩,
   ⟨(some 32), .atRow 1 (.tmp 30) (.tmp 31), none⟩,
   ⟨(some 33), .load1 (.tmp 32), none⟩,
   ⟨(some 34), .atRow 17 (.tmp 29) (.tmp 33), none⟩,
   ⟨(some 35), .off 7 (.tmp 34), none⟩,
   ⟨(some 36), .load1 (.tmp 35), none⟩,
   ⟨(some 37), .call n_belatedref10_hangs [(.tmp 26), (.tmp 27), (.tmp 28), (.tmp 36)], none⟩,
   ⟨(some 6), .mv (.tmp 37), none⟩])
 .ret)))⟩
def c_flow_Data : AFunc := ⟨30, [.tmp 6],
 (.seq (.ops [⟨(some 6), .mv (.const (.int .i64 0)), none⟩])
 (.seq (.ops [⟨(some 10), .mv (.tmp 0), none⟩,
   ⟨(some 11), .mv (.tmp 1), none⟩,
   ⟨(some 12), .mv (.tmp 2), none⟩,
   ⟨(some 13), .call n_flow_ins [(.tmp 10), (.tmp 11), (.tmp 12)], none⟩,
   ⟨(some 9), .mv (.tmp 13), none⟩,
   ⟨(some 14), .extract (.tmp 9) 0, none⟩,
   ⟨(some 15), .extract (.tmp 9) 1, none⟩,
   ⟨(some 7), .alloc (List.replicate 10 (.int .i64 0) ++ List.replicate 3 (.bool false) ++ List.replicate 3 (.int .i64 0) ++ [(.bool false)]), none⟩,
   ⟨none, .store 17 (.tmp 7) (.tmp 14), none⟩,
   ⟨(some 8), .mv (.tmp 15), none⟩])
 (.seq (.seq (.ops [⟨(some 16), .mv (.tmp 8), none⟩,
   ⟨(some 17), .un .not (.tmp 16), none⟩,
   ⟨(some 18), .mv (.tmp 17), none⟩,
   ⟨(some 19), .load 17 (.tmp 7), (some (18, false))⟩,
   ⟨(some 20), .call n_uir_Writes [(.tmp 19)], (some (18, false))⟩,
   ⟨(some 21), .un .not (.tmp 20), (some (18, false))⟩,
   ⟨(some 22), .pick (.tmp 18) (.const (.bool true)) (.tmp 21), none⟩])
 (.cond (.tmp 22) (.seq (.ops [⟨(some 6), .mv (.const (.int .i64 0)), none⟩])
 .ret) .skip))
 (.seq (.ops [⟨(some 23), .mv (.tmp 0), none⟩,
   ⟨(some 24), .mv (.tmp 1), none⟩,
   ⟨(some 25), .mv (.tmp 2), none⟩,
   ⟨(some 26), .off 2 (.tmp 7), none⟩,
   ⟨(some 27), .load1 (.tmp 26), none⟩,
   ⟨(some 28), .mkRow [(.int .i64 0)] 1 [(0, 1, (.tmp 27))], none⟩,
   ⟨(some 29), .call n_flow_hangs [(.tmp 23), (.tmp 24), (.tmp 25), (.tmp 28)], none⟩,
   ⟨(some 6), .mv (.tmp 29), none⟩])
 .ret))))⟩
def c_belatedref10_Data : AFunc := ⟨38, [.tmp 6],
 (.seq (.ops [⟨(some 6), .mv (.const (.int .i64 0)), none⟩])
 (.seq (.seq (.ops [⟨(some 7), .mv (.tmp 2), none⟩,
   ⟨(some 8), .bin .lss (.tmp 7) (.const (.int .i64 0)), none⟩,
   ⟨(some 9), .mv (.tmp 8), none⟩,
   ⟨(some 10), .mv (.tmp 2), (some (9, false))⟩,
   ⟨(some 11), .mv (.tmp 1), (some (9, false))⟩,
   ⟨(some 12), .len (.tmp 11), (some (9, false))⟩,
   ⟨(some 13), .bin .geq (.tmp 10) (.tmp 12), (some (9, false))⟩,
   ⟨(some 14), .pick (.tmp 9) (.const (.bool true)) (.tmp 13), none⟩,
   ⟨(some 15), .mv (.tmp 14), none⟩,
   ⟨(some 16), .mv (.tmp 0), (some (15, false))⟩,
   ⟨(some 17), .mv (.tmp 1), (some (15, false))⟩,
   ⟨(some 18), .mv (.tmp 2), (some (15, false))⟩,
   ⟨(some 19), .atRow 1 (.tmp 17) (.tmp 18), (some (15, false))⟩,
   ⟨(some 20), .load1 (.tmp 19), (some (15, false))⟩,
   ⟨(some 21), .atRow 17 (.tmp 16) (.tmp 20), (some (15, false))⟩,
   ⟨(some 22), .load 17 (.tmp 21), (some (15, false))⟩,
   ⟨(some 23), .call n_belatedref3_Writes [(.tmp 22)], (some (15, false))⟩,
   ⟨(some 24), .un .not (.tmp 23), (some (15, false))⟩,
   ⟨(some 25), .pick (.tmp 15) (.const (.bool true)) (.tmp 24), none⟩])
 (.cond (.tmp 25) (.seq (.ops [⟨(some 6), .mv (.const (.int .i64 0)), none⟩])
 .ret) .skip))
 (.seq (.ops [⟨(some 26), .mv (.tmp 0), none⟩,
   ⟨(some 27), .mv (.tmp 1), none⟩,
   ⟨(some 28), .mv (.tmp 2), none⟩,
   ⟨(some 29), .mv (.tmp 0), none⟩,
   ⟨(some 30), .mv (.tmp 1), none⟩,
   ⟨(some 31), .mv (.tmp 2), none⟩,
   ⟨(some 32), .atRow 1 (.tmp 30) (.tmp 31), none⟩,
   ⟨(some 33), .load1 (.tmp 32), none⟩,
   ⟨(some 34), .atRow 17 (.tmp 29) (.tmp 33), none⟩,
   ⟨(some 35), .off 2 (.tmp 34), none⟩,
   ⟨(some 36), .load1 (.tmp 35), none⟩,
   ⟨(some 37), .call n_belatedref10_hangs [(.tmp 26), (.tmp 27), (.tmp 28), (.tmp 36)], none⟩,
   ⟨(some 6), .mv (.tmp 37), none⟩])
 .ret)))⟩
def c_flow_Ctrl : AFunc := ⟨43, [.tmp 6],
 (.seq (.ops [⟨(some 6), .mv (.const (.int .i64 0)), none⟩])
 (.seq (.ops [⟨(some 7), .mv (.const (.int .i64 0)), none⟩])
 (.seq (.seq (.ops [⟨(some 11), .mv (.tmp 2), none⟩,
   ⟨(some 12), .mv (.tmp 1), none⟩,
   ⟨(some 13), .len (.tmp 12), none⟩,
   ⟨(some 14), .min2 (.tmp 11) (.tmp 13), none⟩,
   ⟨(some 15), .max2 (.const (.int .i64 0)) (.tmp 14), none⟩,
   ⟨(some 16), .mv (.const (.int .i64 0)), none⟩])
 (.block 0 (.loop (.seq (.ops [⟨(some 17), .bin .lss (.tmp 16) (.tmp 15), none⟩])
   (.seq (.cond (.tmp 17) .skip (.exit 0))
   (.seq (.block 1 (.seq (.ops [⟨(some 18), .mv (.tmp 16), none⟩,
      ⟨(some 8), .mv (.tmp 18), none⟩])
    (.seq (.ops [⟨(some 20), .mv (.tmp 0), none⟩,
      ⟨(some 21), .mv (.tmp 1), none⟩,
      ⟨(some 22), .mv (.tmp 8), none⟩,
      ⟨(some 23), .call n_flow_ins [(.tmp 20), (.tmp 21), (.tmp 22)], none⟩,
      ⟨(some 19), .mv (.tmp 23), none⟩,
      ⟨(some 24), .extract (.tmp 19) 0, none⟩,
      ⟨(some 25), .extract (.tmp 19) 1, none⟩,
      ⟨(some 9), .alloc (List.replicate 10 (.int .i64 0) ++ List.replicate 3 (.bool false) ++ List.replicate 3 (.int .i64 0) ++ [(.bool false)]), none⟩,
      ⟨none, .store 17 (.tmp 9) (.tmp 24), none⟩,
      ⟨(some 10), .mv (.tmp 25), none⟩])
    (.seq (.ops [⟨(some 26), .mv (.tmp 10), none⟩,
      ⟨(some 27), .mv (.tmp 26), none⟩,
      ⟨(some 28), .off 0 (.tmp 9), (some (27, true))⟩,
      ⟨(some 29), .load1 (.tmp 28), (some (27, true))⟩,
      ⟨(some 30), .bin .eql (.tmp 29) (.const (.int .i64 9)), (some (27, true))⟩,
      ⟨(some 31), .pick (.tmp 27) (.tmp 30) (.const (.bool false)), none⟩])
    (.cond (.tmp 31) (.ops [⟨(some 32), .mv (.tmp 7), none⟩,
      ⟨(some 33), .mv (.tmp 0), none⟩,
      ⟨(some 34), .mv (.tmp 1), none⟩,
      ⟨(some 35), .mv (.tmp 8), none⟩,
      ⟨(some 36), .off 2 (.tmp 9), none⟩,
      ⟨(some 37), .load1 (.tmp 36), none⟩,
      ⟨(some 38), .mkRow [(.int .i64 0)] 1 [(0, 1, (.tmp 37))], none⟩,
      ⟨(some 39), .call n_flow_hangs [(.tmp 33), (.tmp 34), (.tmp 35), (.tmp 38)], none⟩,
      ⟨(some 40), .bin .or (.tmp 32) (.tmp 39), none⟩,
      ⟨(some 7), .mv (.tmp 40), none⟩]) .skip)))))
   (.ops [⟨(some 41), .bin .add (.tmp 16) (.const (.int .i64 1)), none⟩,
     ⟨(some 16), .mv (.tmp 41), none⟩])))))))
 (.seq (.ops [⟨(some 42), .mv (.tmp 7), none⟩,
   ⟨(some 6), .mv (.tmp 42), none⟩])
 .ret))))⟩
def c_belatedref10_Ctrl : AFunc := ⟨44, [.tmp 6],
 (.seq (.ops [⟨(some 6), .mv (.const (.int .i64 0)), none⟩])
 (.seq (.ops [⟨(some 7), .mv (.const (.int .i64 0)), none⟩])
 (.seq (.seq (.ops [⟨(some 8), .mv (.const (.int .i64 0)), none⟩])
 (.block 0 (.loop (.seq (.seq (.ops [⟨(some 9), .mv (.tmp 8), none⟩,
     ⟨(some 10), .mv (.tmp 2), none⟩,
     ⟨(some 11), .bin .lss (.tmp 9) (.tmp 10), none⟩,
     ⟨(some 12), .mv (.tmp 11), none⟩,
     ⟨(some 13), .mv (.tmp 8), (some (12, true))⟩,
     ⟨(some 14), .mv (.tmp 1), (some (12, true))⟩,
     ⟨(some 15), .len (.tmp 14), (some (12, true))⟩,
     ⟨(some 16), .bin .lss (.tmp 13) (.tmp 15), (some (12, true))⟩,
     ⟨(some 17), .pick (.tmp 12) (.tmp 16) (.const (.bool false)), none⟩])
   (.cond (.tmp 17) .skip (.exit 0)))
   (.seq (.block 1 (.seq (.ops [⟨(some 20), .mv (.tmp 0), none⟩,
      ⟨(some 21), .mv (.tmp 1), none⟩,
      ⟨(some 22), .mv (.tmp 8), none⟩,
      ⟨(some 23), .atRow 1 (.tmp 21) (.tmp 22), none⟩,
      ⟨(some 24), .load1 (.tmp 23), none⟩,
      ⟨(some 25), .atRow 17 (.tmp 20) (.tmp 24), none⟩,
      ⟨(some 26), .off 0 (.tmp 25), none⟩,
      ⟨(some 27), .load1 (.tmp 26), none⟩,
      ⟨(some 28), .bin .eql (.tmp 27) (.const (.int .i64 9)), none⟩])
    (.cond (.tmp 28) (.ops [⟨(some 29), .mv (.tmp 7), none⟩,
      ⟨(some 30), .mv (.tmp 0), none⟩,
      ⟨(some 31), .mv (.tmp 1), none⟩,
      ⟨(some 32), .mv (.tmp 8), none⟩,
      ⟨(some 33), .mv (.tmp 0), none⟩,
      ⟨(some 34), .mv (.tmp 1), none⟩,
      ⟨(some 35), .mv (.tmp 8), none⟩,
      ⟨(some 36), .atRow 1 (.tmp 34) (.tmp 35), none⟩,
      ⟨(some 37), .load1 (.tmp 36), none⟩,
      ⟨(some 38), .atRow 17 (.tmp 33) (.tmp 37), none⟩,
      ⟨(some 39), .off 2 (.tmp 38), none⟩,
      ⟨(some 40), .load1 (.tmp 39), none⟩,
      ⟨(some 41), .call n_belatedref10_hangs [(.tmp 30), (.tmp 31), (.tmp 32), (.tmp 40)], none⟩,
      ⟨(some 42), .bin .or (.tmp 29) (.tmp 41), none⟩,
      ⟨(some 7), .mv (.tmp 42), none⟩]) .skip)))
   (.ops [⟨(some 18), .mv (.tmp 8), none⟩,
     ⟨(some 19), .bin .add (.tmp 18) (.const (.int .i64 1)), none⟩,
     ⟨(some 8), .mv (.tmp 19), none⟩]))))))
 (.seq (.ops [⟨(some 43), .mv (.tmp 7), none⟩,
   ⟨(some 6), .mv (.tmp 43), none⟩])
 .ret))))⟩
def c_flow_Value : AFunc := ⟨122, [.tmp 14, .tmp 15],
 (.seq (.ops [⟨(some 9), .box 8 (.tmp 2), none⟩,
   ⟨(some 14), .mv (.const (.int .i64 0)), none⟩,
   ⟨(some 15), .mv (.const (.bool false)), none⟩])
 (.seq (.block 0 (.seq (.ops [⟨(some 23), .mv (.tmp 4), none⟩,
    ⟨(some 24), .bin .eql (.tmp 23) (.const (.int .i64 (-1))), none⟩,
    ⟨(some 22), .mv (.tmp 24), none⟩])
  (.cond (.tmp 22) (.seq (.ops [⟨(some 14), .mv (.const (.int .i64 0)), none⟩,
    ⟨(some 15), .mv (.const (.bool true)), none⟩])
  .ret) (.seq (.ops [⟨(some 26), .mv (.tmp 4), none⟩,
    ⟨(some 27), .bin .lss (.tmp 26) (.const (.int .i64 0)), none⟩,
    ⟨(some 28), .mv (.tmp 27), none⟩,
    ⟨(some 29), .mv (.tmp 4), (some (28, false))⟩,
    ⟨(some 30), .bin .geq (.tmp 29) (.const (.int .i64 8)), (some (28, false))⟩,
    ⟨(some 31), .pick (.tmp 28) (.const (.bool true)) (.tmp 30), none⟩,
    ⟨(some 25), .mv (.tmp 31), none⟩])
  (.cond (.tmp 25) (.seq (.ops [⟨(some 14), .mv (.const (.int .i64 0)), none⟩,
    ⟨(some 15), .mv (.const (.bool false)), none⟩])
  .ret) .skip)))))
 (.seq (.ops [⟨(some 32), .mv (.tmp 0), none⟩,
   ⟨(some 33), .mv (.tmp 1), none⟩,
   ⟨(some 34), .mv (.tmp 3), none⟩,
   ⟨(some 35), .mv (.tmp 4), none⟩,
   ⟨(some 36), .call n_flow_Def [(.tmp 32), (.tmp 33), (.tmp 34), (.tmp 35)], none⟩,
   ⟨(some 16), .mv (.tmp 36), none⟩])
 (.seq (.seq (.ops [⟨(some 37), .mv (.tmp 16), none⟩,
   ⟨(some 38), .bin .lss (.tmp 37) (.const (.int .i64 0)), none⟩])
 (.cond (.tmp 38) (.seq (.ops [⟨(some 39), .mv (.tmp 4), none⟩,
   ⟨(some 40), .atArr 8 1 (.tmp 9) (.tmp 39), none⟩,
   ⟨(some 41), .load1 (.tmp 40), none⟩,
   ⟨(some 14), .mv (.tmp 41), none⟩,
   ⟨(some 15), .mv (.const (.bool true)), none⟩])
 .ret) .skip))
 (.seq (.ops [⟨(some 43), .mv (.tmp 0), none⟩,
   ⟨(some 44), .mv (.tmp 1), none⟩,
   ⟨(some 45), .mv (.tmp 16), none⟩,
   ⟨(some 46), .call n_flow_ins [(.tmp 43), (.tmp 44), (.tmp 45)], none⟩,
   ⟨(some 42), .mv (.tmp 46), none⟩,
   ⟨(some 47), .extract (.tmp 42) 0, none⟩,
   ⟨(some 48), .extract (.tmp 42) 1, none⟩,
   ⟨(some 17), .alloc (List.replicate 10 (.int .i64 0) ++ List.replicate 3 (.bool false) ++ List.replicate 3 (.int .i64 0) ++ [(.bool false)]), none⟩,
   ⟨none, .store 17 (.tmp 17) (.tmp 47), none⟩,
   ⟨(some 18), .mv (.tmp 48), none⟩])
 (.seq (.block 1 (.seq (.ops [⟨(some 50), .load 17 (.tmp 17), none⟩,
    ⟨(some 51), .call n_uir_Reads [(.tmp 50)], none⟩,
    ⟨(some 49), .mv (.tmp 51), none⟩])
  (.cond (.tmp 49) (.seq (.seq (.ops [⟨(some 52), .mv (.tmp 16), none⟩,
    ⟨(some 53), .bin .geq (.tmp 52) (.const (.int .i64 63)), none⟩,
    ⟨(some 54), .mv (.tmp 53), none⟩,
    ⟨(some 55), .mv (.tmp 6), (some (54, false))⟩,
    ⟨(some 56), .mv (.tmp 16), (some (54, false))⟩,
    ⟨(some 57), .bin .shr (.tmp 55) (.tmp 56), (some (54, false))⟩,
    ⟨(some 58), .bin .and (.tmp 57) (.const (.int .i64 1)), (some (54, false))⟩,
    ⟨(some 59), .bin .eql (.tmp 58) (.const (.int .i64 0)), (some (54, false))⟩,
    ⟨(some 60), .pick (.tmp 54) (.const (.bool true)) (.tmp 59), none⟩,
    ⟨(some 61), .mv (.tmp 60), none⟩,
    ⟨(some 62), .mv (.tmp 16), (some (61, false))⟩,
    ⟨(some 63), .mv (.tmp 5), (some (61, false))⟩,
    ⟨(some 64), .len (.tmp 63), (some (61, false))⟩,
    ⟨(some 65), .bin .geq (.tmp 62) (.tmp 64), (some (61, false))⟩,
    ⟨(some 66), .pick (.tmp 61) (.const (.bool true)) (.tmp 65), none⟩])
  (.cond (.tmp 66) (.seq (.ops [⟨(some 14), .mv (.const (.int .i64 0)), none⟩,
    ⟨(some 15), .mv (.const (.bool false)), none⟩])
  .ret) .skip))
  (.seq (.ops [⟨(some 67), .mv (.tmp 5), none⟩,
    ⟨(some 68), .mv (.tmp 16), none⟩,
    ⟨(some 69), .atRow 1 (.tmp 67) (.tmp 68), none⟩,
    ⟨(some 70), .load1 (.tmp 69), none⟩,
    ⟨(some 14), .mv (.tmp 70), none⟩,
    ⟨(some 15), .mv (.const (.bool true)), none⟩])
  .ret)) (.seq (.ops [⟨(some 72), .off 0 (.tmp 17), none⟩,
    ⟨(some 73), .load1 (.tmp 72), none⟩,
    ⟨(some 74), .bin .eql (.tmp 73) (.const (.int .i64 1)), none⟩,
    ⟨(some 71), .mv (.tmp 74), none⟩])
  (.cond (.tmp 71) (.seq (.ops [⟨(some 75), .off 4 (.tmp 17), none⟩,
    ⟨(some 76), .load1 (.tmp 75), none⟩,
    ⟨(some 14), .mv (.tmp 76), none⟩,
    ⟨(some 15), .mv (.const (.bool true)), none⟩])
  .ret) .skip)))))
 (.seq (.ops [⟨(some 78), .mv (.tmp 0), none⟩,
   ⟨(some 79), .mv (.tmp 1), none⟩,
   ⟨(some 80), .load 8 (.tmp 9), none⟩,
   ⟨(some 81), .mv (.tmp 16), none⟩,
   ⟨(some 82), .off 2 (.tmp 17), none⟩,
   ⟨(some 83), .load1 (.tmp 82), none⟩,
   ⟨(some 84), .mv (.tmp 5), none⟩,
   ⟨(some 85), .mv (.tmp 6), none⟩,
   ⟨(some 86), .call n_flow_Value [(.tmp 78), (.tmp 79), (.tmp 80), (.tmp 81), (.tmp 83), (.tmp 84), (.tmp 85)], none⟩,
   ⟨(some 77), .mv (.tmp 86), none⟩,
   ⟨(some 87), .extract (.tmp 77) 0, none⟩,
   ⟨(some 88), .extract (.tmp 77) 1, none⟩,
   ⟨(some 19), .mv (.tmp 87), none⟩,
   ⟨(some 20), .mv (.tmp 88), none⟩])
 (.seq (.seq (.ops [⟨(some 89), .off 0 (.tmp 17), none⟩,
   ⟨(some 90), .load1 (.tmp 89), none⟩,
   ⟨(some 91), .bin .eql (.tmp 90) (.const (.int .i64 2)), none⟩,
   ⟨(some 92), .mv (.tmp 91), none⟩,
   ⟨(some 93), .mv (.tmp 20), (some (92, false))⟩,
   ⟨(some 94), .un .not (.tmp 93), (some (92, false))⟩,
   ⟨(some 95), .pick (.tmp 92) (.const (.bool true)) (.tmp 94), none⟩])
 (.cond (.tmp 95) (.seq (.ops [⟨(some 96), .mv (.tmp 19), none⟩,
   ⟨(some 97), .mv (.tmp 20), none⟩,
   ⟨(some 14), .mv (.tmp 96), none⟩,
   ⟨(some 15), .mv (.tmp 97), none⟩])
 .ret) .skip))
 (.seq (.ops [⟨(some 98), .off 4 (.tmp 17), none⟩,
   ⟨(some 99), .load1 (.tmp 98), none⟩,
   ⟨(some 21), .mv (.tmp 99), none⟩,
   ⟨(some 20), .mv (.const (.bool true)), none⟩])
 (.seq (.seq (.ops [⟨(some 100), .off 3 (.tmp 17), none⟩,
   ⟨(some 101), .load1 (.tmp 100), none⟩,
   ⟨(some 102), .bin .neq (.tmp 101) (.const (.int .i64 (-1))), none⟩])
 (.cond (.tmp 102) (.ops [⟨(some 104), .mv (.tmp 0), none⟩,
   ⟨(some 105), .mv (.tmp 1), none⟩,
   ⟨(some 106), .load 8 (.tmp 9), none⟩,
   ⟨(some 107), .mv (.tmp 16), none⟩,
   ⟨(some 108), .off 3 (.tmp 17), none⟩,
   ⟨(some 109), .load1 (.tmp 108), none⟩,
   ⟨(some 110), .mv (.tmp 5), none⟩,
   ⟨(some 111), .mv (.tmp 6), none⟩,
   ⟨(some 112), .call n_flow_Value [(.tmp 104), (.tmp 105), (.tmp 106), (.tmp 107), (.tmp 109), (.tmp 110), (.tmp 111)], none⟩,
   ⟨(some 103), .mv (.tmp 112), none⟩,
   ⟨(some 113), .extract (.tmp 103) 0, none⟩,
   ⟨(some 114), .extract (.tmp 103) 1, none⟩,
   ⟨(some 21), .mv (.tmp 113), none⟩,
   ⟨(some 20), .mv (.tmp 114), none⟩]) .skip))
 (.seq (.seq (.ops [⟨(some 115), .mv (.tmp 20), none⟩,
   ⟨(some 116), .un .not (.tmp 115), none⟩])
 (.cond (.tmp 116) (.seq (.ops [⟨(some 14), .mv (.const (.int .i64 0)), none⟩,
   ⟨(some 15), .mv (.const (.bool false)), none⟩])
 .ret) .skip))
 (.seq (.ops [⟨(some 117), .off 9 (.tmp 17), none⟩,
   ⟨(some 118), .load1 (.tmp 117), none⟩,
   ⟨(some 119), .mv (.tmp 19), none⟩,
   ⟨(some 120), .mv (.tmp 21), none⟩,
   ⟨(some 121), .call n_bits_Alu [(.tmp 118), (.tmp 119), (.tmp 120)], none⟩,
   ⟨(some 14), .mv (.tmp 121), none⟩,
   ⟨(some 15), .mv (.const (.bool true)), none⟩])
 .ret))))))))))))⟩
def c_belatedref10_Value : AFunc := ⟨123, [.tmp 14, .tmp 15],
 (.seq (.ops [⟨(some 9), .box 8 (.tmp 2), none⟩,
   ⟨(some 14), .mv (.const (.int .i64 0)), none⟩,
   ⟨(some 15), .mv (.const (.bool false)), none⟩])
 (.seq (.seq (.ops [⟨(some 22), .mv (.tmp 4), none⟩,
   ⟨(some 23), .bin .eql (.tmp 22) (.const (.int .i64 (-1))), none⟩])
 (.cond (.tmp 23) (.seq (.ops [⟨(some 14), .mv (.const (.int .i64 0)), none⟩,
   ⟨(some 15), .mv (.const (.bool true)), none⟩])
 .ret) .skip))
 (.seq (.seq (.ops [⟨(some 24), .mv (.tmp 4), none⟩,
   ⟨(some 25), .bin .lss (.tmp 24) (.const (.int .i64 0)), none⟩,
   ⟨(some 26), .mv (.tmp 25), none⟩,
   ⟨(some 27), .mv (.tmp 4), (some (26, false))⟩,
   ⟨(some 28), .bin .gtr (.tmp 27) (.const (.int .i64 7)), (some (26, false))⟩,
   ⟨(some 29), .pick (.tmp 26) (.const (.bool true)) (.tmp 28), none⟩])
 (.cond (.tmp 29) (.seq (.ops [⟨(some 14), .mv (.const (.int .i64 0)), none⟩,
   ⟨(some 15), .mv (.const (.bool false)), none⟩])
 .ret) .skip))
 (.seq (.ops [⟨(some 30), .mv (.tmp 0), none⟩,
   ⟨(some 31), .mv (.tmp 1), none⟩,
   ⟨(some 32), .mv (.tmp 3), none⟩,
   ⟨(some 33), .mv (.tmp 4), none⟩,
   ⟨(some 34), .call n_belatedref10_Def [(.tmp 30), (.tmp 31), (.tmp 32), (.tmp 33)], none⟩,
   ⟨(some 16), .mv (.tmp 34), none⟩])
 (.seq (.seq (.ops [⟨(some 35), .mv (.tmp 16), none⟩,
   ⟨(some 36), .bin .lss (.tmp 35) (.const (.int .i64 0)), none⟩])
 (.cond (.tmp 36) (.seq (.ops [⟨(some 37), .mv (.tmp 4), none⟩,
   ⟨(some 38), .atArr 8 1 (.tmp 9) (.tmp 37), none⟩,
   ⟨(some 39), .load1 (.tmp 38), none⟩,
   ⟨(some 14), .mv (.tmp 39), none⟩,
   ⟨(some 15), .mv (.const (.bool true)), none⟩])
 .ret) .skip))
 (.seq (.ops [⟨(some 40), .mv (.tmp 0), none⟩,
   ⟨(some 41), .mv (.tmp 1), none⟩,
   ⟨(some 42), .mv (.tmp 16), none⟩,
   ⟨(some 43), .atRow 1 (.tmp 41) (.tmp 42), none⟩,
   ⟨(some 44), .load1 (.tmp 43), none⟩,
   ⟨(some 45), .atRow 17 (.tmp 40) (.tmp 44), none⟩,
   ⟨(some 46), .load 17 (.tmp 45), none⟩,
   ⟨(some 17), .alloc (List.replicate 10 (.int .i64 0) ++ List.replicate 3 (.bool false) ++ List.replicate 3 (.int .i64 0) ++ [(.bool false)]), none⟩,
   ⟨none, .store 17 (.tmp 17) (.tmp 46), none⟩])
 (.seq (.seq (.ops [⟨(some 47), .off 0 (.tmp 17), none⟩,
   ⟨(some 48), .load1 (.tmp 47), none⟩])
 (.block 0 (.seq (.ops [⟨(some 50), .bin .eql (.tmp 48) (.const (.int .i64 1)), none⟩,
    ⟨(some 49), .mv (.tmp 50), none⟩])
  (.cond (.tmp 49) (.seq (.ops [⟨(some 51), .off 4 (.tmp 17), none⟩,
    ⟨(some 52), .load1 (.tmp 51), none⟩,
    ⟨(some 14), .mv (.tmp 52), none⟩,
    ⟨(some 15), .mv (.const (.bool true)), none⟩])
  .ret) (.seq (.ops [⟨(some 54), .bin .eql (.tmp 48) (.const (.int .i64 2)), none⟩,
    ⟨(some 53), .mv (.tmp 54), none⟩])
  (.cond (.tmp 53) (.seq (.ops [⟨(some 55), .mv (.tmp 0), none⟩,
    ⟨(some 56), .mv (.tmp 1), none⟩,
    ⟨(some 57), .load 8 (.tmp 9), none⟩,
    ⟨(some 58), .mv (.tmp 16), none⟩,
    ⟨(some 59), .off 2 (.tmp 17), none⟩,
    ⟨(some 60), .load1 (.tmp 59), none⟩,
    ⟨(some 61), .mv (.tmp 5), none⟩,
    ⟨(some 62), .mv (.tmp 6), none⟩,
    ⟨(some 63), .call n_belatedref10_Value [(.tmp 55), (.tmp 56), (.tmp 57), (.tmp 58), (.tmp 60), (.tmp 61), (.tmp 62)], none⟩,
    ⟨(some 64), .extract (.tmp 63) 0, none⟩,
    ⟨(some 65), .extract (.tmp 63) 1, none⟩,
    ⟨(some 14), .mv (.tmp 64), none⟩,
    ⟨(some 15), .mv (.tmp 65), none⟩])
  .ret) (.seq (.ops [⟨(some 67), .bin .eql (.tmp 48) (.const (.int .i64 3)), none⟩,
    ⟨(some 66), .mv (.tmp 67), none⟩])
  (.cond (.tmp 66) (.seq (.ops [⟨(some 69), .mv (.tmp 0), none⟩,
    ⟨(some 70), .mv (.tmp 1), none⟩,
    ⟨(some 71), .load 8 (.tmp 9), none⟩,
    ⟨(some 72), .mv (.tmp 16), none⟩,
    ⟨(some 73), .off 2 (.tmp 17), none⟩,
    ⟨(some 74), .load1 (.tmp 73), none⟩,
    ⟨(some 75), .mv (.tmp 5), none⟩,
    ⟨(some 76), .mv (.tmp 6), none⟩,
    ⟨(some 77), .call n_belatedref10_Value [(.tmp 69), (.tmp 70), (.tmp 71), (.tmp 72), (.tmp 74), (.tmp 75), (.tmp 76)], none⟩,
    ⟨(some 68), .mv (.tmp 77), none⟩,
    ⟨(some 78), .extract (.tmp 68) 0, none⟩,
    ⟨(some 79), .extract (.tmp 68) 1, none⟩,
    ⟨(some 18), .mv (.tmp 78), none⟩,
    ⟨(some 19), .mv (.tmp 79), none⟩])
  (.seq (.ops [⟨(some 81), .mv (.tmp 0), none⟩,
    ⟨(some 82), .mv (.tmp 1), none⟩,
    ⟨(some 83), .load 8 (.tmp 9), none⟩,
    ⟨(some 84), .mv (.tmp 16), none⟩,
    ⟨(some 85), .off 3 (.tmp 17), none⟩,
    ⟨(some 86), .load1 (.tmp 85), none⟩,
    ⟨(some 87), .mv (.tmp 5), none⟩,
    ⟨(some 88), .mv (.tmp 6), none⟩,
    ⟨(some 89), .call n_belatedref10_Value [(.tmp 81), (.tmp 82), (.tmp 83), (.tmp 84), (.tmp 86), (.tmp 87), (.tmp 88)], none⟩,
    ⟨(some 80), .mv (.tmp 89), none⟩,
    ⟨(some 90), .extract (.tmp 80) 0, none⟩,
    ⟨(some 91), .extract (.tmp 80) 1, none⟩,
    ⟨(some 20), .mv (.tmp 90), none⟩,
    ⟨(some 21), .mv (.tmp 91), none⟩])
  (.seq (.seq (.ops [⟨(some 92), .off 3 (.tmp 17), none⟩,
    ⟨(some 93), .load1 (.tmp 92), none⟩,
    ⟨(some 94), .bin .lss (.tmp 93) (.const (.int .i64 0)), none⟩])
  (.cond (.tmp 94) (.ops [⟨(some 95), .off 4 (.tmp 17), none⟩,
    ⟨(some 96), .load1 (.tmp 95), none⟩,
    ⟨(some 20), .mv (.tmp 96), none⟩]) .skip))
  (.seq (.seq (.ops [⟨(some 97), .mv (.tmp 19), none⟩,
    ⟨(some 98), .un .not (.tmp 97), none⟩,
    ⟨(some 99), .mv (.tmp 98), none⟩,
    ⟨(some 100), .mv (.tmp 21), (some (99, false))⟩,
    ⟨(some 101), .un .not (.tmp 100), (some (99, false))⟩,
    ⟨(some 102), .pick (.tmp 99) (.const (.bool true)) (.tmp 101), none⟩])
  (.cond (.tmp 102) (.seq (.ops [⟨(some 14), .mv (.const (.int .i64 0)), none⟩,
    ⟨(some 15), .mv (.const (.bool false)), none⟩])
  .ret) .skip))
  (.seq (.ops [⟨(some 103), .off 9 (.tmp 17), none⟩,
    ⟨(some 104), .load1 (.tmp 103), none⟩,
    ⟨(some 105), .mv (.tmp 18), none⟩,
    ⟨(some 106), .mv (.tmp 20), none⟩,
    ⟨(some 107), .call n_belatedref1_Alu [(.tmp 104), (.tmp 105), (.tmp 106)], none⟩,
    ⟨(some 14), .mv (.tmp 107), none⟩,
    ⟨(some 15), .mv (.const (.bool true)), none⟩])
  .ret))))) .skip))))))))
 (.seq (.seq (.ops [⟨(some 108), .mv (.tmp 16), none⟩,
   ⟨(some 109), .mv (.tmp 5), none⟩,
   ⟨(some 110), .len (.tmp 109), none⟩,
   ⟨(some 111), .bin .lss (.tmp 108) (.tmp 110), none⟩,
   ⟨(some 112), .mv (.tmp 111), none⟩,
   ⟨(some 113), .mv (.tmp 6), (some (112, true))⟩,
   ⟨(some 114), .mv (.tmp 16), (some (112, true))⟩,
   ⟨(some 115), .bin .shr (.tmp 113) (.tmp 114), (some (112, true))⟩,
   ⟨(some 116), .bin .and (.tmp 115) (.const (.int .i64 1)), (some (112, true))⟩,
   ⟨(some 117), .bin .eql (.tmp 116) (.const (.int .i64 1)), (some (112, true))⟩,
   ⟨(some 118), .pick (.tmp 112) (.tmp 117) (.const (.bool false)), none⟩])
 (.cond (.tmp 118) (.seq (.ops [⟨(some 119), .mv (.tmp 5), none⟩,
   ⟨(some 120), .mv (.tmp 16), none⟩,
   ⟨(some 121), .atRow 1 (.tmp 119) (.tmp 120), none⟩,
   ⟨(some 122), .load1 (.tmp 121), none⟩,
   ⟨(some 14), .mv (.tmp 122), none⟩,
   ⟨(some 15), .mv (.const (.bool true)), none⟩])
 .ret) .skip))
 (.seq (.ops [⟨(some 14), .mv (.const (.int .i64 0)), none⟩,
   ⟨(some 15), .mv (.const (.bool false)), none⟩])
 .ret)))))))))⟩
def c_flow_Def : AFunc := ⟨41, [.tmp 8],
 (.seq (.ops [⟨(some 8), .mv (.const (.int .i64 0)), none⟩])
 (.seq (.seq (.ops [⟨(some 12), .mv (.tmp 2), none⟩,
   ⟨(some 13), .mv (.tmp 1), none⟩,
   ⟨(some 14), .len (.tmp 13), none⟩,
   ⟨(some 15), .min2 (.tmp 12) (.tmp 14), none⟩,
   ⟨(some 16), .max2 (.const (.int .i64 0)) (.tmp 15), none⟩,
   ⟨(some 17), .bin .sub (.tmp 16) (.const (.int .i64 1)), none⟩,
   ⟨(some 9), .mv (.tmp 17), none⟩])
 (.block 0 (.loop (.seq (.seq (.ops [⟨(some 18), .mv (.tmp 9), none⟩,
     ⟨(some 19), .bin .geq (.tmp 18) (.const (.int .i64 0)), none⟩,
     ⟨(some 20), .mv (.tmp 19), none⟩,
     ⟨(some 21), .mv (.tmp 3), (some (20, true))⟩,
     ⟨(some 22), .bin .geq (.tmp 21) (.const (.int .i64 0)), (some (20, true))⟩,
     ⟨(some 23), .pick (.tmp 20) (.tmp 22) (.const (.bool false)), none⟩])
   (.cond (.tmp 23) .skip (.exit 0)))
   (.seq (.block 1 (.seq (.ops [⟨(some 27), .mv (.tmp 0), none⟩,
      ⟨(some 28), .mv (.tmp 1), none⟩,
      ⟨(some 29), .mv (.tmp 9), none⟩,
      ⟨(some 30), .call n_flow_ins [(.tmp 27), (.tmp 28), (.tmp 29)], none⟩,
      ⟨(some 26), .mv (.tmp 30), none⟩,
      ⟨(some 31), .extract (.tmp 26) 0, none⟩,
      ⟨(some 32), .extract (.tmp 26) 1, none⟩,
      ⟨(some 10), .alloc (List.replicate 10 (.int .i64 0) ++ List.replicate 3 (.bool false) ++ List.replicate 3 (.int .i64 0) ++ [(.bool false)]), none⟩,
      ⟨none, .store 17 (.tmp 10) (.tmp 31), none⟩,
      ⟨(some 11), .mv (.tmp 32), none⟩])
    (.seq (.ops [⟨(some 33), .mv (.tmp 11), none⟩,
      ⟨(some 34), .mv (.tmp 33), none⟩,
      ⟨(some 35), .load 17 (.tmp 10), (some (34, true))⟩,
      ⟨(some 36), .call n_uir_Gives [(.tmp 35)], (some (34, true))⟩,
      ⟨(some 37), .mv (.tmp 3), (some (34, true))⟩,
      ⟨(some 38), .bin .eql (.tmp 36) (.tmp 37), (some (34, true))⟩,
      ⟨(some 39), .pick (.tmp 34) (.tmp 38) (.const (.bool false)), none⟩])
    (.cond (.tmp 39) (.seq (.ops [⟨(some 40), .mv (.tmp 9), none⟩,
      ⟨(some 8), .mv (.tmp 40), none⟩])
    .ret) .skip))))
   (.ops [⟨(some 24), .mv (.tmp 9), none⟩,
     ⟨(some 25), .bin .sub (.tmp 24) (.const (.int .i64 1)), none⟩,
     ⟨(some 9), .mv (.tmp 25), none⟩]))))))
 (.seq (.ops [⟨(some 8), .mv (.const (.int .i64 (-1))), none⟩])
 .ret)))⟩
def c_belatedref10_Def : AFunc := ⟨35, [.tmp 8],
 (.seq (.ops [⟨(some 8), .mv (.const (.int .i64 0)), none⟩])
 (.seq (.seq (.ops [⟨(some 10), .mv (.tmp 2), none⟩,
   ⟨(some 11), .max2 (.tmp 10) (.const (.int .i64 0)), none⟩,
   ⟨(some 12), .mv (.tmp 1), none⟩,
   ⟨(some 13), .len (.tmp 12), none⟩,
   ⟨(some 14), .min2 (.tmp 11) (.tmp 13), none⟩,
   ⟨(some 15), .bin .sub (.tmp 14) (.const (.int .i64 1)), none⟩,
   ⟨(some 9), .mv (.tmp 15), none⟩])
 (.block 0 (.loop (.seq (.seq (.ops [⟨(some 16), .mv (.tmp 9), none⟩,
     ⟨(some 17), .bin .geq (.tmp 16) (.const (.int .i64 0)), none⟩,
     ⟨(some 18), .mv (.tmp 17), none⟩,
     ⟨(some 19), .mv (.tmp 3), (some (18, true))⟩,
     ⟨(some 20), .bin .geq (.tmp 19) (.const (.int .i64 0)), (some (18, true))⟩,
     ⟨(some 21), .pick (.tmp 18) (.tmp 20) (.const (.bool false)), none⟩])
   (.cond (.tmp 21) .skip (.exit 0)))
   (.seq (.block 1 (.seq (.ops [⟨(some 24), .mv (.tmp 0), none⟩,
      ⟨(some 25), .mv (.tmp 1), none⟩,
      ⟨(some 26), .mv (.tmp 9), none⟩,
      ⟨(some 27), .atRow 1 (.tmp 25) (.tmp 26), none⟩,
      ⟨(some 28), .load1 (.tmp 27), none⟩,
      ⟨(some 29), .atRow 17 (.tmp 24) (.tmp 28), none⟩,
      ⟨(some 30), .load 17 (.tmp 29), none⟩,
      ⟨(some 31), .call n_belatedref3_Gives [(.tmp 30)], none⟩,
      ⟨(some 32), .mv (.tmp 3), none⟩,
      ⟨(some 33), .bin .eql (.tmp 31) (.tmp 32), none⟩])
    (.cond (.tmp 33) (.seq (.ops [⟨(some 34), .mv (.tmp 9), none⟩,
      ⟨(some 8), .mv (.tmp 34), none⟩])
    .ret) .skip)))
   (.ops [⟨(some 22), .mv (.tmp 9), none⟩,
     ⟨(some 23), .bin .sub (.tmp 22) (.const (.int .i64 1)), none⟩,
     ⟨(some 9), .mv (.tmp 23), none⟩]))))))
 (.seq (.ops [⟨(some 8), .mv (.const (.int .i64 (-1))), none⟩])
 .ret)))⟩
def c_uir_Reads : AFunc := ⟨11, [.tmp 2],
 (.seq (.ops [⟨(some 1), .box 17 (.tmp 0), none⟩,
   ⟨(some 2), .mv (.const (.bool false)), none⟩])
 (.seq (.ops [⟨(some 3), .off 0 (.tmp 1), none⟩,
   ⟨(some 4), .load1 (.tmp 3), none⟩,
   ⟨(some 5), .bin .eql (.tmp 4) (.const (.int .i64 4)), none⟩,
   ⟨(some 6), .mv (.tmp 5), none⟩,
   ⟨(some 7), .off 0 (.tmp 1), (some (6, false))⟩,
   ⟨(some 8), .load1 (.tmp 7), (some (6, false))⟩,
   ⟨(some 9), .bin .eql (.tmp 8) (.const (.int .i64 6)), (some (6, false))⟩,
   ⟨(some 10), .pick (.tmp 6) (.const (.bool true)) (.tmp 9), none⟩,
   ⟨(some 2), .mv (.tmp 10), none⟩])
 .ret))⟩
def c_uir_Writes : AFunc := ⟨11, [.tmp 2],
 (.seq (.ops [⟨(some 1), .box 17 (.tmp 0), none⟩,
   ⟨(some 2), .mv (.const (.bool false)), none⟩])
 (.seq (.ops [⟨(some 3), .off 0 (.tmp 1), none⟩,
   ⟨(some 4), .load1 (.tmp 3), none⟩,
   ⟨(some 5), .bin .eql (.tmp 4) (.const (.int .i64 5)), none⟩,
   ⟨(some 6), .mv (.tmp 5), none⟩,
   ⟨(some 7), .off 0 (.tmp 1), (some (6, false))⟩,
   ⟨(some 8), .load1 (.tmp 7), (some (6, false))⟩,
   ⟨(some 9), .bin .eql (.tmp 8) (.const (.int .i64 6)), (some (6, false))⟩,
   ⟨(some 10), .pick (.tmp 6) (.const (.bool true)) (.tmp 9), none⟩,
   ⟨(some 2), .mv (.tmp 10), none⟩])
 .ret))⟩
def c_uir_Local : AFunc := ⟨198, [.cells 6 8, .tmp 7, .tmp 8, .tmp 9],
 (.seq (.ops [⟨(some 4), .box 8 (.tmp 1), none⟩,
   ⟨(some 6), .alloc (List.replicate 8 (.int .i64 0)), none⟩,
   ⟨(some 7), .mv (.const (.slice none 0 0)), none⟩,
   ⟨(some 8), .mv (.const (.slice none 0 0)), none⟩,
   ⟨(some 9), .mv (.const (.int .i64 0)), none⟩])
 (.seq (.seq (.ops [⟨(some 20), .mv (.tmp 0), none⟩,
   ⟨(some 21), .mkRow [(.slice none 0 0)] 1 [(0, 1, (.tmp 20))], none⟩,
   ⟨(some 22), .call n_uir_Check [(.tmp 21)], none⟩,
   ⟨(some 19), .mv (.tmp 22), none⟩,
   ⟨(some 23), .extract (.tmp 19) 0, none⟩,
   ⟨(some 24), .extract (.tmp 19) 1, none⟩,
   ⟨(some 25), .extract (.tmp 19) 2, none⟩,
   ⟨(some 10), .mv (.tmp 23), none⟩,
   ⟨(some 11), .mv (.tmp 24), none⟩,
   ⟨(some 12), .mv (.tmp 25), none⟩])
 (.seq (.ops [⟨(some 26), .mv (.tmp 12), none⟩,
   ⟨(some 27), .bin .neq (.tmp 26) (.const (.int .i64 0)), none⟩])
 (.cond (.tmp 27) (.seq (.ops [⟨(some 28), .load 8 (.tmp 6), none⟩,
   ⟨none, .store 8 (.tmp 6) (.tmp 28), none⟩,
   ⟨(some 7), .mv (.const (.slice none 0 0)), none⟩,
   ⟨(some 8), .mv (.const (.slice none 0 0)), none⟩,
   ⟨(some 9), .mv (.const (.int .i64 1)), none⟩])
 .ret) .skip)))
 (.seq (.ops [⟨(some 29), .func n_uir_Local_1 [] [(.tmp 4)], none⟩,
   ⟨(some 13), .mv (.tmp 29), none⟩])
 (.seq (.seq (.ops [⟨(some 14), .mv (.const (.int .i64 0)), none⟩])
 (.block 0 (.loop (.seq (.seq (.ops [⟨(some 30), .mv (.tmp 14), none⟩,
     ⟨(some 31), .mv (.tmp 0), none⟩,
     ⟨(some 32), .len (.tmp 31), none⟩,
     ⟨(some 33), .bin .lss (.tmp 30) (.tmp 32), none⟩])
   (.cond (.tmp 33) .skip (.exit 0)))
   (.block 1 (.seq (.ops [⟨(some 34), .mv (.tmp 0), none⟩,
      ⟨(some 35), .mv (.tmp 14), none⟩,
      ⟨(some 36), .atRow 17 (.tmp 34) (.tmp 35), none⟩,
      ⟨(some 37), .load 17 (.tmp 36), none⟩,
      ⟨(some 15), .alloc (List.replicate 10 (.int .i64 0) ++ List.replicate 3 (.bool false) ++ List.replicate 3 (.int .i64 0) ++ [(.bool false)]), none⟩,
      ⟨none, .store 17 (.tmp 15) (.tmp 37), none⟩])
    (.seq (.ops [⟨(some 38), .mv (.tmp 8), none⟩,
      ⟨(some 39), .len (.tmp 38), none⟩,
      ⟨(some 40), .mv (.tmp 14), none⟩,
      ⟨(some 41), .off 0 (.tmp 15), none⟩,
      ⟨(some 42), .load1 (.tmp 41), none⟩,
      ⟨(some 43), .off 10 (.tmp 15), none⟩,
      ⟨(some 44), .load1 (.tmp 43), none⟩,
      ⟨(some 45), .off 11 (.tmp 15), none⟩,
      ⟨(some 46), .load1 (.tmp 45), none⟩,
      ⟨(some 47), .off 12 (.tmp 15), none⟩,
      ⟨(some 48), .load1 (.tmp 47), none⟩,
      ⟨(some 49), .off 13 (.tmp 15), none⟩,
      ⟨(some 50), .load1 (.tmp 49), none⟩,
      ⟨(some 51), .off 14 (.tmp 15), none⟩,
      ⟨(some 52), .load1 (.tmp 51), none⟩,
      ⟨(some 53), .load 17 (.tmp 15), none⟩,
      ⟨(some 55), .load 17 (.tmp 15), none⟩,
      ⟨(some 16), .alloc (List.replicate 6 (.int .i64 0) ++ List.replicate 2 (.bool false) ++ List.replicate 2 (.int .i64 0) ++ List.replicate 3 (.bool false) ++ List.replicate 2 (.int .i64 0)), none⟩,
      ⟨(some 54), .call n_uir_Reads [(.tmp 53)], none⟩,
      ⟨none, .again1 (.tmp 41) 42, none⟩,
      ⟨none, .again1 (.tmp 43) 44, none⟩,
      ⟨none, .again1 (.tmp 45) 46, none⟩,
      ⟨none, .again1 (.tmp 47) 48, none⟩,
      ⟨none, .again1 (.tmp 49) 50, none⟩,
      ⟨none, .again1 (.tmp 51) 52, none⟩,
      ⟨none, .again 17 (.tmp 15) 55, none⟩,
      ⟨(some 56), .call n_uir_Writes [(.tmp 55)], none⟩,
      ⟨none, .again1 (.tmp 41) 42, none⟩,
      ⟨none, .again1 (.tmp 43) 44, none⟩,
      ⟨none, .again1 (.tmp 45) 46, none⟩,
      ⟨none, .again1 (.tmp 47) 48, none⟩,
      ⟨none, .again1 (.tmp 49) 50, none⟩,
      ⟨none, .again1 (.tmp 51) 52, none⟩,
      ⟨(some 57), .build (List.replicate 6 (.int .i64 0) ++ List.replicate 2 (.bool false) ++ List.replicate 2 (.int .i64 0) ++ List.replicate 3 (.bool false) ++ List.replicate 2 (.int .i64 0)) [(1, 1, (.tmp 39)), (2, 1, (.tmp 40)), (3, 1, (.tmp 42)), (10, 1, (.tmp 44)), (11, 1, (.tmp 46)), (12, 1, (.tmp 48)), (13, 1, (.tmp 50)), (14, 1, (.tmp 52)), (6, 1, (.tmp 54)), (7, 1, (.tmp 56))], none⟩,
      ⟨none, .store 15 (.tmp 16) (.tmp 57), none⟩])
    (.seq (.ops [⟨(some 58), .mv (.tmp 8), none⟩,
      ⟨(some 59), .mv (.tmp 14), none⟩,
      ⟨(some 60), .mkRow [(.int .i64 0)] 1 [(0, 1, (.tmp 59))], none⟩,
      ⟨(some 61), .append 1 8 (.tmp 58) (.tmp 60), none⟩,
      ⟨(some 8), .mv (.tmp 61), none⟩])
    (.seq (.ops [⟨(some 62), .mv (.tmp 14), none⟩,
      ⟨(some 63), .bin .add (.tmp 62) (.const (.int .i64 1)), none⟩,
      ⟨(some 14), .mv (.tmp 63), none⟩])
    (.seq (.seq (.ops [⟨(some 64), .off 6 (.tmp 16), none⟩,
      ⟨(some 65), .load1 (.tmp 64), none⟩,
      ⟨(some 66), .mv (.tmp 65), none⟩,
      ⟨(some 67), .off 7 (.tmp 16), (some (66, false))⟩,
      ⟨(some 68), .load1 (.tmp 67), (some (66, false))⟩,
      ⟨(some 69), .pick (.tmp 66) (.const (.bool true)) (.tmp 68), none⟩])
    (.cond (.tmp 69) (.ops [⟨(some 70), .off 5 (.tmp 15), none⟩,
      ⟨(some 71), .load1 (.tmp 70), none⟩,
      ⟨(some 72), .off 6 (.tmp 15), none⟩,
      ⟨(some 73), .load1 (.tmp 72), none⟩,
      ⟨(some 74), .mv (.tmp 13), none⟩,
      ⟨(some 75), .off 7 (.tmp 15), none⟩,
      ⟨(some 76), .load1 (.tmp 75), none⟩,
      ⟨(some 78), .off 8 (.tmp 15), none⟩,
      ⟨(some 79), .load1 (.tmp 78), none⟩,
      ⟨(some 81), .off 8 (.tmp 15), none⟩,
      ⟨(some 82), .load1 (.tmp 81), none⟩,
      ⟨(some 77), .callv (.tmp 74) [(.tmp 76), (.const (.int .i64 0))], none⟩,
      ⟨none, .again1 (.tmp 70) 71, none⟩,
      ⟨none, .again1 (.tmp 72) 73, none⟩,
      ⟨none, .again1 (.tmp 78) 79, none⟩,
      ⟨none, .again1 (.tmp 81) 82, none⟩,
      ⟨(some 80), .call n_bits_Place [(.tmp 73), (.tmp 77), (.tmp 79)], none⟩,
      ⟨none, .again1 (.tmp 70) 71, none⟩,
      ⟨none, .again1 (.tmp 81) 82, none⟩,
      ⟨(some 83), .call n_bits_Mask [(.tmp 80), (.tmp 82)], none⟩,
      ⟨none, .again1 (.tmp 70) 71, none⟩,
      ⟨(some 84), .build [(.int .i64 0), (.int .i64 0)] [(0, 1, (.tmp 71)), (1, 1, (.tmp 83))], none⟩,
      ⟨(some 85), .off 4 (.tmp 16), none⟩,
      ⟨none, .store 2 (.tmp 85) (.tmp 84), none⟩]) .skip))
    (.seq (.seq (.ops [⟨(some 86), .off 6 (.tmp 16), none⟩,
      ⟨(some 87), .load1 (.tmp 86), none⟩])
    (.cond (.tmp 87) (.seq (.seq (.ops [⟨(some 88), .mv (.tmp 2), none⟩,
      ⟨(some 89), .len (.tmp 88), none⟩,
      ⟨(some 90), .bin .eql (.tmp 89) (.const (.int .i64 0)), none⟩])
    (.cond (.tmp 90) (.seq (.ops [⟨(some 91), .build (List.replicate 8 (.int .i64 0)) [], none⟩,
      ⟨none, .store 8 (.tmp 6) (.tmp 91), none⟩,
      ⟨(some 7), .mv (.const (.slice none 0 0)), none⟩,
      ⟨(some 8), .mv (.const (.slice none 0 0)), none⟩,
      ⟨(some 9), .mv (.const (.int .i64 24)), none⟩])
    .ret) .skip))
    (.seq (.ops [⟨(some 92), .mv (.tmp 2), none⟩,
      ⟨(some 93), .atRow 1 (.tmp 92) (.const (.int .i64 0)), none⟩,
      ⟨(some 94), .load1 (.tmp 93), none⟩,
      ⟨(some 95), .off 8 (.tmp 15), none⟩,
      ⟨(some 96), .load1 (.tmp 95), none⟩,
      ⟨(some 97), .call n_bits_Get [(.tmp 94), (.const (.int .i64 0)), (.tmp 96)], none⟩,
      ⟨(some 98), .off 8 (.tmp 16), none⟩,
      ⟨none, .store1 (.tmp 98) (.tmp 97), none⟩])
    (.ops [⟨(some 99), .mv (.tmp 2), none⟩,
      ⟨(some 100), .slice 1 (.tmp 99) (some (.const (.int .i64 1))) none, none⟩,
      ⟨(some 2), .mv (.tmp 100), none⟩]))) .skip))
    (.seq (.ops [⟨(some 101), .off 8 (.tmp 16), none⟩,
      ⟨(some 102), .load1 (.tmp 101), none⟩,
      ⟨(some 17), .mv (.tmp 102), none⟩])
    (.seq (.seq (.ops [⟨(some 103), .off 0 (.tmp 15), none⟩,
      ⟨(some 104), .load1 (.tmp 103), none⟩])
    (.block 2 (.seq (.ops [⟨(some 106), .bin .eql (.tmp 104) (.const (.int .i64 1)), none⟩,
       ⟨(some 105), .mv (.tmp 106), none⟩])
     (.cond (.tmp 105) (.ops [⟨(some 107), .off 4 (.tmp 15), none⟩,
       ⟨(some 108), .load1 (.tmp 107), none⟩,
       ⟨(some 17), .mv (.tmp 108), none⟩]) (.seq (.ops [⟨(some 110), .bin .eql (.tmp 104) (.const (.int .i64 2)), none⟩,
       ⟨(some 109), .mv (.tmp 110), none⟩])
     (.cond (.tmp 109) (.ops [⟨(some 111), .off 2 (.tmp 15), none⟩,
       ⟨(some 112), .load1 (.tmp 111), none⟩,
       ⟨(some 113), .atArr 8 1 (.tmp 4) (.tmp 112), none⟩,
       ⟨(some 114), .load1 (.tmp 113), none⟩,
       ⟨(some 17), .mv (.tmp 114), none⟩]) (.seq (.ops [⟨(some 116), .bin .eql (.tmp 104) (.const (.int .i64 3)), none⟩,
       ⟨(some 115), .mv (.tmp 116), none⟩])
     (.cond (.tmp 115) (.ops [⟨(some 117), .off 9 (.tmp 15), none⟩,
       ⟨(some 118), .load1 (.tmp 117), none⟩,
       ⟨(some 119), .off 2 (.tmp 15), none⟩,
       ⟨(some 120), .load1 (.tmp 119), none⟩,
       ⟨(some 121), .atArr 8 1 (.tmp 4) (.tmp 120), none⟩,
       ⟨(some 122), .load1 (.tmp 121), none⟩,
       ⟨(some 123), .mv (.tmp 13), none⟩,
       ⟨(some 124), .off 3 (.tmp 15), none⟩,
       ⟨(some 125), .load1 (.tmp 124), none⟩,
       ⟨(some 126), .off 4 (.tmp 15), none⟩,
       ⟨(some 127), .load1 (.tmp 126), none⟩,
       ⟨(some 128), .callv (.tmp 123) [(.tmp 125), (.tmp 127)], none⟩,
       ⟨none, .again1 (.tmp 117) 118, none⟩,
       ⟨none, .again1 (.tmp 119) 120, none⟩,
       ⟨none, .again1 (.tmp 121) 122, none⟩,
       ⟨(some 129), .call n_bits_Alu [(.tmp 118), (.tmp 122), (.tmp 128)], none⟩,
       ⟨(some 17), .mv (.tmp 129), none⟩]) (.seq (.ops [⟨(some 131), .bin .eql (.tmp 104) (.const (.int .i64 5)), none⟩,
       ⟨(some 130), .mv (.tmp 131), none⟩])
     (.cond (.tmp 130) (.ops [⟨(some 132), .mv (.tmp 13), none⟩,
       ⟨(some 133), .off 2 (.tmp 15), none⟩,
       ⟨(some 134), .load1 (.tmp 133), none⟩,
       ⟨(some 135), .off 4 (.tmp 15), none⟩,
       ⟨(some 136), .load1 (.tmp 135), none⟩,
       ⟨(some 138), .off 8 (.tmp 15), none⟩,
       ⟨(some 139), .load1 (.tmp 138), none⟩,
       ⟨(some 137), .callv (.tmp 132) [(.tmp 134), (.tmp 136)], none⟩,
       ⟨none, .again1 (.tmp 138) 139, none⟩,
       ⟨(some 140), .call n_bits_Get [(.tmp 137), (.const (.int .i64 0)), (.tmp 139)], none⟩,
       ⟨(some 141), .off 9 (.tmp 16), none⟩,
       ⟨none, .store1 (.tmp 141) (.tmp 140), none⟩]) (.seq (.ops [⟨(some 143), .bin .eql (.tmp 104) (.const (.int .i64 6)), none⟩,
       ⟨(some 142), .mv (.tmp 143), none⟩])
     (.cond (.tmp 142) (.ops [⟨(some 144), .off 9 (.tmp 15), none⟩,
       ⟨(some 145), .load1 (.tmp 144), none⟩,
       ⟨(some 146), .off 8 (.tmp 16), none⟩,
       ⟨(some 147), .load1 (.tmp 146), none⟩,
       ⟨(some 148), .off 2 (.tmp 15), none⟩,
       ⟨(some 149), .load1 (.tmp 148), none⟩,
       ⟨(some 150), .atArr 8 1 (.tmp 4) (.tmp 149), none⟩,
       ⟨(some 151), .load1 (.tmp 150), none⟩,
       ⟨(some 152), .off 8 (.tmp 15), none⟩,
       ⟨(some 153), .load1 (.tmp 152), none⟩,
       ⟨(some 154), .call n_bits_Rmw [(.tmp 145), (.tmp 147), (.tmp 151), (.tmp 153)], none⟩,
       ⟨(some 155), .off 9 (.tmp 16), none⟩,
       ⟨none, .store1 (.tmp 155) (.tmp 154), none⟩]) (.seq (.ops [⟨(some 157), .bin .eql (.tmp 104) (.const (.int .i64 9)), none⟩,
       ⟨(some 156), .mv (.tmp 157), none⟩])
     (.cond (.tmp 156) (.seq (.ops [⟨(some 158), .off 2 (.tmp 15), none⟩,
       ⟨(some 159), .load1 (.tmp 158), none⟩,
       ⟨(some 160), .atArr 8 1 (.tmp 4) (.tmp 159), none⟩,
       ⟨(some 161), .load1 (.tmp 160), none⟩,
       ⟨(some 162), .bin .eql (.tmp 161) (.const (.int .i64 0)), none⟩,
       ⟨(some 163), .off 16 (.tmp 15), none⟩,
       ⟨(some 164), .load1 (.tmp 163), none⟩,
       ⟨(some 165), .eqv false .bool (.tmp 162) (.tmp 164), none⟩])
     (.cond (.tmp 165) (.ops [⟨(some 166), .off 15 (.tmp 15), none⟩,
       ⟨(some 167), .load1 (.tmp 166), none⟩,
       ⟨(some 14), .mv (.tmp 167), none⟩]) .skip)) .skip))))))))))))))
    (.seq (.seq (.ops [⟨(some 168), .load 17 (.tmp 15), none⟩,
      ⟨(some 169), .call n_uir_Gives [(.tmp 168)], none⟩,
      ⟨(some 18), .mv (.tmp 169), none⟩])
    (.seq (.ops [⟨(some 170), .mv (.tmp 18), none⟩,
      ⟨(some 171), .bin .geq (.tmp 170) (.const (.int .i64 0)), none⟩])
    (.cond (.tmp 171) (.ops [⟨(some 172), .mv (.tmp 18), none⟩,
      ⟨(some 173), .mv (.tmp 17), none⟩,
      ⟨(some 174), .atArr 8 1 (.tmp 4) (.tmp 172), none⟩,
      ⟨none, .store1 (.tmp 174) (.tmp 173), none⟩]) .skip)))
    (.seq (.ops [⟨(some 175), .off 6 (.tmp 16), none⟩,
      ⟨(some 176), .load1 (.tmp 175), none⟩,
      ⟨(some 177), .mv (.tmp 176), none⟩,
      ⟨(some 178), .off 7 (.tmp 16), (some (177, false))⟩,
      ⟨(some 179), .load1 (.tmp 178), (some (177, false))⟩,
      ⟨(some 180), .pick (.tmp 177) (.const (.bool true)) (.tmp 179), none⟩,
      ⟨(some 181), .mv (.tmp 180), none⟩,
      ⟨(some 182), .off 0 (.tmp 15), (some (181, false))⟩,
      ⟨(some 183), .load1 (.tmp 182), (some (181, false))⟩,
      ⟨(some 184), .bin .eql (.tmp 183) (.const (.int .i64 7)), (some (181, false))⟩,
      ⟨(some 185), .pick (.tmp 181) (.const (.bool true)) (.tmp 184), none⟩,
      ⟨(some 186), .mv (.tmp 185), none⟩,
      ⟨(some 187), .off 0 (.tmp 15), (some (186, false))⟩,
      ⟨(some 188), .load1 (.tmp 187), (some (186, false))⟩,
      ⟨(some 189), .bin .eql (.tmp 188) (.const (.int .i64 8)), (some (186, false))⟩,
      ⟨(some 190), .pick (.tmp 186) (.const (.bool true)) (.tmp 189), none⟩])
    (.cond (.tmp 190) (.ops [⟨(some 191), .mv (.tmp 7), none⟩,
      ⟨(some 192), .load 15 (.tmp 16), none⟩,
      ⟨(some 193), .mkRow (List.replicate 6 (.int .i64 0) ++ List.replicate 2 (.bool false) ++ List.replicate 2 (.int .i64 0) ++ List.replicate 3 (.bool false) ++ List.replicate 2 (.int .i64 0)) 1 [(0, 15, (.tmp 192))], none⟩,
      ⟨(some 194), .append 15 96 (.tmp 191) (.tmp 193), none⟩,
      ⟨(some 7), .mv (.tmp 194), none⟩]) .skip))))))))))))))))
 (.seq (.ops [⟨(some 195), .load 8 (.tmp 4), none⟩,
   ⟨(some 196), .mv (.tmp 7), none⟩,
   ⟨(some 197), .mv (.tmp 8), none⟩,
   ⟨none, .store 8 (.tmp 6) (.tmp 195), none⟩,
   ⟨(some 7), .mv (.tmp 196), none⟩,
   ⟨(some 8), .mv (.tmp 197), none⟩,
   ⟨(some 9), .mv (.const (.int .i64 0)), none⟩])
 .ret)))))⟩
def c_uir_Check : AFunc := ⟨74, [.tmp 2, .tmp 3, .tmp 4],
 (.seq (.ops [⟨(some 2), .mv (.const (.int .i64 0)), none⟩,
   ⟨(some 3), .mv (.const (.int .i64 0)), none⟩,
   ⟨(some 4), .mv (.const (.int .i64 0)), none⟩])
 (.seq (.seq (.ops [⟨(some 14), .mv (.tmp 0), none⟩,
   ⟨(some 15), .len (.tmp 14), none⟩,
   ⟨(some 16), .bin .lss (.tmp 15) (.const (.int .i64 1)), none⟩,
   ⟨(some 17), .mv (.tmp 16), none⟩,
   ⟨(some 18), .mv (.tmp 0), (some (17, false))⟩,
   ⟨(some 19), .len (.tmp 18), (some (17, false))⟩,
   ⟨(some 20), .bin .gtr (.tmp 19) (.const (.int .i64 3)), (some (17, false))⟩,
   ⟨(some 21), .pick (.tmp 17) (.const (.bool true)) (.tmp 20), none⟩])
 (.cond (.tmp 21) (.seq (.ops [⟨(some 2), .mv (.const (.int .i64 0)), none⟩,
   ⟨(some 3), .mv (.const (.int .i64 0)), none⟩,
   ⟨(some 4), .mv (.const (.int .i64 30)), none⟩])
 .ret) .skip))
 (.seq (.ops [⟨(some 5), .mv (.const (.int .i64 0)), none⟩,
   ⟨(some 6), .mv (.const (.int .i64 0)), none⟩])
 (.seq (.seq (.ops [⟨(some 22), .mv (.tmp 0), none⟩,
   ⟨(some 23), .len (.tmp 22), none⟩,
   ⟨(some 24), .mv (.const (.int .i64 0)), none⟩])
 (.block 0 (.loop (.seq (.ops [⟨(some 25), .bin .lss (.tmp 24) (.tmp 23), none⟩])
   (.seq (.cond (.tmp 25) .skip (.exit 0))
   (.seq (.block 1 (.seq (.ops [⟨(some 26), .mv (.tmp 24), none⟩,
      ⟨(some 27), .atRow 1 (.tmp 22) (.tmp 24), none⟩,
      ⟨(some 28), .load1 (.tmp 27), none⟩,
      ⟨(some 7), .mv (.tmp 26), none⟩,
      ⟨(some 8), .mv (.tmp 28), none⟩])
    (.seq (.seq (.ops [⟨(some 29), .mv (.tmp 8), none⟩,
      ⟨(some 30), .len (.tmp 29), none⟩,
      ⟨(some 31), .bin .gtr (.tmp 30) (.const (.int .i64 8)), none⟩])
    (.cond (.tmp 31) (.seq (.ops [⟨(some 32), .mv (.tmp 7), none⟩,
      ⟨(some 2), .mv (.tmp 32), none⟩,
      ⟨(some 3), .mv (.const (.int .i64 0)), none⟩,
      ⟨(some 4), .mv (.const (.int .i64 31)), none⟩])
    .ret) .skip))
    (.seq (.ops [⟨(some 33), .mv (.tmp 5), none⟩,
      ⟨(some 34), .mv (.tmp 8), none⟩,
      ⟨(some 35), .call n_uir_Ops [(.tmp 34)], none⟩,
      ⟨(some 36), .bin .add (.tmp 33) (.tmp 35), none⟩,
      ⟨(some 5), .mv (.tmp 36), none⟩])
    (.ops [⟨(some 37), .mv (.tmp 6), none⟩,
      ⟨(some 38), .mv (.tmp 8), none⟩,
      ⟨(some 39), .call n_uir_Branches [(.tmp 38)], none⟩,
      ⟨(some 40), .bin .add (.tmp 37) (.tmp 39), none⟩,
      ⟨(some 6), .mv (.tmp 40), none⟩])))))
   (.ops [⟨(some 41), .bin .add (.tmp 24) (.const (.int .i64 1)), none⟩,
     ⟨(some 24), .mv (.tmp 41), none⟩])))))))
 (.seq (.seq (.ops [⟨(some 42), .mv (.tmp 0), none⟩,
   ⟨(some 43), .len (.tmp 42), none⟩,
   ⟨(some 44), .mv (.const (.int .i64 0)), none⟩])
 (.block 2 (.loop (.seq (.ops [⟨(some 45), .bin .lss (.tmp 44) (.tmp 43), none⟩])
   (.seq (.cond (.tmp 45) .skip (.exit 2))
   (.seq (.block 3 (.seq (.ops [⟨(some 46), .mv (.tmp 44), none⟩,
      ⟨(some 47), .atRow 1 (.tmp 42) (.tmp 44), none⟩,
      ⟨(some 48), .load1 (.tmp 47), none⟩,
      ⟨(some 9), .mv (.tmp 46), none⟩,
      ⟨(some 10), .mv (.tmp 48), none⟩])
    (.seq (.ops [⟨(some 49), .mv (.tmp 10), none⟩,
      ⟨(some 50), .len (.tmp 49), none⟩,
      ⟨(some 51), .mv (.const (.int .i64 0)), none⟩])
    (.block 4 (.loop (.seq (.ops [⟨(some 52), .bin .lss (.tmp 51) (.tmp 50), none⟩])
      (.seq (.cond (.tmp 52) .skip (.exit 4))
      (.seq (.block 5 (.seq (.ops [⟨(some 53), .mv (.tmp 51), none⟩,
         ⟨(some 54), .atRow 17 (.tmp 49) (.tmp 51), none⟩,
         ⟨(some 55), .load 17 (.tmp 54), none⟩,
         ⟨(some 12), .alloc (List.replicate 10 (.int .i64 0) ++ List.replicate 3 (.bool false) ++ List.replicate 3 (.int .i64 0) ++ [(.bool false)]), none⟩,
         ⟨(some 11), .mv (.tmp 53), none⟩,
         ⟨none, .store 17 (.tmp 12) (.tmp 55), none⟩])
       (.seq (.ops [⟨(some 56), .load 17 (.tmp 12), none⟩,
         ⟨(some 57), .mv (.tmp 11), none⟩,
         ⟨(some 58), .mv (.tmp 10), none⟩,
         ⟨(some 59), .len (.tmp 58), none⟩,
         ⟨(some 60), .call n_uir_Right [(.tmp 56), (.tmp 57), (.tmp 59)], none⟩,
         ⟨(some 13), .mv (.tmp 60), none⟩])
       (.seq (.ops [⟨(some 61), .mv (.tmp 13), none⟩,
         ⟨(some 62), .bin .neq (.tmp 61) (.const (.int .i64 0)), none⟩])
       (.cond (.tmp 62) (.seq (.ops [⟨(some 63), .mv (.tmp 9), none⟩,
         ⟨(some 64), .mv (.tmp 11), none⟩,
         ⟨(some 65), .mv (.tmp 13), none⟩,
         ⟨(some 2), .mv (.tmp 63), none⟩,
         ⟨(some 3), .mv (.tmp 64), none⟩,
         ⟨(some 4), .mv (.tmp 65), none⟩])
       .ret) .skip)))))
      (.ops [⟨(some 66), .bin .add (.tmp 51) (.const (.int .i64 1)), none⟩,
        ⟨(some 51), .mv (.tmp 66), none⟩])))))))))
   (.ops [⟨(some 67), .bin .add (.tmp 44) (.const (.int .i64 1)), none⟩,
     ⟨(some 44), .mv (.tmp 67), none⟩])))))))
 (.seq (.block 6 (.seq (.ops [⟨(some 69), .mv (.tmp 5), none⟩,
    ⟨(some 70), .bin .gtr (.tmp 69) (.const (.int .i64 6)), none⟩,
    ⟨(some 68), .mv (.tmp 70), none⟩])
  (.cond (.tmp 68) (.seq (.ops [⟨(some 2), .mv (.const (.int .i64 0)), none⟩,
    ⟨(some 3), .mv (.const (.int .i64 0)), none⟩,
    ⟨(some 4), .mv (.const (.int .i64 32)), none⟩])
  .ret) (.seq (.ops [⟨(some 72), .mv (.tmp 6), none⟩,
    ⟨(some 73), .bin .gtr (.tmp 72) (.const (.int .i64 3)), none⟩,
    ⟨(some 71), .mv (.tmp 73), none⟩])
  (.cond (.tmp 71) (.seq (.ops [⟨(some 2), .mv (.const (.int .i64 0)), none⟩,
    ⟨(some 3), .mv (.const (.int .i64 0)), none⟩,
    ⟨(some 4), .mv (.const (.int .i64 33)), none⟩])
  .ret) .skip)))))
 (.seq (.ops [⟨(some 2), .mv (.const (.int .i64 0)), none⟩,
   ⟨(some 3), .mv (.const (.int .i64 0)), none⟩,
   ⟨(some 4), .mv (.const (.int .i64 0)), none⟩])
 .ret)))))))⟩
def c_flow_Paths_1 : AFunc := ⟨49, [],
 (.seq (.seq (.ops [⟨(some 8), .mv (.tmp 1), none⟩,
   ⟨(some 9), .bin .lss (.tmp 8) (.const (.int .i64 0)), none⟩,
   ⟨(some 10), .mv (.tmp 9), none⟩,
   ⟨(some 11), .mv (.tmp 1), (some (10, false))⟩,
   ⟨(some 12), .load1 (.tmp 2), (some (10, false))⟩,
   ⟨(some 13), .len (.tmp 12), (some (10, false))⟩,
   ⟨(some 14), .bin .geq (.tmp 11) (.tmp 13), (some (10, false))⟩,
   ⟨(some 15), .pick (.tmp 10) (.const (.bool true)) (.tmp 14), none⟩])
 (.cond (.tmp 15) (.seq (.ops [⟨(some 16), .load1 (.tmp 3), none⟩,
   ⟨(some 17), .mv (.tmp 0), none⟩,
   ⟨(some 18), .mkRow [(.slice none 0 0)] 1 [(0, 1, (.tmp 17))], none⟩,
   ⟨(some 19), .append 1 24 (.tmp 16) (.tmp 18), none⟩,
   ⟨none, .store1 (.tmp 3) (.tmp 19), none⟩])
 .ret) .skip))
 (.seq (.ops [⟨(some 20), .load1 (.tmp 2), none⟩,
   ⟨(some 21), .mv (.tmp 1), none⟩,
   ⟨(some 22), .atRow 17 (.tmp 20) (.tmp 21), none⟩,
   ⟨(some 23), .load 17 (.tmp 22), none⟩,
   ⟨(some 7), .alloc (List.replicate 10 (.int .i64 0) ++ List.replicate 3 (.bool false) ++ List.replicate 3 (.int .i64 0) ++ [(.bool false)]), none⟩,
   ⟨none, .store 17 (.tmp 7) (.tmp 23), none⟩])
 (.seq (.ops [⟨(some 24), .mv (.tmp 0), none⟩,
   ⟨(some 25), .call n_slices_Clone_int_int [(.tmp 24)], none⟩,
   ⟨(some 26), .mv (.tmp 1), none⟩,
   ⟨(some 27), .mkRow [(.int .i64 0)] 1 [(0, 1, (.tmp 26))], none⟩,
   ⟨(some 28), .append 1 8 (.tmp 25) (.tmp 27), none⟩,
   ⟨(some 0), .mv (.tmp 28), none⟩])
 (.seq (.ops [⟨(some 29), .load1 (.tmp 4), none⟩,
   ⟨(some 30), .mv (.tmp 0), none⟩,
   ⟨(some 31), .mv (.tmp 1), none⟩,
   ⟨(some 32), .bin .add (.tmp 31) (.const (.int .i64 1)), none⟩,
   ⟨(some 33), .callv (.tmp 29) [(.tmp 30), (.tmp 32)], none⟩])
 (.seq (.ops [⟨(some 34), .off 0 (.tmp 7), none⟩,
   ⟨(some 35), .load1 (.tmp 34), none⟩,
   ⟨(some 36), .bin .eql (.tmp 35) (.const (.int .i64 9)), none⟩,
   ⟨(some 37), .mv (.tmp 36), none⟩,
   ⟨(some 38), .off 15 (.tmp 7), (some (37, true))⟩,
   ⟨(some 39), .load1 (.tmp 38), (some (37, true))⟩,
   ⟨(some 40), .mv (.tmp 1), (some (37, true))⟩,
   ⟨(some 41), .bin .add (.tmp 40) (.const (.int .i64 1)), (some (37, true))⟩,
   ⟨(some 42), .bin .gtr (.tmp 39) (.tmp 41), (some (37, true))⟩,
   ⟨(some 43), .pick (.tmp 37) (.tmp 42) (.const (.bool false)), none⟩])
 (.cond (.tmp 43) (.ops [⟨(some 44), .load1 (.tmp 4), none⟩,
   ⟨(some 45), .mv (.tmp 0), none⟩,
   ⟨(some 46), .off 15 (.tmp 7), none⟩,
   ⟨(some 47), .load1 (.tmp 46), none⟩,
   ⟨(some 48), .callv (.tmp 44) [(.tmp 45), (.tmp 47)], none⟩]) .skip))))))⟩
def c_slices_Clone_int_int : AFunc := ⟨8, [.tmp 2],
 (.seq (.ops [⟨(some 2), .mv (.const (.slice none 0 0)), none⟩])
 (.seq (.seq (.ops [⟨(some 3), .mv (.tmp 0), none⟩,
   ⟨(some 4), .eqv false .slice (.tmp 3) (.const (.slice none 0 0)), none⟩])
 (.cond (.tmp 4) (.seq (.ops [⟨(some 2), .mv (.const (.slice none 0 0)), none⟩])
 .ret) .skip))
 (.seq (.ops [⟨(some 5), .mkRow [(.int .i64 0)] 0 [], none⟩,
   ⟨(some 6), .mv (.tmp 0), none⟩,
   ⟨(some 7), .append 1 8 (.tmp 5) (.tmp 6), none⟩,
   ⟨(some 2), .mv (.tmp 7), none⟩])
 .ret)))⟩
def c_belatedref10_from : AFunc := ⟨57, [.tmp 4],
 (.seq (.ops [⟨(some 4), .mv (.const (.slice none 0 0)), none⟩])
 (.seq (.ops [⟨(some 5), .mv (.const (.slice none 0 0)), none⟩])
 (.seq (.seq (.ops [⟨(some 6), .mv (.tmp 1), none⟩,
   ⟨(some 7), .mv (.tmp 0), none⟩,
   ⟨(some 8), .len (.tmp 7), none⟩,
   ⟨(some 9), .bin .geq (.tmp 6) (.tmp 8), none⟩])
 (.cond (.tmp 9) (.seq (.ops [⟨(some 10), .mv (.tmp 5), none⟩,
   ⟨(some 11), .mkRow [(.slice none 0 0)] 1 [(0, 1, (.const (.slice none 0 0)))], none⟩,
   ⟨(some 12), .append 1 24 (.tmp 10) (.tmp 11), none⟩,
   ⟨(some 4), .mv (.tmp 12), none⟩])
 .ret) .skip))
 (.seq (.ops [⟨(some 13), .mv (.tmp 5), none⟩,
   ⟨(some 14), .mv (.tmp 1), none⟩,
   ⟨(some 15), .mv (.tmp 0), none⟩,
   ⟨(some 16), .mv (.tmp 1), none⟩,
   ⟨(some 17), .bin .add (.tmp 16) (.const (.int .i64 1)), none⟩,
   ⟨(some 18), .call n_belatedref10_from [(.tmp 15), (.tmp 17)], none⟩,
   ⟨(some 19), .call n_belatedref10_more [(.tmp 13), (.tmp 14), (.tmp 18)], none⟩,
   ⟨(some 5), .mv (.tmp 19), none⟩])
 (.seq (.seq (.ops [⟨(some 20), .mv (.tmp 0), none⟩,
   ⟨(some 21), .mv (.tmp 1), none⟩,
   ⟨(some 22), .atRow 17 (.tmp 20) (.tmp 21), none⟩,
   ⟨(some 23), .off 0 (.tmp 22), none⟩,
   ⟨(some 24), .load1 (.tmp 23), none⟩,
   ⟨(some 25), .bin .eql (.tmp 24) (.const (.int .i64 9)), none⟩,
   ⟨(some 26), .mv (.tmp 25), none⟩,
   ⟨(some 27), .mv (.tmp 0), (some (26, true))⟩,
   ⟨(some 28), .mv (.tmp 1), (some (26, true))⟩,
   ⟨(some 29), .atRow 17 (.tmp 27) (.tmp 28), (some (26, true))⟩,
   ⟨(some 30), .off 15 (.tmp 29), (some (26, true))⟩,
   ⟨(some 31), .load1 (.tmp 30), (some (26, true))⟩,
   ⟨(some 32), .mv (.tmp 1), (some (26, true))⟩,
   ⟨(some 33), .bin .add (.tmp 32) (.const (.int .i64 1)), (some (26, true))⟩,
   ⟨(some 34), .bin .gtr (.tmp 31) (.tmp 33), (some (26, true))⟩,
   ⟨(some 35), .pick (.tmp 26) (.tmp 34) (.const (.bool false)), none⟩,
   ⟨(some 36), .mv (.tmp 35), none⟩,
   ⟨(some 37), .mv (.tmp 0), (some (36, true))⟩,
   ⟨(some 38), .mv (.tmp 1), (some (36, true))⟩,
   ⟨(some 39), .atRow 17 (.tmp 37) (.tmp 38), (some (36, true))⟩,
   ⟨(some 40), .off 15 (.tmp 39), (some (36, true))⟩,
   ⟨(some 41), .load1 (.tmp 40), (some (36, true))⟩,
   ⟨(some 42), .mv (.tmp 0), (some (36, true))⟩,
   ⟨(some 43), .len (.tmp 42), (some (36, true))⟩,
   ⟨(some 44), .bin .leq (.tmp 41) (.tmp 43), (some (36, true))⟩,
   ⟨(some 45), .pick (.tmp 36) (.tmp 44) (.const (.bool false)), none⟩])
 (.cond (.tmp 45) (.ops [⟨(some 46), .mv (.tmp 5), none⟩,
   ⟨(some 47), .mv (.tmp 1), none⟩,
   ⟨(some 48), .mv (.tmp 0), none⟩,
   ⟨(some 49), .mv (.tmp 0), none⟩,
   ⟨(some 50), .mv (.tmp 1), none⟩,
   ⟨(some 51), .atRow 17 (.tmp 49) (.tmp 50), none⟩,
   ⟨(some 52), .off 15 (.tmp 51), none⟩,
   ⟨(some 53), .load1 (.tmp 52), none⟩,
   ⟨(some 54), .call n_belatedref10_from [(.tmp 48), (.tmp 53)], none⟩,
   ⟨(some 55), .call n_belatedref10_more [(.tmp 46), (.tmp 47), (.tmp 54)], none⟩,
   ⟨(some 5), .mv (.tmp 55), none⟩]) .skip))
 (.seq (.ops [⟨(some 56), .mv (.tmp 5), none⟩,
   ⟨(some 4), .mv (.tmp 56), none⟩])
 .ret))))))⟩
def c_flow_ins : AFunc := ⟨40, [.cells 6 17, .tmp 7],
 (.seq (.ops [⟨(some 6), .alloc (List.replicate 10 (.int .i64 0) ++ List.replicate 3 (.bool false) ++ List.replicate 3 (.int .i64 0) ++ [(.bool false)]), none⟩,
   ⟨(some 7), .mv (.const (.bool false)), none⟩])
 (.seq (.seq (.ops [⟨(some 8), .mv (.tmp 2), none⟩,
   ⟨(some 9), .bin .lss (.tmp 8) (.const (.int .i64 0)), none⟩,
   ⟨(some 10), .mv (.tmp 9), none⟩,
   ⟨(some 11), .mv (.tmp 2), (some (10, false))⟩,
   ⟨(some 12), .mv (.tmp 1), (some (10, false))⟩,
   ⟨(some 13), .len (.tmp 12), (some (10, false))⟩,
   ⟨(some 14), .bin .geq (.tmp 11) (.tmp 13), (some (10, false))⟩,
   ⟨(some 15), .pick (.tmp 10) (.const (.bool true)) (.tmp 14), none⟩,
   ⟨(some 16), .mv (.tmp 15), none⟩,
   ⟨(some 17), .mv (.tmp 1), (some (16, false))⟩,
   ⟨(some 18), .mv (.tmp 2), (some (16, false))⟩,
   ⟨(some 19), .atRow 1 (.tmp 17) (.tmp 18), (some (16, false))⟩,
   ⟨(some 20), .load1 (.tmp 19), (some (16, false))⟩,
   ⟨(some 21), .bin .lss (.tmp 20) (.const (.int .i64 0)), (some (16, false))⟩,
   ⟨(some 22), .pick (.tmp 16) (.const (.bool true)) (.tmp 21), none⟩,
   ⟨(some 23), .mv (.tmp 22), none⟩,
   ⟨(some 24), .mv (.tmp 1), (some (23, false))⟩,
   ⟨(some 25), .mv (.tmp 2), (some (23, false))⟩,
   ⟨(some 26), .atRow 1 (.tmp 24) (.tmp 25), (some (23, false))⟩,
   ⟨(some 27), .load1 (.tmp 26), (some (23, false))⟩,
   ⟨(some 28), .mv (.tmp 0), (some (23, false))⟩,
   ⟨(some 29), .len (.tmp 28), (some (23, false))⟩,
   ⟨(some 30), .bin .geq (.tmp 27) (.tmp 29), (some (23, false))⟩,
   ⟨(some 31), .pick (.tmp 23) (.const (.bool true)) (.tmp 30), none⟩])
 (.cond (.tmp 31) (.seq (.ops [⟨(some 32), .build (List.replicate 10 (.int .i64 0) ++ List.replicate 3 (.bool false) ++ List.replicate 3 (.int .i64 0) ++ [(.bool false)]) [], none⟩,
   ⟨none, .store 17 (.tmp 6) (.tmp 32), none⟩,
   ⟨(some 7), .mv (.const (.bool false)), none⟩])
 .ret) .skip))
 (.seq (.ops [⟨(some 33), .mv (.tmp 0), none⟩,
   ⟨(some 34), .mv (.tmp 1), none⟩,
   ⟨(some 35), .mv (.tmp 2), none⟩,
   ⟨(some 36), .atRow 1 (.tmp 34) (.tmp 35), none⟩,
   ⟨(some 37), .load1 (.tmp 36), none⟩,
   ⟨(some 38), .atRow 17 (.tmp 33) (.tmp 37), none⟩,
   ⟨(some 39), .load 17 (.tmp 38), none⟩,
   ⟨none, .store 17 (.tmp 6) (.tmp 39), none⟩,
   ⟨(some 7), .mv (.const (.bool true)), none⟩])
 .ret)))⟩
def c_uir_Ops : AFunc := ⟨22, [.tmp 2],
 (.seq (.ops [⟨(some 2), .mv (.const (.int .i64 0)), none⟩])
 (.seq (.ops [⟨(some 3), .mv (.const (.int .i64 0)), none⟩])
 (.seq (.seq (.ops [⟨(some 6), .mv (.tmp 0), none⟩,
   ⟨(some 7), .len (.tmp 6), none⟩,
   ⟨(some 8), .mv (.const (.int .i64 0)), none⟩])
 (.block 0 (.loop (.seq (.ops [⟨(some 9), .bin .lss (.tmp 8) (.tmp 7), none⟩])
   (.seq (.cond (.tmp 9) .skip (.exit 0))
   (.seq (.block 1 (.seq (.ops [⟨(some 10), .atRow 17 (.tmp 6) (.tmp 8), none⟩,
      ⟨(some 11), .load 17 (.tmp 10), none⟩,
      ⟨(some 5), .alloc (List.replicate 10 (.int .i64 0) ++ List.replicate 3 (.bool false) ++ List.replicate 3 (.int .i64 0) ++ [(.bool false)]), none⟩,
      ⟨none, .store 17 (.tmp 5) (.tmp 11), none⟩])
    (.seq (.ops [⟨(some 12), .load 17 (.tmp 5), none⟩,
      ⟨(some 13), .call n_uir_Reads [(.tmp 12)], none⟩,
      ⟨(some 14), .mv (.tmp 13), none⟩,
      ⟨(some 15), .load 17 (.tmp 5), (some (14, false))⟩,
      ⟨(some 16), .call n_uir_Writes [(.tmp 15)], (some (14, false))⟩,
      ⟨(some 17), .pick (.tmp 14) (.const (.bool true)) (.tmp 16), none⟩])
    (.cond (.tmp 17) (.ops [⟨(some 18), .mv (.tmp 3), none⟩,
      ⟨(some 19), .bin .add (.tmp 18) (.const (.int .i64 1)), none⟩,
      ⟨(some 3), .mv (.tmp 19), none⟩]) .skip))))
   (.ops [⟨(some 20), .bin .add (.tmp 8) (.const (.int .i64 1)), none⟩,
     ⟨(some 8), .mv (.tmp 20), none⟩])))))))
 (.seq (.ops [⟨(some 21), .mv (.tmp 3), none⟩,
   ⟨(some 2), .mv (.tmp 21), none⟩])
 .ret))))⟩
def c_flow_hangs : AFunc := ⟨65, [.tmp 8],
 (.seq (.ops [⟨(some 8), .mv (.const (.int .i64 0)), none⟩])
 (.seq (.ops [⟨(some 9), .mv (.const (.int .i64 0)), none⟩])
 (.seq (.seq (.ops [⟨(some 15), .mv (.tmp 3), none⟩,
   ⟨(some 16), .len (.tmp 15), none⟩,
   ⟨(some 17), .mv (.const (.int .i64 0)), none⟩])
 (.block 0 (.loop (.seq (.ops [⟨(some 18), .bin .lss (.tmp 17) (.tmp 16), none⟩])
   (.seq (.cond (.tmp 18) .skip (.exit 0))
   (.seq (.block 1 (.seq (.ops [⟨(some 19), .atRow 1 (.tmp 15) (.tmp 17), none⟩,
      ⟨(some 20), .load1 (.tmp 19), none⟩,
      ⟨(some 11), .mv (.tmp 20), none⟩])
    (.seq (.ops [⟨(some 21), .mv (.tmp 0), none⟩,
      ⟨(some 22), .mv (.tmp 1), none⟩,
      ⟨(some 23), .mv (.tmp 2), none⟩,
      ⟨(some 24), .mv (.tmp 11), none⟩,
      ⟨(some 25), .call n_flow_Def [(.tmp 21), (.tmp 22), (.tmp 23), (.tmp 24)], none⟩,
      ⟨(some 12), .mv (.tmp 25), none⟩])
    (.seq (.ops [⟨(some 27), .mv (.tmp 0), none⟩,
      ⟨(some 28), .mv (.tmp 1), none⟩,
      ⟨(some 29), .mv (.tmp 12), none⟩,
      ⟨(some 30), .call n_flow_ins [(.tmp 27), (.tmp 28), (.tmp 29)], none⟩,
      ⟨(some 26), .mv (.tmp 30), none⟩,
      ⟨(some 31), .extract (.tmp 26) 0, none⟩,
      ⟨(some 32), .extract (.tmp 26) 1, none⟩,
      ⟨(some 13), .alloc (List.replicate 10 (.int .i64 0) ++ List.replicate 3 (.bool false) ++ List.replicate 3 (.int .i64 0) ++ [(.bool false)]), none⟩,
      ⟨none, .store 17 (.tmp 13) (.tmp 31), none⟩,
      ⟨(some 14), .mv (.tmp 32), none⟩])
    (.block 2 (.seq (.ops [⟨(some 34), .mv (.tmp 14), none⟩,
       ⟨(some 35), .un .not (.tmp 34), none⟩,
       ⟨(some 33), .mv (.tmp 35), none⟩])
     (.cond (.tmp 33) .skip (.seq (.ops [⟨(some 37), .load 17 (.tmp 13), none⟩,
       ⟨(some 38), .call n_uir_Reads [(.tmp 37)], none⟩,
       ⟨(some 36), .mv (.tmp 38), none⟩])
     (.cond (.tmp 36) (.ops [⟨(some 39), .mv (.tmp 9), none⟩,
       ⟨(some 40), .mv (.tmp 12), none⟩,
       ⟨(some 41), .bin .shl (.const (.int .i64 1)) (.tmp 40), none⟩,
       ⟨(some 42), .bin .or (.tmp 39) (.tmp 41), none⟩,
       ⟨(some 9), .mv (.tmp 42), none⟩]) (.seq (.ops [⟨(some 44), .off 0 (.tmp 13), none⟩,
       ⟨(some 45), .load1 (.tmp 44), none⟩,
       ⟨(some 46), .bin .eql (.tmp 45) (.const (.int .i64 2)), none⟩,
       ⟨(some 47), .mv (.tmp 46), none⟩,
       ⟨(some 48), .off 0 (.tmp 13), (some (47, false))⟩,
       ⟨(some 49), .load1 (.tmp 48), (some (47, false))⟩,
       ⟨(some 50), .bin .eql (.tmp 49) (.const (.int .i64 3)), (some (47, false))⟩,
       ⟨(some 51), .pick (.tmp 47) (.const (.bool true)) (.tmp 50), none⟩,
       ⟨(some 43), .mv (.tmp 51), none⟩])
     (.cond (.tmp 43) (.ops [⟨(some 52), .mv (.tmp 9), none⟩,
       ⟨(some 53), .mv (.tmp 0), none⟩,
       ⟨(some 54), .mv (.tmp 1), none⟩,
       ⟨(some 55), .mv (.tmp 12), none⟩,
       ⟨(some 56), .off 2 (.tmp 13), none⟩,
       ⟨(some 57), .load1 (.tmp 56), none⟩,
       ⟨(some 58), .off 3 (.tmp 13), none⟩,
       ⟨(some 59), .load1 (.tmp 58), none⟩,
       ⟨(some 60), .mkRow [(.int .i64 0)] 2 [(0, 1, (.tmp 57)), (1, 1, (.tmp 59))], none⟩,
       ⟨(some 61), .call n_flow_hangs [(.tmp 53), (.tmp 54), (.tmp 55), (.tmp 60)], none⟩,
       ⟨(some 62), .bin .or (.tmp 52) (.tmp 61), none⟩,
       ⟨(some 9), .mv (.tmp 62), none⟩]) .skip)))))))))))
   (.ops [⟨(some 63), .bin .add (.tmp 17) (.const (.int .i64 1)), none⟩,
     ⟨(some 17), .mv (.tmp 63), none⟩])))))))
 (.seq (.ops [⟨(some 64), .mv (.tmp 9), none⟩,
   ⟨(some 8), .mv (.tmp 64), none⟩])
 .ret))))⟩
def c_belatedref3_Memory : AFunc := ⟨16, [.tmp 2],
 (.seq (.ops [⟨(some 1), .box 17 (.tmp 0), none⟩,
   ⟨(some 2), .mv (.const (.bool false)), none⟩])
 (.seq (.ops [⟨(some 3), .off 0 (.tmp 1), none⟩,
   ⟨(some 4), .load1 (.tmp 3), none⟩,
   ⟨(some 5), .bin .eql (.tmp 4) (.const (.int .i64 4)), none⟩,
   ⟨(some 6), .mv (.tmp 5), none⟩,
   ⟨(some 7), .off 0 (.tmp 1), (some (6, false))⟩,
   ⟨(some 8), .load1 (.tmp 7), (some (6, false))⟩,
   ⟨(some 9), .bin .eql (.tmp 8) (.const (.int .i64 5)), (some (6, false))⟩,
   ⟨(some 10), .pick (.tmp 6) (.const (.bool true)) (.tmp 9), none⟩,
   ⟨(some 11), .mv (.tmp 10), none⟩,
   ⟨(some 12), .off 0 (.tmp 1), (some (11, false))⟩,
   ⟨(some 13), .load1 (.tmp 12), (some (11, false))⟩,
   ⟨(some 14), .bin .eql (.tmp 13) (.const (.int .i64 6)), (some (11, false))⟩,
   ⟨(some 15), .pick (.tmp 11) (.const (.bool true)) (.tmp 14), none⟩,
   ⟨(some 2), .mv (.tmp 15), none⟩])
 .ret))⟩
def c_belatedref10_hangs : AFunc := ⟨55, [.tmp 8],
 (.seq (.ops [⟨(some 8), .mv (.const (.int .i64 0)), none⟩])
 (.seq (.ops [⟨(some 11), .mv (.tmp 0), none⟩,
   ⟨(some 12), .mv (.tmp 1), none⟩,
   ⟨(some 13), .mv (.tmp 2), none⟩,
   ⟨(some 14), .mv (.tmp 3), none⟩,
   ⟨(some 15), .call n_belatedref10_Def [(.tmp 11), (.tmp 12), (.tmp 13), (.tmp 14)], none⟩,
   ⟨(some 9), .mv (.tmp 15), none⟩])
 (.seq (.seq (.ops [⟨(some 16), .mv (.tmp 9), none⟩,
   ⟨(some 17), .bin .lss (.tmp 16) (.const (.int .i64 0)), none⟩])
 (.cond (.tmp 17) (.seq (.ops [⟨(some 8), .mv (.const (.int .i64 0)), none⟩])
 .ret) .skip))
 (.seq (.ops [⟨(some 18), .mv (.tmp 0), none⟩,
   ⟨(some 19), .mv (.tmp 1), none⟩,
   ⟨(some 20), .mv (.tmp 9), none⟩,
   ⟨(some 21), .atRow 1 (.tmp 19) (.tmp 20), none⟩,
   ⟨(some 22), .load1 (.tmp 21), none⟩,
   ⟨(some 23), .atRow 17 (.tmp 18) (.tmp 22), none⟩,
   ⟨(some 24), .load 17 (.tmp 23), none⟩,
   ⟨(some 10), .alloc (List.replicate 10 (.int .i64 0) ++ List.replicate 3 (.bool false) ++ List.replicate 3 (.int .i64 0) ++ [(.bool false)]), none⟩,
   ⟨none, .store 17 (.tmp 10) (.tmp 24), none⟩])
 (.seq (.seq (.ops [⟨(some 25), .off 0 (.tmp 10), none⟩,
   ⟨(some 26), .load1 (.tmp 25), none⟩])
 (.block 0 (.seq (.ops [⟨(some 28), .bin .eql (.tmp 26) (.const (.int .i64 2)), none⟩,
    ⟨(some 27), .mv (.tmp 28), none⟩])
  (.cond (.tmp 27) (.seq (.ops [⟨(some 29), .mv (.tmp 0), none⟩,
    ⟨(some 30), .mv (.tmp 1), none⟩,
    ⟨(some 31), .mv (.tmp 9), none⟩,
    ⟨(some 32), .off 2 (.tmp 10), none⟩,
    ⟨(some 33), .load1 (.tmp 32), none⟩,
    ⟨(some 34), .call n_belatedref10_hangs [(.tmp 29), (.tmp 30), (.tmp 31), (.tmp 33)], none⟩,
    ⟨(some 8), .mv (.tmp 34), none⟩])
  .ret) (.seq (.ops [⟨(some 36), .bin .eql (.tmp 26) (.const (.int .i64 3)), none⟩,
    ⟨(some 35), .mv (.tmp 36), none⟩])
  (.cond (.tmp 35) (.seq (.ops [⟨(some 37), .mv (.tmp 0), none⟩,
    ⟨(some 38), .mv (.tmp 1), none⟩,
    ⟨(some 39), .mv (.tmp 9), none⟩,
    ⟨(some 40), .off 2 (.tmp 10), none⟩,
    ⟨(some 41), .load1 (.tmp 40), none⟩,
    ⟨(some 43), .mv (.tmp 0), none⟩,
    ⟨(some 44), .mv (.tmp 1), none⟩,
    ⟨(some 45), .mv (.tmp 9), none⟩,
    ⟨(some 46), .off 3 (.tmp 10), none⟩,
    ⟨(some 47), .load1 (.tmp 46), none⟩,
    ⟨(some 42), .call n_belatedref10_hangs [(.tmp 37), (.tmp 38), (.tmp 39), (.tmp 41)], none⟩,
    ⟨none, .again1 (.tmp 46) 47, none⟩,
    ⟨(some 48), .call n_belatedref10_hangs [(.tmp 43), (.tmp 44), (.tmp 45), (.tmp 47)], none⟩,
    ⟨(some 49), .bin .or (.tmp 42) (.tmp 48), none⟩,
    ⟨(some 8), .mv (.tmp 49), none⟩])
  .ret) (.seq (.seq (.ops [⟨(some 51), .bin .eql (.tmp 26) (.const (.int .i64 4)), none⟩,
    ⟨(some 50), .mv (.tmp 51), none⟩])
  (.cond (.tmp 50) .skip (.ops [⟨(some 52), .bin .eql (.tmp 26) (.const (.int .i64 6)), none⟩,
    ⟨(some 50), .mv (.tmp 52), none⟩])))
  (.cond (.tmp 50) (.seq (.ops [⟨(some 53), .mv (.tmp 9), none⟩,
    ⟨(some 54), .bin .shl (.const (.int .i64 1)) (.tmp 53), none⟩,
    ⟨(some 8), .mv (.tmp 54), none⟩])
  .ret) .skip))))))))
 (.seq (.ops [⟨(some 8), .mv (.const (.int .i64 0)), none⟩])
 .ret))))))⟩
def c_belatedref3_Writes : AFunc := ⟨11, [.tmp 2],
 (.seq (.ops [⟨(some 1), .box 17 (.tmp 0), none⟩,
   ⟨(some 2), .mv (.const (.bool false)), none⟩])
 (.seq (.ops [⟨(some 3), .off 0 (.tmp 1), none⟩,
   ⟨(some 4), .load1 (.tmp 3), none⟩,
   ⟨(some 5), .bin .eql (.tmp 4) (.const (.int .i64 5)), none⟩,
   ⟨(some 6), .mv (.tmp 5), none⟩,
   ⟨(some 7), .off 0 (.tmp 1), (some (6, false))⟩,
   ⟨(some 8), .load1 (.tmp 7), (some (6, false))⟩,
   ⟨(some 9), .bin .eql (.tmp 8) (.const (.int .i64 6)), (some (6, false))⟩,
   ⟨(some 10), .pick (.tmp 6) (.const (.bool true)) (.tmp 9), none⟩,
   ⟨(some 2), .mv (.tmp 10), none⟩])
 .ret))⟩
def c_bits_Alu : AFunc := ⟨33, [.tmp 6],
 (.seq (.ops [⟨(some 6), .mv (.const (.int .i64 0)), none⟩])
 (.seq (.seq (.ops [⟨(some 7), .mv (.tmp 0), none⟩])
 (.block 0 (.seq (.ops [⟨(some 9), .bin .eql (.tmp 7) (.const (.int .i64 1)), none⟩,
    ⟨(some 8), .mv (.tmp 9), none⟩])
  (.cond (.tmp 8) (.seq (.ops [⟨(some 10), .mv (.tmp 1), none⟩,
    ⟨(some 11), .mv (.tmp 2), none⟩,
    ⟨(some 12), .bin .add (.tmp 10) (.tmp 11), none⟩,
    ⟨(some 6), .mv (.tmp 12), none⟩])
  .ret) (.seq (.ops [⟨(some 14), .bin .eql (.tmp 7) (.const (.int .i64 2)), none⟩,
    ⟨(some 13), .mv (.tmp 14), none⟩])
  (.cond (.tmp 13) (.seq (.ops [⟨(some 15), .mv (.tmp 1), none⟩,
    ⟨(some 16), .mv (.tmp 2), none⟩,
    ⟨(some 17), .bin .sub (.tmp 15) (.tmp 16), none⟩,
    ⟨(some 6), .mv (.tmp 17), none⟩])
  .ret) (.seq (.ops [⟨(some 19), .bin .eql (.tmp 7) (.const (.int .i64 3)), none⟩,
    ⟨(some 18), .mv (.tmp 19), none⟩])
  (.cond (.tmp 18) (.seq (.ops [⟨(some 20), .mv (.tmp 1), none⟩,
    ⟨(some 21), .mv (.tmp 2), none⟩,
    ⟨(some 22), .bin .xor (.tmp 20) (.tmp 21), none⟩,
    ⟨(some 6), .mv (.tmp 22), none⟩])
  .ret) (.seq (.ops [⟨(some 24), .bin .eql (.tmp 7) (.const (.int .i64 4)), none⟩,
    ⟨(some 23), .mv (.tmp 24), none⟩])
  (.cond (.tmp 23) (.seq (.ops [⟨(some 25), .mv (.tmp 1), none⟩,
    ⟨(some 26), .mv (.tmp 2), none⟩,
    ⟨(some 27), .bin .and (.tmp 25) (.tmp 26), none⟩,
    ⟨(some 6), .mv (.tmp 27), none⟩])
  .ret) (.seq (.ops [⟨(some 29), .bin .eql (.tmp 7) (.const (.int .i64 5)), none⟩,
    ⟨(some 28), .mv (.tmp 29), none⟩])
  (.cond (.tmp 28) (.seq (.ops [⟨(some 30), .mv (.tmp 1), none⟩,
    ⟨(some 31), .mv (.tmp 2), none⟩,
    ⟨(some 32), .bin .or (.tmp 30) (.tmp 31), none⟩,
    ⟨(some 6), .mv (.tmp 32), none⟩])
  .ret) .skip))))))))))))
 (.seq (.ops [⟨(some 6), .mv (.const (.int .i64 0)), none⟩])
 .ret)))⟩
def c_belatedref1_Alu : AFunc := ⟨33, [.tmp 6],
 (.seq (.ops [⟨(some 6), .mv (.const (.int .i64 0)), none⟩])
 (.seq (.seq (.ops [⟨(some 7), .mv (.tmp 0), none⟩])
 (.block 0 (.seq (.ops [⟨(some 9), .bin .eql (.tmp 7) (.const (.int .i64 1)), none⟩,
    ⟨(some 8), .mv (.tmp 9), none⟩])
  (.cond (.tmp 8) (.seq (.ops [⟨(some 10), .mv (.tmp 1), none⟩,
    ⟨(some 11), .mv (.tmp 2), none⟩,
    ⟨(some 12), .bin .add (.tmp 10) (.tmp 11), none⟩,
    ⟨(some 6), .mv (.tmp 12), none⟩])
  .ret) (.seq (.ops [⟨(some 14), .bin .eql (.tmp 7) (.const (.int .i64 2)), none⟩,
    ⟨(some 13), .mv (.tmp 14), none⟩])
  (.cond (.tmp 13) (.seq (.ops [⟨(some 15), .mv (.tmp 1), none⟩,
    ⟨(some 16), .mv (.tmp 2), none⟩,
    ⟨(some 17), .bin .sub (.tmp 15) (.tmp 16), none⟩,
    ⟨(some 6), .mv (.tmp 17), none⟩])
  .ret) (.seq (.ops [⟨(some 19), .bin .eql (.tmp 7) (.const (.int .i64 3)), none⟩,
    ⟨(some 18), .mv (.tmp 19), none⟩])
  (.cond (.tmp 18) (.seq (.ops [⟨(some 20), .mv (.tmp 1), none⟩,
    ⟨(some 21), .mv (.tmp 2), none⟩,
    ⟨(some 22), .bin .xor (.tmp 20) (.tmp 21), none⟩,
    ⟨(some 6), .mv (.tmp 22), none⟩])
  .ret) (.seq (.ops [⟨(some 24), .bin .eql (.tmp 7) (.const (.int .i64 4)), none⟩,
    ⟨(some 23), .mv (.tmp 24), none⟩])
  (.cond (.tmp 23) (.seq (.ops [⟨(some 25), .mv (.tmp 1), none⟩,
    ⟨(some 26), .mv (.tmp 2), none⟩,
    ⟨(some 27), .bin .and (.tmp 25) (.tmp 26), none⟩,
    ⟨(some 6), .mv (.tmp 27), none⟩])
  .ret) (.seq (.ops [⟨(some 29), .bin .eql (.tmp 7) (.const (.int .i64 5)), none⟩,
    ⟨(some 28), .mv (.tmp 29), none⟩])
  (.cond (.tmp 28) (.seq (.ops [⟨(some 30), .mv (.tmp 1), none⟩,
    ⟨(some 31), .mv (.tmp 2), none⟩,
    ⟨(some 32), .bin .or (.tmp 30) (.tmp 31), none⟩,
    ⟨(some 6), .mv (.tmp 32), none⟩])
  .ret) .skip))))))))))))
 (.seq (.ops [⟨(some 6), .mv (.const (.int .i64 0)), none⟩])
 .ret)))⟩
def c_uir_Gives : AFunc := ⟨13, [.tmp 2],
 (.seq (.ops [⟨(some 1), .box 17 (.tmp 0), none⟩,
   ⟨(some 2), .mv (.const (.int .i64 0)), none⟩])
 (.seq (.seq (.ops [⟨(some 3), .off 0 (.tmp 1), none⟩,
   ⟨(some 4), .load1 (.tmp 3), none⟩])
 (.block 0 (.seq (.seq (.ops [⟨(some 6), .bin .eql (.tmp 4) (.const (.int .i64 1)), none⟩,
    ⟨(some 5), .mv (.tmp 6), none⟩])
  (.cond (.tmp 5) .skip (.seq (.ops [⟨(some 7), .bin .eql (.tmp 4) (.const (.int .i64 2)), none⟩,
    ⟨(some 5), .mv (.tmp 7), none⟩])
  (.cond (.tmp 5) .skip (.seq (.ops [⟨(some 8), .bin .eql (.tmp 4) (.const (.int .i64 3)), none⟩,
    ⟨(some 5), .mv (.tmp 8), none⟩])
  (.cond (.tmp 5) .skip (.seq (.ops [⟨(some 9), .bin .eql (.tmp 4) (.const (.int .i64 4)), none⟩,
    ⟨(some 5), .mv (.tmp 9), none⟩])
  (.cond (.tmp 5) .skip (.ops [⟨(some 10), .bin .eql (.tmp 4) (.const (.int .i64 6)), none⟩,
    ⟨(some 5), .mv (.tmp 10), none⟩])))))))))
  (.cond (.tmp 5) (.seq (.ops [⟨(some 11), .off 1 (.tmp 1), none⟩,
    ⟨(some 12), .load1 (.tmp 11), none⟩,
    ⟨(some 2), .mv (.tmp 12), none⟩])
  .ret) .skip))))
 (.seq (.ops [⟨(some 2), .mv (.const (.int .i64 (-1))), none⟩])
 .ret)))⟩
def c_belatedref3_Gives : AFunc := ⟨13, [.tmp 2],
 (.seq (.ops [⟨(some 1), .box 17 (.tmp 0), none⟩,
   ⟨(some 2), .mv (.const (.int .i64 0)), none⟩])
 (.seq (.seq (.ops [⟨(some 3), .off 0 (.tmp 1), none⟩,
   ⟨(some 4), .load1 (.tmp 3), none⟩])
 (.block 0 (.seq (.seq (.ops [⟨(some 6), .bin .eql (.tmp 4) (.const (.int .i64 1)), none⟩,
    ⟨(some 5), .mv (.tmp 6), none⟩])
  (.cond (.tmp 5) .skip (.seq (.ops [⟨(some 7), .bin .eql (.tmp 4) (.const (.int .i64 2)), none⟩,
    ⟨(some 5), .mv (.tmp 7), none⟩])
  (.cond (.tmp 5) .skip (.seq (.ops [⟨(some 8), .bin .eql (.tmp 4) (.const (.int .i64 3)), none⟩,
    ⟨(some 5), .mv (.tmp 8), none⟩])
  (.cond (.tmp 5) .skip (.seq (.ops [⟨(some 9), .bin .eql (.tmp 4) (.const (.int .i64 4)), none⟩,
    ⟨(some 5), .mv (.tmp 9), none⟩])
  (.cond (.tmp 5) .skip (.ops [⟨(some 10), .bin .eql (.tmp 4) (.const (.int .i64 6)), none⟩,
    ⟨(some 5), .mv (.tmp 10), none⟩])))))))))
  (.cond (.tmp 5) (.seq (.ops [⟨(some 11), .off 1 (.tmp 1), none⟩,
    ⟨(some 12), .load1 (.tmp 11), none⟩,
    ⟨(some 2), .mv (.tmp 12), none⟩])
  .ret) .skip))))
 (.seq (.ops [⟨(some 2), .mv (.const (.int .i64 (-1))), none⟩])
 .ret)))⟩
def c_uir_Local_1 : AFunc := ⟨12, [.tmp 5],
 (.seq (.ops [⟨(some 5), .mv (.const (.int .i64 0)), none⟩])
 (.seq (.seq (.ops [⟨(some 6), .mv (.tmp 0), none⟩,
   ⟨(some 7), .bin .eql (.tmp 6) (.const (.int .i64 (-1))), none⟩])
 (.cond (.tmp 7) (.seq (.ops [⟨(some 8), .mv (.tmp 1), none⟩,
   ⟨(some 5), .mv (.tmp 8), none⟩])
 .ret) .skip))
 (.seq (.ops [⟨(some 9), .mv (.tmp 0), none⟩,
   ⟨(some 10), .atArr 8 1 (.tmp 2) (.tmp 9), none⟩,
   ⟨(some 11), .load1 (.tmp 10), none⟩,
   ⟨(some 5), .mv (.tmp 11), none⟩])
 .ret)))⟩
def c_bits_Mask : AFunc := ⟨29, [.tmp 4],
 (.seq (.ops [⟨(some 4), .mv (.const (.int .i64 0)), none⟩])
 (.seq (.seq (.ops [⟨(some 5), .mv (.tmp 1), none⟩,
   ⟨(some 6), .call n_bits_sized [(.tmp 5)], none⟩,
   ⟨(some 7), .un .not (.tmp 6), none⟩,
   ⟨(some 8), .mv (.tmp 7), none⟩,
   ⟨(some 9), .mv (.tmp 0), (some (8, false))⟩,
   ⟨(some 10), .bin .lss (.tmp 9) (.const (.int .i64 0)), (some (8, false))⟩,
   ⟨(some 11), .pick (.tmp 8) (.const (.bool true)) (.tmp 10), none⟩,
   ⟨(some 12), .mv (.tmp 11), none⟩,
   ⟨(some 13), .mv (.tmp 0), (some (12, false))⟩,
   ⟨(some 14), .mv (.tmp 1), (some (12, false))⟩,
   ⟨(some 15), .bin .sub (.const (.int .i64 8)) (.tmp 14), (some (12, false))⟩,
   ⟨(some 16), .bin .gtr (.tmp 13) (.tmp 15), (some (12, false))⟩,
   ⟨(some 17), .pick (.tmp 12) (.const (.bool true)) (.tmp 16), none⟩,
   ⟨(some 18), .mv (.tmp 17), none⟩,
   ⟨(some 19), .mv (.tmp 0), (some (18, false))⟩,
   ⟨(some 20), .mv (.tmp 1), (some (18, false))⟩,
   ⟨(some 21), .bin .rem (.tmp 19) (.tmp 20), (some (18, false))⟩,
   ⟨(some 22), .bin .neq (.tmp 21) (.const (.int .i64 0)), (some (18, false))⟩,
   ⟨(some 23), .pick (.tmp 18) (.const (.bool true)) (.tmp 22), none⟩])
 (.cond (.tmp 23) (.seq (.ops [⟨(some 4), .mv (.const (.int .i64 0)), none⟩])
 .ret) .skip))
 (.seq (.ops [⟨(some 24), .mv (.tmp 1), none⟩,
   ⟨(some 25), .bin .shl (.const (.int .i64 1)) (.tmp 24), none⟩,
   ⟨(some 26), .bin .sub (.tmp 25) (.const (.int .i64 1)), none⟩,
   ⟨(some 27), .mv (.tmp 0), none⟩,
   ⟨(some 28), .bin .shl (.tmp 26) (.tmp 27), none⟩,
   ⟨(some 4), .mv (.tmp 28), none⟩])
 .ret)))⟩
def c_bits_Place : AFunc := ⟨17, [.tmp 6],
 (.seq (.ops [⟨(some 6), .mv (.const (.int .i64 0)), none⟩])
 (.seq (.seq (.ops [⟨(some 7), .mv (.tmp 2), none⟩,
   ⟨(some 8), .call n_bits_sized [(.tmp 7)], none⟩,
   ⟨(some 9), .un .not (.tmp 8), none⟩])
 (.cond (.tmp 9) (.seq (.ops [⟨(some 6), .mv (.const (.int .i64 (-1))), none⟩])
 .ret) .skip))
 (.seq (.ops [⟨(some 10), .mv (.tmp 0), none⟩,
   ⟨(some 11), .mv (.tmp 1), none⟩,
   ⟨(some 12), .bin .add (.tmp 10) (.tmp 11), none⟩,
   ⟨(some 13), .bin .and (.tmp 12) (.const (.int .i64 7)), none⟩,
   ⟨(some 14), .mv (.tmp 2), none⟩,
   ⟨(some 15), .bin .sub (.tmp 14) (.const (.int .i64 1)), none⟩,
   ⟨(some 16), .bin .andNot (.tmp 13) (.tmp 15), none⟩,
   ⟨(some 6), .mv (.tmp 16), none⟩])
 .ret)))⟩
def c_bits_Get : AFunc := ⟨19, [.tmp 6],
 (.seq (.ops [⟨(some 6), .mv (.const (.int .i64 0)), none⟩])
 (.seq (.seq (.ops [⟨(some 7), .mv (.tmp 1), none⟩,
   ⟨(some 8), .mv (.tmp 2), none⟩,
   ⟨(some 9), .call n_bits_Mask [(.tmp 7), (.tmp 8)], none⟩,
   ⟨(some 10), .bin .eql (.tmp 9) (.const (.int .i64 0)), none⟩])
 (.cond (.tmp 10) (.seq (.ops [⟨(some 6), .mv (.const (.int .i64 0)), none⟩])
 .ret) .skip))
 (.seq (.ops [⟨(some 11), .mv (.tmp 0), none⟩,
   ⟨(some 12), .conv .u64 (.tmp 11), none⟩,
   ⟨(some 13), .mv (.tmp 1), none⟩,
   ⟨(some 14), .bin .mul (.const (.int .i64 8)) (.tmp 13), none⟩,
   ⟨(some 15), .bin .shr (.tmp 12) (.tmp 14), none⟩,
   ⟨(some 16), .conv .i64 (.tmp 15), none⟩,
   ⟨(some 17), .mv (.tmp 2), none⟩,
   ⟨(some 18), .call n_bits_low [(.tmp 16), (.tmp 17)], none⟩,
   ⟨(some 6), .mv (.tmp 18), none⟩])
 .ret)))⟩
def c_bits_Rmw : AFunc := ⟨22, [.tmp 8],
 (.seq (.ops [⟨(some 8), .mv (.const (.int .i64 0)), none⟩])
 (.seq (.seq (.ops [⟨(some 9), .mv (.tmp 0), none⟩])
 (.block 0 (.seq (.ops [⟨(some 11), .bin .eql (.tmp 9) (.const (.int .i64 6)), none⟩,
    ⟨(some 10), .mv (.tmp 11), none⟩])
  (.cond (.tmp 10) (.seq (.ops [⟨(some 12), .mv (.tmp 2), none⟩,
    ⟨(some 13), .mv (.tmp 3), none⟩,
    ⟨(some 14), .call n_bits_Get [(.tmp 12), (.const (.int .i64 0)), (.tmp 13)], none⟩,
    ⟨(some 8), .mv (.tmp 14), none⟩])
  .ret) (.seq (.ops [⟨(some 16), .bin .eql (.tmp 9) (.const (.int .i64 1)), none⟩,
    ⟨(some 15), .mv (.tmp 16), none⟩])
  (.cond (.tmp 15) (.seq (.ops [⟨(some 17), .mv (.tmp 1), none⟩,
    ⟨(some 18), .mv (.tmp 2), none⟩,
    ⟨(some 19), .bin .add (.tmp 17) (.tmp 18), none⟩,
    ⟨(some 20), .mv (.tmp 3), none⟩,
    ⟨(some 21), .call n_bits_Get [(.tmp 19), (.const (.int .i64 0)), (.tmp 20)], none⟩,
    ⟨(some 8), .mv (.tmp 21), none⟩])
  .ret) .skip))))))
 (.seq (.ops [⟨(some 8), .mv (.const (.int .i64 0)), none⟩])
 .ret)))⟩
def c_uir_Right : AFunc := ⟨27, [.tmp 6],
 (.seq (.ops [⟨(some 3), .box 17 (.tmp 0), none⟩,
   ⟨(some 6), .mv (.const (.int .i64 0)), none⟩])
 (.seq (.block 0 (.seq (.ops [⟨(some 8), .load 17 (.tmp 3), none⟩,
    ⟨(some 9), .call n_uir_formed [(.tmp 8)], none⟩,
    ⟨(some 10), .un .not (.tmp 9), none⟩,
    ⟨(some 7), .mv (.tmp 10), none⟩])
  (.cond (.tmp 7) (.seq (.ops [⟨(some 6), .mv (.const (.int .i64 34)), none⟩])
  .ret) (.seq (.ops [⟨(some 12), .off 0 (.tmp 3), none⟩,
    ⟨(some 13), .load1 (.tmp 12), none⟩,
    ⟨(some 14), .bin .eql (.tmp 13) (.const (.int .i64 9)), none⟩,
    ⟨(some 15), .mv (.tmp 14), none⟩,
    ⟨(some 16), .off 15 (.tmp 3), (some (15, true))⟩,
    ⟨(some 17), .load1 (.tmp 16), (some (15, true))⟩,
    ⟨(some 18), .mv (.tmp 1), (some (15, true))⟩,
    ⟨(some 19), .bin .leq (.tmp 17) (.tmp 18), (some (15, true))⟩,
    ⟨(some 20), .mv (.tmp 19), (some (15, true))⟩,
    ⟨(some 21), .off 15 (.tmp 3), (some (20, false))⟩,
    ⟨(some 22), .load1 (.tmp 21), (some (20, false))⟩,
    ⟨(some 23), .mv (.tmp 2), (some (20, false))⟩,
    ⟨(some 24), .bin .gtr (.tmp 22) (.tmp 23), (some (20, false))⟩,
    ⟨(some 25), .pick (.tmp 20) (.const (.bool true)) (.tmp 24), (some (15, true))⟩,
    ⟨(some 26), .pick (.tmp 15) (.tmp 25) (.const (.bool false)), none⟩,
    ⟨(some 11), .mv (.tmp 26), none⟩])
  (.cond (.tmp 11) (.seq (.ops [⟨(some 6), .mv (.const (.int .i64 35)), none⟩])
  .ret) .skip)))))
 (.seq (.ops [⟨(some 6), .mv (.const (.int .i64 0)), none⟩])
 .ret)))⟩
def c_belatedref10_more : AFunc := ⟨29, [.tmp 6],
 (.seq (.ops [⟨(some 6), .mv (.const (.slice none 0 0)), none⟩])
 (.seq (.seq (.ops [⟨(some 7), .mv (.const (.int .i64 0)), none⟩])
 (.block 0 (.loop (.seq (.seq (.ops [⟨(some 9), .mv (.tmp 7), none⟩,
     ⟨(some 10), .mv (.tmp 2), none⟩,
     ⟨(some 11), .len (.tmp 10), none⟩,
     ⟨(some 12), .bin .lss (.tmp 9) (.tmp 11), none⟩])
   (.cond (.tmp 12) .skip (.exit 0)))
   (.seq (.block 1 (.seq (.ops [⟨(some 8), .mv (.const (.slice none 0 0)), none⟩])
    (.seq (.ops [⟨(some 15), .mv (.tmp 8), none⟩,
      ⟨(some 16), .mv (.tmp 1), none⟩,
      ⟨(some 17), .mkRow [(.int .i64 0)] 1 [(0, 1, (.tmp 16))], none⟩,
      ⟨(some 18), .append 1 8 (.tmp 15) (.tmp 17), none⟩,
      ⟨(some 8), .mv (.tmp 18), none⟩])
    (.ops [⟨(some 19), .mv (.tmp 0), none⟩,
      ⟨(some 20), .mv (.tmp 8), none⟩,
      ⟨(some 21), .mv (.tmp 2), none⟩,
      ⟨(some 22), .mv (.tmp 7), none⟩,
      ⟨(some 23), .atRow 1 (.tmp 21) (.tmp 22), none⟩,
      ⟨(some 24), .load1 (.tmp 23), none⟩,
      ⟨(some 25), .append 1 8 (.tmp 20) (.tmp 24), none⟩,
      ⟨(some 26), .mkRow [(.slice none 0 0)] 1 [(0, 1, (.tmp 25))], none⟩,
      ⟨(some 27), .append 1 24 (.tmp 19) (.tmp 26), none⟩,
      ⟨(some 0), .mv (.tmp 27), none⟩]))))
   (.ops [⟨(some 13), .mv (.tmp 7), none⟩,
     ⟨(some 14), .bin .add (.tmp 13) (.const (.int .i64 1)), none⟩,
     ⟨(some 7), .mv (.tmp 14), none⟩]))))))
 (.seq (.ops [⟨(some 28), .mv (.tmp 0), none⟩,
   ⟨(some 6), .mv (.tmp 28), none⟩])
 .ret)))⟩
def c_bits_sized : AFunc := ⟨17, [.tmp 2],
 (.seq (.ops [⟨(some 2), .mv (.const (.bool false)), none⟩])
 (.seq (.ops [⟨(some 3), .mv (.tmp 0), none⟩,
   ⟨(some 4), .bin .eql (.tmp 3) (.const (.int .i64 1)), none⟩,
   ⟨(some 5), .mv (.tmp 4), none⟩,
   ⟨(some 6), .mv (.tmp 0), (some (5, false))⟩,
   ⟨(some 7), .bin .eql (.tmp 6) (.const (.int .i64 2)), (some (5, false))⟩,
   ⟨(some 8), .pick (.tmp 5) (.const (.bool true)) (.tmp 7), none⟩,
   ⟨(some 9), .mv (.tmp 8), none⟩,
   ⟨(some 10), .mv (.tmp 0), (some (9, false))⟩,
   ⟨(some 11), .bin .eql (.tmp 10) (.const (.int .i64 4)), (some (9, false))⟩,
   ⟨(some 12), .pick (.tmp 9) (.const (.bool true)) (.tmp 11), none⟩,
   ⟨(some 13), .mv (.tmp 12), none⟩,
   ⟨(some 14), .mv (.tmp 0), (some (13, false))⟩,
   ⟨(some 15), .bin .eql (.tmp 14) (.const (.int .i64 8)), (some (13, false))⟩,
   ⟨(some 16), .pick (.tmp 13) (.const (.bool true)) (.tmp 15), none⟩,
   ⟨(some 2), .mv (.tmp 16), none⟩])
 .ret))⟩
def c_bits_low : AFunc := ⟨14, [.tmp 4],
 (.seq (.ops [⟨(some 4), .mv (.const (.int .i64 0)), none⟩])
 (.seq (.seq (.ops [⟨(some 5), .mv (.tmp 1), none⟩,
   ⟨(some 6), .bin .eql (.tmp 5) (.const (.int .i64 8)), none⟩])
 (.cond (.tmp 6) (.seq (.ops [⟨(some 7), .mv (.tmp 0), none⟩,
   ⟨(some 4), .mv (.tmp 7), none⟩])
 .ret) .skip))
 (.seq (.ops [⟨(some 8), .mv (.tmp 0), none⟩,
   ⟨(some 9), .mv (.tmp 1), none⟩,
   ⟨(some 10), .bin .mul (.const (.int .i64 8)) (.tmp 9), none⟩,
   ⟨(some 11), .bin .shl (.const (.int .i64 1)) (.tmp 10), none⟩,
   ⟨(some 12), .bin .sub (.tmp 11) (.const (.int .i64 1)), none⟩,
   ⟨(some 13), .bin .and (.tmp 8) (.tmp 12), none⟩,
   ⟨(some 4), .mv (.tmp 13), none⟩])
 .ret)))⟩
def c_uir_formed : AFunc := ⟨225, [.tmp 2],
 (.seq (.ops [⟨(some 1), .box 17 (.tmp 0), none⟩,
   ⟨(some 2), .mv (.const (.bool false)), none⟩])
 (.seq (.ops [⟨(some 5), .off 0 (.tmp 1), none⟩,
   ⟨(some 6), .load1 (.tmp 5), none⟩,
   ⟨(some 7), .build (List.replicate 10 (.int .i64 0) ++ List.replicate 3 (.bool false) ++ List.replicate 3 (.int .i64 0) ++ [(.bool false)]) [(0, 1, (.tmp 6)), (1, 1, (.const (.int .i64 (-1)))), (2, 1, (.const (.int .i64 (-1)))), (3, 1, (.const (.int .i64 (-1)))), (7, 1, (.const (.int .i64 (-1))))], none⟩,
   ⟨(some 3), .alloc (List.replicate 10 (.int .i64 0) ++ List.replicate 3 (.bool false) ++ List.replicate 3 (.int .i64 0) ++ [(.bool false)]), none⟩,
   ⟨none, .store 17 (.tmp 3) (.tmp 7), none⟩])
 (.seq (.ops [⟨(some 4), .mv (.const (.bool false)), none⟩])
 (.seq (.seq (.ops [⟨(some 8), .off 0 (.tmp 1), none⟩,
   ⟨(some 9), .load1 (.tmp 8), none⟩])
 (.block 0 (.seq (.ops [⟨(some 11), .bin .eql (.tmp 9) (.const (.int .i64 1)), none⟩,
    ⟨(some 10), .mv (.tmp 11), none⟩])
  (.cond (.tmp 10) (.seq (.ops [⟨(some 12), .off 1 (.tmp 1), none⟩,
    ⟨(some 13), .load1 (.tmp 12), none⟩,
    ⟨(some 14), .off 4 (.tmp 1), none⟩,
    ⟨(some 15), .load1 (.tmp 14), none⟩,
    ⟨(some 16), .off 1 (.tmp 3), none⟩,
    ⟨none, .store1 (.tmp 16) (.tmp 13), none⟩,
    ⟨none, .again1 (.tmp 14) 15, none⟩,
    ⟨(some 17), .off 4 (.tmp 3), none⟩,
    ⟨none, .store1 (.tmp 17) (.tmp 15), none⟩])
  (.ops [⟨(some 18), .off 1 (.tmp 1), none⟩,
    ⟨(some 19), .load1 (.tmp 18), none⟩,
    ⟨(some 20), .call n_uir_register [(.tmp 19)], none⟩,
    ⟨(some 4), .mv (.tmp 20), none⟩])) (.seq (.ops [⟨(some 22), .bin .eql (.tmp 9) (.const (.int .i64 2)), none⟩,
    ⟨(some 21), .mv (.tmp 22), none⟩])
  (.cond (.tmp 21) (.seq (.ops [⟨(some 23), .off 1 (.tmp 1), none⟩,
    ⟨(some 24), .load1 (.tmp 23), none⟩,
    ⟨(some 25), .off 2 (.tmp 1), none⟩,
    ⟨(some 26), .load1 (.tmp 25), none⟩,
    ⟨(some 27), .off 1 (.tmp 3), none⟩,
    ⟨none, .store1 (.tmp 27) (.tmp 24), none⟩,
    ⟨none, .again1 (.tmp 25) 26, none⟩,
    ⟨(some 28), .off 2 (.tmp 3), none⟩,
    ⟨none, .store1 (.tmp 28) (.tmp 26), none⟩])
  (.ops [⟨(some 29), .off 1 (.tmp 1), none⟩,
    ⟨(some 30), .load1 (.tmp 29), none⟩,
    ⟨(some 31), .call n_uir_register [(.tmp 30)], none⟩,
    ⟨(some 32), .mv (.tmp 31), none⟩,
    ⟨(some 33), .off 2 (.tmp 1), (some (32, true))⟩,
    ⟨(some 34), .load1 (.tmp 33), (some (32, true))⟩,
    ⟨(some 35), .call n_uir_register [(.tmp 34)], (some (32, true))⟩,
    ⟨(some 36), .pick (.tmp 32) (.tmp 35) (.const (.bool false)), none⟩,
    ⟨(some 4), .mv (.tmp 36), none⟩])) (.seq (.ops [⟨(some 38), .bin .eql (.tmp 9) (.const (.int .i64 3)), none⟩,
    ⟨(some 37), .mv (.tmp 38), none⟩])
  (.cond (.tmp 37) (.seq (.ops [⟨(some 39), .off 1 (.tmp 1), none⟩,
    ⟨(some 40), .load1 (.tmp 39), none⟩,
    ⟨(some 41), .off 9 (.tmp 1), none⟩,
    ⟨(some 42), .load1 (.tmp 41), none⟩,
    ⟨(some 43), .off 2 (.tmp 1), none⟩,
    ⟨(some 44), .load1 (.tmp 43), none⟩,
    ⟨(some 45), .off 3 (.tmp 1), none⟩,
    ⟨(some 46), .load1 (.tmp 45), none⟩,
    ⟨(some 47), .off 1 (.tmp 3), none⟩,
    ⟨none, .store1 (.tmp 47) (.tmp 40), none⟩,
    ⟨none, .again1 (.tmp 41) 42, none⟩,
    ⟨none, .again1 (.tmp 43) 44, none⟩,
    ⟨none, .again1 (.tmp 45) 46, none⟩,
    ⟨(some 48), .off 9 (.tmp 3), none⟩,
    ⟨none, .store1 (.tmp 48) (.tmp 42), none⟩,
    ⟨none, .again1 (.tmp 43) 44, none⟩,
    ⟨none, .again1 (.tmp 45) 46, none⟩,
    ⟨(some 49), .off 2 (.tmp 3), none⟩,
    ⟨none, .store1 (.tmp 49) (.tmp 44), none⟩,
    ⟨none, .again1 (.tmp 45) 46, none⟩,
    ⟨(some 50), .off 3 (.tmp 3), none⟩,
    ⟨none, .store1 (.tmp 50) (.tmp 46), none⟩])
  (.seq (.ops [⟨(some 51), .off 1 (.tmp 1), none⟩,
    ⟨(some 52), .load1 (.tmp 51), none⟩,
    ⟨(some 53), .call n_uir_register [(.tmp 52)], none⟩,
    ⟨(some 54), .mv (.tmp 53), none⟩,
    ⟨(some 55), .off 2 (.tmp 1), (some (54, true))⟩,
    ⟨(some 56), .load1 (.tmp 55), (some (54, true))⟩,
    ⟨(some 57), .call n_uir_register [(.tmp 56)], (some (54, true))⟩,
    ⟨(some 58), .pick (.tmp 54) (.tmp 57) (.const (.bool false)), none⟩,
    ⟨(some 59), .mv (.tmp 58), none⟩,
    ⟨(some 60), .off 9 (.tmp 1), (some (59, true))⟩,
    ⟨(some 61), .load1 (.tmp 60), (some (59, true))⟩,
    ⟨(some 62), .bin .geq (.tmp 61) (.const (.int .i64 1)), (some (59, true))⟩,
    ⟨(some 63), .pick (.tmp 59) (.tmp 62) (.const (.bool false)), none⟩,
    ⟨(some 64), .mv (.tmp 63), none⟩,
    ⟨(some 65), .off 9 (.tmp 1), (some (64, true))⟩,
    ⟨(some 66), .load1 (.tmp 65), (some (64, true))⟩,
    ⟨(some 67), .bin .leq (.tmp 66) (.const (.int .i64 5)), (some (64, true))⟩,
    ⟨(some 68), .pick (.tmp 64) (.tmp 67) (.const (.bool false)), none⟩,
    ⟨(some 4), .mv (.tmp 68), none⟩])
  (.seq (.ops [⟨(some 69), .off 3 (.tmp 1), none⟩,
    ⟨(some 70), .load1 (.tmp 69), none⟩,
    ⟨(some 71), .bin .eql (.tmp 70) (.const (.int .i64 (-1))), none⟩])
  (.cond (.tmp 71) (.ops [⟨(some 72), .off 4 (.tmp 1), none⟩,
    ⟨(some 73), .load1 (.tmp 72), none⟩,
    ⟨(some 74), .off 4 (.tmp 3), none⟩,
    ⟨none, .store1 (.tmp 74) (.tmp 73), none⟩]) (.ops [⟨(some 75), .mv (.tmp 4), none⟩,
    ⟨(some 76), .mv (.tmp 75), none⟩,
    ⟨(some 77), .off 3 (.tmp 1), (some (76, true))⟩,
    ⟨(some 78), .load1 (.tmp 77), (some (76, true))⟩,
    ⟨(some 79), .call n_uir_register [(.tmp 78)], (some (76, true))⟩,
    ⟨(some 80), .pick (.tmp 76) (.tmp 79) (.const (.bool false)), none⟩,
    ⟨(some 4), .mv (.tmp 80), none⟩]))))) (.seq (.ops [⟨(some 82), .bin .eql (.tmp 9) (.const (.int .i64 4)), none⟩,
    ⟨(some 81), .mv (.tmp 82), none⟩])
  (.cond (.tmp 81) (.seq (.ops [⟨(some 83), .off 1 (.tmp 1), none⟩,
    ⟨(some 84), .load1 (.tmp 83), none⟩,
    ⟨(some 85), .off 10 (.tmp 1), none⟩,
    ⟨(some 86), .load1 (.tmp 85), none⟩,
    ⟨(some 87), .off 11 (.tmp 1), none⟩,
    ⟨(some 88), .load1 (.tmp 87), none⟩,
    ⟨(some 89), .off 1 (.tmp 3), none⟩,
    ⟨none, .store1 (.tmp 89) (.tmp 84), none⟩,
    ⟨none, .again1 (.tmp 85) 86, none⟩,
    ⟨none, .again1 (.tmp 87) 88, none⟩,
    ⟨(some 90), .off 10 (.tmp 3), none⟩,
    ⟨none, .store1 (.tmp 90) (.tmp 86), none⟩,
    ⟨none, .again1 (.tmp 87) 88, none⟩,
    ⟨(some 91), .off 11 (.tmp 3), none⟩,
    ⟨none, .store1 (.tmp 91) (.tmp 88), none⟩])
  (.ops [⟨(some 92), .off 1 (.tmp 1), none⟩,
    ⟨(some 93), .load1 (.tmp 92), none⟩,
    ⟨(some 94), .call n_uir_register [(.tmp 93)], none⟩,
    ⟨(some 95), .mv (.tmp 94), none⟩,
    ⟨(some 96), .load 17 (.tmp 1), (some (95, true))⟩,
    ⟨(some 97), .call n_uir_access [(.tmp 96)], (some (95, true))⟩,
    ⟨(some 98), .pick (.tmp 95) (.tmp 97) (.const (.bool false)), none⟩,
    ⟨(some 99), .mv (.tmp 98), none⟩,
    ⟨(some 100), .off 10 (.tmp 1), (some (99, true))⟩,
    ⟨(some 101), .load1 (.tmp 100), (some (99, true))⟩,
    ⟨(some 102), .mv (.tmp 101), (some (99, true))⟩,
    ⟨(some 103), .off 11 (.tmp 1), (some (102, true))⟩,
    ⟨(some 104), .load1 (.tmp 103), (some (102, true))⟩,
    ⟨(some 105), .pick (.tmp 102) (.tmp 104) (.const (.bool false)), (some (99, true))⟩,
    ⟨(some 106), .un .not (.tmp 105), (some (99, true))⟩,
    ⟨(some 107), .pick (.tmp 99) (.tmp 106) (.const (.bool false)), none⟩,
    ⟨(some 4), .mv (.tmp 107), none⟩])) (.seq (.ops [⟨(some 109), .bin .eql (.tmp 9) (.const (.int .i64 5)), none⟩,
    ⟨(some 108), .mv (.tmp 109), none⟩])
  (.cond (.tmp 108) (.seq (.ops [⟨(some 110), .off 2 (.tmp 1), none⟩,
    ⟨(some 111), .load1 (.tmp 110), none⟩,
    ⟨(some 112), .off 12 (.tmp 1), none⟩,
    ⟨(some 113), .load1 (.tmp 112), none⟩,
    ⟨(some 114), .off 2 (.tmp 3), none⟩,
    ⟨none, .store1 (.tmp 114) (.tmp 111), none⟩,
    ⟨none, .again1 (.tmp 112) 113, none⟩,
    ⟨(some 115), .off 12 (.tmp 3), none⟩,
    ⟨none, .store1 (.tmp 115) (.tmp 113), none⟩])
  (.seq (.ops [⟨(some 116), .load 17 (.tmp 1), none⟩,
    ⟨(some 117), .call n_uir_access [(.tmp 116)], none⟩,
    ⟨(some 4), .mv (.tmp 117), none⟩])
  (.seq (.ops [⟨(some 118), .off 2 (.tmp 1), none⟩,
    ⟨(some 119), .load1 (.tmp 118), none⟩,
    ⟨(some 120), .bin .eql (.tmp 119) (.const (.int .i64 (-1))), none⟩])
  (.cond (.tmp 120) (.ops [⟨(some 121), .off 4 (.tmp 1), none⟩,
    ⟨(some 122), .load1 (.tmp 121), none⟩,
    ⟨(some 123), .off 4 (.tmp 3), none⟩,
    ⟨none, .store1 (.tmp 123) (.tmp 122), none⟩]) (.ops [⟨(some 124), .mv (.tmp 4), none⟩,
    ⟨(some 125), .mv (.tmp 124), none⟩,
    ⟨(some 126), .off 2 (.tmp 1), (some (125, true))⟩,
    ⟨(some 127), .load1 (.tmp 126), (some (125, true))⟩,
    ⟨(some 128), .call n_uir_register [(.tmp 127)], (some (125, true))⟩,
    ⟨(some 129), .pick (.tmp 125) (.tmp 128) (.const (.bool false)), none⟩,
    ⟨(some 4), .mv (.tmp 129), none⟩]))))) (.seq (.ops [⟨(some 131), .bin .eql (.tmp 9) (.const (.int .i64 6)), none⟩,
    ⟨(some 130), .mv (.tmp 131), none⟩])
  (.cond (.tmp 130) (.seq (.ops [⟨(some 132), .off 1 (.tmp 1), none⟩,
    ⟨(some 133), .load1 (.tmp 132), none⟩,
    ⟨(some 134), .off 2 (.tmp 1), none⟩,
    ⟨(some 135), .load1 (.tmp 134), none⟩,
    ⟨(some 136), .off 9 (.tmp 1), none⟩,
    ⟨(some 137), .load1 (.tmp 136), none⟩,
    ⟨(some 138), .off 10 (.tmp 1), none⟩,
    ⟨(some 139), .load1 (.tmp 138), none⟩,
    ⟨(some 140), .off 12 (.tmp 1), none⟩,
    ⟨(some 141), .load1 (.tmp 140), none⟩,
    ⟨(some 142), .off 1 (.tmp 3), none⟩,
    ⟨none, .store1 (.tmp 142) (.tmp 133), none⟩,
    ⟨none, .again1 (.tmp 134) 135, none⟩,
    ⟨none, .again1 (.tmp 136) 137, none⟩,
    ⟨none, .again1 (.tmp 138) 139, none⟩,
    ⟨none, .again1 (.tmp 140) 141, none⟩,
    ⟨(some 143), .off 2 (.tmp 3), none⟩,
    ⟨none, .store1 (.tmp 143) (.tmp 135), none⟩,
    ⟨none, .again1 (.tmp 136) 137, none⟩,
    ⟨none, .again1 (.tmp 138) 139, none⟩,
    ⟨none, .again1 (.tmp 140) 141, none⟩,
    ⟨(some 144), .off 9 (.tmp 3), none⟩,
    ⟨none, .store1 (.tmp 144) (.tmp 137), none⟩,
    ⟨none, .again1 (.tmp 138) 139, none⟩,
    ⟨none, .again1 (.tmp 140) 141, none⟩,
    ⟨(some 145), .off 10 (.tmp 3), none⟩,
    ⟨none, .store1 (.tmp 145) (.tmp 139), none⟩,
    ⟨none, .again1 (.tmp 140) 141, none⟩,
    ⟨(some 146), .off 12 (.tmp 3), none⟩,
    ⟨none, .store1 (.tmp 146) (.tmp 141), none⟩])
  (.ops [⟨(some 147), .off 1 (.tmp 1), none⟩,
    ⟨(some 148), .load1 (.tmp 147), none⟩,
    ⟨(some 149), .call n_uir_register [(.tmp 148)], none⟩,
    ⟨(some 150), .mv (.tmp 149), none⟩,
    ⟨(some 151), .off 2 (.tmp 1), (some (150, true))⟩,
    ⟨(some 152), .load1 (.tmp 151), (some (150, true))⟩,
    ⟨(some 153), .call n_uir_register [(.tmp 152)], (some (150, true))⟩,
    ⟨(some 154), .pick (.tmp 150) (.tmp 153) (.const (.bool false)), none⟩,
    ⟨(some 155), .mv (.tmp 154), none⟩,
    ⟨(some 156), .load 17 (.tmp 1), (some (155, true))⟩,
    ⟨(some 157), .call n_uir_access [(.tmp 156)], (some (155, true))⟩,
    ⟨(some 158), .pick (.tmp 155) (.tmp 157) (.const (.bool false)), none⟩,
    ⟨(some 159), .mv (.tmp 158), none⟩,
    ⟨(some 160), .off 9 (.tmp 1), (some (159, true))⟩,
    ⟨(some 161), .load1 (.tmp 160), (some (159, true))⟩,
    ⟨(some 162), .bin .eql (.tmp 161) (.const (.int .i64 6)), (some (159, true))⟩,
    ⟨(some 163), .mv (.tmp 162), (some (159, true))⟩,
    ⟨(some 164), .off 9 (.tmp 1), (some (163, false))⟩,
    ⟨(some 165), .load1 (.tmp 164), (some (163, false))⟩,
    ⟨(some 166), .bin .eql (.tmp 165) (.const (.int .i64 1)), (some (163, false))⟩,
    ⟨(some 167), .pick (.tmp 163) (.const (.bool true)) (.tmp 166), (some (159, true))⟩,
    ⟨(some 168), .pick (.tmp 159) (.tmp 167) (.const (.bool false)), none⟩,
    ⟨(some 4), .mv (.tmp 168), none⟩])) (.seq (.ops [⟨(some 170), .bin .eql (.tmp 9) (.const (.int .i64 7)), none⟩,
    ⟨(some 169), .mv (.tmp 170), none⟩])
  (.cond (.tmp 169) (.seq (.ops [⟨(some 171), .off 13 (.tmp 1), none⟩,
    ⟨(some 172), .load1 (.tmp 171), none⟩,
    ⟨(some 173), .off 14 (.tmp 1), none⟩,
    ⟨(some 174), .load1 (.tmp 173), none⟩,
    ⟨(some 175), .off 13 (.tmp 3), none⟩,
    ⟨none, .store1 (.tmp 175) (.tmp 172), none⟩,
    ⟨none, .again1 (.tmp 173) 174, none⟩,
    ⟨(some 176), .off 14 (.tmp 3), none⟩,
    ⟨none, .store1 (.tmp 176) (.tmp 174), none⟩])
  (.ops [⟨(some 177), .off 13 (.tmp 1), none⟩,
    ⟨(some 178), .load1 (.tmp 177), none⟩,
    ⟨(some 179), .call n_uir_fence [(.tmp 178)], none⟩,
    ⟨(some 180), .mv (.tmp 179), none⟩,
    ⟨(some 181), .off 14 (.tmp 1), (some (180, true))⟩,
    ⟨(some 182), .load1 (.tmp 181), (some (180, true))⟩,
    ⟨(some 183), .call n_uir_fence [(.tmp 182)], (some (180, true))⟩,
    ⟨(some 184), .pick (.tmp 180) (.tmp 183) (.const (.bool false)), none⟩,
    ⟨(some 4), .mv (.tmp 184), none⟩])) (.seq (.ops [⟨(some 186), .bin .eql (.tmp 9) (.const (.int .i64 8)), none⟩,
    ⟨(some 185), .mv (.tmp 186), none⟩])
  (.cond (.tmp 185) (.ops [⟨(some 4), .mv (.const (.bool true)), none⟩]) (.seq (.ops [⟨(some 188), .bin .eql (.tmp 9) (.const (.int .i64 9)), none⟩,
    ⟨(some 187), .mv (.tmp 188), none⟩])
  (.cond (.tmp 187) (.seq (.ops [⟨(some 189), .off 2 (.tmp 1), none⟩,
    ⟨(some 190), .load1 (.tmp 189), none⟩,
    ⟨(some 191), .off 16 (.tmp 1), none⟩,
    ⟨(some 192), .load1 (.tmp 191), none⟩,
    ⟨(some 193), .off 15 (.tmp 1), none⟩,
    ⟨(some 194), .load1 (.tmp 193), none⟩,
    ⟨(some 195), .off 2 (.tmp 3), none⟩,
    ⟨none, .store1 (.tmp 195) (.tmp 190), none⟩,
    ⟨none, .again1 (.tmp 191) 192, none⟩,
    ⟨none, .again1 (.tmp 193) 194, none⟩,
    ⟨(some 196), .off 16 (.tmp 3), none⟩,
    ⟨none, .store1 (.tmp 196) (.tmp 192), none⟩,
    ⟨none, .again1 (.tmp 193) 194, none⟩,
    ⟨(some 197), .off 15 (.tmp 3), none⟩,
    ⟨none, .store1 (.tmp 197) (.tmp 194), none⟩])
  (.ops [⟨(some 198), .off 2 (.tmp 1), none⟩,
    ⟨(some 199), .load1 (.tmp 198), none⟩,
    ⟨(some 200), .call n_uir_register [(.tmp 199)], none⟩,
    ⟨(some 4), .mv (.tmp 200), none⟩])) .skip))))))))))))))))))))
 (.seq (.seq (.ops [⟨(some 201), .load 17 (.tmp 1), none⟩,
   ⟨(some 202), .call n_uir_Reads [(.tmp 201)], none⟩,
   ⟨(some 203), .mv (.tmp 202), none⟩,
   ⟨(some 204), .load 17 (.tmp 1), (some (203, false))⟩,
   ⟨(some 205), .call n_uir_Writes [(.tmp 204)], (some (203, false))⟩,
   ⟨(some 206), .pick (.tmp 203) (.const (.bool true)) (.tmp 205), none⟩])
 (.cond (.tmp 206) (.ops [⟨(some 207), .off 5 (.tmp 1), none⟩,
   ⟨(some 208), .load1 (.tmp 207), none⟩,
   ⟨(some 209), .off 6 (.tmp 1), none⟩,
   ⟨(some 210), .load1 (.tmp 209), none⟩,
   ⟨(some 211), .off 7 (.tmp 1), none⟩,
   ⟨(some 212), .load1 (.tmp 211), none⟩,
   ⟨(some 213), .off 8 (.tmp 1), none⟩,
   ⟨(some 214), .load1 (.tmp 213), none⟩,
   ⟨(some 215), .off 5 (.tmp 3), none⟩,
   ⟨none, .store1 (.tmp 215) (.tmp 208), none⟩,
   ⟨none, .again1 (.tmp 209) 210, none⟩,
   ⟨none, .again1 (.tmp 211) 212, none⟩,
   ⟨none, .again1 (.tmp 213) 214, none⟩,
   ⟨(some 216), .off 6 (.tmp 3), none⟩,
   ⟨none, .store1 (.tmp 216) (.tmp 210), none⟩,
   ⟨none, .again1 (.tmp 211) 212, none⟩,
   ⟨none, .again1 (.tmp 213) 214, none⟩,
   ⟨(some 217), .off 7 (.tmp 3), none⟩,
   ⟨none, .store1 (.tmp 217) (.tmp 212), none⟩,
   ⟨none, .again1 (.tmp 213) 214, none⟩,
   ⟨(some 218), .off 8 (.tmp 3), none⟩,
   ⟨none, .store1 (.tmp 218) (.tmp 214), none⟩]) .skip))
 (.seq (.ops [⟨(some 219), .mv (.tmp 4), none⟩,
   ⟨(some 220), .mv (.tmp 219), none⟩,
   ⟨(some 221), .load 17 (.tmp 3), (some (220, true))⟩,
   ⟨(some 222), .load 17 (.tmp 1), (some (220, true))⟩,
   ⟨(some 223), .eqAgg false (List.replicate 10 .int ++ List.replicate 3 .bool ++ List.replicate 3 .int ++ [.bool]) (.tmp 221) (.tmp 222), (some (220, true))⟩,
   ⟨(some 224), .pick (.tmp 220) (.tmp 223) (.const (.bool false)), none⟩,
   ⟨(some 2), .mv (.tmp 224), none⟩])
 .ret))))))⟩
def c_uir_register : AFunc := ⟨9, [.tmp 2],
 (.seq (.ops [⟨(some 2), .mv (.const (.bool false)), none⟩])
 (.seq (.ops [⟨(some 3), .mv (.tmp 0), none⟩,
   ⟨(some 4), .bin .geq (.tmp 3) (.const (.int .i64 0)), none⟩,
   ⟨(some 5), .mv (.tmp 4), none⟩,
   ⟨(some 6), .mv (.tmp 0), (some (5, true))⟩,
   ⟨(some 7), .bin .lss (.tmp 6) (.const (.int .i64 8)), (some (5, true))⟩,
   ⟨(some 8), .pick (.tmp 5) (.tmp 7) (.const (.bool false)), none⟩,
   ⟨(some 2), .mv (.tmp 8), none⟩])
 .ret))⟩
def c_uir_access : AFunc := ⟨29, [.tmp 2],
 (.seq (.ops [⟨(some 1), .box 17 (.tmp 0), none⟩,
   ⟨(some 2), .mv (.const (.bool false)), none⟩])
 (.seq (.ops [⟨(some 3), .off 5 (.tmp 1), none⟩,
   ⟨(some 4), .load1 (.tmp 3), none⟩,
   ⟨(some 5), .bin .geq (.tmp 4) (.const (.int .i64 0)), none⟩,
   ⟨(some 6), .mv (.tmp 5), none⟩,
   ⟨(some 7), .off 5 (.tmp 1), (some (6, true))⟩,
   ⟨(some 8), .load1 (.tmp 7), (some (6, true))⟩,
   ⟨(some 9), .bin .lss (.tmp 8) (.const (.int .i64 3)), (some (6, true))⟩,
   ⟨(some 10), .pick (.tmp 6) (.tmp 9) (.const (.bool false)), none⟩,
   ⟨(some 11), .mv (.tmp 10), none⟩,
   ⟨(some 12), .off 6 (.tmp 1), (some (11, true))⟩,
   ⟨(some 13), .load1 (.tmp 12), (some (11, true))⟩,
   ⟨(some 14), .off 8 (.tmp 1), (some (11, true))⟩,
   ⟨(some 15), .load1 (.tmp 14), (some (11, true))⟩,
   ⟨(some 16), .call n_bits_Mask [(.tmp 13), (.tmp 15)], (some (11, true))⟩,
   ⟨(some 17), .bin .neq (.tmp 16) (.const (.int .i64 0)), (some (11, true))⟩,
   ⟨(some 18), .pick (.tmp 11) (.tmp 17) (.const (.bool false)), none⟩,
   ⟨(some 19), .mv (.tmp 18), none⟩,
   ⟨(some 20), .off 7 (.tmp 1), (some (19, true))⟩,
   ⟨(some 21), .load1 (.tmp 20), (some (19, true))⟩,
   ⟨(some 22), .bin .eql (.tmp 21) (.const (.int .i64 (-1))), (some (19, true))⟩,
   ⟨(some 23), .mv (.tmp 22), (some (19, true))⟩,
   ⟨(some 24), .off 7 (.tmp 1), (some (23, false))⟩,
   ⟨(some 25), .load1 (.tmp 24), (some (23, false))⟩,
   ⟨(some 26), .call n_uir_register [(.tmp 25)], (some (23, false))⟩,
   ⟨(some 27), .pick (.tmp 23) (.const (.bool true)) (.tmp 26), (some (19, true))⟩,
   ⟨(some 28), .pick (.tmp 19) (.tmp 27) (.const (.bool false)), none⟩,
   ⟨(some 2), .mv (.tmp 28), none⟩])
 .ret))⟩
def c_uir_fence : AFunc := ⟨9, [.tmp 2],
 (.seq (.ops [⟨(some 2), .mv (.const (.bool false)), none⟩])
 (.seq (.ops [⟨(some 3), .mv (.tmp 0), none⟩,
   ⟨(some 4), .bin .geq (.tmp 3) (.const (.int .i64 1)), none⟩,
   ⟨(some 5), .mv (.tmp 4), none⟩,
   ⟨(some 6), .mv (.tmp 0), (some (5, true))⟩,
   ⟨(some 7), .bin .leq (.tmp 6) (.const (.int .i64 3)), (some (5, true))⟩,
   ⟨(some 8), .pick (.tmp 5) (.tmp 7) (.const (.bool false)), none⟩,
   ⟨(some 2), .mv (.tmp 8), none⟩])
 .ret))⟩
/-- The orders laid down. -/
def ords : List (Nat × List (Nat × List Nat)) := [(6, [(6, [0, 1, 3, 4, 6, 7, 8, 9, 10, 12, 2, 5, 11, 13, 14, 15, 16, 17, 18])]), (8, [(5, [0, 1, 3, 4, 5, 13, 2, 6, 7, 8, 9, 10, 11, 12, 14, 15, 16, 17])]), (28, [(8, [0, 1, 2, 3, 4, 5, 6, 7, 8, 9, 10, 11, 12, 13, 14, 15, 17, 20, 16, 18, 19, 21]), (12, [0, 1, 2, 3, 4, 5, 6, 8, 9, 11, 12, 7, 10, 13, 14, 15, 16]), (27, [0, 1, 2, 3, 4, 6, 7, 5, 8, 9, 10])]), (37, [(9, [0, 1, 2, 3, 4, 6, 7, 8, 9, 10, 5, 11, 12, 13])])]
/-- How many of the package's variables may be looked at. -/
def GG : Nat := 0
/-- The program as the abstract machine reads it. -/
noncomputable def FF : Funcs := fun f => (Try.prog.funcs[f]?).bind (normFunc Try.prog GG ((ords.lookup f).getD []))
theorem F_belatedlaw10_FlowPaths : FF n_belatedlaw10_FlowPaths = some c_belatedlaw10_FlowPaths := by kernel_rfl
theorem F_belatedlaw10_FlowCounts : FF n_belatedlaw10_FlowCounts = some c_belatedlaw10_FlowCounts := by kernel_rfl
theorem F_belatedlaw10_FlowHangs : FF n_belatedlaw10_FlowHangs = some c_belatedlaw10_FlowHangs := by kernel_rfl
theorem F_belatedlaw10_FlowValues : FF n_belatedlaw10_FlowValues = some c_belatedlaw10_FlowValues := by kernel_rfl
theorem F_belatedlaw10_FlowHolds : FF n_belatedlaw10_FlowHolds = some c_belatedlaw10_FlowHolds := by kernel_rfl
theorem F_belatedlaw10_FlowRuns : FF n_belatedlaw10_FlowRuns = some c_belatedlaw10_FlowRuns := by kernel_rfl
theorem F_belatedlaw10_able : FF n_belatedlaw10_able = some c_belatedlaw10_able := by kernel_rfl
theorem F_belatedlaw10_right : FF n_belatedlaw10_right = some c_belatedlaw10_right := by kernel_rfl
theorem F_flow_Paths : FF n_flow_Paths = some c_flow_Paths := by kernel_rfl
theorem F_belatedref10_Paths : FF n_belatedref10_Paths = some c_belatedref10_Paths := by kernel_rfl
theorem F_belatedlaw10_ints : FF n_belatedlaw10_ints = some c_belatedlaw10_ints := by kernel_rfl
theorem F_uir_Branches : FF n_uir_Branches = some c_uir_Branches := by kernel_rfl
theorem F_belatedlaw10_path : FF n_belatedlaw10_path = some c_belatedlaw10_path := by kernel_rfl
theorem F_flow_Addr : FF n_flow_Addr = some c_flow_Addr := by kernel_rfl
theorem F_belatedref10_Addr : FF n_belatedref10_Addr = some c_belatedref10_Addr := by kernel_rfl
theorem F_flow_Data : FF n_flow_Data = some c_flow_Data := by kernel_rfl
theorem F_belatedref10_Data : FF n_belatedref10_Data = some c_belatedref10_Data := by kernel_rfl
theorem F_flow_Ctrl : FF n_flow_Ctrl = some c_flow_Ctrl := by kernel_rfl
theorem F_belatedref10_Ctrl : FF n_belatedref10_Ctrl = some c_belatedref10_Ctrl := by kernel_rfl
theorem F_flow_Value : FF n_flow_Value = some c_flow_Value := by kernel_rfl
theorem F_belatedref10_Value : FF n_belatedref10_Value = some c_belatedref10_Value := by kernel_rfl
theorem F_flow_Def : FF n_flow_Def = some c_flow_Def := by kernel_rfl
theorem F_belatedref10_Def : FF n_belatedref10_Def = some c_belatedref10_Def := by kernel_rfl
theorem F_uir_Reads : FF n_uir_Reads = some c_uir_Reads := by kernel_rfl
theorem F_uir_Writes : FF n_uir_Writes = some c_uir_Writes := by kernel_rfl
theorem F_uir_Local : FF n_uir_Local = some c_uir_Local := by kernel_rfl
theorem F_uir_Check : FF n_uir_Check = some c_uir_Check := by kernel_rfl
theorem F_flow_Paths_1 : FF n_flow_Paths_1 = some c_flow_Paths_1 := by kernel_rfl
theorem F_slices_Clone_int_int : FF n_slices_Clone_int_int = some c_slices_Clone_int_int := by kernel_rfl
theorem F_belatedref10_from : FF n_belatedref10_from = some c_belatedref10_from := by kernel_rfl
theorem F_flow_ins : FF n_flow_ins = some c_flow_ins := by kernel_rfl
theorem F_uir_Ops : FF n_uir_Ops = some c_uir_Ops := by kernel_rfl
theorem F_flow_hangs : FF n_flow_hangs = some c_flow_hangs := by kernel_rfl
theorem F_belatedref3_Memory : FF n_belatedref3_Memory = some c_belatedref3_Memory := by kernel_rfl
theorem F_belatedref10_hangs : FF n_belatedref10_hangs = some c_belatedref10_hangs := by kernel_rfl
theorem F_belatedref3_Writes : FF n_belatedref3_Writes = some c_belatedref3_Writes := by kernel_rfl
theorem F_bits_Alu : FF n_bits_Alu = some c_bits_Alu := by kernel_rfl
theorem F_belatedref1_Alu : FF n_belatedref1_Alu = some c_belatedref1_Alu := by kernel_rfl
theorem F_uir_Gives : FF n_uir_Gives = some c_uir_Gives := by kernel_rfl
theorem F_belatedref3_Gives : FF n_belatedref3_Gives = some c_belatedref3_Gives := by kernel_rfl
theorem F_uir_Local_1 : FF n_uir_Local_1 = some c_uir_Local_1 := by kernel_rfl
theorem F_bits_Mask : FF n_bits_Mask = some c_bits_Mask := by kernel_rfl
theorem F_bits_Place : FF n_bits_Place = some c_bits_Place := by kernel_rfl
theorem F_bits_Get : FF n_bits_Get = some c_bits_Get := by kernel_rfl
theorem F_bits_Rmw : FF n_bits_Rmw = some c_bits_Rmw := by kernel_rfl
theorem F_uir_Right : FF n_uir_Right = some c_uir_Right := by kernel_rfl
theorem F_belatedref10_more : FF n_belatedref10_more = some c_belatedref10_more := by kernel_rfl
theorem F_bits_sized : FF n_bits_sized = some c_bits_sized := by kernel_rfl
theorem F_bits_low : FF n_bits_low = some c_bits_low := by kernel_rfl
theorem F_uir_formed : FF n_uir_formed = some c_uir_formed := by kernel_rfl
theorem F_uir_register : FF n_uir_register = some c_uir_register := by kernel_rfl
theorem F_uir_access : FF n_uir_access = some c_uir_access := by kernel_rfl
theorem F_uir_fence : FF n_uir_fence = some c_uir_fence := by kernel_rfl
end Go.Proofs.Ytoeoahpngmhkdaa.AM
