/-
  The functions of the program as the abstract machine reads them, and that they are just that.
  Conditions: none.
-/
import Derived.Test.YtcdjdmcacomkgaaAm3
import Derived.Test.YtcdjdmcacomkgaaProg
import Derived.KernelRfl
namespace Go.Proofs.Ytcdjdmcacomkgaa.AM
open Go.RowKit
def n_belatedlaw1_BitsBytes : FuncId := 3
def n_belatedlaw1_BitsMasks : FuncId := 4
def n_belatedlaw1_BitsParts : FuncId := 5
def n_belatedlaw1_BitsComputes : FuncId := 6
def n_belatedlaw1_BitsTell : FuncId := 7
def n_belatedlaw1_BitsBack : FuncId := 8
def n_belatedlaw1_able : FuncId := 9
def n_bits_Get : FuncId := 10
def n_belatedref1_Get : FuncId := 11
def n_bits_Put : FuncId := 12
def n_belatedref1_Put : FuncId := 13
def n_bits_Blend : FuncId := 14
def n_bits_Union : FuncId := 15
def n_bits_Meet : FuncId := 16
def n_belatedref1_Blend : FuncId := 17
def n_bits_Alu : FuncId := 18
def n_belatedref1_Alu : FuncId := 19
def n_bits_Rmw : FuncId := 20
def n_belatedref1_Rmw : FuncId := 21
def n_bits_Mask : FuncId := 22
def n_belatedref1_Mask : FuncId := 23
def n_bits_Place : FuncId := 24
def n_belatedref1_Place : FuncId := 25
def n_bits_Count : FuncId := 26
def n_belatedref1_Count : FuncId := 27
def n_bits_low : FuncId := 28
def n_belatedref1_Byte : FuncId := 29
def n_bits_sized : FuncId := 30
def n_belatedref1_size : FuncId := 31
def n_math_bits_OnesCount8 : FuncId := 32
def c_belatedlaw1_BitsBytes : AFunc := ⟨34, [.tmp 8],
 (.seq (.ops [⟨(some 8), .mv (.const (.bool false)), none⟩])
 (.seq (.ops [⟨(some 9), .call n_belatedlaw1_able [], none⟩,
   ⟨(some 10), .mv (.tmp 9), none⟩,
   ⟨(some 11), .mv (.tmp 0), (some (10, true))⟩,
   ⟨(some 12), .mv (.tmp 2), (some (10, true))⟩,
   ⟨(some 13), .mv (.tmp 3), (some (10, true))⟩,
   ⟨(some 14), .call n_bits_Get [(.tmp 11), (.tmp 12), (.tmp 13)], (some (10, true))⟩,
   ⟨(some 15), .mv (.tmp 0), (some (10, true))⟩,
   ⟨(some 16), .mv (.tmp 2), (some (10, true))⟩,
   ⟨(some 17), .mv (.tmp 3), (some (10, true))⟩,
   ⟨(some 18), .call n_belatedref1_Get [(.tmp 15), (.tmp 16), (.tmp 17)], (some (10, true))⟩,
   ⟨(some 19), .bin .eql (.tmp 14) (.tmp 18), (some (10, true))⟩,
   ⟨(some 20), .pick (.tmp 10) (.tmp 19) (.const (.bool false)), none⟩,
   ⟨(some 21), .mv (.tmp 20), none⟩,
   ⟨(some 22), .mv (.tmp 0), (some (21, true))⟩,
   ⟨(some 23), .mv (.tmp 2), (some (21, true))⟩,
   ⟨(some 24), .mv (.tmp 3), (some (21, true))⟩,
   ⟨(some 25), .mv (.tmp 1), (some (21, true))⟩,
   ⟨(some 26), .call n_bits_Put [(.tmp 22), (.tmp 23), (.tmp 24), (.tmp 25)], (some (21, true))⟩,
   ⟨(some 27), .mv (.tmp 0), (some (21, true))⟩,
   ⟨(some 28), .mv (.tmp 2), (some (21, true))⟩,
   ⟨(some 29), .mv (.tmp 3), (some (21, true))⟩,
   ⟨(some 30), .mv (.tmp 1), (some (21, true))⟩,
   ⟨(some 31), .call n_belatedref1_Put [(.tmp 27), (.tmp 28), (.tmp 29), (.tmp 30)], (some (21, true))⟩,
   ⟨(some 32), .bin .eql (.tmp 26) (.tmp 31), (some (21, true))⟩,
   ⟨(some 33), .pick (.tmp 21) (.tmp 32) (.const (.bool false)), none⟩,
   ⟨(some 8), .mv (.tmp 33), none⟩])
 .ret))⟩
def c_belatedlaw1_BitsMasks : AFunc := ⟨100, [.tmp 6],
 (.seq (.ops [⟨(some 6), .mv (.const (.bool false)), none⟩])
 (.seq (.seq (.ops [⟨(some 15), .call n_belatedlaw1_able [], none⟩,
   ⟨(some 16), .un .not (.tmp 15), none⟩])
 (.cond (.tmp 16) (.seq (.ops [⟨(some 6), .mv (.const (.bool false)), none⟩])
 .ret) .skip))
 (.seq (.seq (.ops [⟨(some 17), .mv (.tmp 2), none⟩,
   ⟨(some 18), .len (.tmp 17), none⟩,
   ⟨(some 19), .bin .gtr (.tmp 18) (.const (.int .i64 100000)), none⟩])
 (.cond (.tmp 19) (.seq (.ops [⟨(some 6), .mv (.const (.bool true)), none⟩])
 .ret) .skip))
 (.seq (.ops [⟨(some 20), .mkRow [(.int .i64 0)] 0 [], none⟩,
   ⟨(some 21), .mv (.tmp 2), none⟩,
   ⟨(some 22), .append 1 8 (.tmp 20) (.tmp 21), none⟩,
   ⟨(some 23), .mkRow [(.int .i64 0)] 1 [(0, 1, (.const (.int .i64 (-77))))], none⟩,
   ⟨(some 24), .append 1 8 (.tmp 22) (.tmp 23), none⟩,
   ⟨(some 7), .mv (.tmp 24), none⟩])
 (.seq (.ops [⟨(some 8), .mv (.const (.int .i64 0)), none⟩,
   ⟨(some 9), .mv (.const (.int .i64 255)), none⟩])
 (.seq (.seq (.ops [⟨(some 10), .mv (.const (.int .i64 0)), none⟩])
 (.block 0 (.loop (.seq (.seq (.ops [⟨(some 25), .mv (.tmp 10), none⟩,
     ⟨(some 26), .mv (.tmp 2), none⟩,
     ⟨(some 27), .len (.tmp 26), none⟩,
     ⟨(some 28), .bin .lss (.tmp 25) (.tmp 27), none⟩])
   (.cond (.tmp 28) .skip (.exit 0)))
   (.seq (.block 1 (.seq (.ops [⟨(some 31), .mv (.tmp 8), none⟩,
      ⟨(some 32), .mv (.tmp 2), none⟩,
      ⟨(some 33), .mv (.tmp 10), none⟩,
      ⟨(some 34), .atRow 1 (.tmp 32) (.tmp 33), none⟩,
      ⟨(some 35), .load1 (.tmp 34), none⟩,
      ⟨(some 36), .bin .and (.tmp 35) (.const (.int .i64 255)), none⟩,
      ⟨(some 37), .bin .or (.tmp 31) (.tmp 36), none⟩,
      ⟨(some 8), .mv (.tmp 37), none⟩])
    (.ops [⟨(some 38), .mv (.tmp 9), none⟩,
      ⟨(some 39), .mv (.tmp 2), none⟩,
      ⟨(some 40), .mv (.tmp 10), none⟩,
      ⟨(some 41), .atRow 1 (.tmp 39) (.tmp 40), none⟩,
      ⟨(some 42), .load1 (.tmp 41), none⟩,
      ⟨(some 43), .bin .and (.tmp 38) (.tmp 42), none⟩,
      ⟨(some 9), .mv (.tmp 43), none⟩])))
   (.ops [⟨(some 29), .mv (.tmp 10), none⟩,
     ⟨(some 30), .bin .add (.tmp 29) (.const (.int .i64 1)), none⟩,
     ⟨(some 10), .mv (.tmp 30), none⟩]))))))
 (.seq (.ops [⟨(some 44), .mv (.tmp 0), none⟩,
   ⟨(some 45), .mv (.tmp 1), none⟩,
   ⟨(some 46), .mv (.tmp 7), none⟩,
   ⟨(some 47), .mv (.tmp 2), none⟩,
   ⟨(some 48), .len (.tmp 47), none⟩,
   ⟨(some 49), .slice 1 (.tmp 46) none (some (.tmp 48)), none⟩,
   ⟨(some 50), .call n_bits_Blend [(.tmp 44), (.tmp 45), (.tmp 49)], none⟩,
   ⟨(some 11), .mv (.tmp 50), none⟩])
 (.seq (.ops [⟨(some 51), .mv (.tmp 7), none⟩,
   ⟨(some 52), .mv (.tmp 2), none⟩,
   ⟨(some 53), .len (.tmp 52), none⟩,
   ⟨(some 54), .slice 1 (.tmp 51) none (some (.tmp 53)), none⟩,
   ⟨(some 56), .mv (.tmp 7), none⟩,
   ⟨(some 57), .mv (.tmp 2), none⟩,
   ⟨(some 58), .len (.tmp 57), none⟩,
   ⟨(some 59), .slice 1 (.tmp 56) none (some (.tmp 58)), none⟩,
   ⟨(some 55), .call n_bits_Union [(.tmp 54)], none⟩,
   ⟨(some 60), .call n_bits_Meet [(.tmp 59)], none⟩,
   ⟨(some 12), .mv (.tmp 55), none⟩,
   ⟨(some 13), .mv (.tmp 60), none⟩])
 (.seq (.seq (.ops [⟨(some 14), .mv (.const (.int .i64 0)), none⟩])
 (.block 2 (.loop (.seq (.seq (.ops [⟨(some 61), .mv (.tmp 14), none⟩,
     ⟨(some 62), .mv (.tmp 2), none⟩,
     ⟨(some 63), .len (.tmp 62), none⟩,
     ⟨(some 64), .bin .lss (.tmp 61) (.tmp 63), none⟩])
   (.cond (.tmp 64) .skip (.exit 2)))
   (.seq (.block 3 (.seq (.ops [⟨(some 67), .mv (.tmp 7), none⟩,
      ⟨(some 68), .mv (.tmp 14), none⟩,
      ⟨(some 69), .atRow 1 (.tmp 67) (.tmp 68), none⟩,
      ⟨(some 70), .load1 (.tmp 69), none⟩,
      ⟨(some 71), .mv (.tmp 2), none⟩,
      ⟨(some 72), .mv (.tmp 14), none⟩,
      ⟨(some 73), .atRow 1 (.tmp 71) (.tmp 72), none⟩,
      ⟨(some 74), .load1 (.tmp 73), none⟩,
      ⟨(some 75), .bin .neq (.tmp 70) (.tmp 74), none⟩])
    (.cond (.tmp 75) (.seq (.ops [⟨(some 6), .mv (.const (.bool false)), none⟩])
    .ret) .skip)))
   (.ops [⟨(some 65), .mv (.tmp 14), none⟩,
     ⟨(some 66), .bin .add (.tmp 65) (.const (.int .i64 1)), none⟩,
     ⟨(some 14), .mv (.tmp 66), none⟩]))))))
 (.seq (.ops [⟨(some 76), .mv (.tmp 11), none⟩,
   ⟨(some 77), .mv (.tmp 0), none⟩,
   ⟨(some 78), .mv (.tmp 1), none⟩,
   ⟨(some 79), .mv (.tmp 8), none⟩,
   ⟨(some 80), .call n_belatedref1_Blend [(.tmp 77), (.tmp 78), (.tmp 79)], none⟩,
   ⟨(some 81), .bin .eql (.tmp 76) (.tmp 80), none⟩,
   ⟨(some 82), .mv (.tmp 81), none⟩,
   ⟨(some 83), .mv (.tmp 12), (some (82, true))⟩,
   ⟨(some 84), .mv (.tmp 8), (some (82, true))⟩,
   ⟨(some 85), .bin .eql (.tmp 83) (.tmp 84), (some (82, true))⟩,
   ⟨(some 86), .pick (.tmp 82) (.tmp 85) (.const (.bool false)), none⟩,
   ⟨(some 87), .mv (.tmp 86), none⟩,
   ⟨(some 88), .mv (.tmp 13), (some (87, true))⟩,
   ⟨(some 89), .mv (.tmp 9), (some (87, true))⟩,
   ⟨(some 90), .bin .eql (.tmp 88) (.tmp 89), (some (87, true))⟩,
   ⟨(some 91), .pick (.tmp 87) (.tmp 90) (.const (.bool false)), none⟩,
   ⟨(some 92), .mv (.tmp 91), none⟩,
   ⟨(some 93), .mv (.tmp 7), (some (92, true))⟩,
   ⟨(some 94), .mv (.tmp 2), (some (92, true))⟩,
   ⟨(some 95), .len (.tmp 94), (some (92, true))⟩,
   ⟨(some 96), .atRow 1 (.tmp 93) (.tmp 95), (some (92, true))⟩,
   ⟨(some 97), .load1 (.tmp 96), (some (92, true))⟩,
   ⟨(some 98), .bin .eql (.tmp 97) (.const (.int .i64 (-77))), (some (92, true))⟩,
   ⟨(some 99), .pick (.tmp 92) (.tmp 98) (.const (.bool false)), none⟩,
   ⟨(some 6), .mv (.tmp 99), none⟩])
 .ret))))))))))⟩
def c_belatedlaw1_BitsParts : AFunc := ⟨70, [.tmp 6],
 (.seq (.ops [⟨(some 6), .mv (.const (.bool false)), none⟩])
 (.seq (.seq (.ops [⟨(some 8), .call n_belatedlaw1_able [], none⟩,
   ⟨(some 9), .un .not (.tmp 8), none⟩])
 (.cond (.tmp 9) (.seq (.ops [⟨(some 6), .mv (.const (.bool false)), none⟩])
 .ret) .skip))
 (.seq (.ops [⟨(some 10), .mv (.tmp 2), none⟩,
   ⟨(some 11), .bin .and (.tmp 10) (.const (.int .i64 255)), none⟩,
   ⟨(some 2), .mv (.tmp 11), none⟩])
 (.seq (.ops [⟨(some 12), .mv (.tmp 0), none⟩,
   ⟨(some 13), .mv (.tmp 1), none⟩,
   ⟨(some 14), .mv (.tmp 2), none⟩,
   ⟨(some 15), .mkRow [(.int .i64 0)] 1 [(0, 1, (.tmp 14))], none⟩,
   ⟨(some 16), .call n_bits_Blend [(.tmp 12), (.tmp 13), (.tmp 15)], none⟩,
   ⟨(some 7), .mv (.tmp 16), none⟩])
 (.seq (.ops [⟨(some 17), .mv (.tmp 7), none⟩,
   ⟨(some 18), .mv (.tmp 1), none⟩,
   ⟨(some 19), .mv (.tmp 2), none⟩,
   ⟨(some 20), .bin .andNot (.const (.int .i64 255)) (.tmp 19), none⟩,
   ⟨(some 21), .mkRow [(.int .i64 0)] 1 [(0, 1, (.tmp 20))], none⟩,
   ⟨(some 22), .call n_bits_Blend [(.tmp 17), (.tmp 18), (.tmp 21)], none⟩,
   ⟨(some 23), .mv (.tmp 1), none⟩,
   ⟨(some 24), .bin .eql (.tmp 22) (.tmp 23), none⟩,
   ⟨(some 25), .mv (.tmp 24), none⟩,
   ⟨(some 26), .mv (.tmp 0), (some (25, true))⟩,
   ⟨(some 27), .mv (.tmp 7), (some (25, true))⟩,
   ⟨(some 28), .mv (.tmp 2), (some (25, true))⟩,
   ⟨(some 29), .mkRow [(.int .i64 0)] 1 [(0, 1, (.tmp 28))], (some (25, true))⟩,
   ⟨(some 30), .call n_bits_Blend [(.tmp 26), (.tmp 27), (.tmp 29)], (some (25, true))⟩,
   ⟨(some 31), .mv (.tmp 7), (some (25, true))⟩,
   ⟨(some 32), .bin .eql (.tmp 30) (.tmp 31), (some (25, true))⟩,
   ⟨(some 33), .pick (.tmp 25) (.tmp 32) (.const (.bool false)), none⟩,
   ⟨(some 34), .mv (.tmp 33), none⟩,
   ⟨(some 35), .mv (.tmp 7), (some (34, true))⟩,
   ⟨(some 36), .mv (.tmp 0), (some (34, true))⟩,
   ⟨(some 37), .mv (.tmp 2), (some (34, true))⟩,
   ⟨(some 38), .mkRow [(.int .i64 0)] 1 [(0, 1, (.tmp 37))], (some (34, true))⟩,
   ⟨(some 39), .call n_bits_Blend [(.tmp 35), (.tmp 36), (.tmp 38)], (some (34, true))⟩,
   ⟨(some 40), .mv (.tmp 0), (some (34, true))⟩,
   ⟨(some 41), .bin .eql (.tmp 39) (.tmp 40), (some (34, true))⟩,
   ⟨(some 42), .pick (.tmp 34) (.tmp 41) (.const (.bool false)), none⟩,
   ⟨(some 43), .mv (.tmp 42), none⟩,
   ⟨(some 44), .mv (.tmp 0), (some (43, true))⟩,
   ⟨(some 45), .mv (.tmp 1), (some (43, true))⟩,
   ⟨(some 46), .mv (.tmp 2), (some (43, true))⟩,
   ⟨(some 47), .mv (.tmp 2), (some (43, true))⟩,
   ⟨(some 48), .bin .andNot (.const (.int .i64 255)) (.tmp 47), (some (43, true))⟩,
   ⟨(some 49), .mkRow [(.int .i64 0)] 2 [(0, 1, (.tmp 46)), (1, 1, (.tmp 48))], (some (43, true))⟩,
   ⟨(some 50), .call n_bits_Blend [(.tmp 44), (.tmp 45), (.tmp 49)], (some (43, true))⟩,
   ⟨(some 51), .mv (.tmp 1), (some (43, true))⟩,
   ⟨(some 52), .bin .eql (.tmp 50) (.tmp 51), (some (43, true))⟩,
   ⟨(some 53), .pick (.tmp 43) (.tmp 52) (.const (.bool false)), none⟩,
   ⟨(some 54), .mv (.tmp 53), none⟩,
   ⟨(some 55), .mv (.tmp 2), (some (54, true))⟩,
   ⟨(some 56), .mv (.tmp 2), (some (54, true))⟩,
   ⟨(some 57), .bin .andNot (.const (.int .i64 255)) (.tmp 56), (some (54, true))⟩,
   ⟨(some 58), .mkRow [(.int .i64 0)] 2 [(0, 1, (.tmp 55)), (1, 1, (.tmp 57))], (some (54, true))⟩,
   ⟨(some 59), .call n_bits_Union [(.tmp 58)], (some (54, true))⟩,
   ⟨(some 60), .bin .eql (.tmp 59) (.const (.int .i64 255)), (some (54, true))⟩,
   ⟨(some 61), .pick (.tmp 54) (.tmp 60) (.const (.bool false)), none⟩,
   ⟨(some 62), .mv (.tmp 61), none⟩,
   ⟨(some 63), .mv (.tmp 2), (some (62, true))⟩,
   ⟨(some 64), .mv (.tmp 2), (some (62, true))⟩,
   ⟨(some 65), .bin .andNot (.const (.int .i64 255)) (.tmp 64), (some (62, true))⟩,
   ⟨(some 66), .mkRow [(.int .i64 0)] 2 [(0, 1, (.tmp 63)), (1, 1, (.tmp 65))], (some (62, true))⟩,
   ⟨(some 67), .call n_bits_Meet [(.tmp 66)], (some (62, true))⟩,
   ⟨(some 68), .bin .eql (.tmp 67) (.const (.int .i64 0)), (some (62, true))⟩,
   ⟨(some 69), .pick (.tmp 62) (.tmp 68) (.const (.bool false)), none⟩,
   ⟨(some 6), .mv (.tmp 69), none⟩])
 .ret)))))⟩
def c_belatedlaw1_BitsComputes : AFunc := ⟨34, [.tmp 8],
 (.seq (.ops [⟨(some 8), .mv (.const (.bool false)), none⟩])
 (.seq (.ops [⟨(some 9), .call n_belatedlaw1_able [], none⟩,
   ⟨(some 10), .mv (.tmp 9), none⟩,
   ⟨(some 11), .mv (.tmp 0), (some (10, true))⟩,
   ⟨(some 12), .mv (.tmp 1), (some (10, true))⟩,
   ⟨(some 13), .mv (.tmp 2), (some (10, true))⟩,
   ⟨(some 14), .call n_bits_Alu [(.tmp 11), (.tmp 12), (.tmp 13)], (some (10, true))⟩,
   ⟨(some 15), .mv (.tmp 0), (some (10, true))⟩,
   ⟨(some 16), .mv (.tmp 1), (some (10, true))⟩,
   ⟨(some 17), .mv (.tmp 2), (some (10, true))⟩,
   ⟨(some 18), .call n_belatedref1_Alu [(.tmp 15), (.tmp 16), (.tmp 17)], (some (10, true))⟩,
   ⟨(some 19), .bin .eql (.tmp 14) (.tmp 18), (some (10, true))⟩,
   ⟨(some 20), .pick (.tmp 10) (.tmp 19) (.const (.bool false)), none⟩,
   ⟨(some 21), .mv (.tmp 20), none⟩,
   ⟨(some 22), .mv (.tmp 0), (some (21, true))⟩,
   ⟨(some 23), .mv (.tmp 1), (some (21, true))⟩,
   ⟨(some 24), .mv (.tmp 2), (some (21, true))⟩,
   ⟨(some 25), .mv (.tmp 3), (some (21, true))⟩,
   ⟨(some 26), .call n_bits_Rmw [(.tmp 22), (.tmp 23), (.tmp 24), (.tmp 25)], (some (21, true))⟩,
   ⟨(some 27), .mv (.tmp 0), (some (21, true))⟩,
   ⟨(some 28), .mv (.tmp 1), (some (21, true))⟩,
   ⟨(some 29), .mv (.tmp 2), (some (21, true))⟩,
   ⟨(some 30), .mv (.tmp 3), (some (21, true))⟩,
   ⟨(some 31), .call n_belatedref1_Rmw [(.tmp 27), (.tmp 28), (.tmp 29), (.tmp 30)], (some (21, true))⟩,
   ⟨(some 32), .bin .eql (.tmp 26) (.tmp 31), (some (21, true))⟩,
   ⟨(some 33), .pick (.tmp 21) (.tmp 32) (.const (.bool false)), none⟩,
   ⟨(some 8), .mv (.tmp 33), none⟩])
 .ret))⟩
def c_belatedlaw1_BitsTell : AFunc := ⟨37, [.tmp 8],
 (.seq (.ops [⟨(some 8), .mv (.const (.bool false)), none⟩])
 (.seq (.ops [⟨(some 9), .call n_belatedlaw1_able [], none⟩,
   ⟨(some 10), .mv (.tmp 9), none⟩,
   ⟨(some 11), .mv (.tmp 0), (some (10, true))⟩,
   ⟨(some 12), .mv (.tmp 2), (some (10, true))⟩,
   ⟨(some 13), .call n_bits_Mask [(.tmp 11), (.tmp 12)], (some (10, true))⟩,
   ⟨(some 14), .mv (.tmp 0), (some (10, true))⟩,
   ⟨(some 15), .mv (.tmp 2), (some (10, true))⟩,
   ⟨(some 16), .call n_belatedref1_Mask [(.tmp 14), (.tmp 15)], (some (10, true))⟩,
   ⟨(some 17), .bin .eql (.tmp 13) (.tmp 16), (some (10, true))⟩,
   ⟨(some 18), .pick (.tmp 10) (.tmp 17) (.const (.bool false)), none⟩,
   ⟨(some 19), .mv (.tmp 18), none⟩,
   ⟨(some 20), .mv (.tmp 0), (some (19, true))⟩,
   ⟨(some 21), .mv (.tmp 1), (some (19, true))⟩,
   ⟨(some 22), .mv (.tmp 2), (some (19, true))⟩,
   ⟨(some 23), .call n_bits_Place [(.tmp 20), (.tmp 21), (.tmp 22)], (some (19, true))⟩,
   ⟨(some 24), .mv (.tmp 0), (some (19, true))⟩,
   ⟨(some 25), .mv (.tmp 1), (some (19, true))⟩,
   ⟨(some 26), .mv (.tmp 2), (some (19, true))⟩,
   ⟨(some 27), .call n_belatedref1_Place [(.tmp 24), (.tmp 25), (.tmp 26)], (some (19, true))⟩,
   ⟨(some 28), .bin .eql (.tmp 23) (.tmp 27), (some (19, true))⟩,
   ⟨(some 29), .pick (.tmp 19) (.tmp 28) (.const (.bool false)), none⟩,
   ⟨(some 30), .mv (.tmp 29), none⟩,
   ⟨(some 31), .mv (.tmp 3), (some (30, true))⟩,
   ⟨(some 32), .call n_bits_Count [(.tmp 31)], (some (30, true))⟩,
   ⟨(some 33), .mv (.tmp 3), (some (30, true))⟩,
   ⟨(some 34), .call n_belatedref1_Count [(.tmp 33)], (some (30, true))⟩,
   ⟨(some 35), .bin .eql (.tmp 32) (.tmp 34), (some (30, true))⟩,
   ⟨(some 36), .pick (.tmp 30) (.tmp 35) (.const (.bool false)), none⟩,
   ⟨(some 8), .mv (.tmp 36), none⟩])
 .ret))⟩
def c_belatedlaw1_BitsBack : AFunc := ⟨127, [.tmp 12],
 (.seq (.ops [⟨(some 12), .mv (.const (.bool false)), none⟩])
 (.seq (.seq (.ops [⟨(some 17), .call n_belatedlaw1_able [], none⟩,
   ⟨(some 18), .un .not (.tmp 17), none⟩])
 (.cond (.tmp 18) (.seq (.ops [⟨(some 12), .mv (.const (.bool false)), none⟩])
 .ret) .skip))
 (.seq (.ops [⟨(some 19), .mv (.tmp 2), none⟩,
   ⟨(some 20), .mv (.tmp 3), none⟩,
   ⟨(some 21), .call n_bits_Mask [(.tmp 19), (.tmp 20)], none⟩,
   ⟨(some 13), .mv (.tmp 21), none⟩])
 (.seq (.seq (.ops [⟨(some 22), .mv (.tmp 13), none⟩,
   ⟨(some 23), .bin .eql (.tmp 22) (.const (.int .i64 0)), none⟩])
 (.cond (.tmp 23) (.seq (.ops [⟨(some 24), .mv (.tmp 0), none⟩,
   ⟨(some 25), .mv (.tmp 2), none⟩,
   ⟨(some 26), .mv (.tmp 3), none⟩,
   ⟨(some 27), .mv (.tmp 1), none⟩,
   ⟨(some 28), .call n_bits_Put [(.tmp 24), (.tmp 25), (.tmp 26), (.tmp 27)], none⟩,
   ⟨(some 29), .mv (.tmp 0), none⟩,
   ⟨(some 30), .bin .eql (.tmp 28) (.tmp 29), none⟩,
   ⟨(some 31), .mv (.tmp 30), none⟩,
   ⟨(some 32), .mv (.tmp 0), (some (31, true))⟩,
   ⟨(some 33), .mv (.tmp 2), (some (31, true))⟩,
   ⟨(some 34), .mv (.tmp 3), (some (31, true))⟩,
   ⟨(some 35), .call n_bits_Get [(.tmp 32), (.tmp 33), (.tmp 34)], (some (31, true))⟩,
   ⟨(some 36), .bin .eql (.tmp 35) (.const (.int .i64 0)), (some (31, true))⟩,
   ⟨(some 37), .pick (.tmp 31) (.tmp 36) (.const (.bool false)), none⟩,
   ⟨(some 12), .mv (.tmp 37), none⟩])
 .ret) .skip))
 (.seq (.ops [⟨(some 38), .mv (.tmp 0), none⟩,
   ⟨(some 39), .mv (.tmp 2), none⟩,
   ⟨(some 40), .mv (.tmp 3), none⟩,
   ⟨(some 41), .mv (.tmp 1), none⟩,
   ⟨(some 42), .call n_bits_Put [(.tmp 38), (.tmp 39), (.tmp 40), (.tmp 41)], none⟩,
   ⟨(some 14), .mv (.tmp 42), none⟩])
 (.seq (.seq (.ops [⟨(some 43), .mv (.tmp 14), none⟩,
   ⟨(some 44), .mv (.tmp 2), none⟩,
   ⟨(some 45), .mv (.tmp 3), none⟩,
   ⟨(some 46), .call n_bits_Get [(.tmp 43), (.tmp 44), (.tmp 45)], none⟩,
   ⟨(some 47), .mv (.tmp 1), none⟩,
   ⟨(some 48), .mv (.tmp 3), none⟩,
   ⟨(some 49), .call n_bits_Get [(.tmp 47), (.const (.int .i64 0)), (.tmp 48)], none⟩,
   ⟨(some 50), .bin .neq (.tmp 46) (.tmp 49), none⟩,
   ⟨(some 51), .mv (.tmp 50), none⟩,
   ⟨(some 52), .mv (.tmp 14), (some (51, false))⟩,
   ⟨(some 53), .mv (.tmp 0), (some (51, false))⟩,
   ⟨(some 54), .mv (.tmp 13), (some (51, false))⟩,
   ⟨(some 55), .mkRow [(.int .i64 0)] 1 [(0, 1, (.tmp 54))], (some (51, false))⟩,
   ⟨(some 56), .call n_bits_Blend [(.tmp 52), (.tmp 53), (.tmp 55)], (some (51, false))⟩,
   ⟨(some 57), .mv (.tmp 0), (some (51, false))⟩,
   ⟨(some 58), .bin .neq (.tmp 56) (.tmp 57), (some (51, false))⟩,
   ⟨(some 59), .pick (.tmp 51) (.const (.bool true)) (.tmp 58), none⟩,
   ⟨(some 60), .mv (.tmp 59), none⟩,
   ⟨(some 61), .mv (.tmp 13), (some (60, false))⟩,
   ⟨(some 62), .call n_bits_Count [(.tmp 61)], (some (60, false))⟩,
   ⟨(some 63), .mv (.tmp 3), (some (60, false))⟩,
   ⟨(some 64), .bin .neq (.tmp 62) (.tmp 63), (some (60, false))⟩,
   ⟨(some 65), .pick (.tmp 60) (.const (.bool true)) (.tmp 64), none⟩])
 (.cond (.tmp 65) (.seq (.ops [⟨(some 12), .mv (.const (.bool false)), none⟩])
 .ret) .skip))
 (.seq (.ops [⟨(some 66), .mv (.tmp 4), none⟩,
   ⟨(some 67), .mv (.tmp 3), none⟩,
   ⟨(some 68), .call n_bits_Mask [(.tmp 66), (.tmp 67)], none⟩,
   ⟨(some 15), .mv (.tmp 68), none⟩])
 (.seq (.seq (.ops [⟨(some 69), .mv (.tmp 15), none⟩,
   ⟨(some 70), .bin .neq (.tmp 69) (.const (.int .i64 0)), none⟩,
   ⟨(some 71), .mv (.tmp 70), none⟩,
   ⟨(some 72), .mv (.tmp 15), (some (71, true))⟩,
   ⟨(some 73), .mv (.tmp 13), (some (71, true))⟩,
   ⟨(some 74), .bin .neq (.tmp 72) (.tmp 73), (some (71, true))⟩,
   ⟨(some 75), .pick (.tmp 71) (.tmp 74) (.const (.bool false)), none⟩,
   ⟨(some 76), .mv (.tmp 75), none⟩,
   ⟨(some 77), .mv (.tmp 15), (some (76, true))⟩,
   ⟨(some 78), .mv (.tmp 13), (some (76, true))⟩,
   ⟨(some 79), .mkRow [(.int .i64 0)] 2 [(0, 1, (.tmp 77)), (1, 1, (.tmp 78))], (some (76, true))⟩,
   ⟨(some 80), .call n_bits_Meet [(.tmp 79)], (some (76, true))⟩,
   ⟨(some 81), .bin .neq (.tmp 80) (.const (.int .i64 0)), (some (76, true))⟩,
   ⟨(some 82), .mv (.tmp 81), (some (76, true))⟩,
   ⟨(some 83), .mv (.tmp 14), (some (82, false))⟩,
   ⟨(some 84), .mv (.tmp 4), (some (82, false))⟩,
   ⟨(some 85), .mv (.tmp 3), (some (82, false))⟩,
   ⟨(some 86), .call n_bits_Get [(.tmp 83), (.tmp 84), (.tmp 85)], (some (82, false))⟩,
   ⟨(some 87), .mv (.tmp 0), (some (82, false))⟩,
   ⟨(some 88), .mv (.tmp 4), (some (82, false))⟩,
   ⟨(some 89), .mv (.tmp 3), (some (82, false))⟩,
   ⟨(some 90), .call n_bits_Get [(.tmp 87), (.tmp 88), (.tmp 89)], (some (82, false))⟩,
   ⟨(some 91), .bin .neq (.tmp 86) (.tmp 90), (some (82, false))⟩,
   ⟨(some 92), .pick (.tmp 82) (.const (.bool true)) (.tmp 91), (some (76, true))⟩,
   ⟨(some 93), .pick (.tmp 76) (.tmp 92) (.const (.bool false)), none⟩])
 (.cond (.tmp 93) (.seq (.ops [⟨(some 12), .mv (.const (.bool false)), none⟩])
 .ret) .skip))
 (.seq (.ops [⟨(some 94), .mv (.tmp 2), none⟩,
   ⟨(some 95), .mv (.tmp 5), none⟩,
   ⟨(some 96), .mv (.tmp 3), none⟩,
   ⟨(some 97), .call n_bits_Place [(.tmp 94), (.tmp 95), (.tmp 96)], none⟩,
   ⟨(some 16), .mv (.tmp 97), none⟩])
 (.seq (.ops [⟨(some 98), .mv (.tmp 16), none⟩,
   ⟨(some 99), .mv (.tmp 3), none⟩,
   ⟨(some 100), .call n_bits_Mask [(.tmp 98), (.tmp 99)], none⟩,
   ⟨(some 101), .bin .neq (.tmp 100) (.const (.int .i64 0)), none⟩,
   ⟨(some 102), .mv (.tmp 101), none⟩,
   ⟨(some 103), .mv (.tmp 16), (some (102, true))⟩,
   ⟨(some 104), .mv (.tmp 3), (some (102, true))⟩,
   ⟨(some 105), .bin .rem (.tmp 103) (.tmp 104), (some (102, true))⟩,
   ⟨(some 106), .bin .eql (.tmp 105) (.const (.int .i64 0)), (some (102, true))⟩,
   ⟨(some 107), .pick (.tmp 102) (.tmp 106) (.const (.bool false)), none⟩,
   ⟨(some 108), .mv (.tmp 107), none⟩,
   ⟨(some 109), .mv (.tmp 2), (some (108, true))⟩,
   ⟨(some 110), .mv (.tmp 3), (some (108, true))⟩,
   ⟨(some 111), .call n_bits_Place [(.tmp 109), (.const (.int .i64 0)), (.tmp 110)], (some (108, true))⟩,
   ⟨(some 112), .mv (.tmp 2), (some (108, true))⟩,
   ⟨(some 113), .bin .eql (.tmp 111) (.tmp 112), (some (108, true))⟩,
   ⟨(some 114), .pick (.tmp 108) (.tmp 113) (.const (.bool false)), none⟩,
   ⟨(some 115), .mv (.tmp 114), none⟩,
   ⟨(some 116), .mv (.tmp 2), (some (115, true))⟩,
   ⟨(some 117), .mv (.tmp 5), (some (115, true))⟩,
   ⟨(some 118), .mv (.tmp 3), (some (115, true))⟩,
   ⟨(some 119), .call n_bits_Place [(.tmp 116), (.tmp 117), (.tmp 118)], (some (115, true))⟩,
   ⟨(some 120), .mv (.tmp 2), (some (115, true))⟩,
   ⟨(some 121), .mv (.tmp 5), (some (115, true))⟩,
   ⟨(some 122), .bin .and (.tmp 121) (.const (.int .i64 7)), (some (115, true))⟩,
   ⟨(some 123), .mv (.tmp 3), (some (115, true))⟩,
   ⟨(some 124), .call n_bits_Place [(.tmp 120), (.tmp 122), (.tmp 123)], (some (115, true))⟩,
   ⟨(some 125), .bin .eql (.tmp 119) (.tmp 124), (some (115, true))⟩,
   ⟨(some 126), .pick (.tmp 115) (.tmp 125) (.const (.bool false)), none⟩,
   ⟨(some 12), .mv (.tmp 126), none⟩])
 .ret))))))))))⟩
def c_belatedlaw1_able : AFunc := ⟨15, [.tmp 0],
 (.seq (.ops [⟨(some 0), .mv (.const (.bool false)), none⟩])
 (.seq (.ops [⟨(some 1), .call n_bits_Mask [(.const (.int .i64 4)), (.const (.int .i64 2))], none⟩,
   ⟨(some 2), .bin .eql (.tmp 1) (.const (.int .i64 48)), none⟩,
   ⟨(some 3), .mv (.tmp 2), none⟩,
   ⟨(some 4), .call n_bits_Get [(.const (.int .i64 4660)), (.const (.int .i64 1)), (.const (.int .i64 1))], (some (3, true))⟩,
   ⟨(some 5), .bin .eql (.tmp 4) (.const (.int .i64 18)), (some (3, true))⟩,
   ⟨(some 6), .pick (.tmp 3) (.tmp 5) (.const (.bool false)), none⟩,
   ⟨(some 7), .mv (.tmp 6), none⟩,
   ⟨(some 8), .call n_bits_Put [(.const (.int .i64 0)), (.const (.int .i64 2)), (.const (.int .i64 2)), (.const (.int .i64 74565))], (some (7, true))⟩,
   ⟨(some 9), .bin .eql (.tmp 8) (.const (.int .i64 591724544)), (some (7, true))⟩,
   ⟨(some 10), .pick (.tmp 7) (.tmp 9) (.const (.bool false)), none⟩,
   ⟨(some 11), .mv (.tmp 10), none⟩,
   ⟨(some 12), .call n_bits_Alu [(.const (.int .i64 2)), (.const (.int .i64 1)), (.const (.int .i64 2))], (some (11, true))⟩,
   ⟨(some 13), .bin .eql (.tmp 12) (.const (.int .i64 (-1))), (some (11, true))⟩,
   ⟨(some 14), .pick (.tmp 11) (.tmp 13) (.const (.bool false)), none⟩,
   ⟨(some 0), .mv (.tmp 14), none⟩])
 .ret))⟩
def c_bits_Get : AFunc := ⟨19, [.tmp 6],
 (.seq (.ops [⟨(some 6), .mv (.const (.int .i64 0)), none⟩])
 (.seq (.seq (.ops [⟨(some 7), .mv (.tmp 1), none⟩,
   ⟨(some 8), .mv (.tmp 2), none⟩,
   ⟨(some 9), .call n_bits_Mask [(.tmp 7), (.tmp 8)], none⟩,
   ⟨(some 10), .bin .eql (.tmp 9) (.const (.int .i64 0)), none⟩])
 (.cond (.tmp 10) (.seq (.ops [⟨(some 6), .mv (.const (.int .i64 0)), none⟩])
 .ret) .skip))
 (.seq (.ops [⟨(some 11), .mv (.tmp 0), none⟩,
   ⟨(some 12), .conv .u64 (.tmp 11), none⟩,
   ⟨(some 13), .mv (.tmp 1), none⟩,
   ⟨(some 14), .bin .mul (.const (.int .i64 8)) (.tmp 13), none⟩,
   ⟨(some 15), .bin .shr (.tmp 12) (.tmp 14), none⟩,
   ⟨(some 16), .conv .i64 (.tmp 15), none⟩,
   ⟨(some 17), .mv (.tmp 2), none⟩,
   ⟨(some 18), .call n_bits_low [(.tmp 16), (.tmp 17)], none⟩,
   ⟨(some 6), .mv (.tmp 18), none⟩])
 .ret)))⟩
def c_belatedref1_Get : AFunc := ⟨29, [.tmp 6],
 (.seq (.ops [⟨(some 6), .mv (.const (.int .i64 0)), none⟩])
 (.seq (.seq (.ops [⟨(some 9), .mv (.tmp 1), none⟩,
   ⟨(some 10), .mv (.tmp 2), none⟩,
   ⟨(some 11), .call n_belatedref1_Mask [(.tmp 9), (.tmp 10)], none⟩,
   ⟨(some 12), .bin .eql (.tmp 11) (.const (.int .i64 0)), none⟩])
 (.cond (.tmp 12) (.seq (.ops [⟨(some 6), .mv (.const (.int .i64 0)), none⟩])
 .ret) .skip))
 (.seq (.ops [⟨(some 7), .mv (.const (.int .i64 0)), none⟩])
 (.seq (.seq (.ops [⟨(some 8), .mv (.const (.int .i64 0)), none⟩])
 (.block 0 (.loop (.seq (.seq (.ops [⟨(some 13), .mv (.tmp 8), none⟩,
     ⟨(some 14), .mv (.tmp 2), none⟩,
     ⟨(some 15), .bin .lss (.tmp 13) (.tmp 14), none⟩])
   (.cond (.tmp 15) .skip (.exit 0)))
   (.seq (.block 1 (.ops [⟨(some 18), .mv (.tmp 7), none⟩,
      ⟨(some 19), .mv (.tmp 0), none⟩,
      ⟨(some 20), .mv (.tmp 1), none⟩,
      ⟨(some 21), .mv (.tmp 8), none⟩,
      ⟨(some 22), .bin .add (.tmp 20) (.tmp 21), none⟩,
      ⟨(some 23), .call n_belatedref1_Byte [(.tmp 19), (.tmp 22)], none⟩,
      ⟨(some 24), .mv (.tmp 8), none⟩,
      ⟨(some 25), .bin .mul (.const (.int .i64 8)) (.tmp 24), none⟩,
      ⟨(some 26), .bin .shl (.tmp 23) (.tmp 25), none⟩,
      ⟨(some 27), .bin .or (.tmp 18) (.tmp 26), none⟩,
      ⟨(some 7), .mv (.tmp 27), none⟩]))
   (.ops [⟨(some 16), .mv (.tmp 8), none⟩,
     ⟨(some 17), .bin .add (.tmp 16) (.const (.int .i64 1)), none⟩,
     ⟨(some 8), .mv (.tmp 17), none⟩]))))))
 (.seq (.ops [⟨(some 28), .mv (.tmp 7), none⟩,
   ⟨(some 6), .mv (.tmp 28), none⟩])
 .ret)))))⟩
def c_bits_Put : AFunc := ⟨26, [.tmp 8],
 (.seq (.ops [⟨(some 8), .mv (.const (.int .i64 0)), none⟩])
 (.seq (.seq (.ops [⟨(some 9), .mv (.tmp 1), none⟩,
   ⟨(some 10), .mv (.tmp 2), none⟩,
   ⟨(some 11), .call n_bits_Mask [(.tmp 9), (.tmp 10)], none⟩,
   ⟨(some 12), .bin .eql (.tmp 11) (.const (.int .i64 0)), none⟩])
 (.cond (.tmp 12) (.seq (.ops [⟨(some 13), .mv (.tmp 0), none⟩,
   ⟨(some 8), .mv (.tmp 13), none⟩])
 .ret) .skip))
 (.seq (.ops [⟨(some 14), .mv (.tmp 0), none⟩,
   ⟨(some 15), .mv (.tmp 3), none⟩,
   ⟨(some 16), .mv (.tmp 2), none⟩,
   ⟨(some 18), .mv (.tmp 1), none⟩,
   ⟨(some 19), .bin .mul (.const (.int .i64 8)) (.tmp 18), none⟩,
   ⟨(some 21), .mv (.tmp 1), none⟩,
   ⟨(some 22), .mv (.tmp 2), none⟩,
   ⟨(some 17), .call n_bits_low [(.tmp 15), (.tmp 16)], none⟩,
   ⟨(some 20), .bin .shl (.tmp 17) (.tmp 19), none⟩,
   ⟨(some 23), .call n_bits_Mask [(.tmp 21), (.tmp 22)], none⟩,
   ⟨(some 24), .mkRow [(.int .i64 0)] 1 [(0, 1, (.tmp 23))], none⟩,
   ⟨(some 25), .call n_bits_Blend [(.tmp 14), (.tmp 20), (.tmp 24)], none⟩,
   ⟨(some 8), .mv (.tmp 25), none⟩])
 .ret)))⟩
def c_belatedref1_Put : AFunc := ⟨23, [.tmp 8],
 (.seq (.ops [⟨(some 8), .mv (.const (.int .i64 0)), none⟩])
 (.seq (.ops [⟨(some 10), .mv (.tmp 1), none⟩,
   ⟨(some 11), .mv (.tmp 2), none⟩,
   ⟨(some 12), .call n_belatedref1_Mask [(.tmp 10), (.tmp 11)], none⟩,
   ⟨(some 9), .mv (.tmp 12), none⟩])
 (.seq (.seq (.ops [⟨(some 13), .mv (.tmp 9), none⟩,
   ⟨(some 14), .bin .eql (.tmp 13) (.const (.int .i64 0)), none⟩])
 (.cond (.tmp 14) (.seq (.ops [⟨(some 15), .mv (.tmp 0), none⟩,
   ⟨(some 8), .mv (.tmp 15), none⟩])
 .ret) .skip))
 (.seq (.ops [⟨(some 16), .mv (.tmp 0), none⟩,
   ⟨(some 17), .mv (.tmp 3), none⟩,
   ⟨(some 18), .mv (.tmp 1), none⟩,
   ⟨(some 19), .bin .mul (.const (.int .i64 8)) (.tmp 18), none⟩,
   ⟨(some 20), .bin .shl (.tmp 17) (.tmp 19), none⟩,
   ⟨(some 21), .mv (.tmp 9), none⟩,
   ⟨(some 22), .call n_belatedref1_Blend [(.tmp 16), (.tmp 20), (.tmp 21)], none⟩,
   ⟨(some 8), .mv (.tmp 22), none⟩])
 .ret))))⟩
def c_bits_Blend : AFunc := ⟨31, [.tmp 6],
 (.seq (.ops [⟨(some 6), .mv (.const (.int .i64 0)), none⟩])
 (.seq (.ops [⟨(some 7), .mv (.const (.int .i64 0)), none⟩])
 (.seq (.seq (.ops [⟨(some 9), .mv (.const (.int .i64 0)), none⟩])
 (.block 0 (.loop (.seq (.ops [⟨(some 10), .bin .lss (.tmp 9) (.const (.int .i64 8)), none⟩])
   (.seq (.cond (.tmp 10) .skip (.exit 0))
   (.seq (.block 1 (.seq (.ops [⟨(some 11), .mv (.tmp 9), none⟩,
      ⟨(some 8), .mv (.tmp 11), none⟩])
    (.seq (.ops [⟨(some 12), .mv (.tmp 2), none⟩,
      ⟨(some 13), .call n_bits_Union [(.tmp 12)], none⟩,
      ⟨(some 14), .mv (.tmp 8), none⟩,
      ⟨(some 15), .bin .shr (.tmp 13) (.tmp 14), none⟩,
      ⟨(some 16), .bin .and (.tmp 15) (.const (.int .i64 1)), none⟩,
      ⟨(some 17), .bin .eql (.tmp 16) (.const (.int .i64 1)), none⟩])
    (.cond (.tmp 17) (.ops [⟨(some 18), .mv (.tmp 7), none⟩,
      ⟨(some 19), .mv (.tmp 8), none⟩,
      ⟨(some 20), .bin .mul (.const (.int .i64 8)) (.tmp 19), none⟩,
      ⟨(some 21), .bin .shl (.const (.int .i64 255)) (.tmp 20), none⟩,
      ⟨(some 22), .bin .or (.tmp 18) (.tmp 21), none⟩,
      ⟨(some 7), .mv (.tmp 22), none⟩]) .skip))))
   (.ops [⟨(some 23), .bin .add (.tmp 9) (.const (.int .i64 1)), none⟩,
     ⟨(some 9), .mv (.tmp 23), none⟩])))))))
 (.seq (.ops [⟨(some 24), .mv (.tmp 0), none⟩,
   ⟨(some 25), .mv (.tmp 7), none⟩,
   ⟨(some 26), .bin .andNot (.tmp 24) (.tmp 25), none⟩,
   ⟨(some 27), .mv (.tmp 1), none⟩,
   ⟨(some 28), .mv (.tmp 7), none⟩,
   ⟨(some 29), .bin .and (.tmp 27) (.tmp 28), none⟩,
   ⟨(some 30), .bin .or (.tmp 26) (.tmp 29), none⟩,
   ⟨(some 6), .mv (.tmp 30), none⟩])
 .ret))))⟩
def c_bits_Union : AFunc := ⟨18, [.tmp 2],
 (.seq (.ops [⟨(some 2), .mv (.const (.int .i64 0)), none⟩])
 (.seq (.ops [⟨(some 3), .mv (.const (.int .i64 0)), none⟩])
 (.seq (.seq (.ops [⟨(some 6), .mv (.tmp 0), none⟩,
   ⟨(some 7), .len (.tmp 6), none⟩,
   ⟨(some 8), .mv (.const (.int .i64 0)), none⟩])
 (.block 0 (.loop (.seq (.ops [⟨(some 9), .bin .lss (.tmp 8) (.tmp 7), none⟩])
   (.seq (.cond (.tmp 9) .skip (.exit 0))
   (.seq (.block 1 (.seq (.ops [⟨(some 10), .atRow 1 (.tmp 6) (.tmp 8), none⟩,
      ⟨(some 11), .load1 (.tmp 10), none⟩,
      ⟨(some 5), .mv (.tmp 11), none⟩])
    (.ops [⟨(some 12), .mv (.tmp 3), none⟩,
      ⟨(some 13), .mv (.tmp 5), none⟩,
      ⟨(some 14), .bin .or (.tmp 12) (.tmp 13), none⟩,
      ⟨(some 3), .mv (.tmp 14), none⟩])))
   (.ops [⟨(some 15), .bin .add (.tmp 8) (.const (.int .i64 1)), none⟩,
     ⟨(some 8), .mv (.tmp 15), none⟩])))))))
 (.seq (.ops [⟨(some 16), .mv (.tmp 3), none⟩,
   ⟨(some 17), .bin .and (.tmp 16) (.const (.int .i64 255)), none⟩,
   ⟨(some 2), .mv (.tmp 17), none⟩])
 .ret))))⟩
def c_bits_Meet : AFunc := ⟨17, [.tmp 2],
 (.seq (.ops [⟨(some 2), .mv (.const (.int .i64 0)), none⟩])
 (.seq (.ops [⟨(some 3), .mv (.const (.int .i64 255)), none⟩])
 (.seq (.seq (.ops [⟨(some 6), .mv (.tmp 0), none⟩,
   ⟨(some 7), .len (.tmp 6), none⟩,
   ⟨(some 8), .mv (.const (.int .i64 0)), none⟩])
 (.block 0 (.loop (.seq (.ops [⟨(some 9), .bin .lss (.tmp 8) (.tmp 7), none⟩])
   (.seq (.cond (.tmp 9) .skip (.exit 0))
   (.seq (.block 1 (.seq (.ops [⟨(some 10), .atRow 1 (.tmp 6) (.tmp 8), none⟩,
      ⟨(some 11), .load1 (.tmp 10), none⟩,
      ⟨(some 5), .mv (.tmp 11), none⟩])
    (.ops [⟨(some 12), .mv (.tmp 3), none⟩,
      ⟨(some 13), .mv (.tmp 5), none⟩,
      ⟨(some 14), .bin .and (.tmp 12) (.tmp 13), none⟩,
      ⟨(some 3), .mv (.tmp 14), none⟩])))
   (.ops [⟨(some 15), .bin .add (.tmp 8) (.const (.int .i64 1)), none⟩,
     ⟨(some 8), .mv (.tmp 15), none⟩])))))))
 (.seq (.ops [⟨(some 16), .mv (.tmp 3), none⟩,
   ⟨(some 2), .mv (.tmp 16), none⟩])
 .ret))))⟩
def c_belatedref1_Blend : AFunc := ⟨32, [.tmp 6],
 (.seq (.ops [⟨(some 6), .mv (.const (.int .i64 0)), none⟩])
 (.seq (.ops [⟨(some 7), .mv (.const (.int .i64 0)), none⟩])
 (.seq (.seq (.ops [⟨(some 8), .mv (.const (.int .i64 0)), none⟩])
 (.block 0 (.loop (.seq (.seq (.ops [⟨(some 10), .mv (.tmp 8), none⟩,
     ⟨(some 11), .bin .lss (.tmp 10) (.const (.int .i64 8)), none⟩])
   (.cond (.tmp 11) .skip (.exit 0)))
   (.seq (.block 1 (.seq (.ops [⟨(some 14), .mv (.tmp 0), none⟩,
      ⟨(some 15), .mv (.tmp 8), none⟩,
      ⟨(some 16), .call n_belatedref1_Byte [(.tmp 14), (.tmp 15)], none⟩,
      ⟨(some 9), .mv (.tmp 16), none⟩])
    (.seq (.seq (.ops [⟨(some 17), .mv (.tmp 2), none⟩,
      ⟨(some 18), .mv (.tmp 8), none⟩,
      ⟨(some 19), .bin .shr (.tmp 17) (.tmp 18), none⟩,
      ⟨(some 20), .bin .and (.tmp 19) (.const (.int .i64 1)), none⟩,
      ⟨(some 21), .bin .eql (.tmp 20) (.const (.int .i64 1)), none⟩])
    (.cond (.tmp 21) (.ops [⟨(some 22), .mv (.tmp 1), none⟩,
      ⟨(some 23), .mv (.tmp 8), none⟩,
      ⟨(some 24), .call n_belatedref1_Byte [(.tmp 22), (.tmp 23)], none⟩,
      ⟨(some 9), .mv (.tmp 24), none⟩]) .skip))
    (.ops [⟨(some 25), .mv (.tmp 7), none⟩,
      ⟨(some 26), .mv (.tmp 9), none⟩,
      ⟨(some 27), .mv (.tmp 8), none⟩,
      ⟨(some 28), .bin .mul (.const (.int .i64 8)) (.tmp 27), none⟩,
      ⟨(some 29), .bin .shl (.tmp 26) (.tmp 28), none⟩,
      ⟨(some 30), .bin .or (.tmp 25) (.tmp 29), none⟩,
      ⟨(some 7), .mv (.tmp 30), none⟩]))))
   (.ops [⟨(some 12), .mv (.tmp 8), none⟩,
     ⟨(some 13), .bin .add (.tmp 12) (.const (.int .i64 1)), none⟩,
     ⟨(some 8), .mv (.tmp 13), none⟩]))))))
 (.seq (.ops [⟨(some 31), .mv (.tmp 7), none⟩,
   ⟨(some 6), .mv (.tmp 31), none⟩])
 .ret))))⟩
def c_bits_Alu : AFunc := ⟨33, [.tmp 6],
 (.seq (.ops [⟨(some 6), .mv (.const (.int .i64 0)), none⟩])
 (.seq (.seq (.ops [⟨(some 7), .mv (.tmp 0), none⟩])
 (.block 0 (.seq (.ops [⟨(some 9), .bin .eql (.tmp 7) (.const (.int .i64 1)), none⟩,
    ⟨(some 8), .mv (.tmp 9), none⟩])
  (.cond (.tmp 8) (.seq (.ops [⟨(some 10), .mv (.tmp 1), none⟩,
    ⟨(some 11), .mv (.tmp 2), none⟩,
    ⟨(some 12), .bin .add (.tmp 10) (.tmp 11), none⟩,
    ⟨(some 6), .mv (.tmp 12), none⟩])
  .ret) (.seq (.ops [⟨(some 14), .bin .eql (.tmp 7) (.const (.int .i64 2)), none⟩,
    ⟨(some 13), .mv (.tmp 14), none⟩])
  (.cond (.tmp 13) (.seq (.ops [⟨(some 15), .mv (.tmp 1), none⟩,
    ⟨(some 16), .mv (.tmp 2), none⟩,
    ⟨(some 17), .bin .sub (.tmp 15) (.tmp 16), none⟩,
    ⟨(some 6), .mv (.tmp 17), none⟩])
  .ret) (.seq (.ops [⟨(some 19), .bin .eql (.tmp 7) (.const (.int .i64 3)), none⟩,
    ⟨(some 18), .mv (.tmp 19), none⟩])
  (.cond (.tmp 18) (.seq (.ops [⟨(some 20), .mv (.tmp 1), none⟩,
    ⟨(some 21), .mv (.tmp 2), none⟩,
    ⟨(some 22), .bin .xor (.tmp 20) (.tmp 21), none⟩,
    ⟨(some 6), .mv (.tmp 22), none⟩])
  .ret) (.seq (.ops [⟨(some 24), .bin .eql (.tmp 7) (.const (.int .i64 4)), none⟩,
    ⟨(some 23), .mv (.tmp 24), none⟩])
  (.cond (.tmp 23) (.seq (.ops [⟨(some 25), .mv (.tmp 1), none⟩,
    ⟨(some 26), .mv (.tmp 2), none⟩,
    ⟨(some 27), .bin .and (.tmp 25) (.tmp 26), none⟩,
    ⟨(some 6), .mv (.tmp 27), none⟩])
  .ret) (.seq (.ops [⟨(some 29), .bin .eql (.tmp 7) (.const (.int .i64 5)), none⟩,
    ⟨(some 28), .mv (.tmp 29), none⟩])
  (.cond (.tmp 28) (.seq (.ops [⟨(some 30), .mv (.tmp 1), none⟩,
    ⟨(some 31), .mv (.tmp 2), none⟩,
    ⟨(some 32), .bin .or (.tmp 30) (.tmp 31), none⟩,
    ⟨(some 6), .mv (.tmp 32), none⟩])
  .ret) .skip))))))))))))
 (.seq (.ops [⟨(some 6), .mv (.const (.int .i64 0)), none⟩])
 .ret)))⟩
def c_belatedref1_Alu : AFunc := ⟨33, [.tmp 6],
 (.seq (.ops [⟨(some 6), .mv (.const (.int .i64 0)), none⟩])
 (.seq (.seq (.ops [⟨(some 7), .mv (.tmp 0), none⟩])
 (.block 0 (.seq (.ops [⟨(some 9), .bin .eql (.tmp 7) (.const (.int .i64 1)), none⟩,
    ⟨(some 8), .mv (.tmp 9), none⟩])
  (.cond (.tmp 8) (.seq (.ops [⟨(some 10), .mv (.tmp 1), none⟩,
    ⟨(some 11), .mv (.tmp 2), none⟩,
    ⟨(some 12), .bin .add (.tmp 10) (.tmp 11), none⟩,
    ⟨(some 6), .mv (.tmp 12), none⟩])
  .ret) (.seq (.ops [⟨(some 14), .bin .eql (.tmp 7) (.const (.int .i64 2)), none⟩,
    ⟨(some 13), .mv (.tmp 14), none⟩])
  (.cond (.tmp 13) (.seq (.ops [⟨(some 15), .mv (.tmp 1), none⟩,
    ⟨(some 16), .mv (.tmp 2), none⟩,
    ⟨(some 17), .bin .sub (.tmp 15) (.tmp 16), none⟩,
    ⟨(some 6), .mv (.tmp 17), none⟩])
  .ret) (.seq (.ops [⟨(some 19), .bin .eql (.tmp 7) (.const (.int .i64 3)), none⟩,
    ⟨(some 18), .mv (.tmp 19), none⟩])
  (.cond (.tmp 18) (.seq (.ops [⟨(some 20), .mv (.tmp 1), none⟩,
    ⟨(some 21), .mv (.tmp 2), none⟩,
    ⟨(some 22), .bin .xor (.tmp 20) (.tmp 21), none⟩,
    ⟨(some 6), .mv (.tmp 22), none⟩])
  .ret) (.seq (.ops [⟨(some 24), .bin .eql (.tmp 7) (.const (.int .i64 4)), none⟩,
    ⟨(some 23), .mv (.tmp 24), none⟩])
  (.cond (.tmp 23) (.seq (.ops [⟨(some 25), .mv (.tmp 1), none⟩,
    ⟨(some 26), .mv (.tmp 2), none⟩,
    ⟨(some 27), .bin .and (.tmp 25) (.tmp 26), none⟩,
    ⟨(some 6), .mv (.tmp 27), none⟩])
  .ret) (.seq (.ops [⟨(some 29), .bin .eql (.tmp 7) (.const (.int .i64 5)), none⟩,
    ⟨(some 28), .mv (.tmp 29), none⟩])
  (.cond (.tmp 28) (.seq (.ops [⟨(some 30), .mv (.tmp 1), none⟩,
    ⟨(some 31), .mv (.tmp 2), none⟩,
    ⟨(some 32), .bin .or (.tmp 30) (.tmp 31), none⟩,
    ⟨(some 6), .mv (.tmp 32), none⟩])
  .ret) .skip))))))))))))
 (.seq (.ops [⟨(some 6), .mv (.const (.int .i64 0)), none⟩])
 .ret)))⟩
def c_bits_Rmw : AFunc := ⟨22, [.tmp 8],
 (.seq (.ops [⟨(some 8), .mv (.const (.int .i64 0)), none⟩])
 (.seq (.seq (.ops [⟨(some 9), .mv (.tmp 0), none⟩])
 (.block 0 (.seq (.ops [⟨(some 11), .bin .eql (.tmp 9) (.const (.int .i64 6)), none⟩,
    ⟨(some 10), .mv (.tmp 11), none⟩])
  (.cond (.tmp 10) (.seq (.ops [⟨(some 12), .mv (.tmp 2), none⟩,
    ⟨(some 13), .mv (.tmp 3), none⟩,
    ⟨(some 14), .call n_bits_Get [(.tmp 12), (.const (.int .i64 0)), (.tmp 13)], none⟩,
    ⟨(some 8), .mv (.tmp 14), none⟩])
  .ret) (.seq (.ops [⟨(some 16), .bin .eql (.tmp 9) (.const (.int .i64 1)), none⟩,
    ⟨(some 15), .mv (.tmp 16), none⟩])
  (.cond (.tmp 15) (.seq (.ops [⟨(some 17), .mv (.tmp 1), none⟩,
    ⟨(some 18), .mv (.tmp 2), none⟩,
    ⟨(some 19), .bin .add (.tmp 17) (.tmp 18), none⟩,
    ⟨(some 20), .mv (.tmp 3), none⟩,
    ⟨(some 21), .call n_bits_Get [(.tmp 19), (.const (.int .i64 0)), (.tmp 20)], none⟩,
    ⟨(some 8), .mv (.tmp 21), none⟩])
  .ret) .skip))))))
 (.seq (.ops [⟨(some 8), .mv (.const (.int .i64 0)), none⟩])
 .ret)))⟩
def c_belatedref1_Rmw : AFunc := ⟨22, [.tmp 8],
 (.seq (.ops [⟨(some 8), .mv (.const (.int .i64 0)), none⟩])
 (.seq (.seq (.ops [⟨(some 9), .mv (.tmp 0), none⟩])
 (.block 0 (.seq (.ops [⟨(some 11), .bin .eql (.tmp 9) (.const (.int .i64 6)), none⟩,
    ⟨(some 10), .mv (.tmp 11), none⟩])
  (.cond (.tmp 10) (.seq (.ops [⟨(some 12), .mv (.tmp 2), none⟩,
    ⟨(some 13), .mv (.tmp 3), none⟩,
    ⟨(some 14), .call n_belatedref1_Get [(.tmp 12), (.const (.int .i64 0)), (.tmp 13)], none⟩,
    ⟨(some 8), .mv (.tmp 14), none⟩])
  .ret) (.seq (.ops [⟨(some 16), .bin .eql (.tmp 9) (.const (.int .i64 1)), none⟩,
    ⟨(some 15), .mv (.tmp 16), none⟩])
  (.cond (.tmp 15) (.seq (.ops [⟨(some 17), .mv (.tmp 1), none⟩,
    ⟨(some 18), .mv (.tmp 2), none⟩,
    ⟨(some 19), .bin .add (.tmp 17) (.tmp 18), none⟩,
    ⟨(some 20), .mv (.tmp 3), none⟩,
    ⟨(some 21), .call n_belatedref1_Get [(.tmp 19), (.const (.int .i64 0)), (.tmp 20)], none⟩,
    ⟨(some 8), .mv (.tmp 21), none⟩])
  .ret) .skip))))))
 (.seq (.ops [⟨(some 8), .mv (.const (.int .i64 0)), none⟩])
 .ret)))⟩
def c_bits_Mask : AFunc := ⟨29, [.tmp 4],
 (.seq (.ops [⟨(some 4), .mv (.const (.int .i64 0)), none⟩])
 (.seq (.seq (.ops [⟨(some 5), .mv (.tmp 1), none⟩,
   ⟨(some 6), .call n_bits_sized [(.tmp 5)], none⟩,
   ⟨(some 7), .un .not (.tmp 6), none⟩,
   ⟨(some 8), .mv (.tmp 7), none⟩,
   ⟨(some 9), .mv (.tmp 0), (some (8, false))⟩,
   ⟨(some 10), .bin .lss (.tmp 9) (.const (.int .i64 0)), (some (8, false))⟩,
   ⟨(some 11), .pick (.tmp 8) (.const (.bool true)) (.tmp 10), none⟩,
   ⟨(some 12), .mv (.tmp 11), none⟩,
   ⟨(some 13), .mv (.tmp 0), (some (12, false))⟩,
   ⟨(some 14), .mv (.tmp 1), (some (12, false))⟩,
   ⟨(some 15), .bin .sub (.const (.int .i64 8)) (.tmp 14), (some (12, false))⟩,
   ⟨(some 16), .bin .gtr (.tmp 13) (.tmp 15), (some (12, false))⟩,
   ⟨(some 17), .pick (.tmp 12) (.const (.bool true)) (.tmp 16), none⟩,
   ⟨(some 18), .mv (.tmp 17), none⟩,
   ⟨(some 19), .mv (.tmp 0), (some (18, false))⟩,
   ⟨(some 20), .mv (.tmp 1), (some (18, false))⟩,
   ⟨(some 21), .bin .rem (.tmp 19) (.tmp 20), (some (18, false))⟩,
   ⟨(some 22), .bin .neq (.tmp 21) (.const (.int .i64 0)), (some (18, false))⟩,
   ⟨(some 23), .pick (.tmp 18) (.const (.bool true)) (.tmp 22), none⟩])
 (.cond (.tmp 23) (.seq (.ops [⟨(some 4), .mv (.const (.int .i64 0)), none⟩])
 .ret) .skip))
 (.seq (.ops [⟨(some 24), .mv (.tmp 1), none⟩,
   ⟨(some 25), .bin .shl (.const (.int .i64 1)) (.tmp 24), none⟩,
   ⟨(some 26), .bin .sub (.tmp 25) (.const (.int .i64 1)), none⟩,
   ⟨(some 27), .mv (.tmp 0), none⟩,
   ⟨(some 28), .bin .shl (.tmp 26) (.tmp 27), none⟩,
   ⟨(some 4), .mv (.tmp 28), none⟩])
 .ret)))⟩
def c_belatedref1_Mask : AFunc := ⟨39, [.tmp 4],
 (.seq (.ops [⟨(some 4), .mv (.const (.int .i64 0)), none⟩])
 (.seq (.seq (.ops [⟨(some 7), .mv (.tmp 1), none⟩,
   ⟨(some 8), .call n_belatedref1_size [(.tmp 7)], none⟩,
   ⟨(some 9), .un .not (.tmp 8), none⟩,
   ⟨(some 10), .mv (.tmp 9), none⟩,
   ⟨(some 11), .mv (.tmp 0), (some (10, false))⟩,
   ⟨(some 12), .bin .lss (.tmp 11) (.const (.int .i64 0)), (some (10, false))⟩,
   ⟨(some 13), .pick (.tmp 10) (.const (.bool true)) (.tmp 12), none⟩,
   ⟨(some 14), .mv (.tmp 13), none⟩,
   ⟨(some 15), .mv (.tmp 0), (some (14, false))⟩,
   ⟨(some 16), .mv (.tmp 1), (some (14, false))⟩,
   ⟨(some 17), .bin .sub (.const (.int .i64 8)) (.tmp 16), (some (14, false))⟩,
   ⟨(some 18), .bin .gtr (.tmp 15) (.tmp 17), (some (14, false))⟩,
   ⟨(some 19), .pick (.tmp 14) (.const (.bool true)) (.tmp 18), none⟩,
   ⟨(some 20), .mv (.tmp 19), none⟩,
   ⟨(some 21), .mv (.tmp 0), (some (20, false))⟩,
   ⟨(some 22), .mv (.tmp 1), (some (20, false))⟩,
   ⟨(some 23), .bin .rem (.tmp 21) (.tmp 22), (some (20, false))⟩,
   ⟨(some 24), .bin .neq (.tmp 23) (.const (.int .i64 0)), (some (20, false))⟩,
   ⟨(some 25), .pick (.tmp 20) (.const (.bool true)) (.tmp 24), none⟩])
 (.cond (.tmp 25) (.seq (.ops [⟨(some 4), .mv (.const (.int .i64 0)), none⟩])
 .ret) .skip))
 (.seq (.ops [⟨(some 5), .mv (.const (.int .i64 0)), none⟩])
 (.seq (.seq (.ops [⟨(some 26), .mv (.tmp 0), none⟩,
   ⟨(some 6), .mv (.tmp 26), none⟩])
 (.block 0 (.loop (.seq (.seq (.ops [⟨(some 27), .mv (.tmp 6), none⟩,
     ⟨(some 28), .mv (.tmp 0), none⟩,
     ⟨(some 29), .mv (.tmp 1), none⟩,
     ⟨(some 30), .bin .add (.tmp 28) (.tmp 29), none⟩,
     ⟨(some 31), .bin .lss (.tmp 27) (.tmp 30), none⟩])
   (.cond (.tmp 31) .skip (.exit 0)))
   (.seq (.block 1 (.ops [⟨(some 34), .mv (.tmp 5), none⟩,
      ⟨(some 35), .mv (.tmp 6), none⟩,
      ⟨(some 36), .bin .shl (.const (.int .i64 1)) (.tmp 35), none⟩,
      ⟨(some 37), .bin .or (.tmp 34) (.tmp 36), none⟩,
      ⟨(some 5), .mv (.tmp 37), none⟩]))
   (.ops [⟨(some 32), .mv (.tmp 6), none⟩,
     ⟨(some 33), .bin .add (.tmp 32) (.const (.int .i64 1)), none⟩,
     ⟨(some 6), .mv (.tmp 33), none⟩]))))))
 (.seq (.ops [⟨(some 38), .mv (.tmp 5), none⟩,
   ⟨(some 4), .mv (.tmp 38), none⟩])
 .ret)))))⟩
def c_bits_Place : AFunc := ⟨17, [.tmp 6],
 (.seq (.ops [⟨(some 6), .mv (.const (.int .i64 0)), none⟩])
 (.seq (.seq (.ops [⟨(some 7), .mv (.tmp 2), none⟩,
   ⟨(some 8), .call n_bits_sized [(.tmp 7)], none⟩,
   ⟨(some 9), .un .not (.tmp 8), none⟩])
 (.cond (.tmp 9) (.seq (.ops [⟨(some 6), .mv (.const (.int .i64 (-1))), none⟩])
 .ret) .skip))
 (.seq (.ops [⟨(some 10), .mv (.tmp 0), none⟩,
   ⟨(some 11), .mv (.tmp 1), none⟩,
   ⟨(some 12), .bin .add (.tmp 10) (.tmp 11), none⟩,
   ⟨(some 13), .bin .and (.tmp 12) (.const (.int .i64 7)), none⟩,
   ⟨(some 14), .mv (.tmp 2), none⟩,
   ⟨(some 15), .bin .sub (.tmp 14) (.const (.int .i64 1)), none⟩,
   ⟨(some 16), .bin .andNot (.tmp 13) (.tmp 15), none⟩,
   ⟨(some 6), .mv (.tmp 16), none⟩])
 .ret)))⟩
def c_belatedref1_Place : AFunc := ⟨20, [.tmp 6],
 (.seq (.ops [⟨(some 6), .mv (.const (.int .i64 0)), none⟩])
 (.seq (.seq (.ops [⟨(some 8), .mv (.tmp 2), none⟩,
   ⟨(some 9), .call n_belatedref1_size [(.tmp 8)], none⟩,
   ⟨(some 10), .un .not (.tmp 9), none⟩])
 (.cond (.tmp 10) (.seq (.ops [⟨(some 6), .mv (.const (.int .i64 (-1))), none⟩])
 .ret) .skip))
 (.seq (.ops [⟨(some 11), .mv (.tmp 0), none⟩,
   ⟨(some 12), .mv (.tmp 1), none⟩,
   ⟨(some 13), .bin .add (.tmp 11) (.tmp 12), none⟩,
   ⟨(some 14), .bin .and (.tmp 13) (.const (.int .i64 7)), none⟩,
   ⟨(some 7), .mv (.tmp 14), none⟩])
 (.seq (.ops [⟨(some 15), .mv (.tmp 7), none⟩,
   ⟨(some 16), .mv (.tmp 7), none⟩,
   ⟨(some 17), .mv (.tmp 2), none⟩,
   ⟨(some 18), .bin .rem (.tmp 16) (.tmp 17), none⟩,
   ⟨(some 19), .bin .sub (.tmp 15) (.tmp 18), none⟩,
   ⟨(some 6), .mv (.tmp 19), none⟩])
 .ret))))⟩
def c_bits_Count : AFunc := ⟨6, [.tmp 2],
 (.seq (.ops [⟨(some 2), .mv (.const (.int .i64 0)), none⟩])
 (.seq (.ops [⟨(some 3), .mv (.tmp 0), none⟩,
   ⟨(some 4), .conv .u8 (.tmp 3), none⟩,
   ⟨(some 5), .call n_math_bits_OnesCount8 [(.tmp 4)], none⟩,
   ⟨(some 2), .mv (.tmp 5), none⟩])
 .ret))⟩
def c_belatedref1_Count : AFunc := ⟨16, [.tmp 2],
 (.seq (.ops [⟨(some 2), .mv (.const (.int .i64 0)), none⟩])
 (.seq (.ops [⟨(some 3), .mv (.const (.int .i64 0)), none⟩])
 (.seq (.seq (.ops [⟨(some 4), .mv (.const (.int .i64 0)), none⟩])
 (.block 0 (.loop (.seq (.seq (.ops [⟨(some 5), .mv (.tmp 4), none⟩,
     ⟨(some 6), .bin .lss (.tmp 5) (.const (.int .i64 8)), none⟩])
   (.cond (.tmp 6) .skip (.exit 0)))
   (.seq (.block 1 (.ops [⟨(some 9), .mv (.tmp 3), none⟩,
      ⟨(some 10), .mv (.tmp 0), none⟩,
      ⟨(some 11), .mv (.tmp 4), none⟩,
      ⟨(some 12), .bin .shr (.tmp 10) (.tmp 11), none⟩,
      ⟨(some 13), .bin .and (.tmp 12) (.const (.int .i64 1)), none⟩,
      ⟨(some 14), .bin .add (.tmp 9) (.tmp 13), none⟩,
      ⟨(some 3), .mv (.tmp 14), none⟩]))
   (.ops [⟨(some 7), .mv (.tmp 4), none⟩,
     ⟨(some 8), .bin .add (.tmp 7) (.const (.int .i64 1)), none⟩,
     ⟨(some 4), .mv (.tmp 8), none⟩]))))))
 (.seq (.ops [⟨(some 15), .mv (.tmp 3), none⟩,
   ⟨(some 2), .mv (.tmp 15), none⟩])
 .ret))))⟩
def c_bits_low : AFunc := ⟨14, [.tmp 4],
 (.seq (.ops [⟨(some 4), .mv (.const (.int .i64 0)), none⟩])
 (.seq (.seq (.ops [⟨(some 5), .mv (.tmp 1), none⟩,
   ⟨(some 6), .bin .eql (.tmp 5) (.const (.int .i64 8)), none⟩])
 (.cond (.tmp 6) (.seq (.ops [⟨(some 7), .mv (.tmp 0), none⟩,
   ⟨(some 4), .mv (.tmp 7), none⟩])
 .ret) .skip))
 (.seq (.ops [⟨(some 8), .mv (.tmp 0), none⟩,
   ⟨(some 9), .mv (.tmp 1), none⟩,
   ⟨(some 10), .bin .mul (.const (.int .i64 8)) (.tmp 9), none⟩,
   ⟨(some 11), .bin .shl (.const (.int .i64 1)) (.tmp 10), none⟩,
   ⟨(some 12), .bin .sub (.tmp 11) (.const (.int .i64 1)), none⟩,
   ⟨(some 13), .bin .and (.tmp 8) (.tmp 12), none⟩,
   ⟨(some 4), .mv (.tmp 13), none⟩])
 .ret)))⟩
def c_belatedref1_Byte : AFunc := ⟨10, [.tmp 4],
 (.seq (.ops [⟨(some 4), .mv (.const (.int .i64 0)), none⟩])
 (.seq (.ops [⟨(some 5), .mv (.tmp 0), none⟩,
   ⟨(some 6), .mv (.tmp 1), none⟩,
   ⟨(some 7), .bin .mul (.const (.int .i64 8)) (.tmp 6), none⟩,
   ⟨(some 8), .bin .shr (.tmp 5) (.tmp 7), none⟩,
   ⟨(some 9), .bin .and (.tmp 8) (.const (.int .i64 255)), none⟩,
   ⟨(some 4), .mv (.tmp 9), none⟩])
 .ret))⟩
def c_bits_sized : AFunc := ⟨17, [.tmp 2],
 (.seq (.ops [⟨(some 2), .mv (.const (.bool false)), none⟩])
 (.seq (.ops [⟨(some 3), .mv (.tmp 0), none⟩,
   ⟨(some 4), .bin .eql (.tmp 3) (.const (.int .i64 1)), none⟩,
   ⟨(some 5), .mv (.tmp 4), none⟩,
   ⟨(some 6), .mv (.tmp 0), (some (5, false))⟩,
   ⟨(some 7), .bin .eql (.tmp 6) (.const (.int .i64 2)), (some (5, false))⟩,
   ⟨(some 8), .pick (.tmp 5) (.const (.bool true)) (.tmp 7), none⟩,
   ⟨(some 9), .mv (.tmp 8), none⟩,
   ⟨(some 10), .mv (.tmp 0), (some (9, false))⟩,
   ⟨(some 11), .bin .eql (.tmp 10) (.const (.int .i64 4)), (some (9, false))⟩,
   ⟨(some 12), .pick (.tmp 9) (.const (.bool true)) (.tmp 11), none⟩,
   ⟨(some 13), .mv (.tmp 12), none⟩,
   ⟨(some 14), .mv (.tmp 0), (some (13, false))⟩,
   ⟨(some 15), .bin .eql (.tmp 14) (.const (.int .i64 8)), (some (13, false))⟩,
   ⟨(some 16), .pick (.tmp 13) (.const (.bool true)) (.tmp 15), none⟩,
   ⟨(some 2), .mv (.tmp 16), none⟩])
 .ret))⟩
def c_belatedref1_size : AFunc := ⟨17, [.tmp 2],
 (.seq (.ops [⟨(some 2), .mv (.const (.bool false)), none⟩])
 (.seq (.ops [⟨(some 3), .mv (.tmp 0), none⟩,
   ⟨(some 4), .bin .eql (.tmp 3) (.const (.int .i64 1)), none⟩,
   ⟨(some 5), .mv (.tmp 4), none⟩,
   ⟨(some 6), .mv (.tmp 0), (some (5, false))⟩,
   ⟨(some 7), .bin .eql (.tmp 6) (.const (.int .i64 2)), (some (5, false))⟩,
   ⟨(some 8), .pick (.tmp 5) (.const (.bool true)) (.tmp 7), none⟩,
   ⟨(some 9), .mv (.tmp 8), none⟩,
   ⟨(some 10), .mv (.tmp 0), (some (9, false))⟩,
   ⟨(some 11), .bin .eql (.tmp 10) (.const (.int .i64 4)), (some (9, false))⟩,
   ⟨(some 12), .pick (.tmp 9) (.const (.bool true)) (.tmp 11), none⟩,
   ⟨(some 13), .mv (.tmp 12), none⟩,
   ⟨(some 14), .mv (.tmp 0), (some (13, false))⟩,
   ⟨(some 15), .bin .eql (.tmp 14) (.const (.int .i64 8)), (some (13, false))⟩,
   ⟨(some 16), .pick (.tmp 13) (.const (.bool true)) (.tmp 15), none⟩,
   ⟨(some 2), .mv (.tmp 16), none⟩])
 .ret))⟩
def c_math_bits_OnesCount8 : AFunc := ⟨6, [.tmp 2],
 (.seq (.ops [⟨(some 2), .mv (.const (.int .i64 0)), none⟩])
 (.seq (.ops [⟨(some 3), .mv (.tmp 0), none⟩,
   ⟨(some 4), .idxStr (.const (.string ⟨#[0, 1, 1, 2, 1, 2, 2, 3, 1, 2, 2, 3, 2, 3, 3, 4, 1, 2, 2, 3, 2, 3, 3, 4, 2, 3, 3, 4, 3, 4, 4, 5, 1, 2, 2, 3, 2, 3, 3, 4, 2, 3, 3, 4, 3, 4, 4, 5, 2, 3, 3, 4, 3, 4, 4, 5, 3, 4, 4, 5, 4, 5, 5, 6, 1, 2, 2, 3, 2, 3, 3, 4, 2, 3, 3, 4, 3, 4, 4, 5, 2, 3, 3, 4, 3, 4, 4, 5, 3, 4, 4, 5, 4, 5, 5, 6, 2, 3, 3, 4, 3, 4, 4, 5, 3, 4, 4, 5, 4, 5, 5, 6, 3, 4, 4, 5, 4, 5, 5, 6, 4, 5, 5, 6, 5, 6, 6, 7, 1, 2, 2, 3, 2, 3, 3, 4, 2, 3, 3, 4, 3, 4, 4, 5, 2, 3, 3, 4, 3, 4, 4, 5, 3, 4, 4, 5, 4, 5, 5, 6, 2, 3, 3, 4, 3, 4, 4, 5, 3, 4, 4, 5, 4, 5, 5, 6, 3, 4, 4, 5, 4, 5, 5, 6, 4, 5, 5, 6, 5, 6, 6, 7, 2, 3, 3, 4, 3, 4, 4, 5, 3, 4, 4, 5, 4, 5, 5, 6, 3, 4, 4, 5, 4, 5, 5, 6, 4, 5, 5, 6, 5, 6, 6, 7, 3, 4, 4, 5, 4, 5, 5, 6, 4, 5, 5, 6, 5, 6, 6, 7, 4, 5, 5, 6, 5, 6, 6, 7, 5, 6, 6, 7, 6, 7, 7, 8]⟩)) (.tmp 3), none⟩,
   ⟨(some 5), .conv .i64 (.tmp 4), none⟩,
   ⟨(some 2), .mv (.tmp 5), none⟩])
 .ret))⟩
/-- The orders laid down. -/
def ords : List (Nat × List (Nat × List Nat)) := [(4, [(13, [0, 1, 2, 3, 5, 6, 7, 8, 4, 9, 10, 11])]), (12, [(3, [0, 1, 2, 4, 5, 7, 8, 3, 6, 9, 10, 11, 12])])]
/-- How many of the package's variables may be looked at. -/
def GG : Nat := 0
/-- The program as the abstract machine reads it. -/
noncomputable def FF : Funcs := fun f => (Try.prog.funcs[f]?).bind (normFunc Try.prog GG ((ords.lookup f).getD []))
theorem F_belatedlaw1_BitsBytes : FF n_belatedlaw1_BitsBytes = some c_belatedlaw1_BitsBytes := by kernel_rfl
theorem F_belatedlaw1_BitsMasks : FF n_belatedlaw1_BitsMasks = some c_belatedlaw1_BitsMasks := by kernel_rfl
theorem F_belatedlaw1_BitsParts : FF n_belatedlaw1_BitsParts = some c_belatedlaw1_BitsParts := by kernel_rfl
theorem F_belatedlaw1_BitsComputes : FF n_belatedlaw1_BitsComputes = some c_belatedlaw1_BitsComputes := by kernel_rfl
theorem F_belatedlaw1_BitsTell : FF n_belatedlaw1_BitsTell = some c_belatedlaw1_BitsTell := by kernel_rfl
theorem F_belatedlaw1_BitsBack : FF n_belatedlaw1_BitsBack = some c_belatedlaw1_BitsBack := by kernel_rfl
theorem F_belatedlaw1_able : FF n_belatedlaw1_able = some c_belatedlaw1_able := by kernel_rfl
theorem F_bits_Get : FF n_bits_Get = some c_bits_Get := by kernel_rfl
theorem F_belatedref1_Get : FF n_belatedref1_Get = some c_belatedref1_Get := by kernel_rfl
theorem F_bits_Put : FF n_bits_Put = some c_bits_Put := by kernel_rfl
theorem F_belatedref1_Put : FF n_belatedref1_Put = some c_belatedref1_Put := by kernel_rfl
theorem F_bits_Blend : FF n_bits_Blend = some c_bits_Blend := by kernel_rfl
theorem F_bits_Union : FF n_bits_Union = some c_bits_Union := by kernel_rfl
theorem F_bits_Meet : FF n_bits_Meet = some c_bits_Meet := by kernel_rfl
theorem F_belatedref1_Blend : FF n_belatedref1_Blend = some c_belatedref1_Blend := by kernel_rfl
theorem F_bits_Alu : FF n_bits_Alu = some c_bits_Alu := by kernel_rfl
theorem F_belatedref1_Alu : FF n_belatedref1_Alu = some c_belatedref1_Alu := by kernel_rfl
theorem F_bits_Rmw : FF n_bits_Rmw = some c_bits_Rmw := by kernel_rfl
theorem F_belatedref1_Rmw : FF n_belatedref1_Rmw = some c_belatedref1_Rmw := by kernel_rfl
theorem F_bits_Mask : FF n_bits_Mask = some c_bits_Mask := by kernel_rfl
theorem F_belatedref1_Mask : FF n_belatedref1_Mask = some c_belatedref1_Mask := by kernel_rfl
theorem F_bits_Place : FF n_bits_Place = some c_bits_Place := by kernel_rfl
theorem F_belatedref1_Place : FF n_belatedref1_Place = some c_belatedref1_Place := by kernel_rfl
theorem F_bits_Count : FF n_bits_Count = some c_bits_Count := by kernel_rfl
theorem F_belatedref1_Count : FF n_belatedref1_Count = some c_belatedref1_Count := by kernel_rfl
theorem F_bits_low : FF n_bits_low = some c_bits_low := by kernel_rfl
theorem F_belatedref1_Byte : FF n_belatedref1_Byte = some c_belatedref1_Byte := by kernel_rfl
theorem F_bits_sized : FF n_bits_sized = some c_bits_sized := by kernel_rfl
theorem F_belatedref1_size : FF n_belatedref1_size = some c_belatedref1_size := by kernel_rfl
theorem F_math_bits_OnesCount8 : FF n_math_bits_OnesCount8 = some c_math_bits_OnesCount8 := by kernel_rfl
end Go.Proofs.Ytcdjdmcacomkgaa.AM
