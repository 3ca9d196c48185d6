/-
  Part 4.
  Conditions: as each says.
-/
import Derived.Test.YtljdbheclfaloaaGreatDoorKr3
import Derived.Test.YtljdbheclfaloaaGreatDoorProg
import Derived.KernelRfl
namespace Go.Proofs.YtljdbheclfaloaaGreatDoor.AM
open Go.RowKit
set_option linter.unusedSimpArgs false
set_option linter.unusedVariables false
set_option maxRecDepth 20000
def bn : FuncId := 4
def fz : FuncId := 9
def f4 : FuncId := 10
def fd : FuncId := 11
def gw : FuncId := 14
def bd : FuncId := 15
def jz : FuncId := 16
def pn : FuncId := 17
def zec : FuncId := 21
def zai : FuncId := 22
def ziw : FuncId := 23
def zix : FuncId := 24
def zhj : FuncId := 25
def zci : FuncId := 26
def zha : FuncId := 27
def zcx : FuncId := 28
def zca : FuncId := 29
def zex : FuncId := 30
def zez : FuncId := 31
def zgi : FuncId := 32
def xw : FuncId := 33
def jp : FuncId := 34
def gt : FuncId := 35
def kb : FuncId := 36
def pg : FuncId := 43
def ja : FuncId := 44
def zc8 : FuncId := 51
def zjs : FuncId := 52
def gp : FuncId := 53
def zas : FuncId := 54
def zbr : FuncId := 55
def zgj : FuncId := 56
def zau : FuncId := 57
def zay : FuncId := 58
def zew : FuncId := 59
def zax : FuncId := 60
def zae : FuncId := 61
def vv : FuncId := 62
def w7 : FuncId := 63
def jl : FuncId := 64
def vx : FuncId := 65
def xz : FuncId := 66
def vy : FuncId := 67
def gv : FuncId := 68
def xn : FuncId := 69
def x8 : FuncId := 70
def qe : FuncId := 84
def gn : FuncId := 85
def vr : FuncId := 86
def jt : FuncId := 87
def zev : FuncId := 88
def pd : FuncId := 89
def zfc : FuncId := 90
def v8 : FuncId := 100
def bt : FuncId := 101
def zah : FuncId := 102
def za4 : FuncId := 103
def zc1 : FuncId := 104
def fg : FuncId := 105
def bf : FuncId := 106
def qo : FuncId := 107
def pz : FuncId := 108
def wy : FuncId := 109
def qr : FuncId := 110
def j9 : FuncId := 111
def wj : FuncId := 112
def jw : FuncId := 126
def bq : FuncId := 130
def qp : FuncId := 131
def kq : FuncId := 132
def gf : FuncId := 142
def jr : FuncId := 143
def jc : FuncId := 148
def jm : FuncId := 149
def gi : FuncId := 153
def zft : FuncId := 154
def wm : vt := ⟨105, [.tmp 10],
 (.seq (.ops [⟨(some 10), .mv (.const (.bool false)), none⟩])
 (.seq (.seq (.ops [⟨(some 21), .call fz [], none⟩,
   ⟨(some 22), .un .not (.tmp 21), none⟩])
 (.cond (.tmp 22) (.seq (.ops [⟨(some 10), .mv (.const (.bool false)), none⟩])
 .ret) .skip))
 (.seq (.seq (.ops [⟨(some 23), .mv (.tmp 0), none⟩,
   ⟨(some 24), .mv (.tmp 1), none⟩,
   ⟨(some 25), .bin .add (.tmp 23) (.tmp 24), none⟩,
   ⟨(some 26), .mv (.tmp 2), none⟩,
   ⟨(some 27), .mv (.tmp 4), none⟩,
   ⟨(some 28), .call f4 [(.tmp 25), (.tmp 26), (.tmp 27)], none⟩,
   ⟨(some 29), .mv (.tmp 28), none⟩,
   ⟨(some 30), .mv (.tmp 0), (some (29, false))⟩,
   ⟨(some 31), .lenStr (.tmp 30), (some (29, false))⟩,
   ⟨(some 32), .mv (.tmp 1), (some (29, false))⟩,
   ⟨(some 33), .lenStr (.tmp 32), (some (29, false))⟩,
   ⟨(some 34), .bin .add (.tmp 31) (.tmp 33), (some (29, false))⟩,
   ⟨(some 35), .bin .gtr (.tmp 34) (.const (.int .i64 3000)), (some (29, false))⟩,
   ⟨(some 36), .pick (.tmp 29) (.const (.bool true)) (.tmp 35), none⟩])
 (.cond (.tmp 36) (.seq (.ops [⟨(some 10), .mv (.const (.bool true)), none⟩])
 .ret) .skip))
 (.seq (.ops [⟨(some 38), .mv (.tmp 0), none⟩,
   ⟨(some 39), .mkRow [(.string ⟨#[]⟩), (.bool false)] 0 [], none⟩,
   ⟨(some 40), .mv (.tmp 2), none⟩,
   ⟨(some 41), .append 2 24 (.tmp 39) (.tmp 40), none⟩,
   ⟨(some 42), .call fd [(.tmp 38), (.tmp 41)], none⟩,
   ⟨(some 37), .mv (.tmp 42), none⟩,
   ⟨(some 43), .extract (.tmp 37) 0, none⟩,
   ⟨(some 44), .extract (.tmp 37) 1, none⟩,
   ⟨(some 45), .extract (.tmp 37) 2, none⟩,
   ⟨(some 11), .mv (.tmp 43), none⟩,
   ⟨(some 12), .mv (.tmp 44), none⟩,
   ⟨(some 13), .mv (.tmp 45), none⟩])
 (.seq (.ops [⟨(some 47), .mv (.tmp 0), none⟩,
   ⟨(some 48), .bin .add (.tmp 47) (.const (.string ⟨#[32, 10]⟩)), none⟩,
   ⟨(some 49), .mv (.tmp 1), none⟩,
   ⟨(some 50), .bin .add (.tmp 48) (.tmp 49), none⟩,
   ⟨(some 51), .mkRow [(.string ⟨#[]⟩), (.bool false)] 0 [], none⟩,
   ⟨(some 52), .mv (.tmp 2), none⟩,
   ⟨(some 53), .append 2 24 (.tmp 51) (.tmp 52), none⟩,
   ⟨(some 54), .call fd [(.tmp 50), (.tmp 53)], none⟩,
   ⟨(some 46), .mv (.tmp 54), none⟩,
   ⟨(some 55), .extract (.tmp 46) 0, none⟩,
   ⟨(some 56), .extract (.tmp 46) 1, none⟩,
   ⟨(some 57), .extract (.tmp 46) 2, none⟩,
   ⟨(some 14), .mv (.tmp 55), none⟩,
   ⟨(some 15), .mv (.tmp 56), none⟩,
   ⟨(some 16), .mv (.tmp 57), none⟩])
 (.seq (.seq (.ops [⟨(some 58), .mv (.tmp 12), none⟩,
   ⟨(some 59), .bin .neq (.tmp 58) (.const (.int .i64 0)), none⟩,
   ⟨(some 60), .mv (.tmp 59), none⟩,
   ⟨(some 61), .mv (.tmp 15), (some (60, false))⟩,
   ⟨(some 62), .bin .neq (.tmp 61) (.const (.int .i64 0)), (some (60, false))⟩,
   ⟨(some 63), .pick (.tmp 60) (.const (.bool true)) (.tmp 62), none⟩])
 (.cond (.tmp 63) (.seq (.ops [⟨(some 10), .mv (.const (.bool true)), none⟩])
 .ret) .skip))
 (.seq (.seq (.ops [⟨(some 64), .mv (.tmp 14), none⟩,
   ⟨(some 65), .call gw [(.tmp 64)], none⟩,
   ⟨(some 66), .len (.tmp 65), none⟩,
   ⟨(some 67), .mv (.tmp 11), none⟩,
   ⟨(some 68), .call gw [(.tmp 67)], none⟩,
   ⟨(some 69), .len (.tmp 68), none⟩,
   ⟨(some 70), .bin .lss (.tmp 66) (.tmp 69), none⟩])
 (.cond (.tmp 70) (.seq (.ops [⟨(some 10), .mv (.const (.bool true)), none⟩])
 .ret) .skip))
 (.seq (.ops [⟨(some 72), .mv (.tmp 11), none⟩,
   ⟨(some 73), .mv (.tmp 3), none⟩,
   ⟨(some 74), .mkRow ([(.string ⟨#[]⟩)] ++ [(.bool false)] ++ List.replicate 33 (.int .u32 0)) 0 [], none⟩,
   ⟨(some 75), .mv (.tmp 4), none⟩,
   ⟨(some 76), .append 35 152 (.tmp 74) (.tmp 75), none⟩,
   ⟨(some 77), .call jz [(.tmp 72), (.tmp 73), (.tmp 76)], none⟩,
   ⟨(some 71), .mv (.tmp 77), none⟩,
   ⟨(some 78), .extract (.tmp 71) 0, none⟩,
   ⟨(some 79), .extract (.tmp 71) 1, none⟩,
   ⟨(some 17), .mv (.tmp 78), none⟩,
   ⟨(some 18), .mv (.tmp 79), none⟩])
 (.seq (.ops [⟨(some 81), .mv (.tmp 14), none⟩,
   ⟨(some 82), .mv (.tmp 3), none⟩,
   ⟨(some 83), .mkRow ([(.string ⟨#[]⟩)] ++ [(.bool false)] ++ List.replicate 33 (.int .u32 0)) 0 [], none⟩,
   ⟨(some 84), .mv (.tmp 4), none⟩,
   ⟨(some 85), .append 35 152 (.tmp 83) (.tmp 84), none⟩,
   ⟨(some 86), .call jz [(.tmp 81), (.tmp 82), (.tmp 85)], none⟩,
   ⟨(some 80), .mv (.tmp 86), none⟩,
   ⟨(some 87), .extract (.tmp 80) 0, none⟩,
   ⟨(some 88), .extract (.tmp 80) 1, none⟩,
   ⟨(some 19), .mv (.tmp 87), none⟩,
   ⟨(some 20), .mv (.tmp 88), none⟩])
 (.seq (.seq (.ops [⟨(some 89), .mv (.tmp 17), none⟩,
   ⟨(some 90), .un .not (.tmp 89), none⟩,
   ⟨(some 91), .mv (.tmp 90), none⟩,
   ⟨(some 92), .mv (.tmp 19), (some (91, true))⟩,
   ⟨(some 93), .pick (.tmp 91) (.tmp 92) (.const (.bool false)), none⟩,
   ⟨(some 94), .mv (.tmp 93), none⟩,
   ⟨(some 95), .mv (.tmp 14), (some (94, true))⟩,
   ⟨(some 96), .call bd [(.tmp 95)], (some (94, true))⟩,
   ⟨(some 97), .len (.tmp 96), (some (94, true))⟩,
   ⟨(some 98), .mv (.tmp 11), (some (94, true))⟩,
   ⟨(some 99), .call bd [(.tmp 98)], (some (94, true))⟩,
   ⟨(some 100), .len (.tmp 99), (some (94, true))⟩,
   ⟨(some 101), .bin .geq (.tmp 97) (.tmp 100), (some (94, true))⟩,
   ⟨(some 102), .pick (.tmp 94) (.tmp 101) (.const (.bool false)), none⟩])
 (.cond (.tmp 102) (.seq (.ops [⟨(some 103), .mv (.tmp 1), none⟩,
   ⟨(some 104), .call pn [(.tmp 103)], none⟩,
   ⟨(some 10), .mv (.tmp 104), none⟩])
 .ret) .skip))
 (.seq (.ops [⟨(some 10), .mv (.const (.bool true)), none⟩])
 .ret)))))))))))⟩
def zcz : vt := ⟨78, [.tmp 0],
 (.seq (.ops [⟨(some 0), .mv (.const (.bool false)), none⟩])
 (.seq (.ops [⟨(some 12), .build [(.string ⟨#[]⟩), (.bool false)] [(0, 1, (.const (.string ⟨#[114]⟩)))], none⟩,
   ⟨(some 13), .build [(.string ⟨#[]⟩), (.bool false)] [(0, 1, (.const (.string ⟨#[87]⟩))), (1, 1, (.const (.bool true)))], none⟩,
   ⟨(some 14), .mkRow [(.string ⟨#[]⟩), (.bool false)] 2 [(0, 2, (.tmp 12)), (2, 2, (.tmp 13))], none⟩,
   ⟨(some 1), .mv (.tmp 14), none⟩])
 (.seq (.ops [⟨(some 16), .mv (.tmp 1), none⟩,
   ⟨(some 17), .call fd [(.const (.string ⟨#[108, 101, 116, 32, 116, 32, 61, 32, 114, 32, 59, 32, 114, 32, 97, 99, 121, 99, 108, 105, 99, 32, 116, 32, 97, 115, 32, 103, 111, 111, 100]⟩)), (.tmp 16)], none⟩,
   ⟨(some 15), .mv (.tmp 17), none⟩,
   ⟨(some 18), .extract (.tmp 15) 0, none⟩,
   ⟨(some 19), .extract (.tmp 15) 1, none⟩,
   ⟨(some 20), .extract (.tmp 15) 2, none⟩,
   ⟨(some 2), .mv (.tmp 18), none⟩,
   ⟨(some 3), .mv (.tmp 19), none⟩,
   ⟨(some 4), .mv (.tmp 20), none⟩])
 (.seq (.ops [⟨(some 22), .mv (.tmp 1), none⟩,
   ⟨(some 23), .call fd [(.const (.string ⟨#[97, 99, 121, 99, 108, 105, 99, 32, 87]⟩)), (.tmp 22)], none⟩,
   ⟨(some 21), .mv (.tmp 23), none⟩,
   ⟨(some 24), .extract (.tmp 21) 0, none⟩,
   ⟨(some 25), .extract (.tmp 21) 1, none⟩,
   ⟨(some 26), .extract (.tmp 21) 2, none⟩,
   ⟨(some 5), .mv (.tmp 24), none⟩,
   ⟨(some 6), .mv (.tmp 25), none⟩,
   ⟨(some 7), .mv (.tmp 26), none⟩])
 (.seq (.seq (.ops [⟨(some 27), .mv (.tmp 3), none⟩,
   ⟨(some 28), .bin .neq (.tmp 27) (.const (.int .i64 0)), none⟩,
   ⟨(some 29), .mv (.tmp 28), none⟩,
   ⟨(some 30), .mv (.tmp 2), (some (29, false))⟩,
   ⟨(some 31), .eqv false .ptr (.tmp 30) (.const (.pointer none)), (some (29, false))⟩,
   ⟨(some 32), .pick (.tmp 29) (.const (.bool true)) (.tmp 31), none⟩,
   ⟨(some 33), .mv (.tmp 32), none⟩,
   ⟨(some 34), .mv (.tmp 6), (some (33, false))⟩,
   ⟨(some 35), .bin .neq (.tmp 34) (.const (.int .i64 41)), (some (33, false))⟩,
   ⟨(some 36), .pick (.tmp 33) (.const (.bool true)) (.tmp 35), none⟩,
   ⟨(some 37), .mv (.tmp 36), none⟩,
   ⟨(some 38), .mv (.tmp 7), (some (37, false))⟩,
   ⟨(some 39), .bin .neq (.tmp 38) (.const (.int .i64 8)), (some (37, false))⟩,
   ⟨(some 40), .pick (.tmp 37) (.const (.bool true)) (.tmp 39), none⟩])
 (.cond (.tmp 40) (.seq (.ops [⟨(some 0), .mv (.const (.bool false)), none⟩])
 .ret) .skip))
 (.seq (.ops [⟨(some 42), .mv (.tmp 2), none⟩,
   ⟨(some 43), .build (List.replicate 32 (.int .u32 0)) [(0, 1, (.const (.int .u32 2)))], none⟩,
   ⟨(some 44), .build ([(.string ⟨#[]⟩)] ++ [(.bool false)] ++ List.replicate 33 (.int .u32 0)) [(0, 1, (.const (.string ⟨#[114]⟩))), (3, 32, (.tmp 43))], none⟩,
   ⟨(some 45), .mkRow ([(.string ⟨#[]⟩)] ++ [(.bool false)] ++ List.replicate 33 (.int .u32 0)) 1 [(0, 35, (.tmp 44))], none⟩,
   ⟨(some 46), .call jz [(.tmp 42), (.const (.int .u32 3)), (.tmp 45)], none⟩,
   ⟨(some 41), .mv (.tmp 46), none⟩,
   ⟨(some 47), .extract (.tmp 41) 0, none⟩,
   ⟨(some 48), .extract (.tmp 41) 1, none⟩,
   ⟨(some 8), .mv (.tmp 47), none⟩,
   ⟨(some 9), .mv (.tmp 48), none⟩])
 (.seq (.ops [⟨(some 50), .mv (.tmp 2), none⟩,
   ⟨(some 51), .build (List.replicate 32 (.int .u32 0)) [(0, 1, (.const (.int .u32 1)))], none⟩,
   ⟨(some 52), .build ([(.string ⟨#[]⟩)] ++ [(.bool false)] ++ List.replicate 33 (.int .u32 0)) [(0, 1, (.const (.string ⟨#[114]⟩))), (3, 32, (.tmp 51))], none⟩,
   ⟨(some 53), .mkRow ([(.string ⟨#[]⟩)] ++ [(.bool false)] ++ List.replicate 33 (.int .u32 0)) 1 [(0, 35, (.tmp 52))], none⟩,
   ⟨(some 54), .call jz [(.tmp 50), (.const (.int .u32 3)), (.tmp 53)], none⟩,
   ⟨(some 49), .mv (.tmp 54), none⟩,
   ⟨(some 55), .extract (.tmp 49) 0, none⟩,
   ⟨(some 56), .extract (.tmp 49) 1, none⟩,
   ⟨(some 10), .mv (.tmp 55), none⟩,
   ⟨(some 11), .mv (.tmp 56), none⟩])
 (.seq (.ops [⟨(some 57), .mv (.tmp 8), none⟩,
   ⟨(some 58), .mv (.tmp 57), none⟩,
   ⟨(some 59), .mv (.tmp 10), (some (58, true))⟩,
   ⟨(some 60), .un .not (.tmp 59), (some (58, true))⟩,
   ⟨(some 61), .pick (.tmp 58) (.tmp 60) (.const (.bool false)), none⟩,
   ⟨(some 62), .mv (.tmp 61), none⟩,
   ⟨(some 63), .mv (.tmp 11), (some (62, true))⟩,
   ⟨(some 64), .bin .eql (.tmp 63) (.const (.string ⟨#[103, 111, 111, 100]⟩)), (some (62, true))⟩,
   ⟨(some 65), .pick (.tmp 62) (.tmp 64) (.const (.bool false)), none⟩,
   ⟨(some 66), .mv (.tmp 65), none⟩,
   ⟨(some 67), .mv (.tmp 2), (some (66, true))⟩,
   ⟨(some 68), .call gw [(.tmp 67)], (some (66, true))⟩,
   ⟨(some 69), .len (.tmp 68), (some (66, true))⟩,
   ⟨(some 70), .bin .eql (.tmp 69) (.const (.int .i64 1)), (some (66, true))⟩,
   ⟨(some 71), .pick (.tmp 66) (.tmp 70) (.const (.bool false)), none⟩,
   ⟨(some 72), .mv (.tmp 71), none⟩,
   ⟨(some 73), .mv (.tmp 2), (some (72, true))⟩,
   ⟨(some 74), .call bd [(.tmp 73)], (some (72, true))⟩,
   ⟨(some 75), .len (.tmp 74), (some (72, true))⟩,
   ⟨(some 76), .bin .eql (.tmp 75) (.const (.int .i64 1)), (some (72, true))⟩,
   ⟨(some 77), .pick (.tmp 72) (.tmp 76) (.const (.bool false)), none⟩,
   ⟨(some 0), .mv (.tmp 77), none⟩])
 .ret))))))))⟩
def zcp : vt := ⟨56, [.tmp 6],
 (.seq (.ops [⟨(some 6), .mv (.const (.bool false)), none⟩])
 (.seq (.ops [⟨(some 10), .mv (.tmp 0), none⟩,
   ⟨(some 11), .lenStr (.tmp 10), none⟩,
   ⟨(some 12), .mv (.tmp 1), none⟩,
   ⟨(some 13), .len (.tmp 12), none⟩,
   ⟨(some 14), .bin .add (.tmp 11) (.tmp 13), none⟩,
   ⟨(some 15), .mv (.tmp 2), none⟩,
   ⟨(some 16), .len (.tmp 15), none⟩,
   ⟨(some 17), .bin .add (.tmp 14) (.tmp 16), none⟩,
   ⟨(some 7), .mv (.tmp 17), none⟩])
 (.seq (.seq (.ops [⟨(some 8), .mv (.const (.int .i64 0)), none⟩])
 (.block 0 (.loop (.seq (.seq (.ops [⟨(some 18), .mv (.tmp 8), none⟩,
     ⟨(some 19), .mv (.tmp 1), none⟩,
     ⟨(some 20), .len (.tmp 19), none⟩,
     ⟨(some 21), .bin .lss (.tmp 18) (.tmp 20), none⟩,
     ⟨(some 22), .mv (.tmp 21), none⟩,
     ⟨(some 23), .mv (.tmp 7), (some (22, true))⟩,
     ⟨(some 24), .bin .leq (.tmp 23) (.const (.int .i64 6000)), (some (22, true))⟩,
     ⟨(some 25), .pick (.tmp 22) (.tmp 24) (.const (.bool false)), none⟩])
   (.cond (.tmp 25) .skip (.exit 0)))
   (.seq (.block 1 (.ops [⟨(some 28), .mv (.tmp 7), none⟩,
      ⟨(some 29), .mv (.tmp 1), none⟩,
      ⟨(some 30), .mv (.tmp 8), none⟩,
      ⟨(some 31), .atRow 2 (.tmp 29) (.tmp 30), none⟩,
      ⟨(some 32), .off 0 (.tmp 31), none⟩,
      ⟨(some 33), .load1 (.tmp 32), none⟩,
      ⟨(some 34), .lenStr (.tmp 33), none⟩,
      ⟨(some 35), .bin .add (.tmp 28) (.tmp 34), none⟩,
      ⟨(some 7), .mv (.tmp 35), none⟩]))
   (.ops [⟨(some 26), .mv (.tmp 8), none⟩,
     ⟨(some 27), .bin .add (.tmp 26) (.const (.int .i64 1)), none⟩,
     ⟨(some 8), .mv (.tmp 27), none⟩]))))))
 (.seq (.seq (.ops [⟨(some 9), .mv (.const (.int .i64 0)), none⟩])
 (.block 2 (.loop (.seq (.seq (.ops [⟨(some 36), .mv (.tmp 9), none⟩,
     ⟨(some 37), .mv (.tmp 2), none⟩,
     ⟨(some 38), .len (.tmp 37), none⟩,
     ⟨(some 39), .bin .lss (.tmp 36) (.tmp 38), none⟩,
     ⟨(some 40), .mv (.tmp 39), none⟩,
     ⟨(some 41), .mv (.tmp 7), (some (40, true))⟩,
     ⟨(some 42), .bin .leq (.tmp 41) (.const (.int .i64 6000)), (some (40, true))⟩,
     ⟨(some 43), .pick (.tmp 40) (.tmp 42) (.const (.bool false)), none⟩])
   (.cond (.tmp 43) .skip (.exit 2)))
   (.seq (.block 3 (.ops [⟨(some 46), .mv (.tmp 7), none⟩,
      ⟨(some 47), .mv (.tmp 2), none⟩,
      ⟨(some 48), .mv (.tmp 9), none⟩,
      ⟨(some 49), .atRow 35 (.tmp 47) (.tmp 48), none⟩,
      ⟨(some 50), .off 0 (.tmp 49), none⟩,
      ⟨(some 51), .load1 (.tmp 50), none⟩,
      ⟨(some 52), .lenStr (.tmp 51), none⟩,
      ⟨(some 53), .bin .add (.tmp 46) (.tmp 52), none⟩,
      ⟨(some 7), .mv (.tmp 53), none⟩]))
   (.ops [⟨(some 44), .mv (.tmp 9), none⟩,
     ⟨(some 45), .bin .add (.tmp 44) (.const (.int .i64 1)), none⟩,
     ⟨(some 9), .mv (.tmp 45), none⟩]))))))
 (.seq (.ops [⟨(some 54), .mv (.tmp 7), none⟩,
   ⟨(some 55), .bin .gtr (.tmp 54) (.const (.int .i64 6000)), none⟩,
   ⟨(some 6), .mv (.tmp 55), none⟩])
 .ret)))))⟩
def ze9 : vt := ⟨131, [.tmp 4, .tmp 5, .tmp 6],
 (.seq (.ops [⟨(some 4), .mv (.const (.pointer none)), none⟩,
   ⟨(some 5), .mv (.const (.int .i64 0)), none⟩,
   ⟨(some 6), .mv (.const (.int .i64 0)), none⟩])
 (.seq (.seq (.ops [⟨(some 19), .mv (.tmp 0), none⟩,
   ⟨(some 20), .lenStr (.tmp 19), none⟩,
   ⟨(some 21), .bin .gtr (.tmp 20) (.const (.int .i64 4096)), none⟩])
 (.cond (.tmp 21) (.seq (.ops [⟨(some 4), .mv (.const (.pointer none)), none⟩,
   ⟨(some 5), .mv (.const (.int .i64 2)), none⟩,
   ⟨(some 6), .mv (.const (.int .i64 0)), none⟩])
 .ret) .skip))
 (.seq (.ops [⟨(some 23), .mv (.tmp 0), none⟩,
   ⟨(some 24), .call zez [(.tmp 23)], none⟩,
   ⟨(some 22), .mv (.tmp 24), none⟩,
   ⟨(some 25), .extract (.tmp 22) 0, none⟩,
   ⟨(some 26), .extract (.tmp 22) 1, none⟩,
   ⟨(some 27), .extract (.tmp 22) 2, none⟩,
   ⟨(some 7), .mv (.tmp 25), none⟩,
   ⟨(some 8), .mv (.tmp 26), none⟩,
   ⟨(some 9), .mv (.tmp 27), none⟩])
 (.seq (.seq (.ops [⟨(some 28), .mv (.tmp 8), none⟩,
   ⟨(some 29), .bin .neq (.tmp 28) (.const (.int .i64 0)), none⟩])
 (.cond (.tmp 29) (.seq (.ops [⟨(some 30), .mv (.tmp 8), none⟩,
   ⟨(some 31), .mv (.tmp 9), none⟩,
   ⟨(some 4), .mv (.const (.pointer none)), none⟩,
   ⟨(some 5), .mv (.tmp 30), none⟩,
   ⟨(some 6), .mv (.tmp 31), none⟩])
 .ret) .skip))
 (.seq (.ops [⟨(some 32), .mv (.tmp 7), none⟩,
   ⟨(some 33), .call zgi [(.tmp 32)], none⟩,
   ⟨(some 34), .mv (.tmp 7), none⟩,
   ⟨(some 35), .mv (.tmp 0), none⟩,
   ⟨(some 36), .lenStr (.tmp 35), none⟩,
   ⟨(some 37), .build [(.pointer none), (.slice none 0 0), (.int .i64 0), (.int .i64 0), (.int .i64 0), (.int .i64 0)] [(0, 1, (.tmp 33)), (1, 1, (.tmp 34)), (2, 1, (.tmp 36))], none⟩,
   ⟨(some 38), .box 6 (.tmp 37), none⟩,
   ⟨(some 10), .mv (.tmp 38), none⟩])
 (.seq (.ops [⟨(some 39), .build [(.slice none 0 0), (.slice none 0 0)] [], none⟩,
   ⟨(some 40), .box 2 (.tmp 39), none⟩,
   ⟨(some 11), .mv (.tmp 40), none⟩])
 (.seq (.block 0 (.loop (.seq (.seq (.ops [⟨(some 41), .mv (.tmp 10), none⟩,
     ⟨(some 42), .call xw [(.tmp 41)], none⟩,
     ⟨(some 43), .mv (.tmp 42), none⟩,
     ⟨(some 44), .mv (.tmp 10), (some (43, true))⟩,
     ⟨(some 45), .nilCheck (.tmp 44), (some (43, true))⟩,
     ⟨(some 46), .off 0 (.tmp 45), (some (43, true))⟩,
     ⟨(some 47), .load1 (.tmp 46), (some (43, true))⟩,
     ⟨(some 48), .call jp [(.tmp 47)], (some (43, true))⟩,
     ⟨(some 49), .bin .gtr (.tmp 48) (.const (.int .i64 0)), (some (43, true))⟩,
     ⟨(some 50), .pick (.tmp 43) (.tmp 49) (.const (.bool false)), none⟩])
   (.cond (.tmp 50) .skip (.exit 0)))
   (.block 1 (.ops [⟨(some 51), .mv (.tmp 11), none⟩,
      ⟨(some 52), .mv (.tmp 11), none⟩,
      ⟨(some 53), .nilCheck (.tmp 52), none⟩,
      ⟨(some 54), .off 1 (.tmp 53), none⟩,
      ⟨(some 55), .load1 (.tmp 54), none⟩,
      ⟨(some 56), .mv (.tmp 10), none⟩,
      ⟨(some 57), .call gt [(.tmp 56)], none⟩,
      ⟨none, .again1 (.tmp 54) 55, none⟩,
      ⟨(some 58), .mkRow [(.string ⟨#[]⟩), (.slice none 0 0), (.pointer none), (.string ⟨#[]⟩)] 1 [(0, 4, (.tmp 57))], none⟩,
      ⟨(some 59), .append 4 64 (.tmp 55) (.tmp 58), none⟩,
      ⟨(some 60), .nilCheck (.tmp 51), none⟩,
      ⟨(some 61), .off 1 (.tmp 60), none⟩,
      ⟨none, .store1 (.tmp 61) (.tmp 59), none⟩])))))
 (.seq (.ops [⟨(some 62), .mv (.tmp 10), none⟩,
   ⟨(some 63), .mkMap, none⟩,
   ⟨(some 64), .build [(.pointer none), (.map none), (.map none), (.int .i64 0)] [(0, 1, (.tmp 62)), (1, 1, (.tmp 63))], none⟩,
   ⟨(some 65), .box 4 (.tmp 64), none⟩,
   ⟨(some 12), .mv (.tmp 65), none⟩])
 (.seq (.seq (.ops [⟨(some 66), .mv (.tmp 1), none⟩,
   ⟨(some 67), .len (.tmp 66), none⟩,
   ⟨(some 68), .mv (.const (.int .i64 0)), none⟩])
 (.block 2 (.loop (.seq (.ops [⟨(some 69), .bin .lss (.tmp 68) (.tmp 67), none⟩])
   (.seq (.cond (.tmp 69) .skip (.exit 2))
   (.seq (.block 3 (.seq (.ops [⟨(some 70), .atRow 2 (.tmp 66) (.tmp 68), none⟩,
      ⟨(some 71), .load 2 (.tmp 70), none⟩,
      ⟨(some 14), .alloc [(.string ⟨#[]⟩), (.bool false)], none⟩,
      ⟨none, .store 2 (.tmp 14) (.tmp 71), none⟩])
    (.seq (.ops [⟨(some 73), .mv (.tmp 12), none⟩,
      ⟨(some 74), .nilCheck (.tmp 73), none⟩,
      ⟨(some 75), .off 1 (.tmp 74), none⟩,
      ⟨(some 76), .load1 (.tmp 75), none⟩,
      ⟨(some 77), .off 0 (.tmp 14), none⟩,
      ⟨(some 78), .load1 (.tmp 77), none⟩,
      ⟨(some 79), .lookup .str (.bool false) (.tmp 76) (.tmp 78) true, none⟩,
      ⟨(some 72), .mv (.tmp 79), none⟩,
      ⟨(some 80), .extract (.tmp 72) 0, none⟩,
      ⟨(some 81), .extract (.tmp 72) 1, none⟩,
      ⟨(some 15), .mv (.tmp 80), none⟩,
      ⟨(some 16), .mv (.tmp 81), none⟩])
    (.seq (.ops [⟨(some 82), .mv (.tmp 16), none⟩,
      ⟨(some 83), .un .not (.tmp 82), none⟩])
    (.cond (.tmp 83) (.seq (.ops [⟨(some 84), .mv (.tmp 12), none⟩,
      ⟨(some 85), .nilCheck (.tmp 84), none⟩,
      ⟨(some 86), .off 1 (.tmp 85), none⟩,
      ⟨(some 87), .load1 (.tmp 86), none⟩,
      ⟨(some 88), .off 0 (.tmp 14), none⟩,
      ⟨(some 89), .load1 (.tmp 88), none⟩,
      ⟨(some 90), .off 1 (.tmp 14), none⟩,
      ⟨(some 91), .load1 (.tmp 90), none⟩,
      ⟨none, .update .str (.tmp 87) (.tmp 89) (.tmp 91), none⟩])
    (.ops [⟨(some 92), .mv (.tmp 11), none⟩,
      ⟨(some 93), .mv (.tmp 11), none⟩,
      ⟨(some 94), .nilCheck (.tmp 93), none⟩,
      ⟨(some 95), .off 0 (.tmp 94), none⟩,
      ⟨(some 96), .load1 (.tmp 95), none⟩,
      ⟨(some 97), .load 2 (.tmp 14), none⟩,
      ⟨(some 98), .mkRow [(.string ⟨#[]⟩), (.bool false)] 1 [(0, 2, (.tmp 97))], none⟩,
      ⟨(some 99), .append 2 24 (.tmp 96) (.tmp 98), none⟩,
      ⟨(some 100), .nilCheck (.tmp 92), none⟩,
      ⟨(some 101), .off 0 (.tmp 100), none⟩,
      ⟨none, .store1 (.tmp 101) (.tmp 99), none⟩])) .skip)))))
   (.ops [⟨(some 102), .bin .add (.tmp 68) (.const (.int .i64 1)), none⟩,
     ⟨(some 68), .mv (.tmp 102), none⟩])))))))
 (.seq (.seq (.ops [⟨(some 103), .mv (.tmp 11), none⟩,
   ⟨(some 104), .nilCheck (.tmp 103), none⟩,
   ⟨(some 105), .off 1 (.tmp 104), none⟩,
   ⟨(some 106), .load1 (.tmp 105), none⟩,
   ⟨(some 107), .len (.tmp 106), none⟩,
   ⟨(some 108), .mv (.const (.int .i64 0)), none⟩])
 (.block 4 (.loop (.seq (.ops [⟨(some 109), .bin .lss (.tmp 108) (.tmp 107), none⟩])
   (.seq (.cond (.tmp 109) .skip (.exit 4))
   (.seq (.block 5 (.seq (.ops [⟨(some 110), .atRow 4 (.tmp 106) (.tmp 108), none⟩,
      ⟨(some 111), .load 4 (.tmp 110), none⟩,
      ⟨(some 18), .alloc [(.string ⟨#[]⟩), (.slice none 0 0), (.pointer none), (.string ⟨#[]⟩)], none⟩,
      ⟨none, .store 4 (.tmp 18) (.tmp 111), none⟩])
    (.seq (.seq (.ops [⟨(some 112), .mv (.tmp 10), none⟩,
      ⟨(some 113), .call xw [(.tmp 112)], none⟩,
      ⟨(some 114), .un .not (.tmp 113), none⟩])
    (.cond (.tmp 114) (.exit 4) .skip))
    (.ops [⟨(some 115), .mv (.tmp 12), none⟩,
      ⟨(some 116), .load 4 (.tmp 18), none⟩,
      ⟨(some 117), .call kb [(.tmp 115), (.tmp 116)], none⟩]))))
   (.ops [⟨(some 118), .bin .add (.tmp 108) (.const (.int .i64 1)), none⟩,
     ⟨(some 108), .mv (.tmp 118), none⟩])))))))
 (.seq (.seq (.ops [⟨(some 119), .mv (.tmp 10), none⟩,
   ⟨(some 120), .call xw [(.tmp 119)], none⟩,
   ⟨(some 121), .un .not (.tmp 120), none⟩])
 (.cond (.tmp 121) (.seq (.ops [⟨(some 122), .mv (.tmp 10), none⟩,
   ⟨(some 123), .nilCheck (.tmp 122), none⟩,
   ⟨(some 124), .off 4 (.tmp 123), none⟩,
   ⟨(some 125), .load1 (.tmp 124), none⟩,
   ⟨(some 126), .mv (.tmp 10), none⟩,
   ⟨(some 127), .nilCheck (.tmp 126), none⟩,
   ⟨(some 128), .off 5 (.tmp 127), none⟩,
   ⟨(some 129), .load1 (.tmp 128), none⟩,
   ⟨(some 4), .mv (.const (.pointer none)), none⟩,
   ⟨(some 5), .mv (.tmp 125), none⟩,
   ⟨(some 6), .mv (.tmp 129), none⟩])
 .ret) .skip))
 (.seq (.ops [⟨(some 130), .mv (.tmp 11), none⟩,
   ⟨(some 4), .mv (.tmp 130), none⟩,
   ⟨(some 5), .mv (.const (.int .i64 0)), none⟩,
   ⟨(some 6), .mv (.const (.int .i64 0)), none⟩])
 .ret))))))))))))⟩
def zdk : vt := ⟨25, [.tmp 2],
 (.seq (.ops [⟨(some 2), .mv (.const (.slice none 0 0)), none⟩])
 (.seq (.ops [⟨(some 3), .mv (.const (.slice none 0 0)), none⟩])
 (.seq (.seq (.ops [⟨(some 6), .mv (.tmp 0), none⟩,
   ⟨(some 7), .nilCheck (.tmp 6), none⟩,
   ⟨(some 8), .off 1 (.tmp 7), none⟩,
   ⟨(some 9), .load1 (.tmp 8), none⟩,
   ⟨(some 10), .len (.tmp 9), none⟩,
   ⟨(some 11), .mv (.const (.int .i64 0)), none⟩])
 (.block 0 (.loop (.seq (.ops [⟨(some 12), .bin .lss (.tmp 11) (.tmp 10), none⟩])
   (.seq (.cond (.tmp 12) .skip (.exit 0))
   (.seq (.block 1 (.seq (.ops [⟨(some 13), .atRow 4 (.tmp 9) (.tmp 11), none⟩,
      ⟨(some 14), .load 4 (.tmp 13), none⟩,
      ⟨(some 5), .alloc [(.string ⟨#[]⟩), (.slice none 0 0), (.pointer none), (.string ⟨#[]⟩)], none⟩,
      ⟨none, .store 4 (.tmp 5) (.tmp 14), none⟩])
    (.seq (.ops [⟨(some 15), .off 2 (.tmp 5), none⟩,
      ⟨(some 16), .load1 (.tmp 15), none⟩,
      ⟨(some 17), .eqv true .ptr (.tmp 16) (.const (.pointer none)), none⟩])
    (.cond (.tmp 17) (.ops [⟨(some 18), .mv (.tmp 3), none⟩,
      ⟨(some 19), .off 3 (.tmp 5), none⟩,
      ⟨(some 20), .load1 (.tmp 19), none⟩,
      ⟨(some 21), .mkRow [(.string ⟨#[]⟩)] 1 [(0, 1, (.tmp 20))], none⟩,
      ⟨(some 22), .append 1 16 (.tmp 18) (.tmp 21), none⟩,
      ⟨(some 3), .mv (.tmp 22), none⟩]) .skip))))
   (.ops [⟨(some 23), .bin .add (.tmp 11) (.const (.int .i64 1)), none⟩,
     ⟨(some 11), .mv (.tmp 23), none⟩])))))))
 (.seq (.ops [⟨(some 24), .mv (.tmp 3), none⟩,
   ⟨(some 2), .mv (.tmp 24), none⟩])
 .ret))))⟩
def zfg : vt := ⟨38, [.tmp 2],
 (.seq (.ops [⟨(some 2), .mv (.const (.slice none 0 0)), none⟩])
 (.seq (.ops [⟨(some 3), .mv (.const (.slice none 0 0)), none⟩])
 (.seq (.seq (.ops [⟨(some 8), .mv (.tmp 0), none⟩,
   ⟨(some 9), .nilCheck (.tmp 8), none⟩,
   ⟨(some 10), .off 1 (.tmp 9), none⟩,
   ⟨(some 11), .load1 (.tmp 10), none⟩,
   ⟨(some 12), .len (.tmp 11), none⟩,
   ⟨(some 13), .mv (.const (.int .i64 0)), none⟩])
 (.block 0 (.loop (.seq (.ops [⟨(some 14), .bin .lss (.tmp 13) (.tmp 12), none⟩])
   (.seq (.cond (.tmp 14) .skip (.exit 0))
   (.seq (.block 1 (.seq (.ops [⟨(some 15), .atRow 4 (.tmp 11) (.tmp 13), none⟩,
      ⟨(some 16), .load 4 (.tmp 15), none⟩,
      ⟨(some 5), .alloc [(.string ⟨#[]⟩), (.slice none 0 0), (.pointer none), (.string ⟨#[]⟩)], none⟩,
      ⟨none, .store 4 (.tmp 5) (.tmp 16), none⟩])
    (.seq (.ops [⟨(some 17), .off 1 (.tmp 5), none⟩,
      ⟨(some 18), .load1 (.tmp 17), none⟩,
      ⟨(some 19), .len (.tmp 18), none⟩,
      ⟨(some 20), .mv (.const (.int .i64 0)), none⟩])
    (.block 2 (.loop (.seq (.ops [⟨(some 21), .bin .lss (.tmp 20) (.tmp 19), none⟩])
      (.seq (.cond (.tmp 21) .skip (.exit 2))
      (.seq (.block 3 (.seq (.ops [⟨(some 22), .atRow 3 (.tmp 18) (.tmp 20), none⟩,
         ⟨(some 23), .load 3 (.tmp 22), none⟩,
         ⟨(some 7), .alloc [(.string ⟨#[]⟩), (.int .i64 0), (.pointer none)], none⟩,
         ⟨none, .store 3 (.tmp 7) (.tmp 23), none⟩])
       (.ops [⟨(some 24), .mv (.tmp 3), none⟩,
         ⟨(some 25), .off 0 (.tmp 7), none⟩,
         ⟨(some 26), .load1 (.tmp 25), none⟩,
         ⟨(some 27), .off 2 (.tmp 7), none⟩,
         ⟨(some 28), .load1 (.tmp 27), none⟩,
         ⟨(some 29), .nilCheck (.tmp 28), none⟩,
         ⟨(some 30), .off 5 (.tmp 29), none⟩,
         ⟨(some 31), .load1 (.tmp 30), none⟩,
         ⟨(some 32), .build [(.string ⟨#[]⟩), (.bool false)] [(0, 1, (.tmp 26)), (1, 1, (.tmp 31))], none⟩,
         ⟨(some 33), .mkRow [(.string ⟨#[]⟩), (.bool false)] 1 [(0, 2, (.tmp 32))], none⟩,
         ⟨(some 34), .append 2 24 (.tmp 24) (.tmp 33), none⟩,
         ⟨(some 3), .mv (.tmp 34), none⟩])))
      (.ops [⟨(some 35), .bin .add (.tmp 20) (.const (.int .i64 1)), none⟩,
        ⟨(some 20), .mv (.tmp 35), none⟩])))))))))
   (.ops [⟨(some 36), .bin .add (.tmp 13) (.const (.int .i64 1)), none⟩,
     ⟨(some 13), .mv (.tmp 36), none⟩])))))))
 (.seq (.ops [⟨(some 37), .mv (.tmp 3), none⟩,
   ⟨(some 2), .mv (.tmp 37), none⟩])
 .ret))))⟩
def zd9 : vt := ⟨31, [.tmp 6, .tmp 7],
 (.seq (.ops [⟨(some 6), .mv (.const (.bool false)), none⟩,
   ⟨(some 7), .mv (.const (.string ⟨#[]⟩)), none⟩])
 (.seq (.ops [⟨(some 11), .mv (.tmp 0), none⟩,
   ⟨(some 12), .mv (.tmp 1), none⟩,
   ⟨(some 13), .mv (.tmp 2), none⟩,
   ⟨(some 14), .call pg [(.tmp 11), (.tmp 12), (.tmp 13)], none⟩,
   ⟨(some 8), .mv (.tmp 14), none⟩])
 (.seq (.seq (.ops [⟨(some 15), .mv (.tmp 0), none⟩,
   ⟨(some 16), .nilCheck (.tmp 15), none⟩,
   ⟨(some 17), .off 1 (.tmp 16), none⟩,
   ⟨(some 18), .load1 (.tmp 17), none⟩,
   ⟨(some 19), .len (.tmp 18), none⟩,
   ⟨(some 20), .mv (.const (.int .i64 0)), none⟩])
 (.block 0 (.loop (.seq (.ops [⟨(some 21), .bin .lss (.tmp 20) (.tmp 19), none⟩])
   (.seq (.cond (.tmp 21) .skip (.exit 0))
   (.seq (.block 1 (.seq (.ops [⟨(some 22), .atRow 4 (.tmp 18) (.tmp 20), none⟩,
      ⟨(some 23), .load 4 (.tmp 22), none⟩,
      ⟨(some 10), .alloc [(.string ⟨#[]⟩), (.slice none 0 0), (.pointer none), (.string ⟨#[]⟩)], none⟩,
      ⟨none, .store 4 (.tmp 10) (.tmp 23), none⟩])
    (.seq (.ops [⟨(some 24), .mv (.tmp 8), none⟩,
      ⟨(some 25), .load 4 (.tmp 10), none⟩,
      ⟨(some 26), .call ja [(.tmp 24), (.tmp 25)], none⟩,
      ⟨(some 27), .un .not (.tmp 26), none⟩])
    (.cond (.tmp 27) (.seq (.ops [⟨(some 28), .off 3 (.tmp 10), none⟩,
      ⟨(some 29), .load1 (.tmp 28), none⟩,
      ⟨(some 6), .mv (.const (.bool false)), none⟩,
      ⟨(some 7), .mv (.tmp 29), none⟩])
    .ret) .skip))))
   (.ops [⟨(some 30), .bin .add (.tmp 20) (.const (.int .i64 1)), none⟩,
     ⟨(some 20), .mv (.tmp 30), none⟩])))))))
 (.seq (.ops [⟨(some 6), .mv (.const (.bool true)), none⟩,
   ⟨(some 7), .mv (.const (.string ⟨#[]⟩)), none⟩])
 .ret))))⟩
def zb5 : vt := ⟨31, [.tmp 2],
 (.seq (.ops [⟨(some 2), .mv (.const (.bool false)), none⟩])
 (.seq (.seq (.ops [⟨(some 3), .mv (.const (.int .i64 0)), none⟩])
 (.block 0 (.loop (.seq (.seq (.ops [⟨(some 5), .mv (.tmp 3), none⟩,
     ⟨(some 6), .mv (.tmp 0), none⟩,
     ⟨(some 7), .lenStr (.tmp 6), none⟩,
     ⟨(some 8), .bin .lss (.tmp 5) (.tmp 7), none⟩])
   (.cond (.tmp 8) .skip (.exit 0)))
   (.seq (.block 1 (.seq (.ops [⟨(some 11), .mv (.tmp 0), none⟩,
      ⟨(some 12), .mv (.tmp 3), none⟩,
      ⟨(some 13), .idxStr (.tmp 11) (.tmp 12), none⟩,
      ⟨(some 4), .mv (.tmp 13), none⟩])
    (.seq (.seq (.ops [⟨(some 14), .mv (.tmp 4), none⟩,
      ⟨(some 15), .bin .eql (.tmp 14) (.const (.int .u8 32)), none⟩,
      ⟨(some 16), .mv (.tmp 15), none⟩,
      ⟨(some 17), .mv (.tmp 4), (some (16, false))⟩,
      ⟨(some 18), .bin .eql (.tmp 17) (.const (.int .u8 10)), (some (16, false))⟩,
      ⟨(some 19), .pick (.tmp 16) (.const (.bool true)) (.tmp 18), none⟩,
      ⟨(some 20), .mv (.tmp 19), none⟩,
      ⟨(some 21), .mv (.tmp 4), (some (20, false))⟩,
      ⟨(some 22), .bin .eql (.tmp 21) (.const (.int .u8 9)), (some (20, false))⟩,
      ⟨(some 23), .pick (.tmp 20) (.const (.bool true)) (.tmp 22), none⟩])
    (.cond (.tmp 23) (.exit 1) .skip))
    (.seq (.ops [⟨(some 24), .mv (.tmp 4), none⟩,
      ⟨(some 25), .bin .geq (.tmp 24) (.const (.int .u8 97)), none⟩,
      ⟨(some 26), .mv (.tmp 25), none⟩,
      ⟨(some 27), .mv (.tmp 4), (some (26, true))⟩,
      ⟨(some 28), .bin .leq (.tmp 27) (.const (.int .u8 122)), (some (26, true))⟩,
      ⟨(some 29), .pick (.tmp 26) (.tmp 28) (.const (.bool false)), none⟩,
      ⟨(some 30), .un .not (.tmp 29), none⟩,
      ⟨(some 2), .mv (.tmp 30), none⟩])
    .ret))))
   (.ops [⟨(some 9), .mv (.tmp 3), none⟩,
     ⟨(some 10), .bin .add (.tmp 9) (.const (.int .i64 1)), none⟩,
     ⟨(some 3), .mv (.tmp 10), none⟩]))))))
 (.seq (.ops [⟨(some 2), .mv (.const (.bool true)), none⟩])
 .ret)))⟩
def zm2 : vt := ⟨27, [.cells 2 32],
 (.seq (.ops [⟨(some 1), .box 32 (.tmp 0), none⟩,
   ⟨(some 2), .alloc (List.replicate 32 (.int .u32 0)), none⟩])
 (.seq (.seq (.ops [⟨(some 5), .mv (.const (.int .i64 0)), none⟩])
 (.block 0 (.loop (.seq (.ops [⟨(some 6), .bin .lss (.tmp 5) (.const (.int .i64 32)), none⟩])
   (.seq (.cond (.tmp 6) .skip (.exit 0))
   (.seq (.block 1 (.seq (.ops [⟨(some 7), .mv (.tmp 5), none⟩,
      ⟨(some 3), .mv (.tmp 7), none⟩])
    (.seq (.ops [⟨(some 8), .mv (.const (.int .i64 0)), none⟩])
    (.block 2 (.loop (.seq (.ops [⟨(some 9), .bin .lss (.tmp 8) (.const (.int .i64 32)), none⟩])
      (.seq (.cond (.tmp 9) .skip (.exit 2))
      (.seq (.block 3 (.seq (.ops [⟨(some 10), .mv (.tmp 8), none⟩,
         ⟨(some 4), .mv (.tmp 10), none⟩])
       (.seq (.ops [⟨(some 11), .mv (.tmp 4), none⟩,
         ⟨(some 12), .atArr 32 1 (.tmp 1) (.tmp 11), none⟩,
         ⟨(some 13), .load1 (.tmp 12), none⟩,
         ⟨(some 14), .mv (.tmp 3), none⟩,
         ⟨(some 15), .call zc8 [(.tmp 13), (.tmp 14)], none⟩])
       (.cond (.tmp 15) (.ops [⟨(some 16), .mv (.tmp 4), none⟩,
         ⟨(some 17), .atArr 32 1 (.tmp 1) (.tmp 16), none⟩,
         ⟨(some 18), .load1 (.tmp 17), none⟩,
         ⟨(some 19), .mv (.tmp 3), none⟩,
         ⟨(some 20), .atArr 32 1 (.tmp 1) (.tmp 19), none⟩,
         ⟨(some 21), .load1 (.tmp 20), none⟩,
         ⟨(some 22), .bin .or (.tmp 18) (.tmp 21), none⟩,
         ⟨(some 23), .atArr 32 1 (.tmp 1) (.tmp 16), none⟩,
         ⟨none, .store1 (.tmp 23) (.tmp 22), none⟩]) .skip))))
      (.ops [⟨(some 24), .bin .add (.tmp 8) (.const (.int .i64 1)), none⟩,
        ⟨(some 8), .mv (.tmp 24), none⟩])))))))))
   (.ops [⟨(some 25), .bin .add (.tmp 5) (.const (.int .i64 1)), none⟩,
     ⟨(some 5), .mv (.tmp 25), none⟩])))))))
 (.seq (.ops [⟨(some 26), .load 32 (.tmp 1), none⟩,
   ⟨none, .store 32 (.tmp 2) (.tmp 26), none⟩])
 .ret)))⟩
def zlo : vt := ⟨27, [.cells 2 32],
 (.seq (.ops [⟨(some 2), .alloc (List.replicate 32 (.int .u32 0)), none⟩])
 (.seq (.ops [⟨(some 3), .alloc (List.replicate 32 (.int .u32 0)), none⟩])
 (.seq (.seq (.ops [⟨(some 7), .mv (.tmp 0), none⟩,
   ⟨(some 8), .len (.tmp 7), none⟩,
   ⟨(some 9), .mv (.const (.int .i64 0)), none⟩])
 (.block 0 (.loop (.seq (.ops [⟨(some 10), .bin .lss (.tmp 9) (.tmp 8), none⟩])
   (.seq (.cond (.tmp 10) .skip (.exit 0))
   (.seq (.block 1 (.seq (.ops [⟨(some 11), .atRow 32 (.tmp 7) (.tmp 9), none⟩,
      ⟨(some 12), .load 32 (.tmp 11), none⟩,
      ⟨(some 5), .alloc (List.replicate 32 (.int .u32 0)), none⟩,
      ⟨none, .store 32 (.tmp 5) (.tmp 12), none⟩])
    (.seq (.ops [⟨(some 13), .mv (.const (.int .i64 0)), none⟩])
    (.block 2 (.loop (.seq (.ops [⟨(some 14), .bin .lss (.tmp 13) (.const (.int .i64 32)), none⟩])
      (.seq (.cond (.tmp 14) .skip (.exit 2))
      (.seq (.block 3 (.seq (.ops [⟨(some 15), .mv (.tmp 13), none⟩,
         ⟨(some 6), .mv (.tmp 15), none⟩])
       (.ops [⟨(some 16), .mv (.tmp 6), none⟩,
         ⟨(some 17), .atArr 32 1 (.tmp 3) (.tmp 16), none⟩,
         ⟨(some 18), .load1 (.tmp 17), none⟩,
         ⟨(some 19), .mv (.tmp 6), none⟩,
         ⟨(some 20), .atArr 32 1 (.tmp 5) (.tmp 19), none⟩,
         ⟨(some 21), .load1 (.tmp 20), none⟩,
         ⟨(some 22), .bin .or (.tmp 18) (.tmp 21), none⟩,
         ⟨(some 23), .atArr 32 1 (.tmp 3) (.tmp 16), none⟩,
         ⟨none, .store1 (.tmp 23) (.tmp 22), none⟩])))
      (.ops [⟨(some 24), .bin .add (.tmp 13) (.const (.int .i64 1)), none⟩,
        ⟨(some 13), .mv (.tmp 24), none⟩])))))))))
   (.ops [⟨(some 25), .bin .add (.tmp 9) (.const (.int .i64 1)), none⟩,
     ⟨(some 9), .mv (.tmp 25), none⟩])))))))
 (.seq (.ops [⟨(some 26), .load 32 (.tmp 3), none⟩,
   ⟨none, .store 32 (.tmp 2) (.tmp 26), none⟩])
 .ret))))⟩
def zrd : vt := ⟨27, [.cells 2 32],
 (.seq (.ops [⟨(some 2), .alloc (List.replicate 32 (.int .u32 0)), none⟩])
 (.seq (.ops [⟨(some 7), .call zca [(.const (.int .u32 4294967295))], none⟩,
   ⟨(some 3), .alloc (List.replicate 32 (.int .u32 0)), none⟩,
   ⟨none, .store 32 (.tmp 3) (.tmp 7), none⟩])
 (.seq (.seq (.ops [⟨(some 8), .mv (.tmp 0), none⟩,
   ⟨(some 9), .len (.tmp 8), none⟩,
   ⟨(some 10), .mv (.const (.int .i64 0)), none⟩])
 (.block 0 (.loop (.seq (.ops [⟨(some 11), .bin .lss (.tmp 10) (.tmp 9), none⟩])
   (.seq (.cond (.tmp 11) .skip (.exit 0))
   (.seq (.block 1 (.seq (.ops [⟨(some 12), .atRow 32 (.tmp 8) (.tmp 10), none⟩,
      ⟨(some 13), .load 32 (.tmp 12), none⟩,
      ⟨(some 5), .alloc (List.replicate 32 (.int .u32 0)), none⟩,
      ⟨none, .store 32 (.tmp 5) (.tmp 13), none⟩])
    (.seq (.ops [⟨(some 14), .mv (.const (.int .i64 0)), none⟩])
    (.block 2 (.loop (.seq (.ops [⟨(some 15), .bin .lss (.tmp 14) (.const (.int .i64 32)), none⟩])
      (.seq (.cond (.tmp 15) .skip (.exit 2))
      (.seq (.block 3 (.seq (.ops [⟨(some 16), .mv (.tmp 14), none⟩,
         ⟨(some 6), .mv (.tmp 16), none⟩])
       (.ops [⟨(some 17), .mv (.tmp 6), none⟩,
         ⟨(some 18), .mv (.tmp 6), none⟩,
         ⟨(some 19), .atArr 32 1 (.tmp 3) (.tmp 18), none⟩,
         ⟨(some 20), .load1 (.tmp 19), none⟩,
         ⟨(some 21), .load 32 (.tmp 5), none⟩,
         ⟨(some 22), .call zjs [(.tmp 20), (.tmp 21)], none⟩,
         ⟨(some 23), .atArr 32 1 (.tmp 3) (.tmp 17), none⟩,
         ⟨none, .store1 (.tmp 23) (.tmp 22), none⟩])))
      (.ops [⟨(some 24), .bin .add (.tmp 14) (.const (.int .i64 1)), none⟩,
        ⟨(some 14), .mv (.tmp 24), none⟩])))))))))
   (.ops [⟨(some 25), .bin .add (.tmp 10) (.const (.int .i64 1)), none⟩,
     ⟨(some 10), .mv (.tmp 25), none⟩])))))))
 (.seq (.ops [⟨(some 26), .load 32 (.tmp 3), none⟩,
   ⟨none, .store 32 (.tmp 2) (.tmp 26), none⟩])
 .ret))))⟩
def zmu : vt := ⟨11, [.cells 4 32],
 (.seq (.ops [⟨(some 3), .box 32 (.tmp 1), none⟩,
   ⟨(some 4), .alloc (List.replicate 32 (.int .u32 0)), none⟩])
 (.seq (.ops [⟨(some 5), .load 32 (.tmp 3), none⟩,
   ⟨(some 6), .call zec [(.tmp 5)], none⟩,
   ⟨(some 7), .mv (.tmp 0), none⟩,
   ⟨(some 8), .call zca [(.tmp 7)], none⟩,
   ⟨(some 9), .mkRow (List.replicate 32 (.int .u32 0)) 2 [(0, 32, (.tmp 6)), (32, 32, (.tmp 8))], none⟩,
   ⟨(some 10), .call zai [(.tmp 9)], none⟩,
   ⟨none, .store 32 (.tmp 4) (.tmp 10), none⟩])
 .ret))⟩
def zlz : vt := ⟨10, [.cells 4 32],
 (.seq (.ops [⟨(some 3), .box 32 (.tmp 1), none⟩,
   ⟨(some 4), .alloc (List.replicate 32 (.int .u32 0)), none⟩])
 (.seq (.ops [⟨(some 5), .load 32 (.tmp 3), none⟩,
   ⟨(some 6), .mv (.tmp 0), none⟩,
   ⟨(some 7), .call zca [(.tmp 6)], none⟩,
   ⟨none, .again 32 (.tmp 3) 5, none⟩,
   ⟨(some 8), .mkRow (List.replicate 32 (.int .u32 0)) 2 [(0, 32, (.tmp 5)), (32, 32, (.tmp 7))], none⟩,
   ⟨(some 9), .call zai [(.tmp 8)], none⟩,
   ⟨none, .store 32 (.tmp 4) (.tmp 9), none⟩])
 .ret))⟩
def znb : vt := ⟨28, [.cells 2 32],
 (.seq (.ops [⟨(some 2), .alloc (List.replicate 32 (.int .u32 0)), none⟩])
 (.seq (.ops [⟨(some 7), .call zcx [(.const (.int .u32 4294967295)), (.const (.int .u32 4294967295))], none⟩,
   ⟨(some 3), .alloc (List.replicate 32 (.int .u32 0)), none⟩,
   ⟨none, .store 32 (.tmp 3) (.tmp 7), none⟩])
 (.seq (.seq (.ops [⟨(some 8), .mv (.tmp 0), none⟩,
   ⟨(some 9), .len (.tmp 8), none⟩,
   ⟨(some 10), .mv (.const (.int .i64 0)), none⟩])
 (.block 0 (.loop (.seq (.ops [⟨(some 11), .bin .lss (.tmp 10) (.tmp 9), none⟩])
   (.seq (.cond (.tmp 11) .skip (.exit 0))
   (.seq (.block 1 (.seq (.ops [⟨(some 12), .atRow 32 (.tmp 8) (.tmp 10), none⟩,
      ⟨(some 13), .load 32 (.tmp 12), none⟩,
      ⟨(some 5), .alloc (List.replicate 32 (.int .u32 0)), none⟩,
      ⟨none, .store 32 (.tmp 5) (.tmp 13), none⟩])
    (.seq (.ops [⟨(some 14), .mv (.const (.int .i64 0)), none⟩])
    (.block 2 (.loop (.seq (.ops [⟨(some 15), .bin .lss (.tmp 14) (.const (.int .i64 32)), none⟩])
      (.seq (.cond (.tmp 15) .skip (.exit 2))
      (.seq (.block 3 (.seq (.ops [⟨(some 16), .mv (.tmp 14), none⟩,
         ⟨(some 6), .mv (.tmp 16), none⟩])
       (.ops [⟨(some 17), .mv (.tmp 6), none⟩,
         ⟨(some 18), .atArr 32 1 (.tmp 3) (.tmp 17), none⟩,
         ⟨(some 19), .load1 (.tmp 18), none⟩,
         ⟨(some 20), .mv (.tmp 6), none⟩,
         ⟨(some 21), .atArr 32 1 (.tmp 5) (.tmp 20), none⟩,
         ⟨(some 22), .load1 (.tmp 21), none⟩,
         ⟨(some 23), .bin .and (.tmp 19) (.tmp 22), none⟩,
         ⟨(some 24), .atArr 32 1 (.tmp 3) (.tmp 17), none⟩,
         ⟨none, .store1 (.tmp 24) (.tmp 23), none⟩])))
      (.ops [⟨(some 25), .bin .add (.tmp 14) (.const (.int .i64 1)), none⟩,
        ⟨(some 14), .mv (.tmp 25), none⟩])))))))))
   (.ops [⟨(some 26), .bin .add (.tmp 10) (.const (.int .i64 1)), none⟩,
     ⟨(some 10), .mv (.tmp 26), none⟩])))))))
 (.seq (.ops [⟨(some 27), .load 32 (.tmp 3), none⟩,
   ⟨none, .store 32 (.tmp 2) (.tmp 27), none⟩])
 .ret))))⟩
def zme : vt := ⟨19, [.cells 4 32],
 (.seq (.ops [⟨(some 2), .box 32 (.tmp 0), none⟩,
   ⟨(some 3), .box 32 (.tmp 1), none⟩,
   ⟨(some 4), .alloc (List.replicate 32 (.int .u32 0)), none⟩])
 (.seq (.seq (.ops [⟨(some 6), .mv (.const (.int .i64 0)), none⟩])
 (.block 0 (.loop (.seq (.ops [⟨(some 7), .bin .lss (.tmp 6) (.const (.int .i64 32)), none⟩])
   (.seq (.cond (.tmp 7) .skip (.exit 0))
   (.seq (.block 1 (.seq (.ops [⟨(some 8), .mv (.tmp 6), none⟩,
      ⟨(some 5), .mv (.tmp 8), none⟩])
    (.ops [⟨(some 9), .mv (.tmp 5), none⟩,
      ⟨(some 10), .atArr 32 1 (.tmp 2) (.tmp 9), none⟩,
      ⟨(some 11), .load1 (.tmp 10), none⟩,
      ⟨(some 12), .mv (.tmp 5), none⟩,
      ⟨(some 13), .atArr 32 1 (.tmp 3) (.tmp 12), none⟩,
      ⟨(some 14), .load1 (.tmp 13), none⟩,
      ⟨(some 15), .bin .andNot (.tmp 11) (.tmp 14), none⟩,
      ⟨(some 16), .atArr 32 1 (.tmp 2) (.tmp 9), none⟩,
      ⟨none, .store1 (.tmp 16) (.tmp 15), none⟩])))
   (.ops [⟨(some 17), .bin .add (.tmp 6) (.const (.int .i64 1)), none⟩,
     ⟨(some 6), .mv (.tmp 17), none⟩])))))))
 (.seq (.ops [⟨(some 18), .load 32 (.tmp 2), none⟩,
   ⟨none, .store 32 (.tmp 4) (.tmp 18), none⟩])
 .ret)))⟩
def zl3 : vt := ⟨18, [.cells 4 32],
 (.seq (.ops [⟨(some 4), .alloc (List.replicate 32 (.int .u32 0)), none⟩])
 (.seq (.ops [⟨(some 5), .alloc (List.replicate 32 (.int .u32 0)), none⟩])
 (.seq (.seq (.ops [⟨(some 7), .mv (.const (.int .i64 0)), none⟩])
 (.block 0 (.loop (.seq (.ops [⟨(some 8), .bin .lss (.tmp 7) (.const (.int .i64 32)), none⟩])
   (.seq (.cond (.tmp 8) .skip (.exit 0))
   (.seq (.block 1 (.seq (.ops [⟨(some 9), .mv (.tmp 7), none⟩,
      ⟨(some 6), .mv (.tmp 9), none⟩])
    (.seq (.ops [⟨(some 10), .mv (.tmp 0), none⟩,
      ⟨(some 11), .mv (.tmp 6), none⟩,
      ⟨(some 12), .call zc8 [(.tmp 10), (.tmp 11)], none⟩])
    (.cond (.tmp 12) (.ops [⟨(some 13), .mv (.tmp 6), none⟩,
      ⟨(some 14), .mv (.tmp 1), none⟩,
      ⟨(some 15), .atArr 32 1 (.tmp 5) (.tmp 13), none⟩,
      ⟨none, .store1 (.tmp 15) (.tmp 14), none⟩]) .skip))))
   (.ops [⟨(some 16), .bin .add (.tmp 7) (.const (.int .i64 1)), none⟩,
     ⟨(some 7), .mv (.tmp 16), none⟩])))))))
 (.seq (.ops [⟨(some 17), .load 32 (.tmp 5), none⟩,
   ⟨none, .store 32 (.tmp 4) (.tmp 17), none⟩])
 .ret))))⟩
def zud : vt := ⟨16, [.cells 2 32],
 (.seq (.ops [⟨(some 2), .alloc (List.replicate 32 (.int .u32 0)), none⟩])
 (.seq (.ops [⟨(some 3), .alloc (List.replicate 32 (.int .u32 0)), none⟩])
 (.seq (.seq (.ops [⟨(some 5), .mv (.const (.int .i64 0)), none⟩])
 (.block 0 (.loop (.seq (.ops [⟨(some 6), .bin .lss (.tmp 5) (.const (.int .i64 32)), none⟩])
   (.seq (.cond (.tmp 6) .skip (.exit 0))
   (.seq (.block 1 (.seq (.ops [⟨(some 7), .mv (.tmp 5), none⟩,
      ⟨(some 4), .mv (.tmp 7), none⟩])
    (.ops [⟨(some 8), .mv (.tmp 4), none⟩,
      ⟨(some 9), .mv (.tmp 0), none⟩,
      ⟨(some 10), .mv (.tmp 4), none⟩,
      ⟨(some 11), .bin .shl (.const (.int .u32 1)) (.tmp 10), none⟩,
      ⟨(some 12), .bin .and (.tmp 9) (.tmp 11), none⟩,
      ⟨(some 13), .atArr 32 1 (.tmp 3) (.tmp 8), none⟩,
      ⟨none, .store1 (.tmp 13) (.tmp 12), none⟩])))
   (.ops [⟨(some 14), .bin .add (.tmp 5) (.const (.int .i64 1)), none⟩,
     ⟨(some 5), .mv (.tmp 14), none⟩])))))))
 (.seq (.ops [⟨(some 15), .load 32 (.tmp 3), none⟩,
   ⟨none, .store 32 (.tmp 2) (.tmp 15), none⟩])
 .ret))))⟩
def zis : vt := ⟨27, [.cells 2 32],
 (.seq (.ops [⟨(some 1), .box 32 (.tmp 0), none⟩,
   ⟨(some 2), .alloc (List.replicate 32 (.int .u32 0)), none⟩])
 (.seq (.ops [⟨(some 3), .alloc (List.replicate 32 (.int .u32 0)), none⟩])
 (.seq (.seq (.ops [⟨(some 6), .mv (.const (.int .i64 0)), none⟩])
 (.block 0 (.loop (.seq (.ops [⟨(some 7), .bin .lss (.tmp 6) (.const (.int .i64 32)), none⟩])
   (.seq (.cond (.tmp 7) .skip (.exit 0))
   (.seq (.block 1 (.seq (.ops [⟨(some 8), .mv (.tmp 6), none⟩,
      ⟨(some 4), .mv (.tmp 8), none⟩])
    (.seq (.ops [⟨(some 9), .mv (.const (.int .i64 0)), none⟩])
    (.block 2 (.loop (.seq (.ops [⟨(some 10), .bin .lss (.tmp 9) (.const (.int .i64 32)), none⟩])
      (.seq (.cond (.tmp 10) .skip (.exit 2))
      (.seq (.block 3 (.seq (.ops [⟨(some 11), .mv (.tmp 9), none⟩,
         ⟨(some 5), .mv (.tmp 11), none⟩])
       (.seq (.ops [⟨(some 12), .mv (.tmp 4), none⟩,
         ⟨(some 13), .atArr 32 1 (.tmp 1) (.tmp 12), none⟩,
         ⟨(some 14), .load1 (.tmp 13), none⟩,
         ⟨(some 15), .mv (.tmp 5), none⟩,
         ⟨(some 16), .call zc8 [(.tmp 14), (.tmp 15)], none⟩])
       (.cond (.tmp 16) (.ops [⟨(some 17), .mv (.tmp 5), none⟩,
         ⟨(some 18), .atArr 32 1 (.tmp 3) (.tmp 17), none⟩,
         ⟨(some 19), .load1 (.tmp 18), none⟩,
         ⟨(some 20), .mv (.tmp 4), none⟩,
         ⟨(some 21), .bin .shl (.const (.int .u32 1)) (.tmp 20), none⟩,
         ⟨(some 22), .bin .or (.tmp 19) (.tmp 21), none⟩,
         ⟨(some 23), .atArr 32 1 (.tmp 3) (.tmp 17), none⟩,
         ⟨none, .store1 (.tmp 23) (.tmp 22), none⟩]) .skip))))
      (.ops [⟨(some 24), .bin .add (.tmp 9) (.const (.int .i64 1)), none⟩,
        ⟨(some 9), .mv (.tmp 24), none⟩])))))))))
   (.ops [⟨(some 25), .bin .add (.tmp 6) (.const (.int .i64 1)), none⟩,
     ⟨(some 6), .mv (.tmp 25), none⟩])))))))
 (.seq (.ops [⟨(some 26), .load 32 (.tmp 3), none⟩,
   ⟨none, .store 32 (.tmp 2) (.tmp 26), none⟩])
 .ret))))⟩
def ze4 : vt := ⟨116, [.tmp 2, .tmp 3, .tmp 4],
 (.seq (.ops [⟨(some 2), .mv (.const (.slice none 0 0)), none⟩,
   ⟨(some 3), .mv (.const (.int .i64 0)), none⟩,
   ⟨(some 4), .mv (.const (.int .i64 0)), none⟩])
 (.seq (.seq (.ops [⟨(some 13), .mv (.tmp 0), none⟩,
   ⟨(some 14), .lenStr (.tmp 13), none⟩,
   ⟨(some 15), .bin .gtr (.tmp 14) (.const (.int .i64 8192)), none⟩])
 (.cond (.tmp 15) (.seq (.ops [⟨(some 2), .mv (.const (.slice none 0 0)), none⟩,
   ⟨(some 3), .mv (.const (.int .i64 2)), none⟩,
   ⟨(some 4), .mv (.const (.int .i64 0)), none⟩])
 .ret) .skip))
 (.seq (.ops [⟨(some 5), .mv (.const (.slice none 0 0)), none⟩])
 (.seq (.seq (.ops [⟨(some 6), .mv (.const (.int .i64 0)), none⟩])
 (.block 0 (.loop (.seq (.seq (.ops [⟨(some 16), .mv (.tmp 6), none⟩,
     ⟨(some 17), .mv (.tmp 0), none⟩,
     ⟨(some 18), .lenStr (.tmp 17), none⟩,
     ⟨(some 19), .bin .lss (.tmp 16) (.tmp 18), none⟩])
   (.cond (.tmp 19) .skip (.exit 0)))
   (.block 1 (.seq (.ops [⟨(some 20), .mv (.tmp 0), none⟩,
      ⟨(some 21), .mv (.tmp 6), none⟩,
      ⟨(some 22), .sliceStr (.tmp 20) (some (.tmp 21)) none, none⟩,
      ⟨(some 7), .mv (.tmp 22), none⟩])
    (.seq (.ops [⟨(some 23), .mv (.tmp 6), none⟩,
      ⟨(some 24), .build [(.int .i64 0), (.string ⟨#[]⟩), (.int .i64 0), (.int .i64 0)] [(3, 1, (.tmp 23))], none⟩,
      ⟨(some 8), .alloc [(.int .i64 0), (.string ⟨#[]⟩), (.int .i64 0), (.int .i64 0)], none⟩,
      ⟨none, .store 4 (.tmp 8) (.tmp 24), none⟩])
    (.seq (.seq (.ops [⟨(some 25), .mv (.tmp 7), none⟩,
      ⟨(some 26), .idxStr (.tmp 25) (.const (.int .i64 0)), none⟩,
      ⟨(some 9), .mv (.tmp 26), none⟩])
    (.block 2 (.seq (.ops [⟨(some 29), .mv (.tmp 9), none⟩,
       ⟨(some 30), .bin .eql (.tmp 29) (.const (.int .u8 32)), none⟩,
       ⟨(some 31), .mv (.tmp 30), none⟩,
       ⟨(some 32), .mv (.tmp 9), (some (31, false))⟩,
       ⟨(some 33), .bin .eql (.tmp 32) (.const (.int .u8 9)), (some (31, false))⟩,
       ⟨(some 34), .pick (.tmp 31) (.const (.bool true)) (.tmp 33), none⟩,
       ⟨(some 35), .mv (.tmp 34), none⟩,
       ⟨(some 36), .mv (.tmp 9), (some (35, false))⟩,
       ⟨(some 37), .bin .eql (.tmp 36) (.const (.int .u8 10)), (some (35, false))⟩,
       ⟨(some 38), .pick (.tmp 35) (.const (.bool true)) (.tmp 37), none⟩,
       ⟨(some 28), .mv (.tmp 38), none⟩])
     (.cond (.tmp 28) (.seq (.ops [⟨(some 39), .mv (.tmp 6), none⟩,
       ⟨(some 40), .bin .add (.tmp 39) (.const (.int .i64 1)), none⟩,
       ⟨(some 6), .mv (.tmp 40), none⟩])
     (.exit 1)) (.seq (.ops [⟨(some 42), .mv (.tmp 7), none⟩,
       ⟨(some 43), .call gp [(.tmp 42), (.const (.string ⟨#[40, 42]⟩))], none⟩,
       ⟨(some 41), .mv (.tmp 43), none⟩])
     (.cond (.tmp 41) (.seq (.ops [⟨(some 44), .mv (.tmp 7), none⟩,
       ⟨(some 45), .sliceStr (.tmp 44) (some (.const (.int .i64 2))) none, none⟩,
       ⟨(some 46), .call zas [(.tmp 45), (.const (.string ⟨#[42, 41]⟩))], none⟩,
       ⟨(some 10), .mv (.tmp 46), none⟩])
     (.seq (.seq (.ops [⟨(some 47), .mv (.tmp 10), none⟩,
       ⟨(some 48), .bin .lss (.tmp 47) (.const (.int .i64 0)), none⟩])
     (.cond (.tmp 48) (.seq (.ops [⟨(some 49), .mv (.tmp 6), none⟩,
       ⟨(some 2), .mv (.const (.slice none 0 0)), none⟩,
       ⟨(some 3), .mv (.const (.int .i64 24)), none⟩,
       ⟨(some 4), .mv (.tmp 49), none⟩])
     .ret) .skip))
     (.seq (.ops [⟨(some 50), .mv (.tmp 6), none⟩,
       ⟨(some 51), .mv (.tmp 10), none⟩,
       ⟨(some 52), .bin .add (.tmp 51) (.const (.int .i64 4)), none⟩,
       ⟨(some 53), .bin .add (.tmp 50) (.tmp 52), none⟩,
       ⟨(some 6), .mv (.tmp 53), none⟩])
     (.exit 1)))) (.seq (.ops [⟨(some 55), .mv (.tmp 9), none⟩,
       ⟨(some 56), .call zbr [(.tmp 55)], none⟩,
       ⟨(some 54), .mv (.tmp 56), none⟩])
     (.cond (.tmp 54) (.seq (.ops [⟨(some 57), .off 0 (.tmp 8), none⟩,
       ⟨none, .store1 (.tmp 57) (.const (.int .i64 2)), none⟩])
     (.seq (.ops [⟨(some 58), .mv (.tmp 7), none⟩,
       ⟨(some 59), .mv (.tmp 7), none⟩,
       ⟨(some 60), .call zgj [(.tmp 59), (.func zau)], none⟩,
       ⟨(some 61), .sliceStr (.tmp 58) none (some (.tmp 60)), none⟩,
       ⟨(some 62), .off 1 (.tmp 8), none⟩,
       ⟨none, .store1 (.tmp 62) (.tmp 61), none⟩])
     (.seq (.ops [⟨(some 64), .off 1 (.tmp 8), none⟩,
       ⟨(some 65), .load1 (.tmp 64), none⟩,
       ⟨(some 66), .call zew [(.tmp 65)], none⟩,
       ⟨(some 63), .mv (.tmp 66), none⟩,
       ⟨(some 67), .extract (.tmp 63) 0, none⟩,
       ⟨(some 68), .extract (.tmp 63) 1, none⟩,
       ⟨(some 11), .mv (.tmp 67), none⟩,
       ⟨(some 12), .mv (.tmp 68), none⟩])
     (.seq (.seq (.ops [⟨(some 69), .mv (.tmp 12), none⟩,
       ⟨(some 70), .un .not (.tmp 69), none⟩])
     (.cond (.tmp 70) (.seq (.ops [⟨(some 71), .mv (.tmp 6), none⟩,
       ⟨(some 2), .mv (.const (.slice none 0 0)), none⟩,
       ⟨(some 3), .mv (.const (.int .i64 23)), none⟩,
       ⟨(some 4), .mv (.tmp 71), none⟩])
     .ret) .skip))
     (.ops [⟨(some 72), .mv (.tmp 11), none⟩,
       ⟨(some 73), .off 2 (.tmp 8), none⟩,
       ⟨none, .store1 (.tmp 73) (.tmp 72), none⟩]))))) (.seq (.ops [⟨(some 75), .mv (.tmp 9), none⟩,
       ⟨(some 76), .call zay [(.tmp 75)], none⟩,
       ⟨(some 77), .mv (.tmp 76), none⟩,
       ⟨(some 78), .mv (.tmp 9), (some (77, false))⟩,
       ⟨(some 79), .bin .eql (.tmp 78) (.const (.int .u8 95)), (some (77, false))⟩,
       ⟨(some 80), .pick (.tmp 77) (.const (.bool true)) (.tmp 79), none⟩,
       ⟨(some 74), .mv (.tmp 80), none⟩])
     (.cond (.tmp 74) (.seq (.ops [⟨(some 81), .off 0 (.tmp 8), none⟩,
       ⟨none, .store1 (.tmp 81) (.const (.int .i64 1)), none⟩])
     (.ops [⟨(some 82), .mv (.tmp 7), none⟩,
       ⟨(some 83), .mv (.tmp 7), none⟩,
       ⟨(some 84), .call zgj [(.tmp 83), (.func zax)], none⟩,
       ⟨(some 85), .sliceStr (.tmp 82) none (some (.tmp 84)), none⟩,
       ⟨(some 86), .off 1 (.tmp 8), none⟩,
       ⟨none, .store1 (.tmp 86) (.tmp 85), none⟩])) (.seq (.ops [⟨(some 88), .mv (.tmp 7), none⟩,
       ⟨(some 89), .call gp [(.tmp 88), (.const (.string ⟨#[47, 92]⟩))], none⟩,
       ⟨(some 90), .mv (.tmp 89), none⟩,
       ⟨(some 91), .mv (.tmp 7), (some (90, false))⟩,
       ⟨(some 92), .call gp [(.tmp 91), (.const (.string ⟨#[92, 47]⟩))], (some (90, false))⟩,
       ⟨(some 93), .pick (.tmp 90) (.const (.bool true)) (.tmp 92), none⟩,
       ⟨(some 87), .mv (.tmp 93), none⟩])
     (.cond (.tmp 87) (.ops [⟨(some 94), .mv (.tmp 7), none⟩,
       ⟨(some 95), .sliceStr (.tmp 94) none (some (.const (.int .i64 2))), none⟩,
       ⟨(some 96), .off 0 (.tmp 8), none⟩,
       ⟨none, .store1 (.tmp 96) (.const (.int .i64 3)), none⟩,
       ⟨(some 97), .off 1 (.tmp 8), none⟩,
       ⟨none, .store1 (.tmp 97) (.tmp 95), none⟩]) (.seq (.ops [⟨(some 99), .mv (.tmp 9), none⟩,
       ⟨(some 100), .call zae [(.const (.string ⟨#[123, 125, 40, 41, 91, 93, 59, 124, 44, 58, 61, 43, 45, 35, 36, 126, 42, 47, 92, 38, 63, 94]⟩)), (.tmp 99)], none⟩,
       ⟨(some 101), .bin .geq (.tmp 100) (.const (.int .i64 0)), none⟩,
       ⟨(some 98), .mv (.tmp 101), none⟩])
     (.cond (.tmp 98) (.ops [⟨(some 102), .mv (.tmp 7), none⟩,
       ⟨(some 103), .sliceStr (.tmp 102) none (some (.const (.int .i64 1))), none⟩,
       ⟨(some 104), .off 0 (.tmp 8), none⟩,
       ⟨none, .store1 (.tmp 104) (.const (.int .i64 3)), none⟩,
       ⟨(some 105), .off 1 (.tmp 8), none⟩,
       ⟨none, .store1 (.tmp 105) (.tmp 103), none⟩]) (.seq (.ops [⟨(some 27), .mv (.tmp 6), none⟩,
       ⟨(some 2), .mv (.const (.slice none 0 0)), none⟩,
       ⟨(some 3), .mv (.const (.int .i64 20)), none⟩,
       ⟨(some 4), .mv (.tmp 27), none⟩])
     .ret)))))))))))))))
    (.seq (.ops [⟨(some 106), .mv (.tmp 5), none⟩,
      ⟨(some 107), .load 4 (.tmp 8), none⟩,
      ⟨(some 108), .mkRow [(.int .i64 0), (.string ⟨#[]⟩), (.int .i64 0), (.int .i64 0)] 1 [(0, 4, (.tmp 107))], none⟩,
      ⟨(some 109), .append 4 40 (.tmp 106) (.tmp 108), none⟩,
      ⟨(some 5), .mv (.tmp 109), none⟩])
    (.ops [⟨(some 110), .mv (.tmp 6), none⟩,
      ⟨(some 111), .off 1 (.tmp 8), none⟩,
      ⟨(some 112), .load1 (.tmp 111), none⟩,
      ⟨(some 113), .lenStr (.tmp 112), none⟩,
      ⟨(some 114), .bin .add (.tmp 110) (.tmp 113), none⟩,
      ⟨(some 6), .mv (.tmp 114), none⟩]))))))))))
 (.seq (.ops [⟨(some 115), .mv (.tmp 5), none⟩,
   ⟨(some 2), .mv (.tmp 115), none⟩,
   ⟨(some 3), .mv (.const (.int .i64 0)), none⟩,
   ⟨(some 4), .mv (.const (.int .i64 0)), none⟩])
 .ret)))))⟩
def zn5 : vt := ⟨7, [.tmp 2],
 (.seq (.ops [⟨(some 2), .mv (.const (.pointer none)), none⟩])
 (.seq (.ops [⟨(some 3), .mv (.tmp 0), none⟩,
   ⟨(some 4), .call vv [(.tmp 3)], none⟩,
   ⟨(some 5), .build [(.slice none 0 0), (.int .i64 0)] [(0, 1, (.tmp 4))], none⟩,
   ⟨(some 6), .box 2 (.tmp 5), none⟩,
   ⟨(some 2), .mv (.tmp 6), none⟩])
 .ret))⟩
def zfy : vt := ⟨8, [.tmp 2],
 (.seq (.ops [⟨(some 2), .mv (.const (.bool false)), none⟩])
 (.seq (.ops [⟨(some 3), .mv (.tmp 0), none⟩,
   ⟨(some 4), .nilCheck (.tmp 3), none⟩,
   ⟨(some 5), .off 4 (.tmp 4), none⟩,
   ⟨(some 6), .load1 (.tmp 5), none⟩,
   ⟨(some 7), .bin .eql (.tmp 6) (.const (.int .i64 0)), none⟩,
   ⟨(some 2), .mv (.tmp 7), none⟩])
 .ret))⟩
def zdg : vt := ⟨13, [.tmp 2],
 (.seq (.ops [⟨(some 2), .mv (.const (.int .i64 0)), none⟩])
 (.seq (.ops [⟨(some 3), .mv (.tmp 0), none⟩,
   ⟨(some 4), .nilCheck (.tmp 3), none⟩,
   ⟨(some 5), .off 0 (.tmp 4), none⟩,
   ⟨(some 6), .load1 (.tmp 5), none⟩,
   ⟨(some 7), .len (.tmp 6), none⟩,
   ⟨(some 8), .mv (.tmp 0), none⟩,
   ⟨(some 9), .nilCheck (.tmp 8), none⟩,
   ⟨(some 10), .off 1 (.tmp 9), none⟩,
   ⟨(some 11), .load1 (.tmp 10), none⟩,
   ⟨(some 12), .bin .sub (.tmp 7) (.tmp 11), none⟩,
   ⟨(some 2), .mv (.tmp 12), none⟩])
 .ret))⟩
def xu : vt := ⟨98, [.cells 2 4],
 (.seq (.ops [⟨(some 2), .alloc [(.string ⟨#[]⟩), (.slice none 0 0), (.pointer none), (.string ⟨#[]⟩)], none⟩])
 (.seq (.ops [⟨(some 3), .alloc [(.string ⟨#[]⟩), (.slice none 0 0), (.pointer none), (.string ⟨#[]⟩)], none⟩])
 (.seq (.block 0 (.seq (.ops [⟨(some 9), .mv (.tmp 0), none⟩,
    ⟨(some 10), .nilCheck (.tmp 9), none⟩,
    ⟨(some 11), .off 0 (.tmp 10), none⟩,
    ⟨(some 12), .load1 (.tmp 11), none⟩,
    ⟨(some 13), .mkRow [(.string ⟨#[]⟩)] 1 [(0, 1, (.const (.string ⟨#[108, 101, 116]⟩)))], none⟩,
    ⟨(some 14), .call w7 [(.tmp 12), (.tmp 13)], none⟩,
    ⟨(some 8), .mv (.tmp 14), none⟩])
  (.cond (.tmp 8) (.seq (.ops [⟨(some 15), .off 0 (.tmp 3), none⟩,
    ⟨none, .store1 (.tmp 15) (.const (.string ⟨#[108, 101, 116]⟩)), none⟩])
  (.seq (.seq (.ops [⟨(some 16), .mv (.tmp 0), none⟩,
    ⟨(some 17), .nilCheck (.tmp 16), none⟩,
    ⟨(some 18), .off 0 (.tmp 17), none⟩,
    ⟨(some 19), .load1 (.tmp 18), none⟩,
    ⟨(some 20), .mkRow [(.string ⟨#[]⟩)] 1 [(0, 1, (.const (.string ⟨#[114, 101, 99]⟩)))], none⟩,
    ⟨(some 21), .call w7 [(.tmp 19), (.tmp 20)], none⟩])
  (.cond (.tmp 21) (.ops [⟨(some 22), .off 0 (.tmp 3), none⟩,
    ⟨none, .store1 (.tmp 22) (.const (.string ⟨#[114, 101, 99]⟩)), none⟩]) .skip))
  (.block 1 (.loop (.block 2 (.seq (.ops [⟨(some 4), .alloc [(.string ⟨#[]⟩), (.int .i64 0), (.pointer none)], none⟩])
     (.seq (.ops [⟨(some 24), .mv (.tmp 0), none⟩,
       ⟨(some 25), .call jl [(.tmp 24)], none⟩,
       ⟨(some 23), .mv (.tmp 25), none⟩,
       ⟨(some 26), .extract (.tmp 23) 0, none⟩,
       ⟨(some 27), .extract (.tmp 23) 1, none⟩,
       ⟨(some 28), .off 0 (.tmp 4), none⟩,
       ⟨none, .store1 (.tmp 28) (.tmp 26), none⟩,
       ⟨(some 29), .off 1 (.tmp 4), none⟩,
       ⟨none, .store1 (.tmp 29) (.tmp 27), none⟩])
     (.seq (.ops [⟨(some 30), .mv (.tmp 0), none⟩,
       ⟨(some 31), .call vx [(.tmp 30), (.const (.string ⟨#[61]⟩))], none⟩])
     (.seq (.ops [⟨(some 32), .mv (.tmp 0), none⟩,
       ⟨(some 33), .call xz [(.tmp 32)], none⟩,
       ⟨(some 34), .off 2 (.tmp 4), none⟩,
       ⟨none, .store1 (.tmp 34) (.tmp 33), none⟩])
     (.seq (.ops [⟨(some 35), .off 1 (.tmp 3), none⟩,
       ⟨(some 36), .load1 (.tmp 35), none⟩,
       ⟨(some 37), .load 3 (.tmp 4), none⟩,
       ⟨(some 38), .mkRow [(.string ⟨#[]⟩), (.int .i64 0), (.pointer none)] 1 [(0, 3, (.tmp 37))], none⟩,
       ⟨(some 39), .append 3 32 (.tmp 36) (.tmp 38), none⟩,
       ⟨(some 40), .off 1 (.tmp 3), none⟩,
       ⟨none, .store1 (.tmp 40) (.tmp 39), none⟩])
     (.seq (.ops [⟨(some 41), .mv (.tmp 0), none⟩,
       ⟨(some 42), .call xw [(.tmp 41)], none⟩,
       ⟨(some 43), .un .not (.tmp 42), none⟩,
       ⟨(some 44), .mv (.tmp 43), none⟩,
       ⟨(some 45), .mv (.tmp 0), (some (44, false))⟩,
       ⟨(some 46), .nilCheck (.tmp 45), (some (44, false))⟩,
       ⟨(some 47), .off 0 (.tmp 46), (some (44, false))⟩,
       ⟨(some 48), .load1 (.tmp 47), (some (44, false))⟩,
       ⟨(some 49), .mkRow [(.string ⟨#[]⟩)] 1 [(0, 1, (.const (.string ⟨#[97, 110, 100]⟩)))], (some (44, false))⟩,
       ⟨(some 50), .call w7 [(.tmp 48), (.tmp 49)], (some (44, false))⟩,
       ⟨(some 51), .un .not (.tmp 50), (some (44, false))⟩,
       ⟨(some 52), .pick (.tmp 44) (.const (.bool true)) (.tmp 51), none⟩])
     (.cond (.tmp 52) (.seq (.ops [⟨(some 53), .load 4 (.tmp 3), none⟩,
       ⟨none, .store 4 (.tmp 2) (.tmp 53), none⟩])
     .ret) .skip)))))))))))) (.seq (.ops [⟨(some 55), .mv (.tmp 0), none⟩,
    ⟨(some 56), .nilCheck (.tmp 55), none⟩,
    ⟨(some 57), .off 0 (.tmp 56), none⟩,
    ⟨(some 58), .load1 (.tmp 57), none⟩,
    ⟨(some 59), .mkRow [(.string ⟨#[]⟩)] 1 [(0, 1, (.const (.string ⟨#[97, 99, 121, 99, 108, 105, 99]⟩)))], none⟩,
    ⟨(some 60), .call w7 [(.tmp 58), (.tmp 59)], none⟩,
    ⟨(some 54), .mv (.tmp 60), none⟩])
  (.cond (.tmp 54) (.ops [⟨(some 61), .off 0 (.tmp 3), none⟩,
    ⟨none, .store1 (.tmp 61) (.const (.string ⟨#[97, 99, 121, 99, 108, 105, 99]⟩)), none⟩]) (.seq (.ops [⟨(some 63), .mv (.tmp 0), none⟩,
    ⟨(some 64), .nilCheck (.tmp 63), none⟩,
    ⟨(some 65), .off 0 (.tmp 64), none⟩,
    ⟨(some 66), .load1 (.tmp 65), none⟩,
    ⟨(some 67), .mkRow [(.string ⟨#[]⟩)] 1 [(0, 1, (.const (.string ⟨#[105, 114, 114, 101, 102, 108, 101, 120, 105, 118, 101]⟩)))], none⟩,
    ⟨(some 68), .call w7 [(.tmp 66), (.tmp 67)], none⟩,
    ⟨(some 62), .mv (.tmp 68), none⟩])
  (.cond (.tmp 62) (.ops [⟨(some 69), .off 0 (.tmp 3), none⟩,
    ⟨none, .store1 (.tmp 69) (.const (.string ⟨#[105, 114, 114, 101, 102, 108, 101, 120, 105, 118, 101]⟩)), none⟩]) (.seq (.ops [⟨(some 71), .mv (.tmp 0), none⟩,
    ⟨(some 72), .nilCheck (.tmp 71), none⟩,
    ⟨(some 73), .off 0 (.tmp 72), none⟩,
    ⟨(some 74), .load1 (.tmp 73), none⟩,
    ⟨(some 75), .mkRow [(.string ⟨#[]⟩)] 1 [(0, 1, (.const (.string ⟨#[101, 109, 112, 116, 121]⟩)))], none⟩,
    ⟨(some 76), .call w7 [(.tmp 74), (.tmp 75)], none⟩,
    ⟨(some 70), .mv (.tmp 76), none⟩])
  (.cond (.tmp 70) (.ops [⟨(some 77), .off 0 (.tmp 3), none⟩,
    ⟨none, .store1 (.tmp 77) (.const (.string ⟨#[101, 109, 112, 116, 121]⟩)), none⟩]) (.seq (.ops [⟨(some 5), .mv (.tmp 0), none⟩,
    ⟨(some 6), .call vy [(.tmp 5)], none⟩])
  (.seq (.ops [⟨(some 7), .load 4 (.tmp 3), none⟩,
    ⟨none, .store 4 (.tmp 2) (.tmp 7), none⟩])
  .ret)))))))))))
 (.seq (.ops [⟨(some 78), .mv (.tmp 0), none⟩,
   ⟨(some 79), .call xz [(.tmp 78)], none⟩,
   ⟨(some 80), .off 2 (.tmp 3), none⟩,
   ⟨none, .store1 (.tmp 80) (.tmp 79), none⟩])
 (.seq (.seq (.ops [⟨(some 81), .mv (.tmp 0), none⟩,
   ⟨(some 82), .call xw [(.tmp 81)], none⟩,
   ⟨(some 83), .mv (.tmp 82), none⟩,
   ⟨(some 84), .mv (.tmp 0), (some (83, true))⟩,
   ⟨(some 85), .nilCheck (.tmp 84), (some (83, true))⟩,
   ⟨(some 86), .off 0 (.tmp 85), (some (83, true))⟩,
   ⟨(some 87), .load1 (.tmp 86), (some (83, true))⟩,
   ⟨(some 88), .mkRow [(.string ⟨#[]⟩)] 1 [(0, 1, (.const (.string ⟨#[97, 115]⟩)))], (some (83, true))⟩,
   ⟨(some 89), .call w7 [(.tmp 87), (.tmp 88)], (some (83, true))⟩,
   ⟨(some 90), .pick (.tmp 83) (.tmp 89) (.const (.bool false)), none⟩])
 (.cond (.tmp 90) (.ops [⟨(some 92), .mv (.tmp 0), none⟩,
   ⟨(some 93), .call jl [(.tmp 92)], none⟩,
   ⟨(some 91), .mv (.tmp 93), none⟩,
   ⟨(some 94), .extract (.tmp 91) 0, none⟩,
   ⟨(some 95), .extract (.tmp 91) 1, none⟩,
   ⟨(some 96), .off 3 (.tmp 3), none⟩,
   ⟨none, .store1 (.tmp 96) (.tmp 94), none⟩]) .skip))
 (.seq (.ops [⟨(some 97), .load 4 (.tmp 3), none⟩,
   ⟨none, .store 4 (.tmp 2) (.tmp 97), none⟩])
 .ret))))))⟩
def qt : vt := ⟨138, [],
 (.seq (.ops [⟨(some 3), .box 4 (.tmp 1), none⟩])
 (.seq (.ops [⟨(some 13), .mkMap, none⟩,
   ⟨(some 4), .mv (.tmp 13), none⟩])
 (.seq (.seq (.ops [⟨(some 14), .off 1 (.tmp 3), none⟩,
   ⟨(some 15), .load1 (.tmp 14), none⟩,
   ⟨(some 16), .len (.tmp 15), none⟩,
   ⟨(some 17), .mv (.const (.int .i64 0)), none⟩])
 (.block 0 (.loop (.seq (.ops [⟨(some 18), .bin .lss (.tmp 17) (.tmp 16), none⟩])
   (.seq (.cond (.tmp 18) .skip (.exit 0))
   (.seq (.block 1 (.seq (.ops [⟨(some 19), .atRow 3 (.tmp 15) (.tmp 17), none⟩,
      ⟨(some 20), .load 3 (.tmp 19), none⟩,
      ⟨(some 6), .alloc [(.string ⟨#[]⟩), (.int .i64 0), (.pointer none)], none⟩,
      ⟨none, .store 3 (.tmp 6) (.tmp 20), none⟩])
    (.ops [⟨(some 21), .mv (.tmp 0), none⟩,
      ⟨(some 22), .load 3 (.tmp 6), none⟩,
      ⟨(some 23), .mv (.tmp 4), none⟩,
      ⟨(some 24), .call gv [(.tmp 21), (.tmp 22), (.tmp 23)], none⟩])))
   (.ops [⟨(some 25), .bin .add (.tmp 17) (.const (.int .i64 1)), none⟩,
     ⟨(some 17), .mv (.tmp 25), none⟩])))))))
 (.seq (.ops [⟨(some 26), .mv (.tmp 0), none⟩,
   ⟨(some 27), .nilCheck (.tmp 26), none⟩,
   ⟨(some 28), .off 2 (.tmp 27), none⟩,
   ⟨none, .store1 (.tmp 28) (.const (.map none)), none⟩])
 (.seq (.seq (.ops [⟨(some 29), .off 0 (.tmp 3), none⟩,
   ⟨(some 30), .load1 (.tmp 29), none⟩,
   ⟨(some 31), .bin .eql (.tmp 30) (.const (.string ⟨#[114, 101, 99]⟩)), none⟩])
 (.cond (.tmp 31) (.seq (.ops [⟨(some 32), .mv (.tmp 0), none⟩,
   ⟨(some 33), .mv (.tmp 4), none⟩,
   ⟨(some 34), .nilCheck (.tmp 32), none⟩,
   ⟨(some 35), .off 2 (.tmp 34), none⟩,
   ⟨none, .store1 (.tmp 35) (.tmp 33), none⟩])
 (.seq (.ops [⟨(some 36), .off 1 (.tmp 3), none⟩,
   ⟨(some 37), .load1 (.tmp 36), none⟩,
   ⟨(some 38), .len (.tmp 37), none⟩,
   ⟨(some 39), .mv (.const (.int .i64 0)), none⟩])
 (.block 2 (.loop (.seq (.ops [⟨(some 40), .bin .lss (.tmp 39) (.tmp 38), none⟩])
   (.seq (.cond (.tmp 40) .skip (.exit 2))
   (.seq (.block 3 (.seq (.ops [⟨(some 41), .atRow 3 (.tmp 37) (.tmp 39), none⟩,
      ⟨(some 42), .load 3 (.tmp 41), none⟩,
      ⟨(some 8), .alloc [(.string ⟨#[]⟩), (.int .i64 0), (.pointer none)], none⟩,
      ⟨none, .store 3 (.tmp 8) (.tmp 42), none⟩])
    (.seq (.ops [⟨(some 43), .mv (.tmp 0), none⟩,
      ⟨(some 44), .nilCheck (.tmp 43), none⟩,
      ⟨(some 45), .off 0 (.tmp 44), none⟩,
      ⟨(some 46), .load1 (.tmp 45), none⟩,
      ⟨(some 47), .call xw [(.tmp 46)], none⟩])
    (.cond (.tmp 47) (.ops [⟨(some 48), .mv (.tmp 0), none⟩,
      ⟨(some 49), .nilCheck (.tmp 48), none⟩,
      ⟨(some 50), .off 1 (.tmp 49), none⟩,
      ⟨(some 51), .load1 (.tmp 50), none⟩,
      ⟨(some 52), .off 0 (.tmp 8), none⟩,
      ⟨(some 53), .load1 (.tmp 52), none⟩,
      ⟨none, .update .str (.tmp 51) (.tmp 53) (.const (.bool false)), none⟩]) .skip))))
   (.ops [⟨(some 54), .bin .add (.tmp 39) (.const (.int .i64 1)), none⟩,
     ⟨(some 39), .mv (.tmp 54), none⟩])))))))) .skip))
 (.seq (.seq (.ops [⟨(some 55), .off 1 (.tmp 3), none⟩,
   ⟨(some 56), .load1 (.tmp 55), none⟩,
   ⟨(some 57), .len (.tmp 56), none⟩,
   ⟨(some 58), .mv (.const (.int .i64 0)), none⟩])
 (.block 4 (.loop (.seq (.ops [⟨(some 59), .bin .lss (.tmp 58) (.tmp 57), none⟩])
   (.seq (.cond (.tmp 59) .skip (.exit 4))
   (.seq (.block 5 (.seq (.ops [⟨(some 60), .atRow 3 (.tmp 56) (.tmp 58), none⟩,
      ⟨(some 61), .load 3 (.tmp 60), none⟩,
      ⟨(some 10), .alloc [(.string ⟨#[]⟩), (.int .i64 0), (.pointer none)], none⟩,
      ⟨none, .store 3 (.tmp 10) (.tmp 61), none⟩])
    (.seq (.ops [⟨(some 62), .mv (.tmp 0), none⟩,
      ⟨(some 63), .off 2 (.tmp 10), none⟩,
      ⟨(some 64), .load1 (.tmp 63), none⟩,
      ⟨(some 65), .call xn [(.tmp 62), (.tmp 64), (.const (.bool false))], none⟩])
    (.seq (.ops [⟨(some 66), .off 0 (.tmp 3), none⟩,
      ⟨(some 67), .load1 (.tmp 66), none⟩,
      ⟨(some 68), .bin .eql (.tmp 67) (.const (.string ⟨#[114, 101, 99]⟩)), none⟩,
      ⟨(some 69), .mv (.tmp 68), none⟩,
      ⟨(some 70), .off 2 (.tmp 10), (some (69, true))⟩,
      ⟨(some 71), .load1 (.tmp 70), (some (69, true))⟩,
      ⟨(some 72), .nilCheck (.tmp 71), (some (69, true))⟩,
      ⟨(some 73), .off 5 (.tmp 72), (some (69, true))⟩,
      ⟨(some 74), .load1 (.tmp 73), (some (69, true))⟩,
      ⟨(some 75), .pick (.tmp 69) (.tmp 74) (.const (.bool false)), none⟩])
    (.cond (.tmp 75) (.ops [⟨(some 76), .mv (.tmp 0), none⟩,
      ⟨(some 77), .nilCheck (.tmp 76), none⟩,
      ⟨(some 78), .off 0 (.tmp 77), none⟩,
      ⟨(some 79), .load1 (.tmp 78), none⟩,
      ⟨(some 80), .off 2 (.tmp 10), none⟩,
      ⟨(some 81), .load1 (.tmp 80), none⟩,
      ⟨(some 82), .nilCheck (.tmp 81), none⟩,
      ⟨(some 83), .off 2 (.tmp 82), none⟩,
      ⟨(some 84), .load1 (.tmp 83), none⟩,
      ⟨(some 85), .call x8 [(.tmp 79), (.const (.int .i64 41)), (.tmp 84)], none⟩]) .skip)))))
   (.ops [⟨(some 86), .bin .add (.tmp 58) (.const (.int .i64 1)), none⟩,
     ⟨(some 58), .mv (.tmp 86), none⟩])))))))
 (.seq (.seq (.ops [⟨(some 87), .off 1 (.tmp 3), none⟩,
   ⟨(some 88), .load1 (.tmp 87), none⟩,
   ⟨(some 89), .len (.tmp 88), none⟩,
   ⟨(some 90), .mv (.const (.int .i64 0)), none⟩])
 (.block 6 (.loop (.seq (.ops [⟨(some 91), .bin .lss (.tmp 90) (.tmp 89), none⟩])
   (.seq (.cond (.tmp 91) .skip (.exit 6))
   (.seq (.block 7 (.seq (.ops [⟨(some 92), .atRow 3 (.tmp 88) (.tmp 90), none⟩,
      ⟨(some 93), .load 3 (.tmp 92), none⟩,
      ⟨(some 12), .alloc [(.string ⟨#[]⟩), (.int .i64 0), (.pointer none)], none⟩,
      ⟨none, .store 3 (.tmp 12) (.tmp 93), none⟩])
    (.seq (.ops [⟨(some 94), .mv (.tmp 0), none⟩,
      ⟨(some 95), .nilCheck (.tmp 94), none⟩,
      ⟨(some 96), .off 0 (.tmp 95), none⟩,
      ⟨(some 97), .load1 (.tmp 96), none⟩,
      ⟨(some 98), .call xw [(.tmp 97)], none⟩])
    (.cond (.tmp 98) (.ops [⟨(some 99), .mv (.tmp 0), none⟩,
      ⟨(some 100), .nilCheck (.tmp 99), none⟩,
      ⟨(some 101), .off 1 (.tmp 100), none⟩,
      ⟨(some 102), .load1 (.tmp 101), none⟩,
      ⟨(some 103), .off 0 (.tmp 12), none⟩,
      ⟨(some 104), .load1 (.tmp 103), none⟩,
      ⟨(some 105), .off 2 (.tmp 12), none⟩,
      ⟨(some 106), .load1 (.tmp 105), none⟩,
      ⟨(some 107), .nilCheck (.tmp 106), none⟩,
      ⟨(some 108), .off 5 (.tmp 107), none⟩,
      ⟨(some 109), .load1 (.tmp 108), none⟩,
      ⟨none, .update .str (.tmp 102) (.tmp 104) (.tmp 109), none⟩]) .skip))))
   (.ops [⟨(some 110), .bin .add (.tmp 90) (.const (.int .i64 1)), none⟩,
     ⟨(some 90), .mv (.tmp 110), none⟩])))))))
 (.seq (.ops [⟨(some 111), .off 2 (.tmp 3), none⟩,
   ⟨(some 112), .load1 (.tmp 111), none⟩,
   ⟨(some 113), .eqv true .ptr (.tmp 112) (.const (.pointer none)), none⟩])
 (.cond (.tmp 113) (.seq (.ops [⟨(some 114), .mv (.tmp 0), none⟩,
   ⟨(some 115), .off 2 (.tmp 3), none⟩,
   ⟨(some 116), .load1 (.tmp 115), none⟩,
   ⟨(some 117), .call xn [(.tmp 114), (.tmp 116), (.const (.bool false))], none⟩])
 (.seq (.ops [⟨(some 118), .off 0 (.tmp 3), none⟩,
   ⟨(some 119), .load1 (.tmp 118), none⟩,
   ⟨(some 120), .bin .neq (.tmp 119) (.const (.string ⟨#[101, 109, 112, 116, 121]⟩)), none⟩,
   ⟨(some 121), .mv (.tmp 120), none⟩,
   ⟨(some 122), .off 2 (.tmp 3), (some (121, true))⟩,
   ⟨(some 123), .load1 (.tmp 122), (some (121, true))⟩,
   ⟨(some 124), .nilCheck (.tmp 123), (some (121, true))⟩,
   ⟨(some 125), .off 5 (.tmp 124), (some (121, true))⟩,
   ⟨(some 126), .load1 (.tmp 125), (some (121, true))⟩,
   ⟨(some 127), .pick (.tmp 121) (.tmp 126) (.const (.bool false)), none⟩])
 (.cond (.tmp 127) (.ops [⟨(some 128), .mv (.tmp 0), none⟩,
   ⟨(some 129), .nilCheck (.tmp 128), none⟩,
   ⟨(some 130), .off 0 (.tmp 129), none⟩,
   ⟨(some 131), .load1 (.tmp 130), none⟩,
   ⟨(some 132), .off 2 (.tmp 3), none⟩,
   ⟨(some 133), .load1 (.tmp 132), none⟩,
   ⟨(some 134), .nilCheck (.tmp 133), none⟩,
   ⟨(some 135), .off 2 (.tmp 134), none⟩,
   ⟨(some 136), .load1 (.tmp 135), none⟩,
   ⟨(some 137), .call x8 [(.tmp 131), (.const (.int .i64 41)), (.tmp 136)], none⟩]) .skip))) .skip)))))))))⟩
def zd8 : vt := ⟨60, [.tmp 6],
 (.seq (.ops [⟨(some 6), .mv (.const (.pointer none)), none⟩])
 (.seq (.ops [⟨(some 12), .mv (.tmp 1), none⟩,
   ⟨(some 13), .mkMap, none⟩,
   ⟨(some 14), .build [(.int .u32 0), (.map none)] [(0, 1, (.tmp 12)), (1, 1, (.tmp 13))], none⟩,
   ⟨(some 15), .box 2 (.tmp 14), none⟩,
   ⟨(some 7), .mv (.tmp 15), none⟩])
 (.seq (.seq (.ops [⟨(some 16), .mv (.tmp 0), none⟩,
   ⟨(some 17), .nilCheck (.tmp 16), none⟩,
   ⟨(some 18), .off 0 (.tmp 17), none⟩,
   ⟨(some 19), .load1 (.tmp 18), none⟩,
   ⟨(some 20), .len (.tmp 19), none⟩,
   ⟨(some 21), .mv (.const (.int .i64 0)), none⟩])
 (.block 0 (.loop (.seq (.ops [⟨(some 22), .bin .lss (.tmp 21) (.tmp 20), none⟩])
   (.seq (.cond (.tmp 22) .skip (.exit 0))
   (.seq (.block 1 (.seq (.ops [⟨(some 23), .atRow 2 (.tmp 19) (.tmp 21), none⟩,
      ⟨(some 24), .load 2 (.tmp 23), none⟩,
      ⟨(some 9), .alloc [(.string ⟨#[]⟩), (.bool false)], none⟩,
      ⟨none, .store 2 (.tmp 9) (.tmp 24), none⟩])
    (.seq (.ops [⟨(some 25), .off 0 (.tmp 9), none⟩,
      ⟨(some 26), .load1 (.tmp 25), none⟩,
      ⟨(some 27), .off 1 (.tmp 9), none⟩,
      ⟨(some 28), .load1 (.tmp 27), none⟩,
      ⟨(some 29), .build ([(.string ⟨#[]⟩)] ++ [(.bool false)] ++ List.replicate 33 (.int .u32 0)) [(0, 1, (.tmp 26)), (1, 1, (.tmp 28))], none⟩,
      ⟨(some 10), .alloc ([(.string ⟨#[]⟩)] ++ [(.bool false)] ++ List.replicate 33 (.int .u32 0)), none⟩,
      ⟨none, .store 35 (.tmp 10) (.tmp 29), none⟩])
    (.seq (.ops [⟨(some 30), .mv (.tmp 2), none⟩,
      ⟨(some 31), .func gn [] [(.tmp 9)], none⟩,
      ⟨(some 32), .call qe [(.tmp 30), (.tmp 31)], none⟩,
      ⟨(some 11), .mv (.tmp 32), none⟩])
    (.seq (.block 2 (.seq (.ops [⟨(some 40), .mv (.tmp 11), none⟩,
       ⟨(some 41), .bin .lss (.tmp 40) (.const (.int .i64 0)), none⟩,
       ⟨(some 39), .mv (.tmp 41), none⟩])
     (.cond (.tmp 39) .skip (.seq (.ops [⟨(some 43), .off 1 (.tmp 9), none⟩,
       ⟨(some 44), .load1 (.tmp 43), none⟩,
       ⟨(some 42), .mv (.tmp 44), none⟩])
     (.cond (.tmp 42) (.ops [⟨(some 45), .mv (.tmp 2), none⟩,
       ⟨(some 46), .mv (.tmp 11), none⟩,
       ⟨(some 47), .atRow 35 (.tmp 45) (.tmp 46), none⟩,
       ⟨(some 48), .off 2 (.tmp 47), none⟩,
       ⟨(some 49), .load1 (.tmp 48), none⟩,
       ⟨(some 50), .off 2 (.tmp 10), none⟩,
       ⟨none, .store1 (.tmp 50) (.tmp 49), none⟩]) (.ops [⟨(some 33), .mv (.tmp 2), none⟩,
       ⟨(some 34), .mv (.tmp 11), none⟩,
       ⟨(some 35), .atRow 35 (.tmp 33) (.tmp 34), none⟩,
       ⟨(some 36), .off 3 (.tmp 35), none⟩,
       ⟨(some 37), .load 32 (.tmp 36), none⟩,
       ⟨(some 38), .off 3 (.tmp 10), none⟩,
       ⟨none, .store 32 (.tmp 38) (.tmp 37), none⟩]))))))
    (.ops [⟨(some 51), .mv (.tmp 7), none⟩,
      ⟨(some 52), .nilCheck (.tmp 51), none⟩,
      ⟨(some 53), .off 1 (.tmp 52), none⟩,
      ⟨(some 54), .load1 (.tmp 53), none⟩,
      ⟨(some 55), .off 0 (.tmp 9), none⟩,
      ⟨(some 56), .load1 (.tmp 55), none⟩,
      ⟨(some 57), .load 35 (.tmp 10), none⟩,
      ⟨none, .update .str (.tmp 54) (.tmp 56) (.tmp 57), none⟩]))))))
   (.ops [⟨(some 58), .bin .add (.tmp 21) (.const (.int .i64 1)), none⟩,
     ⟨(some 21), .mv (.tmp 58), none⟩])))))))
 (.seq (.ops [⟨(some 59), .mv (.tmp 7), none⟩,
   ⟨(some 6), .mv (.tmp 59), none⟩])
 .ret))))⟩
def k7 : vt := ⟨117, [.tmp 4],
 (.seq (.ops [⟨(some 3), .box 4 (.tmp 1), none⟩,
   ⟨(some 4), .mv (.const (.bool false)), none⟩])
 (.seq (.seq (.ops [⟨(some 16), .off 0 (.tmp 3), none⟩,
   ⟨(some 17), .load1 (.tmp 16), none⟩])
 (.block 0 (.seq (.ops [⟨(some 19), .bin .eql (.tmp 17) (.const (.string ⟨#[108, 101, 116]⟩)), none⟩,
    ⟨(some 18), .mv (.tmp 19), none⟩])
  (.cond (.tmp 18) (.seq (.ops [⟨(some 5), .mv (.const (.slice none 0 0)), none⟩])
  (.seq (.seq (.ops [⟨(some 20), .off 1 (.tmp 3), none⟩,
    ⟨(some 21), .load1 (.tmp 20), none⟩,
    ⟨(some 22), .len (.tmp 21), none⟩,
    ⟨(some 23), .mv (.const (.int .i64 0)), none⟩])
  (.block 1 (.loop (.seq (.ops [⟨(some 24), .bin .lss (.tmp 23) (.tmp 22), none⟩])
    (.seq (.cond (.tmp 24) .skip (.exit 1))
    (.seq (.block 2 (.seq (.ops [⟨(some 25), .atRow 3 (.tmp 21) (.tmp 23), none⟩,
       ⟨(some 26), .load 3 (.tmp 25), none⟩,
       ⟨(some 7), .alloc [(.string ⟨#[]⟩), (.int .i64 0), (.pointer none)], none⟩,
       ⟨none, .store 3 (.tmp 7) (.tmp 26), none⟩])
     (.ops [⟨(some 27), .mv (.tmp 5), none⟩,
       ⟨(some 28), .mv (.tmp 0), none⟩,
       ⟨(some 29), .off 2 (.tmp 7), none⟩,
       ⟨(some 30), .load1 (.tmp 29), none⟩,
       ⟨(some 31), .call vr [(.tmp 28), (.tmp 30)], none⟩,
       ⟨(some 32), .mkRow ([(.string ⟨#[]⟩)] ++ [(.bool false)] ++ List.replicate 33 (.int .u32 0)) 1 [(0, 35, (.tmp 31))], none⟩,
       ⟨(some 33), .append 35 152 (.tmp 27) (.tmp 32), none⟩,
       ⟨(some 5), .mv (.tmp 33), none⟩])))
    (.ops [⟨(some 34), .bin .add (.tmp 23) (.const (.int .i64 1)), none⟩,
      ⟨(some 23), .mv (.tmp 34), none⟩])))))))
  (.seq (.ops [⟨(some 35), .off 1 (.tmp 3), none⟩,
    ⟨(some 36), .load1 (.tmp 35), none⟩,
    ⟨(some 37), .len (.tmp 36), none⟩,
    ⟨(some 38), .mv (.const (.int .i64 0)), none⟩])
  (.block 3 (.loop (.seq (.ops [⟨(some 39), .bin .lss (.tmp 38) (.tmp 37), none⟩])
    (.seq (.cond (.tmp 39) .skip (.exit 3))
    (.seq (.block 4 (.seq (.ops [⟨(some 40), .mv (.tmp 38), none⟩,
       ⟨(some 41), .atRow 3 (.tmp 36) (.tmp 38), none⟩,
       ⟨(some 42), .load 3 (.tmp 41), none⟩,
       ⟨(some 9), .alloc [(.string ⟨#[]⟩), (.int .i64 0), (.pointer none)], none⟩,
       ⟨(some 8), .mv (.tmp 40), none⟩,
       ⟨none, .store 3 (.tmp 9) (.tmp 42), none⟩])
     (.ops [⟨(some 43), .mv (.tmp 0), none⟩,
       ⟨(some 44), .off 0 (.tmp 9), none⟩,
       ⟨(some 45), .load1 (.tmp 44), none⟩,
       ⟨(some 46), .mv (.tmp 5), none⟩,
       ⟨(some 47), .mv (.tmp 8), none⟩,
       ⟨(some 48), .atRow 35 (.tmp 46) (.tmp 47), none⟩,
       ⟨(some 49), .load 35 (.tmp 48), none⟩,
       ⟨(some 50), .call jt [(.tmp 43), (.tmp 45), (.tmp 49)], none⟩])))
    (.ops [⟨(some 51), .bin .add (.tmp 38) (.const (.int .i64 1)), none⟩,
      ⟨(some 38), .mv (.tmp 51), none⟩]))))))))) (.seq (.ops [⟨(some 53), .bin .eql (.tmp 17) (.const (.string ⟨#[114, 101, 99]⟩)), none⟩,
    ⟨(some 52), .mv (.tmp 53), none⟩])
  (.cond (.tmp 52) (.seq (.seq (.ops [⟨(some 54), .off 1 (.tmp 3), none⟩,
    ⟨(some 55), .load1 (.tmp 54), none⟩,
    ⟨(some 56), .len (.tmp 55), none⟩,
    ⟨(some 57), .mv (.const (.int .i64 0)), none⟩])
  (.block 5 (.loop (.seq (.ops [⟨(some 58), .bin .lss (.tmp 57) (.tmp 56), none⟩])
    (.seq (.cond (.tmp 58) .skip (.exit 5))
    (.seq (.block 6 (.seq (.ops [⟨(some 59), .atRow 3 (.tmp 55) (.tmp 57), none⟩,
       ⟨(some 60), .load 3 (.tmp 59), none⟩,
       ⟨(some 11), .alloc [(.string ⟨#[]⟩), (.int .i64 0), (.pointer none)], none⟩,
       ⟨none, .store 3 (.tmp 11) (.tmp 60), none⟩])
     (.ops [⟨(some 61), .mv (.tmp 0), none⟩,
       ⟨(some 62), .off 0 (.tmp 11), none⟩,
       ⟨(some 63), .load1 (.tmp 62), none⟩,
       ⟨(some 64), .build ([(.string ⟨#[]⟩)] ++ [(.bool false)] ++ List.replicate 33 (.int .u32 0)) [], none⟩,
       ⟨(some 65), .call jt [(.tmp 61), (.tmp 63), (.tmp 64)], none⟩])))
    (.ops [⟨(some 66), .bin .add (.tmp 57) (.const (.int .i64 1)), none⟩,
      ⟨(some 57), .mv (.tmp 66), none⟩])))))))
  (.seq (.ops [⟨(some 12), .mv (.const (.bool true)), none⟩])
  (.block 7 (.loop (.seq (.seq (.ops [⟨(some 67), .mv (.tmp 12), none⟩])
    (.cond (.tmp 67) .skip (.exit 7)))
    (.block 8 (.seq (.ops [⟨(some 12), .mv (.const (.bool false)), none⟩])
     (.seq (.ops [⟨(some 68), .off 1 (.tmp 3), none⟩,
       ⟨(some 69), .load1 (.tmp 68), none⟩,
       ⟨(some 70), .len (.tmp 69), none⟩,
       ⟨(some 71), .mv (.const (.int .i64 0)), none⟩])
     (.block 9 (.loop (.seq (.ops [⟨(some 72), .bin .lss (.tmp 71) (.tmp 70), none⟩])
       (.seq (.cond (.tmp 72) .skip (.exit 9))
       (.seq (.block 10 (.seq (.ops [⟨(some 73), .atRow 3 (.tmp 69) (.tmp 71), none⟩,
          ⟨(some 74), .load 3 (.tmp 73), none⟩,
          ⟨(some 14), .alloc [(.string ⟨#[]⟩), (.int .i64 0), (.pointer none)], none⟩,
          ⟨none, .store 3 (.tmp 14) (.tmp 74), none⟩])
        (.ops [⟨(some 75), .mv (.tmp 0), none⟩,
          ⟨(some 76), .off 0 (.tmp 14), none⟩,
          ⟨(some 77), .load1 (.tmp 76), none⟩,
          ⟨(some 78), .mv (.tmp 0), none⟩,
          ⟨(some 79), .off 2 (.tmp 14), none⟩,
          ⟨(some 80), .load1 (.tmp 79), none⟩,
          ⟨(some 81), .call vr [(.tmp 78), (.tmp 80)], none⟩,
          ⟨none, .again1 (.tmp 76) 77, none⟩,
          ⟨(some 82), .call jt [(.tmp 75), (.tmp 77), (.tmp 81)], none⟩,
          ⟨(some 83), .mv (.tmp 82), none⟩,
          ⟨(some 84), .mv (.tmp 12), (some (83, false))⟩,
          ⟨(some 85), .pick (.tmp 83) (.const (.bool true)) (.tmp 84), none⟩,
          ⟨(some 12), .mv (.tmp 85), none⟩])))
       (.ops [⟨(some 86), .bin .add (.tmp 71) (.const (.int .i64 1)), none⟩,
         ⟨(some 71), .mv (.tmp 86), none⟩])))))))))))))) (.seq (.ops [⟨(some 88), .bin .eql (.tmp 17) (.const (.string ⟨#[97, 99, 121, 99, 108, 105, 99]⟩)), none⟩,
    ⟨(some 87), .mv (.tmp 88), none⟩])
  (.cond (.tmp 87) (.seq (.ops [⟨(some 89), .mv (.tmp 0), none⟩,
    ⟨(some 90), .off 2 (.tmp 3), none⟩,
    ⟨(some 91), .load1 (.tmp 90), none⟩,
    ⟨(some 92), .call vr [(.tmp 89), (.tmp 91)], none⟩,
    ⟨(some 93), .field 32 3 (.tmp 92), none⟩,
    ⟨(some 94), .call zev [(.tmp 93)], none⟩,
    ⟨(some 4), .mv (.tmp 94), none⟩])
  .ret) (.seq (.ops [⟨(some 96), .bin .eql (.tmp 17) (.const (.string ⟨#[105, 114, 114, 101, 102, 108, 101, 120, 105, 118, 101]⟩)), none⟩,
    ⟨(some 95), .mv (.tmp 96), none⟩])
  (.cond (.tmp 95) (.seq (.ops [⟨(some 97), .mv (.tmp 0), none⟩,
    ⟨(some 98), .off 2 (.tmp 3), none⟩,
    ⟨(some 99), .load1 (.tmp 98), none⟩,
    ⟨(some 100), .call vr [(.tmp 97), (.tmp 99)], none⟩,
    ⟨(some 101), .field 32 3 (.tmp 100), none⟩,
    ⟨(some 102), .call pd [(.tmp 101)], none⟩,
    ⟨(some 4), .mv (.tmp 102), none⟩])
  .ret) (.seq (.ops [⟨(some 104), .bin .eql (.tmp 17) (.const (.string ⟨#[101, 109, 112, 116, 121]⟩)), none⟩,
    ⟨(some 103), .mv (.tmp 104), none⟩])
  (.cond (.tmp 103) (.seq (.ops [⟨(some 105), .mv (.tmp 0), none⟩,
    ⟨(some 106), .off 2 (.tmp 3), none⟩,
    ⟨(some 107), .load1 (.tmp 106), none⟩,
    ⟨(some 108), .call vr [(.tmp 105), (.tmp 107)], none⟩,
    ⟨(some 15), .alloc ([(.string ⟨#[]⟩)] ++ [(.bool false)] ++ List.replicate 33 (.int .u32 0)), none⟩,
    ⟨none, .store 35 (.tmp 15) (.tmp 108), none⟩])
  (.seq (.ops [⟨(some 109), .off 2 (.tmp 15), none⟩,
    ⟨(some 110), .load1 (.tmp 109), none⟩,
    ⟨(some 111), .bin .eql (.tmp 110) (.const (.int .u32 0)), none⟩,
    ⟨(some 112), .mv (.tmp 111), none⟩,
    ⟨(some 113), .off 3 (.tmp 15), (some (112, true))⟩,
    ⟨(some 114), .load 32 (.tmp 113), (some (112, true))⟩,
    ⟨(some 115), .call zfc [(.tmp 114)], (some (112, true))⟩,
    ⟨(some 116), .pick (.tmp 112) (.tmp 115) (.const (.bool false)), none⟩,
    ⟨(some 4), .mv (.tmp 116), none⟩])
  .ret)) .skip))))))))))))
 (.seq (.ops [⟨(some 4), .mv (.const (.bool true)), none⟩])
 .ret)))⟩
def zre : vt := ⟨10, [.tmp 4],
 (.seq (.ops [⟨(some 4), .mv (.const (.bool false)), none⟩])
 (.seq (.ops [⟨(some 5), .mv (.tmp 0), none⟩,
   ⟨(some 6), .mv (.tmp 1), none⟩,
   ⟨(some 7), .bin .shr (.tmp 5) (.tmp 6), none⟩,
   ⟨(some 8), .bin .and (.tmp 7) (.const (.int .u32 1)), none⟩,
   ⟨(some 9), .bin .eql (.tmp 8) (.const (.int .u32 1)), none⟩,
   ⟨(some 4), .mv (.tmp 9), none⟩])
 .ret))⟩
def zn3 : vt := ⟨20, [.tmp 4],
 (.seq (.ops [⟨(some 3), .box 32 (.tmp 1), none⟩,
   ⟨(some 4), .mv (.const (.int .u32 0)), none⟩])
 (.seq (.ops [⟨(some 5), .mv (.const (.int .u32 0)), none⟩])
 (.seq (.seq (.ops [⟨(some 7), .mv (.const (.int .i64 0)), none⟩])
 (.block 0 (.loop (.seq (.ops [⟨(some 8), .bin .lss (.tmp 7) (.const (.int .i64 32)), none⟩])
   (.seq (.cond (.tmp 8) .skip (.exit 0))
   (.seq (.block 1 (.seq (.ops [⟨(some 9), .mv (.tmp 7), none⟩,
      ⟨(some 6), .mv (.tmp 9), none⟩])
    (.seq (.ops [⟨(some 10), .mv (.tmp 0), none⟩,
      ⟨(some 11), .mv (.tmp 6), none⟩,
      ⟨(some 12), .call zc8 [(.tmp 10), (.tmp 11)], none⟩])
    (.cond (.tmp 12) (.ops [⟨(some 13), .mv (.tmp 5), none⟩,
      ⟨(some 14), .mv (.tmp 6), none⟩,
      ⟨(some 15), .atArr 32 1 (.tmp 3) (.tmp 14), none⟩,
      ⟨(some 16), .load1 (.tmp 15), none⟩,
      ⟨(some 17), .bin .or (.tmp 13) (.tmp 16), none⟩,
      ⟨(some 5), .mv (.tmp 17), none⟩]) .skip))))
   (.ops [⟨(some 18), .bin .add (.tmp 7) (.const (.int .i64 1)), none⟩,
     ⟨(some 7), .mv (.tmp 18), none⟩])))))))
 (.seq (.ops [⟨(some 19), .mv (.tmp 5), none⟩,
   ⟨(some 4), .mv (.tmp 19), none⟩])
 .ret))))⟩
def zcu : vt := ⟨8, [.tmp 4],
 (.seq (.ops [⟨(some 4), .mv (.const (.bool false)), none⟩])
 (.seq (.ops [⟨(some 5), .mv (.tmp 0), none⟩,
   ⟨(some 6), .mv (.tmp 1), none⟩,
   ⟨(some 7), .call v8 [(.tmp 5), (.tmp 6)], none⟩,
   ⟨(some 4), .mv (.tmp 7), none⟩])
 .ret))⟩
def zfp : vt := ⟨8, [.tmp 4],
 (.seq (.ops [⟨(some 4), .mv (.const (.int .i64 0)), none⟩])
 (.seq (.ops [⟨(some 5), .mv (.tmp 0), none⟩,
   ⟨(some 6), .mv (.tmp 1), none⟩,
   ⟨(some 7), .call bt [(.tmp 5), (.tmp 6)], none⟩,
   ⟨(some 4), .mv (.tmp 7), none⟩])
 .ret))⟩
def zj7 : vt := ⟨9, [.tmp 2],
 (.seq (.ops [⟨(some 2), .mv (.const (.bool false)), none⟩])
 (.seq (.ops [⟨(some 3), .mv (.tmp 0), none⟩,
   ⟨(some 4), .bin .geq (.tmp 3) (.const (.int .u8 48)), none⟩,
   ⟨(some 5), .mv (.tmp 4), none⟩,
   ⟨(some 6), .mv (.tmp 0), (some (5, true))⟩,
   ⟨(some 7), .bin .leq (.tmp 6) (.const (.int .u8 57)), (some (5, true))⟩,
   ⟨(some 8), .pick (.tmp 5) (.tmp 7) (.const (.bool false)), none⟩,
   ⟨(some 2), .mv (.tmp 8), none⟩])
 .ret))⟩
def zn6 : vt := ⟨20, [.tmp 4],
 (.seq (.ops [⟨(some 4), .mv (.const (.int .i64 0)), none⟩])
 (.seq (.ops [⟨(some 5), .mv (.const (.int .i64 0)), none⟩])
 (.seq (.block 0 (.loop (.seq (.seq (.ops [⟨(some 6), .mv (.tmp 5), none⟩,
     ⟨(some 7), .mv (.tmp 0), none⟩,
     ⟨(some 8), .lenStr (.tmp 7), none⟩,
     ⟨(some 9), .bin .lss (.tmp 6) (.tmp 8), none⟩,
     ⟨(some 10), .mv (.tmp 9), none⟩,
     ⟨(some 11), .mv (.tmp 1), (some (10, true))⟩,
     ⟨(some 12), .mv (.tmp 0), (some (10, true))⟩,
     ⟨(some 13), .mv (.tmp 5), (some (10, true))⟩,
     ⟨(some 14), .idxStr (.tmp 12) (.tmp 13), (some (10, true))⟩,
     ⟨(some 15), .callv (.tmp 11) [(.tmp 14)], (some (10, true))⟩,
     ⟨(some 16), .pick (.tmp 10) (.tmp 15) (.const (.bool false)), none⟩])
   (.cond (.tmp 16) .skip (.exit 0)))
   (.block 1 (.ops [⟨(some 17), .mv (.tmp 5), none⟩,
      ⟨(some 18), .bin .add (.tmp 17) (.const (.int .i64 1)), none⟩,
      ⟨(some 5), .mv (.tmp 18), none⟩])))))
 (.seq (.ops [⟨(some 19), .mv (.tmp 5), none⟩,
   ⟨(some 4), .mv (.tmp 19), none⟩])
 .ret))))⟩
def zfo : vt := ⟨9, [.tmp 2],
 (.seq (.ops [⟨(some 2), .mv (.const (.bool false)), none⟩])
 (.seq (.ops [⟨(some 3), .mv (.tmp 0), none⟩,
   ⟨(some 4), .call zay [(.tmp 3)], none⟩,
   ⟨(some 5), .mv (.tmp 4), none⟩,
   ⟨(some 6), .mv (.tmp 0), (some (5, false))⟩,
   ⟨(some 7), .call zbr [(.tmp 6)], (some (5, false))⟩,
   ⟨(some 8), .pick (.tmp 5) (.const (.bool true)) (.tmp 7), none⟩,
   ⟨(some 2), .mv (.tmp 8), none⟩])
 .ret))⟩
def ziv : vt := ⟨17, [.tmp 2],
 (.seq (.ops [⟨(some 2), .mv (.const (.bool false)), none⟩])
 (.seq (.ops [⟨(some 3), .mv (.tmp 0), none⟩,
   ⟨(some 4), .bin .geq (.tmp 3) (.const (.int .u8 97)), none⟩,
   ⟨(some 5), .mv (.tmp 4), none⟩,
   ⟨(some 6), .mv (.tmp 0), (some (5, true))⟩,
   ⟨(some 7), .bin .leq (.tmp 6) (.const (.int .u8 122)), (some (5, true))⟩,
   ⟨(some 8), .pick (.tmp 5) (.tmp 7) (.const (.bool false)), none⟩,
   ⟨(some 9), .mv (.tmp 8), none⟩,
   ⟨(some 10), .mv (.tmp 0), (some (9, false))⟩,
   ⟨(some 11), .bin .geq (.tmp 10) (.const (.int .u8 65)), (some (9, false))⟩,
   ⟨(some 12), .mv (.tmp 11), (some (9, false))⟩,
   ⟨(some 13), .mv (.tmp 0), (some (12, true))⟩,
   ⟨(some 14), .bin .leq (.tmp 13) (.const (.int .u8 90)), (some (12, true))⟩,
   ⟨(some 15), .pick (.tmp 12) (.tmp 14) (.const (.bool false)), (some (9, false))⟩,
   ⟨(some 16), .pick (.tmp 9) (.const (.bool true)) (.tmp 15), none⟩,
   ⟨(some 2), .mv (.tmp 16), none⟩])
 .ret))⟩
def jk : vt := ⟨41, [.tmp 2, .tmp 3],
 (.seq (.ops [⟨(some 2), .mv (.const (.int .i64 0)), none⟩,
   ⟨(some 3), .mv (.const (.bool false)), none⟩])
 (.seq (.ops [⟨(some 4), .mv (.const (.int .i64 10)), none⟩,
   ⟨(some 5), .mv (.const (.int .i64 19)), none⟩])
 (.seq (.ops [⟨(some 11), .mv (.tmp 0), none⟩,
   ⟨(some 6), .mv (.tmp 11), none⟩])
 (.seq (.seq (.ops [⟨(some 13), .mv (.tmp 0), none⟩,
   ⟨(some 14), .call zah [(.tmp 13), (.const (.string ⟨#[48, 120]⟩))], none⟩,
   ⟨(some 12), .mv (.tmp 14), none⟩,
   ⟨(some 15), .extract (.tmp 12) 0, none⟩,
   ⟨(some 16), .extract (.tmp 12) 1, none⟩,
   ⟨(some 7), .mv (.tmp 15), none⟩,
   ⟨(some 8), .mv (.tmp 16), none⟩])
 (.seq (.ops [⟨(some 17), .mv (.tmp 8), none⟩])
 (.cond (.tmp 17) (.ops [⟨(some 18), .mv (.tmp 7), none⟩,
   ⟨(some 4), .mv (.const (.int .i64 16)), none⟩,
   ⟨(some 5), .mv (.const (.int .i64 16)), none⟩,
   ⟨(some 6), .mv (.tmp 18), none⟩]) .skip)))
 (.seq (.seq (.ops [⟨(some 19), .mv (.tmp 6), none⟩,
   ⟨(some 20), .lenStr (.tmp 19), none⟩,
   ⟨(some 21), .mv (.tmp 5), none⟩,
   ⟨(some 22), .bin .gtr (.tmp 20) (.tmp 21), none⟩,
   ⟨(some 23), .mv (.tmp 22), none⟩,
   ⟨(some 24), .mv (.tmp 6), (some (23, false))⟩,
   ⟨(some 25), .call za4 [(.tmp 24), (.const (.string ⟨#[95]⟩))], (some (23, false))⟩,
   ⟨(some 26), .pick (.tmp 23) (.const (.bool true)) (.tmp 25), none⟩])
 (.cond (.tmp 26) (.seq (.ops [⟨(some 2), .mv (.const (.int .i64 0)), none⟩,
   ⟨(some 3), .mv (.const (.bool false)), none⟩])
 .ret) .skip))
 (.seq (.ops [⟨(some 28), .mv (.tmp 6), none⟩,
   ⟨(some 29), .mv (.tmp 4), none⟩,
   ⟨(some 30), .call zc1 [(.tmp 28), (.tmp 29), (.const (.int .i64 64))], none⟩,
   ⟨(some 27), .mv (.tmp 30), none⟩,
   ⟨(some 31), .extract (.tmp 27) 0, none⟩,
   ⟨(some 32), .extract (.tmp 27) 1, none⟩,
   ⟨(some 9), .mv (.tmp 31), none⟩,
   ⟨(some 10), .mv (.tmp 32), none⟩])
 (.seq (.ops [⟨(some 33), .mv (.tmp 9), none⟩,
   ⟨(some 34), .conv .i64 (.tmp 33), none⟩,
   ⟨(some 35), .mv (.tmp 10), none⟩,
   ⟨(some 36), .eqv false .iface (.tmp 35) (.const .nilIface), none⟩,
   ⟨(some 37), .mv (.tmp 36), none⟩,
   ⟨(some 38), .mv (.tmp 9), (some (37, true))⟩,
   ⟨(some 39), .bin .leq (.tmp 38) (.const (.int .u64 9223372036854775808)), (some (37, true))⟩,
   ⟨(some 40), .pick (.tmp 37) (.tmp 39) (.const (.bool false)), none⟩,
   ⟨(some 2), .mv (.tmp 34), none⟩,
   ⟨(some 3), .mv (.tmp 40), none⟩])
 .ret)))))))⟩
def zfs : vt := ⟨17, [.tmp 2],
 (.seq (.ops [⟨(some 2), .mv (.const (.bool false)), none⟩])
 (.seq (.ops [⟨(some 3), .mv (.tmp 0), none⟩,
   ⟨(some 4), .call zay [(.tmp 3)], none⟩,
   ⟨(some 5), .mv (.tmp 4), none⟩,
   ⟨(some 6), .mv (.tmp 0), (some (5, false))⟩,
   ⟨(some 7), .call zbr [(.tmp 6)], (some (5, false))⟩,
   ⟨(some 8), .pick (.tmp 5) (.const (.bool true)) (.tmp 7), none⟩,
   ⟨(some 9), .mv (.tmp 8), none⟩,
   ⟨(some 10), .mv (.tmp 0), (some (9, false))⟩,
   ⟨(some 11), .bin .eql (.tmp 10) (.const (.int .u8 95)), (some (9, false))⟩,
   ⟨(some 12), .pick (.tmp 9) (.const (.bool true)) (.tmp 11), none⟩,
   ⟨(some 13), .mv (.tmp 12), none⟩,
   ⟨(some 14), .mv (.tmp 0), (some (13, false))⟩,
   ⟨(some 15), .bin .eql (.tmp 14) (.const (.int .u8 46)), (some (13, false))⟩,
   ⟨(some 16), .pick (.tmp 13) (.const (.bool true)) (.tmp 15), none⟩,
   ⟨(some 2), .mv (.tmp 16), none⟩])
 .ret))⟩
def zcs : vt := ⟨8, [.tmp 4],
 (.seq (.ops [⟨(some 4), .mv (.const (.int .i64 0)), none⟩])
 (.seq (.ops [⟨(some 5), .mv (.tmp 0), none⟩,
   ⟨(some 6), .mv (.tmp 1), none⟩,
   ⟨(some 7), .call fg [(.tmp 5), (.tmp 6)], none⟩,
   ⟨(some 4), .mv (.tmp 7), none⟩])
 .ret))⟩
def jj : vt := ⟨8, [.tmp 2],
 (.seq (.ops [⟨(some 2), .mv (.const (.slice none 0 0)), none⟩])
 (.seq (.seq (.ops [⟨(some 3), .mv (.tmp 0), none⟩,
   ⟨(some 4), .eqv false .slice (.tmp 3) (.const (.slice none 0 0)), none⟩])
 (.cond (.tmp 4) (.seq (.ops [⟨(some 2), .mv (.const (.slice none 0 0)), none⟩])
 .ret) .skip))
 (.seq (.ops [⟨(some 5), .mkRow [(.int .i64 0), (.string ⟨#[]⟩), (.int .i64 0), (.int .i64 0)] 0 [], none⟩,
   ⟨(some 6), .mv (.tmp 0), none⟩,
   ⟨(some 7), .append 4 40 (.tmp 5) (.tmp 6), none⟩,
   ⟨(some 2), .mv (.tmp 7), none⟩])
 .ret)))⟩
def g8 : vt := ⟨51, [.tmp 4],
 (.seq (.ops [⟨(some 4), .mv (.const (.bool false)), none⟩])
 (.seq (.seq (.ops [⟨(some 8), .mv (.tmp 1), none⟩,
   ⟨(some 9), .len (.tmp 8), none⟩,
   ⟨(some 10), .mv (.tmp 0), none⟩,
   ⟨(some 11), .call jp [(.tmp 10)], none⟩,
   ⟨(some 12), .bin .gtr (.tmp 9) (.tmp 11), none⟩])
 (.cond (.tmp 12) (.seq (.ops [⟨(some 4), .mv (.const (.bool false)), none⟩])
 .ret) .skip))
 (.seq (.seq (.ops [⟨(some 13), .mv (.tmp 1), none⟩,
   ⟨(some 14), .len (.tmp 13), none⟩,
   ⟨(some 15), .mv (.const (.int .i64 0)), none⟩])
 (.block 0 (.loop (.seq (.ops [⟨(some 16), .bin .lss (.tmp 15) (.tmp 14), none⟩])
   (.seq (.cond (.tmp 16) .skip (.exit 0))
   (.seq (.block 1 (.seq (.ops [⟨(some 17), .mv (.tmp 15), none⟩,
      ⟨(some 18), .atRow 1 (.tmp 13) (.tmp 15), none⟩,
      ⟨(some 19), .load1 (.tmp 18), none⟩,
      ⟨(some 5), .mv (.tmp 17), none⟩,
      ⟨(some 6), .mv (.tmp 19), none⟩])
    (.seq (.ops [⟨(some 20), .mv (.tmp 0), none⟩,
      ⟨(some 21), .nilCheck (.tmp 20), none⟩,
      ⟨(some 22), .off 0 (.tmp 21), none⟩,
      ⟨(some 23), .load1 (.tmp 22), none⟩,
      ⟨(some 24), .mv (.tmp 0), none⟩,
      ⟨(some 25), .nilCheck (.tmp 24), none⟩,
      ⟨(some 26), .off 1 (.tmp 25), none⟩,
      ⟨(some 27), .load1 (.tmp 26), none⟩,
      ⟨(some 28), .mv (.tmp 5), none⟩,
      ⟨(some 29), .bin .add (.tmp 27) (.tmp 28), none⟩,
      ⟨(some 30), .atRow 4 (.tmp 23) (.tmp 29), none⟩,
      ⟨(some 31), .load 4 (.tmp 30), none⟩,
      ⟨(some 7), .alloc [(.int .i64 0), (.string ⟨#[]⟩), (.int .i64 0), (.int .i64 0)], none⟩,
      ⟨none, .store 4 (.tmp 7) (.tmp 31), none⟩])
    (.seq (.ops [⟨(some 32), .off 1 (.tmp 7), none⟩,
      ⟨(some 33), .load1 (.tmp 32), none⟩,
      ⟨(some 34), .mv (.tmp 6), none⟩,
      ⟨(some 35), .bin .neq (.tmp 33) (.tmp 34), none⟩,
      ⟨(some 36), .mv (.tmp 35), none⟩,
      ⟨(some 37), .off 0 (.tmp 7), (some (36, false))⟩,
      ⟨(some 38), .load1 (.tmp 37), (some (36, false))⟩,
      ⟨(some 39), .bin .eql (.tmp 38) (.const (.int .i64 2)), (some (36, false))⟩,
      ⟨(some 40), .pick (.tmp 36) (.const (.bool true)) (.tmp 39), none⟩])
    (.cond (.tmp 40) (.seq (.ops [⟨(some 4), .mv (.const (.bool false)), none⟩])
    .ret) .skip)))))
   (.ops [⟨(some 41), .bin .add (.tmp 15) (.const (.int .i64 1)), none⟩,
     ⟨(some 15), .mv (.tmp 41), none⟩])))))))
 (.seq (.ops [⟨(some 42), .mv (.tmp 0), none⟩,
   ⟨(some 43), .nilCheck (.tmp 42), none⟩,
   ⟨(some 44), .off 1 (.tmp 43), none⟩,
   ⟨(some 45), .load1 (.tmp 44), none⟩,
   ⟨(some 46), .mv (.tmp 1), none⟩,
   ⟨(some 47), .len (.tmp 46), none⟩,
   ⟨(some 48), .bin .add (.tmp 45) (.tmp 47), none⟩,
   ⟨(some 49), .nilCheck (.tmp 42), none⟩,
   ⟨(some 50), .off 1 (.tmp 49), none⟩,
   ⟨none, .store1 (.tmp 50) (.tmp 48), none⟩])
 (.seq (.ops [⟨(some 4), .mv (.const (.bool true)), none⟩])
 .ret)))))⟩
def bp : vt := ⟨37, [.tmp 2, .tmp 3],
 (.seq (.ops [⟨(some 2), .mv (.const (.string ⟨#[]⟩)), none⟩,
   ⟨(some 3), .mv (.const (.int .i64 0)), none⟩])
 (.seq (.ops [⟨(some 6), .mv (.tmp 0), none⟩,
   ⟨(some 7), .nilCheck (.tmp 6), none⟩,
   ⟨(some 8), .off 0 (.tmp 7), none⟩,
   ⟨(some 9), .load1 (.tmp 8), none⟩,
   ⟨(some 10), .call bf [(.tmp 9)], none⟩,
   ⟨(some 4), .mv (.tmp 10), none⟩])
 (.seq (.ops [⟨(some 11), .mv (.tmp 0), none⟩,
   ⟨(some 12), .call qo [(.tmp 11), (.const (.int .i64 0))], none⟩,
   ⟨(some 5), .alloc [(.int .i64 0), (.string ⟨#[]⟩), (.int .i64 0), (.int .i64 0)], none⟩,
   ⟨none, .store 4 (.tmp 5) (.tmp 12), none⟩])
 (.seq (.seq (.ops [⟨(some 13), .mv (.tmp 0), none⟩,
   ⟨(some 14), .call xw [(.tmp 13)], none⟩,
   ⟨(some 15), .un .not (.tmp 14), none⟩,
   ⟨(some 16), .mv (.tmp 15), none⟩,
   ⟨(some 17), .off 0 (.tmp 5), (some (16, false))⟩,
   ⟨(some 18), .load1 (.tmp 17), (some (16, false))⟩,
   ⟨(some 19), .bin .neq (.tmp 18) (.const (.int .i64 1)), (some (16, false))⟩,
   ⟨(some 20), .pick (.tmp 16) (.const (.bool true)) (.tmp 19), none⟩,
   ⟨(some 21), .mv (.tmp 20), none⟩,
   ⟨(some 22), .off 1 (.tmp 5), (some (21, false))⟩,
   ⟨(some 23), .load1 (.tmp 22), (some (21, false))⟩,
   ⟨(some 24), .call pz [(.tmp 23)], (some (21, false))⟩,
   ⟨(some 25), .pick (.tmp 21) (.const (.bool true)) (.tmp 24), none⟩])
 (.cond (.tmp 25) (.seq (.ops [⟨(some 26), .mv (.tmp 0), none⟩,
   ⟨(some 27), .call vy [(.tmp 26)], none⟩])
 (.seq (.ops [⟨(some 28), .mv (.tmp 4), none⟩,
   ⟨(some 2), .mv (.const (.string ⟨#[]⟩)), none⟩,
   ⟨(some 3), .mv (.tmp 28), none⟩])
 .ret)) .skip))
 (.seq (.ops [⟨(some 29), .mv (.tmp 0), none⟩,
   ⟨(some 30), .nilCheck (.tmp 29), none⟩,
   ⟨(some 31), .off 0 (.tmp 30), none⟩,
   ⟨(some 32), .load1 (.tmp 31), none⟩,
   ⟨(some 33), .call wy [(.tmp 32)], none⟩])
 (.seq (.ops [⟨(some 34), .off 1 (.tmp 5), none⟩,
   ⟨(some 35), .load1 (.tmp 34), none⟩,
   ⟨(some 36), .mv (.tmp 4), none⟩,
   ⟨(some 2), .mv (.tmp 35), none⟩,
   ⟨(some 3), .mv (.tmp 36), none⟩])
 .ret))))))⟩
def pi : vt := ⟨18, [],
 (.seq (.ops [⟨(some 4), .mv (.tmp 0), none⟩,
   ⟨(some 5), .call xw [(.tmp 4)], none⟩,
   ⟨(some 6), .mv (.tmp 5), none⟩,
   ⟨(some 7), .mv (.tmp 0), (some (6, true))⟩,
   ⟨(some 8), .nilCheck (.tmp 7), (some (6, true))⟩,
   ⟨(some 9), .off 0 (.tmp 8), (some (6, true))⟩,
   ⟨(some 10), .load1 (.tmp 9), (some (6, true))⟩,
   ⟨(some 11), .mv (.tmp 1), (some (6, true))⟩,
   ⟨(some 12), .mkRow [(.string ⟨#[]⟩)] 1 [(0, 1, (.tmp 11))], (some (6, true))⟩,
   ⟨(some 13), .call w7 [(.tmp 10), (.tmp 12)], (some (6, true))⟩,
   ⟨(some 14), .un .not (.tmp 13), (some (6, true))⟩,
   ⟨(some 15), .pick (.tmp 6) (.tmp 14) (.const (.bool false)), none⟩])
 (.cond (.tmp 15) (.ops [⟨(some 16), .mv (.tmp 0), none⟩,
   ⟨(some 17), .call vy [(.tmp 16)], none⟩]) .skip))⟩
def f0 : vt := ⟨8, [.tmp 2],
 (.seq (.ops [⟨(some 2), .mv (.const (.pointer none)), none⟩])
 (.seq (.ops [⟨(some 3), .mv (.tmp 0), none⟩,
   ⟨(some 4), .mv (.tmp 0), none⟩,
   ⟨(some 5), .func j9 [(.tmp 4)] [], none⟩,
   ⟨(some 6), .mkRow [(.string ⟨#[]⟩)] 1 [(0, 1, (.const (.string ⟨#[124]⟩)))], none⟩,
   ⟨(some 7), .call qr [(.tmp 3), (.tmp 5), (.tmp 6)], none⟩,
   ⟨(some 2), .mv (.tmp 7), none⟩])
 .ret))⟩
def pk : vt := ⟨21, [],
 (.seq (.ops [⟨(some 2), .mv (.tmp 0), none⟩,
   ⟨(some 3), .nilCheck (.tmp 2), none⟩,
   ⟨(some 4), .off 0 (.tmp 3), none⟩,
   ⟨(some 5), .load1 (.tmp 4), none⟩,
   ⟨(some 6), .call jp [(.tmp 5)], none⟩,
   ⟨(some 7), .bin .eql (.tmp 6) (.const (.int .i64 0)), none⟩])
 (.cond (.tmp 7) (.ops [⟨(some 8), .mv (.tmp 0), none⟩,
   ⟨(some 9), .mv (.tmp 0), none⟩,
   ⟨(some 10), .nilCheck (.tmp 9), none⟩,
   ⟨(some 11), .off 2 (.tmp 10), none⟩,
   ⟨(some 12), .load1 (.tmp 11), none⟩,
   ⟨(some 13), .call x8 [(.tmp 8), (.const (.int .i64 24)), (.tmp 12)], none⟩]) (.ops [⟨(some 14), .mv (.tmp 0), none⟩,
   ⟨(some 15), .mv (.tmp 0), none⟩,
   ⟨(some 16), .nilCheck (.tmp 15), none⟩,
   ⟨(some 17), .off 0 (.tmp 16), none⟩,
   ⟨(some 18), .load1 (.tmp 17), none⟩,
   ⟨(some 19), .call bf [(.tmp 18)], none⟩,
   ⟨(some 20), .call x8 [(.tmp 14), (.const (.int .i64 22)), (.tmp 19)], none⟩])))⟩
def jn : vt := ⟨54, [],
 (.seq (.ops [⟨(some 4), .box 3 (.tmp 1), none⟩])
 (.seq (.seq (.ops [⟨(some 9), .mv (.tmp 0), none⟩,
   ⟨(some 10), .nilCheck (.tmp 9), none⟩,
   ⟨(some 11), .off 1 (.tmp 10), none⟩,
   ⟨(some 12), .load1 (.tmp 11), none⟩,
   ⟨(some 13), .off 0 (.tmp 4), none⟩,
   ⟨(some 14), .load1 (.tmp 13), none⟩,
   ⟨(some 15), .lookup .str (.bool false) (.tmp 12) (.tmp 14) true, none⟩,
   ⟨(some 8), .mv (.tmp 15), none⟩,
   ⟨(some 16), .extract (.tmp 8) 0, none⟩,
   ⟨(some 17), .extract (.tmp 8) 1, none⟩,
   ⟨(some 6), .mv (.tmp 16), none⟩,
   ⟨(some 7), .mv (.tmp 17), none⟩])
 (.seq (.ops [⟨(some 18), .mv (.tmp 7), none⟩,
   ⟨(some 19), .mv (.tmp 18), none⟩,
   ⟨(some 20), .mv (.tmp 2), (some (19, false))⟩,
   ⟨(some 21), .off 0 (.tmp 4), (some (19, false))⟩,
   ⟨(some 22), .load1 (.tmp 21), (some (19, false))⟩,
   ⟨(some 23), .lookup .str (.bool false) (.tmp 20) (.tmp 22) false, (some (19, false))⟩,
   ⟨(some 24), .pick (.tmp 19) (.const (.bool true)) (.tmp 23), none⟩])
 (.cond (.tmp 24) (.ops [⟨(some 25), .mv (.tmp 0), none⟩,
   ⟨(some 26), .nilCheck (.tmp 25), none⟩,
   ⟨(some 27), .off 0 (.tmp 26), none⟩,
   ⟨(some 28), .load1 (.tmp 27), none⟩,
   ⟨(some 29), .off 1 (.tmp 4), none⟩,
   ⟨(some 30), .load1 (.tmp 29), none⟩,
   ⟨(some 31), .call x8 [(.tmp 28), (.const (.int .i64 42)), (.tmp 30)], none⟩]) .skip)))
 (.seq (.seq (.ops [⟨(some 32), .mv (.tmp 0), none⟩,
   ⟨(some 33), .nilCheck (.tmp 32), none⟩,
   ⟨(some 34), .off 3 (.tmp 33), none⟩,
   ⟨(some 35), .load1 (.tmp 34), none⟩,
   ⟨(some 36), .bin .geq (.tmp 35) (.const (.int .i64 64)), none⟩])
 (.cond (.tmp 36) (.ops [⟨(some 37), .mv (.tmp 0), none⟩,
   ⟨(some 38), .nilCheck (.tmp 37), none⟩,
   ⟨(some 39), .off 0 (.tmp 38), none⟩,
   ⟨(some 40), .load1 (.tmp 39), none⟩,
   ⟨(some 41), .off 1 (.tmp 4), none⟩,
   ⟨(some 42), .load1 (.tmp 41), none⟩,
   ⟨(some 43), .call x8 [(.tmp 40), (.const (.int .i64 2)), (.tmp 42)], none⟩]) .skip))
 (.seq (.ops [⟨(some 44), .mv (.tmp 0), none⟩,
   ⟨(some 45), .nilCheck (.tmp 44), none⟩,
   ⟨(some 46), .off 3 (.tmp 45), none⟩,
   ⟨(some 47), .load1 (.tmp 46), none⟩,
   ⟨(some 48), .bin .add (.tmp 47) (.const (.int .i64 1)), none⟩,
   ⟨(some 49), .nilCheck (.tmp 44), none⟩,
   ⟨(some 50), .off 3 (.tmp 49), none⟩,
   ⟨none, .store1 (.tmp 50) (.tmp 48), none⟩])
 (.ops [⟨(some 51), .mv (.tmp 2), none⟩,
   ⟨(some 52), .off 0 (.tmp 4), none⟩,
   ⟨(some 53), .load1 (.tmp 52), none⟩,
   ⟨none, .update .str (.tmp 51) (.tmp 53) (.const (.bool true)), none⟩])))))⟩
def y3 : vt := ⟨189, [],
 (.seq (.ops [⟨(some 3), .box 1 (.tmp 0), none⟩])
 (.seq (.seq (.ops [⟨(some 9), .mv (.tmp 1), none⟩,
   ⟨(some 10), .eqv false .ptr (.tmp 9) (.const (.pointer none)), none⟩,
   ⟨(some 11), .mv (.tmp 10), none⟩,
   ⟨(some 12), .load1 (.tmp 3), (some (11, false))⟩,
   ⟨(some 13), .nilCheck (.tmp 12), (some (11, false))⟩,
   ⟨(some 14), .off 0 (.tmp 13), (some (11, false))⟩,
   ⟨(some 15), .load1 (.tmp 14), (some (11, false))⟩,
   ⟨(some 16), .call xw [(.tmp 15)], (some (11, false))⟩,
   ⟨(some 17), .un .not (.tmp 16), (some (11, false))⟩,
   ⟨(some 18), .pick (.tmp 11) (.const (.bool true)) (.tmp 17), none⟩])
 (.cond (.tmp 18) .ret .skip))
 (.seq (.ops [⟨(some 19), .load1 (.tmp 3), none⟩,
   ⟨(some 20), .mv (.tmp 1), none⟩,
   ⟨(some 21), .nilCheck (.tmp 20), none⟩,
   ⟨(some 22), .off 3 (.tmp 21), none⟩,
   ⟨(some 23), .load1 (.tmp 22), none⟩,
   ⟨(some 24), .mv (.tmp 2), none⟩,
   ⟨(some 25), .call xn [(.tmp 19), (.tmp 23), (.tmp 24)], none⟩])
 (.seq (.ops [⟨(some 26), .load1 (.tmp 3), none⟩,
   ⟨(some 27), .mv (.tmp 1), none⟩,
   ⟨(some 28), .nilCheck (.tmp 27), none⟩,
   ⟨(some 29), .off 4 (.tmp 28), none⟩,
   ⟨(some 30), .load1 (.tmp 29), none⟩,
   ⟨(some 31), .mv (.tmp 2), none⟩,
   ⟨(some 32), .mv (.tmp 31), none⟩,
   ⟨(some 33), .mv (.tmp 1), (some (32, false))⟩,
   ⟨(some 34), .nilCheck (.tmp 33), (some (32, false))⟩,
   ⟨(some 35), .off 0 (.tmp 34), (some (32, false))⟩,
   ⟨(some 36), .load1 (.tmp 35), (some (32, false))⟩,
   ⟨(some 37), .bin .eql (.tmp 36) (.const (.string ⟨#[92]⟩)), (some (32, false))⟩,
   ⟨(some 38), .pick (.tmp 32) (.const (.bool true)) (.tmp 37), none⟩,
   ⟨(some 39), .call xn [(.tmp 26), (.tmp 30), (.tmp 38)], none⟩])
 (.seq (.seq (.ops [⟨(some 40), .load1 (.tmp 3), none⟩,
   ⟨(some 41), .nilCheck (.tmp 40), none⟩,
   ⟨(some 42), .off 0 (.tmp 41), none⟩,
   ⟨(some 43), .load1 (.tmp 42), none⟩,
   ⟨(some 44), .call xw [(.tmp 43)], none⟩,
   ⟨(some 45), .un .not (.tmp 44), none⟩])
 (.cond (.tmp 45) .ret .skip))
 (.seq (.ops [⟨(some 46), .func wj [] [(.tmp 3)], none⟩,
   ⟨(some 6), .mv (.tmp 46), none⟩])
 (.seq (.ops [⟨(some 47), .mv (.tmp 1), none⟩,
   ⟨(some 48), .nilCheck (.tmp 47), none⟩,
   ⟨(some 49), .off 0 (.tmp 48), none⟩,
   ⟨(some 50), .load1 (.tmp 49), none⟩])
 (.block 0 (.seq (.ops [⟨(some 52), .bin .eql (.tmp 50) (.const (.string ⟨#[110, 97, 109, 101]⟩)), none⟩,
    ⟨(some 51), .mv (.tmp 52), none⟩])
  (.cond (.tmp 51) (.seq (.ops [⟨(some 54), .load1 (.tmp 3), none⟩,
    ⟨(some 55), .nilCheck (.tmp 54), none⟩,
    ⟨(some 56), .off 1 (.tmp 55), none⟩,
    ⟨(some 57), .load1 (.tmp 56), none⟩,
    ⟨(some 58), .mv (.tmp 1), none⟩,
    ⟨(some 59), .nilCheck (.tmp 58), none⟩,
    ⟨(some 60), .off 1 (.tmp 59), none⟩,
    ⟨(some 61), .load1 (.tmp 60), none⟩,
    ⟨(some 62), .lookup .str (.bool false) (.tmp 57) (.tmp 61) true, none⟩,
    ⟨(some 53), .mv (.tmp 62), none⟩,
    ⟨(some 63), .extract (.tmp 53) 0, none⟩,
    ⟨(some 64), .extract (.tmp 53) 1, none⟩,
    ⟨(some 7), .mv (.tmp 63), none⟩,
    ⟨(some 8), .mv (.tmp 64), none⟩])
  (.seq (.block 1 (.seq (.ops [⟨(some 66), .mv (.tmp 8), none⟩,
     ⟨(some 67), .un .not (.tmp 66), none⟩,
     ⟨(some 65), .mv (.tmp 67), none⟩])
   (.cond (.tmp 65) (.ops [⟨(some 68), .load1 (.tmp 3), none⟩,
     ⟨(some 69), .nilCheck (.tmp 68), none⟩,
     ⟨(some 70), .off 0 (.tmp 69), none⟩,
     ⟨(some 71), .load1 (.tmp 70), none⟩,
     ⟨(some 72), .mv (.tmp 1), none⟩,
     ⟨(some 73), .nilCheck (.tmp 72), none⟩,
     ⟨(some 74), .off 2 (.tmp 73), none⟩,
     ⟨(some 75), .load1 (.tmp 74), none⟩,
     ⟨(some 76), .call x8 [(.tmp 71), (.const (.int .i64 40)), (.tmp 75)], none⟩]) (.seq (.ops [⟨(some 78), .mv (.tmp 2), none⟩,
     ⟨(some 79), .mv (.tmp 78), none⟩,
     ⟨(some 80), .load1 (.tmp 3), (some (79, true))⟩,
     ⟨(some 81), .nilCheck (.tmp 80), (some (79, true))⟩,
     ⟨(some 82), .off 2 (.tmp 81), (some (79, true))⟩,
     ⟨(some 83), .load1 (.tmp 82), (some (79, true))⟩,
     ⟨(some 84), .mv (.tmp 1), (some (79, true))⟩,
     ⟨(some 85), .nilCheck (.tmp 84), (some (79, true))⟩,
     ⟨(some 86), .off 1 (.tmp 85), (some (79, true))⟩,
     ⟨(some 87), .load1 (.tmp 86), (some (79, true))⟩,
     ⟨(some 88), .lookup .str (.bool false) (.tmp 83) (.tmp 87) false, (some (79, true))⟩,
     ⟨(some 89), .pick (.tmp 79) (.tmp 88) (.const (.bool false)), none⟩,
     ⟨(some 77), .mv (.tmp 89), none⟩])
   (.cond (.tmp 77) (.ops [⟨(some 90), .load1 (.tmp 3), none⟩,
     ⟨(some 91), .nilCheck (.tmp 90), none⟩,
     ⟨(some 92), .off 0 (.tmp 91), none⟩,
     ⟨(some 93), .load1 (.tmp 92), none⟩,
     ⟨(some 94), .mv (.tmp 1), none⟩,
     ⟨(some 95), .nilCheck (.tmp 94), none⟩,
     ⟨(some 96), .off 2 (.tmp 95), none⟩,
     ⟨(some 97), .load1 (.tmp 96), none⟩,
     ⟨(some 98), .call x8 [(.tmp 93), (.const (.int .i64 43)), (.tmp 97)], none⟩]) .skip)))))
  (.ops [⟨(some 99), .mv (.tmp 1), none⟩,
    ⟨(some 100), .mv (.tmp 7), none⟩,
    ⟨(some 101), .nilCheck (.tmp 99), none⟩,
    ⟨(some 102), .off 5 (.tmp 101), none⟩,
    ⟨none, .store1 (.tmp 102) (.tmp 100), none⟩]))) (.seq (.seq (.ops [⟨(some 104), .bin .eql (.tmp 50) (.const (.string ⟨#[124]⟩)), none⟩,
    ⟨(some 103), .mv (.tmp 104), none⟩])
  (.cond (.tmp 103) .skip (.seq (.ops [⟨(some 105), .bin .eql (.tmp 50) (.const (.string ⟨#[38]⟩)), none⟩,
    ⟨(some 103), .mv (.tmp 105), none⟩])
  (.cond (.tmp 103) .skip (.ops [⟨(some 106), .bin .eql (.tmp 50) (.const (.string ⟨#[92]⟩)), none⟩,
    ⟨(some 103), .mv (.tmp 106), none⟩])))))
  (.cond (.tmp 103) (.seq (.ops [⟨(some 107), .mv (.tmp 6), none⟩,
    ⟨(some 108), .mv (.tmp 1), none⟩,
    ⟨(some 109), .nilCheck (.tmp 108), none⟩,
    ⟨(some 110), .off 4 (.tmp 109), none⟩,
    ⟨(some 111), .load1 (.tmp 110), none⟩,
    ⟨(some 112), .mv (.tmp 1), none⟩,
    ⟨(some 113), .nilCheck (.tmp 112), none⟩,
    ⟨(some 114), .off 3 (.tmp 113), none⟩,
    ⟨(some 115), .load1 (.tmp 114), none⟩,
    ⟨(some 116), .nilCheck (.tmp 115), none⟩,
    ⟨(some 117), .off 5 (.tmp 116), none⟩,
    ⟨(some 118), .load1 (.tmp 117), none⟩,
    ⟨(some 119), .callv (.tmp 107) [(.tmp 111), (.tmp 118)], none⟩])
  (.ops [⟨(some 120), .mv (.tmp 1), none⟩,
    ⟨(some 121), .mv (.tmp 1), none⟩,
    ⟨(some 122), .nilCheck (.tmp 121), none⟩,
    ⟨(some 123), .off 3 (.tmp 122), none⟩,
    ⟨(some 124), .load1 (.tmp 123), none⟩,
    ⟨(some 125), .nilCheck (.tmp 124), none⟩,
    ⟨(some 126), .off 5 (.tmp 125), none⟩,
    ⟨(some 127), .load1 (.tmp 126), none⟩,
    ⟨(some 128), .nilCheck (.tmp 120), none⟩,
    ⟨(some 129), .off 5 (.tmp 128), none⟩,
    ⟨none, .store1 (.tmp 129) (.tmp 127), none⟩])) (.seq (.ops [⟨(some 131), .bin .eql (.tmp 50) (.const (.string ⟨#[59]⟩)), none⟩,
    ⟨(some 130), .mv (.tmp 131), none⟩])
  (.cond (.tmp 130) (.seq (.ops [⟨(some 132), .mv (.tmp 6), none⟩,
    ⟨(some 133), .mv (.tmp 1), none⟩,
    ⟨(some 134), .nilCheck (.tmp 133), none⟩,
    ⟨(some 135), .off 3 (.tmp 134), none⟩,
    ⟨(some 136), .load1 (.tmp 135), none⟩,
    ⟨(some 137), .callv (.tmp 132) [(.tmp 136), (.const (.bool false))], none⟩])
  (.ops [⟨(some 138), .mv (.tmp 6), none⟩,
    ⟨(some 139), .mv (.tmp 1), none⟩,
    ⟨(some 140), .nilCheck (.tmp 139), none⟩,
    ⟨(some 141), .off 4 (.tmp 140), none⟩,
    ⟨(some 142), .load1 (.tmp 141), none⟩,
    ⟨(some 143), .callv (.tmp 138) [(.tmp 142), (.const (.bool false))], none⟩])) (.seq (.ops [⟨(some 145), .bin .eql (.tmp 50) (.const (.string ⟨#[120]⟩)), none⟩,
    ⟨(some 144), .mv (.tmp 145), none⟩])
  (.cond (.tmp 144) (.seq (.ops [⟨(some 146), .mv (.tmp 6), none⟩,
    ⟨(some 147), .mv (.tmp 1), none⟩,
    ⟨(some 148), .nilCheck (.tmp 147), none⟩,
    ⟨(some 149), .off 3 (.tmp 148), none⟩,
    ⟨(some 150), .load1 (.tmp 149), none⟩,
    ⟨(some 151), .callv (.tmp 146) [(.tmp 150), (.const (.bool true))], none⟩])
  (.ops [⟨(some 152), .mv (.tmp 6), none⟩,
    ⟨(some 153), .mv (.tmp 1), none⟩,
    ⟨(some 154), .nilCheck (.tmp 153), none⟩,
    ⟨(some 155), .off 4 (.tmp 154), none⟩,
    ⟨(some 156), .load1 (.tmp 155), none⟩,
    ⟨(some 157), .callv (.tmp 152) [(.tmp 156), (.const (.bool true))], none⟩])) (.seq (.ops [⟨(some 159), .bin .eql (.tmp 50) (.const (.string ⟨#[91]⟩)), none⟩,
    ⟨(some 158), .mv (.tmp 159), none⟩])
  (.cond (.tmp 158) (.ops [⟨(some 160), .mv (.tmp 6), none⟩,
    ⟨(some 161), .mv (.tmp 1), none⟩,
    ⟨(some 162), .nilCheck (.tmp 161), none⟩,
    ⟨(some 163), .off 3 (.tmp 162), none⟩,
    ⟨(some 164), .load1 (.tmp 163), none⟩,
    ⟨(some 165), .callv (.tmp 160) [(.tmp 164), (.const (.bool true))], none⟩]) (.seq (.ops [⟨(some 167), .bin .eql (.tmp 50) (.const (.string ⟨#[40]⟩)), none⟩,
    ⟨(some 166), .mv (.tmp 167), none⟩])
  (.cond (.tmp 166) (.ops [⟨(some 168), .mv (.tmp 1), none⟩,
    ⟨(some 169), .mv (.tmp 1), none⟩,
    ⟨(some 170), .nilCheck (.tmp 169), none⟩,
    ⟨(some 171), .off 3 (.tmp 170), none⟩,
    ⟨(some 172), .load1 (.tmp 171), none⟩,
    ⟨(some 173), .nilCheck (.tmp 172), none⟩,
    ⟨(some 174), .off 5 (.tmp 173), none⟩,
    ⟨(some 175), .load1 (.tmp 174), none⟩,
    ⟨(some 176), .nilCheck (.tmp 168), none⟩,
    ⟨(some 177), .off 5 (.tmp 176), none⟩,
    ⟨none, .store1 (.tmp 177) (.tmp 175), none⟩]) (.seq (.seq (.ops [⟨(some 179), .bin .eql (.tmp 50) (.const (.string ⟨#[43]⟩)), none⟩,
    ⟨(some 178), .mv (.tmp 179), none⟩])
  (.cond (.tmp 178) .skip (.seq (.ops [⟨(some 180), .bin .eql (.tmp 50) (.const (.string ⟨#[42]⟩)), none⟩,
    ⟨(some 178), .mv (.tmp 180), none⟩])
  (.cond (.tmp 178) .skip (.seq (.ops [⟨(some 181), .bin .eql (.tmp 50) (.const (.string ⟨#[63]⟩)), none⟩,
    ⟨(some 178), .mv (.tmp 181), none⟩])
  (.cond (.tmp 178) .skip (.ops [⟨(some 182), .bin .eql (.tmp 50) (.const (.string ⟨#[94]⟩)), none⟩,
    ⟨(some 178), .mv (.tmp 182), none⟩])))))))
  (.cond (.tmp 178) (.ops [⟨(some 183), .mv (.tmp 6), none⟩,
    ⟨(some 184), .mv (.tmp 1), none⟩,
    ⟨(some 185), .nilCheck (.tmp 184), none⟩,
    ⟨(some 186), .off 3 (.tmp 185), none⟩,
    ⟨(some 187), .load1 (.tmp 186), none⟩,
    ⟨(some 188), .callv (.tmp 183) [(.tmp 187), (.const (.bool false))], none⟩]) .skip))))))))))))))))))))))⟩
def zbg : vt := ⟨19, [],
 (.seq (.ops [⟨(some 6), .mv (.tmp 0), none⟩,
   ⟨(some 7), .nilCheck (.tmp 6), none⟩,
   ⟨(some 8), .off 4 (.tmp 7), none⟩,
   ⟨(some 9), .load1 (.tmp 8), none⟩,
   ⟨(some 10), .bin .eql (.tmp 9) (.const (.int .i64 0)), none⟩])
 (.cond (.tmp 10) (.ops [⟨(some 11), .mv (.tmp 0), none⟩,
   ⟨(some 12), .mv (.tmp 0), none⟩,
   ⟨(some 13), .mv (.tmp 1), none⟩,
   ⟨(some 14), .mv (.tmp 2), none⟩,
   ⟨(some 15), .nilCheck (.tmp 11), none⟩,
   ⟨(some 16), .off 4 (.tmp 15), none⟩,
   ⟨none, .store1 (.tmp 16) (.tmp 13), none⟩,
   ⟨(some 17), .nilCheck (.tmp 12), none⟩,
   ⟨(some 18), .off 5 (.tmp 17), none⟩,
   ⟨none, .store1 (.tmp 18) (.tmp 14), none⟩]) .skip))⟩
def ku : vt := ⟨19, [.tmp 4],
 (.seq (.ops [⟨(some 4), .mv (.const (.int .i64 0)), none⟩])
 (.seq (.seq (.ops [⟨(some 6), .mv (.tmp 0), none⟩,
   ⟨(some 7), .len (.tmp 6), none⟩,
   ⟨(some 8), .mv (.const (.int .i64 0)), none⟩])
 (.block 0 (.loop (.seq (.ops [⟨(some 9), .bin .lss (.tmp 8) (.tmp 7), none⟩])
   (.seq (.cond (.tmp 9) .skip (.exit 0))
   (.seq (.block 1 (.seq (.ops [⟨(some 10), .mv (.tmp 8), none⟩,
      ⟨(some 5), .mv (.tmp 10), none⟩])
    (.seq (.ops [⟨(some 11), .mv (.tmp 1), none⟩,
      ⟨(some 12), .mv (.tmp 0), none⟩,
      ⟨(some 13), .mv (.tmp 5), none⟩,
      ⟨(some 14), .atRow 35 (.tmp 12) (.tmp 13), none⟩,
      ⟨(some 15), .load 35 (.tmp 14), none⟩,
      ⟨(some 16), .callv (.tmp 11) [(.tmp 15)], none⟩])
    (.cond (.tmp 16) (.seq (.ops [⟨(some 17), .mv (.tmp 5), none⟩,
      ⟨(some 4), .mv (.tmp 17), none⟩])
    .ret) .skip))))
   (.ops [⟨(some 18), .bin .add (.tmp 8) (.const (.int .i64 1)), none⟩,
     ⟨(some 8), .mv (.tmp 18), none⟩])))))))
 (.seq (.ops [⟨(some 4), .mv (.const (.int .i64 (-1))), none⟩])
 .ret)))⟩
def zac : vt := ⟨16, [.tmp 3],
 (.seq (.ops [⟨(some 2), .box 35 (.tmp 0), none⟩,
   ⟨(some 3), .mv (.const (.bool false)), none⟩])
 (.seq (.ops [⟨(some 4), .off 0 (.tmp 2), none⟩,
   ⟨(some 5), .load1 (.tmp 4), none⟩,
   ⟨(some 6), .off 0 (.tmp 1), none⟩,
   ⟨(some 7), .load1 (.tmp 6), none⟩,
   ⟨(some 8), .bin .eql (.tmp 5) (.tmp 7), none⟩,
   ⟨(some 9), .mv (.tmp 8), none⟩,
   ⟨(some 10), .off 1 (.tmp 2), (some (9, true))⟩,
   ⟨(some 11), .load1 (.tmp 10), (some (9, true))⟩,
   ⟨(some 12), .off 1 (.tmp 1), (some (9, true))⟩,
   ⟨(some 13), .load1 (.tmp 12), (some (9, true))⟩,
   ⟨(some 14), .eqv false .bool (.tmp 11) (.tmp 13), (some (9, true))⟩,
   ⟨(some 15), .pick (.tmp 9) (.tmp 14) (.const (.bool false)), none⟩,
   ⟨(some 3), .mv (.tmp 15), none⟩])
 .ret))⟩
def jd : vt := ⟨153, [.cells 4 35],
 (.seq (.ops [⟨(some 4), .alloc ([(.string ⟨#[]⟩)] ++ [(.bool false)] ++ List.replicate 33 (.int .u32 0)), none⟩])
 (.seq (.ops [⟨(some 5), .alloc ([(.string ⟨#[]⟩)] ++ [(.bool false)] ++ List.replicate 33 (.int .u32 0)), none⟩,
   ⟨(some 6), .alloc ([(.string ⟨#[]⟩)] ++ [(.bool false)] ++ List.replicate 33 (.int .u32 0)), none⟩])
 (.seq (.seq (.ops [⟨(some 8), .mv (.tmp 1), none⟩,
   ⟨(some 9), .nilCheck (.tmp 8), none⟩,
   ⟨(some 10), .off 3 (.tmp 9), none⟩,
   ⟨(some 11), .load1 (.tmp 10), none⟩,
   ⟨(some 12), .eqv true .ptr (.tmp 11) (.const (.pointer none)), none⟩])
 (.cond (.tmp 12) (.ops [⟨(some 13), .mv (.tmp 0), none⟩,
   ⟨(some 14), .mv (.tmp 1), none⟩,
   ⟨(some 15), .nilCheck (.tmp 14), none⟩,
   ⟨(some 16), .off 3 (.tmp 15), none⟩,
   ⟨(some 17), .load1 (.tmp 16), none⟩,
   ⟨(some 18), .call vr [(.tmp 13), (.tmp 17)], none⟩,
   ⟨none, .store 35 (.tmp 5) (.tmp 18), none⟩]) .skip))
 (.seq (.seq (.ops [⟨(some 19), .mv (.tmp 1), none⟩,
   ⟨(some 20), .nilCheck (.tmp 19), none⟩,
   ⟨(some 21), .off 4 (.tmp 20), none⟩,
   ⟨(some 22), .load1 (.tmp 21), none⟩,
   ⟨(some 23), .eqv true .ptr (.tmp 22) (.const (.pointer none)), none⟩])
 (.cond (.tmp 23) (.ops [⟨(some 24), .mv (.tmp 0), none⟩,
   ⟨(some 25), .mv (.tmp 1), none⟩,
   ⟨(some 26), .nilCheck (.tmp 25), none⟩,
   ⟨(some 27), .off 4 (.tmp 26), none⟩,
   ⟨(some 28), .load1 (.tmp 27), none⟩,
   ⟨(some 29), .call vr [(.tmp 24), (.tmp 28)], none⟩,
   ⟨none, .store 35 (.tmp 6) (.tmp 29), none⟩]) .skip))
 (.seq (.ops [⟨(some 30), .mv (.tmp 1), none⟩,
   ⟨(some 31), .nilCheck (.tmp 30), none⟩,
   ⟨(some 32), .off 5 (.tmp 31), none⟩,
   ⟨(some 33), .load1 (.tmp 32), none⟩,
   ⟨(some 34), .build ([(.string ⟨#[]⟩)] ++ [(.bool false)] ++ List.replicate 33 (.int .u32 0)) [(1, 1, (.tmp 33))], none⟩,
   ⟨(some 7), .alloc ([(.string ⟨#[]⟩)] ++ [(.bool false)] ++ List.replicate 33 (.int .u32 0)), none⟩,
   ⟨none, .store 35 (.tmp 7) (.tmp 34), none⟩])
 (.seq (.seq (.ops [⟨(some 35), .mv (.tmp 1), none⟩,
   ⟨(some 36), .nilCheck (.tmp 35), none⟩,
   ⟨(some 37), .off 0 (.tmp 36), none⟩,
   ⟨(some 38), .load1 (.tmp 37), none⟩])
 (.block 0 (.seq (.ops [⟨(some 40), .bin .eql (.tmp 38) (.const (.string ⟨#[110, 97, 109, 101]⟩)), none⟩,
    ⟨(some 39), .mv (.tmp 40), none⟩])
  (.cond (.tmp 39) (.seq (.ops [⟨(some 41), .mv (.tmp 0), none⟩,
    ⟨(some 42), .nilCheck (.tmp 41), none⟩,
    ⟨(some 43), .off 1 (.tmp 42), none⟩,
    ⟨(some 44), .load1 (.tmp 43), none⟩,
    ⟨(some 45), .mv (.tmp 1), none⟩,
    ⟨(some 46), .nilCheck (.tmp 45), none⟩,
    ⟨(some 47), .off 1 (.tmp 46), none⟩,
    ⟨(some 48), .load1 (.tmp 47), none⟩,
    ⟨(some 49), .lookup .str (agg ([(.string ⟨#[]⟩)] ++ [(.bool false)] ++ List.replicate 33 (.int .u32 0))) (.tmp 44) (.tmp 48) false, none⟩,
    ⟨none, .store 35 (.tmp 4) (.tmp 49), none⟩])
  .ret) (.seq (.ops [⟨(some 51), .bin .eql (.tmp 38) (.const (.string ⟨#[40]⟩)), none⟩,
    ⟨(some 50), .mv (.tmp 51), none⟩])
  (.cond (.tmp 50) (.seq (.ops [⟨(some 52), .load 35 (.tmp 5), none⟩,
    ⟨none, .store 35 (.tmp 4) (.tmp 52), none⟩])
  .ret) (.seq (.ops [⟨(some 54), .bin .eql (.tmp 38) (.const (.string ⟨#[124]⟩)), none⟩,
    ⟨(some 53), .mv (.tmp 54), none⟩])
  (.cond (.tmp 53) (.ops [⟨(some 55), .off 2 (.tmp 5), none⟩,
    ⟨(some 56), .load1 (.tmp 55), none⟩,
    ⟨(some 57), .off 2 (.tmp 6), none⟩,
    ⟨(some 58), .load1 (.tmp 57), none⟩,
    ⟨(some 59), .bin .or (.tmp 56) (.tmp 58), none⟩,
    ⟨(some 60), .off 3 (.tmp 5), none⟩,
    ⟨(some 61), .load 32 (.tmp 60), none⟩,
    ⟨(some 62), .off 3 (.tmp 6), none⟩,
    ⟨(some 63), .load 32 (.tmp 62), none⟩,
    ⟨(some 64), .mkRow (List.replicate 32 (.int .u32 0)) 2 [(0, 32, (.tmp 61)), (32, 32, (.tmp 63))], none⟩,
    ⟨(some 66), .off 2 (.tmp 7), none⟩,
    ⟨(some 65), .call zai [(.tmp 64)], none⟩,
    ⟨none, .again1 (.tmp 55) 56, none⟩,
    ⟨none, .again1 (.tmp 57) 58, none⟩,
    ⟨none, .store1 (.tmp 66) (.tmp 59), none⟩,
    ⟨(some 67), .off 3 (.tmp 7), none⟩,
    ⟨none, .store 32 (.tmp 67) (.tmp 65), none⟩]) (.seq (.ops [⟨(some 69), .bin .eql (.tmp 38) (.const (.string ⟨#[38]⟩)), none⟩,
    ⟨(some 68), .mv (.tmp 69), none⟩])
  (.cond (.tmp 68) (.ops [⟨(some 70), .off 2 (.tmp 5), none⟩,
    ⟨(some 71), .load1 (.tmp 70), none⟩,
    ⟨(some 72), .off 2 (.tmp 6), none⟩,
    ⟨(some 73), .load1 (.tmp 72), none⟩,
    ⟨(some 74), .bin .and (.tmp 71) (.tmp 73), none⟩,
    ⟨(some 75), .off 3 (.tmp 5), none⟩,
    ⟨(some 76), .load 32 (.tmp 75), none⟩,
    ⟨(some 77), .off 3 (.tmp 6), none⟩,
    ⟨(some 78), .load 32 (.tmp 77), none⟩,
    ⟨(some 79), .mkRow (List.replicate 32 (.int .u32 0)) 2 [(0, 32, (.tmp 76)), (32, 32, (.tmp 78))], none⟩,
    ⟨(some 81), .off 2 (.tmp 7), none⟩,
    ⟨(some 80), .call zci [(.tmp 79)], none⟩,
    ⟨none, .again1 (.tmp 70) 71, none⟩,
    ⟨none, .again1 (.tmp 72) 73, none⟩,
    ⟨none, .store1 (.tmp 81) (.tmp 74), none⟩,
    ⟨(some 82), .off 3 (.tmp 7), none⟩,
    ⟨none, .store 32 (.tmp 82) (.tmp 80), none⟩]) (.seq (.ops [⟨(some 84), .bin .eql (.tmp 38) (.const (.string ⟨#[92]⟩)), none⟩,
    ⟨(some 83), .mv (.tmp 84), none⟩])
  (.cond (.tmp 83) (.ops [⟨(some 85), .off 2 (.tmp 5), none⟩,
    ⟨(some 86), .load1 (.tmp 85), none⟩,
    ⟨(some 87), .off 2 (.tmp 6), none⟩,
    ⟨(some 88), .load1 (.tmp 87), none⟩,
    ⟨(some 89), .bin .andNot (.tmp 86) (.tmp 88), none⟩,
    ⟨(some 90), .off 3 (.tmp 5), none⟩,
    ⟨(some 91), .load 32 (.tmp 90), none⟩,
    ⟨(some 92), .off 3 (.tmp 6), none⟩,
    ⟨(some 93), .load 32 (.tmp 92), none⟩,
    ⟨(some 95), .off 2 (.tmp 7), none⟩,
    ⟨(some 94), .call zha [(.tmp 91), (.tmp 93)], none⟩,
    ⟨none, .again1 (.tmp 85) 86, none⟩,
    ⟨none, .again1 (.tmp 87) 88, none⟩,
    ⟨none, .store1 (.tmp 95) (.tmp 89), none⟩,
    ⟨(some 96), .off 3 (.tmp 7), none⟩,
    ⟨none, .store 32 (.tmp 96) (.tmp 94), none⟩]) (.seq (.ops [⟨(some 98), .bin .eql (.tmp 38) (.const (.string ⟨#[59]⟩)), none⟩,
    ⟨(some 97), .mv (.tmp 98), none⟩])
  (.cond (.tmp 97) (.ops [⟨(some 99), .off 3 (.tmp 5), none⟩,
    ⟨(some 100), .load 32 (.tmp 99), none⟩,
    ⟨(some 101), .off 3 (.tmp 6), none⟩,
    ⟨(some 102), .load 32 (.tmp 101), none⟩,
    ⟨(some 103), .mkRow (List.replicate 32 (.int .u32 0)) 2 [(0, 32, (.tmp 100)), (32, 32, (.tmp 102))], none⟩,
    ⟨(some 104), .call ziw [(.tmp 103)], none⟩,
    ⟨(some 105), .off 3 (.tmp 7), none⟩,
    ⟨none, .store 32 (.tmp 105) (.tmp 104), none⟩]) (.seq (.ops [⟨(some 107), .bin .eql (.tmp 38) (.const (.string ⟨#[120]⟩)), none⟩,
    ⟨(some 106), .mv (.tmp 107), none⟩])
  (.cond (.tmp 106) (.ops [⟨(some 108), .off 2 (.tmp 5), none⟩,
    ⟨(some 109), .load1 (.tmp 108), none⟩,
    ⟨(some 110), .off 2 (.tmp 6), none⟩,
    ⟨(some 111), .load1 (.tmp 110), none⟩,
    ⟨(some 112), .call zcx [(.tmp 109), (.tmp 111)], none⟩,
    ⟨(some 113), .off 3 (.tmp 7), none⟩,
    ⟨none, .store 32 (.tmp 113) (.tmp 112), none⟩]) (.seq (.ops [⟨(some 115), .bin .eql (.tmp 38) (.const (.string ⟨#[91]⟩)), none⟩,
    ⟨(some 114), .mv (.tmp 115), none⟩])
  (.cond (.tmp 114) (.ops [⟨(some 116), .off 2 (.tmp 5), none⟩,
    ⟨(some 117), .load1 (.tmp 116), none⟩,
    ⟨(some 118), .call zca [(.tmp 117)], none⟩,
    ⟨(some 119), .off 3 (.tmp 7), none⟩,
    ⟨none, .store 32 (.tmp 119) (.tmp 118), none⟩]) (.seq (.ops [⟨(some 121), .bin .eql (.tmp 38) (.const (.string ⟨#[43]⟩)), none⟩,
    ⟨(some 120), .mv (.tmp 121), none⟩])
  (.cond (.tmp 120) (.ops [⟨(some 122), .off 3 (.tmp 5), none⟩,
    ⟨(some 123), .load 32 (.tmp 122), none⟩,
    ⟨(some 124), .call zec [(.tmp 123)], none⟩,
    ⟨(some 125), .off 3 (.tmp 7), none⟩,
    ⟨none, .store 32 (.tmp 125) (.tmp 124), none⟩]) (.seq (.ops [⟨(some 127), .bin .eql (.tmp 38) (.const (.string ⟨#[42]⟩)), none⟩,
    ⟨(some 126), .mv (.tmp 127), none⟩])
  (.cond (.tmp 126) (.ops [⟨(some 128), .mv (.tmp 0), none⟩,
    ⟨(some 129), .nilCheck (.tmp 128), none⟩,
    ⟨(some 130), .off 0 (.tmp 129), none⟩,
    ⟨(some 131), .load1 (.tmp 130), none⟩,
    ⟨(some 132), .off 3 (.tmp 5), none⟩,
    ⟨(some 133), .load 32 (.tmp 132), none⟩,
    ⟨(some 134), .call zix [(.tmp 131), (.tmp 133)], none⟩,
    ⟨(some 135), .off 3 (.tmp 7), none⟩,
    ⟨none, .store 32 (.tmp 135) (.tmp 134), none⟩]) (.seq (.ops [⟨(some 137), .bin .eql (.tmp 38) (.const (.string ⟨#[63]⟩)), none⟩,
    ⟨(some 136), .mv (.tmp 137), none⟩])
  (.cond (.tmp 136) (.ops [⟨(some 138), .mv (.tmp 0), none⟩,
    ⟨(some 139), .nilCheck (.tmp 138), none⟩,
    ⟨(some 140), .off 0 (.tmp 139), none⟩,
    ⟨(some 141), .load1 (.tmp 140), none⟩,
    ⟨(some 142), .off 3 (.tmp 5), none⟩,
    ⟨(some 143), .load 32 (.tmp 142), none⟩,
    ⟨(some 144), .call zhj [(.tmp 141), (.tmp 143)], none⟩,
    ⟨(some 145), .off 3 (.tmp 7), none⟩,
    ⟨none, .store 32 (.tmp 145) (.tmp 144), none⟩]) (.seq (.ops [⟨(some 147), .bin .eql (.tmp 38) (.const (.string ⟨#[94]⟩)), none⟩,
    ⟨(some 146), .mv (.tmp 147), none⟩])
  (.cond (.tmp 146) (.ops [⟨(some 148), .off 3 (.tmp 5), none⟩,
    ⟨(some 149), .load 32 (.tmp 148), none⟩,
    ⟨(some 150), .call zex [(.tmp 149)], none⟩,
    ⟨(some 151), .off 3 (.tmp 7), none⟩,
    ⟨none, .store 32 (.tmp 151) (.tmp 150), none⟩]) .skip))))))))))))))))))))))))))
 (.seq (.ops [⟨(some 152), .load 35 (.tmp 7), none⟩,
   ⟨none, .store 35 (.tmp 4) (.tmp 152), none⟩])
 .ret)))))))⟩
def zb0 : vt := ⟨25, [.tmp 6],
 (.seq (.ops [⟨(some 5), .box 35 (.tmp 2), none⟩,
   ⟨(some 6), .mv (.const (.bool false)), none⟩])
 (.seq (.ops [⟨(some 8), .mv (.tmp 1), none⟩,
   ⟨(some 9), .off 0 (.tmp 5), none⟩,
   ⟨none, .store1 (.tmp 9) (.tmp 8), none⟩])
 (.seq (.ops [⟨(some 10), .mv (.tmp 0), none⟩,
   ⟨(some 11), .nilCheck (.tmp 10), none⟩,
   ⟨(some 12), .off 1 (.tmp 11), none⟩,
   ⟨(some 13), .load1 (.tmp 12), none⟩,
   ⟨(some 14), .mv (.tmp 1), none⟩,
   ⟨(some 15), .lookup .str (agg ([(.string ⟨#[]⟩)] ++ [(.bool false)] ++ List.replicate 33 (.int .u32 0))) (.tmp 13) (.tmp 14) false, none⟩,
   ⟨(some 16), .load 35 (.tmp 5), none⟩,
   ⟨(some 17), .eqAgg true ([.str] ++ [.bool] ++ List.replicate 33 .int) (.tmp 15) (.tmp 16), none⟩,
   ⟨(some 7), .mv (.tmp 17), none⟩])
 (.seq (.ops [⟨(some 18), .mv (.tmp 0), none⟩,
   ⟨(some 19), .nilCheck (.tmp 18), none⟩,
   ⟨(some 20), .off 1 (.tmp 19), none⟩,
   ⟨(some 21), .load1 (.tmp 20), none⟩,
   ⟨(some 22), .mv (.tmp 1), none⟩,
   ⟨(some 23), .load 35 (.tmp 5), none⟩,
   ⟨none, .update .str (.tmp 21) (.tmp 22) (.tmp 23), none⟩])
 (.seq (.ops [⟨(some 24), .mv (.tmp 7), none⟩,
   ⟨(some 6), .mv (.tmp 24), none⟩])
 .ret)))))⟩
def zim : vt := ⟨6, [.tmp 2],
 (.seq (.ops [⟨(some 1), .box 32 (.tmp 0), none⟩,
   ⟨(some 2), .mv (.const (.bool false)), none⟩])
 (.seq (.ops [⟨(some 3), .load 32 (.tmp 1), none⟩,
   ⟨(some 4), .call zec [(.tmp 3)], none⟩,
   ⟨(some 5), .call pd [(.tmp 4)], none⟩,
   ⟨(some 2), .mv (.tmp 5), none⟩])
 .ret))⟩
def zd2 : vt := ⟨8, [.tmp 2],
 (.seq (.ops [⟨(some 1), .box 32 (.tmp 0), none⟩,
   ⟨(some 2), .mv (.const (.bool false)), none⟩])
 (.seq (.ops [⟨(some 3), .load 32 (.tmp 1), none⟩,
   ⟨(some 4), .call zca [(.const (.int .u32 4294967295))], none⟩,
   ⟨none, .again 32 (.tmp 1) 3, none⟩,
   ⟨(some 5), .mkRow (List.replicate 32 (.int .u32 0)) 2 [(0, 32, (.tmp 3)), (32, 32, (.tmp 4))], none⟩,
   ⟨(some 6), .call zci [(.tmp 5)], none⟩,
   ⟨(some 7), .call zfc [(.tmp 6)], none⟩,
   ⟨(some 2), .mv (.tmp 7), none⟩])
 .ret))⟩
def zmd : vt := ⟨6, [.tmp 2],
 (.seq (.ops [⟨(some 1), .box 32 (.tmp 0), none⟩,
   ⟨(some 2), .mv (.const (.bool false)), none⟩])
 (.seq (.ops [⟨(some 3), .load 32 (.tmp 1), none⟩,
   ⟨(some 4), .build (List.replicate 32 (.int .u32 0)) [], none⟩,
   ⟨(some 5), .eqAgg false (List.replicate 32 .int) (.tmp 3) (.tmp 4), none⟩,
   ⟨(some 2), .mv (.tmp 5), none⟩])
 .ret))⟩
def jv : vt := ⟨18, [.tmp 4],
 (.seq (.ops [⟨(some 4), .mv (.const (.bool false)), none⟩])
 (.seq (.ops [⟨(some 5), .mv (.tmp 0), none⟩,
   ⟨(some 6), .lenStr (.tmp 5), none⟩,
   ⟨(some 7), .mv (.tmp 1), none⟩,
   ⟨(some 8), .lenStr (.tmp 7), none⟩,
   ⟨(some 9), .bin .geq (.tmp 6) (.tmp 8), none⟩,
   ⟨(some 10), .mv (.tmp 9), none⟩,
   ⟨(some 11), .mv (.tmp 0), (some (10, true))⟩,
   ⟨(some 12), .mv (.tmp 1), (some (10, true))⟩,
   ⟨(some 13), .lenStr (.tmp 12), (some (10, true))⟩,
   ⟨(some 14), .sliceStr (.tmp 11) none (some (.tmp 13)), (some (10, true))⟩,
   ⟨(some 15), .mv (.tmp 1), (some (10, true))⟩,
   ⟨(some 16), .bin .eql (.tmp 14) (.tmp 15), (some (10, true))⟩,
   ⟨(some 17), .pick (.tmp 10) (.tmp 16) (.const (.bool false)), none⟩,
   ⟨(some 4), .mv (.tmp 17), none⟩])
 .ret))⟩
def zcr : vt := ⟨11, [.tmp 4, .tmp 5],
 (.seq (.ops [⟨(some 4), .mv (.const (.string ⟨#[]⟩)), none⟩,
   ⟨(some 5), .mv (.const (.bool false)), none⟩])
 (.seq (.ops [⟨(some 6), .mv (.tmp 0), none⟩,
   ⟨(some 7), .mv (.tmp 1), none⟩,
   ⟨(some 8), .call jw [(.tmp 6), (.tmp 7)], none⟩,
   ⟨(some 9), .extract (.tmp 8) 0, none⟩,
   ⟨(some 10), .extract (.tmp 8) 1, none⟩,
   ⟨(some 4), .mv (.tmp 9), none⟩,
   ⟨(some 5), .mv (.tmp 10), none⟩])
 .ret))⟩
def zdn : vt := ⟨9, [.tmp 4],
 (.seq (.ops [⟨(some 4), .mv (.const (.bool false)), none⟩])
 (.seq (.ops [⟨(some 5), .mv (.tmp 0), none⟩,
   ⟨(some 6), .mv (.tmp 1), none⟩,
   ⟨(some 7), .call zas [(.tmp 5), (.tmp 6)], none⟩,
   ⟨(some 8), .bin .geq (.tmp 7) (.const (.int .i64 0)), none⟩,
   ⟨(some 4), .mv (.tmp 8), none⟩])
 .ret))⟩
def zaa : vt := ⟨38, [.tmp 2],
 (.seq (.ops [⟨(some 2), .mv (.const (.int .i64 0)), none⟩])
 (.seq (.seq (.ops [⟨(some 7), .mv (.tmp 0), none⟩,
   ⟨(some 8), .call bq [(.tmp 7)], none⟩,
   ⟨(some 6), .mv (.tmp 8), none⟩,
   ⟨(some 9), .extract (.tmp 6) 0, none⟩,
   ⟨(some 10), .extract (.tmp 6) 1, none⟩,
   ⟨(some 3), .alloc [(.int .i64 0), (.string ⟨#[]⟩), (.int .i64 0), (.int .i64 0)], none⟩,
   ⟨none, .store 4 (.tmp 3) (.tmp 9), none⟩,
   ⟨(some 4), .mv (.tmp 10), none⟩])
 (.seq (.ops [⟨(some 11), .mv (.tmp 4), none⟩])
 (.cond (.tmp 11) (.seq (.ops [⟨(some 12), .off 3 (.tmp 3), none⟩,
   ⟨(some 13), .load1 (.tmp 12), none⟩,
   ⟨(some 2), .mv (.tmp 13), none⟩])
 .ret) .skip)))
 (.seq (.seq (.ops [⟨(some 14), .mv (.tmp 0), none⟩,
   ⟨(some 15), .nilCheck (.tmp 14), none⟩,
   ⟨(some 16), .off 0 (.tmp 15), none⟩,
   ⟨(some 17), .load1 (.tmp 16), none⟩,
   ⟨(some 18), .len (.tmp 17), none⟩,
   ⟨(some 19), .bin .eql (.tmp 18) (.const (.int .i64 0)), none⟩])
 (.cond (.tmp 19) (.seq (.ops [⟨(some 2), .mv (.const (.int .i64 0)), none⟩])
 .ret) .skip))
 (.seq (.ops [⟨(some 20), .mv (.tmp 0), none⟩,
   ⟨(some 21), .nilCheck (.tmp 20), none⟩,
   ⟨(some 22), .off 0 (.tmp 21), none⟩,
   ⟨(some 23), .load1 (.tmp 22), none⟩,
   ⟨(some 24), .mv (.tmp 0), none⟩,
   ⟨(some 25), .nilCheck (.tmp 24), none⟩,
   ⟨(some 26), .off 0 (.tmp 25), none⟩,
   ⟨(some 27), .load1 (.tmp 26), none⟩,
   ⟨(some 28), .len (.tmp 27), none⟩,
   ⟨(some 29), .bin .sub (.tmp 28) (.const (.int .i64 1)), none⟩,
   ⟨(some 30), .atRow 4 (.tmp 23) (.tmp 29), none⟩,
   ⟨(some 31), .load 4 (.tmp 30), none⟩,
   ⟨(some 5), .alloc [(.int .i64 0), (.string ⟨#[]⟩), (.int .i64 0), (.int .i64 0)], none⟩,
   ⟨none, .store 4 (.tmp 5) (.tmp 31), none⟩])
 (.seq (.ops [⟨(some 32), .off 3 (.tmp 5), none⟩,
   ⟨(some 33), .load1 (.tmp 32), none⟩,
   ⟨(some 34), .off 1 (.tmp 5), none⟩,
   ⟨(some 35), .load1 (.tmp 34), none⟩,
   ⟨(some 36), .lenStr (.tmp 35), none⟩,
   ⟨(some 37), .bin .add (.tmp 33) (.tmp 36), none⟩,
   ⟨(some 2), .mv (.tmp 37), none⟩])
 .ret)))))⟩
def zbf : vt := ⟨32, [.cells 4 4],
 (.seq (.ops [⟨(some 4), .alloc [(.int .i64 0), (.string ⟨#[]⟩), (.int .i64 0), (.int .i64 0)], none⟩])
 (.seq (.seq (.ops [⟨(some 5), .mv (.tmp 1), none⟩,
   ⟨(some 6), .mv (.tmp 0), none⟩,
   ⟨(some 7), .nilCheck (.tmp 6), none⟩,
   ⟨(some 8), .off 0 (.tmp 7), none⟩,
   ⟨(some 9), .load1 (.tmp 8), none⟩,
   ⟨(some 10), .call jp [(.tmp 9)], none⟩,
   ⟨(some 11), .bin .geq (.tmp 5) (.tmp 10), none⟩])
 (.cond (.tmp 11) (.seq (.ops [⟨(some 12), .build [(.int .i64 0), (.string ⟨#[]⟩), (.int .i64 0), (.int .i64 0)] [], none⟩,
   ⟨none, .store 4 (.tmp 4) (.tmp 12), none⟩])
 .ret) .skip))
 (.seq (.ops [⟨(some 13), .mv (.tmp 0), none⟩,
   ⟨(some 14), .nilCheck (.tmp 13), none⟩,
   ⟨(some 15), .off 1 (.tmp 14), none⟩,
   ⟨(some 16), .load1 (.tmp 15), none⟩,
   ⟨(some 17), .mv (.tmp 0), none⟩,
   ⟨(some 18), .nilCheck (.tmp 17), none⟩,
   ⟨(some 19), .off 1 (.tmp 18), none⟩,
   ⟨(some 20), .load1 (.tmp 19), none⟩,
   ⟨(some 21), .len (.tmp 20), none⟩,
   ⟨(some 22), .mv (.tmp 0), none⟩,
   ⟨(some 23), .nilCheck (.tmp 22), none⟩,
   ⟨(some 24), .off 0 (.tmp 23), none⟩,
   ⟨(some 25), .load1 (.tmp 24), none⟩,
   ⟨(some 28), .mv (.tmp 1), none⟩,
   ⟨(some 26), .call jp [(.tmp 25)], none⟩,
   ⟨none, .again1 (.tmp 15) 16, none⟩,
   ⟨none, .again1 (.tmp 19) 20, none⟩,
   ⟨(some 27), .bin .sub (.tmp 21) (.tmp 26), none⟩,
   ⟨(some 29), .bin .add (.tmp 27) (.tmp 28), none⟩,
   ⟨(some 30), .atRow 4 (.tmp 16) (.tmp 29), none⟩,
   ⟨(some 31), .load 4 (.tmp 30), none⟩,
   ⟨none, .store 4 (.tmp 4) (.tmp 31), none⟩])
 .ret)))⟩
def zg4 : vt := ⟨6, [.tmp 2],
 (.seq (.ops [⟨(some 2), .mv (.const (.bool false)), none⟩])
 (.seq (.ops [⟨(some 3), .mkRow [(.string ⟨#[]⟩)] 7 [(0, 1, (.const (.string ⟨#[108, 101, 116]⟩))), (1, 1, (.const (.string ⟨#[114, 101, 99]⟩))), (2, 1, (.const (.string ⟨#[97, 110, 100]⟩))), (3, 1, (.const (.string ⟨#[97, 99, 121, 99, 108, 105, 99]⟩))), (4, 1, (.const (.string ⟨#[105, 114, 114, 101, 102, 108, 101, 120, 105, 118, 101]⟩))), (5, 1, (.const (.string ⟨#[101, 109, 112, 116, 121]⟩))), (6, 1, (.const (.string ⟨#[97, 115]⟩)))], none⟩,
   ⟨(some 4), .mv (.tmp 0), none⟩,
   ⟨(some 5), .call qp [(.tmp 3), (.tmp 4)], none⟩,
   ⟨(some 2), .mv (.tmp 5), none⟩])
 .ret))⟩
def zdj : vt := ⟨21, [.cells 2 4, .tmp 3],
 (.seq (.ops [⟨(some 2), .alloc [(.int .i64 0), (.string ⟨#[]⟩), (.int .i64 0), (.int .i64 0)], none⟩,
   ⟨(some 3), .mv (.const (.bool false)), none⟩])
 (.seq (.ops [⟨(some 7), .mv (.tmp 0), none⟩,
   ⟨(some 8), .call bq [(.tmp 7)], none⟩,
   ⟨(some 6), .mv (.tmp 8), none⟩,
   ⟨(some 9), .extract (.tmp 6) 0, none⟩,
   ⟨(some 10), .extract (.tmp 6) 1, none⟩,
   ⟨(some 4), .alloc [(.int .i64 0), (.string ⟨#[]⟩), (.int .i64 0), (.int .i64 0)], none⟩,
   ⟨none, .store 4 (.tmp 4) (.tmp 9), none⟩,
   ⟨(some 5), .mv (.tmp 10), none⟩])
 (.seq (.seq (.ops [⟨(some 11), .mv (.tmp 5), none⟩])
 (.cond (.tmp 11) (.ops [⟨(some 12), .mv (.tmp 0), none⟩,
   ⟨(some 13), .nilCheck (.tmp 12), none⟩,
   ⟨(some 14), .off 1 (.tmp 13), none⟩,
   ⟨(some 15), .load1 (.tmp 14), none⟩,
   ⟨(some 16), .bin .add (.tmp 15) (.const (.int .i64 1)), none⟩,
   ⟨(some 17), .nilCheck (.tmp 12), none⟩,
   ⟨(some 18), .off 1 (.tmp 17), none⟩,
   ⟨none, .store1 (.tmp 18) (.tmp 16), none⟩]) .skip))
 (.seq (.ops [⟨(some 19), .load 4 (.tmp 4), none⟩,
   ⟨(some 20), .mv (.tmp 5), none⟩,
   ⟨none, .store 4 (.tmp 2) (.tmp 19), none⟩,
   ⟨(some 3), .mv (.tmp 20), none⟩])
 .ret))))⟩
def pm : vt := ⟨47, [.tmp 6],
 (.seq (.ops [⟨(some 6), .mv (.const (.pointer none)), none⟩])
 (.seq (.ops [⟨(some 10), .mv (.tmp 1), none⟩,
   ⟨(some 11), .callv (.tmp 10) [], none⟩,
   ⟨(some 7), .mv (.tmp 11), none⟩])
 (.seq (.block 0 (.loop (.seq (.seq (.ops [⟨(some 12), .mv (.tmp 0), none⟩,
     ⟨(some 13), .call xw [(.tmp 12)], none⟩,
     ⟨(some 14), .mv (.tmp 13), none⟩,
     ⟨(some 15), .mv (.tmp 0), (some (14, true))⟩,
     ⟨(some 16), .call qo [(.tmp 15), (.const (.int .i64 0))], (some (14, true))⟩,
     ⟨(some 17), .field1 0 (.tmp 16), (some (14, true))⟩,
     ⟨(some 18), .bin .eql (.tmp 17) (.const (.int .i64 3)), (some (14, true))⟩,
     ⟨(some 19), .pick (.tmp 14) (.tmp 18) (.const (.bool false)), none⟩,
     ⟨(some 20), .mv (.tmp 19), none⟩,
     ⟨(some 21), .mv (.tmp 2), (some (20, true))⟩,
     ⟨(some 22), .mv (.tmp 0), (some (20, true))⟩,
     ⟨(some 23), .call qo [(.tmp 22), (.const (.int .i64 0))], (some (20, true))⟩,
     ⟨(some 24), .field1 1 (.tmp 23), (some (20, true))⟩,
     ⟨(some 25), .call qp [(.tmp 21), (.tmp 24)], (some (20, true))⟩,
     ⟨(some 26), .pick (.tmp 20) (.tmp 25) (.const (.bool false)), none⟩])
   (.cond (.tmp 26) .skip (.exit 0)))
   (.block 1 (.seq (.ops [⟨(some 28), .mv (.tmp 0), none⟩,
      ⟨(some 29), .nilCheck (.tmp 28), none⟩,
      ⟨(some 30), .off 0 (.tmp 29), none⟩,
      ⟨(some 31), .load1 (.tmp 30), none⟩,
      ⟨(some 32), .call wy [(.tmp 31)], none⟩,
      ⟨(some 27), .mv (.tmp 32), none⟩,
      ⟨(some 33), .extract (.tmp 27) 0, none⟩,
      ⟨(some 34), .extract (.tmp 27) 1, none⟩,
      ⟨(some 8), .alloc [(.int .i64 0), (.string ⟨#[]⟩), (.int .i64 0), (.int .i64 0)], none⟩,
      ⟨none, .store 4 (.tmp 8) (.tmp 33), none⟩,
      ⟨(some 9), .mv (.tmp 34), none⟩])
    (.ops [⟨(some 35), .off 1 (.tmp 8), none⟩,
      ⟨(some 36), .load1 (.tmp 35), none⟩,
      ⟨(some 37), .mv (.tmp 7), none⟩,
      ⟨(some 38), .nilCheck (.tmp 37), none⟩,
      ⟨(some 39), .off 2 (.tmp 38), none⟩,
      ⟨(some 40), .load1 (.tmp 39), none⟩,
      ⟨(some 41), .mv (.tmp 7), none⟩,
      ⟨(some 42), .mv (.tmp 1), none⟩,
      ⟨(some 43), .callv (.tmp 42) [], none⟩,
      ⟨none, .again1 (.tmp 35) 36, none⟩,
      ⟨none, .again1 (.tmp 39) 40, none⟩,
      ⟨(some 44), .build [(.string ⟨#[]⟩), (.string ⟨#[]⟩), (.int .i64 0), (.pointer none), (.pointer none), (.bool false)] [(0, 1, (.tmp 36)), (2, 1, (.tmp 40)), (3, 1, (.tmp 41)), (4, 1, (.tmp 43))], none⟩,
      ⟨(some 45), .box 6 (.tmp 44), none⟩,
      ⟨(some 7), .mv (.tmp 45), none⟩]))))))
 (.seq (.ops [⟨(some 46), .mv (.tmp 7), none⟩,
   ⟨(some 6), .mv (.tmp 46), none⟩])
 .ret))))⟩
def za0 : vt := ⟨8, [.tmp 2],
 (.seq (.ops [⟨(some 2), .mv (.const (.pointer none)), none⟩])
 (.seq (.ops [⟨(some 3), .mv (.tmp 0), none⟩,
   ⟨(some 4), .mv (.tmp 0), none⟩,
   ⟨(some 5), .func kq [(.tmp 4)] [], none⟩,
   ⟨(some 6), .mkRow [(.string ⟨#[]⟩)] 2 [(0, 1, (.const (.string ⟨#[38]⟩))), (1, 1, (.const (.string ⟨#[92]⟩)))], none⟩,
   ⟨(some 7), .call qr [(.tmp 3), (.tmp 5), (.tmp 6)], none⟩,
   ⟨(some 2), .mv (.tmp 7), none⟩])
 .ret))⟩
def g7 : vt := ⟨20, [],
 (.seq (.ops [⟨(some 5), .mv (.tmp 0), none⟩,
   ⟨(some 6), .nilCheck (.tmp 5), none⟩,
   ⟨(some 7), .off 5 (.tmp 6), none⟩,
   ⟨(some 8), .load1 (.tmp 7), none⟩,
   ⟨(some 9), .mv (.tmp 1), none⟩,
   ⟨(some 10), .eqv true .bool (.tmp 8) (.tmp 9), none⟩])
 (.cond (.tmp 10) (.ops [⟨(some 11), .load1 (.tmp 2), none⟩,
   ⟨(some 12), .nilCheck (.tmp 11), none⟩,
   ⟨(some 13), .off 0 (.tmp 12), none⟩,
   ⟨(some 14), .load1 (.tmp 13), none⟩,
   ⟨(some 15), .mv (.tmp 0), none⟩,
   ⟨(some 16), .nilCheck (.tmp 15), none⟩,
   ⟨(some 17), .off 2 (.tmp 16), none⟩,
   ⟨(some 18), .load1 (.tmp 17), none⟩,
   ⟨(some 19), .call x8 [(.tmp 14), (.const (.int .i64 41)), (.tmp 18)], none⟩]) .skip))⟩
def ju : vt := ⟨15, [.tmp 4, .tmp 5],
 (.seq (.ops [⟨(some 4), .mv (.const (.string ⟨#[]⟩)), none⟩,
   ⟨(some 5), .mv (.const (.bool false)), none⟩])
 (.seq (.seq (.ops [⟨(some 6), .mv (.tmp 0), none⟩,
   ⟨(some 7), .mv (.tmp 1), none⟩,
   ⟨(some 8), .call v8 [(.tmp 6), (.tmp 7)], none⟩,
   ⟨(some 9), .un .not (.tmp 8), none⟩])
 (.cond (.tmp 9) (.seq (.ops [⟨(some 10), .mv (.tmp 0), none⟩,
   ⟨(some 4), .mv (.tmp 10), none⟩,
   ⟨(some 5), .mv (.const (.bool false)), none⟩])
 .ret) .skip))
 (.seq (.ops [⟨(some 11), .mv (.tmp 0), none⟩,
   ⟨(some 12), .mv (.tmp 1), none⟩,
   ⟨(some 13), .lenStr (.tmp 12), none⟩,
   ⟨(some 14), .sliceStr (.tmp 11) (some (.tmp 13)) none, none⟩,
   ⟨(some 4), .mv (.tmp 14), none⟩,
   ⟨(some 5), .mv (.const (.bool true)), none⟩])
 .ret)))⟩
def zaz : vt := ⟨25, [.cells 2 4, .tmp 3],
 (.seq (.ops [⟨(some 2), .alloc [(.int .i64 0), (.string ⟨#[]⟩), (.int .i64 0), (.int .i64 0)], none⟩,
   ⟨(some 3), .mv (.const (.bool false)), none⟩])
 (.seq (.seq (.ops [⟨(some 4), .mv (.tmp 0), none⟩,
   ⟨(some 5), .nilCheck (.tmp 4), none⟩,
   ⟨(some 6), .off 1 (.tmp 5), none⟩,
   ⟨(some 7), .load1 (.tmp 6), none⟩,
   ⟨(some 8), .mv (.tmp 0), none⟩,
   ⟨(some 9), .nilCheck (.tmp 8), none⟩,
   ⟨(some 10), .off 0 (.tmp 9), none⟩,
   ⟨(some 11), .load1 (.tmp 10), none⟩,
   ⟨(some 12), .len (.tmp 11), none⟩,
   ⟨(some 13), .bin .eql (.tmp 7) (.tmp 12), none⟩])
 (.cond (.tmp 13) (.seq (.ops [⟨(some 14), .build [(.int .i64 0), (.string ⟨#[]⟩), (.int .i64 0), (.int .i64 0)] [], none⟩,
   ⟨none, .store 4 (.tmp 2) (.tmp 14), none⟩,
   ⟨(some 3), .mv (.const (.bool false)), none⟩])
 .ret) .skip))
 (.seq (.ops [⟨(some 15), .mv (.tmp 0), none⟩,
   ⟨(some 16), .nilCheck (.tmp 15), none⟩,
   ⟨(some 17), .off 0 (.tmp 16), none⟩,
   ⟨(some 18), .load1 (.tmp 17), none⟩,
   ⟨(some 19), .mv (.tmp 0), none⟩,
   ⟨(some 20), .nilCheck (.tmp 19), none⟩,
   ⟨(some 21), .off 1 (.tmp 20), none⟩,
   ⟨(some 22), .load1 (.tmp 21), none⟩,
   ⟨(some 23), .atRow 4 (.tmp 18) (.tmp 22), none⟩,
   ⟨(some 24), .load 4 (.tmp 23), none⟩,
   ⟨none, .store 4 (.tmp 2) (.tmp 24), none⟩,
   ⟨(some 3), .mv (.const (.bool true)), none⟩])
 .ret)))⟩
def j0 : vt := ⟨9, [.tmp 4],
 (.seq (.ops [⟨(some 4), .mv (.const (.bool false)), none⟩])
 (.seq (.ops [⟨(some 5), .mv (.tmp 0), none⟩,
   ⟨(some 6), .mv (.tmp 1), none⟩,
   ⟨(some 7), .call gf [(.tmp 5), (.tmp 6)], none⟩,
   ⟨(some 8), .bin .geq (.tmp 7) (.const (.int .i64 0)), none⟩,
   ⟨(some 4), .mv (.tmp 8), none⟩])
 .ret))⟩
def za3 : vt := ⟨8, [.tmp 2],
 (.seq (.ops [⟨(some 2), .mv (.const (.pointer none)), none⟩])
 (.seq (.ops [⟨(some 3), .mv (.tmp 0), none⟩,
   ⟨(some 4), .mv (.tmp 0), none⟩,
   ⟨(some 5), .func jr [(.tmp 4)] [], none⟩,
   ⟨(some 6), .mkRow [(.string ⟨#[]⟩)] 1 [(0, 1, (.const (.string ⟨#[59]⟩)))], none⟩,
   ⟨(some 7), .call qr [(.tmp 3), (.tmp 5), (.tmp 6)], none⟩,
   ⟨(some 2), .mv (.tmp 7), none⟩])
 .ret))⟩
def bu : vt := ⟨19, [.tmp 4],
 (.seq (.ops [⟨(some 4), .mv (.const (.int .i64 0)), none⟩])
 (.seq (.seq (.ops [⟨(some 6), .mv (.tmp 0), none⟩,
   ⟨(some 7), .len (.tmp 6), none⟩,
   ⟨(some 8), .mv (.const (.int .i64 0)), none⟩])
 (.block 0 (.loop (.seq (.ops [⟨(some 9), .bin .lss (.tmp 8) (.tmp 7), none⟩])
   (.seq (.cond (.tmp 9) .skip (.exit 0))
   (.seq (.block 1 (.seq (.ops [⟨(some 10), .mv (.tmp 8), none⟩,
      ⟨(some 5), .mv (.tmp 10), none⟩])
    (.seq (.ops [⟨(some 11), .mv (.tmp 1), none⟩,
      ⟨(some 12), .mv (.tmp 0), none⟩,
      ⟨(some 13), .mv (.tmp 5), none⟩,
      ⟨(some 14), .atRow 1 (.tmp 12) (.tmp 13), none⟩,
      ⟨(some 15), .load1 (.tmp 14), none⟩,
      ⟨(some 16), .bin .eql (.tmp 11) (.tmp 15), none⟩])
    (.cond (.tmp 16) (.seq (.ops [⟨(some 17), .mv (.tmp 5), none⟩,
      ⟨(some 4), .mv (.tmp 17), none⟩])
    .ret) .skip))))
   (.ops [⟨(some 18), .bin .add (.tmp 8) (.const (.int .i64 1)), none⟩,
     ⟨(some 8), .mv (.tmp 18), none⟩])))))))
 (.seq (.ops [⟨(some 4), .mv (.const (.int .i64 (-1))), none⟩])
 .ret)))⟩
def k9 : vt := ⟨27, [.tmp 2],
 (.seq (.ops [⟨(some 2), .mv (.const (.pointer none)), none⟩])
 (.seq (.ops [⟨(some 4), .mv (.tmp 0), none⟩,
   ⟨(some 5), .call jc [(.tmp 4)], none⟩,
   ⟨(some 3), .mv (.tmp 5), none⟩])
 (.seq (.seq (.ops [⟨(some 6), .mv (.tmp 0), none⟩,
   ⟨(some 7), .call xw [(.tmp 6)], none⟩,
   ⟨(some 8), .mv (.tmp 7), none⟩,
   ⟨(some 9), .mv (.tmp 0), (some (8, true))⟩,
   ⟨(some 10), .call jm [(.tmp 9), (.const (.string ⟨#[42]⟩))], (some (8, true))⟩,
   ⟨(some 11), .pick (.tmp 8) (.tmp 10) (.const (.bool false)), none⟩])
 (.cond (.tmp 11) (.seq (.ops [⟨(some 12), .mv (.tmp 0), none⟩,
   ⟨(some 13), .nilCheck (.tmp 12), none⟩,
   ⟨(some 14), .off 0 (.tmp 13), none⟩,
   ⟨(some 15), .load1 (.tmp 14), none⟩,
   ⟨(some 16), .call wy [(.tmp 15)], none⟩])
 (.ops [⟨(some 17), .mv (.tmp 3), none⟩,
   ⟨(some 18), .nilCheck (.tmp 17), none⟩,
   ⟨(some 19), .off 2 (.tmp 18), none⟩,
   ⟨(some 20), .load1 (.tmp 19), none⟩,
   ⟨(some 21), .mv (.tmp 3), none⟩,
   ⟨(some 22), .mv (.tmp 0), none⟩,
   ⟨(some 23), .call jc [(.tmp 22)], none⟩,
   ⟨none, .again1 (.tmp 19) 20, none⟩,
   ⟨(some 24), .build [(.string ⟨#[]⟩), (.string ⟨#[]⟩), (.int .i64 0), (.pointer none), (.pointer none), (.bool false)] [(0, 1, (.const (.string ⟨#[120]⟩))), (2, 1, (.tmp 20)), (3, 1, (.tmp 21)), (4, 1, (.tmp 23))], none⟩,
   ⟨(some 25), .box 6 (.tmp 24), none⟩,
   ⟨(some 3), .mv (.tmp 25), none⟩])) .skip))
 (.seq (.ops [⟨(some 26), .mv (.tmp 3), none⟩,
   ⟨(some 2), .mv (.tmp 26), none⟩])
 .ret))))⟩
def zad : vt := ⟨87, [.tmp 2],
 (.seq (.ops [⟨(some 2), .mv (.const (.pointer none)), none⟩])
 (.seq (.ops [⟨(some 7), .mv (.tmp 0), none⟩,
   ⟨(some 8), .call gi [(.tmp 7)], none⟩,
   ⟨(some 3), .mv (.tmp 8), none⟩])
 (.seq (.block 0 (.loop (.seq (.seq (.ops [⟨(some 9), .mv (.tmp 0), none⟩,
     ⟨(some 10), .call xw [(.tmp 9)], none⟩])
   (.cond (.tmp 10) .skip (.exit 0)))
   (.block 1 (.block 2 (.seq (.ops [⟨(some 13), .mv (.tmp 0), none⟩,
       ⟨(some 14), .call jm [(.tmp 13), (.const (.string ⟨#[43]⟩))], none⟩,
       ⟨(some 15), .mv (.tmp 14), none⟩,
       ⟨(some 16), .mv (.tmp 0), (some (15, false))⟩,
       ⟨(some 17), .call jm [(.tmp 16), (.const (.string ⟨#[63]⟩))], (some (15, false))⟩,
       ⟨(some 18), .pick (.tmp 15) (.const (.bool true)) (.tmp 17), none⟩,
       ⟨(some 19), .mv (.tmp 18), none⟩,
       ⟨(some 20), .mv (.tmp 0), (some (19, false))⟩,
       ⟨(some 21), .call jm [(.tmp 20), (.const (.string ⟨#[42]⟩))], (some (19, false))⟩,
       ⟨(some 22), .mv (.tmp 21), (some (19, false))⟩,
       ⟨(some 23), .mv (.tmp 0), (some (22, true))⟩,
       ⟨(some 24), .call qo [(.tmp 23), (.const (.int .i64 1))], (some (22, true))⟩,
       ⟨(some 25), .call zft [(.tmp 24)], (some (22, true))⟩,
       ⟨(some 26), .un .not (.tmp 25), (some (22, true))⟩,
       ⟨(some 27), .pick (.tmp 22) (.tmp 26) (.const (.bool false)), (some (19, false))⟩,
       ⟨(some 28), .pick (.tmp 19) (.const (.bool true)) (.tmp 27), none⟩,
       ⟨(some 12), .mv (.tmp 28), none⟩])
     (.cond (.tmp 12) (.seq (.ops [⟨(some 30), .mv (.tmp 0), none⟩,
       ⟨(some 31), .nilCheck (.tmp 30), none⟩,
       ⟨(some 32), .off 0 (.tmp 31), none⟩,
       ⟨(some 33), .load1 (.tmp 32), none⟩,
       ⟨(some 34), .call wy [(.tmp 33)], none⟩,
       ⟨(some 29), .mv (.tmp 34), none⟩,
       ⟨(some 35), .extract (.tmp 29) 0, none⟩,
       ⟨(some 36), .extract (.tmp 29) 1, none⟩,
       ⟨(some 4), .alloc [(.int .i64 0), (.string ⟨#[]⟩), (.int .i64 0), (.int .i64 0)], none⟩,
       ⟨none, .store 4 (.tmp 4) (.tmp 35), none⟩,
       ⟨(some 5), .mv (.tmp 36), none⟩])
     (.ops [⟨(some 37), .off 1 (.tmp 4), none⟩,
       ⟨(some 38), .load1 (.tmp 37), none⟩,
       ⟨(some 39), .mv (.tmp 3), none⟩,
       ⟨(some 40), .nilCheck (.tmp 39), none⟩,
       ⟨(some 41), .off 2 (.tmp 40), none⟩,
       ⟨(some 42), .load1 (.tmp 41), none⟩,
       ⟨(some 43), .mv (.tmp 3), none⟩,
       ⟨(some 44), .build [(.string ⟨#[]⟩), (.string ⟨#[]⟩), (.int .i64 0), (.pointer none), (.pointer none), (.bool false)] [(0, 1, (.tmp 38)), (2, 1, (.tmp 42)), (3, 1, (.tmp 43))], none⟩,
       ⟨(some 45), .box 6 (.tmp 44), none⟩,
       ⟨(some 3), .mv (.tmp 45), none⟩])) (.seq (.ops [⟨(some 47), .mv (.tmp 0), none⟩,
       ⟨(some 48), .call jm [(.tmp 47), (.const (.string ⟨#[94]⟩))], none⟩,
       ⟨(some 46), .mv (.tmp 48), none⟩])
     (.cond (.tmp 46) (.seq (.ops [⟨(some 49), .mv (.tmp 0), none⟩,
       ⟨(some 50), .nilCheck (.tmp 49), none⟩,
       ⟨(some 51), .off 0 (.tmp 50), none⟩,
       ⟨(some 52), .load1 (.tmp 51), none⟩,
       ⟨(some 53), .call wy [(.tmp 52)], none⟩])
     (.seq (.ops [⟨(some 54), .mv (.tmp 0), none⟩,
       ⟨(some 55), .call vx [(.tmp 54), (.const (.string ⟨#[45]⟩))], none⟩])
     (.seq (.seq (.ops [⟨(some 56), .mv (.tmp 0), none⟩,
       ⟨(some 57), .call qo [(.tmp 56), (.const (.int .i64 0))], none⟩,
       ⟨(some 6), .alloc [(.int .i64 0), (.string ⟨#[]⟩), (.int .i64 0), (.int .i64 0)], none⟩,
       ⟨none, .store 4 (.tmp 6) (.tmp 57), none⟩])
     (.seq (.ops [⟨(some 58), .mv (.tmp 0), none⟩,
       ⟨(some 59), .call xw [(.tmp 58)], none⟩,
       ⟨(some 60), .mv (.tmp 59), none⟩,
       ⟨(some 61), .off 0 (.tmp 6), (some (60, true))⟩,
       ⟨(some 62), .load1 (.tmp 61), (some (60, true))⟩,
       ⟨(some 63), .bin .eql (.tmp 62) (.const (.int .i64 2)), (some (60, true))⟩,
       ⟨(some 64), .pick (.tmp 60) (.tmp 63) (.const (.bool false)), none⟩,
       ⟨(some 65), .mv (.tmp 64), none⟩,
       ⟨(some 66), .off 2 (.tmp 6), (some (65, true))⟩,
       ⟨(some 67), .load1 (.tmp 66), (some (65, true))⟩,
       ⟨(some 68), .bin .eql (.tmp 67) (.const (.int .i64 1)), (some (65, true))⟩,
       ⟨(some 69), .pick (.tmp 65) (.tmp 68) (.const (.bool false)), none⟩])
     (.cond (.tmp 69) (.ops [⟨(some 70), .mv (.tmp 0), none⟩,
       ⟨(some 71), .nilCheck (.tmp 70), none⟩,
       ⟨(some 72), .off 0 (.tmp 71), none⟩,
       ⟨(some 73), .load1 (.tmp 72), none⟩,
       ⟨(some 74), .call wy [(.tmp 73)], none⟩]) (.seq (.ops [⟨(some 75), .mv (.tmp 0), none⟩,
       ⟨(some 76), .call xw [(.tmp 75)], none⟩])
     (.cond (.tmp 76) (.ops [⟨(some 77), .mv (.tmp 0), none⟩,
       ⟨(some 78), .call vy [(.tmp 77)], none⟩]) .skip)))))
     (.ops [⟨(some 79), .mv (.tmp 3), none⟩,
       ⟨(some 80), .nilCheck (.tmp 79), none⟩,
       ⟨(some 81), .off 2 (.tmp 80), none⟩,
       ⟨(some 82), .load1 (.tmp 81), none⟩,
       ⟨(some 83), .mv (.tmp 3), none⟩,
       ⟨(some 84), .build [(.string ⟨#[]⟩), (.string ⟨#[]⟩), (.int .i64 0), (.pointer none), (.pointer none), (.bool false)] [(0, 1, (.const (.string ⟨#[94]⟩))), (2, 1, (.tmp 82)), (3, 1, (.tmp 83))], none⟩,
       ⟨(some 85), .box 6 (.tmp 84), none⟩,
       ⟨(some 3), .mv (.tmp 85), none⟩])))) (.seq (.ops [⟨(some 11), .mv (.tmp 3), none⟩,
       ⟨(some 2), .mv (.tmp 11), none⟩])
     .ret))))))))))
 (.seq (.ops [⟨(some 86), .mv (.tmp 3), none⟩,
   ⟨(some 2), .mv (.tmp 86), none⟩])
 .ret))))⟩
def zcn : vt := ⟨17, [.tmp 4],
 (.seq (.ops [⟨(some 4), .mv (.const (.bool false)), none⟩])
 (.seq (.ops [⟨(some 6), .mv (.tmp 0), none⟩,
   ⟨(some 7), .call qo [(.tmp 6), (.const (.int .i64 0))], none⟩,
   ⟨(some 5), .alloc [(.int .i64 0), (.string ⟨#[]⟩), (.int .i64 0), (.int .i64 0)], none⟩,
   ⟨none, .store 4 (.tmp 5) (.tmp 7), none⟩])
 (.seq (.ops [⟨(some 8), .off 0 (.tmp 5), none⟩,
   ⟨(some 9), .load1 (.tmp 8), none⟩,
   ⟨(some 10), .bin .eql (.tmp 9) (.const (.int .i64 3)), none⟩,
   ⟨(some 11), .mv (.tmp 10), none⟩,
   ⟨(some 12), .off 1 (.tmp 5), (some (11, true))⟩,
   ⟨(some 13), .load1 (.tmp 12), (some (11, true))⟩,
   ⟨(some 14), .mv (.tmp 1), (some (11, true))⟩,
   ⟨(some 15), .bin .eql (.tmp 13) (.tmp 14), (some (11, true))⟩,
   ⟨(some 16), .pick (.tmp 11) (.tmp 15) (.const (.bool false)), none⟩,
   ⟨(some 4), .mv (.tmp 16), none⟩])
 .ret)))⟩
def wx : vt := ⟨122, [.tmp 2],
 (.seq (.ops [⟨(some 2), .mv (.const (.pointer none)), none⟩])
 (.seq (.ops [⟨(some 6), .mv (.tmp 0), none⟩,
   ⟨(some 7), .call qo [(.tmp 6), (.const (.int .i64 0))], none⟩,
   ⟨(some 3), .alloc [(.int .i64 0), (.string ⟨#[]⟩), (.int .i64 0), (.int .i64 0)], none⟩,
   ⟨none, .store 4 (.tmp 3) (.tmp 7), none⟩])
 (.seq (.ops [⟨(some 8), .mv (.tmp 0), none⟩,
   ⟨(some 9), .nilCheck (.tmp 8), none⟩,
   ⟨(some 10), .off 0 (.tmp 9), none⟩,
   ⟨(some 11), .load1 (.tmp 10), none⟩,
   ⟨(some 12), .call bf [(.tmp 11)], none⟩,
   ⟨(some 13), .build [(.string ⟨#[]⟩), (.string ⟨#[]⟩), (.int .i64 0), (.pointer none), (.pointer none), (.bool false)] [(2, 1, (.tmp 12))], none⟩,
   ⟨(some 14), .box 6 (.tmp 13), none⟩,
   ⟨(some 4), .mv (.tmp 14), none⟩])
 (.seq (.block 0 (.seq (.ops [⟨(some 18), .mv (.tmp 0), none⟩,
    ⟨(some 19), .call xw [(.tmp 18)], none⟩,
    ⟨(some 20), .un .not (.tmp 19), none⟩,
    ⟨(some 17), .mv (.tmp 20), none⟩])
  (.cond (.tmp 17) .skip (.seq (.ops [⟨(some 22), .mv (.tmp 0), none⟩,
    ⟨(some 23), .call jm [(.tmp 22), (.const (.string ⟨#[40]⟩))], none⟩,
    ⟨(some 24), .mv (.tmp 23), none⟩,
    ⟨(some 25), .mv (.tmp 0), (some (24, false))⟩,
    ⟨(some 26), .call jm [(.tmp 25), (.const (.string ⟨#[91]⟩))], (some (24, false))⟩,
    ⟨(some 27), .pick (.tmp 24) (.const (.bool true)) (.tmp 26), none⟩,
    ⟨(some 21), .mv (.tmp 27), none⟩])
  (.cond (.tmp 21) (.seq (.seq (.ops [⟨(some 28), .mv (.tmp 0), none⟩,
    ⟨(some 29), .nilCheck (.tmp 28), none⟩,
    ⟨(some 30), .off 3 (.tmp 29), none⟩,
    ⟨(some 31), .load1 (.tmp 30), none⟩,
    ⟨(some 32), .bin .geq (.tmp 31) (.const (.int .i64 32)), none⟩])
  (.cond (.tmp 32) (.seq (.ops [⟨(some 33), .mv (.tmp 0), none⟩,
    ⟨(some 34), .off 3 (.tmp 3), none⟩,
    ⟨(some 35), .load1 (.tmp 34), none⟩,
    ⟨(some 36), .call x8 [(.tmp 33), (.const (.int .i64 2)), (.tmp 35)], none⟩])
  (.seq (.ops [⟨(some 37), .mv (.tmp 4), none⟩,
    ⟨(some 2), .mv (.tmp 37), none⟩])
  .ret)) .skip))
  (.seq (.ops [⟨(some 38), .mv (.tmp 0), none⟩,
    ⟨(some 39), .nilCheck (.tmp 38), none⟩,
    ⟨(some 40), .off 0 (.tmp 39), none⟩,
    ⟨(some 41), .load1 (.tmp 40), none⟩,
    ⟨(some 42), .call wy [(.tmp 41)], none⟩])
  (.seq (.ops [⟨(some 43), .mv (.tmp 0), none⟩,
    ⟨(some 44), .nilCheck (.tmp 43), none⟩,
    ⟨(some 45), .off 3 (.tmp 44), none⟩,
    ⟨(some 46), .load1 (.tmp 45), none⟩,
    ⟨(some 47), .bin .add (.tmp 46) (.const (.int .i64 1)), none⟩,
    ⟨(some 48), .nilCheck (.tmp 43), none⟩,
    ⟨(some 49), .off 3 (.tmp 48), none⟩,
    ⟨none, .store1 (.tmp 49) (.tmp 47), none⟩])
  (.seq (.ops [⟨(some 50), .mv (.tmp 0), none⟩,
    ⟨(some 51), .call xz [(.tmp 50)], none⟩,
    ⟨(some 5), .mv (.tmp 51), none⟩])
  (.seq (.ops [⟨(some 52), .mv (.tmp 0), none⟩,
    ⟨(some 53), .nilCheck (.tmp 52), none⟩,
    ⟨(some 54), .off 3 (.tmp 53), none⟩,
    ⟨(some 55), .load1 (.tmp 54), none⟩,
    ⟨(some 56), .bin .sub (.tmp 55) (.const (.int .i64 1)), none⟩,
    ⟨(some 57), .nilCheck (.tmp 52), none⟩,
    ⟨(some 58), .off 3 (.tmp 57), none⟩,
    ⟨none, .store1 (.tmp 58) (.tmp 56), none⟩])
  (.seq (.seq (.ops [⟨(some 59), .off 1 (.tmp 3), none⟩,
    ⟨(some 60), .load1 (.tmp 59), none⟩,
    ⟨(some 61), .bin .eql (.tmp 60) (.const (.string ⟨#[40]⟩)), none⟩])
  (.cond (.tmp 61) (.seq (.ops [⟨(some 62), .mv (.tmp 0), none⟩,
    ⟨(some 63), .call vx [(.tmp 62), (.const (.string ⟨#[41]⟩))], none⟩])
  (.seq (.ops [⟨(some 64), .mv (.tmp 4), none⟩,
    ⟨(some 65), .mv (.tmp 4), none⟩,
    ⟨(some 66), .mv (.tmp 5), none⟩,
    ⟨(some 67), .nilCheck (.tmp 64), none⟩,
    ⟨(some 68), .off 0 (.tmp 67), none⟩,
    ⟨none, .store1 (.tmp 68) (.const (.string ⟨#[40]⟩)), none⟩,
    ⟨(some 69), .nilCheck (.tmp 65), none⟩,
    ⟨(some 70), .off 3 (.tmp 69), none⟩,
    ⟨none, .store1 (.tmp 70) (.tmp 66), none⟩])
  (.seq (.ops [⟨(some 71), .mv (.tmp 4), none⟩,
    ⟨(some 2), .mv (.tmp 71), none⟩])
  .ret))) .skip))
  (.seq (.ops [⟨(some 72), .mv (.tmp 0), none⟩,
    ⟨(some 73), .call vx [(.tmp 72), (.const (.string ⟨#[93]⟩))], none⟩])
  (.ops [⟨(some 74), .mv (.tmp 4), none⟩,
    ⟨(some 75), .mv (.tmp 4), none⟩,
    ⟨(some 76), .mv (.tmp 5), none⟩,
    ⟨(some 77), .nilCheck (.tmp 74), none⟩,
    ⟨(some 78), .off 0 (.tmp 77), none⟩,
    ⟨none, .store1 (.tmp 78) (.const (.string ⟨#[91]⟩)), none⟩,
    ⟨(some 79), .nilCheck (.tmp 75), none⟩,
    ⟨(some 80), .off 3 (.tmp 79), none⟩,
    ⟨none, .store1 (.tmp 80) (.tmp 76), none⟩])))))))) (.seq (.ops [⟨(some 82), .off 0 (.tmp 3), none⟩,
    ⟨(some 83), .load1 (.tmp 82), none⟩,
    ⟨(some 84), .bin .eql (.tmp 83) (.const (.int .i64 2)), none⟩,
    ⟨(some 85), .mv (.tmp 84), none⟩,
    ⟨(some 86), .off 2 (.tmp 3), (some (85, true))⟩,
    ⟨(some 87), .load1 (.tmp 86), (some (85, true))⟩,
    ⟨(some 88), .bin .eql (.tmp 87) (.const (.int .i64 0)), (some (85, true))⟩,
    ⟨(some 89), .pick (.tmp 85) (.tmp 88) (.const (.bool false)), none⟩,
    ⟨(some 81), .mv (.tmp 89), none⟩])
  (.cond (.tmp 81) (.seq (.ops [⟨(some 90), .mv (.tmp 0), none⟩,
    ⟨(some 91), .nilCheck (.tmp 90), none⟩,
    ⟨(some 92), .off 0 (.tmp 91), none⟩,
    ⟨(some 93), .load1 (.tmp 92), none⟩,
    ⟨(some 94), .call wy [(.tmp 93)], none⟩])
  (.ops [⟨(some 95), .mv (.tmp 4), none⟩,
    ⟨(some 96), .nilCheck (.tmp 95), none⟩,
    ⟨(some 97), .off 0 (.tmp 96), none⟩,
    ⟨none, .store1 (.tmp 97) (.const (.string ⟨#[48]⟩)), none⟩])) (.seq (.ops [⟨(some 99), .off 0 (.tmp 3), none⟩,
    ⟨(some 100), .load1 (.tmp 99), none⟩,
    ⟨(some 101), .bin .eql (.tmp 100) (.const (.int .i64 1)), none⟩,
    ⟨(some 102), .mv (.tmp 101), none⟩,
    ⟨(some 103), .off 1 (.tmp 3), (some (102, true))⟩,
    ⟨(some 104), .load1 (.tmp 103), (some (102, true))⟩,
    ⟨(some 105), .call pz [(.tmp 104)], (some (102, true))⟩,
    ⟨(some 106), .un .not (.tmp 105), (some (102, true))⟩,
    ⟨(some 107), .pick (.tmp 102) (.tmp 106) (.const (.bool false)), none⟩,
    ⟨(some 98), .mv (.tmp 107), none⟩])
  (.cond (.tmp 98) (.seq (.ops [⟨(some 108), .mv (.tmp 0), none⟩,
    ⟨(some 109), .nilCheck (.tmp 108), none⟩,
    ⟨(some 110), .off 0 (.tmp 109), none⟩,
    ⟨(some 111), .load1 (.tmp 110), none⟩,
    ⟨(some 112), .call wy [(.tmp 111)], none⟩])
  (.ops [⟨(some 113), .mv (.tmp 4), none⟩,
    ⟨(some 114), .mv (.tmp 4), none⟩,
    ⟨(some 115), .off 1 (.tmp 3), none⟩,
    ⟨(some 116), .load1 (.tmp 115), none⟩,
    ⟨(some 117), .nilCheck (.tmp 113), none⟩,
    ⟨(some 118), .off 0 (.tmp 117), none⟩,
    ⟨none, .store1 (.tmp 118) (.const (.string ⟨#[110, 97, 109, 101]⟩)), none⟩,
    ⟨none, .again1 (.tmp 115) 116, none⟩,
    ⟨(some 119), .nilCheck (.tmp 114), none⟩,
    ⟨(some 120), .off 1 (.tmp 119), none⟩,
    ⟨none, .store1 (.tmp 120) (.tmp 116), none⟩])) (.ops [⟨(some 15), .mv (.tmp 0), none⟩,
    ⟨(some 16), .call vy [(.tmp 15)], none⟩]))))))))))
 (.seq (.ops [⟨(some 121), .mv (.tmp 4), none⟩,
   ⟨(some 2), .mv (.tmp 121), none⟩])
 .ret)))))⟩
def zbo : vt := ⟨24, [.tmp 2],
 (.seq (.ops [⟨(some 1), .box 4 (.tmp 0), none⟩,
   ⟨(some 2), .mv (.const (.bool false)), none⟩])
 (.seq (.seq (.ops [⟨(some 3), .off 0 (.tmp 1), none⟩,
   ⟨(some 4), .load1 (.tmp 3), none⟩])
 (.block 0 (.seq (.ops [⟨(some 6), .bin .eql (.tmp 4) (.const (.int .i64 1)), none⟩,
    ⟨(some 5), .mv (.tmp 6), none⟩])
  (.cond (.tmp 5) (.seq (.ops [⟨(some 7), .off 1 (.tmp 1), none⟩,
    ⟨(some 8), .load1 (.tmp 7), none⟩,
    ⟨(some 9), .call pz [(.tmp 8)], none⟩,
    ⟨(some 10), .un .not (.tmp 9), none⟩,
    ⟨(some 2), .mv (.tmp 10), none⟩])
  .ret) (.seq (.ops [⟨(some 12), .bin .eql (.tmp 4) (.const (.int .i64 3)), none⟩,
    ⟨(some 11), .mv (.tmp 12), none⟩])
  (.cond (.tmp 11) (.seq (.ops [⟨(some 13), .off 1 (.tmp 1), none⟩,
    ⟨(some 14), .load1 (.tmp 13), none⟩,
    ⟨(some 15), .bin .eql (.tmp 14) (.const (.string ⟨#[40]⟩)), none⟩,
    ⟨(some 16), .mv (.tmp 15), none⟩,
    ⟨(some 17), .off 1 (.tmp 1), (some (16, false))⟩,
    ⟨(some 18), .load1 (.tmp 17), (some (16, false))⟩,
    ⟨(some 19), .bin .eql (.tmp 18) (.const (.string ⟨#[91]⟩)), (some (16, false))⟩,
    ⟨(some 20), .pick (.tmp 16) (.const (.bool true)) (.tmp 19), none⟩,
    ⟨(some 2), .mv (.tmp 20), none⟩])
  .ret) .skip))))))
 (.seq (.ops [⟨(some 21), .off 0 (.tmp 1), none⟩,
   ⟨(some 22), .load1 (.tmp 21), none⟩,
   ⟨(some 23), .bin .eql (.tmp 22) (.const (.int .i64 2)), none⟩,
   ⟨(some 2), .mv (.tmp 23), none⟩])
 .ret)))⟩
def ords : List (Nat × List (Nat × List Nat)) := [(3, [(23, [0, 1, 2, 3, 4, 5, 6, 8, 9, 10, 11, 7, 12, 13, 14])]), (5, [(18, [0, 1, 2, 3, 4, 5, 6, 7, 8, 14, 9, 10, 11, 12, 13, 15, 16])]), (8, [(8, [0, 1, 2, 4, 5, 6, 8, 9, 11, 12, 13, 15, 16, 18, 20, 22, 23, 24, 25, 26, 28, 31, 35, 37, 38, 42, 43, 3, 7, 10, 14, 17, 19, 21, 27, 29, 30, 32, 33, 34, 36, 39, 40, 41, 44, 45, 46, 47, 48])]), (47, [(28, [0, 1, 2, 3, 5, 6, 4, 7, 8, 9, 10]), (30, [0, 1, 2, 3, 5, 6, 4, 7, 8, 9])]), (86, [(13, [0, 1, 2, 3, 4, 5, 6, 7, 8, 9, 11, 10, 12, 13, 14]), (15, [0, 1, 2, 3, 4, 5, 6, 7, 8, 9, 11, 10, 12, 13, 14]), (17, [0, 1, 2, 3, 4, 5, 6, 7, 8, 10, 9, 11, 12, 13])]), (107, [(3, [0, 1, 2, 3, 4, 5, 6, 7, 8, 9, 10, 11, 12, 15, 13, 14, 16, 17, 18, 19])]), (138, [(1, [0, 1, 3, 2, 4, 5, 6])])]
def GG : Nat := 2
noncomputable def FF : Funcs := ⟨fun f => if zls f then none else (Tryz.prog.funcs[f]?).bind (zkq Tryz.prog GG ((ords.lookup f).getD [])), known⟩
theorem zfl : FF bn = some wm := by kernel_rfl
theorem zhg : FF fz = some zcz := by kernel_rfl
theorem zhl : FF f4 = some zcp := by kernel_rfl
theorem ztv : FF fd = some ze9 := by kernel_rfl
theorem ziu : FF gw = some zdk := by kernel_rfl
theorem zkf : FF bd = some zfg := by kernel_rfl
theorem zji : FF jz = some zd9 := by kernel_rfl
theorem zgy : FF pn = some zb5 := by kernel_rfl
theorem zvs : FF zec = some zm2 := by kernel_rfl
theorem zth : FF zai = some zlo := by kernel_rfl
theorem zw8 : FF ziw = some zrd := by kernel_rfl
theorem zv2 : FF zix = some zmu := by kernel_rfl
theorem zrq : FF zhj = some zlz := by kernel_rfl
theorem zv4 : FF zci = some znb := by kernel_rfl
theorem zsw : FF zha = some zme := by kernel_rfl
theorem zs6 : FF zcx = some zl3 := by kernel_rfl
theorem yba : FF zca = some zud := by kernel_rfl
theorem zpb : FF zex = some zis := by kernel_rfl
theorem zoy : FF zez = some ze4 := by kernel_rfl
theorem zwr : FF zgi = some zn5 := by kernel_rfl
theorem zl4 : FF xw = some zfy := by kernel_rfl
theorem zif : FF jp = some zdg := by kernel_rfl
theorem zfk : FF gt = some xu := by kernel_rfl
theorem zdp : FF kb = some qt := by kernel_rfl
theorem zjb : FF pg = some zd8 := by kernel_rfl
theorem zb4 : FF ja = some k7 := by kernel_rfl
theorem yah : FF zc8 = some zre := by kernel_rfl
theorem zwb : FF zjs = some zn3 := by kernel_rfl
theorem zhv : FF gp = some zcu := by kernel_rfl
theorem zk6 : FF zas = some zfp := by kernel_rfl
theorem zpr : FF zbr = some zj7 := by kernel_rfl
theorem zvq : FF zgj = some zn6 := by kernel_rfl
theorem zmi : FF zau = some zfo := by kernel_rfl
theorem zpg : FF zay = some ziv := by kernel_rfl
theorem j5 : FF zew = some jk := by kernel_rfl
theorem zl0 : FF zax = some zfs := by kernel_rfl
theorem zho : FF zae = some zcs := by kernel_rfl
theorem zaq : FF vv = some jj := by kernel_rfl
theorem za1 : FF w7 = some g8 := by kernel_rfl
theorem zio : FF jl = some bp := by kernel_rfl
theorem zdy : FF vx = some pi := by kernel_rfl
theorem zat : FF xz = some f0 := by kernel_rfl
theorem zgx : FF vy = some pk := by kernel_rfl
theorem zh9 : FF gv = some jn := by kernel_rfl
theorem qb : FF xn = some y3 := by kernel_rfl
theorem zd0 : FF x8 = some zbg := by kernel_rfl
theorem pj : FF qe = some ku := by kernel_rfl
theorem zg7 : FF gn = some zac := by kernel_rfl
theorem gm : FF vr = some jd := by kernel_rfl
theorem zki : FF jt = some zb0 := by kernel_rfl
theorem zoc : FF zev = some zim := by kernel_rfl
theorem zi5 : FF pd = some zd2 := by kernel_rfl
theorem zse : FF zfc = some zmd := by kernel_rfl
theorem zba : FF v8 = some jv := by kernel_rfl
theorem zhd : FF zah = some zcr := by kernel_rfl
theorem zig : FF za4 = some zdn := by kernel_rfl
theorem zkd : FF bf = some zaa := by kernel_rfl
theorem zjt : FF qo = some zbf := by kernel_rfl
theorem zml : FF pz = some zg4 := by kernel_rfl
theorem zh4 : FF wy = some zdj := by kernel_rfl
theorem zb7 : FF qr = some pm := by kernel_rfl
theorem zdo : FF j9 = some za0 := by kernel_rfl
theorem bz : FF wj = some g7 := by kernel_rfl
theorem za8 : FF jw = some ju := by kernel_rfl
theorem ziq : FF bq = some zaz := by kernel_rfl
theorem zbe : FF qp = some j0 := by kernel_rfl
theorem zdc : FF kq = some za3 := by kernel_rfl
theorem zcc : FF gf = some bu := by kernel_rfl
theorem zb6 : FF jr = some k9 := by kernel_rfl
theorem zc7 : FF jc = some zad := by kernel_rfl
theorem zk7 : FF jm = some zcn := by kernel_rfl
theorem zed : FF gi = some wx := by kernel_rfl
theorem zqp : FF zft = some zbo := by kernel_rfl
/-- A string of bytes. -/
def str (l : List UInt8) : Value := .string ⟨l.toArray⟩
theorem ydm (s : ByteArray) : (.string s : Value) = str s.data.toList := by cases s; simp [str]
theorem zbn (l : List UInt8) : (⟨l.toArray⟩ : ByteArray).size = l.length := by simp [ByteArray.size]
section
variable {call : qd} (ρ : Operand → Value) (h : Heap)
def zr1 (h : Heap) : Value → Option (Value × Heap)
  | .string s => some (.int .i64 s.size, h)
  | _ => none
theorem xp (x : Operand) : evOp call ρ h (.lenStr x) = zr1 h (ρ x) := by
  simp only [evOp]; generalize ρ x = x; cases x <;> rfl
theorem ym (l : List UInt8) : zr1 h (str l) = some (.int .i64 (l.length : Int), h) := by
  unfold zr1 str; simp only; rw [zbn]
theorem zet {l : List UInt8} {k : Nat} (hk : k < l.length) (kk : IntKind) : idxO h (str l) (.int kk (k : Int)) = some (.int .u8 (l[k].toNat : Int), h) := by
  have := yc1 (h := h) (s := ⟨l.toArray⟩) (kk := kk) (k := (k : Int)) (b := l[k]) (by omega) (by simp [hk])
  exact this
def cutS (h : Heap) (lo hi : Option Value) : Value → Option (Value × Heap)
  | .string s => match za6 lo 0, za6 hi s.size with
    | some l, some k => if l ≤ k ∧ k ≤ s.size then some (.string (s.extract l k), h) else none
    | _, _ => none
  | _ => none
theorem j1 (x : Operand) (lo hi : Option Operand) : evOp call ρ h (.sliceStr x lo hi) = cutS h (lo.map ρ) (hi.map ρ) (ρ x) := by
  simp only [evOp]; generalize ρ x = x; cases x <;> rfl
theorem zl8 (l : List UInt8) (a b : Nat) : (⟨l.toArray⟩ : ByteArray).extract a b = ⟨((l.drop a).take (b - a)).toArray⟩ := by
  apply ByteArray.ext
  rw [ByteArray.data_extract]
  simp
theorem zk8 {l : List UInt8} {k : Nat} (hk : k ≤ l.length) (kk : IntKind) : cutS h (some (.int kk (k : Int))) none (str l) = some (str (l.drop k), h) := by
  unfold cutS str
  simp only [zqw, znk, zbn]
  rw [if_pos ⟨hk, Nat.le_refl _⟩, zl8, List.take_of_length_le (by simp)]
theorem yaf {l : List UInt8} {k : Nat} (hk : k ≤ l.length) (kk : IntKind) : cutS h none (some (.int kk (k : Int))) (str l) = some (str (l.take k), h) := by
  unfold cutS str
  simp only [zqw, znk, zbn]
  rw [if_pos ⟨Nat.zero_le _, hk⟩, zl8]; simp
theorem zno (a b : List UInt8) : qw .str (str a) (str b) = some (a == b) := by
  show some ((⟨a.toArray⟩ : ByteArray) == ⟨b.toArray⟩) = some (a == b)
  have e : ((⟨a.toArray⟩ : ByteArray) == ⟨b.toArray⟩) = (a.toArray == b.toArray) := rfl
  rw [e]; simp
theorem g9 (f : FuncId) (a b : List Operand) : evOp call ρ h (.func f a b) = some (.func (.func f) (a.map ρ).toArray (b.map ρ).toArray, h) := rfl
def ya8 (call : qd) (h : Heap) (xs : List Value) : Value → Option (Value × Heap)
  | .func (.func g) a b => call g (a.toList ++ xs ++ b.toList) h
  | _ => none
theorem bj (f : Operand) (xs : List Operand) : evOp call ρ h (.callv f xs) = ya8 call h (xs.map ρ) (ρ f) := by
  simp only [evOp]; generalize ρ f = x
  cases x with
  | func g a b => cases g <;> rfl
  | _ => rfl
theorem jf (xs : List Value) (g : FuncId) (a b : List Value) : ya8 call h xs (.func (.func g) a.toArray b.toArray) = call g (a ++ xs ++ b) h := by simp [ya8]
end
def digV (n : Int) : Bool := decide (48 ≤ n) && decide (n ≤ 57)
def letV (n : Int) : Bool := (decide (97 ≤ n) && decide (n ≤ 122)) || (decide (65 ≤ n) && decide (n ≤ 90))
theorem gh (n : Int) (h : Heap) : DF FF zbr [.int .u8 n] h = some (.bool (digV n), h) := by
  refine wh zpr ?_
  unfold digV
  by_cases h1 : 48 ≤ n <;> simp only [zj7, z7, xe, zb, z8, zn, ye, zc, xl, w5, zo, zf, ze, zd, List.set_cons_succ, List.set_cons_zero, O_mv, yw, xf, yu, yg, zj9, zbb, List.cons_append, List.nil_append, List.length_cons, List.length_nil, Nat.reduceSub, Nat.zero_add, Bool.true_and, Bool.false_and, zm, yb, za, zbt, zh, zg, eq_self, h1, decide_true, decide_false]
theorem gy (n : Int) (h : Heap) : DF FF zay [.int .u8 n] h = some (.bool (letV n), h) := by
  refine wh zpg ?_
  unfold letV
  by_cases h1 : 97 ≤ n <;> by_cases h2 : n ≤ 122 <;> by_cases h3 : 65 ≤ n <;> simp only [ziv, z7, xe, zb, z8, zn, ye, zc, xl, yr, w5, wi, zor, zo, zf, ze, zd, List.set_cons_succ, List.set_cons_zero, O_mv, yw, xf, yu, yg, zj9, zbb, List.cons_append, List.nil_append, List.length_cons, List.length_nil, Nat.reduceSub, Nat.zero_add, Bool.false_or, Bool.or_false, Bool.true_or, Bool.true_and, Bool.and_true, Bool.false_and, Bool.and_false, zm, yb, za, zbt, zh, zg, eq_self, h1, h2, h3, decide_true, decide_false]
def numB (n : Int) : Bool := letV n || digV n
def namB (n : Int) : Bool := numB n || (n == 95 || n == 46)
theorem ycz (n : Int) (h : Heap) : DF FF zau [.int .u8 n] h = some (.bool (numB n), h) := by
  refine wh zmi ?_
  unfold numB
  cases h1 : letV n <;> simp only [zfo, z7, xe, zb, z8, zn, ye, zc, yr, wi, zo, zf, ze, zd, List.set_cons_succ, List.set_cons_zero, O_mv, yw, xf, yf, List.map_cons, List.map_nil, List.cons_append, List.nil_append, List.length_cons, List.length_nil, Nat.reduceSub, Nat.zero_add, Bool.false_or, Bool.true_or, zm, yb, za, zbt, zh, zg, eq_self, gy, gh, h1]
theorem ycq (n : Int) (h : Heap) : DF FF zax [.int .u8 n] h = some (.bool (namB n), h) := by
  refine wh zl0 ?_
  unfold namB numB
  cases h1 : letV n <;> cases h2 : digV n <;> cases h3 : (n == 95) <;> simp only [zfs, z7, xe, zb, z8, zn, ye, zc, yr, wi, zo, zf, ze, zd, List.set_cons_succ, List.set_cons_zero, O_mv, yw, xf, yu, yg, yf, List.map_cons, List.map_nil, jy, List.cons_append, List.nil_append, List.length_cons, List.length_nil, Nat.reduceSub, Nat.zero_add, Bool.false_or, Bool.or_false, Bool.true_or, Bool.or_true, zm, yb, za, zbt, zh, zg, eq_self, gy, gh, h1, h2, h3]
def rowN (p : Int → Bool) : List UInt8 → Nat
  | [] => 0
  | c :: l => if p (c.toNat : Int) then rowN p l + 1 else 0
theorem zja (p : Int → Bool) : ∀ l, rowN p l ≤ l.length
  | [] => Nat.le_refl _
  | c :: l => by
    have := zja p l
    unfold rowN; split <;> simp <;> omega
theorem zso (p : Int → Bool) : ∀ (l : List UInt8) (k : Nat) (hk : k < l.length), k ≤ rowN p l → (p (l[k].toNat : Int) = true ↔ k < rowN p l)
  | c :: l, 0, hk, h => by
    unfold rowN
    by_cases hp : p (c.toNat : Int) = true
    · simp [hp]
    · simp [hp]
  | c :: l, k + 1, hk, h => by
    unfold rowN at h ⊢
    by_cases hp : p (c.toNat : Int) = true
    · rw [if_pos hp] at h ⊢
      have := zso p l k (by simpa using hk) (by omega)
      simp only [List.getElem_cons_succ]
      rw [this]; omega
    · rw [if_neg hp] at h; omega
theorem zm4 {F : FuncId} {p : Int → Bool} (hF : ∀ (n : Int) (h : Heap), DF FF F [.int .u8 n] h = some (.bool (p n), h)) (l : List UInt8) (hl : l.length < 4611686018427387904) (h : Heap) :
    DF FF zgj [str l, .func (.func F) #[] #[]] h = some (.int .i64 (rowN p l : Nat), h) := by
  refine wh zvq ?_
  simp only [zn6, z7, zb, z8, zn, zc, zf, List.set_cons_succ, List.set_cons_zero, O_mv, List.cons_append, List.nil_append, List.length_cons, List.length_nil, Nat.reduceAdd, Nat.reduceSub, Nat.zero_add, zm, yb, zx, za, zh, zg]
  have hle := zja p l
  have cf : ∀ (xs : List Value), ya8 (DF FF) h xs (.func (.func F) #[] #[]) = DF FF F xs h := fun xs => by
    have := jf (call := DF FF) h xs F [] []
    simpa using this
  refine pq (rowN p l) (fun k st => ∃ j : Nat → Value, st = ⟨[str l, .func (.func F) #[] #[], j 2, j 3, j 4, .int .i64 (k : Int), j 6, j 7, j 8, j 9, j 10, j 11, j 12, j 13, j 14, j 15, j 16, j 17, j 18, j 19], h⟩) ?_ ?_ _ ?_
  · rintro k st hk ⟨j, rfl⟩
    have hkl : k < l.length := by omega
    have h1 : (k : Int) < (l.length : Int) := by omega
    have hp := (zso p l k hkl (by omega)).2 hk
    simp only [z7, zr, yl, zb, zw, z8, zn, ye, zc, xl, zo, zf, ze, zd, List.set_cons_succ, List.set_cons_zero, O_mv, yw, xf, yu, yg, List.map_cons, List.map_nil, vj, xy, zm, yb, zx, za, zi, yp, xp, ym, h1, decide_true, j4, zet _ hkl, bj, cf, hF, hp, xm (k := k) (by omega)]
    exact junk rfl
  · rintro st ⟨j, rfl⟩
    by_cases hkl : rowN p l < l.length
    · have h1 : ((rowN p l : Nat) : Int) < (l.length : Int) := by omega
      have hp : p (l[rowN p l].toNat : Int) = false := by
        rw [← Bool.not_eq_true, zso p l _ hkl (Nat.le_refl _)]; omega
      simp only [z7, zr, w6, xe, zb, zu, z8, zn, ye, zc, xl, zo, ze, zd, List.set_cons_succ, List.set_cons_zero, O_mv, yw, xf, yu, yg, List.map_cons, List.map_nil, xy, zm, yb, za, yx, yj, zbt, eq_self, xj, xp, ym, h1, decide_true, j4, zet _ hkl, bj, cf, hF, hp]
    · have h1 : ¬ (((rowN p l : Nat) : Int) < (l.length : Int)) := by omega
      simp only [z7, zr, w6, xe, zb, zu, z8, zn, ye, zc, w5, zo, zf, ze, zd, List.set_cons_succ, List.set_cons_zero, O_mv, yw, xf, yu, yg, xy, zm, yb, za, yx, yj, zbt, eq_self, xj, xp, ym, h1, decide_false]
  · exact junk rfl
theorem yi (l : List UInt8) : (.string ⟨l.toArray⟩ : Value) = str l := rfl
theorem wk (h : Heap) (p : Addr) (l : List UInt8) : zfx h (.pointer (some p)) (str l) = zg5 (h.write1 p (str l)) := rfl
theorem zlm (a b : List UInt8) : ((⟨a.toArray⟩ : ByteArray) == ⟨b.toArray⟩) = (a == b) := by
  have e : ((⟨a.toArray⟩ : ByteArray) == ⟨b.toArray⟩) = (a.toArray == b.toArray) := rfl
  rw [e]; simp
theorem w9 (a b : List UInt8) : je .eql (str a) (str b) = some (.bool (a == b)) := by
  show some (Value.bool ((⟨a.toArray⟩ : ByteArray) == ⟨b.toArray⟩)) = _
  rw [zlm]
theorem zhz (a b : List UInt8) : je .neq (str a) (str b) = some (.bool (a != b)) := by
  show some (Value.bool !((⟨a.toArray⟩ : ByteArray) == ⟨b.toArray⟩)) = _
  rw [zlm]; rfl
theorem zyv (a b : List UInt8) (h : a.length + b.length ≤ 4611686018427387904) : je .add (str a) (str b) = some (str (a ++ b)) := by
  show (if (⟨a.toArray⟩ : ByteArray).size + (⟨b.toArray⟩ : ByteArray).size ≤ 4611686018427387904 then some (Value.string (⟨a.toArray⟩ ++ ⟨b.toArray⟩)) else none) = _
  rw [zbn, zbn, if_pos h]
  unfold str
  congr 2
def Gl (h : Heap) : Prop := (∃ m, h[0]? = some (AObj.cells [.int .i64 m] 0 true)) ∧ ∃ E, h[1]? = some (AObj.cells [E] 0 true) ∧ ycw E = true
theorem Gl.pre {h H : Heap} (g : Gl h) (p : Pre h H) : Gl H := by
  obtain ⟨⟨m, g0⟩, E, g1, g2⟩ := g
  refine ⟨⟨m, ?_⟩, E, ?_, g2⟩
  · rw [p.get (List.getElem?_eq_some_iff.1 g0).1]; exact g0
  · rw [p.get (List.getElem?_eq_some_iff.1 g1).1]; exact g1
theorem Gl.more {h : Heap} (g : Gl h) (L : Heap) : Gl (h ++ L) := g.pre ((Pre.refl h).more L)
theorem ya2 (p s : List UInt8) (h : p.length ≤ s.length) : (s.take p.length == p) = p.isPrefixOf s := by
  rw [Bool.eq_iff_iff, beq_iff_eq, List.isPrefixOf_iff_prefix, List.prefix_iff_eq_take]
  exact ⟨fun h => h.symm, fun h => h.symm⟩
theorem zxc (p s : List UInt8) (h : s.length < p.length) : p.isPrefixOf s = false := by
  rw [← Bool.not_eq_true, List.isPrefixOf_iff_prefix]
  intro hp; have := hp.length_le; omega
theorem zb3 (s p : List UInt8) (h : Heap) : DF FF v8 [str s, str p] h = some (.bool (p.isPrefixOf s), h) := by
  refine wh zba ?_
  by_cases hl : p.length ≤ s.length
  · have c1 : ((p.length : Int) ≤ (s.length : Int)) = True := by simp; exact hl
    simp only [jv, z7, xe, zb, z8, zn, ye, zc, xl, zo, zf, ze, zd, List.set_cons_succ, List.set_cons_zero, O_mv, yw, xf, yu, yg, zbb, List.cons_append, List.nil_append, List.length_cons, List.length_nil, Nat.reduceAdd, Nat.reduceSub, Nat.zero_add, zm, yb, za, zbt, Option.map_none, zh, zg, Option.map_some, eq_self, xp, ym, c1, decide_true, j1, Option.map_some, Option.map_none, yaf h hl, w9, ya2 p s hl]
  · have c1 : ((p.length : Int) ≤ (s.length : Int)) = False := by simp; omega
    simp only [jv, z7, xe, zb, z8, zn, ye, zc, w5, zo, zf, ze, zd, List.set_cons_succ, List.set_cons_zero, O_mv, yw, xf, yu, yg, zbb, List.cons_append, List.nil_append, List.length_cons, List.length_nil, Nat.reduceAdd, Nat.reduceSub, Nat.zero_add, zm, yb, za, zbt, zh, zg, eq_self, xp, ym, c1, decide_false, zxc p s (by omega)]
theorem vk (s p : List UInt8) (h : Heap) : DF FF gp [str s, str p] h = some (.bool (p.isPrefixOf s), h) := by
  refine wh zhv ?_
  simp only [zcu, z7, xe, zb, z8, zn, zc, zo, zf, ze, zd, List.set_cons_succ, List.set_cons_zero, O_mv, yf, List.map_cons, List.map_nil, List.cons_append, List.nil_append, List.length_cons, List.length_nil, Nat.reduceAdd, Nat.reduceSub, Nat.zero_add, zm, yb, za, zbt, zh, zg, eq_self, zb3]
theorem zpl {p s : List UInt8} (h : p.isPrefixOf s = true) : p.length ≤ s.length := by
  rw [List.isPrefixOf_iff_prefix] at h; exact h.length_le
theorem zka (s p : List UInt8) (h : Heap) : DF FF jw [str s, str p] h = some (tup [str (if p.isPrefixOf s then s.drop p.length else s), .bool (p.isPrefixOf s)], h) := by
  refine wh za8 ?_
  cases hp : p.isPrefixOf s
  · simp only [ju, z7, zr, xe, zb, zw, z8, zn, zc, zo, zf, ze, zd, List.set_cons_succ, List.set_cons_zero, O_mv, yg, O_un, yf, List.map_cons, List.map_nil, vp, List.cons_append, List.nil_append, List.length_cons, List.length_nil, Nat.reduceAdd, Nat.reduceSub, Nat.zero_add, Bool.not_false, zm, yb, za, y5, zh, zg, zbi, wt, yi, zb3, hp]; rfl
  · simp only [ju, z7, zr, xe, yl, zb, zu, z8, zn, zc, zo, zf, ze, zd, List.set_cons_succ, List.set_cons_zero, O_mv, yg, O_un, yf, List.map_cons, List.map_nil, vp, List.cons_append, List.nil_append, List.length_cons, List.length_nil, Nat.reduceAdd, Nat.reduceSub, Nat.zero_add, Bool.not_true, zm, yb, za, Option.map_none, zh, zg, Option.map_some, zbi, wt, eq_self, yi, zb3, hp, if_true, xp, ym, j1, Option.map_some, Option.map_none, zk8 h (zpl hp)]
theorem vl (s p : List UInt8) (h : Heap) : DF FF zah [str s, str p] h = some (tup [str (if p.isPrefixOf s then s.drop p.length else s), .bool (p.isPrefixOf s)], h) := by
  refine wh zhd ?_
  simp only [zcr, z7, xe, zb, z8, zn, zc, zo, zf, ze, zd, List.set_cons_succ, List.set_cons_zero, O_mv, yg, yf, List.map_cons, List.map_nil, List.cons_append, List.nil_append, List.length_cons, List.length_nil, Nat.reduceAdd, Nat.reduceSub, Nat.zero_add, zm, yb, za, xg, y7, zh, zg, List.getElem?_cons_zero, List.getElem?_cons_succ, zbi, wt, eq_self, zka]
theorem zvm : FF 101 = none := by kernel_rfl
theorem zmm : FF 105 = none := by kernel_rfl
theorem zmq : FF 104 = none := by kernel_rfl
theorem zw2 : FF.ext = known := rfl
theorem zqf (s p : List UInt8) {h : Heap} (g : Gl h) (hl : s.length < 4294967281) : DF FF 101 [str s, str p] h = some (.int .i64 (Lib.index s p), h) := by
  rw [zz9 zvm, zw2]
  obtain ⟨⟨m, g0⟩, _⟩ := g
  show known 101 [.string ⟨s.toArray⟩, .string ⟨p.toArray⟩] h = _
  unfold known zrf zpi
  rw [if_neg (by decide), if_pos rfl]
  simp only [g0]
  rw [if_pos (by rw [zbn]; exact hl)]
theorem zke (s : List UInt8) (c : Int) (h : Heap) : DF FF 105 [str s, .int .u8 c] h = some (.int .i64 (Lib.indexByte s c.toNat.toUInt8), h) := by
  rw [zz9 zmm, zw2]
  show known 105 [.string ⟨s.toArray⟩, .int .u8 c] h = _
  unfold known zrf ztm
  rw [if_neg (by decide), if_neg (by decide), if_pos rfl]
theorem zf8 (s p : List UInt8) {h : Heap} (g : Gl h) (hl : s.length < 4294967281) : DF FF zas [str s, str p] h = some (.int .i64 (Lib.index s p), h) := by
  refine wh zk6 ?_
  have := zqf s p g hl
  simp only [zfp, z7, xe, zb, z8, zn, zc, zo, zf, ze, zd, List.set_cons_succ, List.set_cons_zero, O_mv, yf, List.map_cons, List.map_nil, List.cons_append, List.nil_append, List.length_cons, List.length_nil, Nat.reduceAdd, Nat.reduceSub, Nat.zero_add, zm, yb, za, zbt, zh, zg, eq_self, bt, this]
theorem zcw (s : List UInt8) (c : Int) (h : Heap) : DF FF zae [str s, .int .u8 c] h = some (.int .i64 (Lib.indexByte s c.toNat.toUInt8), h) := by
  refine wh zho ?_
  simp only [zcs, z7, xe, zb, z8, zn, zc, zo, zf, ze, zd, List.set_cons_succ, List.set_cons_zero, O_mv, yf, List.map_cons, List.map_nil, List.cons_append, List.nil_append, List.length_cons, List.length_nil, Nat.reduceAdd, Nat.reduceSub, Nat.zero_add, zm, yb, za, zbt, zh, zg, eq_self, fg, zke]
theorem qu (s p : List UInt8) {h : Heap} (g : Gl h) (hl : s.length < 4294967281) : DF FF za4 [str s, str p] h = some (.bool (decide (0 ≤ Lib.index s p)), h) := by
  refine wh zig ?_
  simp only [zdn, z7, xe, zb, z8, zn, zc, zo, zf, ze, zd, List.set_cons_succ, List.set_cons_zero, O_mv, yu, yg, yf, List.map_cons, List.map_nil, zbb, List.cons_append, List.nil_append, List.length_cons, List.length_nil, Nat.reduceAdd, Nat.reduceSub, Nat.zero_add, zm, yb, za, zbt, zh, zg, eq_self, zf8 s p g hl]
def zlp : Option Nat → Value
  | some u => tup [.int .u64 u, .nilIface]
  | none => tup [.int .u64 0, zyn]
theorem zgf (s : List UInt8) (b : Int) {h : Heap} (g : Gl h) (hl : s.length < 4294967281) {r : Option Nat} (hr : zdr b ⟨s.toArray⟩ = some r) : DF FF zc1 [str s, .int .i64 b, .int .i64 64] h = some (zlp r, h) := by
  show DF FF 104 [.string ⟨s.toArray⟩, .int .i64 b, .int .i64 64] h = _
  rw [zz9 zmq, zw2]
  obtain ⟨_, E, g1, g2⟩ := g
  unfold known zo7
  rw [if_pos rfl]
  simp only [g1]
  rw [if_pos ⟨g2, by rw [zbn]; exact hl⟩, hr]
  cases r <;> rfl
/-- A hexadecimal digit's value. -/
def hexV (n : Int) : Option Nat := if 48 ≤ n ∧ n ≤ 57 then some (n - 48).toNat else if 97 ≤ n ∧ n ≤ 102 then some (n - 87).toNat else if 65 ≤ n ∧ n ≤ 70 then some (n - 55).toNat else none
def digN (b acc : Nat) : List UInt8 → Option Nat
  | [] => some acc
  | c :: r => match hexV (c.toNat : Int) with
    | some d => if d < b then digN b (acc * b + d) r else none
    | none => none
def zst (w : List UInt8) : Bool := [48, 120].isPrefixOf w && decide (2 < w.length)
def yel (w : List UInt8) : Nat := if zst w then 16 else 10
def yfq (w : List UInt8) : Nat := if zst w then 16 else 19
def zxb (w : List UInt8) : List UInt8 := if zst w then w.drop 2 else w
def numV (w : List UInt8) : Option Nat :=
  if (zxb w).length < 1 ∨ yfq w < (zxb w).length then none else match digN (yel w) 0 (zxb w) with
    | some v => if v ≤ 9223372036854775808 then some v else none
    | none => none
theorem yep {n : Int} {d : Nat} (h : hexV n = some d) : d < 16 := by
  unfold hexV at h
  split at h
  · cases h; omega
  · split at h
    · cases h; omega
    · split at h
      · cases h; omega
      · cases h
theorem yfm (c : UInt8) : (∃ d, hexV (c.toNat : Int) = some d ∧ d < 10) ↔ (48 ≤ c.toNat ∧ c.toNat ≤ 57) := by
  unfold hexV
  constructor
  · rintro ⟨d, h, hd⟩
    split at h
    · omega
    · split at h
      · cases h; omega
      · split at h
        · cases h; omega
        · cases h
  · intro h
    exact ⟨_, if_pos (by omega), by omega⟩
theorem ydw : ∀ (l : List UInt8) (acc k : Nat), acc < 10 ^ k → k + l.length ≤ 19 → Lib.parseUintM (2 ^ 64 - 1) acc l = match digN 10 acc l with | some u => .ok u | none => .syntax
  | [], acc, k, _, _ => rfl
  | c :: r, acc, k, ha, hk => by
    rw [Lib.parseUintM, digN]
    by_cases hc : 48 ≤ c.toNat ∧ c.toNat ≤ 57
    · have h1 : hexV (c.toNat : Int) = some (c.toNat - 48) := by
        unfold hexV; rw [if_pos (by omega)]; congr 1; omega
      have hp : 10 ^ k ≤ 10 ^ 18 := Nat.pow_le_pow_right (by omega) (by simp at hk; omega)
      have h2 : ¬ 1844674407370955162 ≤ acc := by
        have : (10 : Nat) ^ 18 = 1000000000000000000 := by decide
        omega
      have h3 : ¬ (2 ^ 64 - 1 < acc * 10 + (c.toNat - 48)) := by
        have : (10 : Nat) ^ 18 = 1000000000000000000 := by decide
        have : (2 : Nat) ^ 64 - 1 = 18446744073709551615 := by decide
        omega
      rw [if_pos hc, if_neg h2, if_neg h3, h1]
      simp only
      rw [if_pos (by omega)]
      exact ydw r _ (k + 1) (by rw [Nat.pow_succ]; omega) (by simp at hk; omega)
    · rw [if_neg hc]
      have := mt (yfm c).1 hc
      cases hx : hexV (c.toNat : Int) with
      | none => rfl
      | some d =>
        simp only
        rw [if_neg fun hd => this ⟨d, hx, hd⟩]
theorem yeo : ∀ c : UInt8, hexD c = hexV (c.toNat : Int) := by
  have h : ((List.range 256).all fun n => hexD (UInt8.ofNat n) == hexV ((UInt8.ofNat n).toNat : Int)) = true := by kernel_rfl
  intro c
  have := List.all_eq_true.1 h c.toNat (by simp; exact c.toNat_lt)
  simpa using this
theorem ydp : ∀ (l : List UInt8) (acc : Nat), hexN acc l = match digN 16 acc l with | some u => .ok u | none => .syntax
  | [], _ => rfl
  | c :: r, acc => by
    rw [hexN, digN, yeo]
    cases hx : hexV (c.toNat : Int) with
    | none => rfl
    | some d =>
      simp only
      rw [if_pos (yep hx)]
      exact ydp r _
theorem yb2 (l : List UInt8) (h : l.length ≤ 19) : zdr 10 ⟨l.toArray⟩ = some (if l.length < 1 then none else digN 10 0 l) := by
  rw [zqs]
  show (match Lib.parseUintB 64 l with | .ok u => some (some u) | .syntax => some none | .range => none) = _
  unfold Lib.parseUintB
  by_cases h0 : l = []
  · subst h0; rfl
  · have : 0 < l.length := List.length_pos_iff.2 h0
    rw [if_neg h0, if_neg (by omega), ydw l 0 0 (by decide) (by omega)]
    cases digN 10 0 l <;> rfl
theorem yc7 (l : List UInt8) (h : l.length ≤ 16) : zdr 16 ⟨l.toArray⟩ = some (if l.length < 1 then none else digN 16 0 l) := by
  by_cases h0 : l.length = 0
  · rw [zt6 _ (by rw [zbn]; exact h0), if_pos (by omega)]
  · rw [zpq _ (by rw [zbn]; exact h0) (by rw [zbn]; exact h), if_neg (by omega)]
    show (match hexN 0 l with | .ok u => some (some u) | .syntax => some none | .range => none) = _
    rw [ydp]
    cases digN 16 0 l <;> rfl
theorem zph (b : Nat) : ∀ (l : List UInt8) (acc : Nat), 0 ≤ Lib.index l [95] → digN b acc l = none
  | [], _, h => by simp [Lib.index] at h
  | c :: r, acc, h => by
    rw [Lib.index] at h
    rw [digN]
    by_cases hc : c = 95
    · subst hc; rfl
    · have hp : [95].isPrefixOf (c :: r) = false := by
        simp [List.isPrefixOf]; exact fun e => hc e.symm
      rw [hp] at h
      have hr : 0 ≤ Lib.index r [95] := by
        by_cases h1 : (Lib.index r [95] == -1) = true
        · rw [if_neg (by simp), if_pos h1] at h; omega
        · have := Lib.index_ge r [95]
          simp at h1; omega
      cases hexV (c.toNat : Int) with
      | none => rfl
      | some d =>
        simp only
        split
        · exact zph b r _ hr
        · rfl
theorem zkt : qw .iface .nilIface .nilIface = some true := rfl
theorem zu3 : qw .iface zyn .nilIface = some false := rfl
def numR (w : List UInt8) (v : Value) : Prop := ∃ m : Int, v = tup [.int .i64 m, .bool (numV w).isSome] ∧ ∀ u, numV w = some u → m = IntKind.i64.wrap u
def zkl (b most : Nat) (d : List UInt8) : Option Nat :=
  if most < d.length then none else match (if d.length < 1 then none else digN b 0 d) with
    | some v => if v ≤ 9223372036854775808 then some v else none
    | none => none
theorem zpc (w : List UInt8) (h : [48, 120].isPrefixOf w = false) : numV w = zkl 10 19 w := by
  have hh : zst w = false := by unfold zst; rw [h]; rfl
  unfold numV zkl zxb yfq yel
  rw [hh]
  simp only [Bool.false_eq_true, if_false]
  by_cases h1 : w.length < 1
  · rw [if_pos (.inl h1), if_pos h1]; split <;> rfl
  · by_cases h2 : 19 < w.length
    · rw [if_pos (.inr h2), if_pos h2]
    · rw [if_neg (by omega), if_neg h2, if_neg h1]
theorem zpj (w : List UInt8) (h : [48, 120].isPrefixOf w = true) : numV w = zkl 16 16 (w.drop 2) := by
  by_cases hl : 2 < w.length
  · have hh : zst w = true := by unfold zst; rw [h]; simp [hl]
    unfold numV zkl zxb yfq yel
    rw [hh]
    simp only [if_true]
    by_cases h1 : (w.drop 2).length < 1
    · rw [if_pos (.inl h1), if_pos h1]; split <;> rfl
    · by_cases h2 : 16 < (w.drop 2).length
      · rw [if_pos (.inr h2), if_pos h2]
      · rw [if_neg (by omega), if_neg h2, if_neg h1]
  · have hlen := zpl h
    simp at hlen
    have hw : w = [48, 120] := by
      rw [List.isPrefixOf_iff_prefix] at h
      exact (h.eq_of_length (by simp; omega)).symm
    subst hw
    decide
theorem zow (w : List UInt8) {h : Heap} (g : Gl h) (hl : w.length < 4294967281) : ∃ v, DF FF zew [str w] h = some (v, h) ∧ numR w v := by
  cases hx : [48, 120].isPrefixOf w
  · by_cases hm : 19 < w.length
    · refine ⟨tup [.int .i64 0, .bool false], ?_, 0, by rw [zpc w hx]; unfold zkl; rw [if_pos hm]; rfl, by rw [zpc w hx]; unfold zkl; rw [if_pos hm]; intro u hu; cases hu⟩
      refine wh j5 ?_
      have c1 : ((19 : Int) < (w.length : Int)) := by omega
      simp only [jk, z7, zr, xe, yl, zb, zw, zu, z8, zn, ye, zc, wi, zo, zf, ze, zd, List.set_cons_succ, List.set_cons_zero, O_mv, yw, xf, yu, yg, yf, List.map_cons, List.map_nil, zab, List.cons_append, List.nil_append, List.length_cons, List.length_nil, Nat.reduceAdd, Nat.reduceSub, Nat.zero_add, zm, yb, za, y5, xg, y7, zh, zg, List.getElem?_cons_zero, List.getElem?_cons_succ, zbi, wt, eq_self, yi, xp, ym, vl, hx, if_false, Bool.false_eq_true, c1, decide_true]
    · have c1 : ¬ ((19 : Int) < (w.length : Int)) := by omega
      cases hu : decide (0 ≤ Lib.index w [95]) with
      | true =>
        have hn : numV w = none := by
          rw [zpc w hx]; unfold zkl; rw [if_neg hm, zph 10 w 0 (by simpa using hu)]; simp
        refine ⟨tup [.int .i64 0, .bool false], ?_, 0, by rw [hn]; rfl, by rw [hn]; intro u hu; cases hu⟩
        refine wh j5 ?_
        simp only [jk, z7, zr, xe, yl, zb, zw, zu, z8, zn, ye, zc, yr, zo, zf, ze, zd, List.set_cons_succ, List.set_cons_zero, O_mv, yw, xf, yu, yg, yf, List.map_cons, List.map_nil, zab, List.cons_append, List.nil_append, List.length_cons, List.length_nil, Nat.reduceAdd, Nat.reduceSub, Nat.zero_add, zm, yb, za, y5, xg, y7, zh, zg, List.getElem?_cons_zero, List.getElem?_cons_succ, zbi, wt, eq_self, yi, xp, ym, vl, hx, if_false, Bool.false_eq_true, c1, decide_false, qu _ _ g hl, hu]
      | false =>
        have hp := zgf w 10 g hl (yb2 w (by omega))
        have hn : numV w = match (if w.length < 1 then none else digN 10 0 w) with | some v => if v ≤ 9223372036854775808 then some v else none | none => none := by
          rw [zpc w hx]; unfold zkl; rw [if_neg hm]
        generalize (if w.length < 1 then none else digN 10 0 w) = r at hp hn
        cases r with
        | none =>
          simp only at hn
          refine ⟨tup [.int .i64 0, .bool false], ?_, 0, by rw [hn]; rfl, by rw [hn]; intro u hu; cases hu⟩
          refine wh j5 ?_
          simp only [jk, z7, zr, xe, yl, zb, zu, z8, zn, ye, zc, yr, w5, zo, zf, ze, zd, List.set_cons_succ, List.set_cons_zero, O_mv, yw, xf, yu, yg, zms, zsn, yf, List.map_cons, List.map_nil, zab, List.cons_append, List.nil_append, List.length_cons, List.length_nil, Nat.reduceAdd, Nat.reduceSub, Nat.zero_add, zm, yb, za, xg, y7, zh, zg, List.getElem?_cons_zero, List.getElem?_cons_succ, zbi, wt, Bool.bne_false, jq, yi, xp, ym, vl, hx, if_false, Bool.false_eq_true, c1, decide_false, qu _ _ g hl, hu, hp, zlp, zu3, xq]; rfl
        | some u =>
          simp only at hn
          by_cases hq : u ≤ 9223372036854775808
          · have c2 : ((u : Int) ≤ 9223372036854775808) = True := by simp; omega
            rw [if_pos hq] at hn
            refine ⟨tup [.int .i64 (IntKind.i64.wrap u), .bool true], ?_, _, by rw [hn]; rfl, by rw [hn]; intro u' hu'; cases hu'; rfl⟩
            refine wh j5 ?_
            simp only [jk, z7, zr, xe, yl, zb, zu, z8, zn, ye, zc, xl, yr, zo, zf, ze, zd, List.set_cons_succ, List.set_cons_zero, O_mv, yw, xf, yu, yg, zms, zsn, yf, List.map_cons, List.map_nil, zj9, zab, List.cons_append, List.nil_append, List.length_cons, List.length_nil, Nat.reduceAdd, Nat.reduceSub, Nat.zero_add, zm, yb, za, xg, y7, zh, zg, List.getElem?_cons_zero, List.getElem?_cons_succ, zbi, wt, Bool.bne_false, jq, eq_self, yi, xp, ym, vl, hx, if_false, Bool.false_eq_true, c1, decide_false, qu _ _ g hl, hu, hp, zlp, zkt, xq, c2, decide_true, decide_false]
          · have c2 : ((u : Int) ≤ 9223372036854775808) = False := by simp; omega
            rw [if_neg hq] at hn
            refine ⟨tup [.int .i64 (IntKind.i64.wrap u), .bool false], ?_, _, by rw [hn]; rfl, by rw [hn]; intro u' hu'; cases hu'⟩
            refine wh j5 ?_
            simp only [jk, z7, zr, xe, yl, zb, zu, z8, zn, ye, zc, xl, yr, zo, zf, ze, zd, List.set_cons_succ, List.set_cons_zero, O_mv, yw, xf, yu, yg, zms, zsn, yf, List.map_cons, List.map_nil, zj9, zab, List.cons_append, List.nil_append, List.length_cons, List.length_nil, Nat.reduceAdd, Nat.reduceSub, Nat.zero_add, zm, yb, za, xg, y7, zh, zg, List.getElem?_cons_zero, List.getElem?_cons_succ, zbi, wt, Bool.bne_false, jq, eq_self, yi, xp, ym, vl, hx, if_false, Bool.false_eq_true, c1, decide_false, qu _ _ g hl, hu, hp, zlp, zkt, xq, c2, decide_false]
  · have hld : (w.drop 2).length < 4294967281 := by simp; omega
    by_cases hm : 16 < (w.drop 2).length
    · refine ⟨tup [.int .i64 0, .bool false], ?_, 0, by rw [zpj w hx]; unfold zkl; rw [if_pos hm]; rfl, by rw [zpj w hx]; unfold zkl; rw [if_pos hm]; intro u hu; cases hu⟩
      refine wh j5 ?_
      have c1 : ((16 : Int) < ((w.drop 2).length : Int)) := by omega
      simp only [jk, z7, zr, xe, zb, zw, z8, zn, ye, zc, wi, zo, zf, ze, zd, List.set_cons_succ, List.set_cons_zero, O_mv, yw, xf, yu, yg, yf, List.map_cons, List.map_nil, zab, List.cons_append, List.nil_append, List.length_cons, List.length_nil, Nat.reduceAdd, Nat.reduceSub, Nat.zero_add, zm, yb, za, y5, xg, y7, zh, zg, List.getElem?_cons_zero, List.getElem?_cons_succ, zbi, wt, eq_self, yi, xp, ym, vl, hx, if_true, c1, decide_true]
    · have c1 : ¬ ((16 : Int) < ((w.drop 2).length : Int)) := by omega
      cases hu : decide (0 ≤ Lib.index (w.drop 2) [95]) with
      | true =>
        have hn : numV w = none := by
          rw [zpj w hx]; unfold zkl; rw [if_neg hm, zph 16 _ 0 (by simpa using hu)]; simp
        refine ⟨tup [.int .i64 0, .bool false], ?_, 0, by rw [hn]; rfl, by rw [hn]; intro u hu; cases hu⟩
        refine wh j5 ?_
        simp only [jk, z7, zr, xe, zb, zw, z8, zn, ye, zc, yr, zo, zf, ze, zd, List.set_cons_succ, List.set_cons_zero, O_mv, yw, xf, yu, yg, yf, List.map_cons, List.map_nil, zab, List.cons_append, List.nil_append, List.length_cons, List.length_nil, Nat.reduceAdd, Nat.reduceSub, Nat.zero_add, zm, yb, za, y5, xg, y7, zh, zg, List.getElem?_cons_zero, List.getElem?_cons_succ, zbi, wt, eq_self, yi, xp, ym, vl, hx, if_true, c1, decide_false, qu _ _ g hld, hu]
      | false =>
        have hp := zgf (w.drop 2) 16 g hld (yc7 _ (by omega))
        have hn : numV w = match (if (w.drop 2).length < 1 then none else digN 16 0 (w.drop 2)) with | some v => if v ≤ 9223372036854775808 then some v else none | none => none := by
          rw [zpj w hx]; unfold zkl; rw [if_neg hm]
        generalize (if (w.drop 2).length < 1 then none else digN 16 0 (w.drop 2)) = r at hp hn
        cases r with
        | none =>
          simp only at hn
          refine ⟨tup [.int .i64 0, .bool false], ?_, 0, by rw [hn]; rfl, by rw [hn]; intro u hu; cases hu⟩
          refine wh j5 ?_
          simp only [jk, z7, zr, xe, yl, zb, zw, zu, z8, zn, ye, zc, yr, w5, zo, zf, ze, zd, List.set_cons_succ, List.set_cons_zero, O_mv, yw, xf, yu, yg, zms, zsn, yf, List.map_cons, List.map_nil, zab, List.cons_append, List.nil_append, List.length_cons, List.length_nil, Nat.reduceAdd, Nat.reduceSub, Nat.zero_add, zm, yb, za, xg, y7, zh, zg, List.getElem?_cons_zero, List.getElem?_cons_succ, zbi, wt, Bool.bne_false, jq, eq_self, yi, xp, ym, vl, hx, if_true, c1, decide_false, qu _ _ g hld, hu, hp, zlp, zu3, xq]; rfl
        | some u =>
          simp only at hn
          by_cases hq : u ≤ 9223372036854775808
          · have c2 : ((u : Int) ≤ 9223372036854775808) = True := by simp; omega
            rw [if_pos hq] at hn
            refine ⟨tup [.int .i64 (IntKind.i64.wrap u), .bool true], ?_, _, by rw [hn]; rfl, by rw [hn]; intro u' hu'; cases hu'; rfl⟩
            refine wh j5 ?_
            simp only [jk, z7, zr, xe, yl, zb, zw, zu, z8, zn, ye, zc, xl, yr, zo, zf, ze, zd, List.set_cons_succ, List.set_cons_zero, O_mv, yw, xf, yu, yg, zms, zsn, yf, List.map_cons, List.map_nil, zj9, zab, List.cons_append, List.nil_append, List.length_cons, List.length_nil, Nat.reduceAdd, Nat.reduceSub, Nat.zero_add, zm, yb, za, xg, y7, zh, zg, List.getElem?_cons_zero, List.getElem?_cons_succ, zbi, wt, Bool.bne_false, jq, eq_self, yi, xp, ym, vl, hx, if_true, c1, decide_false, qu _ _ g hld, hu, hp, zlp, zkt, xq, c2, decide_true, decide_false]
          · have c2 : ((u : Int) ≤ 9223372036854775808) = False := by simp; omega
            rw [if_neg hq] at hn
            refine ⟨tup [.int .i64 (IntKind.i64.wrap u), .bool false], ?_, _, by rw [hn]; rfl, by rw [hn]; intro u' hu'; cases hu'⟩
            refine wh j5 ?_
            simp only [jk, z7, zr, xe, yl, zb, zw, zu, z8, zn, ye, zc, xl, yr, zo, zf, ze, zd, List.set_cons_succ, List.set_cons_zero, O_mv, yw, xf, yu, yg, zms, zsn, yf, List.map_cons, List.map_nil, zj9, zab, List.cons_append, List.nil_append, List.length_cons, List.length_nil, Nat.reduceAdd, Nat.reduceSub, Nat.zero_add, zm, yb, za, xg, y7, zh, zg, List.getElem?_cons_zero, List.getElem?_cons_succ, zbi, wt, Bool.bne_false, jq, eq_self, yi, xp, ym, vl, hx, if_true, c1, decide_false, qu _ _ g hld, hu, hp, zlp, zkt, xq, c2, decide_false]
def blkB (n : Int) : Bool := (n == 32 || n == 9) || n == 10
def remK : List UInt8 → Nat
  | c :: d :: l => if ((c.toNat : Int) == 42 && (d.toNat : Int) == 41) then 0 else remK (d :: l) + 1
  | _ => 0
inductive Skip
  | no
  | go (k : Nat)
  | err
def zcd : List UInt8 → Skip
  | [] => .no
  | c :: s => if blkB (c.toNat : Int) then .go 1 else if [40, 42].isPrefixOf (c :: s) then (if remK (s.drop 1) + 1 < (s.drop 1).length then .go (remK (s.drop 1) + 4) else .err) else .no
def marksL : List UInt8 := [123, 125, 40, 41, 91, 93, 59, 124, 44, 58, 61, 43, 45, 35, 36, 126, 42, 47, 92, 38, 63, 94]
def ybr (c : UInt8) : Bool := marksL.contains c
inductive Word
  | word (kind len : Nat) (n : Int)
  | bad (c : Nat)
def zcv (s : List UInt8) : Word := match s with
  | [] => .bad 20
  | c :: _ => if digV (c.toNat : Int) then (match numV (s.take (rowN numB s)) with
      | some n => .word 2 (rowN numB s) (IntKind.i64.wrap n)
      | none => .bad 23)
    else if letV (c.toNat : Int) || (c.toNat : Int) == 95 then .word 1 (rowN namB s) 0
    else if [47, 92].isPrefixOf s || [92, 47].isPrefixOf s then .word 3 2 0
    else if ybr c then .word 3 1 0
    else .bad 20
structure Tok where
  kind : Nat
  text : List UInt8
  n : Int
  at_ : Nat
def vo (t : Tok) : List Value := [.int .i64 (t.kind : Int), str t.text, .int .i64 t.n, .int .i64 (t.at_ : Int)]
inductive Res
  | ok (l : List Tok)
  | bad (c at_ : Nat)
def Res.pre (l : List Tok) : Res → Res
  | .ok m => .ok (l ++ m)
  | .bad c a => .bad c a
def zg0 : Nat → List UInt8 → Nat → Res
  | 0, _, _ => .ok []
  | f + 1, s, a => if s = [] then .ok [] else match zcd s with
    | .go k => zg0 f (s.drop k) (a + k)
    | .err => .bad 24 a
    | .no => match zcv s with
      | .word kd k n => (zg0 f (s.drop k) (a + k)).pre [⟨kd, s.take k, n, a⟩]
      | .bad c => .bad c a
theorem Res.pre_pre (a b : List Tok) (r : Res) : (r.pre b).pre a = r.pre (a ++ b) := by cases r <;> simp [Res.pre]
theorem zfz {s : List UInt8} {k : Nat} (h : zcd s = .go k) : 1 ≤ k ∧ k ≤ s.length := by
  cases s with
  | nil => cases h
  | cons c s =>
    rw [zcd] at h
    split at h
    · cases h; simp
    · split at h
      · split at h
        · cases h; simp at *; omega
        · cases h
      · cases h
theorem zpk {p : Int → Bool} {c : UInt8} {s : List UInt8} (h : p (c.toNat : Int) = true) : 1 ≤ rowN p (c :: s) := by
  rw [rowN, if_pos h]; omega
theorem zef {s : List UInt8} {kd k : Nat} {n : Int} (h : zcv s = .word kd k n) : 1 ≤ k ∧ k ≤ s.length := by
  cases s with
  | nil => cases h
  | cons c s =>
    rw [zcv] at h
    split at h
    · rename_i hc
      split at h
      · cases h
        exact ⟨zpk (by unfold numB; rw [hc]; simp), zja _ _⟩
      · cases h
    · split at h
      · rename_i hc
        cases h
        refine ⟨zpk ?_, zja _ _⟩
        unfold namB numB
        rcases Bool.or_eq_true_iff.1 hc with hc | hc <;> simp [hc]
      · split at h
        · rename_i hp
          cases h
          refine ⟨by omega, ?_⟩
          rcases Bool.or_eq_true_iff.1 hp with hp | hp <;> simpa using zpl hp
        · split at h
          · cases h; simp
          · cases h
theorem zdh : ∀ (f f' : Nat) (s : List UInt8) (a : Nat), s.length ≤ f → s.length ≤ f' → zg0 f s a = zg0 f' s a
  | 0, f', s, a, h, h' => by
    have : s = [] := List.eq_nil_of_length_eq_zero (by omega)
    subst this
    cases f' <;> simp [zg0]
  | f + 1, 0, s, a, h, h' => by
    have : s = [] := List.eq_nil_of_length_eq_zero (by omega)
    subst this
    simp [zg0]
  | f + 1, f' + 1, s, a, h, h' => by
    rw [zg0, zg0]
    by_cases hs : s = []
    · rw [if_pos hs, if_pos hs]
    · rw [if_neg hs, if_neg hs]
      cases hk : zcd s with
      | go k =>
        have := zfz hk
        exact zdh f f' _ _ (by simp; omega) (by simp; omega)
      | err => rfl
      | no =>
        cases hw : zcv s with
        | word kd k n =>
          have := zef hw
          simp only
          rw [zdh f f' _ _ (by simp; omega) (by simp; omega)]
        | bad c => rfl
def fi (s : List UInt8) (a : Nat) : Res := zg0 s.length s a
theorem zf2 (a : Nat) : fi [] a = .ok [] := rfl
theorem zar {s : List UInt8} (hs : s ≠ []) (a : Nat) : fi s a = match zcd s with
    | .go k => fi (s.drop k) (a + k)
    | .err => .bad 24 a
    | .no => match zcv s with
      | .word kd k n => (fi (s.drop k) (a + k)).pre [⟨kd, s.take k, n, a⟩]
      | .bad c => .bad c a := by
  unfold fi
  have hp : 0 < s.length := List.length_pos_iff.2 hs
  obtain ⟨m, hm⟩ : ∃ m, s.length = m + 1 := ⟨s.length - 1, by omega⟩
  rw [hm, zg0, if_neg hs]
  cases hk : zcd s with
  | go k =>
    have := zfz hk
    exact zdh _ _ _ _ (by simp; omega) (by simp)
  | err => rfl
  | no =>
    cases hw : zcv s with
    | word kd k n =>
      have := zef hw
      simp only
      rw [zdh _ _ _ _ (by simp; omega) (Nat.le_refl _)]
    | bad c => rfl
theorem zqa {l : List UInt8} {a : Nat} (ha : a < l.length) : l.drop a = l[a] :: l.drop (a + 1) := List.drop_eq_getElem_cons ha
theorem ygk (c d : UInt8) : ((c.toNat : Int) == (d.toNat : Int)) = (c == d) := by
  rw [Bool.eq_iff_iff, beq_iff_eq, beq_iff_eq]
  constructor
  · intro h; exact UInt8.toNat_inj.1 (by omega)
  · intro h; rw [h]
theorem zz0 : ∀ l : List UInt8, remK l ≤ l.length
  | [] => by simp [remK]
  | [c] => by simp [remK]
  | c :: d :: l => by
    rw [remK]; split
    · omega
    · have := zz0 (d :: l); simp at this ⊢; omega
theorem zq5 : ∀ l : List UInt8, Lib.index l [42, 41] = if remK l + 1 < l.length then (remK l : Int) else -1
  | [] => by simp [remK, Lib.index]
  | [c] => by simp [remK, Lib.index, List.isPrefixOf]
  | c :: d :: l => by
    have ih := zq5 (d :: l)
    rw [Lib.index, ih, remK]
    have e : [42, 41].isPrefixOf (c :: d :: l) = ((c.toNat : Int) == 42 && (d.toNat : Int) == 41) := by
      simp only [List.isPrefixOf, Bool.and_true]
      have h1 := ygk c 42
      have h2 := ygk d 41
      simp only [show ((42 : UInt8).toNat : Int) = 42 from rfl, show ((41 : UInt8).toNat : Int) = 41 from rfl] at h1 h2
      rw [h1, h2]
      congr 1 <;> exact Bool.beq_comm
    rw [e]
    split
    · simp
    · by_cases h1 : remK (d :: l) + 1 < (d :: l).length
      · rw [if_pos h1, if_neg (by first | (simp; done) | (simp; omega)), if_pos (by simp at h1 ⊢; omega)]; try omega
      · rw [if_neg h1, if_pos (by rfl), if_neg (by simp at h1 ⊢; omega)]
end Go.Proofs.YtljdbheclfaloaaGreatDoor.AM
