/-
  Part 3.
  Conditions: as each says.
-/
import Derived.Test.YtljdbheclfaloaaGreatDoorPy2
import Derived.Test.YtljdbheclfaloaaGreatDoorProg
import Derived.KernelRfl
open List renaming getElem?_eq_some_iff→yoq,take_of_length_le→ypy
open Nat renaming reduceAdd→yor,reduceSub→yos,le_refl→yoz
open Bool renaming eq_iff_iff→yp7
open Option renaming bind_eq_some_iff→yo6
namespace Go.Proofs.YtljdbheclfaloaaGreatDoor.AM
open Go.RowKit
set_option linter.unusedSimpArgs false
set_option linter.unusedVariables false
set_option maxRecDepth 20000
def bk:FuncId:=3
def b4:FuncId:=9
def b7:FuncId:=10
def zbi:FuncId:=11
def kg:FuncId:=12
def be:FuncId:=13
def px:FuncId:=14
def za8:FuncId:=15
def bj:FuncId:=16
def zfj:FuncId:=21
def zbh:FuncId:=22
def zkd:FuncId:=23
def zky:FuncId:=24
def zjj:FuncId:=25
def zdl:FuncId:=26
def zi7:FuncId:=27
def zd1:FuncId:=28
def zde:FuncId:=29
def zgo:FuncId:=30
def zgd:FuncId:=31
def zh5:FuncId:=32
def yq:FuncId:=33
def qz:FuncId:=34
def gq:FuncId:=35
def j1:FuncId:=36
def za2:FuncId:=37
def jl:FuncId:=38
def qb:FuncId:=39
def vc:FuncId:=40
def zn:FuncId:=41
def zt:FuncId:=42
def zar:FuncId:=43
def qa:FuncId:=44
def zdu:FuncId:=51
def zk9:FuncId:=52
def gp:FuncId:=53
def zb6:FuncId:=54
def zcy:FuncId:=55
def zif:FuncId:=56
def zcb:FuncId:=57
def zbx:FuncId:=58
def zf6:FuncId:=59
def zb0:FuncId:=60
def zbg:FuncId:=61
def wi:FuncId:=62
def xi:FuncId:=63
def q9:FuncId:=64
def wj:FuncId:=65
def yu:FuncId:=66
def wk:FuncId:=67
def fe:FuncId:=68
def yh:FuncId:=69
def yw:FuncId:=70
def zbf:FuncId:=71
def gn:FuncId:=72
def zap:FuncId:=73
def zbj:FuncId:=74
def f8:FuncId:=75
def zb9:FuncId:=76
def z8:FuncId:=77
def wd:FuncId:=78
def yj:FuncId:=79
def ya:FuncId:=80
def xd:FuncId:=81
def yi:FuncId:=82
def y6:FuncId:=83
def vj:FuncId:=84
def gj:FuncId:=85
def x9:FuncId:=86
def jc:FuncId:=87
def zgc:FuncId:=88
def zan:FuncId:=89
def zgt:FuncId:=90
def wz:FuncId:=100
def pn:FuncId:=101
def zbc:FuncId:=102
def zb5:FuncId:=103
def zds:FuncId:=104
def f6:FuncId:=105
def pi:FuncId:=106
def vg:FuncId:=107
def za4:FuncId:=108
def y9:FuncId:=109
def vr:FuncId:=110
def jy:FuncId:=111
def y3:FuncId:=112
def zcl:FuncId:=113
def v8:FuncId:=114
def xf:FuncId:=115
def jp:FuncId:=116
def wh:FuncId:=117
def xg:FuncId:=118
def we:FuncId:=119
def jg:FuncId:=126
def py:FuncId:=130
def vl:FuncId:=131
def j4:FuncId:=132
def ju:FuncId:=133
def xj:FuncId:=134
def kh:FuncId:=142
def jb:FuncId:=143
def xu:FuncId:=144
def qf:FuncId:=148
def qx:FuncId:=149
def wg:FuncId:=150
def qp:FuncId:=151
def gf:FuncId:=153
def zhg:FuncId:=154
def yk:FuncId:=155
def xh:FuncId:=156
abbrev yoj (d s:Nat):gi:=⟨some d,.mv (.tmp s),none⟩
abbrev yol (d s:Nat):gi:=⟨some d,.nilCheck (.tmp s),none⟩
abbrev yom (d k s:Nat):gi:=⟨some d,.off k (.tmp s),none⟩
abbrev yon (d s:Nat):gi:=⟨some d,.load1 (.tmp s),none⟩
abbrev yoo (d:Nat) (o:AOp):gi:=⟨some d,o,none⟩
abbrev yop (p v:Nat):gi:=⟨none,.store1 (.tmp p) (.tmp v),none⟩
def jz:y4:=⟨151,[.tmp 4],(.seq (.ops [yoo 4 (.mv (.const (.bool false)))]) (.seq (.seq (.ops [yoo 17 (.call b4 []),
 yoo 18 (.un .not (.tmp 17))]) (.cond (.tmp 18) (.seq (.ops [yoo 4 (.mv (.const (.bool false)))]) .ret) .skip)) (.seq (.seq (.ops [yoj 19 0,yoj 20 1,yoo 21 (.call b7 [.tmp 19,.tmp 20,
 (.const (.slice none 0 0))])]) (.cond (.tmp 21) (.seq (.ops [yoo 4 (.mv (.const (.bool true)))]) .ret) .skip)) (.seq (.ops [⟨some 22,.mkRow [(.string ⟨#[]⟩),(.bool false)] 0 [],none⟩,yoj 23 1,
 yoo 24 (.append 2 24 (.tmp 22) (.tmp 23)),⟨some 25,.build [(.string ⟨#[]⟩),(.bool false)] [(0,1,(.const (.string ⟨#[120,55]⟩)))],none⟩,⟨some 26,.mkRow [(.string ⟨#[]⟩),(.bool false)] 1 [(0,2,.tmp 25)],none⟩,
 yoo 27 (.append 2 24 (.tmp 24) (.tmp 26)),yoj 5 27]) (.seq (.ops [yoj 29 0,yoj 30 5,yoj 31 1,yoo 32 (.len (.tmp 31)),yoo 33 (.slice 2 (.tmp 30) none (some (.tmp 32))),yoo 34 (.call zbi [.tmp 29,.tmp 33]),yoj 28 34,
 yoo 35 (.extract (.tmp 28) 0),yoo 36 (.extract (.tmp 28) 1),yoo 37 (.extract (.tmp 28) 2),yoj 6 35,yoj 7 36,yoj 8 37]) (.seq (.ops [yoj 39 0,yoj 40 1,yoo 41 (.call kg [.tmp 39,.tmp 40]),yoj 38 41,
 yoo 42 (.extract (.tmp 38) 0),yoo 43 (.extract (.tmp 38) 1),yoo 44 (.extract (.tmp 38) 2),yoj 9 42,yoj 10 43,yoj 11 44]) (.seq (.seq (.ops [yoj 45 7,yoj 46 10,yoo 47 (.bin .neq (.tmp 45) (.tmp 46)),yoj 48 47,⟨some 49,
 .mv (.tmp 8),(some (48,false))⟩,⟨some 50,.mv (.tmp 11),(some (48,false))⟩,⟨some 51,.bin .neq (.tmp 49) (.tmp 50),(some (48,false))⟩,yoo 52 (.pick (.tmp 48) (.const (.bool true)) (.tmp 51)),yoj 53 52,⟨some 54,
 .mv (.tmp 6),(some (53,false))⟩,⟨some 55,.eqv false .ptr (.tmp 54) (.const (.pointer none)),(some (53,false))⟩,⟨some 56,.mv (.tmp 9),(some (53,false))⟩,⟨some 57,.eqv false .ptr (.tmp 56) (.const (.pointer none)),
 (some (53,false))⟩,⟨some 58,.eqv true .bool (.tmp 55) (.tmp 57),(some (53,false))⟩,yoo 59 (.pick (.tmp 53) (.const (.bool true)) (.tmp 58)),yoj 60 59,⟨some 61,.mv (.tmp 5),(some (60,false))⟩,⟨some 62,.mv (.tmp 1),
 (some (60,false))⟩,⟨some 63,.len (.tmp 62),(some (60,false))⟩,⟨some 64,.slice 2 (.tmp 61) none (some (.tmp 63)),(some (60,false))⟩,⟨some 65,.mv (.tmp 1),(some (60,false))⟩,⟨some 66,.call be [.tmp 64,.tmp 65],(some (60,
 false))⟩,⟨some 67,.un .not (.tmp 66),(some (60,false))⟩,yoo 68 (.pick (.tmp 60) (.const (.bool true)) (.tmp 67)),yoj 69 68,⟨some 70,.mv (.tmp 5),(some (69,false))⟩,⟨some 71,.mv (.tmp 1),(some (69,false))⟩,⟨some 72,
 .len (.tmp 71),(some (69,false))⟩,⟨some 73,.atRow 2 (.tmp 70) (.tmp 72),(some (69,false))⟩,⟨some 74,.off 0 (.tmp 73),(some (69,false))⟩,⟨some 75,.load1 (.tmp 74),(some (69,false))⟩,⟨some 76,
 .bin .neq (.tmp 75) (.const (.string ⟨#[120,55]⟩)),(some (69,false))⟩,
 yoo 77 (.pick (.tmp 69) (.const (.bool true)) (.tmp 76))]) (.cond (.tmp 77) (.seq (.ops [yoo 4 (.mv (.const (.bool false)))]) .ret) .skip)) (.seq (.seq (.ops [yoo 12 (.mv (.const (.int .i64 0)))]) (.block 0 (.loop (.seq (.seq (.ops [yoj 78 12,yoj 79 5,yoo 80 (.len (.tmp 79)),yoo 81 (.bin .lss (.tmp 78) (.tmp 80))]) (.cond (.tmp 81) .skip (.exit 0))) (.seq (.block 1 (.ops [yoj 84 5,yoj 85 12,⟨some 86,.build [(.string ⟨#[]⟩),(.bool false)] [],none⟩,yoo 87 (.atRow 2 (.tmp 84) (.tmp 85)),⟨none,.store 2 (.tmp 87) (.tmp 86),none⟩])) (.ops [yoj 82 12,yoo 83 (.bin .add (.tmp 82) (.const (.int .i64 1))),yoj 12 83])))))) (.seq (.seq (.ops [yoj 88 9,yoo 89 (.eqv false .ptr (.tmp 88) (.const (.pointer none)))]) (.cond (.tmp 89) (.seq (.ops [yoo 4 (.mv (.const (.bool true)))]) .ret) .skip)) (.seq (.ops [yoo 13 (.mv (.const (.slice none 0 0)))]) (.seq (.seq (.ops [yoo 14 (.mv (.const (.int .i64 0)))]) (.block 2 (.loop (.seq (.seq (.ops [yoj 90 14,yoj 91 9,yol 92 91,yom 93 2 92,yon 94 93,yoo 95 (.len (.tmp 94)),yoo 96 (.bin .lss (.tmp 90) (.tmp 95))]) (.cond (.tmp 96) .skip (.exit 2))) (.seq (.block 3 (.seq (.ops [yoj 99 9,yol 100 99,yom 101 2 100,yon 102 101,yoj 103 14,yoo 104 (.atRow 5 (.tmp 102) (.tmp 103)),yom 105 2 104,yon 106 105,⟨some 107,.bin .neq (.tmp 106) (.const (.string ⟨#[]⟩)),none⟩]) (.cond (.tmp 107) (.ops [yoj 108 13,yoj 109 9,yol 110 109,yom 111 2 110,yon 112 111,yoj 113 14,yoo 114 (.atRow 5 (.tmp 112) (.tmp 113)),yom 115 3 114,yon 116 115,⟨some 117,.mkRow [(.string ⟨#[]⟩)] 1 [(0,1,.tmp 116)],none⟩,yoo 118 (.append 1 16 (.tmp 108) (.tmp 117)),yoj 13 118]) .skip))) (.ops [yoj 97 14,yoo 98 (.bin .add (.tmp 97) (.const (.int .i64 1))),yoj 14 98])))))) (.seq (.ops [yoj 119 6,yoo 120 (.call px [.tmp 119]),yoj 15 120]) (.seq (.seq (.ops [yoj 121 15,yoo 122 (.len (.tmp 121)),yoj 123 13,yoo 124 (.len (.tmp 123)),yoo 125 (.bin .neq (.tmp 122) (.tmp 124)),yoj 126 125,⟨some 127,.mv (.tmp 6),(some (126,false))⟩,⟨some 129,.mv (.tmp 9),(some (126,false))⟩,⟨some 130,.nilCheck (.tmp 129),(some (126,false))⟩,⟨some 131,.off 1 (.tmp 130),(some (126,false))⟩,⟨some 132,.load1 (.tmp 131),(some (126,false))⟩,⟨some 128,.call za8 [.tmp 127],(some (126,false))⟩,⟨none,.again1 (.tmp 131) 132,(some (126,false))⟩,⟨some 133,.call be [.tmp 128,.tmp 132],(some (126,false))⟩,⟨some 134,.un .not (.tmp 133),(some (126,false))⟩,yoo 135 (.pick (.tmp 126) (.const (.bool true)) (.tmp 134))]) (.cond (.tmp 135) (.seq (.ops [yoo 4 (.mv (.const (.bool false)))]) .ret) .skip)) (.seq (.seq (.ops [yoo 16 (.mv (.const (.int .i64 0)))]) (.block 4 (.loop (.seq (.seq (.ops [yoj 136 16,yoj 137 15,yoo 138 (.len (.tmp 137)),yoo 139 (.bin .lss (.tmp 136) (.tmp 138))]) (.cond (.tmp 139) .skip (.exit 4))) (.seq (.block 5 (.seq (.ops [yoj 142 15,yoj 143 16,yoo 144 (.atRow 1 (.tmp 142) (.tmp 143)),yon 145 144,yoj 146 13,yoj 147 16,yoo 148 (.atRow 1 (.tmp 146) (.tmp 147)),yon 149 148,yoo 150 (.bin .neq (.tmp 145) (.tmp 149))]) (.cond (.tmp 150) (.seq (.ops [yoo 4 (.mv (.const (.bool false)))]) .ret) .skip))) (.ops [yoj 140 16,yoo 141 (.bin .add (.tmp 140) (.const (.int .i64 1))),yoj 16 141])))))) (.seq (.ops [yoo 4 (.mv (.const (.bool true)))]) .ret)))))))))))))))⟩
def zdp:y4:=⟨78,[.tmp 0],(.seq (.ops [yoo 0 (.mv (.const (.bool false)))]) (.seq (.ops [⟨some 12,.build [(.string ⟨#[]⟩),(.bool false)] [(0,1,(.const (.string ⟨#[114]⟩)))],none⟩,⟨some 13,.build [(.string ⟨#[]⟩),
 (.bool false)] [(0,1,(.const (.string ⟨#[87]⟩))),(1,1,(.const (.bool true)))],none⟩,⟨some 14,.mkRow [(.string ⟨#[]⟩),(.bool false)] 2 [(0,2,.tmp 12),(2,2,.tmp 13)],none⟩,yoj 1 14]) (.seq (.ops [yoj 16 1,⟨some 17,
 .call zbi [(.const (.string ⟨#[108,101,116,32,116,32,61,32,114,32,59,32,114,32,97,99,121,99,108,105,99,32,116,32,97,115,32,103,111,111,100]⟩)),.tmp 16],none⟩,yoj 15 17,yoo 18 (.extract (.tmp 15) 0),
 yoo 19 (.extract (.tmp 15) 1),yoo 20 (.extract (.tmp 15) 2),yoj 2 18,yoj 3 19,yoj 4 20]) (.seq (.ops [yoj 22 1,⟨some 23,.call zbi [(.const (.string ⟨#[97,99,121,99,108,105,99,32,87]⟩)),.tmp 22],none⟩,yoj 21 23,
 yoo 24 (.extract (.tmp 21) 0),yoo 25 (.extract (.tmp 21) 1),yoo 26 (.extract (.tmp 21) 2),yoj 5 24,yoj 6 25,yoj 7 26]) (.seq (.seq (.ops [yoj 27 3,yoo 28 (.bin .neq (.tmp 27) (.const (.int .i64 0))),yoj 29 28,⟨some 30,
 .mv (.tmp 2),(some (29,false))⟩,⟨some 31,.eqv false .ptr (.tmp 30) (.const (.pointer none)),(some (29,false))⟩,yoo 32 (.pick (.tmp 29) (.const (.bool true)) (.tmp 31)),yoj 33 32,⟨some 34,.mv (.tmp 6),(some (33,false))⟩,
 ⟨some 35,.bin .neq (.tmp 34) (.const (.int .i64 41)),(some (33,false))⟩,yoo 36 (.pick (.tmp 33) (.const (.bool true)) (.tmp 35)),yoj 37 36,⟨some 38,.mv (.tmp 7),(some (37,false))⟩,⟨some 39,
 .bin .neq (.tmp 38) (.const (.int .i64 8)),(some (37,false))⟩,
 yoo 40 (.pick (.tmp 37) (.const (.bool true)) (.tmp 39))]) (.cond (.tmp 40) (.seq (.ops [yoo 0 (.mv (.const (.bool false)))]) .ret) .skip)) (.seq (.ops [yoj 42 2,yoo 43 (.build (List.replicate 32 (.int .u32 0)) [(0,1,
 (.const (.int .u32 2)))]),⟨some 44,.build ([(.string ⟨#[]⟩)]++[(.bool false)]++List.replicate 33 (.int .u32 0)) [(0,1,(.const (.string ⟨#[114]⟩))),(3,32,.tmp 43)],none⟩,⟨some 45,
 .mkRow ([(.string ⟨#[]⟩)]++[(.bool false)]++List.replicate 33 (.int .u32 0)) 1 [(0,35,.tmp 44)],none⟩,yoo 46 (.call bj [.tmp 42,(.const (.int .u32 3)),.tmp 45]),yoj 41 46,yoo 47 (.extract (.tmp 41) 0),
 yoo 48 (.extract (.tmp 41) 1),yoj 8 47,yoj 9 48]) (.seq (.ops [yoj 50 2,yoo 51 (.build (List.replicate 32 (.int .u32 0)) [(0,1,(.const (.int .u32 1)))]),⟨some 52,
 .build ([(.string ⟨#[]⟩)]++[(.bool false)]++List.replicate 33 (.int .u32 0)) [(0,1,(.const (.string ⟨#[114]⟩))),(3,32,.tmp 51)],none⟩,⟨some 53,
 .mkRow ([(.string ⟨#[]⟩)]++[(.bool false)]++List.replicate 33 (.int .u32 0)) 1 [(0,35,.tmp 52)],none⟩,yoo 54 (.call bj [.tmp 50,(.const (.int .u32 3)),.tmp 53]),yoj 49 54,yoo 55 (.extract (.tmp 49) 0),
 yoo 56 (.extract (.tmp 49) 1),yoj 10 55,yoj 11 56]) (.seq (.ops [yoj 57 8,yoj 58 57,⟨some 59,.mv (.tmp 10),(some (58,true))⟩,⟨some 60,.un .not (.tmp 59),(some (58,true))⟩,
 yoo 61 (.pick (.tmp 58) (.tmp 60) (.const (.bool false))),yoj 62 61,⟨some 63,.mv (.tmp 11),(some (62,true))⟩,⟨some 64,.bin .eql (.tmp 63) (.const (.string ⟨#[103,111,111,100]⟩)),(some (62,true))⟩,
 yoo 65 (.pick (.tmp 62) (.tmp 64) (.const (.bool false))),yoj 66 65,⟨some 67,.mv (.tmp 2),(some (66,true))⟩,⟨some 68,.call px [.tmp 67],(some (66,true))⟩,⟨some 69,.len (.tmp 68),(some (66,true))⟩,⟨some 70,
 .bin .eql (.tmp 69) (.const (.int .i64 1)),(some (66,true))⟩,yoo 71 (.pick (.tmp 66) (.tmp 70) (.const (.bool false))),yoj 72 71,⟨some 73,.mv (.tmp 2),(some (72,true))⟩,⟨some 74,.call za8 [.tmp 73],(some (72,true))⟩,
 ⟨some 75,.len (.tmp 74),(some (72,true))⟩,⟨some 76,.bin .eql (.tmp 75) (.const (.int .i64 1)),(some (72,true))⟩,yoo 77 (.pick (.tmp 72) (.tmp 76) (.const (.bool false))),yoj 0 77]) .ret))))))))⟩
def zdy:y4:=⟨56,[.tmp 6],(.seq (.ops [yoo 6 (.mv (.const (.bool false)))]) (.seq (.ops [yoj 10 0,yoo 11 (.lenStr (.tmp 10)),yoj 12 1,yoo 13 (.len (.tmp 12)),yoo 14 (.bin .add (.tmp 11) (.tmp 13)),yoj 15 2,
 yoo 16 (.len (.tmp 15)),yoo 17 (.bin .add (.tmp 14) (.tmp 16)),yoj 7 17]) (.seq (.seq (.ops [yoo 8 (.mv (.const (.int .i64 0)))]) (.block 0 (.loop (.seq (.seq (.ops [yoj 18 8,yoj 19 1,yoo 20 (.len (.tmp 19)),
 yoo 21 (.bin .lss (.tmp 18) (.tmp 20)),yoj 22 21,⟨some 23,.mv (.tmp 7),(some (22,true))⟩,⟨some 24,.bin .leq (.tmp 23) (.const (.int .i64 6000)),(some (22,true))⟩,
 yoo 25 (.pick (.tmp 22) (.tmp 24) (.const (.bool false)))]) (.cond (.tmp 25) .skip (.exit 0))) (.seq (.block 1 (.ops [yoj 28 7,yoj 29 1,yoj 30 8,yoo 31 (.atRow 2 (.tmp 29) (.tmp 30)),yom 32 0 31,yon 33 32,
 yoo 34 (.lenStr (.tmp 33)),yoo 35 (.bin .add (.tmp 28) (.tmp 34)),yoj 7 35])) (.ops [yoj 26 8,yoo 27 (.bin .add (.tmp 26) (.const (.int .i64 1))),
 yoj 8 27])))))) (.seq (.seq (.ops [yoo 9 (.mv (.const (.int .i64 0)))]) (.block 2 (.loop (.seq (.seq (.ops [yoj 36 9,yoj 37 2,yoo 38 (.len (.tmp 37)),yoo 39 (.bin .lss (.tmp 36) (.tmp 38)),yoj 40 39,⟨some 41,
 .mv (.tmp 7),(some (40,true))⟩,⟨some 42,.bin .leq (.tmp 41) (.const (.int .i64 6000)),(some (40,true))⟩,
 yoo 43 (.pick (.tmp 40) (.tmp 42) (.const (.bool false)))]) (.cond (.tmp 43) .skip (.exit 2))) (.seq (.block 3 (.ops [yoj 46 7,yoj 47 2,yoj 48 9,yoo 49 (.atRow 35 (.tmp 47) (.tmp 48)),yom 50 0 49,yon 51 50,
 yoo 52 (.lenStr (.tmp 51)),yoo 53 (.bin .add (.tmp 46) (.tmp 52)),yoj 7 53])) (.ops [yoj 44 9,yoo 45 (.bin .add (.tmp 44) (.const (.int .i64 1))),yoj 9 45])))))) (.seq (.ops [yoj 54 7,
 yoo 55 (.bin .gtr (.tmp 54) (.const (.int .i64 6000))),yoj 6 55]) .ret)))))⟩
def zf7:y4:=⟨131,[.tmp 4,.tmp 5,.tmp 6],(.seq (.ops [yoo 4 (.mv (.const (.pointer none))),yoo 5 (.mv (.const (.int .i64 0))),yoo 6 (.mv (.const (.int .i64 0)))]) (.seq (.seq (.ops [yoj 19 0,yoo 20 (.lenStr (.tmp 19)),
 yoo 21 (.bin .gtr (.tmp 20) (.const (.int .i64 4096)))]) (.cond (.tmp 21) (.seq (.ops [yoo 4 (.mv (.const (.pointer none))),yoo 5 (.mv (.const (.int .i64 2))),
 yoo 6 (.mv (.const (.int .i64 0)))]) .ret) .skip)) (.seq (.ops [yoj 23 0,yoo 24 (.call zgd [.tmp 23]),yoj 22 24,yoo 25 (.extract (.tmp 22) 0),yoo 26 (.extract (.tmp 22) 1),yoo 27 (.extract (.tmp 22) 2),yoj 7 25,yoj 8 26,
 yoj 9 27]) (.seq (.seq (.ops [yoj 28 8,yoo 29 (.bin .neq (.tmp 28) (.const (.int .i64 0)))]) (.cond (.tmp 29) (.seq (.ops [yoj 30 8,yoj 31 9,yoo 4 (.mv (.const (.pointer none))),yoj 5 30,
 yoj 6 31]) .ret) .skip)) (.seq (.ops [yoj 32 7,yoo 33 (.call zh5 [.tmp 32]),yoj 34 7,yoj 35 0,yoo 36 (.lenStr (.tmp 35)),yoo 37 (.build [(.pointer none),(.slice none 0 0),(.int .i64 0),(.int .i64 0),(.int .i64 0),
 (.int .i64 0)] [(0,1,.tmp 33),(1,1,.tmp 34),(2,1,.tmp 36)]),yoo 38 (.box 6 (.tmp 37)),yoj 10 38]) (.seq (.ops [yoo 39 (.build [(.slice none 0 0),(.slice none 0 0)] []),yoo 40 (.box 2 (.tmp 39)),
 yoj 11 40]) (.seq (.block 0 (.loop (.seq (.seq (.ops [yoj 41 10,yoo 42 (.call yq [.tmp 41]),yoj 43 42,⟨some 44,.mv (.tmp 10),(some (43,true))⟩,⟨some 45,.nilCheck (.tmp 44),(some (43,true))⟩,⟨some 46,.off 0 (.tmp 45),
 (some (43,true))⟩,⟨some 47,.load1 (.tmp 46),(some (43,true))⟩,⟨some 48,.call qz [.tmp 47],(some (43,true))⟩,⟨some 49,.bin .gtr (.tmp 48) (.const (.int .i64 0)),(some (43,true))⟩,
 yoo 50 (.pick (.tmp 43) (.tmp 49) (.const (.bool false)))]) (.cond (.tmp 50) .skip (.exit 0))) (.block 1 (.ops [yoj 51 11,yoj 52 11,yol 53 52,yom 54 1 53,yon 55 54,yoj 56 10,yoo 57 (.call gq [.tmp 56]),⟨none,
 .again1 (.tmp 54) 55,none⟩,⟨some 58,.mkRow [(.string ⟨#[]⟩),(.slice none 0 0),(.pointer none),(.string ⟨#[]⟩)] 1 [(0,4,.tmp 57)],none⟩,yoo 59 (.append 4 64 (.tmp 55) (.tmp 58)),yol 60 51,yom 61 1 60,
 yop 61 59]))))) (.seq (.ops [yoj 62 10,yoo 63 (.mkMap),yoo 64 (.build [(.pointer none),(.map none),(.map none),(.int .i64 0)] [(0,1,.tmp 62),(1,1,.tmp 63)]),yoo 65 (.box 4 (.tmp 64)),
 yoj 12 65]) (.seq (.seq (.ops [yoj 66 1,yoo 67 (.len (.tmp 66)),
 yoo 68 (.mv (.const (.int .i64 0)))]) (.block 2 (.loop (.seq (.ops [yoo 69 (.bin .lss (.tmp 68) (.tmp 67))]) (.seq (.cond (.tmp 69) .skip (.exit 2)) (.seq (.block 3 (.seq (.ops [yoo 70 (.atRow 2 (.tmp 66) (.tmp 68)),
 yoo 71 (.load 2 (.tmp 70)),⟨some 14,.alloc [(.string ⟨#[]⟩),(.bool false)],none⟩,⟨none,.store 2 (.tmp 14) (.tmp 71),none⟩]) (.seq (.ops [yoj 73 12,yol 74 73,yom 75 1 74,yon 76 75,yom 77 0 14,yon 78 77,
 yoo 79 (.lookup .str (.bool false) (.tmp 76) (.tmp 78) true),yoj 72 79,yoo 80 (.extract (.tmp 72) 0),yoo 81 (.extract (.tmp 72) 1),yoj 15 80,yoj 16 81]) (.seq (.ops [yoj 82 16,
 yoo 83 (.un .not (.tmp 82))]) (.cond (.tmp 83) (.seq (.ops [yoj 84 12,yol 85 84,yom 86 1 85,yon 87 86,yom 88 0 14,yon 89 88,yom 90 1 14,yon 91 90,⟨none,.update .str (.tmp 87) (.tmp 89) (.tmp 91),none⟩]) (.ops [yoj 92 11,
 yoj 93 11,yol 94 93,yom 95 0 94,yon 96 95,yoo 97 (.load 2 (.tmp 14)),⟨some 98,.mkRow [(.string ⟨#[]⟩),(.bool false)] 1 [(0,2,.tmp 97)],none⟩,yoo 99 (.append 2 24 (.tmp 96) (.tmp 98)),yol 100 92,yom 101 0 100,
 yop 101 99])) .skip))))) (.ops [yoo 102 (.bin .add (.tmp 68) (.const (.int .i64 1))),yoj 68 102]))))))) (.seq (.seq (.ops [yoj 103 11,yol 104 103,yom 105 1 104,yon 106 105,yoo 107 (.len (.tmp 106)),
 yoo 108 (.mv (.const (.int .i64 0)))]) (.block 4 (.loop (.seq (.ops [yoo 109 (.bin .lss (.tmp 108) (.tmp 107))]) (.seq (.cond (.tmp 109) .skip (.exit 4)) (.seq (.block 5 (.seq (.ops [yoo 110 (.atRow 4 (.tmp 106) (.tmp 108)),yoo 111 (.load 4 (.tmp 110)),⟨some 18,.alloc [(.string ⟨#[]⟩),(.slice none 0 0),(.pointer none),(.string ⟨#[]⟩)],none⟩,⟨none,.store 4 (.tmp 18) (.tmp 111),none⟩]) (.seq (.seq (.ops [yoj 112 10,yoo 113 (.call yq [.tmp 112]),yoo 114 (.un .not (.tmp 113))]) (.cond (.tmp 114) (.exit 4) .skip)) (.ops [yoj 115 12,yoo 116 (.load 4 (.tmp 18)),yoo 117 (.call j1 [.tmp 115,.tmp 116])])))) (.ops [yoo 118 (.bin .add (.tmp 108) (.const (.int .i64 1))),yoj 108 118]))))))) (.seq (.seq (.ops [yoj 119 10,yoo 120 (.call yq [.tmp 119]),yoo 121 (.un .not (.tmp 120))]) (.cond (.tmp 121) (.seq (.ops [yoj 122 10,yol 123 122,yom 124 4 123,yon 125 124,yoj 126 10,yol 127 126,yom 128 5 127,yon 129 128,yoo 4 (.mv (.const (.pointer none))),yoj 5 125,yoj 6 129]) .ret) .skip)) (.seq (.ops [yoj 130 11,yoj 4 130,yoo 5 (.mv (.const (.int .i64 0))),yoo 6 (.mv (.const (.int .i64 0)))]) .ret))))))))))))⟩
def bf:y4:=⟨195,[.tmp 4,.tmp 5,.tmp 6],(.seq (.ops [yoo 4 (.mv (.const (.pointer none))),yoo 5 (.mv (.const (.int .i64 0))),yoo 6 (.mv (.const (.int .i64 0)))]) (.seq (.seq (.ops [yoj 16 0,yoo 17 (.lenStr (.tmp 16)),
 yoo 18 (.bin .gtr (.tmp 17) (.const (.int .i64 4096)))]) (.cond (.tmp 18) (.seq (.ops [yoo 4 (.mv (.const (.pointer none))),yoo 5 (.mv (.const (.int .i64 2))),
 yoo 6 (.mv (.const (.int .i64 0)))]) .ret) .skip)) (.seq (.ops [yoj 20 0,yoo 21 (.call za2 [.tmp 20]),yoj 19 21,yoo 22 (.extract (.tmp 19) 0),yoo 23 (.extract (.tmp 19) 1),yoo 24 (.extract (.tmp 19) 2),yoj 7 22,yoj 8 23,
 yoj 9 24]) (.seq (.seq (.ops [yoj 25 8,yoo 26 (.bin .neq (.tmp 25) (.const (.int .i64 0)))]) (.cond (.tmp 26) (.seq (.ops [yoj 27 8,yoj 28 9,yoo 4 (.mv (.const (.pointer none))),yoj 5 27,
 yoj 6 28]) .ret) .skip)) (.seq (.ops [yoj 29 7,yoo 30 (.build [(.slice none 0 0),(.int .i64 0)] [(0,1,.tmp 29)]),yoo 31 (.box 2 (.tmp 30)),yoj 32 0,yoo 33 (.lenStr (.tmp 32)),yoo 34 (.build [(.pointer none),
 (.int .i64 0),(.int .i64 0),(.int .i64 0),(.int .i64 0)] [(0,1,.tmp 31),(3,1,.tmp 33)]),yoo 35 (.box 5 (.tmp 34)),yoj 10 35]) (.seq (.ops [yoo 36 (.build [(.slice none 0 0),(.slice none 0 0),(.slice none 0 0)] []),
 yoo 37 (.box 3 (.tmp 36)),yoj 11 37]) (.seq (.block 0 (.loop (.seq (.seq (.ops [yoj 38 10,yol 39 38,yom 40 1 39,yon 41 40,yoo 42 (.bin .eql (.tmp 41) (.const (.int .i64 0))),yoj 43 42,⟨some 44,.mv (.tmp 10),(some (43,
 true))⟩,⟨some 45,.nilCheck (.tmp 44),(some (43,true))⟩,⟨some 46,.off 0 (.tmp 45),(some (43,true))⟩,⟨some 47,.load1 (.tmp 46),(some (43,true))⟩,⟨some 48,.nilCheck (.tmp 47),(some (43,true))⟩,⟨some 49,.off 1 (.tmp 48),
 (some (43,true))⟩,⟨some 50,.load1 (.tmp 49),(some (43,true))⟩,⟨some 51,.mv (.tmp 7),(some (43,true))⟩,⟨some 52,.len (.tmp 51),(some (43,true))⟩,⟨some 53,.bin .lss (.tmp 50) (.tmp 52),(some (43,true))⟩,
 yoo 54 (.pick (.tmp 43) (.tmp 53) (.const (.bool false)))]) (.cond (.tmp 54) .skip (.exit 0))) (.block 1 (.ops [yoj 55 11,yoj 56 11,yol 57 56,yom 58 2 57,yon 59 58,yoj 60 10,yoo 61 (.call jl [.tmp 60]),⟨none,
 .again1 (.tmp 58) 59,none⟩,⟨some 62,.mkRow [(.slice none 0 0),(.bool false),(.string ⟨#[]⟩),(.string ⟨#[]⟩),(.pointer none)] 1 [(0,5,.tmp 61)],none⟩,yoo 63 (.append 5 72 (.tmp 59) (.tmp 62)),yol 64 55,yom 65 2 64,
 yop 65 63]))))) (.seq (.seq (.ops [yoj 66 10,yol 67 66,yom 68 1 67,yon 69 68,yoo 70 (.bin .neq (.tmp 69) (.const (.int .i64 0)))]) (.cond (.tmp 70) (.seq (.ops [yoj 71 10,yol 72 71,yom 73 1 72,yon 74 73,yoj 75 10,
 yol 76 75,yom 77 2 76,yon 78 77,yoo 4 (.mv (.const (.pointer none))),yoj 5 74,yoj 6 78]) .ret) .skip)) (.seq (.seq (.ops [yoo 12 (.mv (.const (.int .i64 0)))]) (.block 2 (.loop (.seq (.seq (.ops [yoj 79 12,yoj 80 1,
 yoo 81 (.len (.tmp 80)),yoo 82 (.bin .lss (.tmp 79) (.tmp 81))]) (.cond (.tmp 82) .skip (.exit 2))) (.seq (.block 3 (.seq (.ops [yoj 85 11,yol 86 85,yom 87 0 86,yon 88 87,yoj 89 1,yoj 90 12,
 yoo 91 (.atRow 2 (.tmp 89) (.tmp 90)),yom 92 0 91,yon 93 92,yoo 94 (.call qb [.tmp 88,.tmp 93]),yoo 95 (.bin .lss (.tmp 94) (.const (.int .i64 0)))]) (.cond (.tmp 95) (.ops [yoj 96 11,yoj 97 11,yol 98 97,yom 99 0 98,
 yon 100 99,yoj 101 1,yoj 102 12,yoo 103 (.atRow 2 (.tmp 101) (.tmp 102)),yoo 104 (.load 2 (.tmp 103)),⟨some 105,.mkRow [(.string ⟨#[]⟩),(.bool false)] 1 [(0,2,.tmp 104)],none⟩,
 yoo 106 (.append 2 24 (.tmp 100) (.tmp 105)),yol 107 96,yom 108 0 107,yop 108 106]) .skip))) (.ops [yoj 83 12,yoo 84 (.bin .add (.tmp 83) (.const (.int .i64 1))),
 yoj 12 84])))))) (.seq (.ops [yoo 109 (.build [(.slice none 0 0),(.slice none 0 0),(.int .i64 0),(.int .i64 0)] []),yoo 110 (.box 4 (.tmp 109)),yoj 13 110]) (.seq (.ops [yoj 111 13,yoj 112 13,yol 113 112,yom 114 0 113,
 yon 115 114,yoj 116 11,yol 117 116,yom 118 0 117,yon 119 118,yoo 120 (.append 2 24 (.tmp 115) (.tmp 119)),yol 121 111,yom 122 0 121,
 yop 122 120]) (.seq (.seq (.ops [yoo 14 (.mv (.const (.int .i64 0)))]) (.block 4 (.loop (.seq (.seq (.ops [yoj 123 14,yoj 124 11,yol 125 124,yom 126 2 125,yon 127 126,yoo 128 (.len (.tmp 127)),
 yoo 129 (.bin .lss (.tmp 123) (.tmp 128)),yoj 130 129,⟨some 131,.mv (.tmp 13),(some (130,true))⟩,⟨some 132,.nilCheck (.tmp 131),(some (130,true))⟩,⟨some 133,.off 2 (.tmp 132),(some (130,true))⟩,⟨some 134,
 .load1 (.tmp 133),(some (130,true))⟩,⟨some 135,.bin .eql (.tmp 134) (.const (.int .i64 0)),(some (130,true))⟩,
 yoo 136 (.pick (.tmp 130) (.tmp 135) (.const (.bool false)))]) (.cond (.tmp 136) .skip (.exit 4))) (.seq (.block 5 (.seq (.ops [yoj 139 11,yol 140 139,yom 141 2 140,yon 142 141,yoj 143 14,
 yoo 144 (.atRow 5 (.tmp 142) (.tmp 143)),yoo 145 (.load 5 (.tmp 144)),⟨some 15,.alloc [(.slice none 0 0),(.bool false),(.string ⟨#[]⟩),(.string ⟨#[]⟩),(.pointer none)],none⟩,⟨none,.store 5 (.tmp 15) (.tmp 145),
 none⟩]) (.seq (.seq (.ops [yom 146 2 15,yon 147 146,⟨some 148,.bin .eql (.tmp 147) (.const (.string ⟨#[]⟩)),none⟩]) (.cond (.tmp 148) (.seq (.ops [yoj 149 13,yoj 150 11,yoo 151 (.load 5 (.tmp 15)),
 yoo 152 (.call vc [.tmp 149,.tmp 150,.tmp 151])]) (.exit 5)) .skip)) (.seq (.ops [yoj 153 13,yom 154 4 15,yon 155 154,yoo 156 (.call zn [.tmp 153,.tmp 155,(.const (.bool false))])]) (.seq (.ops [yoj 157 13,yol 158 157,
 yom 159 2 158,yon 160 159,yoo 161 (.bin .eql (.tmp 160) (.const (.int .i64 0))),yoj 162 161,⟨some 163,.off 4 (.tmp 15),(some (162,true))⟩,⟨some 164,.load1 (.tmp 163),(some (162,true))⟩,⟨some 165,.nilCheck (.tmp 164),
 (some (162,true))⟩,⟨some 166,.off 6 (.tmp 165),(some (162,true))⟩,⟨some 167,.load1 (.tmp 166),(some (162,true))⟩,yoo 168 (.pick (.tmp 162) (.tmp 167) (.const (.bool false))),yoj 169 168,⟨some 170,.off 2 (.tmp 15),
 (some (169,true))⟩,⟨some 171,.load1 (.tmp 170),(some (169,true))⟩,⟨some 172,.bin .neq (.tmp 171) (.const (.string ⟨#[101,109,112,116,121]⟩)),(some (169,true))⟩,
 yoo 173 (.pick (.tmp 169) (.tmp 172) (.const (.bool false)))]) (.cond (.tmp 173) (.ops [yoj 174 13,yom 175 4 15,yon 176 175,yol 177 176,yom 178 2 177,yon 179 178,yoo 180 (.call zt [.tmp 174,(.const (.int .i64 41)),
 .tmp 179])]) .skip)))))) (.ops [yoj 137 14,yoo 138 (.bin .add (.tmp 137) (.const (.int .i64 1))),yoj 14 138])))))) (.seq (.seq (.ops [yoj 181 13,yol 182 181,yom 183 2 182,yon 184 183,
 yoo 185 (.bin .neq (.tmp 184) (.const (.int .i64 0)))]) (.cond (.tmp 185) (.seq (.ops [yoj 186 13,yol 187 186,yom 188 2 187,yon 189 188,yoj 190 13,yol 191 190,yom 192 3 191,yon 193 192,
 yoo 4 (.mv (.const (.pointer none))),yoj 5 189,yoj 6 193]) .ret) .skip)) (.seq (.ops [yoj 194 11,yoj 4 194,yoo 5 (.mv (.const (.int .i64 0))),yoo 6 (.mv (.const (.int .i64 0)))]) .ret))))))))))))))⟩
def zc8:y4:=⟨26,[.tmp 4],(.seq (.ops [yoo 4 (.mv (.const (.bool false)))]) (.seq (.seq (.ops [yoj 6 0,yoo 7 (.len (.tmp 6)),yoj 8 1,yoo 9 (.len (.tmp 8)),
 yoo 10 (.bin .neq (.tmp 7) (.tmp 9))]) (.cond (.tmp 10) (.seq (.ops [yoo 4 (.mv (.const (.bool false)))]) .ret) .skip)) (.seq (.seq (.ops [yoo 5 (.mv (.const (.int .i64 0)))]) (.block 0 (.loop (.seq (.seq (.ops [yoj 11 5,yoj 12 0,yoo 13 (.len (.tmp 12)),yoo 14 (.bin .lss (.tmp 11) (.tmp 13))]) (.cond (.tmp 14) .skip (.exit 0))) (.seq (.block 1 (.seq (.ops [yoj 17 0,yoj 18 5,yoo 19 (.atRow 2 (.tmp 17) (.tmp 18)),yoo 20 (.load 2 (.tmp 19)),yoj 21 1,yoj 22 5,yoo 23 (.atRow 2 (.tmp 21) (.tmp 22)),yoo 24 (.load 2 (.tmp 23)),yoo 25 (.eqAgg true [.str,.bool] (.tmp 20) (.tmp 24))]) (.cond (.tmp 25) (.seq (.ops [yoo 4 (.mv (.const (.bool false)))]) .ret) .skip))) (.ops [yoj 15 5,yoo 16 (.bin .add (.tmp 15) (.const (.int .i64 1))),yoj 5 16])))))) (.seq (.ops [yoo 4 (.mv (.const (.bool true)))]) .ret))))⟩
def zey:y4:=⟨25,[.tmp 2],(.seq (.ops [yoo 2 (.mv (.const (.slice none 0 0)))]) (.seq (.ops [yoo 3 (.mv (.const (.slice none 0 0)))]) (.seq (.seq (.ops [yoj 6 0,yol 7 6,yom 8 1 7,yon 9 8,yoo 10 (.len (.tmp 9)),
 yoo 11 (.mv (.const (.int .i64 0)))]) (.block 0 (.loop (.seq (.ops [yoo 12 (.bin .lss (.tmp 11) (.tmp 10))]) (.seq (.cond (.tmp 12) .skip (.exit 0)) (.seq (.block 1 (.seq (.ops [yoo 13 (.atRow 4 (.tmp 9) (.tmp 11)),
 yoo 14 (.load 4 (.tmp 13)),⟨some 5,.alloc [(.string ⟨#[]⟩),(.slice none 0 0),(.pointer none),(.string ⟨#[]⟩)],none⟩,⟨none,.store 4 (.tmp 5) (.tmp 14),none⟩]) (.seq (.ops [yom 15 2 5,yon 16 15,
 yoo 17 (.eqv true .ptr (.tmp 16) (.const (.pointer none)))]) (.cond (.tmp 17) (.ops [yoj 18 3,yom 19 3 5,yon 20 19,⟨some 21,.mkRow [(.string ⟨#[]⟩)] 1 [(0,1,.tmp 20)],none⟩,yoo 22 (.append 1 16 (.tmp 18) (.tmp 21)),
 yoj 3 22]) .skip)))) (.ops [yoo 23 (.bin .add (.tmp 11) (.const (.int .i64 1))),yoj 11 23]))))))) (.seq (.ops [yoj 24 3,yoj 2 24]) .ret))))⟩
def zg0:y4:=⟨38,[.tmp 2],(.seq (.ops [yoo 2 (.mv (.const (.slice none 0 0)))]) (.seq (.ops [yoo 3 (.mv (.const (.slice none 0 0)))]) (.seq (.seq (.ops [yoj 8 0,yol 9 8,yom 10 1 9,yon 11 10,yoo 12 (.len (.tmp 11)),
 yoo 13 (.mv (.const (.int .i64 0)))]) (.block 0 (.loop (.seq (.ops [yoo 14 (.bin .lss (.tmp 13) (.tmp 12))]) (.seq (.cond (.tmp 14) .skip (.exit 0)) (.seq (.block 1 (.seq (.ops [yoo 15 (.atRow 4 (.tmp 11) (.tmp 13)),
 yoo 16 (.load 4 (.tmp 15)),⟨some 5,.alloc [(.string ⟨#[]⟩),(.slice none 0 0),(.pointer none),(.string ⟨#[]⟩)],none⟩,⟨none,.store 4 (.tmp 5) (.tmp 16),none⟩]) (.seq (.ops [yom 17 1 5,yon 18 17,yoo 19 (.len (.tmp 18)),
 yoo 20 (.mv (.const (.int .i64 0)))]) (.block 2 (.loop (.seq (.ops [yoo 21 (.bin .lss (.tmp 20) (.tmp 19))]) (.seq (.cond (.tmp 21) .skip (.exit 2)) (.seq (.block 3 (.seq (.ops [yoo 22 (.atRow 3 (.tmp 18) (.tmp 20)),
 yoo 23 (.load 3 (.tmp 22)),⟨some 7,.alloc [(.string ⟨#[]⟩),(.int .i64 0),(.pointer none)],none⟩,⟨none,.store 3 (.tmp 7) (.tmp 23),none⟩]) (.ops [yoj 24 3,yom 25 0 7,yon 26 25,yom 27 2 7,yon 28 27,yol 29 28,yom 30 5 29,
 yon 31 30,⟨some 32,.build [(.string ⟨#[]⟩),(.bool false)] [(0,1,.tmp 26),(1,1,.tmp 31)],none⟩,⟨some 33,.mkRow [(.string ⟨#[]⟩),(.bool false)] 1 [(0,2,.tmp 32)],none⟩,yoo 34 (.append 2 24 (.tmp 24) (.tmp 33)),
 yoj 3 34]))) (.ops [yoo 35 (.bin .add (.tmp 20) (.const (.int .i64 1))),yoj 20 35]))))))))) (.ops [yoo 36 (.bin .add (.tmp 13) (.const (.int .i64 1))),yoj 13 36]))))))) (.seq (.ops [yoj 37 3,yoj 2 37]) .ret))))⟩
def zfi:y4:=⟨31,[.tmp 6,.tmp 7],(.seq (.ops [yoo 6 (.mv (.const (.bool false))),⟨some 7,.mv (.const (.string ⟨#[]⟩)),none⟩]) (.seq (.ops [yoj 11 0,yoj 12 1,yoj 13 2,yoo 14 (.call zar [.tmp 11,.tmp 12,.tmp 13]),
 yoj 8 14]) (.seq (.seq (.ops [yoj 15 0,yol 16 15,yom 17 1 16,yon 18 17,yoo 19 (.len (.tmp 18)),
 yoo 20 (.mv (.const (.int .i64 0)))]) (.block 0 (.loop (.seq (.ops [yoo 21 (.bin .lss (.tmp 20) (.tmp 19))]) (.seq (.cond (.tmp 21) .skip (.exit 0)) (.seq (.block 1 (.seq (.ops [yoo 22 (.atRow 4 (.tmp 18) (.tmp 20)),
 yoo 23 (.load 4 (.tmp 22)),⟨some 10,.alloc [(.string ⟨#[]⟩),(.slice none 0 0),(.pointer none),(.string ⟨#[]⟩)],none⟩,⟨none,.store 4 (.tmp 10) (.tmp 23),none⟩]) (.seq (.ops [yoj 24 8,yoo 25 (.load 4 (.tmp 10)),
 yoo 26 (.call qa [.tmp 24,.tmp 25]),yoo 27 (.un .not (.tmp 26))]) (.cond (.tmp 27) (.seq (.ops [yom 28 3 10,yon 29 28,yoo 6 (.mv (.const (.bool false))),
 yoj 7 29]) .ret) .skip)))) (.ops [yoo 30 (.bin .add (.tmp 20) (.const (.int .i64 1))),yoj 20 30]))))))) (.seq (.ops [yoo 6 (.mv (.const (.bool true))),⟨some 7,.mv (.const (.string ⟨#[]⟩)),none⟩]) .ret))))⟩
def zo8:y4:=⟨27,[.cells 2 32],(.seq (.ops [yoo 1 (.box 32 (.tmp 0)),
 yoo 2 (.alloc (List.replicate 32 (.int .u32 0)))]) (.seq (.seq (.ops [yoo 5 (.mv (.const (.int .i64 0)))]) (.block 0 (.loop (.seq (.ops [yoo 6 (.bin .lss (.tmp 5) (.const (.int .i64 32)))]) (.seq (.cond (.tmp 6) .skip (.exit 0)) (.seq (.block 1 (.seq (.ops [yoj 7 5,yoj 3 7]) (.seq (.ops [yoo 8 (.mv (.const (.int .i64 0)))]) (.block 2 (.loop (.seq (.ops [yoo 9 (.bin .lss (.tmp 8) (.const (.int .i64 32)))]) (.seq (.cond (.tmp 9) .skip (.exit 2)) (.seq (.block 3 (.seq (.ops [yoj 10 8,yoj 4 10]) (.seq (.ops [yoj 11 4,yoo 12 (.atArr 32 1 (.tmp 1) (.tmp 11)),yon 13 12,yoj 14 3,yoo 15 (.call zdu [.tmp 13,.tmp 14])]) (.cond (.tmp 15) (.ops [yoj 16 4,yoo 17 (.atArr 32 1 (.tmp 1) (.tmp 16)),yon 18 17,yoj 19 3,yoo 20 (.atArr 32 1 (.tmp 1) (.tmp 19)),yon 21 20,yoo 22 (.bin .or (.tmp 18) (.tmp 21)),yoo 23 (.atArr 32 1 (.tmp 1) (.tmp 16)),yop 23 22]) .skip)))) (.ops [yoo 24 (.bin .add (.tmp 8) (.const (.int .i64 1))),yoj 8 24]))))))))) (.ops [yoo 25 (.bin .add (.tmp 5) (.const (.int .i64 1))),yoj 5 25]))))))) (.seq (.ops [yoo 26 (.load 32 (.tmp 1)),⟨none,.store 32 (.tmp 2) (.tmp 26),none⟩]) .ret)))⟩
def zm8:y4:=⟨27,[.cells 2 32],(.seq (.ops [yoo 2 (.alloc (List.replicate 32 (.int .u32 0)))]) (.seq (.ops [yoo 3 (.alloc (List.replicate 32 (.int .u32 0)))]) (.seq (.seq (.ops [yoj 7 0,yoo 8 (.len (.tmp 7)),
 yoo 9 (.mv (.const (.int .i64 0)))]) (.block 0 (.loop (.seq (.ops [yoo 10 (.bin .lss (.tmp 9) (.tmp 8))]) (.seq (.cond (.tmp 10) .skip (.exit 0)) (.seq (.block 1 (.seq (.ops [yoo 11 (.atRow 32 (.tmp 7) (.tmp 9)),
 yoo 12 (.load 32 (.tmp 11)),yoo 5 (.alloc (List.replicate 32 (.int .u32 0))),⟨none,.store 32 (.tmp 5) (.tmp 12),
 none⟩]) (.seq (.ops [yoo 13 (.mv (.const (.int .i64 0)))]) (.block 2 (.loop (.seq (.ops [yoo 14 (.bin .lss (.tmp 13) (.const (.int .i64 32)))]) (.seq (.cond (.tmp 14) .skip (.exit 2)) (.seq (.block 3 (.seq (.ops [yoj 15 13,yoj 6 15]) (.ops [yoj 16 6,yoo 17 (.atArr 32 1 (.tmp 3) (.tmp 16)),yon 18 17,yoj 19 6,yoo 20 (.atArr 32 1 (.tmp 5) (.tmp 19)),yon 21 20,yoo 22 (.bin .or (.tmp 18) (.tmp 21)),yoo 23 (.atArr 32 1 (.tmp 3) (.tmp 16)),yop 23 22]))) (.ops [yoo 24 (.bin .add (.tmp 13) (.const (.int .i64 1))),yoj 13 24]))))))))) (.ops [yoo 25 (.bin .add (.tmp 9) (.const (.int .i64 1))),yoj 9 25]))))))) (.seq (.ops [yoo 26 (.load 32 (.tmp 3)),⟨none,.store 32 (.tmp 2) (.tmp 26),none⟩]) .ret))))⟩
def zsj:y4:=⟨27,[.cells 2 32],(.seq (.ops [yoo 2 (.alloc (List.replicate 32 (.int .u32 0)))]) (.seq (.ops [yoo 7 (.call zde [(.const (.int .u32 4294967295))]),yoo 3 (.alloc (List.replicate 32 (.int .u32 0))),⟨none,
 .store 32 (.tmp 3) (.tmp 7),none⟩]) (.seq (.seq (.ops [yoj 8 0,yoo 9 (.len (.tmp 8)),
 yoo 10 (.mv (.const (.int .i64 0)))]) (.block 0 (.loop (.seq (.ops [yoo 11 (.bin .lss (.tmp 10) (.tmp 9))]) (.seq (.cond (.tmp 11) .skip (.exit 0)) (.seq (.block 1 (.seq (.ops [yoo 12 (.atRow 32 (.tmp 8) (.tmp 10)),
 yoo 13 (.load 32 (.tmp 12)),yoo 5 (.alloc (List.replicate 32 (.int .u32 0))),⟨none,.store 32 (.tmp 5) (.tmp 13),
 none⟩]) (.seq (.ops [yoo 14 (.mv (.const (.int .i64 0)))]) (.block 2 (.loop (.seq (.ops [yoo 15 (.bin .lss (.tmp 14) (.const (.int .i64 32)))]) (.seq (.cond (.tmp 15) .skip (.exit 2)) (.seq (.block 3 (.seq (.ops [yoj 16 14,yoj 6 16]) (.ops [yoj 17 6,yoj 18 6,yoo 19 (.atArr 32 1 (.tmp 3) (.tmp 18)),yon 20 19,yoo 21 (.load 32 (.tmp 5)),yoo 22 (.call zk9 [.tmp 20,.tmp 21]),yoo 23 (.atArr 32 1 (.tmp 3) (.tmp 17)),yop 23 22]))) (.ops [yoo 24 (.bin .add (.tmp 14) (.const (.int .i64 1))),yoj 14 24]))))))))) (.ops [yoo 25 (.bin .add (.tmp 10) (.const (.int .i64 1))),yoj 10 25]))))))) (.seq (.ops [yoo 26 (.load 32 (.tmp 3)),⟨none,.store 32 (.tmp 2) (.tmp 26),none⟩]) .ret))))⟩
def zpn:y4:=⟨11,[.cells 4 32],(.seq (.ops [yoo 3 (.box 32 (.tmp 1)),yoo 4 (.alloc (List.replicate 32 (.int .u32 0)))]) (.seq (.ops [yoo 5 (.load 32 (.tmp 3)),yoo 6 (.call zfj [.tmp 5]),yoj 7 0,yoo 8 (.call zde [.tmp 7]),
 yoo 9 (.mkRow (List.replicate 32 (.int .u32 0)) 2 [(0,32,.tmp 6),(32,32,.tmp 8)]),yoo 10 (.call zbh [.tmp 9]),⟨none,.store 32 (.tmp 4) (.tmp 10),none⟩]) .ret))⟩
def znf:y4:=⟨10,[.cells 4 32],(.seq (.ops [yoo 3 (.box 32 (.tmp 1)),yoo 4 (.alloc (List.replicate 32 (.int .u32 0)))]) (.seq (.ops [yoo 5 (.load 32 (.tmp 3)),yoj 6 0,yoo 7 (.call zde [.tmp 6]),⟨none,.again 32 (.tmp 3) 5,
 none⟩,yoo 8 (.mkRow (List.replicate 32 (.int .u32 0)) 2 [(0,32,.tmp 5),(32,32,.tmp 7)]),yoo 9 (.call zbh [.tmp 8]),⟨none,.store 32 (.tmp 4) (.tmp 9),none⟩]) .ret))⟩
def zpm:y4:=⟨28,[.cells 2 32],(.seq (.ops [yoo 2 (.alloc (List.replicate 32 (.int .u32 0)))]) (.seq (.ops [yoo 7 (.call zd1 [(.const (.int .u32 4294967295)),(.const (.int .u32 4294967295))]),
 yoo 3 (.alloc (List.replicate 32 (.int .u32 0))),⟨none,.store 32 (.tmp 3) (.tmp 7),none⟩]) (.seq (.seq (.ops [yoj 8 0,yoo 9 (.len (.tmp 8)),
 yoo 10 (.mv (.const (.int .i64 0)))]) (.block 0 (.loop (.seq (.ops [yoo 11 (.bin .lss (.tmp 10) (.tmp 9))]) (.seq (.cond (.tmp 11) .skip (.exit 0)) (.seq (.block 1 (.seq (.ops [yoo 12 (.atRow 32 (.tmp 8) (.tmp 10)),
 yoo 13 (.load 32 (.tmp 12)),yoo 5 (.alloc (List.replicate 32 (.int .u32 0))),⟨none,.store 32 (.tmp 5) (.tmp 13),
 none⟩]) (.seq (.ops [yoo 14 (.mv (.const (.int .i64 0)))]) (.block 2 (.loop (.seq (.ops [yoo 15 (.bin .lss (.tmp 14) (.const (.int .i64 32)))]) (.seq (.cond (.tmp 15) .skip (.exit 2)) (.seq (.block 3 (.seq (.ops [yoj 16 14,yoj 6 16]) (.ops [yoj 17 6,yoo 18 (.atArr 32 1 (.tmp 3) (.tmp 17)),yon 19 18,yoj 20 6,yoo 21 (.atArr 32 1 (.tmp 5) (.tmp 20)),yon 22 21,yoo 23 (.bin .and (.tmp 19) (.tmp 22)),yoo 24 (.atArr 32 1 (.tmp 3) (.tmp 17)),yop 24 23]))) (.ops [yoo 25 (.bin .add (.tmp 14) (.const (.int .i64 1))),yoj 14 25]))))))))) (.ops [yoo 26 (.bin .add (.tmp 10) (.const (.int .i64 1))),yoj 10 26]))))))) (.seq (.ops [yoo 27 (.load 32 (.tmp 3)),⟨none,.store 32 (.tmp 2) (.tmp 27),none⟩]) .ret))))⟩
def zny:y4:=⟨19,[.cells 4 32],(.seq (.ops [yoo 2 (.box 32 (.tmp 0)),yoo 3 (.box 32 (.tmp 1)),
 yoo 4 (.alloc (List.replicate 32 (.int .u32 0)))]) (.seq (.seq (.ops [yoo 6 (.mv (.const (.int .i64 0)))]) (.block 0 (.loop (.seq (.ops [yoo 7 (.bin .lss (.tmp 6) (.const (.int .i64 32)))]) (.seq (.cond (.tmp 7) .skip (.exit 0)) (.seq (.block 1 (.seq (.ops [yoj 8 6,yoj 5 8]) (.ops [yoj 9 5,yoo 10 (.atArr 32 1 (.tmp 2) (.tmp 9)),yon 11 10,yoj 12 5,yoo 13 (.atArr 32 1 (.tmp 3) (.tmp 12)),yon 14 13,yoo 15 (.bin .andNot (.tmp 11) (.tmp 14)),yoo 16 (.atArr 32 1 (.tmp 2) (.tmp 9)),yop 16 15]))) (.ops [yoo 17 (.bin .add (.tmp 6) (.const (.int .i64 1))),yoj 6 17]))))))) (.seq (.ops [yoo 18 (.load 32 (.tmp 2)),⟨none,.store 32 (.tmp 4) (.tmp 18),none⟩]) .ret)))⟩
def zop:y4:=⟨18,[.cells 4 32],
 (.seq (.ops [yoo 4 (.alloc (List.replicate 32 (.int .u32 0)))]) (.seq (.ops [yoo 5 (.alloc (List.replicate 32 (.int .u32 0)))]) (.seq (.seq (.ops [yoo 7 (.mv (.const (.int .i64 0)))]) (.block 0 (.loop (.seq (.ops [yoo 8 (.bin .lss (.tmp 7) (.const (.int .i64 32)))]) (.seq (.cond (.tmp 8) .skip (.exit 0)) (.seq (.block 1 (.seq (.ops [yoj 9 7,yoj 6 9]) (.seq (.ops [yoj 10 0,yoj 11 6,yoo 12 (.call zdu [.tmp 10,.tmp 11])]) (.cond (.tmp 12) (.ops [yoj 13 6,yoj 14 1,yoo 15 (.atArr 32 1 (.tmp 5) (.tmp 13)),yop 15 14]) .skip)))) (.ops [yoo 16 (.bin .add (.tmp 7) (.const (.int .i64 1))),yoj 7 16]))))))) (.seq (.ops [yoo 17 (.load 32 (.tmp 5)),⟨none,.store 32 (.tmp 4) (.tmp 17),none⟩]) .ret))))⟩
def zx0:y4:=⟨16,[.cells 2 32],
 (.seq (.ops [yoo 2 (.alloc (List.replicate 32 (.int .u32 0)))]) (.seq (.ops [yoo 3 (.alloc (List.replicate 32 (.int .u32 0)))]) (.seq (.seq (.ops [yoo 5 (.mv (.const (.int .i64 0)))]) (.block 0 (.loop (.seq (.ops [yoo 6 (.bin .lss (.tmp 5) (.const (.int .i64 32)))]) (.seq (.cond (.tmp 6) .skip (.exit 0)) (.seq (.block 1 (.seq (.ops [yoj 7 5,yoj 4 7]) (.ops [yoj 8 4,yoj 9 0,yoj 10 4,yoo 11 (.bin .shl (.const (.int .u32 1)) (.tmp 10)),yoo 12 (.bin .and (.tmp 9) (.tmp 11)),yoo 13 (.atArr 32 1 (.tmp 3) (.tmp 8)),yop 13 12]))) (.ops [yoo 14 (.bin .add (.tmp 5) (.const (.int .i64 1))),yoj 5 14]))))))) (.seq (.ops [yoo 15 (.load 32 (.tmp 3)),⟨none,.store 32 (.tmp 2) (.tmp 15),none⟩]) .ret))))⟩
def zka:y4:=⟨27,[.cells 2 32],(.seq (.ops [yoo 1 (.box 32 (.tmp 0)),
 yoo 2 (.alloc (List.replicate 32 (.int .u32 0)))]) (.seq (.ops [yoo 3 (.alloc (List.replicate 32 (.int .u32 0)))]) (.seq (.seq (.ops [yoo 6 (.mv (.const (.int .i64 0)))]) (.block 0 (.loop (.seq (.ops [yoo 7 (.bin .lss (.tmp 6) (.const (.int .i64 32)))]) (.seq (.cond (.tmp 7) .skip (.exit 0)) (.seq (.block 1 (.seq (.ops [yoj 8 6,yoj 4 8]) (.seq (.ops [yoo 9 (.mv (.const (.int .i64 0)))]) (.block 2 (.loop (.seq (.ops [yoo 10 (.bin .lss (.tmp 9) (.const (.int .i64 32)))]) (.seq (.cond (.tmp 10) .skip (.exit 2)) (.seq (.block 3 (.seq (.ops [yoj 11 9,yoj 5 11]) (.seq (.ops [yoj 12 4,yoo 13 (.atArr 32 1 (.tmp 1) (.tmp 12)),yon 14 13,yoj 15 5,yoo 16 (.call zdu [.tmp 14,.tmp 15])]) (.cond (.tmp 16) (.ops [yoj 17 5,yoo 18 (.atArr 32 1 (.tmp 3) (.tmp 17)),yon 19 18,yoj 20 4,yoo 21 (.bin .shl (.const (.int .u32 1)) (.tmp 20)),yoo 22 (.bin .or (.tmp 19) (.tmp 21)),yoo 23 (.atArr 32 1 (.tmp 3) (.tmp 17)),yop 23 22]) .skip)))) (.ops [yoo 24 (.bin .add (.tmp 9) (.const (.int .i64 1))),yoj 9 24]))))))))) (.ops [yoo 25 (.bin .add (.tmp 6) (.const (.int .i64 1))),yoj 6 25]))))))) (.seq (.ops [yoo 26 (.load 32 (.tmp 3)),⟨none,.store 32 (.tmp 2) (.tmp 26),none⟩]) .ret))))⟩
def zgp:y4:=⟨116,[.tmp 2,.tmp 3,.tmp 4],(.seq (.ops [yoo 2 (.mv (.const (.slice none 0 0))),yoo 3 (.mv (.const (.int .i64 0))),yoo 4 (.mv (.const (.int .i64 0)))]) (.seq (.seq (.ops [yoj 13 0,yoo 14 (.lenStr (.tmp 13)),
 yoo 15 (.bin .gtr (.tmp 14) (.const (.int .i64 8192)))]) (.cond (.tmp 15) (.seq (.ops [yoo 2 (.mv (.const (.slice none 0 0))),yoo 3 (.mv (.const (.int .i64 2))),
 yoo 4 (.mv (.const (.int .i64 0)))]) .ret) .skip)) (.seq (.ops [yoo 5 (.mv (.const (.slice none 0 0)))]) (.seq (.seq (.ops [yoo 6 (.mv (.const (.int .i64 0)))]) (.block 0 (.loop (.seq (.seq (.ops [yoj 16 6,yoj 17 0,
 yoo 18 (.lenStr (.tmp 17)),yoo 19 (.bin .lss (.tmp 16) (.tmp 18))]) (.cond (.tmp 19) .skip (.exit 0))) (.block 1 (.seq (.ops [yoj 20 0,yoj 21 6,yoo 22 (.sliceStr (.tmp 20) (some (.tmp 21)) none),
 yoj 7 22]) (.seq (.ops [yoj 23 6,⟨some 24,.build [(.int .i64 0),(.string ⟨#[]⟩),(.int .i64 0),(.int .i64 0)] [(3,1,.tmp 23)],none⟩,⟨some 8,.alloc [(.int .i64 0),(.string ⟨#[]⟩),(.int .i64 0),(.int .i64 0)],none⟩,⟨none,
 .store 4 (.tmp 8) (.tmp 24),none⟩]) (.seq (.seq (.ops [yoj 25 7,yoo 26 (.idxStr (.tmp 25) (.const (.int .i64 0))),yoj 9 26]) (.block 2 (.seq (.ops [yoj 29 9,yoo 30 (.bin .eql (.tmp 29) (.const (.int .u8 32))),yoj 31 30,
 ⟨some 32,.mv (.tmp 9),(some (31,false))⟩,⟨some 33,.bin .eql (.tmp 32) (.const (.int .u8 9)),(some (31,false))⟩,yoo 34 (.pick (.tmp 31) (.const (.bool true)) (.tmp 33)),yoj 35 34,⟨some 36,.mv (.tmp 9),(some (35,false))⟩,
 ⟨some 37,.bin .eql (.tmp 36) (.const (.int .u8 10)),(some (35,false))⟩,yoo 38 (.pick (.tmp 35) (.const (.bool true)) (.tmp 37)),yoj 28 38]) (.cond (.tmp 28) (.seq (.ops [yoj 39 6,
 yoo 40 (.bin .add (.tmp 39) (.const (.int .i64 1))),yoj 6 40]) (.exit 1)) (.seq (.ops [yoj 42 7,⟨some 43,.call gp [.tmp 42,(.const (.string ⟨#[40,42]⟩))],none⟩,yoj 41 43]) (.cond (.tmp 41) (.seq (.ops [yoj 44 7,
 yoo 45 (.sliceStr (.tmp 44) (some (.const (.int .i64 2))) none),⟨some 46,.call zb6 [.tmp 45,(.const (.string ⟨#[42,41]⟩))],none⟩,yoj 10 46]) (.seq (.seq (.ops [yoj 47 10,
 yoo 48 (.bin .lss (.tmp 47) (.const (.int .i64 0)))]) (.cond (.tmp 48) (.seq (.ops [yoj 49 6,yoo 2 (.mv (.const (.slice none 0 0))),yoo 3 (.mv (.const (.int .i64 24))),yoj 4 49]) .ret) .skip)) (.seq (.ops [yoj 50 6,
 yoj 51 10,yoo 52 (.bin .add (.tmp 51) (.const (.int .i64 4))),yoo 53 (.bin .add (.tmp 50) (.tmp 52)),yoj 6 53]) (.exit 1)))) (.seq (.ops [yoj 55 9,yoo 56 (.call zcy [.tmp 55]),
 yoj 54 56]) (.cond (.tmp 54) (.seq (.ops [yom 57 0 8,⟨none,.store1 (.tmp 57) (.const (.int .i64 2)),none⟩]) (.seq (.ops [yoj 58 7,yoj 59 7,yoo 60 (.call zif [.tmp 59,(.func zcb)]),
 yoo 61 (.sliceStr (.tmp 58) none (some (.tmp 60))),yom 62 1 8,yop 62 61]) (.seq (.ops [yom 64 1 8,yon 65 64,yoo 66 (.call zf6 [.tmp 65]),yoj 63 66,yoo 67 (.extract (.tmp 63) 0),yoo 68 (.extract (.tmp 63) 1),yoj 11 67,
 yoj 12 68]) (.seq (.seq (.ops [yoj 69 12,yoo 70 (.un .not (.tmp 69))]) (.cond (.tmp 70) (.seq (.ops [yoj 71 6,yoo 2 (.mv (.const (.slice none 0 0))),yoo 3 (.mv (.const (.int .i64 23))),
 yoj 4 71]) .ret) .skip)) (.ops [yoj 72 11,yom 73 2 8,yop 73 72]))))) (.seq (.ops [yoj 75 9,yoo 76 (.call zbx [.tmp 75]),yoj 77 76,⟨some 78,.mv (.tmp 9),(some (77,false))⟩,⟨some 79,
 .bin .eql (.tmp 78) (.const (.int .u8 95)),(some (77,false))⟩,yoo 80 (.pick (.tmp 77) (.const (.bool true)) (.tmp 79)),yoj 74 80]) (.cond (.tmp 74) (.seq (.ops [yom 81 0 8,⟨none,.store1 (.tmp 81) (.const (.int .i64 1)),
 none⟩]) (.ops [yoj 82 7,yoj 83 7,yoo 84 (.call zif [.tmp 83,(.func zb0)]),yoo 85 (.sliceStr (.tmp 82) none (some (.tmp 84))),yom 86 1 8,yop 86 85])) (.seq (.ops [yoj 88 7,⟨some 89,.call gp [.tmp 88,
 (.const (.string ⟨#[47,92]⟩))],none⟩,yoj 90 89,⟨some 91,.mv (.tmp 7),(some (90,false))⟩,⟨some 92,.call gp [.tmp 91,(.const (.string ⟨#[92,47]⟩))],(some (90,false))⟩,
 yoo 93 (.pick (.tmp 90) (.const (.bool true)) (.tmp 92)),yoj 87 93]) (.cond (.tmp 87) (.ops [yoj 94 7,yoo 95 (.sliceStr (.tmp 94) none (some (.const (.int .i64 2)))),yom 96 0 8,⟨none,
 .store1 (.tmp 96) (.const (.int .i64 3)),none⟩,yom 97 1 8,yop 97 95]) (.seq (.ops [yoj 99 9,⟨some 100,.call zbg [(.const (.string ⟨#[123,125,40,41,91,93,59,124,44,58,61,43,45,35,36,126,42,47,92,38,63,94]⟩)),.tmp 99],
 none⟩,yoo 101 (.bin .geq (.tmp 100) (.const (.int .i64 0))),yoj 98 101]) (.cond (.tmp 98) (.ops [yoj 102 7,yoo 103 (.sliceStr (.tmp 102) none (some (.const (.int .i64 1)))),yom 104 0 8,⟨none,
 .store1 (.tmp 104) (.const (.int .i64 3)),none⟩,yom 105 1 8,yop 105 103]) (.seq (.ops [yoj 27 6,yoo 2 (.mv (.const (.slice none 0 0))),yoo 3 (.mv (.const (.int .i64 20))),
 yoj 4 27]) .ret))))))))))))))) (.seq (.ops [yoj 106 5,yoo 107 (.load 4 (.tmp 8)),⟨some 108,.mkRow [(.int .i64 0),(.string ⟨#[]⟩),(.int .i64 0),(.int .i64 0)] 1 [(0,4,.tmp 107)],none⟩,
 yoo 109 (.append 4 40 (.tmp 106) (.tmp 108)),yoj 5 109]) (.ops [yoj 110 6,yom 111 1 8,yon 112 111,yoo 113 (.lenStr (.tmp 112)),yoo 114 (.bin .add (.tmp 110) (.tmp 113)),yoj 6 114])))))))))) (.seq (.ops [yoj 115 5,
 yoj 2 115,yoo 3 (.mv (.const (.int .i64 0))),yoo 4 (.mv (.const (.int .i64 0)))]) .ret)))))⟩
def zp7:y4:=⟨7,[.tmp 2],(.seq (.ops [yoo 2 (.mv (.const (.pointer none)))]) (.seq (.ops [yoj 3 0,yoo 4 (.call wi [.tmp 3]),yoo 5 (.build [(.slice none 0 0),(.int .i64 0)] [(0,1,.tmp 4)]),yoo 6 (.box 2 (.tmp 5)),
 yoj 2 6]) .ret))⟩
def zg8:y4:=⟨8,[.tmp 2],(.seq (.ops [yoo 2 (.mv (.const (.bool false)))]) (.seq (.ops [yoj 3 0,yol 4 3,yom 5 4 4,yon 6 5,yoo 7 (.bin .eql (.tmp 6) (.const (.int .i64 0))),yoj 2 7]) .ret))⟩
def zew:y4:=⟨13,[.tmp 2],(.seq (.ops [yoo 2 (.mv (.const (.int .i64 0)))]) (.seq (.ops [yoj 3 0,yol 4 3,yom 5 0 4,yon 6 5,yoo 7 (.len (.tmp 6)),yoj 8 0,yol 9 8,yom 10 1 9,yon 11 10,yoo 12 (.bin .sub (.tmp 7) (.tmp 11)),
 yoj 2 12]) .ret))⟩
def yo:y4:=⟨98,[.cells 2 4],(.seq (.ops [⟨some 2,.alloc [(.string ⟨#[]⟩),(.slice none 0 0),(.pointer none),(.string ⟨#[]⟩)],none⟩]) (.seq (.ops [⟨some 3,.alloc [(.string ⟨#[]⟩),(.slice none 0 0),(.pointer none),
 (.string ⟨#[]⟩)],none⟩]) (.seq (.block 0 (.seq (.ops [yoj 9 0,yol 10 9,yom 11 0 10,yon 12 11,⟨some 13,.mkRow [(.string ⟨#[]⟩)] 1 [(0,1,(.const (.string ⟨#[108,101,116]⟩)))],none⟩,yoo 14 (.call xi [.tmp 12,.tmp 13]),
 yoj 8 14]) (.cond (.tmp 8) (.seq (.ops [yom 15 0 3,⟨none,.store1 (.tmp 15) (.const (.string ⟨#[108,101,116]⟩)),none⟩]) (.seq (.seq (.ops [yoj 16 0,yol 17 16,yom 18 0 17,yon 19 18,⟨some 20,.mkRow [(.string ⟨#[]⟩)] 1 [(0,
 1,(.const (.string ⟨#[114,101,99]⟩)))],none⟩,yoo 21 (.call xi [.tmp 19,.tmp 20])]) (.cond (.tmp 21) (.ops [yom 22 0 3,⟨none,.store1 (.tmp 22) (.const (.string ⟨#[114,101,99]⟩)),
 none⟩]) .skip)) (.block 1 (.loop (.block 2 (.seq (.ops [⟨some 4,.alloc [(.string ⟨#[]⟩),(.int .i64 0),(.pointer none)],none⟩]) (.seq (.ops [yoj 24 0,yoo 25 (.call q9 [.tmp 24]),yoj 23 25,yoo 26 (.extract (.tmp 23) 0),
 yoo 27 (.extract (.tmp 23) 1),yom 28 0 4,yop 28 26,yom 29 1 4,yop 29 27]) (.seq (.ops [yoj 30 0,⟨some 31,.call wj [.tmp 30,(.const (.string ⟨#[61]⟩))],none⟩]) (.seq (.ops [yoj 32 0,yoo 33 (.call yu [.tmp 32]),yom 34 2 4,
 yop 34 33]) (.seq (.ops [yom 35 1 3,yon 36 35,yoo 37 (.load 3 (.tmp 4)),⟨some 38,.mkRow [(.string ⟨#[]⟩),(.int .i64 0),(.pointer none)] 1 [(0,3,.tmp 37)],none⟩,yoo 39 (.append 3 32 (.tmp 36) (.tmp 38)),yom 40 1 3,
 yop 40 39]) (.seq (.ops [yoj 41 0,yoo 42 (.call yq [.tmp 41]),yoo 43 (.un .not (.tmp 42)),yoj 44 43,⟨some 45,.mv (.tmp 0),(some (44,false))⟩,⟨some 46,.nilCheck (.tmp 45),(some (44,false))⟩,⟨some 47,.off 0 (.tmp 46),
 (some (44,false))⟩,⟨some 48,.load1 (.tmp 47),(some (44,false))⟩,⟨some 49,.mkRow [(.string ⟨#[]⟩)] 1 [(0,1,(.const (.string ⟨#[97,110,100]⟩)))],(some (44,false))⟩,⟨some 50,.call xi [.tmp 48,.tmp 49],(some (44,false))⟩,
 ⟨some 51,.un .not (.tmp 50),(some (44,false))⟩,yoo 52 (.pick (.tmp 44) (.const (.bool true)) (.tmp 51))]) (.cond (.tmp 52) (.seq (.ops [yoo 53 (.load 4 (.tmp 3)),⟨none,.store 4 (.tmp 2) (.tmp 53),
 none⟩]) .ret) .skip)))))))))))) (.seq (.ops [yoj 55 0,yol 56 55,yom 57 0 56,yon 58 57,⟨some 59,.mkRow [(.string ⟨#[]⟩)] 1 [(0,1,(.const (.string ⟨#[97,99,121,99,108,105,99]⟩)))],none⟩,yoo 60 (.call xi [.tmp 58,.tmp 59]),
 yoj 54 60]) (.cond (.tmp 54) (.ops [yom 61 0 3,⟨none,.store1 (.tmp 61) (.const (.string ⟨#[97,99,121,99,108,105,99]⟩)),none⟩]) (.seq (.ops [yoj 63 0,yol 64 63,yom 65 0 64,yon 66 65,⟨some 67,
 .mkRow [(.string ⟨#[]⟩)] 1 [(0,1,(.const (.string ⟨#[105,114,114,101,102,108,101,120,105,118,101]⟩)))],none⟩,yoo 68 (.call xi [.tmp 66,.tmp 67]),yoj 62 68]) (.cond (.tmp 62) (.ops [yom 69 0 3,⟨none,
 .store1 (.tmp 69) (.const (.string ⟨#[105,114,114,101,102,108,101,120,105,118,101]⟩)),none⟩]) (.seq (.ops [yoj 71 0,yol 72 71,yom 73 0 72,yon 74 73,⟨some 75,.mkRow [(.string ⟨#[]⟩)] 1 [(0,1,(.const (.string ⟨#[101,109,
 112,116,121]⟩)))],none⟩,yoo 76 (.call xi [.tmp 74,.tmp 75]),yoj 70 76]) (.cond (.tmp 70) (.ops [yom 77 0 3,⟨none,.store1 (.tmp 77) (.const (.string ⟨#[101,109,112,116,121]⟩)),none⟩]) (.seq (.ops [yoj 5 0,
 yoo 6 (.call wk [.tmp 5])]) (.seq (.ops [yoo 7 (.load 4 (.tmp 3)),⟨none,.store 4 (.tmp 2) (.tmp 7),none⟩]) .ret))))))))))) (.seq (.ops [yoj 78 0,yoo 79 (.call yu [.tmp 78]),yom 80 2 3,
 yop 80 79]) (.seq (.seq (.ops [yoj 81 0,yoo 82 (.call yq [.tmp 81]),yoj 83 82,⟨some 84,.mv (.tmp 0),(some (83,true))⟩,⟨some 85,.nilCheck (.tmp 84),(some (83,true))⟩,⟨some 86,.off 0 (.tmp 85),(some (83,true))⟩,⟨some 87,
 .load1 (.tmp 86),(some (83,true))⟩,⟨some 88,.mkRow [(.string ⟨#[]⟩)] 1 [(0,1,(.const (.string ⟨#[97,115]⟩)))],(some (83,true))⟩,⟨some 89,.call xi [.tmp 87,.tmp 88],(some (83,true))⟩,
 yoo 90 (.pick (.tmp 83) (.tmp 89) (.const (.bool false)))]) (.cond (.tmp 90) (.ops [yoj 92 0,yoo 93 (.call q9 [.tmp 92]),yoj 91 93,yoo 94 (.extract (.tmp 91) 0),yoo 95 (.extract (.tmp 91) 1),yom 96 3 3,
 yop 96 94]) .skip)) (.seq (.ops [yoo 97 (.load 4 (.tmp 3)),⟨none,.store 4 (.tmp 2) (.tmp 97),none⟩]) .ret))))))⟩
def vt:y4:=⟨138,[],(.seq (.ops [yoo 3 (.box 4 (.tmp 1))]) (.seq (.ops [yoo 13 (.mkMap),yoj 4 13]) (.seq (.seq (.ops [yom 14 1 3,yon 15 14,yoo 16 (.len (.tmp 15)),
 yoo 17 (.mv (.const (.int .i64 0)))]) (.block 0 (.loop (.seq (.ops [yoo 18 (.bin .lss (.tmp 17) (.tmp 16))]) (.seq (.cond (.tmp 18) .skip (.exit 0)) (.seq (.block 1 (.seq (.ops [yoo 19 (.atRow 3 (.tmp 15) (.tmp 17)),
 yoo 20 (.load 3 (.tmp 19)),⟨some 6,.alloc [(.string ⟨#[]⟩),(.int .i64 0),(.pointer none)],none⟩,⟨none,.store 3 (.tmp 6) (.tmp 20),none⟩]) (.ops [yoj 21 0,yoo 22 (.load 3 (.tmp 6)),yoj 23 4,yoo 24 (.call fe [.tmp 21,
 .tmp 22,.tmp 23])]))) (.ops [yoo 25 (.bin .add (.tmp 17) (.const (.int .i64 1))),yoj 17 25]))))))) (.seq (.ops [yoj 26 0,yol 27 26,yom 28 2 27,⟨none,.store1 (.tmp 28) (.const (.map none)),
 none⟩]) (.seq (.seq (.ops [yom 29 0 3,yon 30 29,⟨some 31,.bin .eql (.tmp 30) (.const (.string ⟨#[114,101,99]⟩)),none⟩]) (.cond (.tmp 31) (.seq (.ops [yoj 32 0,yoj 33 4,yol 34 32,yom 35 2 34,
 yop 35 33]) (.seq (.ops [yom 36 1 3,yon 37 36,yoo 38 (.len (.tmp 37)),
 yoo 39 (.mv (.const (.int .i64 0)))]) (.block 2 (.loop (.seq (.ops [yoo 40 (.bin .lss (.tmp 39) (.tmp 38))]) (.seq (.cond (.tmp 40) .skip (.exit 2)) (.seq (.block 3 (.seq (.ops [yoo 41 (.atRow 3 (.tmp 37) (.tmp 39)),
 yoo 42 (.load 3 (.tmp 41)),⟨some 8,.alloc [(.string ⟨#[]⟩),(.int .i64 0),(.pointer none)],none⟩,⟨none,.store 3 (.tmp 8) (.tmp 42),none⟩]) (.seq (.ops [yoj 43 0,yol 44 43,yom 45 0 44,yon 46 45,
 yoo 47 (.call yq [.tmp 46])]) (.cond (.tmp 47) (.ops [yoj 48 0,yol 49 48,yom 50 1 49,yon 51 50,yom 52 0 8,yon 53 52,⟨none,.update .str (.tmp 51) (.tmp 53) (.const (.bool false)),
 none⟩]) .skip)))) (.ops [yoo 54 (.bin .add (.tmp 39) (.const (.int .i64 1))),yoj 39 54])))))))) .skip)) (.seq (.seq (.ops [yom 55 1 3,yon 56 55,yoo 57 (.len (.tmp 56)),
 yoo 58 (.mv (.const (.int .i64 0)))]) (.block 4 (.loop (.seq (.ops [yoo 59 (.bin .lss (.tmp 58) (.tmp 57))]) (.seq (.cond (.tmp 59) .skip (.exit 4)) (.seq (.block 5 (.seq (.ops [yoo 60 (.atRow 3 (.tmp 56) (.tmp 58)),
 yoo 61 (.load 3 (.tmp 60)),⟨some 10,.alloc [(.string ⟨#[]⟩),(.int .i64 0),(.pointer none)],none⟩,⟨none,.store 3 (.tmp 10) (.tmp 61),none⟩]) (.seq (.ops [yoj 62 0,yom 63 2 10,yon 64 63,yoo 65 (.call yh [.tmp 62,.tmp 64,
 (.const (.bool false))])]) (.seq (.ops [yom 66 0 3,yon 67 66,⟨some 68,.bin .eql (.tmp 67) (.const (.string ⟨#[114,101,99]⟩)),none⟩,yoj 69 68,⟨some 70,.off 2 (.tmp 10),(some (69,true))⟩,⟨some 71,.load1 (.tmp 70),
 (some (69,true))⟩,⟨some 72,.nilCheck (.tmp 71),(some (69,true))⟩,⟨some 73,.off 5 (.tmp 72),(some (69,true))⟩,⟨some 74,.load1 (.tmp 73),(some (69,true))⟩,
 yoo 75 (.pick (.tmp 69) (.tmp 74) (.const (.bool false)))]) (.cond (.tmp 75) (.ops [yoj 76 0,yol 77 76,yom 78 0 77,yon 79 78,yom 80 2 10,yon 81 80,yol 82 81,yom 83 2 82,yon 84 83,yoo 85 (.call yw [.tmp 79,
 (.const (.int .i64 41)),.tmp 84])]) .skip))))) (.ops [yoo 86 (.bin .add (.tmp 58) (.const (.int .i64 1))),yoj 58 86]))))))) (.seq (.seq (.ops [yom 87 1 3,yon 88 87,yoo 89 (.len (.tmp 88)),
 yoo 90 (.mv (.const (.int .i64 0)))]) (.block 6 (.loop (.seq (.ops [yoo 91 (.bin .lss (.tmp 90) (.tmp 89))]) (.seq (.cond (.tmp 91) .skip (.exit 6)) (.seq (.block 7 (.seq (.ops [yoo 92 (.atRow 3 (.tmp 88) (.tmp 90)),
 yoo 93 (.load 3 (.tmp 92)),⟨some 12,.alloc [(.string ⟨#[]⟩),(.int .i64 0),(.pointer none)],none⟩,⟨none,.store 3 (.tmp 12) (.tmp 93),none⟩]) (.seq (.ops [yoj 94 0,yol 95 94,yom 96 0 95,yon 97 96,
 yoo 98 (.call yq [.tmp 97])]) (.cond (.tmp 98) (.ops [yoj 99 0,yol 100 99,yom 101 1 100,yon 102 101,yom 103 0 12,yon 104 103,yom 105 2 12,yon 106 105,yol 107 106,yom 108 5 107,yon 109 108,⟨none,
 .update .str (.tmp 102) (.tmp 104) (.tmp 109),none⟩]) .skip)))) (.ops [yoo 110 (.bin .add (.tmp 90) (.const (.int .i64 1))),yoj 90 110]))))))) (.seq (.ops [yom 111 2 3,yon 112 111,
 yoo 113 (.eqv true .ptr (.tmp 112) (.const (.pointer none)))]) (.cond (.tmp 113) (.seq (.ops [yoj 114 0,yom 115 2 3,yon 116 115,yoo 117 (.call yh [.tmp 114,.tmp 116,(.const (.bool false))])]) (.seq (.ops [yom 118 0 3,
 yon 119 118,⟨some 120,.bin .neq (.tmp 119) (.const (.string ⟨#[101,109,112,116,121]⟩)),none⟩,yoj 121 120,⟨some 122,.off 2 (.tmp 3),(some (121,true))⟩,⟨some 123,.load1 (.tmp 122),(some (121,true))⟩,⟨some 124,
 .nilCheck (.tmp 123),(some (121,true))⟩,⟨some 125,.off 5 (.tmp 124),(some (121,true))⟩,⟨some 126,.load1 (.tmp 125),(some (121,true))⟩,
 yoo 127 (.pick (.tmp 121) (.tmp 126) (.const (.bool false)))]) (.cond (.tmp 127) (.ops [yoj 128 0,yol 129 128,yom 130 0 129,yon 131 130,yom 132 2 3,yon 133 132,yol 134 133,yom 135 2 134,yon 136 135,
 yoo 137 (.call yw [.tmp 131,(.const (.int .i64 41)),.tmp 136])]) .skip))) .skip)))))))))⟩
def za3:y4:=⟨112,[.tmp 2,.tmp 3,.tmp 4],(.seq (.ops [yoo 2 (.mv (.const (.slice none 0 0))),yoo 3 (.mv (.const (.int .i64 0))),yoo 4 (.mv (.const (.int .i64 0)))]) (.seq (.seq (.ops [yoj 14 0,yoo 15 (.lenStr (.tmp 14)),
 yoo 16 (.bin .gtr (.tmp 15) (.const (.int .i64 8192)))]) (.cond (.tmp 16) (.seq (.ops [yoo 2 (.mv (.const (.slice none 0 0))),yoo 3 (.mv (.const (.int .i64 2))),
 yoo 4 (.mv (.const (.int .i64 0)))]) .ret) .skip)) (.seq (.ops [yoo 5 (.mv (.const (.slice none 0 0)))]) (.seq (.ops [yoo 6 (.mv (.const (.int .i64 0)))]) (.block 0 (.loop (.block 1 (.seq (.ops [yoj 18 0,yoj 19 6,
 yoo 20 (.call zbf [.tmp 18,.tmp 19]),yoj 17 20,yoo 21 (.extract (.tmp 17) 0),yoo 22 (.extract (.tmp 17) 1),yoj 7 21,yoj 8 22]) (.seq (.seq (.ops [yoj 23 8,
 yoo 24 (.bin .neq (.tmp 23) (.const (.int .i64 0)))]) (.cond (.tmp 24) (.seq (.ops [yoj 25 8,yoj 26 7,yoo 2 (.mv (.const (.slice none 0 0))),yoj 3 25,yoj 4 26]) .ret) .skip)) (.seq (.ops [yoj 27 7,
 yoj 6 27]) (.seq (.seq (.ops [yoj 28 6,yoj 29 0,yoo 30 (.lenStr (.tmp 29)),yoo 31 (.bin .geq (.tmp 28) (.tmp 30))]) (.cond (.tmp 31) (.seq (.ops [yoj 32 5,yoj 2 32,yoo 3 (.mv (.const (.int .i64 0))),
 yoo 4 (.mv (.const (.int .i64 0)))]) .ret) .skip)) (.seq (.ops [yoj 33 0,yoj 34 6,yoo 35 (.idxStr (.tmp 33) (.tmp 34)),yoj 9 35]) (.seq (.ops [yoj 36 6,⟨some 37,.build [(.int .i64 0),(.string ⟨#[]⟩),(.int .i64 0),
 (.int .i64 0)] [(3,1,.tmp 36)],none⟩,⟨some 10,.alloc [(.int .i64 0),(.string ⟨#[]⟩),(.int .i64 0),(.int .i64 0)],none⟩,⟨none,.store 4 (.tmp 10) (.tmp 37),none⟩]) (.seq (.ops [yoj 38 6,
 yoo 39 (.bin .add (.tmp 38) (.const (.int .i64 1))),yoj 11 39]) (.seq (.block 2 (.seq (.ops [yoj 42 9,yoo 43 (.call gn [.tmp 42]),yoj 41 43]) (.cond (.tmp 41) (.seq (.ops [yoj 44 0,yoj 45 6,yoo 46 (.call zap [.tmp 44,
 .tmp 45,(.const (.bool false))]),yoj 11 46]) (.seq (.ops [yoj 48 0,yoj 49 6,yoj 50 11,yoo 51 (.sliceStr (.tmp 48) (some (.tmp 49)) (some (.tmp 50))),yoo 52 (.call zbj [.tmp 51]),yoj 47 52,yoo 53 (.extract (.tmp 47) 0),
 yoo 54 (.extract (.tmp 47) 1),yoj 12 53,yoj 13 54]) (.seq (.seq (.ops [yoj 55 13,yoo 56 (.un .not (.tmp 55))]) (.cond (.tmp 56) (.seq (.ops [yoj 57 6,yoo 2 (.mv (.const (.slice none 0 0))),
 yoo 3 (.mv (.const (.int .i64 23))),yoj 4 57]) .ret) .skip)) (.seq (.ops [yom 58 0 10,⟨none,.store1 (.tmp 58) (.const (.int .i64 2)),none⟩]) (.ops [yoj 59 12,yom 60 2 10,yop 60 59]))))) (.seq (.ops [yoj 62 9,
 yoo 63 (.call f8 [.tmp 62]),yoj 64 63,⟨some 65,.mv (.tmp 9),(some (64,false))⟩,⟨some 66,.bin .eql (.tmp 65) (.const (.int .u8 95)),(some (64,false))⟩,yoo 67 (.pick (.tmp 64) (.const (.bool true)) (.tmp 66)),
 yoj 61 67]) (.cond (.tmp 61) (.seq (.ops [yoj 68 0,yoj 69 6,yoo 70 (.call zap [.tmp 68,.tmp 69,(.const (.bool true))]),yoj 11 70]) (.ops [yom 71 0 10,⟨none,.store1 (.tmp 71) (.const (.int .i64 1)),
 none⟩])) (.seq (.ops [yoj 73 9,yoo 74 (.call zb9 [.tmp 73]),yoj 72 74]) (.cond (.tmp 72) (.seq (.seq (.ops [yoj 75 11,yoj 76 0,yoo 77 (.lenStr (.tmp 76)),yoo 78 (.bin .lss (.tmp 75) (.tmp 77)),yoj 79 78,⟨some 80,
 .mv (.tmp 9),(some (79,true))⟩,⟨some 81,.bin .eql (.tmp 80) (.const (.int .u8 47)),(some (79,true))⟩,⟨some 82,.mv (.tmp 81),(some (79,true))⟩,⟨some 83,.mv (.tmp 0),(some (82,true))⟩,⟨some 84,.mv (.tmp 11),(some (82,
 true))⟩,⟨some 85,.idxStr (.tmp 83) (.tmp 84),(some (82,true))⟩,⟨some 86,.bin .eql (.tmp 85) (.const (.int .u8 92)),(some (82,true))⟩,⟨some 87,.pick (.tmp 82) (.tmp 86) (.const (.bool false)),(some (79,true))⟩,⟨some 88,
 .mv (.tmp 87),(some (79,true))⟩,⟨some 89,.mv (.tmp 9),(some (88,false))⟩,⟨some 90,.bin .eql (.tmp 89) (.const (.int .u8 92)),(some (88,false))⟩,⟨some 91,.mv (.tmp 90),(some (88,false))⟩,⟨some 92,.mv (.tmp 0),(some (91,
 true))⟩,⟨some 93,.mv (.tmp 11),(some (91,true))⟩,⟨some 94,.idxStr (.tmp 92) (.tmp 93),(some (91,true))⟩,⟨some 95,.bin .eql (.tmp 94) (.const (.int .u8 47)),(some (91,true))⟩,⟨some 96,
 .pick (.tmp 91) (.tmp 95) (.const (.bool false)),(some (88,false))⟩,⟨some 97,.pick (.tmp 88) (.const (.bool true)) (.tmp 96),(some (79,true))⟩,
 yoo 98 (.pick (.tmp 79) (.tmp 97) (.const (.bool false)))]) (.cond (.tmp 98) (.ops [yoj 99 11,yoo 100 (.bin .add (.tmp 99) (.const (.int .i64 1))),yoj 11 100]) .skip)) (.ops [yom 101 0 10,⟨none,
 .store1 (.tmp 101) (.const (.int .i64 3)),none⟩])) (.seq (.ops [yoj 40 6,yoo 2 (.mv (.const (.slice none 0 0))),yoo 3 (.mv (.const (.int .i64 20))),yoj 4 40]) .ret)))))))) (.seq (.ops [yoj 102 0,yoj 103 6,yoj 104 11,
 yoo 105 (.sliceStr (.tmp 102) (some (.tmp 103)) (some (.tmp 104))),yom 106 1 10,yop 106 105]) (.seq (.ops [yoj 107 5,yoo 108 (.load 4 (.tmp 10)),⟨some 109,.mkRow [(.int .i64 0),(.string ⟨#[]⟩),(.int .i64 0),
 (.int .i64 0)] 1 [(0,4,.tmp 108)],none⟩,yoo 110 (.append 4 40 (.tmp 107) (.tmp 109)),yoj 5 110]) (.ops [yoj 111 11,yoj 6 111]))))))))))))))))))⟩
def c_belatedref12_parser_stmt:y4:=⟨69,[.cells 2 5],(.seq (.ops [⟨some 2,.alloc [(.slice none 0 0),(.bool false),(.string ⟨#[]⟩),(.string ⟨#[]⟩),(.pointer none)],none⟩]) (.seq (.ops [⟨some 3,.alloc [(.slice none 0 0),
 (.bool false),(.string ⟨#[]⟩),(.string ⟨#[]⟩),(.pointer none)],none⟩]) (.seq (.block 0 (.seq (.ops [yoj 9 0,⟨some 10,.call z8 [.tmp 9,(.const (.string ⟨#[108,101,116]⟩))],none⟩,
 yoj 8 10]) (.cond (.tmp 8) (.seq (.ops [yoj 11 0,⟨some 12,.call z8 [.tmp 11,(.const (.string ⟨#[114,101,99]⟩))],none⟩,yom 13 1 3,yop 13 12]) (.block 1 (.loop (.block 2 (.seq (.ops [yoj 15 0,yoo 16 (.call wd [.tmp 15]),
 yoj 14 16,yoo 17 (.extract (.tmp 14) 0),yoo 18 (.extract (.tmp 14) 1),yoj 4 17,yoj 5 18]) (.seq (.ops [yoj 19 0,⟨some 20,.call yj [.tmp 19,(.const (.string ⟨#[61]⟩))],none⟩]) (.seq (.ops [yom 21 0 3,yon 22 21,yoj 23 4,
 yoj 24 5,yoj 25 0,yoo 26 (.call ya [.tmp 25]),⟨none,.again1 (.tmp 21) 22,none⟩,⟨some 27,.build [(.string ⟨#[]⟩),(.int .i64 0),(.pointer none)] [(0,1,.tmp 23),(1,1,.tmp 24),(2,1,.tmp 26)],none⟩,⟨some 28,
 .mkRow [(.string ⟨#[]⟩),(.int .i64 0),(.pointer none)] 1 [(0,3,.tmp 27)],none⟩,yoo 29 (.append 3 32 (.tmp 22) (.tmp 28)),yom 30 0 3,yop 30 29]) (.seq (.ops [yoj 31 0,⟨some 32,.call z8 [.tmp 31,(.const (.string ⟨#[97,110,
 100]⟩))],none⟩,yoo 33 (.un .not (.tmp 32))]) (.cond (.tmp 33) (.seq (.ops [yoo 34 (.load 5 (.tmp 3)),⟨none,.store 5 (.tmp 2) (.tmp 34),none⟩]) .ret) .skip))))))))) (.seq (.ops [yoj 36 0,yoo 37 (.call xd [.tmp 36]),
 ⟨some 38,.bin .eql (.tmp 37) (.const (.string ⟨#[97,99,121,99,108,105,99]⟩)),none⟩,yoj 39 38,⟨some 40,.mv (.tmp 0),(some (39,false))⟩,⟨some 41,.call xd [.tmp 40],(some (39,false))⟩,⟨some 42,
 .bin .eql (.tmp 41) (.const (.string ⟨#[105,114,114,101,102,108,101,120,105,118,101]⟩)),(some (39,false))⟩,yoo 43 (.pick (.tmp 39) (.const (.bool true)) (.tmp 42)),yoj 44 43,⟨some 45,.mv (.tmp 0),(some (44,false))⟩,
 ⟨some 46,.call xd [.tmp 45],(some (44,false))⟩,⟨some 47,.bin .eql (.tmp 46) (.const (.string ⟨#[101,109,112,116,121]⟩)),(some (44,false))⟩,yoo 48 (.pick (.tmp 44) (.const (.bool true)) (.tmp 47)),
 yoj 35 48]) (.cond (.tmp 35) (.seq (.ops [yoj 49 0,yoo 50 (.call xd [.tmp 49]),yom 51 2 3,yop 51 50]) (.seq (.ops [yoj 52 0,yol 53 52,yom 54 0 53,yon 55 54,yoo 56 (.call yi [.tmp 55])]) (.seq (.ops [yoj 57 0,
 yoo 58 (.call ya [.tmp 57]),yom 59 4 3,yop 59 58]) (.seq (.ops [yoj 60 0,⟨some 61,.call z8 [.tmp 60,(.const (.string ⟨#[97,115]⟩))],none⟩]) (.cond (.tmp 61) (.ops [yoj 63 0,yoo 64 (.call wd [.tmp 63]),yoj 62 64,
 yoo 65 (.extract (.tmp 62) 0),yoo 66 (.extract (.tmp 62) 1),yom 67 3 3,yop 67 65]) .skip))))) (.ops [yoj 6 0,yoo 7 (.call y6 [.tmp 6])])))))) (.seq (.ops [yoo 68 (.load 5 (.tmp 3)),⟨none,.store 5 (.tmp 2) (.tmp 68),
 none⟩]) .ret))))⟩
def zdw:y4:=⟨20,[.tmp 4],(.seq (.ops [yoo 4 (.mv (.const (.int .i64 0)))]) (.seq (.seq (.ops [yoo 5 (.mv (.const (.int .i64 0)))]) (.block 0 (.loop (.seq (.seq (.ops [yoj 6 5,yoj 7 0,yoo 8 (.len (.tmp 7)),
 yoo 9 (.bin .lss (.tmp 6) (.tmp 8))]) (.cond (.tmp 9) .skip (.exit 0))) (.seq (.block 1 (.seq (.ops [yoj 12 0,yoj 13 5,yoo 14 (.atRow 2 (.tmp 12) (.tmp 13)),yom 15 0 14,yon 16 15,yoj 17 1,
 yoo 18 (.bin .eql (.tmp 16) (.tmp 17))]) (.cond (.tmp 18) (.seq (.ops [yoj 19 5,yoj 4 19]) .ret) .skip))) (.ops [yoj 10 5,yoo 11 (.bin .add (.tmp 10) (.const (.int .i64 1))),
 yoj 5 11])))))) (.seq (.ops [yoo 4 (.mv (.const (.int .i64 (-1))))]) .ret)))⟩
def zae:y4:=⟨177,[],(.seq (.ops [yoo 5 (.box 5 (.tmp 2))]) (.seq (.ops [yoo 6 (.mv (.const (.slice none 0 0)))]) (.seq (.seq (.ops [yoo 7 (.mv (.const (.int .i64 0)))]) (.block 0 (.loop (.seq (.seq (.ops [yoj 10 7,
 yom 11 0 5,yon 12 11,yoo 13 (.len (.tmp 12)),yoo 14 (.bin .lss (.tmp 10) (.tmp 13)),yoj 15 14,⟨some 16,.mv (.tmp 0),(some (15,true))⟩,⟨some 17,.nilCheck (.tmp 16),(some (15,true))⟩,⟨some 18,.off 2 (.tmp 17),(some (15,
 true))⟩,⟨some 19,.load1 (.tmp 18),(some (15,true))⟩,⟨some 20,.bin .eql (.tmp 19) (.const (.int .i64 0)),(some (15,true))⟩,
 yoo 21 (.pick (.tmp 15) (.tmp 20) (.const (.bool false)))]) (.cond (.tmp 21) .skip (.exit 0))) (.seq (.block 1 (.seq (.ops [yom 24 0 5,yon 25 24,yoj 26 7,yoo 27 (.atRow 3 (.tmp 25) (.tmp 26)),yoo 28 (.load 3 (.tmp 27)),
 ⟨some 8,.alloc [(.string ⟨#[]⟩),(.int .i64 0),(.pointer none)],none⟩,⟨none,.store 3 (.tmp 8) (.tmp 28),none⟩]) (.seq (.seq (.ops [yoj 29 0,yol 30 29,yom 31 0 30,yon 32 31,yom 33 0 8,yon 34 33,yoo 35 (.call qb [.tmp 32,
 .tmp 34]),yoo 36 (.bin .geq (.tmp 35) (.const (.int .i64 0))),yoj 37 36,⟨some 38,.mv (.tmp 6),(some (37,false))⟩,⟨some 39,.off 0 (.tmp 8),(some (37,false))⟩,⟨some 40,.load1 (.tmp 39),(some (37,false))⟩,⟨some 41,
 .call qb [.tmp 38,.tmp 40],(some (37,false))⟩,⟨some 42,.bin .geq (.tmp 41) (.const (.int .i64 0)),(some (37,false))⟩,yoo 43 (.pick (.tmp 37) (.const (.bool true)) (.tmp 42))]) (.cond (.tmp 43) (.seq (.ops [yoj 44 0,
 yom 45 1 8,yon 46 45,yoo 47 (.call zt [.tmp 44,(.const (.int .i64 42)),.tmp 46])]) .ret) .skip)) (.seq (.seq (.ops [yoj 48 1,yol 49 48,yom 50 1 49,yon 51 50,yoo 52 (.len (.tmp 51)),yoj 53 6,yoo 54 (.len (.tmp 53)),
 yoo 55 (.bin .add (.tmp 52) (.tmp 54)),yoo 56 (.bin .geq (.tmp 55) (.const (.int .i64 64)))]) (.cond (.tmp 56) (.seq (.ops [yoj 57 0,yom 58 1 8,yon 59 58,yoo 60 (.call zt [.tmp 57,(.const (.int .i64 2)),
 .tmp 59])]) .ret) .skip)) (.seq (.ops [yoj 61 6,yom 62 0 8,yon 63 62,⟨some 64,.build [(.string ⟨#[]⟩),(.bool false)] [(0,1,.tmp 63)],none⟩,⟨some 65,.mkRow [(.string ⟨#[]⟩),(.bool false)] 1 [(0,2,.tmp 64)],none⟩,
 yoo 66 (.append 2 24 (.tmp 61) (.tmp 65)),yoj 6 66]) (.seq (.ops [yom 67 1 5,yon 68 67]) (.cond (.tmp 68) (.ops [yoj 69 0,yoj 70 0,yol 71 70,yom 72 1 71,yon 73 72,yom 74 0 8,yon 75 74,⟨some 76,
 .mkRow [(.string ⟨#[]⟩)] 1 [(0,1,.tmp 75)],none⟩,yoo 77 (.append 1 16 (.tmp 73) (.tmp 76)),yol 78 69,yom 79 1 78,yop 79 77]) .skip))))))) (.ops [yoj 22 7,yoo 23 (.bin .add (.tmp 22) (.const (.int .i64 1))),
 yoj 7 23])))))) (.seq (.seq (.ops [yom 80 1 5,yon 81 80]) (.cond (.tmp 81) (.ops [yoj 82 0,yoj 83 0,yol 84 83,yom 85 0 84,yon 86 85,yoj 87 6,yoo 88 (.append 2 24 (.tmp 86) (.tmp 87)),yol 89 82,yom 90 0 89,
 yop 90 88]) .skip)) (.seq (.seq (.ops [yoo 9 (.mv (.const (.int .i64 0)))]) (.block 2 (.loop (.seq (.seq (.ops [yoj 91 9,yom 92 0 5,yon 93 92,yoo 94 (.len (.tmp 93)),yoo 95 (.bin .lss (.tmp 91) (.tmp 94)),yoj 96 95,
 ⟨some 97,.mv (.tmp 0),(some (96,true))⟩,⟨some 98,.nilCheck (.tmp 97),(some (96,true))⟩,⟨some 99,.off 2 (.tmp 98),(some (96,true))⟩,⟨some 100,.load1 (.tmp 99),(some (96,true))⟩,⟨some 101,
 .bin .eql (.tmp 100) (.const (.int .i64 0)),(some (96,true))⟩,yoo 102 (.pick (.tmp 96) (.tmp 101) (.const (.bool false)))]) (.cond (.tmp 102) .skip (.exit 2))) (.seq (.block 3 (.seq (.ops [yoj 105 0,yom 106 0 5,
 yon 107 106,yoj 108 9,yoo 109 (.atRow 3 (.tmp 107) (.tmp 108)),yom 110 2 109,yon 111 110,yoo 112 (.call zn [.tmp 105,.tmp 111,(.const (.bool false))])]) (.seq (.ops [yoj 113 6,yoj 114 9,yom 115 0 5,yon 116 115,yoj 117 9,
 yoo 118 (.atRow 3 (.tmp 116) (.tmp 117)),yom 119 2 118,yon 120 119,yol 121 120,yom 122 6 121,yon 123 122,yoo 124 (.atRow 2 (.tmp 113) (.tmp 114)),yom 125 1 124,yop 125 123]) (.seq (.ops [yoj 126 0,yol 127 126,
 yom 128 2 127,yon 129 128,yoo 130 (.bin .eql (.tmp 129) (.const (.int .i64 0))),yoj 131 130,⟨some 132,.off 1 (.tmp 5),(some (131,true))⟩,⟨some 133,.load1 (.tmp 132),(some (131,true))⟩,
 yoo 134 (.pick (.tmp 131) (.tmp 133) (.const (.bool false))),yoj 135 134,⟨some 136,.mv (.tmp 6),(some (135,true))⟩,⟨some 137,.mv (.tmp 9),(some (135,true))⟩,⟨some 138,.atRow 2 (.tmp 136) (.tmp 137),(some (135,true))⟩,
 ⟨some 139,.off 1 (.tmp 138),(some (135,true))⟩,⟨some 140,.load1 (.tmp 139),(some (135,true))⟩,yoo 141 (.pick (.tmp 135) (.tmp 140) (.const (.bool false)))]) (.cond (.tmp 141) (.ops [yoj 142 0,yom 143 0 5,yon 144 143,
 yoj 145 9,yoo 146 (.atRow 3 (.tmp 144) (.tmp 145)),yom 147 2 146,yon 148 147,yol 149 148,yom 150 2 149,yon 151 150,yoo 152 (.call zt [.tmp 142,(.const (.int .i64 41)),.tmp 151])]) .skip))))) (.ops [yoj 103 9,
 yoo 104 (.bin .add (.tmp 103) (.const (.int .i64 1))),yoj 9 104])))))) (.seq (.seq (.ops [yom 153 1 5,yon 154 153,yoo 155 (.un .not (.tmp 154))]) (.cond (.tmp 155) (.ops [yoj 156 0,yoj 157 0,yol 158 157,yom 159 0 158,
 yon 160 159,yoj 161 6,yoo 162 (.append 2 24 (.tmp 160) (.tmp 161)),yol 163 156,yom 164 0 163,yop 164 162]) .skip)) (.seq (.ops [yoj 165 0,yol 166 165,yom 167 1 166,⟨none,.store1 (.tmp 167) (.const (.slice none 0 0)),
 none⟩]) (.ops [yoj 168 1,yoj 169 1,yol 170 169,yom 171 1 170,yon 172 171,yoj 173 6,yoo 174 (.append 2 24 (.tmp 172) (.tmp 173)),yol 175 168,yom 176 1 175,yop 176 174]))))))))⟩
def za:y4:=⟨256,[],(.seq (.seq (.ops [yoj 8 1,yol 9 8,yom 10 4 9,yon 11 10,yoo 12 (.eqv true .ptr (.tmp 11) (.const (.pointer none)))]) (.cond (.tmp 12) (.ops [yoj 13 0,yoj 14 1,yol 15 14,yom 16 4 15,yon 17 16,yoj 18 2,
 yoo 19 (.call zn [.tmp 13,.tmp 17,.tmp 18])]) .skip)) (.seq (.seq (.ops [yoj 20 1,yol 21 20,yom 22 5 21,yon 23 22,yoo 24 (.eqv true .ptr (.tmp 23) (.const (.pointer none)))]) (.cond (.tmp 24) (.ops [yoj 25 0,yoj 26 1,
 yol 27 26,yom 28 5 27,yon 29 28,yoj 30 2,yoj 31 30,⟨some 32,.mv (.tmp 1),(some (31,false))⟩,⟨some 33,.nilCheck (.tmp 32),(some (31,false))⟩,⟨some 34,.off 0 (.tmp 33),(some (31,false))⟩,⟨some 35,.load1 (.tmp 34),
 (some (31,false))⟩,⟨some 36,.bin .eql (.tmp 35) (.const (.int .i64 5)),(some (31,false))⟩,yoo 37 (.pick (.tmp 31) (.const (.bool true)) (.tmp 36)),yoo 38 (.call zn [.tmp 25,.tmp 29,
 .tmp 37])]) .skip)) (.seq (.seq (.ops [yoj 39 0,yol 40 39,yom 41 2 40,yon 42 41,yoo 43 (.bin .neq (.tmp 42) (.const (.int .i64 0)))]) (.cond (.tmp 43) .ret .skip)) (.seq (.ops [yoj 44 1,yol 45 44,yom 46 0 45,
 yon 47 46]) (.block 0 (.seq (.ops [yoo 49 (.bin .eql (.tmp 47) (.const (.int .i64 1))),yoj 48 49]) (.cond (.tmp 48) (.seq (.ops [yoj 50 0,yol 51 50,yom 52 0 51,yon 53 52,yoj 54 1,yol 55 54,yom 56 1 55,yon 57 56,
 yoo 58 (.call qb [.tmp 53,.tmp 57]),yoj 6 58]) (.seq (.seq (.ops [yoj 59 6,yoo 60 (.bin .lss (.tmp 59) (.const (.int .i64 0)))]) (.cond (.tmp 60) (.seq (.ops [yoj 61 0,yoj 62 1,yol 63 62,yom 64 3 63,yon 65 64,
 yoo 66 (.call zt [.tmp 61,(.const (.int .i64 40)),.tmp 65])]) .ret) .skip)) (.seq (.ops [yoj 67 1,yoj 68 0,yol 69 68,yom 70 0 69,yon 71 70,yoj 72 6,yoo 73 (.atRow 2 (.tmp 71) (.tmp 72)),yom 74 1 73,yon 75 74,yol 76 67,
 yom 77 6 76,yop 77 75]) (.seq (.ops [yoo 7 (.mv (.const (.int .i64 0)))]) (.block 1 (.loop (.seq (.seq (.ops [yoj 78 7,yoj 79 0,yol 80 79,yom 81 1 80,yon 82 81,yoo 83 (.len (.tmp 82)),
 yoo 84 (.bin .lss (.tmp 78) (.tmp 83)),yoj 85 84,⟨some 86,.mv (.tmp 2),(some (85,true))⟩,
 yoo 87 (.pick (.tmp 85) (.tmp 86) (.const (.bool false)))]) (.cond (.tmp 87) .skip (.exit 1))) (.seq (.block 2 (.seq (.ops [yoj 90 0,yol 91 90,yom 92 1 91,yon 93 92,yoj 94 7,yoo 95 (.atRow 1 (.tmp 93) (.tmp 94)),
 yon 96 95,yoj 97 1,yol 98 97,yom 99 1 98,yon 100 99,yoo 101 (.bin .eql (.tmp 96) (.tmp 100))]) (.cond (.tmp 101) (.ops [yoj 102 0,yoj 103 1,yol 104 103,yom 105 3 104,yon 106 105,yoo 107 (.call zt [.tmp 102,
 (.const (.int .i64 43)),.tmp 106])]) .skip))) (.ops [yoj 88 7,yoo 89 (.bin .add (.tmp 88) (.const (.int .i64 1))),yoj 7 89]))))))))) (.seq (.seq (.ops [yoo 109 (.bin .eql (.tmp 47) (.const (.int .i64 3))),
 yoj 108 109]) (.cond (.tmp 108) .skip (.seq (.ops [yoo 110 (.bin .eql (.tmp 47) (.const (.int .i64 4))),yoj 108 110]) (.cond (.tmp 108) .skip (.ops [yoo 111 (.bin .eql (.tmp 47) (.const (.int .i64 5))),
 yoj 108 111]))))) (.cond (.tmp 108) (.seq (.ops [yoj 112 1,yoj 113 1,yol 114 113,yom 115 4 114,yon 116 115,yol 117 116,yom 118 6 117,yon 119 118,yol 120 112,yom 121 6 120,yop 121 119]) (.seq (.ops [yoj 122 1,yol 123 122,
 yom 124 5 123,yon 125 124,yol 126 125,yom 127 6 126,yon 128 127,yoj 129 1,yol 130 129,yom 131 4 130,yon 132 131,yol 133 132,yom 134 6 133,yon 135 134,
 yoo 136 (.eqv true .bool (.tmp 128) (.tmp 135))]) (.cond (.tmp 136) (.ops [yoj 137 0,yoj 138 1,yol 139 138,yom 140 5 139,yon 141 140,yol 142 141,yom 143 2 142,yon 144 143,yoo 145 (.call zt [.tmp 137,
 (.const (.int .i64 41)),.tmp 144])]) .skip))) (.seq (.ops [yoo 147 (.bin .eql (.tmp 47) (.const (.int .i64 6))),yoj 146 147]) (.cond (.tmp 146) (.seq (.seq (.ops [yoj 148 1,yol 149 148,yom 150 4 149,yon 151 150,
 yol 152 151,yom 153 6 152,yon 154 153]) (.cond (.tmp 154) (.ops [yoj 155 0,yoj 156 1,yol 157 156,yom 158 4 157,yon 159 158,yol 160 159,yom 161 2 160,yon 162 161,yoo 163 (.call zt [.tmp 155,(.const (.int .i64 41)),
 .tmp 162])]) .skip)) (.seq (.ops [yoj 164 1,yol 165 164,yom 166 5 165,yon 167 166,yol 168 167,yom 169 6 168,yon 170 169]) (.cond (.tmp 170) (.ops [yoj 171 0,yoj 172 1,yol 173 172,yom 174 5 173,yon 175 174,yol 176 175,
 yom 177 2 176,yon 178 177,yoo 179 (.call zt [.tmp 171,(.const (.int .i64 41)),.tmp 178])]) .skip))) (.seq (.ops [yoo 181 (.bin .eql (.tmp 47) (.const (.int .i64 7))),
 yoj 180 181]) (.cond (.tmp 180) (.seq (.seq (.ops [yoj 182 1,yol 183 182,yom 184 4 183,yon 185 184,yol 186 185,yom 187 6 186,yon 188 187,yoo 189 (.un .not (.tmp 188))]) (.cond (.tmp 189) (.ops [yoj 190 0,yoj 191 1,
 yol 192 191,yom 193 4 192,yon 194 193,yol 195 194,yom 196 2 195,yon 197 196,yoo 198 (.call zt [.tmp 190,(.const (.int .i64 41)),.tmp 197])]) .skip)) (.seq (.ops [yoj 199 1,yol 200 199,yom 201 5 200,yon 202 201,
 yol 203 202,yom 204 6 203,yon 205 204,yoo 206 (.un .not (.tmp 205))]) (.cond (.tmp 206) (.ops [yoj 207 0,yoj 208 1,yol 209 208,yom 210 5 209,yon 211 210,yol 212 211,yom 213 2 212,yon 214 213,yoo 215 (.call zt [.tmp 207,
 (.const (.int .i64 41)),.tmp 214])]) .skip))) (.seq (.seq (.ops [yoo 217 (.bin .eql (.tmp 47) (.const (.int .i64 8))),
 yoj 216 217]) (.cond (.tmp 216) .skip (.seq (.ops [yoo 218 (.bin .eql (.tmp 47) (.const (.int .i64 9))),yoj 216 218]) (.cond (.tmp 216) .skip (.seq (.ops [yoo 219 (.bin .eql (.tmp 47) (.const (.int .i64 10))),
 yoj 216 219]) (.cond (.tmp 216) .skip (.ops [yoo 220 (.bin .eql (.tmp 47) (.const (.int .i64 11))),yoj 216 220]))))))) (.cond (.tmp 216) (.seq (.ops [yoj 221 1,yol 222 221,yom 223 4 222,yon 224 223,yol 225 224,
 yom 226 6 225,yon 227 226]) (.cond (.tmp 227) (.ops [yoj 228 0,yoj 229 1,yol 230 229,yom 231 4 230,yon 232 231,yol 233 232,yom 234 2 233,yon 235 234,yoo 236 (.call zt [.tmp 228,(.const (.int .i64 41)),
 .tmp 235])]) .skip)) (.seq (.ops [yoo 238 (.bin .eql (.tmp 47) (.const (.int .i64 12))),yoj 237 238]) (.cond (.tmp 237) (.seq (.ops [yoj 239 1,yol 240 239,yom 241 4 240,yon 242 241,yol 243 242,yom 244 6 243,yon 245 244,
 yoo 246 (.un .not (.tmp 245))]) (.cond (.tmp 246) (.ops [yoj 247 0,yoj 248 1,yol 249 248,yom 250 4 249,yon 251 250,yol 252 251,yom 253 2 252,yon 254 253,yoo 255 (.call zt [.tmp 247,(.const (.int .i64 41)),
 .tmp 254])]) .skip)) .skip)))))))))))))))))⟩
def gh:y4:=⟨19,[],(.seq (.ops [yoj 6 0,yol 7 6,yom 8 2 7,yon 9 8,yoo 10 (.bin .eql (.tmp 9) (.const (.int .i64 0)))]) (.cond (.tmp 10) (.seq (.ops [yoj 11 0,yoj 12 1,yol 13 11,yom 14 2 13,yop 14 12]) (.ops [yoj 15 0,
 yoj 16 2,yol 17 15,yom 18 3 17,yop 18 16])) .skip))⟩
def zfy:y4:=⟨60,[.tmp 6],(.seq (.ops [yoo 6 (.mv (.const (.pointer none)))]) (.seq (.ops [yoj 12 1,yoo 13 (.mkMap),yoo 14 (.build [(.int .u32 0),(.map none)] [(0,1,.tmp 12),(1,1,.tmp 13)]),yoo 15 (.box 2 (.tmp 14)),
 yoj 7 15]) (.seq (.seq (.ops [yoj 16 0,yol 17 16,yom 18 0 17,yon 19 18,yoo 20 (.len (.tmp 19)),
 yoo 21 (.mv (.const (.int .i64 0)))]) (.block 0 (.loop (.seq (.ops [yoo 22 (.bin .lss (.tmp 21) (.tmp 20))]) (.seq (.cond (.tmp 22) .skip (.exit 0)) (.seq (.block 1 (.seq (.ops [yoo 23 (.atRow 2 (.tmp 19) (.tmp 21)),
 yoo 24 (.load 2 (.tmp 23)),⟨some 9,.alloc [(.string ⟨#[]⟩),(.bool false)],none⟩,⟨none,.store 2 (.tmp 9) (.tmp 24),none⟩]) (.seq (.ops [yom 25 0 9,yon 26 25,yom 27 1 9,yon 28 27,⟨some 29,
 .build ([(.string ⟨#[]⟩)]++[(.bool false)]++List.replicate 33 (.int .u32 0)) [(0,1,.tmp 26),(1,1,.tmp 28)],none⟩,⟨some 10,.alloc ([(.string ⟨#[]⟩)]++[(.bool false)]++List.replicate 33 (.int .u32 0)),none⟩,⟨none,
 .store 35 (.tmp 10) (.tmp 29),none⟩]) (.seq (.ops [yoj 30 2,yoo 31 (.func gj [] [.tmp 9]),yoo 32 (.call vj [.tmp 30,.tmp 31]),yoj 11 32]) (.seq (.block 2 (.seq (.ops [yoj 40 11,
 yoo 41 (.bin .lss (.tmp 40) (.const (.int .i64 0))),yoj 39 41]) (.cond (.tmp 39) .skip (.seq (.ops [yom 43 1 9,yon 44 43,yoj 42 44]) (.cond (.tmp 42) (.ops [yoj 45 2,yoj 46 11,yoo 47 (.atRow 35 (.tmp 45) (.tmp 46)),
 yom 48 2 47,yon 49 48,yom 50 2 10,yop 50 49]) (.ops [yoj 33 2,yoj 34 11,yoo 35 (.atRow 35 (.tmp 33) (.tmp 34)),yom 36 3 35,yoo 37 (.load 32 (.tmp 36)),yom 38 3 10,⟨none,.store 32 (.tmp 38) (.tmp 37),
 none⟩])))))) (.ops [yoj 51 7,yol 52 51,yom 53 1 52,yon 54 53,yom 55 0 9,yon 56 55,yoo 57 (.load 35 (.tmp 10)),⟨none,.update .str (.tmp 54) (.tmp 56) (.tmp 57),
 none⟩])))))) (.ops [yoo 58 (.bin .add (.tmp 21) (.const (.int .i64 1))),yoj 21 58]))))))) (.seq (.ops [yoj 59 7,yoj 6 59]) .ret))))⟩
def j8:y4:=⟨117,[.tmp 4],(.seq (.ops [yoo 3 (.box 4 (.tmp 1)),yoo 4 (.mv (.const (.bool false)))]) (.seq (.seq (.ops [yom 16 0 3,yon 17 16]) (.block 0 (.seq (.ops [⟨some 19,.bin .eql (.tmp 17) (.const (.string ⟨#[108,
 101,116]⟩)),none⟩,yoj 18 19]) (.cond (.tmp 18) (.seq (.ops [yoo 5 (.mv (.const (.slice none 0 0)))]) (.seq (.seq (.ops [yom 20 1 3,yon 21 20,yoo 22 (.len (.tmp 21)),
 yoo 23 (.mv (.const (.int .i64 0)))]) (.block 1 (.loop (.seq (.ops [yoo 24 (.bin .lss (.tmp 23) (.tmp 22))]) (.seq (.cond (.tmp 24) .skip (.exit 1)) (.seq (.block 2 (.seq (.ops [yoo 25 (.atRow 3 (.tmp 21) (.tmp 23)),
 yoo 26 (.load 3 (.tmp 25)),⟨some 7,.alloc [(.string ⟨#[]⟩),(.int .i64 0),(.pointer none)],none⟩,⟨none,.store 3 (.tmp 7) (.tmp 26),none⟩]) (.ops [yoj 27 5,yoj 28 0,yom 29 2 7,yon 30 29,yoo 31 (.call x9 [.tmp 28,.tmp 30]),
 ⟨some 32,.mkRow ([(.string ⟨#[]⟩)]++[(.bool false)]++List.replicate 33 (.int .u32 0)) 1 [(0,35,.tmp 31)],none⟩,yoo 33 (.append 35 152 (.tmp 27) (.tmp 32)),
 yoj 5 33]))) (.ops [yoo 34 (.bin .add (.tmp 23) (.const (.int .i64 1))),yoj 23 34]))))))) (.seq (.ops [yom 35 1 3,yon 36 35,yoo 37 (.len (.tmp 36)),
 yoo 38 (.mv (.const (.int .i64 0)))]) (.block 3 (.loop (.seq (.ops [yoo 39 (.bin .lss (.tmp 38) (.tmp 37))]) (.seq (.cond (.tmp 39) .skip (.exit 3)) (.seq (.block 4 (.seq (.ops [yoj 40 38,
 yoo 41 (.atRow 3 (.tmp 36) (.tmp 38)),yoo 42 (.load 3 (.tmp 41)),⟨some 9,.alloc [(.string ⟨#[]⟩),(.int .i64 0),(.pointer none)],none⟩,yoj 8 40,⟨none,.store 3 (.tmp 9) (.tmp 42),none⟩]) (.ops [yoj 43 0,yom 44 0 9,
 yon 45 44,yoj 46 5,yoj 47 8,yoo 48 (.atRow 35 (.tmp 46) (.tmp 47)),yoo 49 (.load 35 (.tmp 48)),yoo 50 (.call jc [.tmp 43,.tmp 45,.tmp 49])]))) (.ops [yoo 51 (.bin .add (.tmp 38) (.const (.int .i64 1))),
 yoj 38 51]))))))))) (.seq (.ops [⟨some 53,.bin .eql (.tmp 17) (.const (.string ⟨#[114,101,99]⟩)),none⟩,yoj 52 53]) (.cond (.tmp 52) (.seq (.seq (.ops [yom 54 1 3,yon 55 54,yoo 56 (.len (.tmp 55)),
 yoo 57 (.mv (.const (.int .i64 0)))]) (.block 5 (.loop (.seq (.ops [yoo 58 (.bin .lss (.tmp 57) (.tmp 56))]) (.seq (.cond (.tmp 58) .skip (.exit 5)) (.seq (.block 6 (.seq (.ops [yoo 59 (.atRow 3 (.tmp 55) (.tmp 57)),
 yoo 60 (.load 3 (.tmp 59)),⟨some 11,.alloc [(.string ⟨#[]⟩),(.int .i64 0),(.pointer none)],none⟩,⟨none,.store 3 (.tmp 11) (.tmp 60),none⟩]) (.ops [yoj 61 0,yom 62 0 11,yon 63 62,⟨some 64,
 .build ([(.string ⟨#[]⟩)]++[(.bool false)]++List.replicate 33 (.int .u32 0)) [],none⟩,yoo 65 (.call jc [.tmp 61,.tmp 63,.tmp 64])]))) (.ops [yoo 66 (.bin .add (.tmp 57) (.const (.int .i64 1))),
 yoj 57 66]))))))) (.seq (.ops [yoo 12 (.mv (.const (.bool true)))]) (.block 7 (.loop (.seq (.seq (.ops [yoj 67 12]) (.cond (.tmp 67) .skip (.exit 7))) (.block 8 (.seq (.ops [yoo 12 (.mv (.const (.bool false)))]) (.seq (.ops [yom 68 1 3,yon 69 68,yoo 70 (.len (.tmp 69)),yoo 71 (.mv (.const (.int .i64 0)))]) (.block 9 (.loop (.seq (.ops [yoo 72 (.bin .lss (.tmp 71) (.tmp 70))]) (.seq (.cond (.tmp 72) .skip (.exit 9)) (.seq (.block 10 (.seq (.ops [yoo 73 (.atRow 3 (.tmp 69) (.tmp 71)),yoo 74 (.load 3 (.tmp 73)),⟨some 14,.alloc [(.string ⟨#[]⟩),(.int .i64 0),(.pointer none)],none⟩,⟨none,.store 3 (.tmp 14) (.tmp 74),none⟩]) (.ops [yoj 75 0,yom 76 0 14,yon 77 76,yoj 78 0,yom 79 2 14,yon 80 79,yoo 81 (.call x9 [.tmp 78,.tmp 80]),⟨none,.again1 (.tmp 76) 77,none⟩,yoo 82 (.call jc [.tmp 75,.tmp 77,.tmp 81]),yoj 83 82,⟨some 84,.mv (.tmp 12),(some (83,false))⟩,yoo 85 (.pick (.tmp 83) (.const (.bool true)) (.tmp 84)),yoj 12 85]))) (.ops [yoo 86 (.bin .add (.tmp 71) (.const (.int .i64 1))),yoj 71 86])))))))))))))) (.seq (.ops [⟨some 88,.bin .eql (.tmp 17) (.const (.string ⟨#[97,99,121,99,108,105,99]⟩)),none⟩,yoj 87 88]) (.cond (.tmp 87) (.seq (.ops [yoj 89 0,yom 90 2 3,yon 91 90,yoo 92 (.call x9 [.tmp 89,.tmp 91]),yoo 93 (.field 32 3 (.tmp 92)),yoo 94 (.call zgc [.tmp 93]),yoj 4 94]) .ret) (.seq (.ops [⟨some 96,.bin .eql (.tmp 17) (.const (.string ⟨#[105,114,114,101,102,108,101,120,105,118,101]⟩)),none⟩,yoj 95 96]) (.cond (.tmp 95) (.seq (.ops [yoj 97 0,yom 98 2 3,yon 99 98,yoo 100 (.call x9 [.tmp 97,.tmp 99]),yoo 101 (.field 32 3 (.tmp 100)),yoo 102 (.call zan [.tmp 101]),yoj 4 102]) .ret) (.seq (.ops [⟨some 104,.bin .eql (.tmp 17) (.const (.string ⟨#[101,109,112,116,121]⟩)),none⟩,yoj 103 104]) (.cond (.tmp 103) (.seq (.ops [yoj 105 0,yom 106 2 3,yon 107 106,yoo 108 (.call x9 [.tmp 105,.tmp 107]),⟨some 15,.alloc ([(.string ⟨#[]⟩)]++[(.bool false)]++List.replicate 33 (.int .u32 0)),none⟩,⟨none,.store 35 (.tmp 15) (.tmp 108),none⟩]) (.seq (.ops [yom 109 2 15,yon 110 109,yoo 111 (.bin .eql (.tmp 110) (.const (.int .u32 0))),yoj 112 111,⟨some 113,.off 3 (.tmp 15),(some (112,true))⟩,⟨some 114,.load 32 (.tmp 113),(some (112,true))⟩,⟨some 115,.call zgt [.tmp 114],(some (112,true))⟩,yoo 116 (.pick (.tmp 112) (.tmp 115) (.const (.bool false))),yoj 4 116]) .ret)) .skip)))))))))))) (.seq (.ops [yoo 4 (.mv (.const (.bool true)))]) .ret)))⟩
def zt3:y4:=⟨10,[.tmp 4],(.seq (.ops [yoo 4 (.mv (.const (.bool false)))]) (.seq (.ops [yoj 5 0,yoj 6 1,yoo 7 (.bin .shr (.tmp 5) (.tmp 6)),yoo 8 (.bin .and (.tmp 7) (.const (.int .u32 1))),
 yoo 9 (.bin .eql (.tmp 8) (.const (.int .u32 1))),yoj 4 9]) .ret))⟩
def zqf:y4:=⟨20,[.tmp 4],(.seq (.ops [yoo 3 (.box 32 (.tmp 1)),
 yoo 4 (.mv (.const (.int .u32 0)))]) (.seq (.ops [yoo 5 (.mv (.const (.int .u32 0)))]) (.seq (.seq (.ops [yoo 7 (.mv (.const (.int .i64 0)))]) (.block 0 (.loop (.seq (.ops [yoo 8 (.bin .lss (.tmp 7) (.const (.int .i64 32)))]) (.seq (.cond (.tmp 8) .skip (.exit 0)) (.seq (.block 1 (.seq (.ops [yoj 9 7,yoj 6 9]) (.seq (.ops [yoj 10 0,yoj 11 6,yoo 12 (.call zdu [.tmp 10,.tmp 11])]) (.cond (.tmp 12) (.ops [yoj 13 5,yoj 14 6,yoo 15 (.atArr 32 1 (.tmp 3) (.tmp 14)),yon 16 15,yoo 17 (.bin .or (.tmp 13) (.tmp 16)),yoj 5 17]) .skip)))) (.ops [yoo 18 (.bin .add (.tmp 7) (.const (.int .i64 1))),yoj 7 18]))))))) (.seq (.ops [yoj 19 5,yoj 4 19]) .ret))))⟩
def zdq:y4:=⟨8,[.tmp 4],(.seq (.ops [yoo 4 (.mv (.const (.bool false)))]) (.seq (.ops [yoj 5 0,yoj 6 1,yoo 7 (.call wz [.tmp 5,.tmp 6]),yoj 4 7]) .ret))⟩
def zhy:y4:=⟨8,[.tmp 4],(.seq (.ops [yoo 4 (.mv (.const (.int .i64 0)))]) (.seq (.ops [yoj 5 0,yoj 6 1,yoo 7 (.call pn [.tmp 5,.tmp 6]),yoj 4 7]) .ret))⟩
def zl1:y4:=⟨9,[.tmp 2],(.seq (.ops [yoo 2 (.mv (.const (.bool false)))]) (.seq (.ops [yoj 3 0,yoo 4 (.bin .geq (.tmp 3) (.const (.int .u8 48))),yoj 5 4,⟨some 6,.mv (.tmp 0),(some (5,true))⟩,⟨some 7,
 .bin .leq (.tmp 6) (.const (.int .u8 57)),(some (5,true))⟩,yoo 8 (.pick (.tmp 5) (.tmp 7) (.const (.bool false))),yoj 2 8]) .ret))⟩
def zpw:y4:=⟨20,[.tmp 4],(.seq (.ops [yoo 4 (.mv (.const (.int .i64 0)))]) (.seq (.ops [yoo 5 (.mv (.const (.int .i64 0)))]) (.seq (.block 0 (.loop (.seq (.seq (.ops [yoj 6 5,yoj 7 0,yoo 8 (.lenStr (.tmp 7)),
 yoo 9 (.bin .lss (.tmp 6) (.tmp 8)),yoj 10 9,⟨some 11,.mv (.tmp 1),(some (10,true))⟩,⟨some 12,.mv (.tmp 0),(some (10,true))⟩,⟨some 13,.mv (.tmp 5),(some (10,true))⟩,⟨some 14,.idxStr (.tmp 12) (.tmp 13),(some (10,true))⟩,
 ⟨some 15,.callv (.tmp 11) [.tmp 14],(some (10,true))⟩,yoo 16 (.pick (.tmp 10) (.tmp 15) (.const (.bool false)))]) (.cond (.tmp 16) .skip (.exit 0))) (.block 1 (.ops [yoj 17 5,
 yoo 18 (.bin .add (.tmp 17) (.const (.int .i64 1))),yoj 5 18]))))) (.seq (.ops [yoj 19 5,yoj 4 19]) .ret))))⟩
def zhf:y4:=⟨9,[.tmp 2],(.seq (.ops [yoo 2 (.mv (.const (.bool false)))]) (.seq (.ops [yoj 3 0,yoo 4 (.call zbx [.tmp 3]),yoj 5 4,⟨some 6,.mv (.tmp 0),(some (5,false))⟩,⟨some 7,.call zcy [.tmp 6],(some (5,false))⟩,
 yoo 8 (.pick (.tmp 5) (.const (.bool true)) (.tmp 7)),yoj 2 8]) .ret))⟩
def zkr:y4:=⟨17,[.tmp 2],(.seq (.ops [yoo 2 (.mv (.const (.bool false)))]) (.seq (.ops [yoj 3 0,yoo 4 (.bin .geq (.tmp 3) (.const (.int .u8 97))),yoj 5 4,⟨some 6,.mv (.tmp 0),(some (5,true))⟩,⟨some 7,
 .bin .leq (.tmp 6) (.const (.int .u8 122)),(some (5,true))⟩,yoo 8 (.pick (.tmp 5) (.tmp 7) (.const (.bool false))),yoj 9 8,⟨some 10,.mv (.tmp 0),(some (9,false))⟩,⟨some 11,.bin .geq (.tmp 10) (.const (.int .u8 65)),
 (some (9,false))⟩,⟨some 12,.mv (.tmp 11),(some (9,false))⟩,⟨some 13,.mv (.tmp 0),(some (12,true))⟩,⟨some 14,.bin .leq (.tmp 13) (.const (.int .u8 90)),(some (12,true))⟩,⟨some 15,
 .pick (.tmp 12) (.tmp 14) (.const (.bool false)),(some (9,false))⟩,yoo 16 (.pick (.tmp 9) (.const (.bool true)) (.tmp 15)),yoj 2 16]) .ret))⟩
def ja:y4:=⟨41,[.tmp 2,.tmp 3],(.seq (.ops [yoo 2 (.mv (.const (.int .i64 0))),yoo 3 (.mv (.const (.bool false)))]) (.seq (.ops [yoo 4 (.mv (.const (.int .i64 10))),
 yoo 5 (.mv (.const (.int .i64 19)))]) (.seq (.ops [yoj 11 0,yoj 6 11]) (.seq (.seq (.ops [yoj 13 0,⟨some 14,.call zbc [.tmp 13,(.const (.string ⟨#[48,120]⟩))],none⟩,yoj 12 14,yoo 15 (.extract (.tmp 12) 0),
 yoo 16 (.extract (.tmp 12) 1),yoj 7 15,yoj 8 16]) (.seq (.ops [yoj 17 8]) (.cond (.tmp 17) (.ops [yoj 18 7,yoo 4 (.mv (.const (.int .i64 16))),yoo 5 (.mv (.const (.int .i64 16))),
 yoj 6 18]) .skip))) (.seq (.seq (.ops [yoj 19 6,yoo 20 (.lenStr (.tmp 19)),yoj 21 5,yoo 22 (.bin .gtr (.tmp 20) (.tmp 21)),yoj 23 22,⟨some 24,.mv (.tmp 6),(some (23,false))⟩,⟨some 25,.call zb5 [.tmp 24,
 (.const (.string ⟨#[95]⟩))],(some (23,false))⟩,yoo 26 (.pick (.tmp 23) (.const (.bool true)) (.tmp 25))]) (.cond (.tmp 26) (.seq (.ops [yoo 2 (.mv (.const (.int .i64 0))),
 yoo 3 (.mv (.const (.bool false)))]) .ret) .skip)) (.seq (.ops [yoj 28 6,yoj 29 4,yoo 30 (.call zds [.tmp 28,.tmp 29,(.const (.int .i64 64))]),yoj 27 30,yoo 31 (.extract (.tmp 27) 0),yoo 32 (.extract (.tmp 27) 1),
 yoj 9 31,yoj 10 32]) (.seq (.ops [yoj 33 9,yoo 34 (.conv .i64 (.tmp 33)),yoj 35 10,yoo 36 (.eqv false .iface (.tmp 35) (.const .nilIface)),yoj 37 36,⟨some 38,.mv (.tmp 9),(some (37,true))⟩,⟨some 39,
 .bin .leq (.tmp 38) (.const (.int .u64 9223372036854775808)),(some (37,true))⟩,yoo 40 (.pick (.tmp 37) (.tmp 39) (.const (.bool false))),yoj 2 34,yoj 3 40]) .ret)))))))⟩
def zhr:y4:=⟨17,[.tmp 2],(.seq (.ops [yoo 2 (.mv (.const (.bool false)))]) (.seq (.ops [yoj 3 0,yoo 4 (.call zbx [.tmp 3]),yoj 5 4,⟨some 6,.mv (.tmp 0),(some (5,false))⟩,⟨some 7,.call zcy [.tmp 6],(some (5,false))⟩,
 yoo 8 (.pick (.tmp 5) (.const (.bool true)) (.tmp 7)),yoj 9 8,⟨some 10,.mv (.tmp 0),(some (9,false))⟩,⟨some 11,.bin .eql (.tmp 10) (.const (.int .u8 95)),(some (9,false))⟩,
 yoo 12 (.pick (.tmp 9) (.const (.bool true)) (.tmp 11)),yoj 13 12,⟨some 14,.mv (.tmp 0),(some (13,false))⟩,⟨some 15,.bin .eql (.tmp 14) (.const (.int .u8 46)),(some (13,false))⟩,
 yoo 16 (.pick (.tmp 13) (.const (.bool true)) (.tmp 15)),yoj 2 16]) .ret))⟩
def zea:y4:=⟨8,[.tmp 4],(.seq (.ops [yoo 4 (.mv (.const (.int .i64 0)))]) (.seq (.ops [yoj 5 0,yoj 6 1,yoo 7 (.call f6 [.tmp 5,.tmp 6]),yoj 4 7]) .ret))⟩
def qq:y4:=⟨8,[.tmp 2],(.seq (.ops [yoo 2 (.mv (.const (.slice none 0 0)))]) (.seq (.seq (.ops [yoj 3 0,
 yoo 4 (.eqv false .slice (.tmp 3) (.const (.slice none 0 0)))]) (.cond (.tmp 4) (.seq (.ops [yoo 2 (.mv (.const (.slice none 0 0)))]) .ret) .skip)) (.seq (.ops [⟨some 5,.mkRow [(.int .i64 0),(.string ⟨#[]⟩),
 (.int .i64 0),(.int .i64 0)] 0 [],none⟩,yoj 6 0,yoo 7 (.append 4 40 (.tmp 5) (.tmp 6)),yoj 2 7]) .ret)))⟩
def fj:y4:=⟨51,[.tmp 4],(.seq (.ops [yoo 4 (.mv (.const (.bool false)))]) (.seq (.seq (.ops [yoj 8 1,yoo 9 (.len (.tmp 8)),yoj 10 0,yoo 11 (.call qz [.tmp 10]),
 yoo 12 (.bin .gtr (.tmp 9) (.tmp 11))]) (.cond (.tmp 12) (.seq (.ops [yoo 4 (.mv (.const (.bool false)))]) .ret) .skip)) (.seq (.seq (.ops [yoj 13 1,yoo 14 (.len (.tmp 13)),
 yoo 15 (.mv (.const (.int .i64 0)))]) (.block 0 (.loop (.seq (.ops [yoo 16 (.bin .lss (.tmp 15) (.tmp 14))]) (.seq (.cond (.tmp 16) .skip (.exit 0)) (.seq (.block 1 (.seq (.ops [yoj 17 15,
 yoo 18 (.atRow 1 (.tmp 13) (.tmp 15)),yon 19 18,yoj 5 17,yoj 6 19]) (.seq (.ops [yoj 20 0,yol 21 20,yom 22 0 21,yon 23 22,yoj 24 0,yol 25 24,yom 26 1 25,yon 27 26,yoj 28 5,yoo 29 (.bin .add (.tmp 27) (.tmp 28)),
 yoo 30 (.atRow 4 (.tmp 23) (.tmp 29)),yoo 31 (.load 4 (.tmp 30)),⟨some 7,.alloc [(.int .i64 0),(.string ⟨#[]⟩),(.int .i64 0),(.int .i64 0)],none⟩,⟨none,.store 4 (.tmp 7) (.tmp 31),none⟩]) (.seq (.ops [yom 32 1 7,
 yon 33 32,yoj 34 6,yoo 35 (.bin .neq (.tmp 33) (.tmp 34)),yoj 36 35,⟨some 37,.off 0 (.tmp 7),(some (36,false))⟩,⟨some 38,.load1 (.tmp 37),(some (36,false))⟩,⟨some 39,.bin .eql (.tmp 38) (.const (.int .i64 2)),(some (36,
 false))⟩,yoo 40 (.pick (.tmp 36) (.const (.bool true)) (.tmp 39))]) (.cond (.tmp 40) (.seq (.ops [yoo 4 (.mv (.const (.bool false)))]) .ret) .skip))))) (.ops [yoo 41 (.bin .add (.tmp 15) (.const (.int .i64 1))),
 yoj 15 41]))))))) (.seq (.ops [yoj 42 0,yol 43 42,yom 44 1 43,yon 45 44,yoj 46 1,yoo 47 (.len (.tmp 46)),yoo 48 (.bin .add (.tmp 45) (.tmp 47)),yol 49 42,yom 50 1 49,
 yop 50 48]) (.seq (.ops [yoo 4 (.mv (.const (.bool true)))]) .ret)))))⟩
def pu:y4:=⟨37,[.tmp 2,.tmp 3],(.seq (.ops [⟨some 2,.mv (.const (.string ⟨#[]⟩)),none⟩,yoo 3 (.mv (.const (.int .i64 0)))]) (.seq (.ops [yoj 6 0,yol 7 6,yom 8 0 7,yon 9 8,yoo 10 (.call pi [.tmp 9]),
 yoj 4 10]) (.seq (.ops [yoj 11 0,yoo 12 (.call vg [.tmp 11,(.const (.int .i64 0))]),⟨some 5,.alloc [(.int .i64 0),(.string ⟨#[]⟩),(.int .i64 0),(.int .i64 0)],none⟩,⟨none,.store 4 (.tmp 5) (.tmp 12),
 none⟩]) (.seq (.seq (.ops [yoj 13 0,yoo 14 (.call yq [.tmp 13]),yoo 15 (.un .not (.tmp 14)),yoj 16 15,⟨some 17,.off 0 (.tmp 5),(some (16,false))⟩,⟨some 18,.load1 (.tmp 17),(some (16,false))⟩,⟨some 19,
 .bin .neq (.tmp 18) (.const (.int .i64 1)),(some (16,false))⟩,yoo 20 (.pick (.tmp 16) (.const (.bool true)) (.tmp 19)),yoj 21 20,⟨some 22,.off 1 (.tmp 5),(some (21,false))⟩,⟨some 23,.load1 (.tmp 22),(some (21,false))⟩,
 ⟨some 24,.call za4 [.tmp 23],(some (21,false))⟩,yoo 25 (.pick (.tmp 21) (.const (.bool true)) (.tmp 24))]) (.cond (.tmp 25) (.seq (.ops [yoj 26 0,yoo 27 (.call wk [.tmp 26])]) (.seq (.ops [yoj 28 4,⟨some 2,
 .mv (.const (.string ⟨#[]⟩)),none⟩,yoj 3 28]) .ret)) .skip)) (.seq (.ops [yoj 29 0,yol 30 29,yom 31 0 30,yon 32 31,yoo 33 (.call y9 [.tmp 32])]) (.seq (.ops [yom 34 1 5,yon 35 34,yoj 36 4,yoj 2 35,yoj 3 36]) .ret))))))⟩
def zaj:y4:=⟨18,[],(.seq (.ops [yoj 4 0,yoo 5 (.call yq [.tmp 4]),yoj 6 5,⟨some 7,.mv (.tmp 0),(some (6,true))⟩,⟨some 8,.nilCheck (.tmp 7),(some (6,true))⟩,⟨some 9,.off 0 (.tmp 8),(some (6,true))⟩,⟨some 10,
 .load1 (.tmp 9),(some (6,true))⟩,⟨some 11,.mv (.tmp 1),(some (6,true))⟩,⟨some 12,.mkRow [(.string ⟨#[]⟩)] 1 [(0,1,.tmp 11)],(some (6,true))⟩,⟨some 13,.call xi [.tmp 10,.tmp 12],(some (6,true))⟩,⟨some 14,
 .un .not (.tmp 13),(some (6,true))⟩,yoo 15 (.pick (.tmp 6) (.tmp 14) (.const (.bool false)))]) (.cond (.tmp 15) (.ops [yoj 16 0,yoo 17 (.call wk [.tmp 16])]) .skip))⟩
def b9:y4:=⟨8,[.tmp 2],(.seq (.ops [yoo 2 (.mv (.const (.pointer none)))]) (.seq (.ops [yoj 3 0,yoj 4 0,yoo 5 (.func jy [.tmp 4] []),⟨some 6,.mkRow [(.string ⟨#[]⟩)] 1 [(0,1,(.const (.string ⟨#[124]⟩)))],none⟩,
 yoo 7 (.call vr [.tmp 3,.tmp 5,.tmp 6]),yoj 2 7]) .ret))⟩
def za1:y4:=⟨21,[],(.seq (.ops [yoj 2 0,yol 3 2,yom 4 0 3,yon 5 4,yoo 6 (.call qz [.tmp 5]),yoo 7 (.bin .eql (.tmp 6) (.const (.int .i64 0)))]) (.cond (.tmp 7) (.ops [yoj 8 0,yoj 9 0,yol 10 9,yom 11 2 10,yon 12 11,
 yoo 13 (.call yw [.tmp 8,(.const (.int .i64 24)),.tmp 12])]) (.ops [yoj 14 0,yoj 15 0,yol 16 15,yom 17 0 16,yon 18 17,yoo 19 (.call pi [.tmp 18]),yoo 20 (.call yw [.tmp 14,(.const (.int .i64 22)),.tmp 19])])))⟩
def qv:y4:=⟨54,[],(.seq (.ops [yoo 4 (.box 3 (.tmp 1))]) (.seq (.seq (.ops [yoj 9 0,yol 10 9,yom 11 1 10,yon 12 11,yom 13 0 4,yon 14 13,yoo 15 (.lookup .str (.bool false) (.tmp 12) (.tmp 14) true),yoj 8 15,
 yoo 16 (.extract (.tmp 8) 0),yoo 17 (.extract (.tmp 8) 1),yoj 6 16,yoj 7 17]) (.seq (.ops [yoj 18 7,yoj 19 18,⟨some 20,.mv (.tmp 2),(some (19,false))⟩,⟨some 21,.off 0 (.tmp 4),(some (19,false))⟩,⟨some 22,
 .load1 (.tmp 21),(some (19,false))⟩,⟨some 23,.lookup .str (.bool false) (.tmp 20) (.tmp 22) false,(some (19,false))⟩,yoo 24 (.pick (.tmp 19) (.const (.bool true)) (.tmp 23))]) (.cond (.tmp 24) (.ops [yoj 25 0,yol 26 25,
 yom 27 0 26,yon 28 27,yom 29 1 4,yon 30 29,yoo 31 (.call yw [.tmp 28,(.const (.int .i64 42)),.tmp 30])]) .skip))) (.seq (.seq (.ops [yoj 32 0,yol 33 32,yom 34 3 33,yon 35 34,
 yoo 36 (.bin .geq (.tmp 35) (.const (.int .i64 64)))]) (.cond (.tmp 36) (.ops [yoj 37 0,yol 38 37,yom 39 0 38,yon 40 39,yom 41 1 4,yon 42 41,yoo 43 (.call yw [.tmp 40,(.const (.int .i64 2)),
 .tmp 42])]) .skip)) (.seq (.ops [yoj 44 0,yol 45 44,yom 46 3 45,yon 47 46,yoo 48 (.bin .add (.tmp 47) (.const (.int .i64 1))),yol 49 44,yom 50 3 49,yop 50 48]) (.ops [yoj 51 2,yom 52 0 4,yon 53 52,⟨none,
 .update .str (.tmp 51) (.tmp 53) (.const (.bool true)),none⟩])))))⟩
def zp:y4:=⟨189,[],(.seq (.ops [yoo 3 (.box 1 (.tmp 0))]) (.seq (.seq (.ops [yoj 9 1,yoo 10 (.eqv false .ptr (.tmp 9) (.const (.pointer none))),yoj 11 10,⟨some 12,.load1 (.tmp 3),(some (11,false))⟩,⟨some 13,
 .nilCheck (.tmp 12),(some (11,false))⟩,⟨some 14,.off 0 (.tmp 13),(some (11,false))⟩,⟨some 15,.load1 (.tmp 14),(some (11,false))⟩,⟨some 16,.call yq [.tmp 15],(some (11,false))⟩,⟨some 17,.un .not (.tmp 16),(some (11,
 false))⟩,yoo 18 (.pick (.tmp 11) (.const (.bool true)) (.tmp 17))]) (.cond (.tmp 18) .ret .skip)) (.seq (.ops [yon 19 3,yoj 20 1,yol 21 20,yom 22 3 21,yon 23 22,yoj 24 2,yoo 25 (.call yh [.tmp 19,.tmp 23,
 .tmp 24])]) (.seq (.ops [yon 26 3,yoj 27 1,yol 28 27,yom 29 4 28,yon 30 29,yoj 31 2,yoj 32 31,⟨some 33,.mv (.tmp 1),(some (32,false))⟩,⟨some 34,.nilCheck (.tmp 33),(some (32,false))⟩,⟨some 35,.off 0 (.tmp 34),(some (32,
 false))⟩,⟨some 36,.load1 (.tmp 35),(some (32,false))⟩,⟨some 37,.bin .eql (.tmp 36) (.const (.string ⟨#[92]⟩)),(some (32,false))⟩,yoo 38 (.pick (.tmp 32) (.const (.bool true)) (.tmp 37)),yoo 39 (.call yh [.tmp 26,.tmp 30,
 .tmp 38])]) (.seq (.seq (.ops [yon 40 3,yol 41 40,yom 42 0 41,yon 43 42,yoo 44 (.call yq [.tmp 43]),yoo 45 (.un .not (.tmp 44))]) (.cond (.tmp 45) .ret .skip)) (.seq (.ops [yoo 46 (.func y3 [] [.tmp 3]),
 yoj 6 46]) (.seq (.ops [yoj 47 1,yol 48 47,yom 49 0 48,yon 50 49]) (.block 0 (.seq (.ops [⟨some 52,.bin .eql (.tmp 50) (.const (.string ⟨#[110,97,109,101]⟩)),none⟩,yoj 51 52]) (.cond (.tmp 51) (.seq (.ops [yon 54 3,
 yol 55 54,yom 56 1 55,yon 57 56,yoj 58 1,yol 59 58,yom 60 1 59,yon 61 60,yoo 62 (.lookup .str (.bool false) (.tmp 57) (.tmp 61) true),yoj 53 62,yoo 63 (.extract (.tmp 53) 0),yoo 64 (.extract (.tmp 53) 1),yoj 7 63,
 yoj 8 64]) (.seq (.block 1 (.seq (.ops [yoj 66 8,yoo 67 (.un .not (.tmp 66)),yoj 65 67]) (.cond (.tmp 65) (.ops [yon 68 3,yol 69 68,yom 70 0 69,yon 71 70,yoj 72 1,yol 73 72,yom 74 2 73,yon 75 74,
 yoo 76 (.call yw [.tmp 71,(.const (.int .i64 40)),.tmp 75])]) (.seq (.ops [yoj 78 2,yoj 79 78,⟨some 80,.load1 (.tmp 3),(some (79,true))⟩,⟨some 81,.nilCheck (.tmp 80),(some (79,true))⟩,⟨some 82,.off 2 (.tmp 81),(some (79,
 true))⟩,⟨some 83,.load1 (.tmp 82),(some (79,true))⟩,⟨some 84,.mv (.tmp 1),(some (79,true))⟩,⟨some 85,.nilCheck (.tmp 84),(some (79,true))⟩,⟨some 86,.off 1 (.tmp 85),(some (79,true))⟩,⟨some 87,.load1 (.tmp 86),(some (79,
 true))⟩,⟨some 88,.lookup .str (.bool false) (.tmp 83) (.tmp 87) false,(some (79,true))⟩,yoo 89 (.pick (.tmp 79) (.tmp 88) (.const (.bool false))),yoj 77 89]) (.cond (.tmp 77) (.ops [yon 90 3,yol 91 90,yom 92 0 91,
 yon 93 92,yoj 94 1,yol 95 94,yom 96 2 95,yon 97 96,yoo 98 (.call yw [.tmp 93,(.const (.int .i64 43)),.tmp 97])]) .skip))))) (.ops [yoj 99 1,yoj 100 7,yol 101 99,yom 102 5 101,yop 102 100]))) (.seq (.seq (.ops [⟨some 104,
 .bin .eql (.tmp 50) (.const (.string ⟨#[124]⟩)),none⟩,yoj 103 104]) (.cond (.tmp 103) .skip (.seq (.ops [⟨some 105,.bin .eql (.tmp 50) (.const (.string ⟨#[38]⟩)),none⟩,
 yoj 103 105]) (.cond (.tmp 103) .skip (.ops [⟨some 106,.bin .eql (.tmp 50) (.const (.string ⟨#[92]⟩)),none⟩,yoj 103 106]))))) (.cond (.tmp 103) (.seq (.ops [yoj 107 6,yoj 108 1,yol 109 108,yom 110 4 109,yon 111 110,
 yoj 112 1,yol 113 112,yom 114 3 113,yon 115 114,yol 116 115,yom 117 5 116,yon 118 117,yoo 119 (.callv (.tmp 107) [.tmp 111,.tmp 118])]) (.ops [yoj 120 1,yoj 121 1,yol 122 121,yom 123 3 122,yon 124 123,yol 125 124,
 yom 126 5 125,yon 127 126,yol 128 120,yom 129 5 128,yop 129 127])) (.seq (.ops [⟨some 131,.bin .eql (.tmp 50) (.const (.string ⟨#[59]⟩)),none⟩,yoj 130 131]) (.cond (.tmp 130) (.seq (.ops [yoj 132 6,yoj 133 1,yol 134 133,
 yom 135 3 134,yon 136 135,yoo 137 (.callv (.tmp 132) [.tmp 136,(.const (.bool false))])]) (.ops [yoj 138 6,yoj 139 1,yol 140 139,yom 141 4 140,yon 142 141,yoo 143 (.callv (.tmp 138) [.tmp 142,
 (.const (.bool false))])])) (.seq (.ops [⟨some 145,.bin .eql (.tmp 50) (.const (.string ⟨#[120]⟩)),none⟩,yoj 144 145]) (.cond (.tmp 144) (.seq (.ops [yoj 146 6,yoj 147 1,yol 148 147,yom 149 3 148,yon 150 149,
 yoo 151 (.callv (.tmp 146) [.tmp 150,(.const (.bool true))])]) (.ops [yoj 152 6,yoj 153 1,yol 154 153,yom 155 4 154,yon 156 155,yoo 157 (.callv (.tmp 152) [.tmp 156,(.const (.bool true))])])) (.seq (.ops [⟨some 159,
 .bin .eql (.tmp 50) (.const (.string ⟨#[91]⟩)),none⟩,yoj 158 159]) (.cond (.tmp 158) (.ops [yoj 160 6,yoj 161 1,yol 162 161,yom 163 3 162,yon 164 163,yoo 165 (.callv (.tmp 160) [.tmp 164,
 (.const (.bool true))])]) (.seq (.ops [⟨some 167,.bin .eql (.tmp 50) (.const (.string ⟨#[40]⟩)),none⟩,yoj 166 167]) (.cond (.tmp 166) (.ops [yoj 168 1,yoj 169 1,yol 170 169,yom 171 3 170,yon 172 171,yol 173 172,
 yom 174 5 173,yon 175 174,yol 176 168,yom 177 5 176,yop 177 175]) (.seq (.seq (.ops [⟨some 179,.bin .eql (.tmp 50) (.const (.string ⟨#[43]⟩)),none⟩,yoj 178 179]) (.cond (.tmp 178) .skip (.seq (.ops [⟨some 180,
 .bin .eql (.tmp 50) (.const (.string ⟨#[42]⟩)),none⟩,yoj 178 180]) (.cond (.tmp 178) .skip (.seq (.ops [⟨some 181,.bin .eql (.tmp 50) (.const (.string ⟨#[63]⟩)),none⟩,
 yoj 178 181]) (.cond (.tmp 178) .skip (.ops [⟨some 182,.bin .eql (.tmp 50) (.const (.string ⟨#[94]⟩)),none⟩,yoj 178 182]))))))) (.cond (.tmp 178) (.ops [yoj 183 6,yoj 184 1,yol 185 184,yom 186 3 185,yon 187 186,
 yoo 188 (.callv (.tmp 183) [.tmp 187,(.const (.bool false))])]) .skip))))))))))))))))))))))⟩
def zcm:y4:=⟨19,[],(.seq (.ops [yoj 6 0,yol 7 6,yom 8 4 7,yon 9 8,yoo 10 (.bin .eql (.tmp 9) (.const (.int .i64 0)))]) (.cond (.tmp 10) (.ops [yoj 11 0,yoj 12 0,yoj 13 1,yoj 14 2,yol 15 11,yom 16 4 15,yop 16 13,
 yol 17 12,yom 18 5 17,yop 18 14]) .skip))⟩
def zec:y4:=⟨80,[.tmp 4,.tmp 5],(.seq (.ops [yoo 4 (.mv (.const (.int .i64 0))),yoo 5 (.mv (.const (.int .i64 0)))]) (.seq (.block 0 (.loop (.seq (.seq (.ops [yoj 7 1,yoj 8 0,yoo 9 (.lenStr (.tmp 8)),
 yoo 10 (.bin .lss (.tmp 7) (.tmp 9))]) (.cond (.tmp 10) .skip (.exit 0))) (.block 1 (.seq (.seq (.ops [yoj 11 0,yoj 12 1,yoo 13 (.idxStr (.tmp 11) (.tmp 12)),yoo 14 (.bin .eql (.tmp 13) (.const (.int .u8 32))),yoj 15 14,
 ⟨some 16,.mv (.tmp 0),(some (15,false))⟩,⟨some 17,.mv (.tmp 1),(some (15,false))⟩,⟨some 18,.idxStr (.tmp 16) (.tmp 17),(some (15,false))⟩,⟨some 19,.bin .eql (.tmp 18) (.const (.int .u8 9)),(some (15,false))⟩,
 yoo 20 (.pick (.tmp 15) (.const (.bool true)) (.tmp 19)),yoj 21 20,⟨some 22,.mv (.tmp 0),(some (21,false))⟩,⟨some 23,.mv (.tmp 1),(some (21,false))⟩,⟨some 24,.idxStr (.tmp 22) (.tmp 23),(some (21,false))⟩,⟨some 25,
 .bin .eql (.tmp 24) (.const (.int .u8 10)),(some (21,false))⟩,yoo 26 (.pick (.tmp 21) (.const (.bool true)) (.tmp 25))]) (.cond (.tmp 26) (.seq (.ops [yoj 27 1,yoo 28 (.bin .add (.tmp 27) (.const (.int .i64 1))),
 yoj 1 28]) (.exit 1)) .skip)) (.seq (.seq (.ops [yoj 29 0,yoj 30 1,yoo 31 (.idxStr (.tmp 29) (.tmp 30)),yoo 32 (.bin .neq (.tmp 31) (.const (.int .u8 40))),yoj 33 32,⟨some 34,.mv (.tmp 1),(some (33,false))⟩,⟨some 35,
 .bin .add (.tmp 34) (.const (.int .i64 1)),(some (33,false))⟩,⟨some 36,.mv (.tmp 0),(some (33,false))⟩,⟨some 37,.lenStr (.tmp 36),(some (33,false))⟩,⟨some 38,.bin .geq (.tmp 35) (.tmp 37),(some (33,false))⟩,
 yoo 39 (.pick (.tmp 33) (.const (.bool true)) (.tmp 38)),yoj 40 39,⟨some 41,.mv (.tmp 0),(some (40,false))⟩,⟨some 42,.mv (.tmp 1),(some (40,false))⟩,⟨some 43,.bin .add (.tmp 42) (.const (.int .i64 1)),(some (40,false))⟩,
 ⟨some 44,.idxStr (.tmp 41) (.tmp 43),(some (40,false))⟩,⟨some 45,.bin .neq (.tmp 44) (.const (.int .u8 42)),(some (40,false))⟩,
 yoo 46 (.pick (.tmp 40) (.const (.bool true)) (.tmp 45))]) (.cond (.tmp 46) (.seq (.ops [yoj 47 1,yoj 4 47,yoo 5 (.mv (.const (.int .i64 0)))]) .ret) .skip)) (.seq (.ops [yoj 48 1,
 yoo 49 (.bin .add (.tmp 48) (.const (.int .i64 2))),yoj 6 49]) (.seq (.block 2 (.loop (.seq (.seq (.ops [yoj 50 6,yoo 51 (.bin .add (.tmp 50) (.const (.int .i64 1))),yoj 52 0,yoo 53 (.lenStr (.tmp 52)),
 yoo 54 (.bin .lss (.tmp 51) (.tmp 53)),yoj 55 54,⟨some 56,.mv (.tmp 0),(some (55,true))⟩,⟨some 57,.mv (.tmp 6),(some (55,true))⟩,⟨some 58,.idxStr (.tmp 56) (.tmp 57),(some (55,true))⟩,⟨some 59,
 .bin .eql (.tmp 58) (.const (.int .u8 42)),(some (55,true))⟩,⟨some 60,.mv (.tmp 59),(some (55,true))⟩,⟨some 61,.mv (.tmp 0),(some (60,true))⟩,⟨some 62,.mv (.tmp 6),(some (60,true))⟩,⟨some 63,
 .bin .add (.tmp 62) (.const (.int .i64 1)),(some (60,true))⟩,⟨some 64,.idxStr (.tmp 61) (.tmp 63),(some (60,true))⟩,⟨some 65,.bin .eql (.tmp 64) (.const (.int .u8 41)),(some (60,true))⟩,⟨some 66,
 .pick (.tmp 60) (.tmp 65) (.const (.bool false)),(some (55,true))⟩,⟨some 67,.un .not (.tmp 66),(some (55,true))⟩,
 yoo 68 (.pick (.tmp 55) (.tmp 67) (.const (.bool false)))]) (.cond (.tmp 68) .skip (.exit 2))) (.block 3 (.ops [yoj 69 6,yoo 70 (.bin .add (.tmp 69) (.const (.int .i64 1))),yoj 6 70]))))) (.seq (.seq (.ops [yoj 71 6,
 yoo 72 (.bin .add (.tmp 71) (.const (.int .i64 1))),yoj 73 0,yoo 74 (.lenStr (.tmp 73)),yoo 75 (.bin .geq (.tmp 72) (.tmp 74))]) (.cond (.tmp 75) (.seq (.ops [yoj 76 1,yoj 4 76,
 yoo 5 (.mv (.const (.int .i64 24)))]) .ret) .skip)) (.ops [yoj 77 6,yoo 78 (.bin .add (.tmp 77) (.const (.int .i64 2))),yoj 1 78])))))))))) (.seq (.ops [yoj 79 1,yoj 4 79,yoo 5 (.mv (.const (.int .i64 0)))]) .ret)))⟩
def zd2:y4:=⟨9,[.tmp 2],(.seq (.ops [yoo 2 (.mv (.const (.bool false)))]) (.seq (.ops [yoj 3 0,yoo 4 (.bin .geq (.tmp 3) (.const (.int .u8 48))),yoj 5 4,⟨some 6,.mv (.tmp 0),(some (5,true))⟩,⟨some 7,
 .bin .leq (.tmp 6) (.const (.int .u8 57)),(some (5,true))⟩,yoo 8 (.pick (.tmp 5) (.tmp 7) (.const (.bool false))),yoj 2 8]) .ret))⟩
def zfu:y4:=⟨41,[.tmp 6],(.seq (.ops [yoo 6 (.mv (.const (.int .i64 0)))]) (.seq (.block 0 (.loop (.seq (.seq (.ops [yoj 7 1,yoj 8 0,yoo 9 (.lenStr (.tmp 8)),yoo 10 (.bin .lss (.tmp 7) (.tmp 9)),yoj 11 10,⟨some 12,
 .mv (.tmp 0),(some (11,true))⟩,⟨some 13,.mv (.tmp 1),(some (11,true))⟩,⟨some 14,.idxStr (.tmp 12) (.tmp 13),(some (11,true))⟩,⟨some 15,.call f8 [.tmp 14],(some (11,true))⟩,⟨some 16,.mv (.tmp 15),(some (11,true))⟩,
 ⟨some 17,.mv (.tmp 0),(some (16,false))⟩,⟨some 18,.mv (.tmp 1),(some (16,false))⟩,⟨some 19,.idxStr (.tmp 17) (.tmp 18),(some (16,false))⟩,⟨some 20,.call gn [.tmp 19],(some (16,false))⟩,⟨some 21,
 .pick (.tmp 16) (.const (.bool true)) (.tmp 20),(some (11,true))⟩,⟨some 22,.mv (.tmp 21),(some (11,true))⟩,⟨some 23,.mv (.tmp 2),(some (22,false))⟩,⟨some 24,.mv (.tmp 23),(some (22,false))⟩,⟨some 25,.mv (.tmp 0),
 (some (24,true))⟩,⟨some 26,.mv (.tmp 1),(some (24,true))⟩,⟨some 27,.idxStr (.tmp 25) (.tmp 26),(some (24,true))⟩,⟨some 28,.bin .eql (.tmp 27) (.const (.int .u8 95)),(some (24,true))⟩,⟨some 29,.mv (.tmp 28),(some (24,
 true))⟩,⟨some 30,.mv (.tmp 0),(some (29,false))⟩,⟨some 31,.mv (.tmp 1),(some (29,false))⟩,⟨some 32,.idxStr (.tmp 30) (.tmp 31),(some (29,false))⟩,⟨some 33,.bin .eql (.tmp 32) (.const (.int .u8 46)),(some (29,false))⟩,
 ⟨some 34,.pick (.tmp 29) (.const (.bool true)) (.tmp 33),(some (24,true))⟩,⟨some 35,.pick (.tmp 24) (.tmp 34) (.const (.bool false)),(some (22,false))⟩,⟨some 36,.pick (.tmp 22) (.const (.bool true)) (.tmp 35),(some (11,
 true))⟩,yoo 37 (.pick (.tmp 11) (.tmp 36) (.const (.bool false)))]) (.cond (.tmp 37) .skip (.exit 0))) (.block 1 (.ops [yoj 38 1,yoo 39 (.bin .add (.tmp 38) (.const (.int .i64 1))),yoj 1 39]))))) (.seq (.ops [yoj 40 1,
 yoj 6 40]) .ret)))⟩
def w8:y4:=⟨69,[.tmp 2,.tmp 3],(.seq (.ops [yoo 2 (.mv (.const (.int .i64 0))),
 yoo 3 (.mv (.const (.bool false)))]) (.seq (.ops [yoo 4 (.mv (.const (.int .i64 10)))]) (.seq (.ops [yoo 5 (.mv (.const (.int .i64 19)))]) (.seq (.seq (.ops [yoj 9 0,yoo 10 (.lenStr (.tmp 9)),
 yoo 11 (.bin .gtr (.tmp 10) (.const (.int .i64 2))),yoj 12 11,⟨some 13,.mv (.tmp 0),(some (12,true))⟩,⟨some 14,.idxStr (.tmp 13) (.const (.int .i64 0)),(some (12,true))⟩,⟨some 15,
 .bin .eql (.tmp 14) (.const (.int .u8 48)),(some (12,true))⟩,yoo 16 (.pick (.tmp 12) (.tmp 15) (.const (.bool false))),yoj 17 16,⟨some 18,.mv (.tmp 0),(some (17,true))⟩,⟨some 19,.idxStr (.tmp 18) (.const (.int .i64 1)),
 (some (17,true))⟩,⟨some 20,.bin .eql (.tmp 19) (.const (.int .u8 120)),(some (17,true))⟩,
 yoo 21 (.pick (.tmp 17) (.tmp 20) (.const (.bool false)))]) (.cond (.tmp 21) (.seq (.ops [yoo 4 (.mv (.const (.int .i64 16)))]) (.seq (.ops [yoo 5 (.mv (.const (.int .i64 16)))]) (.ops [yoj 22 0,
 yoo 23 (.sliceStr (.tmp 22) (some (.const (.int .i64 2))) none),yoj 0 23]))) .skip)) (.seq (.seq (.ops [yoj 24 0,yoo 25 (.lenStr (.tmp 24)),yoo 26 (.bin .lss (.tmp 25) (.const (.int .i64 1))),yoj 27 26,⟨some 28,
 .mv (.tmp 0),(some (27,false))⟩,⟨some 29,.lenStr (.tmp 28),(some (27,false))⟩,⟨some 30,.mv (.tmp 5),(some (27,false))⟩,⟨some 31,.bin .gtr (.tmp 29) (.tmp 30),(some (27,false))⟩,
 yoo 32 (.pick (.tmp 27) (.const (.bool true)) (.tmp 31))]) (.cond (.tmp 32) (.seq (.ops [yoo 2 (.mv (.const (.int .i64 0))),
 yoo 3 (.mv (.const (.bool false)))]) .ret) .skip)) (.seq (.ops [yoo 6 (.mv (.const (.int .u64 0)))]) (.seq (.seq (.ops [yoo 7 (.mv (.const (.int .i64 0)))]) (.block 0 (.loop (.seq (.seq (.ops [yoj 33 7,yoj 34 0,
 yoo 35 (.lenStr (.tmp 34)),yoo 36 (.bin .lss (.tmp 33) (.tmp 35))]) (.cond (.tmp 36) .skip (.exit 0))) (.seq (.block 1 (.seq (.ops [yoj 39 0,yoj 40 7,yoo 41 (.idxStr (.tmp 39) (.tmp 40)),yoo 42 (.call zcl [.tmp 41]),
 yoj 8 42]) (.seq (.seq (.ops [yoj 43 8,yoo 44 (.bin .lss (.tmp 43) (.const (.int .i64 0))),yoj 45 44,⟨some 46,.mv (.tmp 8),(some (45,false))⟩,⟨some 47,.mv (.tmp 4),(some (45,false))⟩,⟨some 48,
 .bin .geq (.tmp 46) (.tmp 47),(some (45,false))⟩,yoo 49 (.pick (.tmp 45) (.const (.bool true)) (.tmp 48)),yoj 50 49,⟨some 51,.mv (.tmp 6),(some (50,false))⟩,⟨some 52,.mv (.tmp 8),(some (50,false))⟩,⟨some 53,
 .conv .u64 (.tmp 52),(some (50,false))⟩,⟨some 54,.bin .sub (.const (.int .u64 9223372036854775808)) (.tmp 53),(some (50,false))⟩,⟨some 55,.mv (.tmp 4),(some (50,false))⟩,⟨some 56,.conv .u64 (.tmp 55),(some (50,false))⟩,
 ⟨some 57,.bin .quo (.tmp 54) (.tmp 56),(some (50,false))⟩,⟨some 58,.bin .gtr (.tmp 51) (.tmp 57),(some (50,false))⟩,
 yoo 59 (.pick (.tmp 50) (.const (.bool true)) (.tmp 58))]) (.cond (.tmp 59) (.seq (.ops [yoo 2 (.mv (.const (.int .i64 0))),yoo 3 (.mv (.const (.bool false)))]) .ret) .skip)) (.ops [yoj 60 6,yoj 61 4,
 yoo 62 (.conv .u64 (.tmp 61)),yoo 63 (.bin .mul (.tmp 60) (.tmp 62)),yoj 64 8,yoo 65 (.conv .u64 (.tmp 64)),yoo 66 (.bin .add (.tmp 63) (.tmp 65)),yoj 6 66])))) (.ops [yoj 37 7,
 yoo 38 (.bin .add (.tmp 37) (.const (.int .i64 1))),yoj 7 38])))))) (.seq (.ops [yoj 67 6,yoo 68 (.conv .i64 (.tmp 67)),yoj 2 68,yoo 3 (.mv (.const (.bool true)))]) .ret))))))))⟩
def zc6:y4:=⟨17,[.tmp 2],(.seq (.ops [yoo 2 (.mv (.const (.bool false)))]) (.seq (.ops [yoj 3 0,yoo 4 (.bin .geq (.tmp 3) (.const (.int .u8 97))),yoj 5 4,⟨some 6,.mv (.tmp 0),(some (5,true))⟩,⟨some 7,
 .bin .leq (.tmp 6) (.const (.int .u8 122)),(some (5,true))⟩,yoo 8 (.pick (.tmp 5) (.tmp 7) (.const (.bool false))),yoj 9 8,⟨some 10,.mv (.tmp 0),(some (9,false))⟩,⟨some 11,.bin .geq (.tmp 10) (.const (.int .u8 65)),
 (some (9,false))⟩,⟨some 12,.mv (.tmp 11),(some (9,false))⟩,⟨some 13,.mv (.tmp 0),(some (12,true))⟩,⟨some 14,.bin .leq (.tmp 13) (.const (.int .u8 90)),(some (12,true))⟩,⟨some 15,
 .pick (.tmp 12) (.tmp 14) (.const (.bool false)),(some (9,false))⟩,yoo 16 (.pick (.tmp 9) (.const (.bool true)) (.tmp 15)),yoj 2 16]) .ret))⟩
def zes:y4:=⟨12,[.tmp 2],(.seq (.ops [yoo 2 (.mv (.const (.bool false)))]) (.seq (.seq (.ops [yoo 3 (.mv (.const (.int .i64 0)))]) (.block 0 (.loop (.seq (.seq (.ops [yoj 4 3,
 yoo 5 (.bin .lss (.tmp 4) (.const (.int .i64 22)))]) (.cond (.tmp 5) .skip (.exit 0))) (.seq (.block 1 (.seq (.ops [yoj 8 3,⟨some 9,.idxStr (.const (.string ⟨#[123,125,40,41,91,93,59,124,44,58,61,43,45,35,36,126,42,47,
 92,38,63,94]⟩)) (.tmp 8),none⟩,yoj 10 0,yoo 11 (.bin .eql (.tmp 9) (.tmp 10))]) (.cond (.tmp 11) (.seq (.ops [yoo 2 (.mv (.const (.bool true)))]) .ret) .skip))) (.ops [yoj 6 3,
 yoo 7 (.bin .add (.tmp 6) (.const (.int .i64 1))),yoj 3 7])))))) (.seq (.ops [yoo 2 (.mv (.const (.bool false)))]) .ret)))⟩
def gu:y4:=⟨18,[.tmp 4],(.seq (.ops [yoo 4 (.mv (.const (.bool false)))]) (.seq (.ops [yoj 5 0,yol 6 5,yom 7 1 6,yon 8 7,yoo 9 (.bin .eql (.tmp 8) (.const (.int .i64 0))),yoj 10 9,⟨some 11,.mv (.tmp 0),(some (10,true))⟩,
 ⟨some 12,.nilCheck (.tmp 11),(some (10,true))⟩,⟨some 13,.off 0 (.tmp 12),(some (10,true))⟩,⟨some 14,.load1 (.tmp 13),(some (10,true))⟩,⟨some 15,.mv (.tmp 1),(some (10,true))⟩,⟨some 16,.call v8 [.tmp 14,.tmp 15],
 (some (10,true))⟩,yoo 17 (.pick (.tmp 10) (.tmp 16) (.const (.bool false))),yoj 4 17]) .ret))⟩
def vp:y4:=⟨42,[.tmp 2,.tmp 3],(.seq (.ops [⟨some 2,.mv (.const (.string ⟨#[]⟩)),none⟩,yoo 3 (.mv (.const (.int .i64 0)))]) (.seq (.ops [yoj 7 0,yol 8 7,yom 9 0 8,yon 10 9,yoo 11 (.call xf [.tmp 10]),yoj 6 11,
 yoo 12 (.extract (.tmp 6) 0),yoo 13 (.extract (.tmp 6) 1),⟨some 4,.alloc [(.int .i64 0),(.string ⟨#[]⟩),(.int .i64 0),(.int .i64 0)],none⟩,⟨none,.store 4 (.tmp 4) (.tmp 12),none⟩,yoj 5 13]) (.seq (.seq (.ops [yoj 14 0,
 yol 15 14,yom 16 1 15,yon 17 16,yoo 18 (.bin .neq (.tmp 17) (.const (.int .i64 0)))]) (.cond (.tmp 18) (.seq (.ops [⟨some 2,.mv (.const (.string ⟨#[]⟩)),none⟩,
 yoo 3 (.mv (.const (.int .i64 0)))]) .ret) .skip)) (.seq (.seq (.ops [yoj 19 5,yoo 20 (.un .not (.tmp 19)),yoj 21 20,⟨some 22,.off 0 (.tmp 4),(some (21,false))⟩,⟨some 23,.load1 (.tmp 22),(some (21,false))⟩,⟨some 24,
 .bin .neq (.tmp 23) (.const (.int .i64 1)),(some (21,false))⟩,yoo 25 (.pick (.tmp 21) (.const (.bool true)) (.tmp 24)),yoj 26 25,⟨some 27,.off 1 (.tmp 4),(some (26,false))⟩,⟨some 28,.load1 (.tmp 27),(some (26,false))⟩,
 ⟨some 29,.call jp [.tmp 28],(some (26,false))⟩,yoo 30 (.pick (.tmp 26) (.const (.bool true)) (.tmp 29))]) (.cond (.tmp 30) (.seq (.ops [yoj 31 0,yoo 32 (.call y6 [.tmp 31])]) (.seq (.ops [⟨some 2,
 .mv (.const (.string ⟨#[]⟩)),none⟩,yoo 3 (.mv (.const (.int .i64 0)))]) .ret)) .skip)) (.seq (.ops [yoj 33 0,yol 34 33,yom 35 0 34,yon 36 35,yoo 37 (.call yi [.tmp 36])]) (.seq (.ops [yom 38 1 4,yon 39 38,yom 40 3 4,
 yon 41 40,yoj 2 39,yoj 3 41]) .ret))))))⟩
def jm:y4:=⟨20,[],(.seq (.ops [yoj 4 0,yol 5 4,yom 6 1 5,yon 7 6,yoo 8 (.bin .eql (.tmp 7) (.const (.int .i64 0))),yoj 9 8,⟨some 10,.mv (.tmp 0),(some (9,true))⟩,⟨some 11,.nilCheck (.tmp 10),(some (9,true))⟩,⟨some 12,
 .off 0 (.tmp 11),(some (9,true))⟩,⟨some 13,.load1 (.tmp 12),(some (9,true))⟩,⟨some 14,.mv (.tmp 1),(some (9,true))⟩,⟨some 15,.call v8 [.tmp 13,.tmp 14],(some (9,true))⟩,⟨some 16,.un .not (.tmp 15),(some (9,true))⟩,
 yoo 17 (.pick (.tmp 9) (.tmp 16) (.const (.bool false)))]) (.cond (.tmp 17) (.ops [yoj 18 0,yoo 19 (.call y6 [.tmp 18])]) .skip))⟩
def gw:y4:=⟨13,[.tmp 2],(.seq (.ops [yoo 2 (.mv (.const (.pointer none)))]) (.seq (.ops [yoj 4 0,yoo 5 (.call wh [.tmp 4]),yoj 3 5]) (.seq (.block 0 (.loop (.seq (.seq (.ops [yoj 6 0,⟨some 7,.call z8 [.tmp 6,
 (.const (.string ⟨#[124]⟩))],none⟩]) (.cond (.tmp 7) .skip (.exit 0))) (.block 1 (.ops [yoj 8 3,yoj 9 0,yoo 10 (.call wh [.tmp 9]),yoo 11 (.call xg [(.const (.int .i64 3)),.tmp 8,.tmp 10]),
 yoj 3 11]))))) (.seq (.ops [yoj 12 3,yoj 2 12]) .ret))))⟩
def jh:y4:=⟨22,[.tmp 2],(.seq (.ops [⟨some 2,.mv (.const (.string ⟨#[]⟩)),none⟩]) (.seq (.ops [yoj 6 0,yol 7 6,yom 8 0 7,yon 9 8,yoo 10 (.call xf [.tmp 9]),yoj 5 10,yoo 11 (.extract (.tmp 5) 0),
 yoo 12 (.extract (.tmp 5) 1),⟨some 3,.alloc [(.int .i64 0),(.string ⟨#[]⟩),(.int .i64 0),(.int .i64 0)],none⟩,⟨none,.store 4 (.tmp 3) (.tmp 11),none⟩,yoj 4 12]) (.seq (.seq (.ops [yoj 13 4,yoo 14 (.un .not (.tmp 13)),
 yoj 15 14,⟨some 16,.off 0 (.tmp 3),(some (15,false))⟩,⟨some 17,.load1 (.tmp 16),(some (15,false))⟩,⟨some 18,.bin .eql (.tmp 17) (.const (.int .i64 2)),(some (15,false))⟩,
 yoo 19 (.pick (.tmp 15) (.const (.bool true)) (.tmp 18))]) (.cond (.tmp 19) (.seq (.ops [⟨some 2,.mv (.const (.string ⟨#[]⟩)),none⟩]) .ret) .skip)) (.seq (.ops [yom 20 1 3,yon 21 20,yoj 2 21]) .ret))))⟩
def fv:y4:=⟨21,[.cells 2 4,.tmp 3],(.seq (.ops [⟨some 2,.alloc [(.int .i64 0),(.string ⟨#[]⟩),(.int .i64 0),(.int .i64 0)],none⟩,yoo 3 (.mv (.const (.bool false)))]) (.seq (.ops [yoj 7 0,yoo 8 (.call xf [.tmp 7]),
 yoj 6 8,yoo 9 (.extract (.tmp 6) 0),yoo 10 (.extract (.tmp 6) 1),⟨some 4,.alloc [(.int .i64 0),(.string ⟨#[]⟩),(.int .i64 0),(.int .i64 0)],none⟩,⟨none,.store 4 (.tmp 4) (.tmp 9),none⟩,
 yoj 5 10]) (.seq (.seq (.ops [yoj 11 5]) (.cond (.tmp 11) (.ops [yoj 12 0,yol 13 12,yom 14 1 13,yon 15 14,yoo 16 (.bin .add (.tmp 15) (.const (.int .i64 1))),yol 17 12,yom 18 1 17,
 yop 18 16]) .skip)) (.seq (.ops [yoo 19 (.load 4 (.tmp 4)),yoj 20 5,⟨none,.store 4 (.tmp 2) (.tmp 19),none⟩,yoj 3 20]) .ret))))⟩
def fx:y4:=⟨24,[],(.seq (.ops [yoj 5 0,yol 6 5,yom 7 0 6,yon 8 7,yoo 9 (.call xf [.tmp 8]),yoj 4 9,yoo 10 (.extract (.tmp 4) 0),yoo 11 (.extract (.tmp 4) 1),⟨some 2,.alloc [(.int .i64 0),(.string ⟨#[]⟩),(.int .i64 0),
 (.int .i64 0)],none⟩,⟨none,.store 4 (.tmp 2) (.tmp 10),none⟩,yoj 3 11]) (.seq (.seq (.ops [yoj 12 3,yoo 13 (.un .not (.tmp 12))]) (.cond (.tmp 13) (.seq (.ops [yoj 14 0,yoj 15 0,yol 16 15,yom 17 3 16,yon 18 17,
 yoo 19 (.call we [.tmp 14,(.const (.int .i64 24)),.tmp 18])]) .ret) .skip)) (.ops [yoj 20 0,yom 21 3 2,yon 22 21,yoo 23 (.call we [.tmp 20,(.const (.int .i64 22)),.tmp 22])])))⟩
def j3:y4:=⟨19,[.tmp 4],(.seq (.ops [yoo 4 (.mv (.const (.int .i64 0)))]) (.seq (.seq (.ops [yoj 6 0,yoo 7 (.len (.tmp 6)),
 yoo 8 (.mv (.const (.int .i64 0)))]) (.block 0 (.loop (.seq (.ops [yoo 9 (.bin .lss (.tmp 8) (.tmp 7))]) (.seq (.cond (.tmp 9) .skip (.exit 0)) (.seq (.block 1 (.seq (.ops [yoj 10 8,yoj 5 10]) (.seq (.ops [yoj 11 1,
 yoj 12 0,yoj 13 5,yoo 14 (.atRow 35 (.tmp 12) (.tmp 13)),yoo 15 (.load 35 (.tmp 14)),yoo 16 (.callv (.tmp 11) [.tmp 15])]) (.cond (.tmp 16) (.seq (.ops [yoj 17 5,
 yoj 4 17]) .ret) .skip)))) (.ops [yoo 18 (.bin .add (.tmp 8) (.const (.int .i64 1))),yoj 8 18]))))))) (.seq (.ops [yoo 4 (.mv (.const (.int .i64 (-1))))]) .ret)))⟩
def zba:y4:=⟨16,[.tmp 3],(.seq (.ops [yoo 2 (.box 35 (.tmp 0)),yoo 3 (.mv (.const (.bool false)))]) (.seq (.ops [yom 4 0 2,yon 5 4,yom 6 0 1,yon 7 6,yoo 8 (.bin .eql (.tmp 5) (.tmp 7)),yoj 9 8,⟨some 10,.off 1 (.tmp 2),
 (some (9,true))⟩,⟨some 11,.load1 (.tmp 10),(some (9,true))⟩,⟨some 12,.off 1 (.tmp 1),(some (9,true))⟩,⟨some 13,.load1 (.tmp 12),(some (9,true))⟩,⟨some 14,.eqv false .bool (.tmp 11) (.tmp 13),(some (9,true))⟩,
 yoo 15 (.pick (.tmp 9) (.tmp 14) (.const (.bool false))),yoj 3 15]) .ret))⟩
def qg:y4:=⟨153,[.cells 4 35],(.seq (.ops [⟨some 4,.alloc ([(.string ⟨#[]⟩)]++[(.bool false)]++List.replicate 33 (.int .u32 0)),none⟩]) (.seq (.ops [⟨some 5,
 .alloc ([(.string ⟨#[]⟩)]++[(.bool false)]++List.replicate 33 (.int .u32 0)),none⟩,⟨some 6,.alloc ([(.string ⟨#[]⟩)]++[(.bool false)]++List.replicate 33 (.int .u32 0)),none⟩]) (.seq (.seq (.ops [yoj 8 1,yol 9 8,
 yom 10 3 9,yon 11 10,yoo 12 (.eqv true .ptr (.tmp 11) (.const (.pointer none)))]) (.cond (.tmp 12) (.ops [yoj 13 0,yoj 14 1,yol 15 14,yom 16 3 15,yon 17 16,yoo 18 (.call x9 [.tmp 13,.tmp 17]),⟨none,
 .store 35 (.tmp 5) (.tmp 18),none⟩]) .skip)) (.seq (.seq (.ops [yoj 19 1,yol 20 19,yom 21 4 20,yon 22 21,yoo 23 (.eqv true .ptr (.tmp 22) (.const (.pointer none)))]) (.cond (.tmp 23) (.ops [yoj 24 0,yoj 25 1,yol 26 25,
 yom 27 4 26,yon 28 27,yoo 29 (.call x9 [.tmp 24,.tmp 28]),⟨none,.store 35 (.tmp 6) (.tmp 29),none⟩]) .skip)) (.seq (.ops [yoj 30 1,yol 31 30,yom 32 5 31,yon 33 32,⟨some 34,
 .build ([(.string ⟨#[]⟩)]++[(.bool false)]++List.replicate 33 (.int .u32 0)) [(1,1,.tmp 33)],none⟩,⟨some 7,.alloc ([(.string ⟨#[]⟩)]++[(.bool false)]++List.replicate 33 (.int .u32 0)),none⟩,⟨none,
 .store 35 (.tmp 7) (.tmp 34),none⟩]) (.seq (.seq (.ops [yoj 35 1,yol 36 35,yom 37 0 36,yon 38 37]) (.block 0 (.seq (.ops [⟨some 40,.bin .eql (.tmp 38) (.const (.string ⟨#[110,97,109,101]⟩)),none⟩,
 yoj 39 40]) (.cond (.tmp 39) (.seq (.ops [yoj 41 0,yol 42 41,yom 43 1 42,yon 44 43,yoj 45 1,yol 46 45,yom 47 1 46,yon 48 47,⟨some 49,
 .lookup .str (agg ([(.string ⟨#[]⟩)]++[(.bool false)]++List.replicate 33 (.int .u32 0))) (.tmp 44) (.tmp 48) false,none⟩,⟨none,.store 35 (.tmp 4) (.tmp 49),none⟩]) .ret) (.seq (.ops [⟨some 51,
 .bin .eql (.tmp 38) (.const (.string ⟨#[40]⟩)),none⟩,yoj 50 51]) (.cond (.tmp 50) (.seq (.ops [yoo 52 (.load 35 (.tmp 5)),⟨none,.store 35 (.tmp 4) (.tmp 52),none⟩]) .ret) (.seq (.ops [⟨some 54,
 .bin .eql (.tmp 38) (.const (.string ⟨#[124]⟩)),none⟩,yoj 53 54]) (.cond (.tmp 53) (.ops [yom 55 2 5,yon 56 55,yom 57 2 6,yon 58 57,yoo 59 (.bin .or (.tmp 56) (.tmp 58)),yom 60 3 5,yoo 61 (.load 32 (.tmp 60)),yom 62 3 6,
 yoo 63 (.load 32 (.tmp 62)),yoo 64 (.mkRow (List.replicate 32 (.int .u32 0)) 2 [(0,32,.tmp 61),(32,32,.tmp 63)]),yom 66 2 7,yoo 65 (.call zbh [.tmp 64]),⟨none,.again1 (.tmp 55) 56,none⟩,⟨none,.again1 (.tmp 57) 58,none⟩,
 yop 66 59,yom 67 3 7,⟨none,.store 32 (.tmp 67) (.tmp 65),none⟩]) (.seq (.ops [⟨some 69,.bin .eql (.tmp 38) (.const (.string ⟨#[38]⟩)),none⟩,yoj 68 69]) (.cond (.tmp 68) (.ops [yom 70 2 5,yon 71 70,yom 72 2 6,yon 73 72,
 yoo 74 (.bin .and (.tmp 71) (.tmp 73)),yom 75 3 5,yoo 76 (.load 32 (.tmp 75)),yom 77 3 6,yoo 78 (.load 32 (.tmp 77)),yoo 79 (.mkRow (List.replicate 32 (.int .u32 0)) 2 [(0,32,.tmp 76),(32,32,.tmp 78)]),yom 81 2 7,
 yoo 80 (.call zdl [.tmp 79]),⟨none,.again1 (.tmp 70) 71,none⟩,⟨none,.again1 (.tmp 72) 73,none⟩,yop 81 74,yom 82 3 7,⟨none,.store 32 (.tmp 82) (.tmp 80),none⟩]) (.seq (.ops [⟨some 84,
 .bin .eql (.tmp 38) (.const (.string ⟨#[92]⟩)),none⟩,yoj 83 84]) (.cond (.tmp 83) (.ops [yom 85 2 5,yon 86 85,yom 87 2 6,yon 88 87,yoo 89 (.bin .andNot (.tmp 86) (.tmp 88)),yom 90 3 5,yoo 91 (.load 32 (.tmp 90)),
 yom 92 3 6,yoo 93 (.load 32 (.tmp 92)),yom 95 2 7,yoo 94 (.call zi7 [.tmp 91,.tmp 93]),⟨none,.again1 (.tmp 85) 86,none⟩,⟨none,.again1 (.tmp 87) 88,none⟩,yop 95 89,yom 96 3 7,⟨none,.store 32 (.tmp 96) (.tmp 94),
 none⟩]) (.seq (.ops [⟨some 98,.bin .eql (.tmp 38) (.const (.string ⟨#[59]⟩)),none⟩,yoj 97 98]) (.cond (.tmp 97) (.ops [yom 99 3 5,yoo 100 (.load 32 (.tmp 99)),yom 101 3 6,yoo 102 (.load 32 (.tmp 101)),
 yoo 103 (.mkRow (List.replicate 32 (.int .u32 0)) 2 [(0,32,.tmp 100),(32,32,.tmp 102)]),yoo 104 (.call zkd [.tmp 103]),yom 105 3 7,⟨none,.store 32 (.tmp 105) (.tmp 104),none⟩]) (.seq (.ops [⟨some 107,
 .bin .eql (.tmp 38) (.const (.string ⟨#[120]⟩)),none⟩,yoj 106 107]) (.cond (.tmp 106) (.ops [yom 108 2 5,yon 109 108,yom 110 2 6,yon 111 110,yoo 112 (.call zd1 [.tmp 109,.tmp 111]),yom 113 3 7,⟨none,
 .store 32 (.tmp 113) (.tmp 112),none⟩]) (.seq (.ops [⟨some 115,.bin .eql (.tmp 38) (.const (.string ⟨#[91]⟩)),none⟩,yoj 114 115]) (.cond (.tmp 114) (.ops [yom 116 2 5,yon 117 116,yoo 118 (.call zde [.tmp 117]),
 yom 119 3 7,⟨none,.store 32 (.tmp 119) (.tmp 118),none⟩]) (.seq (.ops [⟨some 121,.bin .eql (.tmp 38) (.const (.string ⟨#[43]⟩)),none⟩,yoj 120 121]) (.cond (.tmp 120) (.ops [yom 122 3 5,yoo 123 (.load 32 (.tmp 122)),
 yoo 124 (.call zfj [.tmp 123]),yom 125 3 7,⟨none,.store 32 (.tmp 125) (.tmp 124),none⟩]) (.seq (.ops [⟨some 127,.bin .eql (.tmp 38) (.const (.string ⟨#[42]⟩)),none⟩,yoj 126 127]) (.cond (.tmp 126) (.ops [yoj 128 0,
 yol 129 128,yom 130 0 129,yon 131 130,yom 132 3 5,yoo 133 (.load 32 (.tmp 132)),yoo 134 (.call zky [.tmp 131,.tmp 133]),yom 135 3 7,⟨none,.store 32 (.tmp 135) (.tmp 134),none⟩]) (.seq (.ops [⟨some 137,
 .bin .eql (.tmp 38) (.const (.string ⟨#[63]⟩)),none⟩,yoj 136 137]) (.cond (.tmp 136) (.ops [yoj 138 0,yol 139 138,yom 140 0 139,yon 141 140,yom 142 3 5,yoo 143 (.load 32 (.tmp 142)),yoo 144 (.call zjj [.tmp 141,
 .tmp 143]),yom 145 3 7,⟨none,.store 32 (.tmp 145) (.tmp 144),none⟩]) (.seq (.ops [⟨some 147,.bin .eql (.tmp 38) (.const (.string ⟨#[94]⟩)),none⟩,yoj 146 147]) (.cond (.tmp 146) (.ops [yom 148 3 5,
 yoo 149 (.load 32 (.tmp 148)),yoo 150 (.call zgo [.tmp 149]),yom 151 3 7,⟨none,.store 32 (.tmp 151) (.tmp 150),none⟩]) .skip)))))))))))))))))))))))))) (.seq (.ops [yoo 152 (.load 35 (.tmp 7)),⟨none,
 .store 35 (.tmp 4) (.tmp 152),none⟩]) .ret)))))))⟩
def zcz:y4:=⟨25,[.tmp 6],(.seq (.ops [yoo 5 (.box 35 (.tmp 2)),yoo 6 (.mv (.const (.bool false)))]) (.seq (.ops [yoj 8 1,yom 9 0 5,yop 9 8]) (.seq (.ops [yoj 10 0,yol 11 10,yom 12 1 11,yon 13 12,yoj 14 1,⟨some 15,
 .lookup .str (agg ([(.string ⟨#[]⟩)]++[(.bool false)]++List.replicate 33 (.int .u32 0))) (.tmp 13) (.tmp 14) false,none⟩,yoo 16 (.load 35 (.tmp 5)),
 yoo 17 (.eqAgg true ([.str]++[.bool]++List.replicate 33 .int) (.tmp 15) (.tmp 16)),yoj 7 17]) (.seq (.ops [yoj 18 0,yol 19 18,yom 20 1 19,yon 21 20,yoj 22 1,yoo 23 (.load 35 (.tmp 5)),⟨none,
 .update .str (.tmp 21) (.tmp 22) (.tmp 23),none⟩]) (.seq (.ops [yoj 24 7,yoj 6 24]) .ret)))))⟩
def zke:y4:=⟨6,[.tmp 2],(.seq (.ops [yoo 1 (.box 32 (.tmp 0)),yoo 2 (.mv (.const (.bool false)))]) (.seq (.ops [yoo 3 (.load 32 (.tmp 1)),yoo 4 (.call zfj [.tmp 3]),yoo 5 (.call zan [.tmp 4]),yoj 2 5]) .ret))⟩
def zfw:y4:=⟨8,[.tmp 2],(.seq (.ops [yoo 1 (.box 32 (.tmp 0)),yoo 2 (.mv (.const (.bool false)))]) (.seq (.ops [yoo 3 (.load 32 (.tmp 1)),yoo 4 (.call zde [(.const (.int .u32 4294967295))]),⟨none,.again 32 (.tmp 1) 3,
 none⟩,yoo 5 (.mkRow (List.replicate 32 (.int .u32 0)) 2 [(0,32,.tmp 3),(32,32,.tmp 4)]),yoo 6 (.call zdl [.tmp 5]),yoo 7 (.call zgt [.tmp 6]),yoj 2 7]) .ret))⟩
def zng:y4:=⟨6,[.tmp 2],(.seq (.ops [yoo 1 (.box 32 (.tmp 0)),yoo 2 (.mv (.const (.bool false)))]) (.seq (.ops [yoo 3 (.load 32 (.tmp 1)),yoo 4 (.build (List.replicate 32 (.int .u32 0)) []),
 yoo 5 (.eqAgg false (List.replicate 32 .int) (.tmp 3) (.tmp 4)),yoj 2 5]) .ret))⟩
def jd:y4:=⟨18,[.tmp 4],(.seq (.ops [yoo 4 (.mv (.const (.bool false)))]) (.seq (.ops [yoj 5 0,yoo 6 (.lenStr (.tmp 5)),yoj 7 1,yoo 8 (.lenStr (.tmp 7)),yoo 9 (.bin .geq (.tmp 6) (.tmp 8)),yoj 10 9,⟨some 11,.mv (.tmp 0),
 (some (10,true))⟩,⟨some 12,.mv (.tmp 1),(some (10,true))⟩,⟨some 13,.lenStr (.tmp 12),(some (10,true))⟩,⟨some 14,.sliceStr (.tmp 11) none (some (.tmp 13)),(some (10,true))⟩,⟨some 15,.mv (.tmp 1),(some (10,true))⟩,
 ⟨some 16,.bin .eql (.tmp 14) (.tmp 15),(some (10,true))⟩,yoo 17 (.pick (.tmp 10) (.tmp 16) (.const (.bool false))),yoj 4 17]) .ret))⟩
def zdv:y4:=⟨11,[.tmp 4,.tmp 5],(.seq (.ops [⟨some 4,.mv (.const (.string ⟨#[]⟩)),none⟩,yoo 5 (.mv (.const (.bool false)))]) (.seq (.ops [yoj 6 0,yoj 7 1,yoo 8 (.call jg [.tmp 6,.tmp 7]),yoo 9 (.extract (.tmp 8) 0),
 yoo 10 (.extract (.tmp 8) 1),yoj 4 9,yoj 5 10]) .ret))⟩
def zel:y4:=⟨9,[.tmp 4],(.seq (.ops [yoo 4 (.mv (.const (.bool false)))]) (.seq (.ops [yoj 5 0,yoj 6 1,yoo 7 (.call zb6 [.tmp 5,.tmp 6]),yoo 8 (.bin .geq (.tmp 7) (.const (.int .i64 0))),yoj 4 8]) .ret))⟩
def za9:y4:=⟨38,[.tmp 2],(.seq (.ops [yoo 2 (.mv (.const (.int .i64 0)))]) (.seq (.seq (.ops [yoj 7 0,yoo 8 (.call py [.tmp 7]),yoj 6 8,yoo 9 (.extract (.tmp 6) 0),yoo 10 (.extract (.tmp 6) 1),⟨some 3,
 .alloc [(.int .i64 0),(.string ⟨#[]⟩),(.int .i64 0),(.int .i64 0)],none⟩,⟨none,.store 4 (.tmp 3) (.tmp 9),none⟩,yoj 4 10]) (.seq (.ops [yoj 11 4]) (.cond (.tmp 11) (.seq (.ops [yom 12 3 3,yon 13 12,
 yoj 2 13]) .ret) .skip))) (.seq (.seq (.ops [yoj 14 0,yol 15 14,yom 16 0 15,yon 17 16,yoo 18 (.len (.tmp 17)),
 yoo 19 (.bin .eql (.tmp 18) (.const (.int .i64 0)))]) (.cond (.tmp 19) (.seq (.ops [yoo 2 (.mv (.const (.int .i64 0)))]) .ret) .skip)) (.seq (.ops [yoj 20 0,yol 21 20,yom 22 0 21,yon 23 22,yoj 24 0,yol 25 24,yom 26 0 25,
 yon 27 26,yoo 28 (.len (.tmp 27)),yoo 29 (.bin .sub (.tmp 28) (.const (.int .i64 1))),yoo 30 (.atRow 4 (.tmp 23) (.tmp 29)),yoo 31 (.load 4 (.tmp 30)),⟨some 5,.alloc [(.int .i64 0),(.string ⟨#[]⟩),(.int .i64 0),
 (.int .i64 0)],none⟩,⟨none,.store 4 (.tmp 5) (.tmp 31),none⟩]) (.seq (.ops [yom 32 3 5,yon 33 32,yom 34 1 5,yon 35 34,yoo 36 (.lenStr (.tmp 35)),yoo 37 (.bin .add (.tmp 33) (.tmp 36)),yoj 2 37]) .ret)))))⟩
def zck:y4:=⟨32,[.cells 4 4],(.seq (.ops [⟨some 4,.alloc [(.int .i64 0),(.string ⟨#[]⟩),(.int .i64 0),(.int .i64 0)],none⟩]) (.seq (.seq (.ops [yoj 5 1,yoj 6 0,yol 7 6,yom 8 0 7,yon 9 8,yoo 10 (.call qz [.tmp 9]),
 yoo 11 (.bin .geq (.tmp 5) (.tmp 10))]) (.cond (.tmp 11) (.seq (.ops [⟨some 12,.build [(.int .i64 0),(.string ⟨#[]⟩),(.int .i64 0),(.int .i64 0)] [],none⟩,⟨none,.store 4 (.tmp 4) (.tmp 12),
 none⟩]) .ret) .skip)) (.seq (.ops [yoj 13 0,yol 14 13,yom 15 1 14,yon 16 15,yoj 17 0,yol 18 17,yom 19 1 18,yon 20 19,yoo 21 (.len (.tmp 20)),yoj 22 0,yol 23 22,yom 24 0 23,yon 25 24,yoj 28 1,yoo 26 (.call qz [.tmp 25]),
 ⟨none,.again1 (.tmp 15) 16,none⟩,⟨none,.again1 (.tmp 19) 20,none⟩,yoo 27 (.bin .sub (.tmp 21) (.tmp 26)),yoo 29 (.bin .add (.tmp 27) (.tmp 28)),yoo 30 (.atRow 4 (.tmp 16) (.tmp 29)),yoo 31 (.load 4 (.tmp 30)),⟨none,
 .store 4 (.tmp 4) (.tmp 31),none⟩]) .ret)))⟩
def zip:y4:=⟨6,[.tmp 2],(.seq (.ops [yoo 2 (.mv (.const (.bool false)))]) (.seq (.ops [⟨some 3,.mkRow [(.string ⟨#[]⟩)] 7 [(0,1,(.const (.string ⟨#[108,101,116]⟩))),(1,1,(.const (.string ⟨#[114,101,99]⟩))),(2,1,
 (.const (.string ⟨#[97,110,100]⟩))),(3,1,(.const (.string ⟨#[97,99,121,99,108,105,99]⟩))),(4,1,(.const (.string ⟨#[105,114,114,101,102,108,101,120,105,118,101]⟩))),(5,1,(.const (.string ⟨#[101,109,112,116,121]⟩))),(6,1,
 (.const (.string ⟨#[97,115]⟩)))],none⟩,yoj 4 0,yoo 5 (.call vl [.tmp 3,.tmp 4]),yoj 2 5]) .ret))⟩
def zev:y4:=⟨21,[.cells 2 4,.tmp 3],(.seq (.ops [⟨some 2,.alloc [(.int .i64 0),(.string ⟨#[]⟩),(.int .i64 0),(.int .i64 0)],none⟩,yoo 3 (.mv (.const (.bool false)))]) (.seq (.ops [yoj 7 0,yoo 8 (.call py [.tmp 7]),
 yoj 6 8,yoo 9 (.extract (.tmp 6) 0),yoo 10 (.extract (.tmp 6) 1),⟨some 4,.alloc [(.int .i64 0),(.string ⟨#[]⟩),(.int .i64 0),(.int .i64 0)],none⟩,⟨none,.store 4 (.tmp 4) (.tmp 9),none⟩,
 yoj 5 10]) (.seq (.seq (.ops [yoj 11 5]) (.cond (.tmp 11) (.ops [yoj 12 0,yol 13 12,yom 14 1 13,yon 15 14,yoo 16 (.bin .add (.tmp 15) (.const (.int .i64 1))),yol 17 12,yom 18 1 17,
 yop 18 16]) .skip)) (.seq (.ops [yoo 19 (.load 4 (.tmp 4)),yoj 20 5,⟨none,.store 4 (.tmp 2) (.tmp 19),none⟩,yoj 3 20]) .ret))))⟩
def za0:y4:=⟨47,[.tmp 6],(.seq (.ops [yoo 6 (.mv (.const (.pointer none)))]) (.seq (.ops [yoj 10 1,yoo 11 (.callv (.tmp 10) []),yoj 7 11]) (.seq (.block 0 (.loop (.seq (.seq (.ops [yoj 12 0,yoo 13 (.call yq [.tmp 12]),
 yoj 14 13,⟨some 15,.mv (.tmp 0),(some (14,true))⟩,⟨some 16,.call vg [.tmp 15,(.const (.int .i64 0))],(some (14,true))⟩,⟨some 17,.field1 0 (.tmp 16),(some (14,true))⟩,⟨some 18,.bin .eql (.tmp 17) (.const (.int .i64 3)),
 (some (14,true))⟩,yoo 19 (.pick (.tmp 14) (.tmp 18) (.const (.bool false))),yoj 20 19,⟨some 21,.mv (.tmp 2),(some (20,true))⟩,⟨some 22,.mv (.tmp 0),(some (20,true))⟩,⟨some 23,.call vg [.tmp 22,(.const (.int .i64 0))],
 (some (20,true))⟩,⟨some 24,.field1 1 (.tmp 23),(some (20,true))⟩,⟨some 25,.call vl [.tmp 21,.tmp 24],(some (20,true))⟩,
 yoo 26 (.pick (.tmp 20) (.tmp 25) (.const (.bool false)))]) (.cond (.tmp 26) .skip (.exit 0))) (.block 1 (.seq (.ops [yoj 28 0,yol 29 28,yom 30 0 29,yon 31 30,yoo 32 (.call y9 [.tmp 31]),yoj 27 32,
 yoo 33 (.extract (.tmp 27) 0),yoo 34 (.extract (.tmp 27) 1),⟨some 8,.alloc [(.int .i64 0),(.string ⟨#[]⟩),(.int .i64 0),(.int .i64 0)],none⟩,⟨none,.store 4 (.tmp 8) (.tmp 33),none⟩,yoj 9 34]) (.ops [yom 35 1 8,yon 36 35,
 yoj 37 7,yol 38 37,yom 39 2 38,yon 40 39,yoj 41 7,yoj 42 1,yoo 43 (.callv (.tmp 42) []),⟨none,.again1 (.tmp 35) 36,none⟩,⟨none,.again1 (.tmp 39) 40,none⟩,⟨some 44,.build [(.string ⟨#[]⟩),(.string ⟨#[]⟩),(.int .i64 0),
 (.pointer none),(.pointer none),(.bool false)] [(0,1,.tmp 36),(2,1,.tmp 40),(3,1,.tmp 41),(4,1,.tmp 43)],none⟩,yoo 45 (.box 6 (.tmp 44)),yoj 7 45])))))) (.seq (.ops [yoj 46 7,yoj 6 46]) .ret))))⟩
def zb2:y4:=⟨8,[.tmp 2],(.seq (.ops [yoo 2 (.mv (.const (.pointer none)))]) (.seq (.ops [yoj 3 0,yoj 4 0,yoo 5 (.func j4 [.tmp 4] []),⟨some 6,.mkRow [(.string ⟨#[]⟩)] 2 [(0,1,(.const (.string ⟨#[38]⟩))),(1,1,
 (.const (.string ⟨#[92]⟩)))],none⟩,yoo 7 (.call vr [.tmp 3,.tmp 5,.tmp 6]),yoj 2 7]) .ret))⟩
def fc:y4:=⟨20,[],(.seq (.ops [yoj 5 0,yol 6 5,yom 7 5 6,yon 8 7,yoj 9 1,yoo 10 (.eqv true .bool (.tmp 8) (.tmp 9))]) (.cond (.tmp 10) (.ops [yon 11 2,yol 12 11,yom 13 0 12,yon 14 13,yoj 15 0,yol 16 15,yom 17 2 16,
 yon 18 17,yoo 19 (.call yw [.tmp 14,(.const (.int .i64 41)),.tmp 18])]) .skip))⟩
def jq:y4:=⟨31,[.tmp 2],(.seq (.ops [yoo 2 (.mv (.const (.int .i64 0)))]) (.seq (.block 0 (.seq (.ops [yoj 4 0,yoo 5 (.call gn [.tmp 4]),yoj 3 5]) (.cond (.tmp 3) (.seq (.ops [yoj 6 0,
 yoo 7 (.bin .sub (.tmp 6) (.const (.int .u8 48))),yoo 8 (.conv .i64 (.tmp 7)),yoj 2 8]) .ret) (.seq (.ops [yoj 10 0,yoo 11 (.bin .geq (.tmp 10) (.const (.int .u8 97))),yoj 12 11,⟨some 13,.mv (.tmp 0),(some (12,true))⟩,
 ⟨some 14,.bin .leq (.tmp 13) (.const (.int .u8 102)),(some (12,true))⟩,yoo 15 (.pick (.tmp 12) (.tmp 14) (.const (.bool false))),yoj 9 15]) (.cond (.tmp 9) (.seq (.ops [yoj 16 0,
 yoo 17 (.bin .sub (.tmp 16) (.const (.int .u8 97))),yoo 18 (.conv .i64 (.tmp 17)),yoo 19 (.bin .add (.tmp 18) (.const (.int .i64 10))),yoj 2 19]) .ret) (.seq (.ops [yoj 21 0,
 yoo 22 (.bin .geq (.tmp 21) (.const (.int .u8 65))),yoj 23 22,⟨some 24,.mv (.tmp 0),(some (23,true))⟩,⟨some 25,.bin .leq (.tmp 24) (.const (.int .u8 70)),(some (23,true))⟩,
 yoo 26 (.pick (.tmp 23) (.tmp 25) (.const (.bool false))),yoj 20 26]) (.cond (.tmp 20) (.seq (.ops [yoj 27 0,yoo 28 (.bin .sub (.tmp 27) (.const (.int .u8 65))),yoo 29 (.conv .i64 (.tmp 28)),
 yoo 30 (.bin .add (.tmp 29) (.const (.int .i64 10))),yoj 2 30]) .ret) .skip))))))) (.seq (.ops [yoo 2 (.mv (.const (.int .i64 (-1))))]) .ret)))⟩
def za7:y4:=⟨12,[.tmp 4],(.seq (.ops [yoo 4 (.mv (.const (.bool false)))]) (.seq (.ops [yoo 5 (.mv (.const (.slice none 0 0)))]) (.seq (.ops [yoj 6 0,yoj 7 5,yoj 8 1,⟨some 9,.mkRow [(.string ⟨#[]⟩)] 1 [(0,1,.tmp 8)],
 none⟩,yoo 10 (.append 1 16 (.tmp 7) (.tmp 9)),yoo 11 (.call ju [.tmp 6,.tmp 10]),yoj 4 11]) .ret)))⟩
def fy:y4:=⟨25,[.cells 2 4,.tmp 3],(.seq (.ops [⟨some 2,.alloc [(.int .i64 0),(.string ⟨#[]⟩),(.int .i64 0),(.int .i64 0)],none⟩,yoo 3 (.mv (.const (.bool false)))]) (.seq (.seq (.ops [yoj 4 0,yol 5 4,yom 6 1 5,yon 7 6,
 yoj 8 0,yol 9 8,yom 10 0 9,yon 11 10,yoo 12 (.len (.tmp 11)),yoo 13 (.bin .geq (.tmp 7) (.tmp 12))]) (.cond (.tmp 13) (.seq (.ops [⟨some 14,.build [(.int .i64 0),(.string ⟨#[]⟩),(.int .i64 0),(.int .i64 0)] [],none⟩,
 ⟨none,.store 4 (.tmp 2) (.tmp 14),none⟩,yoo 3 (.mv (.const (.bool false)))]) .ret) .skip)) (.seq (.ops [yoj 15 0,yol 16 15,yom 17 0 16,yon 18 17,yoj 19 0,yol 20 19,yom 21 1 20,yon 22 21,
 yoo 23 (.atRow 4 (.tmp 18) (.tmp 22)),yoo 24 (.load 4 (.tmp 23)),⟨none,.store 4 (.tmp 2) (.tmp 24),none⟩,yoo 3 (.mv (.const (.bool true)))]) .ret)))⟩
def zcf:y4:=⟨18,[.tmp 2],(.seq (.ops [yoo 2 (.mv (.const (.bool false)))]) (.seq (.ops [⟨some 5,.mkRow [(.string ⟨#[]⟩)] 7 [(0,1,(.const (.string ⟨#[108,101,116]⟩))),(1,1,(.const (.string ⟨#[114,101,99]⟩))),(2,1,
 (.const (.string ⟨#[97,110,100]⟩))),(3,1,(.const (.string ⟨#[97,99,121,99,108,105,99]⟩))),(4,1,(.const (.string ⟨#[105,114,114,101,102,108,101,120,105,118,101]⟩))),(5,1,(.const (.string ⟨#[101,109,112,116,121]⟩))),(6,1,
 (.const (.string ⟨#[97,115]⟩)))],none⟩,yoj 3 5]) (.seq (.seq (.ops [yoo 4 (.mv (.const (.int .i64 0)))]) (.block 0 (.loop (.seq (.seq (.ops [yoj 6 4,yoj 7 3,yoo 8 (.len (.tmp 7)),
 yoo 9 (.bin .lss (.tmp 6) (.tmp 8))]) (.cond (.tmp 9) .skip (.exit 0))) (.seq (.block 1 (.seq (.ops [yoj 12 3,yoj 13 4,yoo 14 (.atRow 1 (.tmp 12) (.tmp 13)),yon 15 14,yoj 16 0,
 yoo 17 (.bin .eql (.tmp 15) (.tmp 16))]) (.cond (.tmp 17) (.seq (.ops [yoo 2 (.mv (.const (.bool true)))]) .ret) .skip))) (.ops [yoj 10 4,yoo 11 (.bin .add (.tmp 10) (.const (.int .i64 1))),
 yoj 4 11])))))) (.seq (.ops [yoo 2 (.mv (.const (.bool false)))]) .ret))))⟩
def gy:y4:=⟨27,[.tmp 2],(.seq (.ops [yoo 2 (.mv (.const (.pointer none)))]) (.seq (.ops [yoj 4 0,yoo 5 (.call xj [.tmp 4]),yoj 3 5]) (.seq (.block 0 (.loop (.seq (.seq (.ops [yoj 6 0,yol 7 6,yom 8 1 7,yon 9 8,
 yoo 10 (.bin .eql (.tmp 9) (.const (.int .i64 0)))]) (.cond (.tmp 10) .skip (.exit 0))) (.block 1 (.block 2 (.seq (.ops [yoj 13 0,⟨some 14,.call z8 [.tmp 13,(.const (.string ⟨#[38]⟩))],none⟩,
 yoj 12 14]) (.cond (.tmp 12) (.ops [yoj 15 3,yoj 16 0,yoo 17 (.call xj [.tmp 16]),yoo 18 (.call xg [(.const (.int .i64 4)),.tmp 15,.tmp 17]),yoj 3 18]) (.seq (.ops [yoj 20 0,⟨some 21,.call z8 [.tmp 20,
 (.const (.string ⟨#[92]⟩))],none⟩,yoj 19 21]) (.cond (.tmp 19) (.ops [yoj 22 3,yoj 23 0,yoo 24 (.call xj [.tmp 23]),yoo 25 (.call xg [(.const (.int .i64 5)),.tmp 22,.tmp 24]),yoj 3 25]) (.seq (.ops [yoj 11 3,
 yoj 2 11]) .ret)))))))))) (.seq (.ops [yoj 26 3,yoj 2 26]) .ret))))⟩
def pz:y4:=⟨22,[.tmp 6],(.seq (.ops [yoo 6 (.mv (.const (.pointer none)))]) (.seq (.seq (.ops [yoj 7 1,yoo 8 (.eqv false .ptr (.tmp 7) (.const (.pointer none))),yoj 9 8,⟨some 10,.mv (.tmp 2),(some (9,false))⟩,⟨some 11,
 .eqv false .ptr (.tmp 10) (.const (.pointer none)),(some (9,false))⟩,
 yoo 12 (.pick (.tmp 9) (.const (.bool true)) (.tmp 11))]) (.cond (.tmp 12) (.seq (.ops [yoo 6 (.mv (.const (.pointer none)))]) .ret) .skip)) (.seq (.ops [yoj 13 0,yoj 14 1,yol 15 14,yom 16 2 15,yon 17 16,yoj 18 1,
 yoj 19 2,⟨some 20,.build [(.int .i64 0),(.string ⟨#[]⟩),(.int .i64 0),(.int .i64 0),(.pointer none),(.pointer none),(.bool false)] [(0,1,.tmp 13),(2,1,.tmp 17),(4,1,.tmp 18),(5,1,.tmp 19)],none⟩,
 yoo 21 (.box 7 (.tmp 20)),yoj 6 21]) .ret)))⟩
def zaw:y4:=⟨19,[],(.seq (.ops [yoj 6 0,yol 7 6,yom 8 1 7,yon 9 8,yoo 10 (.bin .eql (.tmp 9) (.const (.int .i64 0)))]) (.cond (.tmp 10) (.seq (.ops [yoj 11 0,yoj 12 1,yol 13 11,yom 14 1 13,yop 14 12]) (.ops [yoj 15 0,
 yoj 16 2,yol 17 15,yom 18 2 17,yop 18 16])) .skip))⟩
def je:y4:=⟨15,[.tmp 4,.tmp 5],(.seq (.ops [⟨some 4,.mv (.const (.string ⟨#[]⟩)),none⟩,yoo 5 (.mv (.const (.bool false)))]) (.seq (.seq (.ops [yoj 6 0,yoj 7 1,yoo 8 (.call wz [.tmp 6,.tmp 7]),
 yoo 9 (.un .not (.tmp 8))]) (.cond (.tmp 9) (.seq (.ops [yoj 10 0,yoj 4 10,yoo 5 (.mv (.const (.bool false)))]) .ret) .skip)) (.seq (.ops [yoj 11 0,yoj 12 1,yoo 13 (.lenStr (.tmp 12)),
 yoo 14 (.sliceStr (.tmp 11) (some (.tmp 13)) none),yoj 4 14,yoo 5 (.mv (.const (.bool true)))]) .ret)))⟩
def zb3:y4:=⟨25,[.cells 2 4,.tmp 3],(.seq (.ops [⟨some 2,.alloc [(.int .i64 0),(.string ⟨#[]⟩),(.int .i64 0),(.int .i64 0)],none⟩,yoo 3 (.mv (.const (.bool false)))]) (.seq (.seq (.ops [yoj 4 0,yol 5 4,yom 6 1 5,yon 7 6,
 yoj 8 0,yol 9 8,yom 10 0 9,yon 11 10,yoo 12 (.len (.tmp 11)),yoo 13 (.bin .eql (.tmp 7) (.tmp 12))]) (.cond (.tmp 13) (.seq (.ops [⟨some 14,.build [(.int .i64 0),(.string ⟨#[]⟩),(.int .i64 0),(.int .i64 0)] [],none⟩,
 ⟨none,.store 4 (.tmp 2) (.tmp 14),none⟩,yoo 3 (.mv (.const (.bool false)))]) .ret) .skip)) (.seq (.ops [yoj 15 0,yol 16 15,yom 17 0 16,yon 18 17,yoj 19 0,yol 20 19,yom 21 1 20,yon 22 21,
 yoo 23 (.atRow 4 (.tmp 18) (.tmp 22)),yoo 24 (.load 4 (.tmp 23)),⟨none,.store 4 (.tmp 2) (.tmp 24),none⟩,yoo 3 (.mv (.const (.bool true)))]) .ret)))⟩
def jr:y4:=⟨9,[.tmp 4],(.seq (.ops [yoo 4 (.mv (.const (.bool false)))]) (.seq (.ops [yoj 5 0,yoj 6 1,yoo 7 (.call kh [.tmp 5,.tmp 6]),yoo 8 (.bin .geq (.tmp 7) (.const (.int .i64 0))),yoj 4 8]) .ret))⟩
def zbu:y4:=⟨8,[.tmp 2],(.seq (.ops [yoo 2 (.mv (.const (.pointer none)))]) (.seq (.ops [yoj 3 0,yoj 4 0,yoo 5 (.func jb [.tmp 4] []),⟨some 6,.mkRow [(.string ⟨#[]⟩)] 1 [(0,1,(.const (.string ⟨#[59]⟩)))],none⟩,
 yoo 7 (.call vr [.tmp 3,.tmp 5,.tmp 6]),yoj 2 7]) .ret))⟩
def v7:y4:=⟨60,[.tmp 4],(.seq (.ops [yoo 4 (.mv (.const (.bool false)))]) (.seq (.seq (.ops [yoj 7 1,yoo 8 (.len (.tmp 7)),yoj 9 0,yol 10 9,yom 11 0 10,yon 12 11,yoo 13 (.len (.tmp 12)),yoj 14 0,yol 15 14,yom 16 1 15,
 yon 17 16,yoo 18 (.bin .sub (.tmp 13) (.tmp 17)),
 yoo 19 (.bin .gtr (.tmp 8) (.tmp 18))]) (.cond (.tmp 19) (.seq (.ops [yoo 4 (.mv (.const (.bool false)))]) .ret) .skip)) (.seq (.seq (.ops [yoo 5 (.mv (.const (.int .i64 0)))]) (.block 0 (.loop (.seq (.seq (.ops [yoj 20 5,yoj 21 1,yoo 22 (.len (.tmp 21)),yoo 23 (.bin .lss (.tmp 20) (.tmp 22))]) (.cond (.tmp 23) .skip (.exit 0))) (.seq (.block 1 (.seq (.ops [yoj 26 0,yol 27 26,yom 28 0 27,yon 29 28,yoj 30 0,yol 31 30,yom 32 1 31,yon 33 32,yoj 34 5,yoo 35 (.bin .add (.tmp 33) (.tmp 34)),yoo 36 (.atRow 4 (.tmp 29) (.tmp 35)),yoo 37 (.load 4 (.tmp 36)),⟨some 6,.alloc [(.int .i64 0),(.string ⟨#[]⟩),(.int .i64 0),(.int .i64 0)],none⟩,⟨none,.store 4 (.tmp 6) (.tmp 37),none⟩]) (.seq (.ops [yom 38 0 6,yon 39 38,yoo 40 (.bin .eql (.tmp 39) (.const (.int .i64 2))),yoj 41 40,⟨some 42,.off 1 (.tmp 6),(some (41,false))⟩,⟨some 43,.load1 (.tmp 42),(some (41,false))⟩,⟨some 44,.mv (.tmp 1),(some (41,false))⟩,⟨some 45,.mv (.tmp 5),(some (41,false))⟩,⟨some 46,.atRow 1 (.tmp 44) (.tmp 45),(some (41,false))⟩,⟨some 47,.load1 (.tmp 46),(some (41,false))⟩,⟨some 48,.bin .neq (.tmp 43) (.tmp 47),(some (41,false))⟩,yoo 49 (.pick (.tmp 41) (.const (.bool true)) (.tmp 48))]) (.cond (.tmp 49) (.seq (.ops [yoo 4 (.mv (.const (.bool false)))]) .ret) .skip)))) (.ops [yoj 24 5,yoo 25 (.bin .add (.tmp 24) (.const (.int .i64 1))),yoj 5 25])))))) (.seq (.ops [yoj 50 0,yoj 51 0,yol 52 51,yom 53 1 52,yon 54 53,yoj 55 1,yoo 56 (.len (.tmp 55)),yoo 57 (.bin .add (.tmp 54) (.tmp 56)),yol 58 50,yom 59 1 58,yop 59 57]) (.seq (.ops [yoo 4 (.mv (.const (.bool true)))]) .ret)))))⟩
def gm:y4:=⟨13,[.tmp 2],(.seq (.ops [yoo 2 (.mv (.const (.pointer none)))]) (.seq (.ops [yoj 4 0,yoo 5 (.call xu [.tmp 4]),yoj 3 5]) (.seq (.block 0 (.loop (.seq (.seq (.ops [yoj 6 0,⟨some 7,.call z8 [.tmp 6,
 (.const (.string ⟨#[59]⟩))],none⟩]) (.cond (.tmp 7) .skip (.exit 0))) (.block 1 (.ops [yoj 8 3,yoj 9 0,yoo 10 (.call xu [.tmp 9]),yoo 11 (.call xg [(.const (.int .i64 6)),.tmp 8,.tmp 10]),
 yoj 3 11]))))) (.seq (.ops [yoj 12 3,yoj 2 12]) .ret))))⟩
def pq:y4:=⟨19,[.tmp 4],(.seq (.ops [yoo 4 (.mv (.const (.int .i64 0)))]) (.seq (.seq (.ops [yoj 6 0,yoo 7 (.len (.tmp 6)),
 yoo 8 (.mv (.const (.int .i64 0)))]) (.block 0 (.loop (.seq (.ops [yoo 9 (.bin .lss (.tmp 8) (.tmp 7))]) (.seq (.cond (.tmp 9) .skip (.exit 0)) (.seq (.block 1 (.seq (.ops [yoj 10 8,yoj 5 10]) (.seq (.ops [yoj 11 1,
 yoj 12 0,yoj 13 5,yoo 14 (.atRow 1 (.tmp 12) (.tmp 13)),yon 15 14,yoo 16 (.bin .eql (.tmp 11) (.tmp 15))]) (.cond (.tmp 16) (.seq (.ops [yoj 17 5,
 yoj 4 17]) .ret) .skip)))) (.ops [yoo 18 (.bin .add (.tmp 8) (.const (.int .i64 1))),yoj 8 18]))))))) (.seq (.ops [yoo 4 (.mv (.const (.int .i64 (-1))))]) .ret)))⟩
def j9:y4:=⟨27,[.tmp 2],(.seq (.ops [yoo 2 (.mv (.const (.pointer none)))]) (.seq (.ops [yoj 4 0,yoo 5 (.call qf [.tmp 4]),yoj 3 5]) (.seq (.seq (.ops [yoj 6 0,yoo 7 (.call yq [.tmp 6]),yoj 8 7,⟨some 9,.mv (.tmp 0),
 (some (8,true))⟩,⟨some 10,.call qx [.tmp 9,(.const (.string ⟨#[42]⟩))],(some (8,true))⟩,yoo 11 (.pick (.tmp 8) (.tmp 10) (.const (.bool false)))]) (.cond (.tmp 11) (.seq (.ops [yoj 12 0,yol 13 12,yom 14 0 13,yon 15 14,
 yoo 16 (.call y9 [.tmp 15])]) (.ops [yoj 17 3,yol 18 17,yom 19 2 18,yon 20 19,yoj 21 3,yoj 22 0,yoo 23 (.call qf [.tmp 22]),⟨none,.again1 (.tmp 19) 20,none⟩,⟨some 24,.build [(.string ⟨#[]⟩),(.string ⟨#[]⟩),(.int .i64 0),
 (.pointer none),(.pointer none),(.bool false)] [(0,1,(.const (.string ⟨#[120]⟩))),(2,1,.tmp 20),(3,1,.tmp 21),(4,1,.tmp 23)],none⟩,yoo 25 (.box 6 (.tmp 24)),yoj 3 25])) .skip)) (.seq (.ops [yoj 26 3,yoj 2 26]) .ret))))⟩
def xc:y4:=⟨30,[.tmp 2],(.seq (.ops [yoo 2 (.mv (.const (.pointer none)))]) (.seq (.ops [yoj 4 0,yoo 5 (.call wg [.tmp 4]),yoj 3 5]) (.seq (.seq (.ops [yoj 6 0,yol 7 6,yom 8 1 7,yon 9 8,
 yoo 10 (.bin .eql (.tmp 9) (.const (.int .i64 0))),yoj 11 10,⟨some 12,.mv (.tmp 0),(some (11,true))⟩,⟨some 13,.call xd [.tmp 12],(some (11,true))⟩,⟨some 14,.bin .eql (.tmp 13) (.const (.string ⟨#[42]⟩)),(some (11,
 true))⟩,yoo 15 (.pick (.tmp 11) (.tmp 14) (.const (.bool false))),yoj 16 15,⟨some 17,.mv (.tmp 0),(some (16,true))⟩,⟨some 18,.call qp [.tmp 17],(some (16,true))⟩,
 yoo 19 (.pick (.tmp 16) (.tmp 18) (.const (.bool false)))]) (.cond (.tmp 19) (.seq (.ops [yoj 20 0,yol 21 20,yom 22 0 21,yon 23 22,yoo 24 (.call yi [.tmp 23])]) (.ops [yoj 25 3,yoj 26 0,yoo 27 (.call wg [.tmp 26]),
 yoo 28 (.call xg [(.const (.int .i64 7)),.tmp 25,.tmp 27]),yoj 3 28])) .skip)) (.seq (.ops [yoj 29 3,yoj 2 29]) .ret))))⟩
def zbe:y4:=⟨87,[.tmp 2],(.seq (.ops [yoo 2 (.mv (.const (.pointer none)))]) (.seq (.ops [yoj 7 0,yoo 8 (.call gf [.tmp 7]),yoj 3 8]) (.seq (.block 0 (.loop (.seq (.seq (.ops [yoj 9 0,
 yoo 10 (.call yq [.tmp 9])]) (.cond (.tmp 10) .skip (.exit 0))) (.block 1 (.block 2 (.seq (.ops [yoj 13 0,⟨some 14,.call qx [.tmp 13,(.const (.string ⟨#[43]⟩))],none⟩,yoj 15 14,⟨some 16,.mv (.tmp 0),(some (15,false))⟩,
 ⟨some 17,.call qx [.tmp 16,(.const (.string ⟨#[63]⟩))],(some (15,false))⟩,yoo 18 (.pick (.tmp 15) (.const (.bool true)) (.tmp 17)),yoj 19 18,⟨some 20,.mv (.tmp 0),(some (19,false))⟩,⟨some 21,.call qx [.tmp 20,
 (.const (.string ⟨#[42]⟩))],(some (19,false))⟩,⟨some 22,.mv (.tmp 21),(some (19,false))⟩,⟨some 23,.mv (.tmp 0),(some (22,true))⟩,⟨some 24,.call vg [.tmp 23,(.const (.int .i64 1))],(some (22,true))⟩,⟨some 25,
 .call zhg [.tmp 24],(some (22,true))⟩,⟨some 26,.un .not (.tmp 25),(some (22,true))⟩,⟨some 27,.pick (.tmp 22) (.tmp 26) (.const (.bool false)),(some (19,false))⟩,yoo 28 (.pick (.tmp 19) (.const (.bool true)) (.tmp 27)),
 yoj 12 28]) (.cond (.tmp 12) (.seq (.ops [yoj 30 0,yol 31 30,yom 32 0 31,yon 33 32,yoo 34 (.call y9 [.tmp 33]),yoj 29 34,yoo 35 (.extract (.tmp 29) 0),yoo 36 (.extract (.tmp 29) 1),⟨some 4,.alloc [(.int .i64 0),
 (.string ⟨#[]⟩),(.int .i64 0),(.int .i64 0)],none⟩,⟨none,.store 4 (.tmp 4) (.tmp 35),none⟩,yoj 5 36]) (.ops [yom 37 1 4,yon 38 37,yoj 39 3,yol 40 39,yom 41 2 40,yon 42 41,yoj 43 3,⟨some 44,.build [(.string ⟨#[]⟩),
 (.string ⟨#[]⟩),(.int .i64 0),(.pointer none),(.pointer none),(.bool false)] [(0,1,.tmp 38),(2,1,.tmp 42),(3,1,.tmp 43)],none⟩,yoo 45 (.box 6 (.tmp 44)),yoj 3 45])) (.seq (.ops [yoj 47 0,⟨some 48,.call qx [.tmp 47,
 (.const (.string ⟨#[94]⟩))],none⟩,yoj 46 48]) (.cond (.tmp 46) (.seq (.ops [yoj 49 0,yol 50 49,yom 51 0 50,yon 52 51,yoo 53 (.call y9 [.tmp 52])]) (.seq (.ops [yoj 54 0,⟨some 55,.call wj [.tmp 54,
 (.const (.string ⟨#[45]⟩))],none⟩]) (.seq (.seq (.ops [yoj 56 0,yoo 57 (.call vg [.tmp 56,(.const (.int .i64 0))]),⟨some 6,.alloc [(.int .i64 0),(.string ⟨#[]⟩),(.int .i64 0),(.int .i64 0)],none⟩,⟨none,
 .store 4 (.tmp 6) (.tmp 57),none⟩]) (.seq (.ops [yoj 58 0,yoo 59 (.call yq [.tmp 58]),yoj 60 59,⟨some 61,.off 0 (.tmp 6),(some (60,true))⟩,⟨some 62,.load1 (.tmp 61),(some (60,true))⟩,⟨some 63,
 .bin .eql (.tmp 62) (.const (.int .i64 2)),(some (60,true))⟩,yoo 64 (.pick (.tmp 60) (.tmp 63) (.const (.bool false))),yoj 65 64,⟨some 66,.off 2 (.tmp 6),(some (65,true))⟩,⟨some 67,.load1 (.tmp 66),(some (65,true))⟩,
 ⟨some 68,.bin .eql (.tmp 67) (.const (.int .i64 1)),(some (65,true))⟩,yoo 69 (.pick (.tmp 65) (.tmp 68) (.const (.bool false)))]) (.cond (.tmp 69) (.ops [yoj 70 0,yol 71 70,yom 72 0 71,yon 73 72,
 yoo 74 (.call y9 [.tmp 73])]) (.seq (.ops [yoj 75 0,yoo 76 (.call yq [.tmp 75])]) (.cond (.tmp 76) (.ops [yoj 77 0,yoo 78 (.call wk [.tmp 77])]) .skip))))) (.ops [yoj 79 3,yol 80 79,yom 81 2 80,yon 82 81,yoj 83 3,
 ⟨some 84,.build [(.string ⟨#[]⟩),(.string ⟨#[]⟩),(.int .i64 0),(.pointer none),(.pointer none),(.bool false)] [(0,1,(.const (.string ⟨#[94]⟩))),(2,1,.tmp 82),(3,1,.tmp 83)],none⟩,yoo 85 (.box 6 (.tmp 84)),
 yoj 3 85])))) (.seq (.ops [yoj 11 3,yoj 2 11]) .ret)))))))))) (.seq (.ops [yoj 86 3,yoj 2 86]) .ret))))⟩
def zd8:y4:=⟨17,[.tmp 4],(.seq (.ops [yoo 4 (.mv (.const (.bool false)))]) (.seq (.ops [yoj 6 0,yoo 7 (.call vg [.tmp 6,(.const (.int .i64 0))]),⟨some 5,.alloc [(.int .i64 0),(.string ⟨#[]⟩),(.int .i64 0),(.int .i64 0)],
 none⟩,⟨none,.store 4 (.tmp 5) (.tmp 7),none⟩]) (.seq (.ops [yom 8 0 5,yon 9 8,yoo 10 (.bin .eql (.tmp 9) (.const (.int .i64 3))),yoj 11 10,⟨some 12,.off 1 (.tmp 5),(some (11,true))⟩,⟨some 13,.load1 (.tmp 12),(some (11,
 true))⟩,⟨some 14,.mv (.tmp 1),(some (11,true))⟩,⟨some 15,.bin .eql (.tmp 13) (.tmp 14),(some (11,true))⟩,yoo 16 (.pick (.tmp 11) (.tmp 15) (.const (.bool false))),yoj 4 16]) .ret)))⟩
def g8:y4:=⟨82,[.tmp 2],(.seq (.ops [yoo 2 (.mv (.const (.pointer none)))]) (.seq (.ops [yoj 6 0,yoo 7 (.call yk [.tmp 6]),yoj 3 7]) (.seq (.block 0 (.loop (.seq (.seq (.ops [yoj 8 0,yol 9 8,yom 10 1 9,yon 11 10,
 yoo 12 (.bin .eql (.tmp 11) (.const (.int .i64 0)))]) (.cond (.tmp 12) .skip (.exit 0))) (.block 1 (.block 2 (.seq (.ops [yoj 15 0,⟨some 16,.call z8 [.tmp 15,(.const (.string ⟨#[43]⟩))],none⟩,
 yoj 14 16]) (.cond (.tmp 14) (.ops [yoj 17 3,yoo 18 (.call xh [(.const (.int .i64 8)),.tmp 17]),yoj 3 18]) (.seq (.ops [yoj 20 0,yoo 21 (.call xd [.tmp 20]),⟨some 22,.bin .eql (.tmp 21) (.const (.string ⟨#[42]⟩)),none⟩,
 yoj 23 22,⟨some 24,.mv (.tmp 0),(some (23,true))⟩,⟨some 25,.call qp [.tmp 24],(some (23,true))⟩,⟨some 26,.un .not (.tmp 25),(some (23,true))⟩,yoo 27 (.pick (.tmp 23) (.tmp 26) (.const (.bool false))),
 yoj 19 27]) (.cond (.tmp 19) (.seq (.ops [yoj 28 0,yol 29 28,yom 30 0 29,yon 31 30,yoo 32 (.call yi [.tmp 31])]) (.ops [yoj 33 3,yoo 34 (.call xh [(.const (.int .i64 9)),.tmp 33]),yoj 3 34])) (.seq (.ops [yoj 36 0,
 ⟨some 37,.call z8 [.tmp 36,(.const (.string ⟨#[63]⟩))],none⟩,yoj 35 37]) (.cond (.tmp 35) (.ops [yoj 38 3,yoo 39 (.call xh [(.const (.int .i64 10)),.tmp 38]),yoj 3 39]) (.seq (.ops [yoj 41 0,⟨some 42,.call z8 [.tmp 41,
 (.const (.string ⟨#[94]⟩))],none⟩,yoj 40 42]) (.cond (.tmp 40) (.seq (.ops [yoj 43 0,⟨some 44,.call yj [.tmp 43,(.const (.string ⟨#[45]⟩))],none⟩]) (.seq (.ops [yoj 46 0,yol 47 46,yom 48 0 47,yon 49 48,
 yoo 50 (.call xf [.tmp 49]),yoj 45 50,yoo 51 (.extract (.tmp 45) 0),yoo 52 (.extract (.tmp 45) 1),⟨some 4,.alloc [(.int .i64 0),(.string ⟨#[]⟩),(.int .i64 0),(.int .i64 0)],none⟩,⟨none,.store 4 (.tmp 4) (.tmp 51),none⟩,
 yoj 5 52]) (.seq (.seq (.ops [yoj 53 0,yol 54 53,yom 55 1 54,yon 56 55,yoo 57 (.bin .eql (.tmp 56) (.const (.int .i64 0))),yoj 58 57,⟨some 59,.mv (.tmp 5),(some (58,true))⟩,⟨some 60,.un .not (.tmp 59),(some (58,true))⟩,
 ⟨some 61,.mv (.tmp 60),(some (58,true))⟩,⟨some 62,.off 0 (.tmp 4),(some (61,false))⟩,⟨some 63,.load1 (.tmp 62),(some (61,false))⟩,⟨some 64,.bin .neq (.tmp 63) (.const (.int .i64 2)),(some (61,false))⟩,⟨some 65,
 .pick (.tmp 61) (.const (.bool true)) (.tmp 64),(some (58,true))⟩,⟨some 66,.mv (.tmp 65),(some (58,true))⟩,⟨some 67,.off 2 (.tmp 4),(some (66,false))⟩,⟨some 68,.load1 (.tmp 67),(some (66,false))⟩,⟨some 69,
 .bin .neq (.tmp 68) (.const (.int .i64 1)),(some (66,false))⟩,⟨some 70,.pick (.tmp 66) (.const (.bool true)) (.tmp 69),(some (58,true))⟩,
 yoo 71 (.pick (.tmp 58) (.tmp 70) (.const (.bool false)))]) (.cond (.tmp 71) (.ops [yoj 72 0,yoo 73 (.call y6 [.tmp 72])]) .skip)) (.seq (.ops [yoj 74 0,yol 75 74,yom 76 0 75,yon 77 76,
 yoo 78 (.call yi [.tmp 77])]) (.ops [yoj 79 3,yoo 80 (.call xh [(.const (.int .i64 11)),.tmp 79]),yoj 3 80]))))) (.seq (.ops [yoj 13 3,yoj 2 13]) .ret)))))))))))))) (.seq (.ops [yoj 81 3,yoj 2 81]) .ret))))⟩
def y5:y4:=⟨67,[.tmp 2],(.seq (.ops [yoo 2 (.mv (.const (.bool false)))]) (.seq (.seq (.ops [yoj 4 0,yol 5 4,yom 6 0 5,yon 7 6,yol 8 7,yom 9 1 8,yon 10 9,yoo 11 (.bin .add (.tmp 10) (.const (.int .i64 1))),yoj 12 0,
 yol 13 12,yom 14 0 13,yon 15 14,yol 16 15,yom 17 0 16,yon 18 17,yoo 19 (.len (.tmp 18)),
 yoo 20 (.bin .geq (.tmp 11) (.tmp 19))]) (.cond (.tmp 20) (.seq (.ops [yoo 2 (.mv (.const (.bool false)))]) .ret) .skip)) (.seq (.ops [yoj 21 0,yol 22 21,yom 23 0 22,yon 24 23,yol 25 24,yom 26 0 25,yon 27 26,yoj 28 0,
 yol 29 28,yom 30 0 29,yon 31 30,yol 32 31,yom 33 1 32,yon 34 33,yoo 35 (.bin .add (.tmp 34) (.const (.int .i64 1))),yoo 36 (.atRow 4 (.tmp 27) (.tmp 35)),yoo 37 (.load 4 (.tmp 36)),⟨some 3,.alloc [(.int .i64 0),
 (.string ⟨#[]⟩),(.int .i64 0),(.int .i64 0)],none⟩,⟨none,.store 4 (.tmp 3) (.tmp 37),none⟩]) (.seq (.ops [yom 38 0 3,yon 39 38,yoo 40 (.bin .eql (.tmp 39) (.const (.int .i64 2))),yoj 41 40,⟨some 42,.off 0 (.tmp 3),
 (some (41,false))⟩,⟨some 43,.load1 (.tmp 42),(some (41,false))⟩,⟨some 44,.bin .eql (.tmp 43) (.const (.int .i64 1)),(some (41,false))⟩,⟨some 45,.mv (.tmp 44),(some (41,false))⟩,⟨some 46,.off 1 (.tmp 3),(some (45,true))⟩,
 ⟨some 47,.load1 (.tmp 46),(some (45,true))⟩,⟨some 48,.call jp [.tmp 47],(some (45,true))⟩,⟨some 49,.un .not (.tmp 48),(some (45,true))⟩,⟨some 50,.pick (.tmp 45) (.tmp 49) (.const (.bool false)),(some (41,false))⟩,
 yoo 51 (.pick (.tmp 41) (.const (.bool true)) (.tmp 50)),yoj 52 51,⟨some 53,.off 0 (.tmp 3),(some (52,false))⟩,⟨some 54,.load1 (.tmp 53),(some (52,false))⟩,⟨some 55,.bin .eql (.tmp 54) (.const (.int .i64 3)),(some (52,
 false))⟩,⟨some 56,.mv (.tmp 55),(some (52,false))⟩,⟨some 57,.off 1 (.tmp 3),(some (56,true))⟩,⟨some 58,.load1 (.tmp 57),(some (56,true))⟩,⟨some 59,.bin .eql (.tmp 58) (.const (.string ⟨#[40]⟩)),(some (56,true))⟩,
 ⟨some 60,.mv (.tmp 59),(some (56,true))⟩,⟨some 61,.off 1 (.tmp 3),(some (60,false))⟩,⟨some 62,.load1 (.tmp 61),(some (60,false))⟩,⟨some 63,.bin .eql (.tmp 62) (.const (.string ⟨#[91]⟩)),(some (60,false))⟩,⟨some 64,
 .pick (.tmp 60) (.const (.bool true)) (.tmp 63),(some (56,true))⟩,⟨some 65,.pick (.tmp 56) (.tmp 64) (.const (.bool false)),(some (52,false))⟩,yoo 66 (.pick (.tmp 52) (.const (.bool true)) (.tmp 65)),yoj 2 66]) .ret))))⟩
def xa:y4:=⟨122,[.tmp 2],(.seq (.ops [yoo 2 (.mv (.const (.pointer none)))]) (.seq (.ops [yoj 6 0,yoo 7 (.call vg [.tmp 6,(.const (.int .i64 0))]),⟨some 3,.alloc [(.int .i64 0),(.string ⟨#[]⟩),(.int .i64 0),
 (.int .i64 0)],none⟩,⟨none,.store 4 (.tmp 3) (.tmp 7),none⟩]) (.seq (.ops [yoj 8 0,yol 9 8,yom 10 0 9,yon 11 10,yoo 12 (.call pi [.tmp 11]),⟨some 13,.build [(.string ⟨#[]⟩),(.string ⟨#[]⟩),(.int .i64 0),(.pointer none),
 (.pointer none),(.bool false)] [(2,1,.tmp 12)],none⟩,yoo 14 (.box 6 (.tmp 13)),yoj 4 14]) (.seq (.block 0 (.seq (.ops [yoj 18 0,yoo 19 (.call yq [.tmp 18]),yoo 20 (.un .not (.tmp 19)),
 yoj 17 20]) (.cond (.tmp 17) .skip (.seq (.ops [yoj 22 0,⟨some 23,.call qx [.tmp 22,(.const (.string ⟨#[40]⟩))],none⟩,yoj 24 23,⟨some 25,.mv (.tmp 0),(some (24,false))⟩,⟨some 26,.call qx [.tmp 25,
 (.const (.string ⟨#[91]⟩))],(some (24,false))⟩,yoo 27 (.pick (.tmp 24) (.const (.bool true)) (.tmp 26)),yoj 21 27]) (.cond (.tmp 21) (.seq (.seq (.ops [yoj 28 0,yol 29 28,yom 30 3 29,yon 31 30,
 yoo 32 (.bin .geq (.tmp 31) (.const (.int .i64 32)))]) (.cond (.tmp 32) (.seq (.ops [yoj 33 0,yom 34 3 3,yon 35 34,yoo 36 (.call yw [.tmp 33,(.const (.int .i64 2)),.tmp 35])]) (.seq (.ops [yoj 37 4,
 yoj 2 37]) .ret)) .skip)) (.seq (.ops [yoj 38 0,yol 39 38,yom 40 0 39,yon 41 40,yoo 42 (.call y9 [.tmp 41])]) (.seq (.ops [yoj 43 0,yol 44 43,yom 45 3 44,yon 46 45,yoo 47 (.bin .add (.tmp 46) (.const (.int .i64 1))),
 yol 48 43,yom 49 3 48,yop 49 47]) (.seq (.ops [yoj 50 0,yoo 51 (.call yu [.tmp 50]),yoj 5 51]) (.seq (.ops [yoj 52 0,yol 53 52,yom 54 3 53,yon 55 54,yoo 56 (.bin .sub (.tmp 55) (.const (.int .i64 1))),yol 57 52,
 yom 58 3 57,yop 58 56]) (.seq (.seq (.ops [yom 59 1 3,yon 60 59,⟨some 61,.bin .eql (.tmp 60) (.const (.string ⟨#[40]⟩)),none⟩]) (.cond (.tmp 61) (.seq (.ops [yoj 62 0,⟨some 63,.call wj [.tmp 62,
 (.const (.string ⟨#[41]⟩))],none⟩]) (.seq (.ops [yoj 64 4,yoj 65 4,yoj 66 5,yol 67 64,yom 68 0 67,⟨none,.store1 (.tmp 68) (.const (.string ⟨#[40]⟩)),none⟩,yol 69 65,yom 70 3 69,yop 70 66]) (.seq (.ops [yoj 71 4,
 yoj 2 71]) .ret))) .skip)) (.seq (.ops [yoj 72 0,⟨some 73,.call wj [.tmp 72,(.const (.string ⟨#[93]⟩))],none⟩]) (.ops [yoj 74 4,yoj 75 4,yoj 76 5,yol 77 74,yom 78 0 77,⟨none,.store1 (.tmp 78) (.const (.string ⟨#[91]⟩)),
 none⟩,yol 79 75,yom 80 3 79,yop 80 76])))))))) (.seq (.ops [yom 82 0 3,yon 83 82,yoo 84 (.bin .eql (.tmp 83) (.const (.int .i64 2))),yoj 85 84,⟨some 86,.off 2 (.tmp 3),(some (85,true))⟩,⟨some 87,.load1 (.tmp 86),
 (some (85,true))⟩,⟨some 88,.bin .eql (.tmp 87) (.const (.int .i64 0)),(some (85,true))⟩,yoo 89 (.pick (.tmp 85) (.tmp 88) (.const (.bool false))),yoj 81 89]) (.cond (.tmp 81) (.seq (.ops [yoj 90 0,yol 91 90,yom 92 0 91,
 yon 93 92,yoo 94 (.call y9 [.tmp 93])]) (.ops [yoj 95 4,yol 96 95,yom 97 0 96,⟨none,.store1 (.tmp 97) (.const (.string ⟨#[48]⟩)),none⟩])) (.seq (.ops [yom 99 0 3,yon 100 99,
 yoo 101 (.bin .eql (.tmp 100) (.const (.int .i64 1))),yoj 102 101,⟨some 103,.off 1 (.tmp 3),(some (102,true))⟩,⟨some 104,.load1 (.tmp 103),(some (102,true))⟩,⟨some 105,.call za4 [.tmp 104],(some (102,true))⟩,⟨some 106,
 .un .not (.tmp 105),(some (102,true))⟩,yoo 107 (.pick (.tmp 102) (.tmp 106) (.const (.bool false))),yoj 98 107]) (.cond (.tmp 98) (.seq (.ops [yoj 108 0,yol 109 108,yom 110 0 109,yon 111 110,
 yoo 112 (.call y9 [.tmp 111])]) (.ops [yoj 113 4,yoj 114 4,yom 115 1 3,yon 116 115,yol 117 113,yom 118 0 117,⟨none,.store1 (.tmp 118) (.const (.string ⟨#[110,97,109,101]⟩)),none⟩,⟨none,.again1 (.tmp 115) 116,none⟩,
 yol 119 114,yom 120 1 119,yop 120 116])) (.ops [yoj 15 0,yoo 16 (.call wk [.tmp 15])])))))))))) (.seq (.ops [yoj 121 4,yoj 2 121]) .ret)))))⟩
def zct:y4:=⟨24,[.tmp 2],(.seq (.ops [yoo 1 (.box 4 (.tmp 0)),yoo 2 (.mv (.const (.bool false)))]) (.seq (.seq (.ops [yom 3 0 1,yon 4 3]) (.block 0 (.seq (.ops [yoo 6 (.bin .eql (.tmp 4) (.const (.int .i64 1))),
 yoj 5 6]) (.cond (.tmp 5) (.seq (.ops [yom 7 1 1,yon 8 7,yoo 9 (.call za4 [.tmp 8]),yoo 10 (.un .not (.tmp 9)),yoj 2 10]) .ret) (.seq (.ops [yoo 12 (.bin .eql (.tmp 4) (.const (.int .i64 3))),
 yoj 11 12]) (.cond (.tmp 11) (.seq (.ops [yom 13 1 1,yon 14 13,⟨some 15,.bin .eql (.tmp 14) (.const (.string ⟨#[40]⟩)),none⟩,yoj 16 15,⟨some 17,.off 1 (.tmp 1),(some (16,false))⟩,⟨some 18,.load1 (.tmp 17),(some (16,
 false))⟩,⟨some 19,.bin .eql (.tmp 18) (.const (.string ⟨#[91]⟩)),(some (16,false))⟩,yoo 20 (.pick (.tmp 16) (.const (.bool true)) (.tmp 19)),yoj 2 20]) .ret) .skip)))))) (.seq (.ops [yom 21 0 1,yon 22 21,
 yoo 23 (.bin .eql (.tmp 22) (.const (.int .i64 2))),yoj 2 23]) .ret)))⟩
def z7:y4:=⟨142,[.tmp 2],(.seq (.ops [yoo 2 (.mv (.const (.pointer none)))]) (.seq (.ops [yoj 8 0,yol 9 8,yom 10 0 9,yon 11 10,yoo 12 (.call xf [.tmp 11]),yoj 7 12,yoo 13 (.extract (.tmp 7) 0),
 yoo 14 (.extract (.tmp 7) 1),⟨some 3,.alloc [(.int .i64 0),(.string ⟨#[]⟩),(.int .i64 0),(.int .i64 0)],none⟩,⟨none,.store 4 (.tmp 3) (.tmp 13),none⟩,yoj 4 14]) (.seq (.seq (.ops [yoj 15 0,yol 16 15,yom 17 1 16,
 yon 18 17,yoo 19 (.bin .neq (.tmp 18) (.const (.int .i64 0)))]) (.cond (.tmp 19) (.seq (.ops [yoo 2 (.mv (.const (.pointer none)))]) .ret) .skip)) (.seq (.block 0 (.seq (.ops [yoj 21 4,yoj 22 21,⟨some 23,.off 0 (.tmp 3),
 (some (22,true))⟩,⟨some 24,.load1 (.tmp 23),(some (22,true))⟩,⟨some 25,.bin .eql (.tmp 24) (.const (.int .i64 1)),(some (22,true))⟩,yoo 26 (.pick (.tmp 22) (.tmp 25) (.const (.bool false))),yoj 27 26,⟨some 28,
 .off 1 (.tmp 3),(some (27,true))⟩,⟨some 29,.load1 (.tmp 28),(some (27,true))⟩,⟨some 30,.call jp [.tmp 29],(some (27,true))⟩,⟨some 31,.un .not (.tmp 30),(some (27,true))⟩,
 yoo 32 (.pick (.tmp 27) (.tmp 31) (.const (.bool false))),yoj 20 32]) (.cond (.tmp 20) (.seq (.ops [yoj 33 0,yol 34 33,yom 35 0 34,yon 36 35,yoo 37 (.call yi [.tmp 36])]) (.seq (.ops [yom 38 1 3,yon 39 38,yom 40 3 3,
 yon 41 40,yom 42 3 3,yon 43 42,⟨some 44,.build [(.int .i64 0),(.string ⟨#[]⟩),(.int .i64 0),(.int .i64 0),(.pointer none),(.pointer none),(.bool false)] [(0,1,(.const (.int .i64 1))),(1,1,.tmp 39),(2,1,.tmp 41),(3,1,
 .tmp 43)],none⟩,yoo 45 (.box 7 (.tmp 44)),yoj 2 45]) .ret)) (.seq (.ops [yoj 47 4,yoj 48 47,⟨some 49,.off 0 (.tmp 3),(some (48,true))⟩,⟨some 50,.load1 (.tmp 49),(some (48,true))⟩,⟨some 51,
 .bin .eql (.tmp 50) (.const (.int .i64 2)),(some (48,true))⟩,yoo 52 (.pick (.tmp 48) (.tmp 51) (.const (.bool false))),yoj 53 52,⟨some 54,.off 2 (.tmp 3),(some (53,true))⟩,⟨some 55,.load1 (.tmp 54),(some (53,true))⟩,
 ⟨some 56,.bin .eql (.tmp 55) (.const (.int .i64 0)),(some (53,true))⟩,yoo 57 (.pick (.tmp 53) (.tmp 56) (.const (.bool false))),yoj 46 57]) (.cond (.tmp 46) (.seq (.ops [yoj 58 0,yol 59 58,yom 60 0 59,yon 61 60,
 yoo 62 (.call yi [.tmp 61])]) (.seq (.ops [yom 63 3 3,yon 64 63,⟨some 65,.build [(.int .i64 0),(.string ⟨#[]⟩),(.int .i64 0),(.int .i64 0),(.pointer none),(.pointer none),(.bool false)] [(0,1,(.const (.int .i64 2))),(2,
 1,.tmp 64)],none⟩,yoo 66 (.box 7 (.tmp 65)),yoj 2 66]) .ret)) (.seq (.ops [yoj 68 4,yoj 69 68,⟨some 70,.off 0 (.tmp 3),(some (69,true))⟩,⟨some 71,.load1 (.tmp 70),(some (69,true))⟩,⟨some 72,
 .bin .eql (.tmp 71) (.const (.int .i64 3)),(some (69,true))⟩,yoo 73 (.pick (.tmp 69) (.tmp 72) (.const (.bool false))),yoj 74 73,⟨some 75,.off 1 (.tmp 3),(some (74,true))⟩,⟨some 76,.load1 (.tmp 75),(some (74,true))⟩,
 ⟨some 77,.bin .eql (.tmp 76) (.const (.string ⟨#[40]⟩)),(some (74,true))⟩,⟨some 78,.mv (.tmp 77),(some (74,true))⟩,⟨some 79,.off 1 (.tmp 3),(some (78,false))⟩,⟨some 80,.load1 (.tmp 79),(some (78,false))⟩,⟨some 81,
 .bin .eql (.tmp 80) (.const (.string ⟨#[91]⟩)),(some (78,false))⟩,⟨some 82,.pick (.tmp 78) (.const (.bool true)) (.tmp 81),(some (74,true))⟩,yoo 83 (.pick (.tmp 74) (.tmp 82) (.const (.bool false))),
 yoj 67 83]) (.cond (.tmp 67) (.seq (.seq (.ops [yoj 84 0,yol 85 84,yom 86 4 85,yon 87 86,yoo 88 (.bin .geq (.tmp 87) (.const (.int .i64 32)))]) (.cond (.tmp 88) (.seq (.ops [yoj 89 0,yom 90 3 3,yon 91 90,
 yoo 92 (.call we [.tmp 89,(.const (.int .i64 2)),.tmp 91])]) (.seq (.ops [yoo 2 (.mv (.const (.pointer none)))]) .ret)) .skip)) (.seq (.ops [yoj 93 0,yol 94 93,yom 95 0 94,yon 96 95,
 yoo 97 (.call yi [.tmp 96])]) (.seq (.ops [yoj 98 0,yol 99 98,yom 100 4 99,yon 101 100,yoo 102 (.bin .add (.tmp 101) (.const (.int .i64 1))),yol 103 98,yom 104 4 103,yop 104 102]) (.seq (.ops [yoj 105 0,
 yoo 106 (.call ya [.tmp 105]),yoj 5 106]) (.seq (.ops [yoj 107 0,yol 108 107,yom 109 4 108,yon 110 109,yoo 111 (.bin .sub (.tmp 110) (.const (.int .i64 1))),yol 112 107,yom 113 4 112,
 yop 113 111]) (.seq (.seq (.ops [yom 114 1 3,yon 115 114,⟨some 116,.bin .eql (.tmp 115) (.const (.string ⟨#[40]⟩)),none⟩]) (.cond (.tmp 116) (.seq (.ops [yoj 117 0,⟨some 118,.call yj [.tmp 117,
 (.const (.string ⟨#[41]⟩))],none⟩]) (.seq (.seq (.ops [yoj 119 5,yoo 120 (.eqv true .ptr (.tmp 119) (.const (.pointer none)))]) (.cond (.tmp 120) (.seq (.ops [yoj 121 5,yol 122 121,yoo 123 (.load 7 (.tmp 122)),⟨some 6,
 .alloc [(.int .i64 0),(.string ⟨#[]⟩),(.int .i64 0),(.int .i64 0),(.pointer none),(.pointer none),(.bool false)],none⟩,⟨none,.store 7 (.tmp 6) (.tmp 123),none⟩]) (.seq (.ops [yom 124 3 3,yon 125 124,yom 126 2 6,
 yop 126 125]) (.ops [yoj 5 6]))) .skip)) (.seq (.ops [yoj 127 5,yoj 2 127]) .ret))) .skip)) (.seq (.ops [yoj 128 0,⟨some 129,.call yj [.tmp 128,(.const (.string ⟨#[93]⟩))],none⟩]) (.seq (.ops [yoj 130 5,
 yoo 131 (.call xh [(.const (.int .i64 12)),.tmp 130]),yoj 5 131]) (.seq (.seq (.ops [yoj 132 5,yoo 133 (.eqv true .ptr (.tmp 132) (.const (.pointer none)))]) (.cond (.tmp 133) (.ops [yoj 134 5,yom 135 3 3,yon 136 135,
 yol 137 134,yom 138 2 137,yop 138 136]) .skip)) (.seq (.ops [yoj 139 5,yoj 2 139]) .ret)))))))))) .skip))))))) (.seq (.ops [yoj 140 0,
 yoo 141 (.call y6 [.tmp 140])]) (.seq (.ops [yoo 2 (.mv (.const (.pointer none)))]) .ret))))))⟩
def zca:y4:=⟨15,[.tmp 4],(.seq (.ops [yoo 4 (.mv (.const (.pointer none)))]) (.seq (.seq (.ops [yoj 5 1,
 yoo 6 (.eqv false .ptr (.tmp 5) (.const (.pointer none)))]) (.cond (.tmp 6) (.seq (.ops [yoo 4 (.mv (.const (.pointer none)))]) .ret) .skip)) (.seq (.ops [yoj 7 0,yoj 8 1,yol 9 8,yom 10 2 9,yon 11 10,yoj 12 1,⟨some 13,
 .build [(.int .i64 0),(.string ⟨#[]⟩),(.int .i64 0),(.int .i64 0),(.pointer none),(.pointer none),(.bool false)] [(0,1,.tmp 7),(2,1,.tmp 11),(4,1,.tmp 12)],none⟩,yoo 14 (.box 7 (.tmp 13)),yoj 4 14]) .ret)))⟩
def ords:List (Nat×List (Nat×List Nat)):=[(3,[(23,[0,1,2,3,4,5,6,8,9,10,11,7,12,13,14])]),(5,[(18,[0,1,2,3,4,5,6,7,8,14,9,10,11,12,13,15,16])]),(8,[(8,[0,1,2,4,5,6,8,9,11,12,13,15,16,18,20,22,23,24,25,26,28,31,35,37,38,42,43,3,7,10,14,17,19,21,27,29,30,32,33,34,36,39,40,41,44,45,46,47,48])]),(47,[(28,[0,1,2,3,5,6,4,7,8,9,10]),(30,[0,1,2,3,5,6,4,7,8,9])]),(86,[(13,[0,1,2,3,4,5,6,7,8,9,11,10,12,13,14]),(15,[0,1,2,3,4,5,6,7,8,9,11,10,12,13,14]),(17,[0,1,2,3,4,5,6,7,8,10,9,11,12,13])]),(107,[(3,[0,1,2,3,4,5,6,7,8,9,10,11,12,15,13,14,16,17,18,19])]),(138,[(1,[0,1,3,2,4,5,6])])]
def GG:Nat:=2
noncomputable def FF:Funcs:=⟨fun f=>if zni f then none else (Tryz.prog.funcs[f]?).bind (zmt Tryz.prog GG ((ords.lookup f).getD [])),known⟩
theorem zfv:FF bk=some jz:=by kernel_rfl
theorem zi3:FF b4=some zdp:=by kernel_rfl
theorem zjp:FF b7=some zdy:=by kernel_rfl
theorem zvm:FF zbi=some zf7:=by kernel_rfl
theorem zil:FF kg=some bf:=by kernel_rfl
theorem zih:FF be=some zc8:=by kernel_rfl
theorem zki:FF px=some zey:=by kernel_rfl
theorem zmi:FF za8=some zg0:=by kernel_rfl
theorem zle:FF bj=some zfi:=by kernel_rfl
theorem yam:FF zfj=some zo8:=by kernel_rfl
theorem zw0:FF zbh=some zm8:=by kernel_rfl
theorem ybv:FF zkd=some zsj:=by kernel_rfl
theorem zzh:FF zky=some zpn:=by kernel_rfl
theorem zul:FF zjj=some znf:=by kernel_rfl
theorem zzs:FF zdl=some zpm:=by kernel_rfl
theorem zvh:FF zi7=some zny:=by kernel_rfl
theorem zv2:FF zd1=some zop:=by kernel_rfl
theorem yh0:FF zde=some zx0:=by kernel_rfl
theorem zra:FF zgo=some zka:=by kernel_rfl
theorem zq6:FF zgd=some zgp:=by kernel_rfl
theorem zy6:FF zh5=some zp7:=by kernel_rfl
theorem znz:FF yq=some zg8:=by kernel_rfl
theorem zkp:FF qz=some zew:=by kernel_rfl
theorem zg6:FF gq=some yo:=by kernel_rfl
theorem zeo:FF j1=some vt:=by kernel_rfl
theorem zij:FF za2=some za3:=by kernel_rfl
theorem zef:FF jl=some c_belatedref12_parser_stmt:=by kernel_rfl
theorem zjk:FF qb=some zdw:=by kernel_rfl
theorem zd9:FF vc=some zae:=by kernel_rfl
theorem yl:FF zn=some za:=by kernel_rfl
theorem zab:FF zt=some gh:=by kernel_rfl
theorem zlk:FF zar=some zfy:=by kernel_rfl
theorem zc3:FF qa=some j8:=by kernel_rfl
theorem ya9:FF zdu=some zt3:=by kernel_rfl
theorem zzv:FF zk9=some zqf:=by kernel_rfl
theorem zjq:FF gp=some zdq:=by kernel_rfl
theorem zoj:FF zb6=some zhy:=by kernel_rfl
theorem ztl:FF zcy=some zl1:=by kernel_rfl
theorem zy9:FF zif=some zpw:=by kernel_rfl
theorem zm2:FF zcb=some zhf:=by kernel_rfl
theorem zrr:FF zbx=some zkr:=by kernel_rfl
theorem jt:FF zf6=some ja:=by kernel_rfl
theorem zm4:FF zb0=some zhr:=by kernel_rfl
theorem zi0:FF zbg=some zea:=by kernel_rfl
theorem zbt:FF wi=some qq:=by kernel_rfl
theorem zcc:FF xi=some fj:=by kernel_rfl
theorem zkx:FF q9=some pu:=by kernel_rfl
theorem zff:FF wj=some zaj:=by kernel_rfl
theorem zb8:FF yu=some b9:=by kernel_rfl
theorem zii:FF wk=some za1:=by kernel_rfl
theorem zkq:FF fe=some qv:=by kernel_rfl
theorem va:FF yh=some zp:=by kernel_rfl
theorem zfo:FF yw=some zcm:=by kernel_rfl
theorem zis:FF zbf=some zec:=by kernel_rfl
theorem zit:FF gn=some zd2:=by kernel_rfl
theorem zkz:FF zap=some zfu:=by kernel_rfl
theorem zja:FF zbj=some w8:=by kernel_rfl
theorem zig:FF f8=some zc6:=by kernel_rfl
theorem zkk:FF zb9=some zes:=by kernel_rfl
theorem zav:FF z8=some gu:=by kernel_rfl
theorem zeg:FF wd=some vp:=by kernel_rfl
theorem zat:FF yj=some jm:=by kernel_rfl
theorem zax:FF ya=some gw:=by kernel_rfl
theorem zee:FF xd=some jh:=by kernel_rfl
theorem ze4:FF yi=some fv:=by kernel_rfl
theorem ze2:FF y6=some fx:=by kernel_rfl
theorem zam:FF vj=some j3:=by kernel_rfl
theorem zi6:FF gj=some zba:=by kernel_rfl
theorem gc:FF x9=some qg:=by kernel_rfl
theorem zmh:FF jc=some zcz:=by kernel_rfl
theorem zry:FF zgc=some zke:=by kernel_rfl
theorem zlm:FF zan=some zfw:=by kernel_rfl
theorem zv1:FF zgt=some zng:=by kernel_rfl
theorem zcd:FF wz=some jd:=by kernel_rfl
theorem zjc:FF zbc=some zdv:=by kernel_rfl
theorem zkb:FF zb5=some zel:=by kernel_rfl
theorem zmd:FF pi=some za9:=by kernel_rfl
theorem zlg:FF vg=some zck:=by kernel_rfl
theorem zo3:FF za4=some zip:=by kernel_rfl
theorem zkn:FF y9=some zev:=by kernel_rfl
theorem zc9:FF vr=some za0:=by kernel_rfl
theorem zeu:FF jy=some zb2:=by kernel_rfl
theorem zaa:FF y3=some fc:=by kernel_rfl
theorem zlj:FF zcl=some jq:=by kernel_rfl
theorem ze8:FF v8=some za7:=by kernel_rfl
theorem ze6:FF xf=some fy:=by kernel_rfl
theorem zg5:FF jp=some zcf:=by kernel_rfl
theorem zay:FF wh=some gy:=by kernel_rfl
theorem zbw:FF xg=some pz:=by kernel_rfl
theorem zeh:FF we=some zaw:=by kernel_rfl
theorem zce:FF jg=some je:=by kernel_rfl
theorem zkw:FF py=some zb3:=by kernel_rfl
theorem zcj:FF vl=some jr:=by kernel_rfl
theorem zez:FF j4=some zbu:=by kernel_rfl
theorem fr:FF ju=some v7:=by kernel_rfl
theorem zac:FF xj=some gm:=by kernel_rfl
theorem zdf:FF kh=some pq:=by kernel_rfl
theorem zc5:FF jb=some j9:=by kernel_rfl
theorem ph:FF xu=some xc:=by kernel_rfl
theorem zdx:FF qf=some zbe:=by kernel_rfl
theorem zou:FF qx=some zd8:=by kernel_rfl
theorem zau:FF wg=some g8:=by kernel_rfl
theorem zdi:FF qp=some y5:=by kernel_rfl
theorem zfr:FF gf=some xa:=by kernel_rfl
theorem zsr:FF zhg=some zct:=by kernel_rfl
theorem xq:FF yk=some z7:=by kernel_rfl
theorem zei:FF xh=some zca:=by kernel_rfl
theorem mixed:Tryz.prog.follows .mixedOrders=true:=by kernel_rfl
theorem yoc : (Tryz.prog.funcs.all fun f => f.name != "runtime.NumGoroutine") = true := by kernel_rfl
theorem reads:ygo Tryz.prog GG FF:=by
 refine ⟨fun f fn hf=> ?_,yfz (by decide)⟩
 have hf:(if zni f then none else (Tryz.prog.funcs[f]?).bind (zmt Tryz.prog GG ((ords.lookup f).getD [])))=some fn:=hf
 split at hf
 ·cases hf
 obtain ⟨pf,hp,hn⟩:=yo6.1 hf
 refine ⟨pf,_,hp,hn,?_⟩
 have:=Array.all_eq_true'.1 yoc pf (Array.mem_of_getElem? hp)
 simpa using this
/-- A string of bytes. -/
def str (l:List UInt8):Value:=.string ⟨l.toArray⟩
theorem ym1 (s:ByteArray):(.string s:Value)=str s.data.toList:=by cases s;simp [str]
theorem zdj (l:List UInt8):(⟨l.toArray⟩:ByteArray).size=l.length:=by simp [ByteArray.size]
section
variable {call:vf} (ρ:Operand→Value) (h:Heap)
def zwr (h:Heap):Value→Option (Value×Heap)
 | .string s=>some (.int .i64 s.size,h)
 | _=>none
theorem zu (x:Operand):evOp call ρ h (.lenStr x)=zwr h (ρ x):=by
 simp only [evOp];generalize ρ x=x;cases x <;> rfl
theorem zh (l:List UInt8):zwr h (str l)=some (.int .i64 (l.length:Int),h):=by
 unfold zwr str;simp only;rw [zdj]
theorem xl {l:List UInt8} {k:Nat} (hk:k<l.length) (kk:IntKind):idxO h (str l) (.int kk (k:Int))=some (.int .u8 (l[k].toNat:Int),h):=by
 have:=yfr (h:=h) (s:=⟨l.toArray⟩) (kk:=kk) (k:=(k:Int)) (b:=l[k]) (by omega) (by simp [hk])
 exact this
def cutS (h:Heap) (lo hi:Option Value):Value→Option (Value×Heap)
 | .string s=>match zah lo 0,zah hi s.size with
  | some l,some k=>if l≤k∧k≤s.size then some (.string (s.extract l k),h) else none
  | _,_=>none
 | _=>none
theorem xk (x:Operand) (lo hi:Option Operand):evOp call ρ h (.sliceStr x lo hi)=cutS h (lo.map ρ) (hi.map ρ) (ρ x):=by
 simp only [evOp];generalize ρ x=x;cases x <;> rfl
theorem zjf (l:List UInt8) (a b:Nat):(⟨l.toArray⟩:ByteArray).extract a b=⟨((l.drop a).take (b - a)).toArray⟩:=by
 apply ByteArray.ext
 rw [ByteArray.data_extract]
 simp
theorem zju {l:List UInt8} {k:Nat} (hk:k≤l.length) (kk:IntKind):cutS h (some (.int kk (k:Int))) none (str l)=some (str (l.drop k),h):=by
 unfold cutS str
 simp only [zd5,zdn,zdj]
 rw [if_pos ⟨hk,yoz _⟩,zjf,ypy (by simp)]
theorem ybd {l:List UInt8} {k:Nat} (hk:k≤l.length) (kk:IntKind):cutS h none (some (.int kk (k:Int))) (str l)=some (str (l.take k),h):=by
 unfold cutS str
 simp only [zd5,zdn,zdj]
 rw [if_pos ⟨Nat.zero_le _,hk⟩,zjf];simp
theorem yie {l:List UInt8} {a b:Nat} (h1:a≤b) (h2:b≤l.length) (kk kj:IntKind):cutS h (some (.int kk (a:Int))) (some (.int kj (b:Int))) (str l)=some (str ((l.drop a).take (b - a)),h):=by
 unfold cutS str
 simp only [zd5,zdj]
 rw [if_pos ⟨h1,h2⟩,zjf]
theorem zpk (a b:List UInt8):ve .str (str a) (str b)=some (a==b):=by
 show some ((⟨a.toArray⟩:ByteArray)==⟨b.toArray⟩)=some (a==b)
 have e:((⟨a.toArray⟩:ByteArray)==⟨b.toArray⟩)=(a.toArray==b.toArray):=rfl
 rw [e];simp
theorem fm (f:FuncId) (a b:List Operand):evOp call ρ h (.func f a b)=some (.func (.func f) (a.map ρ).toArray (b.map ρ).toArray,h):=rfl
def yib (call:vf) (h:Heap) (xs:List Value):Value→Option (Value×Heap)
 | .func (.func g) a b=>call g (a.toList++xs++b.toList) h
 | _=>none
theorem pm (f:Operand) (xs:List Operand):evOp call ρ h (.callv f xs)=yib call h (xs.map ρ) (ρ f):=by
 simp only [evOp];generalize ρ f=x
 cases x with
 | func g a b=>cases g <;> rfl
 | _=>rfl
theorem qi (xs:List Value) (g:FuncId) (a b:List Value):yib call h xs (.func (.func g) a.toArray b.toArray)=call g (a++xs++b) h:=by simp [yib]
end
def digV (n:Int):Bool:=decide (48≤n)&&decide (n≤57)
def letV (n:Int):Bool:=(decide (97≤n)&&decide (n≤122)) || (decide (65≤n)&&decide (n≤90))
theorem k7 (n:Int) (h:Heap):DF FF zcy [.int .u8 n] h=some (.bool (digV n),h):=by
 refine ye ztl ?_
 unfold digV
 by_cases h1:48≤n <;> simp only [zl1,zi,zb,yos,h1,pkA,pkB]
theorem xo (n:Int) (h:Heap):DF FF gn [.int .u8 n] h=some (.bool (digV n),h):=by
 refine ye zit ?_
 unfold digV
 by_cases h1:48≤n <;> simp only [zd2,zi,zb,yos,h1,pkA,pkB]
theorem fp (n:Int) (h:Heap):DF FF zbx [.int .u8 n] h=some (.bool (letV n),h):=by
 refine ye zrr ?_
 unfold letV
 by_cases h1:97≤n <;> by_cases h2:n≤122 <;> by_cases h3:65≤n <;> simp only [zkr,zi,zb,yos,h1,h2,h3,pkA,pkB]
theorem vd (n:Int) (h:Heap):DF FF f8 [.int .u8 n] h=some (.bool (letV n),h):=by
 refine ye zig ?_
 unfold letV
 by_cases h1:97≤n <;> by_cases h2:n≤122 <;> by_cases h3:65≤n <;> simp only [zc6,zi,zb,yos,h1,h2,h3,pkA,pkB]
def numB (n:Int):Bool:=letV n || digV n
def namB (n:Int):Bool:=numB n || (n==95 || n==46)
theorem ygq (n:Int) (h:Heap):DF FF zcb [.int .u8 n] h=some (.bool (numB n),h):=by
 refine ye zm2 ?_
 unfold numB
 cases h1:letV n <;> simp only [zhf,zi,yos,fp,k7,h1,pkA,pkB]
theorem yg8 (n:Int) (h:Heap):DF FF zb0 [.int .u8 n] h=some (.bool (namB n),h):=by
 refine ye zm4 ?_
 unfold namB numB
 cases h1:letV n <;> cases h2:digV n <;> cases h3:(n==95)<;> simp only [zhr,zi,zb,yos,fp,k7,h1,h2,h3,pkA,pkB]
def rowN (p:Int→Bool):List UInt8→Nat
 | []=>0
 | c::l=>if p (c.toNat:Int) then rowN p l+1 else 0
theorem zhh (p:Int→Bool):∀l,rowN p l≤l.length
 | []=>yoz _
 | c::l=>by
  have:=zhh p l
  unfold rowN;split <;> simp <;> omega
theorem zn3 (p:Int→Bool):∀(l:List UInt8) (k:Nat) (hk:k<l.length),k≤rowN p l→(p (l[k].toNat:Int)=true↔k<rowN p l)
 | c::l,0,hk,h=>by
  unfold rowN
  by_cases hp:p (c.toNat:Int)=true
  ·simp [hp]
  ·simp [hp]
 | c::l,k+1,hk,h=>by
  unfold rowN at h ⊢
  by_cases hp:p (c.toNat:Int)=true
  ·rw [if_pos hp] at h ⊢
   have:=zn3 p l k (by simpa using hk) (by omega)
   simp only [List.getElem_cons_succ]
   rw [this];omega
  ·rw [if_neg hp] at h;omega
theorem zpr {F:FuncId} {p:Int→Bool} (hF:∀(n:Int) (h:Heap),DF FF F [.int .u8 n] h=some (.bool (p n),h)) (l:List UInt8) (hl:l.length<4611686018427387904) (h:Heap):
  DF FF zif [str l,.func (.func F) #[] #[]] h=some (.int .i64 (rowN p l:Nat),h):=by
 refine ye zy9 ?_
 simp only [zpw,yor,yos,pkA,pkB]
 have hle:=zhh p l
 have cf:∀(xs:List Value),yib (DF FF) h xs (.func (.func F) #[] #[])=DF FF F xs h:=fun xs=>by
  have:=qi (call:=DF FF) h xs F [] []
  simpa using this
 refine gg (rowN p l) (fun k st=>∃j:Nat→Value,st=⟨[str l,.func (.func F) #[] #[],j 2,j 3,j 4,.int .i64 (k:Int),j 6,j 7,j 8,j 9,j 10,j 11,j 12,j 13,j 14,j 15,j 16,j 17,j 18,j 19],h⟩) ?_ ?_ _ ?_
 ·rintro k st hk ⟨j,rfl⟩
  have hkl:k<l.length:=by omega
  have h1:(k:Int)<(l.length:Int):=by omega
  have hp:=(zn3 p l k hkl (by omega)).2 hk
  simp only [zi,zb,zc,zu,zh,h1,yr,xl _ hkl,pm,cf,hF,hp,zs (k:=k) (by omega),pkA]
  exact junk rfl
 ·rintro st ⟨j,rfl⟩
  by_cases hkl:rowN p l<l.length
  ·have h1:((rowN p l:Nat):Int)<(l.length:Int):=by omega
   have hp:p (l[rowN p l].toNat:Int)=false:=by
    rw [←Bool.not_eq_true,zn3 p l _ hkl (yoz _)];omega
   simp only [zi,zb,zq,zu,zh,h1,yr,xl _ hkl,pm,cf,hF,hp,pkA]
  ·have h1:¬(((rowN p l:Nat):Int)<(l.length:Int)):=by omega
   simp only [zi,zb,zq,zu,zh,h1,pkA]
 ·exact junk rfl
theorem zf (l:List UInt8):(.string ⟨l.toArray⟩:Value)=str l:=rfl
theorem z6 (h:Heap) (p:Addr) (l:List UInt8):zdr h (.pointer (some p)) (str l)=zfn (h.write1 p (str l)):=rfl
theorem zn5 (a b:List UInt8):((⟨a.toArray⟩:ByteArray)==⟨b.toArray⟩)=(a==b):=by
 have e:((⟨a.toArray⟩:ByteArray)==⟨b.toArray⟩)=(a.toArray==b.toArray):=rfl
 rw [e];simp
theorem yf (a b:List UInt8):vo .eql (str a) (str b)=some (.bool (a==b)):=by
 show some (Value.bool ((⟨a.toArray⟩:ByteArray)==⟨b.toArray⟩))=_
 rw [zn5]
theorem zcg (a b:List UInt8):vo .neq (str a) (str b)=some (.bool (a !=b)):=by
 show some (Value.bool !((⟨a.toArray⟩:ByteArray)==⟨b.toArray⟩))=_
 rw [zn5];rfl
def Gl (h:Heap):Prop:=(∃m,h[0]?=some (AObj.cells [.int .i64 m] 0 true))∧∃E,h[1]?=some (AObj.cells [E] 0 true)∧yhc E=true
theorem Gl.pre {h H:Heap} (g:Gl h) (p:Pre h H):Gl H:=by
 obtain ⟨⟨m,g0⟩,E,g1,g2⟩:=g
 refine ⟨⟨m,?_⟩,E,?_,g2⟩
 ·rw [p.get (yoq.1 g0).1];exact g0
 ·rw [p.get (yoq.1 g1).1];exact g1
theorem Gl.more {h:Heap} (g:Gl h) (L:Heap):Gl (h++L):=g.pre ((Pre.refl h).more L)
theorem yhs (p s:List UInt8) (h:p.length≤s.length):(s.take p.length==p)=p.isPrefixOf s:=by
 rw [yp7,beq_iff_eq,List.isPrefixOf_iff_prefix,List.prefix_iff_eq_take]
 exact ⟨fun h=>h.symm,fun h=>h.symm⟩
theorem ztt (p s:List UInt8) (h:s.length<p.length):p.isPrefixOf s=false:=by
 rw [←Bool.not_eq_true,List.isPrefixOf_iff_prefix]
 intro hp;have:=hp.length_le;omega
theorem zc4 (s p:List UInt8) (h:Heap):DF FF wz [str s,str p] h=some (.bool (p.isPrefixOf s),h):=by
 refine ye zcd ?_
 by_cases hl:p.length≤s.length
 ·have c1:((p.length:Int)≤(s.length:Int))=True:=by simp;exact hl
  simp only [jd,zi,zb,yor,yos,zu,zh,c1,xk,ybd h hl,yf,yhs p s hl,pkA,pkB]
 ·have c1:((p.length:Int)≤(s.length:Int))=False:=by simp;omega
  simp only [jd,zi,zb,yor,yos,zu,zh,c1,ztt p s (by omega),pkA,pkB]
theorem xz (s p:List UInt8) (h:Heap):DF FF gp [str s,str p] h=some (.bool (p.isPrefixOf s),h):=by
 refine ye zjq ?_
 simp only [zdq,yor,yos,zc4,pkA,pkB]
theorem zq7 {p s:List UInt8} (h:p.isPrefixOf s=true):p.length≤s.length:=by
 rw [List.isPrefixOf_iff_prefix] at h;exact h.length_le
theorem zmo (s p:List UInt8) (h:Heap):DF FF jg [str s,str p] h=some (tup [str (if p.isPrefixOf s then s.drop p.length else s),.bool (p.isPrefixOf s)],h):=by
 refine ye zce ?_
 cases hp:p.isPrefixOf s
 ·simp only [je,zb,yor,yos,pa,zz,zf,zc4,hp,pkA,pkB];rfl
 ·simp only [je,zb,yor,yos,pa,zz,zf,zc4,hp,if_true,zu,zh,xk,zju h (zq7 hp),pkA,pkB]
theorem xy (s p:List UInt8) (h:Heap):DF FF zbc [str s,str p] h=some (tup [str (if p.isPrefixOf s then s.drop p.length else s),.bool (p.isPrefixOf s)],h):=by
 refine ye zjc ?_
 simp only [zdv,zb,yor,yos,pa,zz,zmo,pkA,pkB]
theorem zzn:FF 101=none:=by kernel_rfl
theorem zoz:FF 105=none:=by kernel_rfl
theorem zox:FF 104=none:=by kernel_rfl
theorem yb4:FF.ext=known:=rfl
theorem ztu (s p:List UInt8) {h:Heap} (g:Gl h) (hl:s.length<4294967281):DF FF 101 [str s,str p] h=some (.int .i64 (Lib.index s p),h):=by
 rw [yd2 zzn,yb4]
 obtain ⟨⟨m,g0⟩,_⟩:=g
 show known 101 [.string ⟨s.toArray⟩,.string ⟨p.toArray⟩] h=_
 unfold known zs8 zrn
 rw [if_neg (by decide),if_pos rfl]
 simp only [g0]
 rw [if_pos (by rw [zdj];exact hl)]
theorem zme (s:List UInt8) (c:Int) (h:Heap):DF FF 105 [str s,.int .u8 c] h=some (.int .i64 (Lib.indexByte s c.toNat.toUInt8),h):=by
 rw [yd2 zoz,yb4]
 show known 105 [.string ⟨s.toArray⟩,.int .u8 c] h=_
 unfold known zs8 zuo
 rw [if_neg (by decide),if_neg (by decide),if_pos rfl]
theorem zhx (s p:List UInt8) {h:Heap} (g:Gl h) (hl:s.length<4294967281):DF FF zb6 [str s,str p] h=some (.int .i64 (Lib.index s p),h):=by
 refine ye zoj ?_
 have:=ztu s p g hl
 simp only [zhy,yor,yos,pn,this,pkA,pkB]
theorem zd0 (s:List UInt8) (c:Int) (h:Heap):DF FF zbg [str s,.int .u8 c] h=some (.int .i64 (Lib.indexByte s c.toNat.toUInt8),h):=by
 refine ye zi0 ?_
 simp only [zea,yor,yos,f6,zme,pkA,pkB]
theorem vx (s p:List UInt8) {h:Heap} (g:Gl h) (hl:s.length<4294967281):DF FF zb5 [str s,str p] h=some (.bool (decide (0≤Lib.index s p)),h):=by
 refine ye zkb ?_
 simp only [zel,zb,yor,yos,zhx s p g hl,pkA,pkB]
def zno:Option Nat→Value
 | some u=>tup [.int .u64 u,.nilIface]
 | none=>tup [.int .u64 0,ya1]
theorem zhv (s:List UInt8) (b:Int) {h:Heap} (g:Gl h) (hl:s.length<4294967281) {r:Option Nat} (hr:zex b ⟨s.toArray⟩=some r):DF FF zds [str s,.int .i64 b,.int .i64 64] h=some (zno r,h):=by
 show DF FF 104 [.string ⟨s.toArray⟩,.int .i64 b,.int .i64 64] h=_
 rw [yd2 zox,yb4]
 obtain ⟨_,E,g1,g2⟩:=g
 unfold known zqn
 rw [if_pos rfl]
 simp only [g1]
 rw [if_pos ⟨g2,by rw [zdj];exact hl⟩,hr]
 cases r <;> rfl
end Go.Proofs.YtljdbheclfaloaaGreatDoor.AM
