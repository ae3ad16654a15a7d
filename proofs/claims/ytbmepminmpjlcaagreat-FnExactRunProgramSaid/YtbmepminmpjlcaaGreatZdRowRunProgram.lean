/- Part 4 of the proof of the row of the text YtbmepminmpjlcaaGreatZRowRunProgram: texts joined. No conditions. -/
import Derived.Test.YtbmepminmpjlcaaGreatProg
import Derived.KernelRfl
import Derived.Test.YtbmepminmpjlcaaGreatZcRowRunProgram
set_option linter.unusedSimpArgs false
set_option linter.unusedVariables false
set_option linter.unusedSectionVars false
namespace Go.Proofs.YtbmepminmpjlcaaGreat
open Go Go.TL
theorem Qz:Tryz.prog.follows .mixedOrders=true:=by kernel_rfl
abbrev Jlt (d s x:Nat):GI:=(none,.load d .take false s (.t x))
abbrev Jlc (d s x:Nat):GI:=(none,.load d .copy false s (.t x))
abbrev JlT (d s x:Nat):GI:=(none,.load d .take true s (.t x))
abbrev JlC (d s x:Nat):GI:=(none,.load d .copy true s (.t x))
abbrev Jmc (d x:Nat):GI:=(none,.mv d .copy (.t x))
abbrev Jmt (d x:Nat):GI:=(none,.mv d .take (.t x))
abbrev Jfa (d o x:Nat):GI:=(none,.fieldA d o (.t x))
abbrev Jia (d s x y:Nat):GI:=(none,.indexA d s (.t x) (.t y))
abbrev Jln (d x:Nat):GI:=(none,.len d (.t x))
abbrev Jbe (d x:Nat) (v:Int):GI:=(none,.bin d .num .eql (.t x) (.k (N v)))
abbrev Jba (d x:Nat) (v:Int):GI:=(none,.bin d .num .add (.t x) (.k (N v)))
abbrev Jbl (d x y:Nat):GI:=(none,.bin d .num .lss (.t x) (.t y))
abbrev Jst (s x y:Nat):GI:=(none,.store s (.t x) (.t y))
def MD:Nat→Nat→List Md
 | 0,_=>[]
 | f+1,n=>if n=0 then [] else (if n % 8=1 then .copy else if n % 8=2 then .take else if n % 8=3 then .frz else .own)::MD f (n / 8)
def MM (l:List (Nat×Nat)):List (Nat×List Md):=l.map fun x=>(x.1,MD 200 x.2)
def Jg:FuncId:=3
def Vm:FuncId:=7
def Jt:FuncId:=8
def Zy:FuncId:=9
def Yt:FuncId:=10
def X7:FuncId:=11
def YC:FuncId:=12
def Ya:FuncId:=13
def ZG:FuncId:=14
def Vh:FuncId:=15
def ZB:FuncId:=16
def Jx:FuncId:=17
def Kx:FuncId:=18
def JB:FuncId:=19
def ZW:FuncId:=20
def V4:FuncId:=22
def VZ:FuncId:=25
def Ji:FuncId:=27
def VX:FuncId:=29
def Z0:FuncId:=31
def Yp:FuncId:=32
def Jz:FuncId:=33
def Jl:FuncId:=38
def VW:FuncId:=39
def ZaI:FuncId:=40
def ZaX:FuncId:=41
def KJ:FuncId:=42
def Js:FuncId:=43
def Zak:FuncId:=44
def Za1:FuncId:=45
def Vt:FuncId:=46
def Xr:FuncId:=47
def ZaO:FuncId:=48
def V5:FuncId:=49
def Kq:FuncId:=50
def ZV:FuncId:=51
def XP:FuncId:=58
def W5:FuncId:=60
def VN:FuncId:=67
def WL:FuncId:=68
def ZM:FuncId:=69
def W4:FuncId:=70
def X6:FuncId:=71
def QU:FuncId:=72
def V2:FuncId:=73
def WE:FuncId:=74
def Zn:FuncId:=75
def Wr:FuncId:=76
def XR:FuncId:=77
def Yy:FuncId:=78
def QF:FuncId:=79
def Qs:FuncId:=80
def ZaF:FuncId:=82
def Ze:FuncId:=84
def W9:FuncId:=85
def Z2:FuncId:=87
def W8:FuncId:=88
def X5:FuncId:=90
def Vz:FuncId:=91
def ZR:FuncId:=92
def JA:FuncId:=94
def Kz:FuncId:=95
def Zq:FuncId:=96
def Jj:FuncId:=97
def YB:FuncId:=98
def WH:FuncId:=99
def ZT:FuncId:=100
def YI:FuncId:=101
def XI:FuncId:=102
def X1:FuncId:=103
def Wl:FuncId:=104
def Jh:FuncId:=105
def ZO:FuncId:=106
def Wq:FuncId:=107
def VF:FuncId:=108
def Yi:FuncId:=109
def Vg:FuncId:=110
def KB:FuncId:=111
def Vl:FuncId:=112
def Zc:FuncId:=113
def ZS:FuncId:=114
def Wx:FuncId:=115
def Xc:FuncId:=116
def QC:FuncId:=117
def ZE:FuncId:=118
def WQ:FuncId:=119
def KN:FuncId:=121
def KP:FuncId:=122
def Xo:FuncId:=123
def Xd:FuncId:=124
def VC:FuncId:=125
def Vk:FuncId:=126
def ZbV:FuncId:=127
def Zb9:FuncId:=128
def Zag:FuncId:=129
def KO:FuncId:=130
def Jy:FuncId:=131
def KQ:FuncId:=132
def QA:FuncId:=133
def W0:FuncId:=134
def Y8:FuncId:=135
def Ye:FuncId:=136
def VG:FuncId:=137
def Yw:FuncId:=138
def ZbL:FuncId:=139
def XE:FuncId:=140
def Y3:FuncId:=141
def Zu:FuncId:=142
def WP:FuncId:=143
def ZaK:FuncId:=144
def ZaZ:FuncId:=145
def KM:FuncId:=146
def KK:FuncId:=147
def Za3:FuncId:=148
def Zat:FuncId:=149
def XX:FuncId:=150
def XU:FuncId:=151
def WG:FuncId:=152
def YN:FuncId:=153
def Q6:FuncId:=154
def WR:FuncId:=155
def WS:FuncId:=156
def ZcJ:FuncId:=157
def W1:FuncId:=158
def ZaN:FuncId:=159
def V9:FuncId:=160
def YM:FuncId:=161
def YH:FuncId:=162
def Xl:FuncId:=163
def ZaP:List (Nat×List Md):=MM [(2,138),(5,138),(8,147256054410),(9,18),(10,18),(11,2300875913),(12,4493961),(14,1105),(16,1105),(19,137),(20,137),(21,18407035465),(24,137),(25,137),(27,137),(30,137),(35,147256054410),(36,4788873),(39,137),(42,138),(1000001,1737)]
def Jn : C := (.seq (.reg [(none, .box 2 (.t 0)),(none, .box 3 (.t 1)),(none, .mv 4 .copy (.k (.sc (.bool false))))]) (.seq (.seq (.frz 2) (.seq (.frz 3) (.reg [(none, .mv 5 .copy (.k (N 1048576)))]))) (.seq (.reg [(JlT 23 4 2),(Jmc 24 5),(none, .call .any (some 25) (.k (.fn Vm [])) [(.t 23), (.t 24)]),(Jmc 5 25)]) (.seq (.seq (.reg [(Jmc 26 5),(none, .bin 27 .num .lss (.t 26) (.k (N 0)))]) (.cond (.t 27) (.seq (.reg [(none, .mv 4 .copy (.k (.sc (.bool true))))])
 .ret)
 .skip)) (.seq (.reg [(JlT 28 4 3),(Jmc 29 5),(none, .call .any (some 30) (.k (.fn Jt [])) [(.t 28), (.t 29)]),(Jmc 5 30)]) (.seq (.seq (.reg [(Jmc 31 5),(none, .bin 32 .num .lss (.t 31) (.k (N 0)))]) (.cond (.t 32) (.seq (.reg [(none, .mv 4 .copy (.k (.sc (.bool true))))])
 .ret)
 .skip)) (.seq (.reg [(JlT 34 4 2),(none, .call .no (some 35) (.k (.fn Yt [])) [(.t 34)]),(JlT 36 4 3),(none, .call .no (some 37) (.k (.fn X7 [])) [(.t 36)]),(none, .call .no (some 38) (.k (.fn Zy [])) [(.t 35), (.t 37)]),(Jmt 33 38),(none, .extract 39 0 (.t 33)),(none, .extract 40 1 (.t 33)),(none, .extract 41 2 (.t 33)),(none, .extract 42 3 (.t 33)),(none, .alloc 6 [(N 0), (N 0), (.sl true true 1 []), (.sl true true 1 [])]),(Jst 4 6 39),(Jmt 7 40),(Jmc 8 41),(Jmc 9 42)]) (.seq (.reg [(JlT 43 4 2),(none, .call .any (some 44) (.k (.fn Yt [])) [(.t 43)]),(none, .alloc 10 [(N 0), (.sl true true 1 []), (.sl true true 1 []), (.sl true true 1 [])]),(Jst 4 10 44)]) (.seq (.reg [(JlT 45 4 3),(none, .call .any (some 46) (.k (.fn X7 [])) [(.t 45)]),(none, .alloc 11 [(N 0), (N 0), (.sl true true 1 []), (.sl true true 1 [])]),(Jst 4 11 46)]) (.seq (.reg [(JlC 48 4 10),(JlC 49 4 11),(none, .call .any (some 50) (.k (.fn YC [])) [(.t 48), (.t 49)]),(Jmt 47 50),(none, .extract 51 0 (.t 47)),(none, .extract 52 1 (.t 47)),(none, .extract 53 2 (.t 47)),(none, .extract 54 3 (.t 47)),(none, .alloc 12 [(N 0), (N 0), (.sl true true 1 []), (.sl true true 1 [])]),(Jst 4 12 51),(Jmt 13 52),(Jmc 14 53),(Jmc 15 54)]) (.seq (.seq (.reg [(JlC 55 4 12),(JlC 56 4 6),(none, .call .any (some 57) (.k (.fn Ya [])) [(.t 55), (.t 56)]),(none, .un 58 .not (.t 57)),(Jmc 59 58),(some (59, false), .mv 60 .copy (.t 13)),(some (59, false), .mv 61 .copy (.t 7)),(some (59, false), .call .any (some 62) (.k (.fn ZG [])) [(.t 60), (.t 61)]),(some (59, false), .un 63 .not (.t 62)),(none, .pick 64 (.t 59) (.k (.sc (.bool true))) (.t 63)),(Jmc 65 64),(some (65, false), .mv 66 .copy (.t 14)),(some (65, false), .mv 67 .copy (.t 8)),(some (65, false), .bin 68 .num .neq (.t 66) (.t 67)),(none, .pick 69 (.t 65) (.k (.sc (.bool true))) (.t 68)),(Jmc 70 69),(some (70, false), .mv 71 .copy (.t 15)),(some (70, false), .mv 72 .copy (.t 9)),(some (70, false), .bin 73 .bool .neq (.t 71) (.t 72)),(none, .pick 74 (.t 70) (.k (.sc (.bool true))) (.t 73))]) (.cond (.t 74) (.seq (.reg [(none, .mv 4 .copy (.k (.sc (.bool false))))])
 .ret)
 .skip)) (.seq (.seq (.reg [(JlC 75 4 10),(JlT 76 4 2),(none, .call .no (some 77) (.k (.fn Yt [])) [(.t 76)]),(none, .call .any (some 78) (.k (.fn Vh [])) [(.t 75), (.t 77)]),(none, .un 79 .not (.t 78))]) (.cond (.t 79) (.seq (.reg [(none, .mv 4 .copy (.k (.sc (.bool false))))])
 .ret)
 .skip)) (.seq (.seq (.reg [(JlC 80 4 11),(JlT 81 4 3),(none, .call .no (some 82) (.k (.fn X7 [])) [(.t 81)]),(none, .call .any (some 83) (.k (.fn Ya [])) [(.t 80), (.t 82)]),(none, .un 84 .not (.t 83))]) (.cond (.t 84) (.seq (.reg [(none, .mv 4 .copy (.k (.sc (.bool false))))])
 .ret)
 .skip)) (.seq (.reg [(none, .mv 16 .copy (.k (N 1)))]) (.seq (.reg [(JlC 85 4 10),(Jmc 86 16),(none, .call .any (some 87) (.k (.fn ZB [])) [(.t 85), (.t 86)]),(Jmc 16 87)]) (.seq (.reg [(JlC 88 4 11),(Jmc 89 16),(none, .call .any (some 90) (.k (.fn Jx [])) [(.t 88), (.t 89)]),(Jmc 16 90)]) (.seq (.seq (.reg [(Jmc 91 16),(none, .bin 92 .num .lss (.t 91) (.k (N 0))),(Jmc 93 92),(some (93, false), .load 94 .copy true 4 (.t 12)),(some (93, false), .load 95 .copy true 4 (.t 6)),(some (93, false), .call .any (some 96) (.k (.fn Ya [])) [(.t 94), (.t 95)]),(some (93, false), .un 97 .not (.t 96)),(none, .pick 98 (.t 93) (.k (.sc (.bool true))) (.t 97)),(Jmc 99 98),(some (99, false), .mv 100 .copy (.t 13)),(some (99, false), .mv 101 .copy (.t 7)),(some (99, false), .call .any (some 102) (.k (.fn ZG [])) [(.t 100), (.t 101)]),(some (99, false), .un 103 .not (.t 102)),(none, .pick 104 (.t 99) (.k (.sc (.bool true))) (.t 103)),(Jmc 105 104),(some (105, false), .mv 106 .copy (.t 14)),(some (105, false), .mv 107 .copy (.t 8)),(some (105, false), .bin 108 .num .neq (.t 106) (.t 107)),(none, .pick 109 (.t 105) (.k (.sc (.bool true))) (.t 108)),(Jmc 110 109),(some (110, false), .mv 111 .copy (.t 15)),(some (110, false), .mv 112 .copy (.t 9)),(some (110, false), .bin 113 .bool .neq (.t 111) (.t 112)),(none, .pick 114 (.t 110) (.k (.sc (.bool true))) (.t 113))]) (.cond (.t 114) (.seq (.reg [(none, .mv 4 .copy (.k (.sc (.bool false))))])
 .ret)
 .skip)) (.seq (.reg [(none, .mv 17 .copy (.k (N 1)))]) (.seq (.reg [(JlC 115 4 12),(Jmc 116 17),(none, .call .any (some 117) (.k (.fn Jx [])) [(.t 115), (.t 116)]),(Jmc 17 117)]) (.seq (.reg [(Jmc 118 13),(Jmc 119 17),(none, .call .any (some 120) (.k (.fn Kx [])) [(.t 118), (.t 119)]),(Jmc 17 120)]) (.seq (.reg [(none, .mv 18 .copy (.k (N 1)))]) (.seq (.reg [(JlC 121 4 12),(Jmc 122 18),(none, .call .any (some 123) (.k (.fn JB [])) [(.t 121), (.t 122)]),(Jmc 18 123)]) (.seq (.seq (.reg [(Jmc 124 18),(none, .bin 125 .num .lss (.t 124) (.k (N 0)))]) (.cond (.t 125) (.seq (.reg [(none, .mv 4 .copy (.k (.sc (.bool false))))])
 .ret)
 .skip)) (.seq (.reg [(Jmc 126 13),(Jmc 127 18),(none, .call .any (some 128) (.k (.fn ZW [])) [(.t 126), (.t 127)]),(Jmc 18 128)]) (.seq (.seq (.reg [(Jmc 129 18),(none, .bin 130 .num .lss (.t 129) (.k (N 0)))]) (.cond (.t 130) (.seq (.reg [(none, .mv 4 .copy (.k (.sc (.bool false))))])
 .ret)
 .skip)) (.seq (.seq (.reg [(Jmc 131 18),(Jmc 132 17),(none, .bin 133 .num .neq (.t 131) (.t 132))]) (.cond (.t 133) (.seq (.reg [(none, .mv 4 .copy (.k (.sc (.bool false))))])
 .ret)
 .skip)) (.seq (.reg [(JlT 135 4 2),(none, .call .no (some 136) (.k (.fn Yt [])) [(.t 135)]),(JlT 137 4 3),(none, .call .no (some 138) (.k (.fn X7 [])) [(.t 137)]),(none, .call .no (some 139) (.k (.fn YC [])) [(.t 136), (.t 138)]),(Jmt 134 139),(none, .extract 140 0 (.t 134)),(none, .extract 141 1 (.t 134)),(none, .extract 142 2 (.t 134)),(none, .extract 143 3 (.t 134)),(none, .alloc 19 [(N 0), (N 0), (.sl true true 1 []), (.sl true true 1 [])]),(Jst 4 19 140),(Jmt 20 141),(Jmc 21 142),(Jmc 22 143)]) (.seq (.seq (.reg [(JlC 144 4 19),(JlC 145 4 6),(none, .call .any (some 146) (.k (.fn Ya [])) [(.t 144), (.t 145)]),(none, .un 147 .not (.t 146)),(Jmc 148 147),(some (148, false), .mv 149 .take (.t 20)),(some (148, false), .mv 150 .take (.t 7)),(some (148, false), .call .any (some 151) (.k (.fn ZG [])) [(.t 149), (.t 150)]),(some (148, false), .un 152 .not (.t 151)),(none, .pick 153 (.t 148) (.k (.sc (.bool true))) (.t 152)),(Jmc 154 153),(some (154, false), .mv 155 .copy (.t 21)),(some (154, false), .mv 156 .copy (.t 8)),(some (154, false), .bin 157 .num .neq (.t 155) (.t 156)),(none, .pick 158 (.t 154) (.k (.sc (.bool true))) (.t 157)),(Jmc 159 158),(some (159, false), .mv 160 .copy (.t 22)),(some (159, false), .mv 161 .copy (.t 9)),(some (159, false), .bin 162 .bool .neq (.t 160) (.t 161)),(none, .pick 163 (.t 159) (.k (.sc (.bool true))) (.t 162))]) (.cond (.t 163) (.seq (.reg [(none, .mv 4 .copy (.k (.sc (.bool false))))])
 .ret)
 .skip)) (.seq (.reg [(none, .mv 18 .copy (.k (N 1)))]) (.seq (.reg [(JlC 164 4 12),(Jmc 165 18),(none, .call .any (some 166) (.k (.fn JB [])) [(.t 164), (.t 165)]),(Jmc 18 166)]) (.seq (.seq (.reg [(Jmc 167 18),(none, .bin 168 .num .lss (.t 167) (.k (N 0)))]) (.cond (.t 168) (.seq (.reg [(none, .mv 4 .copy (.k (.sc (.bool false))))])
 .ret)
 .skip)) (.seq (.reg [(Jmt 169 13),(Jmc 170 18),(none, .call .any (some 171) (.k (.fn ZW [])) [(.t 169), (.t 170)]),(Jmc 18 171)]) (.seq (.seq (.reg [(Jmc 172 18),(none, .bin 173 .num .lss (.t 172) (.k (N 0)))]) (.cond (.t 173) (.seq (.reg [(none, .mv 4 .copy (.k (.sc (.bool false))))])
 .ret)
 .skip)) (.seq (.seq (.reg [(Jmc 174 18),(Jmc 175 17),(none, .bin 176 .num .neq (.t 174) (.t 175))]) (.cond (.t 176) (.seq (.reg [(none, .mv 4 .copy (.k (.sc (.bool false))))])
 .ret)
 .skip)) (.seq (.reg [(none, .mv 4 .copy (.k (.sc (.bool true))))])
 .ret)))))))))))))))))))))))))))))))))))
theorem ZaM:Qq Tryz.prog Jg ZaP=some (Jn,[.tmp 4],177):=by kernel_rfl
def ZhH:List (Nat×List Md):=MM [(1,17),(4,17),(7,17),(1000001,201)]
def Zcs : C := (.seq (.reg [(none, .box 2 (.t 0)),(none, .mv 4 .copy (.k (N 0)))]) (.seq (.seq (.frz 2) (.reg [(Jfa 5 1 2),(Jlt 6 1 5),(Jmc 7 1),(none, .call .no (some 8) (.k (.fn Jl [])) [(.t 6), (.t 7)]),(Jmc 1 8)])) (.seq (.seq (.reg [(Jmc 9 1),(none, .bin 10 .num .lss (.t 9) (.k (N 0)))]) (.cond (.t 10) (.seq (.reg [(none, .mv 4 .copy (.k (N (-1))))])
 .ret)
 .skip)) (.seq (.reg [(Jfa 11 2 2),(Jlt 12 1 11),(Jmc 13 1),(none, .call .no (some 14) (.k (.fn Jl [])) [(.t 12), (.t 13)]),(Jmc 1 14)]) (.seq (.seq (.reg [(Jmc 15 1),(none, .bin 16 .num .lss (.t 15) (.k (N 0)))]) (.cond (.t 16) (.seq (.reg [(none, .mv 4 .copy (.k (N (-1))))])
 .ret)
 .skip)) (.seq (.reg [(Jfa 17 3 2),(Jlt 18 1 17),(Jmc 19 1),(none, .call .no (some 20) (.k (.fn VW [])) [(.t 18), (.t 19)]),(Jmc 1 20)]) (.seq (.seq (.reg [(Jmc 21 1),(none, .bin 22 .num .lss (.t 21) (.k (N 0)))]) (.cond (.t 22) (.seq (.reg [(none, .mv 4 .copy (.k (N (-1))))])
 .ret)
 .skip)) (.seq (.reg [(Jmc 23 1),(Jmc 4 23)])
 .ret))))))))
theorem ZhO:Qq Tryz.prog Vm ZhH=some (Zcs,[.tmp 4],24):=by kernel_rfl
def Zkx:List (Nat×List Md):=MM [(1,17),(4,17),(1000001,201)]
def Zem : C := (.seq (.reg [(none, .box 2 (.t 0)),(none, .mv 4 .copy (.k (N 0)))]) (.seq (.seq (.frz 2) (.reg [(Jfa 5 2 2),(Jlt 6 1 5),(Jmc 7 1),(none, .call .no (some 8) (.k (.fn Jl [])) [(.t 6), (.t 7)]),(Jmc 1 8)])) (.seq (.seq (.reg [(Jmc 9 1),(none, .bin 10 .num .lss (.t 9) (.k (N 0)))]) (.cond (.t 10) (.seq (.reg [(none, .mv 4 .copy (.k (N (-1))))])
 .ret)
 .skip)) (.seq (.reg [(Jfa 11 3 2),(Jlt 12 1 11),(Jmc 13 1),(none, .call .no (some 14) (.k (.fn V4 [])) [(.t 12), (.t 13)]),(Jmc 1 14)]) (.seq (.seq (.reg [(Jmc 15 1),(none, .bin 16 .num .lss (.t 15) (.k (N 0)))]) (.cond (.t 16) (.seq (.reg [(none, .mv 4 .copy (.k (N (-1))))])
 .ret)
 .skip)) (.seq (.reg [(Jmc 17 1),(Jmc 4 17)])
 .ret))))))
theorem ZkP:Qq Tryz.prog Jt Zkx=some (Zem,[.tmp 4],18):=by kernel_rfl
def Zft:List (Nat×List Md):=MM [(1,38048850),(2,1097),(4,1098),(5,1169),(8,17),(12,2470546081300386378),(13,4493969),(1000001,1737),(2000005,215975498313)]
def ZaD : C := (.seq (.reg [(none, .box 2 (.t 0)),(none, .box 3 (.t 1)),(none, .alloc 4 [(N 0), (N 0), (.sl true true 1 []), (.sl true true 1 [])]),(none, .mv 5 .copy (.k (.sl true true 2 []))),(none, .mv 6 .copy (.k (N 0))),(none, .mv 7 .copy (.k (.sc (.bool false))))]) (.seq (.seq (.frz 2) (.seq (.frz 3) (.reg [(JlT 16 4 2),(JlT 17 4 3),(none, .call .no (some 18) (.k (.fn ZaI [])) [(.t 16), (.k (.sl true true 1 [])), (.t 17)]),(Jmt 15 18),(none, .extract 19 0 (.t 15)),(none, .extract 20 1 (.t 15)),(none, .extract 21 2 (.t 15)),(Jmt 8 19),(Jmt 9 20),(Jmc 10 21)]))) (.seq (.seq (.reg [(Jmc 22 10),(none, .un 23 .not (.t 22)),(Jmc 24 23),(some (24, false), .mv 25 .take (.t 8)),(some (24, false), .call .no (some 26) (.k (.fn ZaX [])) [(.t 25)]),(some (24, false), .un 27 .not (.t 26)),(none, .pick 28 (.t 24) (.k (.sc (.bool true))) (.t 27))]) (.cond (.t 28) (.seq (.reg [(none, .build 29 [(N 0), (N 0), (.sl true true 1 []), (.sl true true 1 [])] []),(Jst 4 4 29),(none, .mv 5 .copy (.k (.sl true true 2 []))),(none, .mv 6 .copy (.k (N 0))),(none, .mv 7 .copy (.k (.sc (.bool false))))])
 .ret)
 .skip)) (.seq (.reg [(JlT 30 4 2),(none, .build 31 [(N 0), (.sl true true 1 []), (.sl true true 1 []), (.sl true true 1 []), (.sl true true 1 []), (N 0)] [(0, 4, (.t 30))]),(none, .box 32 (.t 31)),(Jmt 11 32)]) (.seq (.seq (.reg [(Jmc 34 11),(JlT 35 4 3),(none, .call .any (some 36) (.k (.fn KJ [])) [(.t 34), (.t 35), (.k (.sl true true 1 [])), (.k (N 1))]),(Jmt 33 36),(none, .extract 37 0 (.t 33)),(none, .extract 38 1 (.t 33)),(none, .alloc 12 [(N 0), (N 0), (.sl true true 1 []), (.sl true true 1 [])]),(Jst 4 12 37),(Jmc 10 38)]) (.frz 12)) (.seq (.seq (.reg [(Jmc 39 10),(none, .un 40 .not (.t 39))]) (.cond (.t 40) (.seq (.reg [(none, .build 41 [(N 0), (N 0), (.sl true true 1 []), (.sl true true 1 [])] []),(Jst 4 4 41),(none, .mv 5 .copy (.k (.sl true true 2 []))),(none, .mv 6 .copy (.k (N 0))),(none, .mv 7 .copy (.k (.sc (.bool false))))])
 .ret)
 .skip)) (.seq (.reg [(none, .bslice 42 2 0 [] []),(Jmt 13 42)]) (.seq (.seq (.reg [(none, .mv 14 .copy (.k (N 0)))]) (.block 0 (.loop (.seq (.seq (.reg [(Jmc 43 14),(Jmc 44 11),(none, .nilchk 45 (.t 44)),(Jfa 46 4 45),(Jlc 47 1 46),(Jln 48 47),(Jbl 49 43 48)]) (.cond (.t 49)
 .skip (.exit 0))) (.seq (.block 1 (.reg [(Jmt 52 13),(Jmc 53 11),(none, .nilchk 54 (.t 53)),(Jfa 55 4 54),(Jlc 56 1 55),(Jmc 57 14),(Jia 58 7 56 57),(Jfa 59 0 58),(Jlc 60 1 59),(Jmc 61 11),(none, .nilchk 62 (.t 61)),(Jfa 63 4 62),(Jlc 64 1 63),(Jmc 65 14),(Jia 66 7 64 65),(Jfa 67 1 66),(Jlc 68 1 67),(none, .build 69 [(N 0), (N 0)] [(0, 1, (.t 60)), (1, 1, (.t 68))]),(none, .bslice 70 2 1 [(N 0), (N 0)] [(0, 2, (.t 69))]),(none, .append 71 2 (.t 52) (.t 70)),(Jmt 13 71)])) (.reg [(Jmc 50 14),(Jba 51 50 1),(Jmc 14 51)])))))) (.seq (.par [.one (JlC 72 4 12),
 .one (Jmt 73 13),
 .one (Jmt 74 11),
 .one (none, .nilchk 75 (.t 74)),
 .one (Jfa 76 5 75),
 .grp [(Jlc 77 1 76)]
  (Jst 4 4 72),
 .one (Jmt 5 73),
 .one (Jmc 6 77),
 .one (none, .mv 7 .copy (.k (.sc (.bool true))))])
 .ret)))))))))
theorem ZfY:Qq Tryz.prog Zy Zft=some (ZaD,[.cell 4 true 4,.tmp 5,.tmp 6,.tmp 7],78):=by kernel_rfl
def Zhu:List (Nat×List Md):=MM [(2,17),(3,17),(4,17),(5,17),(6,3),(1000001,25)]
def Zcq : C := (.seq (.reg [(none, .box 1 (.t 0)),(none, .alloc 2 [(N 0), (.sl true true 1 []), (.sl true true 1 []), (.sl true true 1 [])])]) (.seq (.seq (.frz 1) (.reg [(none, .alloc 3 [(N 0), (.sl true true 1 []), (.sl true true 1 []), (.sl true true 1 [])])])) (.seq (.reg [(Jfa 4 0 1),(Jlt 5 1 4),(Jfa 6 0 3),(Jst 1 6 5)]) (.seq (.reg [(Jfa 7 1 1),(Jlt 8 1 7),(none, .call .no (some 9) (.k (.fn Js [])) [(.t 8)]),(Jfa 10 1 3),(Jst 1 10 9)]) (.seq (.reg [(Jfa 11 2 1),(Jlt 12 1 11),(none, .call .no (some 13) (.k (.fn Js [])) [(.t 12)]),(Jfa 14 2 3),(Jst 1 14 13)]) (.seq (.reg [(Jfa 15 3 1),(Jlt 16 1 15),(none, .call .no (some 17) (.k (.fn Zak [])) [(.t 16)]),(Jfa 18 3 3),(Jst 1 18 17)]) (.seq (.reg [(none, .load 19 .frz true 4 (.t 3)),(Jst 4 2 19)])
 .ret)))))))
theorem ZhC:Qq Tryz.prog Yt Zhu=some (Zcq,[.cell 2 true 4],20):=by kernel_rfl
def ZkE:List (Nat×List Md):=MM [(2,17),(3,17),(4,17),(5,17),(6,3),(1000001,25)]
def Zev : C := (.seq (.reg [(none, .box 1 (.t 0)),(none, .alloc 2 [(N 0), (N 0), (.sl true true 1 []), (.sl true true 1 [])])]) (.seq (.seq (.frz 1) (.reg [(none, .alloc 3 [(N 0), (N 0), (.sl true true 1 []), (.sl true true 1 [])])])) (.seq (.reg [(Jfa 4 0 1),(Jlt 5 1 4),(Jfa 6 0 3),(Jst 1 6 5)]) (.seq (.reg [(Jfa 7 1 1),(Jlt 8 1 7),(Jfa 9 1 3),(Jst 1 9 8)]) (.seq (.reg [(Jfa 10 2 1),(Jlt 11 1 10),(none, .call .no (some 12) (.k (.fn Js [])) [(.t 11)]),(Jfa 13 2 3),(Jst 1 13 12)]) (.seq (.reg [(Jfa 14 3 1),(Jlt 15 1 14),(none, .call .no (some 16) (.k (.fn VZ [])) [(.t 15)]),(Jfa 17 3 3),(Jst 1 17 16)]) (.seq (.reg [(none, .load 18 .frz true 4 (.t 3)),(Jst 4 2 18)])
 .ret)))))))
theorem ZkO:Qq Tryz.prog X7 ZkE=some (Zev,[.cell 2 true 4],19):=by kernel_rfl
def Zfv:List (Nat×List Md):=MM [(1,38048850),(2,9289),(4,1098),(5,145),(11,137),(12,4493906),(14,4493971),(1000001,1737)]
def Zaw : C := (.seq (.reg [(none, .box 2 (.t 0)),(none, .box 3 (.t 1)),(none, .alloc 4 [(N 0), (N 0), (.sl true true 1 []), (.sl true true 1 [])]),(none, .mv 5 .copy (.k (.sl true true 2 []))),(none, .mv 6 .copy (.k (N 0))),(none, .mv 7 .copy (.k (.sc (.bool false))))]) (.seq (.seq (.frz 2) (.seq (.frz 3) (.reg [(JlT 17 4 2),(JlT 18 4 3),(none, .call .no (some 19) (.k (.fn Za1 [])) [(.t 17), (.k (.sl true true 1 [])), (.t 18)]),(Jmt 16 19),(none, .extract 20 0 (.t 16)),(none, .extract 21 1 (.t 16)),(none, .extract 22 2 (.t 16)),(Jmt 8 20),(Jmt 9 21),(Jmc 10 22)]))) (.seq (.seq (.reg [(Jmc 23 10),(none, .un 24 .not (.t 23)),(Jmc 25 24),(some (25, false), .load 26 .take true 4 (.t 2)),(some (25, false), .mv 27 .take (.t 8)),(some (25, false), .call .no (some 28) (.k (.fn Vt [])) [(.t 26), (.t 27)]),(some (25, false), .un 29 .not (.t 28)),(none, .pick 30 (.t 25) (.k (.sc (.bool true))) (.t 29))]) (.cond (.t 30) (.seq (.reg [(none, .build 31 [(N 0), (N 0), (.sl true true 1 []), (.sl true true 1 [])] []),(Jst 4 4 31),(none, .mv 5 .copy (.k (.sl true true 2 []))),(none, .mv 6 .copy (.k (N 0))),(none, .mv 7 .copy (.k (.sc (.bool false))))])
 .ret)
 .skip)) (.seq (.reg [(JlT 32 4 2),(none, .build 33 [(N 0), (.sl true true 1 []), (.sl true true 1 []), (.sl true true 1 []), (.sl true true 1 []), (N 0), (.sc (.bool false))] [(0, 4, (.t 32))]),(none, .box 34 (.t 33)),(Jmt 11 34)]) (.seq (.reg [(Jmc 35 11),(JlT 36 4 3),(none, .call .any (some 37) (.k (.fn Xr [])) [(.t 35), (.t 36), (.k (.sl true true 1 [])), (.k (N 1))]),(none, .alloc 12 [(N 0), (N 0), (.sl true true 1 []), (.sl true true 1 [])]),(Jst 4 12 37)]) (.seq (.seq (.reg [(Jmc 38 11),(none, .nilchk 39 (.t 38)),(Jfa 40 6 39),(Jlc 41 1 40)]) (.cond (.t 41) (.seq (.reg [(none, .build 42 [(N 0), (N 0), (.sl true true 1 []), (.sl true true 1 [])] []),(Jst 4 4 42),(none, .mv 5 .copy (.k (.sl true true 2 []))),(none, .mv 6 .copy (.k (N 0))),(none, .mv 7 .copy (.k (.sc (.bool false))))])
 .ret)
 .skip)) (.seq (.reg [(none, .mv 13 .copy (.k (.sl true true 2 [])))]) (.seq (.seq (.reg [(Jmc 43 11),(none, .nilchk 44 (.t 43)),(Jfa 45 4 44),(Jlc 46 1 45),(Jln 47 46),(none, .mv 48 .copy (.k (N 0)))]) (.block 0 (.loop (.seq (.reg [(Jbl 49 48 47)]) (.seq (.cond (.t 49)
 .skip (.exit 0)) (.seq (.block 1 (.seq (.reg [(Jia 50 1 46 48),(Jlc 51 1 50),(Jmt 15 51)]) (.reg [(Jmt 52 13),(Jmt 53 15),(none, .nilchk 54 (.t 53)),(Jfa 55 0 54),(JlC 56 2 55),(none, .bslice 57 2 1 [(N 0), (N 0)] [(0, 2, (.t 56))]),(none, .append 58 2 (.t 52) (.t 57)),(Jmt 13 58)]))) (.reg [(Jba 59 48 1),(Jmc 48 59)]))))))) (.seq (.par [.one (none, .load 60 .frz true 4 (.t 12)),
 .one (Jmt 61 13),
 .one (Jmt 62 11),
 .one (none, .nilchk 63 (.t 62)),
 .one (Jfa 64 5 63),
 .grp [(Jlc 65 1 64)]
  (Jst 4 4 60),
 .one (Jmt 5 61),
 .one (Jmc 6 65),
 .one (none, .mv 7 .copy (.k (.sc (.bool true))))])
 .ret)))))))))
theorem Ze7:Qq Tryz.prog YC Zfv=some (Zaw,[.cell 4 true 4,.tmp 5,.tmp 6,.tmp 7],66):=by kernel_rfl
def Zle:List (Nat×List Md):=MM [(1,1105),(3,1105),(5,1105),(7,1105),(1000001,1737)]
def Zeb : C := (.seq (.reg [(none, .box 2 (.t 0)),(none, .box 3 (.t 1)),(none, .mv 4 .copy (.k (.sc (.bool false))))]) (.seq (.seq (.seq (.frz 2) (.seq (.frz 3) (.reg [(Jfa 5 0 2),(Jlt 6 1 5),(Jfa 7 0 3),(Jlt 8 1 7),(none, .bin 9 .num .neq (.t 6) (.t 8))]))) (.cond (.t 9) (.seq (.reg [(none, .mv 4 .copy (.k (.sc (.bool false))))])
 .ret)
 .skip)) (.seq (.seq (.reg [(Jfa 10 1 2),(Jlt 11 1 10),(Jfa 12 1 3),(Jlt 13 1 12),(none, .bin 14 .num .neq (.t 11) (.t 13))]) (.cond (.t 14) (.seq (.reg [(none, .mv 4 .copy (.k (.sc (.bool false))))])
 .ret)
 .skip)) (.seq (.seq (.reg [(Jfa 15 2 2),(Jlt 16 1 15),(Jfa 17 2 3),(Jlt 18 1 17),(none, .call .no (some 19) (.k (.fn Ji [])) [(.t 16), (.t 18)]),(none, .un 20 .not (.t 19))]) (.cond (.t 20) (.seq (.reg [(none, .mv 4 .copy (.k (.sc (.bool false))))])
 .ret)
 .skip)) (.seq (.seq (.reg [(Jfa 21 3 2),(Jlt 22 1 21),(Jfa 23 3 3),(Jlt 24 1 23),(none, .call .no (some 25) (.k (.fn VX [])) [(.t 22), (.t 24)]),(none, .un 26 .not (.t 25))]) (.cond (.t 26) (.seq (.reg [(none, .mv 4 .copy (.k (.sc (.bool false))))])
 .ret)
 .skip)) (.seq (.reg [(none, .mv 4 .copy (.k (.sc (.bool true))))])
 .ret))))))
theorem ZkA:Qq Tryz.prog Ya Zle=some (Zeb,[.tmp 4],27):=by kernel_rfl
def Zjy:List (Nat×List Md):=MM []
def Zdp : C := (.seq (.reg [(none, .mv 4 .copy (.k (.sc (.bool false))))]) (.seq (.seq (.reg [(Jmc 6 0),(Jln 7 6),(Jmc 8 1),(Jln 9 8),(none, .bin 10 .num .neq (.t 7) (.t 9))]) (.cond (.t 10) (.seq (.reg [(none, .mv 4 .copy (.k (.sc (.bool false))))])
 .ret)
 .skip)) (.seq (.seq (.reg [(none, .mv 5 .copy (.k (N 0)))]) (.block 0 (.loop (.seq (.seq (.reg [(Jmc 11 5),(Jmc 12 0),(Jln 13 12),(Jbl 14 11 13)]) (.cond (.t 14)
 .skip (.exit 0))) (.seq (.block 1 (.seq (.reg [(Jmc 17 0),(Jmc 18 5),(Jia 19 2 17 18),(JlC 20 2 19),(Jmc 21 1),(Jmc 22 5),(Jia 23 2 21 22),(JlC 24 2 23),(none, .call .no (some 25) (.k (.fn ZaO [])) [(.t 20), (.t 24)]),(none, .un 26 .not (.t 25))]) (.cond (.t 26) (.seq (.reg [(none, .mv 4 .copy (.k (.sc (.bool false))))])
 .ret)
 .skip))) (.reg [(Jmc 15 5),(Jba 16 15 1),(Jmc 5 16)])))))) (.seq (.reg [(none, .mv 4 .copy (.k (.sc (.bool true))))])
 .ret))))
theorem ZjC:Qq Tryz.prog ZG Zjy=some (Zdp,[.tmp 4],27):=by kernel_rfl
def Zhp:List (Nat×List Md):=MM [(1,1105),(3,1105),(5,1105),(7,1105),(1000001,1737)]
def Zck : C := (.seq (.reg [(none, .box 2 (.t 0)),(none, .box 3 (.t 1)),(none, .mv 4 .copy (.k (.sc (.bool false))))]) (.seq (.seq (.seq (.frz 2) (.seq (.frz 3) (.reg [(Jfa 5 0 2),(Jlt 6 1 5),(Jfa 7 0 3),(Jlt 8 1 7),(none, .bin 9 .num .neq (.t 6) (.t 8))]))) (.cond (.t 9) (.seq (.reg [(none, .mv 4 .copy (.k (.sc (.bool false))))])
 .ret)
 .skip)) (.seq (.seq (.reg [(Jfa 10 1 2),(Jlt 11 1 10),(Jfa 12 1 3),(Jlt 13 1 12),(none, .call .no (some 14) (.k (.fn Ji [])) [(.t 11), (.t 13)]),(none, .un 15 .not (.t 14))]) (.cond (.t 15) (.seq (.reg [(none, .mv 4 .copy (.k (.sc (.bool false))))])
 .ret)
 .skip)) (.seq (.seq (.reg [(Jfa 16 2 2),(Jlt 17 1 16),(Jfa 18 2 3),(Jlt 19 1 18),(none, .call .no (some 20) (.k (.fn Ji [])) [(.t 17), (.t 19)]),(none, .un 21 .not (.t 20))]) (.cond (.t 21) (.seq (.reg [(none, .mv 4 .copy (.k (.sc (.bool false))))])
 .ret)
 .skip)) (.seq (.seq (.reg [(Jfa 22 3 2),(Jlt 23 1 22),(Jfa 24 3 3),(Jlt 25 1 24),(none, .call .no (some 26) (.k (.fn V5 [])) [(.t 23), (.t 25)]),(none, .un 27 .not (.t 26))]) (.cond (.t 27) (.seq (.reg [(none, .mv 4 .copy (.k (.sc (.bool false))))])
 .ret)
 .skip)) (.seq (.reg [(none, .mv 4 .copy (.k (.sc (.bool true))))])
 .ret))))))
theorem Zhq:Qq Tryz.prog Vh Zhp=some (Zck,[.tmp 4],28):=by kernel_rfl
def Zf6:List (Nat×List Md):=MM [(1,1105),(2,1105),(3,1105),(1000001,201)]
def Zau : C := (.seq (.reg [(none, .box 2 (.t 0)),(none, .mv 4 .copy (.k (N 0)))]) (.seq (.seq (.frz 2) (.reg [(Jfa 5 1 2),(Jlt 6 1 5),(Jmc 7 1),(none, .call .any (some 8) (.k (.fn Yp [])) [(.t 6), (.t 7)]),(Jmc 1 8)])) (.seq (.reg [(Jfa 9 2 2),(Jlt 10 1 9),(Jmc 11 1),(none, .call .any (some 12) (.k (.fn Yp [])) [(.t 10), (.t 11)]),(Jmc 1 12)]) (.seq (.reg [(Jfa 13 3 2),(Jlt 14 1 13),(Jmc 15 1),(none, .call .any (some 16) (.k (.fn Kq [])) [(.t 14), (.t 15)]),(Jmc 1 16)]) (.seq (.reg [(Jmc 17 1),(Jmc 4 17)])
 .ret)))))
theorem Zfg:Qq Tryz.prog ZB Zf6=some (Zau,[.tmp 4],18):=by kernel_rfl
def ZhG:List (Nat×List Md):=MM [(1,1105),(2,1105),(1000001,201)]
def Zch : C := (.seq (.reg [(none, .box 2 (.t 0)),(none, .mv 4 .copy (.k (N 0)))]) (.seq (.seq (.frz 2) (.reg [(Jfa 5 2 2),(Jlt 6 1 5),(Jmc 7 1),(none, .call .any (some 8) (.k (.fn Yp [])) [(.t 6), (.t 7)]),(Jmc 1 8)])) (.seq (.reg [(Jfa 9 3 2),(Jlt 10 1 9),(Jmc 11 1),(none, .call .any (some 12) (.k (.fn Z0 [])) [(.t 10), (.t 11)]),(Jmc 1 12)]) (.seq (.reg [(Jmc 13 1),(Jmc 4 13)])
 .ret))))
theorem ZhA:Qq Tryz.prog Jx ZhG=some (Zch,[.tmp 4],14):=by kernel_rfl
def ZgC:List (Nat×List Md):=MM []
def KE : C := (.seq (.reg [(none, .mv 4 .copy (.k (N 0)))]) (.seq (.seq (.reg [(none, .mv 5 .copy (.k (N 0)))]) (.block 0 (.loop (.seq (.seq (.reg [(Jmc 6 5),(Jmc 7 0),(Jln 8 7),(Jbl 9 6 8)]) (.cond (.t 9)
 .skip (.exit 0))) (.seq (.block 1 (.seq (.reg [(Jmc 12 0),(Jmc 13 5),(Jmc 14 1),(Jia 15 2 12 13),(Jfa 16 0 15),(Jst 1 16 14)]) (.seq (.reg [(Jmc 17 1),(Jba 18 17 1),(Jmc 1 18)]) (.seq (.reg [(Jmc 19 0),(Jmc 20 5),(Jmc 21 1),(Jia 22 2 19 20),(Jfa 23 1 22),(Jst 1 23 21)]) (.reg [(Jmc 24 1),(Jba 25 24 1),(Jmc 1 25)]))))) (.reg [(Jmc 10 5),(Jba 11 10 1),(Jmc 5 11)])))))) (.seq (.reg [(Jmc 26 1),(Jmc 4 26)])
 .ret)))
theorem Zbp:Qq Tryz.prog Kx ZgC=some (KE,[.tmp 4],27):=by kernel_rfl
def ZhP:List (Nat×List Md):=MM [(1,17),(4,17),(1000001,201)]
def Zcp : C := (.seq (.reg [(none, .box 2 (.t 0)),(none, .mv 4 .copy (.k (N 0)))]) (.seq (.seq (.frz 2) (.reg [(Jfa 5 2 2),(Jlt 6 1 5),(Jmc 7 1),(none, .call .no (some 8) (.k (.fn Jz [])) [(.t 6), (.t 7)]),(Jmc 1 8)])) (.seq (.seq (.reg [(Jmc 9 1),(none, .bin 10 .num .lss (.t 9) (.k (N 0)))]) (.cond (.t 10) (.seq (.reg [(none, .mv 4 .copy (.k (N (-1))))])
 .ret)
 .skip)) (.seq (.reg [(Jfa 11 3 2),(Jlt 12 1 11),(Jmc 13 1),(none, .call .no (some 14) (.k (.fn ZV [])) [(.t 12), (.t 13)]),(Jmc 1 14)]) (.seq (.seq (.reg [(Jmc 15 1),(none, .bin 16 .num .lss (.t 15) (.k (N 0)))]) (.cond (.t 16) (.seq (.reg [(none, .mv 4 .copy (.k (N (-1))))])
 .ret)
 .skip)) (.seq (.reg [(Jmc 17 1),(Jmc 4 17)])
 .ret))))))
theorem ZhU:Qq Tryz.prog JB ZhP=some (Zcp,[.tmp 4],18):=by kernel_rfl
def Zgh:List (Nat×List Md):=MM []
def Zbj : C := (.seq (.reg [(none, .mv 4 .copy (.k (N 0)))]) (.seq (.seq (.reg [(none, .mv 5 .copy (.k (N 0)))]) (.block 0 (.loop (.seq (.seq (.reg [(Jmc 6 5),(Jmc 7 0),(Jln 8 7),(Jbl 9 6 8)]) (.cond (.t 9)
 .skip (.exit 0))) (.seq (.block 1 (.seq (.seq (.reg [(Jmc 12 0),(Jmc 13 5),(Jia 14 2 12 13),(Jfa 15 0 14),(Jlc 16 1 15),(Jmc 17 1),(none, .bin 18 .num .neq (.t 16) (.t 17))]) (.cond (.t 18) (.seq (.reg [(none, .mv 4 .copy (.k (N (-1))))])
 .ret)
 .skip)) (.seq (.reg [(Jmc 19 1),(Jba 20 19 1),(Jmc 1 20)]) (.seq (.seq (.reg [(Jmc 21 0),(Jmc 22 5),(Jia 23 2 21 22),(Jfa 24 1 23),(Jlc 25 1 24),(Jmc 26 1),(none, .bin 27 .num .neq (.t 25) (.t 26))]) (.cond (.t 27) (.seq (.reg [(none, .mv 4 .copy (.k (N (-1))))])
 .ret)
 .skip)) (.reg [(Jmc 28 1),(Jba 29 28 1),(Jmc 1 29)]))))) (.reg [(Jmc 10 5),(Jba 11 10 1),(Jmc 5 11)])))))) (.seq (.reg [(Jmc 30 1),(Jmc 4 30)])
 .ret)))
theorem ZgI:Qq Tryz.prog ZW Zgh=some (Zbj,[.tmp 4],31):=by kernel_rfl
def Zjs:List (Nat×List Md):=MM []
def ZcM : C := (.seq (.reg [(none, .mv 4 .copy (.k (N 0)))]) (.seq (.reg [(Jmc 6 1),(Jmc 7 0),(Jln 8 7),(none, .bin 9 .num .sub (.t 6) (.t 8)),(Jmc 1 9)]) (.seq (.seq (.reg [(Jmc 10 1),(none, .bin 11 .num .lss (.t 10) (.k (N 0)))]) (.cond (.t 11) (.seq (.reg [(none, .mv 4 .copy (.k (N (-1))))])
 .ret)
 .skip)) (.seq (.seq (.reg [(none, .mv 5 .copy (.k (N 0)))]) (.block 0 (.loop (.seq (.seq (.reg [(Jmc 12 5),(Jmc 13 0),(Jln 14 13),(Jbl 15 12 14)]) (.cond (.t 15)
 .skip (.exit 0))) (.seq (.block 1 (.seq (.reg [(Jmc 18 0),(Jmc 19 5),(Jia 20 4 18 19),(JlC 21 4 20),(Jmc 22 1),(none, .call .no (some 23) (.k (.fn Jt [])) [(.t 21), (.t 22)]),(Jmc 1 23)]) (.seq (.reg [(Jmc 24 1),(none, .bin 25 .num .lss (.t 24) (.k (N 0)))]) (.cond (.t 25) (.seq (.reg [(none, .mv 4 .copy (.k (N (-1))))])
 .ret)
 .skip)))) (.reg [(Jmc 16 5),(Jba 17 16 1),(Jmc 5 17)])))))) (.seq (.reg [(Jmc 26 1),(Jmc 4 26)])
 .ret)))))
theorem Zi7:Qq Tryz.prog V4 Zjs=some (ZcM,[.tmp 4],27):=by kernel_rfl
def Zjw:List (Nat×List Md):=MM [(1,1097),(6,26)]
def Zdv : C := (.seq (.reg [(none, .mv 2 .copy (.k (.sl true true 4 [])))]) (.seq (.reg [(Jmc 5 0),(Jln 6 5),(none, .mkslice 7 4 [(N 0), (N 0), (.sl true true 1 []), (.sl true true 1 [])] (.t 6)),(Jmt 3 7)]) (.seq (.seq (.reg [(none, .mv 4 .copy (.k (N 0)))]) (.block 0 (.loop (.seq (.seq (.reg [(Jmc 8 4),(Jmc 9 0),(Jln 10 9),(Jbl 11 8 10)]) (.cond (.t 11)
 .skip (.exit 0))) (.seq (.block 1 (.reg [(Jmc 14 3),(Jmc 15 4),(Jmc 16 0),(Jmc 17 4),(Jia 18 4 16 17),(JlC 19 4 18),(none, .call .no (some 20) (.k (.fn X7 [])) [(.t 19)]),(Jia 21 4 14 15),(Jst 4 21 20)])) (.reg [(Jmc 12 4),(Jba 13 12 1),(Jmc 4 13)])))))) (.seq (.reg [(Jmt 22 3),(none, .mv 2 .frz (.t 22))])
 .ret))))
theorem Zij:Qq Tryz.prog VZ Zjw=some (Zdv,[.tmp 2],23):=by kernel_rfl
def Zko:List (Nat×List Md):=MM []
def Zd9 : C := (.seq (.reg [(none, .mv 4 .copy (.k (.sc (.bool false))))]) (.seq (.seq (.reg [(Jmc 6 0),(Jln 7 6),(Jmc 8 1),(Jln 9 8),(none, .bin 10 .num .neq (.t 7) (.t 9))]) (.cond (.t 10) (.seq (.reg [(none, .mv 4 .copy (.k (.sc (.bool false))))])
 .ret)
 .skip)) (.seq (.seq (.reg [(none, .mv 5 .copy (.k (N 0)))]) (.block 0 (.loop (.seq (.seq (.reg [(Jmc 11 5),(Jmc 12 0),(Jln 13 12),(Jbl 14 11 13)]) (.cond (.t 14)
 .skip (.exit 0))) (.seq (.block 1 (.seq (.reg [(Jmc 17 0),(Jmc 18 5),(Jia 19 1 17 18),(Jlc 20 1 19),(Jmc 21 1),(Jmc 22 5),(Jia 23 1 21 22),(Jlc 24 1 23),(none, .bin 25 .num .neq (.t 20) (.t 24))]) (.cond (.t 25) (.seq (.reg [(none, .mv 4 .copy (.k (.sc (.bool false))))])
 .ret)
 .skip))) (.reg [(Jmc 15 5),(Jba 16 15 1),(Jmc 5 16)])))))) (.seq (.reg [(none, .mv 4 .copy (.k (.sc (.bool true))))])
 .ret))))
theorem Zkc:Qq Tryz.prog Ji Zko=some (Zd9,[.tmp 4],26):=by kernel_rfl
def Zjp:List (Nat×List Md):=MM []
def ZcV : C := (.seq (.reg [(none, .mv 4 .copy (.k (.sc (.bool false))))]) (.seq (.seq (.reg [(Jmc 6 0),(Jln 7 6),(Jmc 8 1),(Jln 9 8),(none, .bin 10 .num .neq (.t 7) (.t 9))]) (.cond (.t 10) (.seq (.reg [(none, .mv 4 .copy (.k (.sc (.bool false))))])
 .ret)
 .skip)) (.seq (.seq (.reg [(none, .mv 5 .copy (.k (N 0)))]) (.block 0 (.loop (.seq (.seq (.reg [(Jmc 11 5),(Jmc 12 0),(Jln 13 12),(Jbl 14 11 13)]) (.cond (.t 14)
 .skip (.exit 0))) (.seq (.block 1 (.seq (.reg [(Jmc 17 0),(Jmc 18 5),(Jia 19 4 17 18),(JlC 20 4 19),(Jmc 21 1),(Jmc 22 5),(Jia 23 4 21 22),(JlC 24 4 23),(none, .call .no (some 25) (.k (.fn Ya [])) [(.t 20), (.t 24)]),(none, .un 26 .not (.t 25))]) (.cond (.t 26) (.seq (.reg [(none, .mv 4 .copy (.k (.sc (.bool false))))])
 .ret)
 .skip))) (.reg [(Jmc 15 5),(Jba 16 15 1),(Jmc 5 16)])))))) (.seq (.reg [(none, .mv 4 .copy (.k (.sc (.bool true))))])
 .ret))))
theorem ZjA:Qq Tryz.prog VX Zjp=some (ZcV,[.tmp 4],27):=by kernel_rfl
def Zgg:List (Nat×List Md):=MM [(8,561737),(9,561737)]
def Z1 : C := (.seq (.reg [(none, .mv 4 .copy (.k (N 0)))]) (.seq (.seq (.reg [(none, .mv 5 .copy (.k (N 0)))]) (.block 0 (.loop (.seq (.seq (.reg [(Jmc 6 5),(Jmc 7 0),(Jln 8 7),(Jbl 9 6 8)]) (.cond (.t 9)
 .skip (.exit 0))) (.seq (.block 1 (.seq (.reg [(Jmc 12 0),(Jmc 13 5),(Jmc 14 1),(Jia 15 4 12 13),(Jfa 16 0 15),(Jst 1 16 14)]) (.seq (.reg [(Jmc 17 1),(Jba 18 17 1),(Jmc 1 18)]) (.seq (.reg [(Jmc 19 0),(Jmc 20 5),(Jmc 21 1),(Jia 22 4 19 20),(Jfa 23 1 22),(Jst 1 23 21)]) (.seq (.reg [(Jmc 24 1),(Jba 25 24 1),(Jmc 1 25)]) (.seq (.reg [(Jmc 26 0),(Jmc 27 5),(Jia 28 4 26 27),(Jfa 29 2 28),(Jlc 30 1 29),(Jmc 31 1),(none, .call .any (some 32) (.k (.fn Yp [])) [(.t 30), (.t 31)]),(Jmc 1 32)]) (.reg [(Jmc 33 0),(Jmc 34 5),(Jia 35 4 33 34),(Jfa 36 3 35),(Jlc 37 1 36),(Jmc 38 1),(none, .call .any (some 39) (.k (.fn Z0 [])) [(.t 37), (.t 38)]),(Jmc 1 39)]))))))) (.reg [(Jmc 10 5),(Jba 11 10 1),(Jmc 5 11)])))))) (.seq (.reg [(Jmc 40 1),(Jmc 4 40)])
 .ret)))
theorem Kv:Qq Tryz.prog Z0 Zgg=some (Z1,[.tmp 4],41):=by kernel_rfl
def ZhM:List (Nat×List Md):=MM []
def Vi : C := (.seq (.reg [(none, .mv 4 .copy (.k (N 0)))]) (.seq (.seq (.reg [(none, .mv 5 .copy (.k (N 0)))]) (.block 0 (.loop (.seq (.seq (.reg [(Jmc 6 5),(Jmc 7 0),(Jln 8 7),(Jbl 9 6 8)]) (.cond (.t 9)
 .skip (.exit 0))) (.seq (.block 1 (.seq (.reg [(Jmc 12 0),(Jmc 13 5),(Jmc 14 1),(Jia 15 1 12 13),(Jst 1 15 14)]) (.reg [(Jmc 16 1),(Jba 17 16 1),(Jmc 1 17)]))) (.reg [(Jmc 10 5),(Jba 11 10 1),(Jmc 5 11)])))))) (.seq (.reg [(Jmc 18 1),(Jmc 4 18)])
 .ret)))
theorem Zcu:Qq Tryz.prog Yp ZhM=some (Vi,[.tmp 4],19):=by kernel_rfl
def ZhE:List (Nat×List Md):=MM []
def Zcg : C := (.seq (.reg [(none, .mv 4 .copy (.k (N 0)))]) (.seq (.seq (.reg [(none, .mv 5 .copy (.k (N 0)))]) (.block 0 (.loop (.seq (.seq (.reg [(Jmc 6 5),(Jmc 7 0),(Jln 8 7),(Jbl 9 6 8)]) (.cond (.t 9)
 .skip (.exit 0))) (.seq (.block 1 (.seq (.seq (.reg [(Jmc 12 0),(Jmc 13 5),(Jia 14 1 12 13),(Jlc 15 1 14),(Jmc 16 1),(none, .bin 17 .num .neq (.t 15) (.t 16))]) (.cond (.t 17) (.seq (.reg [(none, .mv 4 .copy (.k (N (-1))))])
 .ret)
 .skip)) (.reg [(Jmc 18 1),(Jba 19 18 1),(Jmc 1 19)]))) (.reg [(Jmc 10 5),(Jba 11 10 1),(Jmc 5 11)])))))) (.seq (.reg [(Jmc 20 1),(Jmc 4 20)])
 .ret)))
theorem ZhI:Qq Tryz.prog Jz ZhE=some (Zcg,[.tmp 4],21):=by kernel_rfl
def Zlh:List (Nat×List Md):=MM [(1,17)]
def Zd5 : C := (.seq (.reg [(none, .mv 4 .copy (.k (N 0)))]) (.seq (.reg [(Jmc 5 1),(Jmt 6 0),(Jln 7 6),(none, .bin 8 .num .sub (.t 5) (.t 7)),(Jmc 1 8)]) (.seq (.seq (.reg [(Jmc 9 1),(none, .bin 10 .num .lss (.t 9) (.k (N 0)))]) (.cond (.t 10) (.seq (.reg [(none, .mv 4 .copy (.k (N (-1))))])
 .ret)
 .skip)) (.seq (.reg [(Jmc 11 1),(Jmc 4 11)])
 .ret))))
theorem ZkR:Qq Tryz.prog Jl Zlh=some (Zd5,[.tmp 4],12):=by kernel_rfl
def Zig:List (Nat×List Md):=MM [(1,17)]
def Zdd : C := (.seq (.reg [(none, .mv 4 .copy (.k (N 0)))]) (.seq (.reg [(Jmc 5 1),(Jmt 6 0),(Jln 7 6),(none, .bin 8 .num .sub (.t 5) (.t 7)),(Jmc 1 8)]) (.seq (.seq (.reg [(Jmc 9 1),(none, .bin 10 .num .lss (.t 9) (.k (N 0)))]) (.cond (.t 10) (.seq (.reg [(none, .mv 4 .copy (.k (N (-1))))])
 .ret)
 .skip)) (.seq (.reg [(Jmc 11 1),(Jmc 4 11)])
 .ret))))
theorem Zia:Qq Tryz.prog VW Zig=some (Zdd,[.tmp 4],12):=by kernel_rfl
def ZkC:List (Nat×List Md):=MM [(1,138),(3,146),(4,17),(6,74833),(1000001,104009),(2000003,421827145)]
def Zef : C := (.seq (.reg [(none, .box 3 (.t 0)),(none, .box 5 (.t 2)),(none, .mv 6 .copy (.k (.sl true true 1 []))),(none, .mv 7 .copy (.k (.sl true true 1 []))),(none, .mv 8 .copy (.k (.sc (.bool false))))]) (.seq (.seq (.seq (.frz 3) (.seq (.frz 5) (.reg [(JlT 10 4 3),(Jmc 11 1),(JlT 12 4 5),(none, .call .no (some 13) (.k (.fn VN [])) [(.t 10), (.t 11), (.t 12)]),(none, .un 14 .not (.t 13))]))) (.cond (.t 14) (.seq (.reg [(none, .mv 6 .copy (.k (.sl true true 1 []))),(none, .mv 7 .copy (.k (.sl true true 1 []))),(none, .mv 8 .copy (.k (.sc (.bool false))))])
 .ret)
 .skip)) (.seq (.seq (.reg [(JlT 15 4 3),(Jmt 16 1),(JlT 17 4 5),(none, .call .no (some 18) (.k (.fn WL [])) [(.t 15), (.t 16), (.t 17)]),(none, .alloc 9 [(.sl true true 1 []), (.sl true true 1 []), (N 0), (.sl true true 1 [])]),(Jst 4 9 18)]) (.frz 9)) (.seq (.seq (.reg [(Jfa 19 2 9),(Jlt 20 1 19),(none, .bin 21 .num .neq (.t 20) (.k (N 0)))]) (.cond (.t 21) (.seq (.reg [(none, .mv 6 .copy (.k (.sl true true 1 []))),(none, .mv 7 .copy (.k (.sl true true 1 []))),(none, .mv 8 .copy (.k (.sc (.bool false))))])
 .ret)
 .skip)) (.seq (.reg [(Jfa 22 0 9),(Jlt 23 1 22),(Jfa 24 1 9),(Jlt 25 1 24),(Jmt 6 23),(Jmt 7 25),(none, .mv 8 .copy (.k (.sc (.bool true))))])
 .ret)))))
theorem Zj2:Qq Tryz.prog ZaI ZkC=some (Zef,[.tmp 6,.tmp 7,.tmp 8],26):=by kernel_rfl
def ZkM:List (Nat×List Md):=MM []
def Zd0 : C := (.seq (.reg [(none, .mv 2 .copy (.k (.sc (.bool false))))]) (.seq (.seq (.reg [(none, .mv 3 .copy (.k (N 0)))]) (.block 0 (.loop (.seq (.seq (.reg [(Jmc 4 3),(Jmc 5 0),(Jln 6 5),(Jbl 7 4 6)]) (.cond (.t 7)
 .skip (.exit 0))) (.seq (.block 1 (.seq (.reg [(Jmc 10 0),(Jmc 11 3),(Jia 12 1 10 11),(Jlc 13 1 12),(none, .call .no (some 14) (.k (.fn ZM [])) [(.t 13)])]) (.cond (.t 14) (.seq (.reg [(none, .mv 2 .copy (.k (.sc (.bool false))))])
 .ret)
 .skip))) (.reg [(Jmc 8 3),(Jba 9 8 1),(Jmc 3 9)])))))) (.seq (.reg [(none, .mv 2 .copy (.k (.sc (.bool true))))])
 .ret)))
theorem Zkp:Qq Tryz.prog ZaX ZkM=some (Zd0,[.tmp 2],15):=by kernel_rfl
def ZkJ:List (Nat×List Md):=MM [(1,18407039633),(4,70737),(6,17),(7,561737),(9,137),(11,304386697),(14,153),(15,3),(1000001,102985),(2000001,3374617161),(2000011,884635641090633)]
def ZaG : C := (.seq (.reg [(none, .box 5 (.t 1)),(none, .alloc 8 [(N 0), (N 0), (.sl true true 1 []), (.sl true true 1 [])]),(none, .mv 9 .copy (.k (.sc (.bool false))))]) (.seq (.seq (.frz 5) (.seq (.reg [(Jmc 19 0),(JlT 20 4 5),(Jmt 21 2),(Jmc 22 3),(none, .call .any (some 23) (.k (.fn W4 [])) [(.t 19), (.t 20), (.t 21), (.t 22)]),(Jmt 18 23),(none, .extract 24 0 (.t 18)),(none, .extract 25 1 (.t 18)),(none, .extract 26 2 (.t 18)),(none, .alloc 10 [(N 0), (N 0), (.sl true true 1 []), (.sl true true 1 [])]),(Jst 4 10 24),(Jmt 11 25),(Jmc 12 26)]) (.frz 10))) (.seq (.seq (.reg [(Jmc 27 12),(none, .un 28 .not (.t 27))]) (.cond (.t 28) (.seq (.reg [(none, .build 29 [(N 0), (N 0), (.sl true true 1 []), (.sl true true 1 [])] []),(Jst 4 8 29),(none, .mv 9 .copy (.k (.sc (.bool false))))])
 .ret)
 .skip)) (.seq (.reg [(Jfa 30 0 10),(Jlt 31 1 30),(Jfa 32 1 10),(Jlt 33 1 32),(Jfa 34 2 10),(Jlt 35 1 34),(none, .call .no (some 36) (.k (.fn X6 [])) [(.t 35)]),(none, .build 37 [(N 0), (N 0), (.sl true true 1 []), (.sl true true 1 [])] [(0, 1, (.t 31)), (1, 1, (.t 33)), (2, 1, (.t 36))]),(none, .alloc 13 [(N 0), (N 0), (.sl true true 1 []), (.sl true true 1 [])]),(Jst 4 13 37)]) (.seq (.reg [(Jmc 38 3),(Jmc 14 38)]) (.seq (.seq (.reg [(Jfa 39 0 10),(Jlt 40 1 39),(Jbe 41 40 11)]) (.cond (.t 41) (.reg [(Jmc 42 0),(none, .nilchk 43 (.t 42)),(Jfa 44 0 43),(JlC 45 4 44),(Jmc 46 3),(Jfa 47 1 10),(Jlt 48 1 47),(none, .call .no (some 49) (.k (.fn QU [])) [(.t 45), (.t 46), (.t 48)]),(Jmc 14 49)])
 .skip)) (.seq (.seq (.reg [(none, .mv 15 .copy (.k (N 0)))]) (.block 0 (.loop (.seq (.seq (.reg [(Jmc 50 15),(Jfa 51 3 10),(Jlt 52 1 51),(Jln 53 52),(Jbl 54 50 53)]) (.cond (.t 54)
 .skip (.exit 0))) (.seq (.block 1 (.seq (.seq (.reg [(Jmc 58 0),(Jfa 59 3 10),(Jlt 60 1 59),(Jmc 61 15),(Jia 62 4 60 61),(JlC 63 4 62),(Jmc 64 11),(Jmc 65 14),(none, .call .any (some 66) (.k (.fn KJ [])) [(.t 58), (.t 63), (.t 64), (.t 65)]),(Jmt 57 66),(none, .extract 67 0 (.t 57)),(none, .extract 68 1 (.t 57)),(none, .alloc 16 [(N 0), (N 0), (.sl true true 1 []), (.sl true true 1 [])]),(Jst 4 16 67),(Jmc 17 68)]) (.frz 16)) (.seq (.seq (.reg [(Jmc 69 17),(none, .un 70 .not (.t 69))]) (.cond (.t 70) (.seq (.reg [(none, .build 71 [(N 0), (N 0), (.sl true true 1 []), (.sl true true 1 [])] []),(Jst 4 8 71),(none, .mv 9 .copy (.k (.sc (.bool false))))])
 .ret)
 .skip)) (.reg [(Jfa 72 3 13),(none, .load 73 .frz false 1 (.t 72)),(JlT 74 4 16),(none, .bslice 75 4 1 [(N 0), (N 0), (.sl true true 1 []), (.sl true true 1 [])] [(0, 4, (.t 74))]),(none, .append 76 4 (.t 73) (.t 75)),(Jfa 77 3 13),(Jst 1 77 76)])))) (.reg [(Jmc 55 15),(Jba 56 55 1),(Jmc 15 56)])))))) (.seq (.reg [(none, .load 78 .frz true 4 (.t 13)),(Jst 4 8 78),(none, .mv 9 .copy (.k (.sc (.bool true))))])
 .ret))))))))
theorem Zli:Qq Tryz.prog KJ ZkJ=some (ZaG,[.cell 8 true 4,.tmp 9],79):=by kernel_rfl
def Zj4:List (Nat×List Md):=MM [(1,1097),(6,26)]
def ZdW : C := (.seq (.reg [(none, .mv 2 .copy (.k (.sl true true 1 [])))]) (.seq (.reg [(Jmc 5 0),(Jln 6 5),(none, .mkslice 7 1 [(N 0)] (.t 6)),(Jmt 3 7)]) (.seq (.seq (.reg [(none, .mv 4 .copy (.k (N 0)))]) (.block 0 (.loop (.seq (.seq (.reg [(Jmc 8 4),(Jmc 9 0),(Jln 10 9),(Jbl 11 8 10)]) (.cond (.t 11)
 .skip (.exit 0))) (.seq (.block 1 (.reg [(Jmc 14 3),(Jmc 15 4),(Jmc 16 0),(Jmc 17 4),(Jia 18 1 16 17),(Jlc 19 1 18),(Jia 20 1 14 15),(Jst 1 20 19)])) (.reg [(Jmc 12 4),(Jba 13 12 1),(Jmc 4 13)])))))) (.seq (.reg [(Jmt 21 3),(none, .mv 2 .frz (.t 21))])
 .ret))))
theorem Zkj:Qq Tryz.prog Js Zj4=some (ZdW,[.tmp 2],22):=by kernel_rfl
def Zjd:List (Nat×List Md):=MM [(1,1097),(6,26)]
def ZcZ : C := (.seq (.reg [(none, .mv 2 .copy (.k (.sl true true 1 [])))]) (.seq (.reg [(Jmc 5 0),(Jln 6 5),(none, .mkslice 7 1 [(.sc (.bool false))] (.t 6)),(Jmt 3 7)]) (.seq (.seq (.reg [(none, .mv 4 .copy (.k (N 0)))]) (.block 0 (.loop (.seq (.seq (.reg [(Jmc 8 4),(Jmc 9 0),(Jln 10 9),(Jbl 11 8 10)]) (.cond (.t 11)
 .skip (.exit 0))) (.seq (.block 1 (.reg [(Jmc 14 3),(Jmc 15 4),(Jmc 16 0),(Jmc 17 4),(Jia 18 1 16 17),(Jlc 19 1 18),(Jia 20 1 14 15),(Jst 1 20 19)])) (.reg [(Jmc 12 4),(Jba 13 12 1),(Jmc 4 13)])))))) (.seq (.reg [(Jmt 21 3),(none, .mv 2 .frz (.t 21))])
 .ret))))
theorem ZiH:Qq Tryz.prog Zak Zjd=some (ZcZ,[.tmp 2],22):=by kernel_rfl
def Zk3:List (Nat×List Md):=MM [(1,8850),(4,19480744521),(1000001,104009)]
def Zex : C := (.seq (.reg [(none, .box 3 (.t 0)),(none, .box 5 (.t 2)),(none, .mv 6 .copy (.k (.sl true true 1 []))),(none, .mv 7 .copy (.k (.sl true true 1 []))),(none, .mv 8 .copy (.k (.sc (.bool false))))]) (.seq (.seq (.frz 3) (.seq (.frz 5) (.reg [(JlT 10 4 3),(Jmt 11 1),(JlT 12 4 5),(none, .call .no (some 13) (.k (.fn V2 [])) [(.t 10), (.t 11), (.t 12)]),(Jmt 9 13)]))) (.seq (.seq (.reg [(Jmc 14 9),(none, .bin 15 .ptr .eql (.t 14) (.k (.sc (.pointer none)))),(Jmc 16 15),(some (16, false), .mv 17 .copy (.t 9)),(some (16, false), .nilchk 18 (.t 17)),(some (16, false), .fieldA 19 3 (.t 18)),(some (16, false), .load 20 .copy false 1 (.t 19)),(some (16, false), .bin 21 .num .neq (.t 20) (.k (N 0))),(none, .pick 22 (.t 16) (.k (.sc (.bool true))) (.t 21))]) (.cond (.t 22) (.seq (.reg [(none, .mv 6 .copy (.k (.sl true true 1 []))),(none, .mv 7 .copy (.k (.sl true true 1 []))),(none, .mv 8 .copy (.k (.sc (.bool false))))])
 .ret)
 .skip)) (.seq (.reg [(Jmc 23 9),(none, .nilchk 24 (.t 23)),(Jfa 25 0 24),(Jlc 26 1 25),(none, .call .no (some 27) (.k (.fn WE [])) [(.t 26)]),(Jmc 28 9),(none, .nilchk 29 (.t 28)),(Jfa 30 1 29),(Jlc 31 1 30),(none, .call .no (some 32) (.k (.fn WE [])) [(.t 31)]),(Jmt 6 27),(Jmt 7 32),(none, .mv 8 .copy (.k (.sc (.bool true))))])
 .ret))))
theorem ZjZ:Qq Tryz.prog Za1 Zk3=some (Zex,[.tmp 6,.tmp 7,.tmp 8],33):=by kernel_rfl
def ZhK:List (Nat×List Md):=MM [(1,8778),(1000001,201)]
def Zcv : C := (.seq (.reg [(none, .box 2 (.t 0)),(none, .mv 4 .copy (.k (.sc (.bool false))))]) (.seq (.seq (.frz 2) (.reg [(JlT 5 4 2),(Jmc 6 1),(none, .call .no (some 7) (.k (.fn Zn [])) [(.t 5), (.t 6)]),(Jmc 8 7),(some (8, true), .mv 9 .take (.t 1)),(some (8, true), .call .no (some 10) (.k (.fn Wr [])) [(.t 9), (.k (.fn XR []))]),(some (8, true), .un 11 .not (.t 10)),(none, .pick 12 (.t 8) (.t 11) (.k (.sc (.bool false)))),(Jmc 4 12)]))
 .ret))
theorem ZhT:Qq Tryz.prog Vt ZhK=some (Zcv,[.tmp 4],13):=by kernel_rfl
def Zb5:List (Nat×List Md):=MM [(1,2300912273),(4,70737),(5,17),(6,561737),(7,17),(10,562265),(12,3),(1000001,102985),(2000001,421827145),(2000009,1727803986505)]
def X3 : C := (.seq (.reg [(none, .box 5 (.t 1)),(none, .alloc 8 [(N 0), (N 0), (.sl true true 1 []), (.sl true true 1 [])])]) (.seq (.seq (.frz 5) (.seq (.reg [(Jmc 15 0),(JlT 16 4 5),(Jmt 17 2),(Jmc 18 3),(none, .call .any (some 19) (.k (.fn QF [])) [(.t 15), (.t 16), (.t 17), (.t 18)]),(Jmt 14 19),(none, .extract 20 0 (.t 14)),(none, .extract 21 1 (.t 14)),(none, .alloc 9 [(N 0), (N 0), (.sl true true 1 []), (.sl true true 1 [])]),(Jst 4 9 20),(Jmt 10 21)]) (.frz 9))) (.seq (.seq (.reg [(Jmc 22 0),(none, .nilchk 23 (.t 22)),(Jfa 24 6 23),(Jlc 25 1 24)]) (.cond (.t 25) (.seq (.reg [(none, .build 26 [(N 0), (N 0), (.sl true true 1 []), (.sl true true 1 [])] []),(Jst 4 8 26)])
 .ret)
 .skip)) (.seq (.reg [(Jfa 27 0 9),(Jlt 28 1 27),(Jfa 29 1 9),(Jlt 30 1 29),(Jfa 31 2 9),(Jlt 32 1 31),(none, .call .no (some 33) (.k (.fn WE [])) [(.t 32)]),(none, .build 34 [(N 0), (N 0), (.sl true true 1 []), (.sl true true 1 [])] [(0, 1, (.t 28)), (1, 1, (.t 30)), (2, 1, (.t 33))]),(none, .alloc 11 [(N 0), (N 0), (.sl true true 1 []), (.sl true true 1 [])]),(Jst 4 11 34)]) (.seq (.seq (.reg [(Jfa 35 0 9),(Jlt 36 1 35),(Jbe 37 36 11)]) (.cond (.t 37) (.reg [(Jmc 38 0),(none, .nilchk 39 (.t 38)),(Jfa 40 0 39),(JlC 41 4 40),(Jmc 42 3),(Jfa 43 1 9),(Jlt 44 1 43),(none, .call .no (some 45) (.k (.fn Qs [])) [(.t 41), (.t 42), (.t 44)]),(Jmc 3 45)])
 .skip)) (.seq (.seq (.reg [(Jfa 46 3 9),(Jlt 47 1 46),(Jln 48 47),(none, .mv 49 .copy (.k (N 0)))]) (.block 0 (.loop (.seq (.reg [(Jbl 50 49 48)]) (.seq (.cond (.t 50)
 .skip (.exit 0)) (.seq (.block 1 (.seq (.seq (.reg [(Jia 51 4 47 49),(JlC 52 4 51),(none, .alloc 13 [(N 0), (N 0), (.sl true true 1 []), (.sl true true 1 [])]),(Jst 4 13 52)]) (.frz 13)) (.par [.one (Jfa 53 3 11),
 .one (Jmc 55 0),
 .one (JlT 56 4 13),
 .one (Jmc 57 10),
 .one (Jmc 58 3),
 .two (none, .load 54 .frz false 1 (.t 53))
  (none, .call .any (some 59) (.k (.fn Xr [])) [(.t 55), (.t 56), (.t 57), (.t 58)]),
 .one (none, .bslice 60 4 1 [(N 0), (N 0), (.sl true true 1 []), (.sl true true 1 [])] [(0, 4, (.t 59))]),
 .one (none, .append 61 4 (.t 54) (.t 60)),
 .one (Jfa 62 3 11),
 .one (Jst 1 62 61)]))) (.reg [(Jba 63 49 1),(Jmc 49 63)]))))))) (.seq (.reg [(none, .load 64 .frz true 4 (.t 11)),(Jst 4 8 64)])
 .ret)))))))
theorem Ke:Qq Tryz.prog Xr Zb5=some (X3,[.cell 8 true 4],65):=by kernel_rfl
def ZkX:List (Nat×List Md):=MM [(1,1105),(3,1105),(1000001,1737)]
def Zel : C := (.seq (.reg [(none, .box 2 (.t 0)),(none, .box 3 (.t 1)),(none, .mv 4 .copy (.k (.sc (.bool false))))]) (.seq (.seq (.seq (.frz 2) (.seq (.frz 3) (.reg [(Jfa 5 0 2),(Jlt 6 1 5),(Jfa 7 0 3),(Jlt 8 1 7),(none, .bin 9 .num .neq (.t 6) (.t 8))]))) (.cond (.t 9) (.seq (.reg [(none, .mv 4 .copy (.k (.sc (.bool false))))])
 .ret)
 .skip)) (.seq (.seq (.reg [(Jfa 10 1 2),(Jlt 11 1 10),(Jfa 12 1 3),(Jlt 13 1 12),(none, .bin 14 .num .neq (.t 11) (.t 13))]) (.cond (.t 14) (.seq (.reg [(none, .mv 4 .copy (.k (.sc (.bool false))))])
 .ret)
 .skip)) (.seq (.reg [(none, .mv 4 .copy (.k (.sc (.bool true))))])
 .ret))))
theorem Zkk:Qq Tryz.prog ZaO ZkX=some (Zel,[.tmp 4],15):=by kernel_rfl
def ZiV:List (Nat×List Md):=MM []
def Zds : C := (.seq (.reg [(none, .mv 4 .copy (.k (.sc (.bool false))))]) (.seq (.seq (.reg [(Jmc 6 0),(Jln 7 6),(Jmc 8 1),(Jln 9 8),(none, .bin 10 .num .neq (.t 7) (.t 9))]) (.cond (.t 10) (.seq (.reg [(none, .mv 4 .copy (.k (.sc (.bool false))))])
 .ret)
 .skip)) (.seq (.seq (.reg [(none, .mv 5 .copy (.k (N 0)))]) (.block 0 (.loop (.seq (.seq (.reg [(Jmc 11 5),(Jmc 12 0),(Jln 13 12),(Jbl 14 11 13)]) (.cond (.t 14)
 .skip (.exit 0))) (.seq (.block 1 (.seq (.reg [(Jmc 17 0),(Jmc 18 5),(Jia 19 1 17 18),(Jlc 20 1 19),(Jmc 21 1),(Jmc 22 5),(Jia 23 1 21 22),(Jlc 24 1 23),(none, .bin 25 .bool .neq (.t 20) (.t 24))]) (.cond (.t 25) (.seq (.reg [(none, .mv 4 .copy (.k (.sc (.bool false))))])
 .ret)
 .skip))) (.reg [(Jmc 15 5),(Jba 16 15 1),(Jmc 5 16)])))))) (.seq (.reg [(none, .mv 4 .copy (.k (.sc (.bool true))))])
 .ret))))
theorem ZjI:Qq Tryz.prog V5 ZiV=some (Zds,[.tmp 4],26):=by kernel_rfl
def Zgr:List (Nat×List Md):=MM []
def KH : C := (.seq (.reg [(none, .mv 4 .copy (.k (N 0)))]) (.seq (.seq (.reg [(none, .mv 5 .copy (.k (N 0)))]) (.block 0 (.loop (.seq (.seq (.reg [(Jmc 6 5),(Jmc 7 0),(Jln 8 7),(Jbl 9 6 8)]) (.cond (.t 9)
 .skip (.exit 0))) (.seq (.block 1 (.seq (.reg [(Jmc 12 0),(Jmc 13 5),(Jmc 14 1),(none, .bin 15 .num .rem (.t 14) (.k (N 3))),(Jbe 16 15 0),(Jia 17 1 12 13),(Jst 1 17 16)]) (.reg [(Jmc 18 1),(Jba 19 18 1),(Jmc 1 19)]))) (.reg [(Jmc 10 5),(Jba 11 10 1),(Jmc 5 11)])))))) (.seq (.reg [(Jmc 20 1),(Jmc 4 20)])
 .ret)))
theorem Zbl:Qq Tryz.prog Kq Zgr=some (KH,[.tmp 4],21):=by kernel_rfl
def Zgx:List (Nat×List Md):=MM []
def Ky : C := (.seq (.reg [(none, .mv 4 .copy (.k (N 0)))]) (.seq (.seq (.reg [(none, .mv 5 .copy (.k (N 0)))]) (.block 0 (.loop (.seq (.seq (.reg [(Jmc 6 5),(Jmc 7 0),(Jln 8 7),(Jbl 9 6 8)]) (.cond (.t 9)
 .skip (.exit 0))) (.seq (.block 1 (.seq (.seq (.reg [(Jmc 12 0),(Jmc 13 5),(Jia 14 4 12 13),(Jfa 15 0 14),(Jlc 16 1 15),(Jmc 17 1),(none, .bin 18 .num .neq (.t 16) (.t 17))]) (.cond (.t 18) (.seq (.reg [(none, .mv 4 .copy (.k (N (-1))))])
 .ret)
 .skip)) (.seq (.reg [(Jmc 19 1),(Jba 20 19 1),(Jmc 1 20)]) (.seq (.seq (.reg [(Jmc 21 0),(Jmc 22 5),(Jia 23 4 21 22),(Jfa 24 1 23),(Jlc 25 1 24),(Jmc 26 1),(none, .bin 27 .num .neq (.t 25) (.t 26))]) (.cond (.t 27) (.seq (.reg [(none, .mv 4 .copy (.k (N (-1))))])
 .ret)
 .skip)) (.seq (.reg [(Jmc 28 1),(Jba 29 28 1),(Jmc 1 29)]) (.seq (.reg [(Jmc 30 0),(Jmc 31 5),(Jia 32 4 30 31),(Jfa 33 2 32),(Jlc 34 1 33),(Jmc 35 1),(none, .call .no (some 36) (.k (.fn Jz [])) [(.t 34), (.t 35)]),(Jmc 1 36)]) (.seq (.seq (.reg [(Jmc 37 1),(none, .bin 38 .num .lss (.t 37) (.k (N 0)))]) (.cond (.t 38) (.seq (.reg [(none, .mv 4 .copy (.k (N (-1))))])
 .ret)
 .skip)) (.seq (.reg [(Jmc 39 0),(Jmc 40 5),(Jia 41 4 39 40),(Jfa 42 3 41),(Jlc 43 1 42),(Jmc 44 1),(none, .call .no (some 45) (.k (.fn ZV [])) [(.t 43), (.t 44)]),(Jmc 1 45)]) (.seq (.reg [(Jmc 46 1),(none, .bin 47 .num .lss (.t 46) (.k (N 0)))]) (.cond (.t 47) (.seq (.reg [(none, .mv 4 .copy (.k (N (-1))))])
 .ret)
 .skip)))))))))) (.reg [(Jmc 10 5),(Jba 11 10 1),(Jmc 5 11)])))))) (.seq (.reg [(Jmc 48 1),(Jmc 4 48)])
 .ret)))
theorem Za8:Qq Tryz.prog ZV Zgx=some (Ky,[.tmp 4],49):=by kernel_rfl
def ZoP:List (Nat×List Md):=MM []
def Zg8 : C := (.seq (.reg [(none, .mv 6 .copy (.k (.sc (.bool false))))]) (.seq (.reg [(Jmc 7 0),(Jmc 8 1),(none, .bin 9 .num .geq (.t 7) (.t 8)),(Jmc 10 9),(some (10, true), .mv 11 .copy (.t 0)),(some (10, true), .mv 12 .copy (.t 2)),(some (10, true), .bin 13 .num .leq (.t 11) (.t 12)),(none, .pick 14 (.t 10) (.t 13) (.k (.sc (.bool false)))),(Jmc 6 14)])
 .ret))
theorem Zoi:Qq Tryz.prog XP ZoP=some (Zg8,[.tmp 6],15):=by kernel_rfl
def Zka:List (Nat×List Md):=MM []
def Zew : C := (.seq (.reg [(none, .mv 6 .copy (.k (.sc (.bool false))))]) (.seq (.reg [(Jmc 7 0),(Jmc 8 1),(none, .bin 9 .num .geq (.t 7) (.t 8)),(Jmc 10 9),(some (10, true), .mv 11 .copy (.t 0)),(some (10, true), .mv 12 .copy (.t 2)),(some (10, true), .bin 13 .num .leq (.t 11) (.t 12)),(none, .pick 14 (.t 10) (.t 13) (.k (.sc (.bool false)))),(Jmc 6 14)])
 .ret))
theorem Zlg:Qq Tryz.prog W5 Zka=some (Zew,[.tmp 6],15):=by kernel_rfl
def Zib:List (Nat×List Md):=MM [(1,2451870794),(1000001,104009)]
def Zc4 : C := (.seq (.reg [(none, .box 3 (.t 0)),(none, .box 5 (.t 2)),(none, .mv 6 .copy (.k (.sc (.bool false))))]) (.seq (.seq (.frz 3) (.seq (.frz 5) (.reg [(JlT 7 4 3),(none, .call .no (some 8) (.k (.fn JA [])) [(.t 7)]),(Jmc 9 8),(some (9, true), .load 10 .take true 4 (.t 3)),(some (9, true), .mv 11 .copy (.t 1)),(some (9, true), .call .no (some 12) (.k (.fn Kz [])) [(.t 10), (.t 11)]),(none, .pick 13 (.t 9) (.t 12) (.k (.sc (.bool false)))),(Jmc 14 13),(some (14, true), .load 15 .take true 4 (.t 3)),(some (14, true), .load 16 .take true 4 (.t 5)),(some (14, true), .mv 17 .take (.t 1)),(some (14, true), .len 18 (.t 17)),(some (14, true), .call .no (some 19) (.k (.fn ZaF [])) [(.t 15), (.t 16), (.t 18)]),(none, .pick 20 (.t 14) (.t 19) (.k (.sc (.bool false)))),(Jmc 6 20)])))
 .ret))
theorem Zik:Qq Tryz.prog VN Zib=some (Zc4,[.tmp 6],21):=by kernel_rfl
def ZkV:List (Nat×List Md):=MM [(1,17),(3,1161),(4,137),(5,561802),(7,17),(8,17),(9,17),(10,70281),(11,146),(12,17),(13,2),(14,17),(17,17),(19,1170),(21,146),(22,17),(23,2),(24,2317915217),(26,4494417),(28,4494417),(30,561802),(32,2301141585),(34,9493123736145),(36,17),(38,146),(39,17),(40,2),(41,1105),(43,147258152017),(44,1170),(1000001,104009),(1000005,6591049),(2000011,421827145),(2000021,3374617161),(2000038,26996937289)]
def WB : C := (.seq (.reg [(none, .box 3 (.t 0)),(none, .box 5 (.t 2)),(none, .alloc 6 [(.sl true true 1 []), (.sl true true 1 []), (N 0), (.sl true true 1 [])])]) (.seq (.seq (.seq (.frz 3) (.seq (.frz 5) (.reg [(Jfa 12 0 5),(Jlt 13 1 12)]))) (.block 0 (.seq (.reg [(Jbe 15 13 0),(Jmc 14 15)]) (.cond (.t 14) (.seq (.reg [(Jmc 16 1),(Jln 17 16),(none, .call .any (some 18) (.k (.fn Zq [])) [(.t 17)]),(Jmt 7 18)]) (.seq (.reg [(Jmc 19 7),(Jfa 20 1 5),(Jlt 21 1 20),(Jia 22 1 19 21),(none, .store 1 (.t 22) (.k (N 1)))]) (.seq (.seq (.frz 7) (.reg [(Jmt 23 1),(Jfa 24 1 5),(Jlt 25 1 24),(Jia 26 1 23 25),(Jlc 27 1 26),(none, .call .no (some 28) (.k (.fn X6 [])) [(.t 27)]),(Jmt 29 7),(none, .build 30 [(.sl true true 1 []), (.sl true true 1 []), (N 0), (.sl true true 1 [])] [(0, 1, (.t 28)), (1, 1, (.t 29))]),(Jst 4 6 30)]))
 .ret))) (.seq (.reg [(Jbe 32 13 1),(Jmc 31 32)]) (.cond (.t 31) (.seq (.reg [(none, .bslice 33 1 1 [(N 0)] [(0, 1, (.k (N 0)))]),(Jmt 34 1),(Jln 35 34),(none, .call .no (some 36) (.k (.fn Zq [])) [(.t 35)]),(none, .build 37 [(.sl true true 1 []), (.sl true true 1 []), (N 0), (.sl true true 1 [])] [(0, 1, (.t 33)), (1, 1, (.t 36))]),(Jst 4 6 37)])
 .ret)
 .skip)))))) (.seq (.reg [(Jmc 38 1),(Jmt 8 38)]) (.seq (.seq (.reg [(Jfa 39 0 5),(Jlt 40 1 39),(Jbe 41 40 9)]) (.cond (.t 41) (.reg [(Jmc 42 1),(Jfa 43 2 5),(Jlt 44 1 43),(none, .bslice 45 1 1 [(.sl true true 1 [])] [(0, 1, (.t 44))]),(none, .call .no (some 46) (.k (.fn Jj [])) [(.t 42), (.t 45)]),(Jmt 8 46)])
 .skip)) (.seq (.seq (.reg [(JlT 47 4 3),(Jmt 48 8),(JlT 49 4 5),(none, .call .no (some 50) (.k (.fn YB [])) [(.t 47), (.t 48), (.t 49), (.k (N 0))]),(none, .alloc 9 [(.sl true true 1 []), (.sl true true 1 []), (N 0), (.sl true true 1 [])]),(Jst 4 9 50)]) (.frz 9)) (.seq (.seq (.reg [(Jfa 51 2 9),(Jlt 52 1 51),(none, .bin 53 .num .neq (.t 52) (.k (N 0)))]) (.cond (.t 53) (.seq (.reg [(JlT 54 4 9),(Jst 4 6 54)])
 .ret)
 .skip)) (.seq (.seq (.reg [(Jfa 55 0 5),(Jlt 56 1 55)]) (.block 1 (.seq (.seq (.reg [(Jbe 58 56 2),(Jmc 57 58)]) (.cond (.t 57)
 .skip (.reg [(Jbe 59 56 3),(Jmc 57 59)]))) (.cond (.t 57) (.seq (.seq (.reg [(Jfa 60 0 9),(Jlt 61 1 60),(none, .indexA 62 1 (.t 61) (.k (N 0))),(Jlc 63 1 62),(none, .bin 64 .num .neq (.t 63) (.k (N 0)))]) (.cond (.t 64) (.seq (.reg [(none, .call .no (some 65) (.k (.fn WH [])) [(.k (N 2))]),(Jst 4 6 65)])
 .ret)
 .skip)) (.seq (.reg [(JlT 66 4 3),(Jmt 67 1),(JlT 68 4 5),(JlT 69 4 9),(none, .call .no (some 70) (.k (.fn ZT [])) [(.t 66), (.t 67), (.t 68), (.t 69)]),(Jst 4 6 70)])
 .ret)) (.seq (.reg [(Jbe 72 56 4),(Jmc 71 72)]) (.cond (.t 71) (.seq (.seq (.reg [(JlT 73 4 3),(Jmt 74 1),(JlT 75 4 5),(none, .call .no (some 76) (.k (.fn YB [])) [(.t 73), (.t 74), (.t 75), (.k (N 1))]),(none, .alloc 10 [(.sl true true 1 []), (.sl true true 1 []), (N 0), (.sl true true 1 [])]),(Jst 4 10 76)]) (.frz 10)) (.seq (.seq (.reg [(Jfa 77 2 10),(Jlt 78 1 77),(none, .bin 79 .num .neq (.t 78) (.k (N 0)))]) (.cond (.t 79) (.seq (.reg [(JlT 80 4 10),(Jst 4 6 80)])
 .ret)
 .skip)) (.seq (.reg [(Jfa 81 0 9),(Jlt 82 1 81),(Jfa 83 0 10),(Jlt 84 1 83),(none, .bslice 85 1 2 [(.sl true true 1 []), (.sl true true 1 [])] [(0, 1, (.t 82)), (1, 1, (.t 84))]),(none, .call .no (some 86) (.k (.fn XI [])) [(.k (N 1)), (.t 85)]),(JlT 87 4 3),(Jfa 88 1 9),(Jlt 89 1 88),(Jfa 90 1 10),(Jlt 91 1 90),(none, .call .no (some 92) (.k (.fn X1 [])) [(.t 87), (.t 89), (.k (N 1)), (.t 91)]),(none, .call .no (some 93) (.k (.fn YI [])) [(.t 86), (.t 92)]),(Jst 4 6 93)])
 .ret))) (.seq (.reg [(Jbe 95 56 6),(Jmc 94 95)]) (.cond (.t 94) (.seq (.reg [(Jfa 96 0 9),(Jlt 97 1 96),(Jfa 98 2 5),(Jlt 99 1 98),(none, .bslice 100 1 2 [(.sl true true 1 []), (.sl true true 1 [])] [(0, 1, (.t 97)), (1, 1, (.t 99))]),(none, .call .no (some 101) (.k (.fn XI [])) [(.k (N 2)), (.t 100)]),(Jfa 102 1 9),(Jlt 103 1 102),(none, .call .no (some 104) (.k (.fn YI [])) [(.t 101), (.t 103)]),(Jst 4 6 104)])
 .ret) (.seq (.reg [(Jbe 106 56 7),(Jmc 105 106)]) (.cond (.t 105) (.seq (.reg [(Jfa 107 2 5),(Jlt 108 1 107),(Jfa 109 0 9),(Jlt 110 1 109),(none, .bslice 111 1 2 [(.sl true true 1 []), (.sl true true 1 [])] [(0, 1, (.t 108)), (1, 1, (.t 110))]),(none, .call .no (some 112) (.k (.fn XI [])) [(.k (N 2)), (.t 111)]),(Jfa 113 1 9),(Jlt 114 1 113),(none, .call .no (some 115) (.k (.fn YI [])) [(.t 112), (.t 114)]),(Jst 4 6 115)])
 .ret) (.seq (.reg [(Jbe 117 56 9),(Jmc 116 117)]) (.cond (.t 116) (.seq (.seq (.reg [(JlT 118 4 3),(Jfa 119 1 9),(Jlt 120 1 119),(none, .indexA 121 1 (.t 120) (.k (N 0))),(Jlc 122 1 121),(Jfa 123 1 5),(Jlt 124 1 123),(none, .call .no (some 125) (.k (.fn Wl [])) [(.t 118), (.t 122), (.t 124)]),(none, .un 126 .not (.t 125))]) (.cond (.t 126) (.seq (.reg [(none, .call .no (some 127) (.k (.fn WH [])) [(.k (N 9))]),(Jst 4 6 127)])
 .ret)
 .skip)) (.seq (.reg [(Jfa 128 1 5),(Jlt 129 1 128),(none, .bin 130 .num .add (.k (N 3)) (.t 129)),(Jfa 131 2 5),(Jlt 132 1 131),(Jfa 133 0 9),(Jlt 134 1 133),(none, .bslice 135 1 2 [(.sl true true 1 []), (.sl true true 1 [])] [(0, 1, (.t 132)), (1, 1, (.t 134))]),(none, .call .no (some 136) (.k (.fn XI [])) [(.t 130), (.t 135)]),(Jfa 137 1 9),(Jlt 138 1 137),(none, .slice 139 1 (.t 138) (some (.k (N 1))) none none),(none, .call .no (some 140) (.k (.fn X6 [])) [(.t 139)]),(none, .call .no (some 141) (.k (.fn YI [])) [(.t 136), (.t 140)]),(Jst 4 6 141)])
 .ret)) (.seq (.reg [(Jbe 143 56 11),(Jmc 142 143)]) (.cond (.t 142) (.seq (.reg [(Jfa 144 1 5),(Jlt 145 1 144),(none, .bin 146 .num .add (.k (N 19)) (.t 145)),(Jfa 147 0 9),(Jlt 148 1 147),(none, .bslice 149 1 1 [(.sl true true 1 [])] [(0, 1, (.t 148))]),(none, .call .no (some 150) (.k (.fn XI [])) [(.t 146), (.t 149)]),(JlT 151 4 3),(Jmt 152 1),(Jln 153 152),(none, .call .no (some 154) (.k (.fn Zq [])) [(.t 153)]),(Jfa 155 1 5),(Jlt 156 1 155),(Jfa 157 1 9),(Jlt 158 1 157),(none, .call .no (some 159) (.k (.fn X1 [])) [(.t 151), (.t 154), (.t 156), (.t 158)]),(none, .call .no (some 160) (.k (.fn YI [])) [(.t 150), (.t 159)]),(Jst 4 6 160)])
 .ret) (.seq (.reg [(Jbe 162 56 10),(Jmc 161 162)]) (.cond (.t 161) (.seq (.seq (.reg [(Jfa 163 0 9),(Jlt 164 1 163),(none, .indexA 165 1 (.t 164) (.k (N 0))),(Jlc 166 1 165),(none, .call .no (some 167) (.k (.fn ZM [])) [(.t 166)]),(none, .un 168 .not (.t 167))]) (.cond (.t 168) (.seq (.reg [(none, .call .no (some 169) (.k (.fn WH [])) [(.k (N 6))]),(Jst 4 6 169)])
 .ret)
 .skip)) (.seq (.seq (.reg [(JlT 170 4 3),(Jmt 171 1),(JlT 172 4 5),(none, .call .no (some 173) (.k (.fn YB [])) [(.t 170), (.t 171), (.t 172), (.k (N 1))]),(none, .alloc 11 [(.sl true true 1 []), (.sl true true 1 []), (N 0), (.sl true true 1 [])]),(Jst 4 11 173)]) (.frz 11)) (.seq (.seq (.reg [(Jfa 174 2 11),(Jlt 175 1 174),(none, .bin 176 .num .neq (.t 175) (.k (N 0)))]) (.cond (.t 176) (.seq (.reg [(JlT 177 4 11),(Jst 4 6 177)])
 .ret)
 .skip)) (.seq (.seq (.reg [(Jfa 178 0 11),(Jlt 179 1 178),(Jfa 180 0 9),(Jlt 181 1 180),(none, .call .no (some 182) (.k (.fn X5 [])) [(.t 181), (.k (N 0))]),(none, .call .no (some 183) (.k (.fn Jh [])) [(.t 179), (.t 182)]),(none, .un 184 .not (.t 183))]) (.cond (.t 184) (.seq (.reg [(none, .call .no (some 185) (.k (.fn WH [])) [(.k (N 3))]),(Jst 4 6 185)])
 .ret)
 .skip)) (.seq (.reg [(Jfa 186 0 9),(Jlt 187 1 186),(none, .call .no (some 188) (.k (.fn X5 [])) [(.t 187), (.k (N 1))]),(JlT 189 4 3),(Jfa 190 1 9),(Jlt 191 1 190),(Jfa 192 0 9),(Jlt 193 1 192),(none, .indexA 194 1 (.t 193) (.k (N 0))),(Jlc 195 1 194),(none, .call .no (some 196) (.k (.fn ZR [])) [(.t 195)]),(Jfa 197 1 11),(Jlt 198 1 197),(none, .call .no (some 199) (.k (.fn X1 [])) [(.t 189), (.t 191), (.t 196), (.t 198)]),(none, .build 200 [(.sl true true 1 []), (.sl true true 1 []), (N 0), (.sl true true 1 [])] [(0, 1, (.t 188)), (1, 1, (.t 199))]),(Jst 4 6 200)])
 .ret)))))
 .skip)))))))))))))))) (.seq (.reg [(JlT 201 4 3),(Jmt 202 1),(JlT 203 4 5),(JlT 204 4 9),(none, .call .no (some 205) (.k (.fn ZO [])) [(.t 201), (.t 202), (.t 203), (.t 204)]),(Jst 4 6 205)])
 .ret))))))))
theorem ZkF:Qq Tryz.prog WL ZkV=some (WB,[.cell 6 true 4],206):=by kernel_rfl
def Zh7:List (Nat×List Md):=MM []
def Zc2 : C := (.seq (.reg [(none, .mv 2 .copy (.k (.sc (.bool false))))]) (.seq (.reg [(Jmc 3 0),(none, .call .no (some 4) (.k (.fn XP [])) [(.t 3), (.k (N 3)), (.k (N 18))]),(Jmc 5 4),(some (5, false), .mv 6 .copy (.t 0)),(some (5, false), .bin 7 .num .eql (.t 6) (.k (N 35))),(none, .pick 8 (.t 5) (.k (.sc (.bool true))) (.t 7)),(Jmc 2 8)])
 .ret))
theorem Zjg:Qq Tryz.prog ZM Zh7=some (Zc2,[.tmp 2],9):=by kernel_rfl
def Zlf:List (Nat×List Md):=MM [(3,2),(4,17),(6,138),(8,1264937608024307307081),(15,1106),(17,17),(18,561737),(19,9424404255369),(21,2),(22,17),(24,9424404288138),(25,1105),(27,17),(28,147258151562),(29,147258151562),(31,9975217033801),(32,9424519860874),(34,4494409),(35,4756553),(36,603169256411786),(38,4756553),(40,17),(42,75396158886538),(43,9975217033801),(44,9424519860874),(1000001,102985),(2000019,1727803986505),(2000024,884635641090633)]
def WM : C := (.seq (.reg [(none, .box 5 (.t 1)),(none, .alloc 8 [(N 0), (N 0), (.sl true true 1 []), (.sl true true 1 [])]),(none, .mv 9 .copy (.k (.sl true true 1 []))),(none, .mv 10 .copy (.k (.sc (.bool false))))]) (.seq (.seq (.frz 5) (.reg [(Jmc 25 0),(Jmc 26 0),(none, .nilchk 27 (.t 26)),(Jfa 28 5 27),(Jlc 29 1 28),(Jba 30 29 1),(none, .nilchk 31 (.t 25)),(Jfa 32 5 31),(Jst 1 32 30)])) (.seq (.seq (.reg [(Jmc 33 0),(none, .nilchk 34 (.t 33)),(Jfa 35 5 34),(Jlc 36 1 35),(none, .bin 37 .num .gtr (.t 36) (.k (N 3000)))]) (.cond (.t 37) (.seq (.reg [(JlT 38 4 5),(Jst 4 8 38),(none, .mv 9 .copy (.k (.sl true true 1 []))),(none, .mv 10 .copy (.k (.sc (.bool false))))])
 .ret)
 .skip)) (.seq (.seq (.reg [(Jfa 39 0 5),(Jlt 40 1 39)]) (.block 0 (.seq (.reg [(Jbe 42 40 0),(Jmc 41 42)]) (.cond (.t 41) (.seq (.reg [(Jmt 43 2),(Jfa 44 1 5),(Jlt 45 1 44),(Jia 46 1 43 45),(Jlc 47 1 46),(Jmc 11 47)]) (.seq (.reg [(Jmc 48 0),(none, .nilchk 49 (.t 48)),(Jfa 50 4 49),(Jlc 51 1 50),(Jmc 52 11),(Jmc 53 0),(none, .nilchk 54 (.t 53)),(Jfa 55 0 54),(JlC 56 4 55),(Jmc 57 0),(none, .nilchk 58 (.t 57)),(Jfa 59 4 58),(Jlc 60 1 59),(Jmc 61 11),(Jia 62 7 60 61),(Jfa 63 1 62),(Jlc 64 1 63),(Jmc 65 3),(none, .call .no (some 66) (.k (.fn Wq [])) [(.t 56), (.t 64), (.t 65)]),(Jia 67 7 51 52),(Jfa 68 1 67),(Jst 1 68 66)]) (.seq (.reg [(Jmc 69 0),(Jmc 70 0),(none, .nilchk 71 (.t 70)),(Jfa 72 4 71),(Jlc 73 1 72),(Jmc 74 11),(Jia 75 7 73 74),(Jfa 76 2 75),(JlC 77 4 76),(Jmc 78 0),(none, .nilchk 79 (.t 78)),(Jfa 80 4 79),(Jlc 81 1 80),(Jmc 82 11),(Jia 83 7 81 82),(Jfa 84 6 83),(Jlc 85 1 84),(Jmc 86 3),(none, .call .any (some 87) (.k (.fn W4 [])) [(.t 69), (.t 77), (.t 85), (.t 86)]),(none, .extract 88 0 (.t 87)),(none, .extract 89 1 (.t 87)),(none, .extract 90 2 (.t 87)),(Jst 4 8 88),(Jmt 9 89),(Jmc 10 90)])
 .ret))) (.seq (.seq (.reg [(Jbe 92 40 1),(Jmc 91 92)]) (.cond (.t 91)
 .skip (.seq (.reg [(Jbe 93 40 4),(Jmc 91 93)]) (.cond (.t 91)
 .skip (.seq (.reg [(Jbe 94 40 6),(Jmc 91 94)]) (.cond (.t 91)
 .skip (.seq (.reg [(Jbe 95 40 7),(Jmc 91 95)]) (.cond (.t 91)
 .skip (.seq (.reg [(Jbe 96 40 9),(Jmc 91 96)]) (.cond (.t 91)
 .skip (.reg [(Jbe 97 40 11),(Jmc 91 97)]))))))))))) (.cond (.t 91) (.seq (.reg [(JlT 98 4 5),(Jmt 99 2),(Jst 4 8 98),(Jmt 9 99),(none, .mv 10 .copy (.k (.sc (.bool true))))])
 .ret)
 .skip)))))) (.seq (.reg [(Jmc 100 3),(Jmc 12 100)]) (.seq (.seq (.reg [(Jfa 101 0 5),(Jlt 102 1 101),(none, .call .no (some 103) (.k (.fn VF [])) [(.t 102)])]) (.cond (.t 103) (.reg [(Jmc 104 0),(none, .nilchk 105 (.t 104)),(Jfa 106 0 105),(JlC 107 4 106),(Jmc 108 3),(Jfa 109 1 5),(Jlt 110 1 109),(none, .call .no (some 111) (.k (.fn QU [])) [(.t 107), (.t 108), (.t 110)]),(Jmc 12 111)])
 .skip)) (.seq (.seq (.reg [(Jmc 113 0),(Jfa 114 3 5),(Jlt 115 1 114),(none, .indexA 116 4 (.t 115) (.k (N 0))),(JlC 117 4 116),(Jmc 118 2),(Jmc 119 12),(none, .call .any (some 120) (.k (.fn W4 [])) [(.t 113), (.t 117), (.t 118), (.t 119)]),(Jmt 112 120),(none, .extract 121 0 (.t 112)),(none, .extract 122 1 (.t 112)),(none, .extract 123 2 (.t 112)),(none, .alloc 13 [(N 0), (N 0), (.sl true true 1 []), (.sl true true 1 [])]),(Jst 4 13 121),(Jmt 14 122),(Jmc 15 123)]) (.frz 13)) (.seq (.seq (.reg [(Jmc 124 15),(none, .un 125 .not (.t 124))]) (.cond (.t 125) (.seq (.reg [(JlT 126 4 5),(Jst 4 8 126),(none, .mv 9 .copy (.k (.sl true true 1 []))),(none, .mv 10 .copy (.k (.sc (.bool false))))])
 .ret)
 .skip)) (.seq (.seq (.reg [(Jfa 127 0 5),(Jlt 128 1 127)]) (.block 1 (.seq (.reg [(Jbe 130 128 2),(Jmc 129 130)]) (.cond (.t 129) (.seq (.seq (.reg [(Jmt 132 0),(Jfa 133 3 5),(Jlt 134 1 133),(none, .indexA 135 4 (.t 134) (.k (N 1))),(JlC 136 4 135),(Jmt 137 2),(Jmc 138 3),(none, .call .any (some 139) (.k (.fn W4 [])) [(.t 132), (.t 136), (.t 137), (.t 138)]),(Jmt 131 139),(none, .extract 140 0 (.t 131)),(none, .extract 141 1 (.t 131)),(none, .extract 142 2 (.t 131)),(none, .alloc 16 [(N 0), (N 0), (.sl true true 1 []), (.sl true true 1 [])]),(Jst 4 16 140),(Jmt 17 141),(Jmc 18 142)]) (.frz 16)) (.seq (.reg [(Jfa 143 1 13),(Jlt 144 1 143),(Jfa 145 1 16),(Jlt 146 1 145),(none, .bin 147 .num .add (.t 144) (.t 146)),(none, .bin 148 .num .rem (.t 147) (.k (N 3))),(none, .build 149 [(N 0), (N 0), (.sl true true 1 []), (.sl true true 1 [])] [(0, 1, (.k (N 1))), (1, 1, (.t 148))]),(Jmc 150 18),(Jst 4 8 149),(none, .mv 9 .copy (.k (.sl true true 1 []))),(Jmc 10 150)])
 .ret)) (.seq (.reg [(Jbe 152 128 3),(Jmc 151 152)]) (.cond (.t 151) (.seq (.seq (.reg [(Jfa 153 1 13),(Jlt 154 1 153),(Jbe 155 154 0)]) (.cond (.t 155) (.seq (.reg [(Jmt 156 0),(Jfa 157 3 5),(Jlt 158 1 157),(none, .indexA 159 4 (.t 158) (.k (N 1))),(JlC 160 4 159),(Jmt 161 2),(Jmc 162 3),(none, .call .any (some 163) (.k (.fn W4 [])) [(.t 156), (.t 160), (.t 161), (.t 162)]),(none, .extract 164 0 (.t 163)),(none, .extract 165 1 (.t 163)),(none, .extract 166 2 (.t 163)),(Jst 4 8 164),(Jmt 9 165),(Jmc 10 166)])
 .ret)
 .skip)) (.seq (.reg [(Jmt 167 0),(Jfa 168 3 5),(Jlt 169 1 168),(none, .indexA 170 4 (.t 169) (.k (N 2))),(JlC 171 4 170),(Jmt 172 2),(Jmc 173 3),(none, .call .any (some 174) (.k (.fn W4 [])) [(.t 167), (.t 171), (.t 172), (.t 173)]),(none, .extract 175 0 (.t 174)),(none, .extract 176 1 (.t 174)),(none, .extract 177 2 (.t 174)),(Jst 4 8 175),(Jmt 9 176),(Jmc 10 177)])
 .ret)) (.seq (.reg [(Jbe 179 128 10),(Jmc 178 179)]) (.cond (.t 178) (.seq (.reg [(Jmc 180 0),(Jmc 181 0),(none, .nilchk 182 (.t 181)),(Jfa 183 0 182),(JlC 184 4 183),(Jmc 185 3),(Jfa 186 1 13),(Jlt 187 1 186),(none, .call .no (some 188) (.k (.fn QU [])) [(.t 184), (.t 185), (.t 187)]),(Jfa 189 3 5),(Jlt 190 1 189),(none, .indexA 191 4 (.t 190) (.k (N 1))),(JlC 192 4 191),(Jmt 193 2),(none, .call .any (some 194) (.k (.fn Ze [])) [(.t 180), (.t 188), (.t 192), (.t 193)]),(Jmc 19 194)]) (.seq (.reg [(Jmt 195 0),(Jfa 196 3 13),(Jlt 197 1 196),(none, .indexA 198 4 (.t 197) (.k (N 0))),(JlC 199 4 198),(Jmc 200 19),(Jmt 201 14),(none, .call .no (some 202) (.k (.fn Yi [])) [(.t 200), (.t 201)]),(Jmc 203 3),(none, .call .any (some 204) (.k (.fn W4 [])) [(.t 195), (.t 199), (.t 202), (.t 203)]),(none, .extract 205 0 (.t 204)),(none, .extract 206 1 (.t 204)),(none, .extract 207 2 (.t 204)),(Jst 4 8 205),(Jmt 9 206),(Jmc 10 207)])
 .ret)) (.seq (.reg [(Jbe 209 128 5),(Jmc 208 209)]) (.cond (.t 208) (.seq (.reg [(Jmc 210 0),(Jmc 211 12),(Jfa 212 3 13),(Jlt 213 1 212),(none, .indexA 214 4 (.t 213) (.k (N 0))),(JlC 215 4 214),(Jmc 216 14),(none, .call .any (some 217) (.k (.fn Ze [])) [(.t 210), (.t 211), (.t 215), (.t 216)]),(Jmc 20 217)]) (.seq (.reg [(Jmc 218 0),(Jmc 219 12),(Jfa 220 3 13),(Jlt 221 1 220),(none, .indexA 222 4 (.t 221) (.k (N 1))),(JlC 223 4 222),(Jmt 224 14),(none, .call .any (some 225) (.k (.fn Ze [])) [(.t 218), (.t 219), (.t 223), (.t 224)]),(Jmc 21 225)]) (.seq (.reg [(Jmt 226 0),(Jfa 227 3 5),(Jlt 228 1 227),(none, .indexA 229 4 (.t 228) (.k (N 1))),(JlC 230 4 229),(Jmc 231 21),(Jmc 232 20),(Jmt 233 2),(none, .call .no (some 234) (.k (.fn Yi [])) [(.t 232), (.t 233)]),(none, .call .no (some 235) (.k (.fn Yi [])) [(.t 231), (.t 234)]),(Jmc 236 3),(none, .call .any (some 237) (.k (.fn W4 [])) [(.t 226), (.t 230), (.t 235), (.t 236)]),(none, .extract 238 0 (.t 237)),(none, .extract 239 1 (.t 237)),(none, .extract 240 2 (.t 237)),(Jst 4 8 238),(Jmt 9 239),(Jmc 10 240)])
 .ret))) (.seq (.reg [(Jbe 242 128 8),(Jmc 241 242)]) (.cond (.t 241) (.seq (.reg [(Jmc 243 0),(Jmc 244 12),(Jfa 245 3 13),(Jlt 246 1 245),(none, .indexA 247 4 (.t 246) (.k (N 0))),(JlC 248 4 247),(Jmt 249 14),(none, .call .any (some 250) (.k (.fn Ze [])) [(.t 243), (.t 244), (.t 248), (.t 249)]),(Jmc 22 250)]) (.seq (.reg [(none, .mv 23 .copy (.k (N 1)))]) (.seq (.seq (.reg [(Jfa 251 0 13),(Jlt 252 1 251),(Jbe 253 252 7)]) (.cond (.t 253) (.reg [(none, .mv 23 .copy (.k (N 2)))])
 .skip)) (.seq (.reg [(Jmt 254 0),(Jfa 255 3 5),(Jlt 256 1 255),(Jmc 257 23),(Jia 258 4 256 257),(JlC 259 4 258),(Jmc 260 22),(Jmt 261 2),(none, .call .no (some 262) (.k (.fn Yi [])) [(.t 260), (.t 261)]),(Jmc 263 3),(none, .call .any (some 264) (.k (.fn W4 [])) [(.t 254), (.t 259), (.t 262), (.t 263)]),(none, .extract 265 0 (.t 264)),(none, .extract 266 1 (.t 264)),(none, .extract 267 2 (.t 264)),(Jst 4 8 265),(Jmt 9 266),(Jmc 10 267)])
 .ret))))
 .skip)))))))))))) (.seq (.reg [(Jmc 268 0),(Jmc 269 0),(none, .nilchk 270 (.t 269)),(Jfa 271 0 270),(JlC 272 4 271),(Jmc 273 12),(Jfa 274 1 13),(Jlt 275 1 274),(none, .call .no (some 276) (.k (.fn QU [])) [(.t 272), (.t 273), (.t 275)]),(Jfa 277 3 13),(Jlt 278 1 277),(none, .indexA 279 4 (.t 278) (.k (N 0))),(JlC 280 4 279),(Jmt 281 14),(none, .call .any (some 282) (.k (.fn Ze [])) [(.t 268), (.t 276), (.t 280), (.t 281)]),(Jmc 24 282)]) (.seq (.reg [(Jmt 283 0),(Jfa 284 3 5),(Jlt 285 1 284),(none, .indexA 286 4 (.t 285) (.k (N 1))),(JlC 287 4 286),(Jmc 288 24),(Jmt 289 2),(none, .call .no (some 290) (.k (.fn Yi [])) [(.t 288), (.t 289)]),(Jmc 291 3),(none, .call .any (some 292) (.k (.fn W4 [])) [(.t 283), (.t 287), (.t 290), (.t 291)]),(none, .extract 293 0 (.t 292)),(none, .extract 294 1 (.t 292)),(none, .extract 295 2 (.t 292)),(Jst 4 8 293),(Jmt 9 294),(Jmc 10 295)])
 .ret)))))))))))
theorem Zkd:Qq Tryz.prog W4 Zlf=some (WM,[.cell 8 true 4,.tmp 9,.tmp 10],296):=by kernel_rfl
def Zku:List (Nat×List Md):=MM [(1,1105)]
def Zeo : C := (.seq (.reg [(none, .mv 2 .copy (.k (.sl true true 1 [])))]) (.seq (.reg [(none, .bslice 3 1 0 [] []),(Jmt 4 0),(none, .append 5 1 (.t 3) (.t 4)),(Jmt 2 5)])
 .ret))
theorem ZjV:Qq Tryz.prog X6 Zku=some (Zeo,[.tmp 2],6):=by kernel_rfl
def Znn:List (Nat×List Md):=MM [(1,8785),(1000001,1609)]
def Zfb : C := (.seq (.reg [(none, .box 3 (.t 0)),(none, .mv 6 .copy (.k (N 0)))]) (.seq (.seq (.frz 3) (.reg [(Jfa 7 2 3),(Jlt 8 1 7),(Jmc 9 1),(Jfa 10 0 3),(Jlt 11 1 10),(none, .bin 12 .num .mul (.t 9) (.t 11)),(Jmc 13 2),(none, .bin 14 .num .add (.t 12) (.t 13)),(Jia 15 1 8 14),(Jlc 16 1 15),(Jmc 6 16)]))
 .ret))
theorem Zmv:Qq Tryz.prog QU Znn=some (Zfb,[.tmp 6],17):=by kernel_rfl
def Zjz:List (Nat×List Md):=MM [(1,19480748618),(3,70794),(1000001,104009)]
def Zc0 : C := (.seq (.reg [(none, .box 3 (.t 0)),(none, .box 5 (.t 2)),(none, .mv 6 .copy (.k (.sc (.pointer none))))]) (.seq (.seq (.seq (.frz 3) (.seq (.frz 5) (.reg [(JlT 7 4 3),(none, .call .no (some 8) (.k (.fn Vg [])) [(.t 7)]),(none, .un 9 .not (.t 8)),(Jmc 10 9),(some (10, false), .load 11 .take true 4 (.t 3)),(some (10, false), .mv 12 .copy (.t 1)),(some (10, false), .call .no (some 13) (.k (.fn KB [])) [(.t 11), (.t 12)]),(some (10, false), .un 14 .not (.t 13)),(none, .pick 15 (.t 10) (.k (.sc (.bool true))) (.t 14)),(Jmc 16 15),(some (16, false), .load 17 .take true 4 (.t 3)),(some (16, false), .load 18 .take true 4 (.t 5)),(some (16, false), .mv 19 .copy (.t 1)),(some (16, false), .len 20 (.t 19)),(some (16, false), .call .no (some 21) (.k (.fn Vl [])) [(.t 17), (.t 18), (.t 20)]),(some (16, false), .un 22 .not (.t 21)),(none, .pick 23 (.t 16) (.k (.sc (.bool true))) (.t 22))]))) (.cond (.t 23) (.seq (.reg [(none, .mv 6 .copy (.k (.sc (.pointer none))))])
 .ret)
 .skip)) (.seq (.reg [(JlT 24 4 3),(none, .build 25 [(N 0), (.sl true true 1 []), (.sl true true 1 []), (.sl true true 1 [])] [(0, 4, (.t 24))]),(Jmt 26 1),(JlT 27 4 5),(none, .call .no (some 28) (.k (.fn Zc [])) [(.t 25), (.t 26), (.t 27)]),(Jmt 6 28)])
 .ret)))
theorem ZiR:Qq Tryz.prog V2 Zjz=some (Zc0,[.tmp 6],29):=by kernel_rfl
def Zan:List (Nat×List Md):=MM [(3,1105)]
def Yo : C := (.seq (.reg [(none, .mv 2 .copy (.k (.sl true true 1 [])))]) (.seq (.seq (.reg [(Jmc 3 0),(none, .bin 4 .slc .eql (.t 3) (.k (.sl true true 1 [])))]) (.cond (.t 4) (.seq (.reg [(none, .mv 2 .copy (.k (.sl true true 1 [])))])
 .ret)
 .skip)) (.seq (.reg [(none, .bslice 5 1 0 [] []),(Jmt 6 0),(none, .append 7 1 (.t 5) (.t 6)),(Jmt 2 7)])
 .ret)))
theorem Zao:Qq Tryz.prog WE Zan=some (Yo,[.tmp 2],8):=by kernel_rfl
def ZhR:List (Nat×List Md):=MM [(3,2),(6,137),(7,4493897),(1000001,201)]
def Zct : C := (.seq (.reg [(none, .box 2 (.t 0)),(none, .mv 4 .copy (.k (.sc (.bool false))))]) (.seq (.seq (.seq (.frz 2) (.reg [(Jmc 9 1),(none, .call .no (some 10) (.k (.fn ZS [])) [(.t 9)]),(none, .un 11 .not (.t 10))])) (.cond (.t 11) (.seq (.reg [(none, .mv 4 .copy (.k (.sc (.bool false))))])
 .ret)
 .skip)) (.seq (.seq (.reg [(Jmt 12 1),(Jln 13 12),(none, .mv 14 .copy (.k (N 0)))]) (.block 0 (.loop (.seq (.reg [(Jbl 15 14 13)]) (.seq (.cond (.t 15)
 .skip (.exit 0)) (.seq (.block 1 (.seq (.reg [(Jia 16 1 12 14),(Jlc 17 1 16),(Jmc 6 17)]) (.seq (.reg [(Jmc 19 6),(none, .call .no (some 20) (.k (.fn Yy [])) [(.t 19)]),(Jmt 18 20),(none, .extract 21 0 (.t 18)),(none, .extract 22 1 (.t 18)),(Jmc 7 21),(Jmc 8 22)]) (.seq (.reg [(Jmc 23 7),(Jbe 24 23 3),(Jmc 25 24),(some (25, false), .mv 26 .copy (.t 7)),(some (25, false), .bin 27 .num .eql (.t 26) (.k (N 4))),(none, .pick 28 (.t 25) (.k (.sc (.bool true))) (.t 27)),(Jmc 29 28),(some (29, true), .load 30 .take true 4 (.t 2)),(some (29, true), .mv 31 .copy (.t 8)),(some (29, true), .call .no (some 32) (.k (.fn Wx [])) [(.t 30), (.t 31)]),(some (29, true), .un 33 .not (.t 32)),(none, .pick 34 (.t 29) (.t 33) (.k (.sc (.bool false))))]) (.cond (.t 34) (.seq (.reg [(none, .mv 4 .copy (.k (.sc (.bool false))))])
 .ret)
 .skip))))) (.reg [(Jba 35 14 1),(Jmc 14 35)]))))))) (.seq (.reg [(none, .mv 4 .copy (.k (.sc (.bool true))))])
 .ret))))
theorem ZhN:Qq Tryz.prog Zn ZhR=some (Zct,[.tmp 4],36):=by kernel_rfl
def Kb:List (Nat×List Md):=MM [(1,18)]
def Xs : C := (.seq (.reg [(none, .mv 4 .copy (.k (.sc (.bool false))))]) (.seq (.reg [(Jmt 5 0),(Jmt 6 1),(none, .call .no (some 7) (.k (.fn Xc [])) [(.t 5), (.t 6)]),(none, .bin 8 .num .geq (.t 7) (.k (N 0))),(Jmc 4 8)])
 .ret))
theorem Yz:Qq Tryz.prog Wr Kb=some (Xs,[.tmp 4],9):=by kernel_rfl
def Zfl:List (Nat×List Md):=MM [(1,137)]
def Zar : C := (.seq (.reg [(none, .mv 2 .copy (.k (.sc (.bool false))))]) (.seq (.reg [(Jmc 6 0),(none, .call .no (some 7) (.k (.fn Yy [])) [(.t 6)]),(Jmt 5 7),(none, .extract 8 0 (.t 5)),(none, .extract 9 1 (.t 5)),(Jmc 3 8),(Jmc 4 9)]) (.seq (.reg [(Jmc 10 3),(Jbe 11 10 3),(Jmc 2 11)])
 .ret)))
theorem Zff:Qq Tryz.prog XR Zfl=some (Zar,[.tmp 2],12):=by kernel_rfl
def Zm0:List (Nat×List Md):=MM []
def Zfq : C := (.seq (.reg [(none, .mv 2 .copy (.k (N 0))),(none, .mv 3 .copy (.k (N 0)))]) (.seq (.block 0 (.seq (.reg [(Jmc 5 0),(none, .call .no (some 6) (.k (.fn W5 [])) [(.t 5), (.k (N 0)), (.k (N 2))]),(Jmc 4 6)]) (.cond (.t 4) (.seq (.reg [(Jmc 7 0),(Jmc 2 7),(none, .mv 3 .copy (.k (N (-1))))])
 .ret) (.seq (.reg [(Jmc 9 0),(none, .call .no (some 10) (.k (.fn W5 [])) [(.t 9), (.k (N 3)), (.k (N 18))]),(Jmc 8 10)]) (.cond (.t 8) (.seq (.reg [(Jmc 11 0),(none, .bin 12 .num .sub (.t 11) (.k (N 3))),(none, .mv 2 .copy (.k (N 3))),(Jmc 3 12)])
 .ret) (.seq (.reg [(Jmc 14 0),(none, .call .no (some 15) (.k (.fn W5 [])) [(.t 14), (.k (N 19)), (.k (N 34))]),(Jmc 13 15)]) (.cond (.t 13) (.seq (.reg [(Jmc 16 0),(none, .bin 17 .num .sub (.t 16) (.k (N 19))),(none, .mv 2 .copy (.k (N 4))),(Jmc 3 17)])
 .ret) (.seq (.reg [(Jmc 19 0),(Jbe 20 19 35),(Jmc 18 20)]) (.cond (.t 18) (.seq (.reg [(none, .mv 2 .copy (.k (N 3))),(none, .mv 3 .copy (.k (N (-1))))])
 .ret) (.seq (.reg [(Jmc 22 0),(Jbe 23 22 36),(Jmc 21 23)]) (.cond (.t 21) (.seq (.reg [(none, .mv 2 .copy (.k (N 4))),(none, .mv 3 .copy (.k (N (-1))))])
 .ret)
 .skip))))))))))) (.seq (.reg [(none, .mv 2 .copy (.k (N 5))),(none, .mv 3 .copy (.k (N (-1))))])
 .ret)))
theorem Zmm:Qq Tryz.prog Yy Zm0=some (Zfq,[.tmp 2,.tmp 3],24):=by kernel_rfl
def ZbW:List (Nat×List Md):=MM [(6,17),(8,70282),(10,9425459122762),(12,1178067047049),(13,1178067079818),(14,1105),(16,1178067047049),(17,17),(18,18409132682),(19,18409132682),(21,1178067047049),(23,2),(24,41453682712722423540949641),(28,561737),(29,1178067047049),(31,2),(32,17),(34,38048841),(35,38310985),(36,75403809596042),(38,80964224048285060735625),(39,41453682712722423540949641),(40,1106),(1000001,102985),(1000024,7077085128790601),(1000038,3623467585907298889),(1000039,3623467585907298889),(2000012,26996937289),(2000013,1727803986505),(2000016,110579455136329),(2000021,7077085128725065),(2000029,3623467585907233353)]
def Za : C := (.seq (.reg [(none, .box 5 (.t 1)),(none, .alloc 8 [(N 0), (N 0), (.sl true true 1 []), (.sl true true 1 [])]),(none, .mv 9 .copy (.k (.sl true true 1 [])))]) (.seq (.seq (.frz 5) (.reg [(Jmc 24 0),(none, .nilchk 25 (.t 24)),(Jfa 26 5 25),(Jlc 27 1 26),(Jba 28 27 1),(none, .nilchk 29 (.t 24)),(Jfa 30 5 29),(Jst 1 30 28)])) (.seq (.seq (.reg [(Jmc 31 0),(none, .nilchk 32 (.t 31)),(Jfa 33 5 32),(Jlc 34 1 33),(none, .bin 35 .num .gtr (.t 34) (.k (N 3000)))]) (.cond (.t 35) (.reg [(Jmc 36 0),(none, .nilchk 37 (.t 36)),(Jfa 38 6 37),(none, .store 1 (.t 38) (.k (.sc (.bool true))))])
 .skip)) (.seq (.seq (.reg [(Jmc 39 0),(none, .nilchk 40 (.t 39)),(Jfa 41 6 40),(Jlc 42 1 41)]) (.cond (.t 42) (.seq (.reg [(none, .build 43 [(N 0), (N 0), (.sl true true 1 []), (.sl true true 1 [])] []),(Jst 4 8 43),(none, .mv 9 .copy (.k (.sl true true 1 [])))])
 .ret)
 .skip)) (.seq (.seq (.reg [(Jfa 44 0 5),(Jlt 45 1 44)]) (.block 0 (.seq (.reg [(Jbe 47 45 0),(Jmc 46 47)]) (.cond (.t 46) (.seq (.reg [(Jmt 48 2),(Jfa 49 1 5),(Jlt 50 1 49),(Jia 51 1 48 50),(Jlc 52 1 51),(Jmt 10 52)]) (.seq (.reg [(Jmc 53 10),(Jmc 54 0),(none, .nilchk 55 (.t 54)),(Jfa 56 0 55),(JlC 57 4 56),(Jmc 58 10),(none, .nilchk 59 (.t 58)),(Jfa 60 0 59),(Jfa 61 1 60),(Jlc 62 1 61),(Jmc 63 3),(none, .call .no (some 64) (.k (.fn QC [])) [(.t 57), (.t 62), (.t 63)]),(none, .nilchk 65 (.t 53)),(Jfa 66 0 65),(Jfa 67 1 66),(Jst 1 67 64)]) (.seq (.reg [(Jmt 68 0),(Jmc 69 10),(none, .nilchk 70 (.t 69)),(Jfa 71 2 70),(JlC 72 4 71),(Jmc 73 10),(none, .nilchk 74 (.t 73)),(Jfa 75 6 74),(Jlc 76 1 75),(Jmc 77 3),(none, .call .any (some 78) (.k (.fn QF [])) [(.t 68), (.t 72), (.t 76), (.t 77)]),(none, .extract 79 0 (.t 78)),(none, .extract 80 1 (.t 78)),(Jst 4 8 79),(Jmt 9 80)])
 .ret))) (.seq (.reg [(Jbe 82 45 2),(Jmc 81 82)]) (.cond (.t 81) (.seq (.seq (.reg [(Jmc 84 0),(Jfa 85 3 5),(Jlt 86 1 85),(none, .indexA 87 4 (.t 86) (.k (N 0))),(JlC 88 4 87),(Jmc 89 2),(Jmc 90 3),(none, .call .any (some 91) (.k (.fn QF [])) [(.t 84), (.t 88), (.t 89), (.t 90)]),(Jmt 83 91),(none, .extract 92 0 (.t 83)),(none, .extract 93 1 (.t 83)),(none, .alloc 11 [(N 0), (N 0), (.sl true true 1 []), (.sl true true 1 [])]),(Jst 4 11 92),(Jmt 12 93)]) (.frz 11)) (.seq (.seq (.reg [(Jmt 95 0),(Jfa 96 3 5),(Jlt 97 1 96),(none, .indexA 98 4 (.t 97) (.k (N 1))),(JlC 99 4 98),(Jmt 100 2),(Jmc 101 3),(none, .call .any (some 102) (.k (.fn QF [])) [(.t 95), (.t 99), (.t 100), (.t 101)]),(Jmt 94 102),(none, .extract 103 0 (.t 94)),(none, .extract 104 1 (.t 94)),(none, .alloc 13 [(N 0), (N 0), (.sl true true 1 []), (.sl true true 1 [])]),(Jst 4 13 103),(Jmt 14 104)]) (.frz 13)) (.seq (.reg [(Jfa 105 1 11),(Jlt 106 1 105),(Jfa 107 1 13),(Jlt 108 1 107),(none, .bin 109 .num .add (.t 106) (.t 108)),(none, .bin 110 .num .rem (.t 109) (.k (N 3))),(none, .build 111 [(N 0), (N 0), (.sl true true 1 []), (.sl true true 1 [])] [(0, 1, (.k (N 1))), (1, 1, (.t 110))]),(Jst 4 8 111),(none, .mv 9 .copy (.k (.sl true true 1 [])))])
 .ret))) (.seq (.reg [(Jbe 113 45 3),(Jmc 112 113)]) (.cond (.t 112) (.seq (.seq (.reg [(Jmc 115 0),(Jfa 116 3 5),(Jlt 117 1 116),(none, .indexA 118 4 (.t 117) (.k (N 0))),(JlC 119 4 118),(Jmc 120 2),(Jmc 121 3),(none, .call .any (some 122) (.k (.fn QF [])) [(.t 115), (.t 119), (.t 120), (.t 121)]),(Jmt 114 122),(none, .extract 123 0 (.t 114)),(none, .extract 124 1 (.t 114)),(none, .alloc 15 [(N 0), (N 0), (.sl true true 1 []), (.sl true true 1 [])]),(Jst 4 15 123),(Jmt 16 124)]) (.frz 15)) (.seq (.seq (.reg [(Jfa 125 1 15),(Jlt 126 1 125),(Jbe 127 126 0)]) (.cond (.t 127) (.seq (.reg [(Jmt 128 0),(Jfa 129 3 5),(Jlt 130 1 129),(none, .indexA 131 4 (.t 130) (.k (N 1))),(JlC 132 4 131),(Jmt 133 2),(Jmc 134 3),(none, .call .any (some 135) (.k (.fn QF [])) [(.t 128), (.t 132), (.t 133), (.t 134)]),(none, .extract 136 0 (.t 135)),(none, .extract 137 1 (.t 135)),(Jst 4 8 136),(Jmt 9 137)])
 .ret)
 .skip)) (.seq (.reg [(Jmt 138 0),(Jfa 139 3 5),(Jlt 140 1 139),(none, .indexA 141 4 (.t 140) (.k (N 2))),(JlC 142 4 141),(Jmt 143 2),(Jmc 144 3),(none, .call .any (some 145) (.k (.fn QF [])) [(.t 138), (.t 142), (.t 143), (.t 144)]),(none, .extract 146 0 (.t 145)),(none, .extract 147 1 (.t 145)),(Jst 4 8 146),(Jmt 9 147)])
 .ret))) (.seq (.reg [(Jbe 149 45 10),(Jmc 148 149)]) (.cond (.t 148) (.seq (.seq (.reg [(Jmc 151 0),(Jfa 152 3 5),(Jlt 153 1 152),(none, .indexA 154 4 (.t 153) (.k (N 0))),(JlC 155 4 154),(Jmc 156 2),(Jmc 157 3),(none, .call .any (some 158) (.k (.fn QF [])) [(.t 151), (.t 155), (.t 156), (.t 157)]),(Jmt 150 158),(none, .extract 159 0 (.t 150)),(none, .extract 160 1 (.t 150)),(none, .alloc 17 [(N 0), (N 0), (.sl true true 1 []), (.sl true true 1 [])]),(Jst 4 17 159),(Jmt 18 160)]) (.frz 17)) (.seq (.seq (.reg [(Jmc 161 0),(none, .nilchk 162 (.t 161)),(Jfa 163 6 162),(Jlc 164 1 163)]) (.cond (.t 164) (.seq (.reg [(JlT 165 4 17),(Jst 4 8 165),(none, .mv 9 .copy (.k (.sl true true 1 [])))])
 .ret)
 .skip)) (.seq (.seq (.frz 5) (.seq (.frz 17) (.reg [(Jmc 166 0),(Jfa 167 3 17),(Jlt 168 1 167),(none, .indexA 169 4 (.t 168) (.k (N 0))),(JlT 170 4 169),(Jmt 171 18),(Jmc 172 0),(Jmc 173 0),(none, .nilchk 174 (.t 173)),(Jfa 175 0 174),(JlC 176 4 175),(Jmc 177 3),(Jfa 178 1 17),(Jlt 179 1 178),(none, .call .no (some 180) (.k (.fn Qs [])) [(.t 176), (.t 177), (.t 179)]),(Jfa 181 3 5),(Jlt 182 1 181),(none, .indexA 183 4 (.t 182) (.k (N 1))),(JlT 184 4 183),(Jmt 185 2),(none, .call .any (some 186) (.k (.fn WQ [])) [(.t 172), (.t 180), (.t 184), (.t 185)]),(none, .bslice 187 1 1 [(.sc (.pointer none))] [(0, 1, (.t 186))]),(none, .call .any (some 188) (.k (.fn ZE [])) [(.t 171), (.t 187)]),(Jmc 189 3),(none, .call .any (some 190) (.k (.fn QF [])) [(.t 166), (.t 170), (.t 188), (.t 189)]),(none, .extract 191 0 (.t 190)),(none, .extract 192 1 (.t 190)),(Jst 4 8 191),(Jmt 9 192)])))
 .ret))) (.seq (.seq (.reg [(Jbe 194 45 5),(Jmc 193 194)]) (.cond (.t 193)
 .skip (.seq (.reg [(Jbe 195 45 8),(Jmc 193 195)]) (.cond (.t 193)
 .skip (.reg [(Jbe 196 45 12),(Jmc 193 196)]))))) (.cond (.t 193) (.seq (.reg [(Jmc 197 0),(none, .nilchk 198 (.t 197)),(Jfa 199 0 198),(JlC 200 4 199),(Jmc 201 3),(Jfa 202 1 5),(Jlt 203 1 202),(none, .call .no (some 204) (.k (.fn Qs [])) [(.t 200), (.t 201), (.t 203)]),(Jmc 19 204)]) (.seq (.seq (.reg [(Jmc 206 0),(Jfa 207 3 5),(Jlt 208 1 207),(none, .indexA 209 4 (.t 208) (.k (N 0))),(JlC 210 4 209),(Jmc 211 2),(Jmc 212 19),(none, .call .any (some 213) (.k (.fn QF [])) [(.t 206), (.t 210), (.t 211), (.t 212)]),(Jmt 205 213),(none, .extract 214 0 (.t 205)),(none, .extract 215 1 (.t 205)),(none, .alloc 20 [(N 0), (N 0), (.sl true true 1 []), (.sl true true 1 [])]),(Jst 4 20 214),(Jmt 21 215)]) (.frz 20)) (.seq (.seq (.reg [(Jmc 216 0),(none, .nilchk 217 (.t 216)),(Jfa 218 6 217),(Jlc 219 1 218)]) (.cond (.t 219) (.seq (.reg [(JlT 220 4 20),(Jst 4 8 220),(none, .mv 9 .copy (.k (.sl true true 1 [])))])
 .ret)
 .skip)) (.seq (.seq (.reg [(Jfa 221 0 5),(Jlt 222 1 221)]) (.block 1 (.seq (.reg [(Jbe 224 222 5),(Jmc 223 224)]) (.cond (.t 223) (.seq (.reg [(Jmc 225 0),(Jmc 226 19),(Jfa 227 3 20),(Jlt 228 1 227),(none, .indexA 229 4 (.t 228) (.k (N 0))),(JlC 230 4 229),(Jmc 231 21),(none, .call .any (some 232) (.k (.fn WQ [])) [(.t 225), (.t 226), (.t 230), (.t 231)]),(Jmt 22 232)]) (.seq (.reg [(Jmc 233 0),(Jmc 234 19),(Jfa 235 3 20),(Jlt 236 1 235),(none, .indexA 237 4 (.t 236) (.k (N 1))),(JlC 238 4 237),(Jmt 239 21),(none, .call .any (some 240) (.k (.fn WQ [])) [(.t 233), (.t 234), (.t 238), (.t 239)]),(Jmt 23 240)]) (.seq (.reg [(Jmt 241 0),(Jfa 242 3 5),(Jlt 243 1 242),(none, .indexA 244 4 (.t 243) (.k (N 1))),(JlT 245 4 244),(Jmt 246 2),(Jmt 247 23),(Jmt 248 22),(none, .bslice 249 1 2 [(.sc (.pointer none)), (.sc (.pointer none))] [(0, 1, (.t 247)), (1, 1, (.t 248))]),(none, .call .any (some 250) (.k (.fn ZE [])) [(.t 246), (.t 249)]),(Jmc 251 3),(none, .call .any (some 252) (.k (.fn QF [])) [(.t 241), (.t 245), (.t 250), (.t 251)]),(none, .extract 253 0 (.t 252)),(none, .extract 254 1 (.t 252)),(Jst 4 8 253),(Jmt 9 254)])
 .ret))) (.seq (.reg [(Jbe 256 222 8),(Jmc 255 256)]) (.cond (.t 255) (.seq (.seq (.frz 5) (.seq (.frz 20) (.reg [(Jmc 257 0),(Jfa 258 3 5),(Jlt 259 1 258),(Jfa 260 0 20),(Jlt 261 1 260),(none, .bin 262 .num .add (.k (N 1)) (.t 261)),(none, .bin 263 .num .sub (.t 262) (.k (N 6))),(Jia 264 4 259 263),(JlT 265 4 264),(Jmt 266 2),(Jmc 267 0),(Jmc 268 19),(Jfa 269 3 20),(Jlt 270 1 269),(none, .indexA 271 4 (.t 270) (.k (N 0))),(JlT 272 4 271),(Jmt 273 21),(none, .call .any (some 274) (.k (.fn WQ [])) [(.t 267), (.t 268), (.t 272), (.t 273)]),(none, .bslice 275 1 1 [(.sc (.pointer none))] [(0, 1, (.t 274))]),(none, .call .any (some 276) (.k (.fn ZE [])) [(.t 266), (.t 275)]),(Jmc 277 3),(none, .call .any (some 278) (.k (.fn QF [])) [(.t 257), (.t 265), (.t 276), (.t 277)]),(none, .extract 279 0 (.t 278)),(none, .extract 280 1 (.t 278)),(Jst 4 8 279),(Jmt 9 280)])))
 .ret)
 .skip)))))) (.seq (.seq (.frz 5) (.seq (.frz 20) (.reg [(Jmc 281 0),(Jfa 282 3 5),(Jlt 283 1 282),(none, .indexA 284 4 (.t 283) (.k (N 1))),(JlT 285 4 284),(Jmt 286 2),(Jmc 287 0),(Jmc 288 0),(none, .nilchk 289 (.t 288)),(Jfa 290 0 289),(JlC 291 4 290),(Jmc 292 19),(Jfa 293 1 20),(Jlt 294 1 293),(none, .call .no (some 295) (.k (.fn Qs [])) [(.t 291), (.t 292), (.t 294)]),(Jfa 296 3 20),(Jlt 297 1 296),(none, .indexA 298 4 (.t 297) (.k (N 0))),(JlT 299 4 298),(Jmt 300 21),(none, .call .any (some 301) (.k (.fn WQ [])) [(.t 287), (.t 295), (.t 299), (.t 300)]),(none, .bslice 302 1 1 [(.sc (.pointer none))] [(0, 1, (.t 301))]),(none, .call .any (some 303) (.k (.fn ZE [])) [(.t 286), (.t 302)]),(Jmc 304 3),(none, .call .any (some 305) (.k (.fn QF [])) [(.t 281), (.t 285), (.t 303), (.t 304)]),(none, .extract 306 0 (.t 305)),(none, .extract 307 1 (.t 305)),(Jst 4 8 306),(Jmt 9 307)])))
 .ret)))))
 .skip)))))))))))) (.seq (.reg [(JlT 308 4 5),(Jmt 309 2),(Jst 4 8 308),(Jmt 9 309)])
 .ret))))))
theorem JY:Qq Tryz.prog QF ZbW=some (Za,[.cell 8 true 4,.tmp 9],310):=by kernel_rfl
def ZcD:List (Nat×List Md):=MM [(1,8785),(1000001,1609)]
def Kj : C := (.seq (.reg [(none, .box 3 (.t 0)),(none, .mv 6 .copy (.k (N 0)))]) (.seq (.seq (.frz 3) (.reg [(Jfa 7 2 3),(Jlt 8 1 7),(Jmc 9 1),(Jfa 10 0 3),(Jlt 11 1 10),(none, .bin 12 .num .mul (.t 9) (.t 11)),(Jmc 13 2),(none, .bin 14 .num .add (.t 12) (.t 13)),(Jia 15 1 8 14),(Jlc 16 1 15),(Jmc 6 16)]))
 .ret))
theorem Zcz:Qq Tryz.prog Qs ZcD=some (Kj,[.tmp 6],17):=by kernel_rfl
def Zk7:List (Nat×List Md):=MM [(1,75463804621386),(1000001,13897)]
def Zd4 : C := (.seq (.reg [(none, .box 3 (.t 0)),(none, .box 4 (.t 1)),(none, .mv 6 .copy (.k (.sc (.bool false))))]) (.seq (.seq (.frz 3) (.seq (.frz 4) (.reg [(JlT 7 4 3),(none, .call .no (some 8) (.k (.fn JA [])) [(.t 7)]),(Jmc 9 8),(some (9, true), .mv 10 .copy (.t 2)),(some (9, true), .call .no (some 11) (.k (.fn XP [])) [(.t 10), (.k (N 0)), (.k (N 8))]),(none, .pick 12 (.t 9) (.t 11) (.k (.sc (.bool false)))),(Jmc 13 12),(some (13, true), .load 14 .take true 4 (.t 4)),(some (13, true), .call .no (some 15) (.k (.fn KN [])) [(.t 14), (.k (N 400))]),(some (13, true), .bin 16 .num .geq (.t 15) (.k (N 0))),(none, .pick 17 (.t 13) (.t 16) (.k (.sc (.bool false)))),(Jmc 18 17),(some (18, true), .load 19 .take true 4 (.t 4)),(some (18, true), .mv 20 .copy (.t 2)),(some (18, true), .fieldA 21 0 (.t 3)),(some (18, true), .load 22 .take false 1 (.t 21)),(some (18, true), .call .no (some 23) (.k (.fn KP [])) [(.t 19), (.t 20), (.t 22), (.k (.sc (.bool true)))]),(none, .pick 24 (.t 18) (.t 23) (.k (.sc (.bool false)))),(Jmc 6 24)])))
 .ret))
theorem ZkZ:Qq Tryz.prog ZaF Zk7=some (Zd4,[.tmp 6],25):=by kernel_rfl
def ZmG:List (Nat×List Md):=MM [(1,4450726473),(2,2),(1000001,823881)]
def ZbF : C := (.seq (.reg [(none, .box 6 (.t 2)),(none, .mv 8 .copy (.k (N 0)))]) (.seq (.seq (.frz 6) (.reg [(Jmc 9 0),(Jmc 10 0),(none, .nilchk 11 (.t 10)),(Jfa 12 4 11),(none, .load 13 .frz false 1 (.t 12)),(Jmc 14 1),(JlT 15 4 6),(Jmt 16 3),(none, .build 17 [(N 0), (N 0), (N 0), (N 0), (.sl true true 1 []), (.sl true true 1 []), (.sl true true 1 [])] [(0, 1, (.t 14)), (2, 4, (.t 15)), (6, 1, (.t 16))]),(none, .bslice 18 7 1 [(N 0), (N 0), (N 0), (N 0), (.sl true true 1 []), (.sl true true 1 []), (.sl true true 1 [])] [(0, 7, (.t 17))]),(none, .call (.ap 7) (some 19) (.k (.fn 0 [])) [(.t 13), (.t 18)]),(none, .nilchk 20 (.t 9)),(Jfa 21 4 20),(Jst 1 21 19)])) (.seq (.reg [(Jmt 22 0),(none, .nilchk 23 (.t 22)),(Jfa 24 4 23),(Jlc 25 1 24),(Jln 26 25),(none, .bin 27 .num .sub (.t 26) (.k (N 1))),(Jmc 8 27)])
 .ret)))
theorem Zng:Qq Tryz.prog Ze ZmG=some (ZbF,[.tmp 8],28):=by kernel_rfl
def Jc:List (Nat×List Md):=MM [(1,18)]
def XY : C := (.seq (.reg [(none, .mv 4 .copy (.k (.sc (.bool false))))]) (.seq (.reg [(Jmt 5 0),(Jmt 6 1),(none, .call .no (some 7) (.k (.fn Xo [])) [(.t 5), (.t 6)]),(none, .bin 8 .num .geq (.t 7) (.k (N 0))),(Jmc 4 8)])
 .ret))
theorem Jf:Qq Tryz.prog W9 Jc=some (XY,[.tmp 4],9):=by kernel_rfl
def ZmO:List (Nat×List Md):=MM [(5,35951178),(7,18)]
def ZfS : C := (.seq (.reg [(none, .mv 2 .copy (.k (.sl true true 1 [])))]) (.seq (.reg [(none, .mv 3 .copy (.k (.sl true true 1 [])))]) (.seq (.seq (.reg [(none, .mv 4 .copy (.k (N 1)))]) (.block 0 (.loop (.seq (.seq (.reg [(Jmc 6 4),(Jmc 7 0),(Jln 8 7),(Jbl 9 6 8)]) (.cond (.t 9)
 .skip (.exit 0))) (.block 1 (.seq (.reg [(Jmc 10 0),(Jmc 11 4),(none, .call .no (some 12) (.k (.fn Xd [])) [(.t 10), (.t 11)]),(Jmc 5 12)]) (.seq (.reg [(Jmt 13 3),(Jmc 14 0),(Jmc 15 4),(Jmc 16 5),(Jmc 17 5),(none, .slice 18 1 (.t 14) (some (.t 15)) (some (.t 16)) (some (.t 17))),(none, .bslice 19 1 1 [(.sl true true 1 [])] [(0, 1, (.t 18))]),(none, .append 20 1 (.t 13) (.t 19)),(Jmt 3 20)]) (.reg [(Jmc 21 5),(Jmc 4 21)])))))))) (.seq (.reg [(Jmt 22 3),(Jmt 2 22)])
 .ret))))
theorem Znb:Qq Tryz.prog Z2 ZmO=some (ZfS,[.tmp 2],23):=by kernel_rfl
def Zaq:List (Nat×List Md):=MM []
def Z7 : C := (.seq (.reg [(none, .mv 4 .copy (.k (.sc (.bool false))))]) (.seq (.seq (.reg [(Jmc 6 0),(Jln 7 6),(Jmc 8 1),(Jln 9 8),(none, .bin 10 .num .neq (.t 7) (.t 9))]) (.cond (.t 10) (.seq (.reg [(none, .mv 4 .copy (.k (.sc (.bool false))))])
 .ret)
 .skip)) (.seq (.seq (.reg [(Jmc 11 0),(Jln 12 11),(none, .mv 13 .copy (.k (N 0)))]) (.block 0 (.loop (.seq (.reg [(Jbl 14 13 12)]) (.seq (.cond (.t 14)
 .skip (.exit 0)) (.seq (.block 1 (.seq (.reg [(Jmc 15 13),(Jmc 5 15)]) (.seq (.reg [(Jmc 16 0),(Jmc 17 5),(Jia 18 1 16 17),(Jlc 19 1 18),(Jmc 20 1),(Jmc 21 5),(Jia 22 1 20 21),(Jlc 23 1 22),(none, .bin 24 .num .neq (.t 19) (.t 23))]) (.cond (.t 24) (.seq (.reg [(none, .mv 4 .copy (.k (.sc (.bool false))))])
 .ret)
 .skip)))) (.reg [(Jba 25 13 1),(Jmc 13 25)]))))))) (.seq (.reg [(none, .mv 4 .copy (.k (.sc (.bool true))))])
 .ret))))
theorem Zap:Qq Tryz.prog W8 Zaq=some (Z7,[.tmp 4],26):=by kernel_rfl
def ZjY:List (Nat×List Md):=MM [(3,8778),(4,8778)]
def ZdY : C := (.seq (.reg [(none, .mv 4 .copy (.k (.sl true true 1 [])))]) (.seq (.reg [(Jmc 6 0),(none, .call .no (some 7) (.k (.fn VC [])) [(.t 6), (.k (N 1))]),(Jmc 5 7)]) (.seq (.seq (.reg [(Jmc 8 1),(Jbe 9 8 0)]) (.cond (.t 9) (.seq (.reg [(Jmt 10 0),(Jmc 11 5),(none, .slice 12 1 (.t 10) (some (.k (N 1))) (some (.t 11)) none),(none, .call .no (some 13) (.k (.fn X6 [])) [(.t 12)]),(Jmt 4 13)])
 .ret)
 .skip)) (.seq (.reg [(Jmt 14 0),(Jmc 15 5),(none, .slice 16 1 (.t 14) (some (.t 15)) none none),(none, .call .no (some 17) (.k (.fn X6 [])) [(.t 16)]),(Jmt 4 17)])
 .ret))))
theorem ZkN:Qq Tryz.prog X5 ZjY=some (ZdY,[.tmp 4],18):=by kernel_rfl
def Znj:List (Nat×List Md):=MM []
def ZfE : C := (.seq (.reg [(none, .mv 2 .copy (.k (.sc (.bool false))))]) (.seq (.reg [(Jmc 3 0),(none, .call .no (some 4) (.k (.fn XP [])) [(.t 3), (.k (N 19)), (.k (N 34))]),(Jmc 5 4),(some (5, false), .mv 6 .copy (.t 0)),(some (5, false), .bin 7 .num .eql (.t 6) (.k (N 36))),(none, .pick 8 (.t 5) (.k (.sc (.bool true))) (.t 7)),(Jmc 2 8)])
 .ret))
theorem ZmU:Qq Tryz.prog Vz Znj=some (ZfE,[.tmp 2],9):=by kernel_rfl
def Zh8:List (Nat×List Md):=MM []
def ZcQ : C := (.seq (.reg [(none, .mv 2 .copy (.k (N 0)))]) (.seq (.block 0 (.seq (.reg [(Jmc 4 0),(none, .bin 5 .num .geq (.t 4) (.k (N 35))),(Jmc 3 5)]) (.cond (.t 3) (.seq (.reg [(none, .mv 2 .copy (.k (N (-1))))])
 .ret) (.seq (.reg [(Jmc 7 0),(none, .bin 8 .num .geq (.t 7) (.k (N 19))),(Jmc 6 8)]) (.cond (.t 6) (.seq (.reg [(Jmc 9 0),(none, .bin 10 .num .sub (.t 9) (.k (N 19))),(Jmc 2 10)])
 .ret)
 .skip))))) (.seq (.reg [(Jmc 11 0),(none, .bin 12 .num .sub (.t 11) (.k (N 3))),(Jmc 2 12)])
 .ret)))
theorem Zio:Qq Tryz.prog ZR Zh8=some (ZcQ,[.tmp 2],13):=by kernel_rfl
def Zhr:List (Nat×List Md):=MM [(1,2),(4,137),(6,2),(9,137),(11,2),(14,137),(16,2),(1000001,25)]
def Zcl : C := (.seq (.reg [(none, .box 1 (.t 0)),(none, .mv 2 .copy (.k (.sc (.bool false))))]) (.seq (.seq (.seq (.frz 1) (.reg [(JlT 6 4 1),(none, .call .no (some 7) (.k (.fn Vk [])) [(.t 6)]),(none, .un 8 .not (.t 7))])) (.cond (.t 8) (.seq (.reg [(none, .mv 2 .copy (.k (.sc (.bool false))))])
 .ret)
 .skip)) (.seq (.seq (.reg [(none, .mv 3 .copy (.k (N 0)))]) (.block 0 (.loop (.seq (.seq (.reg [(Jmc 9 3),(Jfa 10 0 1),(Jlt 11 1 10),(Jbl 12 9 11)]) (.cond (.t 12)
 .skip (.exit 0))) (.seq (.block 1 (.seq (.seq (.reg [(JlT 15 4 1),(Jmc 16 3),(none, .call .no (some 17) (.k (.fn ZbV [])) [(.t 15), (.t 16)]),(none, .un 18 .not (.t 17))]) (.cond (.t 18) (.seq (.reg [(none, .mv 2 .copy (.k (.sc (.bool false))))])
 .ret)
 .skip)) (.seq (.reg [(none, .mv 4 .copy (.k (N 0)))]) (.block 2 (.loop (.seq (.seq (.reg [(Jmc 19 4),(Jfa 20 0 1),(Jlt 21 1 20),(Jbl 22 19 21)]) (.cond (.t 22)
 .skip (.exit 2))) (.seq (.block 3 (.seq (.seq (.reg [(JlT 25 4 1),(Jmc 26 3),(Jmc 27 4),(none, .call .no (some 28) (.k (.fn Zb9 [])) [(.t 25), (.t 26), (.t 27)]),(none, .un 29 .not (.t 28))]) (.cond (.t 29) (.seq (.reg [(none, .mv 2 .copy (.k (.sc (.bool false))))])
 .ret)
 .skip)) (.seq (.reg [(none, .mv 5 .copy (.k (N 0)))]) (.block 4 (.loop (.seq (.seq (.reg [(Jmc 30 5),(Jfa 31 0 1),(Jlt 32 1 31),(Jbl 33 30 32)]) (.cond (.t 33)
 .skip (.exit 4))) (.seq (.block 5 (.seq (.reg [(JlT 36 4 1),(Jmc 37 3),(Jmc 38 4),(Jmc 39 5),(none, .call .no (some 40) (.k (.fn Zag [])) [(.t 36), (.t 37), (.t 38), (.t 39)]),(none, .un 41 .not (.t 40))]) (.cond (.t 41) (.seq (.reg [(none, .mv 2 .copy (.k (.sc (.bool false))))])
 .ret)
 .skip))) (.reg [(Jmc 34 5),(Jba 35 34 1),(Jmc 5 35)])))))))) (.reg [(Jmc 23 4),(Jba 24 23 1),(Jmc 4 24)])))))))) (.reg [(Jmc 13 3),(Jba 14 13 1),(Jmc 3 14)])))))) (.seq (.reg [(none, .mv 2 .copy (.k (.sc (.bool true))))])
 .ret))))
theorem ZhJ:Qq Tryz.prog JA Zhr=some (Zcl,[.tmp 2],42):=by kernel_rfl
def ZgB:List (Nat×List Md):=MM [(6,147256021577),(1000001,201)]
def Zbd : C := (.seq (.reg [(none, .box 2 (.t 0)),(none, .mv 4 .copy (.k (.sc (.bool false))))]) (.seq (.seq (.seq (.frz 2) (.reg [(Jmc 6 1),(Jln 7 6),(none, .bin 8 .num .gtr (.t 7) (.k (N 8)))])) (.cond (.t 8) (.seq (.reg [(none, .mv 4 .copy (.k (.sc (.bool false))))])
 .ret)
 .skip)) (.seq (.seq (.reg [(none, .mv 5 .copy (.k (N 0)))]) (.block 0 (.loop (.seq (.seq (.reg [(Jmc 9 5),(Jmc 10 1),(Jln 11 10),(Jbl 12 9 11)]) (.cond (.t 12)
 .skip (.exit 0))) (.seq (.block 1 (.seq (.reg [(Jmc 15 1),(Jmc 16 5),(Jia 17 1 15 16),(Jlc 18 1 17),(none, .call .no (some 19) (.k (.fn KO [])) [(.t 18)]),(none, .un 20 .not (.t 19)),(Jmc 21 20),(some (21, false), .mv 22 .copy (.t 1)),(some (21, false), .mv 23 .copy (.t 5)),(some (21, false), .indexA 24 1 (.t 22) (.t 23)),(some (21, false), .load 25 .copy false 1 (.t 24)),(some (21, false), .fieldA 26 0 (.t 2)),(some (21, false), .load 27 .take false 1 (.t 26)),(some (21, false), .call .no (some 28) (.k (.fn Jy [])) [(.t 25), (.t 27), (.k (.sc (.bool true)))]),(some (21, false), .un 29 .not (.t 28)),(none, .pick 30 (.t 21) (.k (.sc (.bool true))) (.t 29))]) (.cond (.t 30) (.seq (.reg [(none, .mv 4 .copy (.k (.sc (.bool false))))])
 .ret)
 .skip))) (.reg [(Jmc 13 5),(Jba 14 13 1),(Jmc 5 14)])))))) (.seq (.reg [(none, .mv 4 .copy (.k (.sc (.bool true))))])
 .ret))))
theorem Zgz:Qq Tryz.prog Kz ZgB=some (Zbd,[.tmp 4],31):=by kernel_rfl
def Zk5:List (Nat×List Md):=MM [(1,201)]
def Zep : C := (.seq (.reg [(none, .mv 2 .copy (.k (.sl true true 1 [])))]) (.seq (.reg [(Jmc 3 0),(none, .mkslice 4 1 [(N 0)] (.t 3)),(none, .mv 2 .frz (.t 4))])
 .ret))
theorem Zkg:Qq Tryz.prog Zq Zk5=some (Zep,[.tmp 2],5):=by kernel_rfl
def Zj8:List (Nat×List Md):=MM [(1,70737)]
def Zeh : C := (.seq (.reg [(none, .mv 4 .copy (.k (.sl true true 1 [])))]) (.seq (.reg [(none, .bslice 5 1 0 [] []),(Jmt 6 1),(none, .append 7 1 (.t 5) (.t 6)),(Jmt 8 0),(none, .append 9 1 (.t 7) (.t 8)),(Jmt 4 9)])
 .ret))
theorem Zj3:Qq Tryz.prog Jj Zj8=some (Zeh,[.tmp 4],10):=by kernel_rfl
def Zn1:List (Nat×List Md):=MM [(1,1106),(4,3),(1000001,832073)]
def ZgU : C := (.seq (.reg [(none, .box 4 (.t 0)),(none, .box 6 (.t 2)),(none, .alloc 8 [(.sl true true 1 []), (.sl true true 1 []), (N 0), (.sl true true 1 [])])]) (.seq (.seq (.frz 4) (.seq (.frz 6) (.reg [(JlT 10 4 4),(Jmt 11 1),(Jfa 12 3 6),(Jlt 13 1 12),(Jmc 14 3),(Jia 15 4 13 14),(JlC 16 4 15),(none, .call .no (some 17) (.k (.fn WL [])) [(.t 10), (.t 11), (.t 16)]),(none, .alloc 9 [(.sl true true 1 []), (.sl true true 1 []), (N 0), (.sl true true 1 [])]),(Jst 4 9 17)]))) (.seq (.seq (.reg [(Jfa 18 2 9),(Jlc 19 1 18),(none, .bin 20 .num .neq (.t 19) (.k (N 0)))]) (.cond (.t 20) (.reg [(Jmc 21 3),(none, .bslice 22 1 1 [(N 0)] [(0, 1, (.t 21))]),(Jfa 23 3 9),(Jlc 24 1 23),(none, .append 25 1 (.t 22) (.t 24)),(Jfa 26 3 9),(Jst 1 26 25)])
 .skip)) (.seq (.reg [(none, .load 27 .frz true 4 (.t 9)),(Jst 4 8 27)])
 .ret))))
theorem ZoV:Qq Tryz.prog YB Zn1=some (ZgU,[.cell 8 true 4],28):=by kernel_rfl
def ZmV:List (Nat×List Md):=MM []
def ZfO : C := (.seq (.reg [(none, .alloc 2 [(.sl true true 1 []), (.sl true true 1 []), (N 0), (.sl true true 1 [])])]) (.seq (.reg [(Jmc 3 0),(none, .build 4 [(.sl true true 1 []), (.sl true true 1 []), (N 0), (.sl true true 1 [])] [(2, 1, (.t 3))]),(Jst 4 2 4)])
 .ret))
theorem Zmf:Qq Tryz.prog WH ZmV=some (ZfO,[.cell 2 true 4],5):=by kernel_rfl
def ZgN:List (Nat×List Md):=MM [(1,138),(2,17),(3,2),(4,17),(5,17),(7,565905),(8,146),(9,17),(10,2),(11,1105),(13,289743505),(1000001,7123529),(2000001,421827145),(2000008,3374617161)]
def KF : C := (.seq (.reg [(none, .box 4 (.t 0)),(none, .box 6 (.t 2)),(none, .box 7 (.t 3)),(none, .alloc 8 [(.sl true true 1 []), (.sl true true 1 []), (N 0), (.sl true true 1 [])])]) (.seq (.seq (.frz 4) (.seq (.frz 6) (.seq (.frz 7) (.seq (.reg [(JlT 11 4 4),(Jmc 12 1),(JlT 13 4 6),(none, .call .no (some 14) (.k (.fn YB [])) [(.t 11), (.t 12), (.t 13), (.k (N 1))]),(none, .alloc 9 [(.sl true true 1 []), (.sl true true 1 []), (N 0), (.sl true true 1 [])]),(Jst 4 9 14)]) (.frz 9))))) (.seq (.seq (.reg [(Jfa 15 2 9),(Jlt 16 1 15),(none, .bin 17 .num .neq (.t 16) (.k (N 0)))]) (.cond (.t 17) (.seq (.reg [(JlT 18 4 9),(Jst 4 8 18)])
 .ret)
 .skip)) (.seq (.seq (.reg [(Jfa 19 0 6),(Jlt 20 1 19),(Jbe 21 20 2)]) (.cond (.t 21) (.seq (.seq (.reg [(Jfa 22 0 9),(Jlt 23 1 22),(none, .indexA 24 1 (.t 23) (.k (N 0))),(Jlc 25 1 24),(none, .bin 26 .num .neq (.t 25) (.k (N 0)))]) (.cond (.t 26) (.seq (.reg [(none, .call .no (some 27) (.k (.fn WH [])) [(.k (N 2))]),(Jst 4 8 27)])
 .ret)
 .skip)) (.seq (.reg [(Jfa 28 0 9),(Jlt 29 1 28),(JlT 30 4 4),(Jfa 31 1 7),(Jlt 32 1 31),(Jfa 33 1 9),(Jlt 34 1 33),(none, .call .no (some 35) (.k (.fn X1 [])) [(.t 30), (.t 32), (.k (N 1)), (.t 34)]),(none, .build 36 [(.sl true true 1 []), (.sl true true 1 []), (N 0), (.sl true true 1 [])] [(0, 1, (.t 29)), (1, 1, (.t 35))]),(Jst 4 8 36)])
 .ret))
 .skip)) (.seq (.seq (.reg [(JlT 37 4 4),(Jmt 38 1),(JlT 39 4 6),(none, .call .no (some 40) (.k (.fn YB [])) [(.t 37), (.t 38), (.t 39), (.k (N 2))]),(none, .alloc 10 [(.sl true true 1 []), (.sl true true 1 []), (N 0), (.sl true true 1 [])]),(Jst 4 10 40)]) (.frz 10)) (.seq (.seq (.reg [(Jfa 41 2 10),(Jlt 42 1 41),(none, .bin 43 .num .neq (.t 42) (.k (N 0)))]) (.cond (.t 43) (.seq (.reg [(JlT 44 4 10),(Jst 4 8 44)])
 .ret)
 .skip)) (.seq (.seq (.reg [(Jfa 45 0 9),(Jlt 46 1 45),(Jfa 47 0 10),(Jlt 48 1 47),(none, .call .no (some 49) (.k (.fn Jh [])) [(.t 46), (.t 48)]),(none, .un 50 .not (.t 49))]) (.cond (.t 50) (.seq (.reg [(none, .call .no (some 51) (.k (.fn WH [])) [(.k (N 3))]),(Jst 4 8 51)])
 .ret)
 .skip)) (.seq (.reg [(Jfa 52 0 9),(Jlt 53 1 52),(JlT 54 4 4),(Jfa 55 1 7),(Jlt 56 1 55),(JlT 57 4 4),(Jfa 58 1 9),(Jlt 59 1 58),(Jfa 60 1 10),(Jlt 61 1 60),(none, .call .no (some 62) (.k (.fn KQ [])) [(.t 57), (.t 59), (.t 61)]),(none, .call .no (some 63) (.k (.fn X1 [])) [(.t 54), (.t 56), (.k (N 1)), (.t 62)]),(none, .build 64 [(.sl true true 1 []), (.sl true true 1 []), (N 0), (.sl true true 1 [])] [(0, 1, (.t 53)), (1, 1, (.t 63))]),(Jst 4 8 64)])
 .ret))))))))
theorem Zbq:Qq Tryz.prog ZT ZgN=some (KF,[.cell 8 true 4],65):=by kernel_rfl
def Zj6:List (Nat×List Md):=MM [(3,18)]
def Zec : C := (.seq (.reg [(none, .alloc 4 [(.sl true true 1 []), (.sl true true 1 []), (N 0), (.sl true true 1 [])])]) (.seq (.seq (.reg [(Jmc 5 0),(Jln 6 5),(none, .bin 7 .num .gtr (.t 6) (.k (N 40)))]) (.cond (.t 7) (.seq (.reg [(none, .call .no (some 8) (.k (.fn WH [])) [(.k (N 3))]),(Jst 4 4 8)])
 .ret)
 .skip)) (.seq (.reg [(Jmt 9 0),(Jmt 10 1),(none, .build 11 [(.sl true true 1 []), (.sl true true 1 []), (N 0), (.sl true true 1 [])] [(0, 1, (.t 9)), (1, 1, (.t 10))]),(Jst 4 4 11)])
 .ret)))
theorem ZkG:Qq Tryz.prog YI Zj6=some (Zec,[.cell 4 true 4],12):=by kernel_rfl
def Zlb:List (Nat×List Md):=MM [(1,137),(5,561738),(6,18)]
def Zeu : C := (.seq (.reg [(none, .mv 4 .copy (.k (.sl true true 1 [])))]) (.seq (.reg [(Jmc 7 0),(none, .bslice 8 1 1 [(N 0)] [(0, 1, (.t 7))]),(Jmt 5 8)]) (.seq (.seq (.reg [(none, .mv 6 .copy (.k (N 0)))]) (.block 0 (.loop (.seq (.seq (.reg [(Jmc 9 6),(Jmc 10 1),(Jln 11 10),(Jbl 12 9 11)]) (.cond (.t 12)
 .skip (.exit 0))) (.seq (.block 1 (.reg [(Jmt 15 5),(Jmc 16 1),(Jmc 17 6),(Jia 18 1 16 17),(Jlc 19 1 18),(none, .append 20 1 (.t 15) (.t 19)),(Jmt 5 20)])) (.reg [(Jmc 13 6),(Jba 14 13 1),(Jmc 6 14)])))))) (.seq (.reg [(Jmt 21 5),(Jmt 4 21)])
 .ret))))
theorem Zk6:Qq Tryz.prog XI Zlb=some (Zeu,[.tmp 4],22):=by kernel_rfl
def Zmq:List (Nat×List Md):=MM [(1,17),(5,603160664642130),(6,18),(1000001,12873)]
def Ze9 : C := (.seq (.reg [(none, .box 4 (.t 0)),(none, .mv 8 .copy (.k (.sl true true 1 [])))]) (.seq (.seq (.frz 4) (.reg [(none, .bslice 11 1 0 [] []),(Jmt 9 11)])) (.seq (.seq (.reg [(none, .mv 10 .copy (.k (N 0)))]) (.block 0 (.loop (.seq (.seq (.reg [(Jmc 12 10),(Jmc 13 1),(Jln 14 13),(Jbl 15 12 14)]) (.cond (.t 15)
 .skip (.exit 0))) (.seq (.block 1 (.reg [(Jmt 18 9),(JlT 19 4 4),(Jmc 20 1),(Jmc 21 10),(Jia 22 1 20 21),(Jlc 23 1 22),(JlT 24 4 4),(Jmc 25 2),(Jmc 26 3),(Jmc 27 10),(Jia 28 1 26 27),(Jlc 29 1 28),(none, .call .no (some 30) (.k (.fn QU [])) [(.t 24), (.t 25), (.t 29)]),(none, .call .no (some 31) (.k (.fn Wq [])) [(.t 19), (.t 23), (.t 30)]),(none, .bslice 32 1 1 [(N 0)] [(0, 1, (.t 31))]),(none, .append 33 1 (.t 18) (.t 32)),(Jmt 9 33)])) (.reg [(Jmc 16 10),(Jba 17 16 1),(Jmc 10 17)])))))) (.seq (.reg [(Jmt 34 9),(Jmt 8 34)])
 .ret))))
theorem Zny:Qq Tryz.prog X1 Zmq=some (Ze9,[.tmp 8],35):=by kernel_rfl
def ZnN:List (Nat×List Md):=MM [(1,8785),(1000001,1609)]
def Zg5 : C := (.seq (.reg [(none, .box 3 (.t 0)),(none, .mv 6 .copy (.k (.sc (.bool false))))]) (.seq (.seq (.frz 3) (.reg [(Jfa 7 3 3),(Jlt 8 1 7),(Jmc 9 1),(Jfa 10 0 3),(Jlt 11 1 10),(none, .bin 12 .num .mul (.t 9) (.t 11)),(Jmc 13 2),(none, .bin 14 .num .add (.t 12) (.t 13)),(Jia 15 1 8 14),(Jlc 16 1 15),(Jmc 6 16)]))
 .ret))
theorem ZnU:Qq Tryz.prog Wl ZnN=some (Zg5,[.tmp 6],17):=by kernel_rfl
def Zks:List (Nat×List Md):=MM []
def Zea : C := (.seq (.reg [(none, .mv 4 .copy (.k (.sc (.bool false))))]) (.seq (.seq (.reg [(Jmc 6 0),(Jln 7 6),(Jmc 8 1),(Jln 9 8),(none, .bin 10 .num .neq (.t 7) (.t 9))]) (.cond (.t 10) (.seq (.reg [(none, .mv 4 .copy (.k (.sc (.bool false))))])
 .ret)
 .skip)) (.seq (.seq (.reg [(none, .mv 5 .copy (.k (N 0)))]) (.block 0 (.loop (.seq (.seq (.reg [(Jmc 11 5),(Jmc 12 0),(Jln 13 12),(Jbl 14 11 13)]) (.cond (.t 14)
 .skip (.exit 0))) (.seq (.block 1 (.seq (.reg [(Jmc 17 0),(Jmc 18 5),(Jia 19 1 17 18),(Jlc 20 1 19),(Jmc 21 1),(Jmc 22 5),(Jia 23 1 21 22),(Jlc 24 1 23),(none, .bin 25 .num .neq (.t 20) (.t 24))]) (.cond (.t 25) (.seq (.reg [(none, .mv 4 .copy (.k (.sc (.bool false))))])
 .ret)
 .skip))) (.reg [(Jmc 15 5),(Jba 16 15 1),(Jmc 5 16)])))))) (.seq (.reg [(none, .mv 4 .copy (.k (.sc (.bool true))))])
 .ret))))
theorem Zk8:Qq Tryz.prog Jh Zks=some (Zea,[.tmp 4],26):=by kernel_rfl
def Zh6:List (Nat×List Md):=MM [(1,17),(2,17),(4,17),(6,17),(8,138),(10,8785),(11,17),(12,4498001),(13,8778),(14,17),(15,2),(16,2),(17,17),(18,70225),(20,17),(22,138),(24,138),(26,4494410),(27,17),(28,2),(29,1105),(31,138),(32,562258),(33,70729),(35,148346545297),(1000001,7123529),(2000013,26996937289),(2000026,884635641090633)]
def Yg : C := (.seq (.reg [(none, .box 4 (.t 0)),(none, .box 6 (.t 2)),(none, .box 7 (.t 3)),(none, .alloc 8 [(.sl true true 1 []), (.sl true true 1 []), (N 0), (.sl true true 1 [])])]) (.seq (.seq (.frz 4) (.seq (.frz 6) (.seq (.frz 7) (.reg [(Jfa 17 0 7),(Jlt 18 1 17),(none, .indexA 19 1 (.t 18) (.k (N 0))),(Jlc 20 1 19),(Jmc 9 20)])))) (.seq (.block 0 (.seq (.reg [(Jfa 22 0 6),(Jlt 23 1 22),(Jbe 24 23 5),(Jmc 25 24),(some (25, true), .mv 26 .copy (.t 9)),(some (25, true), .bin 27 .num .neq (.t 26) (.k (N 1))),(none, .pick 28 (.t 25) (.t 27) (.k (.sc (.bool false)))),(Jmc 21 28)]) (.cond (.t 21) (.seq (.reg [(none, .call .no (some 29) (.k (.fn WH [])) [(.k (N 4))]),(Jst 4 8 29)])
 .ret) (.seq (.reg [(Jfa 31 0 6),(Jlt 32 1 31),(Jbe 33 32 8),(Jmc 34 33),(some (34, true), .mv 35 .copy (.t 9)),(some (34, true), .bin 36 .num .neq (.t 35) (.k (N 2))),(none, .pick 37 (.t 34) (.t 36) (.k (.sc (.bool false)))),(Jmc 30 37)]) (.cond (.t 30) (.seq (.reg [(none, .call .no (some 38) (.k (.fn WH [])) [(.k (N 5))]),(Jst 4 8 38)])
 .ret) (.seq (.reg [(Jfa 40 0 6),(Jlt 41 1 40),(Jbe 42 41 12),(Jmc 43 42),(some (43, true), .mv 44 .copy (.t 9)),(some (43, true), .call .no (some 45) (.k (.fn Vz [])) [(.t 44)]),(some (43, true), .un 46 .not (.t 45)),(none, .pick 47 (.t 43) (.t 46) (.k (.sc (.bool false)))),(Jmc 39 47)]) (.cond (.t 39) (.seq (.reg [(none, .call .no (some 48) (.k (.fn WH [])) [(.k (N 7))]),(Jst 4 8 48)])
 .ret)
 .skip))))))) (.seq (.seq (.reg [(JlT 49 4 4),(Jfa 50 1 6),(Jlt 51 1 50),(none, .call .no (some 52) (.k (.fn Wl [])) [(.t 49), (.k (N 1)), (.t 51)]),(none, .un 53 .not (.t 52))]) (.cond (.t 53) (.seq (.reg [(none, .call .no (some 54) (.k (.fn WH [])) [(.k (N 8))]),(Jst 4 8 54)])
 .ret)
 .skip)) (.seq (.reg [(Jfa 55 0 7),(Jlt 56 1 55),(none, .call .no (some 57) (.k (.fn X5 [])) [(.t 56), (.k (N 0))]),(none, .bslice 58 1 1 [(.sl true true 1 [])] [(0, 1, (.t 57))]),(Jmt 10 58)]) (.seq (.seq (.reg [(Jfa 59 0 6),(Jlt 60 1 59),(Jbe 61 60 5)]) (.cond (.t 61) (.reg [(Jfa 62 0 7),(Jlt 63 1 62),(none, .call .no (some 64) (.k (.fn X5 [])) [(.t 63), (.k (N 1))]),(Jfa 65 0 7),(Jlt 66 1 65),(none, .call .no (some 67) (.k (.fn X5 [])) [(.t 66), (.k (N 0))]),(none, .bslice 68 1 2 [(.sl true true 1 []), (.sl true true 1 [])] [(0, 1, (.t 64)), (1, 1, (.t 67))]),(Jmt 10 68)])
 .skip)) (.seq (.seq (.reg [(JlT 69 4 4),(Jmc 70 1),(Jmc 71 10),(none, .call .no (some 72) (.k (.fn Jj [])) [(.t 70), (.t 71)]),(JlT 73 4 6),(none, .call .no (some 74) (.k (.fn YB [])) [(.t 69), (.t 72), (.t 73), (.k (N 1))]),(none, .alloc 11 [(.sl true true 1 []), (.sl true true 1 []), (N 0), (.sl true true 1 [])]),(Jst 4 11 74)]) (.frz 11)) (.seq (.seq (.reg [(Jfa 75 2 11),(Jlt 76 1 75),(none, .bin 77 .num .neq (.t 76) (.k (N 0)))]) (.cond (.t 77) (.seq (.reg [(JlT 78 4 11),(Jst 4 8 78)])
 .ret)
 .skip)) (.seq (.reg [(Jmt 79 10),(Jln 80 79),(Jmc 12 80)]) (.seq (.reg [(Jfa 81 1 6),(Jlt 82 1 81),(Jmc 13 82)]) (.seq (.reg [(Jfa 83 1 11),(Jlt 84 1 83),(Jmc 85 12),(none, .slice 86 1 (.t 84) (some (.t 85)) none none),(none, .call .no (some 87) (.k (.fn X6 [])) [(.t 86)]),(Jmt 14 87)]) (.seq (.reg [(none, .mv 15 .copy (.k (.sc (.bool true))))]) (.seq (.seq (.reg [(Jfa 88 0 6),(Jlt 89 1 88)]) (.block 1 (.seq (.reg [(Jbe 91 89 12),(Jmc 90 91)]) (.cond (.t 90) (.reg [(JlT 92 4 4),(Jfa 93 1 6),(Jlt 94 1 93),(Jmc 95 9),(none, .call .no (some 96) (.k (.fn ZR [])) [(.t 95)]),(none, .call .no (some 97) (.k (.fn QU [])) [(.t 92), (.t 94), (.t 96)]),(Jmc 13 97)]) (.seq (.reg [(Jbe 99 89 5),(Jmc 98 99)]) (.cond (.t 98) (.reg [(JlT 100 4 4),(Jfa 101 1 11),(Jlt 102 1 101),(none, .indexA 103 1 (.t 102) (.k (N 1))),(Jlc 104 1 103),(Jmc 105 13),(none, .call .no (some 106) (.k (.fn Wl [])) [(.t 100), (.t 104), (.t 105)]),(Jmc 15 106)]) (.seq (.reg [(Jbe 108 89 8),(Jmc 107 108)]) (.cond (.t 107) (.seq (.seq (.reg [(JlT 109 4 4),(Jmc 110 1),(Jfa 111 0 7),(Jlt 112 1 111),(none, .call .no (some 113) (.k (.fn X5 [])) [(.t 112), (.k (N 1))]),(none, .bslice 114 1 1 [(.sl true true 1 [])] [(0, 1, (.t 113))]),(none, .call .no (some 115) (.k (.fn Jj [])) [(.t 110), (.t 114)]),(JlT 116 4 6),(none, .call .no (some 117) (.k (.fn YB [])) [(.t 109), (.t 115), (.t 116), (.k (N 2))]),(none, .alloc 16 [(.sl true true 1 []), (.sl true true 1 []), (N 0), (.sl true true 1 [])]),(Jst 4 16 117)]) (.frz 16)) (.seq (.seq (.reg [(Jfa 118 2 16),(Jlt 119 1 118),(none, .bin 120 .num .neq (.t 119) (.k (N 0)))]) (.cond (.t 120) (.seq (.reg [(JlT 121 4 16),(Jst 4 8 121)])
 .ret)
 .skip)) (.seq (.seq (.reg [(Jfa 122 0 11),(Jlt 123 1 122),(Jfa 124 0 16),(Jlt 125 1 124),(none, .call .no (some 126) (.k (.fn Jh [])) [(.t 123), (.t 125)]),(none, .un 127 .not (.t 126))]) (.cond (.t 127) (.seq (.reg [(none, .call .no (some 128) (.k (.fn WH [])) [(.k (N 3))]),(Jst 4 8 128)])
 .ret)
 .skip)) (.seq (.reg [(JlT 129 4 4),(Jfa 130 1 16),(Jlt 131 1 130),(none, .indexA 132 1 (.t 131) (.k (N 0))),(Jlc 133 1 132),(Jmc 134 13),(none, .call .no (some 135) (.k (.fn Wl [])) [(.t 129), (.t 133), (.t 134)]),(Jmc 15 135)]) (.reg [(JlT 136 4 4),(Jmt 137 14),(Jfa 138 1 16),(Jlt 139 1 138),(none, .slice 140 1 (.t 139) (some (.k (N 1))) none none),(none, .call .no (some 141) (.k (.fn KQ [])) [(.t 136), (.t 137), (.t 140)]),(Jmt 14 141)])))))
 .skip)))))))) (.seq (.seq (.reg [(Jmc 142 15),(none, .un 143 .not (.t 142)),(Jmc 144 143),(some (144, false), .load 145 .take true 4 (.t 4)),(some (144, false), .fieldA 146 1 (.t 11)),(some (144, false), .load 147 .take false 1 (.t 146)),(some (144, false), .indexA 148 1 (.t 147) (.k (N 0))),(some (144, false), .load 149 .copy false 1 (.t 148)),(some (144, false), .mv 150 .copy (.t 13)),(some (144, false), .call .no (some 151) (.k (.fn Wl [])) [(.t 145), (.t 149), (.t 150)]),(some (144, false), .un 152 .not (.t 151)),(none, .pick 153 (.t 144) (.k (.sc (.bool true))) (.t 152))]) (.cond (.t 153) (.seq (.reg [(none, .call .no (some 154) (.k (.fn WH [])) [(.k (N 9))]),(Jst 4 8 154)])
 .ret)
 .skip)) (.seq (.reg [(Jfa 155 0 11),(Jlt 156 1 155),(JlT 157 4 4),(JlT 158 4 4),(Jmt 159 1),(Jln 160 159),(none, .call .no (some 161) (.k (.fn Zq [])) [(.t 160)]),(Jfa 162 1 6),(Jlt 163 1 162),(Jfa 164 1 7),(Jlt 165 1 164),(none, .call .no (some 166) (.k (.fn X1 [])) [(.t 158), (.t 161), (.t 163), (.t 165)]),(Jmt 167 14),(none, .call .no (some 168) (.k (.fn X1 [])) [(.t 157), (.t 166), (.k (N 1)), (.t 167)]),(none, .build 169 [(.sl true true 1 []), (.sl true true 1 []), (N 0), (.sl true true 1 [])] [(0, 1, (.t 156)), (1, 1, (.t 168))]),(Jst 4 8 169)])
 .ret)))))))))))))))
theorem Zaj:Qq Tryz.prog ZO Zh6=some (Yg,[.cell 8 true 4],170):=by kernel_rfl
def Zmt:List (Nat×List Md):=MM [(1,8785),(1000001,1609)]
def Zfx : C := (.seq (.reg [(none, .box 3 (.t 0)),(none, .mv 6 .copy (.k (N 0)))]) (.seq (.seq (.frz 3) (.reg [(Jfa 7 1 3),(Jlt 8 1 7),(Jmc 9 1),(Jfa 10 0 3),(Jlt 11 1 10),(none, .bin 12 .num .mul (.t 9) (.t 11)),(Jmc 13 2),(none, .bin 14 .num .add (.t 12) (.t 13)),(Jia 15 1 8 14),(Jlc 16 1 15),(Jmc 6 16)]))
 .ret))
theorem Zme:Qq Tryz.prog Wq Zmt=some (Zfx,[.tmp 6],17):=by kernel_rfl
def ZmQ:List (Nat×List Md):=MM []
def ZfR : C := (.seq (.reg [(none, .mv 2 .copy (.k (.sc (.bool false))))]) (.seq (.reg [(Jmc 3 0),(Jbe 4 3 5),(Jmc 5 4),(some (5, false), .mv 6 .copy (.t 0)),(some (5, false), .bin 7 .num .eql (.t 6) (.k (N 8))),(none, .pick 8 (.t 5) (.k (.sc (.bool true))) (.t 7)),(Jmc 9 8),(some (9, false), .mv 10 .copy (.t 0)),(some (9, false), .bin 11 .num .eql (.t 10) (.k (N 9))),(none, .pick 12 (.t 9) (.k (.sc (.bool true))) (.t 11)),(Jmc 13 12),(some (13, false), .mv 14 .copy (.t 0)),(some (13, false), .bin 15 .num .eql (.t 14) (.k (N 11))),(none, .pick 16 (.t 13) (.k (.sc (.bool true))) (.t 15)),(Jmc 17 16),(some (17, false), .mv 18 .copy (.t 0)),(some (17, false), .bin 19 .num .eql (.t 18) (.k (N 12))),(none, .pick 20 (.t 17) (.k (.sc (.bool true))) (.t 19)),(Jmc 2 20)])
 .ret))
theorem Zmh:Qq Tryz.prog VF ZmQ=some (ZfR,[.tmp 2],21):=by kernel_rfl
def ZjB:List (Nat×List Md):=MM [(1,8841)]
def Zdu : C := (.seq (.reg [(none, .mv 4 .copy (.k (.sl true true 1 [])))]) (.seq (.reg [(Jmc 5 0),(none, .bslice 6 1 1 [(N 0)] [(0, 1, (.t 5))]),(Jmt 7 1),(none, .append 8 1 (.t 6) (.t 7)),(Jmt 4 8)])
 .ret))
theorem ZiO:Qq Tryz.prog Yi ZjB=some (Zdu,[.tmp 4],9):=by kernel_rfl
def Zhw:List (Nat×List Md):=MM [(1,17),(2,1264919598023844368969),(4,17),(7,18541220490),(13,169774936191745691983536493130),(18,5181111808417170544960074),(23,2),(1000001,25)]
def Zci : C := (.seq (.reg [(none, .box 1 (.t 0)),(none, .mv 2 .copy (.k (.sc (.bool false))))]) (.seq (.seq (.frz 1) (.reg [(Jfa 8 0 1),(Jlt 9 1 8),(Jmc 3 9)])) (.seq (.seq (.reg [(Jmc 10 3),(none, .call .no (some 11) (.k (.fn W5 [])) [(.t 10), (.k (N 2)), (.k (N 16))]),(none, .un 12 .not (.t 11)),(Jmc 13 12),(some (13, false), .fieldA 14 1 (.t 1)),(some (13, false), .load 15 .take false 1 (.t 14)),(some (13, false), .len 16 (.t 15)),(some (13, false), .mv 17 .copy (.t 3)),(some (13, false), .mv 18 .copy (.t 3)),(some (13, false), .bin 19 .num .mul (.t 17) (.t 18)),(some (13, false), .bin 20 .num .neq (.t 16) (.t 19)),(none, .pick 21 (.t 13) (.k (.sc (.bool true))) (.t 20)),(Jmc 22 21),(some (22, false), .fieldA 23 2 (.t 1)),(some (22, false), .load 24 .take false 1 (.t 23)),(some (22, false), .len 25 (.t 24)),(some (22, false), .mv 26 .copy (.t 3)),(some (22, false), .mv 27 .copy (.t 3)),(some (22, false), .bin 28 .num .mul (.t 26) (.t 27)),(some (22, false), .bin 29 .num .neq (.t 25) (.t 28)),(none, .pick 30 (.t 22) (.k (.sc (.bool true))) (.t 29)),(Jmc 31 30),(some (31, false), .fieldA 32 3 (.t 1)),(some (31, false), .load 33 .take false 1 (.t 32)),(some (31, false), .len 34 (.t 33)),(some (31, false), .mv 35 .copy (.t 3)),(some (31, false), .mv 36 .copy (.t 3)),(some (31, false), .bin 37 .num .mul (.t 35) (.t 36)),(some (31, false), .bin 38 .num .neq (.t 34) (.t 37)),(none, .pick 39 (.t 31) (.k (.sc (.bool true))) (.t 38))]) (.cond (.t 39) (.seq (.reg [(none, .mv 2 .copy (.k (.sc (.bool false))))])
 .ret)
 .skip)) (.seq (.seq (.reg [(Jfa 40 1 1),(Jlt 41 1 40),(Jln 42 41),(none, .mv 43 .copy (.k (N 0)))]) (.block 0 (.loop (.seq (.reg [(Jbl 44 43 42)]) (.seq (.cond (.t 44)
 .skip (.exit 0)) (.seq (.block 1 (.seq (.reg [(Jmc 45 43),(Jmc 4 45)]) (.seq (.reg [(JlT 46 4 1),(Jfa 47 1 1),(Jlt 48 1 47),(Jmc 49 4),(Jia 50 1 48 49),(Jlc 51 1 50),(none, .call .no (some 52) (.k (.fn Wx [])) [(.t 46), (.t 51)]),(none, .un 53 .not (.t 52)),(Jmc 54 53),(some (54, false), .load 55 .take true 4 (.t 1)),(some (54, false), .fieldA 56 2 (.t 1)),(some (54, false), .load 57 .take false 1 (.t 56)),(some (54, false), .mv 58 .copy (.t 4)),(some (54, false), .indexA 59 1 (.t 57) (.t 58)),(some (54, false), .load 60 .copy false 1 (.t 59)),(some (54, false), .call .no (some 61) (.k (.fn Wx [])) [(.t 55), (.t 60)]),(some (54, false), .un 62 .not (.t 61)),(none, .pick 63 (.t 54) (.k (.sc (.bool true))) (.t 62))]) (.cond (.t 63) (.seq (.reg [(none, .mv 2 .copy (.k (.sc (.bool false))))])
 .ret)
 .skip)))) (.reg [(Jba 64 43 1),(Jmc 43 64)]))))))) (.seq (.seq (.reg [(none, .mv 5 .copy (.k (N 0)))]) (.block 2 (.loop (.seq (.seq (.reg [(Jmc 65 5),(Jmc 66 3),(Jbl 67 65 66)]) (.cond (.t 67)
 .skip (.exit 2))) (.seq (.block 3 (.seq (.seq (.reg [(JlT 70 4 1),(Jmc 71 5),(none, .call .no (some 72) (.k (.fn QC [])) [(.t 70), (.k (N 0)), (.t 71)]),(Jmc 73 5),(none, .bin 74 .num .neq (.t 72) (.t 73)),(Jmc 75 74),(some (75, false), .load 76 .take true 4 (.t 1)),(some (75, false), .mv 77 .copy (.t 5)),(some (75, false), .call .no (some 78) (.k (.fn Qs [])) [(.t 76), (.k (N 1)), (.t 77)]),(some (75, false), .mv 79 .copy (.t 5)),(some (75, false), .bin 80 .num .neq (.t 78) (.t 79)),(none, .pick 81 (.t 75) (.k (.sc (.bool true))) (.t 80)),(Jmc 82 81),(some (82, false), .load 83 .take true 4 (.t 1)),(some (82, false), .mv 84 .copy (.t 5)),(some (82, false), .call .no (some 85) (.k (.fn Qs [])) [(.t 83), (.t 84), (.k (N 1))]),(some (82, false), .mv 86 .copy (.t 5)),(some (82, false), .bin 87 .num .neq (.t 85) (.t 86)),(none, .pick 88 (.t 82) (.k (.sc (.bool true))) (.t 87)),(Jmc 89 88),(some (89, false), .load 90 .take true 4 (.t 1)),(some (89, false), .mv 91 .copy (.t 5)),(some (89, false), .call .no (some 92) (.k (.fn Qs [])) [(.t 90), (.k (N 0)), (.t 91)]),(some (89, false), .bin 93 .num .neq (.t 92) (.k (N 0))),(none, .pick 94 (.t 89) (.k (.sc (.bool true))) (.t 93)),(Jmc 95 94),(some (95, false), .load 96 .take true 4 (.t 1)),(some (95, false), .mv 97 .copy (.t 5)),(some (95, false), .call .no (some 98) (.k (.fn Qs [])) [(.t 96), (.t 97), (.k (N 0))]),(some (95, false), .bin 99 .num .neq (.t 98) (.k (N 0))),(none, .pick 100 (.t 95) (.k (.sc (.bool true))) (.t 99)),(Jmc 101 100),(some (101, false), .load 102 .take true 4 (.t 1)),(some (101, false), .mv 103 .copy (.t 5)),(some (101, false), .mv 104 .copy (.t 5)),(some (101, false), .call .no (some 105) (.k (.fn QA [])) [(.t 102), (.t 103), (.t 104)]),(some (101, false), .un 106 .not (.t 105)),(none, .pick 107 (.t 101) (.k (.sc (.bool true))) (.t 106))]) (.cond (.t 107) (.seq (.reg [(none, .mv 2 .copy (.k (.sc (.bool false))))])
 .ret)
 .skip)) (.seq (.reg [(none, .mv 6 .copy (.k (N 0)))]) (.block 4 (.loop (.seq (.seq (.reg [(Jmc 108 6),(Jmc 109 3),(Jbl 110 108 109)]) (.cond (.t 110)
 .skip (.exit 4))) (.seq (.block 5 (.seq (.seq (.reg [(JlT 113 4 1),(Jmc 114 5),(Jmc 115 6),(none, .call .no (some 116) (.k (.fn QC [])) [(.t 113), (.t 114), (.t 115)]),(JlT 117 4 1),(Jmc 118 6),(Jmc 119 5),(none, .call .no (some 120) (.k (.fn QC [])) [(.t 117), (.t 118), (.t 119)]),(none, .bin 121 .num .neq (.t 116) (.t 120)),(Jmc 122 121),(some (122, false), .mv 123 .copy (.t 5)),(some (122, false), .mv 124 .copy (.t 6)),(some (122, false), .bin 125 .num .neq (.t 123) (.t 124)),(some (122, false), .mv 126 .copy (.t 125)),(some (126, true), .load 127 .take true 4 (.t 1)),(some (126, true), .mv 128 .copy (.t 5)),(some (126, true), .mv 129 .copy (.t 6)),(some (126, true), .call .no (some 130) (.k (.fn QA [])) [(.t 127), (.t 128), (.t 129)]),(some (122, false), .pick 131 (.t 126) (.t 130) (.k (.sc (.bool false)))),(some (122, false), .mv 132 .copy (.t 131)),(some (132, true), .load 133 .take true 4 (.t 1)),(some (132, true), .mv 134 .copy (.t 6)),(some (132, true), .mv 135 .copy (.t 5)),(some (132, true), .call .no (some 136) (.k (.fn QA [])) [(.t 133), (.t 134), (.t 135)]),(some (122, false), .pick 137 (.t 132) (.t 136) (.k (.sc (.bool false)))),(none, .pick 138 (.t 122) (.k (.sc (.bool true))) (.t 137)),(Jmc 139 138),(some (139, false), .load 140 .take true 4 (.t 1)),(some (139, false), .mv 141 .copy (.t 5)),(some (139, false), .mv 142 .copy (.t 6)),(some (139, false), .call .no (some 143) (.k (.fn W0 [])) [(.t 140), (.t 141), (.t 142)]),(some (139, false), .bin 144 .num .lss (.t 143) (.k (N 0))),(none, .pick 145 (.t 139) (.k (.sc (.bool true))) (.t 144))]) (.cond (.t 145) (.seq (.reg [(none, .mv 2 .copy (.k (.sc (.bool false))))])
 .ret)
 .skip)) (.seq (.reg [(none, .mv 7 .copy (.k (N 0)))]) (.block 6 (.loop (.seq (.seq (.reg [(Jmc 146 7),(Jmc 147 3),(Jbl 148 146 147)]) (.cond (.t 148)
 .skip (.exit 6))) (.seq (.block 7 (.seq (.reg [(JlT 151 4 1),(Jmc 152 5),(Jmc 153 6),(Jmc 154 7),(none, .call .no (some 155) (.k (.fn Y8 [])) [(.t 151), (.t 152), (.t 153), (.t 154)]),(none, .un 156 .not (.t 155))]) (.cond (.t 156) (.seq (.reg [(none, .mv 2 .copy (.k (.sc (.bool false))))])
 .ret)
 .skip))) (.reg [(Jmc 149 7),(Jba 150 149 1),(Jmc 7 150)])))))))) (.reg [(Jmc 111 6),(Jba 112 111 1),(Jmc 6 112)])))))))) (.reg [(Jmc 68 5),(Jba 69 68 1),(Jmc 5 69)])))))) (.seq (.reg [(none, .mv 2 .copy (.k (.sc (.bool true))))])
 .ret))))))
theorem ZhQ:Qq Tryz.prog Vg Zhw=some (Zci,[.tmp 2],157):=by kernel_rfl
def ZgA:List (Nat×List Md):=MM [(1,8777),(1000001,201)]
def Zbe : C := (.seq (.reg [(none, .box 2 (.t 0)),(none, .mv 4 .copy (.k (.sc (.bool false))))]) (.seq (.seq (.frz 2) (.reg [(Jmc 5 1),(Jln 6 5),(none, .bin 7 .num .leq (.t 6) (.k (N 8))),(Jmc 8 7),(some (8, true), .mv 9 .take (.t 1)),(some (8, true), .mkfn 10 Ye false [(.t 2)]),(some (8, true), .call .no (some 11) (.k (.fn W9 [])) [(.t 9), (.t 10)]),(some (8, true), .un 12 .not (.t 11)),(none, .pick 13 (.t 8) (.t 12) (.k (.sc (.bool false)))),(Jmc 4 13)]))
 .ret))
theorem ZgE:Qq Tryz.prog KB ZgA=some (Zbe,[.tmp 4],14):=by kernel_rfl
def Zhy:List (Nat×List Md):=MM [(1,70729),(1000001,13897)]
def Vp : C := (.seq (.reg [(none, .box 3 (.t 0)),(none, .box 4 (.t 1)),(none, .mv 6 .copy (.k (.sc (.bool false))))]) (.seq (.seq (.frz 3) (.seq (.frz 4) (.reg [(Jmc 7 2),(none, .call .no (some 8) (.k (.fn W5 [])) [(.t 7), (.k (N 0)), (.k (N 8))]),(Jmc 9 8),(some (9, true), .load 10 .take true 4 (.t 4)),(some (9, true), .mv 11 .copy (.t 2)),(some (9, true), .load 12 .take true 4 (.t 3)),(some (9, true), .mkfn 13 Wx true [(.t 12)]),(some (9, true), .mkfn 14 Yw false [(.t 3)]),(some (9, true), .call .no (some 15) (.k (.fn VG [])) [(.t 10), (.t 11), (.t 13), (.t 14), (.k (N 0))]),(some (9, true), .bin 16 .num .leq (.t 15) (.k (N 400))),(none, .pick 17 (.t 9) (.t 16) (.k (.sc (.bool false)))),(Jmc 6 17)])))
 .ret))
theorem Zhz:Qq Tryz.prog Vl Zhy=some (Vp,[.tmp 6],18):=by kernel_rfl
def ZeB:List (Nat×List Md):=MM [(1,70217),(4,17),(8,8777),(11,287609417),(12,8842),(13,4493898),(15,1178048172617),(16,18),(18,1097),(19,17),(20,137),(21,12873),(22,20917290156083679818),(24,4793425),(26,561738),(27,18),(1000001,104009)]
def Zae : C := (.seq (.reg [(none, .box 3 (.t 0)),(none, .box 5 (.t 2)),(none, .mv 6 .copy (.k (.sc (.pointer none))))]) (.seq (.seq (.frz 3) (.seq (.frz 5) (.reg [(Jmc 16 1),(Jln 17 16),(none, .mkslice 18 1 [(N 0)] (.t 17)),(none, .build 19 [(.sl true true 1 []), (.sl true true 1 []), (.sl true true 1 []), (N 0), (.sl true true 1 [])] [(1, 1, (.t 18))]),(none, .box 20 (.t 19)),(Jmt 7 20)]))) (.seq (.reg [(none, .mv 8 .copy (.k (.sl true true 1 [])))]) (.seq (.reg [(none, .mv 9 .copy (.k (.sl true true 1 [])))]) (.seq (.seq (.reg [(Jfa 21 3 5),(Jlt 22 1 21),(Jln 23 22),(none, .mv 24 .copy (.k (N 0)))]) (.block 0 (.loop (.seq (.reg [(Jbl 25 24 23)]) (.seq (.cond (.t 25)
 .skip (.exit 0)) (.seq (.block 1 (.seq (.reg [(Jmc 26 24),(Jia 27 4 22 24),(JlC 28 4 27),(none, .alloc 11 [(N 0), (N 0), (.sl true true 1 []), (.sl true true 1 [])]),(Jmc 10 26),(Jst 4 11 28)]) (.seq (.reg [(none, .mv 12 .copy (.k (.sl true true 1 [])))]) (.seq (.seq (.reg [(Jmc 29 10),(none, .bin 30 .num .gtr (.t 29) (.k (N 0))),(Jmc 31 30),(some (31, false), .fieldA 32 0 (.t 5)),(some (31, false), .load 33 .take false 1 (.t 32)),(some (31, false), .bin 34 .num .eql (.t 33) (.k (N 9))),(none, .pick 35 (.t 31) (.k (.sc (.bool true))) (.t 34))]) (.cond (.t 35) (.seq (.reg [(none, .mv 13 .copy (.k (.sl true true 1 [])))]) (.seq (.seq (.reg [(Jmc 36 10),(none, .bin 37 .num .gtr (.t 36) (.k (N 0)))]) (.cond (.t 37) (.reg [(Jmc 38 7),(none, .nilchk 39 (.t 38)),(Jfa 40 2 39),(Jlc 41 1 40),(none, .indexA 42 1 (.t 41) (.k (N 0))),(Jlc 43 1 42),(none, .nilchk 44 (.t 43)),(Jfa 45 0 44),(Jlc 46 1 45),(Jmt 13 46)])
 .skip)) (.reg [(JlT 47 4 5),(Jmc 48 10),(Jmt 49 13),(none, .call .no (some 50) (.k (.fn ZbL [])) [(.t 47), (.t 48), (.t 49)]),(Jmt 12 50)])))
 .skip)) (.seq (.reg [(JlT 51 4 3),(Jmc 52 12),(Jmc 53 1),(none, .bslice 54 1 2 [(.sl true true 1 []), (.sl true true 1 [])] [(0, 1, (.t 52)), (1, 1, (.t 53))]),(none, .call .no (some 55) (.k (.fn XE [])) [(.t 54)]),(JlC 56 4 11),(none, .call .no (some 57) (.k (.fn Zc [])) [(.t 51), (.t 55), (.t 56)]),(Jmt 14 57)]) (.seq (.seq (.reg [(Jmc 58 14),(none, .nilchk 59 (.t 58)),(Jfa 60 3 59),(Jlc 61 1 60),(none, .bin 62 .num .neq (.t 61) (.k (N 0)))]) (.cond (.t 62) (.seq (.reg [(Jmc 63 14),(none, .nilchk 64 (.t 63)),(Jfa 65 3 64),(Jlc 66 1 65),(Jmc 67 10),(none, .bslice 68 1 1 [(N 0)] [(0, 1, (.t 67))]),(Jmc 69 14),(none, .nilchk 70 (.t 69)),(Jfa 71 4 70),(Jlc 72 1 71),(none, .append 73 1 (.t 68) (.t 72)),(none, .build 74 [(.sl true true 1 []), (.sl true true 1 []), (.sl true true 1 []), (N 0), (.sl true true 1 [])] [(3, 1, (.t 66)), (4, 1, (.t 73))]),(none, .box 75 (.t 74)),(Jmt 6 75)])
 .ret)
 .skip)) (.seq (.seq (.reg [(JlT 76 4 3),(JlT 77 4 5),(Jmc 78 10),(Jmc 79 14),(none, .nilchk 80 (.t 79)),(Jfa 81 0 80),(Jlc 82 1 81),(none, .call .no (some 83) (.k (.fn Y3 [])) [(.t 76), (.t 77), (.t 78), (.t 82)]),(Jmc 15 83)]) (.seq (.reg [(Jmc 84 15),(none, .bin 85 .num .neq (.t 84) (.k (N 0)))]) (.cond (.t 85) (.seq (.reg [(Jmc 86 15),(none, .build 87 [(.sl true true 1 []), (.sl true true 1 []), (.sl true true 1 []), (N 0), (.sl true true 1 [])] [(3, 1, (.t 86))]),(none, .box 88 (.t 87)),(Jmt 6 88)])
 .ret)
 .skip))) (.seq (.seq (.reg [(Jfa 89 0 5),(Jlt 90 1 89),(Jbe 91 90 10),(Jmc 92 91),(some (92, true), .mv 93 .copy (.t 10)),(some (92, true), .bin 94 .num .eql (.t 93) (.k (N 1))),(none, .pick 95 (.t 92) (.t 94) (.k (.sc (.bool false)))),(Jmc 96 95),(some (96, true), .mv 97 .copy (.t 14)),(some (96, true), .nilchk 98 (.t 97)),(some (96, true), .fieldA 99 0 (.t 98)),(some (96, true), .load 100 .copy false 1 (.t 99)),(some (96, true), .mv 101 .copy (.t 7)),(some (96, true), .nilchk 102 (.t 101)),(some (96, true), .fieldA 103 2 (.t 102)),(some (96, true), .load 104 .copy false 1 (.t 103)),(some (96, true), .indexA 105 1 (.t 104) (.k (N 0))),(some (96, true), .load 106 .copy false 1 (.t 105)),(some (96, true), .nilchk 107 (.t 106)),(some (96, true), .fieldA 108 0 (.t 107)),(some (96, true), .load 109 .copy false 1 (.t 108)),(some (96, true), .call .no (some 110) (.k (.fn Z2 [])) [(.t 109)]),(some (96, true), .indexA 111 1 (.t 110) (.k (N 0))),(some (96, true), .load 112 .copy false 1 (.t 111)),(some (96, true), .call .no (some 113) (.k (.fn W8 [])) [(.t 100), (.t 112)]),(some (96, true), .un 114 .not (.t 113)),(none, .pick 115 (.t 96) (.t 114) (.k (.sc (.bool false))))]) (.cond (.t 115) (.seq (.reg [(none, .build 116 [(.sl true true 1 []), (.sl true true 1 []), (.sl true true 1 []), (N 0), (.sl true true 1 [])] [(3, 1, (.k (N 3)))]),(none, .box 117 (.t 116)),(Jmt 6 117)])
 .ret)
 .skip)) (.seq (.reg [(Jmc 118 7),(Jmc 119 7),(none, .nilchk 120 (.t 119)),(Jfa 121 2 120),(none, .load 122 .frz false 1 (.t 121)),(Jmc 123 14),(none, .bslice 124 1 1 [(.sc (.pointer none))] [(0, 1, (.t 123))]),(none, .append 125 1 (.t 122) (.t 124)),(none, .nilchk 126 (.t 118)),(Jfa 127 2 126),(Jst 1 127 125)]) (.reg [(Jmt 128 9),(Jmc 129 14),(none, .nilchk 130 (.t 129)),(Jfa 131 1 130),(Jlc 132 1 131),(Jmc 133 12),(Jln 134 133),(none, .slice 135 1 (.t 132) none (some (.t 134)) none),(none, .bslice 136 1 1 [(.sl true true 1 [])] [(0, 1, (.t 135))]),(none, .append 137 1 (.t 128) (.t 136)),(Jmt 138 8),(Jmc 139 14),(none, .nilchk 140 (.t 139)),(Jfa 141 1 140),(Jlc 142 1 141),(Jmc 143 12),(Jln 144 143),(none, .slice 145 1 (.t 142) (some (.t 144)) none none),(none, .bslice 146 1 1 [(.sl true true 1 [])] [(0, 1, (.t 145))]),(none, .append 147 1 (.t 138) (.t 146)),(Jmt 9 137),(Jmt 8 147)])))))))))) (.reg [(Jba 148 24 1),(Jmc 24 148)]))))))) (.seq (.reg [(Jmc 149 7),(JlT 150 4 3),(Jmc 151 7),(Jmt 152 1),(JlT 153 4 5),(Jmt 154 8),(Jmt 155 9),(none, .call .any (some 156) (.k (.fn Zu [])) [(.t 150), (.t 151), (.t 152), (.t 153), (.t 154), (.t 155)]),(none, .nilchk 157 (.t 149)),(Jfa 158 3 157),(Jst 1 158 156)]) (.seq (.seq (.reg [(Jmc 159 7),(none, .nilchk 160 (.t 159)),(Jfa 161 3 160),(Jlc 162 1 161),(none, .bin 163 .num .neq (.t 162) (.k (N 0)))]) (.cond (.t 163) (.seq (.reg [(Jmt 164 7),(none, .nilchk 165 (.t 164)),(Jfa 166 3 165),(Jlc 167 1 166),(none, .build 168 [(.sl true true 1 []), (.sl true true 1 []), (.sl true true 1 []), (N 0), (.sl true true 1 [])] [(3, 1, (.t 167))]),(none, .box 169 (.t 168)),(Jmt 6 169)])
 .ret)
 .skip)) (.seq (.reg [(Jmt 170 7),(Jmt 6 170)])
 .ret))))))))
theorem ZeD:Qq Tryz.prog Zc ZeB=some (Zae,[.tmp 6],171):=by kernel_rfl
def ZcN:List (Nat×List Md):=MM [(1,561737)]
def KV : C := (.seq (.reg [(none, .mv 2 .copy (.k (.sc (.bool false))))]) (.seq (.reg [(Jmc 3 0),(Jln 4 3),(none, .call .no (some 5) (.k (.fn W5 [])) [(.t 4), (.k (N 1)), (.k (N 40))]),(Jmc 6 5),(some (6, true), .mv 7 .copy (.t 0)),(some (6, true), .call .no (some 8) (.k (.fn Xd [])) [(.t 7), (.k (N 0))]),(some (6, true), .mv 9 .take (.t 0)),(some (6, true), .len 10 (.t 9)),(some (6, true), .bin 11 .num .eql (.t 8) (.t 10)),(none, .pick 12 (.t 6) (.t 11) (.k (.sc (.bool false)))),(Jmc 2 12)])
 .ret))
theorem Zdi:Qq Tryz.prog ZS ZcN=some (KV,[.tmp 2],13):=by kernel_rfl
def ZdU:List (Nat×List Md):=MM [(1,137),(1000001,201)]
def Vw : C := (.seq (.reg [(none, .box 2 (.t 0)),(none, .mv 4 .copy (.k (.sc (.bool false))))]) (.seq (.seq (.frz 2) (.reg [(Jmc 5 1),(Jfa 6 0 2),(Jlt 7 1 6),(none, .bin 8 .num .sub (.t 7) (.k (N 1))),(none, .call .no (some 9) (.k (.fn W5 [])) [(.t 5), (.k (N 0)), (.t 8)]),(Jmc 4 9)]))
 .ret))
theorem ZdS:Qq Tryz.prog Wx ZdU=some (Vw,[.tmp 4],10):=by kernel_rfl
def KT:List (Nat×List Md):=MM []
def XM : C := (.seq (.reg [(none, .mv 4 .copy (.k (N 0)))]) (.seq (.seq (.reg [(Jmc 6 0),(Jln 7 6),(none, .mv 8 .copy (.k (N 0)))]) (.block 0 (.loop (.seq (.reg [(Jbl 9 8 7)]) (.seq (.cond (.t 9)
 .skip (.exit 0)) (.seq (.block 1 (.seq (.reg [(Jmc 10 8),(Jmc 5 10)]) (.seq (.reg [(Jmc 11 1),(Jmc 12 0),(Jmc 13 5),(Jia 14 1 12 13),(Jlc 15 1 14),(none, .call .no (some 16) (.t 11) [(.t 15)])]) (.cond (.t 16) (.seq (.reg [(Jmc 17 5),(Jmc 4 17)])
 .ret)
 .skip)))) (.reg [(Jba 18 8 1),(Jmc 8 18)]))))))) (.seq (.reg [(none, .mv 4 .copy (.k (N (-1))))])
 .ret)))
theorem YY:Qq Tryz.prog Xc KT=some (XM,[.tmp 4],19):=by kernel_rfl
def ZcK:List (Nat×List Md):=MM [(1,8785),(1000001,1609)]
def K6 : C := (.seq (.reg [(none, .box 3 (.t 0)),(none, .mv 6 .copy (.k (N 0)))]) (.seq (.seq (.frz 3) (.reg [(Jfa 7 1 3),(Jlt 8 1 7),(Jmc 9 1),(Jfa 10 0 3),(Jlt 11 1 10),(none, .bin 12 .num .mul (.t 9) (.t 11)),(Jmc 13 2),(none, .bin 14 .num .add (.t 12) (.t 13)),(Jia 15 1 8 14),(Jlc 16 1 15),(Jmc 6 16)]))
 .ret))
theorem Zdw:Qq Tryz.prog QC ZcK=some (K6,[.tmp 6],17):=by kernel_rfl
def ZnC:List (Nat×List Md):=MM [(1,9298)]
def ZgV : C := (.seq (.reg [(none, .mv 4 .copy (.k (.sl true true 1 [])))]) (.seq (.reg [(Jmt 5 1),(Jmt 6 0),(none, .bslice 7 1 2 [(.sl true true 1 []), (.sl true true 1 [])] [(0, 1, (.t 5)), (1, 1, (.t 6))]),(none, .call .any (some 8) (.k (.fn WP [])) [(.t 7)]),(Jmt 4 8)])
 .ret))
theorem ZnA:Qq Tryz.prog ZE ZnC=some (ZgV,[.tmp 4],9):=by kernel_rfl
def ZcB:List (Nat×List Md):=MM [(1,562313),(2,12881),(3,18),(1000001,823881)]
def Km : C := (.seq (.reg [(none, .box 6 (.t 2)),(none, .mv 8 .copy (.k (.sc (.pointer none))))]) (.seq (.seq (.frz 6) (.reg [(Jmc 10 1),(none, .build 11 [(N 0), (N 0)] [(0, 1, (.t 10))]),(JlT 12 4 6),(Jmt 13 3),(none, .build 14 [(N 0), (N 0), (N 0), (N 0), (.sl true true 1 []), (.sl true true 1 []), (.sl true true 1 [])] [(0, 2, (.t 11)), (2, 4, (.t 12)), (6, 1, (.t 13))]),(none, .box 15 (.t 14)),(Jmt 9 15)])) (.seq (.reg [(Jmc 16 0),(Jmt 17 0),(none, .nilchk 18 (.t 17)),(Jfa 19 4 18),(none, .load 20 .frz false 1 (.t 19)),(Jmc 21 9),(none, .bslice 22 1 1 [(.sc (.pointer none))] [(0, 1, (.t 21))]),(none, .append 23 1 (.t 20) (.t 22)),(none, .nilchk 24 (.t 16)),(Jfa 25 4 24),(Jst 1 25 23)]) (.seq (.reg [(Jmt 26 9),(Jmt 8 26)])
 .ret))))
theorem ZcC:Qq Tryz.prog WQ ZcB=some (Km,[.tmp 8],27):=by kernel_rfl
def Zkm:List (Nat×List Md):=MM [(3,137),(5,17),(1000001,201)]
def Zd1 : C := (.seq (.reg [(none, .box 2 (.t 0)),(none, .mv 4 .copy (.k (N 0)))]) (.seq (.seq (.frz 2) (.reg [(Jmc 6 1),(none, .bin 7 .num .sub (.t 6) (.k (N 1))),(Jmc 1 7)])) (.seq (.seq (.reg [(none, .mv 5 .copy (.k (N 0)))]) (.block 0 (.loop (.seq (.seq (.reg [(Jmc 8 5),(Jfa 9 3 2),(Jlt 10 1 9),(Jln 11 10),(Jbl 12 8 11),(Jmc 13 12),(some (13, true), .mv 14 .copy (.t 1)),(some (13, true), .bin 15 .num .geq (.t 14) (.k (N 0))),(none, .pick 16 (.t 13) (.t 15) (.k (.sc (.bool false))))]) (.cond (.t 16)
 .skip (.exit 0))) (.seq (.block 1 (.reg [(Jfa 19 3 2),(Jlt 20 1 19),(Jmc 21 5),(Jia 22 4 20 21),(JlC 23 4 22),(Jmc 24 1),(none, .call .no (some 25) (.k (.fn KN [])) [(.t 23), (.t 24)]),(Jmc 1 25)])) (.reg [(Jmc 17 5),(Jba 18 17 1),(Jmc 5 18)])))))) (.seq (.reg [(Jmc 26 1),(Jmc 4 26)])
 .ret))))
theorem Zkh:Qq Tryz.prog KN Zkm=some (Zd1,[.tmp 4],27):=by kernel_rfl
def ZjU:List (Nat×List Md):=MM [(1,2),(4,137),(6,4493905),(1000001,12873)]
def Zer : C := (.seq (.reg [(none, .box 4 (.t 0)),(none, .mv 8 .copy (.k (.sc (.bool false))))]) (.seq (.seq (.seq (.frz 4) (.reg [(JlT 10 4 4),(Jmc 11 1),(Jmc 12 2),(Jmc 13 3),(none, .call .no (some 14) (.k (.fn ZaK [])) [(.t 10), (.t 11), (.t 12), (.t 13)]),(none, .un 15 .not (.t 14))])) (.cond (.t 15) (.seq (.reg [(none, .mv 8 .copy (.k (.sc (.bool false))))])
 .ret)
 .skip)) (.seq (.seq (.reg [(none, .mv 9 .copy (.k (N 0)))]) (.block 0 (.loop (.seq (.seq (.reg [(Jmc 16 9),(Jfa 17 3 4),(Jlt 18 1 17),(Jln 19 18),(Jbl 20 16 19)]) (.cond (.t 20)
 .skip (.exit 0))) (.seq (.block 1 (.seq (.reg [(Jfa 23 3 4),(Jlt 24 1 23),(Jmc 25 9),(Jia 26 4 24 25),(JlC 27 4 26),(Jmc 28 1),(Jfa 29 0 4),(Jlt 30 1 29),(Jmc 31 9),(none, .call .no (some 32) (.k (.fn ZaZ [])) [(.t 30), (.t 31)]),(none, .bin 33 .num .add (.t 28) (.t 32)),(Jmc 34 2),(Jmc 35 3),(none, .call .no (some 36) (.k (.fn KP [])) [(.t 27), (.t 33), (.t 34), (.t 35)]),(none, .un 37 .not (.t 36))]) (.cond (.t 37) (.seq (.reg [(none, .mv 8 .copy (.k (.sc (.bool false))))])
 .ret)
 .skip))) (.reg [(Jmc 21 9),(Jba 22 21 1),(Jmc 9 22)])))))) (.seq (.reg [(none, .mv 8 .copy (.k (.sc (.bool true))))])
 .ret))))
theorem ZkK:Qq Tryz.prog KP ZjU=some (Zer,[.tmp 8],38):=by kernel_rfl
def JU:List (Nat×List Md):=MM []
def Ym : C := (.seq (.reg [(none, .mv 4 .copy (.k (N 0)))]) (.seq (.seq (.reg [(Jmc 6 0),(Jln 7 6),(none, .mv 8 .copy (.k (N 0)))]) (.block 0 (.loop (.seq (.reg [(Jbl 9 8 7)]) (.seq (.cond (.t 9)
 .skip (.exit 0)) (.seq (.block 1 (.seq (.reg [(Jmc 10 8),(Jmc 5 10)]) (.seq (.reg [(Jmc 11 1),(Jmc 12 0),(Jmc 13 5),(Jia 14 1 12 13),(Jlc 15 1 14),(none, .call .no (some 16) (.t 11) [(.t 15)])]) (.cond (.t 16) (.seq (.reg [(Jmc 17 5),(Jmc 4 17)])
 .ret)
 .skip)))) (.reg [(Jba 18 8 1),(Jmc 8 18)]))))))) (.seq (.reg [(none, .mv 4 .copy (.k (N (-1))))])
 .ret)))
theorem JT:Qq Tryz.prog Xo JU=some (Ym,[.tmp 4],19):=by kernel_rfl
def Zjb:List (Nat×List Md):=MM [(3,70217),(8,2),(11,17)]
def Zdg : C := (.seq (.reg [(none, .mv 4 .copy (.k (N 0)))]) (.seq (.seq (.reg [(Jmc 7 1),(none, .bin 8 .num .lss (.t 7) (.k (N 0))),(Jmc 9 8),(some (9, false), .mv 10 .copy (.t 1)),(some (9, false), .mv 11 .copy (.t 0)),(some (9, false), .len 12 (.t 11)),(some (9, false), .bin 13 .num .geq (.t 10) (.t 12)),(none, .pick 14 (.t 9) (.k (.sc (.bool true))) (.t 13))]) (.cond (.t 14) (.seq (.reg [(none, .mv 4 .copy (.k (N (-1))))])
 .ret)
 .skip)) (.seq (.reg [(Jmc 16 0),(Jmc 17 1),(Jia 18 1 16 17),(Jlc 19 1 18),(none, .call .no (some 20) (.k (.fn Yy [])) [(.t 19)]),(Jmt 15 20),(none, .extract 21 0 (.t 15)),(none, .extract 22 1 (.t 15)),(Jmc 5 21),(Jmc 6 22)]) (.seq (.seq (.reg [(Jmc 23 5)]) (.block 0 (.seq (.reg [(Jbe 25 23 0),(Jmc 24 25)]) (.cond (.t 24) (.seq (.reg [(Jmc 26 1),(Jba 27 26 1),(Jmc 4 27)])
 .ret) (.seq (.reg [(Jbe 29 23 4),(Jmc 28 29)]) (.cond (.t 28) (.seq (.reg [(Jmt 30 0),(Jmc 31 1),(Jba 32 31 1),(none, .call .no (some 33) (.k (.fn Xd [])) [(.t 30), (.t 32)]),(Jmc 4 33)])
 .ret) (.seq (.reg [(Jbe 35 23 5),(Jmc 34 35)]) (.cond (.t 34) (.seq (.reg [(none, .mv 4 .copy (.k (N (-1))))])
 .ret)
 .skip)))))))) (.seq (.reg [(Jmc 36 0),(Jmt 37 0),(Jmc 38 1),(Jba 39 38 1),(none, .call .no (some 40) (.k (.fn Xd [])) [(.t 37), (.t 39)]),(none, .call .no (some 41) (.k (.fn Xd [])) [(.t 36), (.t 40)]),(Jmc 4 41)])
 .ret)))))
theorem ZiB:Qq Tryz.prog Xd Zjb=some (Zdg,[.tmp 4],42):=by kernel_rfl
def Znu:List (Nat×List Md):=MM []
def ZfX : C := (.seq (.reg [(none, .mv 4 .copy (.k (N 0)))]) (.seq (.reg [(none, .mv 5 .copy (.k (N 1)))]) (.seq (.seq (.reg [(Jmc 8 1),(Jmc 6 8)]) (.block 0 (.loop (.seq (.seq (.reg [(Jmc 9 6),(Jmc 10 0),(Jln 11 10),(Jbl 12 9 11)]) (.cond (.t 12)
 .skip (.exit 0))) (.seq (.block 1 (.seq (.reg [(Jmc 15 0),(Jmc 16 6),(Jia 17 1 15 16),(Jlc 18 1 17),(none, .call .no (some 19) (.k (.fn KM [])) [(.t 18)]),(Jmc 7 19)]) (.seq (.seq (.reg [(Jmc 20 7),(none, .bin 21 .num .lss (.t 20) (.k (N 0)))]) (.cond (.t 21) (.seq (.reg [(none, .mv 4 .copy (.k (N (-1))))])
 .ret)
 .skip)) (.seq (.reg [(Jmc 22 5),(none, .bin 23 .num .sub (.t 22) (.k (N 1))),(Jmc 24 7),(none, .bin 25 .num .add (.t 23) (.t 24)),(Jmc 5 25)]) (.seq (.reg [(Jmc 26 5),(Jbe 27 26 0)]) (.cond (.t 27) (.seq (.reg [(Jmc 28 6),(Jba 29 28 1),(Jmc 4 29)])
 .ret)
 .skip)))))) (.reg [(Jmc 13 6),(Jba 14 13 1),(Jmc 6 14)])))))) (.seq (.reg [(none, .mv 4 .copy (.k (N (-1))))])
 .ret))))
theorem Znc:Qq Tryz.prog VC Znu=some (ZfX,[.tmp 4],30):=by kernel_rfl
def Zhs:List (Nat×List Md):=MM [(1,1368119934875441956049010594385),(4,137),(6,4825354034778705),(1000001,25)]
def Zcr : C := (.seq (.reg [(none, .box 1 (.t 0)),(none, .mv 2 .copy (.k (.sc (.bool false))))]) (.seq (.seq (.seq (.frz 1) (.reg [(Jfa 4 0 1),(Jlt 5 1 4),(none, .call .no (some 6) (.k (.fn XP [])) [(.t 5), (.k (N 2)), (.k (N 16))]),(none, .un 7 .not (.t 6)),(Jmc 8 7),(some (8, false), .fieldA 9 1 (.t 1)),(some (8, false), .load 10 .take false 1 (.t 9)),(some (8, false), .len 11 (.t 10)),(some (8, false), .fieldA 12 0 (.t 1)),(some (8, false), .load 13 .take false 1 (.t 12)),(some (8, false), .fieldA 14 0 (.t 1)),(some (8, false), .load 15 .take false 1 (.t 14)),(some (8, false), .bin 16 .num .mul (.t 13) (.t 15)),(some (8, false), .bin 17 .num .neq (.t 11) (.t 16)),(none, .pick 18 (.t 8) (.k (.sc (.bool true))) (.t 17)),(Jmc 19 18),(some (19, false), .fieldA 20 2 (.t 1)),(some (19, false), .load 21 .take false 1 (.t 20)),(some (19, false), .len 22 (.t 21)),(some (19, false), .fieldA 23 0 (.t 1)),(some (19, false), .load 24 .take false 1 (.t 23)),(some (19, false), .fieldA 25 0 (.t 1)),(some (19, false), .load 26 .take false 1 (.t 25)),(some (19, false), .bin 27 .num .mul (.t 24) (.t 26)),(some (19, false), .bin 28 .num .neq (.t 22) (.t 27)),(none, .pick 29 (.t 19) (.k (.sc (.bool true))) (.t 28)),(Jmc 30 29),(some (30, false), .fieldA 31 3 (.t 1)),(some (30, false), .load 32 .take false 1 (.t 31)),(some (30, false), .len 33 (.t 32)),(some (30, false), .fieldA 34 0 (.t 1)),(some (30, false), .load 35 .take false 1 (.t 34)),(some (30, false), .fieldA 36 0 (.t 1)),(some (30, false), .load 37 .take false 1 (.t 36)),(some (30, false), .bin 38 .num .mul (.t 35) (.t 37)),(some (30, false), .bin 39 .num .neq (.t 33) (.t 38)),(none, .pick 40 (.t 30) (.k (.sc (.bool true))) (.t 39))])) (.cond (.t 40) (.seq (.reg [(none, .mv 2 .copy (.k (.sc (.bool false))))])
 .ret)
 .skip)) (.seq (.seq (.reg [(none, .mv 3 .copy (.k (N 0)))]) (.block 0 (.loop (.seq (.seq (.reg [(Jmc 41 3),(Jfa 42 1 1),(Jlt 43 1 42),(Jln 44 43),(Jbl 45 41 44)]) (.cond (.t 45)
 .skip (.exit 0))) (.seq (.block 1 (.seq (.reg [(Jfa 48 1 1),(Jlt 49 1 48),(Jmc 50 3),(Jia 51 1 49 50),(Jlc 52 1 51),(Jfa 53 0 1),(Jlt 54 1 53),(none, .bin 55 .num .sub (.t 54) (.k (N 1))),(none, .call .no (some 56) (.k (.fn XP [])) [(.t 52), (.k (N 0)), (.t 55)]),(none, .un 57 .not (.t 56)),(Jmc 58 57),(some (58, false), .fieldA 59 2 (.t 1)),(some (58, false), .load 60 .take false 1 (.t 59)),(some (58, false), .mv 61 .copy (.t 3)),(some (58, false), .indexA 62 1 (.t 60) (.t 61)),(some (58, false), .load 63 .copy false 1 (.t 62)),(some (58, false), .fieldA 64 0 (.t 1)),(some (58, false), .load 65 .take false 1 (.t 64)),(some (58, false), .bin 66 .num .sub (.t 65) (.k (N 1))),(some (58, false), .call .no (some 67) (.k (.fn XP [])) [(.t 63), (.k (N 0)), (.t 66)]),(some (58, false), .un 68 .not (.t 67)),(none, .pick 69 (.t 58) (.k (.sc (.bool true))) (.t 68))]) (.cond (.t 69) (.seq (.reg [(none, .mv 2 .copy (.k (.sc (.bool false))))])
 .ret)
 .skip))) (.reg [(Jmc 46 3),(Jba 47 46 1),(Jmc 3 47)])))))) (.seq (.reg [(none, .mv 2 .copy (.k (.sc (.bool true))))])
 .ret))))
theorem ZhL:Qq Tryz.prog Vk Zhs=some (Zcr,[.tmp 2],70):=by kernel_rfl
def Znt:List (Nat×List Md):=MM [(1,169774936191745691983536493130),(1000001,201)]
def Zfa : C := (.seq (.reg [(none, .box 2 (.t 0)),(none, .mv 4 .copy (.k (.sc (.bool false))))]) (.seq (.seq (.frz 2) (.reg [(JlT 5 4 2),(Jmc 6 1),(none, .call .no (some 7) (.k (.fn Wq [])) [(.t 5), (.k (N 0)), (.t 6)]),(Jmc 8 1),(none, .bin 9 .num .eql (.t 7) (.t 8)),(Jmc 10 9),(some (10, true), .load 11 .take true 4 (.t 2)),(some (10, true), .mv 12 .copy (.t 1)),(some (10, true), .call .no (some 13) (.k (.fn QU [])) [(.t 11), (.k (N 1)), (.t 12)]),(some (10, true), .mv 14 .copy (.t 1)),(some (10, true), .bin 15 .num .eql (.t 13) (.t 14)),(none, .pick 16 (.t 10) (.t 15) (.k (.sc (.bool false)))),(Jmc 17 16),(some (17, true), .load 18 .take true 4 (.t 2)),(some (17, true), .mv 19 .copy (.t 1)),(some (17, true), .call .no (some 20) (.k (.fn QU [])) [(.t 18), (.t 19), (.k (N 1))]),(some (17, true), .mv 21 .copy (.t 1)),(some (17, true), .bin 22 .num .eql (.t 20) (.t 21)),(none, .pick 23 (.t 17) (.t 22) (.k (.sc (.bool false)))),(Jmc 24 23),(some (24, true), .load 25 .take true 4 (.t 2)),(some (24, true), .mv 26 .copy (.t 1)),(some (24, true), .call .no (some 27) (.k (.fn QU [])) [(.t 25), (.k (N 0)), (.t 26)]),(some (24, true), .bin 28 .num .eql (.t 27) (.k (N 0))),(none, .pick 29 (.t 24) (.t 28) (.k (.sc (.bool false)))),(Jmc 30 29),(some (30, true), .load 31 .take true 4 (.t 2)),(some (30, true), .mv 32 .copy (.t 1)),(some (30, true), .call .no (some 33) (.k (.fn QU [])) [(.t 31), (.t 32), (.k (N 0))]),(some (30, true), .bin 34 .num .eql (.t 33) (.k (N 0))),(none, .pick 35 (.t 30) (.t 34) (.k (.sc (.bool false)))),(Jmc 36 35),(some (36, true), .load 37 .take true 4 (.t 2)),(some (36, true), .mv 38 .copy (.t 1)),(some (36, true), .mv 39 .copy (.t 1)),(some (36, true), .call .no (some 40) (.k (.fn Wl [])) [(.t 37), (.t 38), (.t 39)]),(none, .pick 41 (.t 36) (.t 40) (.k (.sc (.bool false)))),(Jmc 4 41)]))
 .ret))
theorem ZmH:Qq Tryz.prog ZbV Znt=some (Zfa,[.tmp 4],42):=by kernel_rfl
def ZmA:List (Nat×List Md):=MM [(1,331591091174817579963556426),(1000001,1609)]
def Zf3 : C := (.seq (.reg [(none, .box 3 (.t 0)),(none, .mv 6 .copy (.k (.sc (.bool false))))]) (.seq (.seq (.frz 3) (.reg [(JlT 7 4 3),(Jmc 8 1),(Jmc 9 2),(none, .call .no (some 10) (.k (.fn Wq [])) [(.t 7), (.t 8), (.t 9)]),(JlT 11 4 3),(Jmc 12 2),(Jmc 13 1),(none, .call .no (some 14) (.k (.fn Wq [])) [(.t 11), (.t 12), (.t 13)]),(none, .bin 15 .num .eql (.t 10) (.t 14)),(Jmc 16 15),(some (16, true), .mv 17 .copy (.t 1)),(some (16, true), .mv 18 .copy (.t 2)),(some (16, true), .bin 19 .num .eql (.t 17) (.t 18)),(some (16, true), .mv 20 .copy (.t 19)),(some (20, false), .load 21 .take true 4 (.t 3)),(some (20, false), .mv 22 .copy (.t 1)),(some (20, false), .mv 23 .copy (.t 2)),(some (20, false), .call .no (some 24) (.k (.fn Wl [])) [(.t 21), (.t 22), (.t 23)]),(some (20, false), .un 25 .not (.t 24)),(some (16, true), .pick 26 (.t 20) (.k (.sc (.bool true))) (.t 25)),(some (16, true), .mv 27 .copy (.t 26)),(some (27, false), .load 28 .take true 4 (.t 3)),(some (27, false), .mv 29 .copy (.t 2)),(some (27, false), .mv 30 .copy (.t 1)),(some (27, false), .call .no (some 31) (.k (.fn Wl [])) [(.t 28), (.t 29), (.t 30)]),(some (27, false), .un 32 .not (.t 31)),(some (16, true), .pick 33 (.t 27) (.k (.sc (.bool true))) (.t 32)),(none, .pick 34 (.t 16) (.t 33) (.k (.sc (.bool false)))),(Jmc 35 34),(some (35, true), .load 36 .take true 4 (.t 3)),(some (35, true), .mv 37 .copy (.t 1)),(some (35, true), .mv 38 .copy (.t 2)),(some (35, true), .call .no (some 39) (.k (.fn KK [])) [(.t 36), (.t 37), (.t 38)]),(some (35, true), .bin 40 .num .geq (.t 39) (.k (N 0))),(none, .pick 41 (.t 35) (.t 40) (.k (.sc (.bool false)))),(Jmc 6 41)]))
 .ret))
theorem ZmI:Qq Tryz.prog Zb9 ZmA=some (Zf3,[.tmp 6],42):=by kernel_rfl
def Zi6:List (Nat×List Md):=MM [(1,81545152335684693168722),(3,21224549329283402961049129610),(5,2),(7,70218),(9,41454197906504923769803346),(1000001,12873)]
def Zc5 : C := (.seq (.reg [(none, .box 4 (.t 0)),(none, .mv 8 .copy (.k (.sc (.bool false))))]) (.seq (.seq (.seq (.frz 4) (.reg [(JlT 9 4 4),(JlT 10 4 4),(Jmc 11 1),(Jmc 12 2),(none, .call .no (some 13) (.k (.fn Wq [])) [(.t 10), (.t 11), (.t 12)]),(Jmc 14 3),(none, .call .no (some 15) (.k (.fn Wq [])) [(.t 9), (.t 13), (.t 14)]),(JlT 16 4 4),(Jmc 17 1),(JlT 18 4 4),(Jmc 19 2),(Jmc 20 3),(none, .call .no (some 21) (.k (.fn Wq [])) [(.t 18), (.t 19), (.t 20)]),(none, .call .no (some 22) (.k (.fn Wq [])) [(.t 16), (.t 17), (.t 21)]),(none, .bin 23 .num .neq (.t 15) (.t 22)),(Jmc 24 23),(some (24, false), .load 25 .take true 4 (.t 4)),(some (24, false), .load 26 .take true 4 (.t 4)),(some (24, false), .mv 27 .copy (.t 1)),(some (24, false), .mv 28 .copy (.t 2)),(some (24, false), .call .no (some 29) (.k (.fn QU [])) [(.t 26), (.t 27), (.t 28)]),(some (24, false), .mv 30 .copy (.t 3)),(some (24, false), .call .no (some 31) (.k (.fn QU [])) [(.t 25), (.t 29), (.t 30)]),(some (24, false), .load 32 .take true 4 (.t 4)),(some (24, false), .mv 33 .copy (.t 1)),(some (24, false), .load 34 .take true 4 (.t 4)),(some (24, false), .mv 35 .copy (.t 2)),(some (24, false), .mv 36 .copy (.t 3)),(some (24, false), .call .no (some 37) (.k (.fn QU [])) [(.t 34), (.t 35), (.t 36)]),(some (24, false), .call .no (some 38) (.k (.fn QU [])) [(.t 32), (.t 33), (.t 37)]),(some (24, false), .bin 39 .num .neq (.t 31) (.t 38)),(none, .pick 40 (.t 24) (.k (.sc (.bool true))) (.t 39))])) (.cond (.t 40) (.seq (.reg [(none, .mv 8 .copy (.k (.sc (.bool false))))])
 .ret)
 .skip)) (.seq (.seq (.reg [(JlT 41 4 4),(Jmc 42 1),(JlT 43 4 4),(Jmc 44 2),(Jmc 45 3),(none, .call .no (some 46) (.k (.fn Wq [])) [(.t 43), (.t 44), (.t 45)]),(none, .call .no (some 47) (.k (.fn QU [])) [(.t 41), (.t 42), (.t 46)]),(JlT 48 4 4),(JlT 49 4 4),(Jmc 50 1),(Jmc 51 2),(none, .call .no (some 52) (.k (.fn QU [])) [(.t 49), (.t 50), (.t 51)]),(JlT 53 4 4),(Jmc 54 1),(Jmc 55 3),(none, .call .no (some 56) (.k (.fn QU [])) [(.t 53), (.t 54), (.t 55)]),(none, .call .no (some 57) (.k (.fn Wq [])) [(.t 48), (.t 52), (.t 56)]),(none, .bin 58 .num .neq (.t 47) (.t 57)),(Jmc 59 58),(some (59, false), .load 60 .take true 4 (.t 4)),(some (59, false), .load 61 .take true 4 (.t 4)),(some (59, false), .mv 62 .copy (.t 1)),(some (59, false), .mv 63 .copy (.t 2)),(some (59, false), .call .no (some 64) (.k (.fn Wq [])) [(.t 61), (.t 62), (.t 63)]),(some (59, false), .mv 65 .copy (.t 3)),(some (59, false), .call .no (some 66) (.k (.fn QU [])) [(.t 60), (.t 64), (.t 65)]),(some (59, false), .load 67 .take true 4 (.t 4)),(some (59, false), .load 68 .take true 4 (.t 4)),(some (59, false), .mv 69 .copy (.t 1)),(some (59, false), .mv 70 .copy (.t 3)),(some (59, false), .call .no (some 71) (.k (.fn QU [])) [(.t 68), (.t 69), (.t 70)]),(some (59, false), .load 72 .take true 4 (.t 4)),(some (59, false), .mv 73 .copy (.t 2)),(some (59, false), .mv 74 .copy (.t 3)),(some (59, false), .call .no (some 75) (.k (.fn QU [])) [(.t 72), (.t 73), (.t 74)]),(some (59, false), .call .no (some 76) (.k (.fn Wq [])) [(.t 67), (.t 71), (.t 75)]),(some (59, false), .bin 77 .num .neq (.t 66) (.t 76)),(none, .pick 78 (.t 59) (.k (.sc (.bool true))) (.t 77))]) (.cond (.t 78) (.seq (.reg [(none, .mv 8 .copy (.k (.sc (.bool false))))])
 .ret)
 .skip)) (.seq (.seq (.reg [(JlT 79 4 4),(Jmc 80 1),(Jmc 81 2),(none, .call .no (some 82) (.k (.fn Wl [])) [(.t 79), (.t 80), (.t 81)]),(none, .un 83 .not (.t 82))]) (.cond (.t 83) (.seq (.reg [(none, .mv 8 .copy (.k (.sc (.bool true))))])
 .ret)
 .skip)) (.seq (.seq (.reg [(JlT 84 4 4),(Jmc 85 2),(Jmc 86 3),(none, .call .no (some 87) (.k (.fn Wl [])) [(.t 84), (.t 85), (.t 86)]),(Jmc 88 87),(some (88, true), .load 89 .take true 4 (.t 4)),(some (88, true), .mv 90 .copy (.t 1)),(some (88, true), .mv 91 .copy (.t 3)),(some (88, true), .call .no (some 92) (.k (.fn Wl [])) [(.t 89), (.t 90), (.t 91)]),(some (88, true), .un 93 .not (.t 92)),(none, .pick 94 (.t 88) (.t 93) (.k (.sc (.bool false))))]) (.cond (.t 94) (.seq (.reg [(none, .mv 8 .copy (.k (.sc (.bool false))))])
 .ret)
 .skip)) (.seq (.reg [(JlT 95 4 4),(JlT 96 4 4),(Jmc 97 1),(Jmc 98 3),(none, .call .no (some 99) (.k (.fn Wq [])) [(.t 96), (.t 97), (.t 98)]),(JlT 100 4 4),(Jmc 101 2),(Jmc 102 3),(none, .call .no (some 103) (.k (.fn Wq [])) [(.t 100), (.t 101), (.t 102)]),(none, .call .no (some 104) (.k (.fn Wl [])) [(.t 95), (.t 99), (.t 103)]),(Jmc 105 104),(some (105, true), .load 106 .take true 4 (.t 4)),(some (105, true), .load 107 .take true 4 (.t 4)),(some (105, true), .mv 108 .copy (.t 1)),(some (105, true), .mv 109 .copy (.t 3)),(some (105, true), .call .no (some 110) (.k (.fn QU [])) [(.t 107), (.t 108), (.t 109)]),(some (105, true), .load 111 .take true 4 (.t 4)),(some (105, true), .mv 112 .copy (.t 2)),(some (105, true), .mv 113 .copy (.t 3)),(some (105, true), .call .no (some 114) (.k (.fn QU [])) [(.t 111), (.t 112), (.t 113)]),(some (105, true), .call .no (some 115) (.k (.fn Wl [])) [(.t 106), (.t 110), (.t 114)]),(none, .pick 116 (.t 105) (.t 115) (.k (.sc (.bool false)))),(Jmc 117 116),(some (117, true), .load 118 .take true 4 (.t 4)),(some (117, true), .load 119 .take true 4 (.t 4)),(some (117, true), .mv 120 .copy (.t 3)),(some (117, true), .mv 121 .copy (.t 1)),(some (117, true), .call .no (some 122) (.k (.fn QU [])) [(.t 119), (.t 120), (.t 121)]),(some (117, true), .load 123 .take true 4 (.t 4)),(some (117, true), .mv 124 .copy (.t 3)),(some (117, true), .mv 125 .copy (.t 2)),(some (117, true), .call .no (some 126) (.k (.fn QU [])) [(.t 123), (.t 124), (.t 125)]),(some (117, true), .call .no (some 127) (.k (.fn Wl [])) [(.t 118), (.t 122), (.t 126)]),(none, .pick 128 (.t 117) (.t 127) (.k (.sc (.bool false)))),(Jmc 8 128)])
 .ret))))))
theorem ZjG:Qq Tryz.prog Zag Zi6=some (Zc5,[.tmp 8],129):=by kernel_rfl
def Zlj:List (Nat×List Md):=MM [(1,18407002697)]
def Zeg : C := (.seq (.reg [(none, .mv 2 .copy (.k (.sc (.bool false))))]) (.seq (.reg [(Jmc 3 0),(Jln 4 3),(none, .bin 5 .num .leq (.t 4) (.k (N 40))),(Jmc 6 5),(some (6, true), .mv 7 .copy (.t 0)),(some (6, true), .call .no (some 8) (.k (.fn VC [])) [(.t 7), (.k (N 0))]),(some (6, true), .mv 9 .copy (.t 0)),(some (6, true), .len 10 (.t 9)),(some (6, true), .bin 11 .num .eql (.t 8) (.t 10)),(none, .pick 12 (.t 6) (.t 11) (.k (.sc (.bool false)))),(Jmc 13 12),(some (13, true), .mv 14 .take (.t 0)),(some (13, true), .len 15 (.t 14)),(some (13, true), .bin 16 .num .gtr (.t 15) (.k (N 0))),(none, .pick 17 (.t 13) (.t 16) (.k (.sc (.bool false)))),(Jmc 2 17)])
 .ret))
theorem Zk4:Qq Tryz.prog KO Zlj=some (Zeg,[.tmp 2],18):=by kernel_rfl
def Zhx:List (Nat×List Md):=MM []
def Zcd : C := (.seq (.reg [(none, .mv 6 .copy (.k (.sc (.bool false))))]) (.seq (.seq (.reg [(none, .mv 7 .copy (.k (N 0)))]) (.block 0 (.loop (.seq (.seq (.reg [(Jmc 9 7),(Jmc 10 0),(Jln 11 10),(Jbl 12 9 11)]) (.cond (.t 12)
 .skip (.exit 0))) (.seq (.block 1 (.seq (.reg [(Jmc 15 0),(Jmc 16 7),(Jia 17 1 15 16),(Jlc 18 1 17),(none, .call .no (some 19) (.k (.fn KM [])) [(.t 18)]),(none, .bin 20 .num .gtr (.t 19) (.k (N 0))),(Jmc 21 20),(some (21, true), .mv 22 .copy (.t 0)),(some (21, true), .mv 23 .copy (.t 7)),(some (21, true), .indexA 24 1 (.t 22) (.t 23)),(some (21, true), .load 25 .copy false 1 (.t 24)),(some (21, true), .bin 26 .num .gtr (.t 25) (.k (N 2))),(none, .pick 27 (.t 21) (.t 26) (.k (.sc (.bool false))))]) (.cond (.t 27) (.seq (.reg [(Jmc 28 0),(Jmc 29 7),(Jia 30 1 28 29),(Jlc 31 1 30),(none, .call .no (some 32) (.k (.fn ZR [])) [(.t 31)]),(Jmc 8 32)]) (.seq (.reg [(Jmc 33 8),(Jmc 34 1),(none, .bin 35 .num .geq (.t 33) (.t 34)),(Jmc 36 35),(some (36, false), .mv 37 .copy (.t 2)),(some (36, false), .mv 38 .copy (.t 37)),(some (38, true), .mv 39 .copy (.t 8)),(some (38, true), .bin 40 .num .lss (.t 39) (.k (N 0))),(some (36, false), .pick 41 (.t 38) (.t 40) (.k (.sc (.bool false)))),(none, .pick 42 (.t 36) (.k (.sc (.bool true))) (.t 41))]) (.cond (.t 42) (.seq (.reg [(none, .mv 6 .copy (.k (.sc (.bool false))))])
 .ret)
 .skip)))
 .skip))) (.reg [(Jmc 13 7),(Jba 14 13 1),(Jmc 7 14)])))))) (.seq (.reg [(none, .mv 6 .copy (.k (.sc (.bool true))))])
 .ret)))
theorem Zht:Qq Tryz.prog Jy Zhx=some (Zcd,[.tmp 6],43):=by kernel_rfl
def ZjQ:List (Nat×List Md):=MM [(1,17),(5,1178048172626),(6,18),(1000001,1609)]
def ZdX : C := (.seq (.reg [(none, .box 3 (.t 0)),(none, .mv 6 .copy (.k (.sl true true 1 [])))]) (.seq (.seq (.frz 3) (.reg [(none, .bslice 9 1 0 [] []),(Jmt 7 9)])) (.seq (.seq (.reg [(none, .mv 8 .copy (.k (N 0)))]) (.block 0 (.loop (.seq (.seq (.reg [(Jmc 10 8),(Jmc 11 1),(Jln 12 11),(Jbl 13 10 12)]) (.cond (.t 13)
 .skip (.exit 0))) (.seq (.block 1 (.reg [(Jmt 16 7),(JlT 17 4 3),(Jmc 18 1),(Jmc 19 8),(Jia 20 1 18 19),(Jlc 21 1 20),(Jmc 22 2),(Jmc 23 8),(Jia 24 1 22 23),(Jlc 25 1 24),(none, .call .no (some 26) (.k (.fn KK [])) [(.t 17), (.t 21), (.t 25)]),(none, .bslice 27 1 1 [(N 0)] [(0, 1, (.t 26))]),(none, .append 28 1 (.t 16) (.t 27)),(Jmt 7 28)])) (.reg [(Jmc 14 8),(Jba 15 14 1),(Jmc 8 15)])))))) (.seq (.reg [(Jmt 29 7),(Jmt 6 29)])
 .ret))))
theorem ZkW:Qq Tryz.prog KQ ZjQ=some (ZdX,[.tmp 6],30):=by kernel_rfl
def ZcA:List (Nat×List Md):=MM [(1,8785),(1000001,1609)]
def Kk : C := (.seq (.reg [(none, .box 3 (.t 0)),(none, .mv 6 .copy (.k (.sc (.bool false))))]) (.seq (.seq (.frz 3) (.reg [(Jfa 7 3 3),(Jlt 8 1 7),(Jmc 9 1),(Jfa 10 0 3),(Jlt 11 1 10),(none, .bin 12 .num .mul (.t 9) (.t 11)),(Jmc 13 2),(none, .bin 14 .num .add (.t 12) (.t 13)),(Jia 15 1 8 14),(Jlc 16 1 15),(Jmc 6 16)]))
 .ret))
theorem ZcE:Qq Tryz.prog QA ZcA=some (Kk,[.tmp 6],17):=by kernel_rfl
def Zda:List (Nat×List Md):=MM [(2,137),(4,561738),(7,137),(9,75395099824777),(1000001,1609)]
def Va : C := (.seq (.reg [(none, .box 3 (.t 0)),(none, .mv 6 .copy (.k (N 0)))]) (.seq (.seq (.seq (.frz 3) (.reg [(none, .mv 7 .copy (.k (N 0)))])) (.block 0 (.loop (.seq (.seq (.reg [(Jmc 10 7),(Jfa 11 0 3),(Jlt 12 1 11),(Jbl 13 10 12)]) (.cond (.t 13)
 .skip (.exit 0))) (.seq (.block 1 (.seq (.seq (.reg [(JlT 16 4 3),(Jmc 17 1),(Jmc 18 7),(none, .call .no (some 19) (.k (.fn QA [])) [(.t 16), (.t 17), (.t 18)]),(none, .un 20 .not (.t 19)),(Jmc 21 20),(some (21, false), .load 22 .take true 4 (.t 3)),(some (21, false), .mv 23 .copy (.t 2)),(some (21, false), .mv 24 .copy (.t 7)),(some (21, false), .call .no (some 25) (.k (.fn QA [])) [(.t 22), (.t 23), (.t 24)]),(some (21, false), .un 26 .not (.t 25)),(none, .pick 27 (.t 21) (.k (.sc (.bool true))) (.t 26))]) (.cond (.t 27) (.exit 1)
 .skip)) (.seq (.reg [(none, .mv 8 .copy (.k (.sc (.bool true))))]) (.seq (.seq (.reg [(none, .mv 9 .copy (.k (N 0)))]) (.block 2 (.loop (.seq (.seq (.reg [(Jmc 28 9),(Jfa 29 0 3),(Jlt 30 1 29),(Jbl 31 28 30)]) (.cond (.t 31)
 .skip (.exit 2))) (.seq (.block 3 (.reg [(Jmc 34 8),(Jmc 35 34),(some (35, true), .load 36 .take true 4 (.t 3)),(some (35, true), .mv 37 .copy (.t 1)),(some (35, true), .mv 38 .copy (.t 9)),(some (35, true), .call .no (some 39) (.k (.fn QA [])) [(.t 36), (.t 37), (.t 38)]),(some (35, true), .un 40 .not (.t 39)),(some (35, true), .mv 41 .copy (.t 40)),(some (41, false), .load 42 .take true 4 (.t 3)),(some (41, false), .mv 43 .copy (.t 2)),(some (41, false), .mv 44 .copy (.t 9)),(some (41, false), .call .no (some 45) (.k (.fn QA [])) [(.t 42), (.t 43), (.t 44)]),(some (41, false), .un 46 .not (.t 45)),(some (35, true), .pick 47 (.t 41) (.k (.sc (.bool true))) (.t 46)),(some (35, true), .mv 48 .copy (.t 47)),(some (48, false), .load 49 .take true 4 (.t 3)),(some (48, false), .mv 50 .copy (.t 7)),(some (48, false), .mv 51 .copy (.t 9)),(some (48, false), .call .no (some 52) (.k (.fn QA [])) [(.t 49), (.t 50), (.t 51)]),(some (35, true), .pick 53 (.t 48) (.k (.sc (.bool true))) (.t 52)),(none, .pick 54 (.t 35) (.t 53) (.k (.sc (.bool false)))),(Jmc 8 54)])) (.reg [(Jmc 32 9),(Jba 33 32 1),(Jmc 9 33)])))))) (.seq (.reg [(Jmc 55 8)]) (.cond (.t 55) (.seq (.reg [(Jmc 56 7),(Jmc 6 56)])
 .ret)
 .skip)))))) (.reg [(Jmc 14 7),(Jba 15 14 1),(Jmc 7 15)])))))) (.seq (.reg [(none, .mv 6 .copy (.k (N (-1))))])
 .ret)))
theorem ZcO:Qq Tryz.prog W0 Zda=some (Va,[.tmp 6],57):=by kernel_rfl
def ZbO:List (Nat×List Md):=MM [(1,81545152335684693168722),(3,21224549329283402961049129610),(5,18407035466),(7,10866969256002826736711328371274),(1000001,12873)]
def J6 : C := (.seq (.reg [(none, .box 4 (.t 0)),(none, .mv 8 .copy (.k (.sc (.bool false))))]) (.seq (.seq (.seq (.frz 4) (.reg [(JlT 9 4 4),(JlT 10 4 4),(Jmc 11 1),(Jmc 12 2),(none, .call .no (some 13) (.k (.fn QC [])) [(.t 10), (.t 11), (.t 12)]),(Jmc 14 3),(none, .call .no (some 15) (.k (.fn QC [])) [(.t 9), (.t 13), (.t 14)]),(JlT 16 4 4),(Jmc 17 1),(JlT 18 4 4),(Jmc 19 2),(Jmc 20 3),(none, .call .no (some 21) (.k (.fn QC [])) [(.t 18), (.t 19), (.t 20)]),(none, .call .no (some 22) (.k (.fn QC [])) [(.t 16), (.t 17), (.t 21)]),(none, .bin 23 .num .neq (.t 15) (.t 22)),(Jmc 24 23),(some (24, false), .load 25 .take true 4 (.t 4)),(some (24, false), .load 26 .take true 4 (.t 4)),(some (24, false), .mv 27 .copy (.t 1)),(some (24, false), .mv 28 .copy (.t 2)),(some (24, false), .call .no (some 29) (.k (.fn Qs [])) [(.t 26), (.t 27), (.t 28)]),(some (24, false), .mv 30 .copy (.t 3)),(some (24, false), .call .no (some 31) (.k (.fn Qs [])) [(.t 25), (.t 29), (.t 30)]),(some (24, false), .load 32 .take true 4 (.t 4)),(some (24, false), .mv 33 .copy (.t 1)),(some (24, false), .load 34 .take true 4 (.t 4)),(some (24, false), .mv 35 .copy (.t 2)),(some (24, false), .mv 36 .copy (.t 3)),(some (24, false), .call .no (some 37) (.k (.fn Qs [])) [(.t 34), (.t 35), (.t 36)]),(some (24, false), .call .no (some 38) (.k (.fn Qs [])) [(.t 32), (.t 33), (.t 37)]),(some (24, false), .bin 39 .num .neq (.t 31) (.t 38)),(none, .pick 40 (.t 24) (.k (.sc (.bool true))) (.t 39))])) (.cond (.t 40) (.seq (.reg [(none, .mv 8 .copy (.k (.sc (.bool false))))])
 .ret)
 .skip)) (.seq (.seq (.reg [(JlT 41 4 4),(Jmc 42 1),(JlT 43 4 4),(Jmc 44 2),(Jmc 45 3),(none, .call .no (some 46) (.k (.fn QC [])) [(.t 43), (.t 44), (.t 45)]),(none, .call .no (some 47) (.k (.fn Qs [])) [(.t 41), (.t 42), (.t 46)]),(JlT 48 4 4),(JlT 49 4 4),(Jmc 50 1),(Jmc 51 2),(none, .call .no (some 52) (.k (.fn Qs [])) [(.t 49), (.t 50), (.t 51)]),(JlT 53 4 4),(Jmc 54 1),(Jmc 55 3),(none, .call .no (some 56) (.k (.fn Qs [])) [(.t 53), (.t 54), (.t 55)]),(none, .call .no (some 57) (.k (.fn QC [])) [(.t 48), (.t 52), (.t 56)]),(none, .bin 58 .num .neq (.t 47) (.t 57)),(Jmc 59 58),(some (59, false), .load 60 .take true 4 (.t 4)),(some (59, false), .load 61 .take true 4 (.t 4)),(some (59, false), .mv 62 .copy (.t 1)),(some (59, false), .mv 63 .copy (.t 2)),(some (59, false), .call .no (some 64) (.k (.fn QC [])) [(.t 61), (.t 62), (.t 63)]),(some (59, false), .mv 65 .copy (.t 3)),(some (59, false), .call .no (some 66) (.k (.fn Qs [])) [(.t 60), (.t 64), (.t 65)]),(some (59, false), .load 67 .take true 4 (.t 4)),(some (59, false), .load 68 .take true 4 (.t 4)),(some (59, false), .mv 69 .copy (.t 1)),(some (59, false), .mv 70 .copy (.t 3)),(some (59, false), .call .no (some 71) (.k (.fn Qs [])) [(.t 68), (.t 69), (.t 70)]),(some (59, false), .load 72 .take true 4 (.t 4)),(some (59, false), .mv 73 .copy (.t 2)),(some (59, false), .mv 74 .copy (.t 3)),(some (59, false), .call .no (some 75) (.k (.fn Qs [])) [(.t 72), (.t 73), (.t 74)]),(some (59, false), .call .no (some 76) (.k (.fn QC [])) [(.t 67), (.t 71), (.t 75)]),(some (59, false), .bin 77 .num .neq (.t 66) (.t 76)),(none, .pick 78 (.t 59) (.k (.sc (.bool true))) (.t 77))]) (.cond (.t 78) (.seq (.reg [(none, .mv 8 .copy (.k (.sc (.bool false))))])
 .ret)
 .skip)) (.seq (.seq (.reg [(JlT 79 4 4),(Jmc 80 1),(Jmc 81 2),(none, .call .no (some 82) (.k (.fn QA [])) [(.t 79), (.t 80), (.t 81)]),(Jmc 83 82),(some (83, true), .load 84 .take true 4 (.t 4)),(some (83, true), .mv 85 .copy (.t 2)),(some (83, true), .mv 86 .copy (.t 3)),(some (83, true), .call .no (some 87) (.k (.fn QA [])) [(.t 84), (.t 85), (.t 86)]),(none, .pick 88 (.t 83) (.t 87) (.k (.sc (.bool false)))),(Jmc 89 88),(some (89, true), .load 90 .take true 4 (.t 4)),(some (89, true), .mv 91 .copy (.t 1)),(some (89, true), .mv 92 .copy (.t 3)),(some (89, true), .call .no (some 93) (.k (.fn QA [])) [(.t 90), (.t 91), (.t 92)]),(some (89, true), .un 94 .not (.t 93)),(none, .pick 95 (.t 89) (.t 94) (.k (.sc (.bool false))))]) (.cond (.t 95) (.seq (.reg [(none, .mv 8 .copy (.k (.sc (.bool false))))])
 .ret)
 .skip)) (.seq (.reg [(JlT 96 4 4),(Jmc 97 1),(Jmc 98 2),(none, .call .no (some 99) (.k (.fn QA [])) [(.t 96), (.t 97), (.t 98)]),(none, .un 100 .not (.t 99)),(Jmc 101 100),(some (101, false), .load 102 .take true 4 (.t 4)),(some (101, false), .load 103 .take true 4 (.t 4)),(some (101, false), .mv 104 .copy (.t 1)),(some (101, false), .mv 105 .copy (.t 3)),(some (101, false), .call .no (some 106) (.k (.fn QC [])) [(.t 103), (.t 104), (.t 105)]),(some (101, false), .load 107 .take true 4 (.t 4)),(some (101, false), .mv 108 .copy (.t 2)),(some (101, false), .mv 109 .copy (.t 3)),(some (101, false), .call .no (some 110) (.k (.fn QC [])) [(.t 107), (.t 108), (.t 109)]),(some (101, false), .call .no (some 111) (.k (.fn QA [])) [(.t 102), (.t 106), (.t 110)]),(some (101, false), .mv 112 .copy (.t 111)),(some (112, true), .load 113 .take true 4 (.t 4)),(some (112, true), .load 114 .take true 4 (.t 4)),(some (112, true), .mv 115 .copy (.t 1)),(some (112, true), .mv 116 .copy (.t 3)),(some (112, true), .call .no (some 117) (.k (.fn Qs [])) [(.t 114), (.t 115), (.t 116)]),(some (112, true), .load 118 .take true 4 (.t 4)),(some (112, true), .mv 119 .copy (.t 2)),(some (112, true), .mv 120 .copy (.t 3)),(some (112, true), .call .no (some 121) (.k (.fn Qs [])) [(.t 118), (.t 119), (.t 120)]),(some (112, true), .call .no (some 122) (.k (.fn QA [])) [(.t 113), (.t 117), (.t 121)]),(some (101, false), .pick 123 (.t 112) (.t 122) (.k (.sc (.bool false)))),(some (101, false), .mv 124 .copy (.t 123)),(some (124, true), .load 125 .take true 4 (.t 4)),(some (124, true), .load 126 .take true 4 (.t 4)),(some (124, true), .mv 127 .copy (.t 3)),(some (124, true), .mv 128 .copy (.t 1)),(some (124, true), .call .no (some 129) (.k (.fn Qs [])) [(.t 126), (.t 127), (.t 128)]),(some (124, true), .load 130 .take true 4 (.t 4)),(some (124, true), .mv 131 .copy (.t 3)),(some (124, true), .mv 132 .copy (.t 2)),(some (124, true), .call .no (some 133) (.k (.fn Qs [])) [(.t 130), (.t 131), (.t 132)]),(some (124, true), .call .no (some 134) (.k (.fn QA [])) [(.t 125), (.t 129), (.t 133)]),(some (101, false), .pick 135 (.t 124) (.t 134) (.k (.sc (.bool false)))),(none, .pick 136 (.t 101) (.k (.sc (.bool true))) (.t 135)),(Jmc 8 136)])
 .ret)))))
theorem Zb0:Qq Tryz.prog Y8 ZbO=some (J6,[.tmp 8],137):=by kernel_rfl
def ZeW:List (Nat×List Md):=MM [(1,17)]
def VR : C := (.seq (.reg [(none, .mv 3 .copy (.k (.sc (.bool false))))]) (.seq (.reg [(JlC 4 4 1),(Jmt 5 0),(none, .call .no (some 6) (.k (.fn Zn [])) [(.t 4), (.t 5)]),(none, .un 7 .not (.t 6)),(Jmc 3 7)])
 .ret))
theorem ZeZ:Qq Tryz.prog Ye ZeW=some (VR,[.tmp 3],8):=by kernel_rfl
def ZmT:List (Nat×List Md):=MM [(2,1105),(3,35951177),(5,17),(6,17),(7,17),(8,17),(9,17),(11,137),(13,8777),(14,1097),(17,17),(20,1097),(1000001,102985)]
def ZfH : C := (.seq (.reg [(none, .box 5 (.t 0)),(none, .mv 10 .copy (.k (N 0)))]) (.seq (.seq (.frz 5) (.reg [(Jmc 15 4),(Jba 16 15 1),(Jmc 4 16)])) (.seq (.reg [(Jfa 18 0 5),(Jlt 19 1 18),(none, .call .no (some 20) (.k (.fn Za3 [])) [(.t 19)]),(Jmt 17 20),(none, .extract 21 0 (.t 17)),(none, .extract 22 1 (.t 17)),(none, .alloc 11 [(.sc (.string ⟨#[]⟩)), (N 0), (.sc (.bool false)), (.sc (.bool false))]),(Jst 4 11 21),(Jmc 12 22)]) (.seq (.seq (.reg [(Jmc 23 12),(none, .un 24 .not (.t 23)),(Jmc 25 24),(some (25, false), .mv 26 .copy (.t 4)),(some (25, false), .bin 27 .num .gtr (.t 26) (.k (N 400))),(none, .pick 28 (.t 25) (.k (.sc (.bool true))) (.t 27)),(Jmc 29 28),(some (29, false), .fieldA 30 3 (.t 5)),(some (29, false), .load 31 .take false 1 (.t 30)),(some (29, false), .len 32 (.t 31)),(some (29, false), .fieldA 33 1 (.t 11)),(some (29, false), .load 34 .copy false 1 (.t 33)),(some (29, false), .bin 35 .num .neq (.t 32) (.t 34)),(none, .pick 36 (.t 29) (.k (.sc (.bool true))) (.t 35))]) (.cond (.t 36) (.seq (.reg [(none, .mv 10 .copy (.k (N 401)))])
 .ret)
 .skip)) (.seq (.block 0 (.seq (.reg [(Jfa 41 0 5),(Jlt 42 1 41),(Jbe 43 42 0),(Jmc 40 43)]) (.cond (.t 40) (.reg [(Jfa 44 1 5),(Jlt 45 1 44),(Jmc 46 1),(none, .bin 47 .num .sub (.t 46) (.k (N 1))),(none, .call .no (some 48) (.k (.fn W5 [])) [(.t 45), (.k (N 0)), (.t 47)]),(Jmc 12 48)]) (.seq (.reg [(Jfa 50 0 5),(Jlt 51 1 50),(Jbe 52 51 1),(Jmc 49 52)]) (.cond (.t 49) (.reg [(Jfa 53 1 5),(Jlt 54 1 53),(none, .call .no (some 55) (.k (.fn W5 [])) [(.t 54), (.k (N 0)), (.k (N 2))]),(Jmc 12 55)]) (.seq (.reg [(Jfa 57 2 11),(Jlc 58 1 57),(Jmc 56 58)]) (.cond (.t 56) (.reg [(Jmc 59 2),(Jfa 60 1 5),(Jlt 61 1 60),(none, .call .no (some 62) (.t 59) [(.t 61)]),(Jmc 12 62)]) (.reg [(Jfa 37 1 5),(Jlt 38 1 37),(Jbe 39 38 0),(Jmc 12 39)])))))))) (.seq (.seq (.reg [(Jfa 63 3 11),(Jlc 64 1 63)]) (.cond (.t 64) (.reg [(Jmc 65 12),(Jmc 66 65),(some (66, true), .mv 67 .copy (.t 3)),(some (66, true), .fieldA 68 2 (.t 5)),(some (66, true), .load 69 .take false 1 (.t 68)),(some (66, true), .call .no (some 70) (.t 67) [(.t 69)]),(none, .pick 71 (.t 66) (.t 70) (.k (.sc (.bool false)))),(Jmc 12 71)]) (.reg [(Jmc 72 12),(Jmc 73 72),(some (73, true), .fieldA 74 2 (.t 5)),(some (73, true), .load 75 .take false 1 (.t 74)),(some (73, true), .len 76 (.t 75)),(some (73, true), .bin 77 .num .eql (.t 76) (.k (N 0))),(none, .pick 78 (.t 73) (.t 77) (.k (.sc (.bool false)))),(Jmc 12 78)]))) (.seq (.seq (.reg [(Jmc 79 12),(none, .un 80 .not (.t 79))]) (.cond (.t 80) (.seq (.reg [(none, .mv 10 .copy (.k (N 401)))])
 .ret)
 .skip)) (.seq (.seq (.reg [(Jfa 81 3 5),(Jlt 82 1 81),(Jln 83 82),(none, .mv 84 .copy (.k (N 0)))]) (.block 1 (.loop (.seq (.reg [(Jbl 85 84 83)]) (.seq (.cond (.t 85)
 .skip (.exit 1)) (.seq (.block 2 (.seq (.reg [(Jmc 86 84),(Jia 87 4 82 84),(JlC 88 4 87),(none, .alloc 14 [(N 0), (N 0), (.sl true true 1 []), (.sl true true 1 [])]),(Jmc 13 86),(Jst 4 14 88)]) (.seq (.reg [(JlC 89 4 14),(Jmc 90 1),(Jfa 91 0 5),(Jlt 92 1 91),(Jmc 93 13),(none, .call .no (some 94) (.k (.fn Zat [])) [(.t 92), (.t 93)]),(none, .bin 95 .num .add (.t 90) (.t 94)),(Jmc 96 2),(Jmc 97 3),(Jmc 98 4),(none, .call .no (some 99) (.k (.fn VG [])) [(.t 89), (.t 95), (.t 96), (.t 97), (.t 98)]),(Jmc 4 99)]) (.seq (.reg [(Jmc 100 4),(none, .bin 101 .num .gtr (.t 100) (.k (N 400)))]) (.cond (.t 101) (.seq (.reg [(none, .mv 10 .copy (.k (N 401)))])
 .ret)
 .skip))))) (.reg [(Jba 102 84 1),(Jmc 84 102)]))))))) (.seq (.reg [(Jmc 103 4),(Jmc 10 103)])
 .ret)))))))))
theorem ZmK:Qq Tryz.prog VG ZmT=some (ZfH,[.tmp 10],104):=by kernel_rfl
def Zfy:List (Nat×List Md):=MM [(1,17)]
def ZaA : C := (.seq (.reg [(none, .mv 3 .copy (.k (.sc (.bool false))))]) (.seq (.reg [(JlC 4 4 1),(Jmt 5 0),(none, .call .no (some 6) (.k (.fn Zn [])) [(.t 4), (.t 5)]),(Jmc 3 6)])
 .ret))
theorem Zfo:Qq Tryz.prog Yw Zfy=some (ZaA,[.tmp 3],7):=by kernel_rfl
def Zm7:List (Nat×List Md):=MM [(1,17),(2,1105),(3,17),(5,138),(6,17),(8,4493897),(10,561738),(11,18),(1000001,1609)]
def VE : C := (.seq (.reg [(none, .box 3 (.t 0)),(none, .mv 6 .copy (.k (.sl true true 1 [])))]) (.seq (.block 0 (.seq (.seq (.frz 3) (.reg [(Jfa 9 0 3),(Jlt 10 1 9),(Jbe 11 10 9),(Jmc 8 11)])) (.cond (.t 8) (.seq (.reg [(Jfa 12 2 3),(Jlt 13 1 12),(none, .bslice 14 1 1 [(.sl true true 1 [])] [(0, 1, (.t 13))]),(Jmt 6 14)])
 .ret) (.seq (.reg [(Jfa 16 0 3),(Jlt 17 1 16),(Jmc 18 1),(none, .call .no (some 19) (.k (.fn Zat [])) [(.t 17), (.t 18)]),(Jbe 20 19 0),(Jmc 15 20)]) (.cond (.t 15) (.seq (.reg [(none, .mv 6 .copy (.k (.sl true true 1 [])))])
 .ret)
 .skip))))) (.seq (.reg [(Jmt 21 2),(none, .call .no (some 22) (.k (.fn Z2 [])) [(.t 21)]),(Jmt 7 22)]) (.seq (.seq (.reg [(Jfa 23 0 3),(Jlt 24 1 23)]) (.block 1 (.seq (.reg [(Jbe 26 24 5),(Jmc 25 26)]) (.cond (.t 25) (.seq (.reg [(Jmc 27 7),(none, .indexA 28 1 (.t 27) (.k (N 1))),(Jlc 29 1 28),(Jmc 30 7),(none, .indexA 31 1 (.t 30) (.k (N 0))),(Jlc 32 1 31),(none, .bslice 33 1 2 [(.sl true true 1 []), (.sl true true 1 [])] [(0, 1, (.t 29)), (1, 1, (.t 32))]),(Jmt 6 33)])
 .ret) (.seq (.reg [(Jbe 35 24 8),(Jmc 34 35)]) (.cond (.t 34) (.seq (.reg [(Jmt 36 7),(Jmc 37 1),(none, .bin 38 .num .sub (.t 37) (.k (N 1))),(Jia 39 1 36 38),(Jlc 40 1 39),(none, .bslice 41 1 1 [(.sl true true 1 [])] [(0, 1, (.t 40))]),(Jmt 6 41)])
 .ret)
 .skip)))))) (.seq (.reg [(Jmt 42 7),(Jmt 6 42)])
 .ret)))))
theorem Znw:Qq Tryz.prog ZbL Zm7=some (VE,[.tmp 6],43):=by kernel_rfl
def KC:List (Nat×List Md):=MM [(4,137),(5,17),(9,137),(10,2),(12,137),(13,1106),(15,18)]
def YS : C := (.seq (.reg [(none, .mv 2 .copy (.k (.sl true true 1 [])))]) (.seq (.reg [(none, .mv 3 .copy (.k (N 0)))]) (.seq (.seq (.reg [(Jmc 9 0),(Jln 10 9),(none, .mv 11 .copy (.k (N 0)))]) (.block 0 (.loop (.seq (.reg [(Jbl 12 11 10)]) (.seq (.cond (.t 12)
 .skip (.exit 0)) (.seq (.block 1 (.seq (.reg [(Jia 13 1 9 11),(Jlc 14 1 13),(Jmt 5 14)]) (.seq (.reg [(Jmc 15 3),(Jmt 16 5),(Jln 17 16),(none, .bin 18 .num .add (.t 15) (.t 17)),(Jmc 3 18)]) (.seq (.reg [(Jmc 19 3),(none, .bin 20 .num .lss (.t 19) (.k (N 0)))]) (.cond (.t 20) (.reg [(none, .bad (some 21)),(none, .bad none)])
 .skip))))) (.reg [(Jba 22 11 1),(Jmc 11 22)]))))))) (.seq (.reg [(Jmc 23 3),(none, .call .no (some 24) (.k (.fn XX [])) [(.k (.sl true true 1 [])), (.t 23)]),(Jmt 6 24)]) (.seq (.seq (.reg [(Jmt 25 0),(Jln 26 25),(none, .mv 27 .copy (.k (N 0)))]) (.block 2 (.loop (.seq (.reg [(Jbl 28 27 26)]) (.seq (.cond (.t 28)
 .skip (.exit 2)) (.seq (.block 3 (.seq (.reg [(Jia 29 1 25 27),(Jlc 30 1 29),(Jmt 8 30)]) (.reg [(Jmt 31 6),(Jmt 32 8),(none, .append 33 1 (.t 31) (.t 32)),(Jmt 6 33)]))) (.reg [(Jba 34 27 1),(Jmc 27 34)]))))))) (.seq (.reg [(Jmt 35 6),(Jmt 2 35)])
 .ret))))))
theorem Kt:Qq Tryz.prog XE KC=some (YS,[.tmp 2],36):=by kernel_rfl
def Zb1:List (Nat×List Md):=MM [(1,8778),(3,17),(4,17),(6,17),(8,17),(10,17),(12,17),(16,19908484388251542089),(1000001,111177)]
def XZ : C := (.seq (.reg [(none, .box 4 (.t 0)),(none, .box 5 (.t 1)),(none, .mv 8 .copy (.k (N 0)))]) (.seq (.seq (.frz 4) (.seq (.frz 5) (.reg [(Jmt 14 3),(none, .indexA 15 1 (.t 14) (.k (N 0))),(Jlc 16 1 15),(none, .call .no (some 17) (.k (.fn Yy [])) [(.t 16)]),(Jmt 13 17),(none, .extract 18 0 (.t 13)),(none, .extract 19 1 (.t 13)),(Jmc 9 18),(Jmc 10 19)]))) (.seq (.reg [(none, .mv 11 .copy (.k (N (-1)))),(none, .mv 12 .copy (.k (N 0)))]) (.seq (.block 0 (.seq (.seq (.reg [(Jfa 21 0 5),(Jlt 22 1 21),(Jbe 23 22 2),(Jmc 20 23)]) (.cond (.t 20)
 .skip (.reg [(Jfa 24 0 5),(Jlt 25 1 24),(Jbe 26 25 3),(Jmc 27 26),(some (27, true), .mv 28 .copy (.t 2)),(some (27, true), .bin 29 .num .eql (.t 28) (.k (N 0))),(none, .pick 30 (.t 27) (.t 29) (.k (.sc (.bool false)))),(Jmc 20 30)]))) (.cond (.t 20) (.reg [(none, .mv 11 .copy (.k (N 0))),(none, .mv 12 .copy (.k (N 2)))]) (.seq (.reg [(Jfa 32 0 5),(Jlt 33 1 32),(Jbe 34 33 5),(Jmc 35 34),(some (35, true), .mv 36 .copy (.t 2)),(some (35, true), .bin 37 .num .eql (.t 36) (.k (N 0))),(none, .pick 38 (.t 35) (.t 37) (.k (.sc (.bool false)))),(Jmc 31 38)]) (.cond (.t 31) (.reg [(none, .mv 11 .copy (.k (N 1))),(none, .mv 12 .copy (.k (N 4)))]) (.seq (.reg [(Jfa 40 0 5),(Jlt 41 1 40),(Jbe 42 41 8),(Jmc 43 42),(some (43, true), .mv 44 .copy (.t 2)),(some (43, true), .bin 45 .num .eql (.t 44) (.k (N 0))),(none, .pick 46 (.t 43) (.t 45) (.k (.sc (.bool false)))),(Jmc 39 46)]) (.cond (.t 39) (.reg [(none, .mv 11 .copy (.k (N 2))),(none, .mv 12 .copy (.k (N 5)))]) (.seq (.reg [(Jfa 48 0 5),(Jlt 49 1 48),(Jbe 50 49 10),(Jmc 51 50),(some (51, true), .mv 52 .copy (.t 2)),(some (51, true), .bin 53 .num .eql (.t 52) (.k (N 0))),(none, .pick 54 (.t 51) (.t 53) (.k (.sc (.bool false)))),(Jmc 47 54)]) (.cond (.t 47) (.reg [(none, .mv 11 .copy (.k (N 3))),(none, .mv 12 .copy (.k (N 6)))]) (.seq (.reg [(Jfa 56 0 5),(Jlt 57 1 56),(Jbe 58 57 12),(Jmc 59 58),(some (59, true), .mv 60 .copy (.t 2)),(some (59, true), .bin 61 .num .eql (.t 60) (.k (N 0))),(none, .pick 62 (.t 59) (.t 61) (.k (.sc (.bool false)))),(Jmc 55 62)]) (.cond (.t 55) (.reg [(none, .mv 11 .copy (.k (N 4))),(none, .mv 12 .copy (.k (N 7)))])
 .skip))))))))))) (.seq (.seq (.reg [(Jmc 63 11),(none, .bin 64 .num .geq (.t 63) (.k (N 0))),(Jmc 65 64),(some (65, true), .mv 66 .copy (.t 9)),(some (65, true), .mv 67 .copy (.t 11)),(some (65, true), .bin 68 .num .neq (.t 66) (.t 67)),(none, .pick 69 (.t 65) (.t 68) (.k (.sc (.bool false))))]) (.cond (.t 69) (.seq (.reg [(Jmc 70 12),(Jmc 8 70)])
 .ret)
 .skip)) (.seq (.seq (.reg [(Jmc 71 2),(Jbe 72 71 0),(Jmc 73 72),(some (73, true), .fieldA 74 0 (.t 5)),(some (73, true), .load 75 .take false 1 (.t 74)),(some (73, true), .bin 76 .num .eql (.t 75) (.k (N 5))),(some (73, true), .mv 77 .copy (.t 76)),(some (77, false), .fieldA 78 0 (.t 5)),(some (77, false), .load 79 .take false 1 (.t 78)),(some (77, false), .bin 80 .num .eql (.t 79) (.k (N 8))),(some (73, true), .pick 81 (.t 77) (.k (.sc (.bool true))) (.t 80)),(some (73, true), .mv 82 .copy (.t 81)),(some (82, false), .fieldA 83 0 (.t 5)),(some (82, false), .load 84 .take false 1 (.t 83)),(some (82, false), .bin 85 .num .eql (.t 84) (.k (N 12))),(some (73, true), .pick 86 (.t 82) (.k (.sc (.bool true))) (.t 85)),(none, .pick 87 (.t 73) (.t 86) (.k (.sc (.bool false)))),(Jmc 88 87),(some (88, true), .fieldA 89 0 (.t 4)),(some (88, true), .load 90 .take true 4 (.t 89)),(some (88, true), .fieldA 91 1 (.t 5)),(some (88, true), .load 92 .take false 1 (.t 91)),(some (88, true), .call .no (some 93) (.k (.fn QA [])) [(.t 90), (.k (N 1)), (.t 92)]),(some (88, true), .un 94 .not (.t 93)),(none, .pick 95 (.t 88) (.t 94) (.k (.sc (.bool false))))]) (.cond (.t 95) (.seq (.reg [(none, .mv 8 .copy (.k (N 8)))])
 .ret)
 .skip)) (.seq (.reg [(none, .mv 8 .copy (.k (N 0)))])
 .ret)))))))
theorem Zb3:Qq Tryz.prog Y3 Zb1=some (XZ,[.tmp 8],96):=by kernel_rfl
def ZcG:List (Nat×List Md):=MM [(1,17),(2,17),(4,1106),(5,70218),(7,2),(9,1106),(11,1105),(13,9432994194578),(15,75463937008210),(17,70226),(19,9425461257362),(21,18541487186),(23,18541519442),(25,1105),(27,9424519631434),(29,38637536687760530),(31,70226),(33,9493257950290),(35,70225),(36,75404749083794),(38,76014634439762),(40,70225),(41,4526674),(43,9425461257362),(44,2),(1000001,426545737)]
def QQ : C := (.seq (.reg [(none, .box 6 (.t 0)),(none, .box 7 (.t 1)),(none, .box 9 (.t 3)),(none, .mv 12 .copy (.k (N 0)))]) (.seq (.seq (.frz 6) (.seq (.frz 7) (.seq (.frz 9) (.reg [(none, .mkfn 18 XU false [(.t 7)]),(Jmt 13 18)])))) (.seq (.seq (.reg [(Jfa 19 0 9),(Jlt 20 1 19)]) (.block 0 (.seq (.reg [(Jbe 22 20 0),(Jmc 21 22)]) (.cond (.t 21) (.seq (.reg [(Jlt 23 1 7),(Jmt 24 2),(Jfa 25 1 9),(Jlt 26 1 25),(Jia 27 1 24 26),(Jlc 28 1 27),(none, .call .no (some 29) (.k (.fn WE [])) [(.t 28)]),(none, .nilchk 30 (.t 23)),(Jfa 31 0 30),(Jst 1 31 29)]) (.reg [(Jlt 32 1 7),(none, .nilchk 33 (.t 32)),(Jfa 34 1 33),(Jlc 35 1 34),(Jfa 36 1 9),(Jlt 37 1 36),(Jia 38 1 35 37),(none, .store 1 (.t 38) (.k (N 1)))])) (.seq (.reg [(Jbe 40 20 1),(Jmc 39 40)]) (.cond (.t 39) (.reg [(Jlt 41 1 7),(none, .bslice 42 1 1 [(N 0)] [(0, 1, (.k (N 0)))]),(none, .nilchk 43 (.t 41)),(Jfa 44 0 43),(Jst 1 44 42)]) (.seq (.reg [(Jbe 46 20 2),(Jmc 45 46)]) (.cond (.t 45) (.reg [(Jlt 47 1 7),(Jlt 48 1 7),(none, .bslice 49 1 1 [(N 0)] [(0, 1, (.k (N 0)))]),(JlT 50 4 6),(Jmc 51 4),(none, .indexA 52 1 (.t 51) (.k (N 0))),(Jlc 53 1 52),(Jmc 54 4),(none, .indexA 55 1 (.t 54) (.k (N 1))),(Jlc 56 1 55),(none, .call .no (some 57) (.k (.fn WG [])) [(.t 50), (.t 53), (.t 56)]),(none, .nilchk 58 (.t 47)),(Jfa 59 0 58),(Jst 1 59 49),(none, .nilchk 60 (.t 48)),(Jfa 61 1 60),(Jst 1 61 57)]) (.seq (.reg [(Jbe 63 20 3),(Jmc 62 63)]) (.cond (.t 62) (.seq (.seq (.reg [(Jmc 64 13),(none, .call .any (some 65) (.t 64) [(.k (N 1))]),(Jmc 66 13),(none, .call .any (some 67) (.t 66) [(.k (N 2))]),(none, .call .no (some 68) (.k (.fn W8 [])) [(.t 65), (.t 67)]),(none, .un 69 .not (.t 68))]) (.cond (.t 69) (.seq (.reg [(none, .mv 12 .copy (.k (N 3)))])
 .ret)
 .skip)) (.reg [(Jlt 70 1 7),(Jlt 71 1 7),(Jmt 72 13),(none, .call .any (some 73) (.t 72) [(.k (N 1))]),(JlT 74 4 6),(Jmc 75 4),(none, .indexA 76 1 (.t 75) (.k (N 0))),(Jlt 77 1 76),(JlT 78 4 6),(Jmc 79 4),(none, .indexA 80 1 (.t 79) (.k (N 1))),(Jlt 81 1 80),(Jmc 82 4),(none, .indexA 83 1 (.t 82) (.k (N 2))),(Jlt 84 1 83),(none, .call .no (some 85) (.k (.fn YN [])) [(.t 78), (.t 81), (.t 84)]),(none, .call .no (some 86) (.k (.fn WG [])) [(.t 74), (.t 77), (.t 85)]),(none, .nilchk 87 (.t 70)),(Jfa 88 0 87),(Jst 1 88 73),(none, .nilchk 89 (.t 71)),(Jfa 90 1 89),(Jst 1 90 86)])) (.seq (.reg [(Jbe 92 20 4),(Jmc 91 92)]) (.cond (.t 91) (.reg [(Jlt 93 1 7),(Jlt 94 1 7),(none, .bslice 95 1 1 [(N 0)] [(0, 1, (.k (N 1)))]),(Jmc 96 13),(none, .call .any (some 97) (.t 96) [(.k (N 0))]),(Jmc 98 13),(none, .call .any (some 99) (.t 98) [(.k (N 1))]),(none, .bslice 100 1 3 [(.sl true true 1 []), (.sl true true 1 []), (.sl true true 1 [])] [(0, 1, (.t 95)), (1, 1, (.t 97)), (2, 1, (.t 99))]),(none, .call .no (some 101) (.k (.fn Q6 [])) [(.t 100)]),(JlT 102 4 6),(Jmc 103 4),(none, .indexA 104 1 (.t 103) (.k (N 0))),(Jlt 105 1 104),(Jmc 106 4),(none, .indexA 107 1 (.t 106) (.k (N 1))),(Jlt 108 1 107),(none, .call .no (some 109) (.k (.fn WG [])) [(.t 102), (.t 105), (.t 108)]),(none, .nilchk 110 (.t 93)),(Jfa 111 0 110),(Jst 1 111 101),(none, .nilchk 112 (.t 94)),(Jfa 113 1 112),(Jst 1 113 109)]) (.seq (.reg [(Jbe 115 20 5),(Jmc 114 115)]) (.cond (.t 114) (.seq (.seq (.reg [(JlT 116 4 6),(Jmt 117 5),(none, .indexA 118 1 (.t 117) (.k (N 1))),(Jlc 119 1 118),(Jfa 120 1 9),(Jlt 121 1 120),(none, .call .no (some 122) (.k (.fn WR [])) [(.t 116), (.t 119), (.t 121)]),(none, .un 123 .not (.t 122))]) (.cond (.t 123) (.seq (.reg [(none, .mv 12 .copy (.k (N 9)))])
 .ret)
 .skip)) (.reg [(Jlt 124 1 7),(Jlt 125 1 7),(Jmt 126 13),(none, .call .any (some 127) (.t 126) [(.k (N 1))]),(JlT 128 4 6),(JlT 129 4 6),(Jfa 130 1 9),(Jlt 131 1 130),(Jmc 132 4),(none, .indexA 133 1 (.t 132) (.k (N 0))),(Jlt 134 1 133),(none, .call .no (some 135) (.k (.fn WS [])) [(.t 129), (.t 131), (.t 134)]),(Jmc 136 4),(none, .indexA 137 1 (.t 136) (.k (N 1))),(Jlt 138 1 137),(none, .call .no (some 139) (.k (.fn WG [])) [(.t 128), (.t 135), (.t 138)]),(none, .nilchk 140 (.t 124)),(Jfa 141 0 140),(Jst 1 141 127),(none, .nilchk 142 (.t 125)),(Jfa 143 1 142),(Jst 1 143 139)])) (.seq (.reg [(Jbe 145 20 6),(Jmc 144 145)]) (.cond (.t 144) (.reg [(Jlt 146 1 7),(Jlt 147 1 7),(none, .bslice 148 1 1 [(N 0)] [(0, 1, (.k (N 2)))]),(Jmt 149 13),(none, .call .any (some 150) (.t 149) [(.k (N 0))]),(Jfa 151 2 9),(Jlt 152 1 151),(none, .bslice 153 1 3 [(.sl true true 1 []), (.sl true true 1 []), (.sl true true 1 [])] [(0, 1, (.t 148)), (1, 1, (.t 150)), (2, 1, (.t 152))]),(none, .call .no (some 154) (.k (.fn Q6 [])) [(.t 153)]),(Jmt 155 4),(none, .indexA 156 1 (.t 155) (.k (N 0))),(Jlt 157 1 156),(none, .nilchk 158 (.t 146)),(Jfa 159 0 158),(Jst 1 159 154),(none, .nilchk 160 (.t 147)),(Jfa 161 1 160),(Jst 1 161 157)]) (.seq (.reg [(Jbe 163 20 7),(Jmc 162 163)]) (.cond (.t 162) (.reg [(Jlt 164 1 7),(Jlt 165 1 7),(none, .bslice 166 1 1 [(N 0)] [(0, 1, (.k (N 2)))]),(Jfa 167 2 9),(Jlt 168 1 167),(Jmt 169 13),(none, .call .any (some 170) (.t 169) [(.k (N 0))]),(none, .bslice 171 1 3 [(.sl true true 1 []), (.sl true true 1 []), (.sl true true 1 [])] [(0, 1, (.t 166)), (1, 1, (.t 168)), (2, 1, (.t 170))]),(none, .call .no (some 172) (.k (.fn Q6 [])) [(.t 171)]),(Jmt 173 4),(none, .indexA 174 1 (.t 173) (.k (N 0))),(Jlt 175 1 174),(none, .nilchk 176 (.t 164)),(Jfa 177 0 176),(Jst 1 177 172),(none, .nilchk 178 (.t 165)),(Jfa 179 1 178),(Jst 1 179 175)]) (.seq (.reg [(Jbe 181 20 8),(Jmc 180 181)]) (.cond (.t 180) (.seq (.seq (.reg [(Jmc 182 13),(none, .call .any (some 183) (.t 182) [(.k (N 1))]),(Jmc 184 13),(none, .call .any (some 185) (.t 184) [(.k (N 2))]),(none, .call .no (some 186) (.k (.fn W8 [])) [(.t 183), (.t 185)]),(none, .un 187 .not (.t 186))]) (.cond (.t 187) (.seq (.reg [(none, .mv 12 .copy (.k (N 3)))])
 .ret)
 .skip)) (.seq (.seq (.reg [(JlT 188 4 6),(Jmc 189 5),(none, .indexA 190 1 (.t 189) (.k (N 1))),(Jlc 191 1 190),(Jfa 192 1 9),(Jlt 193 1 192),(none, .call .no (some 194) (.k (.fn WR [])) [(.t 188), (.t 191), (.t 193)]),(none, .un 195 .not (.t 194)),(Jmc 196 195),(some (196, false), .load 197 .take true 4 (.t 6)),(some (196, false), .mv 198 .copy (.t 5)),(some (196, false), .indexA 199 1 (.t 198) (.k (N 2))),(some (196, false), .load 200 .copy false 1 (.t 199)),(some (196, false), .fieldA 201 1 (.t 9)),(some (196, false), .load 202 .take false 1 (.t 201)),(some (196, false), .call .no (some 203) (.k (.fn WR [])) [(.t 197), (.t 200), (.t 202)]),(some (196, false), .un 204 .not (.t 203)),(none, .pick 205 (.t 196) (.k (.sc (.bool true))) (.t 204))]) (.cond (.t 205) (.seq (.reg [(none, .mv 12 .copy (.k (N 9)))])
 .ret)
 .skip)) (.reg [(Jlt 206 1 7),(Jlt 207 1 7),(Jmt 208 13),(none, .call .any (some 209) (.t 208) [(.k (N 1))]),(JlT 210 4 6),(JlT 211 4 6),(Jfa 212 1 9),(Jlt 213 1 212),(Jmc 214 4),(none, .indexA 215 1 (.t 214) (.k (N 0))),(Jlt 216 1 215),(none, .call .no (some 217) (.k (.fn WS [])) [(.t 211), (.t 213), (.t 216)]),(JlT 218 4 6),(Jmc 219 4),(none, .indexA 220 1 (.t 219) (.k (N 1))),(Jlt 221 1 220),(Jmc 222 4),(none, .indexA 223 1 (.t 222) (.k (N 2))),(Jlt 224 1 223),(none, .call .no (some 225) (.k (.fn YN [])) [(.t 218), (.t 221), (.t 224)]),(none, .call .no (some 226) (.k (.fn WG [])) [(.t 210), (.t 217), (.t 225)]),(none, .nilchk 227 (.t 206)),(Jfa 228 0 227),(Jst 1 228 209),(none, .nilchk 229 (.t 207)),(Jfa 230 1 229),(Jst 1 230 226)]))) (.seq (.reg [(Jbe 232 20 9),(Jmc 231 232)]) (.cond (.t 231) (.seq (.seq (.reg [(JlT 233 4 6),(Jmt 234 5),(none, .indexA 235 1 (.t 234) (.k (N 0))),(Jlc 236 1 235),(Jfa 237 1 9),(Jlt 238 1 237),(none, .call .no (some 239) (.k (.fn WR [])) [(.t 233), (.t 236), (.t 238)]),(none, .un 240 .not (.t 239))]) (.cond (.t 240) (.seq (.reg [(none, .mv 12 .copy (.k (N 9)))])
 .ret)
 .skip)) (.reg [(Jlt 241 1 7),(Jlt 242 1 7),(Jfa 243 1 9),(Jlt 244 1 243),(none, .bin 245 .num .add (.k (N 3)) (.t 244)),(none, .bslice 246 1 1 [(N 0)] [(0, 1, (.t 245))]),(Jfa 247 2 9),(Jlt 248 1 247),(Jmt 249 13),(none, .call .any (some 250) (.t 249) [(.k (N 0))]),(none, .bslice 251 1 3 [(.sl true true 1 []), (.sl true true 1 []), (.sl true true 1 [])] [(0, 1, (.t 246)), (1, 1, (.t 248)), (2, 1, (.t 250))]),(none, .call .no (some 252) (.k (.fn Q6 [])) [(.t 251)]),(Jmt 253 4),(none, .indexA 254 1 (.t 253) (.k (N 0))),(Jlt 255 1 254),(none, .nilchk 256 (.t 241)),(Jfa 257 0 256),(Jst 1 257 252),(none, .nilchk 258 (.t 242)),(Jfa 259 1 258),(Jst 1 259 255)])) (.seq (.reg [(Jbe 261 20 10),(Jmc 260 261)]) (.cond (.t 260) (.seq (.reg [(Jmc 263 13),(none, .call .any (some 264) (.t 263) [(.k (N 0))]),(none, .indexA 265 1 (.t 264) (.k (N 0))),(Jlc 266 1 265),(none, .call .no (some 267) (.k (.fn Yy [])) [(.t 266)]),(Jmt 262 267),(none, .extract 268 0 (.t 262)),(none, .extract 269 1 (.t 262)),(Jmc 14 268),(Jmc 15 269)]) (.reg [(Jlt 270 1 7),(Jlt 271 1 7),(Jmt 272 13),(none, .call .any (some 273) (.t 272) [(.k (N 0))]),(none, .call .no (some 274) (.k (.fn Z2 [])) [(.t 273)]),(none, .indexA 275 1 (.t 274) (.k (N 1))),(Jlt 276 1 275),(JlT 277 4 6),(Jmc 278 4),(none, .indexA 279 1 (.t 278) (.k (N 0))),(Jlt 280 1 279),(JlT 281 4 6),(Jmc 282 15),(Jmc 283 4),(none, .indexA 284 1 (.t 283) (.k (N 1))),(Jlt 285 1 284),(none, .call .no (some 286) (.k (.fn WS [])) [(.t 281), (.t 282), (.t 285)]),(none, .call .no (some 287) (.k (.fn WG [])) [(.t 277), (.t 280), (.t 286)]),(none, .nilchk 288 (.t 270)),(Jfa 289 0 288),(Jst 1 289 276),(none, .nilchk 290 (.t 271)),(Jfa 291 1 290),(Jst 1 291 287)])) (.seq (.reg [(Jbe 293 20 11),(Jmc 292 293)]) (.cond (.t 292) (.reg [(Jlt 294 1 7),(Jlt 295 1 7),(Jfa 296 1 9),(Jlt 297 1 296),(none, .bin 298 .num .add (.k (N 19)) (.t 297)),(none, .bslice 299 1 1 [(N 0)] [(0, 1, (.t 298))]),(Jmt 300 13),(none, .call .any (some 301) (.t 300) [(.k (N 0))]),(none, .bslice 302 1 2 [(.sl true true 1 []), (.sl true true 1 [])] [(0, 1, (.t 299)), (1, 1, (.t 301))]),(none, .call .no (some 303) (.k (.fn Q6 [])) [(.t 302)]),(JlT 304 4 6),(Jfa 305 1 9),(Jlt 306 1 305),(Jmt 307 4),(none, .indexA 308 1 (.t 307) (.k (N 0))),(Jlt 309 1 308),(none, .call .no (some 310) (.k (.fn WS [])) [(.t 304), (.t 306), (.t 309)]),(none, .nilchk 311 (.t 294)),(Jfa 312 0 311),(Jst 1 312 303),(none, .nilchk 313 (.t 295)),(Jfa 314 1 313),(Jst 1 314 310)]) (.seq (.reg [(Jbe 316 20 12),(Jmc 315 316)]) (.cond (.t 315) (.seq (.reg [(Jmc 318 13),(none, .call .any (some 319) (.t 318) [(.k (N 0))]),(none, .indexA 320 1 (.t 319) (.k (N 0))),(Jlc 321 1 320),(none, .call .no (some 322) (.k (.fn Yy [])) [(.t 321)]),(Jmt 317 322),(none, .extract 323 0 (.t 317)),(none, .extract 324 1 (.t 317)),(Jmc 16 323),(Jmc 17 324)]) (.seq (.seq (.reg [(JlT 325 4 6),(Jmt 326 5),(none, .indexA 327 1 (.t 326) (.k (N 1))),(Jlc 328 1 327),(Jfa 329 0 6),(JlT 330 4 329),(Jfa 331 1 9),(Jlt 332 1 331),(Jmc 333 17),(none, .call .no (some 334) (.k (.fn Qs [])) [(.t 330), (.t 332), (.t 333)]),(none, .call .no (some 335) (.k (.fn WR [])) [(.t 325), (.t 328), (.t 334)]),(none, .un 336 .not (.t 335))]) (.cond (.t 336) (.seq (.reg [(none, .mv 12 .copy (.k (N 9)))])
 .ret)
 .skip)) (.reg [(Jlt 337 1 7),(Jlt 338 1 7),(Jmt 339 13),(none, .call .any (some 340) (.t 339) [(.k (N 1))]),(JlT 341 4 6),(JlT 342 4 6),(Jfa 343 1 9),(Jlt 344 1 343),(Jmc 345 4),(none, .indexA 346 1 (.t 345) (.k (N 0))),(Jlt 347 1 346),(none, .call .no (some 348) (.k (.fn WS [])) [(.t 342), (.t 344), (.t 347)]),(Jmc 349 4),(none, .indexA 350 1 (.t 349) (.k (N 1))),(Jlt 351 1 350),(none, .call .no (some 352) (.k (.fn WG [])) [(.t 341), (.t 348), (.t 351)]),(none, .nilchk 353 (.t 337)),(Jfa 354 0 353),(Jst 1 354 340),(none, .nilchk 355 (.t 338)),(Jfa 356 1 355),(Jst 1 356 352)])))
 .skip)))))))))))))))))))))))))))) (.seq (.seq (.reg [(Jlt 357 1 7),(none, .nilchk 358 (.t 357)),(Jfa 359 0 358),(Jlc 360 1 359),(none, .call .no (some 361) (.k (.fn ZcJ [])) [(.t 360)])]) (.cond (.t 361) (.seq (.reg [(none, .mv 12 .copy (.k (N 3)))])
 .ret)
 .skip)) (.seq (.reg [(none, .mv 12 .copy (.k (N 0)))])
 .ret)))))
theorem ZcF:Qq Tryz.prog Zu ZcG=some (QQ,[.tmp 12],362):=by kernel_rfl
def Zx:List (Nat×List Md):=MM [(4,137),(5,17),(9,137),(10,2),(12,137),(13,1106),(15,18)]
def Xz : C := (.seq (.reg [(none, .mv 2 .copy (.k (.sl true true 1 [])))]) (.seq (.reg [(none, .mv 3 .copy (.k (N 0)))]) (.seq (.seq (.reg [(Jmc 9 0),(Jln 10 9),(none, .mv 11 .copy (.k (N 0)))]) (.block 0 (.loop (.seq (.reg [(Jbl 12 11 10)]) (.seq (.cond (.t 12)
 .skip (.exit 0)) (.seq (.block 1 (.seq (.reg [(Jia 13 1 9 11),(Jlc 14 1 13),(Jmt 5 14)]) (.seq (.reg [(Jmc 15 3),(Jmt 16 5),(Jln 17 16),(none, .bin 18 .num .add (.t 15) (.t 17)),(Jmc 3 18)]) (.seq (.reg [(Jmc 19 3),(none, .bin 20 .num .lss (.t 19) (.k (N 0)))]) (.cond (.t 20) (.reg [(none, .bad (some 21)),(none, .bad none)])
 .skip))))) (.reg [(Jba 22 11 1),(Jmc 11 22)]))))))) (.seq (.reg [(Jmc 23 3),(none, .call .no (some 24) (.k (.fn W1 [])) [(.k (.sl true true 1 [])), (.t 23)]),(Jmt 6 24)]) (.seq (.seq (.reg [(Jmt 25 0),(Jln 26 25),(none, .mv 27 .copy (.k (N 0)))]) (.block 2 (.loop (.seq (.reg [(Jbl 28 27 26)]) (.seq (.cond (.t 28)
 .skip (.exit 2)) (.seq (.block 3 (.seq (.reg [(Jia 29 1 25 27),(Jlc 30 1 29),(Jmt 8 30)]) (.reg [(Jmt 31 6),(Jmt 32 8),(none, .append 33 1 (.t 31) (.t 32)),(Jmt 6 33)]))) (.reg [(Jba 34 27 1),(Jmc 27 34)]))))))) (.seq (.reg [(Jmt 35 6),(Jmt 2 35)])
 .ret))))))
theorem Zv:Qq Tryz.prog WP Zx=some (Xz,[.tmp 2],36):=by kernel_rfl
def ZjP:List (Nat×List Md):=MM [(1,8785),(3,17),(5,17),(6,17),(8,17),(9,17),(11,17),(12,1178048434769),(14,17),(15,17),(16,70225),(1000001,12873)]
def Zei : C := (.seq (.reg [(none, .box 4 (.t 0)),(none, .mv 8 .copy (.k (.sc (.bool false))))]) (.seq (.seq (.seq (.frz 4) (.reg [(Jfa 9 3 4),(Jlt 10 1 9),(Jln 11 10),(Jfa 12 0 4),(Jlt 13 1 12),(none, .call .no (some 14) (.k (.fn ZaN [])) [(.t 13)]),(none, .bin 15 .num .neq (.t 11) (.t 14))])) (.cond (.t 15) (.seq (.reg [(none, .mv 8 .copy (.k (.sc (.bool false))))])
 .ret)
 .skip)) (.seq (.block 0 (.seq (.reg [(Jfa 20 0 4),(Jlt 21 1 20),(Jbe 22 21 0),(Jmc 19 22)]) (.cond (.t 19) (.seq (.reg [(Jfa 23 1 4),(Jlt 24 1 23),(Jmc 25 1),(none, .bin 26 .num .sub (.t 25) (.k (N 1))),(none, .call .no (some 27) (.k (.fn XP [])) [(.t 24), (.k (N 0)), (.t 26)]),(none, .un 28 .not (.t 27))]) (.cond (.t 28) (.seq (.reg [(none, .mv 8 .copy (.k (.sc (.bool false))))])
 .ret)
 .skip)) (.seq (.reg [(Jfa 30 0 4),(Jlt 31 1 30),(Jbe 32 31 1),(Jmc 29 32)]) (.cond (.t 29) (.seq (.reg [(Jfa 33 1 4),(Jlt 34 1 33),(none, .call .no (some 35) (.k (.fn XP [])) [(.t 34), (.k (N 0)), (.k (N 2))]),(none, .un 36 .not (.t 35))]) (.cond (.t 36) (.seq (.reg [(none, .mv 8 .copy (.k (.sc (.bool false))))])
 .ret)
 .skip)) (.seq (.reg [(Jfa 38 0 4),(Jlt 39 1 38),(none, .call .no (some 40) (.k (.fn VF [])) [(.t 39)]),(Jmc 37 40)]) (.cond (.t 37) (.seq (.reg [(Jfa 41 1 4),(Jlt 42 1 41),(Jmc 43 2),(none, .bin 44 .num .geq (.t 42) (.t 43)),(Jmc 45 44),(some (45, false), .fieldA 46 1 (.t 4)),(some (45, false), .load 47 .take false 1 (.t 46)),(some (45, false), .bin 48 .num .lss (.t 47) (.k (N (-1)))),(none, .pick 49 (.t 45) (.k (.sc (.bool true))) (.t 48)),(Jmc 50 49),(some (50, false), .mv 51 .copy (.t 3)),(some (50, false), .mv 52 .copy (.t 51)),(some (52, true), .fieldA 53 1 (.t 4)),(some (52, true), .load 54 .take false 1 (.t 53)),(some (52, true), .bin 55 .num .lss (.t 54) (.k (N 0))),(some (50, false), .pick 56 (.t 52) (.t 55) (.k (.sc (.bool false)))),(none, .pick 57 (.t 50) (.k (.sc (.bool true))) (.t 56))]) (.cond (.t 57) (.seq (.reg [(none, .mv 8 .copy (.k (.sc (.bool false))))])
 .ret)
 .skip)) (.seq (.reg [(Jfa 16 1 4),(Jlt 17 1 16),(none, .bin 18 .num .neq (.t 17) (.k (N 0)))]) (.cond (.t 18) (.seq (.reg [(none, .mv 8 .copy (.k (.sc (.bool false))))])
 .ret)
 .skip))))))))) (.seq (.seq (.reg [(Jfa 58 0 4),(Jlt 59 1 58),(none, .call .no (some 60) (.k (.fn V9 [])) [(.t 59)]),(none, .un 61 .not (.t 60))]) (.cond (.t 61) (.seq (.reg [(Jfa 62 2 4),(Jlt 63 1 62),(Jln 64 63),(Jbe 65 64 0),(Jmc 8 65)])
 .ret)
 .skip)) (.seq (.reg [(Jfa 66 2 4),(Jlt 67 1 66),(none, .call .no (some 68) (.k (.fn KO [])) [(.t 67)]),(Jmc 69 68),(some (69, true), .fieldA 70 2 (.t 4)),(some (69, true), .load 71 .take false 1 (.t 70)),(some (69, true), .mv 72 .copy (.t 2)),(some (69, true), .mv 73 .copy (.t 3)),(some (69, true), .call .no (some 74) (.k (.fn Jy [])) [(.t 71), (.t 72), (.t 73)]),(none, .pick 75 (.t 69) (.t 74) (.k (.sc (.bool false)))),(Jmc 8 75)])
 .ret)))))
theorem Zkr:Qq Tryz.prog ZaK ZjP=some (Zei,[.tmp 8],76):=by kernel_rfl
def Zky:List (Nat×List Md):=MM []
def Zed : C := (.seq (.reg [(none, .mv 4 .copy (.k (N 0)))]) (.seq (.block 0 (.seq (.reg [(Jmc 6 0),(Jbe 7 6 5),(Jmc 8 7),(some (8, true), .mv 9 .copy (.t 1)),(some (8, true), .bin 10 .num .eql (.t 9) (.k (N 1))),(none, .pick 11 (.t 8) (.t 10) (.k (.sc (.bool false)))),(Jmc 5 11)]) (.cond (.t 5) (.seq (.reg [(none, .mv 4 .copy (.k (N 2)))])
 .ret) (.seq (.reg [(Jmc 13 0),(Jbe 14 13 8),(Jmc 15 14),(some (15, true), .mv 16 .copy (.t 1)),(some (15, true), .bin 17 .num .gtr (.t 16) (.k (N 0))),(none, .pick 18 (.t 15) (.t 17) (.k (.sc (.bool false)))),(Jmc 19 18),(some (19, false), .mv 20 .copy (.t 0)),(some (19, false), .bin 21 .num .eql (.t 20) (.k (N 9))),(none, .pick 22 (.t 19) (.k (.sc (.bool true))) (.t 21)),(Jmc 23 22),(some (23, false), .mv 24 .copy (.t 0)),(some (23, false), .bin 25 .num .eql (.t 24) (.k (N 12))),(some (23, false), .mv 26 .copy (.t 25)),(some (26, true), .mv 27 .copy (.t 1)),(some (26, true), .bin 28 .num .eql (.t 27) (.k (N 1))),(some (23, false), .pick 29 (.t 26) (.t 28) (.k (.sc (.bool false)))),(none, .pick 30 (.t 23) (.k (.sc (.bool true))) (.t 29)),(Jmc 12 30)]) (.cond (.t 12) (.seq (.reg [(none, .mv 4 .copy (.k (N 1)))])
 .ret)
 .skip))))) (.seq (.reg [(none, .mv 4 .copy (.k (N 0)))])
 .ret)))
theorem ZkH:Qq Tryz.prog ZaZ Zky=some (Zed,[.tmp 4],31):=by kernel_rfl
def ZjT:List (Nat×List Md):=MM []
def Zey : C := (.seq (.reg [(none, .mv 2 .copy (.k (N 0)))]) (.seq (.block 0 (.seq (.reg [(Jmc 4 0),(Jbe 5 4 0),(Jmc 3 5)]) (.cond (.t 3) (.seq (.reg [(none, .mv 2 .copy (.k (N 0)))])
 .ret) (.seq (.reg [(Jmc 7 0),(Jbe 8 7 1),(Jmc 9 8),(some (9, false), .mv 10 .copy (.t 0)),(some (9, false), .bin 11 .num .eql (.t 10) (.k (N 2))),(none, .pick 12 (.t 9) (.k (.sc (.bool true))) (.t 11)),(Jmc 13 12),(some (13, false), .mv 14 .copy (.t 0)),(some (13, false), .call .no (some 15) (.k (.fn ZM [])) [(.t 14)]),(none, .pick 16 (.t 13) (.k (.sc (.bool true))) (.t 15)),(Jmc 6 16)]) (.cond (.t 6) (.seq (.reg [(none, .mv 2 .copy (.k (N 2)))])
 .ret) (.seq (.reg [(Jmc 18 0),(none, .call .no (some 19) (.k (.fn Vz [])) [(.t 18)]),(Jmc 17 19)]) (.cond (.t 17) (.seq (.reg [(none, .mv 2 .copy (.k (N 1)))])
 .ret)
 .skip))))))) (.seq (.reg [(none, .mv 2 .copy (.k (N (-1))))])
 .ret)))
theorem Zkn:Qq Tryz.prog KM ZjT=some (Zey,[.tmp 2],20):=by kernel_rfl
def ZkQ:List (Nat×List Md):=MM [(2,137),(4,70218),(6,137),(8,1178048434762),(1000001,1609)]
def Zee : C := (.seq (.reg [(none, .box 3 (.t 0)),(none, .mv 6 .copy (.k (N 0)))]) (.seq (.seq (.seq (.frz 3) (.reg [(none, .mv 7 .copy (.k (N 0)))])) (.block 0 (.loop (.seq (.seq (.reg [(Jmc 10 7),(Jfa 11 0 3),(Jlt 12 1 11),(Jbl 13 10 12)]) (.cond (.t 13)
 .skip (.exit 0))) (.seq (.block 1 (.seq (.reg [(JlT 16 4 3),(Jmc 17 1),(Jmc 18 7),(none, .call .no (some 19) (.k (.fn Wl [])) [(.t 16), (.t 17), (.t 18)]),(Jmc 20 19),(some (20, true), .load 21 .take true 4 (.t 3)),(some (20, true), .mv 22 .copy (.t 2)),(some (20, true), .mv 23 .copy (.t 7)),(some (20, true), .call .no (some 24) (.k (.fn Wl [])) [(.t 21), (.t 22), (.t 23)]),(none, .pick 25 (.t 20) (.t 24) (.k (.sc (.bool false)))),(Jmc 8 25)]) (.seq (.seq (.reg [(none, .mv 9 .copy (.k (N 0)))]) (.block 2 (.loop (.seq (.seq (.reg [(Jmc 26 9),(Jfa 27 0 3),(Jlt 28 1 27),(Jbl 29 26 28),(Jmc 30 29),(some (30, true), .mv 31 .copy (.t 8)),(none, .pick 32 (.t 30) (.t 31) (.k (.sc (.bool false))))]) (.cond (.t 32)
 .skip (.exit 2))) (.seq (.block 3 (.reg [(JlT 35 4 3),(Jmc 36 1),(Jmc 37 9),(none, .call .no (some 38) (.k (.fn Wl [])) [(.t 35), (.t 36), (.t 37)]),(none, .un 39 .not (.t 38)),(Jmc 40 39),(some (40, false), .load 41 .take true 4 (.t 3)),(some (40, false), .mv 42 .copy (.t 2)),(some (40, false), .mv 43 .copy (.t 9)),(some (40, false), .call .no (some 44) (.k (.fn Wl [])) [(.t 41), (.t 42), (.t 43)]),(some (40, false), .un 45 .not (.t 44)),(none, .pick 46 (.t 40) (.k (.sc (.bool true))) (.t 45)),(Jmc 47 46),(some (47, false), .load 48 .take true 4 (.t 3)),(some (47, false), .mv 49 .copy (.t 7)),(some (47, false), .mv 50 .copy (.t 9)),(some (47, false), .call .no (some 51) (.k (.fn Wl [])) [(.t 48), (.t 49), (.t 50)]),(none, .pick 52 (.t 47) (.k (.sc (.bool true))) (.t 51)),(Jmc 8 52)])) (.reg [(Jmc 33 9),(Jba 34 33 1),(Jmc 9 34)])))))) (.seq (.reg [(Jmc 53 8)]) (.cond (.t 53) (.seq (.reg [(Jmc 54 7),(Jmc 6 54)])
 .ret)
 .skip))))) (.reg [(Jmc 14 7),(Jba 15 14 1),(Jmc 7 15)])))))) (.seq (.reg [(none, .mv 6 .copy (.k (N (-1))))])
 .ret)))
theorem Zke:Qq Tryz.prog KK ZkQ=some (Zee,[.tmp 6],55):=by kernel_rfl
def ZkI:List (Nat×List Md):=MM []
def Zej : C := (.seq (.reg [(none, .alloc 2 [(.sc (.string ⟨#[]⟩)), (N 0), (.sc (.bool false)), (.sc (.bool false))]),(none, .mv 3 .copy (.k (.sc (.bool false))))]) (.seq (.seq (.reg [(Jmc 4 0),(none, .call .no (some 5) (.k (.fn W5 [])) [(.t 4), (.k (N 0)), (.k (N 12))]),(none, .un 6 .not (.t 5))]) (.cond (.t 6) (.seq (.reg [(none, .build 7 [(.sc (.string ⟨#[]⟩)), (N 0), (.sc (.bool false)), (.sc (.bool false))] []),(Jst 4 2 7),(none, .mv 3 .copy (.k (.sc (.bool false))))])
 .ret)
 .skip)) (.seq (.reg [(none, .build 8 [(.sc (.string ⟨#[]⟩)), (N 0), (.sc (.bool false)), (.sc (.bool false))] [(0, 1, (.k (.sc (.string ⟨#[120]⟩)))), (1, 1, (.k (N 0))), (2, 1, (.k (.sc (.bool false)))), (3, 1, (.k (.sc (.bool false))))]),(none, .build 9 [(.sc (.string ⟨#[]⟩)), (N 0), (.sc (.bool false)), (.sc (.bool false))] [(0, 1, (.k (.sc (.string ⟨#[]⟩)))), (1, 1, (.k (N 0))), (2, 1, (.k (.sc (.bool false)))), (3, 1, (.k (.sc (.bool false))))]),(none, .build 10 [(.sc (.string ⟨#[]⟩)), (N 0), (.sc (.bool false)), (.sc (.bool false))] [(0, 1, (.k (.sc (.string ⟨#[97, 100, 100]⟩)))), (1, 1, (.k (N 2))), (2, 1, (.k (.sc (.bool false)))), (3, 1, (.k (.sc (.bool false))))]),(none, .build 11 [(.sc (.string ⟨#[]⟩)), (N 0), (.sc (.bool false)), (.sc (.bool false))] [(0, 1, (.k (.sc (.string ⟨#[105, 102]⟩)))), (1, 1, (.k (N 3))), (2, 1, (.k (.sc (.bool false)))), (3, 1, (.k (.sc (.bool false))))]),(none, .build 12 [(.sc (.string ⟨#[]⟩)), (N 0), (.sc (.bool false)), (.sc (.bool false))] [(0, 1, (.k (.sc (.string ⟨#[112, 97, 105, 114]⟩)))), (1, 1, (.k (N 2))), (2, 1, (.k (.sc (.bool false)))), (3, 1, (.k (.sc (.bool false))))]),(none, .build 13 [(.sc (.string ⟨#[]⟩)), (N 0), (.sc (.bool false)), (.sc (.bool false))] [(0, 1, (.k (.sc (.string ⟨#[115, 112, 108, 105, 116]⟩)))), (1, 1, (.k (N 2))), (2, 1, (.k (.sc (.bool true)))), (3, 1, (.k (.sc (.bool false))))]),(none, .build 14 [(.sc (.string ⟨#[]⟩)), (N 0), (.sc (.bool false)), (.sc (.bool false))] [(0, 1, (.k (.sc (.string ⟨#[108, 101, 102, 116]⟩)))), (1, 1, (.k (N 1))), (2, 1, (.k (.sc (.bool false)))), (3, 1, (.k (.sc (.bool true))))]),(none, .build 15 [(.sc (.string ⟨#[]⟩)), (N 0), (.sc (.bool false)), (.sc (.bool false))] [(0, 1, (.k (.sc (.string ⟨#[114, 105, 103, 104, 116]⟩)))), (1, 1, (.k (N 1))), (2, 1, (.k (.sc (.bool false)))), (3, 1, (.k (.sc (.bool true))))]),(none, .build 16 [(.sc (.string ⟨#[]⟩)), (N 0), (.sc (.bool false)), (.sc (.bool false))] [(0, 1, (.k (.sc (.string ⟨#[99, 97, 115, 101]⟩)))), (1, 1, (.k (N 3))), (2, 1, (.k (.sc (.bool true)))), (3, 1, (.k (.sc (.bool false))))]),(none, .build 17 [(.sc (.string ⟨#[]⟩)), (N 0), (.sc (.bool false)), (.sc (.bool false))] [(0, 1, (.k (.sc (.string ⟨#[102, 117, 110]⟩)))), (1, 1, (.k (N 1))), (2, 1, (.k (.sc (.bool true)))), (3, 1, (.k (.sc (.bool true))))]),(none, .build 18 [(.sc (.string ⟨#[]⟩)), (N 0), (.sc (.bool false)), (.sc (.bool false))] [(0, 1, (.k (.sc (.string ⟨#[97, 112, 112]⟩)))), (1, 1, (.k (N 2))), (2, 1, (.k (.sc (.bool false)))), (3, 1, (.k (.sc (.bool false))))]),(none, .build 19 [(.sc (.string ⟨#[]⟩)), (N 0), (.sc (.bool false)), (.sc (.bool false))] [(0, 1, (.k (.sc (.string ⟨#[98, 111, 120]⟩)))), (1, 1, (.k (N 1))), (2, 1, (.k (.sc (.bool true)))), (3, 1, (.k (.sc (.bool false))))]),(none, .build 20 [(.sc (.string ⟨#[]⟩)), (N 0), (.sc (.bool false)), (.sc (.bool false))] [(0, 1, (.k (.sc (.string ⟨#[111, 112, 101, 110]⟩)))), (1, 1, (.k (N 2))), (2, 1, (.k (.sc (.bool true)))), (3, 1, (.k (.sc (.bool false))))]),(none, .bslice 21 4 13 [(.sc (.string ⟨#[]⟩)), (N 0), (.sc (.bool false)), (.sc (.bool false)), (.sc (.string ⟨#[]⟩)), (N 0), (.sc (.bool false)), (.sc (.bool false)), (.sc (.string ⟨#[]⟩)), (N 0), (.sc (.bool false)), (.sc (.bool false)), (.sc (.string ⟨#[]⟩)), (N 0), (.sc (.bool false)), (.sc (.bool false)), (.sc (.string ⟨#[]⟩)), (N 0), (.sc (.bool false)), (.sc (.bool false)), (.sc (.string ⟨#[]⟩)), (N 0), (.sc (.bool false)), (.sc (.bool false)), (.sc (.string ⟨#[]⟩)), (N 0), (.sc (.bool false)), (.sc (.bool false)), (.sc (.string ⟨#[]⟩)), (N 0), (.sc (.bool false)), (.sc (.bool false)), (.sc (.string ⟨#[]⟩)), (N 0), (.sc (.bool false)), (.sc (.bool false)), (.sc (.string ⟨#[]⟩)), (N 0), (.sc (.bool false)), (.sc (.bool false)), (.sc (.string ⟨#[]⟩)), (N 0), (.sc (.bool false)), (.sc (.bool false)), (.sc (.string ⟨#[]⟩)), (N 0), (.sc (.bool false)), (.sc (.bool false)), (.sc (.string ⟨#[]⟩)), (N 0), (.sc (.bool false)), (.sc (.bool false))] [(0, 4, (.t 8)), (4, 4, (.t 9)), (8, 4, (.t 10)), (12, 4, (.t 11)), (16, 4, (.t 12)), (20, 4, (.t 13)), (24, 4, (.t 14)), (28, 4, (.t 15)), (32, 4, (.t 16)), (36, 4, (.t 17)), (40, 4, (.t 18)), (44, 4, (.t 19)), (48, 4, (.t 20))]),(Jmc 22 0),(Jia 23 4 21 22),(JlC 24 4 23),(Jst 4 2 24),(none, .mv 3 .copy (.k (.sc (.bool true))))])
 .ret)))
theorem Zla:Qq Tryz.prog Za3 ZkI=some (Zej,[.cell 2 true 4,.tmp 3],25):=by kernel_rfl
def ZoU:List (Nat×List Md):=MM []
def Zg9 : C := (.seq (.reg [(none, .mv 4 .copy (.k (N 0)))]) (.seq (.block 0 (.seq (.reg [(Jmc 6 0),(Jbe 7 6 5),(Jmc 8 7),(some (8, true), .mv 9 .copy (.t 1)),(some (8, true), .bin 10 .num .eql (.t 9) (.k (N 1))),(none, .pick 11 (.t 8) (.t 10) (.k (.sc (.bool false)))),(Jmc 5 11)]) (.cond (.t 5) (.seq (.reg [(none, .mv 4 .copy (.k (N 2)))])
 .ret) (.seq (.seq (.reg [(Jmc 13 0),(Jbe 14 13 8),(Jmc 15 14),(some (15, true), .mv 16 .copy (.t 1)),(some (15, true), .bin 17 .num .gtr (.t 16) (.k (N 0))),(none, .pick 18 (.t 15) (.t 17) (.k (.sc (.bool false)))),(Jmc 12 18)]) (.cond (.t 12)
 .skip (.seq (.reg [(Jmc 19 0),(Jbe 20 19 9),(Jmc 12 20)]) (.cond (.t 12)
 .skip (.reg [(Jmc 21 0),(Jbe 22 21 12),(Jmc 23 22),(some (23, true), .mv 24 .copy (.t 1)),(some (23, true), .bin 25 .num .eql (.t 24) (.k (N 1))),(none, .pick 26 (.t 23) (.t 25) (.k (.sc (.bool false)))),(Jmc 12 26)]))))) (.cond (.t 12) (.seq (.reg [(none, .mv 4 .copy (.k (N 1)))])
 .ret)
 .skip))))) (.seq (.reg [(none, .mv 4 .copy (.k (N 0)))])
 .ret)))
theorem Zo1:Qq Tryz.prog Zat ZoU=some (Zg9,[.tmp 4],27):=by kernel_rfl
def Vj:List (Nat×List Md):=MM [(5,304648777),(6,18)]
def Zh : C := (.seq (.reg [(none, .mv 4 .copy (.k (.sl true true 1 [])))]) (.seq (.seq (.reg [(Jmc 5 1),(none, .bin 6 .num .lss (.t 5) (.k (N 0)))]) (.cond (.t 6) (.reg [(none, .bad (some 7)),(none, .bad none)])
 .skip)) (.seq (.seq (.reg [(Jmc 8 1),(Jmc 9 0),(none, .cap 10 (.t 9)),(Jmc 11 0),(Jln 12 11),(none, .bin 13 .num .sub (.t 10) (.t 12)),(none, .bin 14 .num .sub (.t 8) (.t 13)),(Jmc 1 14)]) (.seq (.reg [(Jmc 15 1),(none, .bin 16 .num .gtr (.t 15) (.k (N 0)))]) (.cond (.t 16) (.reg [(Jmc 17 0),(Jmc 18 0),(none, .cap 19 (.t 18)),(none, .slice 20 1 (.t 17) none (some (.t 19)) none),(Jmc 21 1),(none, .growz 22 1 (.t 20) (.t 21)),(Jmt 23 0),(Jln 24 23),(none, .cut0 25 1 (.t 22) (.t 24)),(Jmt 0 25)])
 .skip))) (.seq (.reg [(Jmt 26 0),(Jmt 4 26)])
 .ret))))
theorem Vo:Qq Tryz.prog XX Vj=some (Zh,[.tmp 4],27):=by kernel_rfl
def Zbg:List (Nat×List Md):=MM [(1,2300875337)]
def JP : C := (.seq (.reg [(none, .mv 3 .copy (.k (.sl true true 1 [])))]) (.seq (.reg [(Jlc 4 1 1),(none, .nilchk 5 (.t 4)),(Jfa 6 2 5),(Jlc 7 1 6),(Jmc 8 0),(Jia 9 1 7 8),(Jlc 10 1 9),(none, .nilchk 11 (.t 10)),(Jfa 12 0 11),(Jlc 13 1 12),(Jmt 3 13)])
 .ret))
theorem Zbu:Qq Tryz.prog XU Zbg=some (JP,[.tmp 3],14):=by kernel_rfl
def ZeM:List (Nat×List Md):=MM [(1,4530826),(1000001,1609)]
def VT : C := (.seq (.reg [(none, .box 3 (.t 0)),(none, .mv 6 .copy (.k (.sl true true 1 [])))]) (.seq (.seq (.frz 3) (.reg [(JlT 7 4 3),(Jfa 8 0 3),(JlT 9 4 8),(none, .mkfn 10 QC true [(.t 9)]),(Jmt 11 1),(Jmt 12 2),(none, .call .no (some 13) (.k (.fn YM [])) [(.t 7), (.t 10), (.t 11), (.t 12)]),(Jmt 6 13)]))
 .ret))
theorem ZeL:Qq Tryz.prog WG ZeM=some (VT,[.tmp 6],14):=by kernel_rfl
def ZdQ:List (Nat×List Md):=MM [(1,4530826),(1000001,1609)]
def Vu : C := (.seq (.reg [(none, .box 3 (.t 0)),(none, .mv 6 .copy (.k (.sl true true 1 [])))]) (.seq (.seq (.frz 3) (.reg [(JlT 7 4 3),(Jfa 8 0 3),(JlT 9 4 8),(none, .mkfn 10 W0 true [(.t 9)]),(Jmt 11 1),(Jmt 12 2),(none, .call .no (some 13) (.k (.fn YM [])) [(.t 7), (.t 10), (.t 11), (.t 12)]),(Jmt 6 13)]))
 .ret))
theorem ZdR:Qq Tryz.prog YN ZdQ=some (Vu,[.tmp 6],14):=by kernel_rfl
def Zah:List (Nat×List Md):=MM [(4,137),(5,17),(9,137),(10,2),(12,137),(13,1106),(15,18)]
def ZF : C := (.seq (.reg [(none, .mv 2 .copy (.k (.sl true true 1 [])))]) (.seq (.reg [(none, .mv 3 .copy (.k (N 0)))]) (.seq (.seq (.reg [(Jmc 9 0),(Jln 10 9),(none, .mv 11 .copy (.k (N 0)))]) (.block 0 (.loop (.seq (.reg [(Jbl 12 11 10)]) (.seq (.cond (.t 12)
 .skip (.exit 0)) (.seq (.block 1 (.seq (.reg [(Jia 13 1 9 11),(Jlc 14 1 13),(Jmt 5 14)]) (.seq (.reg [(Jmc 15 3),(Jmt 16 5),(Jln 17 16),(none, .bin 18 .num .add (.t 15) (.t 17)),(Jmc 3 18)]) (.seq (.reg [(Jmc 19 3),(none, .bin 20 .num .lss (.t 19) (.k (N 0)))]) (.cond (.t 20) (.reg [(none, .bad (some 21)),(none, .bad none)])
 .skip))))) (.reg [(Jba 22 11 1),(Jmc 11 22)]))))))) (.seq (.reg [(Jmc 23 3),(none, .call .no (some 24) (.k (.fn YH [])) [(.k (.sl true true 1 [])), (.t 23)]),(Jmt 6 24)]) (.seq (.seq (.reg [(Jmt 25 0),(Jln 26 25),(none, .mv 27 .copy (.k (N 0)))]) (.block 2 (.loop (.seq (.reg [(Jbl 28 27 26)]) (.seq (.cond (.t 28)
 .skip (.exit 2)) (.seq (.block 3 (.seq (.reg [(Jia 29 1 25 27),(Jlc 30 1 29),(Jmt 8 30)]) (.reg [(Jmt 31 6),(Jmt 32 8),(none, .append 33 1 (.t 31) (.t 32)),(Jmt 6 33)]))) (.reg [(Jba 34 27 1),(Jmc 27 34)]))))))) (.seq (.reg [(Jmt 35 6),(Jmt 2 35)])
 .ret))))))
theorem Zab:Qq Tryz.prog Q6 Zah=some (ZF,[.tmp 2],36):=by kernel_rfl
def ZcI:List (Nat×List Md):=MM [(1,2),(1000001,104009)]
def Kn : C := (.seq (.reg [(none, .box 3 (.t 0)),(none, .box 5 (.t 2)),(none, .mv 6 .copy (.k (.sc (.bool false))))]) (.seq (.seq (.frz 3) (.seq (.frz 5) (.reg [(Jmt 7 1),(none, .mkfn 8 Xl false [(.t 3), (.t 5)]),(none, .call .no (some 9) (.k (.fn Wr [])) [(.t 7), (.t 8)]),(none, .un 10 .not (.t 9)),(Jmc 6 10)])))
 .ret))
theorem Zcw:Qq Tryz.prog WR ZcI=some (Kn,[.tmp 6],11):=by kernel_rfl
def Zcx:List (Nat×List Md):=MM [(1,1097),(2,2),(5,1097),(7,26),(1000001,1609)]
def Ko : C := (.seq (.reg [(none, .box 3 (.t 0)),(none, .mv 6 .copy (.k (.sl true true 1 [])))]) (.seq (.seq (.frz 3) (.reg [(Jmc 10 2),(Jln 11 10),(none, .mkslice 12 1 [(N 0)] (.t 11)),(Jmt 7 12)])) (.seq (.seq (.reg [(Jmt 13 2),(Jln 14 13),(none, .mv 15 .copy (.k (N 0)))]) (.block 0 (.loop (.seq (.reg [(Jbl 16 15 14)]) (.seq (.cond (.t 16)
 .skip (.exit 0)) (.seq (.block 1 (.seq (.reg [(Jmc 17 15),(Jia 18 1 13 15),(Jlc 19 1 18),(Jmc 8 17),(Jmc 9 19)]) (.reg [(Jmc 20 7),(Jmc 21 8),(Jfa 22 0 3),(JlT 23 4 22),(Jmc 24 1),(Jmc 25 9),(none, .call .no (some 26) (.k (.fn Qs [])) [(.t 23), (.t 24), (.t 25)]),(Jia 27 1 20 21),(Jst 1 27 26)]))) (.reg [(Jba 28 15 1),(Jmc 15 28)]))))))) (.seq (.reg [(Jmt 29 7),(none, .mv 6 .frz (.t 29))])
 .ret))))
theorem ZcH:Qq Tryz.prog WS Zcx=some (Ko,[.tmp 6],30):=by kernel_rfl
def ZoB:List (Nat×List Md):=MM [(1,2)]
def ZgX : C := (.seq (.reg [(none, .mv 2 .copy (.k (.sc (.bool false))))]) (.seq (.reg [(Jmt 3 0),(Jln 4 3),(none, .bin 5 .num .gtr (.t 4) (.k (N 40))),(Jmc 2 5)])
 .ret))
theorem Zos:Qq Tryz.prog ZcJ ZoB=some (ZgX,[.tmp 2],6):=by kernel_rfl
def ZC:List (Nat×List Md):=MM [(5,304648777),(6,18)]
def XL : C := (.seq (.reg [(none, .mv 4 .copy (.k (.sl true true 1 [])))]) (.seq (.seq (.reg [(Jmc 5 1),(none, .bin 6 .num .lss (.t 5) (.k (N 0)))]) (.cond (.t 6) (.reg [(none, .bad (some 7)),(none, .bad none)])
 .skip)) (.seq (.seq (.reg [(Jmc 8 1),(Jmc 9 0),(none, .cap 10 (.t 9)),(Jmc 11 0),(Jln 12 11),(none, .bin 13 .num .sub (.t 10) (.t 12)),(none, .bin 14 .num .sub (.t 8) (.t 13)),(Jmc 1 14)]) (.seq (.reg [(Jmc 15 1),(none, .bin 16 .num .gtr (.t 15) (.k (N 0)))]) (.cond (.t 16) (.reg [(Jmc 17 0),(Jmc 18 0),(none, .cap 19 (.t 18)),(none, .slice 20 1 (.t 17) none (some (.t 19)) none),(Jmc 21 1),(none, .growz 22 1 (.t 20) (.t 21)),(Jmt 23 0),(Jln 24 23),(none, .cut0 25 1 (.t 22) (.t 24)),(Jmt 0 25)])
 .skip))) (.seq (.reg [(Jmt 26 0),(Jmt 4 26)])
 .ret))))
theorem ZH:Qq Tryz.prog W1 ZC=some (XL,[.tmp 4],27):=by kernel_rfl
def ZkS:List (Nat×List Md):=MM []
def Zes : C := (.seq (.reg [(none, .mv 2 .copy (.k (N 0)))]) (.seq (.seq (.reg [(Jmc 3 0),(none, .call .no (some 4) (.k (.fn XP [])) [(.t 3), (.k (N 0)), (.k (N 12))]),(none, .un 5 .not (.t 4))]) (.cond (.t 5) (.seq (.reg [(none, .mv 2 .copy (.k (N (-1))))])
 .ret)
 .skip)) (.seq (.reg [(none, .bslice 6 1 13 [(N 0), (N 0), (N 0), (N 0), (N 0), (N 0), (N 0), (N 0), (N 0), (N 0), (N 0), (N 0), (N 0)] [(0, 1, (.k (N 0))), (1, 1, (.k (N 0))), (2, 1, (.k (N 2))), (3, 1, (.k (N 3))), (4, 1, (.k (N 2))), (5, 1, (.k (N 2))), (6, 1, (.k (N 1))), (7, 1, (.k (N 1))), (8, 1, (.k (N 3))), (9, 1, (.k (N 1))), (10, 1, (.k (N 2))), (11, 1, (.k (N 1))), (12, 1, (.k (N 2)))]),(Jmc 7 0),(Jia 8 1 6 7),(Jlc 9 1 8),(Jmc 2 9)])
 .ret)))
theorem ZkB:Qq Tryz.prog ZaN ZkS=some (Zes,[.tmp 2],10):=by kernel_rfl
def Ziw:List (Nat×List Md):=MM []
def Zdr : C := (.seq (.reg [(none, .mv 2 .copy (.k (.sc (.bool false))))]) (.seq (.reg [(Jmc 3 0),(Jbe 4 3 6),(Jmc 5 4),(some (5, false), .mv 6 .copy (.t 0)),(some (5, false), .bin 7 .num .eql (.t 6) (.k (N 7))),(none, .pick 8 (.t 5) (.k (.sc (.bool true))) (.t 7)),(Jmc 9 8),(some (9, false), .mv 10 .copy (.t 0)),(some (9, false), .bin 11 .num .eql (.t 10) (.k (N 9))),(none, .pick 12 (.t 9) (.k (.sc (.bool true))) (.t 11)),(Jmc 2 12)])
 .ret))
theorem Zjo:Qq Tryz.prog V9 Ziw=some (Zdr,[.tmp 2],13):=by kernel_rfl
def ZdV:List (Nat×List Md):=MM [(1,1097),(7,26),(1000001,12873)]
def Vv : C := (.seq (.reg [(none, .box 4 (.t 0)),(none, .mv 8 .copy (.k (.sl true true 1 [])))]) (.seq (.seq (.frz 4) (.reg [(Jmc 11 2),(Jln 12 11),(none, .mkslice 13 1 [(N 0)] (.t 12)),(Jmt 9 13)])) (.seq (.seq (.reg [(Jmc 14 2),(Jln 15 14),(none, .mv 16 .copy (.k (N 0)))]) (.block 0 (.loop (.seq (.reg [(Jbl 17 16 15)]) (.seq (.cond (.t 17)
 .skip (.exit 0)) (.seq (.block 1 (.seq (.reg [(Jmc 18 16),(Jmc 10 18)]) (.reg [(Jmc 19 9),(Jmc 20 10),(Jmc 21 1),(Jmc 22 2),(Jmc 23 10),(Jia 24 1 22 23),(Jlc 25 1 24),(Jmc 26 3),(Jmc 27 10),(Jia 28 1 26 27),(Jlc 29 1 28),(none, .call .no (some 30) (.t 21) [(.t 25), (.t 29)]),(Jia 31 1 19 20),(Jst 1 31 30)]))) (.reg [(Jba 32 16 1),(Jmc 16 32)]))))))) (.seq (.reg [(Jmt 33 9),(none, .mv 8 .frz (.t 33))])
 .ret))))
theorem ZdT:Qq Tryz.prog YM ZdV=some (Vv,[.tmp 8],34):=by kernel_rfl
def ZaR:List (Nat×List Md):=MM [(5,304648777),(6,18)]
def Jp : C := (.seq (.reg [(none, .mv 4 .copy (.k (.sl true true 1 [])))]) (.seq (.seq (.reg [(Jmc 5 1),(none, .bin 6 .num .lss (.t 5) (.k (N 0)))]) (.cond (.t 6) (.reg [(none, .bad (some 7)),(none, .bad none)])
 .skip)) (.seq (.seq (.reg [(Jmc 8 1),(Jmc 9 0),(none, .cap 10 (.t 9)),(Jmc 11 0),(Jln 12 11),(none, .bin 13 .num .sub (.t 10) (.t 12)),(none, .bin 14 .num .sub (.t 8) (.t 13)),(Jmc 1 14)]) (.seq (.reg [(Jmc 15 1),(none, .bin 16 .num .gtr (.t 15) (.k (N 0)))]) (.cond (.t 16) (.reg [(Jmc 17 0),(Jmc 18 0),(none, .cap 19 (.t 18)),(none, .slice 20 1 (.t 17) none (some (.t 19)) none),(Jmc 21 1),(none, .growz 22 1 (.t 20) (.t 21)),(Jmt 23 0),(Jln 24 23),(none, .cut0 25 1 (.t 22) (.t 24)),(Jmt 0 25)])
 .skip))) (.seq (.reg [(Jmt 26 0),(Jmt 4 26)])
 .ret))))
theorem Za2:Qq Tryz.prog YH ZaR=some (Jp,[.tmp 4],27):=by kernel_rfl
def Zbo:List (Nat×List Md):=MM []
def JM : C := (.seq (.reg [(none, .mv 4 .copy (.k (.sc (.bool false))))]) (.seq (.reg [(Jfa 5 0 1),(JlC 6 4 5),(Jmc 7 0),(Jlc 8 1 2),(none, .call .no (some 9) (.k (.fn QA [])) [(.t 6), (.t 7), (.t 8)]),(none, .un 10 .not (.t 9)),(Jmc 4 10)])
 .ret))
theorem Za9:Qq Tryz.prog Xl Zbo=some (JM,[.tmp 4],11):=by kernel_rfl
set_option linter.unusedSimpArgs false
set_option linter.unusedVariables false
set_option maxRecDepth 20000
set_option maxHeartbeats 4000000
def I64 (n:Int):Prop:=-9223372036854775808≤n∧n≤9223372036854775807
def Wh (a lo hi:Int):Bool:=leB lo a && leB a hi
theorem Wv {a lo hi:Int}:Wh a lo hi=true ↔ lo≤a∧a≤hi:=by simp [Wh,leB]
theorem ZfB {a lo hi:Int}:Wh a lo hi=false ↔ ¬ (lo≤a∧a≤hi):=by rw [← Wv];simp
theorem ZbN {a b:Int}:ltB a b=!leB b a:=by
 cases h:leB b a<;>simp [Qf,Qd,Qi,Qh,Qc,Qb,Bool.not_true,Bool.not_false,Qi,Qh] at h ⊢<;>omega
abbrev OU (u nl:Bool) (l:List Int):LV:=.sl u nl 1 (l.map fun n=>[N n])
abbrev L (nl:Bool) (l:List Int):LV:=OU false nl l
abbrev OB (u nl:Bool) (l:List Bool):LV:=.sl u nl 1 (l.map fun b=>[B b])
abbrev LB (nl:Bool) (l:List Bool):LV:=OB false nl l
theorem Zdn {α:Type} (e:α→LV) (he:∀ a,share (e a)=e a) (l:List α) (u nl:Bool) (i:Int) (h0:0≤i) (h1:i < l.length):QS 1 (.sl u nl 1 (l.map fun a=>[e a])) i=some (.rp [e (l[i.toNat]'(by omega))]):=by
 simp only [QS]
 rw [if_pos ⟨trivial,h0,by simpa using h1⟩]
 have:(l.map fun a=>[e a]).getD i.toNat []=[e (l[i.toNat]'(by omega))]:=by
  simp [List.getD_eq_getElem?_getD,show i.toNat < l.length by omega]
 rw [this]
 simp [he]
theorem Xq (l:List Int) (u nl:Bool) (i:Int) (h0:0≤i) (h1:i < l.length):QS 1 (OU u nl l) i=some (.rp [N (l.getD i.toNat 0)]):=by
 have:=Zdn N (by simp) l u nl i h0 h1
 rw [this,List.getD_eq_getElem?_getD,List.getElem?_eq_getElem (show i.toNat < l.length by omega)]
 rfl
theorem Zmy (l:List Bool) (u nl:Bool) (i:Int) (h0:0≤i) (h1:i < l.length):QS 1 (OB u nl l) i=some (.rp [B (l.getD i.toNat false)]):=by
 have:=Zdn B (by simp) l u nl i h0 h1
 rw [this,List.getD_eq_getElem?_getD,List.getElem?_eq_getElem (show i.toNat < l.length by omega)]
 rfl
def Lok (l:List Int):Prop:=l.length≤1099511627776∧∀ n∈l,I64 n
theorem Lok.at {l:List Int} (h:Lok l) {i:Nat} (hi:i < l.length):I64 l[i]:=h.2 _ (List.getElem_mem _)
structure GSys where
 size:Int
 n1:Bool
 plus:List Int
 n2:Bool
 times:List Int
 n3:Bool
 below:List Bool
abbrev GSys.cells (s:GSys):List LV:=[N s.size,L s.n1 s.plus,L s.n2 s.times,LB s.n3 s.below]
abbrev GSys.lv (s:GSys):LV:=.agg s.cells
def GSys.wf (s:GSys):Prop:=I64 s.size∧s.plus.length≤1099511627776∧s.times.length≤1099511627776∧s.below.length≤1099511627776∧(∀ n∈s.plus,I64 n)∧∀ n∈s.times,I64 n
def GSys.pl (s:GSys) (a b:Int):Int:=s.plus.getD (a * s.size+b).toNat 0
def GSys.tm (s:GSys) (a b:Int):Int:=s.times.getD (a * s.size+b).toNat 0
def GSys.le (s:GSys) (a b:Int):Bool:=s.below.getD (a * s.size+b).toNat false
structure GSys.Tab (s:GSys):Prop where
 lo:2≤s.size
 hi:s.size≤16
 lp:(s.plus.length:Int)=s.size * s.size
 lt:(s.times.length:Int)=s.size * s.size
 lb:(s.below.length:Int)=s.size * s.size
 rp:∀ i,0≤s.plus.getD i 0∧s.plus.getD i 0 < s.size
 rt:∀ i,0≤s.times.getD i 0∧s.times.getD i 0 < s.size
def GSys.G (s:GSys) (a:Int):Prop:=0≤a∧a < s.size
theorem GSys.at {s:GSys} (t:s.Tab) {a b:Int} (ha:s.G a) (hb:s.G b):0≤a * s.size+b∧a * s.size+b < s.size * s.size∧0≤a * s.size∧a * s.size≤256:=by
 have h1:0≤a * s.size:=Int.mul_nonneg ha.1 (by have:=t.lo;omega)
 have h2:(a+1) * s.size≤s.size * s.size:=Int.mul_le_mul_of_nonneg_right (by have:=ha.2;omega) (by have:=t.lo;omega)
 have h3:(a+1) * s.size=a * s.size+s.size:=by rw [Int.add_mul];omega
 have h4:s.size * s.size≤16 * 16:=Int.mul_le_mul t.hi t.hi (by have:=t.lo;omega) (by omega)
 have:=hb.1;have:=hb.2
 refine ⟨by omega,by omega,h1,?_⟩
 omega
theorem GSys.Gpl {s:GSys} (t:s.Tab) (a b:Int):s.G (s.pl a b):=t.rp _
theorem GSys.Gtm {s:GSys} (t:s.Tab) (a b:Int):s.G (s.tm a b):=t.rt _
theorem GSys.Glt {s:GSys} {i:Nat} (h:ltB (i:Int) s.size=true):s.G i:=⟨by omega,by rw [Qf] at h;omega⟩
theorem GSys.G0 {s:GSys} (t:s.Tab):s.G 0:=⟨by omega,by have:=t.lo;omega⟩
theorem GSys.G1 {s:GSys} (t:s.Tab):s.G 1:=⟨by omega,by have:=t.lo;omega⟩
section
attribute [local simp low] Xm
attribute [local simp] ZeN ZeS ZeQ ZeK ZeE ZeU
section
variable {s:GSys} (t:s.Tab) {a b:Int} (ha:s.G a) (hb:s.G b)
include t ha hb
theorem Zdk:Qe Tryz.prog Wq [s.lv,N a,N b] (·=N (s.pl a b)):=by
 refine Qe.of_codeOf Zme Qz (by simp) ⟨_,rfl,by simp⟩ ?_
 obtain ⟨h1,h2,h3,h4⟩:=GSys.at t ha hb
 have:=t.lo;have:=t.hi;have:=ha.1;have:=ha.2;have:=hb.1;have:=hb.2
 simp (contextual:=true) (disch:=omega) [Zfx,Qu,Qo,Qg]
 have:=t.lp
 simp (contextual:=true) (disch:=omega) [Xq,GSys.pl]
theorem Kf:Qe Tryz.prog QU [s.lv,N a,N b] (·=N (s.tm a b)):=by
 refine Qe.of_codeOf Zmv Qz (by simp) ⟨_,rfl,by simp⟩ ?_
 obtain ⟨h1,h2,h3,h4⟩:=GSys.at t ha hb
 have:=t.lo;have:=t.hi;have:=ha.1;have:=ha.2;have:=hb.1;have:=hb.2
 simp (contextual:=true) (disch:=omega) [Zfb,Qu,Qo,Qg]
 have:=t.lt
 simp (contextual:=true) (disch:=omega) [Xq,GSys.tm]
theorem Zb:Qe Tryz.prog Wl [s.lv,N a,N b] (·=B (s.le a b)):=by
 refine Qe.of_codeOf ZnU Qz (by simp) ⟨_,rfl,by simp⟩ ?_
 obtain ⟨h1,h2,h3,h4⟩:=GSys.at t ha hb
 have:=t.lo;have:=t.hi;have:=ha.1;have:=ha.2;have:=hb.1;have:=hb.2
 simp (contextual:=true) (disch:=omega) [Zg5,Qu,Qo,Qg]
 have:=t.lb
 simp (contextual:=true) (disch:=omega) [Zmy,GSys.le]
theorem ZdB:Qe Tryz.prog QC [s.lv,N a,N b] (·=N (s.pl a b)):=by
 refine Qe.of_codeOf Zdw Qz (by simp) ⟨_,rfl,by simp⟩ ?_
 obtain ⟨h1,h2,h3,h4⟩:=GSys.at t ha hb
 have:=t.lo;have:=t.hi;have:=ha.1;have:=ha.2;have:=hb.1;have:=hb.2
 simp (contextual:=true) (disch:=omega) [K6,Qu,Qo,Qg]
 have:=t.lp
 simp (contextual:=true) (disch:=omega) [Xq,GSys.pl]
theorem Jr:Qe Tryz.prog Qs [s.lv,N a,N b] (·=N (s.tm a b)):=by
 refine Qe.of_codeOf Zcz Qz (by simp) ⟨_,rfl,by simp⟩ ?_
 obtain ⟨h1,h2,h3,h4⟩:=GSys.at t ha hb
 have:=t.lo;have:=t.hi;have:=ha.1;have:=ha.2;have:=hb.1;have:=hb.2
 simp (contextual:=true) (disch:=omega) [Kj,Qu,Qo,Qg]
 have:=t.lt
 simp (contextual:=true) (disch:=omega) [Xq,GSys.tm]
theorem KY:Qe Tryz.prog QA [s.lv,N a,N b] (·=B (s.le a b)):=by
 refine Qe.of_codeOf ZcE Qz (by simp) ⟨_,rfl,by simp⟩ ?_
 obtain ⟨h1,h2,h3,h4⟩:=GSys.at t ha hb
 have:=t.lo;have:=t.hi;have:=ha.1;have:=ha.2;have:=hb.1;have:=hb.2
 simp (contextual:=true) (disch:=omega) [Kk,Qu,Qo,Qg]
 have:=t.lb
 simp (contextual:=true) (disch:=omega) [Zmy,GSys.le]
end
theorem ZiU (a lo hi:Int):Qe Tryz.prog XP [N a,N lo,N hi] (·=B (Wh a lo hi)):=by
 refine Qe.of_codeOf Zoi Qz (by simp) ⟨_,rfl,by simp⟩ ?_
 simp (contextual:=true) (disch:=omega) [Zg8,Wh]
theorem JR (a lo hi:Int):Qe Tryz.prog W5 [N a,N lo,N hi] (·=B (Wh a lo hi)):=by
 refine Qe.of_codeOf Zlg Qz (by simp) ⟨_,rfl,by simp⟩ ?_
 simp (contextual:=true) (disch:=omega) [Zew,Wh]
theorem ZpW (s:GSys) (h:I64 s.size) (h2:-9223372036854775808 < s.size) (g:Int):Qe Tryz.prog Wx [s.lv,N g] (·=B (Wh g 0 (s.size - 1))):=by
 refine Qe.of_codeOf ZdS Qz (by simp) ⟨_,rfl,by simp⟩ ?_
 obtain ⟨h1,h2⟩:=h
 simp (contextual:=true) (disch:=omega) [Vw,Qu,Qo,Qg]
 refine Qa (JR _ _ _) (by simp) ?_
 simp (contextual:=true) (disch:=omega)
end
def Yk (p:Int→Bool):Nat→Nat→Int
 | _,0=>-1
 | g,n+1=>if p g=true then g else Yk p (g+1) n
def YW (p:Nat→Bool):Nat→Bool
 | 0=>true
 | n+1=>YW p n && p n
@[simp] theorem allN_zero (p:Nat→Bool):YW p 0=true:=rfl
theorem WA (p:Nat→Bool) (n:Nat):YW p (n+1)=(YW p n && p n):=rfl
theorem YV {p : Nat → Bool} : ∀ {n : Nat}, YW p n = true ↔ ∀ i, i < n → p i = true
  | 0 => by simp
  | n + 1 => by
    rw [WA, Bool.and_eq_true, YV]
    exact ⟨fun h i hi => by by_cases he : i = n; · exact he ▸ h.2
                            · exact h.1 i (by omega), fun h => ⟨fun i hi => h i (by omega), h n (by omega)⟩⟩
theorem Zi3 {p:Nat→Bool} {i n:Nat} (h:i≤n) (hf:YW p i=false):YW p n=false:=by
 cases hc:YW p n with
 | false=>rfl
 | true =>
  rw [YV] at hc
  rw [YV.2 fun j hj=>hc j (by omega)] at hf
  simp at hf
theorem XH {p:Nat→Bool} {i n:Nat} (h:i < n) (hf:p i=false):YW p n=false :=
 Zi3 (i:=i+1) h (by rw [WA,hf];simp)
def GSys.jn (s:GSys) (a b g h:Int):Bool:=!s.le a h || !s.le b h || s.le g h
def GSys.isJoin (s:GSys) (a b g:Int):Bool:=s.le a g && s.le b g && YW (fun h=>s.jn a b g h) s.size.toNat
def GSys.join (s:GSys) (a b:Int):Int:=Yk (s.isJoin a b) 0 s.size.toNat
def GSys.three (s:GSys) (a b c:Int):Bool :=
 eqB (s.pl (s.pl a b) c) (s.pl a (s.pl b c)) && eqB (s.tm (s.tm a b) c) (s.tm a (s.tm b c)) && eqB (s.tm a (s.pl b c)) (s.pl (s.tm a b) (s.tm a c)) && eqB (s.tm (s.pl a b) c) (s.pl (s.tm a c) (s.tm b c)) &&
  (!s.le a b || ((!s.le b c || s.le a c) && s.le (s.pl a c) (s.pl b c) && s.le (s.tm a c) (s.tm b c) && s.le (s.tm c a) (s.tm c b)))
section
variable {s:GSys} (t:s.Tab) {a b c:Int} (ha:s.G a) (hb:s.G b) (hc:s.G c)
include t ha hb hc
theorem Zo5:Qe Tryz.prog Zag [s.lv,N a,N b,N c] (·=B (s.three a b c)):=by
 refine Qe.of_codeOf ZjG Qz (by simp) ⟨_,rfl,by simp⟩ ?_
 simp (disch:=omega) [Zc5,Qu,Qo]
 repeat' (first
  | with_reducible refine Qa (Zdk t (by first | assumption | exact GSys.Gpl t _ _ | exact GSys.Gtm t _ _ | exact GSys.Glt (by assumption) | exact GSys.G0 t | exact GSys.G1 t) (by first | assumption | exact GSys.Gpl t _ _ | exact GSys.Gtm t _ _ | exact GSys.Glt (by assumption) | exact GSys.G0 t | exact GSys.G1 t)) (by simp) ?_
  | with_reducible refine Qa (Kf t (by first | assumption | exact GSys.Gpl t _ _ | exact GSys.Gtm t _ _ | exact GSys.Glt (by assumption) | exact GSys.G0 t | exact GSys.G1 t) (by first | assumption | exact GSys.Gpl t _ _ | exact GSys.Gtm t _ _ | exact GSys.Glt (by assumption) | exact GSys.G0 t | exact GSys.G1 t)) (by simp) ?_
  | with_reducible refine Qa (Zb t (by first | assumption | exact GSys.Gpl t _ _ | exact GSys.Gtm t _ _ | exact GSys.Glt (by assumption) | exact GSys.G0 t | exact GSys.G1 t) (by first | assumption | exact GSys.Gpl t _ _ | exact GSys.Gtm t _ _ | exact GSys.Glt (by assumption) | exact GSys.G0 t | exact GSys.G1 t)) (by simp) ?_
  | (with_reducible (first | refine Qm (fun hb_=>?_) (fun hb_=>?_) | refine Qn (fun hb_=>?_) (fun hb_=>?_))<;>simp (disch:=omega) [hb_])
  | simp (disch:=omega))
 all_goals simp_all [GSys.three]
theorem ZqP:Qe Tryz.prog Y8 [s.lv,N a,N b,N c] (·=B (s.three a b c)):=by
 refine Qe.of_codeOf Zb0 Qz (by simp) ⟨_,rfl,by simp⟩ ?_
 simp (disch:=omega) [J6,Qu,Qo]
 repeat' (first
  | with_reducible refine Qa (ZdB t (by first | assumption | exact GSys.Gpl t _ _ | exact GSys.Gtm t _ _ | exact GSys.Glt (by assumption) | exact GSys.G0 t | exact GSys.G1 t) (by first | assumption | exact GSys.Gpl t _ _ | exact GSys.Gtm t _ _ | exact GSys.Glt (by assumption) | exact GSys.G0 t | exact GSys.G1 t)) (by simp) ?_
  | with_reducible refine Qa (Jr t (by first | assumption | exact GSys.Gpl t _ _ | exact GSys.Gtm t _ _ | exact GSys.Glt (by assumption) | exact GSys.G0 t | exact GSys.G1 t) (by first | assumption | exact GSys.Gpl t _ _ | exact GSys.Gtm t _ _ | exact GSys.Glt (by assumption) | exact GSys.G0 t | exact GSys.G1 t)) (by simp) ?_
  | with_reducible refine Qa (KY t (by first | assumption | exact GSys.Gpl t _ _ | exact GSys.Gtm t _ _ | exact GSys.Glt (by assumption) | exact GSys.G0 t | exact GSys.G1 t) (by first | assumption | exact GSys.Gpl t _ _ | exact GSys.Gtm t _ _ | exact GSys.Glt (by assumption) | exact GSys.G0 t | exact GSys.G1 t)) (by simp) ?_
  | (with_reducible (first | refine Qm (fun hb_=>?_) (fun hb_=>?_) | refine Qn (fun hb_=>?_) (fun hb_=>?_))<;>simp (disch:=omega) [hb_])
  | simp (disch:=omega))
 all_goals simp_all [GSys.three]
end
end Go.Proofs.YtbmepminmpjlcaaGreat
