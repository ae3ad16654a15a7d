/- Part 4 of the proof of the row of the text YtbmepminmpjlcaaGreatZRowEvaluate: texts joined. No conditions. -/
import Derived.Test.YtbmepminmpjlcaaGreatProg
import Derived.KernelRfl
import Derived.Test.YtbmepminmpjlcaaGreatZcRowEvaluate
set_option linter.unusedSimpArgs false
set_option linter.unusedVariables false
set_option linter.unusedSectionVars false
namespace Go.Proofs.YtbmepminmpjlcaaGreat
open Go Go.TL
theorem Qx:Tryz.prog.follows .mixedOrders=true:=by kernel_rfl
abbrev Jkf:X:=.k (.sc (.bool false))
abbrev Jkt:X:=.k (.sc (.bool true))
abbrev Jk (v:Int):X:=.k (N v)
abbrev Je (n:Nat):LV:=.sl true true n []
abbrev Jm (d x:Nat):I:=.mv d .copy (.t x)
abbrev Jt (d x:Nat):I:=.mv d .take (.t x)
abbrev Jv (d:Nat) (x:X):I:=.mv d .copy x
abbrev Jn (d:Nat) (v:Int):I:=.mv d .copy (.k (N v))
abbrev Ja (d s x:Nat):I:=.load d .take true s (.t x)
abbrev Jb (d s x:Nat):I:=.load d .copy true s (.t x)
abbrev Jc (d s x:Nat):I:=.load d .take false s (.t x)
abbrev Jd (d s x:Nat):I:=.load d .copy false s (.t x)
abbrev Jh (d:Nat) (f:FuncId) (l:List X):I:=.call .no (some d) (.k (.fn f [])) l
abbrev Ji (d:Nat) (f:FuncId) (l:List X):I:=.call .any (some d) (.k (.fn f [])) l
abbrev Jl (d a b:Nat):I:=.pick d (.t a) (.t b) (.k (.sc (.bool false)))
abbrev Jo (d a b:Nat):I:=.pick d (.t a) (.k (.sc (.bool true))) (.t b)
abbrev Jp (d x:Nat):I:=.un d .not (.t x)
abbrev Jq (d:Nat) (o:BinOp) (x y:Nat):I:=.bin d .num o (.t x) (.t y)
abbrev Jr (d:Nat) (o:BinOp) (x:Nat) (v:Int):I:=.bin d .num o (.t x) (.k (N v))
abbrev Js (d s x y:Nat):I:=.indexA d s (.t x) (.t y)
abbrev Ju (d s x:Nat) (v:Int):I:=.indexA d s (.t x) (.k (N v))
abbrev Jw (d o x:Nat):I:=.fieldA d o (.t x)
abbrev Jx (d x:Nat):I:=.len d (.t x)
abbrev Jy (d o x:Nat):I:=.extract d o (.t x)
abbrev Jz (d x:Nat):I:=.box d (.t x)
abbrev JA (d x:Nat):I:=.nilchk d (.t x)
abbrev JB (d s x y:Nat):I:=.append d s (.t x) (.t y)
abbrev JC (s x y:Nat):I:=.store s (.t x) (.t y)
abbrev JD (d s x:Nat):I:=.load d .frz true s (.t x)
abbrev JE (d s x:Nat):I:=.load d .frz false s (.t x)
abbrev JM (d x:Nat):GI:=(none,.mv d .copy (.t x))
abbrev JT (d x:Nat):GI:=(none,.mv d .take (.t x))
abbrev JN (i:I):GI:=(none,i)
abbrev JO (n:Nat) (i:I):GI:=(some (n,false),i)
abbrev JP (n:Nat) (i:I):GI:=(some (n,true),i)
abbrev JQ (a b:C):C:=.seq a b
abbrev JR (l:List GI) (b:C):C:=.seq (.reg l) b
abbrev JS (l:List GI):C:=.reg l
abbrev JU (x:Nat) (a:C):C:=.cond (.t x) a .skip
abbrev JV (x:Nat) (b:C):C:=.cond (.t x) .skip b
abbrev JW (n:Nat) (a:C):C:=.block n (.loop a)
abbrev JX (n:Nat) (b:C):C:=.seq (.frz n) b
def MD:Nat->Nat->List Md
 | 0,_=>[]
 | f+1,n=>if n=0 then [] else (if n % 8=1 then .copy else if n % 8=2 then .take else if n % 8=3 then .frz else .own)::MD f (n / 8)
def MM (l:List (Nat×Nat)):List (Nat×List Md):=l.map fun x=>(x.1,MD 200 x.2)
def K8:FuncId:=4
def Zao:FuncId:=7
def Km:FuncId:=8
def YJ:FuncId:=10
def Yj:FuncId:=11
def Ym:FuncId:=13
def Zaw:FuncId:=15
def Z0:FuncId:=16
def Kz:FuncId:=17
def Ks:FuncId:=19
def Zbj:FuncId:=21
def Vd:FuncId:=22
def Kx:FuncId:=23
def Zj:FuncId:=24
def Yr:FuncId:=25
def ZE:FuncId:=26
def XQ:FuncId:=27
def Za8:FuncId:=28
def K0:FuncId:=29
def Vw:FuncId:=30
def Ze:FuncId:=31
def XE:FuncId:=32
def YH:FuncId:=33
def ZQ:FuncId:=38
def Zbw:FuncId:=39
def Zb2:FuncId:=40
def Kk:FuncId:=41
def VR:FuncId:=42
def ZS:FuncId:=43
def Zbt:FuncId:=44
def Zb0:FuncId:=45
def Kt:FuncId:=46
def Xz:FuncId:=47
def Zbe:FuncId:=49
def VI:FuncId:=50
def Ka:FuncId:=51
def VK:FuncId:=52
def Za6:FuncId:=53
def ZcN:FuncId:=54
def KT:FuncId:=55
def Yq:FuncId:=56
def VD:FuncId:=57
def XU:FuncId:=58
def W0:FuncId:=60
def ZaZ:FuncId:=67
def WZ:FuncId:=68
def JH:FuncId:=69
def Xd:FuncId:=70
def Yk:FuncId:=71
def QV:FuncId:=72
def Zbk:FuncId:=73
def WL:FuncId:=74
def ZK:FuncId:=75
def Wv:FuncId:=76
def X2:FuncId:=77
def Yg:FuncId:=78
def QJ:FuncId:=79
def Qs:FuncId:=80
def Zca:FuncId:=81
def VV:FuncId:=82
def XT:FuncId:=83
def YN:FuncId:=84
def WC:FuncId:=85
def Yb:FuncId:=86
def Zs:FuncId:=87
def WM:FuncId:=88
def Wz:FuncId:=90
def ZaI:FuncId:=91
def Zg:FuncId:=92
def ZJ:FuncId:=94
def VG:FuncId:=95
def ZO:FuncId:=96
def Kn:FuncId:=97
def YO:FuncId:=98
def WP:FuncId:=99
def JZ:FuncId:=100
def Y3:FuncId:=101
def XP:FuncId:=102
def Yd:FuncId:=103
def Wn:FuncId:=104
def YX:FuncId:=105
def JK:FuncId:=106
def Wu:FuncId:=107
def ZaL:FuncId:=108
def Yt:FuncId:=109
def Zar:FuncId:=110
def Vz:FuncId:=111
def Zax:FuncId:=112
def Zz:FuncId:=113
def Jg:FuncId:=114
def WD:FuncId:=115
def Xh:FuncId:=116
def QF:FuncId:=117
def JJ:FuncId:=118
def W5:FuncId:=119
def Zb1:FuncId:=120
def VT:FuncId:=121
def VW:FuncId:=122
def Xt:FuncId:=123
def Xl:FuncId:=124
def ZaJ:FuncId:=125
def Zat:FuncId:=126
def Zdd:FuncId:=127
def ZcL:FuncId:=128
def Zbo:FuncId:=129
def Kq:FuncId:=130
def ZH:FuncId:=131
def VU:FuncId:=132
def QD:FuncId:=133
def Xb:FuncId:=134
def Zt:FuncId:=135
def Yv:FuncId:=136
def ZaF:FuncId:=137
def YR:FuncId:=138
def Zc5:FuncId:=139
def XM:FuncId:=140
def Zw:FuncId:=141
def ZU:FuncId:=142
def W2:FuncId:=143
def ZbU:FuncId:=144
def ZbY:FuncId:=145
def VP:FuncId:=146
def VQ:FuncId:=147
def Zb4:FuncId:=148
def ZbL:FuncId:=149
def X6:FuncId:=150
def X5:FuncId:=151
def WO:FuncId:=152
def Y7:FuncId:=153
def Q6:FuncId:=154
def W3:FuncId:=155
def W6:FuncId:=156
def Zeh:FuncId:=157
def W9:FuncId:=158
def ZbW:FuncId:=159
def Zbr:FuncId:=160
def Y8:FuncId:=161
def YV:FuncId:=162
def Xo:FuncId:=163
def ZcP:List (Nat×List Md):=MM [(2,138),(5,137),(8,138),(11,137),(14,75395217269322),(15,18),(16,145),(17,18),(18,145),(19,18407039561),(20,4493961),(22,1105),(24,1097),(26,1105),(28,1097),(31,137),(32,138),(33,137),(34,138),(35,18407035465),(38,137),(39,137),(41,137),(44,137),(49,75395217531530),(50,4788873),(53,137),(56,138),(1000001,832073)]
def KQ:C:=JR [JN (Jz 4 0),JN (Jz 6 2),JN (Jv 8 Jkf)] (JQ (JX 4 (JX 6 (JS [JN (Jn 9 1048576)]))) (JR [JN (Ja 26 4 4),JM 27 9,JN (Ji 28 Zao [.t 26,.t 27]),JM 9 28] (JQ (JR [JM 29 9,JN (Jr 30 .lss 29 0)] (JU 30 (JR [JN (Jv 8 Jkt)] .ret))) (JR [JM 31 1,JM 32 9,JN (Ji 33 Zbj [.t 31,.t 32]),JM 9 33] (JQ (JR [JM 34 9,JN (Jr 35 .lss 34 0)] (JU 35 (JR [JN (Jv 8 Jkt)] .ret))) (JR [JN (Ja 36 4 6),JM 37 9,JN (Ji 38 Km [.t 36,.t 37]),JM 9 38] (JQ (JR [JM 39 9,JN (Jr 40 .lss 39 0)] (JU 40 (JR [JN (Jv 8 Jkt)] .ret))) (JR [JM 41 3,JM 42 9,JN (Ji 43 Vd [.t 41,.t 42]),JM 9 43] (JQ (JR [JM 44 9,JN (Jr 45 .lss 44 0)] (JU 45 (JR [JN (Jv 8 Jkt)] .ret))) (JR [JN (Ja 47 4 4),JN (Jh 48 YJ [.t 47]),JM 49 1,JN (Jh 50 Zj [.t 49]),JN (Ja 51 4 6),JN (Jh 52 Yj [.t 51]),JM 53 3,JN (Jh 54 Yr [.t 53]),JN (Jh 55 Kx [.t 48,.t 50,.t 52,.t 54]),JT 46 55,JN (Jy 56 0 46),JN (Jy 57 1 46),JN (Jy 58 2 46),JN (.alloc 10 [N 0,N 0,Je 1,Je 1]),JN (JC 4 10 56),JT 11 57,JM 12 58] (JR [JN (Ja 59 4 4),JN (Ji 60 YJ [.t 59]),JN (.alloc 13 [N 0,Je 1,Je 1,Je 1]),JN (JC 4 13 60)] (JR [JM 61 1,JN (Ji 62 Zj [.t 61]),JT 14 62] (JR [JN (Ja 63 4 6),JN (Ji 64 Yj [.t 63]),JN (.alloc 15 [N 0,N 0,Je 1,Je 1]),JN (JC 4 15 64)] (JR [JM 65 3,JN (Ji 66 Yr [.t 65]),JT 16 66] (JR [JN (Jb 68 4 13),JM 69 14,JN (Jb 70 4 15),JM 71 16,JN (Ji 72 ZE [.t 68,.t 69,.t 70,.t 71]),JT 67 72,JN (Jy 73 0 67),JN (Jy 74 1 67),JN (Jy 75 2 67),JN (.alloc 17 [N 0,N 0,Je 1,Je 1]),JN (JC 4 17 73),JT 18 74,JM 19 75] (JQ (JR [JN (Jb 76 4 17),JN (Jb 77 4 10),JN (Ji 78 Ym [.t 76,.t 77]),JN (Jp 79 78),JM 80 79,JO 80 (Jm 81 18),JO 80 (Jm 82 11),JO 80 (Ji 83 XQ [.t 81,.t 82]),JO 80 (Jp 84 83),JN (Jo 85 80 84),JM 86 85,JO 86 (Jm 87 19),JO 86 (Jm 88 12),JO 86 (.bin 89 .bool .neq (.t 87) (.t 88)),JN (Jo 90 86 89)] (JU 90 (JR [JN (Jv 8 Jkf)] .ret))) (JQ (JR [JN (Jb 91 4 13),JN (Ja 92 4 4),JN (Jh 93 YJ [.t 92]),JN (Ji 94 Zaw [.t 91,.t 93]),JN (Jp 95 94)] (JU 95 (JR [JN (Jv 8 Jkf)] .ret))) (JQ (JR [JM 96 14,JM 97 1,JN (Jh 98 Zj [.t 97]),JN (Ji 99 Za8 [.t 96,.t 98]),JN (Jp 100 99)] (JU 100 (JR [JN (Jv 8 Jkf)] .ret))) (JQ (JR [JN (Jb 101 4 15),JN (Ja 102 4 6),JN (Jh 103 Yj [.t 102]),JN (Ji 104 Ym [.t 101,.t 103]),JN (Jp 105 104)] (JU 105 (JR [JN (Jv 8 Jkf)] .ret))) (JQ (JR [JM 106 16,JM 107 3,JN (Jh 108 Yr [.t 107]),JN (Ji 109 K0 [.t 106,.t 108]),JN (Jp 110 109)] (JU 110 (JR [JN (Jv 8 Jkf)] .ret))) (JR [JN (Jn 20 1)] (JR [JN (Jb 111 4 13),JM 112 20,JN (Ji 113 Z0 [.t 111,.t 112]),JM 20 113] (JR [JT 114 14,JM 115 20,JN (Ji 116 Vw [.t 114,.t 115]),JM 20 116] (JR [JN (Jb 117 4 15),JM 118 20,JN (Ji 119 Kz [.t 117,.t 118]),JM 20 119] (JR [JT 120 16,JM 121 20,JN (Ji 122 Ze [.t 120,.t 121]),JM 20 122] (JQ (JR [JM 123 20,JN (Jr 124 .lss 123 0),JM 125 124,JO 125 (Jb 126 4 17),JO 125 (Jb 127 4 10),JO 125 (Ji 128 Ym [.t 126,.t 127]),JO 125 (Jp 129 128),JN (Jo 130 125 129),JM 131 130,JO 131 (Jm 132 18),JO 131 (Jm 133 11),JO 131 (Ji 134 XQ [.t 132,.t 133]),JO 131 (Jp 135 134),JN (Jo 136 131 135),JM 137 136,JO 137 (Jm 138 19),JO 137 (Jm 139 12),JO 137 (.bin 140 .bool .neq (.t 138) (.t 139)),JN (Jo 141 137 140)] (JU 141 (JR [JN (Jv 8 Jkf)] .ret))) (JR [JN (Jn 21 1)] (JR [JN (Jb 142 4 17),JM 143 21,JN (Ji 144 Kz [.t 142,.t 143]),JM 21 144] (JR [JM 145 18,JM 146 21,JN (Ji 147 XE [.t 145,.t 146]),JM 21 147] (JR [JN (Jn 22 1)] (JR [JN (Jb 148 4 17),JM 149 22,JN (Ji 150 Ks [.t 148,.t 149]),JM 22 150] (JQ (JR [JM 151 22,JN (Jr 152 .lss 151 0)] (JU 152 (JR [JN (Jv 8 Jkf)] .ret))) (JR [JM 153 18,JM 154 22,JN (Ji 155 YH [.t 153,.t 154]),JM 22 155] (JQ (JR [JM 156 22,JN (Jr 157 .lss 156 0)] (JU 157 (JR [JN (Jv 8 Jkf)] .ret))) (JQ (JR [JM 158 22,JM 159 21,JN (Jq 160 .neq 158 159)] (JU 160 (JR [JN (Jv 8 Jkf)] .ret))) (JR [JN (Ja 162 4 4),JN (Jh 163 YJ [.t 162]),JT 164 1,JN (Jh 165 Zj [.t 164]),JN (Ja 166 4 6),JN (Jh 167 Yj [.t 166]),JT 168 3,JN (Jh 169 Yr [.t 168]),JN (Jh 170 ZE [.t 163,.t 165,.t 167,.t 169]),JT 161 170,JN (Jy 171 0 161),JN (Jy 172 1 161),JN (Jy 173 2 161),JN (.alloc 23 [N 0,N 0,Je 1,Je 1]),JN (JC 4 23 171),JT 24 172,JM 25 173] (JQ (JR [JN (Jb 174 4 23),JN (Jb 175 4 10),JN (Ji 176 Ym [.t 174,.t 175]),JN (Jp 177 176),JM 178 177,JO 178 (Jt 179 24),JO 178 (Jt 180 11),JO 178 (Ji 181 XQ [.t 179,.t 180]),JO 178 (Jp 182 181),JN (Jo 183 178 182),JM 184 183,JO 184 (Jm 185 25),JO 184 (Jm 186 12),JO 184 (.bin 187 .bool .neq (.t 185) (.t 186)),JN (Jo 188 184 187)] (JU 188 (JR [JN (Jv 8 Jkf)] .ret))) (JR [JN (Jn 22 1)] (JR [JN (Jb 189 4 17),JM 190 22,JN (Ji 191 Ks [.t 189,.t 190]),JM 22 191] (JQ (JR [JM 192 22,JN (Jr 193 .lss 192 0)] (JU 193 (JR [JN (Jv 8 Jkf)] .ret))) (JR [JT 194 18,JM 195 22,JN (Ji 196 YH [.t 194,.t 195]),JM 22 196] (JQ (JR [JM 197 22,JN (Jr 198 .lss 197 0)] (JU 198 (JR [JN (Jv 8 Jkf)] .ret))) (JQ (JR [JM 199 22,JM 200 21,JN (Jq 201 .neq 199 200)] (JU 201 (JR [JN (Jv 8 Jkf)] .ret))) (JR [JN (Jv 8 Jkt)] .ret))))))))))))))))))))))))))))))))))))))))))))
theorem Zc7:Qq Tryz.prog K8 ZcP=some (KQ,[.tmp 8],202):=by kernel_rfl
def Zjk:List (Nat×List Md):=MM [(1,17),(4,17),(7,17),(1000001,201)]
def Zdl:C:=JR [JN (Jz 2 0),JN (Jn 4 0)] (JQ (JX 2 (JS [JN (Jw 5 1 2),JN (Jc 6 1 5),JM 7 1,JN (Jh 8 ZQ [.t 6,.t 7]),JM 1 8])) (JQ (JR [JM 9 1,JN (Jr 10 .lss 9 0)] (JU 10 (JR [JN (Jn 4 (-1))] .ret))) (JR [JN (Jw 11 2 2),JN (Jc 12 1 11),JM 13 1,JN (Jh 14 ZQ [.t 12,.t 13]),JM 1 14] (JQ (JR [JM 15 1,JN (Jr 16 .lss 15 0)] (JU 16 (JR [JN (Jn 4 (-1))] .ret))) (JR [JN (Jw 17 3 2),JN (Jc 18 1 17),JM 19 1,JN (Jh 20 Zbw [.t 18,.t 19]),JM 1 20] (JQ (JR [JM 21 1,JN (Jr 22 .lss 21 0)] (JU 22 (JR [JN (Jn 4 (-1))] .ret))) (JR [JM 23 1,JM 4 23] .ret)))))))
theorem ZiS:Qq Tryz.prog Zao Zjk=some (Zdl,[.tmp 4],24):=by kernel_rfl
def ZmC:List (Nat×List Md):=MM [(1,17),(4,17),(1000001,201)]
def Zfn:C:=JR [JN (Jz 2 0),JN (Jn 4 0)] (JQ (JX 2 (JS [JN (Jw 5 2 2),JN (Jc 6 1 5),JM 7 1,JN (Jh 8 ZQ [.t 6,.t 7]),JM 1 8])) (JQ (JR [JM 9 1,JN (Jr 10 .lss 9 0)] (JU 10 (JR [JN (Jn 4 (-1))] .ret))) (JR [JN (Jw 11 3 2),JN (Jc 12 1 11),JM 13 1,JN (Jh 14 Vd [.t 12,.t 13]),JM 1 14] (JQ (JR [JM 15 1,JN (Jr 16 .lss 15 0)] (JU 16 (JR [JN (Jn 4 (-1))] .ret))) (JR [JM 17 1,JM 4 17] .ret)))))
theorem ZlW:Qq Tryz.prog Km ZmC=some (Zfn,[.tmp 4],18):=by kernel_rfl
def Zjm:List (Nat×List Md):=MM [(2,17),(3,17),(4,17),(5,17),(6,3),(1000001,25)]
def Zdq:C:=JR [JN (Jz 1 0),JN (.alloc 2 [N 0,Je 1,Je 1,Je 1])] (JQ (JX 1 (JS [JN (.alloc 3 [N 0,Je 1,Je 1,Je 1])])) (JR [JN (Jw 4 0 1),JN (Jc 5 1 4),JN (Jw 6 0 3),JN (JC 1 6 5)] (JR [JN (Jw 7 1 1),JN (Jc 8 1 7),JN (Jh 9 ZS [.t 8]),JN (Jw 10 1 3),JN (JC 1 10 9)] (JR [JN (Jw 11 2 1),JN (Jc 12 1 11),JN (Jh 13 ZS [.t 12]),JN (Jw 14 2 3),JN (JC 1 14 13)] (JR [JN (Jw 15 3 1),JN (Jc 16 1 15),JN (Jh 17 Zbt [.t 16]),JN (Jw 18 3 3),JN (JC 1 18 17)] (JR [JN (JD 19 4 3),JN (JC 4 2 19)] .ret))))))
theorem Zjc:Qq Tryz.prog YJ Zjm=some (Zdq,[.cell 2 true 4],20):=by kernel_rfl
def ZlP:List (Nat×List Md):=MM [(2,17),(3,17),(4,17),(5,17),(6,3),(1000001,25)]
def Zfk:C:=JR [JN (Jz 1 0),JN (.alloc 2 [N 0,N 0,Je 1,Je 1])] (JQ (JX 1 (JS [JN (.alloc 3 [N 0,N 0,Je 1,Je 1])])) (JR [JN (Jw 4 0 1),JN (Jc 5 1 4),JN (Jw 6 0 3),JN (JC 1 6 5)] (JR [JN (Jw 7 1 1),JN (Jc 8 1 7),JN (Jw 9 1 3),JN (JC 1 9 8)] (JR [JN (Jw 10 2 1),JN (Jc 11 1 10),JN (Jh 12 ZS [.t 11]),JN (Jw 13 2 3),JN (JC 1 13 12)] (JR [JN (Jw 14 3 1),JN (Jc 15 1 14),JN (Jh 16 Yr [.t 15]),JN (Jw 17 3 3),JN (JC 1 17 16)] (JR [JN (JD 18 4 3),JN (JC 4 2 18)] .ret))))))
theorem Zl7:Qq Tryz.prog Yj ZlP=some (Zfk,[.cell 2 true 4],19):=by kernel_rfl
def Zmz:List (Nat×List Md):=MM [(1,1105),(3,1105),(5,1105),(7,1105),(1000001,1737)]
def ZfI:C:=JR [JN (Jz 2 0),JN (Jz 3 1),JN (Jv 4 Jkf)] (JQ (JQ (JX 2 (JX 3 (JS [JN (Jw 5 0 2),JN (Jc 6 1 5),JN (Jw 7 0 3),JN (Jc 8 1 7),JN (Jq 9 .neq 6 8)]))) (JU 9 (JR [JN (Jv 4 Jkf)] .ret))) (JQ (JR [JN (Jw 10 1 2),JN (Jc 11 1 10),JN (Jw 12 1 3),JN (Jc 13 1 12),JN (Jq 14 .neq 11 13)] (JU 14 (JR [JN (Jv 4 Jkf)] .ret))) (JQ (JR [JN (Jw 15 2 2),JN (Jc 16 1 15),JN (Jw 17 2 3),JN (Jc 18 1 17),JN (Jh 19 XQ [.t 16,.t 18]),JN (Jp 20 19)] (JU 20 (JR [JN (Jv 4 Jkf)] .ret))) (JQ (JR [JN (Jw 21 3 2),JN (Jc 22 1 21),JN (Jw 23 3 3),JN (Jc 24 1 23),JN (Jh 25 K0 [.t 22,.t 24]),JN (Jp 26 25)] (JU 26 (JR [JN (Jv 4 Jkf)] .ret))) (JR [JN (Jv 4 Jkt)] .ret)))))
theorem ZlG:Qq Tryz.prog Ym Zmz=some (ZfI,[.tmp 4],27):=by kernel_rfl
def Zjo:List (Nat×List Md):=MM [(1,1105),(3,1105),(5,1105),(7,1105),(1000001,1737)]
def Zdx:C:=JR [JN (Jz 2 0),JN (Jz 3 1),JN (Jv 4 Jkf)] (JQ (JQ (JX 2 (JX 3 (JS [JN (Jw 5 0 2),JN (Jc 6 1 5),JN (Jw 7 0 3),JN (Jc 8 1 7),JN (Jq 9 .neq 6 8)]))) (JU 9 (JR [JN (Jv 4 Jkf)] .ret))) (JQ (JR [JN (Jw 10 1 2),JN (Jc 11 1 10),JN (Jw 12 1 3),JN (Jc 13 1 12),JN (Jh 14 XQ [.t 11,.t 13]),JN (Jp 15 14)] (JU 15 (JR [JN (Jv 4 Jkf)] .ret))) (JQ (JR [JN (Jw 16 2 2),JN (Jc 17 1 16),JN (Jw 18 2 3),JN (Jc 19 1 18),JN (Jh 20 XQ [.t 17,.t 19]),JN (Jp 21 20)] (JU 21 (JR [JN (Jv 4 Jkf)] .ret))) (JQ (JR [JN (Jw 22 3 2),JN (Jc 23 1 22),JN (Jw 24 3 3),JN (Jc 25 1 24),JN (Jh 26 Zbe [.t 23,.t 25]),JN (Jp 27 26)] (JU 27 (JR [JN (Jv 4 Jkf)] .ret))) (JR [JN (Jv 4 Jkt)] .ret)))))
theorem Zi5:Qq Tryz.prog Zaw Zjo=some (Zdx,[.tmp 4],28):=by kernel_rfl
def ZgL:List (Nat×List Md):=MM [(1,1105),(2,1105),(3,1105),(1000001,201)]
def ZbD:C:=JR [JN (Jz 2 0),JN (Jn 4 0)] (JQ (JX 2 (JS [JN (Jw 5 1 2),JN (Jc 6 1 5),JM 7 1,JN (Ji 8 XE [.t 6,.t 7]),JM 1 8])) (JR [JN (Jw 9 2 2),JN (Jc 10 1 9),JM 11 1,JN (Ji 12 XE [.t 10,.t 11]),JM 1 12] (JR [JN (Jw 13 3 2),JN (Jc 14 1 13),JM 15 1,JN (Ji 16 VI [.t 14,.t 15]),JM 1 16] (JR [JM 17 1,JM 4 17] .ret))))
theorem Zg7:Qq Tryz.prog Z0 ZgL=some (ZbD,[.tmp 4],18):=by kernel_rfl
def Zjb:List (Nat×List Md):=MM [(1,1105),(2,1105),(1000001,201)]
def ZdF:C:=JR [JN (Jz 2 0),JN (Jn 4 0)] (JQ (JX 2 (JS [JN (Jw 5 2 2),JN (Jc 6 1 5),JM 7 1,JN (Ji 8 XE [.t 6,.t 7]),JM 1 8])) (JR [JN (Jw 9 3 2),JN (Jc 10 1 9),JM 11 1,JN (Ji 12 Ze [.t 10,.t 11]),JM 1 12] (JR [JM 13 1,JM 4 13] .ret)))
theorem Zi8:Qq Tryz.prog Kz Zjb=some (ZdF,[.tmp 4],14):=by kernel_rfl
def Zi6:List (Nat×List Md):=MM [(1,17),(4,17),(1000001,201)]
def Zdu:C:=JR [JN (Jz 2 0),JN (Jn 4 0)] (JQ (JX 2 (JS [JN (Jw 5 2 2),JN (Jc 6 1 5),JM 7 1,JN (Jh 8 YH [.t 6,.t 7]),JM 1 8])) (JQ (JR [JM 9 1,JN (Jr 10 .lss 9 0)] (JU 10 (JR [JN (Jn 4 (-1))] .ret))) (JR [JN (Jw 11 3 2),JN (Jc 12 1 11),JM 13 1,JN (Jh 14 Ka [.t 12,.t 13]),JM 1 14] (JQ (JR [JM 15 1,JN (Jr 16 .lss 15 0)] (JU 16 (JR [JN (Jn 4 (-1))] .ret))) (JR [JM 17 1,JM 4 17] .ret)))))
theorem Zji:Qq Tryz.prog Ks Zi6=some (Zdu,[.tmp 4],18):=by kernel_rfl
def ZjM:List (Nat×List Md):=MM []
def ZeS:C:=JR [JN (Jn 4 0)] (JR [JM 6 1,JM 7 0,JN (Jx 8 7),JN (Jq 9 .sub 6 8),JM 1 9] (JQ (JR [JM 10 1,JN (Jr 11 .lss 10 0)] (JU 11 (JR [JN (Jn 4 (-1))] .ret))) (JQ (JR [JN (Jn 5 0)] (JW 0 (JQ (JR [JM 12 5,JM 13 0,JN (Jx 14 13),JN (Jq 15 .lss 12 14)] (JV 15 (.exit 0))) (JQ (.block 1 (JR [JM 18 0,JM 19 5,JN (Js 20 1 18 19),JN (Jd 21 1 20),JM 22 1,JN (Jh 23 ZQ [.t 21,.t 22]),JM 1 23] (JR [JM 24 1,JN (Jr 25 .lss 24 0)] (JU 25 (JR [JN (Jn 4 (-1))] .ret))))) (JS [JM 16 5,JN (Jr 17 .add 16 1),JM 5 17]))))) (JR [JM 26 1,JM 4 26] .ret))))
theorem ZjK:Qq Tryz.prog Zbj ZjM=some (ZeS,[.tmp 4],27):=by kernel_rfl
def ZkC:List (Nat×List Md):=MM []
def Zeu:C:=JR [JN (Jn 4 0)] (JR [JM 6 1,JM 7 0,JN (Jx 8 7),JN (Jq 9 .sub 6 8),JM 1 9] (JQ (JR [JM 10 1,JN (Jr 11 .lss 10 0)] (JU 11 (JR [JN (Jn 4 (-1))] .ret))) (JQ (JR [JN (Jn 5 0)] (JW 0 (JQ (JR [JM 12 5,JM 13 0,JN (Jx 14 13),JN (Jq 15 .lss 12 14)] (JV 15 (.exit 0))) (JQ (.block 1 (JR [JM 18 0,JM 19 5,JN (Js 20 4 18 19),JN (Jb 21 4 20),JM 22 1,JN (Jh 23 Km [.t 21,.t 22]),JM 1 23] (JR [JM 24 1,JN (Jr 25 .lss 24 0)] (JU 25 (JR [JN (Jn 4 (-1))] .ret))))) (JS [JM 16 5,JN (Jr 17 .add 16 1),JM 5 17]))))) (JR [JM 26 1,JM 4 26] .ret))))
theorem Zka:Qq Tryz.prog Vd ZkC=some (Zeu,[.tmp 4],27):=by kernel_rfl
def ZiV:List (Nat×List Md):=MM [(1,304390794),(2,1097),(7,2),(9,35951250),(1000001,832073)]
def Zdw:C:=JR [JN (Jz 4 0),JN (Jz 6 2),JN (.alloc 8 [N 0,N 0,Je 1,Je 1]),JN (Jv 9 (.k (Je 1))),JN (Jv 10 Jkf)] (JQ (JX 4 (JX 6 (JS [JN (Ja 16 4 4),JM 17 1,JN (Ja 18 4 6),JN (Jh 19 Zb2 [.t 16,.t 17,.t 18]),JT 15 19,JN (Jy 20 0 15),JN (Jy 21 1 15),JN (Jy 22 2 15),JT 11 20,JT 12 21,JM 13 22]))) (JQ (JR [JM 23 13,JN (Jp 24 23),JM 25 24,JO 25 (Jt 26 11),JO 25 (Jh 27 Kk [.t 26]),JO 25 (Jp 28 27),JN (Jo 29 25 28),JM 30 29,JO 30 (Jm 31 1),JO 30 (Jh 32 VK [.t 31]),JO 30 (Jp 33 32),JN (Jo 34 30 33),JM 35 34,JO 35 (Jm 36 3),JO 35 (Jx 37 36),JO 35 (Jm 38 1),JO 35 (Jx 39 38),JO 35 (Jq 40 .neq 37 39),JN (Jo 41 35 40)] (JU 41 (JR [JN (.build 42 [N 0,N 0,Je 1,Je 1] []),JN (JC 4 8 42),JN (Jv 9 (.k (Je 1))),JN (Jv 10 Jkf)] .ret))) (JQ (JR [JN (Jn 14 0)] (JW 0 (JQ (JR [JM 43 14,JM 44 3,JN (Jx 45 44),JN (Jq 46 .lss 43 45)] (JV 46 (.exit 0))) (JQ (.block 1 (JR [JN (Ja 49 4 4),JM 50 1,JM 51 14,JN (Js 52 1 50 51),JN (Jd 53 1 52),JM 54 3,JM 55 14,JN (Js 56 4 54 55),JN (Jb 57 4 56),JN (Jh 58 Za6 [.t 49,.t 53,.t 57]),JN (Jp 59 58)] (JU 59 (JR [JN (.build 60 [N 0,N 0,Je 1,Je 1] []),JN (JC 4 8 60),JN (Jv 9 (.k (Je 1))),JN (Jv 10 Jkf)] .ret)))) (JS [JM 47 14,JN (Jr 48 .add 47 1),JM 14 48]))))) (JR [JN (Ja 61 4 4),JN (Ja 62 4 6),JT 63 3,JN (Jh 64 ZcN [.t 61,.t 62,.t 63]),JN (Jy 65 0 64),JN (Jy 66 1 64),JN (Jy 67 2 64),JN (JC 4 8 65),JT 9 66,JM 10 67] .ret))))
theorem ZiT:Qq Tryz.prog Kx ZiV=some (Zdw,[.cell 8 true 4,.tmp 9,.tmp 10],68):=by kernel_rfl
def ZjX:List (Nat×List Md):=MM [(1,1097),(6,26)]
def ZeF:C:=JR [JN (Jv 2 (.k (Je 1)))] (JR [JM 5 0,JN (Jx 6 5),JN (.mkslice 7 1 [Je 1] (.t 6)),JT 3 7] (JQ (JR [JN (Jn 4 0)] (JW 0 (JQ (JR [JM 8 4,JM 9 0,JN (Jx 10 9),JN (Jq 11 .lss 8 10)] (JV 11 (.exit 0))) (JQ (.block 1 (JS [JM 14 3,JM 15 4,JM 16 0,JM 17 4,JN (Js 18 1 16 17),JN (Jd 19 1 18),JN (Jh 20 ZS [.t 19]),JN (Js 21 1 14 15),JN (JC 1 21 20)])) (JS [JM 12 4,JN (Jr 13 .add 12 1),JM 4 13]))))) (JR [JT 22 3,JN (.mv 2 .frz (.t 22))] .ret)))
theorem ZkK:Qq Tryz.prog Zj ZjX=some (ZeF,[.tmp 2],23):=by kernel_rfl
def ZkA:List (Nat×List Md):=MM [(1,1097),(6,26)]
def Zec:C:=JR [JN (Jv 2 (.k (Je 4)))] (JR [JM 5 0,JN (Jx 6 5),JN (.mkslice 7 4 [N 0,N 0,Je 1,Je 1] (.t 6)),JT 3 7] (JQ (JR [JN (Jn 4 0)] (JW 0 (JQ (JR [JM 8 4,JM 9 0,JN (Jx 10 9),JN (Jq 11 .lss 8 10)] (JV 11 (.exit 0))) (JQ (.block 1 (JS [JM 14 3,JM 15 4,JM 16 0,JM 17 4,JN (Js 18 4 16 17),JN (Jb 19 4 18),JN (Jh 20 Yj [.t 19]),JN (Js 21 4 14 15),JN (JC 4 21 20)])) (JS [JM 12 4,JN (Jr 13 .add 12 1),JM 4 13]))))) (JR [JT 22 3,JN (.mv 2 .frz (.t 22))] .ret)))
theorem Zkl:Qq Tryz.prog Yr ZkA=some (Zec,[.tmp 2],23):=by kernel_rfl
def Zi7:List (Nat×List Md):=MM [(1,4498058),(10,35951250),(1000001,832073)]
def Zdy:C:=JR [JN (Jz 4 0),JN (Jz 6 2),JN (.alloc 8 [N 0,N 0,Je 1,Je 1]),JN (Jv 9 (.k (Je 1))),JN (Jv 10 Jkf)] (JQ (JQ (JX 4 (JX 6 (JS [JN (Ja 16 4 4),JM 17 1,JN (Ja 18 4 6),JN (Jh 19 KT [.t 16,.t 17,.t 18]),JT 15 19,JN (Jy 20 0 15),JN (Jy 21 1 15),JT 11 20,JM 12 21]))) (JR [JM 22 12,JN (Jp 23 22),JM 24 23,JO 24 (Jm 25 3),JO 24 (Jx 26 25),JO 24 (Jm 27 1),JO 24 (Jx 28 27),JO 24 (Jq 29 .neq 26 28),JN (Jo 30 24 29)] (JU 30 (JR [JN (.build 31 [N 0,N 0,Je 1,Je 1] []),JN (JC 4 8 31),JN (Jv 9 (.k (Je 1))),JN (Jv 10 Jkf)] .ret)))) (JQ (JR [JM 32 3,JN (Jx 33 32),JN (Jn 34 0)] (JW 0 (JR [JN (Jq 35 .lss 34 33)] (JQ (JV 35 (.exit 0)) (JQ (.block 1 (JR [JM 36 34,JN (Js 37 4 32 34),JN (Jb 38 4 37),JN (.alloc 14 [N 0,N 0,Je 1,Je 1]),JM 13 36,JN (JC 4 14 38)] (JR [JM 39 1,JM 40 13,JN (Js 41 1 39 40),JN (Jd 42 1 41),JN (Jb 43 4 14),JN (Jh 44 Yq [.t 42,.t 43]),JN (Jp 45 44)] (JU 45 (JR [JN (.build 46 [N 0,N 0,Je 1,Je 1] []),JN (JC 4 8 46),JN (Jv 9 (.k (Je 1))),JN (Jv 10 Jkf)] .ret))))) (JS [JN (Jr 47 .add 34 1),JM 34 47])))))) (JR [JN (Ja 48 4 4),JN (Ja 49 4 6),JT 50 3,JN (Jh 51 VD [.t 48,.t 49,.t 50]),JN (Jy 52 0 51),JN (Jy 53 1 51),JN (Jy 54 2 51),JN (JC 4 8 52),JT 9 53,JM 10 54] .ret)))
theorem Zi9:Qq Tryz.prog ZE Zi7=some (Zdy,[.cell 8 true 4,.tmp 9,.tmp 10],55):=by kernel_rfl
def Zl3:List (Nat×List Md):=MM []
def Zfu:C:=JR [JN (Jv 4 Jkf)] (JQ (JR [JM 6 0,JN (Jx 7 6),JM 8 1,JN (Jx 9 8),JN (Jq 10 .neq 7 9)] (JU 10 (JR [JN (Jv 4 Jkf)] .ret))) (JQ (JR [JN (Jn 5 0)] (JW 0 (JQ (JR [JM 11 5,JM 12 0,JN (Jx 13 12),JN (Jq 14 .lss 11 13)] (JV 14 (.exit 0))) (JQ (.block 1 (JR [JM 17 0,JM 18 5,JN (Js 19 1 17 18),JN (Jd 20 1 19),JM 21 1,JM 22 5,JN (Js 23 1 21 22),JN (Jd 24 1 23),JN (Jq 25 .neq 20 24)] (JU 25 (JR [JN (Jv 4 Jkf)] .ret)))) (JS [JM 15 5,JN (Jr 16 .add 15 1),JM 5 16]))))) (JR [JN (Jv 4 Jkt)] .ret)))
theorem Zmj:Qq Tryz.prog XQ Zl3=some (Zfu,[.tmp 4],26):=by kernel_rfl
def Zks:List (Nat×List Md):=MM []
def Zea:C:=JR [JN (Jv 4 Jkf)] (JQ (JR [JM 6 0,JN (Jx 7 6),JM 8 1,JN (Jx 9 8),JN (Jq 10 .neq 7 9)] (JU 10 (JR [JN (Jv 4 Jkf)] .ret))) (JQ (JR [JN (Jn 5 0)] (JW 0 (JQ (JR [JM 11 5,JM 12 0,JN (Jx 13 12),JN (Jq 14 .lss 11 13)] (JV 14 (.exit 0))) (JQ (.block 1 (JR [JM 17 0,JM 18 5,JN (Js 19 1 17 18),JN (Jd 20 1 19),JM 21 1,JM 22 5,JN (Js 23 1 21 22),JN (Jd 24 1 23),JN (Jh 25 XQ [.t 20,.t 24]),JN (Jp 26 25)] (JU 26 (JR [JN (Jv 4 Jkf)] .ret)))) (JS [JM 15 5,JN (Jr 16 .add 15 1),JM 5 16]))))) (JR [JN (Jv 4 Jkt)] .ret)))
theorem Zkr:Qq Tryz.prog Za8 Zks=some (Zea,[.tmp 4],27):=by kernel_rfl
def ZjJ:List (Nat×List Md):=MM []
def Zeo:C:=JR [JN (Jv 4 Jkf)] (JQ (JR [JM 6 0,JN (Jx 7 6),JM 8 1,JN (Jx 9 8),JN (Jq 10 .neq 7 9)] (JU 10 (JR [JN (Jv 4 Jkf)] .ret))) (JQ (JR [JN (Jn 5 0)] (JW 0 (JQ (JR [JM 11 5,JM 12 0,JN (Jx 13 12),JN (Jq 14 .lss 11 13)] (JV 14 (.exit 0))) (JQ (.block 1 (JR [JM 17 0,JM 18 5,JN (Js 19 4 17 18),JN (Jb 20 4 19),JM 21 1,JM 22 5,JN (Js 23 4 21 22),JN (Jb 24 4 23),JN (Jh 25 Ym [.t 20,.t 24]),JN (Jp 26 25)] (JU 26 (JR [JN (Jv 4 Jkf)] .ret)))) (JS [JM 15 5,JN (Jr 16 .add 15 1),JM 5 16]))))) (JR [JN (Jv 4 Jkt)] .ret)))
theorem Zkc:Qq Tryz.prog K0 ZjJ=some (Zeo,[.tmp 4],27):=by kernel_rfl
def ZhX:List (Nat×List Md):=MM [(4,70217)]
def VB:C:=JR [JN (Jn 4 0)] (JQ (JR [JN (Jn 5 0)] (JW 0 (JQ (JR [JM 6 5,JM 7 0,JN (Jx 8 7),JN (Jq 9 .lss 6 8)] (JV 9 (.exit 0))) (JQ (.block 1 (JS [JM 12 0,JM 13 5,JN (Js 14 1 12 13),JN (Jd 15 1 14),JM 16 1,JN (Ji 17 XE [.t 15,.t 16]),JM 1 17])) (JS [JM 10 5,JN (Jr 11 .add 10 1),JM 5 11]))))) (JR [JM 18 1,JM 4 18] .ret))
theorem Zcq:Qq Tryz.prog Vw ZhX=some (VB,[.tmp 4],19):=by kernel_rfl
def Zh6:List (Nat×List Md):=MM [(8,561737),(9,561737)]
def J6:C:=JR [JN (Jn 4 0)] (JQ (JR [JN (Jn 5 0)] (JW 0 (JQ (JR [JM 6 5,JM 7 0,JN (Jx 8 7),JN (Jq 9 .lss 6 8)] (JV 9 (.exit 0))) (JQ (.block 1 (JR [JM 12 0,JM 13 5,JM 14 1,JN (Js 15 4 12 13),JN (Jw 16 0 15),JN (JC 1 16 14)] (JR [JM 17 1,JN (Jr 18 .add 17 1),JM 1 18] (JR [JM 19 0,JM 20 5,JM 21 1,JN (Js 22 4 19 20),JN (Jw 23 1 22),JN (JC 1 23 21)] (JR [JM 24 1,JN (Jr 25 .add 24 1),JM 1 25] (JR [JM 26 0,JM 27 5,JN (Js 28 4 26 27),JN (Jw 29 2 28),JN (Jd 30 1 29),JM 31 1,JN (Ji 32 XE [.t 30,.t 31]),JM 1 32] (JS [JM 33 0,JM 34 5,JN (Js 35 4 33 34),JN (Jw 36 3 35),JN (Jd 37 1 36),JM 38 1,JN (Ji 39 Ze [.t 37,.t 38]),JM 1 39]))))))) (JS [JM 10 5,JN (Jr 11 .add 10 1),JM 5 11]))))) (JR [JM 40 1,JM 4 40] .ret))
theorem VJ:Qq Tryz.prog Ze Zh6=some (J6,[.tmp 4],41):=by kernel_rfl
def Zjl:List (Nat×List Md):=MM []
def Zaq:C:=JR [JN (Jn 4 0)] (JQ (JR [JN (Jn 5 0)] (JW 0 (JQ (JR [JM 6 5,JM 7 0,JN (Jx 8 7),JN (Jq 9 .lss 6 8)] (JV 9 (.exit 0))) (JQ (.block 1 (JR [JM 12 0,JM 13 5,JM 14 1,JN (Js 15 1 12 13),JN (JC 1 15 14)] (JS [JM 16 1,JN (Jr 17 .add 16 1),JM 1 17]))) (JS [JM 10 5,JN (Jr 11 .add 10 1),JM 5 11]))))) (JR [JM 18 1,JM 4 18] .ret))
theorem ZdB:Qq Tryz.prog XE Zjl=some (Zaq,[.tmp 4],19):=by kernel_rfl
def ZiX:List (Nat×List Md):=MM []
def Zds:C:=JR [JN (Jn 4 0)] (JQ (JR [JN (Jn 5 0)] (JW 0 (JQ (JR [JM 6 5,JM 7 0,JN (Jx 8 7),JN (Jq 9 .lss 6 8)] (JV 9 (.exit 0))) (JQ (.block 1 (JQ (JR [JM 12 0,JM 13 5,JN (Js 14 1 12 13),JN (Jd 15 1 14),JM 16 1,JN (Jq 17 .neq 15 16)] (JU 17 (JR [JN (Jn 4 (-1))] .ret))) (JS [JM 18 1,JN (Jr 19 .add 18 1),JM 1 19]))) (JS [JM 10 5,JN (Jr 11 .add 10 1),JM 5 11]))))) (JR [JM 20 1,JM 4 20] .ret))
theorem Zi2:Qq Tryz.prog YH ZiX=some (Zds,[.tmp 4],21):=by kernel_rfl
def Zl4:List (Nat×List Md):=MM [(1,17)]
def ZfA:C:=JR [JN (Jn 4 0)] (JR [JM 5 1,JT 6 0,JN (Jx 7 6),JN (Jq 8 .sub 5 7),JM 1 8] (JQ (JR [JM 9 1,JN (Jr 10 .lss 9 0)] (JU 10 (JR [JN (Jn 4 (-1))] .ret))) (JR [JM 11 1,JM 4 11] .ret)))
theorem ZmK:Qq Tryz.prog ZQ Zl4=some (ZfA,[.tmp 4],12):=by kernel_rfl
def Zli:List (Nat×List Md):=MM [(1,17)]
def Zd4:C:=JR [JN (Jn 4 0)] (JR [JM 5 1,JT 6 0,JN (Jx 7 6),JN (Jq 8 .sub 5 7),JM 1 8] (JQ (JR [JM 9 1,JN (Jr 10 .lss 9 0)] (JU 10 (JR [JN (Jn 4 (-1))] .ret))) (JR [JM 11 1,JM 4 11] .ret)))
theorem ZkG:Qq Tryz.prog Zbw Zli=some (Zd4,[.tmp 4],12):=by kernel_rfl
def Zmg:List (Nat×List Md):=MM [(1,138),(3,146),(4,17),(6,74833),(1000001,104009),(2000003,421827145)]
def Zfs:C:=JR [JN (Jz 3 0),JN (Jz 5 2),JN (Jv 6 (.k (Je 1))),JN (Jv 7 (.k (Je 1))),JN (Jv 8 Jkf)] (JQ (JQ (JX 3 (JX 5 (JS [JN (Ja 10 4 3),JM 11 1,JN (Ja 12 4 5),JN (Jh 13 ZaZ [.t 10,.t 11,.t 12]),JN (Jp 14 13)]))) (JU 14 (JR [JN (Jv 6 (.k (Je 1))),JN (Jv 7 (.k (Je 1))),JN (Jv 8 Jkf)] .ret))) (JQ (JR [JN (Ja 15 4 3),JT 16 1,JN (Ja 17 4 5),JN (Jh 18 WZ [.t 15,.t 16,.t 17]),JN (.alloc 9 [Je 1,Je 1,N 0,Je 1]),JN (JC 4 9 18)] (.frz 9)) (JQ (JR [JN (Jw 19 2 9),JN (Jc 20 1 19),JN (Jr 21 .neq 20 0)] (JU 21 (JR [JN (Jv 6 (.k (Je 1))),JN (Jv 7 (.k (Je 1))),JN (Jv 8 Jkf)] .ret))) (JR [JN (Jw 22 0 9),JN (Jc 23 1 22),JN (Jw 24 1 9),JN (Jc 25 1 24),JT 6 23,JT 7 25,JN (Jv 8 Jkt)] .ret))))
theorem ZlR:Qq Tryz.prog Zb2 Zmg=some (Zfs,[.tmp 6,.tmp 7,.tmp 8],26):=by kernel_rfl
def ZmJ:List (Nat×List Md):=MM []
def ZfQ:C:=JR [JN (Jv 2 Jkf)] (JQ (JR [JN (Jn 3 0)] (JW 0 (JQ (JR [JM 4 3,JM 5 0,JN (Jx 6 5),JN (Jq 7 .lss 4 6)] (JV 7 (.exit 0))) (JQ (.block 1 (JR [JM 10 0,JM 11 3,JN (Js 12 1 10 11),JN (Jd 13 1 12),JN (Jh 14 JH [.t 13])] (JU 14 (JR [JN (Jv 2 Jkf)] .ret)))) (JS [JM 8 3,JN (Jr 9 .add 8 1),JM 3 9]))))) (JR [JN (Jv 2 Jkt)] .ret))
theorem ZlZ:Qq Tryz.prog Kk ZmJ=some (ZfQ,[.tmp 2],15):=by kernel_rfl
def Zmh:List (Nat×List Md):=MM [(1,18407039633),(4,70737),(6,17),(7,561737),(9,137),(11,304386697),(14,153),(15,3),(1000001,102985),(2000001,3374617161),(2000011,884635641090633)]
def Zb7:C:=JR [JN (Jz 5 1),JN (.alloc 8 [N 0,N 0,Je 1,Je 1]),JN (Jv 9 Jkf)] (JQ (JX 5 (JR [JM 19 0,JN (Ja 20 4 5),JT 21 2,JM 22 3,JN (Ji 23 Xd [.t 19,.t 20,.t 21,.t 22]),JT 18 23,JN (Jy 24 0 18),JN (Jy 25 1 18),JN (Jy 26 2 18),JN (.alloc 10 [N 0,N 0,Je 1,Je 1]),JN (JC 4 10 24),JT 11 25,JM 12 26] (.frz 10))) (JQ (JR [JM 27 12,JN (Jp 28 27)] (JU 28 (JR [JN (.build 29 [N 0,N 0,Je 1,Je 1] []),JN (JC 4 8 29),JN (Jv 9 Jkf)] .ret))) (JR [JN (Jw 30 0 10),JN (Jc 31 1 30),JN (Jw 32 1 10),JN (Jc 33 1 32),JN (Jw 34 2 10),JN (Jc 35 1 34),JN (Jh 36 Yk [.t 35]),JN (.build 37 [N 0,N 0,Je 1,Je 1] [(0,1,.t 31),(1,1,.t 33),(2,1,.t 36)]),JN (.alloc 13 [N 0,N 0,Je 1,Je 1]),JN (JC 4 13 37)] (JR [JM 38 3,JM 14 38] (JQ (JR [JN (Jw 39 0 10),JN (Jc 40 1 39),JN (Jr 41 .eql 40 11)] (JU 41 (JS [JM 42 0,JN (JA 43 42),JN (Jw 44 0 43),JN (Jb 45 4 44),JM 46 3,JN (Jw 47 1 10),JN (Jc 48 1 47),JN (Jh 49 QV [.t 45,.t 46,.t 48]),JM 14 49]))) (JQ (JR [JN (Jn 15 0)] (JW 0 (JQ (JR [JM 50 15,JN (Jw 51 3 10),JN (Jc 52 1 51),JN (Jx 53 52),JN (Jq 54 .lss 50 53)] (JV 54 (.exit 0))) (JQ (.block 1 (JQ (JR [JM 58 0,JN (Jw 59 3 10),JN (Jc 60 1 59),JM 61 15,JN (Js 62 4 60 61),JN (Jb 63 4 62),JM 64 11,JM 65 14,JN (Ji 66 VR [.t 58,.t 63,.t 64,.t 65]),JT 57 66,JN (Jy 67 0 57),JN (Jy 68 1 57),JN (.alloc 16 [N 0,N 0,Je 1,Je 1]),JN (JC 4 16 67),JM 17 68] (.frz 16)) (JQ (JR [JM 69 17,JN (Jp 70 69)] (JU 70 (JR [JN (.build 71 [N 0,N 0,Je 1,Je 1] []),JN (JC 4 8 71),JN (Jv 9 Jkf)] .ret))) (JS [JN (Jw 72 3 13),JN (JE 73 1 72),JN (Ja 74 4 16),JN (.bslice 75 4 1 [N 0,N 0,Je 1,Je 1] [(0,4,.t 74)]),JN (JB 76 4 73 75),JN (Jw 77 3 13),JN (JC 1 77 76)])))) (JS [JM 55 15,JN (Jr 56 .add 55 1),JM 15 56]))))) (JR [JN (JD 78 4 13),JN (JC 4 8 78),JN (Jv 9 Jkt)] .ret)))))))
theorem Zl0:Qq Tryz.prog VR Zmh=some (Zb7,[.cell 8 true 4,.tmp 9],79):=by kernel_rfl
def ZmZ:List (Nat×List Md):=MM [(1,1097),(6,26)]
def ZfO:C:=JR [JN (Jv 2 (.k (Je 1)))] (JR [JM 5 0,JN (Jx 6 5),JN (.mkslice 7 1 [N 0] (.t 6)),JT 3 7] (JQ (JR [JN (Jn 4 0)] (JW 0 (JQ (JR [JM 8 4,JM 9 0,JN (Jx 10 9),JN (Jq 11 .lss 8 10)] (JV 11 (.exit 0))) (JQ (.block 1 (JS [JM 14 3,JM 15 4,JM 16 0,JM 17 4,JN (Js 18 1 16 17),JN (Jd 19 1 18),JN (Js 20 1 14 15),JN (JC 1 20 19)])) (JS [JM 12 4,JN (Jr 13 .add 12 1),JM 4 13]))))) (JR [JT 21 3,JN (.mv 2 .frz (.t 21))] .ret)))
theorem Zmo:Qq Tryz.prog ZS ZmZ=some (ZfO,[.tmp 2],22):=by kernel_rfl
def ZjY:List (Nat×List Md):=MM [(1,1097),(6,26)]
def ZeD:C:=JR [JN (Jv 2 (.k (Je 1)))] (JR [JM 5 0,JN (Jx 6 5),JN (.mkslice 7 1 [.sc (.bool false)] (.t 6)),JT 3 7] (JQ (JR [JN (Jn 4 0)] (JW 0 (JQ (JR [JM 8 4,JM 9 0,JN (Jx 10 9),JN (Jq 11 .lss 8 10)] (JV 11 (.exit 0))) (JQ (.block 1 (JS [JM 14 3,JM 15 4,JM 16 0,JM 17 4,JN (Js 18 1 16 17),JN (Jd 19 1 18),JN (Js 20 1 14 15),JN (JC 1 20 19)])) (JS [JM 12 4,JN (Jr 13 .add 12 1),JM 4 13]))))) (JR [JT 21 3,JN (.mv 2 .frz (.t 21))] .ret)))
theorem Zko:Qq Tryz.prog Zbt ZjY=some (ZeD,[.tmp 2],22):=by kernel_rfl
def ZmE:List (Nat×List Md):=MM [(1,8850),(4,19480744521),(1000001,104009)]
def Zfy:C:=JR [JN (Jz 3 0),JN (Jz 5 2),JN (Jv 6 (.k (Je 1))),JN (Jv 7 (.k (Je 1))),JN (Jv 8 Jkf)] (JQ (JX 3 (JX 5 (JS [JN (Ja 10 4 3),JT 11 1,JN (Ja 12 4 5),JN (Jh 13 Zbk [.t 10,.t 11,.t 12]),JT 9 13]))) (JQ (JR [JM 14 9,JN (.bin 15 .ptr .eql (.t 14) (.k (.sc (.pointer none)))),JM 16 15,JO 16 (Jm 17 9),JO 16 (JA 18 17),JO 16 (Jw 19 3 18),JO 16 (Jd 20 1 19),JO 16 (Jr 21 .neq 20 0),JN (Jo 22 16 21)] (JU 22 (JR [JN (Jv 6 (.k (Je 1))),JN (Jv 7 (.k (Je 1))),JN (Jv 8 Jkf)] .ret))) (JR [JM 23 9,JN (JA 24 23),JN (Jw 25 0 24),JN (Jd 26 1 25),JN (Jh 27 WL [.t 26]),JM 28 9,JN (JA 29 28),JN (Jw 30 1 29),JN (Jd 31 1 30),JN (Jh 32 WL [.t 31]),JT 6 27,JT 7 32,JN (Jv 8 Jkt)] .ret)))
theorem Zm0:Qq Tryz.prog Zb0 ZmE=some (Zfy,[.tmp 6,.tmp 7,.tmp 8],33):=by kernel_rfl
def ZiY:List (Nat×List Md):=MM [(1,8778),(1000001,201)]
def Zdv:C:=JR [JN (Jz 2 0),JN (Jv 4 Jkf)] (JQ (JX 2 (JS [JN (Ja 5 4 2),JM 6 1,JN (Jh 7 ZK [.t 5,.t 6]),JM 8 7,JP 8 (Jt 9 1),JP 8 (Jh 10 Wv [.t 9,.k (.fn X2 [])]),JP 8 (Jp 11 10),JN (Jl 12 8 11),JM 4 12])) .ret)
theorem Zjq:Qq Tryz.prog Kt ZiY=some (Zdv,[.tmp 4],13):=by kernel_rfl
def Zdc:List (Nat×List Md):=MM [(1,2300912273),(4,70737),(5,17),(6,561737),(7,17),(10,562265),(12,3),(1000001,102985),(2000001,421827145),(2000009,1727803986505)]
def Yf:C:=JR [JN (Jz 5 1),JN (.alloc 8 [N 0,N 0,Je 1,Je 1])] (JQ (JX 5 (JR [JM 15 0,JN (Ja 16 4 5),JT 17 2,JM 18 3,JN (Ji 19 QJ [.t 15,.t 16,.t 17,.t 18]),JT 14 19,JN (Jy 20 0 14),JN (Jy 21 1 14),JN (.alloc 9 [N 0,N 0,Je 1,Je 1]),JN (JC 4 9 20),JT 10 21] (.frz 9))) (JQ (JR [JM 22 0,JN (JA 23 22),JN (Jw 24 6 23),JN (Jd 25 1 24)] (JU 25 (JR [JN (.build 26 [N 0,N 0,Je 1,Je 1] []),JN (JC 4 8 26)] .ret))) (JR [JN (Jw 27 0 9),JN (Jc 28 1 27),JN (Jw 29 1 9),JN (Jc 30 1 29),JN (Jw 31 2 9),JN (Jc 32 1 31),JN (Jh 33 WL [.t 32]),JN (.build 34 [N 0,N 0,Je 1,Je 1] [(0,1,.t 28),(1,1,.t 30),(2,1,.t 33)]),JN (.alloc 11 [N 0,N 0,Je 1,Je 1]),JN (JC 4 11 34)] (JQ (JR [JN (Jw 35 0 9),JN (Jc 36 1 35),JN (Jr 37 .eql 36 11)] (JU 37 (JS [JM 38 0,JN (JA 39 38),JN (Jw 40 0 39),JN (Jb 41 4 40),JM 42 3,JN (Jw 43 1 9),JN (Jc 44 1 43),JN (Jh 45 Qs [.t 41,.t 42,.t 44]),JM 3 45]))) (JQ (JR [JN (Jw 46 3 9),JN (Jc 47 1 46),JN (Jx 48 47),JN (Jn 49 0)] (JW 0 (JR [JN (Jq 50 .lss 49 48)] (JQ (JV 50 (.exit 0)) (JQ (.block 1 (JQ (JR [JN (Js 51 4 47 49),JN (Jb 52 4 51),JN (.alloc 13 [N 0,N 0,Je 1,Je 1]),JN (JC 4 13 52)] (.frz 13)) (.par [.one (JN (Jw 53 3 11)),.one (JM 55 0),.one (JN (Ja 56 4 13)),.one (JM 57 10),.one (JM 58 3),.two (JN (JE 54 1 53)) (JN (Ji 59 Xz [.t 55,.t 56,.t 57,.t 58])),.one (JN (.bslice 60 4 1 [N 0,N 0,Je 1,Je 1] [(0,4,.t 59)])),.one (JN (JB 61 4 54 60)),.one (JN (Jw 62 3 11)),.one (JN (JC 1 62 61))]))) (JS [JN (Jr 63 .add 49 1),JM 49 63])))))) (JR [JN (JD 64 4 11),JN (JC 4 8 64)] .ret))))))
theorem K5:Qq Tryz.prog Xz Zdc=some (Yf,[.cell 8 true 4],65):=by kernel_rfl
def ZkY:List (Nat×List Md):=MM []
def Zey:C:=JR [JN (Jv 4 Jkf)] (JQ (JR [JM 6 0,JN (Jx 7 6),JM 8 1,JN (Jx 9 8),JN (Jq 10 .neq 7 9)] (JU 10 (JR [JN (Jv 4 Jkf)] .ret))) (JQ (JR [JN (Jn 5 0)] (JW 0 (JQ (JR [JM 11 5,JM 12 0,JN (Jx 13 12),JN (Jq 14 .lss 11 13)] (JV 14 (.exit 0))) (JQ (.block 1 (JR [JM 17 0,JM 18 5,JN (Js 19 1 17 18),JN (Jd 20 1 19),JM 21 1,JM 22 5,JN (Js 23 1 21 22),JN (Jd 24 1 23),JN (.bin 25 .bool .neq (.t 20) (.t 24))] (JU 25 (JR [JN (Jv 4 Jkf)] .ret)))) (JS [JM 15 5,JN (Jr 16 .add 15 1),JM 5 16]))))) (JR [JN (Jv 4 Jkt)] .ret)))
theorem Zkd:Qq Tryz.prog Zbe ZkY=some (Zey,[.tmp 4],26):=by kernel_rfl
def ZhN:List (Nat×List Md):=MM []
def Vt:C:=JR [JN (Jn 4 0)] (JQ (JR [JN (Jn 5 0)] (JW 0 (JQ (JR [JM 6 5,JM 7 0,JN (Jx 8 7),JN (Jq 9 .lss 6 8)] (JV 9 (.exit 0))) (JQ (.block 1 (JR [JM 12 0,JM 13 5,JM 14 1,JN (Jr 15 .rem 14 3),JN (Jr 16 .eql 15 0),JN (Js 17 1 12 13),JN (JC 1 17 16)] (JS [JM 18 1,JN (Jr 19 .add 18 1),JM 1 19]))) (JS [JM 10 5,JN (Jr 11 .add 10 1),JM 5 11]))))) (JR [JM 20 1,JM 4 20] .ret))
theorem ZcF:Qq Tryz.prog VI ZhN=some (Vt,[.tmp 4],21):=by kernel_rfl
def Zh2:List (Nat×List Md):=MM []
def Vq:C:=JR [JN (Jn 4 0)] (JQ (JR [JN (Jn 5 0)] (JW 0 (JQ (JR [JM 6 5,JM 7 0,JN (Jx 8 7),JN (Jq 9 .lss 6 8)] (JV 9 (.exit 0))) (JQ (.block 1 (JQ (JR [JM 12 0,JM 13 5,JN (Js 14 4 12 13),JN (Jw 15 0 14),JN (Jd 16 1 15),JM 17 1,JN (Jq 18 .neq 16 17)] (JU 18 (JR [JN (Jn 4 (-1))] .ret))) (JR [JM 19 1,JN (Jr 20 .add 19 1),JM 1 20] (JQ (JR [JM 21 0,JM 22 5,JN (Js 23 4 21 22),JN (Jw 24 1 23),JN (Jd 25 1 24),JM 26 1,JN (Jq 27 .neq 25 26)] (JU 27 (JR [JN (Jn 4 (-1))] .ret))) (JR [JM 28 1,JN (Jr 29 .add 28 1),JM 1 29] (JR [JM 30 0,JM 31 5,JN (Js 32 4 30 31),JN (Jw 33 2 32),JN (Jd 34 1 33),JM 35 1,JN (Jh 36 YH [.t 34,.t 35]),JM 1 36] (JQ (JR [JM 37 1,JN (Jr 38 .lss 37 0)] (JU 38 (JR [JN (Jn 4 (-1))] .ret))) (JR [JM 39 0,JM 40 5,JN (Js 41 4 39 40),JN (Jw 42 3 41),JN (Jd 43 1 42),JM 44 1,JN (Jh 45 Ka [.t 43,.t 44]),JM 1 45] (JR [JM 46 1,JN (Jr 47 .lss 46 0)] (JU 47 (JR [JN (Jn 4 (-1))] .ret))))))))))) (JS [JM 10 5,JN (Jr 11 .add 10 1),JM 5 11]))))) (JR [JM 48 1,JM 4 48] .ret))
theorem Zcs:Qq Tryz.prog Ka Zh2=some (Vq,[.tmp 4],49):=by kernel_rfl
def Zh8:List (Nat×List Md):=MM []
def ZcB:C:=JR [JN (Jv 2 Jkf)] (JQ (JR [JN (Jn 3 0)] (JW 0 (JQ (JR [JM 4 3,JM 5 0,JN (Jx 6 5),JN (Jq 7 .lss 4 6)] (JV 7 (.exit 0))) (JQ (.block 1 (JR [JM 10 0,JM 11 3,JN (Js 12 1 10 11),JN (Jd 13 1 12),JN (Jh 14 Kk [.t 13]),JN (Jp 15 14)] (JU 15 (JR [JN (Jv 2 Jkf)] .ret)))) (JS [JM 8 3,JN (Jr 9 .add 8 1),JM 3 9]))))) (JR [JN (Jv 2 Jkt)] .ret))
theorem ZhY:Qq Tryz.prog VK Zh8=some (ZcB,[.tmp 2],16):=by kernel_rfl
def Zkj:List (Nat×List Md):=MM [(1,2435129930),(1000001,104009)]
def Zeg:C:=JR [JN (Jz 3 0),JN (Jz 5 2),JN (Jv 6 Jkf)] (JQ (JX 3 (JX 5 (JS [JN (Ja 7 4 3),JM 8 1,JN (Jh 9 Zca [.t 7,.t 8]),JM 10 9,JP 10 (Ja 11 4 3),JP 10 (Ja 12 4 5),JP 10 (Jh 13 VV [.t 11,.t 12,Jk 0]),JN (Jl 14 10 13),JM 15 14,JP 15 (Jt 16 1),JP 15 (Ja 17 4 5),JP 15 (Jh 18 XT [.t 16,.t 17]),JN (Jl 19 15 18),JM 6 19]))) .ret)
theorem Zlv:Qq Tryz.prog Za6 Zkj=some (Zeg,[.tmp 6],20):=by kernel_rfl
def ZoJ:List (Nat×List Md):=MM [(1,1098),(2,17),(6,287871562),(7,9361),(10,17),(14,18407002698),(15,1106),(1000001,13897),(2000007,215975498313)]
def Zg2:C:=JR [JN (Jz 3 0),JN (Jz 4 1),JN (.alloc 6 [N 0,N 0,Je 1,Je 1]),JN (Jv 7 (.k (Je 1))),JN (Jv 8 Jkf)] (JQ (JX 3 (JX 4 (JS [JN (Ja 16 4 3),JN (.build 17 [N 0,Je 1,Je 1,Je 1,Je 1,N 0] [(0,4,.t 16)]),JN (Jz 18 17),JT 9 18]))) (JR [JN (.bslice 19 1 0 [] []),JT 10 19] (JQ (JR [JN (Jn 11 0)] (JW 0 (JQ (JR [JM 20 11,JM 21 2,JN (Jx 22 21),JN (Jq 23 .lss 20 22)] (JV 23 (.exit 0))) (JQ (.block 1 (JS [JT 26 10,JM 27 9,JM 28 2,JM 29 11,JN (Js 30 4 28 29),JN (Jb 31 4 30),JN (Ji 32 YN [.t 27,Jk 0,.t 31,.k (Je 1)]),JN (.bslice 33 1 1 [N 0] [(0,1,.t 32)]),JN (JB 34 1 26 33),JT 10 34])) (JS [JM 24 11,JN (Jr 25 .add 24 1),JM 11 25]))))) (JQ (JR [JM 36 9,JN (Ja 37 4 4),JT 38 10,JN (Ji 39 VR [.t 36,.t 37,.t 38,Jk 1]),JT 35 39,JN (Jy 40 0 35),JN (Jy 41 1 35),JN (.alloc 12 [N 0,N 0,Je 1,Je 1]),JN (JC 4 12 40),JM 13 41] (.frz 12)) (JQ (JR [JM 42 13,JN (Jp 43 42)] (JU 43 (JR [JN (.build 44 [N 0,N 0,Je 1,Je 1] []),JN (JC 4 6 44),JN (Jv 7 (.k (Je 1))),JN (Jv 8 Jkf)] .ret))) (JR [JN (.bslice 45 1 0 [] []),JT 14 45] (JQ (JR [JN (Jn 15 0)] (JW 2 (JQ (JR [JM 46 15,JM 47 2,JN (Jx 48 47),JN (Jq 49 .lss 46 48)] (JV 49 (.exit 2))) (JQ (.block 3 (JS [JT 52 14,JM 53 9,JN (JA 54 53),JN (Jw 55 4 54),JN (Jd 56 1 55),JM 57 15,JN (Js 58 7 56 57),JN (Jw 59 1 58),JN (Jd 60 1 59),JN (.bslice 61 1 1 [N 0] [(0,1,.t 60)]),JN (JB 62 1 52 61),JT 14 62])) (JS [JM 50 15,JN (Jr 51 .add 50 1),JM 15 51]))))) (JR [JN (Ja 63 4 12),JT 64 14,JN (JC 4 6 63),JT 7 64,JN (Jv 8 Jkt)] .ret))))))))
theorem ZoW:Qq Tryz.prog ZcN ZoJ=some (Zg2,[.cell 6 true 4,.tmp 7,.tmp 8],65):=by kernel_rfl
def Zhs:List (Nat×List Md):=MM [(1,304390793),(2,1178064954441),(1000001,102985),(1000002,1609)]
def ZbN:C:=JR [JN (Jz 3 0),JN (Jz 5 2),JN (Jv 6 (.k (Je 1))),JN (Jv 7 Jkf)] (JQ (JX 5 (JS [JN (Jb 12 4 3),JM 13 1,JN (Ja 14 4 5),JN (Jh 15 Zb0 [.t 12,.t 13,.t 14]),JT 11 15,JN (Jy 16 0 11),JN (Jy 17 1 11),JN (Jy 18 2 11),JT 8 16,JT 9 17,JM 10 18])) (JQ (JX 3 (JS [JM 19 8,JM 20 10,JM 21 20,JP 21 (Ja 22 4 3),JP 21 (Jt 23 8),JP 21 (Jh 24 Kt [.t 22,.t 23]),JN (Jl 25 21 24),JM 26 25,JP 26 (Jt 27 1),JP 26 (.mkfn 28 Yb false [.t 3]),JP 26 (Jh 29 WC [.t 27,.t 28]),JP 26 (Jp 30 29),JN (Jl 31 26 30),JT 6 19,JM 7 31])) .ret))
theorem Zhd:Qq Tryz.prog KT Zhs=some (ZbN,[.tmp 6,.tmp 7],32):=by kernel_rfl
def Zlz:List (Nat×List Md):=MM [(1,8777),(2,138),(5,603161738154577),(7,86924612624857519675635717706321),(9,75403673014865),(11,17),(12,9424385380945),(13,647712621164511728308817),(1000001,1609)]
def Zd8:C:=JR [JN (Jz 3 1),JN (Jv 4 Jkf)] (JQ (JX 3 (JS [JM 10 0,JN (Ju 11 1 10 0),JN (Jd 12 1 11),JN (Jh 13 Yg [.t 12]),JT 9 13,JN (Jy 14 0 9),JN (Jy 15 1 9),JM 5 14,JM 6 15])) (JR [JT 16 0,JN (Jh 17 Zs [.t 16]),JT 7 17] (JQ (JR [JM 18 5] (.block 0 (JR [JN (Jr 20 .eql 18 0),JM 19 20] (.cond (.t 19) (JR [JN (Jw 21 0 3),JN (Jc 22 1 21),JN (Jr 23 .eql 22 1),JM 24 23,JP 24 (Jw 25 1 3),JP 24 (Jc 26 1 25),JP 24 (Jh 27 W0 [.t 26,Jk 0,Jk 2]),JN (Jl 28 24 27),JM 29 28,JP 29 (Jw 30 2 3),JP 29 (Jc 31 1 30),JP 29 (Jx 32 31),JP 29 (Jr 33 .eql 32 0),JN (Jl 34 29 33),JM 35 34,JP 35 (Jw 36 3 3),JP 35 (Jc 37 1 36),JP 35 (Jx 38 37),JP 35 (Jr 39 .eql 38 0),JN (Jl 40 35 39),JM 4 40] .ret) (JR [JN (Jr 42 .eql 18 1),JM 41 42] (.cond (.t 41) (JR [JN (Jw 43 0 3),JN (Jc 44 1 43),JN (Jr 45 .eql 44 4),JM 46 45,JP 46 (Jw 47 1 3),JP 46 (Jc 48 1 47),JP 46 (Jr 49 .eql 48 0),JN (Jl 50 46 49),JM 51 50,JP 51 (Jw 52 2 3),JP 51 (Jc 53 1 52),JP 51 (Jx 54 53),JP 51 (Jr 55 .eql 54 0),JN (Jl 56 51 55),JM 57 56,JP 57 (Jw 58 3 3),JP 57 (Jc 59 1 58),JP 57 (Jx 60 59),JP 57 (Jr 61 .eql 60 2),JN (Jl 62 57 61),JM 63 62,JP 63 (Jm 64 7),JP 63 (Ju 65 1 64 0),JP 63 (Jd 66 1 65),JP 63 (Jw 67 3 3),JP 63 (Jc 68 1 67),JP 63 (Ju 69 4 68 0),JP 63 (Jb 70 4 69),JP 63 (Jh 71 Yq [.t 66,.t 70]),JN (Jl 72 63 71),JM 73 72,JP 73 (Jm 74 7),JP 73 (Ju 75 1 74 1),JP 73 (Jd 76 1 75),JP 73 (Jw 77 3 3),JP 73 (Jc 78 1 77),JP 73 (Ju 79 4 78 1),JP 73 (Jb 80 4 79),JP 73 (Jh 81 Yq [.t 76,.t 80]),JN (Jl 82 73 81),JM 4 82] .ret) (JR [JN (Jr 84 .eql 18 2),JM 83 84] (JU 83 (JQ (JR [JN (Jw 85 1 3),JN (Jc 86 1 85),JN (Jr 87 .neq 86 0),JM 88 87,JO 88 (Jw 89 3 3),JO 88 (Jc 90 1 89),JO 88 (Jx 91 90),JO 88 (Jr 92 .neq 91 1),JN (Jo 93 88 92),JM 94 93,JO 94 (Jw 95 0 3),JO 94 (Jc 96 1 95),JO 94 (Jr 97 .neq 96 6),JO 94 (Jm 98 97),JP 98 (Jw 99 0 3),JP 98 (Jc 100 1 99),JP 98 (Jr 101 .neq 100 7),JO 94 (Jl 102 98 101),JN (Jo 103 94 102)] (JU 103 (JR [JN (Jv 4 Jkf)] .ret))) (JR [JN (Jw 104 0 3),JN (Jc 105 1 104),JN (Jr 106 .sub 105 6),JM 8 106] (JR [JN (Jw 107 2 3),JN (Jc 108 1 107),JM 109 7,JM 110 8,JN (.bin 111 .num .sub (Jk 1) (.t 110)),JN (Js 112 1 109 111),JN (Jd 113 1 112),JN (Jh 114 WM [.t 108,.t 113]),JM 115 114,JP 115 (Jm 116 7),JP 115 (Jm 117 8),JP 115 (Js 118 1 116 117),JP 115 (Jd 119 1 118),JP 115 (Jw 120 3 3),JP 115 (Jc 121 1 120),JP 115 (Ju 122 4 121 0),JP 115 (Jb 123 4 122),JP 115 (Jh 124 Yq [.t 119,.t 123]),JN (Jl 125 115 124),JM 4 125] .ret))))))))))) (JR [JN (Jw 126 0 3),JN (Jc 127 1 126),JN (Jr 128 .eql 127 11),JM 129 128,JP 129 (Jw 130 1 3),JP 129 (Jc 131 1 130),JP 129 (Jm 132 6),JP 129 (Jq 133 .eql 131 132),JN (Jl 134 129 133),JM 135 134,JP 135 (Jw 136 2 3),JP 135 (Jc 137 1 136),JP 135 (Jx 138 137),JP 135 (Jr 139 .eql 138 0),JN (Jl 140 135 139),JM 141 140,JP 141 (Jw 142 3 3),JP 141 (Jc 143 1 142),JP 141 (Jx 144 143),JP 141 (Jr 145 .eql 144 1),JN (Jl 146 141 145),JM 147 146,JP 147 (Jt 148 7),JP 147 (Ju 149 1 148 0),JP 147 (Jd 150 1 149),JP 147 (Jw 151 3 3),JP 147 (Jc 152 1 151),JP 147 (Ju 153 4 152 0),JP 147 (Jb 154 4 153),JP 147 (Jh 155 Yq [.t 150,.t 154]),JN (Jl 156 147 155),JM 4 156] .ret))))
theorem Zk8:Qq Tryz.prog Yq Zlz=some (Zd8,[.tmp 4],157):=by kernel_rfl
def Zie:List (Nat×List Md):=MM [(1,1098),(3,2),(6,561738),(8,1105),(9,2),(12,2),(14,137),(15,35951186),(17,1107),(1000001,13897)]
def Zcf:C:=JR [JN (Jz 3 0),JN (Jz 4 1),JN (.alloc 6 [N 0,N 0,Je 1,Je 1]),JN (Jv 7 (.k (Je 1))),JN (Jv 8 Jkf)] (JQ (JX 3 (JX 4 (JS [JN (Ja 17 4 3),JN (.build 18 [N 0,Je 1,Je 1,Je 1,Je 1,N 0,.sc (.bool false)] [(0,4,.t 17)]),JN (Jz 19 18),JT 9 19]))) (JR [JN (Jv 10 (.k (Je 1)))] (JQ (JR [JT 20 2,JN (Jx 21 20),JN (Jn 22 0)] (JW 0 (JR [JN (Jq 23 .lss 22 21)] (JQ (JV 23 (.exit 0)) (JQ (.block 1 (JR [JN (Js 24 4 20 22),JN (Jb 25 4 24),JN (.alloc 12 [N 0,N 0,Je 1,Je 1]),JN (JC 4 12 25)] (JS [JT 26 10,JN (Jb 27 4 12),JN (.build 28 [N 0,N 0,N 0,N 0,Je 1,Je 1,Je 1] [(2,4,.t 27)]),JN (Jz 29 28),JN (.bslice 30 1 1 [.sc (.pointer none)] [(0,1,.t 29)]),JN (JB 31 1 26 30),JT 10 31]))) (JS [JN (Jr 32 .add 22 1),JM 22 32])))))) (JR [JM 33 9,JN (Ja 34 4 4),JM 35 10,JN (Ji 36 Xz [.t 33,.t 34,.t 35,Jk 1]),JN (.alloc 13 [N 0,N 0,Je 1,Je 1]),JN (JC 4 13 36)] (JQ (JR [JT 37 9,JN (JA 38 37),JN (Jw 39 6 38),JN (Jd 40 1 39)] (JU 40 (JR [JN (.build 41 [N 0,N 0,Je 1,Je 1] []),JN (JC 4 6 41),JN (Jv 7 (.k (Je 1))),JN (Jv 8 Jkf)] .ret))) (JR [JN (Jv 14 (.k (Je 1)))] (JQ (JR [JT 42 10,JN (Jx 43 42),JN (Jn 44 0)] (JW 2 (JR [JN (Jq 45 .lss 44 43)] (JQ (JV 45 (.exit 2)) (JQ (.block 3 (JR [JN (Js 46 1 42 44),JN (Jd 47 1 46),JT 16 47] (JS [JT 48 14,JT 49 16,JN (JA 50 49),JN (Jw 51 0 50),JN (Jw 52 1 51),JN (Jd 53 1 52),JN (.bslice 54 1 1 [N 0] [(0,1,.t 53)]),JN (JB 55 1 48 54),JT 14 55]))) (JS [JN (Jr 56 .add 44 1),JM 44 56])))))) (JR [JN (JD 57 4 13),JT 58 14,JN (JC 4 6 57),JT 7 58,JN (Jv 8 Jkt)] .ret))))))))
theorem Zh7:Qq Tryz.prog VD Zie=some (Zcf,[.cell 6 true 4,.tmp 7,.tmp 8],59):=by kernel_rfl
def ZpX:List (Nat×List Md):=MM []
def Ziv:C:=JR [JN (Jv 6 Jkf)] (JR [JM 7 0,JM 8 1,JN (Jq 9 .geq 7 8),JM 10 9,JP 10 (Jm 11 0),JP 10 (Jm 12 2),JP 10 (Jq 13 .leq 11 12),JN (Jl 14 10 13),JM 6 14] .ret)
theorem ZpB:Qq Tryz.prog XU ZpX=some (Ziv,[.tmp 6],15):=by kernel_rfl
def Zl1:List (Nat×List Md):=MM []
def ZfN:C:=JR [JN (Jv 6 Jkf)] (JR [JM 7 0,JM 8 1,JN (Jq 9 .geq 7 8),JM 10 9,JP 10 (Jm 11 0),JP 10 (Jm 12 2),JP 10 (Jq 13 .leq 11 12),JN (Jl 14 10 13),JM 6 14] .ret)
theorem Zmu:Qq Tryz.prog W0 Zl1=some (ZfN,[.tmp 6],15):=by kernel_rfl
def ZjI:List (Nat×List Md):=MM [(1,2451870794),(1000001,104009)]
def ZeP:C:=JR [JN (Jz 3 0),JN (Jz 5 2),JN (Jv 6 Jkf)] (JQ (JX 3 (JX 5 (JS [JN (Ja 7 4 3),JN (Jh 8 ZJ [.t 7]),JM 9 8,JP 9 (Ja 10 4 3),JP 9 (Jm 11 1),JP 9 (Jh 12 VG [.t 10,.t 11]),JN (Jl 13 9 12),JM 14 13,JP 14 (Ja 15 4 3),JP 14 (Ja 16 4 5),JP 14 (Jt 17 1),JP 14 (Jx 18 17),JP 14 (Jh 19 VV [.t 15,.t 16,.t 18]),JN (Jl 20 14 19),JM 6 20]))) .ret)
theorem ZkF:Qq Tryz.prog ZaZ ZjI=some (ZeP,[.tmp 6],21):=by kernel_rfl
def ZmS:List (Nat×List Md):=MM [(1,17),(3,1161),(4,137),(5,561802),(7,17),(8,17),(9,17),(10,70281),(11,146),(12,17),(13,2),(14,17),(17,17),(19,1170),(21,146),(22,17),(23,2),(24,2317915217),(26,4494417),(28,4494417),(30,561802),(32,2301141585),(34,9493123736145),(36,17),(38,146),(39,17),(40,2),(41,1105),(43,147258152017),(44,1170),(1000001,104009),(1000005,6591049),(2000011,421827145),(2000021,3374617161),(2000038,26996937289)]
def WI:C:=JR [JN (Jz 3 0),JN (Jz 5 2),JN (.alloc 6 [Je 1,Je 1,N 0,Je 1])] (JQ (JQ (JX 3 (JX 5 (JS [JN (Jw 12 0 5),JN (Jc 13 1 12)]))) (.block 0 (JR [JN (Jr 15 .eql 13 0),JM 14 15] (.cond (.t 14) (JR [JM 16 1,JN (Jx 17 16),JN (Ji 18 ZO [.t 17]),JT 7 18] (JR [JM 19 7,JN (Jw 20 1 5),JN (Jc 21 1 20),JN (Js 22 1 19 21),JN (.store 1 (.t 22) (Jk 1))] (JQ (JX 7 (JS [JT 23 1,JN (Jw 24 1 5),JN (Jc 25 1 24),JN (Js 26 1 23 25),JN (Jd 27 1 26),JN (Jh 28 Yk [.t 27]),JT 29 7,JN (.build 30 [Je 1,Je 1,N 0,Je 1] [(0,1,.t 28),(1,1,.t 29)]),JN (JC 4 6 30)])) .ret))) (JR [JN (Jr 32 .eql 13 1),JM 31 32] (JU 31 (JR [JN (.bslice 33 1 1 [N 0] [(0,1,Jk 0)]),JT 34 1,JN (Jx 35 34),JN (Jh 36 ZO [.t 35]),JN (.build 37 [Je 1,Je 1,N 0,Je 1] [(0,1,.t 33),(1,1,.t 36)]),JN (JC 4 6 37)] .ret))))))) (JR [JM 38 1,JT 8 38] (JQ (JR [JN (Jw 39 0 5),JN (Jc 40 1 39),JN (Jr 41 .eql 40 9)] (JU 41 (JS [JM 42 1,JN (Jw 43 2 5),JN (Jc 44 1 43),JN (.bslice 45 1 1 [Je 1] [(0,1,.t 44)]),JN (Jh 46 Kn [.t 42,.t 45]),JT 8 46]))) (JQ (JR [JN (Ja 47 4 3),JT 48 8,JN (Ja 49 4 5),JN (Jh 50 YO [.t 47,.t 48,.t 49,Jk 0]),JN (.alloc 9 [Je 1,Je 1,N 0,Je 1]),JN (JC 4 9 50)] (.frz 9)) (JQ (JR [JN (Jw 51 2 9),JN (Jc 52 1 51),JN (Jr 53 .neq 52 0)] (JU 53 (JR [JN (Ja 54 4 9),JN (JC 4 6 54)] .ret))) (JQ (JR [JN (Jw 55 0 5),JN (Jc 56 1 55)] (.block 1 (JQ (JR [JN (Jr 58 .eql 56 2),JM 57 58] (JV 57 (JS [JN (Jr 59 .eql 56 3),JM 57 59]))) (.cond (.t 57) (JQ (JR [JN (Jw 60 0 9),JN (Jc 61 1 60),JN (Ju 62 1 61 0),JN (Jd 63 1 62),JN (Jr 64 .neq 63 0)] (JU 64 (JR [JN (Jh 65 WP [Jk 2]),JN (JC 4 6 65)] .ret))) (JR [JN (Ja 66 4 3),JT 67 1,JN (Ja 68 4 5),JN (Ja 69 4 9),JN (Jh 70 JZ [.t 66,.t 67,.t 68,.t 69]),JN (JC 4 6 70)] .ret)) (JR [JN (Jr 72 .eql 56 4),JM 71 72] (.cond (.t 71) (JQ (JR [JN (Ja 73 4 3),JT 74 1,JN (Ja 75 4 5),JN (Jh 76 YO [.t 73,.t 74,.t 75,Jk 1]),JN (.alloc 10 [Je 1,Je 1,N 0,Je 1]),JN (JC 4 10 76)] (.frz 10)) (JQ (JR [JN (Jw 77 2 10),JN (Jc 78 1 77),JN (Jr 79 .neq 78 0)] (JU 79 (JR [JN (Ja 80 4 10),JN (JC 4 6 80)] .ret))) (JR [JN (Jw 81 0 9),JN (Jc 82 1 81),JN (Jw 83 0 10),JN (Jc 84 1 83),JN (.bslice 85 1 2 [Je 1,Je 1] [(0,1,.t 82),(1,1,.t 84)]),JN (Jh 86 XP [Jk 1,.t 85]),JN (Ja 87 4 3),JN (Jw 88 1 9),JN (Jc 89 1 88),JN (Jw 90 1 10),JN (Jc 91 1 90),JN (Jh 92 Yd [.t 87,.t 89,Jk 1,.t 91]),JN (Jh 93 Y3 [.t 86,.t 92]),JN (JC 4 6 93)] .ret))) (JR [JN (Jr 95 .eql 56 6),JM 94 95] (.cond (.t 94) (JR [JN (Jw 96 0 9),JN (Jc 97 1 96),JN (Jw 98 2 5),JN (Jc 99 1 98),JN (.bslice 100 1 2 [Je 1,Je 1] [(0,1,.t 97),(1,1,.t 99)]),JN (Jh 101 XP [Jk 2,.t 100]),JN (Jw 102 1 9),JN (Jc 103 1 102),JN (Jh 104 Y3 [.t 101,.t 103]),JN (JC 4 6 104)] .ret) (JR [JN (Jr 106 .eql 56 7),JM 105 106] (.cond (.t 105) (JR [JN (Jw 107 2 5),JN (Jc 108 1 107),JN (Jw 109 0 9),JN (Jc 110 1 109),JN (.bslice 111 1 2 [Je 1,Je 1] [(0,1,.t 108),(1,1,.t 110)]),JN (Jh 112 XP [Jk 2,.t 111]),JN (Jw 113 1 9),JN (Jc 114 1 113),JN (Jh 115 Y3 [.t 112,.t 114]),JN (JC 4 6 115)] .ret) (JR [JN (Jr 117 .eql 56 9),JM 116 117] (.cond (.t 116) (JQ (JR [JN (Ja 118 4 3),JN (Jw 119 1 9),JN (Jc 120 1 119),JN (Ju 121 1 120 0),JN (Jd 122 1 121),JN (Jw 123 1 5),JN (Jc 124 1 123),JN (Jh 125 Wn [.t 118,.t 122,.t 124]),JN (Jp 126 125)] (JU 126 (JR [JN (Jh 127 WP [Jk 9]),JN (JC 4 6 127)] .ret))) (JR [JN (Jw 128 1 5),JN (Jc 129 1 128),JN (.bin 130 .num .add (Jk 3) (.t 129)),JN (Jw 131 2 5),JN (Jc 132 1 131),JN (Jw 133 0 9),JN (Jc 134 1 133),JN (.bslice 135 1 2 [Je 1,Je 1] [(0,1,.t 132),(1,1,.t 134)]),JN (Jh 136 XP [.t 130,.t 135]),JN (Jw 137 1 9),JN (Jc 138 1 137),JN (.slice 139 1 (.t 138) (some (Jk 1)) none none),JN (Jh 140 Yk [.t 139]),JN (Jh 141 Y3 [.t 136,.t 140]),JN (JC 4 6 141)] .ret)) (JR [JN (Jr 143 .eql 56 11),JM 142 143] (.cond (.t 142) (JR [JN (Jw 144 1 5),JN (Jc 145 1 144),JN (.bin 146 .num .add (Jk 19) (.t 145)),JN (Jw 147 0 9),JN (Jc 148 1 147),JN (.bslice 149 1 1 [Je 1] [(0,1,.t 148)]),JN (Jh 150 XP [.t 146,.t 149]),JN (Ja 151 4 3),JT 152 1,JN (Jx 153 152),JN (Jh 154 ZO [.t 153]),JN (Jw 155 1 5),JN (Jc 156 1 155),JN (Jw 157 1 9),JN (Jc 158 1 157),JN (Jh 159 Yd [.t 151,.t 154,.t 156,.t 158]),JN (Jh 160 Y3 [.t 150,.t 159]),JN (JC 4 6 160)] .ret) (JR [JN (Jr 162 .eql 56 10),JM 161 162] (JU 161 (JQ (JR [JN (Jw 163 0 9),JN (Jc 164 1 163),JN (Ju 165 1 164 0),JN (Jd 166 1 165),JN (Jh 167 JH [.t 166]),JN (Jp 168 167)] (JU 168 (JR [JN (Jh 169 WP [Jk 6]),JN (JC 4 6 169)] .ret))) (JQ (JR [JN (Ja 170 4 3),JT 171 1,JN (Ja 172 4 5),JN (Jh 173 YO [.t 170,.t 171,.t 172,Jk 1]),JN (.alloc 11 [Je 1,Je 1,N 0,Je 1]),JN (JC 4 11 173)] (.frz 11)) (JQ (JR [JN (Jw 174 2 11),JN (Jc 175 1 174),JN (Jr 176 .neq 175 0)] (JU 176 (JR [JN (Ja 177 4 11),JN (JC 4 6 177)] .ret))) (JQ (JR [JN (Jw 178 0 11),JN (Jc 179 1 178),JN (Jw 180 0 9),JN (Jc 181 1 180),JN (Jh 182 Wz [.t 181,Jk 0]),JN (Jh 183 YX [.t 179,.t 182]),JN (Jp 184 183)] (JU 184 (JR [JN (Jh 185 WP [Jk 3]),JN (JC 4 6 185)] .ret))) (JR [JN (Jw 186 0 9),JN (Jc 187 1 186),JN (Jh 188 Wz [.t 187,Jk 1]),JN (Ja 189 4 3),JN (Jw 190 1 9),JN (Jc 191 1 190),JN (Jw 192 0 9),JN (Jc 193 1 192),JN (Ju 194 1 193 0),JN (Jd 195 1 194),JN (Jh 196 Zg [.t 195]),JN (Jw 197 1 11),JN (Jc 198 1 197),JN (Jh 199 Yd [.t 189,.t 191,.t 196,.t 198]),JN (.build 200 [Je 1,Je 1,N 0,Je 1] [(0,1,.t 188),(1,1,.t 199)]),JN (JC 4 6 200)] .ret))))))))))))))))))))) (JR [JN (Ja 201 4 3),JT 202 1,JN (Ja 203 4 5),JN (Ja 204 4 9),JN (Jh 205 JK [.t 201,.t 202,.t 203,.t 204]),JN (JC 4 6 205)] .ret)))))))
theorem ZmI:Qq Tryz.prog WZ ZmS=some (WI,[.cell 6 true 4],206):=by kernel_rfl
def Zk3:List (Nat×List Md):=MM []
def Zes:C:=JR [JN (Jv 2 Jkf)] (JR [JM 3 0,JN (Jh 4 XU [.t 3,Jk 3,Jk 18]),JM 5 4,JO 5 (Jm 6 0),JO 5 (Jr 7 .eql 6 35),JN (Jo 8 5 7),JM 2 8] .ret)
theorem ZkL:Qq Tryz.prog JH Zk3=some (Zes,[.tmp 2],9):=by kernel_rfl
def Zl2:List (Nat×List Md):=MM [(3,2),(4,17),(6,138),(8,1264937608024307307081),(15,1106),(17,17),(18,561737),(19,9424404255369),(21,2),(22,17),(24,9424404288138),(25,1105),(27,17),(28,147258151562),(29,147258151562),(31,9975217033801),(32,9424519860874),(34,4494409),(35,4756553),(36,603169256411786),(38,4756553),(40,17),(42,75396158886538),(43,9975217033801),(44,9424519860874),(1000001,102985),(2000019,1727803986505),(2000024,884635641090633)]
def WY:C:=JR [JN (Jz 5 1),JN (.alloc 8 [N 0,N 0,Je 1,Je 1]),JN (Jv 9 (.k (Je 1))),JN (Jv 10 Jkf)] (JQ (JX 5 (JS [JM 25 0,JM 26 0,JN (JA 27 26),JN (Jw 28 5 27),JN (Jd 29 1 28),JN (Jr 30 .add 29 1),JN (JA 31 25),JN (Jw 32 5 31),JN (JC 1 32 30)])) (JQ (JR [JM 33 0,JN (JA 34 33),JN (Jw 35 5 34),JN (Jd 36 1 35),JN (Jr 37 .gtr 36 3000)] (JU 37 (JR [JN (Ja 38 4 5),JN (JC 4 8 38),JN (Jv 9 (.k (Je 1))),JN (Jv 10 Jkf)] .ret))) (JQ (JR [JN (Jw 39 0 5),JN (Jc 40 1 39)] (.block 0 (JR [JN (Jr 42 .eql 40 0),JM 41 42] (.cond (.t 41) (JR [JT 43 2,JN (Jw 44 1 5),JN (Jc 45 1 44),JN (Js 46 1 43 45),JN (Jd 47 1 46),JM 11 47] (JR [JM 48 0,JN (JA 49 48),JN (Jw 50 4 49),JN (Jd 51 1 50),JM 52 11,JM 53 0,JN (JA 54 53),JN (Jw 55 0 54),JN (Jb 56 4 55),JM 57 0,JN (JA 58 57),JN (Jw 59 4 58),JN (Jd 60 1 59),JM 61 11,JN (Js 62 7 60 61),JN (Jw 63 1 62),JN (Jd 64 1 63),JM 65 3,JN (Jh 66 Wu [.t 56,.t 64,.t 65]),JN (Js 67 7 51 52),JN (Jw 68 1 67),JN (JC 1 68 66)] (JR [JM 69 0,JM 70 0,JN (JA 71 70),JN (Jw 72 4 71),JN (Jd 73 1 72),JM 74 11,JN (Js 75 7 73 74),JN (Jw 76 2 75),JN (Jb 77 4 76),JM 78 0,JN (JA 79 78),JN (Jw 80 4 79),JN (Jd 81 1 80),JM 82 11,JN (Js 83 7 81 82),JN (Jw 84 6 83),JN (Jd 85 1 84),JM 86 3,JN (Ji 87 Xd [.t 69,.t 77,.t 85,.t 86]),JN (Jy 88 0 87),JN (Jy 89 1 87),JN (Jy 90 2 87),JN (JC 4 8 88),JT 9 89,JM 10 90] .ret))) (JQ (JR [JN (Jr 92 .eql 40 1),JM 91 92] (JV 91 (JR [JN (Jr 93 .eql 40 4),JM 91 93] (JV 91 (JR [JN (Jr 94 .eql 40 6),JM 91 94] (JV 91 (JR [JN (Jr 95 .eql 40 7),JM 91 95] (JV 91 (JR [JN (Jr 96 .eql 40 9),JM 91 96] (JV 91 (JS [JN (Jr 97 .eql 40 11),JM 91 97]))))))))))) (JU 91 (JR [JN (Ja 98 4 5),JT 99 2,JN (JC 4 8 98),JT 9 99,JN (Jv 10 Jkt)] .ret))))))) (JR [JM 100 3,JM 12 100] (JQ (JR [JN (Jw 101 0 5),JN (Jc 102 1 101),JN (Jh 103 ZaL [.t 102])] (JU 103 (JS [JM 104 0,JN (JA 105 104),JN (Jw 106 0 105),JN (Jb 107 4 106),JM 108 3,JN (Jw 109 1 5),JN (Jc 110 1 109),JN (Jh 111 QV [.t 107,.t 108,.t 110]),JM 12 111]))) (JQ (JR [JM 113 0,JN (Jw 114 3 5),JN (Jc 115 1 114),JN (Ju 116 4 115 0),JN (Jb 117 4 116),JM 118 2,JM 119 12,JN (Ji 120 Xd [.t 113,.t 117,.t 118,.t 119]),JT 112 120,JN (Jy 121 0 112),JN (Jy 122 1 112),JN (Jy 123 2 112),JN (.alloc 13 [N 0,N 0,Je 1,Je 1]),JN (JC 4 13 121),JT 14 122,JM 15 123] (.frz 13)) (JQ (JR [JM 124 15,JN (Jp 125 124)] (JU 125 (JR [JN (Ja 126 4 5),JN (JC 4 8 126),JN (Jv 9 (.k (Je 1))),JN (Jv 10 Jkf)] .ret))) (JQ (JR [JN (Jw 127 0 5),JN (Jc 128 1 127)] (.block 1 (JR [JN (Jr 130 .eql 128 2),JM 129 130] (.cond (.t 129) (JQ (JR [JT 132 0,JN (Jw 133 3 5),JN (Jc 134 1 133),JN (Ju 135 4 134 1),JN (Jb 136 4 135),JT 137 2,JM 138 3,JN (Ji 139 Xd [.t 132,.t 136,.t 137,.t 138]),JT 131 139,JN (Jy 140 0 131),JN (Jy 141 1 131),JN (Jy 142 2 131),JN (.alloc 16 [N 0,N 0,Je 1,Je 1]),JN (JC 4 16 140),JT 17 141,JM 18 142] (.frz 16)) (JR [JN (Jw 143 1 13),JN (Jc 144 1 143),JN (Jw 145 1 16),JN (Jc 146 1 145),JN (Jq 147 .add 144 146),JN (Jr 148 .rem 147 3),JN (.build 149 [N 0,N 0,Je 1,Je 1] [(0,1,Jk 1),(1,1,.t 148)]),JM 150 18,JN (JC 4 8 149),JN (Jv 9 (.k (Je 1))),JM 10 150] .ret)) (JR [JN (Jr 152 .eql 128 3),JM 151 152] (.cond (.t 151) (JQ (JR [JN (Jw 153 1 13),JN (Jc 154 1 153),JN (Jr 155 .eql 154 0)] (JU 155 (JR [JT 156 0,JN (Jw 157 3 5),JN (Jc 158 1 157),JN (Ju 159 4 158 1),JN (Jb 160 4 159),JT 161 2,JM 162 3,JN (Ji 163 Xd [.t 156,.t 160,.t 161,.t 162]),JN (Jy 164 0 163),JN (Jy 165 1 163),JN (Jy 166 2 163),JN (JC 4 8 164),JT 9 165,JM 10 166] .ret))) (JR [JT 167 0,JN (Jw 168 3 5),JN (Jc 169 1 168),JN (Ju 170 4 169 2),JN (Jb 171 4 170),JT 172 2,JM 173 3,JN (Ji 174 Xd [.t 167,.t 171,.t 172,.t 173]),JN (Jy 175 0 174),JN (Jy 176 1 174),JN (Jy 177 2 174),JN (JC 4 8 175),JT 9 176,JM 10 177] .ret)) (JR [JN (Jr 179 .eql 128 10),JM 178 179] (.cond (.t 178) (JR [JM 180 0,JM 181 0,JN (JA 182 181),JN (Jw 183 0 182),JN (Jb 184 4 183),JM 185 3,JN (Jw 186 1 13),JN (Jc 187 1 186),JN (Jh 188 QV [.t 184,.t 185,.t 187]),JN (Jw 189 3 5),JN (Jc 190 1 189),JN (Ju 191 4 190 1),JN (Jb 192 4 191),JT 193 2,JN (Ji 194 YN [.t 180,.t 188,.t 192,.t 193]),JM 19 194] (JR [JT 195 0,JN (Jw 196 3 13),JN (Jc 197 1 196),JN (Ju 198 4 197 0),JN (Jb 199 4 198),JM 200 19,JT 201 14,JN (Jh 202 Yt [.t 200,.t 201]),JM 203 3,JN (Ji 204 Xd [.t 195,.t 199,.t 202,.t 203]),JN (Jy 205 0 204),JN (Jy 206 1 204),JN (Jy 207 2 204),JN (JC 4 8 205),JT 9 206,JM 10 207] .ret)) (JR [JN (Jr 209 .eql 128 5),JM 208 209] (.cond (.t 208) (JR [JM 210 0,JM 211 12,JN (Jw 212 3 13),JN (Jc 213 1 212),JN (Ju 214 4 213 0),JN (Jb 215 4 214),JM 216 14,JN (Ji 217 YN [.t 210,.t 211,.t 215,.t 216]),JM 20 217] (JR [JM 218 0,JM 219 12,JN (Jw 220 3 13),JN (Jc 221 1 220),JN (Ju 222 4 221 1),JN (Jb 223 4 222),JT 224 14,JN (Ji 225 YN [.t 218,.t 219,.t 223,.t 224]),JM 21 225] (JR [JT 226 0,JN (Jw 227 3 5),JN (Jc 228 1 227),JN (Ju 229 4 228 1),JN (Jb 230 4 229),JM 231 21,JM 232 20,JT 233 2,JN (Jh 234 Yt [.t 232,.t 233]),JN (Jh 235 Yt [.t 231,.t 234]),JM 236 3,JN (Ji 237 Xd [.t 226,.t 230,.t 235,.t 236]),JN (Jy 238 0 237),JN (Jy 239 1 237),JN (Jy 240 2 237),JN (JC 4 8 238),JT 9 239,JM 10 240] .ret))) (JR [JN (Jr 242 .eql 128 8),JM 241 242] (JU 241 (JR [JM 243 0,JM 244 12,JN (Jw 245 3 13),JN (Jc 246 1 245),JN (Ju 247 4 246 0),JN (Jb 248 4 247),JT 249 14,JN (Ji 250 YN [.t 243,.t 244,.t 248,.t 249]),JM 22 250] (JR [JN (Jn 23 1)] (JQ (JR [JN (Jw 251 0 13),JN (Jc 252 1 251),JN (Jr 253 .eql 252 7)] (JU 253 (JS [JN (Jn 23 2)]))) (JR [JT 254 0,JN (Jw 255 3 5),JN (Jc 256 1 255),JM 257 23,JN (Js 258 4 256 257),JN (Jb 259 4 258),JM 260 22,JT 261 2,JN (Jh 262 Yt [.t 260,.t 261]),JM 263 3,JN (Ji 264 Xd [.t 254,.t 259,.t 262,.t 263]),JN (Jy 265 0 264),JN (Jy 266 1 264),JN (Jy 267 2 264),JN (JC 4 8 265),JT 9 266,JM 10 267] .ret)))))))))))))))) (JR [JM 268 0,JM 269 0,JN (JA 270 269),JN (Jw 271 0 270),JN (Jb 272 4 271),JM 273 12,JN (Jw 274 1 13),JN (Jc 275 1 274),JN (Jh 276 QV [.t 272,.t 273,.t 275]),JN (Jw 277 3 13),JN (Jc 278 1 277),JN (Ju 279 4 278 0),JN (Jb 280 4 279),JT 281 14,JN (Ji 282 YN [.t 268,.t 276,.t 280,.t 281]),JM 24 282] (JR [JT 283 0,JN (Jw 284 3 5),JN (Jc 285 1 284),JN (Ju 286 4 285 1),JN (Jb 287 4 286),JM 288 24,JT 289 2,JN (Jh 290 Yt [.t 288,.t 289]),JM 291 3,JN (Ji 292 Xd [.t 283,.t 287,.t 290,.t 291]),JN (Jy 293 0 292),JN (Jy 294 1 292),JN (Jy 295 2 292),JN (JC 4 8 293),JT 9 294,JM 10 295] .ret))))))))))
theorem ZmX:Qq Tryz.prog Xd Zl2=some (WY,[.cell 8 true 4,.tmp 9,.tmp 10],296):=by kernel_rfl
def ZlX:List (Nat×List Md):=MM [(1,1105)]
def Zfw:C:=JR [JN (Jv 2 (.k (Je 1)))] (JR [JN (.bslice 3 1 0 [] []),JT 4 0,JN (JB 5 1 3 4),JT 2 5] .ret)
theorem ZlU:Qq Tryz.prog Yk ZlX=some (Zfw,[.tmp 2],6):=by kernel_rfl
def Zoy:List (Nat×List Md):=MM [(1,8785),(1000001,1609)]
def ZgE:C:=JR [JN (Jz 3 0),JN (Jn 6 0)] (JQ (JX 3 (JS [JN (Jw 7 2 3),JN (Jc 8 1 7),JM 9 1,JN (Jw 10 0 3),JN (Jc 11 1 10),JN (Jq 12 .mul 9 11),JM 13 2,JN (Jq 14 .add 12 13),JN (Js 15 1 8 14),JN (Jd 16 1 15),JM 6 16])) .ret)
theorem Zor:Qq Tryz.prog QV Zoy=some (ZgE,[.tmp 6],17):=by kernel_rfl
def ZjO:List (Nat×List Md):=MM [(1,19480748618),(3,70794),(1000001,104009)]
def Zex:C:=JR [JN (Jz 3 0),JN (Jz 5 2),JN (Jv 6 (.k (.sc (.pointer none))))] (JQ (JQ (JX 3 (JX 5 (JS [JN (Ja 7 4 3),JN (Jh 8 Zar [.t 7]),JN (Jp 9 8),JM 10 9,JO 10 (Ja 11 4 3),JO 10 (Jm 12 1),JO 10 (Jh 13 Vz [.t 11,.t 12]),JO 10 (Jp 14 13),JN (Jo 15 10 14),JM 16 15,JO 16 (Ja 17 4 3),JO 16 (Ja 18 4 5),JO 16 (Jm 19 1),JO 16 (Jx 20 19),JO 16 (Jh 21 Zax [.t 17,.t 18,.t 20]),JO 16 (Jp 22 21),JN (Jo 23 16 22)]))) (JU 23 (JR [JN (Jv 6 (.k (.sc (.pointer none))))] .ret))) (JR [JN (Ja 24 4 3),JN (.build 25 [N 0,Je 1,Je 1,Je 1] [(0,4,.t 24)]),JT 26 1,JN (Ja 27 4 5),JN (Jh 28 Zz [.t 25,.t 26,.t 27]),JT 6 28] .ret))
theorem ZjP:Qq Tryz.prog Zbk ZjO=some (Zex,[.tmp 6],29):=by kernel_rfl
def Zbz:List (Nat×List Md):=MM [(3,1105)]
def YD:C:=JR [JN (Jv 2 (.k (Je 1)))] (JQ (JR [JM 3 0,JN (.bin 4 .slc .eql (.t 3) (.k (Je 1)))] (JU 4 (JR [JN (Jv 2 (.k (Je 1)))] .ret))) (JR [JN (.bslice 5 1 0 [] []),JT 6 0,JN (JB 7 1 5 6),JT 2 7] .ret))
theorem Zby:Qq Tryz.prog WL Zbz=some (YD,[.tmp 2],8):=by kernel_rfl
def Zjn:List (Nat×List Md):=MM [(3,2),(6,137),(7,4493897),(1000001,201)]
def ZdD:C:=JR [JN (Jz 2 0),JN (Jv 4 Jkf)] (JQ (JQ (JX 2 (JS [JM 9 1,JN (Jh 10 Jg [.t 9]),JN (Jp 11 10)])) (JU 11 (JR [JN (Jv 4 Jkf)] .ret))) (JQ (JR [JT 12 1,JN (Jx 13 12),JN (Jn 14 0)] (JW 0 (JR [JN (Jq 15 .lss 14 13)] (JQ (JV 15 (.exit 0)) (JQ (.block 1 (JR [JN (Js 16 1 12 14),JN (Jd 17 1 16),JM 6 17] (JR [JM 19 6,JN (Jh 20 Yg [.t 19]),JT 18 20,JN (Jy 21 0 18),JN (Jy 22 1 18),JM 7 21,JM 8 22] (JR [JM 23 7,JN (Jr 24 .eql 23 3),JM 25 24,JO 25 (Jm 26 7),JO 25 (Jr 27 .eql 26 4),JN (Jo 28 25 27),JM 29 28,JP 29 (Ja 30 4 2),JP 29 (Jm 31 8),JP 29 (Jh 32 WD [.t 30,.t 31]),JP 29 (Jp 33 32),JN (Jl 34 29 33)] (JU 34 (JR [JN (Jv 4 Jkf)] .ret)))))) (JS [JN (Jr 35 .add 14 1),JM 14 35])))))) (JR [JN (Jv 4 Jkt)] .ret)))
theorem Zja:Qq Tryz.prog ZK Zjn=some (ZdD,[.tmp 4],36):=by kernel_rfl
def Vc:List (Nat×List Md):=MM [(1,18)]
def Xw:C:=JR [JN (Jv 4 Jkf)] (JR [JT 5 0,JT 6 1,JN (Jh 7 Xh [.t 5,.t 6]),JN (Jr 8 .geq 7 0),JM 4 8] .ret)
theorem YL:Qq Tryz.prog Wv Vc=some (Xw,[.tmp 4],9):=by kernel_rfl
def Zhm:List (Nat×List Md):=MM [(1,137)]
def ZbH:C:=JR [JN (Jv 2 Jkf)] (JR [JM 6 0,JN (Jh 7 Yg [.t 6]),JT 5 7,JN (Jy 8 0 5),JN (Jy 9 1 5),JM 3 8,JM 4 9] (JR [JM 10 3,JN (Jr 11 .eql 10 3),JM 2 11] .ret))
theorem Zg3:Qq Tryz.prog X2 Zhm=some (ZbH,[.tmp 2],12):=by kernel_rfl
def Zn5:List (Nat×List Md):=MM []
def ZgJ:C:=JR [JN (Jn 2 0),JN (Jn 3 0)] (JQ (.block 0 (JR [JM 5 0,JN (Jh 6 W0 [.t 5,Jk 0,Jk 2]),JM 4 6] (.cond (.t 4) (JR [JM 7 0,JM 2 7,JN (Jn 3 (-1))] .ret) (JR [JM 9 0,JN (Jh 10 W0 [.t 9,Jk 3,Jk 18]),JM 8 10] (.cond (.t 8) (JR [JM 11 0,JN (Jr 12 .sub 11 3),JN (Jn 2 3),JM 3 12] .ret) (JR [JM 14 0,JN (Jh 15 W0 [.t 14,Jk 19,Jk 34]),JM 13 15] (.cond (.t 13) (JR [JM 16 0,JN (Jr 17 .sub 16 19),JN (Jn 2 4),JM 3 17] .ret) (JR [JM 19 0,JN (Jr 20 .eql 19 35),JM 18 20] (.cond (.t 18) (JR [JN (Jn 2 3),JN (Jn 3 (-1))] .ret) (JR [JM 22 0,JN (Jr 23 .eql 22 36),JM 21 23] (JU 21 (JR [JN (Jn 2 4),JN (Jn 3 (-1))] .ret)))))))))))) (JR [JN (Jn 2 5),JN (Jn 3 (-1))] .ret))
theorem Zoz:Qq Tryz.prog Yg Zn5=some (ZgJ,[.tmp 2,.tmp 3],24):=by kernel_rfl
def Zdj:List (Nat×List Md):=MM [(6,17),(8,70282),(10,9425459122762),(12,1178067047049),(13,1178067079818),(14,1105),(16,1178067047049),(17,17),(18,18409132682),(19,18409132682),(21,1178067047049),(23,2),(24,41453682712722423540949641),(28,561737),(29,1178067047049),(31,2),(32,17),(34,38048841),(35,38310985),(36,75403809596042),(38,80964224048285060735625),(39,41453682712722423540949641),(40,1106),(1000001,102985),(1000024,7077085128790601),(1000038,3623467585907298889),(1000039,3623467585907298889),(2000012,26996937289),(2000013,1727803986505),(2000016,110579455136329),(2000021,7077085128725065),(2000029,3623467585907233353)]
def ZD:C:=JR [JN (Jz 5 1),JN (.alloc 8 [N 0,N 0,Je 1,Je 1]),JN (Jv 9 (.k (Je 1)))] (JQ (JX 5 (JS [JM 24 0,JN (JA 25 24),JN (Jw 26 5 25),JN (Jd 27 1 26),JN (Jr 28 .add 27 1),JN (JA 29 24),JN (Jw 30 5 29),JN (JC 1 30 28)])) (JQ (JR [JM 31 0,JN (JA 32 31),JN (Jw 33 5 32),JN (Jd 34 1 33),JN (Jr 35 .gtr 34 3000)] (JU 35 (JS [JM 36 0,JN (JA 37 36),JN (Jw 38 6 37),JN (.store 1 (.t 38) Jkt)]))) (JQ (JR [JM 39 0,JN (JA 40 39),JN (Jw 41 6 40),JN (Jd 42 1 41)] (JU 42 (JR [JN (.build 43 [N 0,N 0,Je 1,Je 1] []),JN (JC 4 8 43),JN (Jv 9 (.k (Je 1)))] .ret))) (JQ (JR [JN (Jw 44 0 5),JN (Jc 45 1 44)] (.block 0 (JR [JN (Jr 47 .eql 45 0),JM 46 47] (.cond (.t 46) (JR [JT 48 2,JN (Jw 49 1 5),JN (Jc 50 1 49),JN (Js 51 1 48 50),JN (Jd 52 1 51),JT 10 52] (JR [JM 53 10,JM 54 0,JN (JA 55 54),JN (Jw 56 0 55),JN (Jb 57 4 56),JM 58 10,JN (JA 59 58),JN (Jw 60 0 59),JN (Jw 61 1 60),JN (Jd 62 1 61),JM 63 3,JN (Jh 64 QF [.t 57,.t 62,.t 63]),JN (JA 65 53),JN (Jw 66 0 65),JN (Jw 67 1 66),JN (JC 1 67 64)] (JR [JT 68 0,JM 69 10,JN (JA 70 69),JN (Jw 71 2 70),JN (Jb 72 4 71),JM 73 10,JN (JA 74 73),JN (Jw 75 6 74),JN (Jd 76 1 75),JM 77 3,JN (Ji 78 QJ [.t 68,.t 72,.t 76,.t 77]),JN (Jy 79 0 78),JN (Jy 80 1 78),JN (JC 4 8 79),JT 9 80] .ret))) (JR [JN (Jr 82 .eql 45 2),JM 81 82] (.cond (.t 81) (JQ (JR [JM 84 0,JN (Jw 85 3 5),JN (Jc 86 1 85),JN (Ju 87 4 86 0),JN (Jb 88 4 87),JM 89 2,JM 90 3,JN (Ji 91 QJ [.t 84,.t 88,.t 89,.t 90]),JT 83 91,JN (Jy 92 0 83),JN (Jy 93 1 83),JN (.alloc 11 [N 0,N 0,Je 1,Je 1]),JN (JC 4 11 92),JT 12 93] (.frz 11)) (JQ (JR [JT 95 0,JN (Jw 96 3 5),JN (Jc 97 1 96),JN (Ju 98 4 97 1),JN (Jb 99 4 98),JT 100 2,JM 101 3,JN (Ji 102 QJ [.t 95,.t 99,.t 100,.t 101]),JT 94 102,JN (Jy 103 0 94),JN (Jy 104 1 94),JN (.alloc 13 [N 0,N 0,Je 1,Je 1]),JN (JC 4 13 103),JT 14 104] (.frz 13)) (JR [JN (Jw 105 1 11),JN (Jc 106 1 105),JN (Jw 107 1 13),JN (Jc 108 1 107),JN (Jq 109 .add 106 108),JN (Jr 110 .rem 109 3),JN (.build 111 [N 0,N 0,Je 1,Je 1] [(0,1,Jk 1),(1,1,.t 110)]),JN (JC 4 8 111),JN (Jv 9 (.k (Je 1)))] .ret))) (JR [JN (Jr 113 .eql 45 3),JM 112 113] (.cond (.t 112) (JQ (JR [JM 115 0,JN (Jw 116 3 5),JN (Jc 117 1 116),JN (Ju 118 4 117 0),JN (Jb 119 4 118),JM 120 2,JM 121 3,JN (Ji 122 QJ [.t 115,.t 119,.t 120,.t 121]),JT 114 122,JN (Jy 123 0 114),JN (Jy 124 1 114),JN (.alloc 15 [N 0,N 0,Je 1,Je 1]),JN (JC 4 15 123),JT 16 124] (.frz 15)) (JQ (JR [JN (Jw 125 1 15),JN (Jc 126 1 125),JN (Jr 127 .eql 126 0)] (JU 127 (JR [JT 128 0,JN (Jw 129 3 5),JN (Jc 130 1 129),JN (Ju 131 4 130 1),JN (Jb 132 4 131),JT 133 2,JM 134 3,JN (Ji 135 QJ [.t 128,.t 132,.t 133,.t 134]),JN (Jy 136 0 135),JN (Jy 137 1 135),JN (JC 4 8 136),JT 9 137] .ret))) (JR [JT 138 0,JN (Jw 139 3 5),JN (Jc 140 1 139),JN (Ju 141 4 140 2),JN (Jb 142 4 141),JT 143 2,JM 144 3,JN (Ji 145 QJ [.t 138,.t 142,.t 143,.t 144]),JN (Jy 146 0 145),JN (Jy 147 1 145),JN (JC 4 8 146),JT 9 147] .ret))) (JR [JN (Jr 149 .eql 45 10),JM 148 149] (.cond (.t 148) (JQ (JR [JM 151 0,JN (Jw 152 3 5),JN (Jc 153 1 152),JN (Ju 154 4 153 0),JN (Jb 155 4 154),JM 156 2,JM 157 3,JN (Ji 158 QJ [.t 151,.t 155,.t 156,.t 157]),JT 150 158,JN (Jy 159 0 150),JN (Jy 160 1 150),JN (.alloc 17 [N 0,N 0,Je 1,Je 1]),JN (JC 4 17 159),JT 18 160] (.frz 17)) (JQ (JR [JM 161 0,JN (JA 162 161),JN (Jw 163 6 162),JN (Jd 164 1 163)] (JU 164 (JR [JN (Ja 165 4 17),JN (JC 4 8 165),JN (Jv 9 (.k (Je 1)))] .ret))) (JQ (JX 5 (JX 17 (JS [JM 166 0,JN (Jw 167 3 17),JN (Jc 168 1 167),JN (Ju 169 4 168 0),JN (Ja 170 4 169),JT 171 18,JM 172 0,JM 173 0,JN (JA 174 173),JN (Jw 175 0 174),JN (Jb 176 4 175),JM 177 3,JN (Jw 178 1 17),JN (Jc 179 1 178),JN (Jh 180 Qs [.t 176,.t 177,.t 179]),JN (Jw 181 3 5),JN (Jc 182 1 181),JN (Ju 183 4 182 1),JN (Ja 184 4 183),JT 185 2,JN (Ji 186 W5 [.t 172,.t 180,.t 184,.t 185]),JN (.bslice 187 1 1 [.sc (.pointer none)] [(0,1,.t 186)]),JN (Ji 188 JJ [.t 171,.t 187]),JM 189 3,JN (Ji 190 QJ [.t 166,.t 170,.t 188,.t 189]),JN (Jy 191 0 190),JN (Jy 192 1 190),JN (JC 4 8 191),JT 9 192]))) .ret))) (JQ (JR [JN (Jr 194 .eql 45 5),JM 193 194] (JV 193 (JR [JN (Jr 195 .eql 45 8),JM 193 195] (JV 193 (JS [JN (Jr 196 .eql 45 12),JM 193 196]))))) (JU 193 (JR [JM 197 0,JN (JA 198 197),JN (Jw 199 0 198),JN (Jb 200 4 199),JM 201 3,JN (Jw 202 1 5),JN (Jc 203 1 202),JN (Jh 204 Qs [.t 200,.t 201,.t 203]),JM 19 204] (JQ (JR [JM 206 0,JN (Jw 207 3 5),JN (Jc 208 1 207),JN (Ju 209 4 208 0),JN (Jb 210 4 209),JM 211 2,JM 212 19,JN (Ji 213 QJ [.t 206,.t 210,.t 211,.t 212]),JT 205 213,JN (Jy 214 0 205),JN (Jy 215 1 205),JN (.alloc 20 [N 0,N 0,Je 1,Je 1]),JN (JC 4 20 214),JT 21 215] (.frz 20)) (JQ (JR [JM 216 0,JN (JA 217 216),JN (Jw 218 6 217),JN (Jd 219 1 218)] (JU 219 (JR [JN (Ja 220 4 20),JN (JC 4 8 220),JN (Jv 9 (.k (Je 1)))] .ret))) (JQ (JR [JN (Jw 221 0 5),JN (Jc 222 1 221)] (.block 1 (JR [JN (Jr 224 .eql 222 5),JM 223 224] (.cond (.t 223) (JR [JM 225 0,JM 226 19,JN (Jw 227 3 20),JN (Jc 228 1 227),JN (Ju 229 4 228 0),JN (Jb 230 4 229),JM 231 21,JN (Ji 232 W5 [.t 225,.t 226,.t 230,.t 231]),JT 22 232] (JR [JM 233 0,JM 234 19,JN (Jw 235 3 20),JN (Jc 236 1 235),JN (Ju 237 4 236 1),JN (Jb 238 4 237),JT 239 21,JN (Ji 240 W5 [.t 233,.t 234,.t 238,.t 239]),JT 23 240] (JR [JT 241 0,JN (Jw 242 3 5),JN (Jc 243 1 242),JN (Ju 244 4 243 1),JN (Ja 245 4 244),JT 246 2,JT 247 23,JT 248 22,JN (.bslice 249 1 2 [.sc (.pointer none),.sc (.pointer none)] [(0,1,.t 247),(1,1,.t 248)]),JN (Ji 250 JJ [.t 246,.t 249]),JM 251 3,JN (Ji 252 QJ [.t 241,.t 245,.t 250,.t 251]),JN (Jy 253 0 252),JN (Jy 254 1 252),JN (JC 4 8 253),JT 9 254] .ret))) (JR [JN (Jr 256 .eql 222 8),JM 255 256] (JU 255 (JQ (JX 5 (JX 20 (JS [JM 257 0,JN (Jw 258 3 5),JN (Jc 259 1 258),JN (Jw 260 0 20),JN (Jc 261 1 260),JN (.bin 262 .num .add (Jk 1) (.t 261)),JN (Jr 263 .sub 262 6),JN (Js 264 4 259 263),JN (Ja 265 4 264),JT 266 2,JM 267 0,JM 268 19,JN (Jw 269 3 20),JN (Jc 270 1 269),JN (Ju 271 4 270 0),JN (Ja 272 4 271),JT 273 21,JN (Ji 274 W5 [.t 267,.t 268,.t 272,.t 273]),JN (.bslice 275 1 1 [.sc (.pointer none)] [(0,1,.t 274)]),JN (Ji 276 JJ [.t 266,.t 275]),JM 277 3,JN (Ji 278 QJ [.t 257,.t 265,.t 276,.t 277]),JN (Jy 279 0 278),JN (Jy 280 1 278),JN (JC 4 8 279),JT 9 280]))) .ret))))))) (JQ (JX 5 (JX 20 (JS [JM 281 0,JN (Jw 282 3 5),JN (Jc 283 1 282),JN (Ju 284 4 283 1),JN (Ja 285 4 284),JT 286 2,JM 287 0,JM 288 0,JN (JA 289 288),JN (Jw 290 0 289),JN (Jb 291 4 290),JM 292 19,JN (Jw 293 1 20),JN (Jc 294 1 293),JN (Jh 295 Qs [.t 291,.t 292,.t 294]),JN (Jw 296 3 20),JN (Jc 297 1 296),JN (Ju 298 4 297 0),JN (Ja 299 4 298),JT 300 21,JN (Ji 301 W5 [.t 287,.t 295,.t 299,.t 300]),JN (.bslice 302 1 1 [.sc (.pointer none)] [(0,1,.t 301)]),JN (Ji 303 JJ [.t 286,.t 302]),JM 304 3,JN (Ji 305 QJ [.t 281,.t 285,.t 303,.t 304]),JN (Jy 306 0 305),JN (Jy 307 1 305),JN (JC 4 8 306),JT 9 307]))) .ret))))))))))))))))) (JR [JN (Ja 308 4 5),JT 309 2,JN (JC 4 8 308),JT 9 309] .ret)))))
theorem KV:Qq Tryz.prog QJ Zdj=some (ZD,[.cell 8 true 4,.tmp 9],310):=by kernel_rfl
def ZdN:List (Nat×List Md):=MM [(1,8785),(1000001,1609)]
def Vm:C:=JR [JN (Jz 3 0),JN (Jn 6 0)] (JQ (JX 3 (JS [JN (Jw 7 2 3),JN (Jc 8 1 7),JM 9 1,JN (Jw 10 0 3),JN (Jc 11 1 10),JN (Jq 12 .mul 9 11),JM 13 2,JN (Jq 14 .add 12 13),JN (Js 15 1 8 14),JN (Jd 16 1 15),JM 6 16])) .ret)
theorem ZdT:Qq Tryz.prog Qs ZdN=some (Vm,[.tmp 6],17):=by kernel_rfl
def Zm4:List (Nat×List Md):=MM [(1,8778),(1000001,201)]
def ZfW:C:=JR [JN (Jz 2 0),JN (Jv 4 Jkf)] (JQ (JX 2 (JS [JN (Ja 5 4 2),JM 6 1,JN (Jh 7 Zb1 [.t 5,.t 6]),JM 8 7,JP 8 (Jt 9 1),JP 8 (Jh 10 Kk [.t 9]),JN (Jl 11 8 10),JM 4 11])) .ret)
theorem ZmA:Qq Tryz.prog Zca Zm4=some (ZfW,[.tmp 4],12):=by kernel_rfl
def Zl9:List (Nat×List Md):=MM [(1,75463804621386),(1000001,13897)]
def Zfq:C:=JR [JN (Jz 3 0),JN (Jz 4 1),JN (Jv 6 Jkf)] (JQ (JX 3 (JX 4 (JS [JN (Ja 7 4 3),JN (Jh 8 ZJ [.t 7]),JM 9 8,JP 9 (Jm 10 2),JP 9 (Jh 11 XU [.t 10,Jk 0,Jk 8]),JN (Jl 12 9 11),JM 13 12,JP 13 (Ja 14 4 4),JP 13 (Jh 15 VT [.t 14,Jk 400]),JP 13 (Jr 16 .geq 15 0),JN (Jl 17 13 16),JM 18 17,JP 18 (Ja 19 4 4),JP 18 (Jm 20 2),JP 18 (Jw 21 0 3),JP 18 (Jc 22 1 21),JP 18 (Jh 23 VW [.t 19,.t 20,.t 22,Jkt]),JN (Jl 24 18 23),JM 6 24]))) .ret)
theorem ZmN:Qq Tryz.prog VV Zl9=some (Zfq,[.tmp 6],25):=by kernel_rfl
def Zkf:List (Nat×List Md):=MM [(3,17),(5,603160666477137),(6,8777),(7,287609425),(9,9424385413713),(10,9432975348305),(1000001,1609)]
def Zer:C:=JR [JN (Jz 3 1),JN (Jv 4 Jkf)] (JQ (JX 3 (JS [JM 6 0,JN (Ju 7 1 6 0),JN (Jd 8 1 7),JM 5 8])) (JQ (.block 0 (JR [JM 10 5,JN (Jr 11 .eql 10 0),JM 9 11] (.cond (.t 9) (JR [JN (Jw 12 0 3),JN (Jc 13 1 12),JN (Jr 14 .eql 13 1),JM 4 14] .ret) (JR [JM 16 5,JN (Jr 17 .eql 16 1),JM 15 17] (.cond (.t 15) (JR [JN (Jw 18 0 3),JN (Jc 19 1 18),JN (Jr 20 .eql 19 4),JM 21 20,JP 21 (Jm 22 0),JP 21 (Jh 23 Wz [.t 22,Jk 0]),JP 21 (Jw 24 3 3),JP 21 (Jc 25 1 24),JP 21 (Ju 26 4 25 0),JP 21 (Jb 27 4 26),JP 21 (Jh 28 XT [.t 23,.t 27]),JN (Jl 29 21 28),JM 30 29,JP 30 (Jm 31 0),JP 30 (Jh 32 Wz [.t 31,Jk 1]),JP 30 (Jw 33 3 3),JP 30 (Jc 34 1 33),JP 30 (Ju 35 4 34 1),JP 30 (Jb 36 4 35),JP 30 (Jh 37 XT [.t 32,.t 36]),JN (Jl 38 30 37),JM 4 38] .ret) (JR [JM 40 5,JN (Jr 41 .eql 40 2),JM 42 41,JP 42 (Jw 43 0 3),JP 42 (Jc 44 1 43),JP 42 (Jr 45 .eql 44 6),JN (Jl 46 42 45),JM 39 46] (.cond (.t 39) (JR [JN (Jw 47 2 3),JN (Jc 48 1 47),JM 49 0,JN (Jh 50 Wz [.t 49,Jk 1]),JN (Jh 51 YX [.t 48,.t 50]),JM 52 51,JP 52 (Jm 53 0),JP 52 (Jh 54 Wz [.t 53,Jk 0]),JP 52 (Jw 55 3 3),JP 52 (Jc 56 1 55),JP 52 (Ju 57 4 56 0),JP 52 (Jb 58 4 57),JP 52 (Jh 59 XT [.t 54,.t 58]),JN (Jl 60 52 59),JM 4 60] .ret) (JR [JM 62 5,JN (Jr 63 .eql 62 2),JM 61 63] (JU 61 (JR [JN (Jw 64 0 3),JN (Jc 65 1 64),JN (Jr 66 .eql 65 7),JM 67 66,JP 67 (Jw 68 2 3),JP 67 (Jc 69 1 68),JP 67 (Jm 70 0),JP 67 (Jh 71 Wz [.t 70,Jk 0]),JP 67 (Jh 72 YX [.t 69,.t 71]),JN (Jl 73 67 72),JM 74 73,JP 74 (Jm 75 0),JP 74 (Jh 76 Wz [.t 75,Jk 1]),JP 74 (Jw 77 3 3),JP 74 (Jc 78 1 77),JP 74 (Ju 79 4 78 0),JP 74 (Jb 80 4 79),JP 74 (Jh 81 XT [.t 76,.t 80]),JN (Jl 82 74 81),JM 4 82] .ret)))))))))) (JR [JN (Jw 83 0 3),JN (Jc 84 1 83),JN (Jr 85 .eql 84 11),JM 86 85,JP 86 (Jw 87 1 3),JP 86 (Jc 88 1 87),JP 86 (Jm 89 5),JP 86 (Jh 90 Zg [.t 89]),JP 86 (Jq 91 .eql 88 90),JN (Jl 92 86 91),JM 93 92,JP 93 (Jt 94 0),JP 93 (Jh 95 Wz [.t 94,Jk 0]),JP 93 (Jw 96 3 3),JP 93 (Jc 97 1 96),JP 93 (Ju 98 4 97 0),JP 93 (Jb 99 4 98),JP 93 (Jh 100 XT [.t 95,.t 99]),JN (Jl 101 93 100),JM 4 101] .ret)))
theorem ZjU:Qq Tryz.prog XT Zkf=some (Zer,[.tmp 4],102):=by kernel_rfl
def Zog:List (Nat×List Md):=MM [(1,4450726473),(2,2),(1000001,823881)]
def ZcX:C:=JR [JN (Jz 6 2),JN (Jn 8 0)] (JQ (JX 6 (JS [JM 9 0,JM 10 0,JN (JA 11 10),JN (Jw 12 4 11),JN (JE 13 1 12),JM 14 1,JN (Ja 15 4 6),JT 16 3,JN (.build 17 [N 0,N 0,N 0,N 0,Je 1,Je 1,Je 1] [(0,1,.t 14),(2,4,.t 15),(6,1,.t 16)]),JN (.bslice 18 7 1 [N 0,N 0,N 0,N 0,Je 1,Je 1,Je 1] [(0,7,.t 17)]),JN (.call (.ap 7) (some 19) (.k (.fn 0 [])) [.t 13,.t 18]),JN (JA 20 9),JN (Jw 21 4 20),JN (JC 1 21 19)])) (JR [JT 22 0,JN (JA 23 22),JN (Jw 24 4 23),JN (Jd 25 1 24),JN (Jx 26 25),JN (Jr 27 .sub 26 1),JM 8 27] .ret))
theorem ZoI:Qq Tryz.prog YN Zog=some (ZcX,[.tmp 8],28):=by kernel_rfl
def Kc:List (Nat×List Md):=MM [(1,18)]
def Ya:C:=JR [JN (Jv 4 Jkf)] (JR [JT 5 0,JT 6 1,JN (Jh 7 Xt [.t 5,.t 6]),JN (Jr 8 .geq 7 0),JM 4 8] .ret)
theorem Kd:Qq Tryz.prog WC Kc=some (Ya,[.tmp 4],9):=by kernel_rfl
def Zfi:List (Nat×List Md):=MM [(1,17)]
def ZaB:C:=JR [JN (Jv 3 Jkf)] (JR [JN (Jb 4 4 1),JT 5 0,JN (Jh 6 Kt [.t 4,.t 5]),JN (Jp 7 6),JM 3 7] .ret)
theorem Zfj:Qq Tryz.prog Yb Zfi=some (ZaB,[.tmp 3],8):=by kernel_rfl
def ZoP:List (Nat×List Md):=MM [(5,35951178),(7,18)]
def Zg1:C:=JR [JN (Jv 2 (.k (Je 1)))] (JR [JN (Jv 3 (.k (Je 1)))] (JQ (JR [JN (Jn 4 1)] (JW 0 (JQ (JR [JM 6 4,JM 7 0,JN (Jx 8 7),JN (Jq 9 .lss 6 8)] (JV 9 (.exit 0))) (.block 1 (JR [JM 10 0,JM 11 4,JN (Jh 12 Xl [.t 10,.t 11]),JM 5 12] (JR [JT 13 3,JM 14 0,JM 15 4,JM 16 5,JM 17 5,JN (.slice 18 1 (.t 14) (some (.t 15)) (some (.t 16)) (some (.t 17))),JN (.bslice 19 1 1 [Je 1] [(0,1,.t 18)]),JN (JB 20 1 13 19),JT 3 20] (JS [JM 21 5,JM 4 21]))))))) (JR [JT 22 3,JT 2 22] .ret)))
theorem Zoj:Qq Tryz.prog Zs ZoP=some (Zg1,[.tmp 2],23):=by kernel_rfl
def ZbB:List (Nat×List Md):=MM []
def Kb:C:=JR [JN (Jv 4 Jkf)] (JQ (JR [JM 6 0,JN (Jx 7 6),JM 8 1,JN (Jx 9 8),JN (Jq 10 .neq 7 9)] (JU 10 (JR [JN (Jv 4 Jkf)] .ret))) (JQ (JR [JM 11 0,JN (Jx 12 11),JN (Jn 13 0)] (JW 0 (JR [JN (Jq 14 .lss 13 12)] (JQ (JV 14 (.exit 0)) (JQ (.block 1 (JR [JM 15 13,JM 5 15] (JR [JM 16 0,JM 17 5,JN (Js 18 1 16 17),JN (Jd 19 1 18),JM 20 1,JM 21 5,JN (Js 22 1 20 21),JN (Jd 23 1 22),JN (Jq 24 .neq 19 23)] (JU 24 (JR [JN (Jv 4 Jkf)] .ret))))) (JS [JN (Jr 25 .add 13 1),JM 13 25])))))) (JR [JN (Jv 4 Jkt)] .ret)))
theorem ZbA:Qq Tryz.prog WM ZbB=some (Kb,[.tmp 4],26):=by kernel_rfl
def ZmL:List (Nat×List Md):=MM [(3,8778),(4,8778)]
def ZfC:C:=JR [JN (Jv 4 (.k (Je 1)))] (JR [JM 6 0,JN (Jh 7 ZaJ [.t 6,Jk 1]),JM 5 7] (JQ (JR [JM 8 1,JN (Jr 9 .eql 8 0)] (JU 9 (JR [JT 10 0,JM 11 5,JN (.slice 12 1 (.t 10) (some (Jk 1)) (some (.t 11)) none),JN (Jh 13 Yk [.t 12]),JT 4 13] .ret))) (JR [JT 14 0,JM 15 5,JN (.slice 16 1 (.t 14) (some (.t 15)) none none),JN (Jh 17 Yk [.t 16]),JT 4 17] .ret)))
theorem Zl5:Qq Tryz.prog Wz ZmL=some (ZfC,[.tmp 4],18):=by kernel_rfl
def Zou:List (Nat×List Md):=MM []
def Zhh:C:=JR [JN (Jv 2 Jkf)] (JR [JM 3 0,JN (Jh 4 XU [.t 3,Jk 19,Jk 34]),JM 5 4,JO 5 (Jm 6 0),JO 5 (Jr 7 .eql 6 36),JN (Jo 8 5 7),JM 2 8] .ret)
theorem ZoO:Qq Tryz.prog ZaI Zou=some (Zhh,[.tmp 2],9):=by kernel_rfl
def ZjR:List (Nat×List Md):=MM []
def ZeE:C:=JR [JN (Jn 2 0)] (JQ (.block 0 (JR [JM 4 0,JN (Jr 5 .geq 4 35),JM 3 5] (.cond (.t 3) (JR [JN (Jn 2 (-1))] .ret) (JR [JM 7 0,JN (Jr 8 .geq 7 19),JM 6 8] (JU 6 (JR [JM 9 0,JN (Jr 10 .sub 9 19),JM 2 10] .ret)))))) (JR [JM 11 0,JN (Jr 12 .sub 11 3),JM 2 12] .ret))
theorem Zlf:Qq Tryz.prog Zg ZjR=some (ZeE,[.tmp 2],13):=by kernel_rfl
def Zi4:List (Nat×List Md):=MM [(1,2),(4,137),(6,2),(9,137),(11,2),(14,137),(16,2),(1000001,25)]
def ZdC:C:=JR [JN (Jz 1 0),JN (Jv 2 Jkf)] (JQ (JQ (JX 1 (JS [JN (Ja 6 4 1),JN (Jh 7 Zat [.t 6]),JN (Jp 8 7)])) (JU 8 (JR [JN (Jv 2 Jkf)] .ret))) (JQ (JR [JN (Jn 3 0)] (JW 0 (JQ (JR [JM 9 3,JN (Jw 10 0 1),JN (Jc 11 1 10),JN (Jq 12 .lss 9 11)] (JV 12 (.exit 0))) (JQ (.block 1 (JQ (JR [JN (Ja 15 4 1),JM 16 3,JN (Jh 17 Zdd [.t 15,.t 16]),JN (Jp 18 17)] (JU 18 (JR [JN (Jv 2 Jkf)] .ret))) (JR [JN (Jn 4 0)] (JW 2 (JQ (JR [JM 19 4,JN (Jw 20 0 1),JN (Jc 21 1 20),JN (Jq 22 .lss 19 21)] (JV 22 (.exit 2))) (JQ (.block 3 (JQ (JR [JN (Ja 25 4 1),JM 26 3,JM 27 4,JN (Jh 28 ZcL [.t 25,.t 26,.t 27]),JN (Jp 29 28)] (JU 29 (JR [JN (Jv 2 Jkf)] .ret))) (JR [JN (Jn 5 0)] (JW 4 (JQ (JR [JM 30 5,JN (Jw 31 0 1),JN (Jc 32 1 31),JN (Jq 33 .lss 30 32)] (JV 33 (.exit 4))) (JQ (.block 5 (JR [JN (Ja 36 4 1),JM 37 3,JM 38 4,JM 39 5,JN (Jh 40 Zbo [.t 36,.t 37,.t 38,.t 39]),JN (Jp 41 40)] (JU 41 (JR [JN (Jv 2 Jkf)] .ret)))) (JS [JM 34 5,JN (Jr 35 .add 34 1),JM 5 35]))))))) (JS [JM 23 4,JN (Jr 24 .add 23 1),JM 4 24]))))))) (JS [JM 13 3,JN (Jr 14 .add 13 1),JM 3 14]))))) (JR [JN (Jv 2 Jkt)] .ret)))
theorem ZiW:Qq Tryz.prog ZJ Zi4=some (ZdC,[.tmp 2],42):=by kernel_rfl
def ZhZ:List (Nat×List Md):=MM [(6,147256021577),(1000001,201)]
def Zcn:C:=JR [JN (Jz 2 0),JN (Jv 4 Jkf)] (JQ (JQ (JX 2 (JS [JM 6 1,JN (Jx 7 6),JN (Jr 8 .gtr 7 8)])) (JU 8 (JR [JN (Jv 4 Jkf)] .ret))) (JQ (JR [JN (Jn 5 0)] (JW 0 (JQ (JR [JM 9 5,JM 10 1,JN (Jx 11 10),JN (Jq 12 .lss 9 11)] (JV 12 (.exit 0))) (JQ (.block 1 (JR [JM 15 1,JM 16 5,JN (Js 17 1 15 16),JN (Jd 18 1 17),JN (Jh 19 Kq [.t 18]),JN (Jp 20 19),JM 21 20,JO 21 (Jm 22 1),JO 21 (Jm 23 5),JO 21 (Js 24 1 22 23),JO 21 (Jd 25 1 24),JO 21 (Jw 26 0 2),JO 21 (Jc 27 1 26),JO 21 (Jh 28 ZH [.t 25,.t 27,Jkt]),JO 21 (Jp 29 28),JN (Jo 30 21 29)] (JU 30 (JR [JN (Jv 4 Jkf)] .ret)))) (JS [JM 13 5,JN (Jr 14 .add 13 1),JM 5 14]))))) (JR [JN (Jv 4 Jkt)] .ret)))
theorem Zik:Qq Tryz.prog VG ZhZ=some (Zcn,[.tmp 4],31):=by kernel_rfl
def ZlF:List (Nat×List Md):=MM [(1,201)]
def ZfH:C:=JR [JN (Jv 2 (.k (Je 1)))] (JR [JM 3 0,JN (.mkslice 4 1 [N 0] (.t 3)),JN (.mv 2 .frz (.t 4))] .ret)
theorem Zmk:Qq Tryz.prog ZO ZlF=some (ZfH,[.tmp 2],5):=by kernel_rfl
def Zm2:List (Nat×List Md):=MM [(1,70737)]
def ZfM:C:=JR [JN (Jv 4 (.k (Je 1)))] (JR [JN (.bslice 5 1 0 [] []),JT 6 1,JN (JB 7 1 5 6),JT 8 0,JN (JB 9 1 7 8),JT 4 9] .ret)
theorem Zmf:Qq Tryz.prog Kn Zm2=some (ZfM,[.tmp 4],10):=by kernel_rfl
def Zpw:List (Nat×List Md):=MM [(1,1106),(4,3),(1000001,832073)]
def ZiG:C:=JR [JN (Jz 4 0),JN (Jz 6 2),JN (.alloc 8 [Je 1,Je 1,N 0,Je 1])] (JQ (JX 4 (JX 6 (JS [JN (Ja 10 4 4),JT 11 1,JN (Jw 12 3 6),JN (Jc 13 1 12),JM 14 3,JN (Js 15 4 13 14),JN (Jb 16 4 15),JN (Jh 17 WZ [.t 10,.t 11,.t 16]),JN (.alloc 9 [Je 1,Je 1,N 0,Je 1]),JN (JC 4 9 17)]))) (JQ (JR [JN (Jw 18 2 9),JN (Jd 19 1 18),JN (Jr 20 .neq 19 0)] (JU 20 (JS [JM 21 3,JN (.bslice 22 1 1 [N 0] [(0,1,.t 21)]),JN (Jw 23 3 9),JN (Jd 24 1 23),JN (JB 25 1 22 24),JN (Jw 26 3 9),JN (JC 1 26 25)]))) (JR [JN (JD 27 4 9),JN (JC 4 8 27)] .ret)))
theorem ZqW:Qq Tryz.prog YO Zpw=some (ZiG,[.cell 8 true 4],28):=by kernel_rfl
def Zod:List (Nat×List Md):=MM []
def ZgX:C:=JR [JN (.alloc 2 [Je 1,Je 1,N 0,Je 1])] (JR [JM 3 0,JN (.build 4 [Je 1,Je 1,N 0,Je 1] [(2,1,.t 3)]),JN (JC 4 2 4)] .ret)
theorem Zon:Qq Tryz.prog WP Zod=some (ZgX,[.cell 2 true 4],5):=by kernel_rfl
def ZhP:List (Nat×List Md):=MM [(1,138),(2,17),(3,2),(4,17),(5,17),(7,565905),(8,146),(9,17),(10,2),(11,1105),(13,289743505),(1000001,7123529),(2000001,421827145),(2000008,3374617161)]
def Vp:C:=JR [JN (Jz 4 0),JN (Jz 6 2),JN (Jz 7 3),JN (.alloc 8 [Je 1,Je 1,N 0,Je 1])] (JQ (JX 4 (JX 6 (JX 7 (JR [JN (Ja 11 4 4),JM 12 1,JN (Ja 13 4 6),JN (Jh 14 YO [.t 11,.t 12,.t 13,Jk 1]),JN (.alloc 9 [Je 1,Je 1,N 0,Je 1]),JN (JC 4 9 14)] (.frz 9))))) (JQ (JR [JN (Jw 15 2 9),JN (Jc 16 1 15),JN (Jr 17 .neq 16 0)] (JU 17 (JR [JN (Ja 18 4 9),JN (JC 4 8 18)] .ret))) (JQ (JR [JN (Jw 19 0 6),JN (Jc 20 1 19),JN (Jr 21 .eql 20 2)] (JU 21 (JQ (JR [JN (Jw 22 0 9),JN (Jc 23 1 22),JN (Ju 24 1 23 0),JN (Jd 25 1 24),JN (Jr 26 .neq 25 0)] (JU 26 (JR [JN (Jh 27 WP [Jk 2]),JN (JC 4 8 27)] .ret))) (JR [JN (Jw 28 0 9),JN (Jc 29 1 28),JN (Ja 30 4 4),JN (Jw 31 1 7),JN (Jc 32 1 31),JN (Jw 33 1 9),JN (Jc 34 1 33),JN (Jh 35 Yd [.t 30,.t 32,Jk 1,.t 34]),JN (.build 36 [Je 1,Je 1,N 0,Je 1] [(0,1,.t 29),(1,1,.t 35)]),JN (JC 4 8 36)] .ret)))) (JQ (JR [JN (Ja 37 4 4),JT 38 1,JN (Ja 39 4 6),JN (Jh 40 YO [.t 37,.t 38,.t 39,Jk 2]),JN (.alloc 10 [Je 1,Je 1,N 0,Je 1]),JN (JC 4 10 40)] (.frz 10)) (JQ (JR [JN (Jw 41 2 10),JN (Jc 42 1 41),JN (Jr 43 .neq 42 0)] (JU 43 (JR [JN (Ja 44 4 10),JN (JC 4 8 44)] .ret))) (JQ (JR [JN (Jw 45 0 9),JN (Jc 46 1 45),JN (Jw 47 0 10),JN (Jc 48 1 47),JN (Jh 49 YX [.t 46,.t 48]),JN (Jp 50 49)] (JU 50 (JR [JN (Jh 51 WP [Jk 3]),JN (JC 4 8 51)] .ret))) (JR [JN (Jw 52 0 9),JN (Jc 53 1 52),JN (Ja 54 4 4),JN (Jw 55 1 7),JN (Jc 56 1 55),JN (Ja 57 4 4),JN (Jw 58 1 9),JN (Jc 59 1 58),JN (Jw 60 1 10),JN (Jc 61 1 60),JN (Jh 62 VU [.t 57,.t 59,.t 61]),JN (Jh 63 Yd [.t 54,.t 56,Jk 1,.t 62]),JN (.build 64 [Je 1,Je 1,N 0,Je 1] [(0,1,.t 53),(1,1,.t 63)]),JN (JC 4 8 64)] .ret)))))))
theorem Zcw:Qq Tryz.prog JZ ZhP=some (Vp,[.cell 8 true 4],65):=by kernel_rfl
def Zmr:List (Nat×List Md):=MM [(3,18)]
def ZfF:C:=JR [JN (.alloc 4 [Je 1,Je 1,N 0,Je 1])] (JQ (JR [JM 5 0,JN (Jx 6 5),JN (Jr 7 .gtr 6 40)] (JU 7 (JR [JN (Jh 8 WP [Jk 3]),JN (JC 4 4 8)] .ret))) (JR [JT 9 0,JT 10 1,JN (.build 11 [Je 1,Je 1,N 0,Je 1] [(0,1,.t 9),(1,1,.t 10)]),JN (JC 4 4 11)] .ret))
theorem ZmH:Qq Tryz.prog Y3 Zmr=some (ZfF,[.cell 4 true 4],12):=by kernel_rfl
def Zl8:List (Nat×List Md):=MM [(1,137),(5,561738),(6,18)]
def Zfx:C:=JR [JN (Jv 4 (.k (Je 1)))] (JR [JM 7 0,JN (.bslice 8 1 1 [N 0] [(0,1,.t 7)]),JT 5 8] (JQ (JR [JN (Jn 6 0)] (JW 0 (JQ (JR [JM 9 6,JM 10 1,JN (Jx 11 10),JN (Jq 12 .lss 9 11)] (JV 12 (.exit 0))) (JQ (.block 1 (JS [JT 15 5,JM 16 1,JM 17 6,JN (Js 18 1 16 17),JN (Jd 19 1 18),JN (JB 20 1 15 19),JT 5 20])) (JS [JM 13 6,JN (Jr 14 .add 13 1),JM 6 14]))))) (JR [JT 21 5,JT 4 21] .ret)))
theorem Zmx:Qq Tryz.prog XP Zl8=some (Zfx,[.tmp 4],22):=by kernel_rfl
def ZnZ:List (Nat×List Md):=MM [(1,17),(5,603160664642130),(6,18),(1000001,12873)]
def Zhn:C:=JR [JN (Jz 4 0),JN (Jv 8 (.k (Je 1)))] (JQ (JX 4 (JS [JN (.bslice 11 1 0 [] []),JT 9 11])) (JQ (JR [JN (Jn 10 0)] (JW 0 (JQ (JR [JM 12 10,JM 13 1,JN (Jx 14 13),JN (Jq 15 .lss 12 14)] (JV 15 (.exit 0))) (JQ (.block 1 (JS [JT 18 9,JN (Ja 19 4 4),JM 20 1,JM 21 10,JN (Js 22 1 20 21),JN (Jd 23 1 22),JN (Ja 24 4 4),JM 25 2,JM 26 3,JM 27 10,JN (Js 28 1 26 27),JN (Jd 29 1 28),JN (Jh 30 QV [.t 24,.t 25,.t 29]),JN (Jh 31 Wu [.t 19,.t 23,.t 30]),JN (.bslice 32 1 1 [N 0] [(0,1,.t 31)]),JN (JB 33 1 18 32),JT 9 33])) (JS [JM 16 10,JN (Jr 17 .add 16 1),JM 10 17]))))) (JR [JT 34 9,JT 8 34] .ret)))
theorem Zpo:Qq Tryz.prog Yd ZnZ=some (Zhn,[.tmp 8],35):=by kernel_rfl
def ZqB:List (Nat×List Md):=MM [(1,8785),(1000001,1609)]
def ZiE:C:=JR [JN (Jz 3 0),JN (Jv 6 Jkf)] (JQ (JX 3 (JS [JN (Jw 7 3 3),JN (Jc 8 1 7),JM 9 1,JN (Jw 10 0 3),JN (Jc 11 1 10),JN (Jq 12 .mul 9 11),JM 13 2,JN (Jq 14 .add 12 13),JN (Js 15 1 8 14),JN (Jd 16 1 15),JM 6 16])) .ret)
theorem Zpv:Qq Tryz.prog Wn ZqB=some (ZiE,[.tmp 6],17):=by kernel_rfl
def ZlI:List (Nat×List Md):=MM []
def ZfB:C:=JR [JN (Jv 4 Jkf)] (JQ (JR [JM 6 0,JN (Jx 7 6),JM 8 1,JN (Jx 9 8),JN (Jq 10 .neq 7 9)] (JU 10 (JR [JN (Jv 4 Jkf)] .ret))) (JQ (JR [JN (Jn 5 0)] (JW 0 (JQ (JR [JM 11 5,JM 12 0,JN (Jx 13 12),JN (Jq 14 .lss 11 13)] (JV 14 (.exit 0))) (JQ (.block 1 (JR [JM 17 0,JM 18 5,JN (Js 19 1 17 18),JN (Jd 20 1 19),JM 21 1,JM 22 5,JN (Js 23 1 21 22),JN (Jd 24 1 23),JN (Jq 25 .neq 20 24)] (JU 25 (JR [JN (Jv 4 Jkf)] .ret)))) (JS [JM 15 5,JN (Jr 16 .add 15 1),JM 5 16]))))) (JR [JN (Jv 4 Jkt)] .ret)))
theorem Zm5:Qq Tryz.prog YX ZlI=some (ZfB,[.tmp 4],26):=by kernel_rfl
def ZkZ:List (Nat×List Md):=MM [(1,17),(2,17),(4,17),(6,17),(8,138),(10,8785),(11,17),(12,4498001),(13,8778),(14,17),(15,2),(16,2),(17,17),(18,70225),(20,17),(22,138),(24,138),(26,4494410),(27,17),(28,2),(29,1105),(31,138),(32,562258),(33,70729),(35,148346545297),(1000001,7123529),(2000013,26996937289),(2000026,884635641090633)]
def Yw:C:=JR [JN (Jz 4 0),JN (Jz 6 2),JN (Jz 7 3),JN (.alloc 8 [Je 1,Je 1,N 0,Je 1])] (JQ (JX 4 (JX 6 (JX 7 (JS [JN (Jw 17 0 7),JN (Jc 18 1 17),JN (Ju 19 1 18 0),JN (Jd 20 1 19),JM 9 20])))) (JQ (.block 0 (JR [JN (Jw 22 0 6),JN (Jc 23 1 22),JN (Jr 24 .eql 23 5),JM 25 24,JP 25 (Jm 26 9),JP 25 (Jr 27 .neq 26 1),JN (Jl 28 25 27),JM 21 28] (.cond (.t 21) (JR [JN (Jh 29 WP [Jk 4]),JN (JC 4 8 29)] .ret) (JR [JN (Jw 31 0 6),JN (Jc 32 1 31),JN (Jr 33 .eql 32 8),JM 34 33,JP 34 (Jm 35 9),JP 34 (Jr 36 .neq 35 2),JN (Jl 37 34 36),JM 30 37] (.cond (.t 30) (JR [JN (Jh 38 WP [Jk 5]),JN (JC 4 8 38)] .ret) (JR [JN (Jw 40 0 6),JN (Jc 41 1 40),JN (Jr 42 .eql 41 12),JM 43 42,JP 43 (Jm 44 9),JP 43 (Jh 45 ZaI [.t 44]),JP 43 (Jp 46 45),JN (Jl 47 43 46),JM 39 47] (JU 39 (JR [JN (Jh 48 WP [Jk 7]),JN (JC 4 8 48)] .ret)))))))) (JQ (JR [JN (Ja 49 4 4),JN (Jw 50 1 6),JN (Jc 51 1 50),JN (Jh 52 Wn [.t 49,Jk 1,.t 51]),JN (Jp 53 52)] (JU 53 (JR [JN (Jh 54 WP [Jk 8]),JN (JC 4 8 54)] .ret))) (JR [JN (Jw 55 0 7),JN (Jc 56 1 55),JN (Jh 57 Wz [.t 56,Jk 0]),JN (.bslice 58 1 1 [Je 1] [(0,1,.t 57)]),JT 10 58] (JQ (JR [JN (Jw 59 0 6),JN (Jc 60 1 59),JN (Jr 61 .eql 60 5)] (JU 61 (JS [JN (Jw 62 0 7),JN (Jc 63 1 62),JN (Jh 64 Wz [.t 63,Jk 1]),JN (Jw 65 0 7),JN (Jc 66 1 65),JN (Jh 67 Wz [.t 66,Jk 0]),JN (.bslice 68 1 2 [Je 1,Je 1] [(0,1,.t 64),(1,1,.t 67)]),JT 10 68]))) (JQ (JR [JN (Ja 69 4 4),JM 70 1,JM 71 10,JN (Jh 72 Kn [.t 70,.t 71]),JN (Ja 73 4 6),JN (Jh 74 YO [.t 69,.t 72,.t 73,Jk 1]),JN (.alloc 11 [Je 1,Je 1,N 0,Je 1]),JN (JC 4 11 74)] (.frz 11)) (JQ (JR [JN (Jw 75 2 11),JN (Jc 76 1 75),JN (Jr 77 .neq 76 0)] (JU 77 (JR [JN (Ja 78 4 11),JN (JC 4 8 78)] .ret))) (JR [JT 79 10,JN (Jx 80 79),JM 12 80] (JR [JN (Jw 81 1 6),JN (Jc 82 1 81),JM 13 82] (JR [JN (Jw 83 1 11),JN (Jc 84 1 83),JM 85 12,JN (.slice 86 1 (.t 84) (some (.t 85)) none none),JN (Jh 87 Yk [.t 86]),JT 14 87] (JR [JN (Jv 15 Jkt)] (JQ (JR [JN (Jw 88 0 6),JN (Jc 89 1 88)] (.block 1 (JR [JN (Jr 91 .eql 89 12),JM 90 91] (.cond (.t 90) (JS [JN (Ja 92 4 4),JN (Jw 93 1 6),JN (Jc 94 1 93),JM 95 9,JN (Jh 96 Zg [.t 95]),JN (Jh 97 QV [.t 92,.t 94,.t 96]),JM 13 97]) (JR [JN (Jr 99 .eql 89 5),JM 98 99] (.cond (.t 98) (JS [JN (Ja 100 4 4),JN (Jw 101 1 11),JN (Jc 102 1 101),JN (Ju 103 1 102 1),JN (Jd 104 1 103),JM 105 13,JN (Jh 106 Wn [.t 100,.t 104,.t 105]),JM 15 106]) (JR [JN (Jr 108 .eql 89 8),JM 107 108] (JU 107 (JQ (JR [JN (Ja 109 4 4),JM 110 1,JN (Jw 111 0 7),JN (Jc 112 1 111),JN (Jh 113 Wz [.t 112,Jk 1]),JN (.bslice 114 1 1 [Je 1] [(0,1,.t 113)]),JN (Jh 115 Kn [.t 110,.t 114]),JN (Ja 116 4 6),JN (Jh 117 YO [.t 109,.t 115,.t 116,Jk 2]),JN (.alloc 16 [Je 1,Je 1,N 0,Je 1]),JN (JC 4 16 117)] (.frz 16)) (JQ (JR [JN (Jw 118 2 16),JN (Jc 119 1 118),JN (Jr 120 .neq 119 0)] (JU 120 (JR [JN (Ja 121 4 16),JN (JC 4 8 121)] .ret))) (JQ (JR [JN (Jw 122 0 11),JN (Jc 123 1 122),JN (Jw 124 0 16),JN (Jc 125 1 124),JN (Jh 126 YX [.t 123,.t 125]),JN (Jp 127 126)] (JU 127 (JR [JN (Jh 128 WP [Jk 3]),JN (JC 4 8 128)] .ret))) (JR [JN (Ja 129 4 4),JN (Jw 130 1 16),JN (Jc 131 1 130),JN (Ju 132 1 131 0),JN (Jd 133 1 132),JM 134 13,JN (Jh 135 Wn [.t 129,.t 133,.t 134]),JM 15 135] (JS [JN (Ja 136 4 4),JT 137 14,JN (Jw 138 1 16),JN (Jc 139 1 138),JN (.slice 140 1 (.t 139) (some (Jk 1)) none none),JN (Jh 141 VU [.t 136,.t 137,.t 140]),JT 14 141]))))))))))))) (JQ (JR [JM 142 15,JN (Jp 143 142),JM 144 143,JO 144 (Ja 145 4 4),JO 144 (Jw 146 1 11),JO 144 (Jc 147 1 146),JO 144 (Ju 148 1 147 0),JO 144 (Jd 149 1 148),JO 144 (Jm 150 13),JO 144 (Jh 151 Wn [.t 145,.t 149,.t 150]),JO 144 (Jp 152 151),JN (Jo 153 144 152)] (JU 153 (JR [JN (Jh 154 WP [Jk 9]),JN (JC 4 8 154)] .ret))) (JR [JN (Jw 155 0 11),JN (Jc 156 1 155),JN (Ja 157 4 4),JN (Ja 158 4 4),JT 159 1,JN (Jx 160 159),JN (Jh 161 ZO [.t 160]),JN (Jw 162 1 6),JN (Jc 163 1 162),JN (Jw 164 1 7),JN (Jc 165 1 164),JN (Jh 166 Yd [.t 158,.t 161,.t 163,.t 165]),JT 167 14,JN (Jh 168 Yd [.t 157,.t 166,Jk 1,.t 167]),JN (.build 169 [Je 1,Je 1,N 0,Je 1] [(0,1,.t 156),(1,1,.t 168)]),JN (JC 4 8 169)] .ret))))))))))))))
theorem Za4:Qq Tryz.prog JK ZkZ=some (Yw,[.cell 8 true 4],170):=by kernel_rfl
def Zo5:List (Nat×List Md):=MM [(1,8785),(1000001,1609)]
def ZgS:C:=JR [JN (Jz 3 0),JN (Jn 6 0)] (JQ (JX 3 (JS [JN (Jw 7 1 3),JN (Jc 8 1 7),JM 9 1,JN (Jw 10 0 3),JN (Jc 11 1 10),JN (Jq 12 .mul 9 11),JM 13 2,JN (Jq 14 .add 12 13),JN (Js 15 1 8 14),JN (Jd 16 1 15),JM 6 16])) .ret)
theorem Zpp:Qq Tryz.prog Wu Zo5=some (ZgS,[.tmp 6],17):=by kernel_rfl
def ZoT:List (Nat×List Md):=MM []
def ZgQ:C:=JR [JN (Jv 2 Jkf)] (JR [JM 3 0,JN (Jr 4 .eql 3 5),JM 5 4,JO 5 (Jm 6 0),JO 5 (Jr 7 .eql 6 8),JN (Jo 8 5 7),JM 9 8,JO 9 (Jm 10 0),JO 9 (Jr 11 .eql 10 9),JN (Jo 12 9 11),JM 13 12,JO 13 (Jm 14 0),JO 13 (Jr 15 .eql 14 11),JN (Jo 16 13 15),JM 17 16,JO 17 (Jm 18 0),JO 17 (Jr 19 .eql 18 12),JN (Jo 20 17 19),JM 2 20] .ret)
theorem Zn3:Qq Tryz.prog ZaL ZoT=some (ZgQ,[.tmp 2],21):=by kernel_rfl
def Zkp:List (Nat×List Md):=MM [(1,8841)]
def ZeG:C:=JR [JN (Jv 4 (.k (Je 1)))] (JR [JM 5 0,JN (.bslice 6 1 1 [N 0] [(0,1,.t 5)]),JT 7 1,JN (JB 8 1 6 7),JT 4 8] .ret)
theorem ZkM:Qq Tryz.prog Yt Zkp=some (ZeG,[.tmp 4],9):=by kernel_rfl
def Zjd:List (Nat×List Md):=MM [(1,17),(2,1264919598023844368969),(4,17),(7,18541220490),(13,169774936191745691983536493130),(18,5181111808417170544960074),(23,2),(1000001,25)]
def Zdn:C:=JR [JN (Jz 1 0),JN (Jv 2 Jkf)] (JQ (JX 1 (JS [JN (Jw 8 0 1),JN (Jc 9 1 8),JM 3 9])) (JQ (JR [JM 10 3,JN (Jh 11 W0 [.t 10,Jk 2,Jk 16]),JN (Jp 12 11),JM 13 12,JO 13 (Jw 14 1 1),JO 13 (Jc 15 1 14),JO 13 (Jx 16 15),JO 13 (Jm 17 3),JO 13 (Jm 18 3),JO 13 (Jq 19 .mul 17 18),JO 13 (Jq 20 .neq 16 19),JN (Jo 21 13 20),JM 22 21,JO 22 (Jw 23 2 1),JO 22 (Jc 24 1 23),JO 22 (Jx 25 24),JO 22 (Jm 26 3),JO 22 (Jm 27 3),JO 22 (Jq 28 .mul 26 27),JO 22 (Jq 29 .neq 25 28),JN (Jo 30 22 29),JM 31 30,JO 31 (Jw 32 3 1),JO 31 (Jc 33 1 32),JO 31 (Jx 34 33),JO 31 (Jm 35 3),JO 31 (Jm 36 3),JO 31 (Jq 37 .mul 35 36),JO 31 (Jq 38 .neq 34 37),JN (Jo 39 31 38)] (JU 39 (JR [JN (Jv 2 Jkf)] .ret))) (JQ (JR [JN (Jw 40 1 1),JN (Jc 41 1 40),JN (Jx 42 41),JN (Jn 43 0)] (JW 0 (JR [JN (Jq 44 .lss 43 42)] (JQ (JV 44 (.exit 0)) (JQ (.block 1 (JR [JM 45 43,JM 4 45] (JR [JN (Ja 46 4 1),JN (Jw 47 1 1),JN (Jc 48 1 47),JM 49 4,JN (Js 50 1 48 49),JN (Jd 51 1 50),JN (Jh 52 WD [.t 46,.t 51]),JN (Jp 53 52),JM 54 53,JO 54 (Ja 55 4 1),JO 54 (Jw 56 2 1),JO 54 (Jc 57 1 56),JO 54 (Jm 58 4),JO 54 (Js 59 1 57 58),JO 54 (Jd 60 1 59),JO 54 (Jh 61 WD [.t 55,.t 60]),JO 54 (Jp 62 61),JN (Jo 63 54 62)] (JU 63 (JR [JN (Jv 2 Jkf)] .ret))))) (JS [JN (Jr 64 .add 43 1),JM 43 64])))))) (JQ (JR [JN (Jn 5 0)] (JW 2 (JQ (JR [JM 65 5,JM 66 3,JN (Jq 67 .lss 65 66)] (JV 67 (.exit 2))) (JQ (.block 3 (JQ (JR [JN (Ja 70 4 1),JM 71 5,JN (Jh 72 QF [.t 70,Jk 0,.t 71]),JM 73 5,JN (Jq 74 .neq 72 73),JM 75 74,JO 75 (Ja 76 4 1),JO 75 (Jm 77 5),JO 75 (Jh 78 Qs [.t 76,Jk 1,.t 77]),JO 75 (Jm 79 5),JO 75 (Jq 80 .neq 78 79),JN (Jo 81 75 80),JM 82 81,JO 82 (Ja 83 4 1),JO 82 (Jm 84 5),JO 82 (Jh 85 Qs [.t 83,.t 84,Jk 1]),JO 82 (Jm 86 5),JO 82 (Jq 87 .neq 85 86),JN (Jo 88 82 87),JM 89 88,JO 89 (Ja 90 4 1),JO 89 (Jm 91 5),JO 89 (Jh 92 Qs [.t 90,Jk 0,.t 91]),JO 89 (Jr 93 .neq 92 0),JN (Jo 94 89 93),JM 95 94,JO 95 (Ja 96 4 1),JO 95 (Jm 97 5),JO 95 (Jh 98 Qs [.t 96,.t 97,Jk 0]),JO 95 (Jr 99 .neq 98 0),JN (Jo 100 95 99),JM 101 100,JO 101 (Ja 102 4 1),JO 101 (Jm 103 5),JO 101 (Jm 104 5),JO 101 (Jh 105 QD [.t 102,.t 103,.t 104]),JO 101 (Jp 106 105),JN (Jo 107 101 106)] (JU 107 (JR [JN (Jv 2 Jkf)] .ret))) (JR [JN (Jn 6 0)] (JW 4 (JQ (JR [JM 108 6,JM 109 3,JN (Jq 110 .lss 108 109)] (JV 110 (.exit 4))) (JQ (.block 5 (JQ (JR [JN (Ja 113 4 1),JM 114 5,JM 115 6,JN (Jh 116 QF [.t 113,.t 114,.t 115]),JN (Ja 117 4 1),JM 118 6,JM 119 5,JN (Jh 120 QF [.t 117,.t 118,.t 119]),JN (Jq 121 .neq 116 120),JM 122 121,JO 122 (Jm 123 5),JO 122 (Jm 124 6),JO 122 (Jq 125 .neq 123 124),JO 122 (Jm 126 125),JP 126 (Ja 127 4 1),JP 126 (Jm 128 5),JP 126 (Jm 129 6),JP 126 (Jh 130 QD [.t 127,.t 128,.t 129]),JO 122 (Jl 131 126 130),JO 122 (Jm 132 131),JP 132 (Ja 133 4 1),JP 132 (Jm 134 6),JP 132 (Jm 135 5),JP 132 (Jh 136 QD [.t 133,.t 134,.t 135]),JO 122 (Jl 137 132 136),JN (Jo 138 122 137),JM 139 138,JO 139 (Ja 140 4 1),JO 139 (Jm 141 5),JO 139 (Jm 142 6),JO 139 (Jh 143 Xb [.t 140,.t 141,.t 142]),JO 139 (Jr 144 .lss 143 0),JN (Jo 145 139 144)] (JU 145 (JR [JN (Jv 2 Jkf)] .ret))) (JR [JN (Jn 7 0)] (JW 6 (JQ (JR [JM 146 7,JM 147 3,JN (Jq 148 .lss 146 147)] (JV 148 (.exit 6))) (JQ (.block 7 (JR [JN (Ja 151 4 1),JM 152 5,JM 153 6,JM 154 7,JN (Jh 155 Zt [.t 151,.t 152,.t 153,.t 154]),JN (Jp 156 155)] (JU 156 (JR [JN (Jv 2 Jkf)] .ret)))) (JS [JM 149 7,JN (Jr 150 .add 149 1),JM 7 150]))))))) (JS [JM 111 6,JN (Jr 112 .add 111 1),JM 6 112]))))))) (JS [JM 68 5,JN (Jr 69 .add 68 1),JM 5 69]))))) (JR [JN (Jv 2 Jkt)] .ret)))))
theorem ZiU:Qq Tryz.prog Zar Zjd=some (Zdn,[.tmp 2],157):=by kernel_rfl
def Zh1:List (Nat×List Md):=MM [(1,8777),(1000001,201)]
def Zcp:C:=JR [JN (Jz 2 0),JN (Jv 4 Jkf)] (JQ (JX 2 (JS [JM 5 1,JN (Jx 6 5),JN (Jr 7 .leq 6 8),JM 8 7,JP 8 (Jt 9 1),JP 8 (.mkfn 10 Yv false [.t 2]),JP 8 (Jh 11 WC [.t 9,.t 10]),JP 8 (Jp 12 11),JN (Jl 13 8 12),JM 4 13])) .ret)
theorem ZhW:Qq Tryz.prog Vz Zh1=some (Zcp,[.tmp 4],14):=by kernel_rfl
def Zje:List (Nat×List Md):=MM [(1,70729),(1000001,13897)]
def Zap:C:=JR [JN (Jz 3 0),JN (Jz 4 1),JN (Jv 6 Jkf)] (JQ (JX 3 (JX 4 (JS [JM 7 2,JN (Jh 8 W0 [.t 7,Jk 0,Jk 8]),JM 9 8,JP 9 (Ja 10 4 4),JP 9 (Jm 11 2),JP 9 (Ja 12 4 3),JP 9 (.mkfn 13 WD true [.t 12]),JP 9 (.mkfn 14 YR false [.t 3]),JP 9 (Jh 15 ZaF [.t 10,.t 11,.t 13,.t 14,Jk 0]),JP 9 (Jr 16 .leq 15 400),JN (Jl 17 9 16),JM 6 17]))) .ret)
theorem Zi0:Qq Tryz.prog Zax Zje=some (Zap,[.tmp 6],18):=by kernel_rfl
def Zgh:List (Nat×List Md):=MM [(1,70217),(4,17),(8,8777),(11,287609417),(12,8842),(13,4493898),(15,1178048172617),(16,18),(18,1097),(19,17),(20,137),(21,12873),(22,20917290156083679818),(24,4793425),(26,561738),(27,18),(1000001,104009)]
def Zbm:C:=JR [JN (Jz 3 0),JN (Jz 5 2),JN (Jv 6 (.k (.sc (.pointer none))))] (JQ (JX 3 (JX 5 (JS [JM 16 1,JN (Jx 17 16),JN (.mkslice 18 1 [N 0] (.t 17)),JN (.build 19 [Je 1,Je 1,Je 1,N 0,Je 1] [(1,1,.t 18)]),JN (Jz 20 19),JT 7 20]))) (JR [JN (Jv 8 (.k (Je 1)))] (JR [JN (Jv 9 (.k (Je 1)))] (JQ (JR [JN (Jw 21 3 5),JN (Jc 22 1 21),JN (Jx 23 22),JN (Jn 24 0)] (JW 0 (JR [JN (Jq 25 .lss 24 23)] (JQ (JV 25 (.exit 0)) (JQ (.block 1 (JR [JM 26 24,JN (Js 27 4 22 24),JN (Jb 28 4 27),JN (.alloc 11 [N 0,N 0,Je 1,Je 1]),JM 10 26,JN (JC 4 11 28)] (JR [JN (Jv 12 (.k (Je 1)))] (JQ (JR [JM 29 10,JN (Jr 30 .gtr 29 0),JM 31 30,JO 31 (Jw 32 0 5),JO 31 (Jc 33 1 32),JO 31 (Jr 34 .eql 33 9),JN (Jo 35 31 34)] (JU 35 (JR [JN (Jv 13 (.k (Je 1)))] (JQ (JR [JM 36 10,JN (Jr 37 .gtr 36 0)] (JU 37 (JS [JM 38 7,JN (JA 39 38),JN (Jw 40 2 39),JN (Jd 41 1 40),JN (Ju 42 1 41 0),JN (Jd 43 1 42),JN (JA 44 43),JN (Jw 45 0 44),JN (Jd 46 1 45),JT 13 46]))) (JS [JN (Ja 47 4 5),JM 48 10,JT 49 13,JN (Jh 50 Zc5 [.t 47,.t 48,.t 49]),JT 12 50]))))) (JR [JN (Ja 51 4 3),JM 52 12,JM 53 1,JN (.bslice 54 1 2 [Je 1,Je 1] [(0,1,.t 52),(1,1,.t 53)]),JN (Jh 55 XM [.t 54]),JN (Jb 56 4 11),JN (Jh 57 Zz [.t 51,.t 55,.t 56]),JT 14 57] (JQ (JR [JM 58 14,JN (JA 59 58),JN (Jw 60 3 59),JN (Jd 61 1 60),JN (Jr 62 .neq 61 0)] (JU 62 (JR [JM 63 14,JN (JA 64 63),JN (Jw 65 3 64),JN (Jd 66 1 65),JM 67 10,JN (.bslice 68 1 1 [N 0] [(0,1,.t 67)]),JM 69 14,JN (JA 70 69),JN (Jw 71 4 70),JN (Jd 72 1 71),JN (JB 73 1 68 72),JN (.build 74 [Je 1,Je 1,Je 1,N 0,Je 1] [(3,1,.t 66),(4,1,.t 73)]),JN (Jz 75 74),JT 6 75] .ret))) (JQ (JR [JN (Ja 76 4 3),JN (Ja 77 4 5),JM 78 10,JM 79 14,JN (JA 80 79),JN (Jw 81 0 80),JN (Jd 82 1 81),JN (Jh 83 Zw [.t 76,.t 77,.t 78,.t 82]),JM 15 83] (JR [JM 84 15,JN (Jr 85 .neq 84 0)] (JU 85 (JR [JM 86 15,JN (.build 87 [Je 1,Je 1,Je 1,N 0,Je 1] [(3,1,.t 86)]),JN (Jz 88 87),JT 6 88] .ret)))) (JQ (JR [JN (Jw 89 0 5),JN (Jc 90 1 89),JN (Jr 91 .eql 90 10),JM 92 91,JP 92 (Jm 93 10),JP 92 (Jr 94 .eql 93 1),JN (Jl 95 92 94),JM 96 95,JP 96 (Jm 97 14),JP 96 (JA 98 97),JP 96 (Jw 99 0 98),JP 96 (Jd 100 1 99),JP 96 (Jm 101 7),JP 96 (JA 102 101),JP 96 (Jw 103 2 102),JP 96 (Jd 104 1 103),JP 96 (Ju 105 1 104 0),JP 96 (Jd 106 1 105),JP 96 (JA 107 106),JP 96 (Jw 108 0 107),JP 96 (Jd 109 1 108),JP 96 (Jh 110 Zs [.t 109]),JP 96 (Ju 111 1 110 0),JP 96 (Jd 112 1 111),JP 96 (Jh 113 WM [.t 100,.t 112]),JP 96 (Jp 114 113),JN (Jl 115 96 114)] (JU 115 (JR [JN (.build 116 [Je 1,Je 1,Je 1,N 0,Je 1] [(3,1,Jk 3)]),JN (Jz 117 116),JT 6 117] .ret))) (JR [JM 118 7,JM 119 7,JN (JA 120 119),JN (Jw 121 2 120),JN (JE 122 1 121),JM 123 14,JN (.bslice 124 1 1 [.sc (.pointer none)] [(0,1,.t 123)]),JN (JB 125 1 122 124),JN (JA 126 118),JN (Jw 127 2 126),JN (JC 1 127 125)] (JS [JT 128 9,JM 129 14,JN (JA 130 129),JN (Jw 131 1 130),JN (Jd 132 1 131),JM 133 12,JN (Jx 134 133),JN (.slice 135 1 (.t 132) none (some (.t 134)) none),JN (.bslice 136 1 1 [Je 1] [(0,1,.t 135)]),JN (JB 137 1 128 136),JT 138 8,JM 139 14,JN (JA 140 139),JN (Jw 141 1 140),JN (Jd 142 1 141),JM 143 12,JN (Jx 144 143),JN (.slice 145 1 (.t 142) (some (.t 144)) none none),JN (.bslice 146 1 1 [Je 1] [(0,1,.t 145)]),JN (JB 147 1 138 146),JT 9 137,JT 8 147])))))))))) (JS [JN (Jr 148 .add 24 1),JM 24 148])))))) (JR [JM 149 7,JN (Ja 150 4 3),JM 151 7,JT 152 1,JN (Ja 153 4 5),JT 154 8,JT 155 9,JN (Ji 156 ZU [.t 150,.t 151,.t 152,.t 153,.t 154,.t 155]),JN (JA 157 149),JN (Jw 158 3 157),JN (JC 1 158 156)] (JQ (JR [JM 159 7,JN (JA 160 159),JN (Jw 161 3 160),JN (Jd 162 1 161),JN (Jr 163 .neq 162 0)] (JU 163 (JR [JT 164 7,JN (JA 165 164),JN (Jw 166 3 165),JN (Jd 167 1 166),JN (.build 168 [Je 1,Je 1,Je 1,N 0,Je 1] [(3,1,.t 167)]),JN (Jz 169 168),JT 6 169] .ret))) (JR [JT 170 7,JT 6 170] .ret)))))))
theorem Zgx:Qq Tryz.prog Zz Zgh=some (Zbm,[.tmp 6],171):=by kernel_rfl
def Zd6:List (Nat×List Md):=MM [(1,561737)]
def Zaj:C:=JR [JN (Jv 2 Jkf)] (JR [JM 3 0,JN (Jx 4 3),JN (Jh 5 W0 [.t 4,Jk 1,Jk 40]),JM 6 5,JP 6 (Jm 7 0),JP 6 (Jh 8 Xl [.t 7,Jk 0]),JP 6 (Jt 9 0),JP 6 (Jx 10 9),JP 6 (Jq 11 .eql 8 10),JN (Jl 12 6 11),JM 2 12] .ret)
theorem Zeq:Qq Tryz.prog Jg Zd6=some (Zaj,[.tmp 2],13):=by kernel_rfl
def Zfe:List (Nat×List Md):=MM [(1,137),(1000001,201)]
def ZaD:C:=JR [JN (Jz 2 0),JN (Jv 4 Jkf)] (JQ (JX 2 (JS [JM 5 1,JN (Jw 6 0 2),JN (Jc 7 1 6),JN (Jr 8 .sub 7 1),JN (Jh 9 W0 [.t 5,Jk 0,.t 8]),JM 4 9])) .ret)
theorem Zfd:Qq Tryz.prog WD Zfe=some (ZaD,[.tmp 4],10):=by kernel_rfl
def V1:List (Nat×List Md):=MM []
def XW:C:=JR [JN (Jn 4 0)] (JQ (JR [JM 6 0,JN (Jx 7 6),JN (Jn 8 0)] (JW 0 (JR [JN (Jq 9 .lss 8 7)] (JQ (JV 9 (.exit 0)) (JQ (.block 1 (JR [JM 10 8,JM 5 10] (JR [JM 11 1,JM 12 0,JM 13 5,JN (Js 14 1 12 13),JN (Jd 15 1 14),JN (.call .no (some 16) (.t 11) [.t 15])] (JU 16 (JR [JM 17 5,JM 4 17] .ret))))) (JS [JN (Jr 18 .add 8 1),JM 8 18])))))) (JR [JN (Jn 4 (-1))] .ret))
theorem Zn:Qq Tryz.prog Xh V1=some (XW,[.tmp 4],19):=by kernel_rfl
def Zeb:List (Nat×List Md):=MM [(1,8785),(1000001,1609)]
def Zai:C:=JR [JN (Jz 3 0),JN (Jn 6 0)] (JQ (JX 3 (JS [JN (Jw 7 1 3),JN (Jc 8 1 7),JM 9 1,JN (Jw 10 0 3),JN (Jc 11 1 10),JN (Jq 12 .mul 9 11),JM 13 2,JN (Jq 14 .add 12 13),JN (Js 15 1 8 14),JN (Jd 16 1 15),JM 6 16])) .ret)
theorem Zd2:Qq Tryz.prog QF Zeb=some (Zai,[.tmp 6],17):=by kernel_rfl
def ZpS:List (Nat×List Md):=MM [(1,9298)]
def ZiI:C:=JR [JN (Jv 4 (.k (Je 1)))] (JR [JT 5 1,JT 6 0,JN (.bslice 7 1 2 [Je 1,Je 1] [(0,1,.t 5),(1,1,.t 6)]),JN (Ji 8 W2 [.t 7]),JT 4 8] .ret)
theorem Zqz:Qq Tryz.prog JJ ZpS=some (ZiI,[.tmp 4],9):=by kernel_rfl
def ZdU:List (Nat×List Md):=MM [(1,562313),(2,12881),(3,18),(1000001,823881)]
def Vi:C:=JR [JN (Jz 6 2),JN (Jv 8 (.k (.sc (.pointer none))))] (JQ (JX 6 (JS [JM 10 1,JN (.build 11 [N 0,N 0] [(0,1,.t 10)]),JN (Ja 12 4 6),JT 13 3,JN (.build 14 [N 0,N 0,N 0,N 0,Je 1,Je 1,Je 1] [(0,2,.t 11),(2,4,.t 12),(6,1,.t 13)]),JN (Jz 15 14),JT 9 15])) (JR [JM 16 0,JT 17 0,JN (JA 18 17),JN (Jw 19 4 18),JN (JE 20 1 19),JM 21 9,JN (.bslice 22 1 1 [.sc (.pointer none)] [(0,1,.t 21)]),JN (JB 23 1 20 22),JN (JA 24 16),JN (Jw 25 4 24),JN (JC 1 25 23)] (JR [JT 26 9,JT 8 26] .ret)))
theorem ZdK:Qq Tryz.prog W5 ZdU=some (Vi,[.tmp 8],27):=by kernel_rfl
def ZlC:List (Nat×List Md):=MM [(1,289706570),(1000001,201)]
def ZfK:C:=JR [JN (Jz 2 0),JN (Jv 4 Jkf)] (JQ (JX 2 (JS [JN (Ja 5 4 2),JN (Jh 6 ZJ [.t 5]),JM 7 6,JP 7 (Jm 8 1),JP 7 (Jh 9 Kq [.t 8]),JN (Jl 10 7 9),JM 11 10,JP 11 (Jt 12 1),JP 11 (Jw 13 0 2),JP 11 (Jc 14 1 13),JP 11 (Jh 15 ZH [.t 12,.t 14,Jkt]),JN (Jl 16 11 15),JM 4 16])) .ret)
theorem ZmT:Qq Tryz.prog Zb1 ZlC=some (ZfK,[.tmp 4],17):=by kernel_rfl
def Zme:List (Nat×List Md):=MM [(3,137),(5,17),(1000001,201)]
def ZfT:C:=JR [JN (Jz 2 0),JN (Jn 4 0)] (JQ (JX 2 (JS [JM 6 1,JN (Jr 7 .sub 6 1),JM 1 7])) (JQ (JR [JN (Jn 5 0)] (JW 0 (JQ (JR [JM 8 5,JN (Jw 9 3 2),JN (Jc 10 1 9),JN (Jx 11 10),JN (Jq 12 .lss 8 11),JM 13 12,JP 13 (Jm 14 1),JP 13 (Jr 15 .geq 14 0),JN (Jl 16 13 15)] (JV 16 (.exit 0))) (JQ (.block 1 (JS [JN (Jw 19 3 2),JN (Jc 20 1 19),JM 21 5,JN (Js 22 4 20 21),JN (Jb 23 4 22),JM 24 1,JN (Jh 25 VT [.t 23,.t 24]),JM 1 25])) (JS [JM 17 5,JN (Jr 18 .add 17 1),JM 5 18]))))) (JR [JM 26 1,JM 4 26] .ret)))
theorem ZlN:Qq Tryz.prog VT Zme=some (ZfT,[.tmp 4],27):=by kernel_rfl
def ZlV:List (Nat×List Md):=MM [(1,2),(4,137),(6,4493905),(1000001,12873)]
def ZfG:C:=JR [JN (Jz 4 0),JN (Jv 8 Jkf)] (JQ (JQ (JX 4 (JS [JN (Ja 10 4 4),JM 11 1,JM 12 2,JM 13 3,JN (Jh 14 ZbU [.t 10,.t 11,.t 12,.t 13]),JN (Jp 15 14)])) (JU 15 (JR [JN (Jv 8 Jkf)] .ret))) (JQ (JR [JN (Jn 9 0)] (JW 0 (JQ (JR [JM 16 9,JN (Jw 17 3 4),JN (Jc 18 1 17),JN (Jx 19 18),JN (Jq 20 .lss 16 19)] (JV 20 (.exit 0))) (JQ (.block 1 (JR [JN (Jw 23 3 4),JN (Jc 24 1 23),JM 25 9,JN (Js 26 4 24 25),JN (Jb 27 4 26),JM 28 1,JN (Jw 29 0 4),JN (Jc 30 1 29),JM 31 9,JN (Jh 32 ZbY [.t 30,.t 31]),JN (Jq 33 .add 28 32),JM 34 2,JM 35 3,JN (Jh 36 VW [.t 27,.t 33,.t 34,.t 35]),JN (Jp 37 36)] (JU 37 (JR [JN (Jv 8 Jkf)] .ret)))) (JS [JM 21 9,JN (Jr 22 .add 21 1),JM 9 22]))))) (JR [JN (Jv 8 Jkt)] .ret)))
theorem Zmm:Qq Tryz.prog VW ZlV=some (ZfG,[.tmp 8],38):=by kernel_rfl
def KN:List (Nat×List Md):=MM []
def YB:C:=JR [JN (Jn 4 0)] (JQ (JR [JM 6 0,JN (Jx 7 6),JN (Jn 8 0)] (JW 0 (JR [JN (Jq 9 .lss 8 7)] (JQ (JV 9 (.exit 0)) (JQ (.block 1 (JR [JM 10 8,JM 5 10] (JR [JM 11 1,JM 12 0,JM 13 5,JN (Js 14 1 12 13),JN (Jd 15 1 14),JN (.call .no (some 16) (.t 11) [.t 15])] (JU 16 (JR [JM 17 5,JM 4 17] .ret))))) (JS [JN (Jr 18 .add 8 1),JM 8 18])))))) (JR [JN (Jn 4 (-1))] .ret))
theorem KM:Qq Tryz.prog Xt KN=some (YB,[.tmp 4],19):=by kernel_rfl
def ZkQ:List (Nat×List Md):=MM [(3,70217),(8,2),(11,17)]
def Zd1:C:=JR [JN (Jn 4 0)] (JQ (JR [JM 7 1,JN (Jr 8 .lss 7 0),JM 9 8,JO 9 (Jm 10 1),JO 9 (Jm 11 0),JO 9 (Jx 12 11),JO 9 (Jq 13 .geq 10 12),JN (Jo 14 9 13)] (JU 14 (JR [JN (Jn 4 (-1))] .ret))) (JR [JM 16 0,JM 17 1,JN (Js 18 1 16 17),JN (Jd 19 1 18),JN (Jh 20 Yg [.t 19]),JT 15 20,JN (Jy 21 0 15),JN (Jy 22 1 15),JM 5 21,JM 6 22] (JQ (JR [JM 23 5] (.block 0 (JR [JN (Jr 25 .eql 23 0),JM 24 25] (.cond (.t 24) (JR [JM 26 1,JN (Jr 27 .add 26 1),JM 4 27] .ret) (JR [JN (Jr 29 .eql 23 4),JM 28 29] (.cond (.t 28) (JR [JT 30 0,JM 31 1,JN (Jr 32 .add 31 1),JN (Jh 33 Xl [.t 30,.t 32]),JM 4 33] .ret) (JR [JN (Jr 35 .eql 23 5),JM 34 35] (JU 34 (JR [JN (Jn 4 (-1))] .ret))))))))) (JR [JM 36 0,JT 37 0,JM 38 1,JN (Jr 39 .add 38 1),JN (Jh 40 Xl [.t 37,.t 39]),JN (Jh 41 Xl [.t 36,.t 40]),JM 4 41] .ret))))
theorem Zk6:Qq Tryz.prog Xl ZkQ=some (Zd1,[.tmp 4],42):=by kernel_rfl
def ZnX:List (Nat×List Md):=MM []
def ZgI:C:=JR [JN (Jn 4 0)] (JR [JN (Jn 5 1)] (JQ (JR [JM 8 1,JM 6 8] (JW 0 (JQ (JR [JM 9 6,JM 10 0,JN (Jx 11 10),JN (Jq 12 .lss 9 11)] (JV 12 (.exit 0))) (JQ (.block 1 (JR [JM 15 0,JM 16 6,JN (Js 17 1 15 16),JN (Jd 18 1 17),JN (Jh 19 VP [.t 18]),JM 7 19] (JQ (JR [JM 20 7,JN (Jr 21 .lss 20 0)] (JU 21 (JR [JN (Jn 4 (-1))] .ret))) (JR [JM 22 5,JN (Jr 23 .sub 22 1),JM 24 7,JN (Jq 25 .add 23 24),JM 5 25] (JR [JM 26 5,JN (Jr 27 .eql 26 0)] (JU 27 (JR [JM 28 6,JN (Jr 29 .add 28 1),JM 4 29] .ret))))))) (JS [JM 13 6,JN (Jr 14 .add 13 1),JM 6 14]))))) (JR [JN (Jn 4 (-1))] .ret)))
theorem Zol:Qq Tryz.prog ZaJ ZnX=some (ZgI,[.tmp 4],30):=by kernel_rfl
def Zi3:List (Nat×List Md):=MM [(1,1368119934875441956049010594385),(4,137),(6,4825354034778705),(1000001,25)]
def Zdp:C:=JR [JN (Jz 1 0),JN (Jv 2 Jkf)] (JQ (JQ (JX 1 (JS [JN (Jw 4 0 1),JN (Jc 5 1 4),JN (Jh 6 XU [.t 5,Jk 2,Jk 16]),JN (Jp 7 6),JM 8 7,JO 8 (Jw 9 1 1),JO 8 (Jc 10 1 9),JO 8 (Jx 11 10),JO 8 (Jw 12 0 1),JO 8 (Jc 13 1 12),JO 8 (Jw 14 0 1),JO 8 (Jc 15 1 14),JO 8 (Jq 16 .mul 13 15),JO 8 (Jq 17 .neq 11 16),JN (Jo 18 8 17),JM 19 18,JO 19 (Jw 20 2 1),JO 19 (Jc 21 1 20),JO 19 (Jx 22 21),JO 19 (Jw 23 0 1),JO 19 (Jc 24 1 23),JO 19 (Jw 25 0 1),JO 19 (Jc 26 1 25),JO 19 (Jq 27 .mul 24 26),JO 19 (Jq 28 .neq 22 27),JN (Jo 29 19 28),JM 30 29,JO 30 (Jw 31 3 1),JO 30 (Jc 32 1 31),JO 30 (Jx 33 32),JO 30 (Jw 34 0 1),JO 30 (Jc 35 1 34),JO 30 (Jw 36 0 1),JO 30 (Jc 37 1 36),JO 30 (Jq 38 .mul 35 37),JO 30 (Jq 39 .neq 33 38),JN (Jo 40 30 39)])) (JU 40 (JR [JN (Jv 2 Jkf)] .ret))) (JQ (JR [JN (Jn 3 0)] (JW 0 (JQ (JR [JM 41 3,JN (Jw 42 1 1),JN (Jc 43 1 42),JN (Jx 44 43),JN (Jq 45 .lss 41 44)] (JV 45 (.exit 0))) (JQ (.block 1 (JR [JN (Jw 48 1 1),JN (Jc 49 1 48),JM 50 3,JN (Js 51 1 49 50),JN (Jd 52 1 51),JN (Jw 53 0 1),JN (Jc 54 1 53),JN (Jr 55 .sub 54 1),JN (Jh 56 XU [.t 52,Jk 0,.t 55]),JN (Jp 57 56),JM 58 57,JO 58 (Jw 59 2 1),JO 58 (Jc 60 1 59),JO 58 (Jm 61 3),JO 58 (Js 62 1 60 61),JO 58 (Jd 63 1 62),JO 58 (Jw 64 0 1),JO 58 (Jc 65 1 64),JO 58 (Jr 66 .sub 65 1),JO 58 (Jh 67 XU [.t 63,Jk 0,.t 66]),JO 58 (Jp 68 67),JN (Jo 69 58 68)] (JU 69 (JR [JN (Jv 2 Jkf)] .ret)))) (JS [JM 46 3,JN (Jr 47 .add 46 1),JM 3 47]))))) (JR [JN (Jv 2 Jkt)] .ret)))
theorem Zi1:Qq Tryz.prog Zat Zi3=some (Zdp,[.tmp 2],70):=by kernel_rfl
def Zpn:List (Nat×List Md):=MM [(1,169774936191745691983536493130),(1000001,201)]
def Zhw:C:=JR [JN (Jz 2 0),JN (Jv 4 Jkf)] (JQ (JX 2 (JS [JN (Ja 5 4 2),JM 6 1,JN (Jh 7 Wu [.t 5,Jk 0,.t 6]),JM 8 1,JN (Jq 9 .eql 7 8),JM 10 9,JP 10 (Ja 11 4 2),JP 10 (Jm 12 1),JP 10 (Jh 13 QV [.t 11,Jk 1,.t 12]),JP 10 (Jm 14 1),JP 10 (Jq 15 .eql 13 14),JN (Jl 16 10 15),JM 17 16,JP 17 (Ja 18 4 2),JP 17 (Jm 19 1),JP 17 (Jh 20 QV [.t 18,.t 19,Jk 1]),JP 17 (Jm 21 1),JP 17 (Jq 22 .eql 20 21),JN (Jl 23 17 22),JM 24 23,JP 24 (Ja 25 4 2),JP 24 (Jm 26 1),JP 24 (Jh 27 QV [.t 25,Jk 0,.t 26]),JP 24 (Jr 28 .eql 27 0),JN (Jl 29 24 28),JM 30 29,JP 30 (Ja 31 4 2),JP 30 (Jm 32 1),JP 30 (Jh 33 QV [.t 31,.t 32,Jk 0]),JP 30 (Jr 34 .eql 33 0),JN (Jl 35 30 34),JM 36 35,JP 36 (Ja 37 4 2),JP 36 (Jm 38 1),JP 36 (Jm 39 1),JP 36 (Jh 40 Wn [.t 37,.t 38,.t 39]),JN (Jl 41 36 40),JM 4 41])) .ret)
theorem Zok:Qq Tryz.prog Zdd Zpn=some (Zhw,[.tmp 4],42):=by kernel_rfl
def ZoL:List (Nat×List Md):=MM [(1,331591091174817579963556426),(1000001,1609)]
def ZhC:C:=JR [JN (Jz 3 0),JN (Jv 6 Jkf)] (JQ (JX 3 (JS [JN (Ja 7 4 3),JM 8 1,JM 9 2,JN (Jh 10 Wu [.t 7,.t 8,.t 9]),JN (Ja 11 4 3),JM 12 2,JM 13 1,JN (Jh 14 Wu [.t 11,.t 12,.t 13]),JN (Jq 15 .eql 10 14),JM 16 15,JP 16 (Jm 17 1),JP 16 (Jm 18 2),JP 16 (Jq 19 .eql 17 18),JP 16 (Jm 20 19),JO 20 (Ja 21 4 3),JO 20 (Jm 22 1),JO 20 (Jm 23 2),JO 20 (Jh 24 Wn [.t 21,.t 22,.t 23]),JO 20 (Jp 25 24),JP 16 (Jo 26 20 25),JP 16 (Jm 27 26),JO 27 (Ja 28 4 3),JO 27 (Jm 29 2),JO 27 (Jm 30 1),JO 27 (Jh 31 Wn [.t 28,.t 29,.t 30]),JO 27 (Jp 32 31),JP 16 (Jo 33 27 32),JN (Jl 34 16 33),JM 35 34,JP 35 (Ja 36 4 3),JP 35 (Jm 37 1),JP 35 (Jm 38 2),JP 35 (Jh 39 VQ [.t 36,.t 37,.t 38]),JP 35 (Jr 40 .geq 39 0),JN (Jl 41 35 40),JM 6 41])) .ret)
theorem ZoU:Qq Tryz.prog ZcL ZoL=some (ZhC,[.tmp 6],42):=by kernel_rfl
def ZkB:List (Nat×List Md):=MM [(1,81545152335684693168722),(3,21224549329283402961049129610),(5,2),(7,70218),(9,41454197906504923769803346),(1000001,12873)]
def Zej:C:=JR [JN (Jz 4 0),JN (Jv 8 Jkf)] (JQ (JQ (JX 4 (JS [JN (Ja 9 4 4),JN (Ja 10 4 4),JM 11 1,JM 12 2,JN (Jh 13 Wu [.t 10,.t 11,.t 12]),JM 14 3,JN (Jh 15 Wu [.t 9,.t 13,.t 14]),JN (Ja 16 4 4),JM 17 1,JN (Ja 18 4 4),JM 19 2,JM 20 3,JN (Jh 21 Wu [.t 18,.t 19,.t 20]),JN (Jh 22 Wu [.t 16,.t 17,.t 21]),JN (Jq 23 .neq 15 22),JM 24 23,JO 24 (Ja 25 4 4),JO 24 (Ja 26 4 4),JO 24 (Jm 27 1),JO 24 (Jm 28 2),JO 24 (Jh 29 QV [.t 26,.t 27,.t 28]),JO 24 (Jm 30 3),JO 24 (Jh 31 QV [.t 25,.t 29,.t 30]),JO 24 (Ja 32 4 4),JO 24 (Jm 33 1),JO 24 (Ja 34 4 4),JO 24 (Jm 35 2),JO 24 (Jm 36 3),JO 24 (Jh 37 QV [.t 34,.t 35,.t 36]),JO 24 (Jh 38 QV [.t 32,.t 33,.t 37]),JO 24 (Jq 39 .neq 31 38),JN (Jo 40 24 39)])) (JU 40 (JR [JN (Jv 8 Jkf)] .ret))) (JQ (JR [JN (Ja 41 4 4),JM 42 1,JN (Ja 43 4 4),JM 44 2,JM 45 3,JN (Jh 46 Wu [.t 43,.t 44,.t 45]),JN (Jh 47 QV [.t 41,.t 42,.t 46]),JN (Ja 48 4 4),JN (Ja 49 4 4),JM 50 1,JM 51 2,JN (Jh 52 QV [.t 49,.t 50,.t 51]),JN (Ja 53 4 4),JM 54 1,JM 55 3,JN (Jh 56 QV [.t 53,.t 54,.t 55]),JN (Jh 57 Wu [.t 48,.t 52,.t 56]),JN (Jq 58 .neq 47 57),JM 59 58,JO 59 (Ja 60 4 4),JO 59 (Ja 61 4 4),JO 59 (Jm 62 1),JO 59 (Jm 63 2),JO 59 (Jh 64 Wu [.t 61,.t 62,.t 63]),JO 59 (Jm 65 3),JO 59 (Jh 66 QV [.t 60,.t 64,.t 65]),JO 59 (Ja 67 4 4),JO 59 (Ja 68 4 4),JO 59 (Jm 69 1),JO 59 (Jm 70 3),JO 59 (Jh 71 QV [.t 68,.t 69,.t 70]),JO 59 (Ja 72 4 4),JO 59 (Jm 73 2),JO 59 (Jm 74 3),JO 59 (Jh 75 QV [.t 72,.t 73,.t 74]),JO 59 (Jh 76 Wu [.t 67,.t 71,.t 75]),JO 59 (Jq 77 .neq 66 76),JN (Jo 78 59 77)] (JU 78 (JR [JN (Jv 8 Jkf)] .ret))) (JQ (JR [JN (Ja 79 4 4),JM 80 1,JM 81 2,JN (Jh 82 Wn [.t 79,.t 80,.t 81]),JN (Jp 83 82)] (JU 83 (JR [JN (Jv 8 Jkt)] .ret))) (JQ (JR [JN (Ja 84 4 4),JM 85 2,JM 86 3,JN (Jh 87 Wn [.t 84,.t 85,.t 86]),JM 88 87,JP 88 (Ja 89 4 4),JP 88 (Jm 90 1),JP 88 (Jm 91 3),JP 88 (Jh 92 Wn [.t 89,.t 90,.t 91]),JP 88 (Jp 93 92),JN (Jl 94 88 93)] (JU 94 (JR [JN (Jv 8 Jkf)] .ret))) (JR [JN (Ja 95 4 4),JN (Ja 96 4 4),JM 97 1,JM 98 3,JN (Jh 99 Wu [.t 96,.t 97,.t 98]),JN (Ja 100 4 4),JM 101 2,JM 102 3,JN (Jh 103 Wu [.t 100,.t 101,.t 102]),JN (Jh 104 Wn [.t 95,.t 99,.t 103]),JM 105 104,JP 105 (Ja 106 4 4),JP 105 (Ja 107 4 4),JP 105 (Jm 108 1),JP 105 (Jm 109 3),JP 105 (Jh 110 QV [.t 107,.t 108,.t 109]),JP 105 (Ja 111 4 4),JP 105 (Jm 112 2),JP 105 (Jm 113 3),JP 105 (Jh 114 QV [.t 111,.t 112,.t 113]),JP 105 (Jh 115 Wn [.t 106,.t 110,.t 114]),JN (Jl 116 105 115),JM 117 116,JP 117 (Ja 118 4 4),JP 117 (Ja 119 4 4),JP 117 (Jm 120 3),JP 117 (Jm 121 1),JP 117 (Jh 122 QV [.t 119,.t 120,.t 121]),JP 117 (Ja 123 4 4),JP 117 (Jm 124 3),JP 117 (Jm 125 2),JP 117 (Jh 126 QV [.t 123,.t 124,.t 125]),JP 117 (Jh 127 Wn [.t 118,.t 122,.t 126]),JN (Jl 128 117 127),JM 8 128] .ret)))))
theorem Zly:Qq Tryz.prog Zbo ZkB=some (Zej,[.tmp 8],129):=by kernel_rfl
def ZlE:List (Nat×List Md):=MM [(1,18407002697)]
def ZfL:C:=JR [JN (Jv 2 Jkf)] (JR [JM 3 0,JN (Jx 4 3),JN (Jr 5 .leq 4 40),JM 6 5,JP 6 (Jm 7 0),JP 6 (Jh 8 ZaJ [.t 7,Jk 0]),JP 6 (Jm 9 0),JP 6 (Jx 10 9),JP 6 (Jq 11 .eql 8 10),JN (Jl 12 6 11),JM 13 12,JP 13 (Jt 14 0),JP 13 (Jx 15 14),JP 13 (Jr 16 .gtr 15 0),JN (Jl 17 13 16),JM 2 17] .ret)
theorem Zmd:Qq Tryz.prog Kq ZlE=some (ZfL,[.tmp 2],18):=by kernel_rfl
def Zjg:List (Nat×List Md):=MM []
def ZdA:C:=JR [JN (Jv 6 Jkf)] (JQ (JR [JN (Jn 7 0)] (JW 0 (JQ (JR [JM 9 7,JM 10 0,JN (Jx 11 10),JN (Jq 12 .lss 9 11)] (JV 12 (.exit 0))) (JQ (.block 1 (JR [JM 15 0,JM 16 7,JN (Js 17 1 15 16),JN (Jd 18 1 17),JN (Jh 19 VP [.t 18]),JN (Jr 20 .gtr 19 0),JM 21 20,JP 21 (Jm 22 0),JP 21 (Jm 23 7),JP 21 (Js 24 1 22 23),JP 21 (Jd 25 1 24),JP 21 (Jr 26 .gtr 25 2),JN (Jl 27 21 26)] (JU 27 (JR [JM 28 0,JM 29 7,JN (Js 30 1 28 29),JN (Jd 31 1 30),JN (Jh 32 Zg [.t 31]),JM 8 32] (JR [JM 33 8,JM 34 1,JN (Jq 35 .geq 33 34),JM 36 35,JO 36 (Jm 37 2),JO 36 (Jm 38 37),JP 38 (Jm 39 8),JP 38 (Jr 40 .lss 39 0),JO 36 (Jl 41 38 40),JN (Jo 42 36 41)] (JU 42 (JR [JN (Jv 6 Jkf)] .ret))))))) (JS [JM 13 7,JN (Jr 14 .add 13 1),JM 7 14]))))) (JR [JN (Jv 6 Jkt)] .ret))
theorem Zjs:Qq Tryz.prog ZH Zjg=some (ZdA,[.tmp 6],43):=by kernel_rfl
def ZlO:List (Nat×List Md):=MM [(1,17),(5,1178048172626),(6,18),(1000001,1609)]
def ZfS:C:=JR [JN (Jz 3 0),JN (Jv 6 (.k (Je 1)))] (JQ (JX 3 (JS [JN (.bslice 9 1 0 [] []),JT 7 9])) (JQ (JR [JN (Jn 8 0)] (JW 0 (JQ (JR [JM 10 8,JM 11 1,JN (Jx 12 11),JN (Jq 13 .lss 10 12)] (JV 13 (.exit 0))) (JQ (.block 1 (JS [JT 16 7,JN (Ja 17 4 3),JM 18 1,JM 19 8,JN (Js 20 1 18 19),JN (Jd 21 1 20),JM 22 2,JM 23 8,JN (Js 24 1 22 23),JN (Jd 25 1 24),JN (Jh 26 VQ [.t 17,.t 21,.t 25]),JN (.bslice 27 1 1 [N 0] [(0,1,.t 26)]),JN (JB 28 1 16 27),JT 7 28])) (JS [JM 14 8,JN (Jr 15 .add 14 1),JM 8 15]))))) (JR [JT 29 7,JT 6 29] .ret)))
theorem Zma:Qq Tryz.prog VU ZlO=some (ZfS,[.tmp 6],30):=by kernel_rfl
def ZdJ:List (Nat×List Md):=MM [(1,8785),(1000001,1609)]
def Vk:C:=JR [JN (Jz 3 0),JN (Jv 6 Jkf)] (JQ (JX 3 (JS [JN (Jw 7 3 3),JN (Jc 8 1 7),JM 9 1,JN (Jw 10 0 3),JN (Jc 11 1 10),JN (Jq 12 .mul 9 11),JM 13 2,JN (Jq 14 .add 12 13),JN (Js 15 1 8 14),JN (Jd 16 1 15),JM 6 16])) .ret)
theorem ZdS:Qq Tryz.prog QD ZdJ=some (Vk,[.tmp 6],17):=by kernel_rfl
def Zev:List (Nat×List Md):=MM [(2,137),(4,561738),(7,137),(9,75395099824777),(1000001,1609)]
def Zab:C:=JR [JN (Jz 3 0),JN (Jn 6 0)] (JQ (JQ (JX 3 (JS [JN (Jn 7 0)])) (JW 0 (JQ (JR [JM 10 7,JN (Jw 11 0 3),JN (Jc 12 1 11),JN (Jq 13 .lss 10 12)] (JV 13 (.exit 0))) (JQ (.block 1 (JQ (JR [JN (Ja 16 4 3),JM 17 1,JM 18 7,JN (Jh 19 QD [.t 16,.t 17,.t 18]),JN (Jp 20 19),JM 21 20,JO 21 (Ja 22 4 3),JO 21 (Jm 23 2),JO 21 (Jm 24 7),JO 21 (Jh 25 QD [.t 22,.t 23,.t 24]),JO 21 (Jp 26 25),JN (Jo 27 21 26)] (JU 27 (.exit 1))) (JR [JN (Jv 8 Jkt)] (JQ (JR [JN (Jn 9 0)] (JW 2 (JQ (JR [JM 28 9,JN (Jw 29 0 3),JN (Jc 30 1 29),JN (Jq 31 .lss 28 30)] (JV 31 (.exit 2))) (JQ (.block 3 (JS [JM 34 8,JM 35 34,JP 35 (Ja 36 4 3),JP 35 (Jm 37 1),JP 35 (Jm 38 9),JP 35 (Jh 39 QD [.t 36,.t 37,.t 38]),JP 35 (Jp 40 39),JP 35 (Jm 41 40),JO 41 (Ja 42 4 3),JO 41 (Jm 43 2),JO 41 (Jm 44 9),JO 41 (Jh 45 QD [.t 42,.t 43,.t 44]),JO 41 (Jp 46 45),JP 35 (Jo 47 41 46),JP 35 (Jm 48 47),JO 48 (Ja 49 4 3),JO 48 (Jm 50 7),JO 48 (Jm 51 9),JO 48 (Jh 52 QD [.t 49,.t 50,.t 51]),JP 35 (Jo 53 48 52),JN (Jl 54 35 53),JM 8 54])) (JS [JM 32 9,JN (Jr 33 .add 32 1),JM 9 33]))))) (JR [JM 55 8] (JU 55 (JR [JM 56 7,JM 6 56] .ret))))))) (JS [JM 14 7,JN (Jr 15 .add 14 1),JM 7 15]))))) (JR [JN (Jn 6 (-1))] .ret))
theorem ZdV:Qq Tryz.prog Xb Zev=some (Zab,[.tmp 6],57):=by kernel_rfl
def Zda:List (Nat×List Md):=MM [(1,81545152335684693168722),(3,21224549329283402961049129610),(5,18407035466),(7,10866969256002826736711328371274),(1000001,12873)]
def K7:C:=JR [JN (Jz 4 0),JN (Jv 8 Jkf)] (JQ (JQ (JX 4 (JS [JN (Ja 9 4 4),JN (Ja 10 4 4),JM 11 1,JM 12 2,JN (Jh 13 QF [.t 10,.t 11,.t 12]),JM 14 3,JN (Jh 15 QF [.t 9,.t 13,.t 14]),JN (Ja 16 4 4),JM 17 1,JN (Ja 18 4 4),JM 19 2,JM 20 3,JN (Jh 21 QF [.t 18,.t 19,.t 20]),JN (Jh 22 QF [.t 16,.t 17,.t 21]),JN (Jq 23 .neq 15 22),JM 24 23,JO 24 (Ja 25 4 4),JO 24 (Ja 26 4 4),JO 24 (Jm 27 1),JO 24 (Jm 28 2),JO 24 (Jh 29 Qs [.t 26,.t 27,.t 28]),JO 24 (Jm 30 3),JO 24 (Jh 31 Qs [.t 25,.t 29,.t 30]),JO 24 (Ja 32 4 4),JO 24 (Jm 33 1),JO 24 (Ja 34 4 4),JO 24 (Jm 35 2),JO 24 (Jm 36 3),JO 24 (Jh 37 Qs [.t 34,.t 35,.t 36]),JO 24 (Jh 38 Qs [.t 32,.t 33,.t 37]),JO 24 (Jq 39 .neq 31 38),JN (Jo 40 24 39)])) (JU 40 (JR [JN (Jv 8 Jkf)] .ret))) (JQ (JR [JN (Ja 41 4 4),JM 42 1,JN (Ja 43 4 4),JM 44 2,JM 45 3,JN (Jh 46 QF [.t 43,.t 44,.t 45]),JN (Jh 47 Qs [.t 41,.t 42,.t 46]),JN (Ja 48 4 4),JN (Ja 49 4 4),JM 50 1,JM 51 2,JN (Jh 52 Qs [.t 49,.t 50,.t 51]),JN (Ja 53 4 4),JM 54 1,JM 55 3,JN (Jh 56 Qs [.t 53,.t 54,.t 55]),JN (Jh 57 QF [.t 48,.t 52,.t 56]),JN (Jq 58 .neq 47 57),JM 59 58,JO 59 (Ja 60 4 4),JO 59 (Ja 61 4 4),JO 59 (Jm 62 1),JO 59 (Jm 63 2),JO 59 (Jh 64 QF [.t 61,.t 62,.t 63]),JO 59 (Jm 65 3),JO 59 (Jh 66 Qs [.t 60,.t 64,.t 65]),JO 59 (Ja 67 4 4),JO 59 (Ja 68 4 4),JO 59 (Jm 69 1),JO 59 (Jm 70 3),JO 59 (Jh 71 Qs [.t 68,.t 69,.t 70]),JO 59 (Ja 72 4 4),JO 59 (Jm 73 2),JO 59 (Jm 74 3),JO 59 (Jh 75 Qs [.t 72,.t 73,.t 74]),JO 59 (Jh 76 QF [.t 67,.t 71,.t 75]),JO 59 (Jq 77 .neq 66 76),JN (Jo 78 59 77)] (JU 78 (JR [JN (Jv 8 Jkf)] .ret))) (JQ (JR [JN (Ja 79 4 4),JM 80 1,JM 81 2,JN (Jh 82 QD [.t 79,.t 80,.t 81]),JM 83 82,JP 83 (Ja 84 4 4),JP 83 (Jm 85 2),JP 83 (Jm 86 3),JP 83 (Jh 87 QD [.t 84,.t 85,.t 86]),JN (Jl 88 83 87),JM 89 88,JP 89 (Ja 90 4 4),JP 89 (Jm 91 1),JP 89 (Jm 92 3),JP 89 (Jh 93 QD [.t 90,.t 91,.t 92]),JP 89 (Jp 94 93),JN (Jl 95 89 94)] (JU 95 (JR [JN (Jv 8 Jkf)] .ret))) (JR [JN (Ja 96 4 4),JM 97 1,JM 98 2,JN (Jh 99 QD [.t 96,.t 97,.t 98]),JN (Jp 100 99),JM 101 100,JO 101 (Ja 102 4 4),JO 101 (Ja 103 4 4),JO 101 (Jm 104 1),JO 101 (Jm 105 3),JO 101 (Jh 106 QF [.t 103,.t 104,.t 105]),JO 101 (Ja 107 4 4),JO 101 (Jm 108 2),JO 101 (Jm 109 3),JO 101 (Jh 110 QF [.t 107,.t 108,.t 109]),JO 101 (Jh 111 QD [.t 102,.t 106,.t 110]),JO 101 (Jm 112 111),JP 112 (Ja 113 4 4),JP 112 (Ja 114 4 4),JP 112 (Jm 115 1),JP 112 (Jm 116 3),JP 112 (Jh 117 Qs [.t 114,.t 115,.t 116]),JP 112 (Ja 118 4 4),JP 112 (Jm 119 2),JP 112 (Jm 120 3),JP 112 (Jh 121 Qs [.t 118,.t 119,.t 120]),JP 112 (Jh 122 QD [.t 113,.t 117,.t 121]),JO 101 (Jl 123 112 122),JO 101 (Jm 124 123),JP 124 (Ja 125 4 4),JP 124 (Ja 126 4 4),JP 124 (Jm 127 3),JP 124 (Jm 128 1),JP 124 (Jh 129 Qs [.t 126,.t 127,.t 128]),JP 124 (Ja 130 4 4),JP 124 (Jm 131 3),JP 124 (Jm 132 2),JP 124 (Jh 133 Qs [.t 130,.t 131,.t 132]),JP 124 (Jh 134 QD [.t 125,.t 129,.t 133]),JO 101 (Jl 135 124 134),JN (Jo 136 101 135),JM 8 136] .ret))))
theorem Zc9:Qq Tryz.prog Zt Zda=some (K7,[.tmp 8],137):=by kernel_rfl
def Zgy:List (Nat×List Md):=MM [(1,17)]
def Za0:C:=JR [JN (Jv 3 Jkf)] (JR [JN (Jb 4 4 1),JT 5 0,JN (Jh 6 ZK [.t 4,.t 5]),JN (Jp 7 6),JM 3 7] .ret)
theorem Zf1:Qq Tryz.prog Yv Zgy=some (Za0,[.tmp 3],8):=by kernel_rfl
def Zpc:List (Nat×List Md):=MM [(2,1105),(3,35951177),(5,17),(6,17),(7,17),(8,17),(9,17),(11,137),(13,8777),(14,1097),(17,17),(20,1097),(1000001,102985)]
def Zhu:C:=JR [JN (Jz 5 0),JN (Jn 10 0)] (JQ (JX 5 (JS [JM 15 4,JN (Jr 16 .add 15 1),JM 4 16])) (JR [JN (Jw 18 0 5),JN (Jc 19 1 18),JN (Jh 20 Zb4 [.t 19]),JT 17 20,JN (Jy 21 0 17),JN (Jy 22 1 17),JN (.alloc 11 [.sc (.string ⟨#[]⟩),N 0,.sc (.bool false),.sc (.bool false)]),JN (JC 4 11 21),JM 12 22] (JQ (JR [JM 23 12,JN (Jp 24 23),JM 25 24,JO 25 (Jm 26 4),JO 25 (Jr 27 .gtr 26 400),JN (Jo 28 25 27),JM 29 28,JO 29 (Jw 30 3 5),JO 29 (Jc 31 1 30),JO 29 (Jx 32 31),JO 29 (Jw 33 1 11),JO 29 (Jd 34 1 33),JO 29 (Jq 35 .neq 32 34),JN (Jo 36 29 35)] (JU 36 (JR [JN (Jn 10 401)] .ret))) (JQ (.block 0 (JR [JN (Jw 41 0 5),JN (Jc 42 1 41),JN (Jr 43 .eql 42 0),JM 40 43] (.cond (.t 40) (JS [JN (Jw 44 1 5),JN (Jc 45 1 44),JM 46 1,JN (Jr 47 .sub 46 1),JN (Jh 48 W0 [.t 45,Jk 0,.t 47]),JM 12 48]) (JR [JN (Jw 50 0 5),JN (Jc 51 1 50),JN (Jr 52 .eql 51 1),JM 49 52] (.cond (.t 49) (JS [JN (Jw 53 1 5),JN (Jc 54 1 53),JN (Jh 55 W0 [.t 54,Jk 0,Jk 2]),JM 12 55]) (JR [JN (Jw 57 2 11),JN (Jd 58 1 57),JM 56 58] (.cond (.t 56) (JS [JM 59 2,JN (Jw 60 1 5),JN (Jc 61 1 60),JN (.call .no (some 62) (.t 59) [.t 61]),JM 12 62]) (JS [JN (Jw 37 1 5),JN (Jc 38 1 37),JN (Jr 39 .eql 38 0),JM 12 39])))))))) (JQ (JR [JN (Jw 63 3 11),JN (Jd 64 1 63)] (.cond (.t 64) (JS [JM 65 12,JM 66 65,JP 66 (Jm 67 3),JP 66 (Jw 68 2 5),JP 66 (Jc 69 1 68),JP 66 (.call .no (some 70) (.t 67) [.t 69]),JN (Jl 71 66 70),JM 12 71]) (JS [JM 72 12,JM 73 72,JP 73 (Jw 74 2 5),JP 73 (Jc 75 1 74),JP 73 (Jx 76 75),JP 73 (Jr 77 .eql 76 0),JN (Jl 78 73 77),JM 12 78]))) (JQ (JR [JM 79 12,JN (Jp 80 79)] (JU 80 (JR [JN (Jn 10 401)] .ret))) (JQ (JR [JN (Jw 81 3 5),JN (Jc 82 1 81),JN (Jx 83 82),JN (Jn 84 0)] (JW 1 (JR [JN (Jq 85 .lss 84 83)] (JQ (JV 85 (.exit 1)) (JQ (.block 2 (JR [JM 86 84,JN (Js 87 4 82 84),JN (Jb 88 4 87),JN (.alloc 14 [N 0,N 0,Je 1,Je 1]),JM 13 86,JN (JC 4 14 88)] (JR [JN (Jb 89 4 14),JM 90 1,JN (Jw 91 0 5),JN (Jc 92 1 91),JM 93 13,JN (Jh 94 ZbL [.t 92,.t 93]),JN (Jq 95 .add 90 94),JM 96 2,JM 97 3,JM 98 4,JN (Jh 99 ZaF [.t 89,.t 95,.t 96,.t 97,.t 98]),JM 4 99] (JR [JM 100 4,JN (Jr 101 .gtr 100 400)] (JU 101 (JR [JN (Jn 10 401)] .ret)))))) (JS [JN (Jr 102 .add 84 1),JM 84 102])))))) (JR [JM 103 4,JM 10 103] .ret))))))))
theorem Zoh:Qq Tryz.prog ZaF Zpc=some (Zhu,[.tmp 10],104):=by kernel_rfl
def ZgO:List (Nat×List Md):=MM [(1,17)]
def ZbO:C:=JR [JN (Jv 3 Jkf)] (JR [JN (Jb 4 4 1),JT 5 0,JN (Jh 6 ZK [.t 4,.t 5]),JM 3 6] .ret)
theorem Zg5:Qq Tryz.prog YR ZgO=some (ZbO,[.tmp 3],7):=by kernel_rfl
def Zop:List (Nat×List Md):=MM [(1,17),(2,1105),(3,17),(5,138),(6,17),(8,4493897),(10,561738),(11,18),(1000001,1609)]
def ZaN:C:=JR [JN (Jz 3 0),JN (Jv 6 (.k (Je 1)))] (JQ (.block 0 (JQ (JX 3 (JS [JN (Jw 9 0 3),JN (Jc 10 1 9),JN (Jr 11 .eql 10 9),JM 8 11])) (.cond (.t 8) (JR [JN (Jw 12 2 3),JN (Jc 13 1 12),JN (.bslice 14 1 1 [Je 1] [(0,1,.t 13)]),JT 6 14] .ret) (JR [JN (Jw 16 0 3),JN (Jc 17 1 16),JM 18 1,JN (Jh 19 ZbL [.t 17,.t 18]),JN (Jr 20 .eql 19 0),JM 15 20] (JU 15 (JR [JN (Jv 6 (.k (Je 1)))] .ret)))))) (JR [JT 21 2,JN (Jh 22 Zs [.t 21]),JT 7 22] (JQ (JR [JN (Jw 23 0 3),JN (Jc 24 1 23)] (.block 1 (JR [JN (Jr 26 .eql 24 5),JM 25 26] (.cond (.t 25) (JR [JM 27 7,JN (Ju 28 1 27 1),JN (Jd 29 1 28),JM 30 7,JN (Ju 31 1 30 0),JN (Jd 32 1 31),JN (.bslice 33 1 2 [Je 1,Je 1] [(0,1,.t 29),(1,1,.t 32)]),JT 6 33] .ret) (JR [JN (Jr 35 .eql 24 8),JM 34 35] (JU 34 (JR [JT 36 7,JM 37 1,JN (Jr 38 .sub 37 1),JN (Js 39 1 36 38),JN (Jd 40 1 39),JN (.bslice 41 1 1 [Je 1] [(0,1,.t 40)]),JT 6 41] .ret))))))) (JR [JT 42 7,JT 6 42] .ret))))
theorem Zpr:Qq Tryz.prog Zc5 Zop=some (ZaN,[.tmp 6],43):=by kernel_rfl
def Vr:List (Nat×List Md):=MM [(4,137),(5,17),(9,137),(10,2),(12,137),(13,1106),(15,18)]
def Zf:C:=JR [JN (Jv 2 (.k (Je 1)))] (JR [JN (Jn 3 0)] (JQ (JR [JM 9 0,JN (Jx 10 9),JN (Jn 11 0)] (JW 0 (JR [JN (Jq 12 .lss 11 10)] (JQ (JV 12 (.exit 0)) (JQ (.block 1 (JR [JN (Js 13 1 9 11),JN (Jd 14 1 13),JT 5 14] (JR [JM 15 3,JT 16 5,JN (Jx 17 16),JN (Jq 18 .add 15 17),JM 3 18] (JR [JM 19 3,JN (Jr 20 .lss 19 0)] (JU 20 (JS [JN (.bad (some 21)),JN (.bad none)])))))) (JS [JN (Jr 22 .add 11 1),JM 11 22])))))) (JR [JM 23 3,JN (Jh 24 X6 [.k (Je 1),.t 23]),JT 6 24] (JQ (JR [JT 25 0,JN (Jx 26 25),JN (Jn 27 0)] (JW 2 (JR [JN (Jq 28 .lss 27 26)] (JQ (JV 28 (.exit 2)) (JQ (.block 3 (JR [JN (Js 29 1 25 27),JN (Jd 30 1 29),JT 8 30] (JS [JT 31 6,JT 32 8,JN (JB 33 1 31 32),JT 6 33]))) (JS [JN (Jr 34 .add 27 1),JM 27 34])))))) (JR [JT 35 6,JT 2 35] .ret)))))
theorem Vv:Qq Tryz.prog XM Vr=some (Zf,[.tmp 2],36):=by kernel_rfl
def Zde:List (Nat×List Md):=MM [(1,8778),(3,17),(4,17),(6,17),(8,17),(10,17),(12,17),(16,19908484388251542089),(1000001,111177)]
def Yc:C:=JR [JN (Jz 4 0),JN (Jz 5 1),JN (Jn 8 0)] (JQ (JX 4 (JX 5 (JS [JT 14 3,JN (Ju 15 1 14 0),JN (Jd 16 1 15),JN (Jh 17 Yg [.t 16]),JT 13 17,JN (Jy 18 0 13),JN (Jy 19 1 13),JM 9 18,JM 10 19]))) (JR [JN (Jn 11 (-1)),JN (Jn 12 0)] (JQ (.block 0 (JQ (JR [JN (Jw 21 0 5),JN (Jc 22 1 21),JN (Jr 23 .eql 22 2),JM 20 23] (JV 20 (JS [JN (Jw 24 0 5),JN (Jc 25 1 24),JN (Jr 26 .eql 25 3),JM 27 26,JP 27 (Jm 28 2),JP 27 (Jr 29 .eql 28 0),JN (Jl 30 27 29),JM 20 30]))) (.cond (.t 20) (JS [JN (Jn 11 0),JN (Jn 12 2)]) (JR [JN (Jw 32 0 5),JN (Jc 33 1 32),JN (Jr 34 .eql 33 5),JM 35 34,JP 35 (Jm 36 2),JP 35 (Jr 37 .eql 36 0),JN (Jl 38 35 37),JM 31 38] (.cond (.t 31) (JS [JN (Jn 11 1),JN (Jn 12 4)]) (JR [JN (Jw 40 0 5),JN (Jc 41 1 40),JN (Jr 42 .eql 41 8),JM 43 42,JP 43 (Jm 44 2),JP 43 (Jr 45 .eql 44 0),JN (Jl 46 43 45),JM 39 46] (.cond (.t 39) (JS [JN (Jn 11 2),JN (Jn 12 5)]) (JR [JN (Jw 48 0 5),JN (Jc 49 1 48),JN (Jr 50 .eql 49 10),JM 51 50,JP 51 (Jm 52 2),JP 51 (Jr 53 .eql 52 0),JN (Jl 54 51 53),JM 47 54] (.cond (.t 47) (JS [JN (Jn 11 3),JN (Jn 12 6)]) (JR [JN (Jw 56 0 5),JN (Jc 57 1 56),JN (Jr 58 .eql 57 12),JM 59 58,JP 59 (Jm 60 2),JP 59 (Jr 61 .eql 60 0),JN (Jl 62 59 61),JM 55 62] (JU 55 (JS [JN (Jn 11 4),JN (Jn 12 7)])))))))))))) (JQ (JR [JM 63 11,JN (Jr 64 .geq 63 0),JM 65 64,JP 65 (Jm 66 9),JP 65 (Jm 67 11),JP 65 (Jq 68 .neq 66 67),JN (Jl 69 65 68)] (JU 69 (JR [JM 70 12,JM 8 70] .ret))) (JQ (JR [JM 71 2,JN (Jr 72 .eql 71 0),JM 73 72,JP 73 (Jw 74 0 5),JP 73 (Jc 75 1 74),JP 73 (Jr 76 .eql 75 5),JP 73 (Jm 77 76),JO 77 (Jw 78 0 5),JO 77 (Jc 79 1 78),JO 77 (Jr 80 .eql 79 8),JP 73 (Jo 81 77 80),JP 73 (Jm 82 81),JO 82 (Jw 83 0 5),JO 82 (Jc 84 1 83),JO 82 (Jr 85 .eql 84 12),JP 73 (Jo 86 82 85),JN (Jl 87 73 86),JM 88 87,JP 88 (Jw 89 0 4),JP 88 (Ja 90 4 89),JP 88 (Jw 91 1 5),JP 88 (Jc 92 1 91),JP 88 (Jh 93 QD [.t 90,Jk 1,.t 92]),JP 88 (Jp 94 93),JN (Jl 95 88 94)] (JU 95 (JR [JN (Jn 8 8)] .ret))) (JR [JN (Jn 8 0)] .ret))))))
theorem Zc4:Qq Tryz.prog Zw Zde=some (Yc,[.tmp 8],96):=by kernel_rfl
def ZdL:List (Nat×List Md):=MM [(1,17),(2,17),(4,1106),(5,70218),(7,2),(9,1106),(11,1105),(13,9432994194578),(15,75463937008210),(17,70226),(19,9425461257362),(21,18541487186),(23,18541519442),(25,1105),(27,9424519631434),(29,38637536687760530),(31,70226),(33,9493257950290),(35,70225),(36,75404749083794),(38,76014634439762),(40,70225),(41,4526674),(43,9425461257362),(44,2),(1000001,426545737)]
def QT:C:=JR [JN (Jz 6 0),JN (Jz 7 1),JN (Jz 9 3),JN (Jn 12 0)] (JQ (JX 6 (JX 7 (JX 9 (JS [JN (.mkfn 18 X5 false [.t 7]),JT 13 18])))) (JQ (JR [JN (Jw 19 0 9),JN (Jc 20 1 19)] (.block 0 (JR [JN (Jr 22 .eql 20 0),JM 21 22] (.cond (.t 21) (JR [JN (Jc 23 1 7),JT 24 2,JN (Jw 25 1 9),JN (Jc 26 1 25),JN (Js 27 1 24 26),JN (Jd 28 1 27),JN (Jh 29 WL [.t 28]),JN (JA 30 23),JN (Jw 31 0 30),JN (JC 1 31 29)] (JS [JN (Jc 32 1 7),JN (JA 33 32),JN (Jw 34 1 33),JN (Jd 35 1 34),JN (Jw 36 1 9),JN (Jc 37 1 36),JN (Js 38 1 35 37),JN (.store 1 (.t 38) (Jk 1))])) (JR [JN (Jr 40 .eql 20 1),JM 39 40] (.cond (.t 39) (JS [JN (Jc 41 1 7),JN (.bslice 42 1 1 [N 0] [(0,1,Jk 0)]),JN (JA 43 41),JN (Jw 44 0 43),JN (JC 1 44 42)]) (JR [JN (Jr 46 .eql 20 2),JM 45 46] (.cond (.t 45) (JS [JN (Jc 47 1 7),JN (Jc 48 1 7),JN (.bslice 49 1 1 [N 0] [(0,1,Jk 0)]),JN (Ja 50 4 6),JM 51 4,JN (Ju 52 1 51 0),JN (Jd 53 1 52),JM 54 4,JN (Ju 55 1 54 1),JN (Jd 56 1 55),JN (Jh 57 WO [.t 50,.t 53,.t 56]),JN (JA 58 47),JN (Jw 59 0 58),JN (JC 1 59 49),JN (JA 60 48),JN (Jw 61 1 60),JN (JC 1 61 57)]) (JR [JN (Jr 63 .eql 20 3),JM 62 63] (.cond (.t 62) (JQ (JR [JM 64 13,JN (.call .any (some 65) (.t 64) [Jk 1]),JM 66 13,JN (.call .any (some 67) (.t 66) [Jk 2]),JN (Jh 68 WM [.t 65,.t 67]),JN (Jp 69 68)] (JU 69 (JR [JN (Jn 12 3)] .ret))) (JS [JN (Jc 70 1 7),JN (Jc 71 1 7),JT 72 13,JN (.call .any (some 73) (.t 72) [Jk 1]),JN (Ja 74 4 6),JM 75 4,JN (Ju 76 1 75 0),JN (Jc 77 1 76),JN (Ja 78 4 6),JM 79 4,JN (Ju 80 1 79 1),JN (Jc 81 1 80),JM 82 4,JN (Ju 83 1 82 2),JN (Jc 84 1 83),JN (Jh 85 Y7 [.t 78,.t 81,.t 84]),JN (Jh 86 WO [.t 74,.t 77,.t 85]),JN (JA 87 70),JN (Jw 88 0 87),JN (JC 1 88 73),JN (JA 89 71),JN (Jw 90 1 89),JN (JC 1 90 86)])) (JR [JN (Jr 92 .eql 20 4),JM 91 92] (.cond (.t 91) (JS [JN (Jc 93 1 7),JN (Jc 94 1 7),JN (.bslice 95 1 1 [N 0] [(0,1,Jk 1)]),JM 96 13,JN (.call .any (some 97) (.t 96) [Jk 0]),JM 98 13,JN (.call .any (some 99) (.t 98) [Jk 1]),JN (.bslice 100 1 3 [Je 1,Je 1,Je 1] [(0,1,.t 95),(1,1,.t 97),(2,1,.t 99)]),JN (Jh 101 Q6 [.t 100]),JN (Ja 102 4 6),JM 103 4,JN (Ju 104 1 103 0),JN (Jc 105 1 104),JM 106 4,JN (Ju 107 1 106 1),JN (Jc 108 1 107),JN (Jh 109 WO [.t 102,.t 105,.t 108]),JN (JA 110 93),JN (Jw 111 0 110),JN (JC 1 111 101),JN (JA 112 94),JN (Jw 113 1 112),JN (JC 1 113 109)]) (JR [JN (Jr 115 .eql 20 5),JM 114 115] (.cond (.t 114) (JQ (JR [JN (Ja 116 4 6),JT 117 5,JN (Ju 118 1 117 1),JN (Jd 119 1 118),JN (Jw 120 1 9),JN (Jc 121 1 120),JN (Jh 122 W3 [.t 116,.t 119,.t 121]),JN (Jp 123 122)] (JU 123 (JR [JN (Jn 12 9)] .ret))) (JS [JN (Jc 124 1 7),JN (Jc 125 1 7),JT 126 13,JN (.call .any (some 127) (.t 126) [Jk 1]),JN (Ja 128 4 6),JN (Ja 129 4 6),JN (Jw 130 1 9),JN (Jc 131 1 130),JM 132 4,JN (Ju 133 1 132 0),JN (Jc 134 1 133),JN (Jh 135 W6 [.t 129,.t 131,.t 134]),JM 136 4,JN (Ju 137 1 136 1),JN (Jc 138 1 137),JN (Jh 139 WO [.t 128,.t 135,.t 138]),JN (JA 140 124),JN (Jw 141 0 140),JN (JC 1 141 127),JN (JA 142 125),JN (Jw 143 1 142),JN (JC 1 143 139)])) (JR [JN (Jr 145 .eql 20 6),JM 144 145] (.cond (.t 144) (JS [JN (Jc 146 1 7),JN (Jc 147 1 7),JN (.bslice 148 1 1 [N 0] [(0,1,Jk 2)]),JT 149 13,JN (.call .any (some 150) (.t 149) [Jk 0]),JN (Jw 151 2 9),JN (Jc 152 1 151),JN (.bslice 153 1 3 [Je 1,Je 1,Je 1] [(0,1,.t 148),(1,1,.t 150),(2,1,.t 152)]),JN (Jh 154 Q6 [.t 153]),JT 155 4,JN (Ju 156 1 155 0),JN (Jc 157 1 156),JN (JA 158 146),JN (Jw 159 0 158),JN (JC 1 159 154),JN (JA 160 147),JN (Jw 161 1 160),JN (JC 1 161 157)]) (JR [JN (Jr 163 .eql 20 7),JM 162 163] (.cond (.t 162) (JS [JN (Jc 164 1 7),JN (Jc 165 1 7),JN (.bslice 166 1 1 [N 0] [(0,1,Jk 2)]),JN (Jw 167 2 9),JN (Jc 168 1 167),JT 169 13,JN (.call .any (some 170) (.t 169) [Jk 0]),JN (.bslice 171 1 3 [Je 1,Je 1,Je 1] [(0,1,.t 166),(1,1,.t 168),(2,1,.t 170)]),JN (Jh 172 Q6 [.t 171]),JT 173 4,JN (Ju 174 1 173 0),JN (Jc 175 1 174),JN (JA 176 164),JN (Jw 177 0 176),JN (JC 1 177 172),JN (JA 178 165),JN (Jw 179 1 178),JN (JC 1 179 175)]) (JR [JN (Jr 181 .eql 20 8),JM 180 181] (.cond (.t 180) (JQ (JR [JM 182 13,JN (.call .any (some 183) (.t 182) [Jk 1]),JM 184 13,JN (.call .any (some 185) (.t 184) [Jk 2]),JN (Jh 186 WM [.t 183,.t 185]),JN (Jp 187 186)] (JU 187 (JR [JN (Jn 12 3)] .ret))) (JQ (JR [JN (Ja 188 4 6),JM 189 5,JN (Ju 190 1 189 1),JN (Jd 191 1 190),JN (Jw 192 1 9),JN (Jc 193 1 192),JN (Jh 194 W3 [.t 188,.t 191,.t 193]),JN (Jp 195 194),JM 196 195,JO 196 (Ja 197 4 6),JO 196 (Jm 198 5),JO 196 (Ju 199 1 198 2),JO 196 (Jd 200 1 199),JO 196 (Jw 201 1 9),JO 196 (Jc 202 1 201),JO 196 (Jh 203 W3 [.t 197,.t 200,.t 202]),JO 196 (Jp 204 203),JN (Jo 205 196 204)] (JU 205 (JR [JN (Jn 12 9)] .ret))) (JS [JN (Jc 206 1 7),JN (Jc 207 1 7),JT 208 13,JN (.call .any (some 209) (.t 208) [Jk 1]),JN (Ja 210 4 6),JN (Ja 211 4 6),JN (Jw 212 1 9),JN (Jc 213 1 212),JM 214 4,JN (Ju 215 1 214 0),JN (Jc 216 1 215),JN (Jh 217 W6 [.t 211,.t 213,.t 216]),JN (Ja 218 4 6),JM 219 4,JN (Ju 220 1 219 1),JN (Jc 221 1 220),JM 222 4,JN (Ju 223 1 222 2),JN (Jc 224 1 223),JN (Jh 225 Y7 [.t 218,.t 221,.t 224]),JN (Jh 226 WO [.t 210,.t 217,.t 225]),JN (JA 227 206),JN (Jw 228 0 227),JN (JC 1 228 209),JN (JA 229 207),JN (Jw 230 1 229),JN (JC 1 230 226)]))) (JR [JN (Jr 232 .eql 20 9),JM 231 232] (.cond (.t 231) (JQ (JR [JN (Ja 233 4 6),JT 234 5,JN (Ju 235 1 234 0),JN (Jd 236 1 235),JN (Jw 237 1 9),JN (Jc 238 1 237),JN (Jh 239 W3 [.t 233,.t 236,.t 238]),JN (Jp 240 239)] (JU 240 (JR [JN (Jn 12 9)] .ret))) (JS [JN (Jc 241 1 7),JN (Jc 242 1 7),JN (Jw 243 1 9),JN (Jc 244 1 243),JN (.bin 245 .num .add (Jk 3) (.t 244)),JN (.bslice 246 1 1 [N 0] [(0,1,.t 245)]),JN (Jw 247 2 9),JN (Jc 248 1 247),JT 249 13,JN (.call .any (some 250) (.t 249) [Jk 0]),JN (.bslice 251 1 3 [Je 1,Je 1,Je 1] [(0,1,.t 246),(1,1,.t 248),(2,1,.t 250)]),JN (Jh 252 Q6 [.t 251]),JT 253 4,JN (Ju 254 1 253 0),JN (Jc 255 1 254),JN (JA 256 241),JN (Jw 257 0 256),JN (JC 1 257 252),JN (JA 258 242),JN (Jw 259 1 258),JN (JC 1 259 255)])) (JR [JN (Jr 261 .eql 20 10),JM 260 261] (.cond (.t 260) (JR [JM 263 13,JN (.call .any (some 264) (.t 263) [Jk 0]),JN (Ju 265 1 264 0),JN (Jd 266 1 265),JN (Jh 267 Yg [.t 266]),JT 262 267,JN (Jy 268 0 262),JN (Jy 269 1 262),JM 14 268,JM 15 269] (JS [JN (Jc 270 1 7),JN (Jc 271 1 7),JT 272 13,JN (.call .any (some 273) (.t 272) [Jk 0]),JN (Jh 274 Zs [.t 273]),JN (Ju 275 1 274 1),JN (Jc 276 1 275),JN (Ja 277 4 6),JM 278 4,JN (Ju 279 1 278 0),JN (Jc 280 1 279),JN (Ja 281 4 6),JM 282 15,JM 283 4,JN (Ju 284 1 283 1),JN (Jc 285 1 284),JN (Jh 286 W6 [.t 281,.t 282,.t 285]),JN (Jh 287 WO [.t 277,.t 280,.t 286]),JN (JA 288 270),JN (Jw 289 0 288),JN (JC 1 289 276),JN (JA 290 271),JN (Jw 291 1 290),JN (JC 1 291 287)])) (JR [JN (Jr 293 .eql 20 11),JM 292 293] (.cond (.t 292) (JS [JN (Jc 294 1 7),JN (Jc 295 1 7),JN (Jw 296 1 9),JN (Jc 297 1 296),JN (.bin 298 .num .add (Jk 19) (.t 297)),JN (.bslice 299 1 1 [N 0] [(0,1,.t 298)]),JT 300 13,JN (.call .any (some 301) (.t 300) [Jk 0]),JN (.bslice 302 1 2 [Je 1,Je 1] [(0,1,.t 299),(1,1,.t 301)]),JN (Jh 303 Q6 [.t 302]),JN (Ja 304 4 6),JN (Jw 305 1 9),JN (Jc 306 1 305),JT 307 4,JN (Ju 308 1 307 0),JN (Jc 309 1 308),JN (Jh 310 W6 [.t 304,.t 306,.t 309]),JN (JA 311 294),JN (Jw 312 0 311),JN (JC 1 312 303),JN (JA 313 295),JN (Jw 314 1 313),JN (JC 1 314 310)]) (JR [JN (Jr 316 .eql 20 12),JM 315 316] (JU 315 (JR [JM 318 13,JN (.call .any (some 319) (.t 318) [Jk 0]),JN (Ju 320 1 319 0),JN (Jd 321 1 320),JN (Jh 322 Yg [.t 321]),JT 317 322,JN (Jy 323 0 317),JN (Jy 324 1 317),JM 16 323,JM 17 324] (JQ (JR [JN (Ja 325 4 6),JT 326 5,JN (Ju 327 1 326 1),JN (Jd 328 1 327),JN (Jw 329 0 6),JN (Ja 330 4 329),JN (Jw 331 1 9),JN (Jc 332 1 331),JM 333 17,JN (Jh 334 Qs [.t 330,.t 332,.t 333]),JN (Jh 335 W3 [.t 325,.t 328,.t 334]),JN (Jp 336 335)] (JU 336 (JR [JN (Jn 12 9)] .ret))) (JS [JN (Jc 337 1 7),JN (Jc 338 1 7),JT 339 13,JN (.call .any (some 340) (.t 339) [Jk 1]),JN (Ja 341 4 6),JN (Ja 342 4 6),JN (Jw 343 1 9),JN (Jc 344 1 343),JM 345 4,JN (Ju 346 1 345 0),JN (Jc 347 1 346),JN (Jh 348 W6 [.t 342,.t 344,.t 347]),JM 349 4,JN (Ju 350 1 349 1),JN (Jc 351 1 350),JN (Jh 352 WO [.t 341,.t 348,.t 351]),JN (JA 353 337),JN (Jw 354 0 353),JN (JC 1 354 340),JN (JA 355 338),JN (Jw 356 1 355),JN (JC 1 356 352)]))))))))))))))))))))))))))))))) (JQ (JR [JN (Jc 357 1 7),JN (JA 358 357),JN (Jw 359 0 358),JN (Jd 360 1 359),JN (Jh 361 Zeh [.t 360])] (JU 361 (JR [JN (Jn 12 3)] .ret))) (JR [JN (Jn 12 0)] .ret))))
theorem ZdH:Qq Tryz.prog ZU ZdL=some (QT,[.tmp 12],362):=by kernel_rfl
def ZX:List (Nat×List Md):=MM [(4,137),(5,17),(9,137),(10,2),(12,137),(13,1106),(15,18)]
def XI:C:=JR [JN (Jv 2 (.k (Je 1)))] (JR [JN (Jn 3 0)] (JQ (JR [JM 9 0,JN (Jx 10 9),JN (Jn 11 0)] (JW 0 (JR [JN (Jq 12 .lss 11 10)] (JQ (JV 12 (.exit 0)) (JQ (.block 1 (JR [JN (Js 13 1 9 11),JN (Jd 14 1 13),JT 5 14] (JR [JM 15 3,JT 16 5,JN (Jx 17 16),JN (Jq 18 .add 15 17),JM 3 18] (JR [JM 19 3,JN (Jr 20 .lss 19 0)] (JU 20 (JS [JN (.bad (some 21)),JN (.bad none)])))))) (JS [JN (Jr 22 .add 11 1),JM 11 22])))))) (JR [JM 23 3,JN (Jh 24 W9 [.k (Je 1),.t 23]),JT 6 24] (JQ (JR [JT 25 0,JN (Jx 26 25),JN (Jn 27 0)] (JW 2 (JR [JN (Jq 28 .lss 27 26)] (JQ (JV 28 (.exit 2)) (JQ (.block 3 (JR [JN (Js 29 1 25 27),JN (Jd 30 1 29),JT 8 30] (JS [JT 31 6,JT 32 8,JN (JB 33 1 31 32),JT 6 33]))) (JS [JN (Jr 34 .add 27 1),JM 27 34])))))) (JR [JT 35 6,JT 2 35] .ret)))))
theorem ZY:Qq Tryz.prog W2 ZX=some (XI,[.tmp 2],36):=by kernel_rfl
def Zmc:List (Nat×List Md):=MM [(1,8785),(3,17),(5,17),(6,17),(8,17),(9,17),(11,17),(12,1178048434769),(14,17),(15,17),(16,70225),(1000001,12873)]
def ZfP:C:=JR [JN (Jz 4 0),JN (Jv 8 Jkf)] (JQ (JQ (JX 4 (JS [JN (Jw 9 3 4),JN (Jc 10 1 9),JN (Jx 11 10),JN (Jw 12 0 4),JN (Jc 13 1 12),JN (Jh 14 ZbW [.t 13]),JN (Jq 15 .neq 11 14)])) (JU 15 (JR [JN (Jv 8 Jkf)] .ret))) (JQ (.block 0 (JR [JN (Jw 20 0 4),JN (Jc 21 1 20),JN (Jr 22 .eql 21 0),JM 19 22] (.cond (.t 19) (JR [JN (Jw 23 1 4),JN (Jc 24 1 23),JM 25 1,JN (Jr 26 .sub 25 1),JN (Jh 27 XU [.t 24,Jk 0,.t 26]),JN (Jp 28 27)] (JU 28 (JR [JN (Jv 8 Jkf)] .ret))) (JR [JN (Jw 30 0 4),JN (Jc 31 1 30),JN (Jr 32 .eql 31 1),JM 29 32] (.cond (.t 29) (JR [JN (Jw 33 1 4),JN (Jc 34 1 33),JN (Jh 35 XU [.t 34,Jk 0,Jk 2]),JN (Jp 36 35)] (JU 36 (JR [JN (Jv 8 Jkf)] .ret))) (JR [JN (Jw 38 0 4),JN (Jc 39 1 38),JN (Jh 40 ZaL [.t 39]),JM 37 40] (.cond (.t 37) (JR [JN (Jw 41 1 4),JN (Jc 42 1 41),JM 43 2,JN (Jq 44 .geq 42 43),JM 45 44,JO 45 (Jw 46 1 4),JO 45 (Jc 47 1 46),JO 45 (Jr 48 .lss 47 (-1)),JN (Jo 49 45 48),JM 50 49,JO 50 (Jm 51 3),JO 50 (Jm 52 51),JP 52 (Jw 53 1 4),JP 52 (Jc 54 1 53),JP 52 (Jr 55 .lss 54 0),JO 50 (Jl 56 52 55),JN (Jo 57 50 56)] (JU 57 (JR [JN (Jv 8 Jkf)] .ret))) (JR [JN (Jw 16 1 4),JN (Jc 17 1 16),JN (Jr 18 .neq 17 0)] (JU 18 (JR [JN (Jv 8 Jkf)] .ret)))))))))) (JQ (JR [JN (Jw 58 0 4),JN (Jc 59 1 58),JN (Jh 60 Zbr [.t 59]),JN (Jp 61 60)] (JU 61 (JR [JN (Jw 62 2 4),JN (Jc 63 1 62),JN (Jx 64 63),JN (Jr 65 .eql 64 0),JM 8 65] .ret))) (JR [JN (Jw 66 2 4),JN (Jc 67 1 66),JN (Jh 68 Kq [.t 67]),JM 69 68,JP 69 (Jw 70 2 4),JP 69 (Jc 71 1 70),JP 69 (Jm 72 2),JP 69 (Jm 73 3),JP 69 (Jh 74 ZH [.t 71,.t 72,.t 73]),JN (Jl 75 69 74),JM 8 75] .ret))))
theorem Zmv:Qq Tryz.prog ZbU Zmc=some (ZfP,[.tmp 8],76):=by kernel_rfl
def ZlL:List (Nat×List Md):=MM []
def Zfp:C:=JR [JN (Jn 4 0)] (JQ (.block 0 (JR [JM 6 0,JN (Jr 7 .eql 6 5),JM 8 7,JP 8 (Jm 9 1),JP 8 (Jr 10 .eql 9 1),JN (Jl 11 8 10),JM 5 11] (.cond (.t 5) (JR [JN (Jn 4 2)] .ret) (JR [JM 13 0,JN (Jr 14 .eql 13 8),JM 15 14,JP 15 (Jm 16 1),JP 15 (Jr 17 .gtr 16 0),JN (Jl 18 15 17),JM 19 18,JO 19 (Jm 20 0),JO 19 (Jr 21 .eql 20 9),JN (Jo 22 19 21),JM 23 22,JO 23 (Jm 24 0),JO 23 (Jr 25 .eql 24 12),JO 23 (Jm 26 25),JP 26 (Jm 27 1),JP 26 (Jr 28 .eql 27 1),JO 23 (Jl 29 26 28),JN (Jo 30 23 29),JM 12 30] (JU 12 (JR [JN (Jn 4 1)] .ret)))))) (JR [JN (Jn 4 0)] .ret))
theorem Zmi:Qq Tryz.prog ZbY ZlL=some (Zfp,[.tmp 4],31):=by kernel_rfl
def Zml:List (Nat×List Md):=MM []
def ZfX:C:=JR [JN (Jn 2 0)] (JQ (.block 0 (JR [JM 4 0,JN (Jr 5 .eql 4 0),JM 3 5] (.cond (.t 3) (JR [JN (Jn 2 0)] .ret) (JR [JM 7 0,JN (Jr 8 .eql 7 1),JM 9 8,JO 9 (Jm 10 0),JO 9 (Jr 11 .eql 10 2),JN (Jo 12 9 11),JM 13 12,JO 13 (Jm 14 0),JO 13 (Jh 15 JH [.t 14]),JN (Jo 16 13 15),JM 6 16] (.cond (.t 6) (JR [JN (Jn 2 2)] .ret) (JR [JM 18 0,JN (Jh 19 ZaI [.t 18]),JM 17 19] (JU 17 (JR [JN (Jn 2 1)] .ret)))))))) (JR [JN (Jn 2 (-1))] .ret))
theorem Zmy:Qq Tryz.prog VP Zml=some (ZfX,[.tmp 2],20):=by kernel_rfl
def Zmt:List (Nat×List Md):=MM [(2,137),(4,70218),(6,137),(8,1178048434762),(1000001,1609)]
def Zft:C:=JR [JN (Jz 3 0),JN (Jn 6 0)] (JQ (JQ (JX 3 (JS [JN (Jn 7 0)])) (JW 0 (JQ (JR [JM 10 7,JN (Jw 11 0 3),JN (Jc 12 1 11),JN (Jq 13 .lss 10 12)] (JV 13 (.exit 0))) (JQ (.block 1 (JR [JN (Ja 16 4 3),JM 17 1,JM 18 7,JN (Jh 19 Wn [.t 16,.t 17,.t 18]),JM 20 19,JP 20 (Ja 21 4 3),JP 20 (Jm 22 2),JP 20 (Jm 23 7),JP 20 (Jh 24 Wn [.t 21,.t 22,.t 23]),JN (Jl 25 20 24),JM 8 25] (JQ (JR [JN (Jn 9 0)] (JW 2 (JQ (JR [JM 26 9,JN (Jw 27 0 3),JN (Jc 28 1 27),JN (Jq 29 .lss 26 28),JM 30 29,JP 30 (Jm 31 8),JN (Jl 32 30 31)] (JV 32 (.exit 2))) (JQ (.block 3 (JS [JN (Ja 35 4 3),JM 36 1,JM 37 9,JN (Jh 38 Wn [.t 35,.t 36,.t 37]),JN (Jp 39 38),JM 40 39,JO 40 (Ja 41 4 3),JO 40 (Jm 42 2),JO 40 (Jm 43 9),JO 40 (Jh 44 Wn [.t 41,.t 42,.t 43]),JO 40 (Jp 45 44),JN (Jo 46 40 45),JM 47 46,JO 47 (Ja 48 4 3),JO 47 (Jm 49 7),JO 47 (Jm 50 9),JO 47 (Jh 51 Wn [.t 48,.t 49,.t 50]),JN (Jo 52 47 51),JM 8 52])) (JS [JM 33 9,JN (Jr 34 .add 33 1),JM 9 34]))))) (JR [JM 53 8] (JU 53 (JR [JM 54 7,JM 6 54] .ret)))))) (JS [JM 14 7,JN (Jr 15 .add 14 1),JM 7 15]))))) (JR [JN (Jn 6 (-1))] .ret))
theorem ZmR:Qq Tryz.prog VQ Zmt=some (Zft,[.tmp 6],55):=by kernel_rfl
def ZlH:List (Nat×List Md):=MM []
def Zfz:C:=JR [JN (.alloc 2 [.sc (.string ⟨#[]⟩),N 0,.sc (.bool false),.sc (.bool false)]),JN (Jv 3 Jkf)] (JQ (JR [JM 4 0,JN (Jh 5 W0 [.t 4,Jk 0,Jk 12]),JN (Jp 6 5)] (JU 6 (JR [JN (.build 7 [.sc (.string ⟨#[]⟩),N 0,.sc (.bool false),.sc (.bool false)] []),JN (JC 4 2 7),JN (Jv 3 Jkf)] .ret))) (JR [JN (.build 8 [.sc (.string ⟨#[]⟩),N 0,.sc (.bool false),.sc (.bool false)] [(0,1,.k (.sc (.string ⟨#[120]⟩))),(1,1,Jk 0),(2,1,Jkf),(3,1,Jkf)]),JN (.build 9 [.sc (.string ⟨#[]⟩),N 0,.sc (.bool false),.sc (.bool false)] [(0,1,.k (.sc (.string ⟨#[]⟩))),(1,1,Jk 0),(2,1,Jkf),(3,1,Jkf)]),JN (.build 10 [.sc (.string ⟨#[]⟩),N 0,.sc (.bool false),.sc (.bool false)] [(0,1,.k (.sc (.string ⟨#[97,100,100]⟩))),(1,1,Jk 2),(2,1,Jkf),(3,1,Jkf)]),JN (.build 11 [.sc (.string ⟨#[]⟩),N 0,.sc (.bool false),.sc (.bool false)] [(0,1,.k (.sc (.string ⟨#[105,102]⟩))),(1,1,Jk 3),(2,1,Jkf),(3,1,Jkf)]),JN (.build 12 [.sc (.string ⟨#[]⟩),N 0,.sc (.bool false),.sc (.bool false)] [(0,1,.k (.sc (.string ⟨#[112,97,105,114]⟩))),(1,1,Jk 2),(2,1,Jkf),(3,1,Jkf)]),JN (.build 13 [.sc (.string ⟨#[]⟩),N 0,.sc (.bool false),.sc (.bool false)] [(0,1,.k (.sc (.string ⟨#[115,112,108,105,116]⟩))),(1,1,Jk 2),(2,1,Jkt),(3,1,Jkf)]),JN (.build 14 [.sc (.string ⟨#[]⟩),N 0,.sc (.bool false),.sc (.bool false)] [(0,1,.k (.sc (.string ⟨#[108,101,102,116]⟩))),(1,1,Jk 1),(2,1,Jkf),(3,1,Jkt)]),JN (.build 15 [.sc (.string ⟨#[]⟩),N 0,.sc (.bool false),.sc (.bool false)] [(0,1,.k (.sc (.string ⟨#[114,105,103,104,116]⟩))),(1,1,Jk 1),(2,1,Jkf),(3,1,Jkt)]),JN (.build 16 [.sc (.string ⟨#[]⟩),N 0,.sc (.bool false),.sc (.bool false)] [(0,1,.k (.sc (.string ⟨#[99,97,115,101]⟩))),(1,1,Jk 3),(2,1,Jkt),(3,1,Jkf)]),JN (.build 17 [.sc (.string ⟨#[]⟩),N 0,.sc (.bool false),.sc (.bool false)] [(0,1,.k (.sc (.string ⟨#[102,117,110]⟩))),(1,1,Jk 1),(2,1,Jkt),(3,1,Jkt)]),JN (.build 18 [.sc (.string ⟨#[]⟩),N 0,.sc (.bool false),.sc (.bool false)] [(0,1,.k (.sc (.string ⟨#[97,112,112]⟩))),(1,1,Jk 2),(2,1,Jkf),(3,1,Jkf)]),JN (.build 19 [.sc (.string ⟨#[]⟩),N 0,.sc (.bool false),.sc (.bool false)] [(0,1,.k (.sc (.string ⟨#[98,111,120]⟩))),(1,1,Jk 1),(2,1,Jkt),(3,1,Jkf)]),JN (.build 20 [.sc (.string ⟨#[]⟩),N 0,.sc (.bool false),.sc (.bool false)] [(0,1,.k (.sc (.string ⟨#[111,112,101,110]⟩))),(1,1,Jk 2),(2,1,Jkt),(3,1,Jkf)]),JN (.bslice 21 4 13 [.sc (.string ⟨#[]⟩),N 0,.sc (.bool false),.sc (.bool false),.sc (.string ⟨#[]⟩),N 0,.sc (.bool false),.sc (.bool false),.sc (.string ⟨#[]⟩),N 0,.sc (.bool false),.sc (.bool false),.sc (.string ⟨#[]⟩),N 0,.sc (.bool false),.sc (.bool false),.sc (.string ⟨#[]⟩),N 0,.sc (.bool false),.sc (.bool false),.sc (.string ⟨#[]⟩),N 0,.sc (.bool false),.sc (.bool false),.sc (.string ⟨#[]⟩),N 0,.sc (.bool false),.sc (.bool false),.sc (.string ⟨#[]⟩),N 0,.sc (.bool false),.sc (.bool false),.sc (.string ⟨#[]⟩),N 0,.sc (.bool false),.sc (.bool false),.sc (.string ⟨#[]⟩),N 0,.sc (.bool false),.sc (.bool false),.sc (.string ⟨#[]⟩),N 0,.sc (.bool false),.sc (.bool false),.sc (.string ⟨#[]⟩),N 0,.sc (.bool false),.sc (.bool false),.sc (.string ⟨#[]⟩),N 0,.sc (.bool false),.sc (.bool false)] [(0,4,.t 8),(4,4,.t 9),(8,4,.t 10),(12,4,.t 11),(16,4,.t 12),(20,4,.t 13),(24,4,.t 14),(28,4,.t 15),(32,4,.t 16),(36,4,.t 17),(40,4,.t 18),(44,4,.t 19),(48,4,.t 20)]),JM 22 0,JN (Js 23 4 21 22),JN (Jb 24 4 23),JN (JC 4 2 24),JN (Jv 3 Jkt)] .ret))
theorem Zl6:Qq Tryz.prog Zb4 ZlH=some (Zfz,[.cell 2 true 4,.tmp 3],25):=by kernel_rfl
def Zp3:List (Nat×List Md):=MM []
def ZiA:C:=JR [JN (Jn 4 0)] (JQ (.block 0 (JR [JM 6 0,JN (Jr 7 .eql 6 5),JM 8 7,JP 8 (Jm 9 1),JP 8 (Jr 10 .eql 9 1),JN (Jl 11 8 10),JM 5 11] (.cond (.t 5) (JR [JN (Jn 4 2)] .ret) (JQ (JR [JM 13 0,JN (Jr 14 .eql 13 8),JM 15 14,JP 15 (Jm 16 1),JP 15 (Jr 17 .gtr 16 0),JN (Jl 18 15 17),JM 12 18] (JV 12 (JR [JM 19 0,JN (Jr 20 .eql 19 9),JM 12 20] (JV 12 (JS [JM 21 0,JN (Jr 22 .eql 21 12),JM 23 22,JP 23 (Jm 24 1),JP 23 (Jr 25 .eql 24 1),JN (Jl 26 23 25),JM 12 26]))))) (JU 12 (JR [JN (Jn 4 1)] .ret)))))) (JR [JN (Jn 4 0)] .ret))
theorem Zqx:Qq Tryz.prog ZbL Zp3=some (ZiA,[.tmp 4],27):=by kernel_rfl
def Zan:List (Nat×List Md):=MM [(5,304648777),(6,18)]
def ZG:C:=JR [JN (Jv 4 (.k (Je 1)))] (JQ (JR [JM 5 1,JN (Jr 6 .lss 5 0)] (JU 6 (JS [JN (.bad (some 7)),JN (.bad none)]))) (JQ (JR [JM 8 1,JM 9 0,JN (.cap 10 (.t 9)),JM 11 0,JN (Jx 12 11),JN (Jq 13 .sub 10 12),JN (Jq 14 .sub 8 13),JM 1 14] (JR [JM 15 1,JN (Jr 16 .gtr 15 0)] (JU 16 (JS [JM 17 0,JM 18 0,JN (.cap 19 (.t 18)),JN (.slice 20 1 (.t 17) none (some (.t 19)) none),JM 21 1,JN (.growz 22 1 (.t 20) (.t 21)),JT 23 0,JN (Jx 24 23),JN (.cut0 25 1 (.t 22) (.t 24)),JT 0 25])))) (JR [JT 26 0,JT 4 26] .ret)))
theorem Zav:Qq Tryz.prog X6 Zan=some (ZG,[.tmp 4],27):=by kernel_rfl
def Zcd:List (Nat×List Md):=MM [(1,2300875337)]
def KD:C:=JR [JN (Jv 3 (.k (Je 1)))] (JR [JN (Jd 4 1 1),JN (JA 5 4),JN (Jw 6 2 5),JN (Jd 7 1 6),JM 8 0,JN (Js 9 1 7 8),JN (Jd 10 1 9),JN (JA 11 10),JN (Jw 12 0 11),JN (Jd 13 1 12),JT 3 13] .ret)
theorem Zcl:Qq Tryz.prog X5 Zcd=some (KD,[.tmp 3],14):=by kernel_rfl
def Zgo:List (Nat×List Md):=MM [(1,4530826),(1000001,1609)]
def Zbi:C:=JR [JN (Jz 3 0),JN (Jv 6 (.k (Je 1)))] (JQ (JX 3 (JS [JN (Ja 7 4 3),JN (Jw 8 0 3),JN (Ja 9 4 8),JN (.mkfn 10 QF true [.t 9]),JT 11 1,JT 12 2,JN (Jh 13 Y8 [.t 7,.t 10,.t 11,.t 12]),JT 6 13])) .ret)
theorem Zgs:Qq Tryz.prog WO Zgo=some (Zbi,[.tmp 6],14):=by kernel_rfl
def Zfh:List (Nat×List Md):=MM [(1,4530826),(1000001,1609)]
def ZaA:C:=JR [JN (Jz 3 0),JN (Jv 6 (.k (Je 1)))] (JQ (JX 3 (JS [JN (Ja 7 4 3),JN (Jw 8 0 3),JN (Ja 9 4 8),JN (.mkfn 10 Xb true [.t 9]),JT 11 1,JT 12 2,JN (Jh 13 Y8 [.t 7,.t 10,.t 11,.t 12]),JT 6 13])) .ret)
theorem Zff:Qq Tryz.prog Y7 Zfh=some (ZaA,[.tmp 6],14):=by kernel_rfl
def Zbl:List (Nat×List Md):=MM [(4,137),(5,17),(9,137),(10,2),(12,137),(13,1106),(15,18)]
def Z9:C:=JR [JN (Jv 2 (.k (Je 1)))] (JR [JN (Jn 3 0)] (JQ (JR [JM 9 0,JN (Jx 10 9),JN (Jn 11 0)] (JW 0 (JR [JN (Jq 12 .lss 11 10)] (JQ (JV 12 (.exit 0)) (JQ (.block 1 (JR [JN (Js 13 1 9 11),JN (Jd 14 1 13),JT 5 14] (JR [JM 15 3,JT 16 5,JN (Jx 17 16),JN (Jq 18 .add 15 17),JM 3 18] (JR [JM 19 3,JN (Jr 20 .lss 19 0)] (JU 20 (JS [JN (.bad (some 21)),JN (.bad none)])))))) (JS [JN (Jr 22 .add 11 1),JM 11 22])))))) (JR [JM 23 3,JN (Jh 24 YV [.k (Je 1),.t 23]),JT 6 24] (JQ (JR [JT 25 0,JN (Jx 26 25),JN (Jn 27 0)] (JW 2 (JR [JN (Jq 28 .lss 27 26)] (JQ (JV 28 (.exit 2)) (JQ (.block 3 (JR [JN (Js 29 1 25 27),JN (Jd 30 1 29),JT 8 30] (JS [JT 31 6,JT 32 8,JN (JB 33 1 31 32),JT 6 33]))) (JS [JN (Jr 34 .add 27 1),JM 27 34])))))) (JR [JT 35 6,JT 2 35] .ret)))))
theorem Za9:Qq Tryz.prog Q6 Zbl=some (Z9,[.tmp 2],36):=by kernel_rfl
def ZdQ:List (Nat×List Md):=MM [(1,2),(1000001,104009)]
def Vn:C:=JR [JN (Jz 3 0),JN (Jz 5 2),JN (Jv 6 Jkf)] (JQ (JX 3 (JX 5 (JS [JT 7 1,JN (.mkfn 8 Xo false [.t 3,.t 5]),JN (Jh 9 Wv [.t 7,.t 8]),JN (Jp 10 9),JM 6 10]))) .ret)
theorem ZdM:Qq Tryz.prog W3 ZdQ=some (Vn,[.tmp 6],11):=by kernel_rfl
def ZdI:List (Nat×List Md):=MM [(1,1097),(2,2),(5,1097),(7,26),(1000001,1609)]
def Vo:C:=JR [JN (Jz 3 0),JN (Jv 6 (.k (Je 1)))] (JQ (JX 3 (JS [JM 10 2,JN (Jx 11 10),JN (.mkslice 12 1 [N 0] (.t 11)),JT 7 12])) (JQ (JR [JT 13 2,JN (Jx 14 13),JN (Jn 15 0)] (JW 0 (JR [JN (Jq 16 .lss 15 14)] (JQ (JV 16 (.exit 0)) (JQ (.block 1 (JR [JM 17 15,JN (Js 18 1 13 15),JN (Jd 19 1 18),JM 8 17,JM 9 19] (JS [JM 20 7,JM 21 8,JN (Jw 22 0 3),JN (Ja 23 4 22),JM 24 1,JM 25 9,JN (Jh 26 Qs [.t 23,.t 24,.t 25]),JN (Js 27 1 20 21),JN (JC 1 27 26)]))) (JS [JN (Jr 28 .add 15 1),JM 15 28])))))) (JR [JT 29 7,JN (.mv 6 .frz (.t 29))] .ret)))
theorem ZdO:Qq Tryz.prog W6 ZdI=some (Vo,[.tmp 6],30):=by kernel_rfl
def Zp1:List (Nat×List Md):=MM [(1,2)]
def Zit:C:=JR [JN (Jv 2 Jkf)] (JR [JT 3 0,JN (Jx 4 3),JN (Jr 5 .gtr 4 40),JM 2 5] .ret)
theorem ZqK:Qq Tryz.prog Zeh Zp1=some (Zit,[.tmp 2],6):=by kernel_rfl
def JF:List (Nat×List Md):=MM [(5,304648777),(6,18)]
def XY:C:=JR [JN (Jv 4 (.k (Je 1)))] (JQ (JR [JM 5 1,JN (Jr 6 .lss 5 0)] (JU 6 (JS [JN (.bad (some 7)),JN (.bad none)]))) (JQ (JR [JM 8 1,JM 9 0,JN (.cap 10 (.t 9)),JM 11 0,JN (Jx 12 11),JN (Jq 13 .sub 10 12),JN (Jq 14 .sub 8 13),JM 1 14] (JR [JM 15 1,JN (Jr 16 .gtr 15 0)] (JU 16 (JS [JM 17 0,JM 18 0,JN (.cap 19 (.t 18)),JN (.slice 20 1 (.t 17) none (some (.t 19)) none),JM 21 1,JN (.growz 22 1 (.t 20) (.t 21)),JT 23 0,JN (Jx 24 23),JN (.cut0 25 1 (.t 22) (.t 24)),JT 0 25])))) (JR [JT 26 0,JT 4 26] .ret)))
theorem Z6:Qq Tryz.prog W9 JF=some (XY,[.tmp 4],27):=by kernel_rfl
def ZlJ:List (Nat×List Md):=MM []
def Zfv:C:=JR [JN (Jn 2 0)] (JQ (JR [JM 3 0,JN (Jh 4 XU [.t 3,Jk 0,Jk 12]),JN (Jp 5 4)] (JU 5 (JR [JN (Jn 2 (-1))] .ret))) (JR [JN (.bslice 6 1 13 [N 0,N 0,N 0,N 0,N 0,N 0,N 0,N 0,N 0,N 0,N 0,N 0,N 0] [(0,1,Jk 0),(1,1,Jk 0),(2,1,Jk 2),(3,1,Jk 3),(4,1,Jk 2),(5,1,Jk 2),(6,1,Jk 1),(7,1,Jk 1),(8,1,Jk 3),(9,1,Jk 1),(10,1,Jk 2),(11,1,Jk 1),(12,1,Jk 2)]),JM 7 0,JN (Js 8 1 6 7),JN (Jd 9 1 8),JM 2 9] .ret))
theorem ZmU:Qq Tryz.prog ZbW ZlJ=some (Zfv,[.tmp 2],10):=by kernel_rfl
def ZjZ:List (Nat×List Md):=MM []
def ZeB:C:=JR [JN (Jv 2 Jkf)] (JR [JM 3 0,JN (Jr 4 .eql 3 6),JM 5 4,JO 5 (Jm 6 0),JO 5 (Jr 7 .eql 6 7),JN (Jo 8 5 7),JM 9 8,JO 9 (Jm 10 0),JO 9 (Jr 11 .eql 10 9),JN (Jo 12 9 11),JM 2 12] .ret)
theorem Zj3:Qq Tryz.prog Zbr ZjZ=some (ZeB,[.tmp 2],13):=by kernel_rfl
def Zfc:List (Nat×List Md):=MM [(1,1097),(7,26),(1000001,12873)]
def ZaE:C:=JR [JN (Jz 4 0),JN (Jv 8 (.k (Je 1)))] (JQ (JX 4 (JS [JM 11 2,JN (Jx 12 11),JN (.mkslice 13 1 [N 0] (.t 12)),JT 9 13])) (JQ (JR [JM 14 2,JN (Jx 15 14),JN (Jn 16 0)] (JW 0 (JR [JN (Jq 17 .lss 16 15)] (JQ (JV 17 (.exit 0)) (JQ (.block 1 (JR [JM 18 16,JM 10 18] (JS [JM 19 9,JM 20 10,JM 21 1,JM 22 2,JM 23 10,JN (Js 24 1 22 23),JN (Jd 25 1 24),JM 26 3,JM 27 10,JN (Js 28 1 26 27),JN (Jd 29 1 28),JN (.call .no (some 30) (.t 21) [.t 25,.t 29]),JN (Js 31 1 19 20),JN (JC 1 31 30)]))) (JS [JN (Jr 32 .add 16 1),JM 16 32])))))) (JR [JT 33 9,JN (.mv 8 .frz (.t 33))] .ret)))
theorem Zfg:Qq Tryz.prog Y8 Zfc=some (ZaE,[.tmp 8],34):=by kernel_rfl
def Zb9:List (Nat×List Md):=MM [(5,304648777),(6,18)]
def Ki:C:=JR [JN (Jv 4 (.k (Je 1)))] (JQ (JR [JM 5 1,JN (Jr 6 .lss 5 0)] (JU 6 (JS [JN (.bad (some 7)),JN (.bad none)]))) (JQ (JR [JM 8 1,JM 9 0,JN (.cap 10 (.t 9)),JM 11 0,JN (Jx 12 11),JN (Jq 13 .sub 10 12),JN (Jq 14 .sub 8 13),JM 1 14] (JR [JM 15 1,JN (Jr 16 .gtr 15 0)] (JU 16 (JS [JM 17 0,JM 18 0,JN (.cap 19 (.t 18)),JN (.slice 20 1 (.t 17) none (some (.t 19)) none),JM 21 1,JN (.growz 22 1 (.t 20) (.t 21)),JT 23 0,JN (Jx 24 23),JN (.cut0 25 1 (.t 22) (.t 24)),JT 0 25])))) (JR [JT 26 0,JT 4 26] .ret)))
theorem ZbP:Qq Tryz.prog YV Zb9=some (Ki,[.tmp 4],27):=by kernel_rfl
def ZcH:List (Nat×List Md):=MM []
def KH:C:=JR [JN (Jv 4 Jkf)] (JR [JN (Jw 5 0 1),JN (Jb 6 4 5),JM 7 0,JN (Jd 8 1 2),JN (Jh 9 QD [.t 6,.t 7,.t 8]),JN (Jp 10 9),JM 4 10] .ret)
theorem ZcA:Qq Tryz.prog Xo ZcH=some (KH,[.tmp 4],11):=by kernel_rfl
set_option linter.unusedSimpArgs false
set_option linter.unusedVariables false
set_option maxRecDepth 20000
set_option maxHeartbeats 4000000
def I64 (n:Int):Prop:=-9223372036854775808<=n∧n<=9223372036854775807
def Wc (a lo hi:Int):Bool:=leB lo a && leB a hi
theorem Wb {a lo hi:Int}:Wc a lo hi=true ↔ lo<=a∧a<=hi:=by simp [Wc,leB]
theorem ZgV {a lo hi:Int}:Wc a lo hi=false ↔ ¬ (lo<=a∧a<=hi):=by rw [<- Wb];simp
theorem Zdh {a b:Int}:ltB a b=!leB b a:=by
 cases h:leB b a<;>simp [Qf,Qd,Qi,Qh,Qc,Qb,Bool.not_true,Bool.not_false,Qi,Qh] at h ⊢<;>omega
abbrev OU (u nl:Bool) (l:List Int):LV:=.sl u nl 1 (l.map fun n=>[N n])
abbrev L (nl:Bool) (l:List Int):LV:=OU false nl l
abbrev OB (u nl:Bool) (l:List Bool):LV:=.sl u nl 1 (l.map fun b=>[B b])
abbrev LB (nl:Bool) (l:List Bool):LV:=OB false nl l
theorem Zen {α:Type} (e:α->LV) (he:∀ a,share (e a)=e a) (l:List α) (u nl:Bool) (i:Int) (h0:0<=i) (h1:i < l.length):QP 1 (.sl u nl 1 (l.map fun a=>[e a])) i=some (.rp [e (l[i.toNat]'(by omega))]):=by
 simp only [QP]
 rw [if_pos ⟨trivial,h0,by simpa using h1⟩]
 have:(l.map fun a=>[e a]).getD i.toNat []=[e (l[i.toNat]'(by omega))]:=by
  simp [List.getD_eq_getElem?_getD,show i.toNat < l.length by omega]
 rw [this]
 simp [he]
theorem Xv (l:List Int) (u nl:Bool) (i:Int) (h0:0<=i) (h1:i < l.length):QP 1 (OU u nl l) i=some (.rp [N (l.getD i.toNat 0)]):=by
 have:=Zen N (by simp) l u nl i h0 h1
 rw [this,List.getD_eq_getElem?_getD,List.getElem?_eq_getElem (show i.toNat < l.length by omega)]
 rfl
theorem Zn7 (l:List Bool) (u nl:Bool) (i:Int) (h0:0<=i) (h1:i < l.length):QP 1 (OB u nl l) i=some (.rp [B (l.getD i.toNat false)]):=by
 have:=Zen B (by simp) l u nl i h0 h1
 rw [this,List.getD_eq_getElem?_getD,List.getElem?_eq_getElem (show i.toNat < l.length by omega)]
 rfl
def Lok (l:List Int):Prop:=l.length<=1099511627776∧∀ n∈l,I64 n
theorem Lok.at {l:List Int} (h:Lok l) {i:Nat} (hi:i < l.length):I64 l[i]:=h.2 _ (List.getElem_mem _)
structure GSys where
 size:Int
 n1:Bool
 plus:List Int
 n2:Bool
 times:List Int
 n3:Bool
 below:List Bool
abbrev GSys.cells (s:GSys):List LV:=[N s.size,L s.n1 s.plus,L s.n2 s.times,LB s.n3 s.below]
abbrev GSys.lv (s:GSys):LV:=.agg s.cells
def GSys.wf (s:GSys):Prop:=I64 s.size∧s.plus.length<=1099511627776∧s.times.length<=1099511627776∧s.below.length<=1099511627776∧(∀ n∈s.plus,I64 n)∧∀ n∈s.times,I64 n
def GSys.pl (s:GSys) (a b:Int):Int:=s.plus.getD (a * s.size+b).toNat 0
def GSys.tm (s:GSys) (a b:Int):Int:=s.times.getD (a * s.size+b).toNat 0
def GSys.le (s:GSys) (a b:Int):Bool:=s.below.getD (a * s.size+b).toNat false
structure GSys.Tab (s:GSys):Prop where
 lo:2<=s.size
 hi:s.size<=16
 lp:(s.plus.length:Int)=s.size * s.size
 lt:(s.times.length:Int)=s.size * s.size
 lb:(s.below.length:Int)=s.size * s.size
 rp:∀ i,0<=s.plus.getD i 0∧s.plus.getD i 0 < s.size
 rt:∀ i,0<=s.times.getD i 0∧s.times.getD i 0 < s.size
def GSys.G (s:GSys) (a:Int):Prop:=0<=a∧a < s.size
theorem GSys.at {s:GSys} (t:s.Tab) {a b:Int} (ha:s.G a) (hb:s.G b):0<=a * s.size+b∧a * s.size+b < s.size * s.size∧0<=a * s.size∧a * s.size<=256:=by
 have h1:0<=a * s.size:=Int.mul_nonneg ha.1 (by have:=t.lo;omega)
 have h2:(a+1) * s.size<=s.size * s.size:=Int.mul_le_mul_of_nonneg_right (by have:=ha.2;omega) (by have:=t.lo;omega)
 have h3:(a+1) * s.size=a * s.size+s.size:=by rw [Int.add_mul];omega
 have h4:s.size * s.size<=16 * 16:=Int.mul_le_mul t.hi t.hi (by have:=t.lo;omega) (by omega)
 have:=hb.1;have:=hb.2
 refine ⟨by omega,by omega,h1,?_⟩
 omega
theorem GSys.Gpl {s:GSys} (t:s.Tab) (a b:Int):s.G (s.pl a b):=t.rp _
theorem GSys.Gtm {s:GSys} (t:s.Tab) (a b:Int):s.G (s.tm a b):=t.rt _
theorem GSys.Glt {s:GSys} {i:Nat} (h:ltB (i:Int) s.size=true):s.G i:=⟨by omega,by rw [Qf] at h;omega⟩
theorem GSys.G0 {s:GSys} (t:s.Tab):s.G 0:=⟨by omega,by have:=t.lo;omega⟩
theorem GSys.G1 {s:GSys} (t:s.Tab):s.G 1:=⟨by omega,by have:=t.lo;omega⟩
section
attribute [local simp low] Xp
attribute [local simp] Zgp Zf6 Zga ZfZ Zf3 Zgn
section
variable {s:GSys} (t:s.Tab) {a b:Int} (ha:s.G a) (hb:s.G b)
include t ha hb
theorem ZeL:Qe Tryz.prog Wu [s.lv,N a,N b] (·=N (s.pl a b)):=by
 refine Qe.of_codeOf Zpp Qx (by simp) ⟨_,rfl,by simp⟩ ?_
 obtain ⟨h1,h2,h3,h4⟩:=GSys.at t ha hb
 have:=t.lo;have:=t.hi;have:=ha.1;have:=ha.2;have:=hb.1;have:=hb.2
 simp (contextual:=true) (disch:=omega) [ZgS,Qt,Qo,Qg]
 have:=t.lp
 simp (contextual:=true) (disch:=omega) [Xv,GSys.pl]
theorem KW:Qe Tryz.prog QV [s.lv,N a,N b] (·=N (s.tm a b)):=by
 refine Qe.of_codeOf Zor Qx (by simp) ⟨_,rfl,by simp⟩ ?_
 obtain ⟨h1,h2,h3,h4⟩:=GSys.at t ha hb
 have:=t.lo;have:=t.hi;have:=ha.1;have:=ha.2;have:=hb.1;have:=hb.2
 simp (contextual:=true) (disch:=omega) [ZgE,Qt,Qo,Qg]
 have:=t.lt
 simp (contextual:=true) (disch:=omega) [Xv,GSys.tm]
theorem Zx:Qe Tryz.prog Wn [s.lv,N a,N b] (·=B (s.le a b)):=by
 refine Qe.of_codeOf Zpv Qx (by simp) ⟨_,rfl,by simp⟩ ?_
 obtain ⟨h1,h2,h3,h4⟩:=GSys.at t ha hb
 have:=t.lo;have:=t.hi;have:=ha.1;have:=ha.2;have:=hb.1;have:=hb.2
 simp (contextual:=true) (disch:=omega) [ZiE,Qt,Qo,Qg]
 have:=t.lb
 simp (contextual:=true) (disch:=omega) [Zn7,GSys.le]
theorem Ze4:Qe Tryz.prog QF [s.lv,N a,N b] (·=N (s.pl a b)):=by
 refine Qe.of_codeOf Zd2 Qx (by simp) ⟨_,rfl,by simp⟩ ?_
 obtain ⟨h1,h2,h3,h4⟩:=GSys.at t ha hb
 have:=t.lo;have:=t.hi;have:=ha.1;have:=ha.2;have:=hb.1;have:=hb.2
 simp (contextual:=true) (disch:=omega) [Zai,Qt,Qo,Qg]
 have:=t.lp
 simp (contextual:=true) (disch:=omega) [Xv,GSys.pl]
theorem Kh:Qe Tryz.prog Qs [s.lv,N a,N b] (·=N (s.tm a b)):=by
 refine Qe.of_codeOf ZdT Qx (by simp) ⟨_,rfl,by simp⟩ ?_
 obtain ⟨h1,h2,h3,h4⟩:=GSys.at t ha hb
 have:=t.lo;have:=t.hi;have:=ha.1;have:=ha.2;have:=hb.1;have:=hb.2
 simp (contextual:=true) (disch:=omega) [Vm,Qt,Qo,Qg]
 have:=t.lt
 simp (contextual:=true) (disch:=omega) [Xv,GSys.tm]
theorem Zaa:Qe Tryz.prog QD [s.lv,N a,N b] (·=B (s.le a b)):=by
 refine Qe.of_codeOf ZdS Qx (by simp) ⟨_,rfl,by simp⟩ ?_
 obtain ⟨h1,h2,h3,h4⟩:=GSys.at t ha hb
 have:=t.lo;have:=t.hi;have:=ha.1;have:=ha.2;have:=hb.1;have:=hb.2
 simp (contextual:=true) (disch:=omega) [Vk,Qt,Qo,Qg]
 have:=t.lb
 simp (contextual:=true) (disch:=omega) [Zn7,GSys.le]
end
theorem Zky (a lo hi:Int):Qe Tryz.prog XU [N a,N lo,N hi] (·=B (Wc a lo hi)):=by
 refine Qe.of_codeOf ZpB Qx (by simp) ⟨_,rfl,by simp⟩ ?_
 simp (contextual:=true) (disch:=omega) [Ziv,Wc]
theorem J3 (a lo hi:Int):Qe Tryz.prog W0 [N a,N lo,N hi] (·=B (Wc a lo hi)):=by
 refine Qe.of_codeOf Zmu Qx (by simp) ⟨_,rfl,by simp⟩ ?_
 simp (contextual:=true) (disch:=omega) [ZfN,Wc]
theorem Zre (s:GSys) (h:I64 s.size) (h2:-9223372036854775808 < s.size) (g:Int):Qe Tryz.prog WD [s.lv,N g] (·=B (Wc g 0 (s.size - 1))):=by
 refine Qe.of_codeOf Zfd Qx (by simp) ⟨_,rfl,by simp⟩ ?_
 obtain ⟨h1,h2⟩:=h
 simp (contextual:=true) (disch:=omega) [ZaD,Qt,Qo,Qg]
 refine Qa (J3 _ _ _) (by simp) ?_
 simp (contextual:=true) (disch:=omega)
end
def Yy (p:Int->Bool):Nat->Nat->Int
 | _,0=>-1
 | g,n+1=>if p g=true then g else Yy p (g+1) n
def Zl (p:Nat->Bool):Nat->Bool
 | 0=>true
 | n+1=>Zl p n && p n
@[simp] theorem allN_zero (p:Nat->Bool):Zl p 0=true:=rfl
theorem WG (p:Nat->Bool) (n:Nat):Zl p (n+1)=(Zl p n && p n):=rfl
theorem Zb {p : Nat -> Bool} : ∀ {n : Nat}, Zl p n = true ↔ ∀ i, i < n -> p i = true
  | 0 => by simp
  | n + 1 => by
    rw [WG, Bool.and_eq_true, Zb]
    exact ⟨fun h i hi => by by_cases he : i = n; · exact he ▸ h.2
                            · exact h.1 i (by omega), fun h => ⟨fun i hi => h i (by omega), h n (by omega)⟩⟩
theorem Zj5 {p:Nat->Bool} {i n:Nat} (h:i<=n) (hf:Zl p i=false):Zl p n=false:=by
 cases hc:Zl p n with
 | false=>rfl
 | true =>
  rw [Zb] at hc
  rw [Zb.2 fun j hj=>hc j (by omega)] at hf
  simp at hf
theorem XR {p:Nat->Bool} {i n:Nat} (h:i < n) (hf:p i=false):Zl p n=false :=
 Zj5 (i:=i+1) h (by rw [WG,hf];simp)
def GSys.jn (s:GSys) (a b g h:Int):Bool:=!s.le a h || !s.le b h || s.le g h
def GSys.isJoin (s:GSys) (a b g:Int):Bool:=s.le a g && s.le b g && Zl (fun h=>s.jn a b g h) s.size.toNat
def GSys.join (s:GSys) (a b:Int):Int:=Yy (s.isJoin a b) 0 s.size.toNat
def GSys.three (s:GSys) (a b c:Int):Bool :=
 eqB (s.pl (s.pl a b) c) (s.pl a (s.pl b c)) && eqB (s.tm (s.tm a b) c) (s.tm a (s.tm b c)) && eqB (s.tm a (s.pl b c)) (s.pl (s.tm a b) (s.tm a c)) && eqB (s.tm (s.pl a b) c) (s.pl (s.tm a c) (s.tm b c)) &&
  (!s.le a b || ((!s.le b c || s.le a c) && s.le (s.pl a c) (s.pl b c) && s.le (s.tm a c) (s.tm b c) && s.le (s.tm c a) (s.tm c b)))
section
variable {s:GSys} (t:s.Tab) {a b c:Int} (ha:s.G a) (hb:s.G b) (hc:s.G c)
include t ha hb hc
theorem ZqZ:Qe Tryz.prog Zbo [s.lv,N a,N b,N c] (·=B (s.three a b c)):=by
 refine Qe.of_codeOf Zly Qx (by simp) ⟨_,rfl,by simp⟩ ?_
 simp (disch:=omega) [Zej,Qt,Qo]
 repeat' (first
  | with_reducible refine Qa (ZeL t (by first | assumption | exact GSys.Gpl t _ _ | exact GSys.Gtm t _ _ | exact GSys.Glt (by assumption) | exact GSys.G0 t | exact GSys.G1 t) (by first | assumption | exact GSys.Gpl t _ _ | exact GSys.Gtm t _ _ | exact GSys.Glt (by assumption) | exact GSys.G0 t | exact GSys.G1 t)) (by simp) ?_
  | with_reducible refine Qa (KW t (by first | assumption | exact GSys.Gpl t _ _ | exact GSys.Gtm t _ _ | exact GSys.Glt (by assumption) | exact GSys.G0 t | exact GSys.G1 t) (by first | assumption | exact GSys.Gpl t _ _ | exact GSys.Gtm t _ _ | exact GSys.Glt (by assumption) | exact GSys.G0 t | exact GSys.G1 t)) (by simp) ?_
  | with_reducible refine Qa (Zx t (by first | assumption | exact GSys.Gpl t _ _ | exact GSys.Gtm t _ _ | exact GSys.Glt (by assumption) | exact GSys.G0 t | exact GSys.G1 t) (by first | assumption | exact GSys.Gpl t _ _ | exact GSys.Gtm t _ _ | exact GSys.Glt (by assumption) | exact GSys.G0 t | exact GSys.G1 t)) (by simp) ?_
  | (with_reducible (first | refine Qk (fun hb_=>?_) (fun hb_=>?_) | refine Ql (fun hb_=>?_) (fun hb_=>?_))<;>simp (disch:=omega) [hb_])
  | simp (disch:=omega))
 all_goals simp_all [GSys.three]
theorem Zts:Qe Tryz.prog Zt [s.lv,N a,N b,N c] (·=B (s.three a b c)):=by
 refine Qe.of_codeOf Zc9 Qx (by simp) ⟨_,rfl,by simp⟩ ?_
 simp (disch:=omega) [K7,Qt,Qo]
 repeat' (first
  | with_reducible refine Qa (Ze4 t (by first | assumption | exact GSys.Gpl t _ _ | exact GSys.Gtm t _ _ | exact GSys.Glt (by assumption) | exact GSys.G0 t | exact GSys.G1 t) (by first | assumption | exact GSys.Gpl t _ _ | exact GSys.Gtm t _ _ | exact GSys.Glt (by assumption) | exact GSys.G0 t | exact GSys.G1 t)) (by simp) ?_
  | with_reducible refine Qa (Kh t (by first | assumption | exact GSys.Gpl t _ _ | exact GSys.Gtm t _ _ | exact GSys.Glt (by assumption) | exact GSys.G0 t | exact GSys.G1 t) (by first | assumption | exact GSys.Gpl t _ _ | exact GSys.Gtm t _ _ | exact GSys.Glt (by assumption) | exact GSys.G0 t | exact GSys.G1 t)) (by simp) ?_
  | with_reducible refine Qa (Zaa t (by first | assumption | exact GSys.Gpl t _ _ | exact GSys.Gtm t _ _ | exact GSys.Glt (by assumption) | exact GSys.G0 t | exact GSys.G1 t) (by first | assumption | exact GSys.Gpl t _ _ | exact GSys.Gtm t _ _ | exact GSys.Glt (by assumption) | exact GSys.G0 t | exact GSys.G1 t)) (by simp) ?_
  | (with_reducible (first | refine Qk (fun hb_=>?_) (fun hb_=>?_) | refine Ql (fun hb_=>?_) (fun hb_=>?_))<;>simp (disch:=omega) [hb_])
  | simp (disch:=omega))
 all_goals simp_all [GSys.three]
end
end Go.Proofs.YtbmepminmpjlcaaGreat
namespace Go.Proofs.YtbmepminmpjlcaaGreat
open Go Go.TL
set_option linter.unusedSimpArgs false
set_option linter.unusedVariables false
set_option maxRecDepth 20000
set_option maxHeartbeats 4000000
def Xi (sz:Nat) (left:Int):Int:=if (sz:Int)<=left then left - sz else -1
theorem J4 {a b:Nat} {m:Int} (h:0<=m):Xi (a+b) m=Xi b (Xi a m):=by
 unfold Xi;repeat' split
 all_goals omega
theorem X1 {a:Nat} {m:Int} (h:0<=m):-1<=Xi a m∧Xi a m<=m:=by
 unfold Xi;split<;>omega
theorem Zcv {a:Nat} {m:Int} (h:m < 0):Xi a m=-1:=by
 unfold Xi;split<;>omega
theorem Zlj {m:Int} (h:0<=m):Xi 0 m=m:=by
 unfold Xi;split<;>omega
def fill {α:Type} (e:α->List LV) (z:List LV) (l:List α) (i:Nat):List LV:=((l.take i).map e).flatten++(List.replicate (l.length - i) z).flatten
section
variable {α:Type} {e:α->List LV} {z:List LV} {l:List α} {sz:Nat} (he:∀ x,(e x).length=sz) (hz:z.length=sz)
include he
theorem Zj8 (k:List α):((k.map e).flatten).length=k.length * sz:=by
 induction k with
 | nil=>simp
 | cons x k ih=>simp [ih,he,Nat.add_mul,Nat.add_comm]
include hz
theorem Zcy {i:Nat} (h:i<=l.length):(fill e z l i).length=l.length * sz:=by
 simp only [fill,List.length_append,Zj8 he,List.length_take,Nat.min_eq_left h]
 rw [List.length_flatten]
 simp only [List.map_replicate,hz,List.sum_replicate_nat]
 rw [<- Nat.add_mul];congr 1;omega
theorem ZaS {i:Nat} (h:i < l.length):splice (fill e z l i) (i * sz) (e l[i])=fill e z l (i+1):=by
 have h1:(((l.take i).map e).flatten).length=i * sz:=by rw [Zj8 he];simp [Nat.min_eq_left (Nat.le_of_lt h)]
 have h2:l.length - i=(l.length - (i+1))+1:=by omega
 unfold splice
 rw [fill,h2,List.replicate_succ,List.flatten_cons,fill,List.take_append_of_le_length (by omega),List.take_of_length_le (by omega),List.take_succ_eq_append_getElem h,List.map_append,List.flatten_append]
 simp only [List.map_cons,List.map_nil,List.flatten_cons,List.flatten_nil,List.append_nil]
 congr 1
 rw [List.drop_append,List.drop_of_length_le (by omega),he,h1,List.nil_append,List.drop_append,List.drop_of_length_le (by omega)]
 simp [hz]
end
theorem Zd5 {α:Type} {e:α->List LV} {z:List LV} {l:List α}:fill e z l l.length=(l.map e).flatten:=by simp [fill]
theorem ZaR {α:Type} {e:α->List LV} {z:List LV} {l:List α}:fill e z l 0=(List.replicate l.length z).flatten:=by simp [fill]
theorem ZeY (nl:Bool) (l:List Int) (hl:l.length<=9223372036854775807) (left:Int) (h0:0<=left) (h1:left<=1099511627776):Qe Tryz.prog ZQ [L nl l,N left] (·=N (Xi l.length left)):=by
 refine Qe.of_codeOf ZmK Qx (by simp) ⟨_,rfl,by simp⟩ ?_
 simp (disch:=omega) [ZfA,Qg]
 repeat' (first
  | (with_reducible (first | refine Qk (fun hb_=>?_) (fun hb_=>?_) | refine Ql (fun hb_=>?_) (fun hb_=>?_))<;>simp (disch:=omega) [hb_])
  | simp (disch:=omega))
 all_goals simp only [Qf,Qd,Qi,Qh,Qc,Qb,Bool.not_true,Bool.not_false,Xi] at *
 all_goals (split<;>omega)
theorem Zr7 (nl:Bool) (l:List Bool) (hl:l.length<=9223372036854775807) (left:Int) (h0:0<=left) (h1:left<=1099511627776):Qe Tryz.prog Zbw [LB nl l,N left] (·=N (Xi l.length left)):=by
 refine Qe.of_codeOf ZkG Qx (by simp) ⟨_,rfl,by simp⟩ ?_
 simp (disch:=omega) [Zd4,Qg]
 repeat' (first
  | (with_reducible (first | refine Qk (fun hb_=>?_) (fun hb_=>?_) | refine Ql (fun hb_=>?_) (fun hb_=>?_))<;>simp (disch:=omega) [hb_])
  | simp (disch:=omega))
 all_goals simp only [Qf,Qd,Qi,Qh,Qc,Qb,Bool.not_true,Bool.not_false,Xi] at *
 all_goals (split<;>omega)
theorem ZgC {α:Type} {e:α->List LV} {sz:Nat} (he:∀ x,(e x).length=sz) (l:List α):Qo [some (l.map e).flatten] (.ha 0 sz 0 l.length l.length)=some (.sl true false sz (l.map e),[none]):=by
 have:=frz_ha (h:=[some (l.map e).flatten]) (l:=0) (sz:=sz) (n:=l.length) rfl (Zj8 he l)
 rw [ZiO e sz l (fun x _=>he x)] at this
 simpa using this
theorem Ze9 (nl:Bool) (l:List Int) (hl:l.length<=1099511627776):Qe Tryz.prog ZS [L nl l] (·=OU true false l):=by
 refine Qe.of_codeOf Zmo Qx (by simp) ⟨_,rfl,by simp⟩ ?_
 have hm:(l.length:Int)<=(WX:Nat):=by unfold WX;omega
 have he:∀ x:Int,([N x]:List LV).length=1:=by simp
 simp (disch:=omega) [ZfO,hm]
 refine Wf l.length 0 (fun i t h=>t 4=N i∧h=[some (fill (fun x=>[N x]) [N 0] l i)]) (by simp [ZaR]) (by omega) ?_
 rintro i t1 hh hf hi ⟨e4,rfl⟩
 (have e0:=hf 0 (by kernel_rfl);have e3:=hf 3 (by kernel_rfl);clear hf;simp [] at e0 e3)
 simp (disch:=omega) [e0,e3,e4]
 (with_reducible first | refine Qk (fun h6=>?_) (fun h6=>?_) | refine Ql (fun h6=>?_) (fun h6=>?_))
 ·simp only [Qf,Qd,Qi,Qh,Qc,Qb,Bool.not_true,Bool.not_false] at h6
  have hlen:=Zcy (z:=[N 0]) (l:=l) he rfl hi
  have hst:=ZaS (z:=[N 0]) (l:=l) he rfl (i:=i) (by omega)
  simp (disch:=omega) [e0,e3,e4,Xv,Zy,Qg,hlen,hst]
  exact ⟨by omega,by omega,by simpa [splice] using hst⟩
 ·simp only [Qf,Qd,Qi,Qh,Qc,Qb,Bool.not_true,Bool.not_false] at h6
  rw [show i=l.length by omega,Zd5]
  simp (disch:=omega) [e0,e3,e4]
  rw [ZgC he]
  simp
theorem ZrK (nl:Bool) (l:List Bool) (hl:l.length<=1099511627776):Qe Tryz.prog Zbt [LB nl l] (·=OB true false l):=by
 refine Qe.of_codeOf Zko Qx (by simp) ⟨_,rfl,by simp⟩ ?_
 have hm:(l.length:Int)<=(WX:Nat):=by unfold WX;omega
 have he:∀ x:Bool,([B x]:List LV).length=1:=by simp
 simp (disch:=omega) [ZeD,hm]
 refine Wf l.length 0 (fun i t h=>t 4=N i∧h=[some (fill (fun x=>[B x]) [B false] l i)]) (by simp [ZaR]) (by omega) ?_
 rintro i t1 hh hf hi ⟨e4,rfl⟩
 (have e0:=hf 0 (by kernel_rfl);have e3:=hf 3 (by kernel_rfl);clear hf;simp [] at e0 e3)
 simp (disch:=omega) [e0,e3,e4]
 (with_reducible first | refine Qk (fun h6=>?_) (fun h6=>?_) | refine Ql (fun h6=>?_) (fun h6=>?_))
 ·simp only [Qf,Qd,Qi,Qh,Qc,Qb,Bool.not_true,Bool.not_false] at h6
  have hlen:=Zcy (z:=[B false]) (l:=l) he rfl hi
  have hst:=ZaS (z:=[B false]) (l:=l) he rfl (i:=i) (by omega)
  simp (disch:=omega) [e0,e3,e4,Zn7,Zy,Qg,hlen,hst]
  exact ⟨by omega,by omega,by simpa [splice] using hst⟩
 ·simp only [Qf,Qd,Qi,Qh,Qc,Qb,Bool.not_true,Bool.not_false] at h6
  rw [show i=l.length by omega,Zd5]
  simp (disch:=omega) [e0,e3,e4]
  rw [ZgC he]
  simp
abbrev Wk:=List (Bool×List Int)
abbrev eC (c:Bool×List Int):LV:=L c.1 c.2
abbrev LC (nl:Bool) (ctx:Wk):LV:=.sl false nl 1 (ctx.map fun c=>[eC c])
theorem Kl (ctx:Wk) (nl:Bool) (i:Nat) (h:i < ctx.length):QP 1 (LC nl ctx) (i:Int)=some (.rp [eC (ctx[i]'h)]):=by
 have:=Zen eC (by simp) ctx false nl i (by omega) (by omega)
 rw [this]
 simp
def Wk.raw (ctx:Wk):Prop:=ctx.length<=9223372036854775807∧∀ c∈ctx,c.2.length<=9223372036854775807∧∀ n∈c.2,I64 n
def Wk.wf (ctx:Wk):Prop:=ctx.length<=1099511627776∧∀ c∈ctx,Lok c.2
def Wk.norm (ctx:Wk):Wk:=ctx.map fun c=>(false,c.2)
abbrev Wk.own (ctx:Wk):LV:=.sl true false 1 (ctx.map fun c=>[OU true false c.2])
theorem share_own (ctx:Wk):share ctx.own=LC false ctx.norm:=by
 simp [Wk.own,Wk.norm]
theorem low_own (k:Nat) (ctx:Wk):Low k ctx.own:=by simp [Wk.own]
def cws:Wk->Nat
 | []=>0
 | c::cs=>c.2.length+cws cs
theorem ZpA {ctx:Wk} {i:Nat} (h:i < ctx.length):cws (ctx.drop i)=ctx[i].2.length+cws (ctx.drop (i+1)):=by
 rw [List.drop_eq_getElem_cons h,cws]
theorem Zjx:∀ {ctx:Wk} {c:Bool×List Int},c∈ctx->c.2.length<=cws ctx
 | d::ctx,c,h=>by
  simp only [List.mem_cons] at h
  simp only [cws]
  rcases h with rfl | h
  ·omega
  ·have:=Zjx h;omega
theorem ZrJ (nl:Bool) (ctx:Wk) (hw:ctx.raw) (left:Int) (h0:0<=left) (h1:left<=1099511627776):Qe Tryz.prog Zbj [LC nl ctx,N left] (·=N (Xi (ctx.length+cws ctx) left)):=by
 have hlen:=hw.1
 refine Qe.of_codeOf ZjK Qx (by simp) ⟨_,rfl,by simp⟩ ?_
 simp (disch:=omega) [ZeS,Qg]
 (with_reducible first | refine Qk (fun h2=>?_) (fun h2=>?_) | refine Ql (fun h2=>?_) (fun h2=>?_))
 ·simp (disch:=omega) [h2]
  simp only [Qf,Qd,Qi,Qh,Qc,Qb,Bool.not_true,Bool.not_false] at h2
  unfold Xi;rw [if_neg (by omega)]
 ·simp (disch:=omega) [h2]
  simp only [Qf,Qd,Qi,Qh,Qc,Qb,Bool.not_true,Bool.not_false] at h2
  have e1:Xi (ctx.length+cws ctx) left=Xi (cws ctx) (left - ctx.length):=by
   rw [J4 h0];congr 1;unfold Xi;rw [if_pos (by omega)]
  rw [e1]
  refine Wf ctx.length 0 (fun i t _=>∃ m:Int,t 5=N i∧t 1=N m∧0<=m∧m<=left∧Xi (cws ctx) (left - ctx.length)=Xi (cws (ctx.drop i)) m) ⟨left - ctx.length,by simp,by simp,by omega,by omega,by simp⟩ (by omega) ?_
  rintro i t1 hh hf hi ⟨m,e5,e1',hm,hm2,he⟩
  (have e0:=hf 0 (by kernel_rfl);clear hf;simp [] at e0)
  simp (disch:=omega) [e0,e1',e5]
  (with_reducible first | refine Qk (fun h6=>?_) (fun h6=>?_) | refine Ql (fun h6=>?_) (fun h6=>?_))
  ·simp only [Qf,Qd,Qi,Qh,Qc,Qb,Bool.not_true,Bool.not_false] at h6
   have hr:=hw.2 (ctx[i]'(by omega)) (List.getElem_mem _)
   have hs:=ZeY (ctx[i]'(by omega)).1 (ctx[i]'(by omega)).2 hr.1 m hm (by omega)
   simp (disch:=omega) [e0,e1',e5,Kl]
   repeat' (first
  | with_reducible refine Qa (hs) (by simp) ?_
  | (with_reducible (first | refine Qk (fun hb_=>?_) (fun hb_=>?_) | refine Ql (fun hb_=>?_) (fun hb_=>?_))<;>simp (disch:=omega) [hb_,e0,e1',e5,Qg])
  | simp (disch:=omega) [e0,e1',e5,Qg])
   all_goals simp only [Qf,Qd,Qi,Qh,Qc,Qb,Bool.not_true,Bool.not_false] at hb_
   ·rw [he,ZpA (by omega),J4 hm,Zcv hb_]
   ·refine ⟨by omega,hb_,?_,?_⟩
    ·have:=X1 (a:=(ctx[i]'(by omega)).2.length) hm;omega
    ·rw [he,ZpA (by omega),J4 hm]
  ·simp only [Qf,Qd,Qi,Qh,Qc,Qb,Bool.not_true,Bool.not_false] at h6
   simp (disch:=omega) [e1']
   rw [he,show i=ctx.length by omega,List.drop_length,cws,Zlj hm]
theorem ZrZ (nl:Bool) (ctx:Wk) (hw:ctx.wf):Qe Tryz.prog Zj [LC nl ctx] (·=ctx.own):=by
 have hl:=hw.1
 refine Qe.of_codeOf ZkK Qx (by simp) ⟨_,rfl,by simp⟩ ?_
 have hm:(ctx.length:Int)<=(WX:Nat):=by unfold WX;omega
 have he:∀ x:Bool×List Int,([OU true false x.2]:List LV).length=1:=by simp
 simp (disch:=omega) [ZeF,hm]
 refine Wf ctx.length 0 (fun i t h=>t 4=N i∧h=[some (fill (fun x:Bool×List Int=>[OU true false x.2]) [.sl true true 1 []] ctx i)]) (by simp [ZaR]) (by omega) ?_
 rintro i t1 hh hf hi ⟨e4,rfl⟩
 (have e0:=hf 0 (by kernel_rfl);have e3:=hf 3 (by kernel_rfl);clear hf;simp [] at e0 e3)
 simp (disch:=omega) [e0,e3,e4]
 (with_reducible first | refine Qk (fun h6=>?_) (fun h6=>?_) | refine Ql (fun h6=>?_) (fun h6=>?_))
 ·simp only [Qf,Qd,Qi,Qh,Qc,Qb,Bool.not_true,Bool.not_false] at h6
  have hlen:=Zcy (z:=[.sl true true 1 []]) (l:=ctx) he rfl hi
  have hst:=ZaS (z:=[.sl true true 1 []]) (l:=ctx) he rfl (i:=i) (by omega)
  have hL:=hw.2 (ctx[i]'(by omega)) (List.getElem_mem _)
  have hto:=Ze9 (ctx[i]'(by omega)).1 (ctx[i]'(by omega)).2 hL.1
  simp (disch:=omega) [e0,e3,e4,Kl,Zy,Qg,hlen,hst]
  repeat' (first
  | with_reducible refine Qa (hto) (by simp) ?_
  | (with_reducible (first | refine Qk (fun hb_=>?_) (fun hb_=>?_) | refine Ql (fun hb_=>?_) (fun hb_=>?_))<;>simp (disch:=omega) [hb_,e0,e3,e4,Kl,Zy,Qg,hlen,hst])
  | simp (disch:=omega) [e0,e3,e4,Kl,Zy,Qg,hlen,hst])
  exact ⟨by omega,by omega,by simpa [splice] using hst⟩
 ·simp only [Qf,Qd,Qi,Qh,Qc,Qb,Bool.not_true,Bool.not_false] at h6
  rw [show i=ctx.length by omega,Zd5]
  simp (disch:=omega) [e0,e3,e4]
  rw [ZgC he]
  simp [Wk.own]
theorem ZaT (n1 n2:Bool) (a b:List Int) (ha:a.length<=1099511627776):Qe Tryz.prog XQ [L n1 a,L n2 b] (·=B (a == b)):=by
 generalize hq:(a == b)=q
 refine Qe.of_codeOf Zmj Qx (by simp) ⟨_,rfl,by simp⟩ ?_
 simp (disch:=omega) [Zfu]
 (with_reducible first | refine Qk (fun h1=>?_) (fun h1=>?_) | refine Ql (fun h1=>?_) (fun h1=>?_))
 ·simp (disch:=omega) [h1]
  simp only [Qf,Qd,Qi,Qh,Qc,Qb,Bool.not_true,Bool.not_false] at h1
  refine Wf a.length 0 (fun i t _=>t 5=N i∧q=(a.drop i == b.drop i)) (by simp [hq]) (by omega) ?_
  rintro i t1 hh hf hi ⟨e5,hj⟩
  (have e0:=hf 0 (by kernel_rfl);have e1:=hf 1 (by kernel_rfl);clear hf;simp [] at e0 e1)
  simp (disch:=omega) [e0,e1,e5]
  (with_reducible first | refine Qk (fun h6=>?_) (fun h6=>?_) | refine Ql (fun h6=>?_) (fun h6=>?_))
  ·simp only [Qf,Qd,Qi,Qh,Qc,Qb,Bool.not_true,Bool.not_false] at h6
   have hd1:=List.drop_eq_getElem_cons (l:=a) (i:=i) (by omega)
   have hd2:=List.drop_eq_getElem_cons (l:=b) (i:=i) (by omega)
   have hq2:q=(a[i]'(by omega) == b[i]'(by omega) && (a.drop (i+1) == b.drop (i+1))):=by rw [hj,hd1,hd2];rfl
   clear hd1 hd2 hj
   simp (disch:=omega) [e0,e1,e5,Xv]
   repeat' (first
  | (with_reducible (first | refine Qk (fun hb_=>?_) (fun hb_=>?_) | refine Ql (fun hb_=>?_) (fun hb_=>?_))<;>simp (disch:=omega) [hb_,e0,e1,e5,Qg])
  | simp (disch:=omega) [e0,e1,e5,Qg])
   all_goals simp only [Qf,Qd,Qi,Qh,Qc,Qb,Bool.not_true,Bool.not_false] at hb_
   ·exact ⟨by omega,by simp [hq2,hb_]⟩
   ·simp [hq2,hb_]
  ·simp only [Qf,Qd,Qi,Qh,Qc,Qb,Bool.not_true,Bool.not_false] at h6
   simp (disch:=omega)
   rw [hj,List.drop_of_length_le (by omega),List.drop_of_length_le (by omega)];simp
 ·simp (disch:=omega) [h1]
  simp only [Qf,Qd,Qi,Qh,Qc,Qb,Bool.not_true,Bool.not_false] at h1
  rw [<- hq];simp;intro h;exact h1 (by rw [h])
theorem Zrd (n1 n2:Bool) (a b:List Bool) (ha:a.length<=1099511627776):Qe Tryz.prog Zbe [LB n1 a,LB n2 b] (·=B (a == b)):=by
 generalize hq:(a == b)=q
 refine Qe.of_codeOf Zkd Qx (by simp) ⟨_,rfl,by simp⟩ ?_
 simp (disch:=omega) [Zey]
 (with_reducible first | refine Qk (fun h1=>?_) (fun h1=>?_) | refine Ql (fun h1=>?_) (fun h1=>?_))
 ·simp (disch:=omega) [h1]
  simp only [Qf,Qd,Qi,Qh,Qc,Qb,Bool.not_true,Bool.not_false] at h1
  refine Wf a.length 0 (fun i t _=>t 5=N i∧q=(a.drop i == b.drop i)) (by simp [hq]) (by omega) ?_
  rintro i t1 hh hf hi ⟨e5,hj⟩
  (have e0:=hf 0 (by kernel_rfl);have e1:=hf 1 (by kernel_rfl);clear hf;simp [] at e0 e1)
  simp (disch:=omega) [e0,e1,e5]
  (with_reducible first | refine Qk (fun h6=>?_) (fun h6=>?_) | refine Ql (fun h6=>?_) (fun h6=>?_))
  ·simp only [Qf,Qd,Qi,Qh,Qc,Qb,Bool.not_true,Bool.not_false] at h6
   have hd1:=List.drop_eq_getElem_cons (l:=a) (i:=i) (by omega)
   have hd2:=List.drop_eq_getElem_cons (l:=b) (i:=i) (by omega)
   have hq2:q=(a[i]'(by omega) == b[i]'(by omega) && (a.drop (i+1) == b.drop (i+1))):=by rw [hj,hd1,hd2];rfl
   clear hd1 hd2 hj
   simp (disch:=omega) [e0,e1,e5,Zn7]
   repeat' (first
  | (with_reducible (first | refine Qk (fun hb_=>?_) (fun hb_=>?_) | refine Ql (fun hb_=>?_) (fun hb_=>?_))<;>simp (disch:=omega) [hb_,e0,e1,e5,Qg])
  | simp (disch:=omega) [e0,e1,e5,Qg])
   ·exact ⟨by omega,by rw [hq2,hb_,Bool.true_and]⟩
   ·rw [hq2,hb_,Bool.false_and]
  ·simp only [Qf,Qd,Qi,Qh,Qc,Qb,Bool.not_true,Bool.not_false] at h6
   simp (disch:=omega)
   rw [hj,List.drop_of_length_le (by omega),List.drop_of_length_le (by omega)];simp
 ·simp (disch:=omega) [h1]
  simp only [Qf,Qd,Qi,Qh,Qc,Qb,Bool.not_true,Bool.not_false] at h1
  rw [<- hq];simp;intro h;exact h1 (by rw [h])
def Zet:Wk->Wk->Bool
 | [],[]=>true
 | a::a',b::b'=>(a.2 == b.2) && Zet a' b'
 | _,_=>false
theorem Zm6:∀ {a b:Wk},a.length≠b.length->Zet a b=false
 | [],[],h=>by simp at h
 | [],_::_,_=>rfl
 | _::_,[],_=>rfl
 | a::a',b::b',h=>by simp only [Zet,Zm6 (a:=a') (b:=b') (by simpa using h),Bool.and_false]
theorem Zf0:∀ a:Wk,Zet a a=true
 | []=>rfl
 | a::a'=>by simp [Zet,Zf0 a']
theorem Zrh (n1 n2:Bool) (a b:Wk) (ha:a.wf):Qe Tryz.prog Za8 [LC n1 a,LC n2 b] (·=B (Zet a b)):=by
 have hla:=ha.1
 refine Qe.of_codeOf Zkr Qx (by simp) ⟨_,rfl,by simp⟩ ?_
 simp (disch:=omega) [Zea]
 (with_reducible first | refine Qk (fun h1=>?_) (fun h1=>?_) | refine Ql (fun h1=>?_) (fun h1=>?_))
 ·simp (disch:=omega) [h1]
  simp only [Qf,Qd,Qi,Qh,Qc,Qb,Bool.not_true,Bool.not_false] at h1
  refine Wf a.length 0 (fun i t _=>t 5=N i∧Zet a b=Zet (a.drop i) (b.drop i)) (by simp) (by omega) ?_
  rintro i t1 hh hf hi ⟨e5,hj⟩
  (have e0:=hf 0 (by kernel_rfl);have e1:=hf 1 (by kernel_rfl);clear hf;simp [] at e0 e1)
  simp (disch:=omega) [e0,e1,e5]
  (with_reducible first | refine Qk (fun h6=>?_) (fun h6=>?_) | refine Ql (fun h6=>?_) (fun h6=>?_))
  ·simp only [Qf,Qd,Qi,Qh,Qc,Qb,Bool.not_true,Bool.not_false] at h6
   have hd1:=List.drop_eq_getElem_cons (l:=a) (i:=i) (by omega)
   have hd2:=List.drop_eq_getElem_cons (l:=b) (i:=i) (by omega)
   have hq2:Zet a b=((a[i]'(by omega)).2 == (b[i]'(by omega)).2 && Zet (a.drop (i+1)) (b.drop (i+1))):=by rw [hj,hd1,hd2];rfl
   clear hd1 hd2 hj
   have hL:=ha.2 (a[i]'(by omega)) (List.getElem_mem _)
   have hc:=ZaT (a[i]'(by omega)).1 (b[i]'(by omega)).1 (a[i]'(by omega)).2 (b[i]'(by omega)).2 hL.1
   simp (disch:=omega) [e0,e1,e5,Kl]
   generalize ((a[i]'(by omega)).2 == (b[i]'(by omega)).2)=q1 at *
   repeat' (first
  | with_reducible refine Qa (hc) (by simp) ?_
  | (with_reducible (first | refine Qk (fun hb_=>?_) (fun hb_=>?_) | refine Ql (fun hb_=>?_) (fun hb_=>?_))<;>simp (disch:=omega) [hb_,e0,e1,e5,Kl,Qg])
  | simp (disch:=omega) [e0,e1,e5,Kl,Qg])
   ·exact ⟨by omega,by rw [hq2,hb_,Bool.true_and]⟩
   ·rw [hq2,hb_,Bool.false_and]
  ·simp only [Qf,Qd,Qi,Qh,Qc,Qb,Bool.not_true,Bool.not_false] at h6
   simp (disch:=omega)
   rw [hj,List.drop_of_length_le (by omega),List.drop_of_length_le (by omega)];rfl
 ·simp (disch:=omega) [h1]
  simp only [Qf,Qd,Qi,Qh,Qc,Qb,Bool.not_true,Bool.not_false] at h1
  exact Zm6 (by omega)
end Go.Proofs.YtbmepminmpjlcaaGreat
namespace Go.Proofs.YtbmepminmpjlcaaGreat.Ty
def QW (c:Int):Bool:=(decide (3<=c) && decide (c<=18)) || c == 35
def WJ (c:Int):Bool:=(decide (19<=c) && decide (c<=34)) || c == 36
def W7 (c:Int):Option Nat :=
 if c=0 then some 0 else if c=1∨c=2∨QW c=true then some 2 else if WJ c=true then some 1 else none
def skip:Nat->List Int->Option (List Int)
 | 0,l=>some l
 | _+1,[]=>none
 | n+1,c::l=>match W7 c with
  | none=>none
  | some k=>skip (n+k) l
def Zad (n:Nat) (l:List Int) (len:Nat):Int:=match skip n l with
 | some r=>(len:Int) - r.length
 | none=>-1
def wty (l:List Int):Bool:=decide (1<=l.length) && decide (l.length<=40) && (skip 1 l == some [])
theorem Zp2 {c:Int} {k:Nat} (h:W7 c=some k):k<=2:=by
 unfold W7 at h
 split at h
 ·simp at h;omega
 ·split at h
  ·simp at h;omega
  ·split at h
   ·simp at h;omega
   ·simp at h
theorem Zk5 (b:Nat):∀ (l:List Int) (a:Nat),skip (a+b) l=(skip a l).bind (skip b)
 | [],0=>by simp [skip]
 | [],a+1=>by rw [show a+1+b=(a+b)+1 by omega];simp [skip]
 | c::l,0=>by simp [skip]
 | c::l,a+1=>by
  rw [show a+1+b=(a+b)+1 by omega]
  simp only [skip]
  cases h:W7 c with
  | none=>simp
  | some k =>
   simp only
   rw [show a+b+k=(a+k)+b by omega]
   exact Zk5 b l (a+k)
theorem skip_drop:∀ (l:List Int) (n:Nat) (r:List Int),skip n l=some r->∃ m,r=l.drop m∧n<=m∧m<=l.length
 | l,0,r,h=>⟨0,by simp [skip] at h;simp [h],by omega,by omega⟩
 | [],n+1,r,h=>by simp [skip] at h
 | c::l,n+1,r,h=>by
  simp only [skip] at h
  cases hk:W7 c with
  | none=>simp [hk] at h
  | some k =>
   simp only [hk] at h
   obtain ⟨m,hm,h1,h2⟩:=skip_drop l (n+k) r h
   exact ⟨m+1,by simpa using hm,by omega,by simp;omega⟩
theorem ZiD {l r:List Int} {n:Nat} (h:skip n l=some r):r.length+n<=l.length:=by
 obtain ⟨m,rfl,h1,h2⟩:=skip_drop l n r h
 simp;omega
end Go.Proofs.YtbmepminmpjlcaaGreat.Ty
namespace Go.Proofs.YtbmepminmpjlcaaGreat
open Go Go.TL
open Go.Proofs.YtbmepminmpjlcaaGreat.Ty
set_option linter.unusedSimpArgs false
set_option linter.unusedVariables false
set_option maxRecDepth 20000
set_option maxHeartbeats 4000000
def QH (k:Int):Int×Int :=
 if Wc k 0 2=true then (k,-1) else if Wc k 3 18=true then (3,k - 3) else if Wc k 19 34=true then (4,k - 19)
 else if eqB k 35=true then (3,-1) else if eqB k 36=true then (4,-1) else (5,-1)
theorem V3 (k:Int) (h:I64 k):Qe Tryz.prog Yg [N k] (·=.tup [N (QH k).1,N (QH k).2]):=by
 obtain ⟨ha,hb⟩:=h
 refine Qe.of_codeOf Zoz Qx (by simp) ⟨_,rfl,by simp⟩ ?_
 simp (disch:=omega) [ZgJ]
 repeat' (first
  | with_reducible refine Qa (J3 _ _ _) (by simp) ?_
  | (with_reducible (first | refine Qk (fun hb_=>?_) (fun hb_=>?_) | refine Ql (fun hb_=>?_) (fun hb_=>?_))<;>simp (disch:=omega) [hb_])
  | simp (disch:=omega))
 all_goals unfold QH
 ·simp_all
 ·rename_i h0
  rw [Wb] at hb_
  rw [if_neg (by simp_all),if_pos (by rw [Wb];exact hb_)]
  simp (disch:=omega) [Qg]
 ·rename_i h0 h1
  rw [Wb] at hb_
  rw [if_neg (by simp_all),if_neg (by simp_all),if_pos (by rw [Wb];exact hb_)]
  simp (disch:=omega) [Qg]
 all_goals simp_all
def JG (l:List Int) (i:Int):Int:=if 0<=i then Zad 1 (l.drop i.toNat) l.length else -1
theorem ZqT {l:List Int} {i:Int} (h:i < 0∨l.length<=i):JG l i=-1:=by
 unfold JG
 split
 ·rw [List.drop_eq_nil_of_le (by omega)];simp [Zad,Ty.skip]
 ·rfl
theorem ZrW {l:List Int} {i:Int} (h:0<=i):JG l i=-1∨(i < JG l i∧JG l i<=l.length):=by
 unfold JG Zad
 rw [if_pos h]
 cases hs:Ty.skip 1 (l.drop i.toNat) with
 | none=>exact .inl rfl
 | some r =>
  have:=ZiD hs
  simp only [List.length_drop] at this ⊢
  right;omega
theorem kidsN' (c:Int):W7 c=if c=0 then some 0 else if (1<=c∧c<=18)∨c=35 then some 2 else if (19<=c∧c<=34)∨c=36 then some 1 else none:=by
 have e1:(c=1∨c=2∨QW c=true) ↔ ((1<=c∧c<=18)∨c=35):=by simp [QW];omega
 have e2:(WJ c=true) ↔ ((19<=c∧c<=34)∨c=36):=by simp [WJ]
 unfold W7
 simp only [e1,e2]
theorem ZrT (c:Int):((QH c).1=0∧W7 c=some 0)∨((QH c).1=4∧W7 c=some 1)∨((QH c).1=5∧W7 c=none)∨((QH c).1≠0∧(QH c).1≠4∧(QH c).1≠5∧W7 c=some 2):=by
 rw [kidsN']
 unfold QH
 simp only [Wb,Qc]
 by_cases h0:0<=c∧c<=2
 ·rw [if_pos h0]
  by_cases h:c=0
  ·simp [h]
  ·rw [if_neg h,if_pos (by omega)];simp;omega
 rw [if_neg h0,if_neg (show ¬ c=0 by omega)]
 by_cases h1:3<=c∧c<=18
 ·rw [if_pos h1,if_pos (by omega)];simp
 rw [if_neg h1]
 by_cases h2:19<=c∧c<=34
 ·rw [if_pos h2,if_neg (by omega),if_pos (by omega)];simp
 rw [if_neg h2]
 by_cases h3:c=35
 ·simp [h3]
 rw [if_neg h3]
 by_cases h4:c=36
 ·simp [h4]
 rw [if_neg h4,if_neg (by omega),if_neg (by omega)]
 simp
theorem tEnd_in {l:List Int} {i:Int} (h0:0<=i) (h1:i < l.length) (c:Int) (hc:c=l[i.toNat]'(by omega)) :
  ((QH c).1=0->JG l i=i+1)∧((QH c).1=4->JG l i=JG l (i+1))∧((QH c).1=5->JG l i=-1) ∧
  ((QH c).1≠0->(QH c).1≠4->(QH c).1≠5->JG l i=JG l (JG l (i+1))):=by
 have hd:l.drop i.toNat=c::l.drop (i.toNat+1):=by rw [hc];exact List.drop_eq_getElem_cons (by omega)
 have e1:(i+1).toNat=i.toNat+1:=by omega
 have key:JG l i=match W7 c with
   | none=>-1
   | some k=>Zad (0+k) (l.drop (i.toNat+1)) l.length:=by
  unfold JG Zad
  rw [if_pos h0,hd]
  simp only [Ty.skip]
  cases W7 c<;>rfl
 rcases ZrT c with ⟨a,b⟩ | ⟨a,b⟩ | ⟨a,b⟩ | ⟨a1,a2,a3,b⟩
 ·rw [b] at key
  refine ⟨fun _=>?_,fun h=>by omega,fun h=>by omega,fun h=>absurd a h⟩
  rw [key];simp [Zad,Ty.skip];omega
 ·rw [b] at key
  refine ⟨fun h=>by omega,fun _=>?_,fun h=>by omega,fun _ h=>absurd a h⟩
  rw [key];unfold JG;rw [if_pos (by omega),e1]
 ·rw [b] at key
  exact ⟨fun h=>by omega,fun h=>by omega,fun _=>key,fun _ _ h=>absurd a h⟩
 ·rw [b] at key
  refine ⟨fun h=>absurd h a1,fun h=>absurd h a2,fun h=>absurd h a3,fun _ _ _=>?_⟩
  rw [key]
  show Zad (1+1) _ _=_
  unfold JG
  rw [if_pos (show 0<=i+1 by omega),e1]
  unfold Zad
  rw [Zk5]
  cases hs:Ty.skip 1 (l.drop (i.toNat+1)) with
  | none=>simp
  | some r =>
   obtain ⟨m,hm,h2,h3⟩:=skip_drop _ _ _ hs
   have hr:r.length<=l.length:=by rw [hm];simp
   simp only [Option.bind_some]
   rw [if_pos (by omega)]
   have:l.drop ((l.length:Int) - r.length).toNat=r:=by
    rw [hm,List.drop_drop]
    simp only [List.length_drop] at h3 ⊢
    congr 1;omega
   rw [this]
def meas (l:List Int) (i:Int):Nat:=if i < 0 then 0 else (l.length+1 - i).toNat
theorem ZkT (nl:Bool) (l:List Int) (hl:Lok l) (i:Int) (hi:I64 i):Qe Tryz.prog Xl [L nl l,N i] (·=N (JG l i)):=by
 have hlen:=hl.1
 generalize hd:meas l i=d
 induction d using Nat.strongRecOn generalizing i with
 | _ d ih =>
  obtain ⟨ha,hb⟩:=hi
  refine Qe.of_codeOf Zk6 Qx (by simp) ⟨_,rfl,by simp⟩ ?_
  simp (disch:=omega) [Zd1,Qg]
  (with_reducible first | refine Qk (fun h1=>?_) (fun h1=>?_) | refine Ql (fun h1=>?_) (fun h1=>?_))
  ·simp (disch:=omega) [h1]
   simp only [Qf,Qd,Qi,Qh,Qc,Qb,Bool.not_true,Bool.not_false] at h1
   exact (ZqT (.inl h1)).symm
  simp (disch:=omega) [h1]
  (with_reducible first | refine Qk (fun h2=>?_) (fun h2=>?_) | refine Ql (fun h2=>?_) (fun h2=>?_))
  ·simp (disch:=omega) [h2]
   simp only [Qf,Qd,Qi,Qh,Qc,Qb,Bool.not_true,Bool.not_false] at h2
   exact (ZqT (.inr h2)).symm
  simp only [Qf,Qd,Qi,Qh,Qc,Qb,Bool.not_true,Bool.not_false] at h1 h2
  simp (disch:=omega) [Xv]
  have hci:I64 (l[i.toNat]'(by omega)):=hl.2 _ (List.getElem_mem _)
  generalize hc:l[i.toNat]'(by omega)=c at *
  obtain ⟨g0,g4,g5,g2⟩:=tEnd_in h1 h2 c hc.symm
  have i1:Qe Tryz.prog Xl [L nl l,N (i+1)] (·=N (JG l (i+1))):=ih _ (by rw [<- hd];unfold meas;rw [if_neg (by omega),if_neg (by omega)];omega) (i+1) ⟨by omega,by omega⟩ rfl
  have hr:=ZrW (l:=l) (i:=i+1) (by omega)
  have i2:Qe Tryz.prog Xl [L nl l,N (JG l (i+1))] (·=N (JG l (JG l (i+1)))):=ih _ (by rw [<- hd];unfold meas;split<;>(rw [if_neg (by omega)];omega)) _ ⟨by omega,by omega⟩ rfl
  repeat' (first
  | with_reducible refine Qa (V3 _ hci) (by simp) ?_
  | with_reducible refine Qa (i1) (by simp) ?_
  | with_reducible refine Qa (i2) (by simp) ?_
  | (with_reducible (first | refine Qk (fun hb_=>?_) (fun hb_=>?_) | refine Ql (fun hb_=>?_) (fun hb_=>?_))<;>simp (disch:=omega) [hb_,Qg])
  | simp (disch:=omega) [Qg])
  all_goals simp only [Qf,Qd,Qi,Qh,Qc,Qb,Bool.not_true,Bool.not_false] at *
  ·exact (g0 (by omega)).symm
  ·exact (g4 (by omega)).symm
  ·exact (g5 (by omega)).symm
  ·exact (g2 (by omega) (by omega) (by omega)).symm
theorem ZoK (l:List Int):wty l=(Wc l.length 1 40 && eqB (JG l 0) l.length):=by
 have:(Ty.skip 1 l == some [])=eqB (JG l 0) l.length:=by
  unfold JG Zad eqB
  simp only [Int.le_refl,if_true,Int.toNat_zero,List.drop_zero]
  cases h:Ty.skip 1 l with
  | none=>simp
  | some r =>
   have:=ZiD h
   cases r with
   | nil=>simp
   | cons a r=>simp;omega
 rw [<- this,wty]
 congr 1
 rw [Bool.eq_iff_iff];simp [Wc,leB];omega
theorem ZhR (nl:Bool) (l:List Int) (hl:Lok l):Qe Tryz.prog Jg [L nl l] (·=B (wty l)):=by
 refine Qe.of_codeOf Zeq Qx (by simp) ⟨_,rfl,by simp⟩ ?_
 have h0:I64 0:=⟨by omega,by omega⟩
 have hl1:=hl.1
 simp (disch:=omega) [Zaj]
 repeat' (first
  | with_reducible refine Qa (J3 _ _ _) (by simp) ?_
  | with_reducible refine Qa (ZkT nl l hl 0 h0) (by simp) ?_
  | (with_reducible (first | refine Qk (fun hb_=>?_) (fun hb_=>?_) | refine Ql (fun hb_=>?_) (fun hb_=>?_))<;>simp (disch:=omega) [hb_])
  | simp (disch:=omega))
 all_goals simp_all [ZoK]
theorem Zlp (c:Int):QW c=(Wc c 3 18 || eqB c 35):=by
 unfold QW Wc leB eqB
 by_cases h:c=35<;>simp [h]
theorem ZoR (c:Int):WJ c=(Wc c 19 34 || eqB c 36):=by
 unfold WJ Wc leB eqB
 by_cases h:c=36<;>simp [h]
theorem YQ (c:Int):QW c=true ↔ (3<=c∧c<=18)∨c=35:=by simp [QW]
theorem Ke (c:Int):WJ c=true ↔ (19<=c∧c<=34)∨c=36:=by simp [WJ]
theorem Zla (c:Int):Qe Tryz.prog JH [N c] (·=B (QW c)):=by
 refine Qe.of_codeOf ZkL Qx (by simp) ⟨_,rfl,by simp⟩ ?_
 simp (disch:=omega) [Zes]
 repeat' (first
  | with_reducible refine Qa (Zky _ _ _) (by simp) ?_
  | (with_reducible (first | refine Qk (fun hb_=>?_) (fun hb_=>?_) | refine Ql (fun hb_=>?_) (fun hb_=>?_))<;>simp (disch:=omega) [hb_])
  | simp (disch:=omega))
 all_goals simp_all [Zlp]
theorem Zq6 (c:Int):Qe Tryz.prog ZaI [N c] (·=B (WJ c)):=by
 refine Qe.of_codeOf ZoO Qx (by simp) ⟨_,rfl,by simp⟩ ?_
 simp (disch:=omega) [Zhh]
 repeat' (first
  | with_reducible refine Qa (Zky _ _ _) (by simp) ?_
  | (with_reducible (first | refine Qk (fun hb_=>?_) (fun hb_=>?_) | refine Ql (fun hb_=>?_) (fun hb_=>?_))<;>simp (disch:=omega) [hb_])
  | simp (disch:=omega))
 all_goals simp_all [ZoR]
def Ziw (c:Int):Int:=match W7 c with
 | some n=>n
 | none=>-1
theorem kidsI' (c:Int):Ziw c=if c=0 then 0 else if c=1∨c=2∨QW c=true then 2 else if WJ c=true then 1 else -1:=by
 unfold Ziw W7
 split<;>rename_i h<;>(repeat' split at h)<;>simp_all
 all_goals omega
theorem Zsm (c:Int):Qe Tryz.prog VP [N c] (·=N (Ziw c)):=by
 refine Qe.of_codeOf Zmy Qx (by simp) ⟨_,rfl,by simp⟩ ?_
 simp (disch:=omega) [ZfX]
 repeat' (first
  | with_reducible refine Qa (Zla _) (by simp) ?_
  | with_reducible refine Qa (Zq6 _) (by simp) ?_
  | (with_reducible (first | refine Qk (fun hb_=>?_) (fun hb_=>?_) | refine Ql (fun hb_=>?_) (fun hb_=>?_))<;>simp (disch:=omega) [hb_])
  | simp (disch:=omega))
 all_goals simp_all [kidsI',Qf,Qd,Qi,Qh,Qc,Qb,Bool.not_true,Bool.not_false]
def Xx (c:Int):Int:=if 35<=c then -1 else if 19<=c then c - 19 else c - 3
theorem ZhB (c:Int) (h:I64 c) (hg:0<=c):Qe Tryz.prog Zg [N c] (·=N (Xx c)):=by
 refine Qe.of_codeOf Zlf Qx (by simp) ⟨_,rfl,by simp⟩ ?_
 obtain ⟨h1,h2⟩:=h
 simp (disch:=omega) [ZeE,Qg]
 repeat' (first
  | (with_reducible (first | refine Qk (fun hb_=>?_) (fun hb_=>?_) | refine Ql (fun hb_=>?_) (fun hb_=>?_))<;>simp (disch:=omega) [hb_,Qg])
  | simp (disch:=omega) [Qg])
 all_goals simp only [Qf,Qd,Qi,Qh,Qc,Qb,Bool.not_true,Bool.not_false,Xx] at *
 ·rw [if_pos hb_]
 ·rename_i h
  rw [if_neg (by omega),if_pos hb_]
 ·rename_i h
  rw [if_neg (by omega),if_neg (by omega)]
theorem Zqj (nl:Bool) (l:List Int) (hl:Lok l) (i:Nat) (hi:i<=l.length):Qe Tryz.prog ZaJ [L nl l,N i] (·=N (JG l i)):=by
 have hlen:=hl.1
 refine Qe.of_codeOf Zol Qx (by simp) ⟨_,rfl,by simp⟩ ?_
 simp (disch:=omega) [ZgI]
 refine Wf l.length i (fun j t _=>∃ m:Nat,t 6=N j∧t 5=N (m+1)∧m<=j∧JG l i=Zad (m+1) (l.drop j) l.length) ⟨0,by simp,by simp,by omega,by unfold JG;rw [if_pos (by omega)];simp⟩ hi ?_
 rintro j t1 hh hf hj ⟨m,e6,e5,hm,he⟩
 (have e0:=hf 0 (by kernel_rfl);clear hf;simp [] at e0)
 simp (disch:=omega) [e0,e5,e6]
 (with_reducible first | refine Qk (fun h6=>?_) (fun h6=>?_) | refine Ql (fun h6=>?_) (fun h6=>?_))
 ·simp only [Qf,Qd,Qi,Qh,Qc,Qb,Bool.not_true,Bool.not_false] at h6
  simp (disch:=omega) [e0,e5,e6,Xv]
  have hd:l.drop j=l[j]::l.drop (j+1):=List.drop_eq_getElem_cons (by omega)
  generalize l[j]'(by omega)=c at *
  have key:JG l i=match W7 c with
    | none=>-1
    | some q=>Zad (m+q) (l.drop (j+1)) l.length:=by
   rw [he,hd]
   unfold Zad
   simp only [Ty.skip]
   cases W7 c<;>rfl
  refine Qa (Zsm c) (by simp) ?_
  cases hq:W7 c with
  | none =>
   rw [hq] at key
   have hk1:Ziw c=-1:=by simp [Ziw,hq]
   rw [hk1]
   have hn1:ltB (-1) 0=true:=by simp [Qf,Qd,Qi,Qh,Qc,Qb,Bool.not_true,Bool.not_false]
   repeat' (first
  | (with_reducible (first | refine Qk (fun hb_=>?_) (fun hb_=>?_) | refine Ql (fun hb_=>?_) (fun hb_=>?_))<;>simp (disch:=omega) [hb_,e0,e5,e6,hn1])
  | simp (disch:=omega) [e0,e5,e6,hn1])
   exact key.symm
  | some q =>
   rw [hq] at key
   have hk1:Ziw c=q:=by simp [Ziw,hq]
   have hq2:=Zp2 hq
   rw [hk1]
   simp (disch:=omega) [e0,e5,e6,Qg]
   repeat' (first
  | (with_reducible (first | refine Qk (fun hb_=>?_) (fun hb_=>?_) | refine Ql (fun hb_=>?_) (fun hb_=>?_))<;>simp (disch:=omega) [hb_,e0,e5,e6,Qg])
  | simp (disch:=omega) [e0,e5,e6,Qg])
   all_goals simp only [Qf,Qd,Qi,Qh,Qc,Qb,Bool.not_true,Bool.not_false] at *
   ·omega
   ·rw [key]
    show _=Zad (m+q) _ _
    rw [show m+q=0 by omega];simp [Zad,Ty.skip];omega
   ·refine ⟨by omega,m+q - 1,by omega,by omega,?_⟩
    rw [key,show m+q - 1+1=m+q by omega]
 ·simp only [Qf,Qd,Qi,Qh,Qc,Qb,Bool.not_true,Bool.not_false] at h6
  simp (disch:=omega)
  rw [he,List.drop_eq_nil_of_le (by omega)];simp [Zad,Ty.skip]
theorem Zid (nl:Bool) (l:List Int) (hl:Lok l):Qe Tryz.prog Kq [L nl l] (·=B (wty l)):=by
 refine Qe.of_codeOf Zmd Qx (by simp) ⟨_,rfl,by simp⟩ ?_
 have hl1:=hl.1
 have hE:=Zqj nl l hl 0 (by omega)
 simp (disch:=omega) [ZfL]
 repeat' (first
  | with_reducible refine Qa (hE) (by simp) ?_
  | (with_reducible (first | refine Qk (fun hb_=>?_) (fun hb_=>?_) | refine Ql (fun hb_=>?_) (fun hb_=>?_))<;>simp (disch:=omega) [hb_])
  | simp (disch:=omega))
 ·rw [ZoK,hb_]
  simp_all [Wc,ltB,leB]
  omega
 all_goals simp_all [ZoK,Wc]
def okC (size:Int) (closed:Bool) (c:Int):Bool:=!(QW c || WJ c) || (ltB (Xx c) size && (!closed || leB 0 (Xx c)))
def Zh (size:Int) (closed:Bool) (l:List Int) (i:Nat):Bool:=okC size closed (l.getD i 0)
def J5 (size:Int) (closed:Bool) (l:List Int):Bool:=Zl (Zh size closed l) l.length
theorem Zr1 (c:Int):(ltB 0 (Ziw c) && ltB 2 c)=(QW c || WJ c):=by
 rw [Bool.eq_iff_iff]
 simp only [kidsI',Bool.and_eq_true,Bool.or_eq_true,Qf,Qd,Qi,Qh,Qc,Qb,Bool.not_true,Bool.not_false,YQ,Ke]
 repeat' split
 all_goals omega
theorem Zep (nl:Bool) (l:List Int) (hl:Lok l) (size:Int) (hs:I64 size) (closed:Bool):Qe Tryz.prog ZH [L nl l,N size,B closed] (·=B (J5 size closed l)):=by
 have hlen:=hl.1
 refine Qe.of_codeOf Zjs Qx (by simp) ⟨_,rfl,by simp⟩ ?_
 simp (disch:=omega) [ZdA]
 refine Wf l.length 0 (fun i t _=>t 7=N i∧Zl (Zh size closed l) i=true) (by simp) (by omega) ?_
 rintro i t1 hh hf hi ⟨e7,hj⟩
 (have e0:=hf 0 (by kernel_rfl);have e1:=hf 1 (by kernel_rfl);have e2:=hf 2 (by kernel_rfl);clear hf;simp [] at e0 e1 e2)
 simp (disch:=omega) [e0,e1,e2,e7]
 (with_reducible first | refine Qk (fun h6=>?_) (fun h6=>?_) | refine Ql (fun h6=>?_) (fun h6=>?_))
 ·simp only [Qf,Qd,Qi,Qh,Qc,Qb,Bool.not_true,Bool.not_false] at h6
  have hc:=hl.at (i:=i) (by omega)
  have hget:Zh size closed l i=okC size closed (l[i]'(by omega)):=by simp [Zh,show i < l.length by omega]
  obtain ⟨c,hce⟩:∃ c,l[i]'(by omega)=c:=⟨_,rfl⟩
  rw [hce] at hc hget
  have hkg:=Zr1 c
  simp (disch:=omega) [e0,e1,e2,e7,Xv,hce]
  refine Qa (Zsm c) (by simp) ?_
  refine Zgz (fun t h=>t 27=B (QW c || WJ c)) ?_ ?_
  ·repeat' (first
  | (with_reducible (first | refine Qk (fun hb_=>?_) (fun hb_=>?_) | refine Ql (fun hb_=>?_) (fun hb_=>?_))<;>simp (disch:=omega) [hb_,e0,e1,e2,e7,Xv,hce])
  | simp (disch:=omega) [e0,e1,e2,e7,Xv,hce])
   all_goals simp_all
  ·rintro t2 hh hf h27
   (have f0:=hf 0 (by kernel_rfl);have f1:=hf 1 (by kernel_rfl);have f2:=hf 2 (by kernel_rfl);have f7:=hf 7 (by kernel_rfl);clear hf;simp [e0,e1,e2,e7] at f0 f1 f2 f7)
   simp (disch:=omega) [h27]
   (with_reducible first | refine Qk (fun h8=>?_) (fun h8=>?_) | refine Ql (fun h8=>?_) (fun h8=>?_))
   ·have hc0:0<=c:=by simp only [Bool.or_eq_true,YQ,Ke] at h8;omega
    rw [okC,h8,Zdh] at hget
    cases closed<;>repeat' (first
  | with_reducible refine Qa (ZhB c hc hc0) (by simp) ?_
  | (with_reducible (first | refine Qk (fun hb_=>?_) (fun hb_=>?_) | refine Ql (fun hb_=>?_) (fun hb_=>?_))<;>simp (disch:=omega) [hb_,f0,f1,f2,f7,Xv,hce])
  | simp (disch:=omega) [f0,f1,f2,f7,Xv,hce])
    ·exact XR (p:=Zh size false l) (i:=i) (by omega) (by simp [hget,hb_])
    ·exact ⟨by omega,Qg (by omega),by simp [WG,hj,hget,hb_]⟩
    ·exact XR (p:=Zh size true l) (i:=i) (by omega) (by simp [hget,hb_])
    ·exact XR (p:=Zh size true l) (i:=i) (by omega) (by rw [Zdh] at hb_;simp at hb_;simp [hget,hb_])
    ·refine ⟨by omega,Qg (by omega),?_⟩
     rw [Zdh] at hb_
     simp_all [WG]
   ·simp (disch:=omega) [f0,f1,f2,f7]
    exact ⟨by omega,Qg (by omega),by simp [WG,hj,hget,okC,h8]⟩
 ·simp only [Qf,Qd,Qi,Qh,Qc,Qb,Bool.not_true,Bool.not_false] at h6
  simp (disch:=omega)
  rw [<- hj,show i=l.length by omega,J5]
theorem ZpU {c:Int} (h:0<=c∧c<=36):((eqB (QH c).1 3 || eqB (QH c).1 4)=(QW c || WJ c))∧((QW c || WJ c)=true->(QH c).2=Xx c):=by
 unfold QH Xx
 simp only [Wb,Qc]
 refine ⟨?_,fun h1=>?_⟩
 ·rw [Bool.eq_iff_iff]
  simp only [Bool.or_eq_true,YQ,Ke,Qc]
  repeat' split
  all_goals (simp;try omega)
 ·simp only [Bool.or_eq_true,YQ,Ke] at h1
  repeat' split
  all_goals (simp;try omega)
theorem ZdY {c:Int} {k:Nat} (h:W7 c=some k):0<=c∧c<=36:=by
 rw [kidsN'] at h
 repeat' split at h
 all_goals first | omega | simp at h
theorem Zkw:∀ (l:List Int) (n:Nat) (r:List Int),Ty.skip n l=some r->∀ i,i+r.length < l.length->0<=l.getD i 0∧l.getD i 0<=36
 | l,0,r,h,i,hi=>by simp [Ty.skip] at h;subst h;omega
 | [],n+1,r,h,i,hi=>by simp [Ty.skip] at h
 | c::l,n+1,r,h,i,hi=>by
  simp only [Ty.skip] at h
  cases hk:W7 c with
  | none=>simp [hk] at h
  | some k =>
   simp only [hk] at h
   cases i with
   | zero=>simpa using ZdY hk
   | succ i =>
    have:=Zkw l (n+k) r h i (by simp at hi;omega)
    simpa using this
theorem ZnA {l:List Int} (h:wty l=true) (i:Nat) (hi:i < l.length):0<=l.getD i 0∧l.getD i 0<=36:=by
 simp [wty] at h
 exact Zkw l 1 [] h.2 i (by simpa using hi)
theorem ZeO {s:GSys} (t:s.Tab) (nl:Bool) (l:List Int) (hl:Lok l):Qe Tryz.prog ZK [s.lv,L nl l] (·=B (wty l && J5 s.size true l)):=by
 have hlen:=hl.1
 have h2:=t.lo;have h16:=t.hi
 refine Qe.of_codeOf Zja Qx (by simp) ⟨_,rfl,by simp⟩ ?_
 simp (disch:=omega) [ZdD,Qt,Qo]
 refine Qa (ZhR nl l hl) (by simp) ?_
 simp (disch:=omega)
 (with_reducible first | refine Qk (fun h1=>?_) (fun h1=>?_) | refine Ql (fun h1=>?_) (fun h1=>?_))
 ·rw [h1,Bool.true_and]
  simp (disch:=omega)
  refine Wf l.length 0 (fun i t _=>t 14=N i∧Zl (Zh s.size true l) i=true) (by simp) (by omega) ?_
  rintro i t1 hh hf hi ⟨e14,hj⟩
  (have e2:=hf 2 (by kernel_rfl);have e12:=hf 12 (by kernel_rfl);have e13:=hf 13 (by kernel_rfl);clear hf;simp [] at e2 e12 e13)
  simp (disch:=omega) [e2,e12,e13,e14]
  (with_reducible first | refine Qk (fun h6=>?_) (fun h6=>?_) | refine Ql (fun h6=>?_) (fun h6=>?_))
  ·simp only [Qf,Qd,Qi,Qh,Qc,Qb,Bool.not_true,Bool.not_false] at h6
   have hc:=hl.at (i:=i) (by omega)
   have hcr:=ZnA h1 i (by omega)
   have hget:Zh s.size true l i=okC s.size true (l[i]'(by omega)):=by simp [Zh,show i < l.length by omega]
   simp only [List.getD_eq_getElem?_getD,List.getElem?_eq_getElem (show i < l.length by omega),Option.getD_some] at hcr
   obtain ⟨c,hce⟩:∃ c,l[i]'(by omega)=c:=⟨_,rfl⟩
   rw [hce] at hc hget hcr
   obtain ⟨hs1,hs2⟩:=ZpU hcr
   simp (disch:=omega) [e2,e12,e13,e14,Xv,hce]
   refine Qa (V3 c hc) (by simp) ?_
   simp (disch:=omega) [e2,e12,e13,e14]
   rw [okC] at hget
   have hI:I64 s.size:=⟨by omega,by omega⟩
   have hlo:-9223372036854775808 < s.size:=by omega
   have hwb:Wc (QH c).2 0 (s.size - 1)=(leB 0 (QH c).2 && ltB (QH c).2 s.size):=by
    rw [Bool.eq_iff_iff];simp [Wc,Qf,Qd,Qi,Qh,Qc,Qb,Bool.not_true,Bool.not_false];omega
   simp only [Bool.not_true,Bool.false_or] at hget
   repeat' (first
  | with_reducible refine Qa (Zre s hI hlo _) (by simp) ?_
  | (with_reducible (first | refine Qk (fun hb_=>?_) (fun hb_=>?_) | refine Ql (fun hb_=>?_) (fun hb_=>?_))<;>simp (disch:=omega) [hb_,e2,e12,e13,e14])
  | simp (disch:=omega) [e2,e12,e13,e14])
   all_goals first
    | exact ⟨by omega,Qg (by omega),by simp_all [WG]⟩
    | exact XR (p:=Zh s.size true l) (i:=i) (by omega) (by cases hB:leB 0 (Xx c)<;>cases hC:QW c<;>cases hD:WJ c<;>simp_all)
  ·simp only [Qf,Qd,Qi,Qh,Qc,Qb,Bool.not_true,Bool.not_false] at h6
   simp (disch:=omega)
   rw [show i=l.length by omega] at hj
   rw [J5,hj]
 ·simp_all
inductive GTerm where
 | mk (op n:Int) (nl1:Bool) (ty:List Int) (nl2:Bool) (ks:List GTerm)
mutual
def GTerm.cells:GTerm->List LV
 | .mk op n nl1 ty nl2 ks=>[N op,N n,L nl1 ty,.sl false nl2 4 (Q9 ks)]
def Q9:List GTerm->List (List LV)
 | []=>[]
 | k::ks=>k.cells::Q9 ks
end
abbrev GTerm.lv (t:GTerm):LV:=.agg t.cells
mutual
def GTerm.size:GTerm->Nat
 | .mk _ _ _ _ _ ks=>WB ks+1
def WB:List GTerm->Nat
 | []=>0
 | k::ks=>k.size+WB ks
end
mutual
def GTerm.wf:GTerm->Prop
 | .mk op n _ ty _ ks=>I64 op∧I64 n∧Lok ty∧ks.length<=1099511627776∧wfs ks
def wfs:List GTerm->Prop
 | []=>True
 | k::ks=>k.wf∧wfs ks
end
theorem ZaX:∀ ks:List GTerm,Q9 ks=ks.map GTerm.cells
 | []=>by simp [Q9]
 | k::ks=>by simp [Q9,ZaX ks]
@[simp] theorem rowsOf_length (ks:List GTerm):(Q9 ks).length=ks.length:=by simp [ZaX]
theorem ZbM:∀ {ks:List GTerm},wfs ks ↔ ∀ k∈ks,k.wf
 | []=>by simp [wfs]
 | k::ks=>by simp [wfs,ZbM (ks:=ks)]
theorem GTerm.size_pos (t:GTerm):0 < t.size:=by cases t;simp [GTerm.size]
theorem Znt:∀ a b:List GTerm,WB (a++b)=WB a+WB b
 | [],b=>by simp [WB]
 | k::a,b=>by simp [WB,Znt a b];omega
theorem Zgu {ks:List GTerm} {i:Nat} (h:i < ks.length):WB (ks.drop i)=ks[i].size+WB (ks.drop (i+1)):=by
 rw [List.drop_eq_getElem_cons h,WB]
theorem YM {ks:List GTerm} {i:Nat} (h:i < ks.length):ks[i].size<=WB ks:=by
 have:=Zgu h
 have h2:=Znt (ks.take i) (ks.drop i)
 rw [List.take_append_drop] at h2
 omega
mutual
theorem ZiH:∀ t:GTerm,shareAll t.cells=t.cells
 | .mk op n nl1 ty nl2 ks=>by
  simp only [GTerm.cells,shareAll,share,Zdf ks]
  congr 3
  simp
theorem Zdf:∀ ks:List GTerm,Qv (Q9 ks)=Q9 ks
 | []=>by simp [Q9,Qv]
 | k::ks=>by simp only [Q9,Qv,ZiH k,Zdf ks]
end
attribute [simp] ZiH Zdf
@[simp] theorem cells_length (t:GTerm):t.cells.length=4:=by cases t;simp [GTerm.cells]
@[simp] theorem take_cells (t:GTerm):t.cells.take 4=t.cells:=List.take_of_length_le (by simp)
mutual
theorem low_cells (k:Nat):∀ t:GTerm,QI k t.cells
 | .mk op n nl1 ty nl2 ks=>by
  have:=Zgd k ks
  simp [GTerm.cells,this]
theorem Zgd (k:Nat):∀ ks:List GTerm,WV k (Q9 ks)
 | []=>by simp [Q9]
 | t::ks=>by simp [Q9,low_cells k t,Zgd k ks]
end
attribute [simp] low_cells Zgd
@[simp] theorem alive_cells (t:GTerm):WK t.cells=true:=by
 cases t;simp [GTerm.cells]
theorem Wq (ks:List GTerm) (u nl:Bool) (i:Nat) (h:i < ks.length):QP 4 (.sl u nl 4 (Q9 ks)) (i:Int)=some (.rp (ks[i]'h).cells):=by
 simp only [QP]
 rw [if_pos ⟨trivial,by omega,by simpa using h⟩]
 have:(Q9 ks).getD (i:Int).toNat []=(ks[i]'h).cells:=by
  simp [List.getD_eq_getElem?_getD,ZaX,h]
 rw [this]
 simp
def W1 (op:Int):Int:=if op=0∨op=1 then 0 else if op=2∨op=4∨op=5∨op=10∨op=12 then 2 else if op=3∨op=8 then 3 else if op=6∨op=7∨op=9∨op=11 then 1 else -1
def XH (op:Int):Bool:=eqB op 5 || eqB op 8 || eqB op 9 || eqB op 11 || eqB op 12
def Xa (op:Int):Bool:=eqB op 6 || eqB op 7 || eqB op 9
def Qy (op k:Int):Int:=if op=5∧k=1 then 2 else if (op=8∧0 < k)∨op=9∨(op=12∧k=1) then 1 else 0
theorem Zph (op k:Int):Qe Tryz.prog ZbL [N op,N k] (·=N (Qy op k)):=by
 refine Qe.of_codeOf Zqx Qx (by simp) ⟨_,rfl,by simp⟩ ?_
 simp (disch:=omega) [ZiA]
 repeat' (first
  | (with_reducible (first | refine Qk (fun hb_=>?_) (fun hb_=>?_) | refine Ql (fun hb_=>?_) (fun hb_=>?_))<;>simp (disch:=omega) [hb_])
  | simp (disch:=omega))
 all_goals simp only [Qf,Qd,Qi,Qh,Qc,Qb,Bool.not_true,Bool.not_false] at *
 all_goals simp_all [Qy]
theorem Ztf (op k:Int):Qe Tryz.prog ZbY [N op,N k] (·=N (Qy op k)):=by
 refine Qe.of_codeOf Zmi Qx (by simp) ⟨_,rfl,by simp⟩ ?_
 simp (disch:=omega) [Zfp]
 repeat' (first
  | (with_reducible (first | refine Qk (fun hb_=>?_) (fun hb_=>?_) | refine Ql (fun hb_=>?_) (fun hb_=>?_))<;>simp (disch:=omega) [hb_])
  | simp (disch:=omega))
 all_goals simp only [Qf,Qd,Qi,Qh,Qc,Qb,Bool.not_true,Bool.not_false] at *
 all_goals simp_all [Qy]
theorem Zqg (op:Int):Qe Tryz.prog ZaL [N op] (·=B (XH op)):=by
 refine Qe.of_codeOf Zn3 Qx (by simp) ⟨_,rfl,by simp⟩ ?_
 simp (disch:=omega) [ZgQ]
 repeat' (first
  | (with_reducible (first | refine Qk (fun hb_=>?_) (fun hb_=>?_) | refine Ql (fun hb_=>?_) (fun hb_=>?_))<;>simp (disch:=omega) [hb_])
  | simp (disch:=omega))
 all_goals simp_all [XH]
theorem Zra (op:Int):Qe Tryz.prog Zbr [N op] (·=B (Xa op)):=by
 refine Qe.of_codeOf Zj3 Qx (by simp) ⟨_,rfl,by simp⟩ ?_
 simp (disch:=omega) [ZeB]
 repeat' (first
  | (with_reducible (first | refine Qk (fun hb_=>?_) (fun hb_=>?_) | refine Ql (fun hb_=>?_) (fun hb_=>?_))<;>simp (disch:=omega) [hb_])
  | simp (disch:=omega))
 all_goals simp_all [Xa]
theorem ops13 {op:Int} (h:Wc op 0 12=true):op=0∨op=1∨op=2∨op=3∨op=4∨op=5∨op=6∨op=7∨op=8∨op=9∨op=10∨op=11∨op=12:=by
 rw [Wb] at h;omega
theorem ZsZ (op:Int):Qe Tryz.prog ZbW [N op] (·=N (W1 op)):=by
 refine Qe.of_codeOf ZmU Qx (by simp) ⟨_,rfl,by simp⟩ ?_
 simp (disch:=omega) [Zfv]
 refine Qa (Zky _ _ _) (by simp) ?_
 simp (disch:=omega)
 (with_reducible first | refine Qk (fun h1=>?_) (fun h1=>?_) | refine Ql (fun h1=>?_) (fun h1=>?_))
 ·rcases ops13 h1 with h | h | h | h | h | h | h | h | h | h | h | h | h<;>subst h<;>simp [QP,W1,Qn]
 ·rw [ZgV] at h1
  simp [W1]
  repeat' split
  all_goals omega
def wordS (op:Int):Value:=if op=0 then .string ⟨#[120]⟩ else if op=2 then .string ⟨#[97,100,100]⟩ else if op=3 then .string ⟨#[105,102]⟩ else if op=4 then .string ⟨#[112,97,105,114]⟩ else if op=5 then .string ⟨#[115,112,108,105,116]⟩
 else if op=6 then .string ⟨#[108,101,102,116]⟩ else if op=7 then .string ⟨#[114,105,103,104,116]⟩ else if op=8 then .string ⟨#[99,97,115,101]⟩ else if op=9 then .string ⟨#[102,117,110]⟩
 else if op=10 then .string ⟨#[97,112,112]⟩ else if op=11 then .string ⟨#[98,111,120]⟩ else if op=12 then .string ⟨#[111,112,101,110]⟩ else .string ⟨#[]⟩
abbrev wordV (op:Int):LV:=.sc (wordS op)
def Zku (op:Int):LV:=if Wc op 0 12=true then .tup [.agg [wordV op,N (W1 op),B (XH op),B (Xa op)],B true] else .tup [.agg [.sc (.string ⟨#[]⟩),N 0,B false,B false],B false]
@[simp] theorem low_formV (op:Int) (k:Nat):Low k (Zku op):=by
 unfold Zku;split<;>simp
theorem ZsP (op:Int):Qe Tryz.prog Zb4 [N op] (·=Zku op):=by
 refine Qe.of_codeOf Zl6 Qx (by simp) ⟨_,rfl,by simp⟩ ?_
 simp (disch:=omega) [Zfz]
 refine Qa (J3 _ _ _) (by simp) ?_
 simp (disch:=omega)
 (with_reducible first | refine Qk (fun h1=>?_) (fun h1=>?_) | refine Ql (fun h1=>?_) (fun h1=>?_))
 ·rcases ops13 h1 with h | h | h | h | h | h | h | h | h | h | h | h | h<;>subst h<;>simp [QP,Qn,W1,Zku,wordS,XH,Xa,Wc,leB,eqB]
 ·simp [Zku,h1]
end Go.Proofs.YtbmepminmpjlcaaGreat