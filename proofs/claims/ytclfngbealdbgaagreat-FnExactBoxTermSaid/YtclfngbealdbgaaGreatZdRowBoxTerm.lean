/- Part 4 of the proof of the row of the text YtclfngbealdbgaaGreatZRowBoxTerm: texts joined. No conditions. -/
import Derived.Test.YtclfngbealdbgaaGreatChecked
import Derived.KernelRfl
import Derived.Test.YtclfngbealdbgaaGreatZcRowBoxTerm
set_option linter.unusedSimpArgs false
set_option linter.unusedVariables false
set_option linter.unusedSectionVars false
namespace Go.Proofs.YtclfngbealdbgaaGreat
open Go Go.TL
theorem Qy : Tryz.prog.follows .mixedOrders = true := by kernel_rfl
abbrev Jlt (d s x : Nat) : GI := (none, .load d .take false s (.t x))
abbrev Jlc (d s x : Nat) : GI := (none, .load d .copy false s (.t x))
abbrev JlT (d s x : Nat) : GI := (none, .load d .take true s (.t x))
abbrev JlC (d s x : Nat) : GI := (none, .load d .copy true s (.t x))
abbrev Jmc (d x : Nat) : GI := (none, .mv d .copy (.t x))
abbrev Jmt (d x : Nat) : GI := (none, .mv d .take (.t x))
abbrev Jfa (d o x : Nat) : GI := (none, .fieldA d o (.t x))
abbrev Jia (d s x y : Nat) : GI := (none, .indexA d s (.t x) (.t y))
abbrev Jln (d x : Nat) : GI := (none, .len d (.t x))
abbrev Jbe (d x : Nat) (v : Int) : GI := (none, .bin d .num .eql (.t x) (.k (N v)))
abbrev Jba (d x : Nat) (v : Int) : GI := (none, .bin d .num .add (.t x) (.k (N v)))
abbrev Jbl (d x y : Nat) : GI := (none, .bin d .num .lss (.t x) (.t y))
abbrev Jst (s x y : Nat) : GI := (none, .store s (.t x) (.t y))
def MD : Nat → Nat → List Md
 | 0, _ => []
 | f + 1, n => if n = 0 then [] else (if n % 8 = 1 then .copy else if n % 8 = 2 then .take else if n % 8 = 3 then .frz else .own) :: MD f (n / 8)
def MM (l : List (Nat × Nat)) : List (Nat × List Md) := l.map fun x => (x.1, MD 200 x.2)
def JX : FuncId := 4
def KO : FuncId := 8
def Vu : FuncId := 9
def ZR : FuncId := 10
def X7 : FuncId := 12
def YB : FuncId := 13
def XQ : FuncId := 14
def XS : FuncId := 16
def KW : FuncId := 17
def VJ : FuncId := 18
def Y9 : FuncId := 19
def J0 : FuncId := 20
def ZX : FuncId := 21
def Z2 : FuncId := 22
def Vt : FuncId := 23
def JF : FuncId := 24
def V6 : FuncId := 34
def YY : FuncId := 45
def VB : FuncId := 46
def VE : FuncId := 47
def ZU : FuncId := 49
def Y4 : FuncId := 50
def Vz : FuncId := 51
def VF : FuncId := 52
def Vs : FuncId := 53
def Z3 : FuncId := 55
def Y0 : FuncId := 56
def VA : FuncId := 57
def VI : FuncId := 58
def XG : FuncId := 59
def Ke : FuncId := 60
def Zr : FuncId := 61
def ZY : FuncId := 62
def ZC : FuncId := 63
def JH : FuncId := 64
def JP : FuncId := 65
def ZZ : FuncId := 67
def WV : FuncId := 68
def XW : FuncId := 71
def JI : FuncId := 73
def WW : FuncId := 74
def Ww : FuncId := 75
def QA : FuncId := 76
def XV : FuncId := 83
def VC : FuncId := 86
def Wq : FuncId := 87
def QC : FuncId := 93
def Qx : FuncId := 94
def Vr : FuncId := 99
def Vx : FuncId := 100
def W0 : FuncId := 101
def Za2 : FuncId := 103
def JG : FuncId := 104
def KX : FuncId := 105
def J8 : FuncId := 106
def YM : FuncId := 107
def VY : FuncId := 108
def YL : FuncId := 110
def WT : FuncId := 111
def K3 : FuncId := 112
def Yb : FuncId := 113
def Z0 : FuncId := 114
def Jz : FuncId := 115
def XY : FuncId := 116
def Ye : FuncId := 117
def XN : FuncId := 118
def ZT : FuncId := 125
def Ko : FuncId := 127
def ZQ : FuncId := 128
def Xt : FuncId := 133
def K5 : FuncId := 136
def Z1 : FuncId := 138
def Kh : FuncId := 139
def V8 : FuncId := 140
def YW : FuncId := 141
def Yd : FuncId := 142
def WE : FuncId := 143
def Zq : FuncId := 144
def Yk : FuncId := 145
def XP : FuncId := 146
def Wh : FuncId := 147
def Zj : FuncId := 148
def Ze : FuncId := 149
def JN : FuncId := 150
def Zx : FuncId := 155
def Va : FuncId := 156
def YX : FuncId := 157
def WR : FuncId := 158
def YP : FuncId := 159
def WX : FuncId := 160
def XZ : FuncId := 161
def ZaI : FuncId := 162
def Xo : FuncId := 163
def YO : FuncId := 164
def Y8 : FuncId := 165
def Zc : FuncId := 166
def W2 : FuncId := 167
def KE : FuncId := 168
def Kn : FuncId := 169
def QH : FuncId := 170
def Xx : FuncId := 174
def V2 : FuncId := 175
def Wx : FuncId := 182
def Q0 : FuncId := 183
def Kp : FuncId := 184
def KT : FuncId := 185
def Za5 : FuncId := 186
def ZaM : FuncId := 187
def Vw : FuncId := 188
def ZW : FuncId := 189
def Kk : FuncId := 190
def ZN : FuncId := 191
def Xb : FuncId := 192
def XH : FuncId := 193
def XE : FuncId := 194
def WF : FuncId := 195
def Yu : FuncId := 196
def WN : FuncId := 197
def WL : FuncId := 198
def ZbM : FuncId := 199
def V3 : FuncId := 200
def Xw : FuncId := 201
def Zaa : FuncId := 202
def Yt : FuncId := 203
def Xd : FuncId := 204
def W7 : FuncId := 205
def XA : FuncId := 206
def ZbG : List (Nat × List Md) := MM [(2, 138), (5, 137), (8, 138), (11, 4497994), (12, 18), (13, 145), (14, 18), (15, 9289), (16, 137), (18, 1105), (20, 1097), (22, 1105), (25, 137), (26, 138), (27, 137), (28, 70217), (31, 137), (33, 137), (38, 4498058), (39, 137), (42, 137), (1000001, 104009)]
def JR : C := (.seq (.reg [(none, .box 3 (.t 0)),(none, .box 5 (.t 2)),(none, .mv 6 .copy (.k (.sc (.bool false))))]) (.seq (.seq (.frz 3) (.seq (.frz 5) (.reg [(none, .mv 7 .copy (.k (N 1048576)))]))) (.seq (.reg [(JlT 20 4 3),(Jmc 21 7),(none, .call .any (some 22) (.k (.fn KO [])) [(.t 20), (.t 21)]),(Jmc 7 22)]) (.seq (.seq (.reg [(Jmc 23 7),(none, .bin 24 .num .lss (.t 23) (.k (N 0)))]) (.cond (.t 24) (.seq (.reg [(none, .mv 6 .copy (.k (.sc (.bool true))))])
 .ret)
 .skip)) (.seq (.reg [(Jmc 25 1),(Jmc 26 7),(none, .call .any (some 27) (.k (.fn Vu [])) [(.t 25), (.t 26)]),(Jmc 7 27)]) (.seq (.seq (.reg [(Jmc 28 7),(none, .bin 29 .num .lss (.t 28) (.k (N 0)))]) (.cond (.t 29) (.seq (.reg [(none, .mv 6 .copy (.k (.sc (.bool true))))])
 .ret)
 .skip)) (.seq (.reg [(JlT 30 4 5),(Jmc 31 7),(none, .call .any (some 32) (.k (.fn ZR [])) [(.t 30), (.t 31)]),(Jmc 7 32)]) (.seq (.seq (.reg [(Jmc 33 7),(none, .bin 34 .num .lss (.t 33) (.k (N 0)))]) (.cond (.t 34) (.seq (.reg [(none, .mv 6 .copy (.k (.sc (.bool true))))])
 .ret)
 .skip)) (.seq (.reg [(JlT 36 4 3),(none, .call .no (some 37) (.k (.fn X7 [])) [(.t 36)]),(Jmc 38 1),(none, .call .no (some 39) (.k (.fn YB [])) [(.t 38)]),(JlT 40 4 5),(none, .call .no (some 41) (.k (.fn XQ [])) [(.t 40)]),(none, .call .no (some 42) (.k (.fn Vt [])) [(.t 37), (.t 39), (.t 41)]),(Jmt 35 42),(none, .extract 43 0 (.t 35)),(none, .extract 44 1 (.t 35)),(none, .alloc 8 [(N 0), (N 0), (.sl true true 1 []), (.sl true true 1 [])]),(Jst 4 8 43),(Jmc 9 44)]) (.seq (.reg [(JlT 45 4 3),(none, .call .any (some 46) (.k (.fn X7 [])) [(.t 45)]),(none, .alloc 10 [(N 0), (.sl true true 1 []), (.sl true true 1 []), (.sl true true 1 [])]),(Jst 4 10 46)]) (.seq (.reg [(Jmc 47 1),(none, .call .any (some 48) (.k (.fn YB [])) [(.t 47)]),(Jmt 11 48)]) (.seq (.reg [(JlT 49 4 5),(none, .call .any (some 50) (.k (.fn XQ [])) [(.t 49)]),(none, .alloc 12 [(N 0), (N 0), (.sl true true 1 []), (.sl true true 1 [])]),(Jst 4 12 50)]) (.seq (.reg [(JlC 52 4 10),(Jmc 53 11),(JlC 54 4 12),(none, .call .any (some 55) (.k (.fn JF [])) [(.t 52), (.t 53), (.t 54)]),(Jmt 51 55),(none, .extract 56 0 (.t 51)),(none, .extract 57 1 (.t 51)),(none, .alloc 13 [(N 0), (N 0), (.sl true true 1 []), (.sl true true 1 [])]),(Jst 4 13 56),(Jmc 14 57)]) (.seq (.seq (.reg [(JlC 58 4 13),(JlC 59 4 8),(none, .call .any (some 60) (.k (.fn XS [])) [(.t 58), (.t 59)]),(none, .un 61 .not (.t 60)),(Jmc 62 61),(some (62, false), .mv 63 .copy (.t 14)),(some (62, false), .mv 64 .copy (.t 9)),(some (62, false), .bin 65 .bool .neq (.t 63) (.t 64)),(none, .pick 66 (.t 62) (.k (.sc (.bool true))) (.t 65))]) (.cond (.t 66) (.seq (.reg [(none, .mv 6 .copy (.k (.sc (.bool false))))])
 .ret)
 .skip)) (.seq (.seq (.reg [(JlC 67 4 10),(JlT 68 4 3),(none, .call .no (some 69) (.k (.fn X7 [])) [(.t 68)]),(none, .call .any (some 70) (.k (.fn KW [])) [(.t 67), (.t 69)]),(none, .un 71 .not (.t 70))]) (.cond (.t 71) (.seq (.reg [(none, .mv 6 .copy (.k (.sc (.bool false))))])
 .ret)
 .skip)) (.seq (.seq (.reg [(Jmc 72 11),(Jmc 73 1),(none, .call .no (some 74) (.k (.fn YB [])) [(.t 73)]),(none, .call .any (some 75) (.k (.fn VJ [])) [(.t 72), (.t 74)]),(none, .un 76 .not (.t 75))]) (.cond (.t 76) (.seq (.reg [(none, .mv 6 .copy (.k (.sc (.bool false))))])
 .ret)
 .skip)) (.seq (.seq (.reg [(JlC 77 4 12),(JlT 78 4 5),(none, .call .no (some 79) (.k (.fn XQ [])) [(.t 78)]),(none, .call .any (some 80) (.k (.fn XS [])) [(.t 77), (.t 79)]),(none, .un 81 .not (.t 80))]) (.cond (.t 81) (.seq (.reg [(none, .mv 6 .copy (.k (.sc (.bool false))))])
 .ret)
 .skip)) (.seq (.reg [(none, .mv 15 .copy (.k (N 1)))]) (.seq (.reg [(JlC 82 4 10),(Jmc 83 15),(none, .call .any (some 84) (.k (.fn Y9 [])) [(.t 82), (.t 83)]),(Jmc 15 84)]) (.seq (.reg [(Jmt 85 11),(Jmc 86 15),(none, .call .any (some 87) (.k (.fn J0 [])) [(.t 85), (.t 86)]),(Jmc 15 87)]) (.seq (.reg [(JlC 88 4 12),(Jmc 89 15),(none, .call .any (some 90) (.k (.fn ZX [])) [(.t 88), (.t 89)]),(Jmc 15 90)]) (.seq (.seq (.reg [(Jmc 91 15),(none, .bin 92 .num .lss (.t 91) (.k (N 0))),(Jmc 93 92),(some (93, false), .load 94 .copy true 4 (.t 13)),(some (93, false), .load 95 .copy true 4 (.t 8)),(some (93, false), .call .any (some 96) (.k (.fn XS [])) [(.t 94), (.t 95)]),(some (93, false), .un 97 .not (.t 96)),(none, .pick 98 (.t 93) (.k (.sc (.bool true))) (.t 97)),(Jmc 99 98),(some (99, false), .mv 100 .copy (.t 14)),(some (99, false), .mv 101 .copy (.t 9)),(some (99, false), .bin 102 .bool .neq (.t 100) (.t 101)),(none, .pick 103 (.t 99) (.k (.sc (.bool true))) (.t 102))]) (.cond (.t 103) (.seq (.reg [(none, .mv 6 .copy (.k (.sc (.bool false))))])
 .ret)
 .skip)) (.seq (.reg [(none, .mv 16 .copy (.k (N 1)))]) (.seq (.reg [(JlC 104 4 13),(Jmc 105 16),(none, .call .any (some 106) (.k (.fn ZX [])) [(.t 104), (.t 105)]),(Jmc 16 106)]) (.seq (.reg [(none, .mv 17 .copy (.k (N 1)))]) (.seq (.reg [(JlC 107 4 13),(Jmc 108 17),(none, .call .any (some 109) (.k (.fn Z2 [])) [(.t 107), (.t 108)]),(Jmc 17 109)]) (.seq (.seq (.reg [(Jmc 110 17),(none, .bin 111 .num .lss (.t 110) (.k (N 0)))]) (.cond (.t 111) (.seq (.reg [(none, .mv 6 .copy (.k (.sc (.bool false))))])
 .ret)
 .skip)) (.seq (.seq (.reg [(Jmc 112 17),(Jmc 113 16),(none, .bin 114 .num .neq (.t 112) (.t 113))]) (.cond (.t 114) (.seq (.reg [(none, .mv 6 .copy (.k (.sc (.bool false))))])
 .ret)
 .skip)) (.seq (.reg [(JlT 116 4 3),(none, .call .no (some 117) (.k (.fn X7 [])) [(.t 116)]),(Jmt 118 1),(none, .call .no (some 119) (.k (.fn YB [])) [(.t 118)]),(JlT 120 4 5),(none, .call .no (some 121) (.k (.fn XQ [])) [(.t 120)]),(none, .call .no (some 122) (.k (.fn JF [])) [(.t 117), (.t 119), (.t 121)]),(Jmt 115 122),(none, .extract 123 0 (.t 115)),(none, .extract 124 1 (.t 115)),(none, .alloc 18 [(N 0), (N 0), (.sl true true 1 []), (.sl true true 1 [])]),(Jst 4 18 123),(Jmc 19 124)]) (.seq (.seq (.reg [(JlC 125 4 18),(JlC 126 4 8),(none, .call .any (some 127) (.k (.fn XS [])) [(.t 125), (.t 126)]),(none, .un 128 .not (.t 127)),(Jmc 129 128),(some (129, false), .mv 130 .copy (.t 19)),(some (129, false), .mv 131 .copy (.t 9)),(some (129, false), .bin 132 .bool .neq (.t 130) (.t 131)),(none, .pick 133 (.t 129) (.k (.sc (.bool true))) (.t 132))]) (.cond (.t 133) (.seq (.reg [(none, .mv 6 .copy (.k (.sc (.bool false))))])
 .ret)
 .skip)) (.seq (.reg [(none, .mv 17 .copy (.k (N 1)))]) (.seq (.reg [(JlC 134 4 13),(Jmc 135 17),(none, .call .any (some 136) (.k (.fn Z2 [])) [(.t 134), (.t 135)]),(Jmc 17 136)]) (.seq (.seq (.reg [(Jmc 137 17),(none, .bin 138 .num .lss (.t 137) (.k (N 0)))]) (.cond (.t 138) (.seq (.reg [(none, .mv 6 .copy (.k (.sc (.bool false))))])
 .ret)
 .skip)) (.seq (.seq (.reg [(Jmc 139 17),(Jmc 140 16),(none, .bin 141 .num .neq (.t 139) (.t 140))]) (.cond (.t 141) (.seq (.reg [(none, .mv 6 .copy (.k (.sc (.bool false))))])
 .ret)
 .skip)) (.seq (.reg [(none, .mv 6 .copy (.k (.sc (.bool true))))])
 .ret)))))))))))))))))))))))))))))))))))
theorem ZbF : Qp Tryz.prog JX ZbG = some (JR, [.tmp 6], 142) := by kernel_rfl
def Zg1 : List (Nat × List Md) := MM [(1, 17), (4, 17), (7, 17), (1000001, 201)]
def Zbr : C := (.seq (.reg [(none, .box 2 (.t 0)),(none, .mv 4 .copy (.k (N 0)))]) (.seq (.seq (.frz 2) (.reg [(Jfa 5 1 2),(Jlt 6 1 5),(Jmc 7 1),(none, .call .no (some 8) (.k (.fn YY [])) [(.t 6), (.t 7)]),(Jmc 1 8)])) (.seq (.seq (.reg [(Jmc 9 1),(none, .bin 10 .num .lss (.t 9) (.k (N 0)))]) (.cond (.t 10) (.seq (.reg [(none, .mv 4 .copy (.k (N (-1))))])
 .ret)
 .skip)) (.seq (.reg [(Jfa 11 2 2),(Jlt 12 1 11),(Jmc 13 1),(none, .call .no (some 14) (.k (.fn YY [])) [(.t 12), (.t 13)]),(Jmc 1 14)]) (.seq (.seq (.reg [(Jmc 15 1),(none, .bin 16 .num .lss (.t 15) (.k (N 0)))]) (.cond (.t 16) (.seq (.reg [(none, .mv 4 .copy (.k (N (-1))))])
 .ret)
 .skip)) (.seq (.reg [(Jfa 17 3 2),(Jlt 18 1 17),(Jmc 19 1),(none, .call .no (some 20) (.k (.fn VB [])) [(.t 18), (.t 19)]),(Jmc 1 20)]) (.seq (.seq (.reg [(Jmc 21 1),(none, .bin 22 .num .lss (.t 21) (.k (N 0)))]) (.cond (.t 22) (.seq (.reg [(none, .mv 4 .copy (.k (N (-1))))])
 .ret)
 .skip)) (.seq (.reg [(Jmc 23 1),(Jmc 4 23)])
 .ret))))))))
theorem Zgx : Qp Tryz.prog KO Zg1 = some (Zbr, [.tmp 4], 24) := by kernel_rfl
def ZiW : List (Nat × List Md) := MM []
def Zca : C := (.seq (.reg [(none, .mv 4 .copy (.k (N 0)))]) (.seq (.reg [(Jmc 6 1),(Jmc 7 0),(Jln 8 7),(none, .bin 9 .num .sub (.t 6) (.t 8)),(Jmc 1 9)]) (.seq (.seq (.reg [(Jmc 10 1),(none, .bin 11 .num .lss (.t 10) (.k (N 0)))]) (.cond (.t 11) (.seq (.reg [(none, .mv 4 .copy (.k (N (-1))))])
 .ret)
 .skip)) (.seq (.seq (.reg [(none, .mv 5 .copy (.k (N 0)))]) (.block 0 (.loop (.seq (.seq (.reg [(Jmc 12 5),(Jmc 13 0),(Jln 14 13),(Jbl 15 12 14)]) (.cond (.t 15)
 .skip (.exit 0))) (.seq (.block 1 (.seq (.reg [(Jmc 18 0),(Jmc 19 5),(Jia 20 1 18 19),(Jlc 21 1 20),(Jmc 22 1),(none, .call .no (some 23) (.k (.fn YY [])) [(.t 21), (.t 22)]),(Jmc 1 23)]) (.seq (.reg [(Jmc 24 1),(none, .bin 25 .num .lss (.t 24) (.k (N 0)))]) (.cond (.t 25) (.seq (.reg [(none, .mv 4 .copy (.k (N (-1))))])
 .ret)
 .skip)))) (.reg [(Jmc 16 5),(Jba 17 16 1),(Jmc 5 17)])))))) (.seq (.reg [(Jmc 26 1),(Jmc 4 26)])
 .ret)))))
theorem ZhZ : Qp Tryz.prog Vu ZiW = some (Zca, [.tmp 4], 27) := by kernel_rfl
def Zkj : List (Nat × List Md) := MM [(1, 17), (4, 17), (1000001, 201)]
def ZdD : C := (.seq (.reg [(none, .box 2 (.t 0)),(none, .mv 4 .copy (.k (N 0)))]) (.seq (.seq (.frz 2) (.reg [(Jfa 5 2 2),(Jlt 6 1 5),(Jmc 7 1),(none, .call .no (some 8) (.k (.fn YY [])) [(.t 6), (.t 7)]),(Jmc 1 8)])) (.seq (.seq (.reg [(Jmc 9 1),(none, .bin 10 .num .lss (.t 9) (.k (N 0)))]) (.cond (.t 10) (.seq (.reg [(none, .mv 4 .copy (.k (N (-1))))])
 .ret)
 .skip)) (.seq (.reg [(Jfa 11 3 2),(Jlt 12 1 11),(Jmc 13 1),(none, .call .no (some 14) (.k (.fn VE [])) [(.t 12), (.t 13)]),(Jmc 1 14)]) (.seq (.seq (.reg [(Jmc 15 1),(none, .bin 16 .num .lss (.t 15) (.k (N 0)))]) (.cond (.t 16) (.seq (.reg [(none, .mv 4 .copy (.k (N (-1))))])
 .ret)
 .skip)) (.seq (.reg [(Jmc 17 1),(Jmc 4 17)])
 .ret))))))
theorem Zkg : Qp Tryz.prog ZR Zkj = some (ZdD, [.tmp 4], 18) := by kernel_rfl
def ZgZ : List (Nat × List Md) := MM [(2, 17), (3, 17), (4, 17), (5, 17), (6, 3), (1000001, 25)]
def Zbg : C := (.seq (.reg [(none, .box 1 (.t 0)),(none, .alloc 2 [(N 0), (.sl true true 1 []), (.sl true true 1 []), (.sl true true 1 [])])]) (.seq (.seq (.frz 1) (.reg [(none, .alloc 3 [(N 0), (.sl true true 1 []), (.sl true true 1 []), (.sl true true 1 [])])])) (.seq (.reg [(Jfa 4 0 1),(Jlt 5 1 4),(Jfa 6 0 3),(Jst 1 6 5)]) (.seq (.reg [(Jfa 7 1 1),(Jlt 8 1 7),(none, .call .no (some 9) (.k (.fn Y4 [])) [(.t 8)]),(Jfa 10 1 3),(Jst 1 10 9)]) (.seq (.reg [(Jfa 11 2 1),(Jlt 12 1 11),(none, .call .no (some 13) (.k (.fn Y4 [])) [(.t 12)]),(Jfa 14 2 3),(Jst 1 14 13)]) (.seq (.reg [(Jfa 15 3 1),(Jlt 16 1 15),(none, .call .no (some 17) (.k (.fn Vz [])) [(.t 16)]),(Jfa 18 3 3),(Jst 1 18 17)]) (.seq (.reg [(none, .load 19 .frz true 4 (.t 3)),(Jst 4 2 19)])
 .ret)))))))
theorem ZgA : Qp Tryz.prog X7 ZgZ = some (Zbg, [.cell 2 true 4], 20) := by kernel_rfl
def ZhH : List (Nat × List Md) := MM [(1, 1097), (6, 26)]
def ZbN : C := (.seq (.reg [(none, .mv 2 .copy (.k (.sl true true 1 [])))]) (.seq (.reg [(Jmc 5 0),(Jln 6 5),(none, .mkslice 7 1 [(.sl true true 1 [])] (.t 6)),(Jmt 3 7)]) (.seq (.seq (.reg [(none, .mv 4 .copy (.k (N 0)))]) (.block 0 (.loop (.seq (.seq (.reg [(Jmc 8 4),(Jmc 9 0),(Jln 10 9),(Jbl 11 8 10)]) (.cond (.t 11)
 .skip (.exit 0))) (.seq (.block 1 (.reg [(Jmc 14 3),(Jmc 15 4),(Jmc 16 0),(Jmc 17 4),(Jia 18 1 16 17),(Jlc 19 1 18),(none, .call .no (some 20) (.k (.fn Y4 [])) [(.t 19)]),(Jia 21 1 14 15),(Jst 1 21 20)])) (.reg [(Jmc 12 4),(Jba 13 12 1),(Jmc 4 13)])))))) (.seq (.reg [(Jmt 22 3),(none, .mv 2 .frz (.t 22))])
 .ret))))
theorem Zho : Qp Tryz.prog YB ZhH = some (ZbN, [.tmp 2], 23) := by kernel_rfl
def Zkv : List (Nat × List Md) := MM [(2, 17), (3, 17), (4, 17), (5, 17), (6, 3), (1000001, 25)]
def Zdh : C := (.seq (.reg [(none, .box 1 (.t 0)),(none, .alloc 2 [(N 0), (N 0), (.sl true true 1 []), (.sl true true 1 [])])]) (.seq (.seq (.frz 1) (.reg [(none, .alloc 3 [(N 0), (N 0), (.sl true true 1 []), (.sl true true 1 [])])])) (.seq (.reg [(Jfa 4 0 1),(Jlt 5 1 4),(Jfa 6 0 3),(Jst 1 6 5)]) (.seq (.reg [(Jfa 7 1 1),(Jlt 8 1 7),(Jfa 9 1 3),(Jst 1 9 8)]) (.seq (.reg [(Jfa 10 2 1),(Jlt 11 1 10),(none, .call .no (some 12) (.k (.fn Y4 [])) [(.t 11)]),(Jfa 13 2 3),(Jst 1 13 12)]) (.seq (.reg [(Jfa 14 3 1),(Jlt 15 1 14),(none, .call .no (some 16) (.k (.fn VF [])) [(.t 15)]),(Jfa 17 3 3),(Jst 1 17 16)]) (.seq (.reg [(none, .load 18 .frz true 4 (.t 3)),(Jst 4 2 18)])
 .ret)))))))
theorem Zkc : Qp Tryz.prog XQ Zkv = some (Zdh, [.cell 2 true 4], 19) := by kernel_rfl
def Zjg : List (Nat × List Md) := MM [(1, 1105), (3, 1105), (5, 1105), (7, 1105), (1000001, 1737)]
def Zdz : C := (.seq (.reg [(none, .box 2 (.t 0)),(none, .box 3 (.t 1)),(none, .mv 4 .copy (.k (.sc (.bool false))))]) (.seq (.seq (.seq (.frz 2) (.seq (.frz 3) (.reg [(Jfa 5 0 2),(Jlt 6 1 5),(Jfa 7 0 3),(Jlt 8 1 7),(none, .bin 9 .num .neq (.t 6) (.t 8))]))) (.cond (.t 9) (.seq (.reg [(none, .mv 4 .copy (.k (.sc (.bool false))))])
 .ret)
 .skip)) (.seq (.seq (.reg [(Jfa 10 1 2),(Jlt 11 1 10),(Jfa 12 1 3),(Jlt 13 1 12),(none, .bin 14 .num .neq (.t 11) (.t 13))]) (.cond (.t 14) (.seq (.reg [(none, .mv 4 .copy (.k (.sc (.bool false))))])
 .ret)
 .skip)) (.seq (.seq (.reg [(Jfa 15 2 2),(Jlt 16 1 15),(Jfa 17 2 3),(Jlt 18 1 17),(none, .call .no (some 19) (.k (.fn Y0 [])) [(.t 16), (.t 18)]),(none, .un 20 .not (.t 19))]) (.cond (.t 20) (.seq (.reg [(none, .mv 4 .copy (.k (.sc (.bool false))))])
 .ret)
 .skip)) (.seq (.seq (.reg [(Jfa 21 3 2),(Jlt 22 1 21),(Jfa 23 3 3),(Jlt 24 1 23),(none, .call .no (some 25) (.k (.fn VA [])) [(.t 22), (.t 24)]),(none, .un 26 .not (.t 25))]) (.cond (.t 26) (.seq (.reg [(none, .mv 4 .copy (.k (.sc (.bool false))))])
 .ret)
 .skip)) (.seq (.reg [(none, .mv 4 .copy (.k (.sc (.bool true))))])
 .ret))))))
theorem Zju : Qp Tryz.prog XS Zjg = some (Zdz, [.tmp 4], 27) := by kernel_rfl
def ZgO : List (Nat × List Md) := MM [(1, 1105), (3, 1105), (5, 1105), (7, 1105), (1000001, 1737)]
def Zbk : C := (.seq (.reg [(none, .box 2 (.t 0)),(none, .box 3 (.t 1)),(none, .mv 4 .copy (.k (.sc (.bool false))))]) (.seq (.seq (.seq (.frz 2) (.seq (.frz 3) (.reg [(Jfa 5 0 2),(Jlt 6 1 5),(Jfa 7 0 3),(Jlt 8 1 7),(none, .bin 9 .num .neq (.t 6) (.t 8))]))) (.cond (.t 9) (.seq (.reg [(none, .mv 4 .copy (.k (.sc (.bool false))))])
 .ret)
 .skip)) (.seq (.seq (.reg [(Jfa 10 1 2),(Jlt 11 1 10),(Jfa 12 1 3),(Jlt 13 1 12),(none, .call .no (some 14) (.k (.fn Y0 [])) [(.t 11), (.t 13)]),(none, .un 15 .not (.t 14))]) (.cond (.t 15) (.seq (.reg [(none, .mv 4 .copy (.k (.sc (.bool false))))])
 .ret)
 .skip)) (.seq (.seq (.reg [(Jfa 16 2 2),(Jlt 17 1 16),(Jfa 18 2 3),(Jlt 19 1 18),(none, .call .no (some 20) (.k (.fn Y0 [])) [(.t 17), (.t 19)]),(none, .un 21 .not (.t 20))]) (.cond (.t 21) (.seq (.reg [(none, .mv 4 .copy (.k (.sc (.bool false))))])
 .ret)
 .skip)) (.seq (.seq (.reg [(Jfa 22 3 2),(Jlt 23 1 22),(Jfa 24 3 3),(Jlt 25 1 24),(none, .call .no (some 26) (.k (.fn VI [])) [(.t 23), (.t 25)]),(none, .un 27 .not (.t 26))]) (.cond (.t 27) (.seq (.reg [(none, .mv 4 .copy (.k (.sc (.bool false))))])
 .ret)
 .skip)) (.seq (.reg [(none, .mv 4 .copy (.k (.sc (.bool true))))])
 .ret))))))
theorem ZgC : Qp Tryz.prog KW ZgO = some (Zbk, [.tmp 4], 28) := by kernel_rfl
def Zhy : List (Nat × List Md) := MM []
def ZcA : C := (.seq (.reg [(none, .mv 4 .copy (.k (.sc (.bool false))))]) (.seq (.seq (.reg [(Jmc 6 0),(Jln 7 6),(Jmc 8 1),(Jln 9 8),(none, .bin 10 .num .neq (.t 7) (.t 9))]) (.cond (.t 10) (.seq (.reg [(none, .mv 4 .copy (.k (.sc (.bool false))))])
 .ret)
 .skip)) (.seq (.seq (.reg [(none, .mv 5 .copy (.k (N 0)))]) (.block 0 (.loop (.seq (.seq (.reg [(Jmc 11 5),(Jmc 12 0),(Jln 13 12),(Jbl 14 11 13)]) (.cond (.t 14)
 .skip (.exit 0))) (.seq (.block 1 (.seq (.reg [(Jmc 17 0),(Jmc 18 5),(Jia 19 1 17 18),(Jlc 20 1 19),(Jmc 21 1),(Jmc 22 5),(Jia 23 1 21 22),(Jlc 24 1 23),(none, .call .no (some 25) (.k (.fn Y0 [])) [(.t 20), (.t 24)]),(none, .un 26 .not (.t 25))]) (.cond (.t 26) (.seq (.reg [(none, .mv 4 .copy (.k (.sc (.bool false))))])
 .ret)
 .skip))) (.reg [(Jmc 15 5),(Jba 16 15 1),(Jmc 5 16)])))))) (.seq (.reg [(none, .mv 4 .copy (.k (.sc (.bool true))))])
 .ret))))
theorem ZhX : Qp Tryz.prog VJ Zhy = some (ZcA, [.tmp 4], 27) := by kernel_rfl
def Zfd : List (Nat × List Md) := MM [(1, 1105), (2, 1105), (3, 1105), (1000001, 201)]
def VQ : C := (.seq (.reg [(none, .box 2 (.t 0)),(none, .mv 4 .copy (.k (N 0)))]) (.seq (.seq (.frz 2) (.reg [(Jfa 5 1 2),(Jlt 6 1 5),(Jmc 7 1),(none, .call .any (some 8) (.k (.fn XG [])) [(.t 6), (.t 7)]),(Jmc 1 8)])) (.seq (.reg [(Jfa 9 2 2),(Jlt 10 1 9),(Jmc 11 1),(none, .call .any (some 12) (.k (.fn XG [])) [(.t 10), (.t 11)]),(Jmc 1 12)]) (.seq (.reg [(Jfa 13 3 2),(Jlt 14 1 13),(Jmc 15 1),(none, .call .any (some 16) (.k (.fn Ke [])) [(.t 14), (.t 15)]),(Jmc 1 16)]) (.seq (.reg [(Jmc 17 1),(Jmc 4 17)])
 .ret)))))
theorem ZeD : Qp Tryz.prog Y9 Zfd = some (VQ, [.tmp 4], 18) := by kernel_rfl
def Zfx : List (Nat × List Md) := MM [(4, 70217)]
def J2 : C := (.seq (.reg [(none, .mv 4 .copy (.k (N 0)))]) (.seq (.seq (.reg [(none, .mv 5 .copy (.k (N 0)))]) (.block 0 (.loop (.seq (.seq (.reg [(Jmc 6 5),(Jmc 7 0),(Jln 8 7),(Jbl 9 6 8)]) (.cond (.t 9)
 .skip (.exit 0))) (.seq (.block 1 (.reg [(Jmc 12 0),(Jmc 13 5),(Jia 14 1 12 13),(Jlc 15 1 14),(Jmc 16 1),(none, .call .any (some 17) (.k (.fn XG [])) [(.t 15), (.t 16)]),(Jmc 1 17)])) (.reg [(Jmc 10 5),(Jba 11 10 1),(Jmc 5 11)])))))) (.seq (.reg [(Jmc 18 1),(Jmc 4 18)])
 .ret)))
theorem Zam : Qp Tryz.prog J0 Zfx = some (J2, [.tmp 4], 19) := by kernel_rfl
def ZgH : List (Nat × List Md) := MM [(1, 1105), (2, 1105), (1000001, 201)]
def Zbf : C := (.seq (.reg [(none, .box 2 (.t 0)),(none, .mv 4 .copy (.k (N 0)))]) (.seq (.seq (.frz 2) (.reg [(Jfa 5 2 2),(Jlt 6 1 5),(Jmc 7 1),(none, .call .any (some 8) (.k (.fn XG [])) [(.t 6), (.t 7)]),(Jmc 1 8)])) (.seq (.reg [(Jfa 9 3 2),(Jlt 10 1 9),(Jmc 11 1),(none, .call .any (some 12) (.k (.fn Zr [])) [(.t 10), (.t 11)]),(Jmc 1 12)]) (.seq (.reg [(Jmc 13 1),(Jmc 4 13)])
 .ret))))
theorem ZgI : Qp Tryz.prog ZX ZgH = some (Zbf, [.tmp 4], 14) := by kernel_rfl
def Zgy : List (Nat × List Md) := MM [(1, 17), (4, 17), (1000001, 201)]
def Zbj : C := (.seq (.reg [(none, .box 2 (.t 0)),(none, .mv 4 .copy (.k (N 0)))]) (.seq (.seq (.frz 2) (.reg [(Jfa 5 2 2),(Jlt 6 1 5),(Jmc 7 1),(none, .call .no (some 8) (.k (.fn ZY [])) [(.t 6), (.t 7)]),(Jmc 1 8)])) (.seq (.seq (.reg [(Jmc 9 1),(none, .bin 10 .num .lss (.t 9) (.k (N 0)))]) (.cond (.t 10) (.seq (.reg [(none, .mv 4 .copy (.k (N (-1))))])
 .ret)
 .skip)) (.seq (.reg [(Jfa 11 3 2),(Jlt 12 1 11),(Jmc 13 1),(none, .call .no (some 14) (.k (.fn ZC [])) [(.t 12), (.t 13)]),(Jmc 1 14)]) (.seq (.seq (.reg [(Jmc 15 1),(none, .bin 16 .num .lss (.t 15) (.k (N 0)))]) (.cond (.t 16) (.seq (.reg [(none, .mv 4 .copy (.k (N (-1))))])
 .ret)
 .skip)) (.seq (.reg [(Jmc 17 1),(Jmc 4 17)])
 .ret))))))
theorem ZgV : Qp Tryz.prog Z2 Zgy = some (Zbj, [.tmp 4], 18) := by kernel_rfl
def Zhv : List (Nat × List Md) := MM [(1, 304390794), (4, 8850), (5, 1097), (7, 2), (1000001, 104009), (2000004, 26996937289)]
def Zb1 : C := (.seq (.reg [(none, .box 3 (.t 0)),(none, .box 5 (.t 2)),(none, .alloc 6 [(N 0), (N 0), (.sl true true 1 []), (.sl true true 1 [])]),(none, .mv 7 .copy (.k (.sc (.bool false))))]) (.seq (.seq (.frz 3) (.seq (.frz 5) (.reg [(JlT 13 4 3),(Jmc 14 1),(JlT 15 4 5),(none, .call .no (some 16) (.k (.fn V6 [])) [(.t 13), (.t 14), (.t 15)]),(Jmt 12 16),(none, .extract 17 0 (.t 12)),(none, .extract 18 1 (.t 12)),(none, .extract 19 2 (.t 12)),(Jmt 8 17),(Jmt 9 18),(Jmc 10 19)]))) (.seq (.seq (.reg [(Jmc 20 10),(none, .un 21 .not (.t 20))]) (.cond (.t 21) (.seq (.reg [(none, .build 22 [(N 0), (N 0), (.sl true true 1 []), (.sl true true 1 [])] []),(Jst 4 6 22),(none, .mv 7 .copy (.k (.sc (.bool false))))])
 .ret)
 .skip)) (.seq (.seq (.reg [(JlT 24 4 3),(Jmt 25 1),(JlT 26 4 5),(none, .call .no (some 27) (.k (.fn JH [])) [(.t 24), (.t 25), (.t 26)]),(Jmt 23 27),(none, .extract 28 0 (.t 23)),(none, .extract 29 1 (.t 23)),(none, .alloc 11 [(N 0), (N 0), (.sl true true 1 []), (.sl true true 1 [])]),(Jst 4 11 28),(Jmc 10 29)]) (.frz 11)) (.seq (.seq (.reg [(Jmc 30 10),(none, .un 31 .not (.t 30)),(Jmc 32 31),(some (32, false), .load 33 .take true 4 (.t 11)),(some (32, false), .call .no (some 34) (.k (.fn ZU [])) [(.t 33), (.k (N 400))]),(some (32, false), .bin 35 .num .lss (.t 34) (.k (N 0))),(none, .pick 36 (.t 32) (.k (.sc (.bool true))) (.t 35))]) (.cond (.t 36) (.seq (.reg [(none, .build 37 [(N 0), (N 0), (.sl true true 1 []), (.sl true true 1 [])] []),(Jst 4 6 37),(none, .mv 7 .copy (.k (.sc (.bool false))))])
 .ret)
 .skip)) (.seq (.reg [(JlT 38 4 11),(Jst 4 6 38),(none, .mv 7 .copy (.k (.sc (.bool true))))])
 .ret))))))
theorem ZhL : Qp Tryz.prog Vt Zhv = some (Zb1, [.cell 6 true 4, .tmp 7], 39) := by kernel_rfl
def Zi1 : List (Nat × List Md) := MM [(1, 8842), (4, 18), (5, 138), (7, 3), (1000001, 104009)]
def ZcD : C := (.seq (.reg [(none, .box 3 (.t 0)),(none, .box 5 (.t 2)),(none, .alloc 6 [(N 0), (N 0), (.sl true true 1 []), (.sl true true 1 [])]),(none, .mv 7 .copy (.k (.sc (.bool false))))]) (.seq (.seq (.frz 3) (.seq (.frz 5) (.reg [(JlT 10 4 3),(Jmc 11 1),(JlT 12 4 5),(none, .call .no (some 13) (.k (.fn Vs [])) [(.t 10), (.t 11), (.t 12)]),(Jmt 8 13)]))) (.seq (.seq (.reg [(Jmc 14 8),(none, .bin 15 .ptr .eql (.t 14) (.k (.sc (.pointer none)))),(Jmc 16 15),(some (16, false), .mv 17 .copy (.t 8)),(some (16, false), .nilchk 18 (.t 17)),(some (16, false), .fieldA 19 3 (.t 18)),(some (16, false), .load 20 .copy false 1 (.t 19)),(some (16, false), .bin 21 .num .neq (.t 20) (.k (N 0))),(none, .pick 22 (.t 16) (.k (.sc (.bool true))) (.t 21))]) (.cond (.t 22) (.seq (.reg [(none, .build 23 [(N 0), (N 0), (.sl true true 1 []), (.sl true true 1 [])] []),(Jst 4 6 23),(none, .mv 7 .copy (.k (.sc (.bool false))))])
 .ret)
 .skip)) (.seq (.reg [(JlT 24 4 5),(Jmt 25 8),(none, .call .no (some 26) (.k (.fn JP [])) [(.t 24), (.t 25)]),(none, .alloc 9 [(N 0), (N 0), (.sl true true 1 []), (.sl true true 1 [])]),(Jst 4 9 26)]) (.seq (.seq (.reg [(JlT 27 4 3),(JlC 28 4 9),(Jmt 29 1),(Jln 30 29),(none, .call .no (some 31) (.k (.fn Z3 [])) [(.t 27), (.t 28), (.t 30)]),(none, .un 32 .not (.t 31))]) (.cond (.t 32) (.seq (.reg [(none, .build 33 [(N 0), (N 0), (.sl true true 1 []), (.sl true true 1 [])] []),(Jst 4 6 33),(none, .mv 7 .copy (.k (.sc (.bool false))))])
 .ret)
 .skip)) (.seq (.reg [(none, .load 34 .frz true 4 (.t 9)),(Jst 4 6 34),(none, .mv 7 .copy (.k (.sc (.bool true))))])
 .ret))))))
theorem ZiJ : Qp Tryz.prog JF Zi1 = some (ZcD, [.cell 6 true 4, .tmp 7], 35) := by kernel_rfl
def Zjq : List (Nat × List Md) := MM [(1, 138), (3, 146), (4, 17), (6, 74833), (1000001, 104009), (2000003, 421827145)]
def ZdC : C := (.seq (.reg [(none, .box 3 (.t 0)),(none, .box 5 (.t 2)),(none, .mv 6 .copy (.k (.sl true true 1 []))),(none, .mv 7 .copy (.k (.sl true true 1 []))),(none, .mv 8 .copy (.k (.sc (.bool false))))]) (.seq (.seq (.seq (.frz 3) (.seq (.frz 5) (.reg [(JlT 10 4 3),(Jmc 11 1),(JlT 12 4 5),(none, .call .no (some 13) (.k (.fn VC [])) [(.t 10), (.t 11), (.t 12)]),(none, .un 14 .not (.t 13))]))) (.cond (.t 14) (.seq (.reg [(none, .mv 6 .copy (.k (.sl true true 1 []))),(none, .mv 7 .copy (.k (.sl true true 1 []))),(none, .mv 8 .copy (.k (.sc (.bool false))))])
 .ret)
 .skip)) (.seq (.seq (.reg [(JlT 15 4 3),(Jmt 16 1),(JlT 17 4 5),(none, .call .no (some 18) (.k (.fn Wq [])) [(.t 15), (.t 16), (.t 17)]),(none, .alloc 9 [(.sl true true 1 []), (.sl true true 1 []), (N 0), (.sl true true 1 [])]),(Jst 4 9 18)]) (.frz 9)) (.seq (.seq (.reg [(Jfa 19 2 9),(Jlt 20 1 19),(none, .bin 21 .num .neq (.t 20) (.k (N 0)))]) (.cond (.t 21) (.seq (.reg [(none, .mv 6 .copy (.k (.sl true true 1 []))),(none, .mv 7 .copy (.k (.sl true true 1 []))),(none, .mv 8 .copy (.k (.sc (.bool false))))])
 .ret)
 .skip)) (.seq (.reg [(Jfa 22 0 9),(Jlt 23 1 22),(Jfa 24 1 9),(Jlt 25 1 24),(Jmt 6 23),(Jmt 7 25),(none, .mv 8 .copy (.k (.sc (.bool true))))])
 .ret)))))
theorem Zkz : Qp Tryz.prog V6 Zjq = some (ZdC, [.tmp 6, .tmp 7, .tmp 8], 26) := by kernel_rfl
def Zko : List (Nat × List Md) := MM [(1, 17)]
def Zc9 : C := (.seq (.reg [(none, .mv 4 .copy (.k (N 0)))]) (.seq (.reg [(Jmc 5 1),(Jmt 6 0),(Jln 7 6),(none, .bin 8 .num .sub (.t 5) (.t 7)),(Jmc 1 8)]) (.seq (.seq (.reg [(Jmc 9 1),(none, .bin 10 .num .lss (.t 9) (.k (N 0)))]) (.cond (.t 10) (.seq (.reg [(none, .mv 4 .copy (.k (N (-1))))])
 .ret)
 .skip)) (.seq (.reg [(Jmc 11 1),(Jmc 4 11)])
 .ret))))
theorem ZjI : Qp Tryz.prog YY Zko = some (Zc9, [.tmp 4], 12) := by kernel_rfl
def ZiQ : List (Nat × List Md) := MM [(1, 17)]
def Zcj : C := (.seq (.reg [(none, .mv 4 .copy (.k (N 0)))]) (.seq (.reg [(Jmc 5 1),(Jmt 6 0),(Jln 7 6),(none, .bin 8 .num .sub (.t 5) (.t 7)),(Jmc 1 8)]) (.seq (.seq (.reg [(Jmc 9 1),(none, .bin 10 .num .lss (.t 9) (.k (N 0)))]) (.cond (.t 10) (.seq (.reg [(none, .mv 4 .copy (.k (N (-1))))])
 .ret)
 .skip)) (.seq (.reg [(Jmc 11 1),(Jmc 4 11)])
 .ret))))
theorem ZhV : Qp Tryz.prog VB ZiQ = some (Zcj, [.tmp 4], 12) := by kernel_rfl
def Ziw : List (Nat × List Md) := MM []
def Zb9 : C := (.seq (.reg [(none, .mv 4 .copy (.k (N 0)))]) (.seq (.reg [(Jmc 6 1),(Jmc 7 0),(Jln 8 7),(none, .bin 9 .num .sub (.t 6) (.t 8)),(Jmc 1 9)]) (.seq (.seq (.reg [(Jmc 10 1),(none, .bin 11 .num .lss (.t 10) (.k (N 0)))]) (.cond (.t 11) (.seq (.reg [(none, .mv 4 .copy (.k (N (-1))))])
 .ret)
 .skip)) (.seq (.seq (.reg [(none, .mv 5 .copy (.k (N 0)))]) (.block 0 (.loop (.seq (.seq (.reg [(Jmc 12 5),(Jmc 13 0),(Jln 14 13),(Jbl 15 12 14)]) (.cond (.t 15)
 .skip (.exit 0))) (.seq (.block 1 (.seq (.reg [(Jmc 18 0),(Jmc 19 5),(Jia 20 4 18 19),(JlC 21 4 20),(Jmc 22 1),(none, .call .no (some 23) (.k (.fn ZR [])) [(.t 21), (.t 22)]),(Jmc 1 23)]) (.seq (.reg [(Jmc 24 1),(none, .bin 25 .num .lss (.t 24) (.k (N 0)))]) (.cond (.t 25) (.seq (.reg [(none, .mv 4 .copy (.k (N (-1))))])
 .ret)
 .skip)))) (.reg [(Jmc 16 5),(Jba 17 16 1),(Jmc 5 17)])))))) (.seq (.reg [(Jmc 26 1),(Jmc 4 26)])
 .ret)))))
theorem ZiK : Qp Tryz.prog VE Ziw = some (Zb9, [.tmp 4], 27) := by kernel_rfl
def ZjA : List (Nat × List Md) := MM [(3, 137), (5, 17), (1000001, 201)]
def Zdg : C := (.seq (.reg [(none, .box 2 (.t 0)),(none, .mv 4 .copy (.k (N 0)))]) (.seq (.seq (.frz 2) (.reg [(Jmc 6 1),(none, .bin 7 .num .sub (.t 6) (.k (N 1))),(Jmc 1 7)])) (.seq (.seq (.reg [(none, .mv 5 .copy (.k (N 0)))]) (.block 0 (.loop (.seq (.seq (.reg [(Jmc 8 5),(Jfa 9 3 2),(Jlt 10 1 9),(Jln 11 10),(Jbl 12 8 11),(Jmc 13 12),(some (13, true), .mv 14 .copy (.t 1)),(some (13, true), .bin 15 .num .geq (.t 14) (.k (N 0))),(none, .pick 16 (.t 13) (.t 15) (.k (.sc (.bool false))))]) (.cond (.t 16)
 .skip (.exit 0))) (.seq (.block 1 (.reg [(Jfa 19 3 2),(Jlt 20 1 19),(Jmc 21 5),(Jia 22 4 20 21),(JlC 23 4 22),(Jmc 24 1),(none, .call .no (some 25) (.k (.fn ZU [])) [(.t 23), (.t 24)]),(Jmc 1 25)])) (.reg [(Jmc 17 5),(Jba 18 17 1),(Jmc 5 18)])))))) (.seq (.reg [(Jmc 26 1),(Jmc 4 26)])
 .ret))))
theorem Zj6 : Qp Tryz.prog ZU ZjA = some (Zdg, [.tmp 4], 27) := by kernel_rfl
def ZjN : List (Nat × List Md) := MM [(1, 1097), (6, 26)]
def Zdr : C := (.seq (.reg [(none, .mv 2 .copy (.k (.sl true true 1 [])))]) (.seq (.reg [(Jmc 5 0),(Jln 6 5),(none, .mkslice 7 1 [(N 0)] (.t 6)),(Jmt 3 7)]) (.seq (.seq (.reg [(none, .mv 4 .copy (.k (N 0)))]) (.block 0 (.loop (.seq (.seq (.reg [(Jmc 8 4),(Jmc 9 0),(Jln 10 9),(Jbl 11 8 10)]) (.cond (.t 11)
 .skip (.exit 0))) (.seq (.block 1 (.reg [(Jmc 14 3),(Jmc 15 4),(Jmc 16 0),(Jmc 17 4),(Jia 18 1 16 17),(Jlc 19 1 18),(Jia 20 1 14 15),(Jst 1 20 19)])) (.reg [(Jmc 12 4),(Jba 13 12 1),(Jmc 4 13)])))))) (.seq (.reg [(Jmt 21 3),(none, .mv 2 .frz (.t 21))])
 .ret))))
theorem Zkn : Qp Tryz.prog Y4 ZjN = some (Zdr, [.tmp 2], 22) := by kernel_rfl
def Zhq : List (Nat × List Md) := MM [(1, 1097), (6, 26)]
def Zcu : C := (.seq (.reg [(none, .mv 2 .copy (.k (.sl true true 1 [])))]) (.seq (.reg [(Jmc 5 0),(Jln 6 5),(none, .mkslice 7 1 [(.sc (.bool false))] (.t 6)),(Jmt 3 7)]) (.seq (.seq (.reg [(none, .mv 4 .copy (.k (N 0)))]) (.block 0 (.loop (.seq (.seq (.reg [(Jmc 8 4),(Jmc 9 0),(Jln 10 9),(Jbl 11 8 10)]) (.cond (.t 11)
 .skip (.exit 0))) (.seq (.block 1 (.reg [(Jmc 14 3),(Jmc 15 4),(Jmc 16 0),(Jmc 17 4),(Jia 18 1 16 17),(Jlc 19 1 18),(Jia 20 1 14 15),(Jst 1 20 19)])) (.reg [(Jmc 12 4),(Jba 13 12 1),(Jmc 4 13)])))))) (.seq (.reg [(Jmt 21 3),(none, .mv 2 .frz (.t 21))])
 .ret))))
theorem Zhx : Qp Tryz.prog Vz Zhq = some (Zcu, [.tmp 2], 22) := by kernel_rfl
def Zhj : List (Nat × List Md) := MM [(1, 1097), (6, 26)]
def ZbS : C := (.seq (.reg [(none, .mv 2 .copy (.k (.sl true true 4 [])))]) (.seq (.reg [(Jmc 5 0),(Jln 6 5),(none, .mkslice 7 4 [(N 0), (N 0), (.sl true true 1 []), (.sl true true 1 [])] (.t 6)),(Jmt 3 7)]) (.seq (.seq (.reg [(none, .mv 4 .copy (.k (N 0)))]) (.block 0 (.loop (.seq (.seq (.reg [(Jmc 8 4),(Jmc 9 0),(Jln 10 9),(Jbl 11 8 10)]) (.cond (.t 11)
 .skip (.exit 0))) (.seq (.block 1 (.reg [(Jmc 14 3),(Jmc 15 4),(Jmc 16 0),(Jmc 17 4),(Jia 18 4 16 17),(JlC 19 4 18),(none, .call .no (some 20) (.k (.fn XQ [])) [(.t 19)]),(Jia 21 4 14 15),(Jst 4 21 20)])) (.reg [(Jmc 12 4),(Jba 13 12 1),(Jmc 4 13)])))))) (.seq (.reg [(Jmt 22 3),(none, .mv 2 .frz (.t 22))])
 .ret))))
theorem Ziu : Qp Tryz.prog VF Zhj = some (ZbS, [.tmp 2], 23) := by kernel_rfl
def Zhw : List (Nat × List Md) := MM [(1, 19480748618), (3, 70794), (1000001, 104009)]
def Zcp : C := (.seq (.reg [(none, .box 3 (.t 0)),(none, .box 5 (.t 2)),(none, .mv 6 .copy (.k (.sc (.pointer none))))]) (.seq (.seq (.seq (.frz 3) (.seq (.frz 5) (.reg [(JlT 7 4 3),(none, .call .no (some 8) (.k (.fn KX [])) [(.t 7)]),(none, .un 9 .not (.t 8)),(Jmc 10 9),(some (10, false), .load 11 .take true 4 (.t 3)),(some (10, false), .mv 12 .copy (.t 1)),(some (10, false), .call .no (some 13) (.k (.fn J8 [])) [(.t 11), (.t 12)]),(some (10, false), .un 14 .not (.t 13)),(none, .pick 15 (.t 10) (.k (.sc (.bool true))) (.t 14)),(Jmc 16 15),(some (16, false), .load 17 .take true 4 (.t 3)),(some (16, false), .load 18 .take true 4 (.t 5)),(some (16, false), .mv 19 .copy (.t 1)),(some (16, false), .len 20 (.t 19)),(some (16, false), .call .no (some 21) (.k (.fn Z3 [])) [(.t 17), (.t 18), (.t 20)]),(some (16, false), .un 22 .not (.t 21)),(none, .pick 23 (.t 16) (.k (.sc (.bool true))) (.t 22))]))) (.cond (.t 23) (.seq (.reg [(none, .mv 6 .copy (.k (.sc (.pointer none))))])
 .ret)
 .skip)) (.seq (.reg [(JlT 24 4 3),(none, .build 25 [(N 0), (.sl true true 1 []), (.sl true true 1 []), (.sl true true 1 [])] [(0, 4, (.t 24))]),(Jmt 26 1),(JlT 27 4 5),(none, .call .no (some 28) (.k (.fn YM [])) [(.t 25), (.t 26), (.t 27)]),(Jmt 6 28)])
 .ret)))
theorem ZiT : Qp Tryz.prog Vs Zhw = some (Zcp, [.tmp 6], 29) := by kernel_rfl
def ZgJ : List (Nat × List Md) := MM [(1, 70729), (1000001, 13897)]
def KQ : C := (.seq (.reg [(none, .box 3 (.t 0)),(none, .box 4 (.t 1)),(none, .mv 6 .copy (.k (.sc (.bool false))))]) (.seq (.seq (.frz 3) (.seq (.frz 4) (.reg [(Jmc 7 2),(none, .call .no (some 8) (.k (.fn WT [])) [(.t 7), (.k (N 0)), (.k (N 8))]),(Jmc 9 8),(some (9, true), .load 10 .take true 4 (.t 4)),(some (9, true), .mv 11 .copy (.t 2)),(some (9, true), .load 12 .take true 4 (.t 3)),(some (9, true), .mkfn 13 Ww true [(.t 12)]),(some (9, true), .mkfn 14 Yb false [(.t 3)]),(some (9, true), .call .no (some 15) (.k (.fn K3 [])) [(.t 10), (.t 11), (.t 13), (.t 14), (.k (N 0))]),(some (9, true), .bin 16 .num .leq (.t 15) (.k (N 400))),(none, .pick 17 (.t 9) (.t 16) (.k (.sc (.bool false)))),(Jmc 6 17)])))
 .ret))
theorem Zg0 : Qp Tryz.prog Z3 ZgJ = some (KQ, [.tmp 6], 18) := by kernel_rfl
def ZjX : List (Nat × List Md) := MM []
def Zdv : C := (.seq (.reg [(none, .mv 4 .copy (.k (.sc (.bool false))))]) (.seq (.seq (.reg [(Jmc 6 0),(Jln 7 6),(Jmc 8 1),(Jln 9 8),(none, .bin 10 .num .neq (.t 7) (.t 9))]) (.cond (.t 10) (.seq (.reg [(none, .mv 4 .copy (.k (.sc (.bool false))))])
 .ret)
 .skip)) (.seq (.seq (.reg [(none, .mv 5 .copy (.k (N 0)))]) (.block 0 (.loop (.seq (.seq (.reg [(Jmc 11 5),(Jmc 12 0),(Jln 13 12),(Jbl 14 11 13)]) (.cond (.t 14)
 .skip (.exit 0))) (.seq (.block 1 (.seq (.reg [(Jmc 17 0),(Jmc 18 5),(Jia 19 1 17 18),(Jlc 20 1 19),(Jmc 21 1),(Jmc 22 5),(Jia 23 1 21 22),(Jlc 24 1 23),(none, .bin 25 .num .neq (.t 20) (.t 24))]) (.cond (.t 25) (.seq (.reg [(none, .mv 4 .copy (.k (.sc (.bool false))))])
 .ret)
 .skip))) (.reg [(Jmc 15 5),(Jba 16 15 1),(Jmc 5 16)])))))) (.seq (.reg [(none, .mv 4 .copy (.k (.sc (.bool true))))])
 .ret))))
theorem ZjU : Qp Tryz.prog Y0 ZjX = some (Zdv, [.tmp 4], 26) := by kernel_rfl
def ZhN : List (Nat × List Md) := MM []
def Zcw : C := (.seq (.reg [(none, .mv 4 .copy (.k (.sc (.bool false))))]) (.seq (.seq (.reg [(Jmc 6 0),(Jln 7 6),(Jmc 8 1),(Jln 9 8),(none, .bin 10 .num .neq (.t 7) (.t 9))]) (.cond (.t 10) (.seq (.reg [(none, .mv 4 .copy (.k (.sc (.bool false))))])
 .ret)
 .skip)) (.seq (.seq (.reg [(none, .mv 5 .copy (.k (N 0)))]) (.block 0 (.loop (.seq (.seq (.reg [(Jmc 11 5),(Jmc 12 0),(Jln 13 12),(Jbl 14 11 13)]) (.cond (.t 14)
 .skip (.exit 0))) (.seq (.block 1 (.seq (.reg [(Jmc 17 0),(Jmc 18 5),(Jia 19 4 17 18),(JlC 20 4 19),(Jmc 21 1),(Jmc 22 5),(Jia 23 4 21 22),(JlC 24 4 23),(none, .call .no (some 25) (.k (.fn XS [])) [(.t 20), (.t 24)]),(none, .un 26 .not (.t 25))]) (.cond (.t 26) (.seq (.reg [(none, .mv 4 .copy (.k (.sc (.bool false))))])
 .ret)
 .skip))) (.reg [(Jmc 15 5),(Jba 16 15 1),(Jmc 5 16)])))))) (.seq (.reg [(none, .mv 4 .copy (.k (.sc (.bool true))))])
 .ret))))
theorem ZiI : Qp Tryz.prog VA ZhN = some (Zcw, [.tmp 4], 27) := by kernel_rfl
def Zi7 : List (Nat × List Md) := MM []
def Zcc : C := (.seq (.reg [(none, .mv 4 .copy (.k (.sc (.bool false))))]) (.seq (.seq (.reg [(Jmc 6 0),(Jln 7 6),(Jmc 8 1),(Jln 9 8),(none, .bin 10 .num .neq (.t 7) (.t 9))]) (.cond (.t 10) (.seq (.reg [(none, .mv 4 .copy (.k (.sc (.bool false))))])
 .ret)
 .skip)) (.seq (.seq (.reg [(none, .mv 5 .copy (.k (N 0)))]) (.block 0 (.loop (.seq (.seq (.reg [(Jmc 11 5),(Jmc 12 0),(Jln 13 12),(Jbl 14 11 13)]) (.cond (.t 14)
 .skip (.exit 0))) (.seq (.block 1 (.seq (.reg [(Jmc 17 0),(Jmc 18 5),(Jia 19 1 17 18),(Jlc 20 1 19),(Jmc 21 1),(Jmc 22 5),(Jia 23 1 21 22),(Jlc 24 1 23),(none, .bin 25 .bool .neq (.t 20) (.t 24))]) (.cond (.t 25) (.seq (.reg [(none, .mv 4 .copy (.k (.sc (.bool false))))])
 .ret)
 .skip))) (.reg [(Jmc 15 5),(Jba 16 15 1),(Jmc 5 16)])))))) (.seq (.reg [(none, .mv 4 .copy (.k (.sc (.bool true))))])
 .ret))))
theorem ZiZ : Qp Tryz.prog VI Zi7 = some (Zcc, [.tmp 4], 26) := by kernel_rfl
def ZgK : List (Nat × List Md) := MM []
def KU : C := (.seq (.reg [(none, .mv 4 .copy (.k (N 0)))]) (.seq (.seq (.reg [(none, .mv 5 .copy (.k (N 0)))]) (.block 0 (.loop (.seq (.seq (.reg [(Jmc 6 5),(Jmc 7 0),(Jln 8 7),(Jbl 9 6 8)]) (.cond (.t 9)
 .skip (.exit 0))) (.seq (.block 1 (.seq (.reg [(Jmc 12 0),(Jmc 13 5),(Jmc 14 1),(Jia 15 1 12 13),(Jst 1 15 14)]) (.reg [(Jmc 16 1),(Jba 17 16 1),(Jmc 1 17)]))) (.reg [(Jmc 10 5),(Jba 11 10 1),(Jmc 5 11)])))))) (.seq (.reg [(Jmc 18 1),(Jmc 4 18)])
 .ret)))
theorem Zbo : Qp Tryz.prog XG ZgK = some (KU, [.tmp 4], 19) := by kernel_rfl
def ZfI : List (Nat × List Md) := MM []
def J7 : C := (.seq (.reg [(none, .mv 4 .copy (.k (N 0)))]) (.seq (.seq (.reg [(none, .mv 5 .copy (.k (N 0)))]) (.block 0 (.loop (.seq (.seq (.reg [(Jmc 6 5),(Jmc 7 0),(Jln 8 7),(Jbl 9 6 8)]) (.cond (.t 9)
 .skip (.exit 0))) (.seq (.block 1 (.seq (.reg [(Jmc 12 0),(Jmc 13 5),(Jmc 14 1),(none, .bin 15 .num .rem (.t 14) (.k (N 3))),(Jbe 16 15 0),(Jia 17 1 12 13),(Jst 1 17 16)]) (.reg [(Jmc 18 1),(Jba 19 18 1),(Jmc 1 19)]))) (.reg [(Jmc 10 5),(Jba 11 10 1),(Jmc 5 11)])))))) (.seq (.reg [(Jmc 20 1),(Jmc 4 20)])
 .ret)))
theorem Zas : Qp Tryz.prog Ke ZfI = some (J7, [.tmp 4], 21) := by kernel_rfl
def Zfh : List (Nat × List Md) := MM [(8, 561737), (9, 561737)]
def Zv : C := (.seq (.reg [(none, .mv 4 .copy (.k (N 0)))]) (.seq (.seq (.reg [(none, .mv 5 .copy (.k (N 0)))]) (.block 0 (.loop (.seq (.seq (.reg [(Jmc 6 5),(Jmc 7 0),(Jln 8 7),(Jbl 9 6 8)]) (.cond (.t 9)
 .skip (.exit 0))) (.seq (.block 1 (.seq (.reg [(Jmc 12 0),(Jmc 13 5),(Jmc 14 1),(Jia 15 4 12 13),(Jfa 16 0 15),(Jst 1 16 14)]) (.seq (.reg [(Jmc 17 1),(Jba 18 17 1),(Jmc 1 18)]) (.seq (.reg [(Jmc 19 0),(Jmc 20 5),(Jmc 21 1),(Jia 22 4 19 20),(Jfa 23 1 22),(Jst 1 23 21)]) (.seq (.reg [(Jmc 24 1),(Jba 25 24 1),(Jmc 1 25)]) (.seq (.reg [(Jmc 26 0),(Jmc 27 5),(Jia 28 4 26 27),(Jfa 29 2 28),(Jlc 30 1 29),(Jmc 31 1),(none, .call .any (some 32) (.k (.fn XG [])) [(.t 30), (.t 31)]),(Jmc 1 32)]) (.reg [(Jmc 33 0),(Jmc 34 5),(Jia 35 4 33 34),(Jfa 36 3 35),(Jlc 37 1 36),(Jmc 38 1),(none, .call .any (some 39) (.k (.fn Zr [])) [(.t 37), (.t 38)]),(Jmc 1 39)]))))))) (.reg [(Jmc 10 5),(Jba 11 10 1),(Jmc 5 11)])))))) (.seq (.reg [(Jmc 40 1),(Jmc 4 40)])
 .ret)))
theorem Kd : Qp Tryz.prog Zr Zfh = some (Zv, [.tmp 4], 41) := by kernel_rfl
def ZgF : List (Nat × List Md) := MM []
def Zbw : C := (.seq (.reg [(none, .mv 4 .copy (.k (N 0)))]) (.seq (.seq (.reg [(none, .mv 5 .copy (.k (N 0)))]) (.block 0 (.loop (.seq (.seq (.reg [(Jmc 6 5),(Jmc 7 0),(Jln 8 7),(Jbl 9 6 8)]) (.cond (.t 9)
 .skip (.exit 0))) (.seq (.block 1 (.seq (.seq (.reg [(Jmc 12 0),(Jmc 13 5),(Jia 14 1 12 13),(Jlc 15 1 14),(Jmc 16 1),(none, .bin 17 .num .neq (.t 15) (.t 16))]) (.cond (.t 17) (.seq (.reg [(none, .mv 4 .copy (.k (N (-1))))])
 .ret)
 .skip)) (.reg [(Jmc 18 1),(Jba 19 18 1),(Jmc 1 19)]))) (.reg [(Jmc 10 5),(Jba 11 10 1),(Jmc 5 11)])))))) (.seq (.reg [(Jmc 20 1),(Jmc 4 20)])
 .ret)))
theorem ZgU : Qp Tryz.prog ZY ZgF = some (Zbw, [.tmp 4], 21) := by kernel_rfl
def ZfG : List (Nat × List Md) := MM []
def J3 : C := (.seq (.reg [(none, .mv 4 .copy (.k (N 0)))]) (.seq (.seq (.reg [(none, .mv 5 .copy (.k (N 0)))]) (.block 0 (.loop (.seq (.seq (.reg [(Jmc 6 5),(Jmc 7 0),(Jln 8 7),(Jbl 9 6 8)]) (.cond (.t 9)
 .skip (.exit 0))) (.seq (.block 1 (.seq (.seq (.reg [(Jmc 12 0),(Jmc 13 5),(Jia 14 4 12 13),(Jfa 15 0 14),(Jlc 16 1 15),(Jmc 17 1),(none, .bin 18 .num .neq (.t 16) (.t 17))]) (.cond (.t 18) (.seq (.reg [(none, .mv 4 .copy (.k (N (-1))))])
 .ret)
 .skip)) (.seq (.reg [(Jmc 19 1),(Jba 20 19 1),(Jmc 1 20)]) (.seq (.seq (.reg [(Jmc 21 0),(Jmc 22 5),(Jia 23 4 21 22),(Jfa 24 1 23),(Jlc 25 1 24),(Jmc 26 1),(none, .bin 27 .num .neq (.t 25) (.t 26))]) (.cond (.t 27) (.seq (.reg [(none, .mv 4 .copy (.k (N (-1))))])
 .ret)
 .skip)) (.seq (.reg [(Jmc 28 1),(Jba 29 28 1),(Jmc 1 29)]) (.seq (.reg [(Jmc 30 0),(Jmc 31 5),(Jia 32 4 30 31),(Jfa 33 2 32),(Jlc 34 1 33),(Jmc 35 1),(none, .call .no (some 36) (.k (.fn ZY [])) [(.t 34), (.t 35)]),(Jmc 1 36)]) (.seq (.seq (.reg [(Jmc 37 1),(none, .bin 38 .num .lss (.t 37) (.k (N 0)))]) (.cond (.t 38) (.seq (.reg [(none, .mv 4 .copy (.k (N (-1))))])
 .ret)
 .skip)) (.seq (.reg [(Jmc 39 0),(Jmc 40 5),(Jia 41 4 39 40),(Jfa 42 3 41),(Jlc 43 1 42),(Jmc 44 1),(none, .call .no (some 45) (.k (.fn ZC [])) [(.t 43), (.t 44)]),(Jmc 1 45)]) (.seq (.reg [(Jmc 46 1),(none, .bin 47 .num .lss (.t 46) (.k (N 0)))]) (.cond (.t 47) (.seq (.reg [(none, .mv 4 .copy (.k (N (-1))))])
 .ret)
 .skip)))))))))) (.reg [(Jmc 10 5),(Jba 11 10 1),(Jmc 5 11)])))))) (.seq (.reg [(Jmc 48 1),(Jmc 4 48)])
 .ret)))
theorem Zae : Qp Tryz.prog ZC ZfG = some (J3, [.tmp 4], 49) := by kernel_rfl
def Zig : List (Nat × List Md) := MM [(1, 17), (3, 137), (5, 147258119250), (8, 8786), (9, 1105), (10, 17), (11, 17), (14, 17), (17, 17), (18, 17), (19, 2), (20, 138), (22, 1106), (24, 3), (1000001, 104009), (1000020, 215975498313), (2000005, 3374617161), (2000018, 1727803986505)]
def Zb5 : C := (.seq (.reg [(none, .box 3 (.t 0)),(none, .box 5 (.t 2)),(none, .alloc 6 [(N 0), (N 0), (.sl true true 1 []), (.sl true true 1 [])]),(none, .mv 7 .copy (.k (.sc (.bool false))))]) (.seq (.seq (.frz 3) (.seq (.frz 5) (.reg [(none, .bslice 15 4 0 [] []),(Jmt 8 15)]))) (.seq (.seq (.reg [(none, .mv 9 .copy (.k (N 0)))]) (.block 0 (.loop (.seq (.seq (.reg [(Jmc 16 9),(Jfa 17 3 5),(Jlt 18 1 17),(Jln 19 18),(Jbl 20 16 19)]) (.cond (.t 20)
 .skip (.exit 0))) (.seq (.block 1 (.seq (.seq (.reg [(JlT 24 4 3),(JlT 25 4 3),(Jmc 26 1),(JlT 27 4 5),(Jmc 28 9),(none, .call .no (some 29) (.k (.fn Vx [])) [(.t 25), (.t 26), (.t 27), (.t 28)]),(Jfa 30 3 5),(Jlt 31 1 30),(Jmc 32 9),(Jia 33 4 31 32),(JlC 34 4 33),(none, .call .no (some 35) (.k (.fn JH [])) [(.t 24), (.t 29), (.t 34)]),(Jmt 23 35),(none, .extract 36 0 (.t 23)),(none, .extract 37 1 (.t 23)),(none, .alloc 10 [(N 0), (N 0), (.sl true true 1 []), (.sl true true 1 [])]),(Jst 4 10 36),(Jmc 11 37)]) (.frz 10)) (.seq (.seq (.reg [(Jmc 38 11),(none, .un 39 .not (.t 38))]) (.cond (.t 39) (.seq (.reg [(none, .build 40 [(N 0), (N 0), (.sl true true 1 []), (.sl true true 1 [])] []),(Jst 4 6 40),(none, .mv 7 .copy (.k (.sc (.bool false))))])
 .ret)
 .skip)) (.reg [(Jmt 41 8),(JlT 42 4 10),(none, .bslice 43 4 1 [(N 0), (N 0), (.sl true true 1 []), (.sl true true 1 [])] [(0, 4, (.t 42))]),(none, .append 44 4 (.t 41) (.t 43)),(Jmt 8 44)])))) (.reg [(Jmc 21 9),(Jba 22 21 1),(Jmc 9 22)])))))) (.seq (.reg [(Jfa 45 0 5),(Jlt 46 1 45),(Jfa 47 1 5),(Jlt 48 1 47),(Jmc 49 8),(none, .build 50 [(N 0), (N 0), (.sl true true 1 []), (.sl true true 1 [])] [(0, 1, (.t 46)), (1, 1, (.t 48)), (3, 1, (.t 49))]),(none, .alloc 12 [(N 0), (N 0), (.sl true true 1 []), (.sl true true 1 [])]),(Jst 4 12 50)]) (.seq (.seq (.reg [(Jfa 51 0 5),(Jlt 52 1 51),(none, .call .no (some 53) (.k (.fn JG [])) [(.t 52)])]) (.cond (.t 53) (.seq (.reg [(Jfa 54 2 5),(Jlt 55 1 54),(none, .call .no (some 56) (.k (.fn Jz [])) [(.t 55)]),(Jfa 57 2 12),(Jst 1 57 56)]) (.seq (.reg [(Jfa 58 2 12),(Jlc 59 1 58),(Jln 60 59),(Jbe 61 60 0)]) (.cond (.t 61) (.seq (.reg [(none, .build 62 [(N 0), (N 0), (.sl true true 1 []), (.sl true true 1 [])] []),(Jst 4 6 62),(none, .mv 7 .copy (.k (.sc (.bool false))))])
 .ret)
 .skip)))
 .skip)) (.seq (.seq (.reg [(Jfa 63 0 5),(Jlt 64 1 63)]) (.block 2 (.seq (.reg [(Jbe 66 64 9),(Jmc 65 66)]) (.cond (.t 65) (.seq (.reg [(Jfa 67 1 12),(none, .store 1 (.t 67) (.k (N 1)))]) (.seq (.reg [(Jfa 68 1 5),(Jlt 69 1 68),(none, .bin 70 .num .add (.k (N 19)) (.t 69)),(none, .bslice 71 1 1 [(N 0)] [(0, 1, (.t 70))]),(Jfa 72 2 12),(Jlc 73 1 72),(none, .append 74 1 (.t 71) (.t 73)),(Jfa 75 2 12),(Jst 1 75 74)]) (.seq (.seq (.reg [(none, .build 76 [(N 0), (N 0), (.sl true true 1 []), (.sl true true 1 [])] [(0, 1, (.k (N 0)))]),(Jmt 77 8),(none, .indexA 78 4 (.t 77) (.k (N 0))),(JlC 79 4 78),(none, .call .no (some 80) (.k (.fn JI [])) [(.t 79), (.k (N 1)), (.k (N 1))]),(none, .bslice 81 4 2 [(N 0), (N 0), (.sl true true 1 []), (.sl true true 1 []), (N 0), (N 0), (.sl true true 1 []), (.sl true true 1 [])] [(0, 4, (.t 76)), (4, 4, (.t 80))]),(none, .build 82 [(N 0), (N 0), (.sl true true 1 []), (.sl true true 1 [])] [(0, 1, (.k (N 12))), (1, 1, (.k (N 1))), (3, 1, (.t 81))]),(none, .alloc 13 [(N 0), (N 0), (.sl true true 1 []), (.sl true true 1 [])]),(Jst 4 13 82)]) (.frz 13)) (.seq (.reg [(JlT 83 4 13),(none, .bslice 84 4 1 [(N 0), (N 0), (.sl true true 1 []), (.sl true true 1 [])] [(0, 4, (.t 83))]),(Jfa 85 3 12),(Jst 1 85 84)]) (.seq (.seq (.frz 12) (.reg [(JlT 86 4 12),(Jfa 87 2 12),(Jlt 88 1 87),(Jln 89 88),(none, .bin 90 .num .leq (.t 89) (.k (N 40))),(Jst 4 6 86),(Jmc 7 90)]))
 .ret))))) (.seq (.reg [(Jbe 92 64 10),(Jmc 91 92)]) (.cond (.t 91) (.seq (.reg [(JlT 93 4 3),(Jmt 94 1),(Jfa 95 3 5),(Jlt 96 1 95),(none, .indexA 97 4 (.t 96) (.k (N 0))),(JlC 98 4 97),(none, .call .no (some 99) (.k (.fn Wq [])) [(.t 93), (.t 94), (.t 98)]),(none, .field 100 false 0 1 (.t 99)),(none, .indexA 101 1 (.t 100) (.k (N 0))),(Jlc 102 1 101),(none, .call .no (some 103) (.k (.fn XY [])) [(.t 102)]),(Jmc 14 103)]) (.reg [(Jmc 104 8),(none, .indexA 105 4 (.t 104) (.k (N 0))),(JlC 106 4 105),(Jmc 107 14),(Jmc 108 8),(none, .indexA 109 4 (.t 108) (.k (N 1))),(JlC 110 4 109),(none, .bslice 111 4 1 [(N 0), (N 0), (.sl true true 1 []), (.sl true true 1 [])] [(0, 4, (.t 110))]),(none, .build 112 [(N 0), (N 0), (.sl true true 1 []), (.sl true true 1 [])] [(0, 1, (.k (N 11))), (1, 1, (.t 107)), (3, 1, (.t 111))]),(none, .bslice 113 4 2 [(N 0), (N 0), (.sl true true 1 []), (.sl true true 1 []), (N 0), (N 0), (.sl true true 1 []), (.sl true true 1 [])] [(0, 4, (.t 106)), (4, 4, (.t 112))]),(Jfa 114 3 12),(Jst 1 114 113)]))
 .skip)))))) (.seq (.reg [(none, .load 115 .frz true 4 (.t 12)),(Jst 4 6 115),(none, .mv 7 .copy (.k (.sc (.bool true))))])
 .ret)))))))
theorem Zi3 : Qp Tryz.prog JH Zig = some (Zb5, [.cell 6 true 4, .tmp 7], 116) := by kernel_rfl
def ZiH : List (Nat × List Md) := [(1, [.copy, .take, .copy, .take]), (2, [.copy, .take]), (3, [.copy, .take]), (4, [.copy, .take]), (7, [.copy, .frz]), (9, [.copy, .take]), (12, [.copy, .take, .copy, .copy, .copy, .copy, .copy, .own]), (14, [.take, .copy, .copy, .copy, .copy, .copy, .copy, .copy, .copy, .copy, .copy, .copy, .take]), (15, [.copy, .take, .copy, .copy, .take, .copy, .frz]), (16, [.own]), (1000001, [.copy, .copy, .frz]), (1000015, [.copy, .copy, .copy, .copy, .copy, .frz]), (1000016, [.copy, .copy, .copy, .copy, .copy, .frz]), (2000011, [.copy, .copy, .copy, .copy, .copy, .copy, .copy, .copy, .frz]), (3000015, [.copy, .copy, .copy, .copy, .copy, (.part 3)]), (4000015, [.copy, .copy, .copy, .copy, .take, .take, .copy, .copy, .copy, .copy, .take])]
def Zci : C := (.seq (.reg [(none, .box 2 (.t 0)),(none, .alloc 4 [(N 0), (N 0), (.sl true true 1 []), (.sl true true 1 [])])]) (.seq (.seq (.frz 2) (.reg [(Jfa 11 0 2),(Jlt 12 1 11),(Jfa 13 1 2),(Jlt 14 1 13),(none, .build 15 [(N 0), (N 0), (.sl true true 1 []), (.sl true true 1 [])] [(0, 1, (.t 12)), (1, 1, (.t 14))]),(none, .alloc 5 [(N 0), (N 0), (.sl true true 1 []), (.sl true true 1 [])]),(Jst 4 5 15)])) (.seq (.seq (.reg [(Jfa 16 2 2),(Jlt 17 1 16),(Jln 18 17),(none, .bin 19 .num .gtr (.t 18) (.k (N 0)))]) (.cond (.t 19) (.reg [(Jfa 20 2 2),(Jlt 21 1 20),(none, .call .no (some 22) (.k (.fn Ye [])) [(.t 21)]),(Jfa 23 2 5),(Jst 1 23 22)])
 .skip)) (.seq (.seq (.reg [(Jfa 24 3 2),(Jlt 25 1 24),(Jln 26 25),(none, .mv 27 .copy (.k (N 0)))]) (.block 0 (.loop (.seq (.reg [(Jbl 28 27 26)]) (.seq (.cond (.t 28)
 .skip (.exit 0)) (.seq (.block 1 (.seq (.reg [(Jmc 29 27),(Jia 30 4 25 27),(JlC 31 4 30),(none, .alloc 7 [(N 0), (N 0), (.sl true true 1 []), (.sl true true 1 [])]),(Jmc 6 29),(Jst 4 7 31)]) (.reg [(Jfa 32 3 5),(none, .load 33 .frz false 1 (.t 32)),(JlC 34 4 7),(Jmc 35 1),(none, .nilchk 36 (.t 35)),(Jfa 37 2 36),(Jlc 38 1 37),(Jmc 39 6),(Jia 40 1 38 39),(Jlc 41 1 40),(none, .call .no (some 42) (.k (.fn JP [])) [(.t 34), (.t 41)]),(none, .bslice 43 4 1 [(N 0), (N 0), (.sl true true 1 []), (.sl true true 1 [])] [(0, 4, (.t 42))]),(none, .append 44 4 (.t 33) (.t 43)),(Jfa 45 3 5),(Jst 1 45 44)]))) (.reg [(Jba 46 27 1),(Jmc 27 46)]))))))) (.seq (.seq (.reg [(Jfa 47 0 2),(Jlt 48 1 47)]) (.block 2 (.seq (.reg [(Jbe 50 48 9),(Jmc 49 50)]) (.cond (.t 49) (.seq (.seq (.reg [(none, .build 51 [(N 0), (N 0), (.sl true true 1 []), (.sl true true 1 [])] [(0, 1, (.k (N 0)))]),(Jfa 52 3 5),(Jlc 53 1 52),(none, .indexA 54 4 (.t 53) (.k (N 0))),(JlC 55 4 54),(none, .call .no (some 56) (.k (.fn Vr [])) [(.t 55), (.k (N 1)), (.k (N 1))]),(none, .bslice 57 4 2 [(N 0), (N 0), (.sl true true 1 []), (.sl true true 1 []), (N 0), (N 0), (.sl true true 1 []), (.sl true true 1 [])] [(0, 4, (.t 51)), (4, 4, (.t 56))]),(none, .build 58 [(N 0), (N 0), (.sl true true 1 []), (.sl true true 1 [])] [(0, 1, (.k (N 12))), (1, 1, (.k (N 1))), (3, 1, (.t 57))]),(none, .alloc 8 [(N 0), (N 0), (.sl true true 1 []), (.sl true true 1 [])]),(Jst 4 8 58)]) (.frz 8)) (.seq (.reg [(Jfa 59 1 2),(Jlt 60 1 59),(none, .bin 61 .num .add (.k (N 19)) (.t 60)),(none, .bslice 62 1 1 [(N 0)] [(0, 1, (.t 61))]),(Jfa 63 2 5),(Jlc 64 1 63),(none, .append 65 1 (.t 62) (.t 64)),(none, .loadT 66 true 4 (.t 8)),(none, .bslice 67 4 1 [(N 0), (N 0), (.sl true true 1 []), (.sl true true 1 [])] [(0, 4, (.t 66))]),(none, .build 68 [(N 0), (N 0), (.sl true true 1 []), (.sl true true 1 [])] [(0, 1, (.k (N 9))), (1, 1, (.k (N 1))), (2, 1, (.t 65)), (3, 1, (.t 67))]),(Jst 4 4 68)])
 .ret)) (.seq (.reg [(Jbe 70 48 10),(Jmc 69 70)]) (.cond (.t 69) (.seq (.reg [(Jmt 72 1),(none, .nilchk 73 (.t 72)),(Jfa 74 2 73),(Jlc 75 1 74),(none, .indexA 76 1 (.t 75) (.k (N 0))),(Jlc 77 1 76),(none, .nilchk 78 (.t 77)),(Jfa 79 0 78),(Jlc 80 1 79),(none, .indexA 81 1 (.t 80) (.k (N 0))),(Jlc 82 1 81),(none, .call .no (some 83) (.k (.fn XN [])) [(.t 82)]),(Jmt 71 83),(none, .extract 84 0 (.t 71)),(none, .extract 85 1 (.t 71)),(Jmc 9 84),(Jmc 10 85)]) (.seq (.thw [4, 5, 10] 97 5 3) (.seq (.frz 5) (.reg [(Jfa 86 3 5),(Jlt 87 1 86),(Jmc 88 10),(Jfa 89 3 5),(Jlt 90 1 89),(none, .indexA 91 4 (.t 90) (.k (N 1))),(none, .load 92 .frz true 4 (.t 91)),(none, .bslice 93 4 1 [(N 0), (N 0), (.sl true true 1 []), (.sl true true 1 [])] [(0, 4, (.t 92))]),(none, .build 94 [(N 0), (N 0), (.sl true true 1 []), (.sl true true 1 [])] [(0, 1, (.k (N 11))), (1, 1, (.t 88)), (3, 1, (.t 93))]),(none, .indexA 95 4 (.t 87) (.k (N 1))),(Jst 4 95 94)]))))
 .skip)))))) (.seq (.seq (.frz 5) (.reg [(none, .loadT 96 true 4 (.t 5)),(Jst 4 4 96)]))
 .ret))))))
theorem Zjc : K4 Tryz.prog JP ZiH = some (Zci, [.cell 4 true 4], 97) := by kernel_rfl
def ZgY : List (Nat × List Md) := MM [(1, 70737), (2, 17), (5, 25), (7, 3), (1000001, 25)]
def Zbl : C := (.seq (.reg [(none, .box 1 (.t 0)),(none, .alloc 2 [(N 0), (N 0), (.sl true true 1 []), (.sl true true 1 [])])]) (.seq (.seq (.frz 1) (.reg [(Jfa 6 0 1),(Jlt 7 1 6),(Jfa 8 1 1),(Jlt 9 1 8),(Jfa 10 2 1),(Jlt 11 1 10),(none, .call .no (some 12) (.k (.fn WV [])) [(.t 11)]),(none, .build 13 [(N 0), (N 0), (.sl true true 1 []), (.sl true true 1 [])] [(0, 1, (.t 7)), (1, 1, (.t 9)), (2, 1, (.t 12)), (3, 1, (.k (.sl true true 0 [])))]),(none, .alloc 3 [(N 0), (N 0), (.sl true true 1 []), (.sl true true 1 [])]),(Jst 4 3 13)])) (.seq (.seq (.reg [(Jfa 14 3 1),(Jlt 15 1 14),(Jln 16 15),(none, .mv 17 .copy (.k (N 0)))]) (.block 0 (.loop (.seq (.reg [(Jbl 18 17 16)]) (.seq (.cond (.t 18)
 .skip (.exit 0)) (.seq (.block 1 (.seq (.reg [(Jia 19 4 15 17),(JlC 20 4 19),(none, .alloc 5 [(N 0), (N 0), (.sl true true 1 []), (.sl true true 1 [])]),(Jst 4 5 20)]) (.reg [(Jfa 21 3 3),(none, .load 22 .frz false 1 (.t 21)),(JlC 23 4 5),(none, .call .no (some 24) (.k (.fn ZZ [])) [(.t 23)]),(none, .bslice 25 4 1 [(N 0), (N 0), (.sl true true 1 []), (.sl true true 1 [])] [(0, 4, (.t 24))]),(none, .append 26 4 (.t 22) (.t 25)),(Jfa 27 3 3),(Jst 1 27 26)]))) (.reg [(Jba 28 17 1),(Jmc 17 28)]))))))) (.seq (.reg [(none, .load 29 .frz true 4 (.t 3)),(Jst 4 2 29)])
 .ret))))
theorem ZgW : Qp Tryz.prog ZZ ZgY = some (Zbl, [.cell 2 true 4], 30) := by kernel_rfl
def VL : List (Nat × List Md) := MM [(3, 1105)]
def X5 : C := (.seq (.reg [(none, .mv 2 .copy (.k (.sl true true 1 [])))]) (.seq (.seq (.reg [(Jmc 3 0),(none, .bin 4 .slc .eql (.t 3) (.k (.sl true true 1 [])))]) (.cond (.t 4) (.seq (.reg [(none, .mv 2 .copy (.k (.sl true true 1 [])))])
 .ret)
 .skip)) (.seq (.reg [(none, .bslice 5 1 0 [] []),(Jmt 6 0),(none, .append 7 1 (.t 5) (.t 6)),(Jmt 2 7)])
 .ret)))
theorem VN : Qp Tryz.prog WV VL = some (X5, [.tmp 2], 8) := by kernel_rfl
def Zka : List (Nat × List Md) := MM [(1, 1105)]
def Zc7 : C := (.seq (.reg [(none, .mv 2 .copy (.k (.sl true true 1 [])))]) (.seq (.reg [(none, .bslice 3 1 0 [] []),(Jmt 4 0),(none, .append 5 1 (.t 3) (.t 4)),(Jmt 2 5)])
 .ret))
theorem ZjM : Qp Tryz.prog XW Zka = some (Zc7, [.tmp 2], 6) := by kernel_rfl
def Zh7 : List (Nat × List Md) := MM [(1, 70737), (2, 70225), (3, 17), (5, 137), (7, 2300875865), (8, 3), (1000001, 1609)]
def ZbV : C := (.seq (.reg [(none, .box 3 (.t 0)),(none, .alloc 6 [(N 0), (N 0), (.sl true true 1 []), (.sl true true 1 [])])]) (.seq (.seq (.frz 3) (.reg [(Jfa 9 0 3),(Jlt 10 1 9),(Jfa 11 1 3),(Jlt 12 1 11),(Jfa 13 2 3),(Jlt 14 1 13),(none, .call .no (some 15) (.k (.fn XW [])) [(.t 14)]),(none, .build 16 [(N 0), (N 0), (.sl true true 1 []), (.sl true true 1 [])] [(0, 1, (.t 10)), (1, 1, (.t 12)), (2, 1, (.t 15))]),(none, .alloc 7 [(N 0), (N 0), (.sl true true 1 []), (.sl true true 1 [])]),(Jst 4 7 16)])) (.seq (.seq (.reg [(Jfa 17 0 3),(Jlt 18 1 17),(Jbe 19 18 0),(Jmc 20 19),(some (20, true), .fieldA 21 1 (.t 3)),(some (20, true), .load 22 .take false 1 (.t 21)),(some (20, true), .mv 23 .copy (.t 2)),(some (20, true), .bin 24 .num .geq (.t 22) (.t 23)),(none, .pick 25 (.t 20) (.t 24) (.k (.sc (.bool false))))]) (.cond (.t 25) (.reg [(Jfa 26 1 3),(Jlt 27 1 26),(Jmc 28 1),(none, .bin 29 .num .add (.t 27) (.t 28)),(Jfa 30 1 7),(Jst 1 30 29)])
 .skip)) (.seq (.seq (.reg [(none, .mv 8 .copy (.k (N 0)))]) (.block 0 (.loop (.seq (.seq (.reg [(Jmc 31 8),(Jfa 32 3 3),(Jlt 33 1 32),(Jln 34 33),(Jbl 35 31 34)]) (.cond (.t 35)
 .skip (.exit 0))) (.seq (.block 1 (.reg [(Jfa 38 3 7),(none, .load 39 .frz false 1 (.t 38)),(Jfa 40 3 3),(Jlt 41 1 40),(Jmc 42 8),(Jia 43 4 41 42),(JlC 44 4 43),(Jmc 45 1),(Jmc 46 2),(Jfa 47 0 3),(Jlt 48 1 47),(Jmc 49 8),(none, .call .no (some 50) (.k (.fn ZQ [])) [(.t 48), (.t 49)]),(none, .bin 51 .num .add (.t 46) (.t 50)),(none, .call .no (some 52) (.k (.fn JI [])) [(.t 44), (.t 45), (.t 51)]),(none, .bslice 53 4 1 [(N 0), (N 0), (.sl true true 1 []), (.sl true true 1 [])] [(0, 4, (.t 52))]),(none, .append 54 4 (.t 39) (.t 53)),(Jfa 55 3 7),(Jst 1 55 54)])) (.reg [(Jmc 36 8),(Jba 37 36 1),(Jmc 8 37)])))))) (.seq (.reg [(none, .load 56 .frz true 4 (.t 7)),(Jst 4 6 56)])
 .ret)))))
theorem ZhY : Qp Tryz.prog JI Zh7 = some (ZbV, [.cell 6 true 4], 57) := by kernel_rfl
def VM : List (Nat × List Md) := MM []
def ZD : C := (.seq (.reg [(none, .mv 4 .copy (.k (.sc (.bool false))))]) (.seq (.seq (.reg [(Jmc 6 0),(Jln 7 6),(Jmc 8 1),(Jln 9 8),(none, .bin 10 .num .neq (.t 7) (.t 9))]) (.cond (.t 10) (.seq (.reg [(none, .mv 4 .copy (.k (.sc (.bool false))))])
 .ret)
 .skip)) (.seq (.seq (.reg [(Jmc 11 0),(Jln 12 11),(none, .mv 13 .copy (.k (N 0)))]) (.block 0 (.loop (.seq (.reg [(Jbl 14 13 12)]) (.seq (.cond (.t 14)
 .skip (.exit 0)) (.seq (.block 1 (.seq (.reg [(Jmc 15 13),(Jmc 5 15)]) (.seq (.reg [(Jmc 16 0),(Jmc 17 5),(Jia 18 1 16 17),(Jlc 19 1 18),(Jmc 20 1),(Jmc 21 5),(Jia 22 1 20 21),(Jlc 23 1 22),(none, .bin 24 .num .neq (.t 19) (.t 23))]) (.cond (.t 24) (.seq (.reg [(none, .mv 4 .copy (.k (.sc (.bool false))))])
 .ret)
 .skip)))) (.reg [(Jba 25 13 1),(Jmc 13 25)]))))))) (.seq (.reg [(none, .mv 4 .copy (.k (.sc (.bool true))))])
 .ret))))
theorem VK : Qp Tryz.prog WW VM = some (ZD, [.tmp 4], 26) := by kernel_rfl
def Zc1 : List (Nat × List Md) := MM [(1, 137), (1000001, 201)]
def K1 : C := (.seq (.reg [(none, .box 2 (.t 0)),(none, .mv 4 .copy (.k (.sc (.bool false))))]) (.seq (.seq (.frz 2) (.reg [(Jmc 5 1),(Jfa 6 0 2),(Jlt 7 1 6),(none, .bin 8 .num .sub (.t 7) (.k (N 1))),(none, .call .no (some 9) (.k (.fn WT [])) [(.t 5), (.k (N 0)), (.t 8)]),(Jmc 4 9)]))
 .ret))
theorem Zc0 : Qp Tryz.prog Ww Zc1 = some (K1, [.tmp 4], 10) := by kernel_rfl
def Zby : List (Nat × List Md) := MM [(1, 8785), (1000001, 1609)]
def JU : C := (.seq (.reg [(none, .box 3 (.t 0)),(none, .mv 6 .copy (.k (.sc (.bool false))))]) (.seq (.seq (.frz 3) (.reg [(Jfa 7 3 3),(Jlt 8 1 7),(Jmc 9 1),(Jfa 10 0 3),(Jlt 11 1 10),(none, .bin 12 .num .mul (.t 9) (.t 11)),(Jmc 13 2),(none, .bin 14 .num .add (.t 12) (.t 13)),(Jia 15 1 8 14),(Jlc 16 1 15),(Jmc 6 16)]))
 .ret))
theorem ZbB : Qp Tryz.prog QA Zby = some (JU, [.tmp 6], 17) := by kernel_rfl
def Zku : List (Nat × List Md) := MM [(1, 70737)]
def Zde : C := (.seq (.reg [(none, .mv 4 .copy (.k (.sl true true 1 [])))]) (.seq (.reg [(none, .bslice 5 1 0 [] []),(Jmt 6 1),(none, .append 7 1 (.t 5) (.t 6)),(Jmt 8 0),(none, .append 9 1 (.t 7) (.t 8)),(Jmt 4 9)])
 .ret))
theorem Zkr : Qp Tryz.prog XV Zku = some (Zde, [.tmp 4], 10) := by kernel_rfl
def ZiE : List (Nat × List Md) := MM [(1, 2451870794), (1000001, 104009)]
def Zcq : C := (.seq (.reg [(none, .box 3 (.t 0)),(none, .box 5 (.t 2)),(none, .mv 6 .copy (.k (.sc (.bool false))))]) (.seq (.seq (.frz 3) (.seq (.frz 5) (.reg [(JlT 7 4 3),(none, .call .no (some 8) (.k (.fn Z1 [])) [(.t 7)]),(Jmc 9 8),(some (9, true), .load 10 .take true 4 (.t 3)),(some (9, true), .mv 11 .copy (.t 1)),(some (9, true), .call .no (some 12) (.k (.fn Kh [])) [(.t 10), (.t 11)]),(none, .pick 13 (.t 9) (.t 12) (.k (.sc (.bool false)))),(Jmc 14 13),(some (14, true), .load 15 .take true 4 (.t 3)),(some (14, true), .load 16 .take true 4 (.t 5)),(some (14, true), .mv 17 .take (.t 1)),(some (14, true), .len 18 (.t 17)),(some (14, true), .call .no (some 19) (.k (.fn V8 [])) [(.t 15), (.t 16), (.t 18)]),(none, .pick 20 (.t 14) (.t 19) (.k (.sc (.bool false)))),(Jmc 6 20)])))
 .ret))
theorem Ziv : Qp Tryz.prog VC ZiE = some (Zcq, [.tmp 6], 21) := by kernel_rfl
def ZjY : List (Nat × List Md) := MM [(1, 17), (3, 1161), (4, 137), (5, 561802), (7, 17), (8, 17), (9, 17), (10, 70281), (11, 146), (12, 17), (13, 2), (14, 17), (17, 17), (19, 1170), (21, 146), (22, 17), (23, 2), (24, 2317915217), (26, 4494417), (28, 4494417), (30, 561802), (32, 2301141585), (34, 9493123736145), (36, 17), (38, 146), (39, 17), (40, 2), (41, 1105), (43, 147258152017), (44, 1170), (1000001, 104009), (1000005, 6591049), (2000011, 421827145), (2000021, 3374617161), (2000038, 26996937289)]
def WA : C := (.seq (.reg [(none, .box 3 (.t 0)),(none, .box 5 (.t 2)),(none, .alloc 6 [(.sl true true 1 []), (.sl true true 1 []), (N 0), (.sl true true 1 [])])]) (.seq (.seq (.seq (.frz 3) (.seq (.frz 5) (.reg [(Jfa 12 0 5),(Jlt 13 1 12)]))) (.block 0 (.seq (.reg [(Jbe 15 13 0),(Jmc 14 15)]) (.cond (.t 14) (.seq (.reg [(Jmc 16 1),(Jln 17 16),(none, .call .any (some 18) (.k (.fn YW [])) [(.t 17)]),(Jmt 7 18)]) (.seq (.reg [(Jmc 19 7),(Jfa 20 1 5),(Jlt 21 1 20),(Jia 22 1 19 21),(none, .store 1 (.t 22) (.k (N 1)))]) (.seq (.seq (.frz 7) (.reg [(Jmt 23 1),(Jfa 24 1 5),(Jlt 25 1 24),(Jia 26 1 23 25),(Jlc 27 1 26),(none, .call .no (some 28) (.k (.fn XW [])) [(.t 27)]),(Jmt 29 7),(none, .build 30 [(.sl true true 1 []), (.sl true true 1 []), (N 0), (.sl true true 1 [])] [(0, 1, (.t 28)), (1, 1, (.t 29))]),(Jst 4 6 30)]))
 .ret))) (.seq (.reg [(Jbe 32 13 1),(Jmc 31 32)]) (.cond (.t 31) (.seq (.reg [(none, .bslice 33 1 1 [(N 0)] [(0, 1, (.k (N 0)))]),(Jmt 34 1),(Jln 35 34),(none, .call .no (some 36) (.k (.fn YW [])) [(.t 35)]),(none, .build 37 [(.sl true true 1 []), (.sl true true 1 []), (N 0), (.sl true true 1 [])] [(0, 1, (.t 33)), (1, 1, (.t 36))]),(Jst 4 6 37)])
 .ret)
 .skip)))))) (.seq (.reg [(Jmc 38 1),(Jmt 8 38)]) (.seq (.seq (.reg [(Jfa 39 0 5),(Jlt 40 1 39),(Jbe 41 40 9)]) (.cond (.t 41) (.reg [(Jmc 42 1),(Jfa 43 2 5),(Jlt 44 1 43),(none, .bslice 45 1 1 [(.sl true true 1 [])] [(0, 1, (.t 44))]),(none, .call .no (some 46) (.k (.fn XV [])) [(.t 42), (.t 45)]),(Jmt 8 46)])
 .skip)) (.seq (.seq (.reg [(JlT 47 4 3),(Jmt 48 8),(JlT 49 4 5),(none, .call .no (some 50) (.k (.fn Yd [])) [(.t 47), (.t 48), (.t 49), (.k (N 0))]),(none, .alloc 9 [(.sl true true 1 []), (.sl true true 1 []), (N 0), (.sl true true 1 [])]),(Jst 4 9 50)]) (.frz 9)) (.seq (.seq (.reg [(Jfa 51 2 9),(Jlt 52 1 51),(none, .bin 53 .num .neq (.t 52) (.k (N 0)))]) (.cond (.t 53) (.seq (.reg [(JlT 54 4 9),(Jst 4 6 54)])
 .ret)
 .skip)) (.seq (.seq (.reg [(Jfa 55 0 5),(Jlt 56 1 55)]) (.block 1 (.seq (.seq (.reg [(Jbe 58 56 2),(Jmc 57 58)]) (.cond (.t 57)
 .skip (.reg [(Jbe 59 56 3),(Jmc 57 59)]))) (.cond (.t 57) (.seq (.seq (.reg [(Jfa 60 0 9),(Jlt 61 1 60),(none, .indexA 62 1 (.t 61) (.k (N 0))),(Jlc 63 1 62),(none, .bin 64 .num .neq (.t 63) (.k (N 0)))]) (.cond (.t 64) (.seq (.reg [(none, .call .no (some 65) (.k (.fn WE [])) [(.k (N 2))]),(Jst 4 6 65)])
 .ret)
 .skip)) (.seq (.reg [(JlT 66 4 3),(Jmt 67 1),(JlT 68 4 5),(JlT 69 4 9),(none, .call .no (some 70) (.k (.fn Zq [])) [(.t 66), (.t 67), (.t 68), (.t 69)]),(Jst 4 6 70)])
 .ret)) (.seq (.reg [(Jbe 72 56 4),(Jmc 71 72)]) (.cond (.t 71) (.seq (.seq (.reg [(JlT 73 4 3),(Jmt 74 1),(JlT 75 4 5),(none, .call .no (some 76) (.k (.fn Yd [])) [(.t 73), (.t 74), (.t 75), (.k (N 1))]),(none, .alloc 10 [(.sl true true 1 []), (.sl true true 1 []), (N 0), (.sl true true 1 [])]),(Jst 4 10 76)]) (.frz 10)) (.seq (.seq (.reg [(Jfa 77 2 10),(Jlt 78 1 77),(none, .bin 79 .num .neq (.t 78) (.k (N 0)))]) (.cond (.t 79) (.seq (.reg [(JlT 80 4 10),(Jst 4 6 80)])
 .ret)
 .skip)) (.seq (.reg [(Jfa 81 0 9),(Jlt 82 1 81),(Jfa 83 0 10),(Jlt 84 1 83),(none, .bslice 85 1 2 [(.sl true true 1 []), (.sl true true 1 [])] [(0, 1, (.t 82)), (1, 1, (.t 84))]),(none, .call .no (some 86) (.k (.fn Xt [])) [(.k (N 1)), (.t 85)]),(JlT 87 4 3),(Jfa 88 1 9),(Jlt 89 1 88),(Jfa 90 1 10),(Jlt 91 1 90),(none, .call .no (some 92) (.k (.fn XP [])) [(.t 87), (.t 89), (.k (N 1)), (.t 91)]),(none, .call .no (some 93) (.k (.fn Yk [])) [(.t 86), (.t 92)]),(Jst 4 6 93)])
 .ret))) (.seq (.reg [(Jbe 95 56 6),(Jmc 94 95)]) (.cond (.t 94) (.seq (.reg [(Jfa 96 0 9),(Jlt 97 1 96),(Jfa 98 2 5),(Jlt 99 1 98),(none, .bslice 100 1 2 [(.sl true true 1 []), (.sl true true 1 [])] [(0, 1, (.t 97)), (1, 1, (.t 99))]),(none, .call .no (some 101) (.k (.fn Xt [])) [(.k (N 2)), (.t 100)]),(Jfa 102 1 9),(Jlt 103 1 102),(none, .call .no (some 104) (.k (.fn Yk [])) [(.t 101), (.t 103)]),(Jst 4 6 104)])
 .ret) (.seq (.reg [(Jbe 106 56 7),(Jmc 105 106)]) (.cond (.t 105) (.seq (.reg [(Jfa 107 2 5),(Jlt 108 1 107),(Jfa 109 0 9),(Jlt 110 1 109),(none, .bslice 111 1 2 [(.sl true true 1 []), (.sl true true 1 [])] [(0, 1, (.t 108)), (1, 1, (.t 110))]),(none, .call .no (some 112) (.k (.fn Xt [])) [(.k (N 2)), (.t 111)]),(Jfa 113 1 9),(Jlt 114 1 113),(none, .call .no (some 115) (.k (.fn Yk [])) [(.t 112), (.t 114)]),(Jst 4 6 115)])
 .ret) (.seq (.reg [(Jbe 117 56 9),(Jmc 116 117)]) (.cond (.t 116) (.seq (.seq (.reg [(JlT 118 4 3),(Jfa 119 1 9),(Jlt 120 1 119),(none, .indexA 121 1 (.t 120) (.k (N 0))),(Jlc 122 1 121),(Jfa 123 1 5),(Jlt 124 1 123),(none, .call .no (some 125) (.k (.fn Wh [])) [(.t 118), (.t 122), (.t 124)]),(none, .un 126 .not (.t 125))]) (.cond (.t 126) (.seq (.reg [(none, .call .no (some 127) (.k (.fn WE [])) [(.k (N 9))]),(Jst 4 6 127)])
 .ret)
 .skip)) (.seq (.reg [(Jfa 128 1 5),(Jlt 129 1 128),(none, .bin 130 .num .add (.k (N 3)) (.t 129)),(Jfa 131 2 5),(Jlt 132 1 131),(Jfa 133 0 9),(Jlt 134 1 133),(none, .bslice 135 1 2 [(.sl true true 1 []), (.sl true true 1 [])] [(0, 1, (.t 132)), (1, 1, (.t 134))]),(none, .call .no (some 136) (.k (.fn Xt [])) [(.t 130), (.t 135)]),(Jfa 137 1 9),(Jlt 138 1 137),(none, .slice 139 1 (.t 138) (some (.k (N 1))) none none),(none, .call .no (some 140) (.k (.fn XW [])) [(.t 139)]),(none, .call .no (some 141) (.k (.fn Yk [])) [(.t 136), (.t 140)]),(Jst 4 6 141)])
 .ret)) (.seq (.reg [(Jbe 143 56 11),(Jmc 142 143)]) (.cond (.t 142) (.seq (.reg [(Jfa 144 1 5),(Jlt 145 1 144),(none, .bin 146 .num .add (.k (N 19)) (.t 145)),(Jfa 147 0 9),(Jlt 148 1 147),(none, .bslice 149 1 1 [(.sl true true 1 [])] [(0, 1, (.t 148))]),(none, .call .no (some 150) (.k (.fn Xt [])) [(.t 146), (.t 149)]),(JlT 151 4 3),(Jmt 152 1),(Jln 153 152),(none, .call .no (some 154) (.k (.fn YW [])) [(.t 153)]),(Jfa 155 1 5),(Jlt 156 1 155),(Jfa 157 1 9),(Jlt 158 1 157),(none, .call .no (some 159) (.k (.fn XP [])) [(.t 151), (.t 154), (.t 156), (.t 158)]),(none, .call .no (some 160) (.k (.fn Yk [])) [(.t 150), (.t 159)]),(Jst 4 6 160)])
 .ret) (.seq (.reg [(Jbe 162 56 10),(Jmc 161 162)]) (.cond (.t 161) (.seq (.seq (.reg [(Jfa 163 0 9),(Jlt 164 1 163),(none, .indexA 165 1 (.t 164) (.k (N 0))),(Jlc 166 1 165),(none, .call .no (some 167) (.k (.fn Zj [])) [(.t 166)]),(none, .un 168 .not (.t 167))]) (.cond (.t 168) (.seq (.reg [(none, .call .no (some 169) (.k (.fn WE [])) [(.k (N 6))]),(Jst 4 6 169)])
 .ret)
 .skip)) (.seq (.seq (.reg [(JlT 170 4 3),(Jmt 171 1),(JlT 172 4 5),(none, .call .no (some 173) (.k (.fn Yd [])) [(.t 170), (.t 171), (.t 172), (.k (N 1))]),(none, .alloc 11 [(.sl true true 1 []), (.sl true true 1 []), (N 0), (.sl true true 1 [])]),(Jst 4 11 173)]) (.frz 11)) (.seq (.seq (.reg [(Jfa 174 2 11),(Jlt 175 1 174),(none, .bin 176 .num .neq (.t 175) (.k (N 0)))]) (.cond (.t 176) (.seq (.reg [(JlT 177 4 11),(Jst 4 6 177)])
 .ret)
 .skip)) (.seq (.seq (.reg [(Jfa 178 0 11),(Jlt 179 1 178),(Jfa 180 0 9),(Jlt 181 1 180),(none, .call .no (some 182) (.k (.fn W0 [])) [(.t 181), (.k (N 0))]),(none, .call .no (some 183) (.k (.fn ZT [])) [(.t 179), (.t 182)]),(none, .un 184 .not (.t 183))]) (.cond (.t 184) (.seq (.reg [(none, .call .no (some 185) (.k (.fn WE [])) [(.k (N 3))]),(Jst 4 6 185)])
 .ret)
 .skip)) (.seq (.reg [(Jfa 186 0 9),(Jlt 187 1 186),(none, .call .no (some 188) (.k (.fn W0 [])) [(.t 187), (.k (N 1))]),(JlT 189 4 3),(Jfa 190 1 9),(Jlt 191 1 190),(Jfa 192 0 9),(Jlt 193 1 192),(none, .indexA 194 1 (.t 193) (.k (N 0))),(Jlc 195 1 194),(none, .call .no (some 196) (.k (.fn XY [])) [(.t 195)]),(Jfa 197 1 11),(Jlt 198 1 197),(none, .call .no (some 199) (.k (.fn XP [])) [(.t 189), (.t 191), (.t 196), (.t 198)]),(none, .build 200 [(.sl true true 1 []), (.sl true true 1 []), (N 0), (.sl true true 1 [])] [(0, 1, (.t 188)), (1, 1, (.t 199))]),(Jst 4 6 200)])
 .ret)))))
 .skip)))))))))))))))) (.seq (.reg [(JlT 201 4 3),(Jmt 202 1),(JlT 203 4 5),(JlT 204 4 9),(none, .call .no (some 205) (.k (.fn Ze [])) [(.t 201), (.t 202), (.t 203), (.t 204)]),(Jst 4 6 205)])
 .ret))))))))
theorem ZjJ : Qp Tryz.prog Wq ZjY = some (WA, [.cell 6 true 4], 206) := by kernel_rfl
def Zcn : List (Nat × List Md) := MM [(1, 8785), (1000001, 1609)]
def KK : C := (.seq (.reg [(none, .box 3 (.t 0)),(none, .mv 6 .copy (.k (N 0)))]) (.seq (.seq (.frz 3) (.reg [(Jfa 7 1 3),(Jlt 8 1 7),(Jmc 9 1),(Jfa 10 0 3),(Jlt 11 1 10),(none, .bin 12 .num .mul (.t 9) (.t 11)),(Jmc 13 2),(none, .bin 14 .num .add (.t 12) (.t 13)),(Jia 15 1 8 14),(Jlc 16 1 15),(Jmc 6 16)]))
 .ret))
theorem ZbQ : Qp Tryz.prog QC Zcn = some (KK, [.tmp 6], 17) := by kernel_rfl
def Zbx : List (Nat × List Md) := MM [(1, 8785), (1000001, 1609)]
def JS : C := (.seq (.reg [(none, .box 3 (.t 0)),(none, .mv 6 .copy (.k (N 0)))]) (.seq (.seq (.frz 3) (.reg [(Jfa 7 2 3),(Jlt 8 1 7),(Jmc 9 1),(Jfa 10 0 3),(Jlt 11 1 10),(none, .bin 12 .num .mul (.t 9) (.t 11)),(Jmc 13 2),(none, .bin 14 .num .add (.t 12) (.t 13)),(Jia 15 1 8 14),(Jlc 16 1 15),(Jmc 6 16)]))
 .ret))
theorem ZbA : Qp Tryz.prog Qx Zbx = some (JS, [.tmp 6], 17) := by kernel_rfl
def Ziy : List (Nat × List Md) := MM [(1, 2), (1000001, 112201)]
def Zcz : C := (.seq (.reg [(none, .box 3 (.t 0)),(none, .box 4 (.t 1)),(none, .box 5 (.t 2)),(none, .alloc 6 [(N 0), (N 0), (.sl true true 1 []), (.sl true true 1 [])])]) (.seq (.seq (.frz 3) (.seq (.frz 4) (.seq (.frz 5) (.reg [(JlT 7 4 3),(none, .mkfn 8 Zx false [(.t 5), (.t 4)]),(none, .call .no (some 9) (.k (.fn JN [])) [(.t 7), (.k (N 0)), (.t 8)]),(Jst 4 6 9)]))))
 .ret))
theorem ZiM : Qp Tryz.prog Vr Ziy = some (Zcz, [.cell 6 true 4], 10) := by kernel_rfl
def ZhF : List (Nat × List Md) := MM [(1, 17), (2, 18), (3, 17), (4, 70282), (5, 35951690), (6, 17), (7, 4494410), (8, 4493906), (1000001, 832073)]
def Zco : C := (.seq (.reg [(none, .box 4 (.t 0)),(none, .box 6 (.t 2)),(none, .mv 8 .copy (.k (.sl true true 1 [])))]) (.seq (.block 0 (.seq (.seq (.frz 4) (.seq (.frz 6) (.reg [(Jfa 11 0 6),(Jlt 12 1 11),(Jmc 13 3),(none, .call .no (some 14) (.k (.fn ZQ [])) [(.t 12), (.t 13)]),(Jbe 15 14 0),(Jmc 10 15)]))) (.cond (.t 10) (.seq (.reg [(Jmt 16 1),(Jmt 8 16)])
 .ret) (.seq (.reg [(Jfa 18 0 6),(Jlt 19 1 18),(Jbe 20 19 9),(Jmc 17 20)]) (.cond (.t 17) (.seq (.reg [(Jmt 21 1),(Jfa 22 2 6),(Jlt 23 1 22),(none, .bslice 24 1 1 [(.sl true true 1 [])] [(0, 1, (.t 23))]),(none, .call .no (some 25) (.k (.fn XV [])) [(.t 21), (.t 24)]),(Jmt 8 25)])
 .ret)
 .skip))))) (.seq (.reg [(JlT 26 4 4),(Jmc 27 1),(Jfa 28 3 6),(Jlt 29 1 28),(none, .indexA 30 4 (.t 29) (.k (N 0))),(JlC 31 4 30),(none, .call .no (some 32) (.k (.fn Wq [])) [(.t 26), (.t 27), (.t 31)]),(none, .field 33 false 0 1 (.t 32)),(Jmt 9 33)]) (.seq (.seq (.reg [(Jfa 34 0 6),(Jlt 35 1 34),(Jbe 36 35 5)]) (.cond (.t 36) (.seq (.reg [(Jmt 37 1),(Jmc 38 9),(none, .call .no (some 39) (.k (.fn W0 [])) [(.t 38), (.k (N 1))]),(Jmt 40 9),(none, .call .no (some 41) (.k (.fn W0 [])) [(.t 40), (.k (N 0))]),(none, .bslice 42 1 2 [(.sl true true 1 []), (.sl true true 1 [])] [(0, 1, (.t 39)), (1, 1, (.t 41))]),(none, .call .no (some 43) (.k (.fn XV [])) [(.t 37), (.t 42)]),(Jmt 8 43)])
 .ret)
 .skip)) (.seq (.reg [(Jmt 44 1),(Jmt 45 9),(Jmc 46 3),(none, .bin 47 .num .sub (.t 46) (.k (N 1))),(none, .call .no (some 48) (.k (.fn W0 [])) [(.t 45), (.t 47)]),(none, .bslice 49 1 1 [(.sl true true 1 [])] [(0, 1, (.t 48))]),(none, .call .no (some 50) (.k (.fn XV [])) [(.t 44), (.t 49)]),(Jmt 8 50)])
 .ret)))))
theorem Zih : Qp Tryz.prog Vx ZhF = some (Zco, [.tmp 8], 51) := by kernel_rfl
def ZjL : List (Nat × List Md) := MM [(3, 8778), (4, 8778)]
def Zc3 : C := (.seq (.reg [(none, .mv 4 .copy (.k (.sl true true 1 [])))]) (.seq (.reg [(Jmc 6 0),(none, .call .no (some 7) (.k (.fn Va [])) [(.t 6), (.k (N 1))]),(Jmc 5 7)]) (.seq (.seq (.reg [(Jmc 8 1),(Jbe 9 8 0)]) (.cond (.t 9) (.seq (.reg [(Jmt 10 0),(Jmc 11 5),(none, .slice 12 1 (.t 10) (some (.k (N 1))) (some (.t 11)) none),(none, .call .no (some 13) (.k (.fn XW [])) [(.t 12)]),(Jmt 4 13)])
 .ret)
 .skip)) (.seq (.reg [(Jmt 14 0),(Jmc 15 5),(none, .slice 16 1 (.t 14) (some (.t 15)) none none),(none, .call .no (some 17) (.k (.fn XW [])) [(.t 16)]),(Jmt 4 17)])
 .ret))))
theorem Zjp : Qp Tryz.prog W0 ZjL = some (Zc3, [.tmp 4], 18) := by kernel_rfl
def ZlH : List (Nat × List Md) := MM []
def Zei : C := (.seq (.reg [(none, .mv 2 .copy (.k (.sc (.bool false))))]) (.seq (.reg [(Jmc 3 0),(Jbe 4 3 5),(Jmc 5 4),(some (5, false), .mv 6 .copy (.t 0)),(some (5, false), .bin 7 .num .eql (.t 6) (.k (N 8))),(none, .pick 8 (.t 5) (.k (.sc (.bool true))) (.t 7)),(Jmc 9 8),(some (9, false), .mv 10 .copy (.t 0)),(some (9, false), .bin 11 .num .eql (.t 10) (.k (N 9))),(none, .pick 12 (.t 9) (.k (.sc (.bool true))) (.t 11)),(Jmc 13 12),(some (13, false), .mv 14 .copy (.t 0)),(some (13, false), .bin 15 .num .eql (.t 14) (.k (N 11))),(none, .pick 16 (.t 13) (.k (.sc (.bool true))) (.t 15)),(Jmc 17 16),(some (17, false), .mv 18 .copy (.t 0)),(some (17, false), .bin 19 .num .eql (.t 18) (.k (N 12))),(none, .pick 20 (.t 17) (.k (.sc (.bool true))) (.t 19)),(Jmc 2 20)])
 .ret))
theorem Zlf : Qp Tryz.prog Za2 ZlH = some (Zei, [.tmp 2], 21) := by kernel_rfl
def ZhG : List (Nat × List Md) := MM []
def Zcb : C := (.seq (.reg [(none, .mv 2 .copy (.k (.sc (.bool false))))]) (.seq (.reg [(Jmc 3 0),(Jbe 4 3 6),(Jmc 5 4),(some (5, false), .mv 6 .copy (.t 0)),(some (5, false), .bin 7 .num .eql (.t 6) (.k (N 7))),(none, .pick 8 (.t 5) (.k (.sc (.bool true))) (.t 7)),(Jmc 9 8),(some (9, false), .mv 10 .copy (.t 0)),(some (9, false), .bin 11 .num .eql (.t 10) (.k (N 9))),(none, .pick 12 (.t 9) (.k (.sc (.bool true))) (.t 11)),(Jmc 2 12)])
 .ret))
theorem ZiA : Qp Tryz.prog JG ZhG = some (Zcb, [.tmp 2], 13) := by kernel_rfl
def ZgN : List (Nat × List Md) := MM [(1, 17), (2, 1264919598023844368969), (4, 17), (7, 18541220490), (13, 169774936191745691983536493130), (18, 5181111808417170544960074), (23, 2), (1000001, 25)]
def Zbs : C := (.seq (.reg [(none, .box 1 (.t 0)),(none, .mv 2 .copy (.k (.sc (.bool false))))]) (.seq (.seq (.frz 1) (.reg [(Jfa 8 0 1),(Jlt 9 1 8),(Jmc 3 9)])) (.seq (.seq (.reg [(Jmc 10 3),(none, .call .no (some 11) (.k (.fn WT [])) [(.t 10), (.k (N 2)), (.k (N 16))]),(none, .un 12 .not (.t 11)),(Jmc 13 12),(some (13, false), .fieldA 14 1 (.t 1)),(some (13, false), .load 15 .take false 1 (.t 14)),(some (13, false), .len 16 (.t 15)),(some (13, false), .mv 17 .copy (.t 3)),(some (13, false), .mv 18 .copy (.t 3)),(some (13, false), .bin 19 .num .mul (.t 17) (.t 18)),(some (13, false), .bin 20 .num .neq (.t 16) (.t 19)),(none, .pick 21 (.t 13) (.k (.sc (.bool true))) (.t 20)),(Jmc 22 21),(some (22, false), .fieldA 23 2 (.t 1)),(some (22, false), .load 24 .take false 1 (.t 23)),(some (22, false), .len 25 (.t 24)),(some (22, false), .mv 26 .copy (.t 3)),(some (22, false), .mv 27 .copy (.t 3)),(some (22, false), .bin 28 .num .mul (.t 26) (.t 27)),(some (22, false), .bin 29 .num .neq (.t 25) (.t 28)),(none, .pick 30 (.t 22) (.k (.sc (.bool true))) (.t 29)),(Jmc 31 30),(some (31, false), .fieldA 32 3 (.t 1)),(some (31, false), .load 33 .take false 1 (.t 32)),(some (31, false), .len 34 (.t 33)),(some (31, false), .mv 35 .copy (.t 3)),(some (31, false), .mv 36 .copy (.t 3)),(some (31, false), .bin 37 .num .mul (.t 35) (.t 36)),(some (31, false), .bin 38 .num .neq (.t 34) (.t 37)),(none, .pick 39 (.t 31) (.k (.sc (.bool true))) (.t 38))]) (.cond (.t 39) (.seq (.reg [(none, .mv 2 .copy (.k (.sc (.bool false))))])
 .ret)
 .skip)) (.seq (.seq (.reg [(Jfa 40 1 1),(Jlt 41 1 40),(Jln 42 41),(none, .mv 43 .copy (.k (N 0)))]) (.block 0 (.loop (.seq (.reg [(Jbl 44 43 42)]) (.seq (.cond (.t 44)
 .skip (.exit 0)) (.seq (.block 1 (.seq (.reg [(Jmc 45 43),(Jmc 4 45)]) (.seq (.reg [(JlT 46 4 1),(Jfa 47 1 1),(Jlt 48 1 47),(Jmc 49 4),(Jia 50 1 48 49),(Jlc 51 1 50),(none, .call .no (some 52) (.k (.fn Ww [])) [(.t 46), (.t 51)]),(none, .un 53 .not (.t 52)),(Jmc 54 53),(some (54, false), .load 55 .take true 4 (.t 1)),(some (54, false), .fieldA 56 2 (.t 1)),(some (54, false), .load 57 .take false 1 (.t 56)),(some (54, false), .mv 58 .copy (.t 4)),(some (54, false), .indexA 59 1 (.t 57) (.t 58)),(some (54, false), .load 60 .copy false 1 (.t 59)),(some (54, false), .call .no (some 61) (.k (.fn Ww [])) [(.t 55), (.t 60)]),(some (54, false), .un 62 .not (.t 61)),(none, .pick 63 (.t 54) (.k (.sc (.bool true))) (.t 62))]) (.cond (.t 63) (.seq (.reg [(none, .mv 2 .copy (.k (.sc (.bool false))))])
 .ret)
 .skip)))) (.reg [(Jba 64 43 1),(Jmc 43 64)]))))))) (.seq (.seq (.reg [(none, .mv 5 .copy (.k (N 0)))]) (.block 2 (.loop (.seq (.seq (.reg [(Jmc 65 5),(Jmc 66 3),(Jbl 67 65 66)]) (.cond (.t 67)
 .skip (.exit 2))) (.seq (.block 3 (.seq (.seq (.reg [(JlT 70 4 1),(Jmc 71 5),(none, .call .no (some 72) (.k (.fn QC [])) [(.t 70), (.k (N 0)), (.t 71)]),(Jmc 73 5),(none, .bin 74 .num .neq (.t 72) (.t 73)),(Jmc 75 74),(some (75, false), .load 76 .take true 4 (.t 1)),(some (75, false), .mv 77 .copy (.t 5)),(some (75, false), .call .no (some 78) (.k (.fn Qx [])) [(.t 76), (.k (N 1)), (.t 77)]),(some (75, false), .mv 79 .copy (.t 5)),(some (75, false), .bin 80 .num .neq (.t 78) (.t 79)),(none, .pick 81 (.t 75) (.k (.sc (.bool true))) (.t 80)),(Jmc 82 81),(some (82, false), .load 83 .take true 4 (.t 1)),(some (82, false), .mv 84 .copy (.t 5)),(some (82, false), .call .no (some 85) (.k (.fn Qx [])) [(.t 83), (.t 84), (.k (N 1))]),(some (82, false), .mv 86 .copy (.t 5)),(some (82, false), .bin 87 .num .neq (.t 85) (.t 86)),(none, .pick 88 (.t 82) (.k (.sc (.bool true))) (.t 87)),(Jmc 89 88),(some (89, false), .load 90 .take true 4 (.t 1)),(some (89, false), .mv 91 .copy (.t 5)),(some (89, false), .call .no (some 92) (.k (.fn Qx [])) [(.t 90), (.k (N 0)), (.t 91)]),(some (89, false), .bin 93 .num .neq (.t 92) (.k (N 0))),(none, .pick 94 (.t 89) (.k (.sc (.bool true))) (.t 93)),(Jmc 95 94),(some (95, false), .load 96 .take true 4 (.t 1)),(some (95, false), .mv 97 .copy (.t 5)),(some (95, false), .call .no (some 98) (.k (.fn Qx [])) [(.t 96), (.t 97), (.k (N 0))]),(some (95, false), .bin 99 .num .neq (.t 98) (.k (N 0))),(none, .pick 100 (.t 95) (.k (.sc (.bool true))) (.t 99)),(Jmc 101 100),(some (101, false), .load 102 .take true 4 (.t 1)),(some (101, false), .mv 103 .copy (.t 5)),(some (101, false), .mv 104 .copy (.t 5)),(some (101, false), .call .no (some 105) (.k (.fn QA [])) [(.t 102), (.t 103), (.t 104)]),(some (101, false), .un 106 .not (.t 105)),(none, .pick 107 (.t 101) (.k (.sc (.bool true))) (.t 106))]) (.cond (.t 107) (.seq (.reg [(none, .mv 2 .copy (.k (.sc (.bool false))))])
 .ret)
 .skip)) (.seq (.reg [(none, .mv 6 .copy (.k (N 0)))]) (.block 4 (.loop (.seq (.seq (.reg [(Jmc 108 6),(Jmc 109 3),(Jbl 110 108 109)]) (.cond (.t 110)
 .skip (.exit 4))) (.seq (.block 5 (.seq (.seq (.reg [(JlT 113 4 1),(Jmc 114 5),(Jmc 115 6),(none, .call .no (some 116) (.k (.fn QC [])) [(.t 113), (.t 114), (.t 115)]),(JlT 117 4 1),(Jmc 118 6),(Jmc 119 5),(none, .call .no (some 120) (.k (.fn QC [])) [(.t 117), (.t 118), (.t 119)]),(none, .bin 121 .num .neq (.t 116) (.t 120)),(Jmc 122 121),(some (122, false), .mv 123 .copy (.t 5)),(some (122, false), .mv 124 .copy (.t 6)),(some (122, false), .bin 125 .num .neq (.t 123) (.t 124)),(some (122, false), .mv 126 .copy (.t 125)),(some (126, true), .load 127 .take true 4 (.t 1)),(some (126, true), .mv 128 .copy (.t 5)),(some (126, true), .mv 129 .copy (.t 6)),(some (126, true), .call .no (some 130) (.k (.fn QA [])) [(.t 127), (.t 128), (.t 129)]),(some (122, false), .pick 131 (.t 126) (.t 130) (.k (.sc (.bool false)))),(some (122, false), .mv 132 .copy (.t 131)),(some (132, true), .load 133 .take true 4 (.t 1)),(some (132, true), .mv 134 .copy (.t 6)),(some (132, true), .mv 135 .copy (.t 5)),(some (132, true), .call .no (some 136) (.k (.fn QA [])) [(.t 133), (.t 134), (.t 135)]),(some (122, false), .pick 137 (.t 132) (.t 136) (.k (.sc (.bool false)))),(none, .pick 138 (.t 122) (.k (.sc (.bool true))) (.t 137)),(Jmc 139 138),(some (139, false), .load 140 .take true 4 (.t 1)),(some (139, false), .mv 141 .copy (.t 5)),(some (139, false), .mv 142 .copy (.t 6)),(some (139, false), .call .no (some 143) (.k (.fn WR [])) [(.t 140), (.t 141), (.t 142)]),(some (139, false), .bin 144 .num .lss (.t 143) (.k (N 0))),(none, .pick 145 (.t 139) (.k (.sc (.bool true))) (.t 144))]) (.cond (.t 145) (.seq (.reg [(none, .mv 2 .copy (.k (.sc (.bool false))))])
 .ret)
 .skip)) (.seq (.reg [(none, .mv 7 .copy (.k (N 0)))]) (.block 6 (.loop (.seq (.seq (.reg [(Jmc 146 7),(Jmc 147 3),(Jbl 148 146 147)]) (.cond (.t 148)
 .skip (.exit 6))) (.seq (.block 7 (.seq (.reg [(JlT 151 4 1),(Jmc 152 5),(Jmc 153 6),(Jmc 154 7),(none, .call .no (some 155) (.k (.fn YP [])) [(.t 151), (.t 152), (.t 153), (.t 154)]),(none, .un 156 .not (.t 155))]) (.cond (.t 156) (.seq (.reg [(none, .mv 2 .copy (.k (.sc (.bool false))))])
 .ret)
 .skip))) (.reg [(Jmc 149 7),(Jba 150 149 1),(Jmc 7 150)])))))))) (.reg [(Jmc 111 6),(Jba 112 111 1),(Jmc 6 112)])))))))) (.reg [(Jmc 68 5),(Jba 69 68 1),(Jmc 5 69)])))))) (.seq (.reg [(none, .mv 2 .copy (.k (.sc (.bool true))))])
 .ret))))))
theorem ZgD : Qp Tryz.prog KX ZgN = some (Zbs, [.tmp 2], 157) := by kernel_rfl
def Zfg : List (Nat × List Md) := MM [(1, 8777), (1000001, 201)]
def Zay : C := (.seq (.reg [(none, .box 2 (.t 0)),(none, .mv 4 .copy (.k (.sc (.bool false))))]) (.seq (.seq (.frz 2) (.reg [(Jmc 5 1),(Jln 6 5),(none, .bin 7 .num .leq (.t 6) (.k (N 8))),(Jmc 8 7),(some (8, true), .mv 9 .take (.t 1)),(some (8, true), .mkfn 10 XZ false [(.t 2)]),(some (8, true), .call .no (some 11) (.k (.fn WX [])) [(.t 9), (.t 10)]),(some (8, true), .un 12 .not (.t 11)),(none, .pick 13 (.t 8) (.t 12) (.k (.sc (.bool false)))),(Jmc 4 13)]))
 .ret))
theorem ZfK : Qp Tryz.prog J8 Zfg = some (Zay, [.tmp 4], 14) := by kernel_rfl
def Zeb : List (Nat × List Md) := MM [(1, 70217), (4, 17), (8, 8777), (11, 287609417), (12, 8842), (13, 4493898), (15, 1178048172617), (16, 18), (18, 1097), (19, 17), (20, 137), (21, 12873), (22, 20917290156083679818), (24, 4793425), (26, 561738), (27, 18), (1000001, 104009)]
def Vo : C := (.seq (.reg [(none, .box 3 (.t 0)),(none, .box 5 (.t 2)),(none, .mv 6 .copy (.k (.sc (.pointer none))))]) (.seq (.seq (.frz 3) (.seq (.frz 5) (.reg [(Jmc 16 1),(Jln 17 16),(none, .mkslice 18 1 [(N 0)] (.t 17)),(none, .build 19 [(.sl true true 1 []), (.sl true true 1 []), (.sl true true 1 []), (N 0), (.sl true true 1 [])] [(1, 1, (.t 18))]),(none, .box 20 (.t 19)),(Jmt 7 20)]))) (.seq (.reg [(none, .mv 8 .copy (.k (.sl true true 1 [])))]) (.seq (.reg [(none, .mv 9 .copy (.k (.sl true true 1 [])))]) (.seq (.seq (.reg [(Jfa 21 3 5),(Jlt 22 1 21),(Jln 23 22),(none, .mv 24 .copy (.k (N 0)))]) (.block 0 (.loop (.seq (.reg [(Jbl 25 24 23)]) (.seq (.cond (.t 25)
 .skip (.exit 0)) (.seq (.block 1 (.seq (.reg [(Jmc 26 24),(Jia 27 4 22 24),(JlC 28 4 27),(none, .alloc 11 [(N 0), (N 0), (.sl true true 1 []), (.sl true true 1 [])]),(Jmc 10 26),(Jst 4 11 28)]) (.seq (.reg [(none, .mv 12 .copy (.k (.sl true true 1 [])))]) (.seq (.seq (.reg [(Jmc 29 10),(none, .bin 30 .num .gtr (.t 29) (.k (N 0))),(Jmc 31 30),(some (31, false), .fieldA 32 0 (.t 5)),(some (31, false), .load 33 .take false 1 (.t 32)),(some (31, false), .bin 34 .num .eql (.t 33) (.k (N 9))),(none, .pick 35 (.t 31) (.k (.sc (.bool true))) (.t 34))]) (.cond (.t 35) (.seq (.reg [(none, .mv 13 .copy (.k (.sl true true 1 [])))]) (.seq (.seq (.reg [(Jmc 36 10),(none, .bin 37 .num .gtr (.t 36) (.k (N 0)))]) (.cond (.t 37) (.reg [(Jmc 38 7),(none, .nilchk 39 (.t 38)),(Jfa 40 2 39),(Jlc 41 1 40),(none, .indexA 42 1 (.t 41) (.k (N 0))),(Jlc 43 1 42),(none, .nilchk 44 (.t 43)),(Jfa 45 0 44),(Jlc 46 1 45),(Jmt 13 46)])
 .skip)) (.reg [(JlT 47 4 5),(Jmc 48 10),(Jmt 49 13),(none, .call .no (some 50) (.k (.fn ZaI [])) [(.t 47), (.t 48), (.t 49)]),(Jmt 12 50)])))
 .skip)) (.seq (.reg [(JlT 51 4 3),(Jmc 52 12),(Jmc 53 1),(none, .bslice 54 1 2 [(.sl true true 1 []), (.sl true true 1 [])] [(0, 1, (.t 52)), (1, 1, (.t 53))]),(none, .call .no (some 55) (.k (.fn Xo [])) [(.t 54)]),(JlC 56 4 11),(none, .call .no (some 57) (.k (.fn YM [])) [(.t 51), (.t 55), (.t 56)]),(Jmt 14 57)]) (.seq (.seq (.reg [(Jmc 58 14),(none, .nilchk 59 (.t 58)),(Jfa 60 3 59),(Jlc 61 1 60),(none, .bin 62 .num .neq (.t 61) (.k (N 0)))]) (.cond (.t 62) (.seq (.reg [(Jmc 63 14),(none, .nilchk 64 (.t 63)),(Jfa 65 3 64),(Jlc 66 1 65),(Jmc 67 10),(none, .bslice 68 1 1 [(N 0)] [(0, 1, (.t 67))]),(Jmc 69 14),(none, .nilchk 70 (.t 69)),(Jfa 71 4 70),(Jlc 72 1 71),(none, .append 73 1 (.t 68) (.t 72)),(none, .build 74 [(.sl true true 1 []), (.sl true true 1 []), (.sl true true 1 []), (N 0), (.sl true true 1 [])] [(3, 1, (.t 66)), (4, 1, (.t 73))]),(none, .box 75 (.t 74)),(Jmt 6 75)])
 .ret)
 .skip)) (.seq (.seq (.reg [(JlT 76 4 3),(JlT 77 4 5),(Jmc 78 10),(Jmc 79 14),(none, .nilchk 80 (.t 79)),(Jfa 81 0 80),(Jlc 82 1 81),(none, .call .no (some 83) (.k (.fn YO [])) [(.t 76), (.t 77), (.t 78), (.t 82)]),(Jmc 15 83)]) (.seq (.reg [(Jmc 84 15),(none, .bin 85 .num .neq (.t 84) (.k (N 0)))]) (.cond (.t 85) (.seq (.reg [(Jmc 86 15),(none, .build 87 [(.sl true true 1 []), (.sl true true 1 []), (.sl true true 1 []), (N 0), (.sl true true 1 [])] [(3, 1, (.t 86))]),(none, .box 88 (.t 87)),(Jmt 6 88)])
 .ret)
 .skip))) (.seq (.seq (.reg [(Jfa 89 0 5),(Jlt 90 1 89),(Jbe 91 90 10),(Jmc 92 91),(some (92, true), .mv 93 .copy (.t 10)),(some (92, true), .bin 94 .num .eql (.t 93) (.k (N 1))),(none, .pick 95 (.t 92) (.t 94) (.k (.sc (.bool false)))),(Jmc 96 95),(some (96, true), .mv 97 .copy (.t 14)),(some (96, true), .nilchk 98 (.t 97)),(some (96, true), .fieldA 99 0 (.t 98)),(some (96, true), .load 100 .copy false 1 (.t 99)),(some (96, true), .mv 101 .copy (.t 7)),(some (96, true), .nilchk 102 (.t 101)),(some (96, true), .fieldA 103 2 (.t 102)),(some (96, true), .load 104 .copy false 1 (.t 103)),(some (96, true), .indexA 105 1 (.t 104) (.k (N 0))),(some (96, true), .load 106 .copy false 1 (.t 105)),(some (96, true), .nilchk 107 (.t 106)),(some (96, true), .fieldA 108 0 (.t 107)),(some (96, true), .load 109 .copy false 1 (.t 108)),(some (96, true), .call .no (some 110) (.k (.fn YL [])) [(.t 109)]),(some (96, true), .indexA 111 1 (.t 110) (.k (N 0))),(some (96, true), .load 112 .copy false 1 (.t 111)),(some (96, true), .call .no (some 113) (.k (.fn WW [])) [(.t 100), (.t 112)]),(some (96, true), .un 114 .not (.t 113)),(none, .pick 115 (.t 96) (.t 114) (.k (.sc (.bool false))))]) (.cond (.t 115) (.seq (.reg [(none, .build 116 [(.sl true true 1 []), (.sl true true 1 []), (.sl true true 1 []), (N 0), (.sl true true 1 [])] [(3, 1, (.k (N 3)))]),(none, .box 117 (.t 116)),(Jmt 6 117)])
 .ret)
 .skip)) (.seq (.reg [(Jmc 118 7),(Jmc 119 7),(none, .nilchk 120 (.t 119)),(Jfa 121 2 120),(none, .load 122 .frz false 1 (.t 121)),(Jmc 123 14),(none, .bslice 124 1 1 [(.sc (.pointer none))] [(0, 1, (.t 123))]),(none, .append 125 1 (.t 122) (.t 124)),(none, .nilchk 126 (.t 118)),(Jfa 127 2 126),(Jst 1 127 125)]) (.reg [(Jmt 128 9),(Jmc 129 14),(none, .nilchk 130 (.t 129)),(Jfa 131 1 130),(Jlc 132 1 131),(Jmc 133 12),(Jln 134 133),(none, .slice 135 1 (.t 132) none (some (.t 134)) none),(none, .bslice 136 1 1 [(.sl true true 1 [])] [(0, 1, (.t 135))]),(none, .append 137 1 (.t 128) (.t 136)),(Jmt 138 8),(Jmc 139 14),(none, .nilchk 140 (.t 139)),(Jfa 141 1 140),(Jlc 142 1 141),(Jmc 143 12),(Jln 144 143),(none, .slice 145 1 (.t 142) (some (.t 144)) none none),(none, .bslice 146 1 1 [(.sl true true 1 [])] [(0, 1, (.t 145))]),(none, .append 147 1 (.t 138) (.t 146)),(Jmt 9 137),(Jmt 8 147)])))))))))) (.reg [(Jba 148 24 1),(Jmc 24 148)]))))))) (.seq (.reg [(Jmc 149 7),(JlT 150 4 3),(Jmc 151 7),(Jmt 152 1),(JlT 153 4 5),(Jmt 154 8),(Jmt 155 9),(none, .call .any (some 156) (.k (.fn Y8 [])) [(.t 150), (.t 151), (.t 152), (.t 153), (.t 154), (.t 155)]),(none, .nilchk 157 (.t 149)),(Jfa 158 3 157),(Jst 1 158 156)]) (.seq (.seq (.reg [(Jmc 159 7),(none, .nilchk 160 (.t 159)),(Jfa 161 3 160),(Jlc 162 1 161),(none, .bin 163 .num .neq (.t 162) (.k (N 0)))]) (.cond (.t 163) (.seq (.reg [(Jmt 164 7),(none, .nilchk 165 (.t 164)),(Jfa 166 3 165),(Jlc 167 1 166),(none, .build 168 [(.sl true true 1 []), (.sl true true 1 []), (.sl true true 1 []), (N 0), (.sl true true 1 [])] [(3, 1, (.t 167))]),(none, .box 169 (.t 168)),(Jmt 6 169)])
 .ret)
 .skip)) (.seq (.reg [(Jmt 170 7),(Jmt 6 170)])
 .ret))))))))
theorem ZdK : Qp Tryz.prog YM Zeb = some (Vo, [.tmp 6], 171) := by kernel_rfl
def Zjr : List (Nat × List Md) := MM []
def Zdf : C := (.seq (.reg [(none, .alloc 2 [(.sc (.string ⟨#[]⟩)), (N 0), (.sc (.bool false)), (.sc (.bool false))]),(none, .mv 3 .copy (.k (.sc (.bool false))))]) (.seq (.seq (.reg [(Jmc 4 0),(none, .call .no (some 5) (.k (.fn WT [])) [(.t 4), (.k (N 0)), (.k (N 12))]),(none, .un 6 .not (.t 5))]) (.cond (.t 6) (.seq (.reg [(none, .build 7 [(.sc (.string ⟨#[]⟩)), (N 0), (.sc (.bool false)), (.sc (.bool false))] []),(Jst 4 2 7),(none, .mv 3 .copy (.k (.sc (.bool false))))])
 .ret)
 .skip)) (.seq (.reg [(none, .build 8 [(.sc (.string ⟨#[]⟩)), (N 0), (.sc (.bool false)), (.sc (.bool false))] [(0, 1, (.k (.sc (.string ⟨#[120]⟩)))), (1, 1, (.k (N 0))), (2, 1, (.k (.sc (.bool false)))), (3, 1, (.k (.sc (.bool false))))]),(none, .build 9 [(.sc (.string ⟨#[]⟩)), (N 0), (.sc (.bool false)), (.sc (.bool false))] [(0, 1, (.k (.sc (.string ⟨#[]⟩)))), (1, 1, (.k (N 0))), (2, 1, (.k (.sc (.bool false)))), (3, 1, (.k (.sc (.bool false))))]),(none, .build 10 [(.sc (.string ⟨#[]⟩)), (N 0), (.sc (.bool false)), (.sc (.bool false))] [(0, 1, (.k (.sc (.string ⟨#[97, 100, 100]⟩)))), (1, 1, (.k (N 2))), (2, 1, (.k (.sc (.bool false)))), (3, 1, (.k (.sc (.bool false))))]),(none, .build 11 [(.sc (.string ⟨#[]⟩)), (N 0), (.sc (.bool false)), (.sc (.bool false))] [(0, 1, (.k (.sc (.string ⟨#[105, 102]⟩)))), (1, 1, (.k (N 3))), (2, 1, (.k (.sc (.bool false)))), (3, 1, (.k (.sc (.bool false))))]),(none, .build 12 [(.sc (.string ⟨#[]⟩)), (N 0), (.sc (.bool false)), (.sc (.bool false))] [(0, 1, (.k (.sc (.string ⟨#[112, 97, 105, 114]⟩)))), (1, 1, (.k (N 2))), (2, 1, (.k (.sc (.bool false)))), (3, 1, (.k (.sc (.bool false))))]),(none, .build 13 [(.sc (.string ⟨#[]⟩)), (N 0), (.sc (.bool false)), (.sc (.bool false))] [(0, 1, (.k (.sc (.string ⟨#[115, 112, 108, 105, 116]⟩)))), (1, 1, (.k (N 2))), (2, 1, (.k (.sc (.bool true)))), (3, 1, (.k (.sc (.bool false))))]),(none, .build 14 [(.sc (.string ⟨#[]⟩)), (N 0), (.sc (.bool false)), (.sc (.bool false))] [(0, 1, (.k (.sc (.string ⟨#[108, 101, 102, 116]⟩)))), (1, 1, (.k (N 1))), (2, 1, (.k (.sc (.bool false)))), (3, 1, (.k (.sc (.bool true))))]),(none, .build 15 [(.sc (.string ⟨#[]⟩)), (N 0), (.sc (.bool false)), (.sc (.bool false))] [(0, 1, (.k (.sc (.string ⟨#[114, 105, 103, 104, 116]⟩)))), (1, 1, (.k (N 1))), (2, 1, (.k (.sc (.bool false)))), (3, 1, (.k (.sc (.bool true))))]),(none, .build 16 [(.sc (.string ⟨#[]⟩)), (N 0), (.sc (.bool false)), (.sc (.bool false))] [(0, 1, (.k (.sc (.string ⟨#[99, 97, 115, 101]⟩)))), (1, 1, (.k (N 3))), (2, 1, (.k (.sc (.bool true)))), (3, 1, (.k (.sc (.bool false))))]),(none, .build 17 [(.sc (.string ⟨#[]⟩)), (N 0), (.sc (.bool false)), (.sc (.bool false))] [(0, 1, (.k (.sc (.string ⟨#[102, 117, 110]⟩)))), (1, 1, (.k (N 1))), (2, 1, (.k (.sc (.bool true)))), (3, 1, (.k (.sc (.bool true))))]),(none, .build 18 [(.sc (.string ⟨#[]⟩)), (N 0), (.sc (.bool false)), (.sc (.bool false))] [(0, 1, (.k (.sc (.string ⟨#[97, 112, 112]⟩)))), (1, 1, (.k (N 2))), (2, 1, (.k (.sc (.bool false)))), (3, 1, (.k (.sc (.bool false))))]),(none, .build 19 [(.sc (.string ⟨#[]⟩)), (N 0), (.sc (.bool false)), (.sc (.bool false))] [(0, 1, (.k (.sc (.string ⟨#[98, 111, 120]⟩)))), (1, 1, (.k (N 1))), (2, 1, (.k (.sc (.bool true)))), (3, 1, (.k (.sc (.bool false))))]),(none, .build 20 [(.sc (.string ⟨#[]⟩)), (N 0), (.sc (.bool false)), (.sc (.bool false))] [(0, 1, (.k (.sc (.string ⟨#[111, 112, 101, 110]⟩)))), (1, 1, (.k (N 2))), (2, 1, (.k (.sc (.bool true)))), (3, 1, (.k (.sc (.bool false))))]),(none, .bslice 21 4 13 [(.sc (.string ⟨#[]⟩)), (N 0), (.sc (.bool false)), (.sc (.bool false)), (.sc (.string ⟨#[]⟩)), (N 0), (.sc (.bool false)), (.sc (.bool false)), (.sc (.string ⟨#[]⟩)), (N 0), (.sc (.bool false)), (.sc (.bool false)), (.sc (.string ⟨#[]⟩)), (N 0), (.sc (.bool false)), (.sc (.bool false)), (.sc (.string ⟨#[]⟩)), (N 0), (.sc (.bool false)), (.sc (.bool false)), (.sc (.string ⟨#[]⟩)), (N 0), (.sc (.bool false)), (.sc (.bool false)), (.sc (.string ⟨#[]⟩)), (N 0), (.sc (.bool false)), (.sc (.bool false)), (.sc (.string ⟨#[]⟩)), (N 0), (.sc (.bool false)), (.sc (.bool false)), (.sc (.string ⟨#[]⟩)), (N 0), (.sc (.bool false)), (.sc (.bool false)), (.sc (.string ⟨#[]⟩)), (N 0), (.sc (.bool false)), (.sc (.bool false)), (.sc (.string ⟨#[]⟩)), (N 0), (.sc (.bool false)), (.sc (.bool false)), (.sc (.string ⟨#[]⟩)), (N 0), (.sc (.bool false)), (.sc (.bool false)), (.sc (.string ⟨#[]⟩)), (N 0), (.sc (.bool false)), (.sc (.bool false))] [(0, 4, (.t 8)), (4, 4, (.t 9)), (8, 4, (.t 10)), (12, 4, (.t 11)), (16, 4, (.t 12)), (20, 4, (.t 13)), (24, 4, (.t 14)), (28, 4, (.t 15)), (32, 4, (.t 16)), (36, 4, (.t 17)), (40, 4, (.t 18)), (44, 4, (.t 19)), (48, 4, (.t 20))]),(Jmc 22 0),(Jia 23 4 21 22),(JlC 24 4 23),(Jst 4 2 24),(none, .mv 3 .copy (.k (.sc (.bool true))))])
 .ret)))
theorem ZjB : Qp Tryz.prog VY Zjr = some (Zdf, [.cell 2 true 4, .tmp 3], 25) := by kernel_rfl
def Zmv : List (Nat × List Md) := MM [(5, 35951178), (7, 18)]
def Ze5 : C := (.seq (.reg [(none, .mv 2 .copy (.k (.sl true true 1 [])))]) (.seq (.reg [(none, .mv 3 .copy (.k (.sl true true 1 [])))]) (.seq (.seq (.reg [(none, .mv 4 .copy (.k (N 1)))]) (.block 0 (.loop (.seq (.seq (.reg [(Jmc 6 4),(Jmc 7 0),(Jln 8 7),(Jbl 9 6 8)]) (.cond (.t 9)
 .skip (.exit 0))) (.block 1 (.seq (.reg [(Jmc 10 0),(Jmc 11 4),(none, .call .no (some 12) (.k (.fn W2 [])) [(.t 10), (.t 11)]),(Jmc 5 12)]) (.seq (.reg [(Jmt 13 3),(Jmc 14 0),(Jmc 15 4),(Jmc 16 5),(Jmc 17 5),(none, .slice 18 1 (.t 14) (some (.t 15)) (some (.t 16)) (some (.t 17))),(none, .bslice 19 1 1 [(.sl true true 1 [])] [(0, 1, (.t 18))]),(none, .append 20 1 (.t 13) (.t 19)),(Jmt 3 20)]) (.reg [(Jmc 21 5),(Jmc 4 21)])))))))) (.seq (.reg [(Jmt 22 3),(Jmt 2 22)])
 .ret))))
theorem Zln : Qp Tryz.prog YL Zmv = some (Ze5, [.tmp 2], 23) := by kernel_rfl
def Zkx : List (Nat × List Md) := MM []
def Zdd : C := (.seq (.reg [(none, .mv 6 .copy (.k (.sc (.bool false))))]) (.seq (.reg [(Jmc 7 0),(Jmc 8 1),(none, .bin 9 .num .geq (.t 7) (.t 8)),(Jmc 10 9),(some (10, true), .mv 11 .copy (.t 0)),(some (10, true), .mv 12 .copy (.t 2)),(some (10, true), .bin 13 .num .leq (.t 11) (.t 12)),(none, .pick 14 (.t 10) (.t 13) (.k (.sc (.bool false)))),(Jmc 6 14)])
 .ret))
theorem Zkh : Qp Tryz.prog WT Zkx = some (Zdd, [.tmp 6], 15) := by kernel_rfl
def Zmt : List (Nat × List Md) := MM [(2, 1105), (3, 35951177), (5, 17), (6, 17), (7, 17), (8, 17), (9, 17), (11, 137), (13, 8777), (14, 1097), (17, 17), (20, 1097), (1000001, 102985)]
def Ze6 : C := (.seq (.reg [(none, .box 5 (.t 0)),(none, .mv 10 .copy (.k (N 0)))]) (.seq (.seq (.frz 5) (.reg [(Jmc 15 4),(Jba 16 15 1),(Jmc 4 16)])) (.seq (.reg [(Jfa 18 0 5),(Jlt 19 1 18),(none, .call .no (some 20) (.k (.fn VY [])) [(.t 19)]),(Jmt 17 20),(none, .extract 21 0 (.t 17)),(none, .extract 22 1 (.t 17)),(none, .alloc 11 [(.sc (.string ⟨#[]⟩)), (N 0), (.sc (.bool false)), (.sc (.bool false))]),(Jst 4 11 21),(Jmc 12 22)]) (.seq (.seq (.reg [(Jmc 23 12),(none, .un 24 .not (.t 23)),(Jmc 25 24),(some (25, false), .mv 26 .copy (.t 4)),(some (25, false), .bin 27 .num .gtr (.t 26) (.k (N 400))),(none, .pick 28 (.t 25) (.k (.sc (.bool true))) (.t 27)),(Jmc 29 28),(some (29, false), .fieldA 30 3 (.t 5)),(some (29, false), .load 31 .take false 1 (.t 30)),(some (29, false), .len 32 (.t 31)),(some (29, false), .fieldA 33 1 (.t 11)),(some (29, false), .load 34 .copy false 1 (.t 33)),(some (29, false), .bin 35 .num .neq (.t 32) (.t 34)),(none, .pick 36 (.t 29) (.k (.sc (.bool true))) (.t 35))]) (.cond (.t 36) (.seq (.reg [(none, .mv 10 .copy (.k (N 401)))])
 .ret)
 .skip)) (.seq (.block 0 (.seq (.reg [(Jfa 41 0 5),(Jlt 42 1 41),(Jbe 43 42 0),(Jmc 40 43)]) (.cond (.t 40) (.reg [(Jfa 44 1 5),(Jlt 45 1 44),(Jmc 46 1),(none, .bin 47 .num .sub (.t 46) (.k (N 1))),(none, .call .no (some 48) (.k (.fn WT [])) [(.t 45), (.k (N 0)), (.t 47)]),(Jmc 12 48)]) (.seq (.reg [(Jfa 50 0 5),(Jlt 51 1 50),(Jbe 52 51 1),(Jmc 49 52)]) (.cond (.t 49) (.reg [(Jfa 53 1 5),(Jlt 54 1 53),(none, .call .no (some 55) (.k (.fn WT [])) [(.t 54), (.k (N 0)), (.k (N 2))]),(Jmc 12 55)]) (.seq (.reg [(Jfa 57 2 11),(Jlc 58 1 57),(Jmc 56 58)]) (.cond (.t 56) (.reg [(Jmc 59 2),(Jfa 60 1 5),(Jlt 61 1 60),(none, .call .no (some 62) (.t 59) [(.t 61)]),(Jmc 12 62)]) (.reg [(Jfa 37 1 5),(Jlt 38 1 37),(Jbe 39 38 0),(Jmc 12 39)])))))))) (.seq (.seq (.reg [(Jfa 63 3 11),(Jlc 64 1 63)]) (.cond (.t 64) (.reg [(Jmc 65 12),(Jmc 66 65),(some (66, true), .mv 67 .copy (.t 3)),(some (66, true), .fieldA 68 2 (.t 5)),(some (66, true), .load 69 .take false 1 (.t 68)),(some (66, true), .call .no (some 70) (.t 67) [(.t 69)]),(none, .pick 71 (.t 66) (.t 70) (.k (.sc (.bool false)))),(Jmc 12 71)]) (.reg [(Jmc 72 12),(Jmc 73 72),(some (73, true), .fieldA 74 2 (.t 5)),(some (73, true), .load 75 .take false 1 (.t 74)),(some (73, true), .len 76 (.t 75)),(some (73, true), .bin 77 .num .eql (.t 76) (.k (N 0))),(none, .pick 78 (.t 73) (.t 77) (.k (.sc (.bool false)))),(Jmc 12 78)]))) (.seq (.seq (.reg [(Jmc 79 12),(none, .un 80 .not (.t 79))]) (.cond (.t 80) (.seq (.reg [(none, .mv 10 .copy (.k (N 401)))])
 .ret)
 .skip)) (.seq (.seq (.reg [(Jfa 81 3 5),(Jlt 82 1 81),(Jln 83 82),(none, .mv 84 .copy (.k (N 0)))]) (.block 1 (.loop (.seq (.reg [(Jbl 85 84 83)]) (.seq (.cond (.t 85)
 .skip (.exit 1)) (.seq (.block 2 (.seq (.reg [(Jmc 86 84),(Jia 87 4 82 84),(JlC 88 4 87),(none, .alloc 14 [(N 0), (N 0), (.sl true true 1 []), (.sl true true 1 [])]),(Jmc 13 86),(Jst 4 14 88)]) (.seq (.reg [(JlC 89 4 14),(Jmc 90 1),(Jfa 91 0 5),(Jlt 92 1 91),(Jmc 93 13),(none, .call .no (some 94) (.k (.fn KE [])) [(.t 92), (.t 93)]),(none, .bin 95 .num .add (.t 90) (.t 94)),(Jmc 96 2),(Jmc 97 3),(Jmc 98 4),(none, .call .no (some 99) (.k (.fn K3 [])) [(.t 89), (.t 95), (.t 96), (.t 97), (.t 98)]),(Jmc 4 99)]) (.seq (.reg [(Jmc 100 4),(none, .bin 101 .num .gtr (.t 100) (.k (N 400)))]) (.cond (.t 101) (.seq (.reg [(none, .mv 10 .copy (.k (N 401)))])
 .ret)
 .skip))))) (.reg [(Jba 102 84 1),(Jmc 84 102)]))))))) (.seq (.reg [(Jmc 103 4),(Jmc 10 103)])
 .ret)))))))))
theorem Zlk : Qp Tryz.prog K3 Zmt = some (Ze6, [.tmp 10], 104) := by kernel_rfl
def Ze3 : List (Nat × List Md) := MM [(1, 17)]
def VS : C := (.seq (.reg [(none, .mv 3 .copy (.k (.sc (.bool false))))]) (.seq (.reg [(JlC 4 4 1),(Jmt 5 0),(none, .call .no (some 6) (.k (.fn Z0 [])) [(.t 4), (.t 5)]),(Jmc 3 6)])
 .ret))
theorem Zem : Qp Tryz.prog Yb Ze3 = some (VS, [.tmp 3], 7) := by kernel_rfl
def ZgX : List (Nat × List Md) := MM [(3, 2), (6, 137), (7, 4493897), (1000001, 201)]
def Zbn : C := (.seq (.reg [(none, .box 2 (.t 0)),(none, .mv 4 .copy (.k (.sc (.bool false))))]) (.seq (.seq (.seq (.frz 2) (.reg [(Jmc 9 1),(none, .call .no (some 10) (.k (.fn Zc [])) [(.t 9)]),(none, .un 11 .not (.t 10))])) (.cond (.t 11) (.seq (.reg [(none, .mv 4 .copy (.k (.sc (.bool false))))])
 .ret)
 .skip)) (.seq (.seq (.reg [(Jmt 12 1),(Jln 13 12),(none, .mv 14 .copy (.k (N 0)))]) (.block 0 (.loop (.seq (.reg [(Jbl 15 14 13)]) (.seq (.cond (.t 15)
 .skip (.exit 0)) (.seq (.block 1 (.seq (.reg [(Jia 16 1 12 14),(Jlc 17 1 16),(Jmc 6 17)]) (.seq (.reg [(Jmc 19 6),(none, .call .no (some 20) (.k (.fn XN [])) [(.t 19)]),(Jmt 18 20),(none, .extract 21 0 (.t 18)),(none, .extract 22 1 (.t 18)),(Jmc 7 21),(Jmc 8 22)]) (.seq (.reg [(Jmc 23 7),(Jbe 24 23 3),(Jmc 25 24),(some (25, false), .mv 26 .copy (.t 7)),(some (25, false), .bin 27 .num .eql (.t 26) (.k (N 4))),(none, .pick 28 (.t 25) (.k (.sc (.bool true))) (.t 27)),(Jmc 29 28),(some (29, true), .load 30 .take true 4 (.t 2)),(some (29, true), .mv 31 .copy (.t 8)),(some (29, true), .call .no (some 32) (.k (.fn Ww [])) [(.t 30), (.t 31)]),(some (29, true), .un 33 .not (.t 32)),(none, .pick 34 (.t 29) (.t 33) (.k (.sc (.bool false))))]) (.cond (.t 34) (.seq (.reg [(none, .mv 4 .copy (.k (.sc (.bool false))))])
 .ret)
 .skip))))) (.reg [(Jba 35 14 1),(Jmc 14 35)]))))))) (.seq (.reg [(none, .mv 4 .copy (.k (.sc (.bool true))))])
 .ret))))
theorem ZgT : Qp Tryz.prog Z0 ZgX = some (Zbn, [.tmp 4], 36) := by kernel_rfl
def ZiO : List (Nat × List Md) := MM [(3, 70282), (6, 18)]
def Zck : C := (.seq (.reg [(none, .mv 2 .copy (.k (.sl true true 1 [])))]) (.seq (.seq (.reg [(Jmc 5 0),(none, .call .no (some 6) (.k (.fn YX [])) [(.t 5)]),(none, .un 7 .not (.t 6))]) (.cond (.t 7) (.seq (.reg [(none, .mv 2 .copy (.k (.sl true true 1 [])))])
 .ret)
 .skip)) (.seq (.reg [(Jmt 9 0),(none, .call .no (some 10) (.k (.fn Kn [])) [(.t 9), (.k (N 0))]),(Jmt 8 10),(none, .extract 11 0 (.t 8)),(none, .extract 12 1 (.t 8)),(Jmt 3 11),(Jmc 4 12)]) (.seq (.seq (.reg [(Jmc 13 3),(Jln 14 13),(none, .bin 15 .num .gtr (.t 14) (.k (N 40)))]) (.cond (.t 15) (.seq (.reg [(none, .mv 2 .copy (.k (.sl true true 1 [])))])
 .ret)
 .skip)) (.seq (.reg [(Jmt 16 3),(Jmt 2 16)])
 .ret)))))
theorem ZiC : Qp Tryz.prog Jz ZiO = some (Zck, [.tmp 2], 17) := by kernel_rfl
def Zhp : List (Nat × List Md) := MM []
def ZbW : C := (.seq (.reg [(none, .mv 2 .copy (.k (N 0)))]) (.seq (.block 0 (.seq (.reg [(Jmc 4 0),(none, .bin 5 .num .geq (.t 4) (.k (N 35))),(Jmc 3 5)]) (.cond (.t 3) (.seq (.reg [(none, .mv 2 .copy (.k (N (-1))))])
 .ret) (.seq (.reg [(Jmc 7 0),(none, .bin 8 .num .geq (.t 7) (.k (N 19))),(Jmc 6 8)]) (.cond (.t 6) (.seq (.reg [(Jmc 9 0),(none, .bin 10 .num .sub (.t 9) (.k (N 19))),(Jmc 2 10)])
 .ret)
 .skip))))) (.seq (.reg [(Jmc 11 0),(none, .bin 12 .num .sub (.t 11) (.k (N 3))),(Jmc 2 12)])
 .ret)))
theorem ZhD : Qp Tryz.prog XY Zhp = some (ZbW, [.tmp 2], 13) := by kernel_rfl
def ZlA : List (Nat × List Md) := MM [(1, 8777), (2, 137), (3, 8778), (8, 147256021577), (9, 2), (11, 137), (12, 8786), (14, 18)]
def Ze4 : C := (.seq (.reg [(none, .mv 2 .copy (.k (.sl true true 1 [])))]) (.seq (.reg [(Jmc 11 0),(none, .indexA 12 1 (.t 11) (.k (N 0))),(Jlc 13 1 12),(none, .call .no (some 14) (.k (.fn XN [])) [(.t 13)]),(Jmt 10 14),(none, .extract 15 0 (.t 10)),(none, .extract 16 1 (.t 10)),(Jmc 3 15),(Jmc 4 16)]) (.seq (.reg [(Jmc 17 0),(none, .call .no (some 18) (.k (.fn YL [])) [(.t 17)]),(Jmt 5 18)]) (.seq (.reg [(Jmt 19 0),(none, .indexA 20 1 (.t 19) (.k (N 0))),(Jlc 21 1 20),(none, .bslice 22 1 1 [(N 0)] [(0, 1, (.t 21))]),(Jmt 6 22)]) (.seq (.seq (.reg [(Jmc 23 3),(Jbe 24 23 3)]) (.cond (.t 24) (.seq (.reg [(none, .mv 7 .copy (.k (N 36)))]) (.seq (.seq (.reg [(Jmc 25 4),(none, .bin 26 .num .geq (.t 25) (.k (N 0)))]) (.cond (.t 26) (.reg [(Jmc 27 4),(none, .bin 28 .num .add (.k (N 19)) (.t 27)),(Jmc 7 28)])
 .skip)) (.seq (.reg [(Jmc 29 7),(none, .bslice 30 1 2 [(N 0), (N 0)] [(0, 1, (.k (N 4))), (1, 1, (.t 29))]),(Jmc 31 5),(none, .indexA 32 1 (.t 31) (.k (N 0))),(Jlc 33 1 32),(none, .call .no (some 34) (.k (.fn Ye [])) [(.t 33)]),(Jmc 35 5),(none, .indexA 36 1 (.t 35) (.k (N 1))),(Jlc 37 1 36),(none, .call .no (some 38) (.k (.fn Ye [])) [(.t 37)]),(none, .bslice 39 1 3 [(.sl true true 1 []), (.sl true true 1 []), (.sl true true 1 [])] [(0, 1, (.t 30)), (1, 1, (.t 34)), (2, 1, (.t 38))]),(none, .call .no (some 40) (.k (.fn QH [])) [(.t 39)]),(Jmt 2 40)])
 .ret)))
 .skip)) (.seq (.seq (.reg [(Jmt 41 5),(Jln 42 41),(none, .mv 43 .copy (.k (N 0)))]) (.block 0 (.loop (.seq (.reg [(Jbl 44 43 42)]) (.seq (.cond (.t 44)
 .skip (.exit 0)) (.seq (.block 1 (.seq (.reg [(Jia 45 1 41 43),(Jlc 46 1 45),(Jmt 9 46)]) (.reg [(Jmt 47 6),(Jmt 48 9),(none, .call .no (some 49) (.k (.fn Ye [])) [(.t 48)]),(none, .append 50 1 (.t 47) (.t 49)),(Jmt 6 50)]))) (.reg [(Jba 51 43 1),(Jmc 43 51)]))))))) (.seq (.reg [(Jmt 52 6),(Jmt 2 52)])
 .ret)))))))
theorem ZlF : Qp Tryz.prog Ye ZlA = some (Ze4, [.tmp 2], 53) := by kernel_rfl
def Zmr : List (Nat × List Md) := MM []
def Zel : C := (.seq (.reg [(none, .mv 2 .copy (.k (N 0))),(none, .mv 3 .copy (.k (N 0)))]) (.seq (.block 0 (.seq (.reg [(Jmc 5 0),(none, .call .no (some 6) (.k (.fn WT [])) [(.t 5), (.k (N 0)), (.k (N 2))]),(Jmc 4 6)]) (.cond (.t 4) (.seq (.reg [(Jmc 7 0),(Jmc 2 7),(none, .mv 3 .copy (.k (N (-1))))])
 .ret) (.seq (.reg [(Jmc 9 0),(none, .call .no (some 10) (.k (.fn WT [])) [(.t 9), (.k (N 3)), (.k (N 18))]),(Jmc 8 10)]) (.cond (.t 8) (.seq (.reg [(Jmc 11 0),(none, .bin 12 .num .sub (.t 11) (.k (N 3))),(none, .mv 2 .copy (.k (N 3))),(Jmc 3 12)])
 .ret) (.seq (.reg [(Jmc 14 0),(none, .call .no (some 15) (.k (.fn WT [])) [(.t 14), (.k (N 19)), (.k (N 34))]),(Jmc 13 15)]) (.cond (.t 13) (.seq (.reg [(Jmc 16 0),(none, .bin 17 .num .sub (.t 16) (.k (N 19))),(none, .mv 2 .copy (.k (N 4))),(Jmc 3 17)])
 .ret) (.seq (.reg [(Jmc 19 0),(Jbe 20 19 35),(Jmc 18 20)]) (.cond (.t 18) (.seq (.reg [(none, .mv 2 .copy (.k (N 3))),(none, .mv 3 .copy (.k (N (-1))))])
 .ret) (.seq (.reg [(Jmc 22 0),(Jbe 23 22 36),(Jmc 21 23)]) (.cond (.t 21) (.seq (.reg [(none, .mv 2 .copy (.k (N 4))),(none, .mv 3 .copy (.k (N (-1))))])
 .ret)
 .skip))))))))))) (.seq (.reg [(none, .mv 2 .copy (.k (N 5))),(none, .mv 3 .copy (.k (N (-1))))])
 .ret)))
theorem Zl4 : Qp Tryz.prog XN Zmr = some (Zel, [.tmp 2, .tmp 3], 24) := by kernel_rfl
def ZjO : List (Nat × List Md) := MM []
def Zc5 : C := (.seq (.reg [(none, .mv 4 .copy (.k (.sc (.bool false))))]) (.seq (.seq (.reg [(Jmc 6 0),(Jln 7 6),(Jmc 8 1),(Jln 9 8),(none, .bin 10 .num .neq (.t 7) (.t 9))]) (.cond (.t 10) (.seq (.reg [(none, .mv 4 .copy (.k (.sc (.bool false))))])
 .ret)
 .skip)) (.seq (.seq (.reg [(none, .mv 5 .copy (.k (N 0)))]) (.block 0 (.loop (.seq (.seq (.reg [(Jmc 11 5),(Jmc 12 0),(Jln 13 12),(Jbl 14 11 13)]) (.cond (.t 14)
 .skip (.exit 0))) (.seq (.block 1 (.seq (.reg [(Jmc 17 0),(Jmc 18 5),(Jia 19 1 17 18),(Jlc 20 1 19),(Jmc 21 1),(Jmc 22 5),(Jia 23 1 21 22),(Jlc 24 1 23),(none, .bin 25 .num .neq (.t 20) (.t 24))]) (.cond (.t 25) (.seq (.reg [(none, .mv 4 .copy (.k (.sc (.bool false))))])
 .ret)
 .skip))) (.reg [(Jmc 15 5),(Jba 16 15 1),(Jmc 5 16)])))))) (.seq (.reg [(none, .mv 4 .copy (.k (.sc (.bool true))))])
 .ret))))
theorem Zj2 : Qp Tryz.prog ZT ZjO = some (Zc5, [.tmp 4], 26) := by kernel_rfl
def Zkp : List (Nat × List Md) := MM [(1, 2), (4, 137), (6, 4493905), (1000001, 12873)]
def Zdb : C := (.seq (.reg [(none, .box 4 (.t 0)),(none, .mv 8 .copy (.k (.sc (.bool false))))]) (.seq (.seq (.seq (.frz 4) (.reg [(JlT 10 4 4),(Jmc 11 1),(Jmc 12 2),(Jmc 13 3),(none, .call .no (some 14) (.k (.fn V2 [])) [(.t 10), (.t 11), (.t 12), (.t 13)]),(none, .un 15 .not (.t 14))])) (.cond (.t 15) (.seq (.reg [(none, .mv 8 .copy (.k (.sc (.bool false))))])
 .ret)
 .skip)) (.seq (.seq (.reg [(none, .mv 9 .copy (.k (N 0)))]) (.block 0 (.loop (.seq (.seq (.reg [(Jmc 16 9),(Jfa 17 3 4),(Jlt 18 1 17),(Jln 19 18),(Jbl 20 16 19)]) (.cond (.t 20)
 .skip (.exit 0))) (.seq (.block 1 (.seq (.reg [(Jfa 23 3 4),(Jlt 24 1 23),(Jmc 25 9),(Jia 26 4 24 25),(JlC 27 4 26),(Jmc 28 1),(Jfa 29 0 4),(Jlt 30 1 29),(Jmc 31 9),(none, .call .no (some 32) (.k (.fn ZQ [])) [(.t 30), (.t 31)]),(none, .bin 33 .num .add (.t 28) (.t 32)),(Jmc 34 2),(Jmc 35 3),(none, .call .no (some 36) (.k (.fn Ko [])) [(.t 27), (.t 33), (.t 34), (.t 35)]),(none, .un 37 .not (.t 36))]) (.cond (.t 37) (.seq (.reg [(none, .mv 8 .copy (.k (.sc (.bool false))))])
 .ret)
 .skip))) (.reg [(Jmc 21 9),(Jba 22 21 1),(Jmc 9 22)])))))) (.seq (.reg [(none, .mv 8 .copy (.k (.sc (.bool true))))])
 .ret))))
theorem Zkq : Qp Tryz.prog Ko Zkp = some (Zdb, [.tmp 8], 38) := by kernel_rfl
def ZjT : List (Nat × List Md) := MM []
def Zdt : C := (.seq (.reg [(none, .mv 4 .copy (.k (N 0)))]) (.seq (.block 0 (.seq (.reg [(Jmc 6 0),(Jbe 7 6 5),(Jmc 8 7),(some (8, true), .mv 9 .copy (.t 1)),(some (8, true), .bin 10 .num .eql (.t 9) (.k (N 1))),(none, .pick 11 (.t 8) (.t 10) (.k (.sc (.bool false)))),(Jmc 5 11)]) (.cond (.t 5) (.seq (.reg [(none, .mv 4 .copy (.k (N 2)))])
 .ret) (.seq (.reg [(Jmc 13 0),(Jbe 14 13 8),(Jmc 15 14),(some (15, true), .mv 16 .copy (.t 1)),(some (15, true), .bin 17 .num .gtr (.t 16) (.k (N 0))),(none, .pick 18 (.t 15) (.t 17) (.k (.sc (.bool false)))),(Jmc 19 18),(some (19, false), .mv 20 .copy (.t 0)),(some (19, false), .bin 21 .num .eql (.t 20) (.k (N 9))),(none, .pick 22 (.t 19) (.k (.sc (.bool true))) (.t 21)),(Jmc 23 22),(some (23, false), .mv 24 .copy (.t 0)),(some (23, false), .bin 25 .num .eql (.t 24) (.k (N 12))),(some (23, false), .mv 26 .copy (.t 25)),(some (26, true), .mv 27 .copy (.t 1)),(some (26, true), .bin 28 .num .eql (.t 27) (.k (N 1))),(some (23, false), .pick 29 (.t 26) (.t 28) (.k (.sc (.bool false)))),(none, .pick 30 (.t 23) (.k (.sc (.bool true))) (.t 29)),(Jmc 12 30)]) (.cond (.t 12) (.seq (.reg [(none, .mv 4 .copy (.k (N 1)))])
 .ret)
 .skip))))) (.seq (.reg [(none, .mv 4 .copy (.k (N 0)))])
 .ret)))
theorem Zjv : Qp Tryz.prog ZQ ZjT = some (Zdt, [.tmp 4], 31) := by kernel_rfl
def Zki : List (Nat × List Md) := MM [(1, 137), (5, 561738), (6, 18)]
def Zdj : C := (.seq (.reg [(none, .mv 4 .copy (.k (.sl true true 1 [])))]) (.seq (.reg [(Jmc 7 0),(none, .bslice 8 1 1 [(N 0)] [(0, 1, (.t 7))]),(Jmt 5 8)]) (.seq (.seq (.reg [(none, .mv 6 .copy (.k (N 0)))]) (.block 0 (.loop (.seq (.seq (.reg [(Jmc 9 6),(Jmc 10 1),(Jln 11 10),(Jbl 12 9 11)]) (.cond (.t 12)
 .skip (.exit 0))) (.seq (.block 1 (.reg [(Jmt 15 5),(Jmc 16 1),(Jmc 17 6),(Jia 18 1 16 17),(Jlc 19 1 18),(none, .append 20 1 (.t 15) (.t 19)),(Jmt 5 20)])) (.reg [(Jmc 13 6),(Jba 14 13 1),(Jmc 6 14)])))))) (.seq (.reg [(Jmt 21 5),(Jmt 4 21)])
 .ret))))
theorem Zjl : Qp Tryz.prog Xt Zki = some (Zdj, [.tmp 4], 22) := by kernel_rfl
def Zmk : List (Nat × List Md) := MM []
def ZeP : C := (.seq (.reg [(none, .mv 2 .copy (.k (.sc (.bool false))))]) (.seq (.reg [(Jmc 3 0),(none, .call .no (some 4) (.k (.fn Xx [])) [(.t 3), (.k (N 19)), (.k (N 34))]),(Jmc 5 4),(some (5, false), .mv 6 .copy (.t 0)),(some (5, false), .bin 7 .num .eql (.t 6) (.k (N 36))),(none, .pick 8 (.t 5) (.k (.sc (.bool true))) (.t 7)),(Jmc 2 8)])
 .ret))
theorem ZlI : Qp Tryz.prog K5 Zmk = some (ZeP, [.tmp 2], 9) := by kernel_rfl
def ZgQ : List (Nat × List Md) := MM [(1, 2), (4, 137), (6, 2), (9, 137), (11, 2), (14, 137), (16, 2), (1000001, 25)]
def Zbm : C := (.seq (.reg [(none, .box 1 (.t 0)),(none, .mv 2 .copy (.k (.sc (.bool false))))]) (.seq (.seq (.seq (.frz 1) (.reg [(JlT 6 4 1),(none, .call .no (some 7) (.k (.fn KT [])) [(.t 6)]),(none, .un 8 .not (.t 7))])) (.cond (.t 8) (.seq (.reg [(none, .mv 2 .copy (.k (.sc (.bool false))))])
 .ret)
 .skip)) (.seq (.seq (.reg [(none, .mv 3 .copy (.k (N 0)))]) (.block 0 (.loop (.seq (.seq (.reg [(Jmc 9 3),(Jfa 10 0 1),(Jlt 11 1 10),(Jbl 12 9 11)]) (.cond (.t 12)
 .skip (.exit 0))) (.seq (.block 1 (.seq (.seq (.reg [(JlT 15 4 1),(Jmc 16 3),(none, .call .no (some 17) (.k (.fn Za5 [])) [(.t 15), (.t 16)]),(none, .un 18 .not (.t 17))]) (.cond (.t 18) (.seq (.reg [(none, .mv 2 .copy (.k (.sc (.bool false))))])
 .ret)
 .skip)) (.seq (.reg [(none, .mv 4 .copy (.k (N 0)))]) (.block 2 (.loop (.seq (.seq (.reg [(Jmc 19 4),(Jfa 20 0 1),(Jlt 21 1 20),(Jbl 22 19 21)]) (.cond (.t 22)
 .skip (.exit 2))) (.seq (.block 3 (.seq (.seq (.reg [(JlT 25 4 1),(Jmc 26 3),(Jmc 27 4),(none, .call .no (some 28) (.k (.fn ZaM [])) [(.t 25), (.t 26), (.t 27)]),(none, .un 29 .not (.t 28))]) (.cond (.t 29) (.seq (.reg [(none, .mv 2 .copy (.k (.sc (.bool false))))])
 .ret)
 .skip)) (.seq (.reg [(none, .mv 5 .copy (.k (N 0)))]) (.block 4 (.loop (.seq (.seq (.reg [(Jmc 30 5),(Jfa 31 0 1),(Jlt 32 1 31),(Jbl 33 30 32)]) (.cond (.t 33)
 .skip (.exit 4))) (.seq (.block 5 (.seq (.reg [(JlT 36 4 1),(Jmc 37 3),(Jmc 38 4),(Jmc 39 5),(none, .call .no (some 40) (.k (.fn Vw [])) [(.t 36), (.t 37), (.t 38), (.t 39)]),(none, .un 41 .not (.t 40))]) (.cond (.t 41) (.seq (.reg [(none, .mv 2 .copy (.k (.sc (.bool false))))])
 .ret)
 .skip))) (.reg [(Jmc 34 5),(Jba 35 34 1),(Jmc 5 35)])))))))) (.reg [(Jmc 23 4),(Jba 24 23 1),(Jmc 4 24)])))))))) (.reg [(Jmc 13 3),(Jba 14 13 1),(Jmc 3 14)])))))) (.seq (.reg [(none, .mv 2 .copy (.k (.sc (.bool true))))])
 .ret))))
theorem Zgw : Qp Tryz.prog Z1 ZgQ = some (Zbm, [.tmp 2], 42) := by kernel_rfl
def ZfC : List (Nat × List Md) := MM [(6, 147256021577), (1000001, 201)]
def Zag : C := (.seq (.reg [(none, .box 2 (.t 0)),(none, .mv 4 .copy (.k (.sc (.bool false))))]) (.seq (.seq (.seq (.frz 2) (.reg [(Jmc 6 1),(Jln 7 6),(none, .bin 8 .num .gtr (.t 7) (.k (N 8)))])) (.cond (.t 8) (.seq (.reg [(none, .mv 4 .copy (.k (.sc (.bool false))))])
 .ret)
 .skip)) (.seq (.seq (.reg [(none, .mv 5 .copy (.k (N 0)))]) (.block 0 (.loop (.seq (.seq (.reg [(Jmc 9 5),(Jmc 10 1),(Jln 11 10),(Jbl 12 9 11)]) (.cond (.t 12)
 .skip (.exit 0))) (.seq (.block 1 (.seq (.reg [(Jmc 15 1),(Jmc 16 5),(Jia 17 1 15 16),(Jlc 18 1 17),(none, .call .no (some 19) (.k (.fn YX [])) [(.t 18)]),(none, .un 20 .not (.t 19)),(Jmc 21 20),(some (21, false), .mv 22 .copy (.t 1)),(some (21, false), .mv 23 .copy (.t 5)),(some (21, false), .indexA 24 1 (.t 22) (.t 23)),(some (21, false), .load 25 .copy false 1 (.t 24)),(some (21, false), .fieldA 26 0 (.t 2)),(some (21, false), .load 27 .take false 1 (.t 26)),(some (21, false), .call .no (some 28) (.k (.fn ZW [])) [(.t 25), (.t 27), (.k (.sc (.bool true)))]),(some (21, false), .un 29 .not (.t 28)),(none, .pick 30 (.t 21) (.k (.sc (.bool true))) (.t 29))]) (.cond (.t 30) (.seq (.reg [(none, .mv 4 .copy (.k (.sc (.bool false))))])
 .ret)
 .skip))) (.reg [(Jmc 13 5),(Jba 14 13 1),(Jmc 5 14)])))))) (.seq (.reg [(none, .mv 4 .copy (.k (.sc (.bool true))))])
 .ret))))
theorem ZfO : Qp Tryz.prog Kh ZfC = some (Zag, [.tmp 4], 31) := by kernel_rfl
def Zj3 : List (Nat × List Md) := MM [(1, 75463804621386), (1000001, 13897)]
def ZdB : C := (.seq (.reg [(none, .box 3 (.t 0)),(none, .box 4 (.t 1)),(none, .mv 6 .copy (.k (.sc (.bool false))))]) (.seq (.seq (.frz 3) (.seq (.frz 4) (.reg [(JlT 7 4 3),(none, .call .no (some 8) (.k (.fn Z1 [])) [(.t 7)]),(Jmc 9 8),(some (9, true), .mv 10 .copy (.t 2)),(some (9, true), .call .no (some 11) (.k (.fn Xx [])) [(.t 10), (.k (N 0)), (.k (N 8))]),(none, .pick 12 (.t 9) (.t 11) (.k (.sc (.bool false)))),(Jmc 13 12),(some (13, true), .load 14 .take true 4 (.t 4)),(some (13, true), .call .no (some 15) (.k (.fn ZU [])) [(.t 14), (.k (N 400))]),(some (13, true), .bin 16 .num .geq (.t 15) (.k (N 0))),(none, .pick 17 (.t 13) (.t 16) (.k (.sc (.bool false)))),(Jmc 18 17),(some (18, true), .load 19 .take true 4 (.t 4)),(some (18, true), .mv 20 .copy (.t 2)),(some (18, true), .fieldA 21 0 (.t 3)),(some (18, true), .load 22 .take false 1 (.t 21)),(some (18, true), .call .no (some 23) (.k (.fn Ko [])) [(.t 19), (.t 20), (.t 22), (.k (.sc (.bool true)))]),(none, .pick 24 (.t 18) (.t 23) (.k (.sc (.bool false)))),(Jmc 6 24)])))
 .ret))
theorem ZjW : Qp Tryz.prog V8 Zj3 = some (ZdB, [.tmp 6], 25) := by kernel_rfl
def Zke : List (Nat × List Md) := MM [(1, 201)]
def ZdF : C := (.seq (.reg [(none, .mv 2 .copy (.k (.sl true true 1 [])))]) (.seq (.reg [(Jmc 3 0),(none, .mkslice 4 1 [(N 0)] (.t 3)),(none, .mv 2 .frz (.t 4))])
 .ret))
theorem ZjP : Qp Tryz.prog YW Zke = some (ZdF, [.tmp 2], 5) := by kernel_rfl
def Zno : List (Nat × List Md) := MM [(1, 1106), (4, 3), (1000001, 832073)]
def ZfX : C := (.seq (.reg [(none, .box 4 (.t 0)),(none, .box 6 (.t 2)),(none, .alloc 8 [(.sl true true 1 []), (.sl true true 1 []), (N 0), (.sl true true 1 [])])]) (.seq (.seq (.frz 4) (.seq (.frz 6) (.reg [(JlT 10 4 4),(Jmt 11 1),(Jfa 12 3 6),(Jlt 13 1 12),(Jmc 14 3),(Jia 15 4 13 14),(JlC 16 4 15),(none, .call .no (some 17) (.k (.fn Wq [])) [(.t 10), (.t 11), (.t 16)]),(none, .alloc 9 [(.sl true true 1 []), (.sl true true 1 []), (N 0), (.sl true true 1 [])]),(Jst 4 9 17)]))) (.seq (.seq (.reg [(Jfa 18 2 9),(Jlc 19 1 18),(none, .bin 20 .num .neq (.t 19) (.k (N 0)))]) (.cond (.t 20) (.reg [(Jmc 21 3),(none, .bslice 22 1 1 [(N 0)] [(0, 1, (.t 21))]),(Jfa 23 3 9),(Jlc 24 1 23),(none, .append 25 1 (.t 22) (.t 24)),(Jfa 26 3 9),(Jst 1 26 25)])
 .skip)) (.seq (.reg [(none, .load 27 .frz true 4 (.t 9)),(Jst 4 8 27)])
 .ret))))
theorem Znw : Qp Tryz.prog Yd Zno = some (ZfX, [.cell 8 true 4], 28) := by kernel_rfl
def Zly : List (Nat × List Md) := MM []
def Zep : C := (.seq (.reg [(none, .alloc 2 [(.sl true true 1 []), (.sl true true 1 []), (N 0), (.sl true true 1 [])])]) (.seq (.reg [(Jmc 3 0),(none, .build 4 [(.sl true true 1 []), (.sl true true 1 []), (N 0), (.sl true true 1 [])] [(2, 1, (.t 3))]),(Jst 4 2 4)])
 .ret))
theorem Zle : Qp Tryz.prog WE Zly = some (Zep, [.cell 2 true 4], 5) := by kernel_rfl
def ZfH : List (Nat × List Md) := MM [(1, 138), (2, 17), (3, 2), (4, 17), (5, 17), (7, 565905), (8, 146), (9, 17), (10, 2), (11, 1105), (13, 289743505), (1000001, 7123529), (2000001, 421827145), (2000008, 3374617161)]
def JZ : C := (.seq (.reg [(none, .box 4 (.t 0)),(none, .box 6 (.t 2)),(none, .box 7 (.t 3)),(none, .alloc 8 [(.sl true true 1 []), (.sl true true 1 []), (N 0), (.sl true true 1 [])])]) (.seq (.seq (.frz 4) (.seq (.frz 6) (.seq (.frz 7) (.seq (.reg [(JlT 11 4 4),(Jmc 12 1),(JlT 13 4 6),(none, .call .no (some 14) (.k (.fn Yd [])) [(.t 11), (.t 12), (.t 13), (.k (N 1))]),(none, .alloc 9 [(.sl true true 1 []), (.sl true true 1 []), (N 0), (.sl true true 1 [])]),(Jst 4 9 14)]) (.frz 9))))) (.seq (.seq (.reg [(Jfa 15 2 9),(Jlt 16 1 15),(none, .bin 17 .num .neq (.t 16) (.k (N 0)))]) (.cond (.t 17) (.seq (.reg [(JlT 18 4 9),(Jst 4 8 18)])
 .ret)
 .skip)) (.seq (.seq (.reg [(Jfa 19 0 6),(Jlt 20 1 19),(Jbe 21 20 2)]) (.cond (.t 21) (.seq (.seq (.reg [(Jfa 22 0 9),(Jlt 23 1 22),(none, .indexA 24 1 (.t 23) (.k (N 0))),(Jlc 25 1 24),(none, .bin 26 .num .neq (.t 25) (.k (N 0)))]) (.cond (.t 26) (.seq (.reg [(none, .call .no (some 27) (.k (.fn WE [])) [(.k (N 2))]),(Jst 4 8 27)])
 .ret)
 .skip)) (.seq (.reg [(Jfa 28 0 9),(Jlt 29 1 28),(JlT 30 4 4),(Jfa 31 1 7),(Jlt 32 1 31),(Jfa 33 1 9),(Jlt 34 1 33),(none, .call .no (some 35) (.k (.fn XP [])) [(.t 30), (.t 32), (.k (N 1)), (.t 34)]),(none, .build 36 [(.sl true true 1 []), (.sl true true 1 []), (N 0), (.sl true true 1 [])] [(0, 1, (.t 29)), (1, 1, (.t 35))]),(Jst 4 8 36)])
 .ret))
 .skip)) (.seq (.seq (.reg [(JlT 37 4 4),(Jmt 38 1),(JlT 39 4 6),(none, .call .no (some 40) (.k (.fn Yd [])) [(.t 37), (.t 38), (.t 39), (.k (N 2))]),(none, .alloc 10 [(.sl true true 1 []), (.sl true true 1 []), (N 0), (.sl true true 1 [])]),(Jst 4 10 40)]) (.frz 10)) (.seq (.seq (.reg [(Jfa 41 2 10),(Jlt 42 1 41),(none, .bin 43 .num .neq (.t 42) (.k (N 0)))]) (.cond (.t 43) (.seq (.reg [(JlT 44 4 10),(Jst 4 8 44)])
 .ret)
 .skip)) (.seq (.seq (.reg [(Jfa 45 0 9),(Jlt 46 1 45),(Jfa 47 0 10),(Jlt 48 1 47),(none, .call .no (some 49) (.k (.fn ZT [])) [(.t 46), (.t 48)]),(none, .un 50 .not (.t 49))]) (.cond (.t 50) (.seq (.reg [(none, .call .no (some 51) (.k (.fn WE [])) [(.k (N 3))]),(Jst 4 8 51)])
 .ret)
 .skip)) (.seq (.reg [(Jfa 52 0 9),(Jlt 53 1 52),(JlT 54 4 4),(Jfa 55 1 7),(Jlt 56 1 55),(JlT 57 4 4),(Jfa 58 1 9),(Jlt 59 1 58),(Jfa 60 1 10),(Jlt 61 1 60),(none, .call .no (some 62) (.k (.fn Kk [])) [(.t 57), (.t 59), (.t 61)]),(none, .call .no (some 63) (.k (.fn XP [])) [(.t 54), (.t 56), (.k (N 1)), (.t 62)]),(none, .build 64 [(.sl true true 1 []), (.sl true true 1 []), (N 0), (.sl true true 1 [])] [(0, 1, (.t 53)), (1, 1, (.t 63))]),(Jst 4 8 64)])
 .ret))))))))
theorem Zap : Qp Tryz.prog Zq ZfH = some (JZ, [.cell 8 true 4], 65) := by kernel_rfl
def Zj4 : List (Nat × List Md) := MM [(3, 18)]
def Zdu : C := (.seq (.reg [(none, .alloc 4 [(.sl true true 1 []), (.sl true true 1 []), (N 0), (.sl true true 1 [])])]) (.seq (.seq (.reg [(Jmc 5 0),(Jln 6 5),(none, .bin 7 .num .gtr (.t 6) (.k (N 40)))]) (.cond (.t 7) (.seq (.reg [(none, .call .no (some 8) (.k (.fn WE [])) [(.k (N 3))]),(Jst 4 4 8)])
 .ret)
 .skip)) (.seq (.reg [(Jmt 9 0),(Jmt 10 1),(none, .build 11 [(.sl true true 1 []), (.sl true true 1 []), (N 0), (.sl true true 1 [])] [(0, 1, (.t 9)), (1, 1, (.t 10))]),(Jst 4 4 11)])
 .ret)))
theorem ZjZ : Qp Tryz.prog Yk Zj4 = some (Zdu, [.cell 4 true 4], 12) := by kernel_rfl
def Zli : List (Nat × List Md) := MM [(1, 17), (5, 603160664642130), (6, 18), (1000001, 12873)]
def ZeN : C := (.seq (.reg [(none, .box 4 (.t 0)),(none, .mv 8 .copy (.k (.sl true true 1 [])))]) (.seq (.seq (.frz 4) (.reg [(none, .bslice 11 1 0 [] []),(Jmt 9 11)])) (.seq (.seq (.reg [(none, .mv 10 .copy (.k (N 0)))]) (.block 0 (.loop (.seq (.seq (.reg [(Jmc 12 10),(Jmc 13 1),(Jln 14 13),(Jbl 15 12 14)]) (.cond (.t 15)
 .skip (.exit 0))) (.seq (.block 1 (.reg [(Jmt 18 9),(JlT 19 4 4),(Jmc 20 1),(Jmc 21 10),(Jia 22 1 20 21),(Jlc 23 1 22),(JlT 24 4 4),(Jmc 25 2),(Jmc 26 3),(Jmc 27 10),(Jia 28 1 26 27),(Jlc 29 1 28),(none, .call .no (some 30) (.k (.fn Q0 [])) [(.t 24), (.t 25), (.t 29)]),(none, .call .no (some 31) (.k (.fn Wx [])) [(.t 19), (.t 23), (.t 30)]),(none, .bslice 32 1 1 [(N 0)] [(0, 1, (.t 31))]),(none, .append 33 1 (.t 18) (.t 32)),(Jmt 9 33)])) (.reg [(Jmc 16 10),(Jba 17 16 1),(Jmc 10 17)])))))) (.seq (.reg [(Jmt 34 9),(Jmt 8 34)])
 .ret))))
theorem Zl9 : Qp Tryz.prog XP Zli = some (ZeN, [.tmp 8], 35) := by kernel_rfl
def ZmH : List (Nat × List Md) := MM [(1, 8785), (1000001, 1609)]
def Zgo : C := (.seq (.reg [(none, .box 3 (.t 0)),(none, .mv 6 .copy (.k (.sc (.bool false))))]) (.seq (.seq (.frz 3) (.reg [(Jfa 7 3 3),(Jlt 8 1 7),(Jmc 9 1),(Jfa 10 0 3),(Jlt 11 1 10),(none, .bin 12 .num .mul (.t 9) (.t 11)),(Jmc 13 2),(none, .bin 14 .num .add (.t 12) (.t 13)),(Jia 15 1 8 14),(Jlc 16 1 15),(Jmc 6 16)]))
 .ret))
theorem ZnB : Qp Tryz.prog Wh ZmH = some (Zgo, [.tmp 6], 17) := by kernel_rfl
def Zh8 : List (Nat × List Md) := MM []
def Zcf : C := (.seq (.reg [(none, .mv 2 .copy (.k (.sc (.bool false))))]) (.seq (.reg [(Jmc 3 0),(none, .call .no (some 4) (.k (.fn Xx [])) [(.t 3), (.k (N 3)), (.k (N 18))]),(Jmc 5 4),(some (5, false), .mv 6 .copy (.t 0)),(some (5, false), .bin 7 .num .eql (.t 6) (.k (N 35))),(none, .pick 8 (.t 5) (.k (.sc (.bool true))) (.t 7)),(Jmc 2 8)])
 .ret))
theorem Zii : Qp Tryz.prog Zj Zh8 = some (Zcf, [.tmp 2], 9) := by kernel_rfl
def Zis : List (Nat × List Md) := MM [(1, 17), (2, 17), (4, 17), (6, 17), (8, 138), (10, 8785), (11, 17), (12, 4498001), (13, 8778), (14, 17), (15, 2), (16, 2), (17, 17), (18, 70225), (20, 17), (22, 138), (24, 138), (26, 4494410), (27, 17), (28, 2), (29, 1105), (31, 138), (32, 562258), (33, 70729), (35, 148346545297), (1000001, 7123529), (2000013, 26996937289), (2000026, 884635641090633)]
def X2 : C := (.seq (.reg [(none, .box 4 (.t 0)),(none, .box 6 (.t 2)),(none, .box 7 (.t 3)),(none, .alloc 8 [(.sl true true 1 []), (.sl true true 1 []), (N 0), (.sl true true 1 [])])]) (.seq (.seq (.frz 4) (.seq (.frz 6) (.seq (.frz 7) (.reg [(Jfa 17 0 7),(Jlt 18 1 17),(none, .indexA 19 1 (.t 18) (.k (N 0))),(Jlc 20 1 19),(Jmc 9 20)])))) (.seq (.block 0 (.seq (.reg [(Jfa 22 0 6),(Jlt 23 1 22),(Jbe 24 23 5),(Jmc 25 24),(some (25, true), .mv 26 .copy (.t 9)),(some (25, true), .bin 27 .num .neq (.t 26) (.k (N 1))),(none, .pick 28 (.t 25) (.t 27) (.k (.sc (.bool false)))),(Jmc 21 28)]) (.cond (.t 21) (.seq (.reg [(none, .call .no (some 29) (.k (.fn WE [])) [(.k (N 4))]),(Jst 4 8 29)])
 .ret) (.seq (.reg [(Jfa 31 0 6),(Jlt 32 1 31),(Jbe 33 32 8),(Jmc 34 33),(some (34, true), .mv 35 .copy (.t 9)),(some (34, true), .bin 36 .num .neq (.t 35) (.k (N 2))),(none, .pick 37 (.t 34) (.t 36) (.k (.sc (.bool false)))),(Jmc 30 37)]) (.cond (.t 30) (.seq (.reg [(none, .call .no (some 38) (.k (.fn WE [])) [(.k (N 5))]),(Jst 4 8 38)])
 .ret) (.seq (.reg [(Jfa 40 0 6),(Jlt 41 1 40),(Jbe 42 41 12),(Jmc 43 42),(some (43, true), .mv 44 .copy (.t 9)),(some (43, true), .call .no (some 45) (.k (.fn K5 [])) [(.t 44)]),(some (43, true), .un 46 .not (.t 45)),(none, .pick 47 (.t 43) (.t 46) (.k (.sc (.bool false)))),(Jmc 39 47)]) (.cond (.t 39) (.seq (.reg [(none, .call .no (some 48) (.k (.fn WE [])) [(.k (N 7))]),(Jst 4 8 48)])
 .ret)
 .skip))))))) (.seq (.seq (.reg [(JlT 49 4 4),(Jfa 50 1 6),(Jlt 51 1 50),(none, .call .no (some 52) (.k (.fn Wh [])) [(.t 49), (.k (N 1)), (.t 51)]),(none, .un 53 .not (.t 52))]) (.cond (.t 53) (.seq (.reg [(none, .call .no (some 54) (.k (.fn WE [])) [(.k (N 8))]),(Jst 4 8 54)])
 .ret)
 .skip)) (.seq (.reg [(Jfa 55 0 7),(Jlt 56 1 55),(none, .call .no (some 57) (.k (.fn W0 [])) [(.t 56), (.k (N 0))]),(none, .bslice 58 1 1 [(.sl true true 1 [])] [(0, 1, (.t 57))]),(Jmt 10 58)]) (.seq (.seq (.reg [(Jfa 59 0 6),(Jlt 60 1 59),(Jbe 61 60 5)]) (.cond (.t 61) (.reg [(Jfa 62 0 7),(Jlt 63 1 62),(none, .call .no (some 64) (.k (.fn W0 [])) [(.t 63), (.k (N 1))]),(Jfa 65 0 7),(Jlt 66 1 65),(none, .call .no (some 67) (.k (.fn W0 [])) [(.t 66), (.k (N 0))]),(none, .bslice 68 1 2 [(.sl true true 1 []), (.sl true true 1 [])] [(0, 1, (.t 64)), (1, 1, (.t 67))]),(Jmt 10 68)])
 .skip)) (.seq (.seq (.reg [(JlT 69 4 4),(Jmc 70 1),(Jmc 71 10),(none, .call .no (some 72) (.k (.fn XV [])) [(.t 70), (.t 71)]),(JlT 73 4 6),(none, .call .no (some 74) (.k (.fn Yd [])) [(.t 69), (.t 72), (.t 73), (.k (N 1))]),(none, .alloc 11 [(.sl true true 1 []), (.sl true true 1 []), (N 0), (.sl true true 1 [])]),(Jst 4 11 74)]) (.frz 11)) (.seq (.seq (.reg [(Jfa 75 2 11),(Jlt 76 1 75),(none, .bin 77 .num .neq (.t 76) (.k (N 0)))]) (.cond (.t 77) (.seq (.reg [(JlT 78 4 11),(Jst 4 8 78)])
 .ret)
 .skip)) (.seq (.reg [(Jmt 79 10),(Jln 80 79),(Jmc 12 80)]) (.seq (.reg [(Jfa 81 1 6),(Jlt 82 1 81),(Jmc 13 82)]) (.seq (.reg [(Jfa 83 1 11),(Jlt 84 1 83),(Jmc 85 12),(none, .slice 86 1 (.t 84) (some (.t 85)) none none),(none, .call .no (some 87) (.k (.fn XW [])) [(.t 86)]),(Jmt 14 87)]) (.seq (.reg [(none, .mv 15 .copy (.k (.sc (.bool true))))]) (.seq (.seq (.reg [(Jfa 88 0 6),(Jlt 89 1 88)]) (.block 1 (.seq (.reg [(Jbe 91 89 12),(Jmc 90 91)]) (.cond (.t 90) (.reg [(JlT 92 4 4),(Jfa 93 1 6),(Jlt 94 1 93),(Jmc 95 9),(none, .call .no (some 96) (.k (.fn XY [])) [(.t 95)]),(none, .call .no (some 97) (.k (.fn Q0 [])) [(.t 92), (.t 94), (.t 96)]),(Jmc 13 97)]) (.seq (.reg [(Jbe 99 89 5),(Jmc 98 99)]) (.cond (.t 98) (.reg [(JlT 100 4 4),(Jfa 101 1 11),(Jlt 102 1 101),(none, .indexA 103 1 (.t 102) (.k (N 1))),(Jlc 104 1 103),(Jmc 105 13),(none, .call .no (some 106) (.k (.fn Wh [])) [(.t 100), (.t 104), (.t 105)]),(Jmc 15 106)]) (.seq (.reg [(Jbe 108 89 8),(Jmc 107 108)]) (.cond (.t 107) (.seq (.seq (.reg [(JlT 109 4 4),(Jmc 110 1),(Jfa 111 0 7),(Jlt 112 1 111),(none, .call .no (some 113) (.k (.fn W0 [])) [(.t 112), (.k (N 1))]),(none, .bslice 114 1 1 [(.sl true true 1 [])] [(0, 1, (.t 113))]),(none, .call .no (some 115) (.k (.fn XV [])) [(.t 110), (.t 114)]),(JlT 116 4 6),(none, .call .no (some 117) (.k (.fn Yd [])) [(.t 109), (.t 115), (.t 116), (.k (N 2))]),(none, .alloc 16 [(.sl true true 1 []), (.sl true true 1 []), (N 0), (.sl true true 1 [])]),(Jst 4 16 117)]) (.frz 16)) (.seq (.seq (.reg [(Jfa 118 2 16),(Jlt 119 1 118),(none, .bin 120 .num .neq (.t 119) (.k (N 0)))]) (.cond (.t 120) (.seq (.reg [(JlT 121 4 16),(Jst 4 8 121)])
 .ret)
 .skip)) (.seq (.seq (.reg [(Jfa 122 0 11),(Jlt 123 1 122),(Jfa 124 0 16),(Jlt 125 1 124),(none, .call .no (some 126) (.k (.fn ZT [])) [(.t 123), (.t 125)]),(none, .un 127 .not (.t 126))]) (.cond (.t 127) (.seq (.reg [(none, .call .no (some 128) (.k (.fn WE [])) [(.k (N 3))]),(Jst 4 8 128)])
 .ret)
 .skip)) (.seq (.reg [(JlT 129 4 4),(Jfa 130 1 16),(Jlt 131 1 130),(none, .indexA 132 1 (.t 131) (.k (N 0))),(Jlc 133 1 132),(Jmc 134 13),(none, .call .no (some 135) (.k (.fn Wh [])) [(.t 129), (.t 133), (.t 134)]),(Jmc 15 135)]) (.reg [(JlT 136 4 4),(Jmt 137 14),(Jfa 138 1 16),(Jlt 139 1 138),(none, .slice 140 1 (.t 139) (some (.k (N 1))) none none),(none, .call .no (some 141) (.k (.fn Kk [])) [(.t 136), (.t 137), (.t 140)]),(Jmt 14 141)])))))
 .skip)))))))) (.seq (.seq (.reg [(Jmc 142 15),(none, .un 143 .not (.t 142)),(Jmc 144 143),(some (144, false), .load 145 .take true 4 (.t 4)),(some (144, false), .fieldA 146 1 (.t 11)),(some (144, false), .load 147 .take false 1 (.t 146)),(some (144, false), .indexA 148 1 (.t 147) (.k (N 0))),(some (144, false), .load 149 .copy false 1 (.t 148)),(some (144, false), .mv 150 .copy (.t 13)),(some (144, false), .call .no (some 151) (.k (.fn Wh [])) [(.t 145), (.t 149), (.t 150)]),(some (144, false), .un 152 .not (.t 151)),(none, .pick 153 (.t 144) (.k (.sc (.bool true))) (.t 152))]) (.cond (.t 153) (.seq (.reg [(none, .call .no (some 154) (.k (.fn WE [])) [(.k (N 9))]),(Jst 4 8 154)])
 .ret)
 .skip)) (.seq (.reg [(Jfa 155 0 11),(Jlt 156 1 155),(JlT 157 4 4),(JlT 158 4 4),(Jmt 159 1),(Jln 160 159),(none, .call .no (some 161) (.k (.fn YW [])) [(.t 160)]),(Jfa 162 1 6),(Jlt 163 1 162),(Jfa 164 1 7),(Jlt 165 1 164),(none, .call .no (some 166) (.k (.fn XP [])) [(.t 158), (.t 161), (.t 163), (.t 165)]),(Jmt 167 14),(none, .call .no (some 168) (.k (.fn XP [])) [(.t 157), (.t 166), (.k (N 1)), (.t 167)]),(none, .build 169 [(.sl true true 1 []), (.sl true true 1 []), (N 0), (.sl true true 1 [])] [(0, 1, (.t 156)), (1, 1, (.t 168))]),(Jst 4 8 169)])
 .ret)))))))))))))))
theorem Vq : Qp Tryz.prog Ze Zis = some (X2, [.cell 8 true 4], 170) := by kernel_rfl
def Zhh : List (Nat × List Md) := MM [(1, 17), (2, 18), (3, 70737), (4, 17), (7, 70233), (9, 3), (1000001, 1609)]
def VD : C := (.seq (.reg [(none, .box 3 (.t 0)),(none, .alloc 6 [(N 0), (N 0), (.sl true true 1 []), (.sl true true 1 [])])]) (.seq (.seq (.seq (.frz 3) (.reg [(Jfa 10 0 3),(Jlt 11 1 10),(Jbe 12 11 0)])) (.cond (.t 12) (.seq (.reg [(Jmt 13 2),(JlT 14 4 3),(Jmc 15 1),(none, .call .no (some 16) (.t 13) [(.t 14), (.t 15)]),(Jst 4 6 16)])
 .ret)
 .skip)) (.seq (.reg [(Jfa 17 0 3),(Jlt 18 1 17),(Jfa 19 1 3),(Jlt 20 1 19),(Jfa 21 2 3),(Jlt 22 1 21),(none, .call .no (some 23) (.k (.fn WV [])) [(.t 22)]),(none, .build 24 [(N 0), (N 0), (.sl true true 1 []), (.sl true true 1 [])] [(0, 1, (.t 18)), (1, 1, (.t 20)), (2, 1, (.t 23)), (3, 1, (.k (.sl true true 0 [])))]),(none, .alloc 7 [(N 0), (N 0), (.sl true true 1 []), (.sl true true 1 [])]),(Jst 4 7 24)]) (.seq (.seq (.reg [(Jfa 25 3 3),(Jlt 26 1 25),(Jln 27 26),(none, .mv 28 .copy (.k (N 0)))]) (.block 0 (.loop (.seq (.reg [(Jbl 29 28 27)]) (.seq (.cond (.t 29)
 .skip (.exit 0)) (.seq (.block 1 (.seq (.reg [(Jmc 30 28),(Jia 31 4 26 28),(JlC 32 4 31),(none, .alloc 9 [(N 0), (N 0), (.sl true true 1 []), (.sl true true 1 [])]),(Jmc 8 30),(Jst 4 9 32)]) (.reg [(Jfa 33 3 7),(none, .load 34 .frz false 1 (.t 33)),(JlC 35 4 9),(Jmc 36 1),(Jfa 37 0 3),(Jlt 38 1 37),(Jmc 39 8),(none, .call .no (some 40) (.k (.fn KE [])) [(.t 38), (.t 39)]),(none, .bin 41 .num .add (.t 36) (.t 40)),(Jmc 42 2),(none, .call .no (some 43) (.k (.fn JN [])) [(.t 35), (.t 41), (.t 42)]),(none, .bslice 44 4 1 [(N 0), (N 0), (.sl true true 1 []), (.sl true true 1 [])] [(0, 4, (.t 43))]),(none, .append 45 4 (.t 34) (.t 44)),(Jfa 46 3 7),(Jst 1 46 45)]))) (.reg [(Jba 47 28 1),(Jmc 28 47)]))))))) (.seq (.reg [(none, .load 48 .frz true 4 (.t 7)),(Jst 4 6 48)])
 .ret)))))
theorem Zh5 : Qp Tryz.prog JN Zhh = some (VD, [.cell 6 true 4], 49) := by kernel_rfl
def ZfV : List (Nat × List Md) := MM [(3, 3)]
def Zab : C := (.seq (.reg [(none, .box 4 (.t 0)),(none, .alloc 6 [(N 0), (N 0), (.sl true true 1 []), (.sl true true 1 [])])]) (.seq (.seq (.reg [(Jfa 7 1 4),(Jlc 8 1 7),(Jmc 9 1),(none, .bin 10 .num .sub (.t 8) (.t 9)),(Jlc 11 1 2),(none, .bin 12 .num .geq (.t 10) (.t 11))]) (.cond (.t 12) (.reg [(Jfa 13 1 4),(Jlc 14 1 13),(Jlc 15 1 3),(none, .bin 16 .num .add (.t 14) (.t 15)),(Jfa 17 1 4),(Jst 1 17 16)])
 .skip)) (.seq (.reg [(none, .load 18 .frz true 4 (.t 4)),(none, .call .no (some 19) (.k (.fn ZZ [])) [(.t 18)]),(Jst 4 6 19)])
 .ret)))
theorem ZfS : Qp Tryz.prog Zx ZfV = some (Zab, [.cell 6 true 4], 20) := by kernel_rfl
def ZlD : List (Nat × List Md) := MM []
def ZeG : C := (.seq (.reg [(none, .mv 4 .copy (.k (N 0)))]) (.seq (.reg [(none, .mv 5 .copy (.k (N 1)))]) (.seq (.seq (.reg [(Jmc 8 1),(Jmc 6 8)]) (.block 0 (.loop (.seq (.seq (.reg [(Jmc 9 6),(Jmc 10 0),(Jln 11 10),(Jbl 12 9 11)]) (.cond (.t 12)
 .skip (.exit 0))) (.seq (.block 1 (.seq (.reg [(Jmc 15 0),(Jmc 16 6),(Jia 17 1 15 16),(Jlc 18 1 17),(none, .call .no (some 19) (.k (.fn ZN [])) [(.t 18)]),(Jmc 7 19)]) (.seq (.seq (.reg [(Jmc 20 7),(none, .bin 21 .num .lss (.t 20) (.k (N 0)))]) (.cond (.t 21) (.seq (.reg [(none, .mv 4 .copy (.k (N (-1))))])
 .ret)
 .skip)) (.seq (.reg [(Jmc 22 5),(none, .bin 23 .num .sub (.t 22) (.k (N 1))),(Jmc 24 7),(none, .bin 25 .num .add (.t 23) (.t 24)),(Jmc 5 25)]) (.seq (.reg [(Jmc 26 5),(Jbe 27 26 0)]) (.cond (.t 27) (.seq (.reg [(Jmc 28 6),(Jba 29 28 1),(Jmc 4 29)])
 .ret)
 .skip)))))) (.reg [(Jmc 13 6),(Jba 14 13 1),(Jmc 6 14)])))))) (.seq (.reg [(none, .mv 4 .copy (.k (N (-1))))])
 .ret))))
theorem ZlP : Qp Tryz.prog Va ZlD = some (ZeG, [.tmp 4], 30) := by kernel_rfl
def ZjR : List (Nat × List Md) := MM [(1, 18407002697)]
def Zdl : C := (.seq (.reg [(none, .mv 2 .copy (.k (.sc (.bool false))))]) (.seq (.reg [(Jmc 3 0),(Jln 4 3),(none, .bin 5 .num .leq (.t 4) (.k (N 40))),(Jmc 6 5),(some (6, true), .mv 7 .copy (.t 0)),(some (6, true), .call .no (some 8) (.k (.fn Va [])) [(.t 7), (.k (N 0))]),(some (6, true), .mv 9 .copy (.t 0)),(some (6, true), .len 10 (.t 9)),(some (6, true), .bin 11 .num .eql (.t 8) (.t 10)),(none, .pick 12 (.t 6) (.t 11) (.k (.sc (.bool false)))),(Jmc 13 12),(some (13, true), .mv 14 .take (.t 0)),(some (13, true), .len 15 (.t 14)),(some (13, true), .bin 16 .num .gtr (.t 15) (.k (N 0))),(none, .pick 17 (.t 13) (.t 16) (.k (.sc (.bool false)))),(Jmc 2 17)])
 .ret))
theorem ZjF : Qp Tryz.prog YX ZjR = some (Zdl, [.tmp 2], 18) := by kernel_rfl
def ZcF : List (Nat × List Md) := MM [(2, 137), (4, 561738), (7, 137), (9, 75395099824777), (1000001, 1609)]
def Kx : C := (.seq (.reg [(none, .box 3 (.t 0)),(none, .mv 6 .copy (.k (N 0)))]) (.seq (.seq (.seq (.frz 3) (.reg [(none, .mv 7 .copy (.k (N 0)))])) (.block 0 (.loop (.seq (.seq (.reg [(Jmc 10 7),(Jfa 11 0 3),(Jlt 12 1 11),(Jbl 13 10 12)]) (.cond (.t 13)
 .skip (.exit 0))) (.seq (.block 1 (.seq (.seq (.reg [(JlT 16 4 3),(Jmc 17 1),(Jmc 18 7),(none, .call .no (some 19) (.k (.fn QA [])) [(.t 16), (.t 17), (.t 18)]),(none, .un 20 .not (.t 19)),(Jmc 21 20),(some (21, false), .load 22 .take true 4 (.t 3)),(some (21, false), .mv 23 .copy (.t 2)),(some (21, false), .mv 24 .copy (.t 7)),(some (21, false), .call .no (some 25) (.k (.fn QA [])) [(.t 22), (.t 23), (.t 24)]),(some (21, false), .un 26 .not (.t 25)),(none, .pick 27 (.t 21) (.k (.sc (.bool true))) (.t 26))]) (.cond (.t 27) (.exit 1)
 .skip)) (.seq (.reg [(none, .mv 8 .copy (.k (.sc (.bool true))))]) (.seq (.seq (.reg [(none, .mv 9 .copy (.k (N 0)))]) (.block 2 (.loop (.seq (.seq (.reg [(Jmc 28 9),(Jfa 29 0 3),(Jlt 30 1 29),(Jbl 31 28 30)]) (.cond (.t 31)
 .skip (.exit 2))) (.seq (.block 3 (.reg [(Jmc 34 8),(Jmc 35 34),(some (35, true), .load 36 .take true 4 (.t 3)),(some (35, true), .mv 37 .copy (.t 1)),(some (35, true), .mv 38 .copy (.t 9)),(some (35, true), .call .no (some 39) (.k (.fn QA [])) [(.t 36), (.t 37), (.t 38)]),(some (35, true), .un 40 .not (.t 39)),(some (35, true), .mv 41 .copy (.t 40)),(some (41, false), .load 42 .take true 4 (.t 3)),(some (41, false), .mv 43 .copy (.t 2)),(some (41, false), .mv 44 .copy (.t 9)),(some (41, false), .call .no (some 45) (.k (.fn QA [])) [(.t 42), (.t 43), (.t 44)]),(some (41, false), .un 46 .not (.t 45)),(some (35, true), .pick 47 (.t 41) (.k (.sc (.bool true))) (.t 46)),(some (35, true), .mv 48 .copy (.t 47)),(some (48, false), .load 49 .take true 4 (.t 3)),(some (48, false), .mv 50 .copy (.t 7)),(some (48, false), .mv 51 .copy (.t 9)),(some (48, false), .call .no (some 52) (.k (.fn QA [])) [(.t 49), (.t 50), (.t 51)]),(some (35, true), .pick 53 (.t 48) (.k (.sc (.bool true))) (.t 52)),(none, .pick 54 (.t 35) (.t 53) (.k (.sc (.bool false)))),(Jmc 8 54)])) (.reg [(Jmc 32 9),(Jba 33 32 1),(Jmc 9 33)])))))) (.seq (.reg [(Jmc 55 8)]) (.cond (.t 55) (.seq (.reg [(Jmc 56 7),(Jmc 6 56)])
 .ret)
 .skip)))))) (.reg [(Jmc 14 7),(Jba 15 14 1),(Jmc 7 15)])))))) (.seq (.reg [(none, .mv 6 .copy (.k (N (-1))))])
 .ret)))
theorem Zcx : Qp Tryz.prog WR ZcF = some (Kx, [.tmp 6], 57) := by kernel_rfl
def ZaX : List (Nat × List Md) := MM [(1, 81545152335684693168722), (3, 21224549329283402961049129610), (5, 18407035466), (7, 10866969256002826736711328371274), (1000001, 12873)]
def Jx : C := (.seq (.reg [(none, .box 4 (.t 0)),(none, .mv 8 .copy (.k (.sc (.bool false))))]) (.seq (.seq (.seq (.frz 4) (.reg [(JlT 9 4 4),(JlT 10 4 4),(Jmc 11 1),(Jmc 12 2),(none, .call .no (some 13) (.k (.fn QC [])) [(.t 10), (.t 11), (.t 12)]),(Jmc 14 3),(none, .call .no (some 15) (.k (.fn QC [])) [(.t 9), (.t 13), (.t 14)]),(JlT 16 4 4),(Jmc 17 1),(JlT 18 4 4),(Jmc 19 2),(Jmc 20 3),(none, .call .no (some 21) (.k (.fn QC [])) [(.t 18), (.t 19), (.t 20)]),(none, .call .no (some 22) (.k (.fn QC [])) [(.t 16), (.t 17), (.t 21)]),(none, .bin 23 .num .neq (.t 15) (.t 22)),(Jmc 24 23),(some (24, false), .load 25 .take true 4 (.t 4)),(some (24, false), .load 26 .take true 4 (.t 4)),(some (24, false), .mv 27 .copy (.t 1)),(some (24, false), .mv 28 .copy (.t 2)),(some (24, false), .call .no (some 29) (.k (.fn Qx [])) [(.t 26), (.t 27), (.t 28)]),(some (24, false), .mv 30 .copy (.t 3)),(some (24, false), .call .no (some 31) (.k (.fn Qx [])) [(.t 25), (.t 29), (.t 30)]),(some (24, false), .load 32 .take true 4 (.t 4)),(some (24, false), .mv 33 .copy (.t 1)),(some (24, false), .load 34 .take true 4 (.t 4)),(some (24, false), .mv 35 .copy (.t 2)),(some (24, false), .mv 36 .copy (.t 3)),(some (24, false), .call .no (some 37) (.k (.fn Qx [])) [(.t 34), (.t 35), (.t 36)]),(some (24, false), .call .no (some 38) (.k (.fn Qx [])) [(.t 32), (.t 33), (.t 37)]),(some (24, false), .bin 39 .num .neq (.t 31) (.t 38)),(none, .pick 40 (.t 24) (.k (.sc (.bool true))) (.t 39))])) (.cond (.t 40) (.seq (.reg [(none, .mv 8 .copy (.k (.sc (.bool false))))])
 .ret)
 .skip)) (.seq (.seq (.reg [(JlT 41 4 4),(Jmc 42 1),(JlT 43 4 4),(Jmc 44 2),(Jmc 45 3),(none, .call .no (some 46) (.k (.fn QC [])) [(.t 43), (.t 44), (.t 45)]),(none, .call .no (some 47) (.k (.fn Qx [])) [(.t 41), (.t 42), (.t 46)]),(JlT 48 4 4),(JlT 49 4 4),(Jmc 50 1),(Jmc 51 2),(none, .call .no (some 52) (.k (.fn Qx [])) [(.t 49), (.t 50), (.t 51)]),(JlT 53 4 4),(Jmc 54 1),(Jmc 55 3),(none, .call .no (some 56) (.k (.fn Qx [])) [(.t 53), (.t 54), (.t 55)]),(none, .call .no (some 57) (.k (.fn QC [])) [(.t 48), (.t 52), (.t 56)]),(none, .bin 58 .num .neq (.t 47) (.t 57)),(Jmc 59 58),(some (59, false), .load 60 .take true 4 (.t 4)),(some (59, false), .load 61 .take true 4 (.t 4)),(some (59, false), .mv 62 .copy (.t 1)),(some (59, false), .mv 63 .copy (.t 2)),(some (59, false), .call .no (some 64) (.k (.fn QC [])) [(.t 61), (.t 62), (.t 63)]),(some (59, false), .mv 65 .copy (.t 3)),(some (59, false), .call .no (some 66) (.k (.fn Qx [])) [(.t 60), (.t 64), (.t 65)]),(some (59, false), .load 67 .take true 4 (.t 4)),(some (59, false), .load 68 .take true 4 (.t 4)),(some (59, false), .mv 69 .copy (.t 1)),(some (59, false), .mv 70 .copy (.t 3)),(some (59, false), .call .no (some 71) (.k (.fn Qx [])) [(.t 68), (.t 69), (.t 70)]),(some (59, false), .load 72 .take true 4 (.t 4)),(some (59, false), .mv 73 .copy (.t 2)),(some (59, false), .mv 74 .copy (.t 3)),(some (59, false), .call .no (some 75) (.k (.fn Qx [])) [(.t 72), (.t 73), (.t 74)]),(some (59, false), .call .no (some 76) (.k (.fn QC [])) [(.t 67), (.t 71), (.t 75)]),(some (59, false), .bin 77 .num .neq (.t 66) (.t 76)),(none, .pick 78 (.t 59) (.k (.sc (.bool true))) (.t 77))]) (.cond (.t 78) (.seq (.reg [(none, .mv 8 .copy (.k (.sc (.bool false))))])
 .ret)
 .skip)) (.seq (.seq (.reg [(JlT 79 4 4),(Jmc 80 1),(Jmc 81 2),(none, .call .no (some 82) (.k (.fn QA [])) [(.t 79), (.t 80), (.t 81)]),(Jmc 83 82),(some (83, true), .load 84 .take true 4 (.t 4)),(some (83, true), .mv 85 .copy (.t 2)),(some (83, true), .mv 86 .copy (.t 3)),(some (83, true), .call .no (some 87) (.k (.fn QA [])) [(.t 84), (.t 85), (.t 86)]),(none, .pick 88 (.t 83) (.t 87) (.k (.sc (.bool false)))),(Jmc 89 88),(some (89, true), .load 90 .take true 4 (.t 4)),(some (89, true), .mv 91 .copy (.t 1)),(some (89, true), .mv 92 .copy (.t 3)),(some (89, true), .call .no (some 93) (.k (.fn QA [])) [(.t 90), (.t 91), (.t 92)]),(some (89, true), .un 94 .not (.t 93)),(none, .pick 95 (.t 89) (.t 94) (.k (.sc (.bool false))))]) (.cond (.t 95) (.seq (.reg [(none, .mv 8 .copy (.k (.sc (.bool false))))])
 .ret)
 .skip)) (.seq (.reg [(JlT 96 4 4),(Jmc 97 1),(Jmc 98 2),(none, .call .no (some 99) (.k (.fn QA [])) [(.t 96), (.t 97), (.t 98)]),(none, .un 100 .not (.t 99)),(Jmc 101 100),(some (101, false), .load 102 .take true 4 (.t 4)),(some (101, false), .load 103 .take true 4 (.t 4)),(some (101, false), .mv 104 .copy (.t 1)),(some (101, false), .mv 105 .copy (.t 3)),(some (101, false), .call .no (some 106) (.k (.fn QC [])) [(.t 103), (.t 104), (.t 105)]),(some (101, false), .load 107 .take true 4 (.t 4)),(some (101, false), .mv 108 .copy (.t 2)),(some (101, false), .mv 109 .copy (.t 3)),(some (101, false), .call .no (some 110) (.k (.fn QC [])) [(.t 107), (.t 108), (.t 109)]),(some (101, false), .call .no (some 111) (.k (.fn QA [])) [(.t 102), (.t 106), (.t 110)]),(some (101, false), .mv 112 .copy (.t 111)),(some (112, true), .load 113 .take true 4 (.t 4)),(some (112, true), .load 114 .take true 4 (.t 4)),(some (112, true), .mv 115 .copy (.t 1)),(some (112, true), .mv 116 .copy (.t 3)),(some (112, true), .call .no (some 117) (.k (.fn Qx [])) [(.t 114), (.t 115), (.t 116)]),(some (112, true), .load 118 .take true 4 (.t 4)),(some (112, true), .mv 119 .copy (.t 2)),(some (112, true), .mv 120 .copy (.t 3)),(some (112, true), .call .no (some 121) (.k (.fn Qx [])) [(.t 118), (.t 119), (.t 120)]),(some (112, true), .call .no (some 122) (.k (.fn QA [])) [(.t 113), (.t 117), (.t 121)]),(some (101, false), .pick 123 (.t 112) (.t 122) (.k (.sc (.bool false)))),(some (101, false), .mv 124 .copy (.t 123)),(some (124, true), .load 125 .take true 4 (.t 4)),(some (124, true), .load 126 .take true 4 (.t 4)),(some (124, true), .mv 127 .copy (.t 3)),(some (124, true), .mv 128 .copy (.t 1)),(some (124, true), .call .no (some 129) (.k (.fn Qx [])) [(.t 126), (.t 127), (.t 128)]),(some (124, true), .load 130 .take true 4 (.t 4)),(some (124, true), .mv 131 .copy (.t 3)),(some (124, true), .mv 132 .copy (.t 2)),(some (124, true), .call .no (some 133) (.k (.fn Qx [])) [(.t 130), (.t 131), (.t 132)]),(some (124, true), .call .no (some 134) (.k (.fn QA [])) [(.t 125), (.t 129), (.t 133)]),(some (101, false), .pick 135 (.t 124) (.t 134) (.k (.sc (.bool false)))),(none, .pick 136 (.t 101) (.k (.sc (.bool true))) (.t 135)),(Jmc 8 136)])
 .ret)))))
theorem ZaV : Qp Tryz.prog YP ZaX = some (Jx, [.tmp 8], 137) := by kernel_rfl
def ZI : List (Nat × List Md) := MM [(1, 18)]
def XJ : C := (.seq (.reg [(none, .mv 4 .copy (.k (.sc (.bool false))))]) (.seq (.reg [(Jmt 5 0),(Jmt 6 1),(none, .call .no (some 7) (.k (.fn Xb [])) [(.t 5), (.t 6)]),(none, .bin 8 .num .geq (.t 7) (.k (N 0))),(Jmc 4 8)])
 .ret))
theorem ZK : Qp Tryz.prog WX ZI = some (XJ, [.tmp 4], 9) := by kernel_rfl
def Zd4 : List (Nat × List Md) := MM [(1, 17)]
def VH : C := (.seq (.reg [(none, .mv 3 .copy (.k (.sc (.bool false))))]) (.seq (.reg [(JlC 4 4 1),(Jmt 5 0),(none, .call .no (some 6) (.k (.fn Z0 [])) [(.t 4), (.t 5)]),(none, .un 7 .not (.t 6)),(Jmc 3 7)])
 .ret))
theorem ZdQ : Qp Tryz.prog XZ Zd4 = some (VH, [.tmp 3], 8) := by kernel_rfl
def ZlV : List (Nat × List Md) := MM [(1, 17), (2, 1105), (3, 17), (5, 138), (6, 17), (8, 4493897), (10, 561738), (11, 18), (1000001, 1609)]
def K9 : C := (.seq (.reg [(none, .box 3 (.t 0)),(none, .mv 6 .copy (.k (.sl true true 1 [])))]) (.seq (.block 0 (.seq (.seq (.frz 3) (.reg [(Jfa 9 0 3),(Jlt 10 1 9),(Jbe 11 10 9),(Jmc 8 11)])) (.cond (.t 8) (.seq (.reg [(Jfa 12 2 3),(Jlt 13 1 12),(none, .bslice 14 1 1 [(.sl true true 1 [])] [(0, 1, (.t 13))]),(Jmt 6 14)])
 .ret) (.seq (.reg [(Jfa 16 0 3),(Jlt 17 1 16),(Jmc 18 1),(none, .call .no (some 19) (.k (.fn KE [])) [(.t 17), (.t 18)]),(Jbe 20 19 0),(Jmc 15 20)]) (.cond (.t 15) (.seq (.reg [(none, .mv 6 .copy (.k (.sl true true 1 [])))])
 .ret)
 .skip))))) (.seq (.reg [(Jmt 21 2),(none, .call .no (some 22) (.k (.fn YL [])) [(.t 21)]),(Jmt 7 22)]) (.seq (.seq (.reg [(Jfa 23 0 3),(Jlt 24 1 23)]) (.block 1 (.seq (.reg [(Jbe 26 24 5),(Jmc 25 26)]) (.cond (.t 25) (.seq (.reg [(Jmc 27 7),(none, .indexA 28 1 (.t 27) (.k (N 1))),(Jlc 29 1 28),(Jmc 30 7),(none, .indexA 31 1 (.t 30) (.k (N 0))),(Jlc 32 1 31),(none, .bslice 33 1 2 [(.sl true true 1 []), (.sl true true 1 [])] [(0, 1, (.t 29)), (1, 1, (.t 32))]),(Jmt 6 33)])
 .ret) (.seq (.reg [(Jbe 35 24 8),(Jmc 34 35)]) (.cond (.t 34) (.seq (.reg [(Jmt 36 7),(Jmc 37 1),(none, .bin 38 .num .sub (.t 37) (.k (N 1))),(Jia 39 1 36 38),(Jlc 40 1 39),(none, .bslice 41 1 1 [(.sl true true 1 [])] [(0, 1, (.t 40))]),(Jmt 6 41)])
 .ret)
 .skip)))))) (.seq (.reg [(Jmt 42 7),(Jmt 6 42)])
 .ret)))))
theorem Zmi : Qp Tryz.prog ZaI ZlV = some (K9, [.tmp 6], 43) := by kernel_rfl
def Kg : List (Nat × List Md) := MM [(4, 137), (5, 17), (9, 137), (10, 2), (12, 137), (13, 1106), (15, 18)]
def Yy : C := (.seq (.reg [(none, .mv 2 .copy (.k (.sl true true 1 [])))]) (.seq (.reg [(none, .mv 3 .copy (.k (N 0)))]) (.seq (.seq (.reg [(Jmc 9 0),(Jln 10 9),(none, .mv 11 .copy (.k (N 0)))]) (.block 0 (.loop (.seq (.reg [(Jbl 12 11 10)]) (.seq (.cond (.t 12)
 .skip (.exit 0)) (.seq (.block 1 (.seq (.reg [(Jia 13 1 9 11),(Jlc 14 1 13),(Jmt 5 14)]) (.seq (.reg [(Jmc 15 3),(Jmt 16 5),(Jln 17 16),(none, .bin 18 .num .add (.t 15) (.t 17)),(Jmc 3 18)]) (.seq (.reg [(Jmc 19 3),(none, .bin 20 .num .lss (.t 19) (.k (N 0)))]) (.cond (.t 20) (.reg [(none, .bad (some 21)),(none, .bad none)])
 .skip))))) (.reg [(Jba 22 11 1),(Jmc 11 22)]))))))) (.seq (.reg [(Jmc 23 3),(none, .call .no (some 24) (.k (.fn XH [])) [(.k (.sl true true 1 [])), (.t 23)]),(Jmt 6 24)]) (.seq (.seq (.reg [(Jmt 25 0),(Jln 26 25),(none, .mv 27 .copy (.k (N 0)))]) (.block 2 (.loop (.seq (.reg [(Jbl 28 27 26)]) (.seq (.cond (.t 28)
 .skip (.exit 2)) (.seq (.block 3 (.seq (.reg [(Jia 29 1 25 27),(Jlc 30 1 29),(Jmt 8 30)]) (.reg [(Jmt 31 6),(Jmt 32 8),(none, .append 33 1 (.t 31) (.t 32)),(Jmt 6 33)]))) (.reg [(Jba 34 27 1),(Jmc 27 34)]))))))) (.seq (.reg [(Jmt 35 6),(Jmt 2 35)])
 .ret))))))
theorem J6 : Qp Tryz.prog Xo Kg = some (Yy, [.tmp 2], 36) := by kernel_rfl
def Za7 : List (Nat × List Md) := MM [(1, 8778), (3, 17), (4, 17), (6, 17), (8, 17), (10, 17), (12, 17), (16, 19908484388251542089), (1000001, 111177)]
def XO : C := (.seq (.reg [(none, .box 4 (.t 0)),(none, .box 5 (.t 1)),(none, .mv 8 .copy (.k (N 0)))]) (.seq (.seq (.frz 4) (.seq (.frz 5) (.reg [(Jmt 14 3),(none, .indexA 15 1 (.t 14) (.k (N 0))),(Jlc 16 1 15),(none, .call .no (some 17) (.k (.fn XN [])) [(.t 16)]),(Jmt 13 17),(none, .extract 18 0 (.t 13)),(none, .extract 19 1 (.t 13)),(Jmc 9 18),(Jmc 10 19)]))) (.seq (.reg [(none, .mv 11 .copy (.k (N (-1)))),(none, .mv 12 .copy (.k (N 0)))]) (.seq (.block 0 (.seq (.seq (.reg [(Jfa 21 0 5),(Jlt 22 1 21),(Jbe 23 22 2),(Jmc 20 23)]) (.cond (.t 20)
 .skip (.reg [(Jfa 24 0 5),(Jlt 25 1 24),(Jbe 26 25 3),(Jmc 27 26),(some (27, true), .mv 28 .copy (.t 2)),(some (27, true), .bin 29 .num .eql (.t 28) (.k (N 0))),(none, .pick 30 (.t 27) (.t 29) (.k (.sc (.bool false)))),(Jmc 20 30)]))) (.cond (.t 20) (.reg [(none, .mv 11 .copy (.k (N 0))),(none, .mv 12 .copy (.k (N 2)))]) (.seq (.reg [(Jfa 32 0 5),(Jlt 33 1 32),(Jbe 34 33 5),(Jmc 35 34),(some (35, true), .mv 36 .copy (.t 2)),(some (35, true), .bin 37 .num .eql (.t 36) (.k (N 0))),(none, .pick 38 (.t 35) (.t 37) (.k (.sc (.bool false)))),(Jmc 31 38)]) (.cond (.t 31) (.reg [(none, .mv 11 .copy (.k (N 1))),(none, .mv 12 .copy (.k (N 4)))]) (.seq (.reg [(Jfa 40 0 5),(Jlt 41 1 40),(Jbe 42 41 8),(Jmc 43 42),(some (43, true), .mv 44 .copy (.t 2)),(some (43, true), .bin 45 .num .eql (.t 44) (.k (N 0))),(none, .pick 46 (.t 43) (.t 45) (.k (.sc (.bool false)))),(Jmc 39 46)]) (.cond (.t 39) (.reg [(none, .mv 11 .copy (.k (N 2))),(none, .mv 12 .copy (.k (N 5)))]) (.seq (.reg [(Jfa 48 0 5),(Jlt 49 1 48),(Jbe 50 49 10),(Jmc 51 50),(some (51, true), .mv 52 .copy (.t 2)),(some (51, true), .bin 53 .num .eql (.t 52) (.k (N 0))),(none, .pick 54 (.t 51) (.t 53) (.k (.sc (.bool false)))),(Jmc 47 54)]) (.cond (.t 47) (.reg [(none, .mv 11 .copy (.k (N 3))),(none, .mv 12 .copy (.k (N 6)))]) (.seq (.reg [(Jfa 56 0 5),(Jlt 57 1 56),(Jbe 58 57 12),(Jmc 59 58),(some (59, true), .mv 60 .copy (.t 2)),(some (59, true), .bin 61 .num .eql (.t 60) (.k (N 0))),(none, .pick 62 (.t 59) (.t 61) (.k (.sc (.bool false)))),(Jmc 55 62)]) (.cond (.t 55) (.reg [(none, .mv 11 .copy (.k (N 4))),(none, .mv 12 .copy (.k (N 7)))])
 .skip))))))))))) (.seq (.seq (.reg [(Jmc 63 11),(none, .bin 64 .num .geq (.t 63) (.k (N 0))),(Jmc 65 64),(some (65, true), .mv 66 .copy (.t 9)),(some (65, true), .mv 67 .copy (.t 11)),(some (65, true), .bin 68 .num .neq (.t 66) (.t 67)),(none, .pick 69 (.t 65) (.t 68) (.k (.sc (.bool false))))]) (.cond (.t 69) (.seq (.reg [(Jmc 70 12),(Jmc 8 70)])
 .ret)
 .skip)) (.seq (.seq (.reg [(Jmc 71 2),(Jbe 72 71 0),(Jmc 73 72),(some (73, true), .fieldA 74 0 (.t 5)),(some (73, true), .load 75 .take false 1 (.t 74)),(some (73, true), .bin 76 .num .eql (.t 75) (.k (N 5))),(some (73, true), .mv 77 .copy (.t 76)),(some (77, false), .fieldA 78 0 (.t 5)),(some (77, false), .load 79 .take false 1 (.t 78)),(some (77, false), .bin 80 .num .eql (.t 79) (.k (N 8))),(some (73, true), .pick 81 (.t 77) (.k (.sc (.bool true))) (.t 80)),(some (73, true), .mv 82 .copy (.t 81)),(some (82, false), .fieldA 83 0 (.t 5)),(some (82, false), .load 84 .take false 1 (.t 83)),(some (82, false), .bin 85 .num .eql (.t 84) (.k (N 12))),(some (73, true), .pick 86 (.t 82) (.k (.sc (.bool true))) (.t 85)),(none, .pick 87 (.t 73) (.t 86) (.k (.sc (.bool false)))),(Jmc 88 87),(some (88, true), .fieldA 89 0 (.t 4)),(some (88, true), .load 90 .take true 4 (.t 89)),(some (88, true), .fieldA 91 1 (.t 5)),(some (88, true), .load 92 .take false 1 (.t 91)),(some (88, true), .call .no (some 93) (.k (.fn QA [])) [(.t 90), (.k (N 1)), (.t 92)]),(some (88, true), .un 94 .not (.t 93)),(none, .pick 95 (.t 88) (.t 94) (.k (.sc (.bool false))))]) (.cond (.t 95) (.seq (.reg [(none, .mv 8 .copy (.k (N 8)))])
 .ret)
 .skip)) (.seq (.reg [(none, .mv 8 .copy (.k (N 0)))])
 .ret)))))))
theorem ZaT : Qp Tryz.prog YO Za7 = some (XO, [.tmp 8], 96) := by kernel_rfl
def ZbC : List (Nat × List Md) := MM [(1, 17), (2, 17), (4, 1106), (5, 70218), (7, 2), (9, 1106), (11, 1105), (13, 9432994194578), (15, 75463937008210), (17, 70226), (19, 9425461257362), (21, 18541487186), (23, 18541519442), (25, 1105), (27, 9424519631434), (29, 38637536687760530), (31, 70226), (33, 9493257950290), (35, 70225), (36, 75404749083794), (38, 76014634439762), (40, 70225), (41, 4526674), (43, 9425461257362), (44, 2), (1000001, 426545737)]
def QN : C := (.seq (.reg [(none, .box 6 (.t 0)),(none, .box 7 (.t 1)),(none, .box 9 (.t 3)),(none, .mv 12 .copy (.k (N 0)))]) (.seq (.seq (.frz 6) (.seq (.frz 7) (.seq (.frz 9) (.reg [(none, .mkfn 18 XE false [(.t 7)]),(Jmt 13 18)])))) (.seq (.seq (.reg [(Jfa 19 0 9),(Jlt 20 1 19)]) (.block 0 (.seq (.reg [(Jbe 22 20 0),(Jmc 21 22)]) (.cond (.t 21) (.seq (.reg [(Jlt 23 1 7),(Jmt 24 2),(Jfa 25 1 9),(Jlt 26 1 25),(Jia 27 1 24 26),(Jlc 28 1 27),(none, .call .no (some 29) (.k (.fn WV [])) [(.t 28)]),(none, .nilchk 30 (.t 23)),(Jfa 31 0 30),(Jst 1 31 29)]) (.reg [(Jlt 32 1 7),(none, .nilchk 33 (.t 32)),(Jfa 34 1 33),(Jlc 35 1 34),(Jfa 36 1 9),(Jlt 37 1 36),(Jia 38 1 35 37),(none, .store 1 (.t 38) (.k (N 1)))])) (.seq (.reg [(Jbe 40 20 1),(Jmc 39 40)]) (.cond (.t 39) (.reg [(Jlt 41 1 7),(none, .bslice 42 1 1 [(N 0)] [(0, 1, (.k (N 0)))]),(none, .nilchk 43 (.t 41)),(Jfa 44 0 43),(Jst 1 44 42)]) (.seq (.reg [(Jbe 46 20 2),(Jmc 45 46)]) (.cond (.t 45) (.reg [(Jlt 47 1 7),(Jlt 48 1 7),(none, .bslice 49 1 1 [(N 0)] [(0, 1, (.k (N 0)))]),(JlT 50 4 6),(Jmc 51 4),(none, .indexA 52 1 (.t 51) (.k (N 0))),(Jlc 53 1 52),(Jmc 54 4),(none, .indexA 55 1 (.t 54) (.k (N 1))),(Jlc 56 1 55),(none, .call .no (some 57) (.k (.fn WF [])) [(.t 50), (.t 53), (.t 56)]),(none, .nilchk 58 (.t 47)),(Jfa 59 0 58),(Jst 1 59 49),(none, .nilchk 60 (.t 48)),(Jfa 61 1 60),(Jst 1 61 57)]) (.seq (.reg [(Jbe 63 20 3),(Jmc 62 63)]) (.cond (.t 62) (.seq (.seq (.reg [(Jmc 64 13),(none, .call .any (some 65) (.t 64) [(.k (N 1))]),(Jmc 66 13),(none, .call .any (some 67) (.t 66) [(.k (N 2))]),(none, .call .no (some 68) (.k (.fn WW [])) [(.t 65), (.t 67)]),(none, .un 69 .not (.t 68))]) (.cond (.t 69) (.seq (.reg [(none, .mv 12 .copy (.k (N 3)))])
 .ret)
 .skip)) (.reg [(Jlt 70 1 7),(Jlt 71 1 7),(Jmt 72 13),(none, .call .any (some 73) (.t 72) [(.k (N 1))]),(JlT 74 4 6),(Jmc 75 4),(none, .indexA 76 1 (.t 75) (.k (N 0))),(Jlt 77 1 76),(JlT 78 4 6),(Jmc 79 4),(none, .indexA 80 1 (.t 79) (.k (N 1))),(Jlt 81 1 80),(Jmc 82 4),(none, .indexA 83 1 (.t 82) (.k (N 2))),(Jlt 84 1 83),(none, .call .no (some 85) (.k (.fn Yu [])) [(.t 78), (.t 81), (.t 84)]),(none, .call .no (some 86) (.k (.fn WF [])) [(.t 74), (.t 77), (.t 85)]),(none, .nilchk 87 (.t 70)),(Jfa 88 0 87),(Jst 1 88 73),(none, .nilchk 89 (.t 71)),(Jfa 90 1 89),(Jst 1 90 86)])) (.seq (.reg [(Jbe 92 20 4),(Jmc 91 92)]) (.cond (.t 91) (.reg [(Jlt 93 1 7),(Jlt 94 1 7),(none, .bslice 95 1 1 [(N 0)] [(0, 1, (.k (N 1)))]),(Jmc 96 13),(none, .call .any (some 97) (.t 96) [(.k (N 0))]),(Jmc 98 13),(none, .call .any (some 99) (.t 98) [(.k (N 1))]),(none, .bslice 100 1 3 [(.sl true true 1 []), (.sl true true 1 []), (.sl true true 1 [])] [(0, 1, (.t 95)), (1, 1, (.t 97)), (2, 1, (.t 99))]),(none, .call .no (some 101) (.k (.fn QH [])) [(.t 100)]),(JlT 102 4 6),(Jmc 103 4),(none, .indexA 104 1 (.t 103) (.k (N 0))),(Jlt 105 1 104),(Jmc 106 4),(none, .indexA 107 1 (.t 106) (.k (N 1))),(Jlt 108 1 107),(none, .call .no (some 109) (.k (.fn WF [])) [(.t 102), (.t 105), (.t 108)]),(none, .nilchk 110 (.t 93)),(Jfa 111 0 110),(Jst 1 111 101),(none, .nilchk 112 (.t 94)),(Jfa 113 1 112),(Jst 1 113 109)]) (.seq (.reg [(Jbe 115 20 5),(Jmc 114 115)]) (.cond (.t 114) (.seq (.seq (.reg [(JlT 116 4 6),(Jmt 117 5),(none, .indexA 118 1 (.t 117) (.k (N 1))),(Jlc 119 1 118),(Jfa 120 1 9),(Jlt 121 1 120),(none, .call .no (some 122) (.k (.fn WN [])) [(.t 116), (.t 119), (.t 121)]),(none, .un 123 .not (.t 122))]) (.cond (.t 123) (.seq (.reg [(none, .mv 12 .copy (.k (N 9)))])
 .ret)
 .skip)) (.reg [(Jlt 124 1 7),(Jlt 125 1 7),(Jmt 126 13),(none, .call .any (some 127) (.t 126) [(.k (N 1))]),(JlT 128 4 6),(JlT 129 4 6),(Jfa 130 1 9),(Jlt 131 1 130),(Jmc 132 4),(none, .indexA 133 1 (.t 132) (.k (N 0))),(Jlt 134 1 133),(none, .call .no (some 135) (.k (.fn WL [])) [(.t 129), (.t 131), (.t 134)]),(Jmc 136 4),(none, .indexA 137 1 (.t 136) (.k (N 1))),(Jlt 138 1 137),(none, .call .no (some 139) (.k (.fn WF [])) [(.t 128), (.t 135), (.t 138)]),(none, .nilchk 140 (.t 124)),(Jfa 141 0 140),(Jst 1 141 127),(none, .nilchk 142 (.t 125)),(Jfa 143 1 142),(Jst 1 143 139)])) (.seq (.reg [(Jbe 145 20 6),(Jmc 144 145)]) (.cond (.t 144) (.reg [(Jlt 146 1 7),(Jlt 147 1 7),(none, .bslice 148 1 1 [(N 0)] [(0, 1, (.k (N 2)))]),(Jmt 149 13),(none, .call .any (some 150) (.t 149) [(.k (N 0))]),(Jfa 151 2 9),(Jlt 152 1 151),(none, .bslice 153 1 3 [(.sl true true 1 []), (.sl true true 1 []), (.sl true true 1 [])] [(0, 1, (.t 148)), (1, 1, (.t 150)), (2, 1, (.t 152))]),(none, .call .no (some 154) (.k (.fn QH [])) [(.t 153)]),(Jmt 155 4),(none, .indexA 156 1 (.t 155) (.k (N 0))),(Jlt 157 1 156),(none, .nilchk 158 (.t 146)),(Jfa 159 0 158),(Jst 1 159 154),(none, .nilchk 160 (.t 147)),(Jfa 161 1 160),(Jst 1 161 157)]) (.seq (.reg [(Jbe 163 20 7),(Jmc 162 163)]) (.cond (.t 162) (.reg [(Jlt 164 1 7),(Jlt 165 1 7),(none, .bslice 166 1 1 [(N 0)] [(0, 1, (.k (N 2)))]),(Jfa 167 2 9),(Jlt 168 1 167),(Jmt 169 13),(none, .call .any (some 170) (.t 169) [(.k (N 0))]),(none, .bslice 171 1 3 [(.sl true true 1 []), (.sl true true 1 []), (.sl true true 1 [])] [(0, 1, (.t 166)), (1, 1, (.t 168)), (2, 1, (.t 170))]),(none, .call .no (some 172) (.k (.fn QH [])) [(.t 171)]),(Jmt 173 4),(none, .indexA 174 1 (.t 173) (.k (N 0))),(Jlt 175 1 174),(none, .nilchk 176 (.t 164)),(Jfa 177 0 176),(Jst 1 177 172),(none, .nilchk 178 (.t 165)),(Jfa 179 1 178),(Jst 1 179 175)]) (.seq (.reg [(Jbe 181 20 8),(Jmc 180 181)]) (.cond (.t 180) (.seq (.seq (.reg [(Jmc 182 13),(none, .call .any (some 183) (.t 182) [(.k (N 1))]),(Jmc 184 13),(none, .call .any (some 185) (.t 184) [(.k (N 2))]),(none, .call .no (some 186) (.k (.fn WW [])) [(.t 183), (.t 185)]),(none, .un 187 .not (.t 186))]) (.cond (.t 187) (.seq (.reg [(none, .mv 12 .copy (.k (N 3)))])
 .ret)
 .skip)) (.seq (.seq (.reg [(JlT 188 4 6),(Jmc 189 5),(none, .indexA 190 1 (.t 189) (.k (N 1))),(Jlc 191 1 190),(Jfa 192 1 9),(Jlt 193 1 192),(none, .call .no (some 194) (.k (.fn WN [])) [(.t 188), (.t 191), (.t 193)]),(none, .un 195 .not (.t 194)),(Jmc 196 195),(some (196, false), .load 197 .take true 4 (.t 6)),(some (196, false), .mv 198 .copy (.t 5)),(some (196, false), .indexA 199 1 (.t 198) (.k (N 2))),(some (196, false), .load 200 .copy false 1 (.t 199)),(some (196, false), .fieldA 201 1 (.t 9)),(some (196, false), .load 202 .take false 1 (.t 201)),(some (196, false), .call .no (some 203) (.k (.fn WN [])) [(.t 197), (.t 200), (.t 202)]),(some (196, false), .un 204 .not (.t 203)),(none, .pick 205 (.t 196) (.k (.sc (.bool true))) (.t 204))]) (.cond (.t 205) (.seq (.reg [(none, .mv 12 .copy (.k (N 9)))])
 .ret)
 .skip)) (.reg [(Jlt 206 1 7),(Jlt 207 1 7),(Jmt 208 13),(none, .call .any (some 209) (.t 208) [(.k (N 1))]),(JlT 210 4 6),(JlT 211 4 6),(Jfa 212 1 9),(Jlt 213 1 212),(Jmc 214 4),(none, .indexA 215 1 (.t 214) (.k (N 0))),(Jlt 216 1 215),(none, .call .no (some 217) (.k (.fn WL [])) [(.t 211), (.t 213), (.t 216)]),(JlT 218 4 6),(Jmc 219 4),(none, .indexA 220 1 (.t 219) (.k (N 1))),(Jlt 221 1 220),(Jmc 222 4),(none, .indexA 223 1 (.t 222) (.k (N 2))),(Jlt 224 1 223),(none, .call .no (some 225) (.k (.fn Yu [])) [(.t 218), (.t 221), (.t 224)]),(none, .call .no (some 226) (.k (.fn WF [])) [(.t 210), (.t 217), (.t 225)]),(none, .nilchk 227 (.t 206)),(Jfa 228 0 227),(Jst 1 228 209),(none, .nilchk 229 (.t 207)),(Jfa 230 1 229),(Jst 1 230 226)]))) (.seq (.reg [(Jbe 232 20 9),(Jmc 231 232)]) (.cond (.t 231) (.seq (.seq (.reg [(JlT 233 4 6),(Jmt 234 5),(none, .indexA 235 1 (.t 234) (.k (N 0))),(Jlc 236 1 235),(Jfa 237 1 9),(Jlt 238 1 237),(none, .call .no (some 239) (.k (.fn WN [])) [(.t 233), (.t 236), (.t 238)]),(none, .un 240 .not (.t 239))]) (.cond (.t 240) (.seq (.reg [(none, .mv 12 .copy (.k (N 9)))])
 .ret)
 .skip)) (.reg [(Jlt 241 1 7),(Jlt 242 1 7),(Jfa 243 1 9),(Jlt 244 1 243),(none, .bin 245 .num .add (.k (N 3)) (.t 244)),(none, .bslice 246 1 1 [(N 0)] [(0, 1, (.t 245))]),(Jfa 247 2 9),(Jlt 248 1 247),(Jmt 249 13),(none, .call .any (some 250) (.t 249) [(.k (N 0))]),(none, .bslice 251 1 3 [(.sl true true 1 []), (.sl true true 1 []), (.sl true true 1 [])] [(0, 1, (.t 246)), (1, 1, (.t 248)), (2, 1, (.t 250))]),(none, .call .no (some 252) (.k (.fn QH [])) [(.t 251)]),(Jmt 253 4),(none, .indexA 254 1 (.t 253) (.k (N 0))),(Jlt 255 1 254),(none, .nilchk 256 (.t 241)),(Jfa 257 0 256),(Jst 1 257 252),(none, .nilchk 258 (.t 242)),(Jfa 259 1 258),(Jst 1 259 255)])) (.seq (.reg [(Jbe 261 20 10),(Jmc 260 261)]) (.cond (.t 260) (.seq (.reg [(Jmc 263 13),(none, .call .any (some 264) (.t 263) [(.k (N 0))]),(none, .indexA 265 1 (.t 264) (.k (N 0))),(Jlc 266 1 265),(none, .call .no (some 267) (.k (.fn XN [])) [(.t 266)]),(Jmt 262 267),(none, .extract 268 0 (.t 262)),(none, .extract 269 1 (.t 262)),(Jmc 14 268),(Jmc 15 269)]) (.reg [(Jlt 270 1 7),(Jlt 271 1 7),(Jmt 272 13),(none, .call .any (some 273) (.t 272) [(.k (N 0))]),(none, .call .no (some 274) (.k (.fn YL [])) [(.t 273)]),(none, .indexA 275 1 (.t 274) (.k (N 1))),(Jlt 276 1 275),(JlT 277 4 6),(Jmc 278 4),(none, .indexA 279 1 (.t 278) (.k (N 0))),(Jlt 280 1 279),(JlT 281 4 6),(Jmc 282 15),(Jmc 283 4),(none, .indexA 284 1 (.t 283) (.k (N 1))),(Jlt 285 1 284),(none, .call .no (some 286) (.k (.fn WL [])) [(.t 281), (.t 282), (.t 285)]),(none, .call .no (some 287) (.k (.fn WF [])) [(.t 277), (.t 280), (.t 286)]),(none, .nilchk 288 (.t 270)),(Jfa 289 0 288),(Jst 1 289 276),(none, .nilchk 290 (.t 271)),(Jfa 291 1 290),(Jst 1 291 287)])) (.seq (.reg [(Jbe 293 20 11),(Jmc 292 293)]) (.cond (.t 292) (.reg [(Jlt 294 1 7),(Jlt 295 1 7),(Jfa 296 1 9),(Jlt 297 1 296),(none, .bin 298 .num .add (.k (N 19)) (.t 297)),(none, .bslice 299 1 1 [(N 0)] [(0, 1, (.t 298))]),(Jmt 300 13),(none, .call .any (some 301) (.t 300) [(.k (N 0))]),(none, .bslice 302 1 2 [(.sl true true 1 []), (.sl true true 1 [])] [(0, 1, (.t 299)), (1, 1, (.t 301))]),(none, .call .no (some 303) (.k (.fn QH [])) [(.t 302)]),(JlT 304 4 6),(Jfa 305 1 9),(Jlt 306 1 305),(Jmt 307 4),(none, .indexA 308 1 (.t 307) (.k (N 0))),(Jlt 309 1 308),(none, .call .no (some 310) (.k (.fn WL [])) [(.t 304), (.t 306), (.t 309)]),(none, .nilchk 311 (.t 294)),(Jfa 312 0 311),(Jst 1 312 303),(none, .nilchk 313 (.t 295)),(Jfa 314 1 313),(Jst 1 314 310)]) (.seq (.reg [(Jbe 316 20 12),(Jmc 315 316)]) (.cond (.t 315) (.seq (.reg [(Jmc 318 13),(none, .call .any (some 319) (.t 318) [(.k (N 0))]),(none, .indexA 320 1 (.t 319) (.k (N 0))),(Jlc 321 1 320),(none, .call .no (some 322) (.k (.fn XN [])) [(.t 321)]),(Jmt 317 322),(none, .extract 323 0 (.t 317)),(none, .extract 324 1 (.t 317)),(Jmc 16 323),(Jmc 17 324)]) (.seq (.seq (.reg [(JlT 325 4 6),(Jmt 326 5),(none, .indexA 327 1 (.t 326) (.k (N 1))),(Jlc 328 1 327),(Jfa 329 0 6),(JlT 330 4 329),(Jfa 331 1 9),(Jlt 332 1 331),(Jmc 333 17),(none, .call .no (some 334) (.k (.fn Qx [])) [(.t 330), (.t 332), (.t 333)]),(none, .call .no (some 335) (.k (.fn WN [])) [(.t 325), (.t 328), (.t 334)]),(none, .un 336 .not (.t 335))]) (.cond (.t 336) (.seq (.reg [(none, .mv 12 .copy (.k (N 9)))])
 .ret)
 .skip)) (.reg [(Jlt 337 1 7),(Jlt 338 1 7),(Jmt 339 13),(none, .call .any (some 340) (.t 339) [(.k (N 1))]),(JlT 341 4 6),(JlT 342 4 6),(Jfa 343 1 9),(Jlt 344 1 343),(Jmc 345 4),(none, .indexA 346 1 (.t 345) (.k (N 0))),(Jlt 347 1 346),(none, .call .no (some 348) (.k (.fn WL [])) [(.t 342), (.t 344), (.t 347)]),(Jmc 349 4),(none, .indexA 350 1 (.t 349) (.k (N 1))),(Jlt 351 1 350),(none, .call .no (some 352) (.k (.fn WF [])) [(.t 341), (.t 348), (.t 351)]),(none, .nilchk 353 (.t 337)),(Jfa 354 0 353),(Jst 1 354 340),(none, .nilchk 355 (.t 338)),(Jfa 356 1 355),(Jst 1 356 352)])))
 .skip)))))))))))))))))))))))))))) (.seq (.seq (.reg [(Jlt 357 1 7),(none, .nilchk 358 (.t 357)),(Jfa 359 0 358),(Jlc 360 1 359),(none, .call .no (some 361) (.k (.fn ZbM [])) [(.t 360)])]) (.cond (.t 361) (.seq (.reg [(none, .mv 12 .copy (.k (N 3)))])
 .ret)
 .skip)) (.seq (.reg [(none, .mv 12 .copy (.k (N 0)))])
 .ret)))))
theorem ZbD : Qp Tryz.prog Y8 ZbC = some (QN, [.tmp 12], 362) := by kernel_rfl
def Zcl : List (Nat × List Md) := MM [(1, 561737)]
def Ks : C := (.seq (.reg [(none, .mv 2 .copy (.k (.sc (.bool false))))]) (.seq (.reg [(Jmc 3 0),(Jln 4 3),(none, .call .no (some 5) (.k (.fn WT [])) [(.t 4), (.k (N 1)), (.k (N 40))]),(Jmc 6 5),(some (6, true), .mv 7 .copy (.t 0)),(some (6, true), .call .no (some 8) (.k (.fn W2 [])) [(.t 7), (.k (N 0))]),(some (6, true), .mv 9 .take (.t 0)),(some (6, true), .len 10 (.t 9)),(some (6, true), .bin 11 .num .eql (.t 8) (.t 10)),(none, .pick 12 (.t 6) (.t 11) (.k (.sc (.bool false)))),(Jmc 2 12)])
 .ret))
theorem ZbX : Qp Tryz.prog Zc Zcl = some (Ks, [.tmp 2], 13) := by kernel_rfl
def Zjd : List (Nat × List Md) := MM [(3, 70217), (8, 2), (11, 17)]
def Zcv : C := (.seq (.reg [(none, .mv 4 .copy (.k (N 0)))]) (.seq (.seq (.reg [(Jmc 7 1),(none, .bin 8 .num .lss (.t 7) (.k (N 0))),(Jmc 9 8),(some (9, false), .mv 10 .copy (.t 1)),(some (9, false), .mv 11 .copy (.t 0)),(some (9, false), .len 12 (.t 11)),(some (9, false), .bin 13 .num .geq (.t 10) (.t 12)),(none, .pick 14 (.t 9) (.k (.sc (.bool true))) (.t 13))]) (.cond (.t 14) (.seq (.reg [(none, .mv 4 .copy (.k (N (-1))))])
 .ret)
 .skip)) (.seq (.reg [(Jmc 16 0),(Jmc 17 1),(Jia 18 1 16 17),(Jlc 19 1 18),(none, .call .no (some 20) (.k (.fn XN [])) [(.t 19)]),(Jmt 15 20),(none, .extract 21 0 (.t 15)),(none, .extract 22 1 (.t 15)),(Jmc 5 21),(Jmc 6 22)]) (.seq (.seq (.reg [(Jmc 23 5)]) (.block 0 (.seq (.reg [(Jbe 25 23 0),(Jmc 24 25)]) (.cond (.t 24) (.seq (.reg [(Jmc 26 1),(Jba 27 26 1),(Jmc 4 27)])
 .ret) (.seq (.reg [(Jbe 29 23 4),(Jmc 28 29)]) (.cond (.t 28) (.seq (.reg [(Jmt 30 0),(Jmc 31 1),(Jba 32 31 1),(none, .call .no (some 33) (.k (.fn W2 [])) [(.t 30), (.t 32)]),(Jmc 4 33)])
 .ret) (.seq (.reg [(Jbe 35 23 5),(Jmc 34 35)]) (.cond (.t 34) (.seq (.reg [(none, .mv 4 .copy (.k (N (-1))))])
 .ret)
 .skip)))))))) (.seq (.reg [(Jmc 36 0),(Jmt 37 0),(Jmc 38 1),(Jba 39 38 1),(none, .call .no (some 40) (.k (.fn W2 [])) [(.t 37), (.t 39)]),(none, .call .no (some 41) (.k (.fn W2 [])) [(.t 36), (.t 40)]),(Jmc 4 41)])
 .ret)))))
theorem Zhs : Qp Tryz.prog W2 Zjd = some (Zcv, [.tmp 4], 42) := by kernel_rfl
def ZnO : List (Nat × List Md) := MM []
def Zge : C := (.seq (.reg [(none, .mv 4 .copy (.k (N 0)))]) (.seq (.block 0 (.seq (.reg [(Jmc 6 0),(Jbe 7 6 5),(Jmc 8 7),(some (8, true), .mv 9 .copy (.t 1)),(some (8, true), .bin 10 .num .eql (.t 9) (.k (N 1))),(none, .pick 11 (.t 8) (.t 10) (.k (.sc (.bool false)))),(Jmc 5 11)]) (.cond (.t 5) (.seq (.reg [(none, .mv 4 .copy (.k (N 2)))])
 .ret) (.seq (.seq (.reg [(Jmc 13 0),(Jbe 14 13 8),(Jmc 15 14),(some (15, true), .mv 16 .copy (.t 1)),(some (15, true), .bin 17 .num .gtr (.t 16) (.k (N 0))),(none, .pick 18 (.t 15) (.t 17) (.k (.sc (.bool false)))),(Jmc 12 18)]) (.cond (.t 12)
 .skip (.seq (.reg [(Jmc 19 0),(Jbe 20 19 9),(Jmc 12 20)]) (.cond (.t 12)
 .skip (.reg [(Jmc 21 0),(Jbe 22 21 12),(Jmc 23 22),(some (23, true), .mv 24 .copy (.t 1)),(some (23, true), .bin 25 .num .eql (.t 24) (.k (N 1))),(none, .pick 26 (.t 23) (.t 25) (.k (.sc (.bool false)))),(Jmc 12 26)]))))) (.cond (.t 12) (.seq (.reg [(none, .mv 4 .copy (.k (N 1)))])
 .ret)
 .skip))))) (.seq (.reg [(none, .mv 4 .copy (.k (N 0)))])
 .ret)))
theorem ZmB : Qp Tryz.prog KE ZnO = some (Zge, [.tmp 4], 27) := by kernel_rfl
def ZjC : List (Nat × List Md) := MM [(3, 137), (5, 8777), (9, 562249), (10, 1106), (12, 138)]
def Zdi : C := (.seq (.reg [(none, .mv 4 .copy (.k (.sl true true 1 []))),(none, .mv 5 .copy (.k (N 0)))]) (.seq (.reg [(Jmc 11 0),(Jmc 12 1),(Jia 13 1 11 12),(Jlc 14 1 13),(Jmc 6 14)]) (.seq (.reg [(Jmc 15 1),(Jba 16 15 1),(Jmc 1 16)]) (.seq (.reg [(Jmc 17 6),(none, .bslice 18 1 1 [(N 0)] [(0, 1, (.t 17))]),(Jmt 7 18)]) (.seq (.seq (.reg [(Jmc 19 6),(none, .call .no (some 20) (.k (.fn Zj [])) [(.t 19)])]) (.cond (.t 20) (.reg [(Jmc 21 6),(none, .call .no (some 22) (.k (.fn XY [])) [(.t 21)]),(none, .call .no (some 23) (.k (.fn V3 [])) [(.k (.sc (.bool false))), (.t 22)]),(none, .bslice 24 1 2 [(N 0), (N 0)] [(0, 1, (.k (N 4))), (1, 1, (.t 23))]),(Jmt 7 24)])
 .skip)) (.seq (.seq (.reg [(none, .mv 8 .copy (.k (N 0)))]) (.block 0 (.loop (.seq (.seq (.reg [(Jmc 25 8),(Jmc 26 6),(none, .call .no (some 27) (.k (.fn ZN [])) [(.t 26)]),(Jbl 28 25 27)]) (.cond (.t 28)
 .skip (.exit 0))) (.seq (.block 1 (.seq (.reg [(Jmc 32 0),(Jmc 33 1),(none, .call .no (some 34) (.k (.fn Kn [])) [(.t 32), (.t 33)]),(Jmt 31 34),(none, .extract 35 0 (.t 31)),(none, .extract 36 1 (.t 31)),(Jmt 9 35),(Jmc 10 36)]) (.seq (.reg [(Jmt 37 7),(Jmt 38 9),(none, .append 39 1 (.t 37) (.t 38)),(Jmt 7 39)]) (.reg [(Jmc 40 10),(Jmc 1 40)])))) (.reg [(Jmc 29 8),(Jba 30 29 1),(Jmc 8 30)])))))) (.seq (.reg [(Jmt 41 7),(Jmc 42 1),(Jmt 4 41),(Jmc 5 42)])
 .ret)))))))
theorem Zjw : Qp Tryz.prog Kn ZjC = some (Zdi, [.tmp 4, .tmp 5], 43) := by kernel_rfl
def Vn : List (Nat × List Md) := MM [(4, 137), (5, 17), (9, 137), (10, 2), (12, 137), (13, 1106), (15, 18)]
def X1 : C := (.seq (.reg [(none, .mv 2 .copy (.k (.sl true true 1 [])))]) (.seq (.reg [(none, .mv 3 .copy (.k (N 0)))]) (.seq (.seq (.reg [(Jmc 9 0),(Jln 10 9),(none, .mv 11 .copy (.k (N 0)))]) (.block 0 (.loop (.seq (.reg [(Jbl 12 11 10)]) (.seq (.cond (.t 12)
 .skip (.exit 0)) (.seq (.block 1 (.seq (.reg [(Jia 13 1 9 11),(Jlc 14 1 13),(Jmt 5 14)]) (.seq (.reg [(Jmc 15 3),(Jmt 16 5),(Jln 17 16),(none, .bin 18 .num .add (.t 15) (.t 17)),(Jmc 3 18)]) (.seq (.reg [(Jmc 19 3),(none, .bin 20 .num .lss (.t 19) (.k (N 0)))]) (.cond (.t 20) (.reg [(none, .bad (some 21)),(none, .bad none)])
 .skip))))) (.reg [(Jba 22 11 1),(Jmc 11 22)]))))))) (.seq (.reg [(Jmc 23 3),(none, .call .no (some 24) (.k (.fn Xw [])) [(.k (.sl true true 1 [])), (.t 23)]),(Jmt 6 24)]) (.seq (.seq (.reg [(Jmt 25 0),(Jln 26 25),(none, .mv 27 .copy (.k (N 0)))]) (.block 2 (.loop (.seq (.reg [(Jbl 28 27 26)]) (.seq (.cond (.t 28)
 .skip (.exit 2)) (.seq (.block 3 (.seq (.reg [(Jia 29 1 25 27),(Jlc 30 1 29),(Jmt 8 30)]) (.reg [(Jmt 31 6),(Jmt 32 8),(none, .append 33 1 (.t 31) (.t 32)),(Jmt 6 33)]))) (.reg [(Jba 34 27 1),(Jmc 27 34)]))))))) (.seq (.reg [(Jmt 35 6),(Jmt 2 35)])
 .ret))))))
theorem Zd : Qp Tryz.prog QH Vn = some (X1, [.tmp 2], 36) := by kernel_rfl
def Znk : List (Nat × List Md) := MM []
def Zf9 : C := (.seq (.reg [(none, .mv 6 .copy (.k (.sc (.bool false))))]) (.seq (.reg [(Jmc 7 0),(Jmc 8 1),(none, .bin 9 .num .geq (.t 7) (.t 8)),(Jmc 10 9),(some (10, true), .mv 11 .copy (.t 0)),(some (10, true), .mv 12 .copy (.t 2)),(some (10, true), .bin 13 .num .leq (.t 11) (.t 12)),(none, .pick 14 (.t 10) (.t 13) (.k (.sc (.bool false)))),(Jmc 6 14)])
 .ret))
theorem ZnF : Qp Tryz.prog Xx Znk = some (Zf9, [.tmp 6], 15) := by kernel_rfl
def ZjG : List (Nat × List Md) := MM [(1, 8785), (3, 17), (5, 17), (6, 17), (8, 17), (9, 17), (11, 17), (12, 1178048434769), (14, 17), (15, 17), (16, 70225), (1000001, 12873)]
def Zdm : C := (.seq (.reg [(none, .box 4 (.t 0)),(none, .mv 8 .copy (.k (.sc (.bool false))))]) (.seq (.seq (.seq (.frz 4) (.reg [(Jfa 9 3 4),(Jlt 10 1 9),(Jln 11 10),(Jfa 12 0 4),(Jlt 13 1 12),(none, .call .no (some 14) (.k (.fn Zaa [])) [(.t 13)]),(none, .bin 15 .num .neq (.t 11) (.t 14))])) (.cond (.t 15) (.seq (.reg [(none, .mv 8 .copy (.k (.sc (.bool false))))])
 .ret)
 .skip)) (.seq (.block 0 (.seq (.reg [(Jfa 20 0 4),(Jlt 21 1 20),(Jbe 22 21 0),(Jmc 19 22)]) (.cond (.t 19) (.seq (.reg [(Jfa 23 1 4),(Jlt 24 1 23),(Jmc 25 1),(none, .bin 26 .num .sub (.t 25) (.k (N 1))),(none, .call .no (some 27) (.k (.fn Xx [])) [(.t 24), (.k (N 0)), (.t 26)]),(none, .un 28 .not (.t 27))]) (.cond (.t 28) (.seq (.reg [(none, .mv 8 .copy (.k (.sc (.bool false))))])
 .ret)
 .skip)) (.seq (.reg [(Jfa 30 0 4),(Jlt 31 1 30),(Jbe 32 31 1),(Jmc 29 32)]) (.cond (.t 29) (.seq (.reg [(Jfa 33 1 4),(Jlt 34 1 33),(none, .call .no (some 35) (.k (.fn Xx [])) [(.t 34), (.k (N 0)), (.k (N 2))]),(none, .un 36 .not (.t 35))]) (.cond (.t 36) (.seq (.reg [(none, .mv 8 .copy (.k (.sc (.bool false))))])
 .ret)
 .skip)) (.seq (.reg [(Jfa 38 0 4),(Jlt 39 1 38),(none, .call .no (some 40) (.k (.fn Za2 [])) [(.t 39)]),(Jmc 37 40)]) (.cond (.t 37) (.seq (.reg [(Jfa 41 1 4),(Jlt 42 1 41),(Jmc 43 2),(none, .bin 44 .num .geq (.t 42) (.t 43)),(Jmc 45 44),(some (45, false), .fieldA 46 1 (.t 4)),(some (45, false), .load 47 .take false 1 (.t 46)),(some (45, false), .bin 48 .num .lss (.t 47) (.k (N (-1)))),(none, .pick 49 (.t 45) (.k (.sc (.bool true))) (.t 48)),(Jmc 50 49),(some (50, false), .mv 51 .copy (.t 3)),(some (50, false), .mv 52 .copy (.t 51)),(some (52, true), .fieldA 53 1 (.t 4)),(some (52, true), .load 54 .take false 1 (.t 53)),(some (52, true), .bin 55 .num .lss (.t 54) (.k (N 0))),(some (50, false), .pick 56 (.t 52) (.t 55) (.k (.sc (.bool false)))),(none, .pick 57 (.t 50) (.k (.sc (.bool true))) (.t 56))]) (.cond (.t 57) (.seq (.reg [(none, .mv 8 .copy (.k (.sc (.bool false))))])
 .ret)
 .skip)) (.seq (.reg [(Jfa 16 1 4),(Jlt 17 1 16),(none, .bin 18 .num .neq (.t 17) (.k (N 0)))]) (.cond (.t 18) (.seq (.reg [(none, .mv 8 .copy (.k (.sc (.bool false))))])
 .ret)
 .skip))))))))) (.seq (.seq (.reg [(Jfa 58 0 4),(Jlt 59 1 58),(none, .call .no (some 60) (.k (.fn JG [])) [(.t 59)]),(none, .un 61 .not (.t 60))]) (.cond (.t 61) (.seq (.reg [(Jfa 62 2 4),(Jlt 63 1 62),(Jln 64 63),(Jbe 65 64 0),(Jmc 8 65)])
 .ret)
 .skip)) (.seq (.reg [(Jfa 66 2 4),(Jlt 67 1 66),(none, .call .no (some 68) (.k (.fn YX [])) [(.t 67)]),(Jmc 69 68),(some (69, true), .fieldA 70 2 (.t 4)),(some (69, true), .load 71 .take false 1 (.t 70)),(some (69, true), .mv 72 .copy (.t 2)),(some (69, true), .mv 73 .copy (.t 3)),(some (69, true), .call .no (some 74) (.k (.fn ZW [])) [(.t 71), (.t 72), (.t 73)]),(none, .pick 75 (.t 69) (.t 74) (.k (.sc (.bool false)))),(Jmc 8 75)])
 .ret)))))
theorem ZjS : Qp Tryz.prog V2 ZjG = some (Zdm, [.tmp 8], 76) := by kernel_rfl
def Zlo : List (Nat × List Md) := MM [(1, 8785), (1000001, 1609)]
def Zej : C := (.seq (.reg [(none, .box 3 (.t 0)),(none, .mv 6 .copy (.k (N 0)))]) (.seq (.seq (.frz 3) (.reg [(Jfa 7 1 3),(Jlt 8 1 7),(Jmc 9 1),(Jfa 10 0 3),(Jlt 11 1 10),(none, .bin 12 .num .mul (.t 9) (.t 11)),(Jmc 13 2),(none, .bin 14 .num .add (.t 12) (.t 13)),(Jia 15 1 8 14),(Jlc 16 1 15),(Jmc 6 16)]))
 .ret))
theorem ZlL : Qp Tryz.prog Wx Zlo = some (Zej, [.tmp 6], 17) := by kernel_rfl
def ZlC : List (Nat × List Md) := MM [(1, 8785), (1000001, 1609)]
def Zes : C := (.seq (.reg [(none, .box 3 (.t 0)),(none, .mv 6 .copy (.k (N 0)))]) (.seq (.seq (.frz 3) (.reg [(Jfa 7 2 3),(Jlt 8 1 7),(Jmc 9 1),(Jfa 10 0 3),(Jlt 11 1 10),(none, .bin 12 .num .mul (.t 9) (.t 11)),(Jmc 13 2),(none, .bin 14 .num .add (.t 12) (.t 13)),(Jia 15 1 8 14),(Jlc 16 1 15),(Jmc 6 16)]))
 .ret))
theorem Zl7 : Qp Tryz.prog Q0 ZlC = some (Zes, [.tmp 6], 17) := by kernel_rfl
def Zjo : List (Nat × List Md) := MM [(2, 137), (4, 70218), (6, 137), (8, 1178048434762), (1000001, 1609)]
def Zc4 : C := (.seq (.reg [(none, .box 3 (.t 0)),(none, .mv 6 .copy (.k (N 0)))]) (.seq (.seq (.seq (.frz 3) (.reg [(none, .mv 7 .copy (.k (N 0)))])) (.block 0 (.loop (.seq (.seq (.reg [(Jmc 10 7),(Jfa 11 0 3),(Jlt 12 1 11),(Jbl 13 10 12)]) (.cond (.t 13)
 .skip (.exit 0))) (.seq (.block 1 (.seq (.reg [(JlT 16 4 3),(Jmc 17 1),(Jmc 18 7),(none, .call .no (some 19) (.k (.fn Wh [])) [(.t 16), (.t 17), (.t 18)]),(Jmc 20 19),(some (20, true), .load 21 .take true 4 (.t 3)),(some (20, true), .mv 22 .copy (.t 2)),(some (20, true), .mv 23 .copy (.t 7)),(some (20, true), .call .no (some 24) (.k (.fn Wh [])) [(.t 21), (.t 22), (.t 23)]),(none, .pick 25 (.t 20) (.t 24) (.k (.sc (.bool false)))),(Jmc 8 25)]) (.seq (.seq (.reg [(none, .mv 9 .copy (.k (N 0)))]) (.block 2 (.loop (.seq (.seq (.reg [(Jmc 26 9),(Jfa 27 0 3),(Jlt 28 1 27),(Jbl 29 26 28),(Jmc 30 29),(some (30, true), .mv 31 .copy (.t 8)),(none, .pick 32 (.t 30) (.t 31) (.k (.sc (.bool false))))]) (.cond (.t 32)
 .skip (.exit 2))) (.seq (.block 3 (.reg [(JlT 35 4 3),(Jmc 36 1),(Jmc 37 9),(none, .call .no (some 38) (.k (.fn Wh [])) [(.t 35), (.t 36), (.t 37)]),(none, .un 39 .not (.t 38)),(Jmc 40 39),(some (40, false), .load 41 .take true 4 (.t 3)),(some (40, false), .mv 42 .copy (.t 2)),(some (40, false), .mv 43 .copy (.t 9)),(some (40, false), .call .no (some 44) (.k (.fn Wh [])) [(.t 41), (.t 42), (.t 43)]),(some (40, false), .un 45 .not (.t 44)),(none, .pick 46 (.t 40) (.k (.sc (.bool true))) (.t 45)),(Jmc 47 46),(some (47, false), .load 48 .take true 4 (.t 3)),(some (47, false), .mv 49 .copy (.t 7)),(some (47, false), .mv 50 .copy (.t 9)),(some (47, false), .call .no (some 51) (.k (.fn Wh [])) [(.t 48), (.t 49), (.t 50)]),(none, .pick 52 (.t 47) (.k (.sc (.bool true))) (.t 51)),(Jmc 8 52)])) (.reg [(Jmc 33 9),(Jba 34 33 1),(Jmc 9 34)])))))) (.seq (.reg [(Jmc 53 8)]) (.cond (.t 53) (.seq (.reg [(Jmc 54 7),(Jmc 6 54)])
 .ret)
 .skip))))) (.reg [(Jmc 14 7),(Jba 15 14 1),(Jmc 7 15)])))))) (.seq (.reg [(none, .mv 6 .copy (.k (N (-1))))])
 .ret)))
theorem Zky : Qp Tryz.prog Kp Zjo = some (Zc4, [.tmp 6], 55) := by kernel_rfl
def ZgR : List (Nat × List Md) := MM [(1, 1368119934875441956049010594385), (4, 137), (6, 4825354034778705), (1000001, 25)]
def Zbh : C := (.seq (.reg [(none, .box 1 (.t 0)),(none, .mv 2 .copy (.k (.sc (.bool false))))]) (.seq (.seq (.seq (.frz 1) (.reg [(Jfa 4 0 1),(Jlt 5 1 4),(none, .call .no (some 6) (.k (.fn Xx [])) [(.t 5), (.k (N 2)), (.k (N 16))]),(none, .un 7 .not (.t 6)),(Jmc 8 7),(some (8, false), .fieldA 9 1 (.t 1)),(some (8, false), .load 10 .take false 1 (.t 9)),(some (8, false), .len 11 (.t 10)),(some (8, false), .fieldA 12 0 (.t 1)),(some (8, false), .load 13 .take false 1 (.t 12)),(some (8, false), .fieldA 14 0 (.t 1)),(some (8, false), .load 15 .take false 1 (.t 14)),(some (8, false), .bin 16 .num .mul (.t 13) (.t 15)),(some (8, false), .bin 17 .num .neq (.t 11) (.t 16)),(none, .pick 18 (.t 8) (.k (.sc (.bool true))) (.t 17)),(Jmc 19 18),(some (19, false), .fieldA 20 2 (.t 1)),(some (19, false), .load 21 .take false 1 (.t 20)),(some (19, false), .len 22 (.t 21)),(some (19, false), .fieldA 23 0 (.t 1)),(some (19, false), .load 24 .take false 1 (.t 23)),(some (19, false), .fieldA 25 0 (.t 1)),(some (19, false), .load 26 .take false 1 (.t 25)),(some (19, false), .bin 27 .num .mul (.t 24) (.t 26)),(some (19, false), .bin 28 .num .neq (.t 22) (.t 27)),(none, .pick 29 (.t 19) (.k (.sc (.bool true))) (.t 28)),(Jmc 30 29),(some (30, false), .fieldA 31 3 (.t 1)),(some (30, false), .load 32 .take false 1 (.t 31)),(some (30, false), .len 33 (.t 32)),(some (30, false), .fieldA 34 0 (.t 1)),(some (30, false), .load 35 .take false 1 (.t 34)),(some (30, false), .fieldA 36 0 (.t 1)),(some (30, false), .load 37 .take false 1 (.t 36)),(some (30, false), .bin 38 .num .mul (.t 35) (.t 37)),(some (30, false), .bin 39 .num .neq (.t 33) (.t 38)),(none, .pick 40 (.t 30) (.k (.sc (.bool true))) (.t 39))])) (.cond (.t 40) (.seq (.reg [(none, .mv 2 .copy (.k (.sc (.bool false))))])
 .ret)
 .skip)) (.seq (.seq (.reg [(none, .mv 3 .copy (.k (N 0)))]) (.block 0 (.loop (.seq (.seq (.reg [(Jmc 41 3),(Jfa 42 1 1),(Jlt 43 1 42),(Jln 44 43),(Jbl 45 41 44)]) (.cond (.t 45)
 .skip (.exit 0))) (.seq (.block 1 (.seq (.reg [(Jfa 48 1 1),(Jlt 49 1 48),(Jmc 50 3),(Jia 51 1 49 50),(Jlc 52 1 51),(Jfa 53 0 1),(Jlt 54 1 53),(none, .bin 55 .num .sub (.t 54) (.k (N 1))),(none, .call .no (some 56) (.k (.fn Xx [])) [(.t 52), (.k (N 0)), (.t 55)]),(none, .un 57 .not (.t 56)),(Jmc 58 57),(some (58, false), .fieldA 59 2 (.t 1)),(some (58, false), .load 60 .take false 1 (.t 59)),(some (58, false), .mv 61 .copy (.t 3)),(some (58, false), .indexA 62 1 (.t 60) (.t 61)),(some (58, false), .load 63 .copy false 1 (.t 62)),(some (58, false), .fieldA 64 0 (.t 1)),(some (58, false), .load 65 .take false 1 (.t 64)),(some (58, false), .bin 66 .num .sub (.t 65) (.k (N 1))),(some (58, false), .call .no (some 67) (.k (.fn Xx [])) [(.t 63), (.k (N 0)), (.t 66)]),(some (58, false), .un 68 .not (.t 67)),(none, .pick 69 (.t 58) (.k (.sc (.bool true))) (.t 68))]) (.cond (.t 69) (.seq (.reg [(none, .mv 2 .copy (.k (.sc (.bool false))))])
 .ret)
 .skip))) (.reg [(Jmc 46 3),(Jba 47 46 1),(Jmc 3 47)])))))) (.seq (.reg [(none, .mv 2 .copy (.k (.sc (.bool true))))])
 .ret))))
theorem ZgL : Qp Tryz.prog KT ZgR = some (Zbh, [.tmp 2], 70) := by kernel_rfl
def Zmq : List (Nat × List Md) := MM [(1, 169774936191745691983536493130), (1000001, 201)]
def ZeH : C := (.seq (.reg [(none, .box 2 (.t 0)),(none, .mv 4 .copy (.k (.sc (.bool false))))]) (.seq (.seq (.frz 2) (.reg [(JlT 5 4 2),(Jmc 6 1),(none, .call .no (some 7) (.k (.fn Wx [])) [(.t 5), (.k (N 0)), (.t 6)]),(Jmc 8 1),(none, .bin 9 .num .eql (.t 7) (.t 8)),(Jmc 10 9),(some (10, true), .load 11 .take true 4 (.t 2)),(some (10, true), .mv 12 .copy (.t 1)),(some (10, true), .call .no (some 13) (.k (.fn Q0 [])) [(.t 11), (.k (N 1)), (.t 12)]),(some (10, true), .mv 14 .copy (.t 1)),(some (10, true), .bin 15 .num .eql (.t 13) (.t 14)),(none, .pick 16 (.t 10) (.t 15) (.k (.sc (.bool false)))),(Jmc 17 16),(some (17, true), .load 18 .take true 4 (.t 2)),(some (17, true), .mv 19 .copy (.t 1)),(some (17, true), .call .no (some 20) (.k (.fn Q0 [])) [(.t 18), (.t 19), (.k (N 1))]),(some (17, true), .mv 21 .copy (.t 1)),(some (17, true), .bin 22 .num .eql (.t 20) (.t 21)),(none, .pick 23 (.t 17) (.t 22) (.k (.sc (.bool false)))),(Jmc 24 23),(some (24, true), .load 25 .take true 4 (.t 2)),(some (24, true), .mv 26 .copy (.t 1)),(some (24, true), .call .no (some 27) (.k (.fn Q0 [])) [(.t 25), (.k (N 0)), (.t 26)]),(some (24, true), .bin 28 .num .eql (.t 27) (.k (N 0))),(none, .pick 29 (.t 24) (.t 28) (.k (.sc (.bool false)))),(Jmc 30 29),(some (30, true), .load 31 .take true 4 (.t 2)),(some (30, true), .mv 32 .copy (.t 1)),(some (30, true), .call .no (some 33) (.k (.fn Q0 [])) [(.t 31), (.t 32), (.k (N 0))]),(some (30, true), .bin 34 .num .eql (.t 33) (.k (N 0))),(none, .pick 35 (.t 30) (.t 34) (.k (.sc (.bool false)))),(Jmc 36 35),(some (36, true), .load 37 .take true 4 (.t 2)),(some (36, true), .mv 38 .copy (.t 1)),(some (36, true), .mv 39 .copy (.t 1)),(some (36, true), .call .no (some 40) (.k (.fn Wh [])) [(.t 37), (.t 38), (.t 39)]),(none, .pick 41 (.t 36) (.t 40) (.k (.sc (.bool false)))),(Jmc 4 41)]))
 .ret))
theorem Zmf : Qp Tryz.prog Za5 Zmq = some (ZeH, [.tmp 4], 42) := by kernel_rfl
def ZlG : List (Nat × List Md) := MM [(1, 331591091174817579963556426), (1000001, 1609)]
def ZeT : C := (.seq (.reg [(none, .box 3 (.t 0)),(none, .mv 6 .copy (.k (.sc (.bool false))))]) (.seq (.seq (.frz 3) (.reg [(JlT 7 4 3),(Jmc 8 1),(Jmc 9 2),(none, .call .no (some 10) (.k (.fn Wx [])) [(.t 7), (.t 8), (.t 9)]),(JlT 11 4 3),(Jmc 12 2),(Jmc 13 1),(none, .call .no (some 14) (.k (.fn Wx [])) [(.t 11), (.t 12), (.t 13)]),(none, .bin 15 .num .eql (.t 10) (.t 14)),(Jmc 16 15),(some (16, true), .mv 17 .copy (.t 1)),(some (16, true), .mv 18 .copy (.t 2)),(some (16, true), .bin 19 .num .eql (.t 17) (.t 18)),(some (16, true), .mv 20 .copy (.t 19)),(some (20, false), .load 21 .take true 4 (.t 3)),(some (20, false), .mv 22 .copy (.t 1)),(some (20, false), .mv 23 .copy (.t 2)),(some (20, false), .call .no (some 24) (.k (.fn Wh [])) [(.t 21), (.t 22), (.t 23)]),(some (20, false), .un 25 .not (.t 24)),(some (16, true), .pick 26 (.t 20) (.k (.sc (.bool true))) (.t 25)),(some (16, true), .mv 27 .copy (.t 26)),(some (27, false), .load 28 .take true 4 (.t 3)),(some (27, false), .mv 29 .copy (.t 2)),(some (27, false), .mv 30 .copy (.t 1)),(some (27, false), .call .no (some 31) (.k (.fn Wh [])) [(.t 28), (.t 29), (.t 30)]),(some (27, false), .un 32 .not (.t 31)),(some (16, true), .pick 33 (.t 27) (.k (.sc (.bool true))) (.t 32)),(none, .pick 34 (.t 16) (.t 33) (.k (.sc (.bool false)))),(Jmc 35 34),(some (35, true), .load 36 .take true 4 (.t 3)),(some (35, true), .mv 37 .copy (.t 1)),(some (35, true), .mv 38 .copy (.t 2)),(some (35, true), .call .no (some 39) (.k (.fn Kp [])) [(.t 36), (.t 37), (.t 38)]),(some (35, true), .bin 40 .num .geq (.t 39) (.k (N 0))),(none, .pick 41 (.t 35) (.t 40) (.k (.sc (.bool false)))),(Jmc 6 41)]))
 .ret))
theorem Zl6 : Qp Tryz.prog ZaM ZlG = some (ZeT, [.tmp 6], 42) := by kernel_rfl
def Zie : List (Nat × List Md) := MM [(1, 81545152335684693168722), (3, 21224549329283402961049129610), (5, 2), (7, 70218), (9, 41454197906504923769803346), (1000001, 12873)]
def Zb2 : C := (.seq (.reg [(none, .box 4 (.t 0)),(none, .mv 8 .copy (.k (.sc (.bool false))))]) (.seq (.seq (.seq (.frz 4) (.reg [(JlT 9 4 4),(JlT 10 4 4),(Jmc 11 1),(Jmc 12 2),(none, .call .no (some 13) (.k (.fn Wx [])) [(.t 10), (.t 11), (.t 12)]),(Jmc 14 3),(none, .call .no (some 15) (.k (.fn Wx [])) [(.t 9), (.t 13), (.t 14)]),(JlT 16 4 4),(Jmc 17 1),(JlT 18 4 4),(Jmc 19 2),(Jmc 20 3),(none, .call .no (some 21) (.k (.fn Wx [])) [(.t 18), (.t 19), (.t 20)]),(none, .call .no (some 22) (.k (.fn Wx [])) [(.t 16), (.t 17), (.t 21)]),(none, .bin 23 .num .neq (.t 15) (.t 22)),(Jmc 24 23),(some (24, false), .load 25 .take true 4 (.t 4)),(some (24, false), .load 26 .take true 4 (.t 4)),(some (24, false), .mv 27 .copy (.t 1)),(some (24, false), .mv 28 .copy (.t 2)),(some (24, false), .call .no (some 29) (.k (.fn Q0 [])) [(.t 26), (.t 27), (.t 28)]),(some (24, false), .mv 30 .copy (.t 3)),(some (24, false), .call .no (some 31) (.k (.fn Q0 [])) [(.t 25), (.t 29), (.t 30)]),(some (24, false), .load 32 .take true 4 (.t 4)),(some (24, false), .mv 33 .copy (.t 1)),(some (24, false), .load 34 .take true 4 (.t 4)),(some (24, false), .mv 35 .copy (.t 2)),(some (24, false), .mv 36 .copy (.t 3)),(some (24, false), .call .no (some 37) (.k (.fn Q0 [])) [(.t 34), (.t 35), (.t 36)]),(some (24, false), .call .no (some 38) (.k (.fn Q0 [])) [(.t 32), (.t 33), (.t 37)]),(some (24, false), .bin 39 .num .neq (.t 31) (.t 38)),(none, .pick 40 (.t 24) (.k (.sc (.bool true))) (.t 39))])) (.cond (.t 40) (.seq (.reg [(none, .mv 8 .copy (.k (.sc (.bool false))))])
 .ret)
 .skip)) (.seq (.seq (.reg [(JlT 41 4 4),(Jmc 42 1),(JlT 43 4 4),(Jmc 44 2),(Jmc 45 3),(none, .call .no (some 46) (.k (.fn Wx [])) [(.t 43), (.t 44), (.t 45)]),(none, .call .no (some 47) (.k (.fn Q0 [])) [(.t 41), (.t 42), (.t 46)]),(JlT 48 4 4),(JlT 49 4 4),(Jmc 50 1),(Jmc 51 2),(none, .call .no (some 52) (.k (.fn Q0 [])) [(.t 49), (.t 50), (.t 51)]),(JlT 53 4 4),(Jmc 54 1),(Jmc 55 3),(none, .call .no (some 56) (.k (.fn Q0 [])) [(.t 53), (.t 54), (.t 55)]),(none, .call .no (some 57) (.k (.fn Wx [])) [(.t 48), (.t 52), (.t 56)]),(none, .bin 58 .num .neq (.t 47) (.t 57)),(Jmc 59 58),(some (59, false), .load 60 .take true 4 (.t 4)),(some (59, false), .load 61 .take true 4 (.t 4)),(some (59, false), .mv 62 .copy (.t 1)),(some (59, false), .mv 63 .copy (.t 2)),(some (59, false), .call .no (some 64) (.k (.fn Wx [])) [(.t 61), (.t 62), (.t 63)]),(some (59, false), .mv 65 .copy (.t 3)),(some (59, false), .call .no (some 66) (.k (.fn Q0 [])) [(.t 60), (.t 64), (.t 65)]),(some (59, false), .load 67 .take true 4 (.t 4)),(some (59, false), .load 68 .take true 4 (.t 4)),(some (59, false), .mv 69 .copy (.t 1)),(some (59, false), .mv 70 .copy (.t 3)),(some (59, false), .call .no (some 71) (.k (.fn Q0 [])) [(.t 68), (.t 69), (.t 70)]),(some (59, false), .load 72 .take true 4 (.t 4)),(some (59, false), .mv 73 .copy (.t 2)),(some (59, false), .mv 74 .copy (.t 3)),(some (59, false), .call .no (some 75) (.k (.fn Q0 [])) [(.t 72), (.t 73), (.t 74)]),(some (59, false), .call .no (some 76) (.k (.fn Wx [])) [(.t 67), (.t 71), (.t 75)]),(some (59, false), .bin 77 .num .neq (.t 66) (.t 76)),(none, .pick 78 (.t 59) (.k (.sc (.bool true))) (.t 77))]) (.cond (.t 78) (.seq (.reg [(none, .mv 8 .copy (.k (.sc (.bool false))))])
 .ret)
 .skip)) (.seq (.seq (.reg [(JlT 79 4 4),(Jmc 80 1),(Jmc 81 2),(none, .call .no (some 82) (.k (.fn Wh [])) [(.t 79), (.t 80), (.t 81)]),(none, .un 83 .not (.t 82))]) (.cond (.t 83) (.seq (.reg [(none, .mv 8 .copy (.k (.sc (.bool true))))])
 .ret)
 .skip)) (.seq (.seq (.reg [(JlT 84 4 4),(Jmc 85 2),(Jmc 86 3),(none, .call .no (some 87) (.k (.fn Wh [])) [(.t 84), (.t 85), (.t 86)]),(Jmc 88 87),(some (88, true), .load 89 .take true 4 (.t 4)),(some (88, true), .mv 90 .copy (.t 1)),(some (88, true), .mv 91 .copy (.t 3)),(some (88, true), .call .no (some 92) (.k (.fn Wh [])) [(.t 89), (.t 90), (.t 91)]),(some (88, true), .un 93 .not (.t 92)),(none, .pick 94 (.t 88) (.t 93) (.k (.sc (.bool false))))]) (.cond (.t 94) (.seq (.reg [(none, .mv 8 .copy (.k (.sc (.bool false))))])
 .ret)
 .skip)) (.seq (.reg [(JlT 95 4 4),(JlT 96 4 4),(Jmc 97 1),(Jmc 98 3),(none, .call .no (some 99) (.k (.fn Wx [])) [(.t 96), (.t 97), (.t 98)]),(JlT 100 4 4),(Jmc 101 2),(Jmc 102 3),(none, .call .no (some 103) (.k (.fn Wx [])) [(.t 100), (.t 101), (.t 102)]),(none, .call .no (some 104) (.k (.fn Wh [])) [(.t 95), (.t 99), (.t 103)]),(Jmc 105 104),(some (105, true), .load 106 .take true 4 (.t 4)),(some (105, true), .load 107 .take true 4 (.t 4)),(some (105, true), .mv 108 .copy (.t 1)),(some (105, true), .mv 109 .copy (.t 3)),(some (105, true), .call .no (some 110) (.k (.fn Q0 [])) [(.t 107), (.t 108), (.t 109)]),(some (105, true), .load 111 .take true 4 (.t 4)),(some (105, true), .mv 112 .copy (.t 2)),(some (105, true), .mv 113 .copy (.t 3)),(some (105, true), .call .no (some 114) (.k (.fn Q0 [])) [(.t 111), (.t 112), (.t 113)]),(some (105, true), .call .no (some 115) (.k (.fn Wh [])) [(.t 106), (.t 110), (.t 114)]),(none, .pick 116 (.t 105) (.t 115) (.k (.sc (.bool false)))),(Jmc 117 116),(some (117, true), .load 118 .take true 4 (.t 4)),(some (117, true), .load 119 .take true 4 (.t 4)),(some (117, true), .mv 120 .copy (.t 3)),(some (117, true), .mv 121 .copy (.t 1)),(some (117, true), .call .no (some 122) (.k (.fn Q0 [])) [(.t 119), (.t 120), (.t 121)]),(some (117, true), .load 123 .take true 4 (.t 4)),(some (117, true), .mv 124 .copy (.t 3)),(some (117, true), .mv 125 .copy (.t 2)),(some (117, true), .call .no (some 126) (.k (.fn Q0 [])) [(.t 123), (.t 124), (.t 125)]),(some (117, true), .call .no (some 127) (.k (.fn Wh [])) [(.t 118), (.t 122), (.t 126)]),(none, .pick 128 (.t 117) (.t 127) (.k (.sc (.bool false)))),(Jmc 8 128)])
 .ret))))))
theorem Zip : Qp Tryz.prog Vw Zie = some (Zb2, [.tmp 8], 129) := by kernel_rfl
def ZgG : List (Nat × List Md) := MM []
def Zbv : C := (.seq (.reg [(none, .mv 6 .copy (.k (.sc (.bool false))))]) (.seq (.seq (.reg [(none, .mv 7 .copy (.k (N 0)))]) (.block 0 (.loop (.seq (.seq (.reg [(Jmc 9 7),(Jmc 10 0),(Jln 11 10),(Jbl 12 9 11)]) (.cond (.t 12)
 .skip (.exit 0))) (.seq (.block 1 (.seq (.reg [(Jmc 15 0),(Jmc 16 7),(Jia 17 1 15 16),(Jlc 18 1 17),(none, .call .no (some 19) (.k (.fn ZN [])) [(.t 18)]),(none, .bin 20 .num .gtr (.t 19) (.k (N 0))),(Jmc 21 20),(some (21, true), .mv 22 .copy (.t 0)),(some (21, true), .mv 23 .copy (.t 7)),(some (21, true), .indexA 24 1 (.t 22) (.t 23)),(some (21, true), .load 25 .copy false 1 (.t 24)),(some (21, true), .bin 26 .num .gtr (.t 25) (.k (N 2))),(none, .pick 27 (.t 21) (.t 26) (.k (.sc (.bool false))))]) (.cond (.t 27) (.seq (.reg [(Jmc 28 0),(Jmc 29 7),(Jia 30 1 28 29),(Jlc 31 1 30),(none, .call .no (some 32) (.k (.fn XY [])) [(.t 31)]),(Jmc 8 32)]) (.seq (.reg [(Jmc 33 8),(Jmc 34 1),(none, .bin 35 .num .geq (.t 33) (.t 34)),(Jmc 36 35),(some (36, false), .mv 37 .copy (.t 2)),(some (36, false), .mv 38 .copy (.t 37)),(some (38, true), .mv 39 .copy (.t 8)),(some (38, true), .bin 40 .num .lss (.t 39) (.k (N 0))),(some (36, false), .pick 41 (.t 38) (.t 40) (.k (.sc (.bool false)))),(none, .pick 42 (.t 36) (.k (.sc (.bool true))) (.t 41))]) (.cond (.t 42) (.seq (.reg [(none, .mv 6 .copy (.k (.sc (.bool false))))])
 .ret)
 .skip)))
 .skip))) (.reg [(Jmc 13 7),(Jba 14 13 1),(Jmc 7 14)])))))) (.seq (.reg [(none, .mv 6 .copy (.k (.sc (.bool true))))])
 .ret)))
theorem ZgM : Qp Tryz.prog ZW ZgG = some (Zbv, [.tmp 6], 43) := by kernel_rfl
def Zj5 : List (Nat × List Md) := MM [(1, 17), (5, 1178048172626), (6, 18), (1000001, 1609)]
def ZdE : C := (.seq (.reg [(none, .box 3 (.t 0)),(none, .mv 6 .copy (.k (.sl true true 1 [])))]) (.seq (.seq (.frz 3) (.reg [(none, .bslice 9 1 0 [] []),(Jmt 7 9)])) (.seq (.seq (.reg [(none, .mv 8 .copy (.k (N 0)))]) (.block 0 (.loop (.seq (.seq (.reg [(Jmc 10 8),(Jmc 11 1),(Jln 12 11),(Jbl 13 10 12)]) (.cond (.t 13)
 .skip (.exit 0))) (.seq (.block 1 (.reg [(Jmt 16 7),(JlT 17 4 3),(Jmc 18 1),(Jmc 19 8),(Jia 20 1 18 19),(Jlc 21 1 20),(Jmc 22 2),(Jmc 23 8),(Jia 24 1 22 23),(Jlc 25 1 24),(none, .call .no (some 26) (.k (.fn Kp [])) [(.t 17), (.t 21), (.t 25)]),(none, .bslice 27 1 1 [(N 0)] [(0, 1, (.t 26))]),(none, .append 28 1 (.t 16) (.t 27)),(Jmt 7 28)])) (.reg [(Jmc 14 8),(Jba 15 14 1),(Jmc 8 15)])))))) (.seq (.reg [(Jmt 29 7),(Jmt 6 29)])
 .ret))))
theorem Zkf : Qp Tryz.prog Kk Zj5 = some (ZdE, [.tmp 6], 30) := by kernel_rfl
def ZjE : List (Nat × List Md) := MM []
def Zdk : C := (.seq (.reg [(none, .mv 2 .copy (.k (N 0)))]) (.seq (.block 0 (.seq (.reg [(Jmc 4 0),(Jbe 5 4 0),(Jmc 3 5)]) (.cond (.t 3) (.seq (.reg [(none, .mv 2 .copy (.k (N 0)))])
 .ret) (.seq (.reg [(Jmc 7 0),(Jbe 8 7 1),(Jmc 9 8),(some (9, false), .mv 10 .copy (.t 0)),(some (9, false), .bin 11 .num .eql (.t 10) (.k (N 2))),(none, .pick 12 (.t 9) (.k (.sc (.bool true))) (.t 11)),(Jmc 13 12),(some (13, false), .mv 14 .copy (.t 0)),(some (13, false), .call .no (some 15) (.k (.fn Zj [])) [(.t 14)]),(none, .pick 16 (.t 13) (.k (.sc (.bool true))) (.t 15)),(Jmc 6 16)]) (.cond (.t 6) (.seq (.reg [(none, .mv 2 .copy (.k (N 2)))])
 .ret) (.seq (.reg [(Jmc 18 0),(none, .call .no (some 19) (.k (.fn K5 [])) [(.t 18)]),(Jmc 17 19)]) (.cond (.t 17) (.seq (.reg [(none, .mv 2 .copy (.k (N 1)))])
 .ret)
 .skip))))))) (.seq (.reg [(none, .mv 2 .copy (.k (N (-1))))])
 .ret)))
theorem Zjj : Qp Tryz.prog ZN ZjE = some (Zdk, [.tmp 2], 20) := by kernel_rfl
def Jq : List (Nat × List Md) := MM []
def X4 : C := (.seq (.reg [(none, .mv 4 .copy (.k (N 0)))]) (.seq (.seq (.reg [(Jmc 6 0),(Jln 7 6),(none, .mv 8 .copy (.k (N 0)))]) (.block 0 (.loop (.seq (.reg [(Jbl 9 8 7)]) (.seq (.cond (.t 9)
 .skip (.exit 0)) (.seq (.block 1 (.seq (.reg [(Jmc 10 8),(Jmc 5 10)]) (.seq (.reg [(Jmc 11 1),(Jmc 12 0),(Jmc 13 5),(Jia 14 1 12 13),(Jlc 15 1 14),(none, .call .no (some 16) (.t 11) [(.t 15)])]) (.cond (.t 16) (.seq (.reg [(Jmc 17 5),(Jmc 4 17)])
 .ret)
 .skip)))) (.reg [(Jba 18 8 1),(Jmc 8 18)]))))))) (.seq (.reg [(none, .mv 4 .copy (.k (N (-1))))])
 .ret)))
theorem Jp : Qp Tryz.prog Xb Jq = some (X4, [.tmp 4], 19) := by kernel_rfl
def KY : List (Nat × List Md) := MM [(5, 304648777), (6, 18)]
def YV : C := (.seq (.reg [(none, .mv 4 .copy (.k (.sl true true 1 [])))]) (.seq (.seq (.reg [(Jmc 5 1),(none, .bin 6 .num .lss (.t 5) (.k (N 0)))]) (.cond (.t 6) (.reg [(none, .bad (some 7)),(none, .bad none)])
 .skip)) (.seq (.seq (.reg [(Jmc 8 1),(Jmc 9 0),(none, .cap 10 (.t 9)),(Jmc 11 0),(Jln 12 11),(none, .bin 13 .num .sub (.t 10) (.t 12)),(none, .bin 14 .num .sub (.t 8) (.t 13)),(Jmc 1 14)]) (.seq (.reg [(Jmc 15 1),(none, .bin 16 .num .gtr (.t 15) (.k (N 0)))]) (.cond (.t 16) (.reg [(Jmc 17 0),(Jmc 18 0),(none, .cap 19 (.t 18)),(none, .slice 20 1 (.t 17) none (some (.t 19)) none),(Jmc 21 1),(none, .growz 22 1 (.t 20) (.t 21)),(Jmt 23 0),(Jln 24 23),(none, .cut0 25 1 (.t 22) (.t 24)),(Jmt 0 25)])
 .skip))) (.seq (.reg [(Jmt 26 0),(Jmt 4 26)])
 .ret))))
theorem KL : Qp Tryz.prog XH KY = some (YV, [.tmp 4], 27) := by kernel_rfl
def Zan : List (Nat × List Md) := MM [(1, 2300875337)]
def Jd : C := (.seq (.reg [(none, .mv 3 .copy (.k (.sl true true 1 [])))]) (.seq (.reg [(Jlc 4 1 1),(none, .nilchk 5 (.t 4)),(Jfa 6 2 5),(Jlc 7 1 6),(Jmc 8 0),(Jia 9 1 7 8),(Jlc 10 1 9),(none, .nilchk 11 (.t 10)),(Jfa 12 0 11),(Jlc 13 1 12),(Jmt 3 13)])
 .ret))
theorem ZaF : Qp Tryz.prog XE Zan = some (Jd, [.tmp 3], 14) := by kernel_rfl
def Zd8 : List (Nat × List Md) := MM [(1, 4530826), (1000001, 1609)]
def VG : C := (.seq (.reg [(none, .box 3 (.t 0)),(none, .mv 6 .copy (.k (.sl true true 1 [])))]) (.seq (.seq (.frz 3) (.reg [(JlT 7 4 3),(Jfa 8 0 3),(JlT 9 4 8),(none, .mkfn 10 QC true [(.t 9)]),(Jmt 11 1),(Jmt 12 2),(none, .call .no (some 13) (.k (.fn Yt [])) [(.t 7), (.t 10), (.t 11), (.t 12)]),(Jmt 6 13)]))
 .ret))
theorem Zd0 : Qp Tryz.prog WF Zd8 = some (VG, [.tmp 6], 14) := by kernel_rfl
def ZcZ : List (Nat × List Md) := MM [(1, 4530826), (1000001, 1609)]
def K2 : C := (.seq (.reg [(none, .box 3 (.t 0)),(none, .mv 6 .copy (.k (.sl true true 1 [])))]) (.seq (.seq (.frz 3) (.reg [(JlT 7 4 3),(Jfa 8 0 3),(JlT 9 4 8),(none, .mkfn 10 WR true [(.t 9)]),(Jmt 11 1),(Jmt 12 2),(none, .call .no (some 13) (.k (.fn Yt [])) [(.t 7), (.t 10), (.t 11), (.t 12)]),(Jmt 6 13)]))
 .ret))
theorem ZcY : Qp Tryz.prog Yu ZcZ = some (K2, [.tmp 6], 14) := by kernel_rfl
def ZbJ : List (Nat × List Md) := MM [(1, 2), (1000001, 104009)]
def JV : C := (.seq (.reg [(none, .box 3 (.t 0)),(none, .box 5 (.t 2)),(none, .mv 6 .copy (.k (.sc (.bool false))))]) (.seq (.seq (.frz 3) (.seq (.frz 5) (.reg [(Jmt 7 1),(none, .mkfn 8 W7 false [(.t 3), (.t 5)]),(none, .call .no (some 9) (.k (.fn Xd [])) [(.t 7), (.t 8)]),(none, .un 10 .not (.t 9)),(Jmc 6 10)])))
 .ret))
theorem ZbH : Qp Tryz.prog WN ZbJ = some (JV, [.tmp 6], 11) := by kernel_rfl
def Zbz : List (Nat × List Md) := MM [(1, 1097), (2, 2), (5, 1097), (7, 26), (1000001, 1609)]
def JQ : C := (.seq (.reg [(none, .box 3 (.t 0)),(none, .mv 6 .copy (.k (.sl true true 1 [])))]) (.seq (.seq (.frz 3) (.reg [(Jmc 10 2),(Jln 11 10),(none, .mkslice 12 1 [(N 0)] (.t 11)),(Jmt 7 12)])) (.seq (.seq (.reg [(Jmt 13 2),(Jln 14 13),(none, .mv 15 .copy (.k (N 0)))]) (.block 0 (.loop (.seq (.reg [(Jbl 16 15 14)]) (.seq (.cond (.t 16)
 .skip (.exit 0)) (.seq (.block 1 (.seq (.reg [(Jmc 17 15),(Jia 18 1 13 15),(Jlc 19 1 18),(Jmc 8 17),(Jmc 9 19)]) (.reg [(Jmc 20 7),(Jmc 21 8),(Jfa 22 0 3),(JlT 23 4 22),(Jmc 24 1),(Jmc 25 9),(none, .call .no (some 26) (.k (.fn Qx [])) [(.t 23), (.t 24), (.t 25)]),(Jia 27 1 20 21),(Jst 1 27 26)]))) (.reg [(Jba 28 15 1),(Jmc 15 28)]))))))) (.seq (.reg [(Jmt 29 7),(none, .mv 6 .frz (.t 29))])
 .ret))))
theorem ZbI : Qp Tryz.prog WL Zbz = some (JQ, [.tmp 6], 30) := by kernel_rfl
def Znf : List (Nat × List Md) := MM [(1, 2)]
def Zgn : C := (.seq (.reg [(none, .mv 2 .copy (.k (.sc (.bool false))))]) (.seq (.reg [(Jmt 3 0),(Jln 4 3),(none, .bin 5 .num .gtr (.t 4) (.k (N 40))),(Jmc 2 5)])
 .ret))
theorem ZmO : Qp Tryz.prog ZbM Znf = some (Zgn, [.tmp 2], 6) := by kernel_rfl
def Zjz : List (Nat × List Md) := MM []
def Zds : C := (.seq (.reg [(none, .mv 4 .copy (.k (N 0)))]) (.seq (.block 0 (.seq (.reg [(Jmc 6 0),(Jmc 7 6),(some (7, true), .mv 8 .copy (.t 1)),(some (7, true), .bin 9 .num .lss (.t 8) (.k (N 0))),(none, .pick 10 (.t 7) (.t 9) (.k (.sc (.bool false)))),(Jmc 5 10)]) (.cond (.t 5) (.seq (.reg [(none, .mv 4 .copy (.k (N 35)))])
 .ret) (.seq (.reg [(Jmc 12 0),(Jmc 11 12)]) (.cond (.t 11) (.seq (.reg [(Jmc 13 1),(none, .bin 14 .num .add (.k (N 3)) (.t 13)),(Jmc 4 14)])
 .ret) (.seq (.reg [(Jmc 16 1),(none, .bin 17 .num .lss (.t 16) (.k (N 0))),(Jmc 15 17)]) (.cond (.t 15) (.seq (.reg [(none, .mv 4 .copy (.k (N 36)))])
 .ret)
 .skip))))))) (.seq (.reg [(Jmc 18 1),(none, .bin 19 .num .add (.k (N 19)) (.t 18)),(Jmc 4 19)])
 .ret)))
theorem ZjQ : Qp Tryz.prog V3 Zjz = some (Zds, [.tmp 4], 20) := by kernel_rfl
def V7 : List (Nat × List Md) := MM [(5, 304648777), (6, 18)]
def Ym : C := (.seq (.reg [(none, .mv 4 .copy (.k (.sl true true 1 [])))]) (.seq (.seq (.reg [(Jmc 5 1),(none, .bin 6 .num .lss (.t 5) (.k (N 0)))]) (.cond (.t 6) (.reg [(none, .bad (some 7)),(none, .bad none)])
 .skip)) (.seq (.seq (.reg [(Jmc 8 1),(Jmc 9 0),(none, .cap 10 (.t 9)),(Jmc 11 0),(Jln 12 11),(none, .bin 13 .num .sub (.t 10) (.t 12)),(none, .bin 14 .num .sub (.t 8) (.t 13)),(Jmc 1 14)]) (.seq (.reg [(Jmc 15 1),(none, .bin 16 .num .gtr (.t 15) (.k (N 0)))]) (.cond (.t 16) (.reg [(Jmc 17 0),(Jmc 18 0),(none, .cap 19 (.t 18)),(none, .slice 20 1 (.t 17) none (some (.t 19)) none),(Jmc 21 1),(none, .growz 22 1 (.t 20) (.t 21)),(Jmt 23 0),(Jln 24 23),(none, .cut0 25 1 (.t 22) (.t 24)),(Jmt 0 25)])
 .skip))) (.seq (.reg [(Jmt 26 0),(Jmt 4 26)])
 .ret))))
theorem ZO : Qp Tryz.prog Xw V7 = some (Ym, [.tmp 4], 27) := by kernel_rfl
def Zjm : List (Nat × List Md) := MM []
def Zc8 : C := (.seq (.reg [(none, .mv 2 .copy (.k (N 0)))]) (.seq (.seq (.reg [(Jmc 3 0),(none, .call .no (some 4) (.k (.fn Xx [])) [(.t 3), (.k (N 0)), (.k (N 12))]),(none, .un 5 .not (.t 4))]) (.cond (.t 5) (.seq (.reg [(none, .mv 2 .copy (.k (N (-1))))])
 .ret)
 .skip)) (.seq (.reg [(none, .bslice 6 1 13 [(N 0), (N 0), (N 0), (N 0), (N 0), (N 0), (N 0), (N 0), (N 0), (N 0), (N 0), (N 0), (N 0)] [(0, 1, (.k (N 0))), (1, 1, (.k (N 0))), (2, 1, (.k (N 2))), (3, 1, (.k (N 3))), (4, 1, (.k (N 2))), (5, 1, (.k (N 2))), (6, 1, (.k (N 1))), (7, 1, (.k (N 1))), (8, 1, (.k (N 3))), (9, 1, (.k (N 1))), (10, 1, (.k (N 2))), (11, 1, (.k (N 1))), (12, 1, (.k (N 2)))]),(Jmc 7 0),(Jia 8 1 6 7),(Jlc 9 1 8),(Jmc 2 9)])
 .ret)))
theorem ZjK : Qp Tryz.prog Zaa Zjm = some (Zc8, [.tmp 2], 10) := by kernel_rfl
def Zc2 : List (Nat × List Md) := MM [(1, 1097), (7, 26), (1000001, 12873)]
def K0 : C := (.seq (.reg [(none, .box 4 (.t 0)),(none, .mv 8 .copy (.k (.sl true true 1 [])))]) (.seq (.seq (.frz 4) (.reg [(Jmc 11 2),(Jln 12 11),(none, .mkslice 13 1 [(N 0)] (.t 12)),(Jmt 9 13)])) (.seq (.seq (.reg [(Jmc 14 2),(Jln 15 14),(none, .mv 16 .copy (.k (N 0)))]) (.block 0 (.loop (.seq (.reg [(Jbl 17 16 15)]) (.seq (.cond (.t 17)
 .skip (.exit 0)) (.seq (.block 1 (.seq (.reg [(Jmc 18 16),(Jmc 10 18)]) (.reg [(Jmc 19 9),(Jmc 20 10),(Jmc 21 1),(Jmc 22 2),(Jmc 23 10),(Jia 24 1 22 23),(Jlc 25 1 24),(Jmc 26 3),(Jmc 27 10),(Jia 28 1 26 27),(Jlc 29 1 28),(none, .call .no (some 30) (.t 21) [(.t 25), (.t 29)]),(Jia 31 1 19 20),(Jst 1 31 30)]))) (.reg [(Jba 32 16 1),(Jmc 16 32)]))))))) (.seq (.reg [(Jmt 33 9),(none, .mv 8 .frz (.t 33))])
 .ret))))
theorem ZcX : Qp Tryz.prog Yt Zc2 = some (K0, [.tmp 8], 34) := by kernel_rfl
def JC : List (Nat × List Md) := MM [(1, 18)]
def Yf : C := (.seq (.reg [(none, .mv 4 .copy (.k (.sc (.bool false))))]) (.seq (.reg [(Jmt 5 0),(Jmt 6 1),(none, .call .no (some 7) (.k (.fn XA [])) [(.t 5), (.t 6)]),(none, .bin 8 .num .geq (.t 7) (.k (N 0))),(Jmc 4 8)])
 .ret))
theorem JD : Qp Tryz.prog Xd JC = some (Yf, [.tmp 4], 9) := by kernel_rfl
def Zak : List (Nat × List Md) := MM []
def Jk : C := (.seq (.reg [(none, .mv 4 .copy (.k (.sc (.bool false))))]) (.seq (.reg [(Jfa 5 0 1),(JlC 6 4 5),(Jmc 7 0),(Jlc 8 1 2),(none, .call .no (some 9) (.k (.fn QA [])) [(.t 6), (.t 7), (.t 8)]),(none, .un 10 .not (.t 9)),(Jmc 4 10)])
 .ret))
theorem Zai : Qp Tryz.prog W7 Zak = some (Jk, [.tmp 4], 11) := by kernel_rfl
def KI : List (Nat × List Md) := MM []
def YG : C := (.seq (.reg [(none, .mv 4 .copy (.k (N 0)))]) (.seq (.seq (.reg [(Jmc 6 0),(Jln 7 6),(none, .mv 8 .copy (.k (N 0)))]) (.block 0 (.loop (.seq (.reg [(Jbl 9 8 7)]) (.seq (.cond (.t 9)
 .skip (.exit 0)) (.seq (.block 1 (.seq (.reg [(Jmc 10 8),(Jmc 5 10)]) (.seq (.reg [(Jmc 11 1),(Jmc 12 0),(Jmc 13 5),(Jia 14 1 12 13),(Jlc 15 1 14),(none, .call .no (some 16) (.t 11) [(.t 15)])]) (.cond (.t 16) (.seq (.reg [(Jmc 17 5),(Jmc 4 17)])
 .ret)
 .skip)))) (.reg [(Jba 18 8 1),(Jmc 8 18)]))))))) (.seq (.reg [(none, .mv 4 .copy (.k (N (-1))))])
 .ret)))
theorem KB : Qp Tryz.prog XA KI = some (YG, [.tmp 4], 19) := by kernel_rfl
end Go.Proofs.YtclfngbealdbgaaGreat
namespace Go.Proofs.YtclfngbealdbgaaGreat
open Go Go.TL
set_option linter.unusedSimpArgs false
set_option linter.unusedVariables false
set_option maxRecDepth 20000
set_option maxHeartbeats 4000000
def I64 (n : Int) : Prop := -9223372036854775808 ≤ n ∧ n ≤ 9223372036854775807
def Wb (a lo hi : Int) : Bool := leB lo a && leB a hi
theorem Q7 {a lo hi : Int} : Wb a lo hi = true ↔ lo ≤ a ∧ a ≤ hi := by simp [Wb, leB]
theorem Zey {a lo hi : Int} : Wb a lo hi = false ↔ ¬ (lo ≤ a ∧ a ≤ hi) := by rw [← Q7]; simp
theorem ZaR {a b : Int} : ltB a b = !leB b a := by
 cases h : leB b a <;> simp [Qf, Qd, Qi, Qg, Qc, Qb, Bool.not_true, Bool.not_false, Qi, Qg] at h ⊢ <;> omega
abbrev OU (u nl : Bool) (l : List Int) : LV := .sl u nl 1 (l.map fun n => [N n])
abbrev L (nl : Bool) (l : List Int) : LV := OU false nl l
abbrev OB (u nl : Bool) (l : List Bool) : LV := .sl u nl 1 (l.map fun b => [B b])
abbrev LB (nl : Bool) (l : List Bool) : LV := OB false nl l
theorem Zh0 {α : Type} (e : α → LV) (he : ∀ a, share (e a) = e a) (l : List α) (u nl : Bool) (i : Int) (h0 : 0 ≤ i) (h1 : i < l.length) : QF 1 (.sl u nl 1 (l.map fun a => [e a])) i = some (.rp [e (l[i.toNat]'(by omega))]) := by
 simp only [QF]
 rw [if_pos ⟨trivial, h0, by simpa using h1⟩]
 have : (l.map fun a => [e a]).getD i.toNat [] = [e (l[i.toNat]'(by omega))] := by
  simp [List.getD_eq_getElem?_getD, show i.toNat < l.length by omega]
 rw [this]
 simp [he]
theorem Xj (l : List Int) (u nl : Bool) (i : Int) (h0 : 0 ≤ i) (h1 : i < l.length) : QF 1 (OU u nl l) i = some (.rp [N (l.getD i.toNat 0)]) := by
 have := Zh0 N (by simp) l u nl i h0 h1
 rw [this, List.getD_eq_getElem?_getD, List.getElem?_eq_getElem (show i.toNat < l.length by omega)]
 rfl
theorem ZlE (l : List Bool) (u nl : Bool) (i : Int) (h0 : 0 ≤ i) (h1 : i < l.length) : QF 1 (OB u nl l) i = some (.rp [B (l.getD i.toNat false)]) := by
 have := Zh0 B (by simp) l u nl i h0 h1
 rw [this, List.getD_eq_getElem?_getD, List.getElem?_eq_getElem (show i.toNat < l.length by omega)]
 rfl
def Lok (l : List Int) : Prop := l.length ≤ 1099511627776 ∧ ∀ n ∈ l, I64 n
theorem Lok.at {l : List Int} (h : Lok l) {i : Nat} (hi : i < l.length) : I64 l[i] := h.2 _ (List.getElem_mem _)
structure GSys where
 size : Int
 n1 : Bool
 plus : List Int
 n2 : Bool
 times : List Int
 n3 : Bool
 below : List Bool
abbrev GSys.cells (s : GSys) : List LV := [N s.size, L s.n1 s.plus, L s.n2 s.times, LB s.n3 s.below]
abbrev GSys.lv (s : GSys) : LV := .agg s.cells
def GSys.wf (s : GSys) : Prop := I64 s.size ∧ s.plus.length ≤ 1099511627776 ∧ s.times.length ≤ 1099511627776 ∧ s.below.length ≤ 1099511627776 ∧ (∀ n ∈ s.plus, I64 n) ∧ ∀ n ∈ s.times, I64 n
def GSys.pl (s : GSys) (a b : Int) : Int := s.plus.getD (a * s.size + b).toNat 0
def GSys.tm (s : GSys) (a b : Int) : Int := s.times.getD (a * s.size + b).toNat 0
def GSys.le (s : GSys) (a b : Int) : Bool := s.below.getD (a * s.size + b).toNat false
structure GSys.Tab (s : GSys) : Prop where
 lo : 2 ≤ s.size
 hi : s.size ≤ 16
 lp : (s.plus.length : Int) = s.size * s.size
 lt : (s.times.length : Int) = s.size * s.size
 lb : (s.below.length : Int) = s.size * s.size
 rp : ∀ i, 0 ≤ s.plus.getD i 0 ∧ s.plus.getD i 0 < s.size
 rt : ∀ i, 0 ≤ s.times.getD i 0 ∧ s.times.getD i 0 < s.size
def GSys.G (s : GSys) (a : Int) : Prop := 0 ≤ a ∧ a < s.size
theorem GSys.at {s : GSys} (t : s.Tab) {a b : Int} (ha : s.G a) (hb : s.G b) : 0 ≤ a * s.size + b ∧ a * s.size + b < s.size * s.size ∧ 0 ≤ a * s.size ∧ a * s.size ≤ 256 := by
 have h1 : 0 ≤ a * s.size := Int.mul_nonneg ha.1 (by have := t.lo; omega)
 have h2 : (a + 1) * s.size ≤ s.size * s.size := Int.mul_le_mul_of_nonneg_right (by have := ha.2; omega) (by have := t.lo; omega)
 have h3 : (a + 1) * s.size = a * s.size + s.size := by rw [Int.add_mul]; omega
 have h4 : s.size * s.size ≤ 16 * 16 := Int.mul_le_mul t.hi t.hi (by have := t.lo; omega) (by omega)
 have := hb.1; have := hb.2
 refine ⟨by omega, by omega, h1, ?_⟩
 omega
theorem GSys.Gpl {s : GSys} (t : s.Tab) (a b : Int) : s.G (s.pl a b) := t.rp _
theorem GSys.Gtm {s : GSys} (t : s.Tab) (a b : Int) : s.G (s.tm a b) := t.rt _
theorem GSys.Glt {s : GSys} {i : Nat} (h : ltB (i : Int) s.size = true) : s.G i := ⟨by omega, by rw [Qf] at h; omega⟩
theorem GSys.G0 {s : GSys} (t : s.Tab) : s.G 0 := ⟨by omega, by have := t.lo; omega⟩
theorem GSys.G1 {s : GSys} (t : s.Tab) : s.G 1 := ⟨by omega, by have := t.lo; omega⟩
section
attribute [local simp low] W9
attribute [local simp] ZdU Zed ZdX ZdR Zd5 Zee
section
variable {s : GSys} (t : s.Tab) {a b : Int} (ha : s.G a) (hb : s.G b)
include t ha hb
theorem Zeu : Qe Tryz.prog Wx [s.lv, N a, N b] (· = N (s.pl a b)) := by
 refine Qe.of_codeOf ZlL Qy (by simp) ⟨_, rfl, by simp⟩ ?_
 obtain ⟨h1, h2, h3, h4⟩ := GSys.at t ha hb
 have := t.lo; have := t.hi; have := ha.1; have := ha.2; have := hb.1; have := hb.2
 simp (contextual := true) (disch := omega) [Zej, Qw, Qu, Qh]
 have := t.lp
 simp (contextual := true) (disch := omega) [Xj, GSys.pl]
theorem Ze7 : Qe Tryz.prog Q0 [s.lv, N a, N b] (· = N (s.tm a b)) := by
 refine Qe.of_codeOf Zl7 Qy (by simp) ⟨_, rfl, by simp⟩ ?_
 obtain ⟨h1, h2, h3, h4⟩ := GSys.at t ha hb
 have := t.lo; have := t.hi; have := ha.1; have := ha.2; have := hb.1; have := hb.2
 simp (contextual := true) (disch := omega) [Zes, Qw, Qu, Qh]
 have := t.lt
 simp (contextual := true) (disch := omega) [Xj, GSys.tm]
theorem YK : Qe Tryz.prog Wh [s.lv, N a, N b] (· = B (s.le a b)) := by
 refine Qe.of_codeOf ZnB Qy (by simp) ⟨_, rfl, by simp⟩ ?_
 obtain ⟨h1, h2, h3, h4⟩ := GSys.at t ha hb
 have := t.lo; have := t.hi; have := ha.1; have := ha.2; have := hb.1; have := hb.2
 simp (contextual := true) (disch := omega) [Zgo, Qw, Qu, Qh]
 have := t.lb
 simp (contextual := true) (disch := omega) [ZlE, GSys.le]
theorem Zfc : Qe Tryz.prog QC [s.lv, N a, N b] (· = N (s.pl a b)) := by
 refine Qe.of_codeOf ZbQ Qy (by simp) ⟨_, rfl, by simp⟩ ?_
 obtain ⟨h1, h2, h3, h4⟩ := GSys.at t ha hb
 have := t.lo; have := t.hi; have := ha.1; have := ha.2; have := hb.1; have := hb.2
 simp (contextual := true) (disch := omega) [KK, Qw, Qu, Qh]
 have := t.lp
 simp (contextual := true) (disch := omega) [Xj, GSys.pl]
theorem ZeZ : Qe Tryz.prog Qx [s.lv, N a, N b] (· = N (s.tm a b)) := by
 refine Qe.of_codeOf ZbA Qy (by simp) ⟨_, rfl, by simp⟩ ?_
 obtain ⟨h1, h2, h3, h4⟩ := GSys.at t ha hb
 have := t.lo; have := t.hi; have := ha.1; have := ha.2; have := hb.1; have := hb.2
 simp (contextual := true) (disch := omega) [JS, Qw, Qu, Qh]
 have := t.lt
 simp (contextual := true) (disch := omega) [Xj, GSys.tm]
theorem KG : Qe Tryz.prog QA [s.lv, N a, N b] (· = B (s.le a b)) := by
 refine Qe.of_codeOf ZbB Qy (by simp) ⟨_, rfl, by simp⟩ ?_
 obtain ⟨h1, h2, h3, h4⟩ := GSys.at t ha hb
 have := t.lo; have := t.hi; have := ha.1; have := ha.2; have := hb.1; have := hb.2
 simp (contextual := true) (disch := omega) [JU, Qw, Qu, Qh]
 have := t.lb
 simp (contextual := true) (disch := omega) [ZlE, GSys.le]
end
theorem Zht (a lo hi : Int) : Qe Tryz.prog Xx [N a, N lo, N hi] (· = B (Wb a lo hi)) := by
 refine Qe.of_codeOf ZnF Qy (by simp) ⟨_, rfl, by simp⟩ ?_
 simp (contextual := true) (disch := omega) [Zf9, Wb]
theorem Jm (a lo hi : Int) : Qe Tryz.prog WT [N a, N lo, N hi] (· = B (Wb a lo hi)) := by
 refine Qe.of_codeOf Zkh Qy (by simp) ⟨_, rfl, by simp⟩ ?_
 simp (contextual := true) (disch := omega) [Zdd, Wb]
theorem Zpc (s : GSys) (h : I64 s.size) (h2 : -9223372036854775808 < s.size) (g : Int) : Qe Tryz.prog Ww [s.lv, N g] (· = B (Wb g 0 (s.size - 1))) := by
 refine Qe.of_codeOf Zc0 Qy (by simp) ⟨_, rfl, by simp⟩ ?_
 obtain ⟨h1, h2⟩ := h
 simp (contextual := true) (disch := omega) [K1, Qw, Qu, Qh]
 refine Qa (Jm _ _ _) (by simp) ?_
 simp (contextual := true) (disch := omega)
end
def YI (p : Int → Bool) : Nat → Nat → Int
 | _, 0 => -1
 | g, n + 1 => if p g = true then g else YI p (g + 1) n
def YE (p : Nat → Bool) : Nat → Bool
 | 0 => true
 | n + 1 => YE p n && p n
@[simp] theorem allN_zero (p : Nat → Bool) : YE p 0 = true := rfl
theorem Wy (p : Nat → Bool) (n : Nat) : YE p (n + 1) = (YE p n && p n) := rfl
theorem Jt {p : Nat → Bool} : ∀ {n : Nat}, YE p n = true ↔ ∀ i, i < n → p i = true
  | 0 => by simp
  | n + 1 => by
    rw [Wy, Bool.and_eq_true, Jt]
    exact ⟨fun h i hi => by by_cases he : i = n; · exact he ▸ h.2
                            · exact h.1 i (by omega), fun h => ⟨fun i hi => h i (by omega), h n (by omega)⟩⟩
theorem ZhW {p : Nat → Bool} {i n : Nat} (h : i ≤ n) (hf : YE p i = false) : YE p n = false := by
 cases hc : YE p n with
 | false => rfl
 | true =>
  rw [Jt] at hc
  rw [Jt.2 fun j hj => hc j (by omega)] at hf
  simp at hf
theorem Xu {p : Nat → Bool} {i n : Nat} (h : i < n) (hf : p i = false) : YE p n = false :=
 ZhW (i := i + 1) h (by rw [Wy, hf]; simp)
def GSys.jn (s : GSys) (a b g h : Int) : Bool := !s.le a h || !s.le b h || s.le g h
def GSys.isJoin (s : GSys) (a b g : Int) : Bool := s.le a g && s.le b g && YE (fun h => s.jn a b g h) s.size.toNat
def GSys.join (s : GSys) (a b : Int) : Int := YI (s.isJoin a b) 0 s.size.toNat
def GSys.three (s : GSys) (a b c : Int) : Bool :=
 eqB (s.pl (s.pl a b) c) (s.pl a (s.pl b c)) && eqB (s.tm (s.tm a b) c) (s.tm a (s.tm b c)) && eqB (s.tm a (s.pl b c)) (s.pl (s.tm a b) (s.tm a c)) && eqB (s.tm (s.pl a b) c) (s.pl (s.tm a c) (s.tm b c)) &&
  (!s.le a b || ((!s.le b c || s.le a c) && s.le (s.pl a c) (s.pl b c) && s.le (s.tm a c) (s.tm b c) && s.le (s.tm c a) (s.tm c b)))
section
variable {s : GSys} (t : s.Tab) {a b c : Int} (ha : s.G a) (hb : s.G b) (hc : s.G c)
include t ha hb hc
theorem Zo1 : Qe Tryz.prog Vw [s.lv, N a, N b, N c] (· = B (s.three a b c)) := by
 refine Qe.of_codeOf Zip Qy (by simp) ⟨_, rfl, by simp⟩ ?_
 simp (disch := omega) [Zb2, Qw, Qu]
 repeat' (first
  | with_reducible refine Qa (Zeu t (by first | assumption | exact GSys.Gpl t _ _ | exact GSys.Gtm t _ _ | exact GSys.Glt (by assumption) | exact GSys.G0 t | exact GSys.G1 t) (by first | assumption | exact GSys.Gpl t _ _ | exact GSys.Gtm t _ _ | exact GSys.Glt (by assumption) | exact GSys.G0 t | exact GSys.G1 t)) (by simp) ?_
  | with_reducible refine Qa (Ze7 t (by first | assumption | exact GSys.Gpl t _ _ | exact GSys.Gtm t _ _ | exact GSys.Glt (by assumption) | exact GSys.G0 t | exact GSys.G1 t) (by first | assumption | exact GSys.Gpl t _ _ | exact GSys.Gtm t _ _ | exact GSys.Glt (by assumption) | exact GSys.G0 t | exact GSys.G1 t)) (by simp) ?_
  | with_reducible refine Qa (YK t (by first | assumption | exact GSys.Gpl t _ _ | exact GSys.Gtm t _ _ | exact GSys.Glt (by assumption) | exact GSys.G0 t | exact GSys.G1 t) (by first | assumption | exact GSys.Gpl t _ _ | exact GSys.Gtm t _ _ | exact GSys.Glt (by assumption) | exact GSys.G0 t | exact GSys.G1 t)) (by simp) ?_
  | (with_reducible (first | refine Ql (fun hb_ => ?_) (fun hb_ => ?_) | refine Qk (fun hb_ => ?_) (fun hb_ => ?_)) <;> simp (disch := omega) [hb_])
  | simp (disch := omega))
 all_goals simp_all [GSys.three]
theorem Zqg : Qe Tryz.prog YP [s.lv, N a, N b, N c] (· = B (s.three a b c)) := by
 refine Qe.of_codeOf ZaV Qy (by simp) ⟨_, rfl, by simp⟩ ?_
 simp (disch := omega) [Jx, Qw, Qu]
 repeat' (first
  | with_reducible refine Qa (Zfc t (by first | assumption | exact GSys.Gpl t _ _ | exact GSys.Gtm t _ _ | exact GSys.Glt (by assumption) | exact GSys.G0 t | exact GSys.G1 t) (by first | assumption | exact GSys.Gpl t _ _ | exact GSys.Gtm t _ _ | exact GSys.Glt (by assumption) | exact GSys.G0 t | exact GSys.G1 t)) (by simp) ?_
  | with_reducible refine Qa (ZeZ t (by first | assumption | exact GSys.Gpl t _ _ | exact GSys.Gtm t _ _ | exact GSys.Glt (by assumption) | exact GSys.G0 t | exact GSys.G1 t) (by first | assumption | exact GSys.Gpl t _ _ | exact GSys.Gtm t _ _ | exact GSys.Glt (by assumption) | exact GSys.G0 t | exact GSys.G1 t)) (by simp) ?_
  | with_reducible refine Qa (KG t (by first | assumption | exact GSys.Gpl t _ _ | exact GSys.Gtm t _ _ | exact GSys.Glt (by assumption) | exact GSys.G0 t | exact GSys.G1 t) (by first | assumption | exact GSys.Gpl t _ _ | exact GSys.Gtm t _ _ | exact GSys.Glt (by assumption) | exact GSys.G0 t | exact GSys.G1 t)) (by simp) ?_
  | (with_reducible (first | refine Ql (fun hb_ => ?_) (fun hb_ => ?_) | refine Qk (fun hb_ => ?_) (fun hb_ => ?_)) <;> simp (disch := omega) [hb_])
  | simp (disch := omega))
 all_goals simp_all [GSys.three]
end
end Go.Proofs.YtclfngbealdbgaaGreat
