/- Part 4 of the proof of the row of the text YtclfngbealdbgaaGreatZRowForgetTerm: texts joined. No conditions. -/
import Derived.Test.YtclfngbealdbgaaGreatChecked
import Derived.KernelRfl
import Derived.Test.YtclfngbealdbgaaGreatZcRowForgetTerm
namespace Go.Proofs.YtclfngbealdbgaaGreat
open Go Go.TL
theorem mixed : Tryz.prog.follows .mixedOrders = true := by kernel_rfl
abbrev Jlt (d s x : Nat) : GI := (none, .load d .take false s (.t x))
abbrev Jlc (d s x : Nat) : GI := (none, .load d .copy false s (.t x))
abbrev JlT (d s x : Nat) : GI := (none, .load d .take true s (.t x))
abbrev JlC (d s x : Nat) : GI := (none, .load d .copy true s (.t x))
abbrev Jmc (d x : Nat) : GI := (none, .mv d .copy (.t x))
abbrev Jmt (d x : Nat) : GI := (none, .mv d .take (.t x))
abbrev Jfa (d o x : Nat) : GI := (none, .fieldA d o (.t x))
abbrev Jia (d s x y : Nat) : GI := (none, .indexA d s (.t x) (.t y))
abbrev Jln (d x : Nat) : GI := (none, .len d (.t x))
abbrev Jbe (d x : Nat) (v : Int) : GI := (none, .bin d .num .eql (.t x) (.k (N v)))
abbrev Jba (d x : Nat) (v : Int) : GI := (none, .bin d .num .add (.t x) (.k (N v)))
abbrev Jbl (d x y : Nat) : GI := (none, .bin d .num .lss (.t x) (.t y))
abbrev Jst (s x y : Nat) : GI := (none, .store s (.t x) (.t y))
def n_laws_FnExactForgetTerm : FuncId := 3
def n_laws_szSystem : FuncId := 8
def n_laws_szIntSS : FuncId := 9
def n_laws_szTerm : FuncId := 10
def n_spec_ForgetTerm : FuncId := 11
def n_laws_toSystem : FuncId := 12
def n_laws_toIntSS : FuncId := 13
def n_laws_toTerm : FuncId := 14
def n_impl_ForgetTerm : FuncId := 15
def n_laws_eqTerm : FuncId := 16
def n_laws_eqSystem : FuncId := 17
def n_laws_eqIntSS : FuncId := 18
def n_laws_markSystem : FuncId := 19
def n_laws_markIntSS : FuncId := 20
def n_laws_markTerm : FuncId := 21
def n_laws_heldTerm : FuncId := 22
def n_spec_TypeOf : FuncId := 34
def n_laws_szIntS : FuncId := 45
def n_laws_szBoolS : FuncId := 46
def n_laws_szTermS : FuncId := 47
def n_spec_l10Forget : FuncId := 48
def n_spec_l2Left : FuncId := 49
def n_laws_toIntS : FuncId := 50
def n_laws_toBoolS : FuncId := 51
def n_laws_toTermS : FuncId := 52
def n_impl_typedOf : FuncId := 53
def n_impl_forgetTerm : FuncId := 54
def n_impl_isTermOf : FuncId := 55
def n_laws_eqIntS : FuncId := 56
def n_laws_eqTermS : FuncId := 57
def n_laws_eqBoolS : FuncId := 58
def n_laws_markIntS : FuncId := 59
def n_laws_markBoolS : FuncId := 60
def n_laws_markTermS : FuncId := 61
def n_laws_heldIntS : FuncId := 62
def n_laws_heldTermS : FuncId := 63
def n_slices_Clone___int_int_ : FuncId := 68
def n_spec_l1Copy : FuncId := 71
def n_slices_Equal___int_int_ : FuncId := 74
def n__impl_System__has : FuncId := 75
def n__impl_System__below : FuncId := 76
def n_spec_l3With : FuncId := 83
def n_spec_l3Input : FuncId := 86
def n_spec_l3Tell : FuncId := 87
def n__impl_System__plus : FuncId := 93
def n__impl_System__times : FuncId := 94
def n_spec_l7Inner : FuncId := 100
def n_spec_l2Part : FuncId := 101
def n_spec_ForgetType : FuncId := 102
def n_spec_l2Has : FuncId := 103
def n_spec_l2Typed : FuncId := 104
def n_impl_IsSystem : FuncId := 105
def n_impl_isContext : FuncId := 106
def n__impl_typer__typ : FuncId := 107
def n_impl_formOf : FuncId := 108
def n_impl_ForgetType : FuncId := 109
def n_impl_parts : FuncId := 110
def n_impl_within : FuncId := 111
def n_impl_check : FuncId := 112
def n_impl_isTermOf_1 : FuncId := 113
def n_impl_isTypeOf : FuncId := 114
def n_spec_l2Grade : FuncId := 116
def n_impl_shape : FuncId := 118
def n_spec_l1Same : FuncId := 125
def n_spec_l2Term : FuncId := 127
def n_spec_l2Adds : FuncId := 128
def n_spec_l3Glue : FuncId := 133
def n_spec_l2Box : FuncId := 136
def n_spec_IsSystem : FuncId := 138
def n_spec_l3Context : FuncId := 139
def n_spec_IsTerm : FuncId := 140
def n_spec_l3Zero : FuncId := 141
def n_spec_l3Of : FuncId := 142
def n_spec_l3Bad : FuncId := 143
def n_spec_l3Numbers : FuncId := 144
def n_spec_l3Done : FuncId := 145
def n_spec_l3Sum : FuncId := 146
def n_spec_l1Le : FuncId := 147
def n_spec_l2Arrow : FuncId := 148
def n_spec_l3Taken : FuncId := 149
def n_spec_l2End : FuncId := 156
def n_spec_l2Type : FuncId := 157
def n__impl_System__join : FuncId := 158
def n__impl_System__lawsOf : FuncId := 159
def n_slices_ContainsFunc_____int___int_ : FuncId := 160
def n_impl_isContext_1 : FuncId := 161
def n_impl_added : FuncId := 162
def n_slices_Concat_____int___int_ : FuncId := 163
def n__impl_typer__firstOk : FuncId := 164
def n__impl_typer__finish : FuncId := 165
def n_impl_isWrittenType : FuncId := 166
def n_impl_typeEnd : FuncId := 167
def n_impl_adds : FuncId := 168
def n_slices_Concat___int_int_ : FuncId := 170
def n_spec_l1In : FuncId := 174
def n_spec_l2Node : FuncId := 175
def n_spec_l1Add : FuncId := 182
def n_spec_l1Mul : FuncId := 183
def n_spec_l1Join : FuncId := 184
def n_spec_l1Tables : FuncId := 185
def n_spec_l1One : FuncId := 186
def n_spec_l1Two : FuncId := 187
def n_spec_l1Three : FuncId := 188
def n_spec_l2Graded : FuncId := 189
def n_spec_l3Join : FuncId := 190
def n_spec_l2Kids : FuncId := 191
def n_slices_IndexFunc_____int___int_ : FuncId := 192
def n_slices_Grow_____int___int_ : FuncId := 193
def n__impl_typer__finish_1 : FuncId := 194
def n__impl_typer__sum : FuncId := 195
def n__impl_typer__join : FuncId := 196
def n__impl_typer__usedOk : FuncId := 197
def n__impl_typer__scaled : FuncId := 198
def n_impl_long : FuncId := 199
def n_slices_Grow___int_int_ : FuncId := 201
def n_spec_l2Many : FuncId := 202
def n__impl_typer__both : FuncId := 203
def n_slices_ContainsFunc___int_int_ : FuncId := 204
def n__impl_typer__usedOk_1 : FuncId := 205
def n_slices_IndexFunc___int_int_ : FuncId := 206
def m_laws_FnExactForgetTerm : List (Nat × List Md) := [(2, [.take, .copy, .take]), (5, [.copy, .copy, .take]), (8, [.take, .copy, .take]), (11, [.take, .copy, .copy, .copy, .take, .copy, .copy, .take]), (12, [.take, .take]), (13, [.copy, .take, .take]), (14, [.take, .take]), (15, [.copy, .copy, .copy, .take, .take]), (16, [.copy, .copy, .take]), (18, [.copy, .take, .copy, .take]), (20, [.copy, .copy, .copy, .take]), (22, [.copy, .take, .copy, .take]), (25, [.copy, .copy, .take]), (26, [.take, .copy, .take]), (27, [.copy, .copy, .take]), (28, [.copy, .copy, .copy, .copy, .copy, .take]), (31, [.copy, .copy, .take]), (33, [.copy, .copy, .take]), (38, [.take, .copy, .take, .copy, .take, .copy, .copy, .take]), (39, [.copy, .copy, .take]), (42, [.copy, .copy, .take]), (1000001, [.copy, .copy, .copy, .frz, .copy, .frz])]
def k_laws_FnExactForgetTerm : C := (.seq (.reg [(none, .box 3 (.t 0)),(none, .box 5 (.t 2)),(none, .mv 6 .copy (.k (.sc (.bool false))))]) (.seq (.seq (.frz 3) (.seq (.frz 5) (.reg [(none, .mv 7 .copy (.k (N 1048576)))]))) (.seq (.reg [(JlT 20 4 3),(Jmc 21 7),(none, .call .any (some 22) (.k (.fn n_laws_szSystem [])) [(.t 20), (.t 21)]),(Jmc 7 22)]) (.seq (.seq (.reg [(Jmc 23 7),(none, .bin 24 .num .lss (.t 23) (.k (N 0)))]) (.cond (.t 24) (.seq (.reg [(none, .mv 6 .copy (.k (.sc (.bool true))))])
 .ret)
 .skip)) (.seq (.reg [(Jmc 25 1),(Jmc 26 7),(none, .call .any (some 27) (.k (.fn n_laws_szIntSS [])) [(.t 25), (.t 26)]),(Jmc 7 27)]) (.seq (.seq (.reg [(Jmc 28 7),(none, .bin 29 .num .lss (.t 28) (.k (N 0)))]) (.cond (.t 29) (.seq (.reg [(none, .mv 6 .copy (.k (.sc (.bool true))))])
 .ret)
 .skip)) (.seq (.reg [(JlT 30 4 5),(Jmc 31 7),(none, .call .any (some 32) (.k (.fn n_laws_szTerm [])) [(.t 30), (.t 31)]),(Jmc 7 32)]) (.seq (.seq (.reg [(Jmc 33 7),(none, .bin 34 .num .lss (.t 33) (.k (N 0)))]) (.cond (.t 34) (.seq (.reg [(none, .mv 6 .copy (.k (.sc (.bool true))))])
 .ret)
 .skip)) (.seq (.reg [(JlT 36 4 3),(none, .call .no (some 37) (.k (.fn n_laws_toSystem [])) [(.t 36)]),(Jmc 38 1),(none, .call .no (some 39) (.k (.fn n_laws_toIntSS [])) [(.t 38)]),(JlT 40 4 5),(none, .call .no (some 41) (.k (.fn n_laws_toTerm [])) [(.t 40)]),(none, .call .no (some 42) (.k (.fn n_spec_ForgetTerm [])) [(.t 37), (.t 39), (.t 41)]),(Jmt 35 42),(none, .extract 43 0 (.t 35)),(none, .extract 44 1 (.t 35)),(none, .alloc 8 [(N 0), (N 0), (.sl true true 1 []), (.sl true true 1 [])]),(Jst 4 8 43),(Jmc 9 44)]) (.seq (.reg [(JlT 45 4 3),(none, .call .any (some 46) (.k (.fn n_laws_toSystem [])) [(.t 45)]),(none, .alloc 10 [(N 0), (.sl true true 1 []), (.sl true true 1 []), (.sl true true 1 [])]),(Jst 4 10 46)]) (.seq (.reg [(Jmc 47 1),(none, .call .any (some 48) (.k (.fn n_laws_toIntSS [])) [(.t 47)]),(Jmt 11 48)]) (.seq (.reg [(JlT 49 4 5),(none, .call .any (some 50) (.k (.fn n_laws_toTerm [])) [(.t 49)]),(none, .alloc 12 [(N 0), (N 0), (.sl true true 1 []), (.sl true true 1 [])]),(Jst 4 12 50)]) (.seq (.reg [(JlC 52 4 10),(Jmc 53 11),(JlC 54 4 12),(none, .call .any (some 55) (.k (.fn n_impl_ForgetTerm [])) [(.t 52), (.t 53), (.t 54)]),(Jmt 51 55),(none, .extract 56 0 (.t 51)),(none, .extract 57 1 (.t 51)),(none, .alloc 13 [(N 0), (N 0), (.sl true true 1 []), (.sl true true 1 [])]),(Jst 4 13 56),(Jmc 14 57)]) (.seq (.seq (.reg [(JlC 58 4 13),(JlC 59 4 8),(none, .call .any (some 60) (.k (.fn n_laws_eqTerm [])) [(.t 58), (.t 59)]),(none, .un 61 .not (.t 60)),(Jmc 62 61),(some (62, false), .mv 63 .copy (.t 14)),(some (62, false), .mv 64 .copy (.t 9)),(some (62, false), .bin 65 .bool .neq (.t 63) (.t 64)),(none, .pick 66 (.t 62) (.k (.sc (.bool true))) (.t 65))]) (.cond (.t 66) (.seq (.reg [(none, .mv 6 .copy (.k (.sc (.bool false))))])
 .ret)
 .skip)) (.seq (.seq (.reg [(JlC 67 4 10),(JlT 68 4 3),(none, .call .no (some 69) (.k (.fn n_laws_toSystem [])) [(.t 68)]),(none, .call .any (some 70) (.k (.fn n_laws_eqSystem [])) [(.t 67), (.t 69)]),(none, .un 71 .not (.t 70))]) (.cond (.t 71) (.seq (.reg [(none, .mv 6 .copy (.k (.sc (.bool false))))])
 .ret)
 .skip)) (.seq (.seq (.reg [(Jmc 72 11),(Jmc 73 1),(none, .call .no (some 74) (.k (.fn n_laws_toIntSS [])) [(.t 73)]),(none, .call .any (some 75) (.k (.fn n_laws_eqIntSS [])) [(.t 72), (.t 74)]),(none, .un 76 .not (.t 75))]) (.cond (.t 76) (.seq (.reg [(none, .mv 6 .copy (.k (.sc (.bool false))))])
 .ret)
 .skip)) (.seq (.seq (.reg [(JlC 77 4 12),(JlT 78 4 5),(none, .call .no (some 79) (.k (.fn n_laws_toTerm [])) [(.t 78)]),(none, .call .any (some 80) (.k (.fn n_laws_eqTerm [])) [(.t 77), (.t 79)]),(none, .un 81 .not (.t 80))]) (.cond (.t 81) (.seq (.reg [(none, .mv 6 .copy (.k (.sc (.bool false))))])
 .ret)
 .skip)) (.seq (.reg [(none, .mv 15 .copy (.k (N 1)))]) (.seq (.reg [(JlC 82 4 10),(Jmc 83 15),(none, .call .any (some 84) (.k (.fn n_laws_markSystem [])) [(.t 82), (.t 83)]),(Jmc 15 84)]) (.seq (.reg [(Jmt 85 11),(Jmc 86 15),(none, .call .any (some 87) (.k (.fn n_laws_markIntSS [])) [(.t 85), (.t 86)]),(Jmc 15 87)]) (.seq (.reg [(JlC 88 4 12),(Jmc 89 15),(none, .call .any (some 90) (.k (.fn n_laws_markTerm [])) [(.t 88), (.t 89)]),(Jmc 15 90)]) (.seq (.seq (.reg [(Jmc 91 15),(none, .bin 92 .num .lss (.t 91) (.k (N 0))),(Jmc 93 92),(some (93, false), .load 94 .copy true 4 (.t 13)),(some (93, false), .load 95 .copy true 4 (.t 8)),(some (93, false), .call .any (some 96) (.k (.fn n_laws_eqTerm [])) [(.t 94), (.t 95)]),(some (93, false), .un 97 .not (.t 96)),(none, .pick 98 (.t 93) (.k (.sc (.bool true))) (.t 97)),(Jmc 99 98),(some (99, false), .mv 100 .copy (.t 14)),(some (99, false), .mv 101 .copy (.t 9)),(some (99, false), .bin 102 .bool .neq (.t 100) (.t 101)),(none, .pick 103 (.t 99) (.k (.sc (.bool true))) (.t 102))]) (.cond (.t 103) (.seq (.reg [(none, .mv 6 .copy (.k (.sc (.bool false))))])
 .ret)
 .skip)) (.seq (.reg [(none, .mv 16 .copy (.k (N 1)))]) (.seq (.reg [(JlC 104 4 13),(Jmc 105 16),(none, .call .any (some 106) (.k (.fn n_laws_markTerm [])) [(.t 104), (.t 105)]),(Jmc 16 106)]) (.seq (.reg [(none, .mv 17 .copy (.k (N 1)))]) (.seq (.reg [(JlC 107 4 13),(Jmc 108 17),(none, .call .any (some 109) (.k (.fn n_laws_heldTerm [])) [(.t 107), (.t 108)]),(Jmc 17 109)]) (.seq (.seq (.reg [(Jmc 110 17),(none, .bin 111 .num .lss (.t 110) (.k (N 0)))]) (.cond (.t 111) (.seq (.reg [(none, .mv 6 .copy (.k (.sc (.bool false))))])
 .ret)
 .skip)) (.seq (.seq (.reg [(Jmc 112 17),(Jmc 113 16),(none, .bin 114 .num .neq (.t 112) (.t 113))]) (.cond (.t 114) (.seq (.reg [(none, .mv 6 .copy (.k (.sc (.bool false))))])
 .ret)
 .skip)) (.seq (.reg [(JlT 116 4 3),(none, .call .no (some 117) (.k (.fn n_laws_toSystem [])) [(.t 116)]),(Jmt 118 1),(none, .call .no (some 119) (.k (.fn n_laws_toIntSS [])) [(.t 118)]),(JlT 120 4 5),(none, .call .no (some 121) (.k (.fn n_laws_toTerm [])) [(.t 120)]),(none, .call .no (some 122) (.k (.fn n_impl_ForgetTerm [])) [(.t 117), (.t 119), (.t 121)]),(Jmt 115 122),(none, .extract 123 0 (.t 115)),(none, .extract 124 1 (.t 115)),(none, .alloc 18 [(N 0), (N 0), (.sl true true 1 []), (.sl true true 1 [])]),(Jst 4 18 123),(Jmc 19 124)]) (.seq (.seq (.reg [(JlC 125 4 18),(JlC 126 4 8),(none, .call .any (some 127) (.k (.fn n_laws_eqTerm [])) [(.t 125), (.t 126)]),(none, .un 128 .not (.t 127)),(Jmc 129 128),(some (129, false), .mv 130 .copy (.t 19)),(some (129, false), .mv 131 .copy (.t 9)),(some (129, false), .bin 132 .bool .neq (.t 130) (.t 131)),(none, .pick 133 (.t 129) (.k (.sc (.bool true))) (.t 132))]) (.cond (.t 133) (.seq (.reg [(none, .mv 6 .copy (.k (.sc (.bool false))))])
 .ret)
 .skip)) (.seq (.reg [(none, .mv 17 .copy (.k (N 1)))]) (.seq (.reg [(JlC 134 4 13),(Jmc 135 17),(none, .call .any (some 136) (.k (.fn n_laws_heldTerm [])) [(.t 134), (.t 135)]),(Jmc 17 136)]) (.seq (.seq (.reg [(Jmc 137 17),(none, .bin 138 .num .lss (.t 137) (.k (N 0)))]) (.cond (.t 138) (.seq (.reg [(none, .mv 6 .copy (.k (.sc (.bool false))))])
 .ret)
 .skip)) (.seq (.seq (.reg [(Jmc 139 17),(Jmc 140 16),(none, .bin 141 .num .neq (.t 139) (.t 140))]) (.cond (.t 141) (.seq (.reg [(none, .mv 6 .copy (.k (.sc (.bool false))))])
 .ret)
 .skip)) (.seq (.reg [(none, .mv 6 .copy (.k (.sc (.bool true))))])
 .ret)))))))))))))))))))))))))))))))))))
theorem c_laws_FnExactForgetTerm : codeOf Tryz.prog n_laws_FnExactForgetTerm m_laws_FnExactForgetTerm = some (k_laws_FnExactForgetTerm, [.tmp 6], 142) := by kernel_rfl
def m_laws_szSystem : List (Nat × List Md) := [(1, [.copy, .take]), (4, [.copy, .take]), (7, [.copy, .take]), (1000001, [.copy, .copy, .frz])]
def k_laws_szSystem : C := (.seq (.reg [(none, .box 2 (.t 0)),(none, .mv 4 .copy (.k (N 0)))]) (.seq (.seq (.frz 2) (.reg [(Jfa 5 1 2),(Jlt 6 1 5),(Jmc 7 1),(none, .call .no (some 8) (.k (.fn n_laws_szIntS [])) [(.t 6), (.t 7)]),(Jmc 1 8)])) (.seq (.seq (.reg [(Jmc 9 1),(none, .bin 10 .num .lss (.t 9) (.k (N 0)))]) (.cond (.t 10) (.seq (.reg [(none, .mv 4 .copy (.k (N (-1))))])
 .ret)
 .skip)) (.seq (.reg [(Jfa 11 2 2),(Jlt 12 1 11),(Jmc 13 1),(none, .call .no (some 14) (.k (.fn n_laws_szIntS [])) [(.t 12), (.t 13)]),(Jmc 1 14)]) (.seq (.seq (.reg [(Jmc 15 1),(none, .bin 16 .num .lss (.t 15) (.k (N 0)))]) (.cond (.t 16) (.seq (.reg [(none, .mv 4 .copy (.k (N (-1))))])
 .ret)
 .skip)) (.seq (.reg [(Jfa 17 3 2),(Jlt 18 1 17),(Jmc 19 1),(none, .call .no (some 20) (.k (.fn n_laws_szBoolS [])) [(.t 18), (.t 19)]),(Jmc 1 20)]) (.seq (.seq (.reg [(Jmc 21 1),(none, .bin 22 .num .lss (.t 21) (.k (N 0)))]) (.cond (.t 22) (.seq (.reg [(none, .mv 4 .copy (.k (N (-1))))])
 .ret)
 .skip)) (.seq (.reg [(Jmc 23 1),(Jmc 4 23)])
 .ret))))))))
theorem c_laws_szSystem : codeOf Tryz.prog n_laws_szSystem m_laws_szSystem = some (k_laws_szSystem, [.tmp 4], 24) := by kernel_rfl
def m_laws_szIntSS : List (Nat × List Md) := []
def k_laws_szIntSS : C := (.seq (.reg [(none, .mv 4 .copy (.k (N 0)))]) (.seq (.reg [(Jmc 6 1),(Jmc 7 0),(Jln 8 7),(none, .bin 9 .num .sub (.t 6) (.t 8)),(Jmc 1 9)]) (.seq (.seq (.reg [(Jmc 10 1),(none, .bin 11 .num .lss (.t 10) (.k (N 0)))]) (.cond (.t 11) (.seq (.reg [(none, .mv 4 .copy (.k (N (-1))))])
 .ret)
 .skip)) (.seq (.seq (.reg [(none, .mv 5 .copy (.k (N 0)))]) (.block 0 (.loop (.seq (.seq (.reg [(Jmc 12 5),(Jmc 13 0),(Jln 14 13),(Jbl 15 12 14)]) (.cond (.t 15)
 .skip (.exit 0))) (.seq (.block 1 (.seq (.reg [(Jmc 18 0),(Jmc 19 5),(Jia 20 1 18 19),(Jlc 21 1 20),(Jmc 22 1),(none, .call .no (some 23) (.k (.fn n_laws_szIntS [])) [(.t 21), (.t 22)]),(Jmc 1 23)]) (.seq (.reg [(Jmc 24 1),(none, .bin 25 .num .lss (.t 24) (.k (N 0)))]) (.cond (.t 25) (.seq (.reg [(none, .mv 4 .copy (.k (N (-1))))])
 .ret)
 .skip)))) (.reg [(Jmc 16 5),(Jba 17 16 1),(Jmc 5 17)])))))) (.seq (.reg [(Jmc 26 1),(Jmc 4 26)])
 .ret)))))
theorem c_laws_szIntSS : codeOf Tryz.prog n_laws_szIntSS m_laws_szIntSS = some (k_laws_szIntSS, [.tmp 4], 27) := by kernel_rfl
def m_laws_szTerm : List (Nat × List Md) := [(1, [.copy, .take]), (4, [.copy, .take]), (1000001, [.copy, .copy, .frz])]
def k_laws_szTerm : C := (.seq (.reg [(none, .box 2 (.t 0)),(none, .mv 4 .copy (.k (N 0)))]) (.seq (.seq (.frz 2) (.reg [(Jfa 5 2 2),(Jlt 6 1 5),(Jmc 7 1),(none, .call .no (some 8) (.k (.fn n_laws_szIntS [])) [(.t 6), (.t 7)]),(Jmc 1 8)])) (.seq (.seq (.reg [(Jmc 9 1),(none, .bin 10 .num .lss (.t 9) (.k (N 0)))]) (.cond (.t 10) (.seq (.reg [(none, .mv 4 .copy (.k (N (-1))))])
 .ret)
 .skip)) (.seq (.reg [(Jfa 11 3 2),(Jlt 12 1 11),(Jmc 13 1),(none, .call .no (some 14) (.k (.fn n_laws_szTermS [])) [(.t 12), (.t 13)]),(Jmc 1 14)]) (.seq (.seq (.reg [(Jmc 15 1),(none, .bin 16 .num .lss (.t 15) (.k (N 0)))]) (.cond (.t 16) (.seq (.reg [(none, .mv 4 .copy (.k (N (-1))))])
 .ret)
 .skip)) (.seq (.reg [(Jmc 17 1),(Jmc 4 17)])
 .ret))))))
theorem c_laws_szTerm : codeOf Tryz.prog n_laws_szTerm m_laws_szTerm = some (k_laws_szTerm, [.tmp 4], 18) := by kernel_rfl
def m_spec_ForgetTerm : List (Nat × List Md) := [(1, [.take, .copy, .take, .copy, .take, .copy, .copy, .copy, .take, .take]), (4, [.take, .take, .take]), (5, [.take]), (7, [.take]), (1000001, [.copy, .copy, .copy, .frz, .copy, .frz]), (2000004, [.copy, .copy, .copy, .copy, .copy, .copy, .copy, .copy, .copy, .copy, .copy, .frz])]
def k_spec_ForgetTerm : C := (.seq (.reg [(none, .box 3 (.t 0)),(none, .box 5 (.t 2)),(none, .alloc 6 [(N 0), (N 0), (.sl true true 1 []), (.sl true true 1 [])]),(none, .mv 7 .copy (.k (.sc (.bool false))))]) (.seq (.seq (.frz 3) (.seq (.frz 5) (.reg [(JlT 13 4 3),(Jmc 14 1),(JlT 15 4 5),(none, .call .no (some 16) (.k (.fn n_spec_TypeOf [])) [(.t 13), (.t 14), (.t 15)]),(Jmt 12 16),(none, .extract 17 0 (.t 12)),(none, .extract 18 1 (.t 12)),(none, .extract 19 2 (.t 12)),(Jmt 8 17),(Jmt 9 18),(Jmc 10 19)]))) (.seq (.seq (.reg [(Jmc 20 10),(none, .un 21 .not (.t 20))]) (.cond (.t 21) (.seq (.reg [(none, .build 22 [(N 0), (N 0), (.sl true true 1 []), (.sl true true 1 [])] []),(Jst 4 6 22),(none, .mv 7 .copy (.k (.sc (.bool false))))])
 .ret)
 .skip)) (.seq (.seq (.reg [(JlT 23 4 3),(Jmt 24 1),(JlT 25 4 5),(none, .call .no (some 26) (.k (.fn n_spec_l10Forget [])) [(.t 23), (.t 24), (.t 25)]),(none, .alloc 11 [(N 0), (N 0), (.sl true true 1 []), (.sl true true 1 [])]),(Jst 4 11 26)]) (.frz 11)) (.seq (.seq (.reg [(JlT 27 4 11),(none, .call .no (some 28) (.k (.fn n_spec_l2Left [])) [(.t 27), (.k (N 400))]),(none, .bin 29 .num .lss (.t 28) (.k (N 0)))]) (.cond (.t 29) (.seq (.reg [(none, .build 30 [(N 0), (N 0), (.sl true true 1 []), (.sl true true 1 [])] []),(Jst 4 6 30),(none, .mv 7 .copy (.k (.sc (.bool false))))])
 .ret)
 .skip)) (.seq (.reg [(JlT 31 4 11),(Jst 4 6 31),(none, .mv 7 .copy (.k (.sc (.bool true))))])
 .ret))))))
theorem c_spec_ForgetTerm : codeOf Tryz.prog n_spec_ForgetTerm m_spec_ForgetTerm = some (k_spec_ForgetTerm, [.cell 6 true 4, .tmp 7], 32) := by kernel_rfl
def m_laws_toSystem : List (Nat × List Md) := [(2, [.copy, .take]), (3, [.copy, .take]), (4, [.copy, .take]), (5, [.copy, .take]), (6, [.frz]), (1000001, [.copy, .frz])]
def k_laws_toSystem : C := (.seq (.reg [(none, .box 1 (.t 0)),(none, .alloc 2 [(N 0), (.sl true true 1 []), (.sl true true 1 []), (.sl true true 1 [])])]) (.seq (.seq (.frz 1) (.reg [(none, .alloc 3 [(N 0), (.sl true true 1 []), (.sl true true 1 []), (.sl true true 1 [])])])) (.seq (.reg [(Jfa 4 0 1),(Jlt 5 1 4),(Jfa 6 0 3),(Jst 1 6 5)]) (.seq (.reg [(Jfa 7 1 1),(Jlt 8 1 7),(none, .call .no (some 9) (.k (.fn n_laws_toIntS [])) [(.t 8)]),(Jfa 10 1 3),(Jst 1 10 9)]) (.seq (.reg [(Jfa 11 2 1),(Jlt 12 1 11),(none, .call .no (some 13) (.k (.fn n_laws_toIntS [])) [(.t 12)]),(Jfa 14 2 3),(Jst 1 14 13)]) (.seq (.reg [(Jfa 15 3 1),(Jlt 16 1 15),(none, .call .no (some 17) (.k (.fn n_laws_toBoolS [])) [(.t 16)]),(Jfa 18 3 3),(Jst 1 18 17)]) (.seq (.reg [(none, .load 19 .frz true 4 (.t 3)),(Jst 4 2 19)])
 .ret)))))))
theorem c_laws_toSystem : codeOf Tryz.prog n_laws_toSystem m_laws_toSystem = some (k_laws_toSystem, [.cell 2 true 4], 20) := by kernel_rfl
def m_laws_toIntSS : List (Nat × List Md) := [(1, [.copy, .copy, .copy, .take]), (6, [.take, .frz])]
def k_laws_toIntSS : C := (.seq (.reg [(none, .mv 2 .copy (.k (.sl true true 1 [])))]) (.seq (.reg [(Jmc 5 0),(Jln 6 5),(none, .mkslice 7 1 [(.sl true true 1 [])] (.t 6)),(Jmt 3 7)]) (.seq (.seq (.reg [(none, .mv 4 .copy (.k (N 0)))]) (.block 0 (.loop (.seq (.seq (.reg [(Jmc 8 4),(Jmc 9 0),(Jln 10 9),(Jbl 11 8 10)]) (.cond (.t 11)
 .skip (.exit 0))) (.seq (.block 1 (.reg [(Jmc 14 3),(Jmc 15 4),(Jmc 16 0),(Jmc 17 4),(Jia 18 1 16 17),(Jlc 19 1 18),(none, .call .no (some 20) (.k (.fn n_laws_toIntS [])) [(.t 19)]),(Jia 21 1 14 15),(Jst 1 21 20)])) (.reg [(Jmc 12 4),(Jba 13 12 1),(Jmc 4 13)])))))) (.seq (.reg [(Jmt 22 3),(none, .mv 2 .frz (.t 22))])
 .ret))))
theorem c_laws_toIntSS : codeOf Tryz.prog n_laws_toIntSS m_laws_toIntSS = some (k_laws_toIntSS, [.tmp 2], 23) := by kernel_rfl
def m_laws_toTerm : List (Nat × List Md) := [(2, [.copy, .take]), (3, [.copy, .take]), (4, [.copy, .take]), (5, [.copy, .take]), (6, [.frz]), (1000001, [.copy, .frz])]
def k_laws_toTerm : C := (.seq (.reg [(none, .box 1 (.t 0)),(none, .alloc 2 [(N 0), (N 0), (.sl true true 1 []), (.sl true true 1 [])])]) (.seq (.seq (.frz 1) (.reg [(none, .alloc 3 [(N 0), (N 0), (.sl true true 1 []), (.sl true true 1 [])])])) (.seq (.reg [(Jfa 4 0 1),(Jlt 5 1 4),(Jfa 6 0 3),(Jst 1 6 5)]) (.seq (.reg [(Jfa 7 1 1),(Jlt 8 1 7),(Jfa 9 1 3),(Jst 1 9 8)]) (.seq (.reg [(Jfa 10 2 1),(Jlt 11 1 10),(none, .call .no (some 12) (.k (.fn n_laws_toIntS [])) [(.t 11)]),(Jfa 13 2 3),(Jst 1 13 12)]) (.seq (.reg [(Jfa 14 3 1),(Jlt 15 1 14),(none, .call .no (some 16) (.k (.fn n_laws_toTermS [])) [(.t 15)]),(Jfa 17 3 3),(Jst 1 17 16)]) (.seq (.reg [(none, .load 18 .frz true 4 (.t 3)),(Jst 4 2 18)])
 .ret)))))))
theorem c_laws_toTerm : codeOf Tryz.prog n_laws_toTerm m_laws_toTerm = some (k_laws_toTerm, [.cell 2 true 4], 19) := by kernel_rfl
def m_impl_ForgetTerm : List (Nat × List Md) := [(1, [.take, .copy, .take, .copy, .take]), (4, [.take, .take]), (5, [.take, .copy, .take]), (7, [.frz]), (1000001, [.copy, .copy, .copy, .frz, .copy, .frz])]
def k_impl_ForgetTerm : C := (.seq (.reg [(none, .box 3 (.t 0)),(none, .box 5 (.t 2)),(none, .alloc 6 [(N 0), (N 0), (.sl true true 1 []), (.sl true true 1 [])]),(none, .mv 7 .copy (.k (.sc (.bool false))))]) (.seq (.seq (.frz 3) (.seq (.frz 5) (.reg [(JlT 10 4 3),(Jmc 11 1),(JlT 12 4 5),(none, .call .no (some 13) (.k (.fn n_impl_typedOf [])) [(.t 10), (.t 11), (.t 12)]),(Jmt 8 13)]))) (.seq (.seq (.reg [(Jmc 14 8),(none, .bin 15 .ptr .eql (.t 14) (.k (.sc (.pointer none)))),(Jmc 16 15),(some (16, false), .mv 17 .copy (.t 8)),(some (16, false), .nilchk 18 (.t 17)),(some (16, false), .fieldA 19 3 (.t 18)),(some (16, false), .load 20 .copy false 1 (.t 19)),(some (16, false), .bin 21 .num .neq (.t 20) (.k (N 0))),(none, .pick 22 (.t 16) (.k (.sc (.bool true))) (.t 21))]) (.cond (.t 22) (.seq (.reg [(none, .build 23 [(N 0), (N 0), (.sl true true 1 []), (.sl true true 1 [])] []),(Jst 4 6 23),(none, .mv 7 .copy (.k (.sc (.bool false))))])
 .ret)
 .skip)) (.seq (.reg [(JlT 24 4 5),(Jmt 25 8),(none, .call .no (some 26) (.k (.fn n_impl_forgetTerm [])) [(.t 24), (.t 25)]),(none, .alloc 9 [(N 0), (N 0), (.sl true true 1 []), (.sl true true 1 [])]),(Jst 4 9 26)]) (.seq (.seq (.reg [(JlT 27 4 3),(JlC 28 4 9),(Jmt 29 1),(Jln 30 29),(none, .call .no (some 31) (.k (.fn n_impl_isTermOf [])) [(.t 27), (.t 28), (.t 30)]),(none, .un 32 .not (.t 31))]) (.cond (.t 32) (.seq (.reg [(none, .build 33 [(N 0), (N 0), (.sl true true 1 []), (.sl true true 1 [])] []),(Jst 4 6 33),(none, .mv 7 .copy (.k (.sc (.bool false))))])
 .ret)
 .skip)) (.seq (.reg [(none, .load 34 .frz true 4 (.t 9)),(Jst 4 6 34),(none, .mv 7 .copy (.k (.sc (.bool true))))])
 .ret))))))
theorem c_impl_ForgetTerm : codeOf Tryz.prog n_impl_ForgetTerm m_impl_ForgetTerm = some (k_impl_ForgetTerm, [.cell 6 true 4, .tmp 7], 35) := by kernel_rfl
def m_laws_eqTerm : List (Nat × List Md) := [(1, [.copy, .take, .copy, .take]), (3, [.copy, .take, .copy, .take]), (5, [.copy, .take, .copy, .take]), (7, [.copy, .take, .copy, .take]), (1000001, [.copy, .copy, .frz, .frz])]
def k_laws_eqTerm : C := (.seq (.reg [(none, .box 2 (.t 0)),(none, .box 3 (.t 1)),(none, .mv 4 .copy (.k (.sc (.bool false))))]) (.seq (.seq (.seq (.frz 2) (.seq (.frz 3) (.reg [(Jfa 5 0 2),(Jlt 6 1 5),(Jfa 7 0 3),(Jlt 8 1 7),(none, .bin 9 .num .neq (.t 6) (.t 8))]))) (.cond (.t 9) (.seq (.reg [(none, .mv 4 .copy (.k (.sc (.bool false))))])
 .ret)
 .skip)) (.seq (.seq (.reg [(Jfa 10 1 2),(Jlt 11 1 10),(Jfa 12 1 3),(Jlt 13 1 12),(none, .bin 14 .num .neq (.t 11) (.t 13))]) (.cond (.t 14) (.seq (.reg [(none, .mv 4 .copy (.k (.sc (.bool false))))])
 .ret)
 .skip)) (.seq (.seq (.reg [(Jfa 15 2 2),(Jlt 16 1 15),(Jfa 17 2 3),(Jlt 18 1 17),(none, .call .no (some 19) (.k (.fn n_laws_eqIntS [])) [(.t 16), (.t 18)]),(none, .un 20 .not (.t 19))]) (.cond (.t 20) (.seq (.reg [(none, .mv 4 .copy (.k (.sc (.bool false))))])
 .ret)
 .skip)) (.seq (.seq (.reg [(Jfa 21 3 2),(Jlt 22 1 21),(Jfa 23 3 3),(Jlt 24 1 23),(none, .call .no (some 25) (.k (.fn n_laws_eqTermS [])) [(.t 22), (.t 24)]),(none, .un 26 .not (.t 25))]) (.cond (.t 26) (.seq (.reg [(none, .mv 4 .copy (.k (.sc (.bool false))))])
 .ret)
 .skip)) (.seq (.reg [(none, .mv 4 .copy (.k (.sc (.bool true))))])
 .ret))))))
theorem c_laws_eqTerm : codeOf Tryz.prog n_laws_eqTerm m_laws_eqTerm = some (k_laws_eqTerm, [.tmp 4], 27) := by kernel_rfl
def m_laws_eqSystem : List (Nat × List Md) := [(1, [.copy, .take, .copy, .take]), (3, [.copy, .take, .copy, .take]), (5, [.copy, .take, .copy, .take]), (7, [.copy, .take, .copy, .take]), (1000001, [.copy, .copy, .frz, .frz])]
def k_laws_eqSystem : C := (.seq (.reg [(none, .box 2 (.t 0)),(none, .box 3 (.t 1)),(none, .mv 4 .copy (.k (.sc (.bool false))))]) (.seq (.seq (.seq (.frz 2) (.seq (.frz 3) (.reg [(Jfa 5 0 2),(Jlt 6 1 5),(Jfa 7 0 3),(Jlt 8 1 7),(none, .bin 9 .num .neq (.t 6) (.t 8))]))) (.cond (.t 9) (.seq (.reg [(none, .mv 4 .copy (.k (.sc (.bool false))))])
 .ret)
 .skip)) (.seq (.seq (.reg [(Jfa 10 1 2),(Jlt 11 1 10),(Jfa 12 1 3),(Jlt 13 1 12),(none, .call .no (some 14) (.k (.fn n_laws_eqIntS [])) [(.t 11), (.t 13)]),(none, .un 15 .not (.t 14))]) (.cond (.t 15) (.seq (.reg [(none, .mv 4 .copy (.k (.sc (.bool false))))])
 .ret)
 .skip)) (.seq (.seq (.reg [(Jfa 16 2 2),(Jlt 17 1 16),(Jfa 18 2 3),(Jlt 19 1 18),(none, .call .no (some 20) (.k (.fn n_laws_eqIntS [])) [(.t 17), (.t 19)]),(none, .un 21 .not (.t 20))]) (.cond (.t 21) (.seq (.reg [(none, .mv 4 .copy (.k (.sc (.bool false))))])
 .ret)
 .skip)) (.seq (.seq (.reg [(Jfa 22 3 2),(Jlt 23 1 22),(Jfa 24 3 3),(Jlt 25 1 24),(none, .call .no (some 26) (.k (.fn n_laws_eqBoolS [])) [(.t 23), (.t 25)]),(none, .un 27 .not (.t 26))]) (.cond (.t 27) (.seq (.reg [(none, .mv 4 .copy (.k (.sc (.bool false))))])
 .ret)
 .skip)) (.seq (.reg [(none, .mv 4 .copy (.k (.sc (.bool true))))])
 .ret))))))
theorem c_laws_eqSystem : codeOf Tryz.prog n_laws_eqSystem m_laws_eqSystem = some (k_laws_eqSystem, [.tmp 4], 28) := by kernel_rfl
def m_laws_eqIntSS : List (Nat × List Md) := []
def k_laws_eqIntSS : C := (.seq (.reg [(none, .mv 4 .copy (.k (.sc (.bool false))))]) (.seq (.seq (.reg [(Jmc 6 0),(Jln 7 6),(Jmc 8 1),(Jln 9 8),(none, .bin 10 .num .neq (.t 7) (.t 9))]) (.cond (.t 10) (.seq (.reg [(none, .mv 4 .copy (.k (.sc (.bool false))))])
 .ret)
 .skip)) (.seq (.seq (.reg [(none, .mv 5 .copy (.k (N 0)))]) (.block 0 (.loop (.seq (.seq (.reg [(Jmc 11 5),(Jmc 12 0),(Jln 13 12),(Jbl 14 11 13)]) (.cond (.t 14)
 .skip (.exit 0))) (.seq (.block 1 (.seq (.reg [(Jmc 17 0),(Jmc 18 5),(Jia 19 1 17 18),(Jlc 20 1 19),(Jmc 21 1),(Jmc 22 5),(Jia 23 1 21 22),(Jlc 24 1 23),(none, .call .no (some 25) (.k (.fn n_laws_eqIntS [])) [(.t 20), (.t 24)]),(none, .un 26 .not (.t 25))]) (.cond (.t 26) (.seq (.reg [(none, .mv 4 .copy (.k (.sc (.bool false))))])
 .ret)
 .skip))) (.reg [(Jmc 15 5),(Jba 16 15 1),(Jmc 5 16)])))))) (.seq (.reg [(none, .mv 4 .copy (.k (.sc (.bool true))))])
 .ret))))
theorem c_laws_eqIntSS : codeOf Tryz.prog n_laws_eqIntSS m_laws_eqIntSS = some (k_laws_eqIntSS, [.tmp 4], 27) := by kernel_rfl
def m_laws_markSystem : List (Nat × List Md) := [(1, [.copy, .take, .copy, .take]), (2, [.copy, .take, .copy, .take]), (3, [.copy, .take, .copy, .take]), (1000001, [.copy, .copy, .frz])]
def k_laws_markSystem : C := (.seq (.reg [(none, .box 2 (.t 0)),(none, .mv 4 .copy (.k (N 0)))]) (.seq (.seq (.frz 2) (.reg [(Jfa 5 1 2),(Jlt 6 1 5),(Jmc 7 1),(none, .call .any (some 8) (.k (.fn n_laws_markIntS [])) [(.t 6), (.t 7)]),(Jmc 1 8)])) (.seq (.reg [(Jfa 9 2 2),(Jlt 10 1 9),(Jmc 11 1),(none, .call .any (some 12) (.k (.fn n_laws_markIntS [])) [(.t 10), (.t 11)]),(Jmc 1 12)]) (.seq (.reg [(Jfa 13 3 2),(Jlt 14 1 13),(Jmc 15 1),(none, .call .any (some 16) (.k (.fn n_laws_markBoolS [])) [(.t 14), (.t 15)]),(Jmc 1 16)]) (.seq (.reg [(Jmc 17 1),(Jmc 4 17)])
 .ret)))))
theorem c_laws_markSystem : codeOf Tryz.prog n_laws_markSystem m_laws_markSystem = some (k_laws_markSystem, [.tmp 4], 18) := by kernel_rfl
def m_laws_markIntSS : List (Nat × List Md) := [(4, [.copy, .copy, .copy, .copy, .copy, .take])]
def k_laws_markIntSS : C := (.seq (.reg [(none, .mv 4 .copy (.k (N 0)))]) (.seq (.seq (.reg [(none, .mv 5 .copy (.k (N 0)))]) (.block 0 (.loop (.seq (.seq (.reg [(Jmc 6 5),(Jmc 7 0),(Jln 8 7),(Jbl 9 6 8)]) (.cond (.t 9)
 .skip (.exit 0))) (.seq (.block 1 (.reg [(Jmc 12 0),(Jmc 13 5),(Jia 14 1 12 13),(Jlc 15 1 14),(Jmc 16 1),(none, .call .any (some 17) (.k (.fn n_laws_markIntS [])) [(.t 15), (.t 16)]),(Jmc 1 17)])) (.reg [(Jmc 10 5),(Jba 11 10 1),(Jmc 5 11)])))))) (.seq (.reg [(Jmc 18 1),(Jmc 4 18)])
 .ret)))
theorem c_laws_markIntSS : codeOf Tryz.prog n_laws_markIntSS m_laws_markIntSS = some (k_laws_markIntSS, [.tmp 4], 19) := by kernel_rfl
def m_laws_markTerm : List (Nat × List Md) := [(1, [.copy, .take, .copy, .take]), (2, [.copy, .take, .copy, .take]), (1000001, [.copy, .copy, .frz])]
def k_laws_markTerm : C := (.seq (.reg [(none, .box 2 (.t 0)),(none, .mv 4 .copy (.k (N 0)))]) (.seq (.seq (.frz 2) (.reg [(Jfa 5 2 2),(Jlt 6 1 5),(Jmc 7 1),(none, .call .any (some 8) (.k (.fn n_laws_markIntS [])) [(.t 6), (.t 7)]),(Jmc 1 8)])) (.seq (.reg [(Jfa 9 3 2),(Jlt 10 1 9),(Jmc 11 1),(none, .call .any (some 12) (.k (.fn n_laws_markTermS [])) [(.t 10), (.t 11)]),(Jmc 1 12)]) (.seq (.reg [(Jmc 13 1),(Jmc 4 13)])
 .ret))))
theorem c_laws_markTerm : codeOf Tryz.prog n_laws_markTerm m_laws_markTerm = some (k_laws_markTerm, [.tmp 4], 14) := by kernel_rfl
def m_laws_heldTerm : List (Nat × List Md) := [(1, [.copy, .take]), (4, [.copy, .take]), (1000001, [.copy, .copy, .frz])]
def k_laws_heldTerm : C := (.seq (.reg [(none, .box 2 (.t 0)),(none, .mv 4 .copy (.k (N 0)))]) (.seq (.seq (.frz 2) (.reg [(Jfa 5 2 2),(Jlt 6 1 5),(Jmc 7 1),(none, .call .no (some 8) (.k (.fn n_laws_heldIntS [])) [(.t 6), (.t 7)]),(Jmc 1 8)])) (.seq (.seq (.reg [(Jmc 9 1),(none, .bin 10 .num .lss (.t 9) (.k (N 0)))]) (.cond (.t 10) (.seq (.reg [(none, .mv 4 .copy (.k (N (-1))))])
 .ret)
 .skip)) (.seq (.reg [(Jfa 11 3 2),(Jlt 12 1 11),(Jmc 13 1),(none, .call .no (some 14) (.k (.fn n_laws_heldTermS [])) [(.t 12), (.t 13)]),(Jmc 1 14)]) (.seq (.seq (.reg [(Jmc 15 1),(none, .bin 16 .num .lss (.t 15) (.k (N 0)))]) (.cond (.t 16) (.seq (.reg [(none, .mv 4 .copy (.k (N (-1))))])
 .ret)
 .skip)) (.seq (.reg [(Jmc 17 1),(Jmc 4 17)])
 .ret))))))
theorem c_laws_heldTerm : codeOf Tryz.prog n_laws_heldTerm m_laws_heldTerm = some (k_laws_heldTerm, [.tmp 4], 18) := by kernel_rfl
def m_spec_TypeOf : List (Nat × List Md) := [(1, [.take, .copy, .take]), (3, [.take, .take, .take]), (4, [.copy, .take]), (6, [.copy, .take, .copy, .take, .take, .take]), (1000001, [.copy, .copy, .copy, .frz, .copy, .frz]), (2000003, [.copy, .copy, .copy, .copy, .copy, .copy, .copy, .copy, .copy, .frz])]
def k_spec_TypeOf : C := (.seq (.reg [(none, .box 3 (.t 0)),(none, .box 5 (.t 2)),(none, .mv 6 .copy (.k (.sl true true 1 []))),(none, .mv 7 .copy (.k (.sl true true 1 []))),(none, .mv 8 .copy (.k (.sc (.bool false))))]) (.seq (.seq (.seq (.frz 3) (.seq (.frz 5) (.reg [(JlT 10 4 3),(Jmc 11 1),(JlT 12 4 5),(none, .call .no (some 13) (.k (.fn n_spec_l3Input [])) [(.t 10), (.t 11), (.t 12)]),(none, .un 14 .not (.t 13))]))) (.cond (.t 14) (.seq (.reg [(none, .mv 6 .copy (.k (.sl true true 1 []))),(none, .mv 7 .copy (.k (.sl true true 1 []))),(none, .mv 8 .copy (.k (.sc (.bool false))))])
 .ret)
 .skip)) (.seq (.seq (.reg [(JlT 15 4 3),(Jmt 16 1),(JlT 17 4 5),(none, .call .no (some 18) (.k (.fn n_spec_l3Tell [])) [(.t 15), (.t 16), (.t 17)]),(none, .alloc 9 [(.sl true true 1 []), (.sl true true 1 []), (N 0), (.sl true true 1 [])]),(Jst 4 9 18)]) (.frz 9)) (.seq (.seq (.reg [(Jfa 19 2 9),(Jlt 20 1 19),(none, .bin 21 .num .neq (.t 20) (.k (N 0)))]) (.cond (.t 21) (.seq (.reg [(none, .mv 6 .copy (.k (.sl true true 1 []))),(none, .mv 7 .copy (.k (.sl true true 1 []))),(none, .mv 8 .copy (.k (.sc (.bool false))))])
 .ret)
 .skip)) (.seq (.reg [(Jfa 22 0 9),(Jlt 23 1 22),(Jfa 24 1 9),(Jlt 25 1 24),(Jmt 6 23),(Jmt 7 25),(none, .mv 8 .copy (.k (.sc (.bool true))))])
 .ret)))))
theorem c_spec_TypeOf : codeOf Tryz.prog n_spec_TypeOf m_spec_TypeOf = some (k_spec_TypeOf, [.tmp 6, .tmp 7, .tmp 8], 26) := by kernel_rfl
def m_laws_szIntS : List (Nat × List Md) := [(1, [.copy, .take])]
def k_laws_szIntS : C := (.seq (.reg [(none, .mv 4 .copy (.k (N 0)))]) (.seq (.reg [(Jmc 5 1),(Jmt 6 0),(Jln 7 6),(none, .bin 8 .num .sub (.t 5) (.t 7)),(Jmc 1 8)]) (.seq (.seq (.reg [(Jmc 9 1),(none, .bin 10 .num .lss (.t 9) (.k (N 0)))]) (.cond (.t 10) (.seq (.reg [(none, .mv 4 .copy (.k (N (-1))))])
 .ret)
 .skip)) (.seq (.reg [(Jmc 11 1),(Jmc 4 11)])
 .ret))))
theorem c_laws_szIntS : codeOf Tryz.prog n_laws_szIntS m_laws_szIntS = some (k_laws_szIntS, [.tmp 4], 12) := by kernel_rfl
def m_laws_szBoolS : List (Nat × List Md) := [(1, [.copy, .take])]
def k_laws_szBoolS : C := (.seq (.reg [(none, .mv 4 .copy (.k (N 0)))]) (.seq (.reg [(Jmc 5 1),(Jmt 6 0),(Jln 7 6),(none, .bin 8 .num .sub (.t 5) (.t 7)),(Jmc 1 8)]) (.seq (.seq (.reg [(Jmc 9 1),(none, .bin 10 .num .lss (.t 9) (.k (N 0)))]) (.cond (.t 10) (.seq (.reg [(none, .mv 4 .copy (.k (N (-1))))])
 .ret)
 .skip)) (.seq (.reg [(Jmc 11 1),(Jmc 4 11)])
 .ret))))
theorem c_laws_szBoolS : codeOf Tryz.prog n_laws_szBoolS m_laws_szBoolS = some (k_laws_szBoolS, [.tmp 4], 12) := by kernel_rfl
def m_laws_szTermS : List (Nat × List Md) := []
def k_laws_szTermS : C := (.seq (.reg [(none, .mv 4 .copy (.k (N 0)))]) (.seq (.reg [(Jmc 6 1),(Jmc 7 0),(Jln 8 7),(none, .bin 9 .num .sub (.t 6) (.t 8)),(Jmc 1 9)]) (.seq (.seq (.reg [(Jmc 10 1),(none, .bin 11 .num .lss (.t 10) (.k (N 0)))]) (.cond (.t 11) (.seq (.reg [(none, .mv 4 .copy (.k (N (-1))))])
 .ret)
 .skip)) (.seq (.seq (.reg [(none, .mv 5 .copy (.k (N 0)))]) (.block 0 (.loop (.seq (.seq (.reg [(Jmc 12 5),(Jmc 13 0),(Jln 14 13),(Jbl 15 12 14)]) (.cond (.t 15)
 .skip (.exit 0))) (.seq (.block 1 (.seq (.reg [(Jmc 18 0),(Jmc 19 5),(Jia 20 4 18 19),(JlC 21 4 20),(Jmc 22 1),(none, .call .no (some 23) (.k (.fn n_laws_szTerm [])) [(.t 21), (.t 22)]),(Jmc 1 23)]) (.seq (.reg [(Jmc 24 1),(none, .bin 25 .num .lss (.t 24) (.k (N 0)))]) (.cond (.t 25) (.seq (.reg [(none, .mv 4 .copy (.k (N (-1))))])
 .ret)
 .skip)))) (.reg [(Jmc 16 5),(Jba 17 16 1),(Jmc 5 17)])))))) (.seq (.reg [(Jmc 26 1),(Jmc 4 26)])
 .ret)))))
theorem c_laws_szTermS : codeOf Tryz.prog n_laws_szTermS m_laws_szTermS = some (k_laws_szTermS, [.tmp 4], 27) := by kernel_rfl
def m_spec_l10Forget : List (Nat × List Md) := [(1, [.copy, .take]), (3, [.copy, .copy, .take]), (5, [.take, .take, .take, .copy, .take, .copy, .copy, .copy, .take, .copy, .copy, .copy, .copy, .copy, .copy, .take]), (6, [.copy, .take]), (8, [.take]), (10, [.take, .take, .copy, .take, .copy, .copy, .copy, .copy, .copy, .take]), (11, [.take]), (12, [.take, .take]), (13, [.copy, .take, .copy, .take, .take]), (14, [.copy, .take]), (16, [.copy, .take]), (17, [.copy, .take]), (18, [.frz]), (1000001, [.copy, .copy, .copy, .frz, .copy, .frz]), (2000011, [.copy, .copy, .copy, .copy, .copy, .copy, .copy, .copy, .copy, .copy, .frz])]
def k_spec_l10Forget : C := (.seq (.reg [(none, .box 3 (.t 0)),(none, .box 5 (.t 2)),(none, .alloc 6 [(N 0), (N 0), (.sl true true 1 []), (.sl true true 1 [])])]) (.seq (.seq (.frz 3) (.seq (.frz 5) (.reg [(none, .bslice 12 4 0 [] []),(Jmt 7 12)]))) (.seq (.seq (.reg [(none, .mv 8 .copy (.k (N 0)))]) (.block 0 (.loop (.seq (.seq (.reg [(Jmc 13 8),(Jfa 14 3 5),(Jlt 15 1 14),(Jln 16 15),(Jbl 17 13 16)]) (.cond (.t 17)
 .skip (.exit 0))) (.seq (.block 1 (.reg [(Jmt 20 7),(JlT 21 4 3),(JlT 22 4 3),(Jmc 23 1),(JlT 24 4 5),(Jmc 25 8),(none, .call .no (some 26) (.k (.fn n_spec_l7Inner [])) [(.t 22), (.t 23), (.t 24), (.t 25)]),(Jfa 27 3 5),(Jlt 28 1 27),(Jmc 29 8),(Jia 30 4 28 29),(JlC 31 4 30),(none, .call .no (some 32) (.k (.fn n_spec_l10Forget [])) [(.t 21), (.t 26), (.t 31)]),(none, .bslice 33 4 1 [(N 0), (N 0), (.sl true true 1 []), (.sl true true 1 [])] [(0, 4, (.t 32))]),(none, .append 34 4 (.t 20) (.t 33)),(Jmt 7 34)])) (.reg [(Jmc 18 8),(Jba 19 18 1),(Jmc 8 19)])))))) (.seq (.seq (.reg [(Jfa 35 0 5),(Jlt 36 1 35)]) (.block 2 (.seq (.reg [(Jbe 38 36 11),(Jmc 37 38)]) (.cond (.t 37) (.seq (.reg [(Jmt 39 7),(none, .indexA 40 4 (.t 39) (.k (N 0))),(JlC 41 4 40),(Jst 4 6 41)])
 .ret) (.seq (.reg [(Jbe 43 36 12),(Jmc 42 43)]) (.cond (.t 42) (.seq (.reg [(JlT 44 4 3),(Jmt 45 1),(Jfa 46 3 5),(Jlt 47 1 46),(none, .indexA 48 4 (.t 47) (.k (N 0))),(JlC 49 4 48),(none, .call .no (some 50) (.k (.fn n_spec_l3Tell [])) [(.t 44), (.t 45), (.t 49)]),(none, .field 51 false 0 1 (.t 50)),(none, .call .no (some 52) (.k (.fn n_spec_l2Part [])) [(.t 51), (.k (N 0))]),(Jmt 9 52)]) (.seq (.seq (.reg [(Jmt 53 9),(none, .call .no (some 54) (.k (.fn n_spec_ForgetType [])) [(.t 53)]),(Jmc 55 7),(none, .indexA 56 4 (.t 55) (.k (N 1))),(JlC 57 4 56),(none, .bslice 58 4 1 [(N 0), (N 0), (.sl true true 1 []), (.sl true true 1 [])] [(0, 4, (.t 57))]),(none, .build 59 [(N 0), (N 0), (.sl true true 1 []), (.sl true true 1 [])] [(0, 1, (.k (N 9))), (1, 1, (.k (N 1))), (2, 1, (.t 54)), (3, 1, (.t 58))]),(none, .alloc 10 [(N 0), (N 0), (.sl true true 1 []), (.sl true true 1 [])]),(Jst 4 10 59)]) (.frz 10)) (.seq (.reg [(JlT 60 4 10),(Jmt 61 7),(none, .indexA 62 4 (.t 61) (.k (N 0))),(JlC 63 4 62),(none, .bslice 64 4 2 [(N 0), (N 0), (.sl true true 1 []), (.sl true true 1 []), (N 0), (N 0), (.sl true true 1 []), (.sl true true 1 [])] [(0, 4, (.t 60)), (4, 4, (.t 63))]),(none, .build 65 [(N 0), (N 0), (.sl true true 1 []), (.sl true true 1 [])] [(0, 1, (.k (N 10))), (3, 1, (.t 64))]),(Jst 4 6 65)])
 .ret)))
 .skip)))))) (.seq (.reg [(Jfa 66 0 5),(Jlt 67 1 66),(Jfa 68 1 5),(Jlt 69 1 68),(Jmt 70 7),(none, .build 71 [(N 0), (N 0), (.sl true true 1 []), (.sl true true 1 [])] [(0, 1, (.t 67)), (1, 1, (.t 69)), (3, 1, (.t 70))]),(none, .alloc 11 [(N 0), (N 0), (.sl true true 1 []), (.sl true true 1 [])]),(Jst 4 11 71)]) (.seq (.seq (.reg [(Jfa 72 0 5),(Jlt 73 1 72),(none, .call .no (some 74) (.k (.fn n_spec_l2Has [])) [(.t 73)])]) (.cond (.t 74) (.reg [(Jfa 75 1 11),(none, .store 1 (.t 75) (.k (N 1)))])
 .skip)) (.seq (.seq (.reg [(Jfa 76 0 5),(Jlt 77 1 76),(none, .call .no (some 78) (.k (.fn n_spec_l2Typed [])) [(.t 77)])]) (.cond (.t 78) (.reg [(Jfa 79 2 5),(Jlt 80 1 79),(none, .call .no (some 81) (.k (.fn n_spec_ForgetType [])) [(.t 80)]),(Jfa 82 2 11),(Jst 1 82 81)])
 .skip)) (.seq (.reg [(none, .load 83 .frz true 4 (.t 11)),(Jst 4 6 83)])
 .ret))))))))
theorem c_spec_l10Forget : codeOf Tryz.prog n_spec_l10Forget m_spec_l10Forget = some (k_spec_l10Forget, [.cell 6 true 4], 84) := by kernel_rfl
def m_spec_l2Left : List (Nat × List Md) := [(3, [.copy, .copy, .take]), (5, [.copy, .take]), (1000001, [.copy, .copy, .frz])]
def k_spec_l2Left : C := (.seq (.reg [(none, .box 2 (.t 0)),(none, .mv 4 .copy (.k (N 0)))]) (.seq (.seq (.frz 2) (.reg [(Jmc 6 1),(none, .bin 7 .num .sub (.t 6) (.k (N 1))),(Jmc 1 7)])) (.seq (.seq (.reg [(none, .mv 5 .copy (.k (N 0)))]) (.block 0 (.loop (.seq (.seq (.reg [(Jmc 8 5),(Jfa 9 3 2),(Jlt 10 1 9),(Jln 11 10),(Jbl 12 8 11),(Jmc 13 12),(some (13, true), .mv 14 .copy (.t 1)),(some (13, true), .bin 15 .num .geq (.t 14) (.k (N 0))),(none, .pick 16 (.t 13) (.t 15) (.k (.sc (.bool false))))]) (.cond (.t 16)
 .skip (.exit 0))) (.seq (.block 1 (.reg [(Jfa 19 3 2),(Jlt 20 1 19),(Jmc 21 5),(Jia 22 4 20 21),(JlC 23 4 22),(Jmc 24 1),(none, .call .no (some 25) (.k (.fn n_spec_l2Left [])) [(.t 23), (.t 24)]),(Jmc 1 25)])) (.reg [(Jmc 17 5),(Jba 18 17 1),(Jmc 5 18)])))))) (.seq (.reg [(Jmc 26 1),(Jmc 4 26)])
 .ret))))
theorem c_spec_l2Left : codeOf Tryz.prog n_spec_l2Left m_spec_l2Left = some (k_spec_l2Left, [.tmp 4], 27) := by kernel_rfl
def m_laws_toIntS : List (Nat × List Md) := [(1, [.copy, .copy, .copy, .take]), (6, [.take, .frz])]
def k_laws_toIntS : C := (.seq (.reg [(none, .mv 2 .copy (.k (.sl true true 1 [])))]) (.seq (.reg [(Jmc 5 0),(Jln 6 5),(none, .mkslice 7 1 [(N 0)] (.t 6)),(Jmt 3 7)]) (.seq (.seq (.reg [(none, .mv 4 .copy (.k (N 0)))]) (.block 0 (.loop (.seq (.seq (.reg [(Jmc 8 4),(Jmc 9 0),(Jln 10 9),(Jbl 11 8 10)]) (.cond (.t 11)
 .skip (.exit 0))) (.seq (.block 1 (.reg [(Jmc 14 3),(Jmc 15 4),(Jmc 16 0),(Jmc 17 4),(Jia 18 1 16 17),(Jlc 19 1 18),(Jia 20 1 14 15),(Jst 1 20 19)])) (.reg [(Jmc 12 4),(Jba 13 12 1),(Jmc 4 13)])))))) (.seq (.reg [(Jmt 21 3),(none, .mv 2 .frz (.t 21))])
 .ret))))
theorem c_laws_toIntS : codeOf Tryz.prog n_laws_toIntS m_laws_toIntS = some (k_laws_toIntS, [.tmp 2], 22) := by kernel_rfl
def m_laws_toBoolS : List (Nat × List Md) := [(1, [.copy, .copy, .copy, .take]), (6, [.take, .frz])]
def k_laws_toBoolS : C := (.seq (.reg [(none, .mv 2 .copy (.k (.sl true true 1 [])))]) (.seq (.reg [(Jmc 5 0),(Jln 6 5),(none, .mkslice 7 1 [(.sc (.bool false))] (.t 6)),(Jmt 3 7)]) (.seq (.seq (.reg [(none, .mv 4 .copy (.k (N 0)))]) (.block 0 (.loop (.seq (.seq (.reg [(Jmc 8 4),(Jmc 9 0),(Jln 10 9),(Jbl 11 8 10)]) (.cond (.t 11)
 .skip (.exit 0))) (.seq (.block 1 (.reg [(Jmc 14 3),(Jmc 15 4),(Jmc 16 0),(Jmc 17 4),(Jia 18 1 16 17),(Jlc 19 1 18),(Jia 20 1 14 15),(Jst 1 20 19)])) (.reg [(Jmc 12 4),(Jba 13 12 1),(Jmc 4 13)])))))) (.seq (.reg [(Jmt 21 3),(none, .mv 2 .frz (.t 21))])
 .ret))))
theorem c_laws_toBoolS : codeOf Tryz.prog n_laws_toBoolS m_laws_toBoolS = some (k_laws_toBoolS, [.tmp 2], 22) := by kernel_rfl
def m_laws_toTermS : List (Nat × List Md) := [(1, [.copy, .copy, .copy, .take]), (6, [.take, .frz])]
def k_laws_toTermS : C := (.seq (.reg [(none, .mv 2 .copy (.k (.sl true true 4 [])))]) (.seq (.reg [(Jmc 5 0),(Jln 6 5),(none, .mkslice 7 4 [(N 0), (N 0), (.sl true true 1 []), (.sl true true 1 [])] (.t 6)),(Jmt 3 7)]) (.seq (.seq (.reg [(none, .mv 4 .copy (.k (N 0)))]) (.block 0 (.loop (.seq (.seq (.reg [(Jmc 8 4),(Jmc 9 0),(Jln 10 9),(Jbl 11 8 10)]) (.cond (.t 11)
 .skip (.exit 0))) (.seq (.block 1 (.reg [(Jmc 14 3),(Jmc 15 4),(Jmc 16 0),(Jmc 17 4),(Jia 18 4 16 17),(JlC 19 4 18),(none, .call .no (some 20) (.k (.fn n_laws_toTerm [])) [(.t 19)]),(Jia 21 4 14 15),(Jst 4 21 20)])) (.reg [(Jmc 12 4),(Jba 13 12 1),(Jmc 4 13)])))))) (.seq (.reg [(Jmt 22 3),(none, .mv 2 .frz (.t 22))])
 .ret))))
theorem c_laws_toTermS : codeOf Tryz.prog n_laws_toTermS m_laws_toTermS = some (k_laws_toTermS, [.tmp 2], 23) := by kernel_rfl
def m_impl_typedOf : List (Nat × List Md) := [(1, [.take, .copy, .copy, .copy, .take, .copy, .copy, .copy, .copy, .copy, .take, .take]), (3, [.take, .copy, .take, .take, .copy, .take]), (1000001, [.copy, .copy, .copy, .frz, .copy, .frz])]
def k_impl_typedOf : C := (.seq (.reg [(none, .box 3 (.t 0)),(none, .box 5 (.t 2)),(none, .mv 6 .copy (.k (.sc (.pointer none))))]) (.seq (.seq (.seq (.frz 3) (.seq (.frz 5) (.reg [(JlT 7 4 3),(none, .call .no (some 8) (.k (.fn n_impl_IsSystem [])) [(.t 7)]),(none, .un 9 .not (.t 8)),(Jmc 10 9),(some (10, false), .load 11 .take true 4 (.t 3)),(some (10, false), .mv 12 .copy (.t 1)),(some (10, false), .call .no (some 13) (.k (.fn n_impl_isContext [])) [(.t 11), (.t 12)]),(some (10, false), .un 14 .not (.t 13)),(none, .pick 15 (.t 10) (.k (.sc (.bool true))) (.t 14)),(Jmc 16 15),(some (16, false), .load 17 .take true 4 (.t 3)),(some (16, false), .load 18 .take true 4 (.t 5)),(some (16, false), .mv 19 .copy (.t 1)),(some (16, false), .len 20 (.t 19)),(some (16, false), .call .no (some 21) (.k (.fn n_impl_isTermOf [])) [(.t 17), (.t 18), (.t 20)]),(some (16, false), .un 22 .not (.t 21)),(none, .pick 23 (.t 16) (.k (.sc (.bool true))) (.t 22))]))) (.cond (.t 23) (.seq (.reg [(none, .mv 6 .copy (.k (.sc (.pointer none))))])
 .ret)
 .skip)) (.seq (.reg [(JlT 24 4 3),(none, .build 25 [(N 0), (.sl true true 1 []), (.sl true true 1 []), (.sl true true 1 [])] [(0, 4, (.t 24))]),(Jmt 26 1),(JlT 27 4 5),(none, .call .no (some 28) (.k (.fn n__impl_typer__typ [])) [(.t 25), (.t 26), (.t 27)]),(Jmt 6 28)])
 .ret)))
theorem c_impl_typedOf : codeOf Tryz.prog n_impl_typedOf m_impl_typedOf = some (k_impl_typedOf, [.tmp 6], 29) := by kernel_rfl
def m_impl_forgetTerm : List (Nat × List Md) := [(1, [.copy, .take, .copy, .take]), (2, [.copy, .take, .copy, .take]), (5, [.copy, .take]), (6, [.copy, .take]), (7, [.copy, .take]), (10, [.copy, .frz]), (12, [.copy, .take]), (14, [.copy, (.part 0), .own, .own]), (16, [.take, .copy, .copy, .take, .copy, .take, .copy, .copy, .take, .copy, .copy, .take, .copy, .copy, (.part 1), .own, .own]), (17, [.own, .copy, (.part 0), .own, .own]), (18, [.frz]), (1000001, [.copy, .copy, .frz]), (2000016, [.copy, .copy, .copy, .copy, .copy, .copy, .copy, .copy, .copy, .copy, .frz])]
def k_impl_forgetTerm : C := (.seq (.reg [(none, .box 2 (.t 0)),(none, .alloc 4 [(N 0), (N 0), (.sl true true 1 []), (.sl true true 1 [])])]) (.seq (.seq (.frz 2) (.reg [(Jfa 11 0 2),(Jlt 12 1 11),(Jfa 13 1 2),(Jlt 14 1 13),(none, .build 15 [(N 0), (N 0), (.sl true true 1 []), (.sl true true 1 [])] [(0, 1, (.t 12)), (1, 1, (.t 14))]),(none, .alloc 5 [(N 0), (N 0), (.sl true true 1 []), (.sl true true 1 [])]),(Jst 4 5 15)])) (.seq (.seq (.reg [(Jfa 17 0 2),(Jlt 18 1 17),(none, .call .no (some 19) (.k (.fn n_impl_formOf [])) [(.t 18)]),(Jmt 16 19),(none, .extract 20 0 (.t 16)),(none, .extract 21 1 (.t 16)),(none, .alloc 6 [(.sc (.string ⟨#[]⟩)), (N 0), (.sc (.bool false)), (.sc (.bool false))]),(Jst 4 6 20),(Jmc 7 21)]) (.seq (.reg [(Jfa 22 2 6),(Jlc 23 1 22)]) (.cond (.t 23) (.reg [(Jfa 24 1 5),(none, .store 1 (.t 24) (.k (N 1)))])
 .skip))) (.seq (.seq (.reg [(Jfa 25 2 2),(Jlt 26 1 25),(Jln 27 26),(none, .bin 28 .num .gtr (.t 27) (.k (N 0)))]) (.cond (.t 28) (.reg [(Jfa 29 2 2),(Jlt 30 1 29),(none, .call .no (some 31) (.k (.fn n_impl_ForgetType [])) [(.t 30)]),(Jfa 32 2 5),(Jst 1 32 31)])
 .skip)) (.seq (.seq (.reg [(Jfa 33 3 2),(Jlt 34 1 33),(Jln 35 34),(none, .mv 36 .copy (.k (N 0)))]) (.block 0 (.loop (.seq (.reg [(Jbl 37 36 35)]) (.seq (.cond (.t 37)
 .skip (.exit 0)) (.seq (.block 1 (.seq (.reg [(Jmc 38 36),(Jia 39 4 34 36),(JlC 40 4 39),(none, .alloc 9 [(N 0), (N 0), (.sl true true 1 []), (.sl true true 1 [])]),(Jmc 8 38),(Jst 4 9 40)]) (.reg [(Jfa 41 3 5),(none, .load 42 .frz false 1 (.t 41)),(JlC 43 4 9),(Jmc 44 1),(none, .nilchk 45 (.t 44)),(Jfa 46 2 45),(Jlc 47 1 46),(Jmc 48 8),(Jia 49 1 47 48),(Jlc 50 1 49),(none, .call .no (some 51) (.k (.fn n_impl_forgetTerm [])) [(.t 43), (.t 50)]),(none, .bslice 52 4 1 [(N 0), (N 0), (.sl true true 1 []), (.sl true true 1 [])] [(0, 4, (.t 51))]),(none, .append 53 4 (.t 42) (.t 52)),(Jfa 54 3 5),(Jst 1 54 53)]))) (.reg [(Jba 55 36 1),(Jmc 36 55)]))))))) (.seq (.seq (.reg [(Jfa 56 0 2),(Jlt 57 1 56)]) (.block 2 (.seq (.reg [(Jbe 59 57 11),(Jmc 58 59)]) (.cond (.t 58) (.seq (.reg [(Jfa 60 3 5),(none, .loadP 61 0 false 1 (.t 60)),(none, .indexT 62 4 (.t 61) (.k (N 0))),(none, .loadT 63 true 4 (.t 62)),(Jst 4 4 63)])
 .ret) (.seq (.reg [(Jbe 65 57 12),(Jmc 64 65)]) (.cond (.t 64) (.seq (.seq (.reg [(Jmt 66 1),(none, .nilchk 67 (.t 66)),(Jfa 68 2 67),(Jlt 69 1 68),(none, .indexA 70 1 (.t 69) (.k (N 0))),(Jlt 71 1 70),(none, .nilchk 72 (.t 71)),(Jfa 73 0 72),(Jlt 74 1 73),(none, .call .no (some 75) (.k (.fn n_impl_parts [])) [(.t 74)]),(none, .indexA 76 1 (.t 75) (.k (N 0))),(Jlt 77 1 76),(none, .call .no (some 78) (.k (.fn n_impl_ForgetType [])) [(.t 77)]),(Jfa 79 3 5),(none, .loadP 80 1 false 1 (.t 79)),(none, .indexT 81 4 (.t 80) (.k (N 1))),(none, .loadT 82 true 4 (.t 81)),(none, .bslice 83 4 1 [(N 0), (N 0), (.sl true true 1 []), (.sl true true 1 [])] [(0, 4, (.t 82))]),(none, .build 84 [(N 0), (N 0), (.sl true true 1 []), (.sl true true 1 [])] [(0, 1, (.k (N 9))), (1, 1, (.k (N 1))), (2, 1, (.t 78)), (3, 1, (.t 83))]),(none, .alloc 10 [(N 0), (N 0), (.sl true true 1 []), (.sl true true 1 [])]),(Jst 4 10 84)]) (.frz 10)) (.seq (.reg [(none, .loadT 85 true 4 (.t 10)),(Jfa 86 3 5),(none, .loadP 87 0 false 1 (.t 86)),(none, .indexT 88 4 (.t 87) (.k (N 0))),(none, .loadT 89 true 4 (.t 88)),(none, .bslice 90 4 2 [(N 0), (N 0), (.sl true true 1 []), (.sl true true 1 []), (N 0), (N 0), (.sl true true 1 []), (.sl true true 1 [])] [(0, 4, (.t 85)), (4, 4, (.t 89))]),(none, .build 91 [(N 0), (N 0), (.sl true true 1 []), (.sl true true 1 [])] [(0, 1, (.k (N 10))), (3, 1, (.t 90))]),(Jst 4 4 91)])
 .ret))
 .skip)))))) (.seq (.reg [(none, .load 92 .frz true 4 (.t 5)),(Jst 4 4 92)])
 .ret)))))))
theorem c_impl_forgetTerm : codeOf Tryz.prog n_impl_forgetTerm m_impl_forgetTerm = some (k_impl_forgetTerm, [.cell 4 true 4], 93) := by kernel_rfl
def m_impl_isTermOf : List (Nat × List Md) := [(1, [.copy, .copy, .copy, .take, .copy, .take]), (1000001, [.copy, .copy, .copy, .frz, .frz])]
def k_impl_isTermOf : C := (.seq (.reg [(none, .box 3 (.t 0)),(none, .box 4 (.t 1)),(none, .mv 6 .copy (.k (.sc (.bool false))))]) (.seq (.seq (.frz 3) (.seq (.frz 4) (.reg [(Jmc 7 2),(none, .call .no (some 8) (.k (.fn n_impl_within [])) [(.t 7), (.k (N 0)), (.k (N 8))]),(Jmc 9 8),(some (9, true), .load 10 .take true 4 (.t 4)),(some (9, true), .mv 11 .copy (.t 2)),(some (9, true), .load 12 .take true 4 (.t 3)),(some (9, true), .mkfn 13 n__impl_System__has true [(.t 12)]),(some (9, true), .mkfn 14 n_impl_isTermOf_1 false [(.t 3)]),(some (9, true), .call .no (some 15) (.k (.fn n_impl_check [])) [(.t 10), (.t 11), (.t 13), (.t 14), (.k (N 0))]),(some (9, true), .bin 16 .num .leq (.t 15) (.k (N 400))),(none, .pick 17 (.t 9) (.t 16) (.k (.sc (.bool false)))),(Jmc 6 17)])))
 .ret))
theorem c_impl_isTermOf : codeOf Tryz.prog n_impl_isTermOf m_impl_isTermOf = some (k_impl_isTermOf, [.tmp 6], 18) := by kernel_rfl
def m_laws_eqIntS : List (Nat × List Md) := []
def k_laws_eqIntS : C := (.seq (.reg [(none, .mv 4 .copy (.k (.sc (.bool false))))]) (.seq (.seq (.reg [(Jmc 6 0),(Jln 7 6),(Jmc 8 1),(Jln 9 8),(none, .bin 10 .num .neq (.t 7) (.t 9))]) (.cond (.t 10) (.seq (.reg [(none, .mv 4 .copy (.k (.sc (.bool false))))])
 .ret)
 .skip)) (.seq (.seq (.reg [(none, .mv 5 .copy (.k (N 0)))]) (.block 0 (.loop (.seq (.seq (.reg [(Jmc 11 5),(Jmc 12 0),(Jln 13 12),(Jbl 14 11 13)]) (.cond (.t 14)
 .skip (.exit 0))) (.seq (.block 1 (.seq (.reg [(Jmc 17 0),(Jmc 18 5),(Jia 19 1 17 18),(Jlc 20 1 19),(Jmc 21 1),(Jmc 22 5),(Jia 23 1 21 22),(Jlc 24 1 23),(none, .bin 25 .num .neq (.t 20) (.t 24))]) (.cond (.t 25) (.seq (.reg [(none, .mv 4 .copy (.k (.sc (.bool false))))])
 .ret)
 .skip))) (.reg [(Jmc 15 5),(Jba 16 15 1),(Jmc 5 16)])))))) (.seq (.reg [(none, .mv 4 .copy (.k (.sc (.bool true))))])
 .ret))))
theorem c_laws_eqIntS : codeOf Tryz.prog n_laws_eqIntS m_laws_eqIntS = some (k_laws_eqIntS, [.tmp 4], 26) := by kernel_rfl
def m_laws_eqTermS : List (Nat × List Md) := []
def k_laws_eqTermS : C := (.seq (.reg [(none, .mv 4 .copy (.k (.sc (.bool false))))]) (.seq (.seq (.reg [(Jmc 6 0),(Jln 7 6),(Jmc 8 1),(Jln 9 8),(none, .bin 10 .num .neq (.t 7) (.t 9))]) (.cond (.t 10) (.seq (.reg [(none, .mv 4 .copy (.k (.sc (.bool false))))])
 .ret)
 .skip)) (.seq (.seq (.reg [(none, .mv 5 .copy (.k (N 0)))]) (.block 0 (.loop (.seq (.seq (.reg [(Jmc 11 5),(Jmc 12 0),(Jln 13 12),(Jbl 14 11 13)]) (.cond (.t 14)
 .skip (.exit 0))) (.seq (.block 1 (.seq (.reg [(Jmc 17 0),(Jmc 18 5),(Jia 19 4 17 18),(JlC 20 4 19),(Jmc 21 1),(Jmc 22 5),(Jia 23 4 21 22),(JlC 24 4 23),(none, .call .no (some 25) (.k (.fn n_laws_eqTerm [])) [(.t 20), (.t 24)]),(none, .un 26 .not (.t 25))]) (.cond (.t 26) (.seq (.reg [(none, .mv 4 .copy (.k (.sc (.bool false))))])
 .ret)
 .skip))) (.reg [(Jmc 15 5),(Jba 16 15 1),(Jmc 5 16)])))))) (.seq (.reg [(none, .mv 4 .copy (.k (.sc (.bool true))))])
 .ret))))
theorem c_laws_eqTermS : codeOf Tryz.prog n_laws_eqTermS m_laws_eqTermS = some (k_laws_eqTermS, [.tmp 4], 27) := by kernel_rfl
def m_laws_eqBoolS : List (Nat × List Md) := []
def k_laws_eqBoolS : C := (.seq (.reg [(none, .mv 4 .copy (.k (.sc (.bool false))))]) (.seq (.seq (.reg [(Jmc 6 0),(Jln 7 6),(Jmc 8 1),(Jln 9 8),(none, .bin 10 .num .neq (.t 7) (.t 9))]) (.cond (.t 10) (.seq (.reg [(none, .mv 4 .copy (.k (.sc (.bool false))))])
 .ret)
 .skip)) (.seq (.seq (.reg [(none, .mv 5 .copy (.k (N 0)))]) (.block 0 (.loop (.seq (.seq (.reg [(Jmc 11 5),(Jmc 12 0),(Jln 13 12),(Jbl 14 11 13)]) (.cond (.t 14)
 .skip (.exit 0))) (.seq (.block 1 (.seq (.reg [(Jmc 17 0),(Jmc 18 5),(Jia 19 1 17 18),(Jlc 20 1 19),(Jmc 21 1),(Jmc 22 5),(Jia 23 1 21 22),(Jlc 24 1 23),(none, .bin 25 .bool .neq (.t 20) (.t 24))]) (.cond (.t 25) (.seq (.reg [(none, .mv 4 .copy (.k (.sc (.bool false))))])
 .ret)
 .skip))) (.reg [(Jmc 15 5),(Jba 16 15 1),(Jmc 5 16)])))))) (.seq (.reg [(none, .mv 4 .copy (.k (.sc (.bool true))))])
 .ret))))
theorem c_laws_eqBoolS : codeOf Tryz.prog n_laws_eqBoolS m_laws_eqBoolS = some (k_laws_eqBoolS, [.tmp 4], 26) := by kernel_rfl
def m_laws_markIntS : List (Nat × List Md) := []
def k_laws_markIntS : C := (.seq (.reg [(none, .mv 4 .copy (.k (N 0)))]) (.seq (.seq (.reg [(none, .mv 5 .copy (.k (N 0)))]) (.block 0 (.loop (.seq (.seq (.reg [(Jmc 6 5),(Jmc 7 0),(Jln 8 7),(Jbl 9 6 8)]) (.cond (.t 9)
 .skip (.exit 0))) (.seq (.block 1 (.seq (.reg [(Jmc 12 0),(Jmc 13 5),(Jmc 14 1),(Jia 15 1 12 13),(Jst 1 15 14)]) (.reg [(Jmc 16 1),(Jba 17 16 1),(Jmc 1 17)]))) (.reg [(Jmc 10 5),(Jba 11 10 1),(Jmc 5 11)])))))) (.seq (.reg [(Jmc 18 1),(Jmc 4 18)])
 .ret)))
theorem c_laws_markIntS : codeOf Tryz.prog n_laws_markIntS m_laws_markIntS = some (k_laws_markIntS, [.tmp 4], 19) := by kernel_rfl
def m_laws_markBoolS : List (Nat × List Md) := []
def k_laws_markBoolS : C := (.seq (.reg [(none, .mv 4 .copy (.k (N 0)))]) (.seq (.seq (.reg [(none, .mv 5 .copy (.k (N 0)))]) (.block 0 (.loop (.seq (.seq (.reg [(Jmc 6 5),(Jmc 7 0),(Jln 8 7),(Jbl 9 6 8)]) (.cond (.t 9)
 .skip (.exit 0))) (.seq (.block 1 (.seq (.reg [(Jmc 12 0),(Jmc 13 5),(Jmc 14 1),(none, .bin 15 .num .rem (.t 14) (.k (N 3))),(Jbe 16 15 0),(Jia 17 1 12 13),(Jst 1 17 16)]) (.reg [(Jmc 18 1),(Jba 19 18 1),(Jmc 1 19)]))) (.reg [(Jmc 10 5),(Jba 11 10 1),(Jmc 5 11)])))))) (.seq (.reg [(Jmc 20 1),(Jmc 4 20)])
 .ret)))
theorem c_laws_markBoolS : codeOf Tryz.prog n_laws_markBoolS m_laws_markBoolS = some (k_laws_markBoolS, [.tmp 4], 21) := by kernel_rfl
def m_laws_markTermS : List (Nat × List Md) := [(8, [.copy, .copy, .copy, .copy, .copy, .copy, .take]), (9, [.copy, .copy, .copy, .copy, .copy, .copy, .take])]
def k_laws_markTermS : C := (.seq (.reg [(none, .mv 4 .copy (.k (N 0)))]) (.seq (.seq (.reg [(none, .mv 5 .copy (.k (N 0)))]) (.block 0 (.loop (.seq (.seq (.reg [(Jmc 6 5),(Jmc 7 0),(Jln 8 7),(Jbl 9 6 8)]) (.cond (.t 9)
 .skip (.exit 0))) (.seq (.block 1 (.seq (.reg [(Jmc 12 0),(Jmc 13 5),(Jmc 14 1),(Jia 15 4 12 13),(Jfa 16 0 15),(Jst 1 16 14)]) (.seq (.reg [(Jmc 17 1),(Jba 18 17 1),(Jmc 1 18)]) (.seq (.reg [(Jmc 19 0),(Jmc 20 5),(Jmc 21 1),(Jia 22 4 19 20),(Jfa 23 1 22),(Jst 1 23 21)]) (.seq (.reg [(Jmc 24 1),(Jba 25 24 1),(Jmc 1 25)]) (.seq (.reg [(Jmc 26 0),(Jmc 27 5),(Jia 28 4 26 27),(Jfa 29 2 28),(Jlc 30 1 29),(Jmc 31 1),(none, .call .any (some 32) (.k (.fn n_laws_markIntS [])) [(.t 30), (.t 31)]),(Jmc 1 32)]) (.reg [(Jmc 33 0),(Jmc 34 5),(Jia 35 4 33 34),(Jfa 36 3 35),(Jlc 37 1 36),(Jmc 38 1),(none, .call .any (some 39) (.k (.fn n_laws_markTermS [])) [(.t 37), (.t 38)]),(Jmc 1 39)]))))))) (.reg [(Jmc 10 5),(Jba 11 10 1),(Jmc 5 11)])))))) (.seq (.reg [(Jmc 40 1),(Jmc 4 40)])
 .ret)))
theorem c_laws_markTermS : codeOf Tryz.prog n_laws_markTermS m_laws_markTermS = some (k_laws_markTermS, [.tmp 4], 41) := by kernel_rfl
def m_laws_heldIntS : List (Nat × List Md) := []
def k_laws_heldIntS : C := (.seq (.reg [(none, .mv 4 .copy (.k (N 0)))]) (.seq (.seq (.reg [(none, .mv 5 .copy (.k (N 0)))]) (.block 0 (.loop (.seq (.seq (.reg [(Jmc 6 5),(Jmc 7 0),(Jln 8 7),(Jbl 9 6 8)]) (.cond (.t 9)
 .skip (.exit 0))) (.seq (.block 1 (.seq (.seq (.reg [(Jmc 12 0),(Jmc 13 5),(Jia 14 1 12 13),(Jlc 15 1 14),(Jmc 16 1),(none, .bin 17 .num .neq (.t 15) (.t 16))]) (.cond (.t 17) (.seq (.reg [(none, .mv 4 .copy (.k (N (-1))))])
 .ret)
 .skip)) (.reg [(Jmc 18 1),(Jba 19 18 1),(Jmc 1 19)]))) (.reg [(Jmc 10 5),(Jba 11 10 1),(Jmc 5 11)])))))) (.seq (.reg [(Jmc 20 1),(Jmc 4 20)])
 .ret)))
theorem c_laws_heldIntS : codeOf Tryz.prog n_laws_heldIntS m_laws_heldIntS = some (k_laws_heldIntS, [.tmp 4], 21) := by kernel_rfl
def m_laws_heldTermS : List (Nat × List Md) := []
def k_laws_heldTermS : C := (.seq (.reg [(none, .mv 4 .copy (.k (N 0)))]) (.seq (.seq (.reg [(none, .mv 5 .copy (.k (N 0)))]) (.block 0 (.loop (.seq (.seq (.reg [(Jmc 6 5),(Jmc 7 0),(Jln 8 7),(Jbl 9 6 8)]) (.cond (.t 9)
 .skip (.exit 0))) (.seq (.block 1 (.seq (.seq (.reg [(Jmc 12 0),(Jmc 13 5),(Jia 14 4 12 13),(Jfa 15 0 14),(Jlc 16 1 15),(Jmc 17 1),(none, .bin 18 .num .neq (.t 16) (.t 17))]) (.cond (.t 18) (.seq (.reg [(none, .mv 4 .copy (.k (N (-1))))])
 .ret)
 .skip)) (.seq (.reg [(Jmc 19 1),(Jba 20 19 1),(Jmc 1 20)]) (.seq (.seq (.reg [(Jmc 21 0),(Jmc 22 5),(Jia 23 4 21 22),(Jfa 24 1 23),(Jlc 25 1 24),(Jmc 26 1),(none, .bin 27 .num .neq (.t 25) (.t 26))]) (.cond (.t 27) (.seq (.reg [(none, .mv 4 .copy (.k (N (-1))))])
 .ret)
 .skip)) (.seq (.reg [(Jmc 28 1),(Jba 29 28 1),(Jmc 1 29)]) (.seq (.reg [(Jmc 30 0),(Jmc 31 5),(Jia 32 4 30 31),(Jfa 33 2 32),(Jlc 34 1 33),(Jmc 35 1),(none, .call .no (some 36) (.k (.fn n_laws_heldIntS [])) [(.t 34), (.t 35)]),(Jmc 1 36)]) (.seq (.seq (.reg [(Jmc 37 1),(none, .bin 38 .num .lss (.t 37) (.k (N 0)))]) (.cond (.t 38) (.seq (.reg [(none, .mv 4 .copy (.k (N (-1))))])
 .ret)
 .skip)) (.seq (.reg [(Jmc 39 0),(Jmc 40 5),(Jia 41 4 39 40),(Jfa 42 3 41),(Jlc 43 1 42),(Jmc 44 1),(none, .call .no (some 45) (.k (.fn n_laws_heldTermS [])) [(.t 43), (.t 44)]),(Jmc 1 45)]) (.seq (.reg [(Jmc 46 1),(none, .bin 47 .num .lss (.t 46) (.k (N 0)))]) (.cond (.t 47) (.seq (.reg [(none, .mv 4 .copy (.k (N (-1))))])
 .ret)
 .skip)))))))))) (.reg [(Jmc 10 5),(Jba 11 10 1),(Jmc 5 11)])))))) (.seq (.reg [(Jmc 48 1),(Jmc 4 48)])
 .ret)))
theorem c_laws_heldTermS : codeOf Tryz.prog n_laws_heldTermS m_laws_heldTermS = some (k_laws_heldTermS, [.tmp 4], 49) := by kernel_rfl
def m_slices_Clone___int_int_ : List (Nat × List Md) := [(3, [.copy, .take, .copy, .take])]
def k_slices_Clone___int_int_ : C := (.seq (.reg [(none, .mv 2 .copy (.k (.sl true true 1 [])))]) (.seq (.seq (.reg [(Jmc 3 0),(none, .bin 4 .slc .eql (.t 3) (.k (.sl true true 1 [])))]) (.cond (.t 4) (.seq (.reg [(none, .mv 2 .copy (.k (.sl true true 1 [])))])
 .ret)
 .skip)) (.seq (.reg [(none, .bslice 5 1 0 [] []),(Jmt 6 0),(none, .append 7 1 (.t 5) (.t 6)),(Jmt 2 7)])
 .ret)))
theorem c_slices_Clone___int_int_ : codeOf Tryz.prog n_slices_Clone___int_int_ m_slices_Clone___int_int_ = some (k_slices_Clone___int_int_, [.tmp 2], 8) := by kernel_rfl
def m_spec_l1Copy : List (Nat × List Md) := [(1, [.copy, .take, .copy, .take])]
def k_spec_l1Copy : C := (.seq (.reg [(none, .mv 2 .copy (.k (.sl true true 1 [])))]) (.seq (.reg [(none, .bslice 3 1 0 [] []),(Jmt 4 0),(none, .append 5 1 (.t 3) (.t 4)),(Jmt 2 5)])
 .ret))
theorem c_spec_l1Copy : codeOf Tryz.prog n_spec_l1Copy m_spec_l1Copy = some (k_spec_l1Copy, [.tmp 2], 6) := by kernel_rfl
def m_slices_Equal___int_int_ : List (Nat × List Md) := []
def k_slices_Equal___int_int_ : C := (.seq (.reg [(none, .mv 4 .copy (.k (.sc (.bool false))))]) (.seq (.seq (.reg [(Jmc 6 0),(Jln 7 6),(Jmc 8 1),(Jln 9 8),(none, .bin 10 .num .neq (.t 7) (.t 9))]) (.cond (.t 10) (.seq (.reg [(none, .mv 4 .copy (.k (.sc (.bool false))))])
 .ret)
 .skip)) (.seq (.seq (.reg [(Jmc 11 0),(Jln 12 11),(none, .mv 13 .copy (.k (N 0)))]) (.block 0 (.loop (.seq (.reg [(Jbl 14 13 12)]) (.seq (.cond (.t 14)
 .skip (.exit 0)) (.seq (.block 1 (.seq (.reg [(Jmc 15 13),(Jmc 5 15)]) (.seq (.reg [(Jmc 16 0),(Jmc 17 5),(Jia 18 1 16 17),(Jlc 19 1 18),(Jmc 20 1),(Jmc 21 5),(Jia 22 1 20 21),(Jlc 23 1 22),(none, .bin 24 .num .neq (.t 19) (.t 23))]) (.cond (.t 24) (.seq (.reg [(none, .mv 4 .copy (.k (.sc (.bool false))))])
 .ret)
 .skip)))) (.reg [(Jba 25 13 1),(Jmc 13 25)]))))))) (.seq (.reg [(none, .mv 4 .copy (.k (.sc (.bool true))))])
 .ret))))
theorem c_slices_Equal___int_int_ : codeOf Tryz.prog n_slices_Equal___int_int_ m_slices_Equal___int_int_ = some (k_slices_Equal___int_int_, [.tmp 4], 26) := by kernel_rfl
def m__impl_System__has : List (Nat × List Md) := [(1, [.copy, .copy, .take]), (1000001, [.copy, .copy, .frz])]
def k__impl_System__has : C := (.seq (.reg [(none, .box 2 (.t 0)),(none, .mv 4 .copy (.k (.sc (.bool false))))]) (.seq (.seq (.frz 2) (.reg [(Jmc 5 1),(Jfa 6 0 2),(Jlt 7 1 6),(none, .bin 8 .num .sub (.t 7) (.k (N 1))),(none, .call .no (some 9) (.k (.fn n_impl_within [])) [(.t 5), (.k (N 0)), (.t 8)]),(Jmc 4 9)]))
 .ret))
theorem c__impl_System__has : codeOf Tryz.prog n__impl_System__has m__impl_System__has = some (k__impl_System__has, [.tmp 4], 10) := by kernel_rfl
def m__impl_System__below : List (Nat × List Md) := [(1, [.copy, .take, .copy, .copy, .take]), (1000001, [.copy, .copy, .copy, .frz])]
def k__impl_System__below : C := (.seq (.reg [(none, .box 3 (.t 0)),(none, .mv 6 .copy (.k (.sc (.bool false))))]) (.seq (.seq (.frz 3) (.reg [(Jfa 7 3 3),(Jlt 8 1 7),(Jmc 9 1),(Jfa 10 0 3),(Jlt 11 1 10),(none, .bin 12 .num .mul (.t 9) (.t 11)),(Jmc 13 2),(none, .bin 14 .num .add (.t 12) (.t 13)),(Jia 15 1 8 14),(Jlc 16 1 15),(Jmc 6 16)]))
 .ret))
theorem c__impl_System__below : codeOf Tryz.prog n__impl_System__below m__impl_System__below = some (k__impl_System__below, [.tmp 6], 17) := by kernel_rfl
def m_spec_l3With : List (Nat × List Md) := [(1, [.copy, .take, .copy, .take, .copy, .take])]
def k_spec_l3With : C := (.seq (.reg [(none, .mv 4 .copy (.k (.sl true true 1 [])))]) (.seq (.reg [(none, .bslice 5 1 0 [] []),(Jmt 6 1),(none, .append 7 1 (.t 5) (.t 6)),(Jmt 8 0),(none, .append 9 1 (.t 7) (.t 8)),(Jmt 4 9)])
 .ret))
theorem c_spec_l3With : codeOf Tryz.prog n_spec_l3With m_spec_l3With = some (k_spec_l3With, [.tmp 4], 10) := by kernel_rfl
def m_spec_l3Input : List (Nat × List Md) := [(1, [.take, .copy, .copy, .take, .copy, .copy, .copy, .copy, .take, .take, .take]), (1000001, [.copy, .copy, .copy, .frz, .copy, .frz])]
def k_spec_l3Input : C := (.seq (.reg [(none, .box 3 (.t 0)),(none, .box 5 (.t 2)),(none, .mv 6 .copy (.k (.sc (.bool false))))]) (.seq (.seq (.frz 3) (.seq (.frz 5) (.reg [(JlT 7 4 3),(none, .call .no (some 8) (.k (.fn n_spec_IsSystem [])) [(.t 7)]),(Jmc 9 8),(some (9, true), .load 10 .take true 4 (.t 3)),(some (9, true), .mv 11 .copy (.t 1)),(some (9, true), .call .no (some 12) (.k (.fn n_spec_l3Context [])) [(.t 10), (.t 11)]),(none, .pick 13 (.t 9) (.t 12) (.k (.sc (.bool false)))),(Jmc 14 13),(some (14, true), .load 15 .take true 4 (.t 3)),(some (14, true), .load 16 .take true 4 (.t 5)),(some (14, true), .mv 17 .take (.t 1)),(some (14, true), .len 18 (.t 17)),(some (14, true), .call .no (some 19) (.k (.fn n_spec_IsTerm [])) [(.t 15), (.t 16), (.t 18)]),(none, .pick 20 (.t 14) (.t 19) (.k (.sc (.bool false)))),(Jmc 6 20)])))
 .ret))
theorem c_spec_l3Input : codeOf Tryz.prog n_spec_l3Input m_spec_l3Input = some (k_spec_l3Input, [.tmp 6], 21) := by kernel_rfl
def m_spec_l3Tell : List (Nat × List Md) := [(1, [.copy, .take]), (3, [.copy, .copy, .take, .take]), (4, [.copy, .copy, .take]), (5, [.take, .copy, .take, .copy, .copy, .copy, .take]), (7, [.copy, .take]), (8, [.copy, .take]), (9, [.copy, .take]), (10, [.copy, .copy, .take, .copy, .copy, .take]), (11, [.take, .take, .take]), (12, [.copy, .take]), (13, [.take]), (14, [.copy, .take]), (17, [.copy, .take]), (19, [.take, .take, .take, .take]), (21, [.take, .take, .take]), (22, [.copy, .take]), (23, [.take]), (24, [.copy, .take, .copy, .take, .copy, .copy, .take, .copy, .take, .copy, .take]), (26, [.copy, .take, .copy, .take, .copy, .copy, .copy, .take]), (28, [.copy, .take, .copy, .take, .copy, .copy, .copy, .take]), (30, [.take, .copy, .take, .copy, .copy, .copy, .take]), (32, [.copy, .take, .copy, .copy, .take, .copy, .take, .copy, .copy, .copy, .take]), (34, [.copy, .take, .copy, .copy, .take, .copy, .copy, .take, .take, .copy, .copy, .copy, .take, .copy, .take]), (36, [.copy, .take]), (38, [.take, .take, .take]), (39, [.copy, .take]), (40, [.take]), (41, [.copy, .take, .copy, .take]), (43, [.copy, .take, .copy, .take, .copy, .take, .copy, .take, .copy, .copy, .copy, .copy, .take]), (44, [.take, .take, .take, .take]), (1000001, [.copy, .copy, .copy, .frz, .copy, .frz]), (1000005, [.copy, .copy, .copy, .copy, .copy, .copy, .copy, .frz]), (2000011, [.copy, .copy, .copy, .copy, .copy, .copy, .copy, .copy, .copy, .frz]), (2000021, [.copy, .copy, .copy, .copy, .copy, .copy, .copy, .copy, .copy, .copy, .frz]), (2000038, [.copy, .copy, .copy, .copy, .copy, .copy, .copy, .copy, .copy, .copy, .copy, .frz])]
def k_spec_l3Tell : C := (.seq (.reg [(none, .box 3 (.t 0)),(none, .box 5 (.t 2)),(none, .alloc 6 [(.sl true true 1 []), (.sl true true 1 []), (N 0), (.sl true true 1 [])])]) (.seq (.seq (.seq (.frz 3) (.seq (.frz 5) (.reg [(Jfa 12 0 5),(Jlt 13 1 12)]))) (.block 0 (.seq (.reg [(Jbe 15 13 0),(Jmc 14 15)]) (.cond (.t 14) (.seq (.reg [(Jmc 16 1),(Jln 17 16),(none, .call .any (some 18) (.k (.fn n_spec_l3Zero [])) [(.t 17)]),(Jmt 7 18)]) (.seq (.reg [(Jmc 19 7),(Jfa 20 1 5),(Jlt 21 1 20),(Jia 22 1 19 21),(none, .store 1 (.t 22) (.k (N 1)))]) (.seq (.seq (.frz 7) (.reg [(Jmt 23 1),(Jfa 24 1 5),(Jlt 25 1 24),(Jia 26 1 23 25),(Jlc 27 1 26),(none, .call .no (some 28) (.k (.fn n_spec_l1Copy [])) [(.t 27)]),(Jmt 29 7),(none, .build 30 [(.sl true true 1 []), (.sl true true 1 []), (N 0), (.sl true true 1 [])] [(0, 1, (.t 28)), (1, 1, (.t 29))]),(Jst 4 6 30)]))
 .ret))) (.seq (.reg [(Jbe 32 13 1),(Jmc 31 32)]) (.cond (.t 31) (.seq (.reg [(none, .bslice 33 1 1 [(N 0)] [(0, 1, (.k (N 0)))]),(Jmt 34 1),(Jln 35 34),(none, .call .no (some 36) (.k (.fn n_spec_l3Zero [])) [(.t 35)]),(none, .build 37 [(.sl true true 1 []), (.sl true true 1 []), (N 0), (.sl true true 1 [])] [(0, 1, (.t 33)), (1, 1, (.t 36))]),(Jst 4 6 37)])
 .ret)
 .skip)))))) (.seq (.reg [(Jmc 38 1),(Jmt 8 38)]) (.seq (.seq (.reg [(Jfa 39 0 5),(Jlt 40 1 39),(Jbe 41 40 9)]) (.cond (.t 41) (.reg [(Jmc 42 1),(Jfa 43 2 5),(Jlt 44 1 43),(none, .bslice 45 1 1 [(.sl true true 1 [])] [(0, 1, (.t 44))]),(none, .call .no (some 46) (.k (.fn n_spec_l3With [])) [(.t 42), (.t 45)]),(Jmt 8 46)])
 .skip)) (.seq (.seq (.reg [(JlT 47 4 3),(Jmt 48 8),(JlT 49 4 5),(none, .call .no (some 50) (.k (.fn n_spec_l3Of [])) [(.t 47), (.t 48), (.t 49), (.k (N 0))]),(none, .alloc 9 [(.sl true true 1 []), (.sl true true 1 []), (N 0), (.sl true true 1 [])]),(Jst 4 9 50)]) (.frz 9)) (.seq (.seq (.reg [(Jfa 51 2 9),(Jlt 52 1 51),(none, .bin 53 .num .neq (.t 52) (.k (N 0)))]) (.cond (.t 53) (.seq (.reg [(JlT 54 4 9),(Jst 4 6 54)])
 .ret)
 .skip)) (.seq (.seq (.reg [(Jfa 55 0 5),(Jlt 56 1 55)]) (.block 1 (.seq (.seq (.reg [(Jbe 58 56 2),(Jmc 57 58)]) (.cond (.t 57)
 .skip (.reg [(Jbe 59 56 3),(Jmc 57 59)]))) (.cond (.t 57) (.seq (.seq (.reg [(Jfa 60 0 9),(Jlt 61 1 60),(none, .indexA 62 1 (.t 61) (.k (N 0))),(Jlc 63 1 62),(none, .bin 64 .num .neq (.t 63) (.k (N 0)))]) (.cond (.t 64) (.seq (.reg [(none, .call .no (some 65) (.k (.fn n_spec_l3Bad [])) [(.k (N 2))]),(Jst 4 6 65)])
 .ret)
 .skip)) (.seq (.reg [(JlT 66 4 3),(Jmt 67 1),(JlT 68 4 5),(JlT 69 4 9),(none, .call .no (some 70) (.k (.fn n_spec_l3Numbers [])) [(.t 66), (.t 67), (.t 68), (.t 69)]),(Jst 4 6 70)])
 .ret)) (.seq (.reg [(Jbe 72 56 4),(Jmc 71 72)]) (.cond (.t 71) (.seq (.seq (.reg [(JlT 73 4 3),(Jmt 74 1),(JlT 75 4 5),(none, .call .no (some 76) (.k (.fn n_spec_l3Of [])) [(.t 73), (.t 74), (.t 75), (.k (N 1))]),(none, .alloc 10 [(.sl true true 1 []), (.sl true true 1 []), (N 0), (.sl true true 1 [])]),(Jst 4 10 76)]) (.frz 10)) (.seq (.seq (.reg [(Jfa 77 2 10),(Jlt 78 1 77),(none, .bin 79 .num .neq (.t 78) (.k (N 0)))]) (.cond (.t 79) (.seq (.reg [(JlT 80 4 10),(Jst 4 6 80)])
 .ret)
 .skip)) (.seq (.reg [(Jfa 81 0 9),(Jlt 82 1 81),(Jfa 83 0 10),(Jlt 84 1 83),(none, .bslice 85 1 2 [(.sl true true 1 []), (.sl true true 1 [])] [(0, 1, (.t 82)), (1, 1, (.t 84))]),(none, .call .no (some 86) (.k (.fn n_spec_l3Glue [])) [(.k (N 1)), (.t 85)]),(JlT 87 4 3),(Jfa 88 1 9),(Jlt 89 1 88),(Jfa 90 1 10),(Jlt 91 1 90),(none, .call .no (some 92) (.k (.fn n_spec_l3Sum [])) [(.t 87), (.t 89), (.k (N 1)), (.t 91)]),(none, .call .no (some 93) (.k (.fn n_spec_l3Done [])) [(.t 86), (.t 92)]),(Jst 4 6 93)])
 .ret))) (.seq (.reg [(Jbe 95 56 6),(Jmc 94 95)]) (.cond (.t 94) (.seq (.reg [(Jfa 96 0 9),(Jlt 97 1 96),(Jfa 98 2 5),(Jlt 99 1 98),(none, .bslice 100 1 2 [(.sl true true 1 []), (.sl true true 1 [])] [(0, 1, (.t 97)), (1, 1, (.t 99))]),(none, .call .no (some 101) (.k (.fn n_spec_l3Glue [])) [(.k (N 2)), (.t 100)]),(Jfa 102 1 9),(Jlt 103 1 102),(none, .call .no (some 104) (.k (.fn n_spec_l3Done [])) [(.t 101), (.t 103)]),(Jst 4 6 104)])
 .ret) (.seq (.reg [(Jbe 106 56 7),(Jmc 105 106)]) (.cond (.t 105) (.seq (.reg [(Jfa 107 2 5),(Jlt 108 1 107),(Jfa 109 0 9),(Jlt 110 1 109),(none, .bslice 111 1 2 [(.sl true true 1 []), (.sl true true 1 [])] [(0, 1, (.t 108)), (1, 1, (.t 110))]),(none, .call .no (some 112) (.k (.fn n_spec_l3Glue [])) [(.k (N 2)), (.t 111)]),(Jfa 113 1 9),(Jlt 114 1 113),(none, .call .no (some 115) (.k (.fn n_spec_l3Done [])) [(.t 112), (.t 114)]),(Jst 4 6 115)])
 .ret) (.seq (.reg [(Jbe 117 56 9),(Jmc 116 117)]) (.cond (.t 116) (.seq (.seq (.reg [(JlT 118 4 3),(Jfa 119 1 9),(Jlt 120 1 119),(none, .indexA 121 1 (.t 120) (.k (N 0))),(Jlc 122 1 121),(Jfa 123 1 5),(Jlt 124 1 123),(none, .call .no (some 125) (.k (.fn n_spec_l1Le [])) [(.t 118), (.t 122), (.t 124)]),(none, .un 126 .not (.t 125))]) (.cond (.t 126) (.seq (.reg [(none, .call .no (some 127) (.k (.fn n_spec_l3Bad [])) [(.k (N 9))]),(Jst 4 6 127)])
 .ret)
 .skip)) (.seq (.reg [(Jfa 128 1 5),(Jlt 129 1 128),(none, .bin 130 .num .add (.k (N 3)) (.t 129)),(Jfa 131 2 5),(Jlt 132 1 131),(Jfa 133 0 9),(Jlt 134 1 133),(none, .bslice 135 1 2 [(.sl true true 1 []), (.sl true true 1 [])] [(0, 1, (.t 132)), (1, 1, (.t 134))]),(none, .call .no (some 136) (.k (.fn n_spec_l3Glue [])) [(.t 130), (.t 135)]),(Jfa 137 1 9),(Jlt 138 1 137),(none, .slice 139 1 (.t 138) (some (.k (N 1))) none none),(none, .call .no (some 140) (.k (.fn n_spec_l1Copy [])) [(.t 139)]),(none, .call .no (some 141) (.k (.fn n_spec_l3Done [])) [(.t 136), (.t 140)]),(Jst 4 6 141)])
 .ret)) (.seq (.reg [(Jbe 143 56 11),(Jmc 142 143)]) (.cond (.t 142) (.seq (.reg [(Jfa 144 1 5),(Jlt 145 1 144),(none, .bin 146 .num .add (.k (N 19)) (.t 145)),(Jfa 147 0 9),(Jlt 148 1 147),(none, .bslice 149 1 1 [(.sl true true 1 [])] [(0, 1, (.t 148))]),(none, .call .no (some 150) (.k (.fn n_spec_l3Glue [])) [(.t 146), (.t 149)]),(JlT 151 4 3),(Jmt 152 1),(Jln 153 152),(none, .call .no (some 154) (.k (.fn n_spec_l3Zero [])) [(.t 153)]),(Jfa 155 1 5),(Jlt 156 1 155),(Jfa 157 1 9),(Jlt 158 1 157),(none, .call .no (some 159) (.k (.fn n_spec_l3Sum [])) [(.t 151), (.t 154), (.t 156), (.t 158)]),(none, .call .no (some 160) (.k (.fn n_spec_l3Done [])) [(.t 150), (.t 159)]),(Jst 4 6 160)])
 .ret) (.seq (.reg [(Jbe 162 56 10),(Jmc 161 162)]) (.cond (.t 161) (.seq (.seq (.reg [(Jfa 163 0 9),(Jlt 164 1 163),(none, .indexA 165 1 (.t 164) (.k (N 0))),(Jlc 166 1 165),(none, .call .no (some 167) (.k (.fn n_spec_l2Arrow [])) [(.t 166)]),(none, .un 168 .not (.t 167))]) (.cond (.t 168) (.seq (.reg [(none, .call .no (some 169) (.k (.fn n_spec_l3Bad [])) [(.k (N 6))]),(Jst 4 6 169)])
 .ret)
 .skip)) (.seq (.seq (.reg [(JlT 170 4 3),(Jmt 171 1),(JlT 172 4 5),(none, .call .no (some 173) (.k (.fn n_spec_l3Of [])) [(.t 170), (.t 171), (.t 172), (.k (N 1))]),(none, .alloc 11 [(.sl true true 1 []), (.sl true true 1 []), (N 0), (.sl true true 1 [])]),(Jst 4 11 173)]) (.frz 11)) (.seq (.seq (.reg [(Jfa 174 2 11),(Jlt 175 1 174),(none, .bin 176 .num .neq (.t 175) (.k (N 0)))]) (.cond (.t 176) (.seq (.reg [(JlT 177 4 11),(Jst 4 6 177)])
 .ret)
 .skip)) (.seq (.seq (.reg [(Jfa 178 0 11),(Jlt 179 1 178),(Jfa 180 0 9),(Jlt 181 1 180),(none, .call .no (some 182) (.k (.fn n_spec_l2Part [])) [(.t 181), (.k (N 0))]),(none, .call .no (some 183) (.k (.fn n_spec_l1Same [])) [(.t 179), (.t 182)]),(none, .un 184 .not (.t 183))]) (.cond (.t 184) (.seq (.reg [(none, .call .no (some 185) (.k (.fn n_spec_l3Bad [])) [(.k (N 3))]),(Jst 4 6 185)])
 .ret)
 .skip)) (.seq (.reg [(Jfa 186 0 9),(Jlt 187 1 186),(none, .call .no (some 188) (.k (.fn n_spec_l2Part [])) [(.t 187), (.k (N 1))]),(JlT 189 4 3),(Jfa 190 1 9),(Jlt 191 1 190),(Jfa 192 0 9),(Jlt 193 1 192),(none, .indexA 194 1 (.t 193) (.k (N 0))),(Jlc 195 1 194),(none, .call .no (some 196) (.k (.fn n_spec_l2Grade [])) [(.t 195)]),(Jfa 197 1 11),(Jlt 198 1 197),(none, .call .no (some 199) (.k (.fn n_spec_l3Sum [])) [(.t 189), (.t 191), (.t 196), (.t 198)]),(none, .build 200 [(.sl true true 1 []), (.sl true true 1 []), (N 0), (.sl true true 1 [])] [(0, 1, (.t 188)), (1, 1, (.t 199))]),(Jst 4 6 200)])
 .ret)))))
 .skip)))))))))))))))) (.seq (.reg [(JlT 201 4 3),(Jmt 202 1),(JlT 203 4 5),(JlT 204 4 9),(none, .call .no (some 205) (.k (.fn n_spec_l3Taken [])) [(.t 201), (.t 202), (.t 203), (.t 204)]),(Jst 4 6 205)])
 .ret))))))))
theorem c_spec_l3Tell : codeOf Tryz.prog n_spec_l3Tell m_spec_l3Tell = some (k_spec_l3Tell, [.cell 6 true 4], 206) := by kernel_rfl
def m__impl_System__plus : List (Nat × List Md) := [(1, [.copy, .take, .copy, .copy, .take]), (1000001, [.copy, .copy, .copy, .frz])]
def k__impl_System__plus : C := (.seq (.reg [(none, .box 3 (.t 0)),(none, .mv 6 .copy (.k (N 0)))]) (.seq (.seq (.frz 3) (.reg [(Jfa 7 1 3),(Jlt 8 1 7),(Jmc 9 1),(Jfa 10 0 3),(Jlt 11 1 10),(none, .bin 12 .num .mul (.t 9) (.t 11)),(Jmc 13 2),(none, .bin 14 .num .add (.t 12) (.t 13)),(Jia 15 1 8 14),(Jlc 16 1 15),(Jmc 6 16)]))
 .ret))
theorem c__impl_System__plus : codeOf Tryz.prog n__impl_System__plus m__impl_System__plus = some (k__impl_System__plus, [.tmp 6], 17) := by kernel_rfl
def m__impl_System__times : List (Nat × List Md) := [(1, [.copy, .take, .copy, .copy, .take]), (1000001, [.copy, .copy, .copy, .frz])]
def k__impl_System__times : C := (.seq (.reg [(none, .box 3 (.t 0)),(none, .mv 6 .copy (.k (N 0)))]) (.seq (.seq (.frz 3) (.reg [(Jfa 7 2 3),(Jlt 8 1 7),(Jmc 9 1),(Jfa 10 0 3),(Jlt 11 1 10),(none, .bin 12 .num .mul (.t 9) (.t 11)),(Jmc 13 2),(none, .bin 14 .num .add (.t 12) (.t 13)),(Jia 15 1 8 14),(Jlc 16 1 15),(Jmc 6 16)]))
 .ret))
theorem c__impl_System__times : codeOf Tryz.prog n__impl_System__times m__impl_System__times = some (k__impl_System__times, [.tmp 6], 17) := by kernel_rfl
def m_spec_l7Inner : List (Nat × List Md) := [(1, [.copy, .take]), (2, [.take, .take]), (3, [.copy, .take]), (4, [.take, .copy, .take, .copy, .copy, .take]), (5, [.take, .copy, .copy, .take, .copy, .copy, .copy, .copy, .take]), (6, [.copy, .take]), (7, [.take, .copy, .copy, .take, .copy, .copy, .copy, .take]), (8, [.take, .take, .copy, .copy, .copy, .copy, .copy, .take]), (1000001, [.copy, .copy, .copy, .copy, .frz, .copy, .frz])]
def k_spec_l7Inner : C := (.seq (.reg [(none, .box 4 (.t 0)),(none, .box 6 (.t 2)),(none, .mv 8 .copy (.k (.sl true true 1 [])))]) (.seq (.block 0 (.seq (.seq (.frz 4) (.seq (.frz 6) (.reg [(Jfa 11 0 6),(Jlt 12 1 11),(Jmc 13 3),(none, .call .no (some 14) (.k (.fn n_spec_l2Adds [])) [(.t 12), (.t 13)]),(Jbe 15 14 0),(Jmc 10 15)]))) (.cond (.t 10) (.seq (.reg [(Jmt 16 1),(Jmt 8 16)])
 .ret) (.seq (.reg [(Jfa 18 0 6),(Jlt 19 1 18),(Jbe 20 19 9),(Jmc 17 20)]) (.cond (.t 17) (.seq (.reg [(Jmt 21 1),(Jfa 22 2 6),(Jlt 23 1 22),(none, .bslice 24 1 1 [(.sl true true 1 [])] [(0, 1, (.t 23))]),(none, .call .no (some 25) (.k (.fn n_spec_l3With [])) [(.t 21), (.t 24)]),(Jmt 8 25)])
 .ret)
 .skip))))) (.seq (.reg [(JlT 26 4 4),(Jmc 27 1),(Jfa 28 3 6),(Jlt 29 1 28),(none, .indexA 30 4 (.t 29) (.k (N 0))),(JlC 31 4 30),(none, .call .no (some 32) (.k (.fn n_spec_l3Tell [])) [(.t 26), (.t 27), (.t 31)]),(none, .field 33 false 0 1 (.t 32)),(Jmt 9 33)]) (.seq (.seq (.reg [(Jfa 34 0 6),(Jlt 35 1 34),(Jbe 36 35 5)]) (.cond (.t 36) (.seq (.reg [(Jmt 37 1),(Jmc 38 9),(none, .call .no (some 39) (.k (.fn n_spec_l2Part [])) [(.t 38), (.k (N 1))]),(Jmt 40 9),(none, .call .no (some 41) (.k (.fn n_spec_l2Part [])) [(.t 40), (.k (N 0))]),(none, .bslice 42 1 2 [(.sl true true 1 []), (.sl true true 1 [])] [(0, 1, (.t 39)), (1, 1, (.t 41))]),(none, .call .no (some 43) (.k (.fn n_spec_l3With [])) [(.t 37), (.t 42)]),(Jmt 8 43)])
 .ret)
 .skip)) (.seq (.reg [(Jmt 44 1),(Jmt 45 9),(Jmc 46 3),(none, .bin 47 .num .sub (.t 46) (.k (N 1))),(none, .call .no (some 48) (.k (.fn n_spec_l2Part [])) [(.t 45), (.t 47)]),(none, .bslice 49 1 1 [(.sl true true 1 [])] [(0, 1, (.t 48))]),(none, .call .no (some 50) (.k (.fn n_spec_l3With [])) [(.t 44), (.t 49)]),(Jmt 8 50)])
 .ret)))))
theorem c_spec_l7Inner : codeOf Tryz.prog n_spec_l7Inner m_spec_l7Inner = some (k_spec_l7Inner, [.tmp 8], 51) := by kernel_rfl
def m_spec_l2Part : List (Nat × List Md) := [(3, [.take, .copy, .copy, .copy, .take]), (4, [.take, .copy, .copy, .copy, .take])]
def k_spec_l2Part : C := (.seq (.reg [(none, .mv 4 .copy (.k (.sl true true 1 [])))]) (.seq (.reg [(Jmc 6 0),(none, .call .no (some 7) (.k (.fn n_spec_l2End [])) [(.t 6), (.k (N 1))]),(Jmc 5 7)]) (.seq (.seq (.reg [(Jmc 8 1),(Jbe 9 8 0)]) (.cond (.t 9) (.seq (.reg [(Jmt 10 0),(Jmc 11 5),(none, .slice 12 1 (.t 10) (some (.k (N 1))) (some (.t 11)) none),(none, .call .no (some 13) (.k (.fn n_spec_l1Copy [])) [(.t 12)]),(Jmt 4 13)])
 .ret)
 .skip)) (.seq (.reg [(Jmt 14 0),(Jmc 15 5),(none, .slice 16 1 (.t 14) (some (.t 15)) none none),(none, .call .no (some 17) (.k (.fn n_spec_l1Copy [])) [(.t 16)]),(Jmt 4 17)])
 .ret))))
theorem c_spec_l2Part : codeOf Tryz.prog n_spec_l2Part m_spec_l2Part = some (k_spec_l2Part, [.tmp 4], 18) := by kernel_rfl
def m_spec_ForgetType : List (Nat × List Md) := [(3, [.copy, .take]), (8, [.take, .copy, .copy, .take]), (10, [.take, .copy, .copy, .copy, .copy, .copy, .copy, .take]), (11, [.take, .take])]
def k_spec_ForgetType : C := (.seq (.reg [(none, .mv 2 .copy (.k (.sl true true 1 [])))]) (.seq (.seq (.reg [(Jmc 5 0),(none, .call .no (some 6) (.k (.fn n_spec_l2Type [])) [(.t 5)]),(none, .un 7 .not (.t 6))]) (.cond (.t 7) (.seq (.reg [(none, .mv 2 .copy (.k (.sl true true 1 [])))])
 .ret)
 .skip)) (.seq (.reg [(none, .bslice 8 1 0 [] []),(Jmt 3 8)]) (.seq (.seq (.reg [(none, .mv 4 .copy (.k (N 0)))]) (.block 0 (.loop (.seq (.seq (.reg [(Jmc 9 4),(Jmc 10 0),(Jln 11 10),(Jbl 12 9 11)]) (.cond (.t 12)
 .skip (.exit 0))) (.seq (.block 1 (.block 2 (.seq (.reg [(Jmc 16 0),(Jmc 17 4),(Jia 18 1 16 17),(Jlc 19 1 18),(none, .call .no (some 20) (.k (.fn n_spec_l2Arrow [])) [(.t 19)]),(Jmc 15 20)]) (.cond (.t 15) (.reg [(Jmt 21 3),(none, .bslice 22 1 1 [(N 0)] [(0, 1, (.k (N 4)))]),(none, .append 23 1 (.t 21) (.t 22)),(Jmt 3 23)]) (.seq (.reg [(Jmc 25 0),(Jmc 26 4),(Jia 27 1 25 26),(Jlc 28 1 27),(none, .call .no (some 29) (.k (.fn n_spec_l2Box [])) [(.t 28)]),(none, .un 30 .not (.t 29)),(Jmc 24 30)]) (.cond (.t 24) (.reg [(Jmt 31 3),(Jmc 32 0),(Jmc 33 4),(Jia 34 1 32 33),(Jlc 35 1 34),(none, .bslice 36 1 1 [(N 0)] [(0, 1, (.t 35))]),(none, .append 37 1 (.t 31) (.t 36)),(Jmt 3 37)])
 .skip)))))) (.reg [(Jmc 13 4),(Jba 14 13 1),(Jmc 4 14)])))))) (.seq (.reg [(Jmt 38 3),(Jmt 2 38)])
 .ret)))))
theorem c_spec_ForgetType : codeOf Tryz.prog n_spec_ForgetType m_spec_ForgetType = some (k_spec_ForgetType, [.tmp 2], 39) := by kernel_rfl
def m_spec_l2Has : List (Nat × List Md) := []
def k_spec_l2Has : C := (.seq (.reg [(none, .mv 2 .copy (.k (.sc (.bool false))))]) (.seq (.reg [(Jmc 3 0),(Jbe 4 3 5),(Jmc 5 4),(some (5, false), .mv 6 .copy (.t 0)),(some (5, false), .bin 7 .num .eql (.t 6) (.k (N 8))),(none, .pick 8 (.t 5) (.k (.sc (.bool true))) (.t 7)),(Jmc 9 8),(some (9, false), .mv 10 .copy (.t 0)),(some (9, false), .bin 11 .num .eql (.t 10) (.k (N 9))),(none, .pick 12 (.t 9) (.k (.sc (.bool true))) (.t 11)),(Jmc 13 12),(some (13, false), .mv 14 .copy (.t 0)),(some (13, false), .bin 15 .num .eql (.t 14) (.k (N 11))),(none, .pick 16 (.t 13) (.k (.sc (.bool true))) (.t 15)),(Jmc 17 16),(some (17, false), .mv 18 .copy (.t 0)),(some (17, false), .bin 19 .num .eql (.t 18) (.k (N 12))),(none, .pick 20 (.t 17) (.k (.sc (.bool true))) (.t 19)),(Jmc 2 20)])
 .ret))
theorem c_spec_l2Has : codeOf Tryz.prog n_spec_l2Has m_spec_l2Has = some (k_spec_l2Has, [.tmp 2], 21) := by kernel_rfl
def m_spec_l2Typed : List (Nat × List Md) := []
def k_spec_l2Typed : C := (.seq (.reg [(none, .mv 2 .copy (.k (.sc (.bool false))))]) (.seq (.reg [(Jmc 3 0),(Jbe 4 3 6),(Jmc 5 4),(some (5, false), .mv 6 .copy (.t 0)),(some (5, false), .bin 7 .num .eql (.t 6) (.k (N 7))),(none, .pick 8 (.t 5) (.k (.sc (.bool true))) (.t 7)),(Jmc 9 8),(some (9, false), .mv 10 .copy (.t 0)),(some (9, false), .bin 11 .num .eql (.t 10) (.k (N 9))),(none, .pick 12 (.t 9) (.k (.sc (.bool true))) (.t 11)),(Jmc 2 12)])
 .ret))
theorem c_spec_l2Typed : codeOf Tryz.prog n_spec_l2Typed m_spec_l2Typed = some (k_spec_l2Typed, [.tmp 2], 13) := by kernel_rfl
def m_impl_IsSystem : List (Nat × List Md) := [(1, [.copy, .take]), (2, [.copy, .copy, .copy, .copy, .copy, .take, .copy, .copy, .copy, .copy, .copy, .copy, .copy, .copy, .take, .copy, .copy, .copy, .copy, .copy, .copy, .copy, .copy, .take]), (4, [.copy, .take]), (7, [.take, .copy, .take, .copy, .copy, .copy, .copy, .copy, .copy, .take, .copy, .take]), (13, [.take, .copy, .copy, .copy, .copy, .copy, .take, .copy, .copy, .copy, .copy, .copy, .copy, .take, .copy, .copy, .copy, .copy, .copy, .copy, .take, .copy, .copy, .copy, .copy, .copy, .take, .copy, .copy, .copy, .copy, .copy, .take]), (18, [.take, .copy, .copy, .copy, .take, .copy, .copy, .copy, .copy, .copy, .copy, .copy, .copy, .copy, .take, .copy, .copy, .copy, .copy, .copy, .take, .copy, .copy, .copy, .copy, .copy, .copy, .take]), (23, [.take]), (1000001, [.copy, .frz])]
def k_impl_IsSystem : C := (.seq (.reg [(none, .box 1 (.t 0)),(none, .mv 2 .copy (.k (.sc (.bool false))))]) (.seq (.seq (.frz 1) (.reg [(Jfa 8 0 1),(Jlt 9 1 8),(Jmc 3 9)])) (.seq (.seq (.reg [(Jmc 10 3),(none, .call .no (some 11) (.k (.fn n_impl_within [])) [(.t 10), (.k (N 2)), (.k (N 16))]),(none, .un 12 .not (.t 11)),(Jmc 13 12),(some (13, false), .fieldA 14 1 (.t 1)),(some (13, false), .load 15 .take false 1 (.t 14)),(some (13, false), .len 16 (.t 15)),(some (13, false), .mv 17 .copy (.t 3)),(some (13, false), .mv 18 .copy (.t 3)),(some (13, false), .bin 19 .num .mul (.t 17) (.t 18)),(some (13, false), .bin 20 .num .neq (.t 16) (.t 19)),(none, .pick 21 (.t 13) (.k (.sc (.bool true))) (.t 20)),(Jmc 22 21),(some (22, false), .fieldA 23 2 (.t 1)),(some (22, false), .load 24 .take false 1 (.t 23)),(some (22, false), .len 25 (.t 24)),(some (22, false), .mv 26 .copy (.t 3)),(some (22, false), .mv 27 .copy (.t 3)),(some (22, false), .bin 28 .num .mul (.t 26) (.t 27)),(some (22, false), .bin 29 .num .neq (.t 25) (.t 28)),(none, .pick 30 (.t 22) (.k (.sc (.bool true))) (.t 29)),(Jmc 31 30),(some (31, false), .fieldA 32 3 (.t 1)),(some (31, false), .load 33 .take false 1 (.t 32)),(some (31, false), .len 34 (.t 33)),(some (31, false), .mv 35 .copy (.t 3)),(some (31, false), .mv 36 .copy (.t 3)),(some (31, false), .bin 37 .num .mul (.t 35) (.t 36)),(some (31, false), .bin 38 .num .neq (.t 34) (.t 37)),(none, .pick 39 (.t 31) (.k (.sc (.bool true))) (.t 38))]) (.cond (.t 39) (.seq (.reg [(none, .mv 2 .copy (.k (.sc (.bool false))))])
 .ret)
 .skip)) (.seq (.seq (.reg [(Jfa 40 1 1),(Jlt 41 1 40),(Jln 42 41),(none, .mv 43 .copy (.k (N 0)))]) (.block 0 (.loop (.seq (.reg [(Jbl 44 43 42)]) (.seq (.cond (.t 44)
 .skip (.exit 0)) (.seq (.block 1 (.seq (.reg [(Jmc 45 43),(Jmc 4 45)]) (.seq (.reg [(JlT 46 4 1),(Jfa 47 1 1),(Jlt 48 1 47),(Jmc 49 4),(Jia 50 1 48 49),(Jlc 51 1 50),(none, .call .no (some 52) (.k (.fn n__impl_System__has [])) [(.t 46), (.t 51)]),(none, .un 53 .not (.t 52)),(Jmc 54 53),(some (54, false), .load 55 .take true 4 (.t 1)),(some (54, false), .fieldA 56 2 (.t 1)),(some (54, false), .load 57 .take false 1 (.t 56)),(some (54, false), .mv 58 .copy (.t 4)),(some (54, false), .indexA 59 1 (.t 57) (.t 58)),(some (54, false), .load 60 .copy false 1 (.t 59)),(some (54, false), .call .no (some 61) (.k (.fn n__impl_System__has [])) [(.t 55), (.t 60)]),(some (54, false), .un 62 .not (.t 61)),(none, .pick 63 (.t 54) (.k (.sc (.bool true))) (.t 62))]) (.cond (.t 63) (.seq (.reg [(none, .mv 2 .copy (.k (.sc (.bool false))))])
 .ret)
 .skip)))) (.reg [(Jba 64 43 1),(Jmc 43 64)]))))))) (.seq (.seq (.reg [(none, .mv 5 .copy (.k (N 0)))]) (.block 2 (.loop (.seq (.seq (.reg [(Jmc 65 5),(Jmc 66 3),(Jbl 67 65 66)]) (.cond (.t 67)
 .skip (.exit 2))) (.seq (.block 3 (.seq (.seq (.reg [(JlT 70 4 1),(Jmc 71 5),(none, .call .no (some 72) (.k (.fn n__impl_System__plus [])) [(.t 70), (.k (N 0)), (.t 71)]),(Jmc 73 5),(none, .bin 74 .num .neq (.t 72) (.t 73)),(Jmc 75 74),(some (75, false), .load 76 .take true 4 (.t 1)),(some (75, false), .mv 77 .copy (.t 5)),(some (75, false), .call .no (some 78) (.k (.fn n__impl_System__times [])) [(.t 76), (.k (N 1)), (.t 77)]),(some (75, false), .mv 79 .copy (.t 5)),(some (75, false), .bin 80 .num .neq (.t 78) (.t 79)),(none, .pick 81 (.t 75) (.k (.sc (.bool true))) (.t 80)),(Jmc 82 81),(some (82, false), .load 83 .take true 4 (.t 1)),(some (82, false), .mv 84 .copy (.t 5)),(some (82, false), .call .no (some 85) (.k (.fn n__impl_System__times [])) [(.t 83), (.t 84), (.k (N 1))]),(some (82, false), .mv 86 .copy (.t 5)),(some (82, false), .bin 87 .num .neq (.t 85) (.t 86)),(none, .pick 88 (.t 82) (.k (.sc (.bool true))) (.t 87)),(Jmc 89 88),(some (89, false), .load 90 .take true 4 (.t 1)),(some (89, false), .mv 91 .copy (.t 5)),(some (89, false), .call .no (some 92) (.k (.fn n__impl_System__times [])) [(.t 90), (.k (N 0)), (.t 91)]),(some (89, false), .bin 93 .num .neq (.t 92) (.k (N 0))),(none, .pick 94 (.t 89) (.k (.sc (.bool true))) (.t 93)),(Jmc 95 94),(some (95, false), .load 96 .take true 4 (.t 1)),(some (95, false), .mv 97 .copy (.t 5)),(some (95, false), .call .no (some 98) (.k (.fn n__impl_System__times [])) [(.t 96), (.t 97), (.k (N 0))]),(some (95, false), .bin 99 .num .neq (.t 98) (.k (N 0))),(none, .pick 100 (.t 95) (.k (.sc (.bool true))) (.t 99)),(Jmc 101 100),(some (101, false), .load 102 .take true 4 (.t 1)),(some (101, false), .mv 103 .copy (.t 5)),(some (101, false), .mv 104 .copy (.t 5)),(some (101, false), .call .no (some 105) (.k (.fn n__impl_System__below [])) [(.t 102), (.t 103), (.t 104)]),(some (101, false), .un 106 .not (.t 105)),(none, .pick 107 (.t 101) (.k (.sc (.bool true))) (.t 106))]) (.cond (.t 107) (.seq (.reg [(none, .mv 2 .copy (.k (.sc (.bool false))))])
 .ret)
 .skip)) (.seq (.reg [(none, .mv 6 .copy (.k (N 0)))]) (.block 4 (.loop (.seq (.seq (.reg [(Jmc 108 6),(Jmc 109 3),(Jbl 110 108 109)]) (.cond (.t 110)
 .skip (.exit 4))) (.seq (.block 5 (.seq (.seq (.reg [(JlT 113 4 1),(Jmc 114 5),(Jmc 115 6),(none, .call .no (some 116) (.k (.fn n__impl_System__plus [])) [(.t 113), (.t 114), (.t 115)]),(JlT 117 4 1),(Jmc 118 6),(Jmc 119 5),(none, .call .no (some 120) (.k (.fn n__impl_System__plus [])) [(.t 117), (.t 118), (.t 119)]),(none, .bin 121 .num .neq (.t 116) (.t 120)),(Jmc 122 121),(some (122, false), .mv 123 .copy (.t 5)),(some (122, false), .mv 124 .copy (.t 6)),(some (122, false), .bin 125 .num .neq (.t 123) (.t 124)),(some (122, false), .mv 126 .copy (.t 125)),(some (126, true), .load 127 .take true 4 (.t 1)),(some (126, true), .mv 128 .copy (.t 5)),(some (126, true), .mv 129 .copy (.t 6)),(some (126, true), .call .no (some 130) (.k (.fn n__impl_System__below [])) [(.t 127), (.t 128), (.t 129)]),(some (122, false), .pick 131 (.t 126) (.t 130) (.k (.sc (.bool false)))),(some (122, false), .mv 132 .copy (.t 131)),(some (132, true), .load 133 .take true 4 (.t 1)),(some (132, true), .mv 134 .copy (.t 6)),(some (132, true), .mv 135 .copy (.t 5)),(some (132, true), .call .no (some 136) (.k (.fn n__impl_System__below [])) [(.t 133), (.t 134), (.t 135)]),(some (122, false), .pick 137 (.t 132) (.t 136) (.k (.sc (.bool false)))),(none, .pick 138 (.t 122) (.k (.sc (.bool true))) (.t 137)),(Jmc 139 138),(some (139, false), .load 140 .take true 4 (.t 1)),(some (139, false), .mv 141 .copy (.t 5)),(some (139, false), .mv 142 .copy (.t 6)),(some (139, false), .call .no (some 143) (.k (.fn n__impl_System__join [])) [(.t 140), (.t 141), (.t 142)]),(some (139, false), .bin 144 .num .lss (.t 143) (.k (N 0))),(none, .pick 145 (.t 139) (.k (.sc (.bool true))) (.t 144))]) (.cond (.t 145) (.seq (.reg [(none, .mv 2 .copy (.k (.sc (.bool false))))])
 .ret)
 .skip)) (.seq (.reg [(none, .mv 7 .copy (.k (N 0)))]) (.block 6 (.loop (.seq (.seq (.reg [(Jmc 146 7),(Jmc 147 3),(Jbl 148 146 147)]) (.cond (.t 148)
 .skip (.exit 6))) (.seq (.block 7 (.seq (.reg [(JlT 151 4 1),(Jmc 152 5),(Jmc 153 6),(Jmc 154 7),(none, .call .no (some 155) (.k (.fn n__impl_System__lawsOf [])) [(.t 151), (.t 152), (.t 153), (.t 154)]),(none, .un 156 .not (.t 155))]) (.cond (.t 156) (.seq (.reg [(none, .mv 2 .copy (.k (.sc (.bool false))))])
 .ret)
 .skip))) (.reg [(Jmc 149 7),(Jba 150 149 1),(Jmc 7 150)])))))))) (.reg [(Jmc 111 6),(Jba 112 111 1),(Jmc 6 112)])))))))) (.reg [(Jmc 68 5),(Jba 69 68 1),(Jmc 5 69)])))))) (.seq (.reg [(none, .mv 2 .copy (.k (.sc (.bool true))))])
 .ret))))))
theorem c_impl_IsSystem : codeOf Tryz.prog n_impl_IsSystem m_impl_IsSystem = some (k_impl_IsSystem, [.tmp 2], 157) := by kernel_rfl
def m_impl_isContext : List (Nat × List Md) := [(1, [.copy, .copy, .copy, .copy, .take]), (1000001, [.copy, .copy, .frz])]
def k_impl_isContext : C := (.seq (.reg [(none, .box 2 (.t 0)),(none, .mv 4 .copy (.k (.sc (.bool false))))]) (.seq (.seq (.frz 2) (.reg [(Jmc 5 1),(Jln 6 5),(none, .bin 7 .num .leq (.t 6) (.k (N 8))),(Jmc 8 7),(some (8, true), .mv 9 .take (.t 1)),(some (8, true), .mkfn 10 n_impl_isContext_1 false [(.t 2)]),(some (8, true), .call .no (some 11) (.k (.fn n_slices_ContainsFunc_____int___int_ [])) [(.t 9), (.t 10)]),(some (8, true), .un 12 .not (.t 11)),(none, .pick 13 (.t 8) (.t 12) (.k (.sc (.bool false)))),(Jmc 4 13)]))
 .ret))
theorem c_impl_isContext : codeOf Tryz.prog n_impl_isContext m_impl_isContext = some (k_impl_isContext, [.tmp 4], 14) := by kernel_rfl
def m__impl_typer__typ : List (Nat × List Md) := [(1, [.copy, .copy, .copy, .copy, .copy, .take]), (4, [.copy, .take]), (8, [.copy, .copy, .copy, .copy, .take]), (11, [.copy, .copy, .copy, .copy, .copy, .copy, .copy, .copy, .copy, .take]), (12, [.take, .copy, .take, .copy, .take]), (13, [.take, .copy, .copy, .copy, .copy, .copy, .copy, .take]), (15, [.copy, .copy, .copy, .copy, .copy, .copy, .copy, .copy, .copy, .copy, .copy, .copy, .copy, .take]), (16, [.take, .take]), (18, [.copy, .copy, .copy, .take]), (19, [.copy, .take]), (20, [.copy, .copy, .take]), (21, [.copy, .copy, .copy, .copy, .frz]), (22, [.take, .copy, .copy, .copy, .copy, .copy, .copy, .copy, .copy, .copy, .take, .copy, .copy, .copy, .copy, .copy, .copy, .copy, .copy, .copy, .take, .take]), (24, [.copy, .take, .copy, .take, .take, .take, .take, .take]), (26, [.take, .copy, .copy, .copy, .copy, .copy, .take]), (27, [.take, .take]), (1000001, [.copy, .copy, .copy, .frz, .copy, .frz])]
def k__impl_typer__typ : C := (.seq (.reg [(none, .box 3 (.t 0)),(none, .box 5 (.t 2)),(none, .mv 6 .copy (.k (.sc (.pointer none))))]) (.seq (.seq (.frz 3) (.seq (.frz 5) (.reg [(Jmc 16 1),(Jln 17 16),(none, .mkslice 18 1 [(N 0)] (.t 17)),(none, .build 19 [(.sl true true 1 []), (.sl true true 1 []), (.sl true true 1 []), (N 0), (.sl true true 1 [])] [(1, 1, (.t 18))]),(none, .box 20 (.t 19)),(Jmt 7 20)]))) (.seq (.reg [(none, .mv 8 .copy (.k (.sl true true 1 [])))]) (.seq (.reg [(none, .mv 9 .copy (.k (.sl true true 1 [])))]) (.seq (.seq (.reg [(Jfa 21 3 5),(Jlt 22 1 21),(Jln 23 22),(none, .mv 24 .copy (.k (N 0)))]) (.block 0 (.loop (.seq (.reg [(Jbl 25 24 23)]) (.seq (.cond (.t 25)
 .skip (.exit 0)) (.seq (.block 1 (.seq (.reg [(Jmc 26 24),(Jia 27 4 22 24),(JlC 28 4 27),(none, .alloc 11 [(N 0), (N 0), (.sl true true 1 []), (.sl true true 1 [])]),(Jmc 10 26),(Jst 4 11 28)]) (.seq (.reg [(none, .mv 12 .copy (.k (.sl true true 1 [])))]) (.seq (.seq (.reg [(Jmc 29 10),(none, .bin 30 .num .gtr (.t 29) (.k (N 0))),(Jmc 31 30),(some (31, false), .fieldA 32 0 (.t 5)),(some (31, false), .load 33 .take false 1 (.t 32)),(some (31, false), .bin 34 .num .eql (.t 33) (.k (N 9))),(none, .pick 35 (.t 31) (.k (.sc (.bool true))) (.t 34))]) (.cond (.t 35) (.seq (.reg [(none, .mv 13 .copy (.k (.sl true true 1 [])))]) (.seq (.seq (.reg [(Jmc 36 10),(none, .bin 37 .num .gtr (.t 36) (.k (N 0)))]) (.cond (.t 37) (.reg [(Jmc 38 7),(none, .nilchk 39 (.t 38)),(Jfa 40 2 39),(Jlc 41 1 40),(none, .indexA 42 1 (.t 41) (.k (N 0))),(Jlc 43 1 42),(none, .nilchk 44 (.t 43)),(Jfa 45 0 44),(Jlc 46 1 45),(Jmt 13 46)])
 .skip)) (.reg [(JlT 47 4 5),(Jmc 48 10),(Jmt 49 13),(none, .call .no (some 50) (.k (.fn n_impl_added [])) [(.t 47), (.t 48), (.t 49)]),(Jmt 12 50)])))
 .skip)) (.seq (.reg [(JlT 51 4 3),(Jmc 52 12),(Jmc 53 1),(none, .bslice 54 1 2 [(.sl true true 1 []), (.sl true true 1 [])] [(0, 1, (.t 52)), (1, 1, (.t 53))]),(none, .call .no (some 55) (.k (.fn n_slices_Concat_____int___int_ [])) [(.t 54)]),(JlC 56 4 11),(none, .call .no (some 57) (.k (.fn n__impl_typer__typ [])) [(.t 51), (.t 55), (.t 56)]),(Jmt 14 57)]) (.seq (.seq (.reg [(Jmc 58 14),(none, .nilchk 59 (.t 58)),(Jfa 60 3 59),(Jlc 61 1 60),(none, .bin 62 .num .neq (.t 61) (.k (N 0)))]) (.cond (.t 62) (.seq (.reg [(Jmc 63 14),(none, .nilchk 64 (.t 63)),(Jfa 65 3 64),(Jlc 66 1 65),(Jmc 67 10),(none, .bslice 68 1 1 [(N 0)] [(0, 1, (.t 67))]),(Jmc 69 14),(none, .nilchk 70 (.t 69)),(Jfa 71 4 70),(Jlc 72 1 71),(none, .append 73 1 (.t 68) (.t 72)),(none, .build 74 [(.sl true true 1 []), (.sl true true 1 []), (.sl true true 1 []), (N 0), (.sl true true 1 [])] [(3, 1, (.t 66)), (4, 1, (.t 73))]),(none, .box 75 (.t 74)),(Jmt 6 75)])
 .ret)
 .skip)) (.seq (.seq (.reg [(JlT 76 4 3),(JlT 77 4 5),(Jmc 78 10),(Jmc 79 14),(none, .nilchk 80 (.t 79)),(Jfa 81 0 80),(Jlc 82 1 81),(none, .call .no (some 83) (.k (.fn n__impl_typer__firstOk [])) [(.t 76), (.t 77), (.t 78), (.t 82)]),(Jmc 15 83)]) (.seq (.reg [(Jmc 84 15),(none, .bin 85 .num .neq (.t 84) (.k (N 0)))]) (.cond (.t 85) (.seq (.reg [(Jmc 86 15),(none, .build 87 [(.sl true true 1 []), (.sl true true 1 []), (.sl true true 1 []), (N 0), (.sl true true 1 [])] [(3, 1, (.t 86))]),(none, .box 88 (.t 87)),(Jmt 6 88)])
 .ret)
 .skip))) (.seq (.seq (.reg [(Jfa 89 0 5),(Jlt 90 1 89),(Jbe 91 90 10),(Jmc 92 91),(some (92, true), .mv 93 .copy (.t 10)),(some (92, true), .bin 94 .num .eql (.t 93) (.k (N 1))),(none, .pick 95 (.t 92) (.t 94) (.k (.sc (.bool false)))),(Jmc 96 95),(some (96, true), .mv 97 .copy (.t 14)),(some (96, true), .nilchk 98 (.t 97)),(some (96, true), .fieldA 99 0 (.t 98)),(some (96, true), .load 100 .copy false 1 (.t 99)),(some (96, true), .mv 101 .copy (.t 7)),(some (96, true), .nilchk 102 (.t 101)),(some (96, true), .fieldA 103 2 (.t 102)),(some (96, true), .load 104 .copy false 1 (.t 103)),(some (96, true), .indexA 105 1 (.t 104) (.k (N 0))),(some (96, true), .load 106 .copy false 1 (.t 105)),(some (96, true), .nilchk 107 (.t 106)),(some (96, true), .fieldA 108 0 (.t 107)),(some (96, true), .load 109 .copy false 1 (.t 108)),(some (96, true), .call .no (some 110) (.k (.fn n_impl_parts [])) [(.t 109)]),(some (96, true), .indexA 111 1 (.t 110) (.k (N 0))),(some (96, true), .load 112 .copy false 1 (.t 111)),(some (96, true), .call .no (some 113) (.k (.fn n_slices_Equal___int_int_ [])) [(.t 100), (.t 112)]),(some (96, true), .un 114 .not (.t 113)),(none, .pick 115 (.t 96) (.t 114) (.k (.sc (.bool false))))]) (.cond (.t 115) (.seq (.reg [(none, .build 116 [(.sl true true 1 []), (.sl true true 1 []), (.sl true true 1 []), (N 0), (.sl true true 1 [])] [(3, 1, (.k (N 3)))]),(none, .box 117 (.t 116)),(Jmt 6 117)])
 .ret)
 .skip)) (.seq (.reg [(Jmc 118 7),(Jmc 119 7),(none, .nilchk 120 (.t 119)),(Jfa 121 2 120),(none, .load 122 .frz false 1 (.t 121)),(Jmc 123 14),(none, .bslice 124 1 1 [(.sc (.pointer none))] [(0, 1, (.t 123))]),(none, .append 125 1 (.t 122) (.t 124)),(none, .nilchk 126 (.t 118)),(Jfa 127 2 126),(Jst 1 127 125)]) (.reg [(Jmt 128 9),(Jmc 129 14),(none, .nilchk 130 (.t 129)),(Jfa 131 1 130),(Jlc 132 1 131),(Jmc 133 12),(Jln 134 133),(none, .slice 135 1 (.t 132) none (some (.t 134)) none),(none, .bslice 136 1 1 [(.sl true true 1 [])] [(0, 1, (.t 135))]),(none, .append 137 1 (.t 128) (.t 136)),(Jmt 138 8),(Jmc 139 14),(none, .nilchk 140 (.t 139)),(Jfa 141 1 140),(Jlc 142 1 141),(Jmc 143 12),(Jln 144 143),(none, .slice 145 1 (.t 142) (some (.t 144)) none none),(none, .bslice 146 1 1 [(.sl true true 1 [])] [(0, 1, (.t 145))]),(none, .append 147 1 (.t 138) (.t 146)),(Jmt 9 137),(Jmt 8 147)])))))))))) (.reg [(Jba 148 24 1),(Jmc 24 148)]))))))) (.seq (.reg [(Jmc 149 7),(JlT 150 4 3),(Jmc 151 7),(Jmt 152 1),(JlT 153 4 5),(Jmt 154 8),(Jmt 155 9),(none, .call .any (some 156) (.k (.fn n__impl_typer__finish [])) [(.t 150), (.t 151), (.t 152), (.t 153), (.t 154), (.t 155)]),(none, .nilchk 157 (.t 149)),(Jfa 158 3 157),(Jst 1 158 156)]) (.seq (.seq (.reg [(Jmc 159 7),(none, .nilchk 160 (.t 159)),(Jfa 161 3 160),(Jlc 162 1 161),(none, .bin 163 .num .neq (.t 162) (.k (N 0)))]) (.cond (.t 163) (.seq (.reg [(Jmt 164 7),(none, .nilchk 165 (.t 164)),(Jfa 166 3 165),(Jlc 167 1 166),(none, .build 168 [(.sl true true 1 []), (.sl true true 1 []), (.sl true true 1 []), (N 0), (.sl true true 1 [])] [(3, 1, (.t 167))]),(none, .box 169 (.t 168)),(Jmt 6 169)])
 .ret)
 .skip)) (.seq (.reg [(Jmt 170 7),(Jmt 6 170)])
 .ret))))))))
theorem c__impl_typer__typ : codeOf Tryz.prog n__impl_typer__typ m__impl_typer__typ = some (k__impl_typer__typ, [.tmp 6], 171) := by kernel_rfl
def m_impl_formOf : List (Nat × List Md) := []
def k_impl_formOf : C := (.seq (.reg [(none, .alloc 2 [(.sc (.string ⟨#[]⟩)), (N 0), (.sc (.bool false)), (.sc (.bool false))]),(none, .mv 3 .copy (.k (.sc (.bool false))))]) (.seq (.seq (.reg [(Jmc 4 0),(none, .call .no (some 5) (.k (.fn n_impl_within [])) [(.t 4), (.k (N 0)), (.k (N 12))]),(none, .un 6 .not (.t 5))]) (.cond (.t 6) (.seq (.reg [(none, .build 7 [(.sc (.string ⟨#[]⟩)), (N 0), (.sc (.bool false)), (.sc (.bool false))] []),(Jst 4 2 7),(none, .mv 3 .copy (.k (.sc (.bool false))))])
 .ret)
 .skip)) (.seq (.reg [(none, .build 8 [(.sc (.string ⟨#[]⟩)), (N 0), (.sc (.bool false)), (.sc (.bool false))] [(0, 1, (.k (.sc (.string ⟨#[120]⟩)))), (1, 1, (.k (N 0))), (2, 1, (.k (.sc (.bool false)))), (3, 1, (.k (.sc (.bool false))))]),(none, .build 9 [(.sc (.string ⟨#[]⟩)), (N 0), (.sc (.bool false)), (.sc (.bool false))] [(0, 1, (.k (.sc (.string ⟨#[]⟩)))), (1, 1, (.k (N 0))), (2, 1, (.k (.sc (.bool false)))), (3, 1, (.k (.sc (.bool false))))]),(none, .build 10 [(.sc (.string ⟨#[]⟩)), (N 0), (.sc (.bool false)), (.sc (.bool false))] [(0, 1, (.k (.sc (.string ⟨#[97, 100, 100]⟩)))), (1, 1, (.k (N 2))), (2, 1, (.k (.sc (.bool false)))), (3, 1, (.k (.sc (.bool false))))]),(none, .build 11 [(.sc (.string ⟨#[]⟩)), (N 0), (.sc (.bool false)), (.sc (.bool false))] [(0, 1, (.k (.sc (.string ⟨#[105, 102]⟩)))), (1, 1, (.k (N 3))), (2, 1, (.k (.sc (.bool false)))), (3, 1, (.k (.sc (.bool false))))]),(none, .build 12 [(.sc (.string ⟨#[]⟩)), (N 0), (.sc (.bool false)), (.sc (.bool false))] [(0, 1, (.k (.sc (.string ⟨#[112, 97, 105, 114]⟩)))), (1, 1, (.k (N 2))), (2, 1, (.k (.sc (.bool false)))), (3, 1, (.k (.sc (.bool false))))]),(none, .build 13 [(.sc (.string ⟨#[]⟩)), (N 0), (.sc (.bool false)), (.sc (.bool false))] [(0, 1, (.k (.sc (.string ⟨#[115, 112, 108, 105, 116]⟩)))), (1, 1, (.k (N 2))), (2, 1, (.k (.sc (.bool true)))), (3, 1, (.k (.sc (.bool false))))]),(none, .build 14 [(.sc (.string ⟨#[]⟩)), (N 0), (.sc (.bool false)), (.sc (.bool false))] [(0, 1, (.k (.sc (.string ⟨#[108, 101, 102, 116]⟩)))), (1, 1, (.k (N 1))), (2, 1, (.k (.sc (.bool false)))), (3, 1, (.k (.sc (.bool true))))]),(none, .build 15 [(.sc (.string ⟨#[]⟩)), (N 0), (.sc (.bool false)), (.sc (.bool false))] [(0, 1, (.k (.sc (.string ⟨#[114, 105, 103, 104, 116]⟩)))), (1, 1, (.k (N 1))), (2, 1, (.k (.sc (.bool false)))), (3, 1, (.k (.sc (.bool true))))]),(none, .build 16 [(.sc (.string ⟨#[]⟩)), (N 0), (.sc (.bool false)), (.sc (.bool false))] [(0, 1, (.k (.sc (.string ⟨#[99, 97, 115, 101]⟩)))), (1, 1, (.k (N 3))), (2, 1, (.k (.sc (.bool true)))), (3, 1, (.k (.sc (.bool false))))]),(none, .build 17 [(.sc (.string ⟨#[]⟩)), (N 0), (.sc (.bool false)), (.sc (.bool false))] [(0, 1, (.k (.sc (.string ⟨#[102, 117, 110]⟩)))), (1, 1, (.k (N 1))), (2, 1, (.k (.sc (.bool true)))), (3, 1, (.k (.sc (.bool true))))]),(none, .build 18 [(.sc (.string ⟨#[]⟩)), (N 0), (.sc (.bool false)), (.sc (.bool false))] [(0, 1, (.k (.sc (.string ⟨#[97, 112, 112]⟩)))), (1, 1, (.k (N 2))), (2, 1, (.k (.sc (.bool false)))), (3, 1, (.k (.sc (.bool false))))]),(none, .build 19 [(.sc (.string ⟨#[]⟩)), (N 0), (.sc (.bool false)), (.sc (.bool false))] [(0, 1, (.k (.sc (.string ⟨#[98, 111, 120]⟩)))), (1, 1, (.k (N 1))), (2, 1, (.k (.sc (.bool true)))), (3, 1, (.k (.sc (.bool false))))]),(none, .build 20 [(.sc (.string ⟨#[]⟩)), (N 0), (.sc (.bool false)), (.sc (.bool false))] [(0, 1, (.k (.sc (.string ⟨#[111, 112, 101, 110]⟩)))), (1, 1, (.k (N 2))), (2, 1, (.k (.sc (.bool true)))), (3, 1, (.k (.sc (.bool false))))]),(none, .bslice 21 4 13 [(.sc (.string ⟨#[]⟩)), (N 0), (.sc (.bool false)), (.sc (.bool false)), (.sc (.string ⟨#[]⟩)), (N 0), (.sc (.bool false)), (.sc (.bool false)), (.sc (.string ⟨#[]⟩)), (N 0), (.sc (.bool false)), (.sc (.bool false)), (.sc (.string ⟨#[]⟩)), (N 0), (.sc (.bool false)), (.sc (.bool false)), (.sc (.string ⟨#[]⟩)), (N 0), (.sc (.bool false)), (.sc (.bool false)), (.sc (.string ⟨#[]⟩)), (N 0), (.sc (.bool false)), (.sc (.bool false)), (.sc (.string ⟨#[]⟩)), (N 0), (.sc (.bool false)), (.sc (.bool false)), (.sc (.string ⟨#[]⟩)), (N 0), (.sc (.bool false)), (.sc (.bool false)), (.sc (.string ⟨#[]⟩)), (N 0), (.sc (.bool false)), (.sc (.bool false)), (.sc (.string ⟨#[]⟩)), (N 0), (.sc (.bool false)), (.sc (.bool false)), (.sc (.string ⟨#[]⟩)), (N 0), (.sc (.bool false)), (.sc (.bool false)), (.sc (.string ⟨#[]⟩)), (N 0), (.sc (.bool false)), (.sc (.bool false)), (.sc (.string ⟨#[]⟩)), (N 0), (.sc (.bool false)), (.sc (.bool false))] [(0, 4, (.t 8)), (4, 4, (.t 9)), (8, 4, (.t 10)), (12, 4, (.t 11)), (16, 4, (.t 12)), (20, 4, (.t 13)), (24, 4, (.t 14)), (28, 4, (.t 15)), (32, 4, (.t 16)), (36, 4, (.t 17)), (40, 4, (.t 18)), (44, 4, (.t 19)), (48, 4, (.t 20))]),(Jmc 22 0),(Jia 23 4 21 22),(JlC 24 4 23),(Jst 4 2 24),(none, .mv 3 .copy (.k (.sc (.bool true))))])
 .ret)))
theorem c_impl_formOf : codeOf Tryz.prog n_impl_formOf m_impl_formOf = some (k_impl_formOf, [.cell 2 true 4, .tmp 3], 25) := by kernel_rfl
def m_impl_ForgetType : List (Nat × List Md) := [(4, [.take]), (7, [.copy, .copy, .take]), (9, [.take, .copy, .copy, .copy, .take]), (12, [.take, .copy, .copy, .take]), (14, [.take, .take])]
def k_impl_ForgetType : C := (.seq (.reg [(none, .mv 2 .copy (.k (.sl true true 1 [])))]) (.seq (.seq (.reg [(Jmc 8 0),(none, .call .no (some 9) (.k (.fn n_impl_isWrittenType [])) [(.t 8)]),(none, .un 10 .not (.t 9))]) (.cond (.t 10) (.seq (.reg [(none, .mv 2 .copy (.k (.sl true true 1 [])))])
 .ret)
 .skip)) (.seq (.reg [(none, .mv 3 .copy (.k (.sl true true 1 [])))]) (.seq (.seq (.reg [(Jmt 11 0),(Jln 12 11),(none, .mv 13 .copy (.k (N 0)))]) (.block 0 (.loop (.seq (.reg [(Jbl 14 13 12)]) (.seq (.cond (.t 14)
 .skip (.exit 0)) (.seq (.block 1 (.seq (.reg [(Jia 15 1 11 13),(Jlc 16 1 15),(Jmc 5 16)]) (.seq (.reg [(Jmc 18 5),(none, .call .no (some 19) (.k (.fn n_impl_shape [])) [(.t 18)]),(Jmt 17 19),(none, .extract 20 0 (.t 17)),(none, .extract 21 1 (.t 17)),(Jmc 6 20),(Jmc 7 21)]) (.seq (.reg [(Jmc 22 6)]) (.block 2 (.seq (.reg [(Jbe 28 22 4),(Jmc 27 28)]) (.cond (.t 27)
 .skip (.seq (.reg [(Jbe 30 22 3),(Jmc 29 30)]) (.cond (.t 29) (.reg [(Jmt 31 3),(none, .bslice 32 1 1 [(N 0)] [(0, 1, (.k (N 4)))]),(none, .append 33 1 (.t 31) (.t 32)),(Jmt 3 33)]) (.reg [(Jmt 23 3),(Jmc 24 5),(none, .bslice 25 1 1 [(N 0)] [(0, 1, (.t 24))]),(none, .append 26 1 (.t 23) (.t 25)),(Jmt 3 26)])))))))))) (.reg [(Jba 34 13 1),(Jmc 13 34)]))))))) (.seq (.reg [(Jmt 35 3),(Jmt 2 35)])
 .ret)))))
theorem c_impl_ForgetType : codeOf Tryz.prog n_impl_ForgetType m_impl_ForgetType = some (k_impl_ForgetType, [.tmp 2], 36) := by kernel_rfl
def m_impl_parts : List (Nat × List Md) := [(5, [.take, .copy, .copy, .copy, .copy, .copy, .copy, .copy, .take]), (7, [.take, .take])]
def k_impl_parts : C := (.seq (.reg [(none, .mv 2 .copy (.k (.sl true true 1 [])))]) (.seq (.reg [(none, .mv 3 .copy (.k (.sl true true 1 [])))]) (.seq (.seq (.reg [(none, .mv 4 .copy (.k (N 1)))]) (.block 0 (.loop (.seq (.seq (.reg [(Jmc 6 4),(Jmc 7 0),(Jln 8 7),(Jbl 9 6 8)]) (.cond (.t 9)
 .skip (.exit 0))) (.block 1 (.seq (.reg [(Jmc 10 0),(Jmc 11 4),(none, .call .no (some 12) (.k (.fn n_impl_typeEnd [])) [(.t 10), (.t 11)]),(Jmc 5 12)]) (.seq (.reg [(Jmt 13 3),(Jmc 14 0),(Jmc 15 4),(Jmc 16 5),(Jmc 17 5),(none, .slice 18 1 (.t 14) (some (.t 15)) (some (.t 16)) (some (.t 17))),(none, .bslice 19 1 1 [(.sl true true 1 [])] [(0, 1, (.t 18))]),(none, .append 20 1 (.t 13) (.t 19)),(Jmt 3 20)]) (.reg [(Jmc 21 5),(Jmc 4 21)])))))))) (.seq (.reg [(Jmt 22 3),(Jmt 2 22)])
 .ret))))
theorem c_impl_parts : codeOf Tryz.prog n_impl_parts m_impl_parts = some (k_impl_parts, [.tmp 2], 23) := by kernel_rfl
def m_impl_within : List (Nat × List Md) := []
def k_impl_within : C := (.seq (.reg [(none, .mv 6 .copy (.k (.sc (.bool false))))]) (.seq (.reg [(Jmc 7 0),(Jmc 8 1),(none, .bin 9 .num .geq (.t 7) (.t 8)),(Jmc 10 9),(some (10, true), .mv 11 .copy (.t 0)),(some (10, true), .mv 12 .copy (.t 2)),(some (10, true), .bin 13 .num .leq (.t 11) (.t 12)),(none, .pick 14 (.t 10) (.t 13) (.k (.sc (.bool false)))),(Jmc 6 14)])
 .ret))
theorem c_impl_within : codeOf Tryz.prog n_impl_within m_impl_within = some (k_impl_within, [.tmp 6], 15) := by kernel_rfl
def m_impl_check : List (Nat × List Md) := [(2, [.copy, .take, .copy, .take]), (3, [.copy, .copy, .copy, .copy, .copy, .copy, .copy, .copy, .take]), (5, [.copy, .take]), (6, [.copy, .take]), (7, [.copy, .take]), (8, [.copy, .take]), (9, [.copy, .take]), (11, [.copy, .copy, .take]), (13, [.copy, .copy, .copy, .copy, .take]), (14, [.copy, .copy, .copy, .take]), (17, [.copy, .take]), (20, [.copy, .copy, .copy, .take]), (1000001, [.copy, .copy, .copy, .copy, .copy, .frz])]
def k_impl_check : C := (.seq (.reg [(none, .box 5 (.t 0)),(none, .mv 10 .copy (.k (N 0)))]) (.seq (.seq (.frz 5) (.reg [(Jmc 15 4),(Jba 16 15 1),(Jmc 4 16)])) (.seq (.reg [(Jfa 18 0 5),(Jlt 19 1 18),(none, .call .no (some 20) (.k (.fn n_impl_formOf [])) [(.t 19)]),(Jmt 17 20),(none, .extract 21 0 (.t 17)),(none, .extract 22 1 (.t 17)),(none, .alloc 11 [(.sc (.string ⟨#[]⟩)), (N 0), (.sc (.bool false)), (.sc (.bool false))]),(Jst 4 11 21),(Jmc 12 22)]) (.seq (.seq (.reg [(Jmc 23 12),(none, .un 24 .not (.t 23)),(Jmc 25 24),(some (25, false), .mv 26 .copy (.t 4)),(some (25, false), .bin 27 .num .gtr (.t 26) (.k (N 400))),(none, .pick 28 (.t 25) (.k (.sc (.bool true))) (.t 27)),(Jmc 29 28),(some (29, false), .fieldA 30 3 (.t 5)),(some (29, false), .load 31 .take false 1 (.t 30)),(some (29, false), .len 32 (.t 31)),(some (29, false), .fieldA 33 1 (.t 11)),(some (29, false), .load 34 .copy false 1 (.t 33)),(some (29, false), .bin 35 .num .neq (.t 32) (.t 34)),(none, .pick 36 (.t 29) (.k (.sc (.bool true))) (.t 35))]) (.cond (.t 36) (.seq (.reg [(none, .mv 10 .copy (.k (N 401)))])
 .ret)
 .skip)) (.seq (.block 0 (.seq (.reg [(Jfa 41 0 5),(Jlt 42 1 41),(Jbe 43 42 0),(Jmc 40 43)]) (.cond (.t 40) (.reg [(Jfa 44 1 5),(Jlt 45 1 44),(Jmc 46 1),(none, .bin 47 .num .sub (.t 46) (.k (N 1))),(none, .call .no (some 48) (.k (.fn n_impl_within [])) [(.t 45), (.k (N 0)), (.t 47)]),(Jmc 12 48)]) (.seq (.reg [(Jfa 50 0 5),(Jlt 51 1 50),(Jbe 52 51 1),(Jmc 49 52)]) (.cond (.t 49) (.reg [(Jfa 53 1 5),(Jlt 54 1 53),(none, .call .no (some 55) (.k (.fn n_impl_within [])) [(.t 54), (.k (N 0)), (.k (N 2))]),(Jmc 12 55)]) (.seq (.reg [(Jfa 57 2 11),(Jlc 58 1 57),(Jmc 56 58)]) (.cond (.t 56) (.reg [(Jmc 59 2),(Jfa 60 1 5),(Jlt 61 1 60),(none, .call .no (some 62) (.t 59) [(.t 61)]),(Jmc 12 62)]) (.reg [(Jfa 37 1 5),(Jlt 38 1 37),(Jbe 39 38 0),(Jmc 12 39)])))))))) (.seq (.seq (.reg [(Jfa 63 3 11),(Jlc 64 1 63)]) (.cond (.t 64) (.reg [(Jmc 65 12),(Jmc 66 65),(some (66, true), .mv 67 .copy (.t 3)),(some (66, true), .fieldA 68 2 (.t 5)),(some (66, true), .load 69 .take false 1 (.t 68)),(some (66, true), .call .no (some 70) (.t 67) [(.t 69)]),(none, .pick 71 (.t 66) (.t 70) (.k (.sc (.bool false)))),(Jmc 12 71)]) (.reg [(Jmc 72 12),(Jmc 73 72),(some (73, true), .fieldA 74 2 (.t 5)),(some (73, true), .load 75 .take false 1 (.t 74)),(some (73, true), .len 76 (.t 75)),(some (73, true), .bin 77 .num .eql (.t 76) (.k (N 0))),(none, .pick 78 (.t 73) (.t 77) (.k (.sc (.bool false)))),(Jmc 12 78)]))) (.seq (.seq (.reg [(Jmc 79 12),(none, .un 80 .not (.t 79))]) (.cond (.t 80) (.seq (.reg [(none, .mv 10 .copy (.k (N 401)))])
 .ret)
 .skip)) (.seq (.seq (.reg [(Jfa 81 3 5),(Jlt 82 1 81),(Jln 83 82),(none, .mv 84 .copy (.k (N 0)))]) (.block 1 (.loop (.seq (.reg [(Jbl 85 84 83)]) (.seq (.cond (.t 85)
 .skip (.exit 1)) (.seq (.block 2 (.seq (.reg [(Jmc 86 84),(Jia 87 4 82 84),(JlC 88 4 87),(none, .alloc 14 [(N 0), (N 0), (.sl true true 1 []), (.sl true true 1 [])]),(Jmc 13 86),(Jst 4 14 88)]) (.seq (.reg [(JlC 89 4 14),(Jmc 90 1),(Jfa 91 0 5),(Jlt 92 1 91),(Jmc 93 13),(none, .call .no (some 94) (.k (.fn n_impl_adds [])) [(.t 92), (.t 93)]),(none, .bin 95 .num .add (.t 90) (.t 94)),(Jmc 96 2),(Jmc 97 3),(Jmc 98 4),(none, .call .no (some 99) (.k (.fn n_impl_check [])) [(.t 89), (.t 95), (.t 96), (.t 97), (.t 98)]),(Jmc 4 99)]) (.seq (.reg [(Jmc 100 4),(none, .bin 101 .num .gtr (.t 100) (.k (N 400)))]) (.cond (.t 101) (.seq (.reg [(none, .mv 10 .copy (.k (N 401)))])
 .ret)
 .skip))))) (.reg [(Jba 102 84 1),(Jmc 84 102)]))))))) (.seq (.reg [(Jmc 103 4),(Jmc 10 103)])
 .ret)))))))))
theorem c_impl_check : codeOf Tryz.prog n_impl_check m_impl_check = some (k_impl_check, [.tmp 10], 104) := by kernel_rfl
def m_impl_isTermOf_1 : List (Nat × List Md) := [(1, [.copy, .take])]
def k_impl_isTermOf_1 : C := (.seq (.reg [(none, .mv 3 .copy (.k (.sc (.bool false))))]) (.seq (.reg [(JlC 4 4 1),(Jmt 5 0),(none, .call .no (some 6) (.k (.fn n_impl_isTypeOf [])) [(.t 4), (.t 5)]),(Jmc 3 6)])
 .ret))
theorem c_impl_isTermOf_1 : codeOf Tryz.prog n_impl_isTermOf_1 m_impl_isTermOf_1 = some (k_impl_isTermOf_1, [.tmp 3], 7) := by kernel_rfl
def m_impl_isTypeOf : List (Nat × List Md) := [(3, [.take]), (6, [.copy, .copy, .take]), (7, [.copy, .copy, .copy, .copy, .copy, .copy, .copy, .take]), (1000001, [.copy, .copy, .frz])]
def k_impl_isTypeOf : C := (.seq (.reg [(none, .box 2 (.t 0)),(none, .mv 4 .copy (.k (.sc (.bool false))))]) (.seq (.seq (.seq (.frz 2) (.reg [(Jmc 9 1),(none, .call .no (some 10) (.k (.fn n_impl_isWrittenType [])) [(.t 9)]),(none, .un 11 .not (.t 10))])) (.cond (.t 11) (.seq (.reg [(none, .mv 4 .copy (.k (.sc (.bool false))))])
 .ret)
 .skip)) (.seq (.seq (.reg [(Jmt 12 1),(Jln 13 12),(none, .mv 14 .copy (.k (N 0)))]) (.block 0 (.loop (.seq (.reg [(Jbl 15 14 13)]) (.seq (.cond (.t 15)
 .skip (.exit 0)) (.seq (.block 1 (.seq (.reg [(Jia 16 1 12 14),(Jlc 17 1 16),(Jmc 6 17)]) (.seq (.reg [(Jmc 19 6),(none, .call .no (some 20) (.k (.fn n_impl_shape [])) [(.t 19)]),(Jmt 18 20),(none, .extract 21 0 (.t 18)),(none, .extract 22 1 (.t 18)),(Jmc 7 21),(Jmc 8 22)]) (.seq (.reg [(Jmc 23 7),(Jbe 24 23 3),(Jmc 25 24),(some (25, false), .mv 26 .copy (.t 7)),(some (25, false), .bin 27 .num .eql (.t 26) (.k (N 4))),(none, .pick 28 (.t 25) (.k (.sc (.bool true))) (.t 27)),(Jmc 29 28),(some (29, true), .load 30 .take true 4 (.t 2)),(some (29, true), .mv 31 .copy (.t 8)),(some (29, true), .call .no (some 32) (.k (.fn n__impl_System__has [])) [(.t 30), (.t 31)]),(some (29, true), .un 33 .not (.t 32)),(none, .pick 34 (.t 29) (.t 33) (.k (.sc (.bool false))))]) (.cond (.t 34) (.seq (.reg [(none, .mv 4 .copy (.k (.sc (.bool false))))])
 .ret)
 .skip))))) (.reg [(Jba 35 14 1),(Jmc 14 35)]))))))) (.seq (.reg [(none, .mv 4 .copy (.k (.sc (.bool true))))])
 .ret))))
theorem c_impl_isTypeOf : codeOf Tryz.prog n_impl_isTypeOf m_impl_isTypeOf = some (k_impl_isTypeOf, [.tmp 4], 36) := by kernel_rfl
def m_spec_l2Grade : List (Nat × List Md) := []
def k_spec_l2Grade : C := (.seq (.reg [(none, .mv 2 .copy (.k (N 0)))]) (.seq (.block 0 (.seq (.reg [(Jmc 4 0),(none, .bin 5 .num .geq (.t 4) (.k (N 35))),(Jmc 3 5)]) (.cond (.t 3) (.seq (.reg [(none, .mv 2 .copy (.k (N (-1))))])
 .ret) (.seq (.reg [(Jmc 7 0),(none, .bin 8 .num .geq (.t 7) (.k (N 19))),(Jmc 6 8)]) (.cond (.t 6) (.seq (.reg [(Jmc 9 0),(none, .bin 10 .num .sub (.t 9) (.k (N 19))),(Jmc 2 10)])
 .ret)
 .skip))))) (.seq (.reg [(Jmc 11 0),(none, .bin 12 .num .sub (.t 11) (.k (N 3))),(Jmc 2 12)])
 .ret)))
theorem c_spec_l2Grade : codeOf Tryz.prog n_spec_l2Grade m_spec_l2Grade = some (k_spec_l2Grade, [.tmp 2], 13) := by kernel_rfl
def m_impl_shape : List (Nat × List Md) := []
def k_impl_shape : C := (.seq (.reg [(none, .mv 2 .copy (.k (N 0))),(none, .mv 3 .copy (.k (N 0)))]) (.seq (.block 0 (.seq (.reg [(Jmc 5 0),(none, .call .no (some 6) (.k (.fn n_impl_within [])) [(.t 5), (.k (N 0)), (.k (N 2))]),(Jmc 4 6)]) (.cond (.t 4) (.seq (.reg [(Jmc 7 0),(Jmc 2 7),(none, .mv 3 .copy (.k (N (-1))))])
 .ret) (.seq (.reg [(Jmc 9 0),(none, .call .no (some 10) (.k (.fn n_impl_within [])) [(.t 9), (.k (N 3)), (.k (N 18))]),(Jmc 8 10)]) (.cond (.t 8) (.seq (.reg [(Jmc 11 0),(none, .bin 12 .num .sub (.t 11) (.k (N 3))),(none, .mv 2 .copy (.k (N 3))),(Jmc 3 12)])
 .ret) (.seq (.reg [(Jmc 14 0),(none, .call .no (some 15) (.k (.fn n_impl_within [])) [(.t 14), (.k (N 19)), (.k (N 34))]),(Jmc 13 15)]) (.cond (.t 13) (.seq (.reg [(Jmc 16 0),(none, .bin 17 .num .sub (.t 16) (.k (N 19))),(none, .mv 2 .copy (.k (N 4))),(Jmc 3 17)])
 .ret) (.seq (.reg [(Jmc 19 0),(Jbe 20 19 35),(Jmc 18 20)]) (.cond (.t 18) (.seq (.reg [(none, .mv 2 .copy (.k (N 3))),(none, .mv 3 .copy (.k (N (-1))))])
 .ret) (.seq (.reg [(Jmc 22 0),(Jbe 23 22 36),(Jmc 21 23)]) (.cond (.t 21) (.seq (.reg [(none, .mv 2 .copy (.k (N 4))),(none, .mv 3 .copy (.k (N (-1))))])
 .ret)
 .skip))))))))))) (.seq (.reg [(none, .mv 2 .copy (.k (N 5))),(none, .mv 3 .copy (.k (N (-1))))])
 .ret)))
theorem c_impl_shape : codeOf Tryz.prog n_impl_shape m_impl_shape = some (k_impl_shape, [.tmp 2, .tmp 3], 24) := by kernel_rfl
def m_spec_l1Same : List (Nat × List Md) := []
def k_spec_l1Same : C := (.seq (.reg [(none, .mv 4 .copy (.k (.sc (.bool false))))]) (.seq (.seq (.reg [(Jmc 6 0),(Jln 7 6),(Jmc 8 1),(Jln 9 8),(none, .bin 10 .num .neq (.t 7) (.t 9))]) (.cond (.t 10) (.seq (.reg [(none, .mv 4 .copy (.k (.sc (.bool false))))])
 .ret)
 .skip)) (.seq (.seq (.reg [(none, .mv 5 .copy (.k (N 0)))]) (.block 0 (.loop (.seq (.seq (.reg [(Jmc 11 5),(Jmc 12 0),(Jln 13 12),(Jbl 14 11 13)]) (.cond (.t 14)
 .skip (.exit 0))) (.seq (.block 1 (.seq (.reg [(Jmc 17 0),(Jmc 18 5),(Jia 19 1 17 18),(Jlc 20 1 19),(Jmc 21 1),(Jmc 22 5),(Jia 23 1 21 22),(Jlc 24 1 23),(none, .bin 25 .num .neq (.t 20) (.t 24))]) (.cond (.t 25) (.seq (.reg [(none, .mv 4 .copy (.k (.sc (.bool false))))])
 .ret)
 .skip))) (.reg [(Jmc 15 5),(Jba 16 15 1),(Jmc 5 16)])))))) (.seq (.reg [(none, .mv 4 .copy (.k (.sc (.bool true))))])
 .ret))))
theorem c_spec_l1Same : codeOf Tryz.prog n_spec_l1Same m_spec_l1Same = some (k_spec_l1Same, [.tmp 4], 26) := by kernel_rfl
def m_spec_l2Term : List (Nat × List Md) := [(1, [.take]), (4, [.copy, .copy, .take]), (6, [.copy, .take, .copy, .copy, .copy, .copy, .copy, .take]), (1000001, [.copy, .copy, .copy, .copy, .frz])]
def k_spec_l2Term : C := (.seq (.reg [(none, .box 4 (.t 0)),(none, .mv 8 .copy (.k (.sc (.bool false))))]) (.seq (.seq (.seq (.frz 4) (.reg [(JlT 10 4 4),(Jmc 11 1),(Jmc 12 2),(Jmc 13 3),(none, .call .no (some 14) (.k (.fn n_spec_l2Node [])) [(.t 10), (.t 11), (.t 12), (.t 13)]),(none, .un 15 .not (.t 14))])) (.cond (.t 15) (.seq (.reg [(none, .mv 8 .copy (.k (.sc (.bool false))))])
 .ret)
 .skip)) (.seq (.seq (.reg [(none, .mv 9 .copy (.k (N 0)))]) (.block 0 (.loop (.seq (.seq (.reg [(Jmc 16 9),(Jfa 17 3 4),(Jlt 18 1 17),(Jln 19 18),(Jbl 20 16 19)]) (.cond (.t 20)
 .skip (.exit 0))) (.seq (.block 1 (.seq (.reg [(Jfa 23 3 4),(Jlt 24 1 23),(Jmc 25 9),(Jia 26 4 24 25),(JlC 27 4 26),(Jmc 28 1),(Jfa 29 0 4),(Jlt 30 1 29),(Jmc 31 9),(none, .call .no (some 32) (.k (.fn n_spec_l2Adds [])) [(.t 30), (.t 31)]),(none, .bin 33 .num .add (.t 28) (.t 32)),(Jmc 34 2),(Jmc 35 3),(none, .call .no (some 36) (.k (.fn n_spec_l2Term [])) [(.t 27), (.t 33), (.t 34), (.t 35)]),(none, .un 37 .not (.t 36))]) (.cond (.t 37) (.seq (.reg [(none, .mv 8 .copy (.k (.sc (.bool false))))])
 .ret)
 .skip))) (.reg [(Jmc 21 9),(Jba 22 21 1),(Jmc 9 22)])))))) (.seq (.reg [(none, .mv 8 .copy (.k (.sc (.bool true))))])
 .ret))))
theorem c_spec_l2Term : codeOf Tryz.prog n_spec_l2Term m_spec_l2Term = some (k_spec_l2Term, [.tmp 8], 38) := by kernel_rfl
def m_spec_l2Adds : List (Nat × List Md) := []
def k_spec_l2Adds : C := (.seq (.reg [(none, .mv 4 .copy (.k (N 0)))]) (.seq (.block 0 (.seq (.reg [(Jmc 6 0),(Jbe 7 6 5),(Jmc 8 7),(some (8, true), .mv 9 .copy (.t 1)),(some (8, true), .bin 10 .num .eql (.t 9) (.k (N 1))),(none, .pick 11 (.t 8) (.t 10) (.k (.sc (.bool false)))),(Jmc 5 11)]) (.cond (.t 5) (.seq (.reg [(none, .mv 4 .copy (.k (N 2)))])
 .ret) (.seq (.reg [(Jmc 13 0),(Jbe 14 13 8),(Jmc 15 14),(some (15, true), .mv 16 .copy (.t 1)),(some (15, true), .bin 17 .num .gtr (.t 16) (.k (N 0))),(none, .pick 18 (.t 15) (.t 17) (.k (.sc (.bool false)))),(Jmc 19 18),(some (19, false), .mv 20 .copy (.t 0)),(some (19, false), .bin 21 .num .eql (.t 20) (.k (N 9))),(none, .pick 22 (.t 19) (.k (.sc (.bool true))) (.t 21)),(Jmc 23 22),(some (23, false), .mv 24 .copy (.t 0)),(some (23, false), .bin 25 .num .eql (.t 24) (.k (N 12))),(some (23, false), .mv 26 .copy (.t 25)),(some (26, true), .mv 27 .copy (.t 1)),(some (26, true), .bin 28 .num .eql (.t 27) (.k (N 1))),(some (23, false), .pick 29 (.t 26) (.t 28) (.k (.sc (.bool false)))),(none, .pick 30 (.t 23) (.k (.sc (.bool true))) (.t 29)),(Jmc 12 30)]) (.cond (.t 12) (.seq (.reg [(none, .mv 4 .copy (.k (N 1)))])
 .ret)
 .skip))))) (.seq (.reg [(none, .mv 4 .copy (.k (N 0)))])
 .ret)))
theorem c_spec_l2Adds : codeOf Tryz.prog n_spec_l2Adds m_spec_l2Adds = some (k_spec_l2Adds, [.tmp 4], 31) := by kernel_rfl
def m_spec_l3Glue : List (Nat × List Md) := [(1, [.copy, .copy, .take]), (5, [.take, .copy, .copy, .copy, .copy, .copy, .take]), (6, [.take, .take])]
def k_spec_l3Glue : C := (.seq (.reg [(none, .mv 4 .copy (.k (.sl true true 1 [])))]) (.seq (.reg [(Jmc 7 0),(none, .bslice 8 1 1 [(N 0)] [(0, 1, (.t 7))]),(Jmt 5 8)]) (.seq (.seq (.reg [(none, .mv 6 .copy (.k (N 0)))]) (.block 0 (.loop (.seq (.seq (.reg [(Jmc 9 6),(Jmc 10 1),(Jln 11 10),(Jbl 12 9 11)]) (.cond (.t 12)
 .skip (.exit 0))) (.seq (.block 1 (.reg [(Jmt 15 5),(Jmc 16 1),(Jmc 17 6),(Jia 18 1 16 17),(Jlc 19 1 18),(none, .append 20 1 (.t 15) (.t 19)),(Jmt 5 20)])) (.reg [(Jmc 13 6),(Jba 14 13 1),(Jmc 6 14)])))))) (.seq (.reg [(Jmt 21 5),(Jmt 4 21)])
 .ret))))
theorem c_spec_l3Glue : codeOf Tryz.prog n_spec_l3Glue m_spec_l3Glue = some (k_spec_l3Glue, [.tmp 4], 22) := by kernel_rfl
def m_spec_l2Box : List (Nat × List Md) := []
def k_spec_l2Box : C := (.seq (.reg [(none, .mv 2 .copy (.k (.sc (.bool false))))]) (.seq (.reg [(Jmc 3 0),(none, .call .no (some 4) (.k (.fn n_spec_l1In [])) [(.t 3), (.k (N 19)), (.k (N 34))]),(Jmc 5 4),(some (5, false), .mv 6 .copy (.t 0)),(some (5, false), .bin 7 .num .eql (.t 6) (.k (N 36))),(none, .pick 8 (.t 5) (.k (.sc (.bool true))) (.t 7)),(Jmc 2 8)])
 .ret))
theorem c_spec_l2Box : codeOf Tryz.prog n_spec_l2Box m_spec_l2Box = some (k_spec_l2Box, [.tmp 2], 9) := by kernel_rfl
def m_spec_IsSystem : List (Nat × List Md) := [(1, [.take]), (4, [.copy, .copy, .take]), (6, [.take]), (9, [.copy, .copy, .take]), (11, [.take]), (14, [.copy, .copy, .take]), (16, [.take]), (1000001, [.copy, .frz])]
def k_spec_IsSystem : C := (.seq (.reg [(none, .box 1 (.t 0)),(none, .mv 2 .copy (.k (.sc (.bool false))))]) (.seq (.seq (.seq (.frz 1) (.reg [(JlT 6 4 1),(none, .call .no (some 7) (.k (.fn n_spec_l1Tables [])) [(.t 6)]),(none, .un 8 .not (.t 7))])) (.cond (.t 8) (.seq (.reg [(none, .mv 2 .copy (.k (.sc (.bool false))))])
 .ret)
 .skip)) (.seq (.seq (.reg [(none, .mv 3 .copy (.k (N 0)))]) (.block 0 (.loop (.seq (.seq (.reg [(Jmc 9 3),(Jfa 10 0 1),(Jlt 11 1 10),(Jbl 12 9 11)]) (.cond (.t 12)
 .skip (.exit 0))) (.seq (.block 1 (.seq (.seq (.reg [(JlT 15 4 1),(Jmc 16 3),(none, .call .no (some 17) (.k (.fn n_spec_l1One [])) [(.t 15), (.t 16)]),(none, .un 18 .not (.t 17))]) (.cond (.t 18) (.seq (.reg [(none, .mv 2 .copy (.k (.sc (.bool false))))])
 .ret)
 .skip)) (.seq (.reg [(none, .mv 4 .copy (.k (N 0)))]) (.block 2 (.loop (.seq (.seq (.reg [(Jmc 19 4),(Jfa 20 0 1),(Jlt 21 1 20),(Jbl 22 19 21)]) (.cond (.t 22)
 .skip (.exit 2))) (.seq (.block 3 (.seq (.seq (.reg [(JlT 25 4 1),(Jmc 26 3),(Jmc 27 4),(none, .call .no (some 28) (.k (.fn n_spec_l1Two [])) [(.t 25), (.t 26), (.t 27)]),(none, .un 29 .not (.t 28))]) (.cond (.t 29) (.seq (.reg [(none, .mv 2 .copy (.k (.sc (.bool false))))])
 .ret)
 .skip)) (.seq (.reg [(none, .mv 5 .copy (.k (N 0)))]) (.block 4 (.loop (.seq (.seq (.reg [(Jmc 30 5),(Jfa 31 0 1),(Jlt 32 1 31),(Jbl 33 30 32)]) (.cond (.t 33)
 .skip (.exit 4))) (.seq (.block 5 (.seq (.reg [(JlT 36 4 1),(Jmc 37 3),(Jmc 38 4),(Jmc 39 5),(none, .call .no (some 40) (.k (.fn n_spec_l1Three [])) [(.t 36), (.t 37), (.t 38), (.t 39)]),(none, .un 41 .not (.t 40))]) (.cond (.t 41) (.seq (.reg [(none, .mv 2 .copy (.k (.sc (.bool false))))])
 .ret)
 .skip))) (.reg [(Jmc 34 5),(Jba 35 34 1),(Jmc 5 35)])))))))) (.reg [(Jmc 23 4),(Jba 24 23 1),(Jmc 4 24)])))))))) (.reg [(Jmc 13 3),(Jba 14 13 1),(Jmc 3 14)])))))) (.seq (.reg [(none, .mv 2 .copy (.k (.sc (.bool true))))])
 .ret))))
theorem c_spec_IsSystem : codeOf Tryz.prog n_spec_IsSystem m_spec_IsSystem = some (k_spec_IsSystem, [.tmp 2], 42) := by kernel_rfl
def m_spec_l3Context : List (Nat × List Md) := [(6, [.copy, .copy, .copy, .copy, .copy, .copy, .copy, .copy, .copy, .copy, .copy, .copy, .take]), (1000001, [.copy, .copy, .frz])]
def k_spec_l3Context : C := (.seq (.reg [(none, .box 2 (.t 0)),(none, .mv 4 .copy (.k (.sc (.bool false))))]) (.seq (.seq (.seq (.frz 2) (.reg [(Jmc 6 1),(Jln 7 6),(none, .bin 8 .num .gtr (.t 7) (.k (N 8)))])) (.cond (.t 8) (.seq (.reg [(none, .mv 4 .copy (.k (.sc (.bool false))))])
 .ret)
 .skip)) (.seq (.seq (.reg [(none, .mv 5 .copy (.k (N 0)))]) (.block 0 (.loop (.seq (.seq (.reg [(Jmc 9 5),(Jmc 10 1),(Jln 11 10),(Jbl 12 9 11)]) (.cond (.t 12)
 .skip (.exit 0))) (.seq (.block 1 (.seq (.reg [(Jmc 15 1),(Jmc 16 5),(Jia 17 1 15 16),(Jlc 18 1 17),(none, .call .no (some 19) (.k (.fn n_spec_l2Type [])) [(.t 18)]),(none, .un 20 .not (.t 19)),(Jmc 21 20),(some (21, false), .mv 22 .copy (.t 1)),(some (21, false), .mv 23 .copy (.t 5)),(some (21, false), .indexA 24 1 (.t 22) (.t 23)),(some (21, false), .load 25 .copy false 1 (.t 24)),(some (21, false), .fieldA 26 0 (.t 2)),(some (21, false), .load 27 .take false 1 (.t 26)),(some (21, false), .call .no (some 28) (.k (.fn n_spec_l2Graded [])) [(.t 25), (.t 27), (.k (.sc (.bool true)))]),(some (21, false), .un 29 .not (.t 28)),(none, .pick 30 (.t 21) (.k (.sc (.bool true))) (.t 29))]) (.cond (.t 30) (.seq (.reg [(none, .mv 4 .copy (.k (.sc (.bool false))))])
 .ret)
 .skip))) (.reg [(Jmc 13 5),(Jba 14 13 1),(Jmc 5 14)])))))) (.seq (.reg [(none, .mv 4 .copy (.k (.sc (.bool true))))])
 .ret))))
theorem c_spec_l3Context : codeOf Tryz.prog n_spec_l3Context m_spec_l3Context = some (k_spec_l3Context, [.tmp 4], 31) := by kernel_rfl
def m_spec_IsTerm : List (Nat × List Md) := [(1, [.take, .copy, .copy, .copy, .copy, .copy, .copy, .take, .copy, .copy, .copy, .copy, .take, .copy, .copy, .take]), (1000001, [.copy, .copy, .copy, .frz, .frz])]
def k_spec_IsTerm : C := (.seq (.reg [(none, .box 3 (.t 0)),(none, .box 4 (.t 1)),(none, .mv 6 .copy (.k (.sc (.bool false))))]) (.seq (.seq (.frz 3) (.seq (.frz 4) (.reg [(JlT 7 4 3),(none, .call .no (some 8) (.k (.fn n_spec_IsSystem [])) [(.t 7)]),(Jmc 9 8),(some (9, true), .mv 10 .copy (.t 2)),(some (9, true), .call .no (some 11) (.k (.fn n_spec_l1In [])) [(.t 10), (.k (N 0)), (.k (N 8))]),(none, .pick 12 (.t 9) (.t 11) (.k (.sc (.bool false)))),(Jmc 13 12),(some (13, true), .load 14 .take true 4 (.t 4)),(some (13, true), .call .no (some 15) (.k (.fn n_spec_l2Left [])) [(.t 14), (.k (N 400))]),(some (13, true), .bin 16 .num .geq (.t 15) (.k (N 0))),(none, .pick 17 (.t 13) (.t 16) (.k (.sc (.bool false)))),(Jmc 18 17),(some (18, true), .load 19 .take true 4 (.t 4)),(some (18, true), .mv 20 .copy (.t 2)),(some (18, true), .fieldA 21 0 (.t 3)),(some (18, true), .load 22 .take false 1 (.t 21)),(some (18, true), .call .no (some 23) (.k (.fn n_spec_l2Term [])) [(.t 19), (.t 20), (.t 22), (.k (.sc (.bool true)))]),(none, .pick 24 (.t 18) (.t 23) (.k (.sc (.bool false)))),(Jmc 6 24)])))
 .ret))
theorem c_spec_IsTerm : codeOf Tryz.prog n_spec_IsTerm m_spec_IsTerm = some (k_spec_IsTerm, [.tmp 6], 25) := by kernel_rfl
def m_spec_l3Zero : List (Nat × List Md) := [(1, [.copy, .copy, .frz])]
def k_spec_l3Zero : C := (.seq (.reg [(none, .mv 2 .copy (.k (.sl true true 1 [])))]) (.seq (.reg [(Jmc 3 0),(none, .mkslice 4 1 [(N 0)] (.t 3)),(none, .mv 2 .frz (.t 4))])
 .ret))
theorem c_spec_l3Zero : codeOf Tryz.prog n_spec_l3Zero m_spec_l3Zero = some (k_spec_l3Zero, [.tmp 2], 5) := by kernel_rfl
def m_spec_l3Of : List (Nat × List Md) := [(1, [.take, .take, .copy, .take]), (4, [.frz]), (1000001, [.copy, .copy, .copy, .copy, .frz, .copy, .frz])]
def k_spec_l3Of : C := (.seq (.reg [(none, .box 4 (.t 0)),(none, .box 6 (.t 2)),(none, .alloc 8 [(.sl true true 1 []), (.sl true true 1 []), (N 0), (.sl true true 1 [])])]) (.seq (.seq (.frz 4) (.seq (.frz 6) (.reg [(JlT 10 4 4),(Jmt 11 1),(Jfa 12 3 6),(Jlt 13 1 12),(Jmc 14 3),(Jia 15 4 13 14),(JlC 16 4 15),(none, .call .no (some 17) (.k (.fn n_spec_l3Tell [])) [(.t 10), (.t 11), (.t 16)]),(none, .alloc 9 [(.sl true true 1 []), (.sl true true 1 []), (N 0), (.sl true true 1 [])]),(Jst 4 9 17)]))) (.seq (.seq (.reg [(Jfa 18 2 9),(Jlc 19 1 18),(none, .bin 20 .num .neq (.t 19) (.k (N 0)))]) (.cond (.t 20) (.reg [(Jmc 21 3),(none, .bslice 22 1 1 [(N 0)] [(0, 1, (.t 21))]),(Jfa 23 3 9),(Jlc 24 1 23),(none, .append 25 1 (.t 22) (.t 24)),(Jfa 26 3 9),(Jst 1 26 25)])
 .skip)) (.seq (.reg [(none, .load 27 .frz true 4 (.t 9)),(Jst 4 8 27)])
 .ret))))
theorem c_spec_l3Of : codeOf Tryz.prog n_spec_l3Of m_spec_l3Of = some (k_spec_l3Of, [.cell 8 true 4], 28) := by kernel_rfl
def m_spec_l3Bad : List (Nat × List Md) := []
def k_spec_l3Bad : C := (.seq (.reg [(none, .alloc 2 [(.sl true true 1 []), (.sl true true 1 []), (N 0), (.sl true true 1 [])])]) (.seq (.reg [(Jmc 3 0),(none, .build 4 [(.sl true true 1 []), (.sl true true 1 []), (N 0), (.sl true true 1 [])] [(2, 1, (.t 3))]),(Jst 4 2 4)])
 .ret))
theorem c_spec_l3Bad : codeOf Tryz.prog n_spec_l3Bad m_spec_l3Bad = some (k_spec_l3Bad, [.cell 2 true 4], 5) := by kernel_rfl
def m_spec_l3Numbers : List (Nat × List Md) := [(1, [.take, .copy, .take]), (2, [.copy, .take]), (3, [.take]), (4, [.copy, .take]), (5, [.copy, .take]), (7, [.copy, .take, .take, .copy, .take, .copy, .take]), (8, [.take, .take, .take]), (9, [.copy, .take]), (10, [.take]), (11, [.copy, .take, .copy, .take]), (13, [.copy, .take, .take, .copy, .take, .take, .copy, .take, .copy, .take]), (1000001, [.copy, .copy, .copy, .copy, .frz, .copy, .frz, .frz]), (2000001, [.copy, .copy, .copy, .copy, .copy, .copy, .copy, .copy, .copy, .frz]), (2000008, [.copy, .copy, .copy, .copy, .copy, .copy, .copy, .copy, .copy, .copy, .frz])]
def k_spec_l3Numbers : C := (.seq (.reg [(none, .box 4 (.t 0)),(none, .box 6 (.t 2)),(none, .box 7 (.t 3)),(none, .alloc 8 [(.sl true true 1 []), (.sl true true 1 []), (N 0), (.sl true true 1 [])])]) (.seq (.seq (.frz 4) (.seq (.frz 6) (.seq (.frz 7) (.seq (.reg [(JlT 11 4 4),(Jmc 12 1),(JlT 13 4 6),(none, .call .no (some 14) (.k (.fn n_spec_l3Of [])) [(.t 11), (.t 12), (.t 13), (.k (N 1))]),(none, .alloc 9 [(.sl true true 1 []), (.sl true true 1 []), (N 0), (.sl true true 1 [])]),(Jst 4 9 14)]) (.frz 9))))) (.seq (.seq (.reg [(Jfa 15 2 9),(Jlt 16 1 15),(none, .bin 17 .num .neq (.t 16) (.k (N 0)))]) (.cond (.t 17) (.seq (.reg [(JlT 18 4 9),(Jst 4 8 18)])
 .ret)
 .skip)) (.seq (.seq (.reg [(Jfa 19 0 6),(Jlt 20 1 19),(Jbe 21 20 2)]) (.cond (.t 21) (.seq (.seq (.reg [(Jfa 22 0 9),(Jlt 23 1 22),(none, .indexA 24 1 (.t 23) (.k (N 0))),(Jlc 25 1 24),(none, .bin 26 .num .neq (.t 25) (.k (N 0)))]) (.cond (.t 26) (.seq (.reg [(none, .call .no (some 27) (.k (.fn n_spec_l3Bad [])) [(.k (N 2))]),(Jst 4 8 27)])
 .ret)
 .skip)) (.seq (.reg [(Jfa 28 0 9),(Jlt 29 1 28),(JlT 30 4 4),(Jfa 31 1 7),(Jlt 32 1 31),(Jfa 33 1 9),(Jlt 34 1 33),(none, .call .no (some 35) (.k (.fn n_spec_l3Sum [])) [(.t 30), (.t 32), (.k (N 1)), (.t 34)]),(none, .build 36 [(.sl true true 1 []), (.sl true true 1 []), (N 0), (.sl true true 1 [])] [(0, 1, (.t 29)), (1, 1, (.t 35))]),(Jst 4 8 36)])
 .ret))
 .skip)) (.seq (.seq (.reg [(JlT 37 4 4),(Jmt 38 1),(JlT 39 4 6),(none, .call .no (some 40) (.k (.fn n_spec_l3Of [])) [(.t 37), (.t 38), (.t 39), (.k (N 2))]),(none, .alloc 10 [(.sl true true 1 []), (.sl true true 1 []), (N 0), (.sl true true 1 [])]),(Jst 4 10 40)]) (.frz 10)) (.seq (.seq (.reg [(Jfa 41 2 10),(Jlt 42 1 41),(none, .bin 43 .num .neq (.t 42) (.k (N 0)))]) (.cond (.t 43) (.seq (.reg [(JlT 44 4 10),(Jst 4 8 44)])
 .ret)
 .skip)) (.seq (.seq (.reg [(Jfa 45 0 9),(Jlt 46 1 45),(Jfa 47 0 10),(Jlt 48 1 47),(none, .call .no (some 49) (.k (.fn n_spec_l1Same [])) [(.t 46), (.t 48)]),(none, .un 50 .not (.t 49))]) (.cond (.t 50) (.seq (.reg [(none, .call .no (some 51) (.k (.fn n_spec_l3Bad [])) [(.k (N 3))]),(Jst 4 8 51)])
 .ret)
 .skip)) (.seq (.reg [(Jfa 52 0 9),(Jlt 53 1 52),(JlT 54 4 4),(Jfa 55 1 7),(Jlt 56 1 55),(JlT 57 4 4),(Jfa 58 1 9),(Jlt 59 1 58),(Jfa 60 1 10),(Jlt 61 1 60),(none, .call .no (some 62) (.k (.fn n_spec_l3Join [])) [(.t 57), (.t 59), (.t 61)]),(none, .call .no (some 63) (.k (.fn n_spec_l3Sum [])) [(.t 54), (.t 56), (.k (N 1)), (.t 62)]),(none, .build 64 [(.sl true true 1 []), (.sl true true 1 []), (N 0), (.sl true true 1 [])] [(0, 1, (.t 53)), (1, 1, (.t 63))]),(Jst 4 8 64)])
 .ret))))))))
theorem c_spec_l3Numbers : codeOf Tryz.prog n_spec_l3Numbers m_spec_l3Numbers = some (k_spec_l3Numbers, [.cell 8 true 4], 65) := by kernel_rfl
def m_spec_l3Done : List (Nat × List Md) := [(3, [.take, .take])]
def k_spec_l3Done : C := (.seq (.reg [(none, .alloc 4 [(.sl true true 1 []), (.sl true true 1 []), (N 0), (.sl true true 1 [])])]) (.seq (.seq (.reg [(Jmc 5 0),(Jln 6 5),(none, .bin 7 .num .gtr (.t 6) (.k (N 40)))]) (.cond (.t 7) (.seq (.reg [(none, .call .no (some 8) (.k (.fn n_spec_l3Bad [])) [(.k (N 3))]),(Jst 4 4 8)])
 .ret)
 .skip)) (.seq (.reg [(Jmt 9 0),(Jmt 10 1),(none, .build 11 [(.sl true true 1 []), (.sl true true 1 []), (N 0), (.sl true true 1 [])] [(0, 1, (.t 9)), (1, 1, (.t 10))]),(Jst 4 4 11)])
 .ret)))
theorem c_spec_l3Done : codeOf Tryz.prog n_spec_l3Done m_spec_l3Done = some (k_spec_l3Done, [.cell 4 true 4], 12) := by kernel_rfl
def m_spec_l3Sum : List (Nat × List Md) := [(1, [.copy, .take]), (5, [.take, .take, .copy, .copy, .copy, .copy, .take, .copy, .copy, .copy, .copy, .copy, .copy, .copy, .copy, .copy, .take]), (6, [.take, .take]), (1000001, [.copy, .copy, .copy, .copy, .frz])]
def k_spec_l3Sum : C := (.seq (.reg [(none, .box 4 (.t 0)),(none, .mv 8 .copy (.k (.sl true true 1 [])))]) (.seq (.seq (.frz 4) (.reg [(none, .bslice 11 1 0 [] []),(Jmt 9 11)])) (.seq (.seq (.reg [(none, .mv 10 .copy (.k (N 0)))]) (.block 0 (.loop (.seq (.seq (.reg [(Jmc 12 10),(Jmc 13 1),(Jln 14 13),(Jbl 15 12 14)]) (.cond (.t 15)
 .skip (.exit 0))) (.seq (.block 1 (.reg [(Jmt 18 9),(JlT 19 4 4),(Jmc 20 1),(Jmc 21 10),(Jia 22 1 20 21),(Jlc 23 1 22),(JlT 24 4 4),(Jmc 25 2),(Jmc 26 3),(Jmc 27 10),(Jia 28 1 26 27),(Jlc 29 1 28),(none, .call .no (some 30) (.k (.fn n_spec_l1Mul [])) [(.t 24), (.t 25), (.t 29)]),(none, .call .no (some 31) (.k (.fn n_spec_l1Add [])) [(.t 19), (.t 23), (.t 30)]),(none, .bslice 32 1 1 [(N 0)] [(0, 1, (.t 31))]),(none, .append 33 1 (.t 18) (.t 32)),(Jmt 9 33)])) (.reg [(Jmc 16 10),(Jba 17 16 1),(Jmc 10 17)])))))) (.seq (.reg [(Jmt 34 9),(Jmt 8 34)])
 .ret))))
theorem c_spec_l3Sum : codeOf Tryz.prog n_spec_l3Sum m_spec_l3Sum = some (k_spec_l3Sum, [.tmp 8], 35) := by kernel_rfl
def m_spec_l1Le : List (Nat × List Md) := [(1, [.copy, .take, .copy, .copy, .take]), (1000001, [.copy, .copy, .copy, .frz])]
def k_spec_l1Le : C := (.seq (.reg [(none, .box 3 (.t 0)),(none, .mv 6 .copy (.k (.sc (.bool false))))]) (.seq (.seq (.frz 3) (.reg [(Jfa 7 3 3),(Jlt 8 1 7),(Jmc 9 1),(Jfa 10 0 3),(Jlt 11 1 10),(none, .bin 12 .num .mul (.t 9) (.t 11)),(Jmc 13 2),(none, .bin 14 .num .add (.t 12) (.t 13)),(Jia 15 1 8 14),(Jlc 16 1 15),(Jmc 6 16)]))
 .ret))
theorem c_spec_l1Le : codeOf Tryz.prog n_spec_l1Le m_spec_l1Le = some (k_spec_l1Le, [.tmp 6], 17) := by kernel_rfl
def m_spec_l2Arrow : List (Nat × List Md) := []
def k_spec_l2Arrow : C := (.seq (.reg [(none, .mv 2 .copy (.k (.sc (.bool false))))]) (.seq (.reg [(Jmc 3 0),(none, .call .no (some 4) (.k (.fn n_spec_l1In [])) [(.t 3), (.k (N 3)), (.k (N 18))]),(Jmc 5 4),(some (5, false), .mv 6 .copy (.t 0)),(some (5, false), .bin 7 .num .eql (.t 6) (.k (N 35))),(none, .pick 8 (.t 5) (.k (.sc (.bool true))) (.t 7)),(Jmc 2 8)])
 .ret))
theorem c_spec_l2Arrow : codeOf Tryz.prog n_spec_l2Arrow m_spec_l2Arrow = some (k_spec_l2Arrow, [.tmp 2], 9) := by kernel_rfl
def m_spec_l3Taken : List (Nat × List Md) := [(1, [.copy, .take]), (2, [.copy, .take]), (4, [.copy, .take]), (6, [.copy, .take]), (8, [.take, .copy, .take]), (10, [.copy, .take, .copy, .copy, .take]), (11, [.copy, .take]), (12, [.copy, .take, .copy, .copy, .take, .copy, .copy, .take]), (13, [.take, .copy, .copy, .copy, .take]), (14, [.copy, .take]), (15, [.take]), (16, [.take]), (17, [.copy, .take]), (18, [.copy, .take, .copy, .copy, .copy, .take]), (20, [.copy, .take]), (22, [.take, .copy, .take]), (24, [.take, .copy, .take]), (26, [.take, .copy, .copy, .take, .copy, .copy, .copy, .take]), (27, [.copy, .take]), (28, [.take]), (29, [.copy, .take, .copy, .take]), (31, [.take, .copy, .take]), (32, [.take, .take, .copy, .take, .copy, .copy, .take]), (33, [.copy, .copy, .copy, .take, .copy, .take]), (35, [.copy, .take, .take, .take, .take, .copy, .copy, .copy, .take, .copy, .take, .copy, .take]), (1000001, [.copy, .copy, .copy, .copy, .frz, .copy, .frz, .frz]), (2000013, [.copy, .copy, .copy, .copy, .copy, .copy, .copy, .copy, .copy, .copy, .copy, .frz]), (2000026, [.copy, .copy, .copy, .copy, .copy, .copy, .copy, .copy, .copy, .copy, .copy, .copy, .copy, .copy, .copy, .copy, .frz])]
def k_spec_l3Taken : C := (.seq (.reg [(none, .box 4 (.t 0)),(none, .box 6 (.t 2)),(none, .box 7 (.t 3)),(none, .alloc 8 [(.sl true true 1 []), (.sl true true 1 []), (N 0), (.sl true true 1 [])])]) (.seq (.seq (.frz 4) (.seq (.frz 6) (.seq (.frz 7) (.reg [(Jfa 17 0 7),(Jlt 18 1 17),(none, .indexA 19 1 (.t 18) (.k (N 0))),(Jlc 20 1 19),(Jmc 9 20)])))) (.seq (.block 0 (.seq (.reg [(Jfa 22 0 6),(Jlt 23 1 22),(Jbe 24 23 5),(Jmc 25 24),(some (25, true), .mv 26 .copy (.t 9)),(some (25, true), .bin 27 .num .neq (.t 26) (.k (N 1))),(none, .pick 28 (.t 25) (.t 27) (.k (.sc (.bool false)))),(Jmc 21 28)]) (.cond (.t 21) (.seq (.reg [(none, .call .no (some 29) (.k (.fn n_spec_l3Bad [])) [(.k (N 4))]),(Jst 4 8 29)])
 .ret) (.seq (.reg [(Jfa 31 0 6),(Jlt 32 1 31),(Jbe 33 32 8),(Jmc 34 33),(some (34, true), .mv 35 .copy (.t 9)),(some (34, true), .bin 36 .num .neq (.t 35) (.k (N 2))),(none, .pick 37 (.t 34) (.t 36) (.k (.sc (.bool false)))),(Jmc 30 37)]) (.cond (.t 30) (.seq (.reg [(none, .call .no (some 38) (.k (.fn n_spec_l3Bad [])) [(.k (N 5))]),(Jst 4 8 38)])
 .ret) (.seq (.reg [(Jfa 40 0 6),(Jlt 41 1 40),(Jbe 42 41 12),(Jmc 43 42),(some (43, true), .mv 44 .copy (.t 9)),(some (43, true), .call .no (some 45) (.k (.fn n_spec_l2Box [])) [(.t 44)]),(some (43, true), .un 46 .not (.t 45)),(none, .pick 47 (.t 43) (.t 46) (.k (.sc (.bool false)))),(Jmc 39 47)]) (.cond (.t 39) (.seq (.reg [(none, .call .no (some 48) (.k (.fn n_spec_l3Bad [])) [(.k (N 7))]),(Jst 4 8 48)])
 .ret)
 .skip))))))) (.seq (.seq (.reg [(JlT 49 4 4),(Jfa 50 1 6),(Jlt 51 1 50),(none, .call .no (some 52) (.k (.fn n_spec_l1Le [])) [(.t 49), (.k (N 1)), (.t 51)]),(none, .un 53 .not (.t 52))]) (.cond (.t 53) (.seq (.reg [(none, .call .no (some 54) (.k (.fn n_spec_l3Bad [])) [(.k (N 8))]),(Jst 4 8 54)])
 .ret)
 .skip)) (.seq (.reg [(Jfa 55 0 7),(Jlt 56 1 55),(none, .call .no (some 57) (.k (.fn n_spec_l2Part [])) [(.t 56), (.k (N 0))]),(none, .bslice 58 1 1 [(.sl true true 1 [])] [(0, 1, (.t 57))]),(Jmt 10 58)]) (.seq (.seq (.reg [(Jfa 59 0 6),(Jlt 60 1 59),(Jbe 61 60 5)]) (.cond (.t 61) (.reg [(Jfa 62 0 7),(Jlt 63 1 62),(none, .call .no (some 64) (.k (.fn n_spec_l2Part [])) [(.t 63), (.k (N 1))]),(Jfa 65 0 7),(Jlt 66 1 65),(none, .call .no (some 67) (.k (.fn n_spec_l2Part [])) [(.t 66), (.k (N 0))]),(none, .bslice 68 1 2 [(.sl true true 1 []), (.sl true true 1 [])] [(0, 1, (.t 64)), (1, 1, (.t 67))]),(Jmt 10 68)])
 .skip)) (.seq (.seq (.reg [(JlT 69 4 4),(Jmc 70 1),(Jmc 71 10),(none, .call .no (some 72) (.k (.fn n_spec_l3With [])) [(.t 70), (.t 71)]),(JlT 73 4 6),(none, .call .no (some 74) (.k (.fn n_spec_l3Of [])) [(.t 69), (.t 72), (.t 73), (.k (N 1))]),(none, .alloc 11 [(.sl true true 1 []), (.sl true true 1 []), (N 0), (.sl true true 1 [])]),(Jst 4 11 74)]) (.frz 11)) (.seq (.seq (.reg [(Jfa 75 2 11),(Jlt 76 1 75),(none, .bin 77 .num .neq (.t 76) (.k (N 0)))]) (.cond (.t 77) (.seq (.reg [(JlT 78 4 11),(Jst 4 8 78)])
 .ret)
 .skip)) (.seq (.reg [(Jmt 79 10),(Jln 80 79),(Jmc 12 80)]) (.seq (.reg [(Jfa 81 1 6),(Jlt 82 1 81),(Jmc 13 82)]) (.seq (.reg [(Jfa 83 1 11),(Jlt 84 1 83),(Jmc 85 12),(none, .slice 86 1 (.t 84) (some (.t 85)) none none),(none, .call .no (some 87) (.k (.fn n_spec_l1Copy [])) [(.t 86)]),(Jmt 14 87)]) (.seq (.reg [(none, .mv 15 .copy (.k (.sc (.bool true))))]) (.seq (.seq (.reg [(Jfa 88 0 6),(Jlt 89 1 88)]) (.block 1 (.seq (.reg [(Jbe 91 89 12),(Jmc 90 91)]) (.cond (.t 90) (.reg [(JlT 92 4 4),(Jfa 93 1 6),(Jlt 94 1 93),(Jmc 95 9),(none, .call .no (some 96) (.k (.fn n_spec_l2Grade [])) [(.t 95)]),(none, .call .no (some 97) (.k (.fn n_spec_l1Mul [])) [(.t 92), (.t 94), (.t 96)]),(Jmc 13 97)]) (.seq (.reg [(Jbe 99 89 5),(Jmc 98 99)]) (.cond (.t 98) (.reg [(JlT 100 4 4),(Jfa 101 1 11),(Jlt 102 1 101),(none, .indexA 103 1 (.t 102) (.k (N 1))),(Jlc 104 1 103),(Jmc 105 13),(none, .call .no (some 106) (.k (.fn n_spec_l1Le [])) [(.t 100), (.t 104), (.t 105)]),(Jmc 15 106)]) (.seq (.reg [(Jbe 108 89 8),(Jmc 107 108)]) (.cond (.t 107) (.seq (.seq (.reg [(JlT 109 4 4),(Jmc 110 1),(Jfa 111 0 7),(Jlt 112 1 111),(none, .call .no (some 113) (.k (.fn n_spec_l2Part [])) [(.t 112), (.k (N 1))]),(none, .bslice 114 1 1 [(.sl true true 1 [])] [(0, 1, (.t 113))]),(none, .call .no (some 115) (.k (.fn n_spec_l3With [])) [(.t 110), (.t 114)]),(JlT 116 4 6),(none, .call .no (some 117) (.k (.fn n_spec_l3Of [])) [(.t 109), (.t 115), (.t 116), (.k (N 2))]),(none, .alloc 16 [(.sl true true 1 []), (.sl true true 1 []), (N 0), (.sl true true 1 [])]),(Jst 4 16 117)]) (.frz 16)) (.seq (.seq (.reg [(Jfa 118 2 16),(Jlt 119 1 118),(none, .bin 120 .num .neq (.t 119) (.k (N 0)))]) (.cond (.t 120) (.seq (.reg [(JlT 121 4 16),(Jst 4 8 121)])
 .ret)
 .skip)) (.seq (.seq (.reg [(Jfa 122 0 11),(Jlt 123 1 122),(Jfa 124 0 16),(Jlt 125 1 124),(none, .call .no (some 126) (.k (.fn n_spec_l1Same [])) [(.t 123), (.t 125)]),(none, .un 127 .not (.t 126))]) (.cond (.t 127) (.seq (.reg [(none, .call .no (some 128) (.k (.fn n_spec_l3Bad [])) [(.k (N 3))]),(Jst 4 8 128)])
 .ret)
 .skip)) (.seq (.reg [(JlT 129 4 4),(Jfa 130 1 16),(Jlt 131 1 130),(none, .indexA 132 1 (.t 131) (.k (N 0))),(Jlc 133 1 132),(Jmc 134 13),(none, .call .no (some 135) (.k (.fn n_spec_l1Le [])) [(.t 129), (.t 133), (.t 134)]),(Jmc 15 135)]) (.reg [(JlT 136 4 4),(Jmt 137 14),(Jfa 138 1 16),(Jlt 139 1 138),(none, .slice 140 1 (.t 139) (some (.k (N 1))) none none),(none, .call .no (some 141) (.k (.fn n_spec_l3Join [])) [(.t 136), (.t 137), (.t 140)]),(Jmt 14 141)])))))
 .skip)))))))) (.seq (.seq (.reg [(Jmc 142 15),(none, .un 143 .not (.t 142)),(Jmc 144 143),(some (144, false), .load 145 .take true 4 (.t 4)),(some (144, false), .fieldA 146 1 (.t 11)),(some (144, false), .load 147 .take false 1 (.t 146)),(some (144, false), .indexA 148 1 (.t 147) (.k (N 0))),(some (144, false), .load 149 .copy false 1 (.t 148)),(some (144, false), .mv 150 .copy (.t 13)),(some (144, false), .call .no (some 151) (.k (.fn n_spec_l1Le [])) [(.t 145), (.t 149), (.t 150)]),(some (144, false), .un 152 .not (.t 151)),(none, .pick 153 (.t 144) (.k (.sc (.bool true))) (.t 152))]) (.cond (.t 153) (.seq (.reg [(none, .call .no (some 154) (.k (.fn n_spec_l3Bad [])) [(.k (N 9))]),(Jst 4 8 154)])
 .ret)
 .skip)) (.seq (.reg [(Jfa 155 0 11),(Jlt 156 1 155),(JlT 157 4 4),(JlT 158 4 4),(Jmt 159 1),(Jln 160 159),(none, .call .no (some 161) (.k (.fn n_spec_l3Zero [])) [(.t 160)]),(Jfa 162 1 6),(Jlt 163 1 162),(Jfa 164 1 7),(Jlt 165 1 164),(none, .call .no (some 166) (.k (.fn n_spec_l3Sum [])) [(.t 158), (.t 161), (.t 163), (.t 165)]),(Jmt 167 14),(none, .call .no (some 168) (.k (.fn n_spec_l3Sum [])) [(.t 157), (.t 166), (.k (N 1)), (.t 167)]),(none, .build 169 [(.sl true true 1 []), (.sl true true 1 []), (N 0), (.sl true true 1 [])] [(0, 1, (.t 156)), (1, 1, (.t 168))]),(Jst 4 8 169)])
 .ret)))))))))))))))
theorem c_spec_l3Taken : codeOf Tryz.prog n_spec_l3Taken m_spec_l3Taken = some (k_spec_l3Taken, [.cell 8 true 4], 170) := by kernel_rfl
def m_spec_l2End : List (Nat × List Md) := []
def k_spec_l2End : C := (.seq (.reg [(none, .mv 4 .copy (.k (N 0)))]) (.seq (.reg [(none, .mv 5 .copy (.k (N 1)))]) (.seq (.seq (.reg [(Jmc 8 1),(Jmc 6 8)]) (.block 0 (.loop (.seq (.seq (.reg [(Jmc 9 6),(Jmc 10 0),(Jln 11 10),(Jbl 12 9 11)]) (.cond (.t 12)
 .skip (.exit 0))) (.seq (.block 1 (.seq (.reg [(Jmc 15 0),(Jmc 16 6),(Jia 17 1 15 16),(Jlc 18 1 17),(none, .call .no (some 19) (.k (.fn n_spec_l2Kids [])) [(.t 18)]),(Jmc 7 19)]) (.seq (.seq (.reg [(Jmc 20 7),(none, .bin 21 .num .lss (.t 20) (.k (N 0)))]) (.cond (.t 21) (.seq (.reg [(none, .mv 4 .copy (.k (N (-1))))])
 .ret)
 .skip)) (.seq (.reg [(Jmc 22 5),(none, .bin 23 .num .sub (.t 22) (.k (N 1))),(Jmc 24 7),(none, .bin 25 .num .add (.t 23) (.t 24)),(Jmc 5 25)]) (.seq (.reg [(Jmc 26 5),(Jbe 27 26 0)]) (.cond (.t 27) (.seq (.reg [(Jmc 28 6),(Jba 29 28 1),(Jmc 4 29)])
 .ret)
 .skip)))))) (.reg [(Jmc 13 6),(Jba 14 13 1),(Jmc 6 14)])))))) (.seq (.reg [(none, .mv 4 .copy (.k (N (-1))))])
 .ret))))
theorem c_spec_l2End : codeOf Tryz.prog n_spec_l2End m_spec_l2End = some (k_spec_l2End, [.tmp 4], 30) := by kernel_rfl
def m_spec_l2Type : List (Nat × List Md) := [(1, [.copy, .copy, .copy, .copy, .copy, .copy, .copy, .copy, .copy, .copy, .copy, .take])]
def k_spec_l2Type : C := (.seq (.reg [(none, .mv 2 .copy (.k (.sc (.bool false))))]) (.seq (.reg [(Jmc 3 0),(Jln 4 3),(none, .bin 5 .num .leq (.t 4) (.k (N 40))),(Jmc 6 5),(some (6, true), .mv 7 .copy (.t 0)),(some (6, true), .call .no (some 8) (.k (.fn n_spec_l2End [])) [(.t 7), (.k (N 0))]),(some (6, true), .mv 9 .copy (.t 0)),(some (6, true), .len 10 (.t 9)),(some (6, true), .bin 11 .num .eql (.t 8) (.t 10)),(none, .pick 12 (.t 6) (.t 11) (.k (.sc (.bool false)))),(Jmc 13 12),(some (13, true), .mv 14 .take (.t 0)),(some (13, true), .len 15 (.t 14)),(some (13, true), .bin 16 .num .gtr (.t 15) (.k (N 0))),(none, .pick 17 (.t 13) (.t 16) (.k (.sc (.bool false)))),(Jmc 2 17)])
 .ret))
theorem c_spec_l2Type : codeOf Tryz.prog n_spec_l2Type m_spec_l2Type = some (k_spec_l2Type, [.tmp 2], 18) := by kernel_rfl
def m__impl_System__join : List (Nat × List Md) := [(2, [.copy, .copy, .take]), (4, [.take, .copy, .copy, .copy, .copy, .copy, .take]), (7, [.copy, .copy, .take]), (9, [.copy, .copy, .take, .copy, .copy, .copy, .copy, .copy, .take, .copy, .copy, .copy, .copy, .copy, .copy, .take]), (1000001, [.copy, .copy, .copy, .frz])]
def k__impl_System__join : C := (.seq (.reg [(none, .box 3 (.t 0)),(none, .mv 6 .copy (.k (N 0)))]) (.seq (.seq (.seq (.frz 3) (.reg [(none, .mv 7 .copy (.k (N 0)))])) (.block 0 (.loop (.seq (.seq (.reg [(Jmc 10 7),(Jfa 11 0 3),(Jlt 12 1 11),(Jbl 13 10 12)]) (.cond (.t 13)
 .skip (.exit 0))) (.seq (.block 1 (.seq (.seq (.reg [(JlT 16 4 3),(Jmc 17 1),(Jmc 18 7),(none, .call .no (some 19) (.k (.fn n__impl_System__below [])) [(.t 16), (.t 17), (.t 18)]),(none, .un 20 .not (.t 19)),(Jmc 21 20),(some (21, false), .load 22 .take true 4 (.t 3)),(some (21, false), .mv 23 .copy (.t 2)),(some (21, false), .mv 24 .copy (.t 7)),(some (21, false), .call .no (some 25) (.k (.fn n__impl_System__below [])) [(.t 22), (.t 23), (.t 24)]),(some (21, false), .un 26 .not (.t 25)),(none, .pick 27 (.t 21) (.k (.sc (.bool true))) (.t 26))]) (.cond (.t 27) (.exit 1)
 .skip)) (.seq (.reg [(none, .mv 8 .copy (.k (.sc (.bool true))))]) (.seq (.seq (.reg [(none, .mv 9 .copy (.k (N 0)))]) (.block 2 (.loop (.seq (.seq (.reg [(Jmc 28 9),(Jfa 29 0 3),(Jlt 30 1 29),(Jbl 31 28 30)]) (.cond (.t 31)
 .skip (.exit 2))) (.seq (.block 3 (.reg [(Jmc 34 8),(Jmc 35 34),(some (35, true), .load 36 .take true 4 (.t 3)),(some (35, true), .mv 37 .copy (.t 1)),(some (35, true), .mv 38 .copy (.t 9)),(some (35, true), .call .no (some 39) (.k (.fn n__impl_System__below [])) [(.t 36), (.t 37), (.t 38)]),(some (35, true), .un 40 .not (.t 39)),(some (35, true), .mv 41 .copy (.t 40)),(some (41, false), .load 42 .take true 4 (.t 3)),(some (41, false), .mv 43 .copy (.t 2)),(some (41, false), .mv 44 .copy (.t 9)),(some (41, false), .call .no (some 45) (.k (.fn n__impl_System__below [])) [(.t 42), (.t 43), (.t 44)]),(some (41, false), .un 46 .not (.t 45)),(some (35, true), .pick 47 (.t 41) (.k (.sc (.bool true))) (.t 46)),(some (35, true), .mv 48 .copy (.t 47)),(some (48, false), .load 49 .take true 4 (.t 3)),(some (48, false), .mv 50 .copy (.t 7)),(some (48, false), .mv 51 .copy (.t 9)),(some (48, false), .call .no (some 52) (.k (.fn n__impl_System__below [])) [(.t 49), (.t 50), (.t 51)]),(some (35, true), .pick 53 (.t 48) (.k (.sc (.bool true))) (.t 52)),(none, .pick 54 (.t 35) (.t 53) (.k (.sc (.bool false)))),(Jmc 8 54)])) (.reg [(Jmc 32 9),(Jba 33 32 1),(Jmc 9 33)])))))) (.seq (.reg [(Jmc 55 8)]) (.cond (.t 55) (.seq (.reg [(Jmc 56 7),(Jmc 6 56)])
 .ret)
 .skip)))))) (.reg [(Jmc 14 7),(Jba 15 14 1),(Jmc 7 15)])))))) (.seq (.reg [(none, .mv 6 .copy (.k (N (-1))))])
 .ret)))
theorem c__impl_System__join : codeOf Tryz.prog n__impl_System__join m__impl_System__join = some (k__impl_System__join, [.tmp 6], 57) := by kernel_rfl
def m__impl_System__lawsOf : List (Nat × List Md) := [(1, [.take, .take, .copy, .copy, .copy, .copy, .copy, .take, .copy, .take, .copy, .copy, .copy, .copy, .copy, .copy, .take, .take, .copy, .copy, .copy, .copy, .copy, .take, .copy, .take]), (3, [.take, .copy, .take, .copy, .copy, .copy, .copy, .take, .take, .copy, .copy, .copy, .take, .copy, .copy, .copy, .copy, .copy, .copy, .take, .take, .copy, .copy, .copy, .copy, .copy, .take, .take, .copy, .copy, .copy, .take]), (5, [.take, .copy, .copy, .copy, .copy, .take, .copy, .copy, .copy, .copy, .copy, .take]), (7, [.take, .copy, .copy, .copy, .copy, .copy, .take, .take, .copy, .copy, .copy, .take, .copy, .copy, .copy, .copy, .copy, .take, .take, .copy, .copy, .copy, .take, .copy, .copy, .copy, .copy, .copy, .copy, .take, .take, .copy, .copy, .copy, .take]), (1000001, [.copy, .copy, .copy, .copy, .frz])]
def k__impl_System__lawsOf : C := (.seq (.reg [(none, .box 4 (.t 0)),(none, .mv 8 .copy (.k (.sc (.bool false))))]) (.seq (.seq (.seq (.frz 4) (.reg [(JlT 9 4 4),(JlT 10 4 4),(Jmc 11 1),(Jmc 12 2),(none, .call .no (some 13) (.k (.fn n__impl_System__plus [])) [(.t 10), (.t 11), (.t 12)]),(Jmc 14 3),(none, .call .no (some 15) (.k (.fn n__impl_System__plus [])) [(.t 9), (.t 13), (.t 14)]),(JlT 16 4 4),(Jmc 17 1),(JlT 18 4 4),(Jmc 19 2),(Jmc 20 3),(none, .call .no (some 21) (.k (.fn n__impl_System__plus [])) [(.t 18), (.t 19), (.t 20)]),(none, .call .no (some 22) (.k (.fn n__impl_System__plus [])) [(.t 16), (.t 17), (.t 21)]),(none, .bin 23 .num .neq (.t 15) (.t 22)),(Jmc 24 23),(some (24, false), .load 25 .take true 4 (.t 4)),(some (24, false), .load 26 .take true 4 (.t 4)),(some (24, false), .mv 27 .copy (.t 1)),(some (24, false), .mv 28 .copy (.t 2)),(some (24, false), .call .no (some 29) (.k (.fn n__impl_System__times [])) [(.t 26), (.t 27), (.t 28)]),(some (24, false), .mv 30 .copy (.t 3)),(some (24, false), .call .no (some 31) (.k (.fn n__impl_System__times [])) [(.t 25), (.t 29), (.t 30)]),(some (24, false), .load 32 .take true 4 (.t 4)),(some (24, false), .mv 33 .copy (.t 1)),(some (24, false), .load 34 .take true 4 (.t 4)),(some (24, false), .mv 35 .copy (.t 2)),(some (24, false), .mv 36 .copy (.t 3)),(some (24, false), .call .no (some 37) (.k (.fn n__impl_System__times [])) [(.t 34), (.t 35), (.t 36)]),(some (24, false), .call .no (some 38) (.k (.fn n__impl_System__times [])) [(.t 32), (.t 33), (.t 37)]),(some (24, false), .bin 39 .num .neq (.t 31) (.t 38)),(none, .pick 40 (.t 24) (.k (.sc (.bool true))) (.t 39))])) (.cond (.t 40) (.seq (.reg [(none, .mv 8 .copy (.k (.sc (.bool false))))])
 .ret)
 .skip)) (.seq (.seq (.reg [(JlT 41 4 4),(Jmc 42 1),(JlT 43 4 4),(Jmc 44 2),(Jmc 45 3),(none, .call .no (some 46) (.k (.fn n__impl_System__plus [])) [(.t 43), (.t 44), (.t 45)]),(none, .call .no (some 47) (.k (.fn n__impl_System__times [])) [(.t 41), (.t 42), (.t 46)]),(JlT 48 4 4),(JlT 49 4 4),(Jmc 50 1),(Jmc 51 2),(none, .call .no (some 52) (.k (.fn n__impl_System__times [])) [(.t 49), (.t 50), (.t 51)]),(JlT 53 4 4),(Jmc 54 1),(Jmc 55 3),(none, .call .no (some 56) (.k (.fn n__impl_System__times [])) [(.t 53), (.t 54), (.t 55)]),(none, .call .no (some 57) (.k (.fn n__impl_System__plus [])) [(.t 48), (.t 52), (.t 56)]),(none, .bin 58 .num .neq (.t 47) (.t 57)),(Jmc 59 58),(some (59, false), .load 60 .take true 4 (.t 4)),(some (59, false), .load 61 .take true 4 (.t 4)),(some (59, false), .mv 62 .copy (.t 1)),(some (59, false), .mv 63 .copy (.t 2)),(some (59, false), .call .no (some 64) (.k (.fn n__impl_System__plus [])) [(.t 61), (.t 62), (.t 63)]),(some (59, false), .mv 65 .copy (.t 3)),(some (59, false), .call .no (some 66) (.k (.fn n__impl_System__times [])) [(.t 60), (.t 64), (.t 65)]),(some (59, false), .load 67 .take true 4 (.t 4)),(some (59, false), .load 68 .take true 4 (.t 4)),(some (59, false), .mv 69 .copy (.t 1)),(some (59, false), .mv 70 .copy (.t 3)),(some (59, false), .call .no (some 71) (.k (.fn n__impl_System__times [])) [(.t 68), (.t 69), (.t 70)]),(some (59, false), .load 72 .take true 4 (.t 4)),(some (59, false), .mv 73 .copy (.t 2)),(some (59, false), .mv 74 .copy (.t 3)),(some (59, false), .call .no (some 75) (.k (.fn n__impl_System__times [])) [(.t 72), (.t 73), (.t 74)]),(some (59, false), .call .no (some 76) (.k (.fn n__impl_System__plus [])) [(.t 67), (.t 71), (.t 75)]),(some (59, false), .bin 77 .num .neq (.t 66) (.t 76)),(none, .pick 78 (.t 59) (.k (.sc (.bool true))) (.t 77))]) (.cond (.t 78) (.seq (.reg [(none, .mv 8 .copy (.k (.sc (.bool false))))])
 .ret)
 .skip)) (.seq (.seq (.reg [(JlT 79 4 4),(Jmc 80 1),(Jmc 81 2),(none, .call .no (some 82) (.k (.fn n__impl_System__below [])) [(.t 79), (.t 80), (.t 81)]),(Jmc 83 82),(some (83, true), .load 84 .take true 4 (.t 4)),(some (83, true), .mv 85 .copy (.t 2)),(some (83, true), .mv 86 .copy (.t 3)),(some (83, true), .call .no (some 87) (.k (.fn n__impl_System__below [])) [(.t 84), (.t 85), (.t 86)]),(none, .pick 88 (.t 83) (.t 87) (.k (.sc (.bool false)))),(Jmc 89 88),(some (89, true), .load 90 .take true 4 (.t 4)),(some (89, true), .mv 91 .copy (.t 1)),(some (89, true), .mv 92 .copy (.t 3)),(some (89, true), .call .no (some 93) (.k (.fn n__impl_System__below [])) [(.t 90), (.t 91), (.t 92)]),(some (89, true), .un 94 .not (.t 93)),(none, .pick 95 (.t 89) (.t 94) (.k (.sc (.bool false))))]) (.cond (.t 95) (.seq (.reg [(none, .mv 8 .copy (.k (.sc (.bool false))))])
 .ret)
 .skip)) (.seq (.reg [(JlT 96 4 4),(Jmc 97 1),(Jmc 98 2),(none, .call .no (some 99) (.k (.fn n__impl_System__below [])) [(.t 96), (.t 97), (.t 98)]),(none, .un 100 .not (.t 99)),(Jmc 101 100),(some (101, false), .load 102 .take true 4 (.t 4)),(some (101, false), .load 103 .take true 4 (.t 4)),(some (101, false), .mv 104 .copy (.t 1)),(some (101, false), .mv 105 .copy (.t 3)),(some (101, false), .call .no (some 106) (.k (.fn n__impl_System__plus [])) [(.t 103), (.t 104), (.t 105)]),(some (101, false), .load 107 .take true 4 (.t 4)),(some (101, false), .mv 108 .copy (.t 2)),(some (101, false), .mv 109 .copy (.t 3)),(some (101, false), .call .no (some 110) (.k (.fn n__impl_System__plus [])) [(.t 107), (.t 108), (.t 109)]),(some (101, false), .call .no (some 111) (.k (.fn n__impl_System__below [])) [(.t 102), (.t 106), (.t 110)]),(some (101, false), .mv 112 .copy (.t 111)),(some (112, true), .load 113 .take true 4 (.t 4)),(some (112, true), .load 114 .take true 4 (.t 4)),(some (112, true), .mv 115 .copy (.t 1)),(some (112, true), .mv 116 .copy (.t 3)),(some (112, true), .call .no (some 117) (.k (.fn n__impl_System__times [])) [(.t 114), (.t 115), (.t 116)]),(some (112, true), .load 118 .take true 4 (.t 4)),(some (112, true), .mv 119 .copy (.t 2)),(some (112, true), .mv 120 .copy (.t 3)),(some (112, true), .call .no (some 121) (.k (.fn n__impl_System__times [])) [(.t 118), (.t 119), (.t 120)]),(some (112, true), .call .no (some 122) (.k (.fn n__impl_System__below [])) [(.t 113), (.t 117), (.t 121)]),(some (101, false), .pick 123 (.t 112) (.t 122) (.k (.sc (.bool false)))),(some (101, false), .mv 124 .copy (.t 123)),(some (124, true), .load 125 .take true 4 (.t 4)),(some (124, true), .load 126 .take true 4 (.t 4)),(some (124, true), .mv 127 .copy (.t 3)),(some (124, true), .mv 128 .copy (.t 1)),(some (124, true), .call .no (some 129) (.k (.fn n__impl_System__times [])) [(.t 126), (.t 127), (.t 128)]),(some (124, true), .load 130 .take true 4 (.t 4)),(some (124, true), .mv 131 .copy (.t 3)),(some (124, true), .mv 132 .copy (.t 2)),(some (124, true), .call .no (some 133) (.k (.fn n__impl_System__times [])) [(.t 130), (.t 131), (.t 132)]),(some (124, true), .call .no (some 134) (.k (.fn n__impl_System__below [])) [(.t 125), (.t 129), (.t 133)]),(some (101, false), .pick 135 (.t 124) (.t 134) (.k (.sc (.bool false)))),(none, .pick 136 (.t 101) (.k (.sc (.bool true))) (.t 135)),(Jmc 8 136)])
 .ret)))))
theorem c__impl_System__lawsOf : codeOf Tryz.prog n__impl_System__lawsOf m__impl_System__lawsOf = some (k__impl_System__lawsOf, [.tmp 8], 137) := by kernel_rfl
def m_slices_ContainsFunc_____int___int_ : List (Nat × List Md) := [(1, [.take, .take])]
def k_slices_ContainsFunc_____int___int_ : C := (.seq (.reg [(none, .mv 4 .copy (.k (.sc (.bool false))))]) (.seq (.reg [(Jmt 5 0),(Jmt 6 1),(none, .call .no (some 7) (.k (.fn n_slices_IndexFunc_____int___int_ [])) [(.t 5), (.t 6)]),(none, .bin 8 .num .geq (.t 7) (.k (N 0))),(Jmc 4 8)])
 .ret))
theorem c_slices_ContainsFunc_____int___int_ : codeOf Tryz.prog n_slices_ContainsFunc_____int___int_ m_slices_ContainsFunc_____int___int_ = some (k_slices_ContainsFunc_____int___int_, [.tmp 4], 9) := by kernel_rfl
def m_impl_isContext_1 : List (Nat × List Md) := [(1, [.copy, .take])]
def k_impl_isContext_1 : C := (.seq (.reg [(none, .mv 3 .copy (.k (.sc (.bool false))))]) (.seq (.reg [(JlC 4 4 1),(Jmt 5 0),(none, .call .no (some 6) (.k (.fn n_impl_isTypeOf [])) [(.t 4), (.t 5)]),(none, .un 7 .not (.t 6)),(Jmc 3 7)])
 .ret))
theorem c_impl_isContext_1 : codeOf Tryz.prog n_impl_isContext_1 m_impl_isContext_1 = some (k_impl_isContext_1, [.tmp 3], 8) := by kernel_rfl
def m_impl_added : List (Nat × List Md) := [(1, [.copy, .take]), (2, [.copy, .take, .copy, .take]), (3, [.copy, .take]), (5, [.take, .copy, .take]), (6, [.copy, .take]), (8, [.copy, .copy, .copy, .copy, .copy, .copy, .copy, .take]), (10, [.take, .copy, .copy, .copy, .copy, .copy, .take]), (11, [.take, .take]), (1000001, [.copy, .copy, .copy, .frz])]
def k_impl_added : C := (.seq (.reg [(none, .box 3 (.t 0)),(none, .mv 6 .copy (.k (.sl true true 1 [])))]) (.seq (.block 0 (.seq (.seq (.frz 3) (.reg [(Jfa 9 0 3),(Jlt 10 1 9),(Jbe 11 10 9),(Jmc 8 11)])) (.cond (.t 8) (.seq (.reg [(Jfa 12 2 3),(Jlt 13 1 12),(none, .bslice 14 1 1 [(.sl true true 1 [])] [(0, 1, (.t 13))]),(Jmt 6 14)])
 .ret) (.seq (.reg [(Jfa 16 0 3),(Jlt 17 1 16),(Jmc 18 1),(none, .call .no (some 19) (.k (.fn n_impl_adds [])) [(.t 17), (.t 18)]),(Jbe 20 19 0),(Jmc 15 20)]) (.cond (.t 15) (.seq (.reg [(none, .mv 6 .copy (.k (.sl true true 1 [])))])
 .ret)
 .skip))))) (.seq (.reg [(Jmt 21 2),(none, .call .no (some 22) (.k (.fn n_impl_parts [])) [(.t 21)]),(Jmt 7 22)]) (.seq (.seq (.reg [(Jfa 23 0 3),(Jlt 24 1 23)]) (.block 1 (.seq (.reg [(Jbe 26 24 5),(Jmc 25 26)]) (.cond (.t 25) (.seq (.reg [(Jmc 27 7),(none, .indexA 28 1 (.t 27) (.k (N 1))),(Jlc 29 1 28),(Jmc 30 7),(none, .indexA 31 1 (.t 30) (.k (N 0))),(Jlc 32 1 31),(none, .bslice 33 1 2 [(.sl true true 1 []), (.sl true true 1 [])] [(0, 1, (.t 29)), (1, 1, (.t 32))]),(Jmt 6 33)])
 .ret) (.seq (.reg [(Jbe 35 24 8),(Jmc 34 35)]) (.cond (.t 34) (.seq (.reg [(Jmt 36 7),(Jmc 37 1),(none, .bin 38 .num .sub (.t 37) (.k (N 1))),(Jia 39 1 36 38),(Jlc 40 1 39),(none, .bslice 41 1 1 [(.sl true true 1 [])] [(0, 1, (.t 40))]),(Jmt 6 41)])
 .ret)
 .skip)))))) (.seq (.reg [(Jmt 42 7),(Jmt 6 42)])
 .ret)))))
theorem c_impl_added : codeOf Tryz.prog n_impl_added m_impl_added = some (k_impl_added, [.tmp 6], 43) := by kernel_rfl
def m_slices_Concat_____int___int_ : List (Nat × List Md) := [(4, [.copy, .copy, .take]), (5, [.copy, .take]), (9, [.copy, .copy, .take]), (10, [.take]), (12, [.copy, .copy, .take]), (13, [.take, .take, .copy, .take]), (15, [.take, .take])]
def k_slices_Concat_____int___int_ : C := (.seq (.reg [(none, .mv 2 .copy (.k (.sl true true 1 [])))]) (.seq (.reg [(none, .mv 3 .copy (.k (N 0)))]) (.seq (.seq (.reg [(Jmc 9 0),(Jln 10 9),(none, .mv 11 .copy (.k (N 0)))]) (.block 0 (.loop (.seq (.reg [(Jbl 12 11 10)]) (.seq (.cond (.t 12)
 .skip (.exit 0)) (.seq (.block 1 (.seq (.reg [(Jia 13 1 9 11),(Jlc 14 1 13),(Jmt 5 14)]) (.seq (.reg [(Jmc 15 3),(Jmt 16 5),(Jln 17 16),(none, .bin 18 .num .add (.t 15) (.t 17)),(Jmc 3 18)]) (.seq (.reg [(Jmc 19 3),(none, .bin 20 .num .lss (.t 19) (.k (N 0)))]) (.cond (.t 20) (.reg [(none, .bad (some 21)),(none, .bad none)])
 .skip))))) (.reg [(Jba 22 11 1),(Jmc 11 22)]))))))) (.seq (.reg [(Jmc 23 3),(none, .call .no (some 24) (.k (.fn n_slices_Grow_____int___int_ [])) [(.k (.sl true true 1 [])), (.t 23)]),(Jmt 6 24)]) (.seq (.seq (.reg [(Jmt 25 0),(Jln 26 25),(none, .mv 27 .copy (.k (N 0)))]) (.block 2 (.loop (.seq (.reg [(Jbl 28 27 26)]) (.seq (.cond (.t 28)
 .skip (.exit 2)) (.seq (.block 3 (.seq (.reg [(Jia 29 1 25 27),(Jlc 30 1 29),(Jmt 8 30)]) (.reg [(Jmt 31 6),(Jmt 32 8),(none, .append 33 1 (.t 31) (.t 32)),(Jmt 6 33)]))) (.reg [(Jba 34 27 1),(Jmc 27 34)]))))))) (.seq (.reg [(Jmt 35 6),(Jmt 2 35)])
 .ret))))))
theorem c_slices_Concat_____int___int_ : codeOf Tryz.prog n_slices_Concat_____int___int_ m_slices_Concat_____int___int_ = some (k_slices_Concat_____int___int_, [.tmp 2], 36) := by kernel_rfl
def m__impl_typer__firstOk : List (Nat × List Md) := [(1, [.take, .copy, .copy, .copy, .take]), (3, [.copy, .take]), (4, [.copy, .take]), (6, [.copy, .take]), (8, [.copy, .take]), (10, [.copy, .take]), (12, [.copy, .take]), (16, [.copy, .copy, .copy, .copy, .take, .copy, .copy, .copy, .take, .copy, .copy, .copy, .copy, .take, .copy, .copy, .copy, .copy, .copy, .take, .copy, .take]), (1000001, [.copy, .copy, .copy, .copy, .frz, .frz])]
def k__impl_typer__firstOk : C := (.seq (.reg [(none, .box 4 (.t 0)),(none, .box 5 (.t 1)),(none, .mv 8 .copy (.k (N 0)))]) (.seq (.seq (.frz 4) (.seq (.frz 5) (.reg [(Jmt 14 3),(none, .indexA 15 1 (.t 14) (.k (N 0))),(Jlc 16 1 15),(none, .call .no (some 17) (.k (.fn n_impl_shape [])) [(.t 16)]),(Jmt 13 17),(none, .extract 18 0 (.t 13)),(none, .extract 19 1 (.t 13)),(Jmc 9 18),(Jmc 10 19)]))) (.seq (.reg [(none, .mv 11 .copy (.k (N (-1)))),(none, .mv 12 .copy (.k (N 0)))]) (.seq (.block 0 (.seq (.seq (.reg [(Jfa 21 0 5),(Jlt 22 1 21),(Jbe 23 22 2),(Jmc 20 23)]) (.cond (.t 20)
 .skip (.reg [(Jfa 24 0 5),(Jlt 25 1 24),(Jbe 26 25 3),(Jmc 27 26),(some (27, true), .mv 28 .copy (.t 2)),(some (27, true), .bin 29 .num .eql (.t 28) (.k (N 0))),(none, .pick 30 (.t 27) (.t 29) (.k (.sc (.bool false)))),(Jmc 20 30)]))) (.cond (.t 20) (.reg [(none, .mv 11 .copy (.k (N 0))),(none, .mv 12 .copy (.k (N 2)))]) (.seq (.reg [(Jfa 32 0 5),(Jlt 33 1 32),(Jbe 34 33 5),(Jmc 35 34),(some (35, true), .mv 36 .copy (.t 2)),(some (35, true), .bin 37 .num .eql (.t 36) (.k (N 0))),(none, .pick 38 (.t 35) (.t 37) (.k (.sc (.bool false)))),(Jmc 31 38)]) (.cond (.t 31) (.reg [(none, .mv 11 .copy (.k (N 1))),(none, .mv 12 .copy (.k (N 4)))]) (.seq (.reg [(Jfa 40 0 5),(Jlt 41 1 40),(Jbe 42 41 8),(Jmc 43 42),(some (43, true), .mv 44 .copy (.t 2)),(some (43, true), .bin 45 .num .eql (.t 44) (.k (N 0))),(none, .pick 46 (.t 43) (.t 45) (.k (.sc (.bool false)))),(Jmc 39 46)]) (.cond (.t 39) (.reg [(none, .mv 11 .copy (.k (N 2))),(none, .mv 12 .copy (.k (N 5)))]) (.seq (.reg [(Jfa 48 0 5),(Jlt 49 1 48),(Jbe 50 49 10),(Jmc 51 50),(some (51, true), .mv 52 .copy (.t 2)),(some (51, true), .bin 53 .num .eql (.t 52) (.k (N 0))),(none, .pick 54 (.t 51) (.t 53) (.k (.sc (.bool false)))),(Jmc 47 54)]) (.cond (.t 47) (.reg [(none, .mv 11 .copy (.k (N 3))),(none, .mv 12 .copy (.k (N 6)))]) (.seq (.reg [(Jfa 56 0 5),(Jlt 57 1 56),(Jbe 58 57 12),(Jmc 59 58),(some (59, true), .mv 60 .copy (.t 2)),(some (59, true), .bin 61 .num .eql (.t 60) (.k (N 0))),(none, .pick 62 (.t 59) (.t 61) (.k (.sc (.bool false)))),(Jmc 55 62)]) (.cond (.t 55) (.reg [(none, .mv 11 .copy (.k (N 4))),(none, .mv 12 .copy (.k (N 7)))])
 .skip))))))))))) (.seq (.seq (.reg [(Jmc 63 11),(none, .bin 64 .num .geq (.t 63) (.k (N 0))),(Jmc 65 64),(some (65, true), .mv 66 .copy (.t 9)),(some (65, true), .mv 67 .copy (.t 11)),(some (65, true), .bin 68 .num .neq (.t 66) (.t 67)),(none, .pick 69 (.t 65) (.t 68) (.k (.sc (.bool false))))]) (.cond (.t 69) (.seq (.reg [(Jmc 70 12),(Jmc 8 70)])
 .ret)
 .skip)) (.seq (.seq (.reg [(Jmc 71 2),(Jbe 72 71 0),(Jmc 73 72),(some (73, true), .fieldA 74 0 (.t 5)),(some (73, true), .load 75 .take false 1 (.t 74)),(some (73, true), .bin 76 .num .eql (.t 75) (.k (N 5))),(some (73, true), .mv 77 .copy (.t 76)),(some (77, false), .fieldA 78 0 (.t 5)),(some (77, false), .load 79 .take false 1 (.t 78)),(some (77, false), .bin 80 .num .eql (.t 79) (.k (N 8))),(some (73, true), .pick 81 (.t 77) (.k (.sc (.bool true))) (.t 80)),(some (73, true), .mv 82 .copy (.t 81)),(some (82, false), .fieldA 83 0 (.t 5)),(some (82, false), .load 84 .take false 1 (.t 83)),(some (82, false), .bin 85 .num .eql (.t 84) (.k (N 12))),(some (73, true), .pick 86 (.t 82) (.k (.sc (.bool true))) (.t 85)),(none, .pick 87 (.t 73) (.t 86) (.k (.sc (.bool false)))),(Jmc 88 87),(some (88, true), .fieldA 89 0 (.t 4)),(some (88, true), .load 90 .take true 4 (.t 89)),(some (88, true), .fieldA 91 1 (.t 5)),(some (88, true), .load 92 .take false 1 (.t 91)),(some (88, true), .call .no (some 93) (.k (.fn n__impl_System__below [])) [(.t 90), (.k (N 1)), (.t 92)]),(some (88, true), .un 94 .not (.t 93)),(none, .pick 95 (.t 88) (.t 94) (.k (.sc (.bool false))))]) (.cond (.t 95) (.seq (.reg [(none, .mv 8 .copy (.k (N 8)))])
 .ret)
 .skip)) (.seq (.reg [(none, .mv 8 .copy (.k (N 0)))])
 .ret)))))))
theorem c__impl_typer__firstOk : codeOf Tryz.prog n__impl_typer__firstOk m__impl_typer__firstOk = some (k__impl_typer__firstOk, [.tmp 8], 96) := by kernel_rfl
def m__impl_typer__finish : List (Nat × List Md) := [(1, [.copy, .take]), (2, [.copy, .take]), (4, [.take, .take, .copy, .take]), (5, [.take, .copy, .copy, .copy, .copy, .take]), (7, [.take]), (9, [.take, .take, .copy, .take]), (11, [.copy, .take, .copy, .take]), (13, [.take, .take, .take, .take, .take, .copy, .copy, .take, .take, .copy, .copy, .take, .copy, .copy, .take]), (15, [.take, .take, .copy, .copy, .take, .copy, .take, .copy, .copy, .take, .copy, .copy, .take, .copy, .copy, .take]), (17, [.take, .take, .copy, .copy, .copy, .take]), (19, [.take, .take, .take, .take, .take, .take, .copy, .take, .copy, .copy, .take, .copy, .copy, .copy, .take]), (21, [.take, .take, .copy, .take, .take, .copy, .take, .copy, .copy, .take, .copy, .take]), (23, [.take, .take, .copy, .copy, .take, .take, .take, .copy, .copy, .take, .copy, .take]), (25, [.copy, .take, .copy, .take]), (27, [.take, .copy, .copy, .copy, .copy, .take, .copy, .copy, .copy, .take, .copy, .copy, .copy, .copy, .take]), (29, [.take, .take, .take, .take, .take, .take, .copy, .take, .copy, .copy, .take, .copy, .take, .copy, .copy, .take, .copy, .copy, .take]), (31, [.take, .take, .copy, .copy, .copy, .take]), (33, [.take, .take, .copy, .take, .copy, .copy, .copy, .take, .take, .take, .copy, .copy, .take, .copy, .take]), (35, [.copy, .take, .copy, .copy, .copy, .take]), (36, [.take, .take, .take, .take, .copy, .copy, .take, .take, .copy, .copy, .take, .take, .copy, .copy, .copy, .take]), (38, [.take, .take, .copy, .take, .copy, .copy, .take, .take, .copy, .copy, .take, .copy, .take, .take, .copy, .take]), (40, [.copy, .take, .copy, .copy, .copy, .take]), (41, [.take, .take, .copy, .copy, .copy, .take, .copy, .take]), (43, [.take, .take, .take, .take, .take, .take, .copy, .take, .copy, .copy, .take, .copy, .copy, .copy, .take]), (44, [.take]), (1000001, [.copy, .copy, .copy, .copy, .copy, .copy, .frz, .frz, .copy, .frz])]
def k__impl_typer__finish : C := (.seq (.reg [(none, .box 6 (.t 0)),(none, .box 7 (.t 1)),(none, .box 9 (.t 3)),(none, .mv 12 .copy (.k (N 0)))]) (.seq (.seq (.frz 6) (.seq (.frz 7) (.seq (.frz 9) (.reg [(none, .mkfn 18 n__impl_typer__finish_1 false [(.t 7)]),(Jmt 13 18)])))) (.seq (.seq (.reg [(Jfa 19 0 9),(Jlt 20 1 19)]) (.block 0 (.seq (.reg [(Jbe 22 20 0),(Jmc 21 22)]) (.cond (.t 21) (.seq (.reg [(Jlt 23 1 7),(Jmt 24 2),(Jfa 25 1 9),(Jlt 26 1 25),(Jia 27 1 24 26),(Jlc 28 1 27),(none, .call .no (some 29) (.k (.fn n_slices_Clone___int_int_ [])) [(.t 28)]),(none, .nilchk 30 (.t 23)),(Jfa 31 0 30),(Jst 1 31 29)]) (.reg [(Jlt 32 1 7),(none, .nilchk 33 (.t 32)),(Jfa 34 1 33),(Jlc 35 1 34),(Jfa 36 1 9),(Jlt 37 1 36),(Jia 38 1 35 37),(none, .store 1 (.t 38) (.k (N 1)))])) (.seq (.reg [(Jbe 40 20 1),(Jmc 39 40)]) (.cond (.t 39) (.reg [(Jlt 41 1 7),(none, .bslice 42 1 1 [(N 0)] [(0, 1, (.k (N 0)))]),(none, .nilchk 43 (.t 41)),(Jfa 44 0 43),(Jst 1 44 42)]) (.seq (.reg [(Jbe 46 20 2),(Jmc 45 46)]) (.cond (.t 45) (.reg [(Jlt 47 1 7),(Jlt 48 1 7),(none, .bslice 49 1 1 [(N 0)] [(0, 1, (.k (N 0)))]),(JlT 50 4 6),(Jmc 51 4),(none, .indexA 52 1 (.t 51) (.k (N 0))),(Jlc 53 1 52),(Jmc 54 4),(none, .indexA 55 1 (.t 54) (.k (N 1))),(Jlc 56 1 55),(none, .call .no (some 57) (.k (.fn n__impl_typer__sum [])) [(.t 50), (.t 53), (.t 56)]),(none, .nilchk 58 (.t 47)),(Jfa 59 0 58),(Jst 1 59 49),(none, .nilchk 60 (.t 48)),(Jfa 61 1 60),(Jst 1 61 57)]) (.seq (.reg [(Jbe 63 20 3),(Jmc 62 63)]) (.cond (.t 62) (.seq (.seq (.reg [(Jmc 64 13),(none, .call .any (some 65) (.t 64) [(.k (N 1))]),(Jmc 66 13),(none, .call .any (some 67) (.t 66) [(.k (N 2))]),(none, .call .no (some 68) (.k (.fn n_slices_Equal___int_int_ [])) [(.t 65), (.t 67)]),(none, .un 69 .not (.t 68))]) (.cond (.t 69) (.seq (.reg [(none, .mv 12 .copy (.k (N 3)))])
 .ret)
 .skip)) (.reg [(Jlt 70 1 7),(Jlt 71 1 7),(Jmt 72 13),(none, .call .any (some 73) (.t 72) [(.k (N 1))]),(JlT 74 4 6),(Jmc 75 4),(none, .indexA 76 1 (.t 75) (.k (N 0))),(Jlt 77 1 76),(JlT 78 4 6),(Jmc 79 4),(none, .indexA 80 1 (.t 79) (.k (N 1))),(Jlt 81 1 80),(Jmc 82 4),(none, .indexA 83 1 (.t 82) (.k (N 2))),(Jlt 84 1 83),(none, .call .no (some 85) (.k (.fn n__impl_typer__join [])) [(.t 78), (.t 81), (.t 84)]),(none, .call .no (some 86) (.k (.fn n__impl_typer__sum [])) [(.t 74), (.t 77), (.t 85)]),(none, .nilchk 87 (.t 70)),(Jfa 88 0 87),(Jst 1 88 73),(none, .nilchk 89 (.t 71)),(Jfa 90 1 89),(Jst 1 90 86)])) (.seq (.reg [(Jbe 92 20 4),(Jmc 91 92)]) (.cond (.t 91) (.reg [(Jlt 93 1 7),(Jlt 94 1 7),(none, .bslice 95 1 1 [(N 0)] [(0, 1, (.k (N 1)))]),(Jmc 96 13),(none, .call .any (some 97) (.t 96) [(.k (N 0))]),(Jmc 98 13),(none, .call .any (some 99) (.t 98) [(.k (N 1))]),(none, .bslice 100 1 3 [(.sl true true 1 []), (.sl true true 1 []), (.sl true true 1 [])] [(0, 1, (.t 95)), (1, 1, (.t 97)), (2, 1, (.t 99))]),(none, .call .no (some 101) (.k (.fn n_slices_Concat___int_int_ [])) [(.t 100)]),(JlT 102 4 6),(Jmc 103 4),(none, .indexA 104 1 (.t 103) (.k (N 0))),(Jlt 105 1 104),(Jmc 106 4),(none, .indexA 107 1 (.t 106) (.k (N 1))),(Jlt 108 1 107),(none, .call .no (some 109) (.k (.fn n__impl_typer__sum [])) [(.t 102), (.t 105), (.t 108)]),(none, .nilchk 110 (.t 93)),(Jfa 111 0 110),(Jst 1 111 101),(none, .nilchk 112 (.t 94)),(Jfa 113 1 112),(Jst 1 113 109)]) (.seq (.reg [(Jbe 115 20 5),(Jmc 114 115)]) (.cond (.t 114) (.seq (.seq (.reg [(JlT 116 4 6),(Jmt 117 5),(none, .indexA 118 1 (.t 117) (.k (N 1))),(Jlc 119 1 118),(Jfa 120 1 9),(Jlt 121 1 120),(none, .call .no (some 122) (.k (.fn n__impl_typer__usedOk [])) [(.t 116), (.t 119), (.t 121)]),(none, .un 123 .not (.t 122))]) (.cond (.t 123) (.seq (.reg [(none, .mv 12 .copy (.k (N 9)))])
 .ret)
 .skip)) (.reg [(Jlt 124 1 7),(Jlt 125 1 7),(Jmt 126 13),(none, .call .any (some 127) (.t 126) [(.k (N 1))]),(JlT 128 4 6),(JlT 129 4 6),(Jfa 130 1 9),(Jlt 131 1 130),(Jmc 132 4),(none, .indexA 133 1 (.t 132) (.k (N 0))),(Jlt 134 1 133),(none, .call .no (some 135) (.k (.fn n__impl_typer__scaled [])) [(.t 129), (.t 131), (.t 134)]),(Jmc 136 4),(none, .indexA 137 1 (.t 136) (.k (N 1))),(Jlt 138 1 137),(none, .call .no (some 139) (.k (.fn n__impl_typer__sum [])) [(.t 128), (.t 135), (.t 138)]),(none, .nilchk 140 (.t 124)),(Jfa 141 0 140),(Jst 1 141 127),(none, .nilchk 142 (.t 125)),(Jfa 143 1 142),(Jst 1 143 139)])) (.seq (.reg [(Jbe 145 20 6),(Jmc 144 145)]) (.cond (.t 144) (.reg [(Jlt 146 1 7),(Jlt 147 1 7),(none, .bslice 148 1 1 [(N 0)] [(0, 1, (.k (N 2)))]),(Jmt 149 13),(none, .call .any (some 150) (.t 149) [(.k (N 0))]),(Jfa 151 2 9),(Jlt 152 1 151),(none, .bslice 153 1 3 [(.sl true true 1 []), (.sl true true 1 []), (.sl true true 1 [])] [(0, 1, (.t 148)), (1, 1, (.t 150)), (2, 1, (.t 152))]),(none, .call .no (some 154) (.k (.fn n_slices_Concat___int_int_ [])) [(.t 153)]),(Jmt 155 4),(none, .indexA 156 1 (.t 155) (.k (N 0))),(Jlt 157 1 156),(none, .nilchk 158 (.t 146)),(Jfa 159 0 158),(Jst 1 159 154),(none, .nilchk 160 (.t 147)),(Jfa 161 1 160),(Jst 1 161 157)]) (.seq (.reg [(Jbe 163 20 7),(Jmc 162 163)]) (.cond (.t 162) (.reg [(Jlt 164 1 7),(Jlt 165 1 7),(none, .bslice 166 1 1 [(N 0)] [(0, 1, (.k (N 2)))]),(Jfa 167 2 9),(Jlt 168 1 167),(Jmt 169 13),(none, .call .any (some 170) (.t 169) [(.k (N 0))]),(none, .bslice 171 1 3 [(.sl true true 1 []), (.sl true true 1 []), (.sl true true 1 [])] [(0, 1, (.t 166)), (1, 1, (.t 168)), (2, 1, (.t 170))]),(none, .call .no (some 172) (.k (.fn n_slices_Concat___int_int_ [])) [(.t 171)]),(Jmt 173 4),(none, .indexA 174 1 (.t 173) (.k (N 0))),(Jlt 175 1 174),(none, .nilchk 176 (.t 164)),(Jfa 177 0 176),(Jst 1 177 172),(none, .nilchk 178 (.t 165)),(Jfa 179 1 178),(Jst 1 179 175)]) (.seq (.reg [(Jbe 181 20 8),(Jmc 180 181)]) (.cond (.t 180) (.seq (.seq (.reg [(Jmc 182 13),(none, .call .any (some 183) (.t 182) [(.k (N 1))]),(Jmc 184 13),(none, .call .any (some 185) (.t 184) [(.k (N 2))]),(none, .call .no (some 186) (.k (.fn n_slices_Equal___int_int_ [])) [(.t 183), (.t 185)]),(none, .un 187 .not (.t 186))]) (.cond (.t 187) (.seq (.reg [(none, .mv 12 .copy (.k (N 3)))])
 .ret)
 .skip)) (.seq (.seq (.reg [(JlT 188 4 6),(Jmc 189 5),(none, .indexA 190 1 (.t 189) (.k (N 1))),(Jlc 191 1 190),(Jfa 192 1 9),(Jlt 193 1 192),(none, .call .no (some 194) (.k (.fn n__impl_typer__usedOk [])) [(.t 188), (.t 191), (.t 193)]),(none, .un 195 .not (.t 194)),(Jmc 196 195),(some (196, false), .load 197 .take true 4 (.t 6)),(some (196, false), .mv 198 .copy (.t 5)),(some (196, false), .indexA 199 1 (.t 198) (.k (N 2))),(some (196, false), .load 200 .copy false 1 (.t 199)),(some (196, false), .fieldA 201 1 (.t 9)),(some (196, false), .load 202 .take false 1 (.t 201)),(some (196, false), .call .no (some 203) (.k (.fn n__impl_typer__usedOk [])) [(.t 197), (.t 200), (.t 202)]),(some (196, false), .un 204 .not (.t 203)),(none, .pick 205 (.t 196) (.k (.sc (.bool true))) (.t 204))]) (.cond (.t 205) (.seq (.reg [(none, .mv 12 .copy (.k (N 9)))])
 .ret)
 .skip)) (.reg [(Jlt 206 1 7),(Jlt 207 1 7),(Jmt 208 13),(none, .call .any (some 209) (.t 208) [(.k (N 1))]),(JlT 210 4 6),(JlT 211 4 6),(Jfa 212 1 9),(Jlt 213 1 212),(Jmc 214 4),(none, .indexA 215 1 (.t 214) (.k (N 0))),(Jlt 216 1 215),(none, .call .no (some 217) (.k (.fn n__impl_typer__scaled [])) [(.t 211), (.t 213), (.t 216)]),(JlT 218 4 6),(Jmc 219 4),(none, .indexA 220 1 (.t 219) (.k (N 1))),(Jlt 221 1 220),(Jmc 222 4),(none, .indexA 223 1 (.t 222) (.k (N 2))),(Jlt 224 1 223),(none, .call .no (some 225) (.k (.fn n__impl_typer__join [])) [(.t 218), (.t 221), (.t 224)]),(none, .call .no (some 226) (.k (.fn n__impl_typer__sum [])) [(.t 210), (.t 217), (.t 225)]),(none, .nilchk 227 (.t 206)),(Jfa 228 0 227),(Jst 1 228 209),(none, .nilchk 229 (.t 207)),(Jfa 230 1 229),(Jst 1 230 226)]))) (.seq (.reg [(Jbe 232 20 9),(Jmc 231 232)]) (.cond (.t 231) (.seq (.seq (.reg [(JlT 233 4 6),(Jmt 234 5),(none, .indexA 235 1 (.t 234) (.k (N 0))),(Jlc 236 1 235),(Jfa 237 1 9),(Jlt 238 1 237),(none, .call .no (some 239) (.k (.fn n__impl_typer__usedOk [])) [(.t 233), (.t 236), (.t 238)]),(none, .un 240 .not (.t 239))]) (.cond (.t 240) (.seq (.reg [(none, .mv 12 .copy (.k (N 9)))])
 .ret)
 .skip)) (.reg [(Jlt 241 1 7),(Jlt 242 1 7),(Jfa 243 1 9),(Jlt 244 1 243),(none, .bin 245 .num .add (.k (N 3)) (.t 244)),(none, .bslice 246 1 1 [(N 0)] [(0, 1, (.t 245))]),(Jfa 247 2 9),(Jlt 248 1 247),(Jmt 249 13),(none, .call .any (some 250) (.t 249) [(.k (N 0))]),(none, .bslice 251 1 3 [(.sl true true 1 []), (.sl true true 1 []), (.sl true true 1 [])] [(0, 1, (.t 246)), (1, 1, (.t 248)), (2, 1, (.t 250))]),(none, .call .no (some 252) (.k (.fn n_slices_Concat___int_int_ [])) [(.t 251)]),(Jmt 253 4),(none, .indexA 254 1 (.t 253) (.k (N 0))),(Jlt 255 1 254),(none, .nilchk 256 (.t 241)),(Jfa 257 0 256),(Jst 1 257 252),(none, .nilchk 258 (.t 242)),(Jfa 259 1 258),(Jst 1 259 255)])) (.seq (.reg [(Jbe 261 20 10),(Jmc 260 261)]) (.cond (.t 260) (.seq (.reg [(Jmc 263 13),(none, .call .any (some 264) (.t 263) [(.k (N 0))]),(none, .indexA 265 1 (.t 264) (.k (N 0))),(Jlc 266 1 265),(none, .call .no (some 267) (.k (.fn n_impl_shape [])) [(.t 266)]),(Jmt 262 267),(none, .extract 268 0 (.t 262)),(none, .extract 269 1 (.t 262)),(Jmc 14 268),(Jmc 15 269)]) (.reg [(Jlt 270 1 7),(Jlt 271 1 7),(Jmt 272 13),(none, .call .any (some 273) (.t 272) [(.k (N 0))]),(none, .call .no (some 274) (.k (.fn n_impl_parts [])) [(.t 273)]),(none, .indexA 275 1 (.t 274) (.k (N 1))),(Jlt 276 1 275),(JlT 277 4 6),(Jmc 278 4),(none, .indexA 279 1 (.t 278) (.k (N 0))),(Jlt 280 1 279),(JlT 281 4 6),(Jmc 282 15),(Jmc 283 4),(none, .indexA 284 1 (.t 283) (.k (N 1))),(Jlt 285 1 284),(none, .call .no (some 286) (.k (.fn n__impl_typer__scaled [])) [(.t 281), (.t 282), (.t 285)]),(none, .call .no (some 287) (.k (.fn n__impl_typer__sum [])) [(.t 277), (.t 280), (.t 286)]),(none, .nilchk 288 (.t 270)),(Jfa 289 0 288),(Jst 1 289 276),(none, .nilchk 290 (.t 271)),(Jfa 291 1 290),(Jst 1 291 287)])) (.seq (.reg [(Jbe 293 20 11),(Jmc 292 293)]) (.cond (.t 292) (.reg [(Jlt 294 1 7),(Jlt 295 1 7),(Jfa 296 1 9),(Jlt 297 1 296),(none, .bin 298 .num .add (.k (N 19)) (.t 297)),(none, .bslice 299 1 1 [(N 0)] [(0, 1, (.t 298))]),(Jmt 300 13),(none, .call .any (some 301) (.t 300) [(.k (N 0))]),(none, .bslice 302 1 2 [(.sl true true 1 []), (.sl true true 1 [])] [(0, 1, (.t 299)), (1, 1, (.t 301))]),(none, .call .no (some 303) (.k (.fn n_slices_Concat___int_int_ [])) [(.t 302)]),(JlT 304 4 6),(Jfa 305 1 9),(Jlt 306 1 305),(Jmt 307 4),(none, .indexA 308 1 (.t 307) (.k (N 0))),(Jlt 309 1 308),(none, .call .no (some 310) (.k (.fn n__impl_typer__scaled [])) [(.t 304), (.t 306), (.t 309)]),(none, .nilchk 311 (.t 294)),(Jfa 312 0 311),(Jst 1 312 303),(none, .nilchk 313 (.t 295)),(Jfa 314 1 313),(Jst 1 314 310)]) (.seq (.reg [(Jbe 316 20 12),(Jmc 315 316)]) (.cond (.t 315) (.seq (.reg [(Jmc 318 13),(none, .call .any (some 319) (.t 318) [(.k (N 0))]),(none, .indexA 320 1 (.t 319) (.k (N 0))),(Jlc 321 1 320),(none, .call .no (some 322) (.k (.fn n_impl_shape [])) [(.t 321)]),(Jmt 317 322),(none, .extract 323 0 (.t 317)),(none, .extract 324 1 (.t 317)),(Jmc 16 323),(Jmc 17 324)]) (.seq (.seq (.reg [(JlT 325 4 6),(Jmt 326 5),(none, .indexA 327 1 (.t 326) (.k (N 1))),(Jlc 328 1 327),(Jfa 329 0 6),(JlT 330 4 329),(Jfa 331 1 9),(Jlt 332 1 331),(Jmc 333 17),(none, .call .no (some 334) (.k (.fn n__impl_System__times [])) [(.t 330), (.t 332), (.t 333)]),(none, .call .no (some 335) (.k (.fn n__impl_typer__usedOk [])) [(.t 325), (.t 328), (.t 334)]),(none, .un 336 .not (.t 335))]) (.cond (.t 336) (.seq (.reg [(none, .mv 12 .copy (.k (N 9)))])
 .ret)
 .skip)) (.reg [(Jlt 337 1 7),(Jlt 338 1 7),(Jmt 339 13),(none, .call .any (some 340) (.t 339) [(.k (N 1))]),(JlT 341 4 6),(JlT 342 4 6),(Jfa 343 1 9),(Jlt 344 1 343),(Jmc 345 4),(none, .indexA 346 1 (.t 345) (.k (N 0))),(Jlt 347 1 346),(none, .call .no (some 348) (.k (.fn n__impl_typer__scaled [])) [(.t 342), (.t 344), (.t 347)]),(Jmc 349 4),(none, .indexA 350 1 (.t 349) (.k (N 1))),(Jlt 351 1 350),(none, .call .no (some 352) (.k (.fn n__impl_typer__sum [])) [(.t 341), (.t 348), (.t 351)]),(none, .nilchk 353 (.t 337)),(Jfa 354 0 353),(Jst 1 354 340),(none, .nilchk 355 (.t 338)),(Jfa 356 1 355),(Jst 1 356 352)])))
 .skip)))))))))))))))))))))))))))) (.seq (.seq (.reg [(Jlt 357 1 7),(none, .nilchk 358 (.t 357)),(Jfa 359 0 358),(Jlc 360 1 359),(none, .call .no (some 361) (.k (.fn n_impl_long [])) [(.t 360)])]) (.cond (.t 361) (.seq (.reg [(none, .mv 12 .copy (.k (N 3)))])
 .ret)
 .skip)) (.seq (.reg [(none, .mv 12 .copy (.k (N 0)))])
 .ret)))))
theorem c__impl_typer__finish : codeOf Tryz.prog n__impl_typer__finish m__impl_typer__finish = some (k__impl_typer__finish, [.tmp 12], 362) := by kernel_rfl
def m_impl_isWrittenType : List (Nat × List Md) := [(1, [.copy, .copy, .copy, .copy, .copy, .copy, .take])]
def k_impl_isWrittenType : C := (.seq (.reg [(none, .mv 2 .copy (.k (.sc (.bool false))))]) (.seq (.reg [(Jmc 3 0),(Jln 4 3),(none, .call .no (some 5) (.k (.fn n_impl_within [])) [(.t 4), (.k (N 1)), (.k (N 40))]),(Jmc 6 5),(some (6, true), .mv 7 .copy (.t 0)),(some (6, true), .call .no (some 8) (.k (.fn n_impl_typeEnd [])) [(.t 7), (.k (N 0))]),(some (6, true), .mv 9 .take (.t 0)),(some (6, true), .len 10 (.t 9)),(some (6, true), .bin 11 .num .eql (.t 8) (.t 10)),(none, .pick 12 (.t 6) (.t 11) (.k (.sc (.bool false)))),(Jmc 2 12)])
 .ret))
theorem c_impl_isWrittenType : codeOf Tryz.prog n_impl_isWrittenType m_impl_isWrittenType = some (k_impl_isWrittenType, [.tmp 2], 13) := by kernel_rfl
def m_impl_typeEnd : List (Nat × List Md) := [(3, [.copy, .copy, .copy, .copy, .copy, .take]), (8, [.take]), (11, [.copy, .take])]
def k_impl_typeEnd : C := (.seq (.reg [(none, .mv 4 .copy (.k (N 0)))]) (.seq (.seq (.reg [(Jmc 7 1),(none, .bin 8 .num .lss (.t 7) (.k (N 0))),(Jmc 9 8),(some (9, false), .mv 10 .copy (.t 1)),(some (9, false), .mv 11 .copy (.t 0)),(some (9, false), .len 12 (.t 11)),(some (9, false), .bin 13 .num .geq (.t 10) (.t 12)),(none, .pick 14 (.t 9) (.k (.sc (.bool true))) (.t 13))]) (.cond (.t 14) (.seq (.reg [(none, .mv 4 .copy (.k (N (-1))))])
 .ret)
 .skip)) (.seq (.reg [(Jmc 16 0),(Jmc 17 1),(Jia 18 1 16 17),(Jlc 19 1 18),(none, .call .no (some 20) (.k (.fn n_impl_shape [])) [(.t 19)]),(Jmt 15 20),(none, .extract 21 0 (.t 15)),(none, .extract 22 1 (.t 15)),(Jmc 5 21),(Jmc 6 22)]) (.seq (.seq (.reg [(Jmc 23 5)]) (.block 0 (.seq (.reg [(Jbe 25 23 0),(Jmc 24 25)]) (.cond (.t 24) (.seq (.reg [(Jmc 26 1),(Jba 27 26 1),(Jmc 4 27)])
 .ret) (.seq (.reg [(Jbe 29 23 4),(Jmc 28 29)]) (.cond (.t 28) (.seq (.reg [(Jmt 30 0),(Jmc 31 1),(Jba 32 31 1),(none, .call .no (some 33) (.k (.fn n_impl_typeEnd [])) [(.t 30), (.t 32)]),(Jmc 4 33)])
 .ret) (.seq (.reg [(Jbe 35 23 5),(Jmc 34 35)]) (.cond (.t 34) (.seq (.reg [(none, .mv 4 .copy (.k (N (-1))))])
 .ret)
 .skip)))))))) (.seq (.reg [(Jmc 36 0),(Jmt 37 0),(Jmc 38 1),(Jba 39 38 1),(none, .call .no (some 40) (.k (.fn n_impl_typeEnd [])) [(.t 37), (.t 39)]),(none, .call .no (some 41) (.k (.fn n_impl_typeEnd [])) [(.t 36), (.t 40)]),(Jmc 4 41)])
 .ret)))))
theorem c_impl_typeEnd : codeOf Tryz.prog n_impl_typeEnd m_impl_typeEnd = some (k_impl_typeEnd, [.tmp 4], 42) := by kernel_rfl
def m_impl_adds : List (Nat × List Md) := []
def k_impl_adds : C := (.seq (.reg [(none, .mv 4 .copy (.k (N 0)))]) (.seq (.block 0 (.seq (.reg [(Jmc 6 0),(Jbe 7 6 5),(Jmc 8 7),(some (8, true), .mv 9 .copy (.t 1)),(some (8, true), .bin 10 .num .eql (.t 9) (.k (N 1))),(none, .pick 11 (.t 8) (.t 10) (.k (.sc (.bool false)))),(Jmc 5 11)]) (.cond (.t 5) (.seq (.reg [(none, .mv 4 .copy (.k (N 2)))])
 .ret) (.seq (.seq (.reg [(Jmc 13 0),(Jbe 14 13 8),(Jmc 15 14),(some (15, true), .mv 16 .copy (.t 1)),(some (15, true), .bin 17 .num .gtr (.t 16) (.k (N 0))),(none, .pick 18 (.t 15) (.t 17) (.k (.sc (.bool false)))),(Jmc 12 18)]) (.cond (.t 12)
 .skip (.seq (.reg [(Jmc 19 0),(Jbe 20 19 9),(Jmc 12 20)]) (.cond (.t 12)
 .skip (.reg [(Jmc 21 0),(Jbe 22 21 12),(Jmc 23 22),(some (23, true), .mv 24 .copy (.t 1)),(some (23, true), .bin 25 .num .eql (.t 24) (.k (N 1))),(none, .pick 26 (.t 23) (.t 25) (.k (.sc (.bool false)))),(Jmc 12 26)]))))) (.cond (.t 12) (.seq (.reg [(none, .mv 4 .copy (.k (N 1)))])
 .ret)
 .skip))))) (.seq (.reg [(none, .mv 4 .copy (.k (N 0)))])
 .ret)))
theorem c_impl_adds : codeOf Tryz.prog n_impl_adds m_impl_adds = some (k_impl_adds, [.tmp 4], 27) := by kernel_rfl
def m_slices_Concat___int_int_ : List (Nat × List Md) := [(4, [.copy, .copy, .take]), (5, [.copy, .take]), (9, [.copy, .copy, .take]), (10, [.take]), (12, [.copy, .copy, .take]), (13, [.take, .take, .copy, .take]), (15, [.take, .take])]
def k_slices_Concat___int_int_ : C := (.seq (.reg [(none, .mv 2 .copy (.k (.sl true true 1 [])))]) (.seq (.reg [(none, .mv 3 .copy (.k (N 0)))]) (.seq (.seq (.reg [(Jmc 9 0),(Jln 10 9),(none, .mv 11 .copy (.k (N 0)))]) (.block 0 (.loop (.seq (.reg [(Jbl 12 11 10)]) (.seq (.cond (.t 12)
 .skip (.exit 0)) (.seq (.block 1 (.seq (.reg [(Jia 13 1 9 11),(Jlc 14 1 13),(Jmt 5 14)]) (.seq (.reg [(Jmc 15 3),(Jmt 16 5),(Jln 17 16),(none, .bin 18 .num .add (.t 15) (.t 17)),(Jmc 3 18)]) (.seq (.reg [(Jmc 19 3),(none, .bin 20 .num .lss (.t 19) (.k (N 0)))]) (.cond (.t 20) (.reg [(none, .bad (some 21)),(none, .bad none)])
 .skip))))) (.reg [(Jba 22 11 1),(Jmc 11 22)]))))))) (.seq (.reg [(Jmc 23 3),(none, .call .no (some 24) (.k (.fn n_slices_Grow___int_int_ [])) [(.k (.sl true true 1 [])), (.t 23)]),(Jmt 6 24)]) (.seq (.seq (.reg [(Jmt 25 0),(Jln 26 25),(none, .mv 27 .copy (.k (N 0)))]) (.block 2 (.loop (.seq (.reg [(Jbl 28 27 26)]) (.seq (.cond (.t 28)
 .skip (.exit 2)) (.seq (.block 3 (.seq (.reg [(Jia 29 1 25 27),(Jlc 30 1 29),(Jmt 8 30)]) (.reg [(Jmt 31 6),(Jmt 32 8),(none, .append 33 1 (.t 31) (.t 32)),(Jmt 6 33)]))) (.reg [(Jba 34 27 1),(Jmc 27 34)]))))))) (.seq (.reg [(Jmt 35 6),(Jmt 2 35)])
 .ret))))))
theorem c_slices_Concat___int_int_ : codeOf Tryz.prog n_slices_Concat___int_int_ m_slices_Concat___int_int_ = some (k_slices_Concat___int_int_, [.tmp 2], 36) := by kernel_rfl
def m_spec_l1In : List (Nat × List Md) := []
def k_spec_l1In : C := (.seq (.reg [(none, .mv 6 .copy (.k (.sc (.bool false))))]) (.seq (.reg [(Jmc 7 0),(Jmc 8 1),(none, .bin 9 .num .geq (.t 7) (.t 8)),(Jmc 10 9),(some (10, true), .mv 11 .copy (.t 0)),(some (10, true), .mv 12 .copy (.t 2)),(some (10, true), .bin 13 .num .leq (.t 11) (.t 12)),(none, .pick 14 (.t 10) (.t 13) (.k (.sc (.bool false)))),(Jmc 6 14)])
 .ret))
theorem c_spec_l1In : codeOf Tryz.prog n_spec_l1In m_spec_l1In = some (k_spec_l1In, [.tmp 6], 15) := by kernel_rfl
def m_spec_l2Node : List (Nat × List Md) := [(1, [.copy, .take, .copy, .copy, .take]), (3, [.copy, .take]), (5, [.copy, .take]), (6, [.copy, .take]), (8, [.copy, .take]), (9, [.copy, .take]), (11, [.copy, .take]), (12, [.copy, .take, .copy, .copy, .copy, .copy, .take, .copy, .copy, .copy, .copy, .copy, .copy, .take]), (14, [.copy, .take]), (15, [.copy, .take]), (16, [.copy, .take, .copy, .copy, .copy, .take]), (1000001, [.copy, .copy, .copy, .copy, .frz])]
def k_spec_l2Node : C := (.seq (.reg [(none, .box 4 (.t 0)),(none, .mv 8 .copy (.k (.sc (.bool false))))]) (.seq (.seq (.seq (.frz 4) (.reg [(Jfa 9 3 4),(Jlt 10 1 9),(Jln 11 10),(Jfa 12 0 4),(Jlt 13 1 12),(none, .call .no (some 14) (.k (.fn n_spec_l2Many [])) [(.t 13)]),(none, .bin 15 .num .neq (.t 11) (.t 14))])) (.cond (.t 15) (.seq (.reg [(none, .mv 8 .copy (.k (.sc (.bool false))))])
 .ret)
 .skip)) (.seq (.block 0 (.seq (.reg [(Jfa 20 0 4),(Jlt 21 1 20),(Jbe 22 21 0),(Jmc 19 22)]) (.cond (.t 19) (.seq (.reg [(Jfa 23 1 4),(Jlt 24 1 23),(Jmc 25 1),(none, .bin 26 .num .sub (.t 25) (.k (N 1))),(none, .call .no (some 27) (.k (.fn n_spec_l1In [])) [(.t 24), (.k (N 0)), (.t 26)]),(none, .un 28 .not (.t 27))]) (.cond (.t 28) (.seq (.reg [(none, .mv 8 .copy (.k (.sc (.bool false))))])
 .ret)
 .skip)) (.seq (.reg [(Jfa 30 0 4),(Jlt 31 1 30),(Jbe 32 31 1),(Jmc 29 32)]) (.cond (.t 29) (.seq (.reg [(Jfa 33 1 4),(Jlt 34 1 33),(none, .call .no (some 35) (.k (.fn n_spec_l1In [])) [(.t 34), (.k (N 0)), (.k (N 2))]),(none, .un 36 .not (.t 35))]) (.cond (.t 36) (.seq (.reg [(none, .mv 8 .copy (.k (.sc (.bool false))))])
 .ret)
 .skip)) (.seq (.reg [(Jfa 38 0 4),(Jlt 39 1 38),(none, .call .no (some 40) (.k (.fn n_spec_l2Has [])) [(.t 39)]),(Jmc 37 40)]) (.cond (.t 37) (.seq (.reg [(Jfa 41 1 4),(Jlt 42 1 41),(Jmc 43 2),(none, .bin 44 .num .geq (.t 42) (.t 43)),(Jmc 45 44),(some (45, false), .fieldA 46 1 (.t 4)),(some (45, false), .load 47 .take false 1 (.t 46)),(some (45, false), .bin 48 .num .lss (.t 47) (.k (N (-1)))),(none, .pick 49 (.t 45) (.k (.sc (.bool true))) (.t 48)),(Jmc 50 49),(some (50, false), .mv 51 .copy (.t 3)),(some (50, false), .mv 52 .copy (.t 51)),(some (52, true), .fieldA 53 1 (.t 4)),(some (52, true), .load 54 .take false 1 (.t 53)),(some (52, true), .bin 55 .num .lss (.t 54) (.k (N 0))),(some (50, false), .pick 56 (.t 52) (.t 55) (.k (.sc (.bool false)))),(none, .pick 57 (.t 50) (.k (.sc (.bool true))) (.t 56))]) (.cond (.t 57) (.seq (.reg [(none, .mv 8 .copy (.k (.sc (.bool false))))])
 .ret)
 .skip)) (.seq (.reg [(Jfa 16 1 4),(Jlt 17 1 16),(none, .bin 18 .num .neq (.t 17) (.k (N 0)))]) (.cond (.t 18) (.seq (.reg [(none, .mv 8 .copy (.k (.sc (.bool false))))])
 .ret)
 .skip))))))))) (.seq (.seq (.reg [(Jfa 58 0 4),(Jlt 59 1 58),(none, .call .no (some 60) (.k (.fn n_spec_l2Typed [])) [(.t 59)]),(none, .un 61 .not (.t 60))]) (.cond (.t 61) (.seq (.reg [(Jfa 62 2 4),(Jlt 63 1 62),(Jln 64 63),(Jbe 65 64 0),(Jmc 8 65)])
 .ret)
 .skip)) (.seq (.reg [(Jfa 66 2 4),(Jlt 67 1 66),(none, .call .no (some 68) (.k (.fn n_spec_l2Type [])) [(.t 67)]),(Jmc 69 68),(some (69, true), .fieldA 70 2 (.t 4)),(some (69, true), .load 71 .take false 1 (.t 70)),(some (69, true), .mv 72 .copy (.t 2)),(some (69, true), .mv 73 .copy (.t 3)),(some (69, true), .call .no (some 74) (.k (.fn n_spec_l2Graded [])) [(.t 71), (.t 72), (.t 73)]),(none, .pick 75 (.t 69) (.t 74) (.k (.sc (.bool false)))),(Jmc 8 75)])
 .ret)))))
theorem c_spec_l2Node : codeOf Tryz.prog n_spec_l2Node m_spec_l2Node = some (k_spec_l2Node, [.tmp 8], 76) := by kernel_rfl
def m_spec_l1Add : List (Nat × List Md) := [(1, [.copy, .take, .copy, .copy, .take]), (1000001, [.copy, .copy, .copy, .frz])]
def k_spec_l1Add : C := (.seq (.reg [(none, .box 3 (.t 0)),(none, .mv 6 .copy (.k (N 0)))]) (.seq (.seq (.frz 3) (.reg [(Jfa 7 1 3),(Jlt 8 1 7),(Jmc 9 1),(Jfa 10 0 3),(Jlt 11 1 10),(none, .bin 12 .num .mul (.t 9) (.t 11)),(Jmc 13 2),(none, .bin 14 .num .add (.t 12) (.t 13)),(Jia 15 1 8 14),(Jlc 16 1 15),(Jmc 6 16)]))
 .ret))
theorem c_spec_l1Add : codeOf Tryz.prog n_spec_l1Add m_spec_l1Add = some (k_spec_l1Add, [.tmp 6], 17) := by kernel_rfl
def m_spec_l1Mul : List (Nat × List Md) := [(1, [.copy, .take, .copy, .copy, .take]), (1000001, [.copy, .copy, .copy, .frz])]
def k_spec_l1Mul : C := (.seq (.reg [(none, .box 3 (.t 0)),(none, .mv 6 .copy (.k (N 0)))]) (.seq (.seq (.frz 3) (.reg [(Jfa 7 2 3),(Jlt 8 1 7),(Jmc 9 1),(Jfa 10 0 3),(Jlt 11 1 10),(none, .bin 12 .num .mul (.t 9) (.t 11)),(Jmc 13 2),(none, .bin 14 .num .add (.t 12) (.t 13)),(Jia 15 1 8 14),(Jlc 16 1 15),(Jmc 6 16)]))
 .ret))
theorem c_spec_l1Mul : codeOf Tryz.prog n_spec_l1Mul m_spec_l1Mul = some (k_spec_l1Mul, [.tmp 6], 17) := by kernel_rfl
def m_spec_l1Join : List (Nat × List Md) := [(2, [.copy, .copy, .take]), (4, [.take, .copy, .copy, .copy, .copy, .take]), (6, [.copy, .copy, .take]), (8, [.take, .copy, .copy, .copy, .copy, .copy, .take, .copy, .copy, .copy, .copy, .copy, .copy, .take]), (1000001, [.copy, .copy, .copy, .frz])]
def k_spec_l1Join : C := (.seq (.reg [(none, .box 3 (.t 0)),(none, .mv 6 .copy (.k (N 0)))]) (.seq (.seq (.seq (.frz 3) (.reg [(none, .mv 7 .copy (.k (N 0)))])) (.block 0 (.loop (.seq (.seq (.reg [(Jmc 10 7),(Jfa 11 0 3),(Jlt 12 1 11),(Jbl 13 10 12)]) (.cond (.t 13)
 .skip (.exit 0))) (.seq (.block 1 (.seq (.reg [(JlT 16 4 3),(Jmc 17 1),(Jmc 18 7),(none, .call .no (some 19) (.k (.fn n_spec_l1Le [])) [(.t 16), (.t 17), (.t 18)]),(Jmc 20 19),(some (20, true), .load 21 .take true 4 (.t 3)),(some (20, true), .mv 22 .copy (.t 2)),(some (20, true), .mv 23 .copy (.t 7)),(some (20, true), .call .no (some 24) (.k (.fn n_spec_l1Le [])) [(.t 21), (.t 22), (.t 23)]),(none, .pick 25 (.t 20) (.t 24) (.k (.sc (.bool false)))),(Jmc 8 25)]) (.seq (.seq (.reg [(none, .mv 9 .copy (.k (N 0)))]) (.block 2 (.loop (.seq (.seq (.reg [(Jmc 26 9),(Jfa 27 0 3),(Jlt 28 1 27),(Jbl 29 26 28),(Jmc 30 29),(some (30, true), .mv 31 .copy (.t 8)),(none, .pick 32 (.t 30) (.t 31) (.k (.sc (.bool false))))]) (.cond (.t 32)
 .skip (.exit 2))) (.seq (.block 3 (.reg [(JlT 35 4 3),(Jmc 36 1),(Jmc 37 9),(none, .call .no (some 38) (.k (.fn n_spec_l1Le [])) [(.t 35), (.t 36), (.t 37)]),(none, .un 39 .not (.t 38)),(Jmc 40 39),(some (40, false), .load 41 .take true 4 (.t 3)),(some (40, false), .mv 42 .copy (.t 2)),(some (40, false), .mv 43 .copy (.t 9)),(some (40, false), .call .no (some 44) (.k (.fn n_spec_l1Le [])) [(.t 41), (.t 42), (.t 43)]),(some (40, false), .un 45 .not (.t 44)),(none, .pick 46 (.t 40) (.k (.sc (.bool true))) (.t 45)),(Jmc 47 46),(some (47, false), .load 48 .take true 4 (.t 3)),(some (47, false), .mv 49 .copy (.t 7)),(some (47, false), .mv 50 .copy (.t 9)),(some (47, false), .call .no (some 51) (.k (.fn n_spec_l1Le [])) [(.t 48), (.t 49), (.t 50)]),(none, .pick 52 (.t 47) (.k (.sc (.bool true))) (.t 51)),(Jmc 8 52)])) (.reg [(Jmc 33 9),(Jba 34 33 1),(Jmc 9 34)])))))) (.seq (.reg [(Jmc 53 8)]) (.cond (.t 53) (.seq (.reg [(Jmc 54 7),(Jmc 6 54)])
 .ret)
 .skip))))) (.reg [(Jmc 14 7),(Jba 15 14 1),(Jmc 7 15)])))))) (.seq (.reg [(none, .mv 6 .copy (.k (N (-1))))])
 .ret)))
theorem c_spec_l1Join : codeOf Tryz.prog n_spec_l1Join m_spec_l1Join = some (k_spec_l1Join, [.tmp 6], 55) := by kernel_rfl
def m_spec_l1Tables : List (Nat × List Md) := [(1, [.copy, .take, .copy, .copy, .copy, .copy, .take, .copy, .copy, .take, .copy, .take, .copy, .copy, .copy, .copy, .copy, .take, .copy, .copy, .take, .copy, .take, .copy, .copy, .copy, .copy, .copy, .take, .copy, .copy, .take, .copy, .take]), (4, [.copy, .copy, .take]), (6, [.copy, .take, .copy, .copy, .copy, .copy, .take, .copy, .copy, .copy, .copy, .copy, .take, .copy, .copy, .copy, .copy, .take]), (1000001, [.copy, .frz])]
def k_spec_l1Tables : C := (.seq (.reg [(none, .box 1 (.t 0)),(none, .mv 2 .copy (.k (.sc (.bool false))))]) (.seq (.seq (.seq (.frz 1) (.reg [(Jfa 4 0 1),(Jlt 5 1 4),(none, .call .no (some 6) (.k (.fn n_spec_l1In [])) [(.t 5), (.k (N 2)), (.k (N 16))]),(none, .un 7 .not (.t 6)),(Jmc 8 7),(some (8, false), .fieldA 9 1 (.t 1)),(some (8, false), .load 10 .take false 1 (.t 9)),(some (8, false), .len 11 (.t 10)),(some (8, false), .fieldA 12 0 (.t 1)),(some (8, false), .load 13 .take false 1 (.t 12)),(some (8, false), .fieldA 14 0 (.t 1)),(some (8, false), .load 15 .take false 1 (.t 14)),(some (8, false), .bin 16 .num .mul (.t 13) (.t 15)),(some (8, false), .bin 17 .num .neq (.t 11) (.t 16)),(none, .pick 18 (.t 8) (.k (.sc (.bool true))) (.t 17)),(Jmc 19 18),(some (19, false), .fieldA 20 2 (.t 1)),(some (19, false), .load 21 .take false 1 (.t 20)),(some (19, false), .len 22 (.t 21)),(some (19, false), .fieldA 23 0 (.t 1)),(some (19, false), .load 24 .take false 1 (.t 23)),(some (19, false), .fieldA 25 0 (.t 1)),(some (19, false), .load 26 .take false 1 (.t 25)),(some (19, false), .bin 27 .num .mul (.t 24) (.t 26)),(some (19, false), .bin 28 .num .neq (.t 22) (.t 27)),(none, .pick 29 (.t 19) (.k (.sc (.bool true))) (.t 28)),(Jmc 30 29),(some (30, false), .fieldA 31 3 (.t 1)),(some (30, false), .load 32 .take false 1 (.t 31)),(some (30, false), .len 33 (.t 32)),(some (30, false), .fieldA 34 0 (.t 1)),(some (30, false), .load 35 .take false 1 (.t 34)),(some (30, false), .fieldA 36 0 (.t 1)),(some (30, false), .load 37 .take false 1 (.t 36)),(some (30, false), .bin 38 .num .mul (.t 35) (.t 37)),(some (30, false), .bin 39 .num .neq (.t 33) (.t 38)),(none, .pick 40 (.t 30) (.k (.sc (.bool true))) (.t 39))])) (.cond (.t 40) (.seq (.reg [(none, .mv 2 .copy (.k (.sc (.bool false))))])
 .ret)
 .skip)) (.seq (.seq (.reg [(none, .mv 3 .copy (.k (N 0)))]) (.block 0 (.loop (.seq (.seq (.reg [(Jmc 41 3),(Jfa 42 1 1),(Jlt 43 1 42),(Jln 44 43),(Jbl 45 41 44)]) (.cond (.t 45)
 .skip (.exit 0))) (.seq (.block 1 (.seq (.reg [(Jfa 48 1 1),(Jlt 49 1 48),(Jmc 50 3),(Jia 51 1 49 50),(Jlc 52 1 51),(Jfa 53 0 1),(Jlt 54 1 53),(none, .bin 55 .num .sub (.t 54) (.k (N 1))),(none, .call .no (some 56) (.k (.fn n_spec_l1In [])) [(.t 52), (.k (N 0)), (.t 55)]),(none, .un 57 .not (.t 56)),(Jmc 58 57),(some (58, false), .fieldA 59 2 (.t 1)),(some (58, false), .load 60 .take false 1 (.t 59)),(some (58, false), .mv 61 .copy (.t 3)),(some (58, false), .indexA 62 1 (.t 60) (.t 61)),(some (58, false), .load 63 .copy false 1 (.t 62)),(some (58, false), .fieldA 64 0 (.t 1)),(some (58, false), .load 65 .take false 1 (.t 64)),(some (58, false), .bin 66 .num .sub (.t 65) (.k (N 1))),(some (58, false), .call .no (some 67) (.k (.fn n_spec_l1In [])) [(.t 63), (.k (N 0)), (.t 66)]),(some (58, false), .un 68 .not (.t 67)),(none, .pick 69 (.t 58) (.k (.sc (.bool true))) (.t 68))]) (.cond (.t 69) (.seq (.reg [(none, .mv 2 .copy (.k (.sc (.bool false))))])
 .ret)
 .skip))) (.reg [(Jmc 46 3),(Jba 47 46 1),(Jmc 3 47)])))))) (.seq (.reg [(none, .mv 2 .copy (.k (.sc (.bool true))))])
 .ret))))
theorem c_spec_l1Tables : codeOf Tryz.prog n_spec_l1Tables m_spec_l1Tables = some (k_spec_l1Tables, [.tmp 2], 70) := by kernel_rfl
def m_spec_l1One : List (Nat × List Md) := [(1, [.take, .copy, .copy, .copy, .copy, .copy, .take, .copy, .copy, .copy, .copy, .copy, .copy, .take, .copy, .copy, .copy, .copy, .copy, .copy, .take, .copy, .copy, .copy, .copy, .copy, .take, .copy, .copy, .copy, .copy, .copy, .take]), (1000001, [.copy, .copy, .frz])]
def k_spec_l1One : C := (.seq (.reg [(none, .box 2 (.t 0)),(none, .mv 4 .copy (.k (.sc (.bool false))))]) (.seq (.seq (.frz 2) (.reg [(JlT 5 4 2),(Jmc 6 1),(none, .call .no (some 7) (.k (.fn n_spec_l1Add [])) [(.t 5), (.k (N 0)), (.t 6)]),(Jmc 8 1),(none, .bin 9 .num .eql (.t 7) (.t 8)),(Jmc 10 9),(some (10, true), .load 11 .take true 4 (.t 2)),(some (10, true), .mv 12 .copy (.t 1)),(some (10, true), .call .no (some 13) (.k (.fn n_spec_l1Mul [])) [(.t 11), (.k (N 1)), (.t 12)]),(some (10, true), .mv 14 .copy (.t 1)),(some (10, true), .bin 15 .num .eql (.t 13) (.t 14)),(none, .pick 16 (.t 10) (.t 15) (.k (.sc (.bool false)))),(Jmc 17 16),(some (17, true), .load 18 .take true 4 (.t 2)),(some (17, true), .mv 19 .copy (.t 1)),(some (17, true), .call .no (some 20) (.k (.fn n_spec_l1Mul [])) [(.t 18), (.t 19), (.k (N 1))]),(some (17, true), .mv 21 .copy (.t 1)),(some (17, true), .bin 22 .num .eql (.t 20) (.t 21)),(none, .pick 23 (.t 17) (.t 22) (.k (.sc (.bool false)))),(Jmc 24 23),(some (24, true), .load 25 .take true 4 (.t 2)),(some (24, true), .mv 26 .copy (.t 1)),(some (24, true), .call .no (some 27) (.k (.fn n_spec_l1Mul [])) [(.t 25), (.k (N 0)), (.t 26)]),(some (24, true), .bin 28 .num .eql (.t 27) (.k (N 0))),(none, .pick 29 (.t 24) (.t 28) (.k (.sc (.bool false)))),(Jmc 30 29),(some (30, true), .load 31 .take true 4 (.t 2)),(some (30, true), .mv 32 .copy (.t 1)),(some (30, true), .call .no (some 33) (.k (.fn n_spec_l1Mul [])) [(.t 31), (.t 32), (.k (N 0))]),(some (30, true), .bin 34 .num .eql (.t 33) (.k (N 0))),(none, .pick 35 (.t 30) (.t 34) (.k (.sc (.bool false)))),(Jmc 36 35),(some (36, true), .load 37 .take true 4 (.t 2)),(some (36, true), .mv 38 .copy (.t 1)),(some (36, true), .mv 39 .copy (.t 1)),(some (36, true), .call .no (some 40) (.k (.fn n_spec_l1Le [])) [(.t 37), (.t 38), (.t 39)]),(none, .pick 41 (.t 36) (.t 40) (.k (.sc (.bool false)))),(Jmc 4 41)]))
 .ret))
theorem c_spec_l1One : codeOf Tryz.prog n_spec_l1One m_spec_l1One = some (k_spec_l1One, [.tmp 4], 42) := by kernel_rfl
def m_spec_l1Two : List (Nat × List Md) := [(1, [.take, .copy, .copy, .copy, .take, .copy, .copy, .copy, .copy, .copy, .copy, .copy, .copy, .copy, .take, .copy, .copy, .copy, .copy, .copy, .copy, .take, .copy, .copy, .copy, .copy, .copy, .copy, .copy, .take]), (1000001, [.copy, .copy, .copy, .frz])]
def k_spec_l1Two : C := (.seq (.reg [(none, .box 3 (.t 0)),(none, .mv 6 .copy (.k (.sc (.bool false))))]) (.seq (.seq (.frz 3) (.reg [(JlT 7 4 3),(Jmc 8 1),(Jmc 9 2),(none, .call .no (some 10) (.k (.fn n_spec_l1Add [])) [(.t 7), (.t 8), (.t 9)]),(JlT 11 4 3),(Jmc 12 2),(Jmc 13 1),(none, .call .no (some 14) (.k (.fn n_spec_l1Add [])) [(.t 11), (.t 12), (.t 13)]),(none, .bin 15 .num .eql (.t 10) (.t 14)),(Jmc 16 15),(some (16, true), .mv 17 .copy (.t 1)),(some (16, true), .mv 18 .copy (.t 2)),(some (16, true), .bin 19 .num .eql (.t 17) (.t 18)),(some (16, true), .mv 20 .copy (.t 19)),(some (20, false), .load 21 .take true 4 (.t 3)),(some (20, false), .mv 22 .copy (.t 1)),(some (20, false), .mv 23 .copy (.t 2)),(some (20, false), .call .no (some 24) (.k (.fn n_spec_l1Le [])) [(.t 21), (.t 22), (.t 23)]),(some (20, false), .un 25 .not (.t 24)),(some (16, true), .pick 26 (.t 20) (.k (.sc (.bool true))) (.t 25)),(some (16, true), .mv 27 .copy (.t 26)),(some (27, false), .load 28 .take true 4 (.t 3)),(some (27, false), .mv 29 .copy (.t 2)),(some (27, false), .mv 30 .copy (.t 1)),(some (27, false), .call .no (some 31) (.k (.fn n_spec_l1Le [])) [(.t 28), (.t 29), (.t 30)]),(some (27, false), .un 32 .not (.t 31)),(some (16, true), .pick 33 (.t 27) (.k (.sc (.bool true))) (.t 32)),(none, .pick 34 (.t 16) (.t 33) (.k (.sc (.bool false)))),(Jmc 35 34),(some (35, true), .load 36 .take true 4 (.t 3)),(some (35, true), .mv 37 .copy (.t 1)),(some (35, true), .mv 38 .copy (.t 2)),(some (35, true), .call .no (some 39) (.k (.fn n_spec_l1Join [])) [(.t 36), (.t 37), (.t 38)]),(some (35, true), .bin 40 .num .geq (.t 39) (.k (N 0))),(none, .pick 41 (.t 35) (.t 40) (.k (.sc (.bool false)))),(Jmc 6 41)]))
 .ret))
theorem c_spec_l1Two : codeOf Tryz.prog n_spec_l1Two m_spec_l1Two = some (k_spec_l1Two, [.tmp 6], 42) := by kernel_rfl
def m_spec_l1Three : List (Nat × List Md) := [(1, [.take, .take, .copy, .copy, .copy, .copy, .copy, .take, .copy, .take, .copy, .copy, .copy, .copy, .copy, .copy, .take, .take, .copy, .copy, .copy, .copy, .copy, .take, .copy, .take]), (3, [.take, .copy, .take, .copy, .copy, .copy, .copy, .take, .take, .copy, .copy, .copy, .take, .copy, .copy, .copy, .copy, .copy, .copy, .take, .take, .copy, .copy, .copy, .copy, .copy, .take, .take, .copy, .copy, .copy, .take]), (5, [.take]), (7, [.take, .copy, .copy, .copy, .copy, .take]), (9, [.take, .take, .copy, .copy, .copy, .take, .copy, .copy, .copy, .copy, .copy, .take, .take, .copy, .copy, .copy, .take, .copy, .copy, .copy, .copy, .copy, .copy, .take, .take, .copy, .copy, .copy, .take]), (1000001, [.copy, .copy, .copy, .copy, .frz])]
def k_spec_l1Three : C := (.seq (.reg [(none, .box 4 (.t 0)),(none, .mv 8 .copy (.k (.sc (.bool false))))]) (.seq (.seq (.seq (.frz 4) (.reg [(JlT 9 4 4),(JlT 10 4 4),(Jmc 11 1),(Jmc 12 2),(none, .call .no (some 13) (.k (.fn n_spec_l1Add [])) [(.t 10), (.t 11), (.t 12)]),(Jmc 14 3),(none, .call .no (some 15) (.k (.fn n_spec_l1Add [])) [(.t 9), (.t 13), (.t 14)]),(JlT 16 4 4),(Jmc 17 1),(JlT 18 4 4),(Jmc 19 2),(Jmc 20 3),(none, .call .no (some 21) (.k (.fn n_spec_l1Add [])) [(.t 18), (.t 19), (.t 20)]),(none, .call .no (some 22) (.k (.fn n_spec_l1Add [])) [(.t 16), (.t 17), (.t 21)]),(none, .bin 23 .num .neq (.t 15) (.t 22)),(Jmc 24 23),(some (24, false), .load 25 .take true 4 (.t 4)),(some (24, false), .load 26 .take true 4 (.t 4)),(some (24, false), .mv 27 .copy (.t 1)),(some (24, false), .mv 28 .copy (.t 2)),(some (24, false), .call .no (some 29) (.k (.fn n_spec_l1Mul [])) [(.t 26), (.t 27), (.t 28)]),(some (24, false), .mv 30 .copy (.t 3)),(some (24, false), .call .no (some 31) (.k (.fn n_spec_l1Mul [])) [(.t 25), (.t 29), (.t 30)]),(some (24, false), .load 32 .take true 4 (.t 4)),(some (24, false), .mv 33 .copy (.t 1)),(some (24, false), .load 34 .take true 4 (.t 4)),(some (24, false), .mv 35 .copy (.t 2)),(some (24, false), .mv 36 .copy (.t 3)),(some (24, false), .call .no (some 37) (.k (.fn n_spec_l1Mul [])) [(.t 34), (.t 35), (.t 36)]),(some (24, false), .call .no (some 38) (.k (.fn n_spec_l1Mul [])) [(.t 32), (.t 33), (.t 37)]),(some (24, false), .bin 39 .num .neq (.t 31) (.t 38)),(none, .pick 40 (.t 24) (.k (.sc (.bool true))) (.t 39))])) (.cond (.t 40) (.seq (.reg [(none, .mv 8 .copy (.k (.sc (.bool false))))])
 .ret)
 .skip)) (.seq (.seq (.reg [(JlT 41 4 4),(Jmc 42 1),(JlT 43 4 4),(Jmc 44 2),(Jmc 45 3),(none, .call .no (some 46) (.k (.fn n_spec_l1Add [])) [(.t 43), (.t 44), (.t 45)]),(none, .call .no (some 47) (.k (.fn n_spec_l1Mul [])) [(.t 41), (.t 42), (.t 46)]),(JlT 48 4 4),(JlT 49 4 4),(Jmc 50 1),(Jmc 51 2),(none, .call .no (some 52) (.k (.fn n_spec_l1Mul [])) [(.t 49), (.t 50), (.t 51)]),(JlT 53 4 4),(Jmc 54 1),(Jmc 55 3),(none, .call .no (some 56) (.k (.fn n_spec_l1Mul [])) [(.t 53), (.t 54), (.t 55)]),(none, .call .no (some 57) (.k (.fn n_spec_l1Add [])) [(.t 48), (.t 52), (.t 56)]),(none, .bin 58 .num .neq (.t 47) (.t 57)),(Jmc 59 58),(some (59, false), .load 60 .take true 4 (.t 4)),(some (59, false), .load 61 .take true 4 (.t 4)),(some (59, false), .mv 62 .copy (.t 1)),(some (59, false), .mv 63 .copy (.t 2)),(some (59, false), .call .no (some 64) (.k (.fn n_spec_l1Add [])) [(.t 61), (.t 62), (.t 63)]),(some (59, false), .mv 65 .copy (.t 3)),(some (59, false), .call .no (some 66) (.k (.fn n_spec_l1Mul [])) [(.t 60), (.t 64), (.t 65)]),(some (59, false), .load 67 .take true 4 (.t 4)),(some (59, false), .load 68 .take true 4 (.t 4)),(some (59, false), .mv 69 .copy (.t 1)),(some (59, false), .mv 70 .copy (.t 3)),(some (59, false), .call .no (some 71) (.k (.fn n_spec_l1Mul [])) [(.t 68), (.t 69), (.t 70)]),(some (59, false), .load 72 .take true 4 (.t 4)),(some (59, false), .mv 73 .copy (.t 2)),(some (59, false), .mv 74 .copy (.t 3)),(some (59, false), .call .no (some 75) (.k (.fn n_spec_l1Mul [])) [(.t 72), (.t 73), (.t 74)]),(some (59, false), .call .no (some 76) (.k (.fn n_spec_l1Add [])) [(.t 67), (.t 71), (.t 75)]),(some (59, false), .bin 77 .num .neq (.t 66) (.t 76)),(none, .pick 78 (.t 59) (.k (.sc (.bool true))) (.t 77))]) (.cond (.t 78) (.seq (.reg [(none, .mv 8 .copy (.k (.sc (.bool false))))])
 .ret)
 .skip)) (.seq (.seq (.reg [(JlT 79 4 4),(Jmc 80 1),(Jmc 81 2),(none, .call .no (some 82) (.k (.fn n_spec_l1Le [])) [(.t 79), (.t 80), (.t 81)]),(none, .un 83 .not (.t 82))]) (.cond (.t 83) (.seq (.reg [(none, .mv 8 .copy (.k (.sc (.bool true))))])
 .ret)
 .skip)) (.seq (.seq (.reg [(JlT 84 4 4),(Jmc 85 2),(Jmc 86 3),(none, .call .no (some 87) (.k (.fn n_spec_l1Le [])) [(.t 84), (.t 85), (.t 86)]),(Jmc 88 87),(some (88, true), .load 89 .take true 4 (.t 4)),(some (88, true), .mv 90 .copy (.t 1)),(some (88, true), .mv 91 .copy (.t 3)),(some (88, true), .call .no (some 92) (.k (.fn n_spec_l1Le [])) [(.t 89), (.t 90), (.t 91)]),(some (88, true), .un 93 .not (.t 92)),(none, .pick 94 (.t 88) (.t 93) (.k (.sc (.bool false))))]) (.cond (.t 94) (.seq (.reg [(none, .mv 8 .copy (.k (.sc (.bool false))))])
 .ret)
 .skip)) (.seq (.reg [(JlT 95 4 4),(JlT 96 4 4),(Jmc 97 1),(Jmc 98 3),(none, .call .no (some 99) (.k (.fn n_spec_l1Add [])) [(.t 96), (.t 97), (.t 98)]),(JlT 100 4 4),(Jmc 101 2),(Jmc 102 3),(none, .call .no (some 103) (.k (.fn n_spec_l1Add [])) [(.t 100), (.t 101), (.t 102)]),(none, .call .no (some 104) (.k (.fn n_spec_l1Le [])) [(.t 95), (.t 99), (.t 103)]),(Jmc 105 104),(some (105, true), .load 106 .take true 4 (.t 4)),(some (105, true), .load 107 .take true 4 (.t 4)),(some (105, true), .mv 108 .copy (.t 1)),(some (105, true), .mv 109 .copy (.t 3)),(some (105, true), .call .no (some 110) (.k (.fn n_spec_l1Mul [])) [(.t 107), (.t 108), (.t 109)]),(some (105, true), .load 111 .take true 4 (.t 4)),(some (105, true), .mv 112 .copy (.t 2)),(some (105, true), .mv 113 .copy (.t 3)),(some (105, true), .call .no (some 114) (.k (.fn n_spec_l1Mul [])) [(.t 111), (.t 112), (.t 113)]),(some (105, true), .call .no (some 115) (.k (.fn n_spec_l1Le [])) [(.t 106), (.t 110), (.t 114)]),(none, .pick 116 (.t 105) (.t 115) (.k (.sc (.bool false)))),(Jmc 117 116),(some (117, true), .load 118 .take true 4 (.t 4)),(some (117, true), .load 119 .take true 4 (.t 4)),(some (117, true), .mv 120 .copy (.t 3)),(some (117, true), .mv 121 .copy (.t 1)),(some (117, true), .call .no (some 122) (.k (.fn n_spec_l1Mul [])) [(.t 119), (.t 120), (.t 121)]),(some (117, true), .load 123 .take true 4 (.t 4)),(some (117, true), .mv 124 .copy (.t 3)),(some (117, true), .mv 125 .copy (.t 2)),(some (117, true), .call .no (some 126) (.k (.fn n_spec_l1Mul [])) [(.t 123), (.t 124), (.t 125)]),(some (117, true), .call .no (some 127) (.k (.fn n_spec_l1Le [])) [(.t 118), (.t 122), (.t 126)]),(none, .pick 128 (.t 117) (.t 127) (.k (.sc (.bool false)))),(Jmc 8 128)])
 .ret))))))
theorem c_spec_l1Three : codeOf Tryz.prog n_spec_l1Three m_spec_l1Three = some (k_spec_l1Three, [.tmp 8], 129) := by kernel_rfl
def m_spec_l2Graded : List (Nat × List Md) := []
def k_spec_l2Graded : C := (.seq (.reg [(none, .mv 6 .copy (.k (.sc (.bool false))))]) (.seq (.seq (.reg [(none, .mv 7 .copy (.k (N 0)))]) (.block 0 (.loop (.seq (.seq (.reg [(Jmc 9 7),(Jmc 10 0),(Jln 11 10),(Jbl 12 9 11)]) (.cond (.t 12)
 .skip (.exit 0))) (.seq (.block 1 (.seq (.reg [(Jmc 15 0),(Jmc 16 7),(Jia 17 1 15 16),(Jlc 18 1 17),(none, .call .no (some 19) (.k (.fn n_spec_l2Kids [])) [(.t 18)]),(none, .bin 20 .num .gtr (.t 19) (.k (N 0))),(Jmc 21 20),(some (21, true), .mv 22 .copy (.t 0)),(some (21, true), .mv 23 .copy (.t 7)),(some (21, true), .indexA 24 1 (.t 22) (.t 23)),(some (21, true), .load 25 .copy false 1 (.t 24)),(some (21, true), .bin 26 .num .gtr (.t 25) (.k (N 2))),(none, .pick 27 (.t 21) (.t 26) (.k (.sc (.bool false))))]) (.cond (.t 27) (.seq (.reg [(Jmc 28 0),(Jmc 29 7),(Jia 30 1 28 29),(Jlc 31 1 30),(none, .call .no (some 32) (.k (.fn n_spec_l2Grade [])) [(.t 31)]),(Jmc 8 32)]) (.seq (.reg [(Jmc 33 8),(Jmc 34 1),(none, .bin 35 .num .geq (.t 33) (.t 34)),(Jmc 36 35),(some (36, false), .mv 37 .copy (.t 2)),(some (36, false), .mv 38 .copy (.t 37)),(some (38, true), .mv 39 .copy (.t 8)),(some (38, true), .bin 40 .num .lss (.t 39) (.k (N 0))),(some (36, false), .pick 41 (.t 38) (.t 40) (.k (.sc (.bool false)))),(none, .pick 42 (.t 36) (.k (.sc (.bool true))) (.t 41))]) (.cond (.t 42) (.seq (.reg [(none, .mv 6 .copy (.k (.sc (.bool false))))])
 .ret)
 .skip)))
 .skip))) (.reg [(Jmc 13 7),(Jba 14 13 1),(Jmc 7 14)])))))) (.seq (.reg [(none, .mv 6 .copy (.k (.sc (.bool true))))])
 .ret)))
theorem c_spec_l2Graded : codeOf Tryz.prog n_spec_l2Graded m_spec_l2Graded = some (k_spec_l2Graded, [.tmp 6], 43) := by kernel_rfl
def m_spec_l3Join : List (Nat × List Md) := [(1, [.copy, .take]), (5, [.take, .take, .copy, .copy, .copy, .copy, .copy, .copy, .copy, .copy, .copy, .copy, .copy, .take]), (6, [.take, .take]), (1000001, [.copy, .copy, .copy, .frz])]
def k_spec_l3Join : C := (.seq (.reg [(none, .box 3 (.t 0)),(none, .mv 6 .copy (.k (.sl true true 1 [])))]) (.seq (.seq (.frz 3) (.reg [(none, .bslice 9 1 0 [] []),(Jmt 7 9)])) (.seq (.seq (.reg [(none, .mv 8 .copy (.k (N 0)))]) (.block 0 (.loop (.seq (.seq (.reg [(Jmc 10 8),(Jmc 11 1),(Jln 12 11),(Jbl 13 10 12)]) (.cond (.t 13)
 .skip (.exit 0))) (.seq (.block 1 (.reg [(Jmt 16 7),(JlT 17 4 3),(Jmc 18 1),(Jmc 19 8),(Jia 20 1 18 19),(Jlc 21 1 20),(Jmc 22 2),(Jmc 23 8),(Jia 24 1 22 23),(Jlc 25 1 24),(none, .call .no (some 26) (.k (.fn n_spec_l1Join [])) [(.t 17), (.t 21), (.t 25)]),(none, .bslice 27 1 1 [(N 0)] [(0, 1, (.t 26))]),(none, .append 28 1 (.t 16) (.t 27)),(Jmt 7 28)])) (.reg [(Jmc 14 8),(Jba 15 14 1),(Jmc 8 15)])))))) (.seq (.reg [(Jmt 29 7),(Jmt 6 29)])
 .ret))))
theorem c_spec_l3Join : codeOf Tryz.prog n_spec_l3Join m_spec_l3Join = some (k_spec_l3Join, [.tmp 6], 30) := by kernel_rfl
def m_spec_l2Kids : List (Nat × List Md) := []
def k_spec_l2Kids : C := (.seq (.reg [(none, .mv 2 .copy (.k (N 0)))]) (.seq (.block 0 (.seq (.reg [(Jmc 4 0),(Jbe 5 4 0),(Jmc 3 5)]) (.cond (.t 3) (.seq (.reg [(none, .mv 2 .copy (.k (N 0)))])
 .ret) (.seq (.reg [(Jmc 7 0),(Jbe 8 7 1),(Jmc 9 8),(some (9, false), .mv 10 .copy (.t 0)),(some (9, false), .bin 11 .num .eql (.t 10) (.k (N 2))),(none, .pick 12 (.t 9) (.k (.sc (.bool true))) (.t 11)),(Jmc 13 12),(some (13, false), .mv 14 .copy (.t 0)),(some (13, false), .call .no (some 15) (.k (.fn n_spec_l2Arrow [])) [(.t 14)]),(none, .pick 16 (.t 13) (.k (.sc (.bool true))) (.t 15)),(Jmc 6 16)]) (.cond (.t 6) (.seq (.reg [(none, .mv 2 .copy (.k (N 2)))])
 .ret) (.seq (.reg [(Jmc 18 0),(none, .call .no (some 19) (.k (.fn n_spec_l2Box [])) [(.t 18)]),(Jmc 17 19)]) (.cond (.t 17) (.seq (.reg [(none, .mv 2 .copy (.k (N 1)))])
 .ret)
 .skip))))))) (.seq (.reg [(none, .mv 2 .copy (.k (N (-1))))])
 .ret)))
theorem c_spec_l2Kids : codeOf Tryz.prog n_spec_l2Kids m_spec_l2Kids = some (k_spec_l2Kids, [.tmp 2], 20) := by kernel_rfl
def m_slices_IndexFunc_____int___int_ : List (Nat × List Md) := []
def k_slices_IndexFunc_____int___int_ : C := (.seq (.reg [(none, .mv 4 .copy (.k (N 0)))]) (.seq (.seq (.reg [(Jmc 6 0),(Jln 7 6),(none, .mv 8 .copy (.k (N 0)))]) (.block 0 (.loop (.seq (.reg [(Jbl 9 8 7)]) (.seq (.cond (.t 9)
 .skip (.exit 0)) (.seq (.block 1 (.seq (.reg [(Jmc 10 8),(Jmc 5 10)]) (.seq (.reg [(Jmc 11 1),(Jmc 12 0),(Jmc 13 5),(Jia 14 1 12 13),(Jlc 15 1 14),(none, .call .no (some 16) (.t 11) [(.t 15)])]) (.cond (.t 16) (.seq (.reg [(Jmc 17 5),(Jmc 4 17)])
 .ret)
 .skip)))) (.reg [(Jba 18 8 1),(Jmc 8 18)]))))))) (.seq (.reg [(none, .mv 4 .copy (.k (N (-1))))])
 .ret)))
theorem c_slices_IndexFunc_____int___int_ : codeOf Tryz.prog n_slices_IndexFunc_____int___int_ m_slices_IndexFunc_____int___int_ = some (k_slices_IndexFunc_____int___int_, [.tmp 4], 19) := by kernel_rfl
def m_slices_Grow_____int___int_ : List (Nat × List Md) := [(5, [.copy, .copy, .copy, .copy, .copy, .copy, .take, .copy, .take, .take]), (6, [.take, .take])]
def k_slices_Grow_____int___int_ : C := (.seq (.reg [(none, .mv 4 .copy (.k (.sl true true 1 [])))]) (.seq (.seq (.reg [(Jmc 5 1),(none, .bin 6 .num .lss (.t 5) (.k (N 0)))]) (.cond (.t 6) (.reg [(none, .bad (some 7)),(none, .bad none)])
 .skip)) (.seq (.seq (.reg [(Jmc 8 1),(Jmc 9 0),(none, .cap 10 (.t 9)),(Jmc 11 0),(Jln 12 11),(none, .bin 13 .num .sub (.t 10) (.t 12)),(none, .bin 14 .num .sub (.t 8) (.t 13)),(Jmc 1 14)]) (.seq (.reg [(Jmc 15 1),(none, .bin 16 .num .gtr (.t 15) (.k (N 0)))]) (.cond (.t 16) (.reg [(Jmc 17 0),(Jmc 18 0),(none, .cap 19 (.t 18)),(none, .slice 20 1 (.t 17) none (some (.t 19)) none),(Jmc 21 1),(none, .growz 22 1 (.t 20) (.t 21)),(Jmt 23 0),(Jln 24 23),(none, .cut0 25 1 (.t 22) (.t 24)),(Jmt 0 25)])
 .skip))) (.seq (.reg [(Jmt 26 0),(Jmt 4 26)])
 .ret))))
theorem c_slices_Grow_____int___int_ : codeOf Tryz.prog n_slices_Grow_____int___int_ m_slices_Grow_____int___int_ = some (k_slices_Grow_____int___int_, [.tmp 4], 27) := by kernel_rfl
def m__impl_typer__finish_1 : List (Nat × List Md) := [(1, [.copy, .copy, .copy, .copy, .copy, .copy, .copy, .copy, .copy, .copy, .take])]
def k__impl_typer__finish_1 : C := (.seq (.reg [(none, .mv 3 .copy (.k (.sl true true 1 [])))]) (.seq (.reg [(Jlc 4 1 1),(none, .nilchk 5 (.t 4)),(Jfa 6 2 5),(Jlc 7 1 6),(Jmc 8 0),(Jia 9 1 7 8),(Jlc 10 1 9),(none, .nilchk 11 (.t 10)),(Jfa 12 0 11),(Jlc 13 1 12),(Jmt 3 13)])
 .ret))
theorem c__impl_typer__finish_1 : codeOf Tryz.prog n__impl_typer__finish_1 m__impl_typer__finish_1 = some (k__impl_typer__finish_1, [.tmp 3], 14) := by kernel_rfl
def m__impl_typer__sum : List (Nat × List Md) := [(1, [.take, .copy, .take, .copy, .take, .take, .copy, .take]), (1000001, [.copy, .copy, .copy, .frz])]
def k__impl_typer__sum : C := (.seq (.reg [(none, .box 3 (.t 0)),(none, .mv 6 .copy (.k (.sl true true 1 [])))]) (.seq (.seq (.frz 3) (.reg [(JlT 7 4 3),(Jfa 8 0 3),(JlT 9 4 8),(none, .mkfn 10 n__impl_System__plus true [(.t 9)]),(Jmt 11 1),(Jmt 12 2),(none, .call .no (some 13) (.k (.fn n__impl_typer__both [])) [(.t 7), (.t 10), (.t 11), (.t 12)]),(Jmt 6 13)]))
 .ret))
theorem c__impl_typer__sum : codeOf Tryz.prog n__impl_typer__sum m__impl_typer__sum = some (k__impl_typer__sum, [.tmp 6], 14) := by kernel_rfl
def m__impl_typer__join : List (Nat × List Md) := [(1, [.take, .copy, .take, .copy, .take, .take, .copy, .take]), (1000001, [.copy, .copy, .copy, .frz])]
def k__impl_typer__join : C := (.seq (.reg [(none, .box 3 (.t 0)),(none, .mv 6 .copy (.k (.sl true true 1 [])))]) (.seq (.seq (.frz 3) (.reg [(JlT 7 4 3),(Jfa 8 0 3),(JlT 9 4 8),(none, .mkfn 10 n__impl_System__join true [(.t 9)]),(Jmt 11 1),(Jmt 12 2),(none, .call .no (some 13) (.k (.fn n__impl_typer__both [])) [(.t 7), (.t 10), (.t 11), (.t 12)]),(Jmt 6 13)]))
 .ret))
theorem c__impl_typer__join : codeOf Tryz.prog n__impl_typer__join m__impl_typer__join = some (k__impl_typer__join, [.tmp 6], 14) := by kernel_rfl
def m__impl_typer__usedOk : List (Nat × List Md) := [(1, [.take]), (1000001, [.copy, .copy, .copy, .frz, .copy, .frz])]
def k__impl_typer__usedOk : C := (.seq (.reg [(none, .box 3 (.t 0)),(none, .box 5 (.t 2)),(none, .mv 6 .copy (.k (.sc (.bool false))))]) (.seq (.seq (.frz 3) (.seq (.frz 5) (.reg [(Jmt 7 1),(none, .mkfn 8 n__impl_typer__usedOk_1 false [(.t 3), (.t 5)]),(none, .call .no (some 9) (.k (.fn n_slices_ContainsFunc___int_int_ [])) [(.t 7), (.t 8)]),(none, .un 10 .not (.t 9)),(Jmc 6 10)])))
 .ret))
theorem c__impl_typer__usedOk : codeOf Tryz.prog n__impl_typer__usedOk m__impl_typer__usedOk = some (k__impl_typer__usedOk, [.tmp 6], 11) := by kernel_rfl
def m__impl_typer__scaled : List (Nat × List Md) := [(1, [.copy, .copy, .copy, .take]), (2, [.take]), (5, [.copy, .copy, .copy, .take]), (7, [.take, .frz]), (1000001, [.copy, .copy, .copy, .frz])]
def k__impl_typer__scaled : C := (.seq (.reg [(none, .box 3 (.t 0)),(none, .mv 6 .copy (.k (.sl true true 1 [])))]) (.seq (.seq (.frz 3) (.reg [(Jmc 10 2),(Jln 11 10),(none, .mkslice 12 1 [(N 0)] (.t 11)),(Jmt 7 12)])) (.seq (.seq (.reg [(Jmt 13 2),(Jln 14 13),(none, .mv 15 .copy (.k (N 0)))]) (.block 0 (.loop (.seq (.reg [(Jbl 16 15 14)]) (.seq (.cond (.t 16)
 .skip (.exit 0)) (.seq (.block 1 (.seq (.reg [(Jmc 17 15),(Jia 18 1 13 15),(Jlc 19 1 18),(Jmc 8 17),(Jmc 9 19)]) (.reg [(Jmc 20 7),(Jmc 21 8),(Jfa 22 0 3),(JlT 23 4 22),(Jmc 24 1),(Jmc 25 9),(none, .call .no (some 26) (.k (.fn n__impl_System__times [])) [(.t 23), (.t 24), (.t 25)]),(Jia 27 1 20 21),(Jst 1 27 26)]))) (.reg [(Jba 28 15 1),(Jmc 15 28)]))))))) (.seq (.reg [(Jmt 29 7),(none, .mv 6 .frz (.t 29))])
 .ret))))
theorem c__impl_typer__scaled : codeOf Tryz.prog n__impl_typer__scaled m__impl_typer__scaled = some (k__impl_typer__scaled, [.tmp 6], 30) := by kernel_rfl
def m_impl_long : List (Nat × List Md) := [(1, [.take])]
def k_impl_long : C := (.seq (.reg [(none, .mv 2 .copy (.k (.sc (.bool false))))]) (.seq (.reg [(Jmt 3 0),(Jln 4 3),(none, .bin 5 .num .gtr (.t 4) (.k (N 40))),(Jmc 2 5)])
 .ret))
theorem c_impl_long : codeOf Tryz.prog n_impl_long m_impl_long = some (k_impl_long, [.tmp 2], 6) := by kernel_rfl
def m_slices_Grow___int_int_ : List (Nat × List Md) := [(5, [.copy, .copy, .copy, .copy, .copy, .copy, .take, .copy, .take, .take]), (6, [.take, .take])]
def k_slices_Grow___int_int_ : C := (.seq (.reg [(none, .mv 4 .copy (.k (.sl true true 1 [])))]) (.seq (.seq (.reg [(Jmc 5 1),(none, .bin 6 .num .lss (.t 5) (.k (N 0)))]) (.cond (.t 6) (.reg [(none, .bad (some 7)),(none, .bad none)])
 .skip)) (.seq (.seq (.reg [(Jmc 8 1),(Jmc 9 0),(none, .cap 10 (.t 9)),(Jmc 11 0),(Jln 12 11),(none, .bin 13 .num .sub (.t 10) (.t 12)),(none, .bin 14 .num .sub (.t 8) (.t 13)),(Jmc 1 14)]) (.seq (.reg [(Jmc 15 1),(none, .bin 16 .num .gtr (.t 15) (.k (N 0)))]) (.cond (.t 16) (.reg [(Jmc 17 0),(Jmc 18 0),(none, .cap 19 (.t 18)),(none, .slice 20 1 (.t 17) none (some (.t 19)) none),(Jmc 21 1),(none, .growz 22 1 (.t 20) (.t 21)),(Jmt 23 0),(Jln 24 23),(none, .cut0 25 1 (.t 22) (.t 24)),(Jmt 0 25)])
 .skip))) (.seq (.reg [(Jmt 26 0),(Jmt 4 26)])
 .ret))))
theorem c_slices_Grow___int_int_ : codeOf Tryz.prog n_slices_Grow___int_int_ m_slices_Grow___int_int_ = some (k_slices_Grow___int_int_, [.tmp 4], 27) := by kernel_rfl
def m_spec_l2Many : List (Nat × List Md) := []
def k_spec_l2Many : C := (.seq (.reg [(none, .mv 2 .copy (.k (N 0)))]) (.seq (.seq (.reg [(Jmc 3 0),(none, .call .no (some 4) (.k (.fn n_spec_l1In [])) [(.t 3), (.k (N 0)), (.k (N 12))]),(none, .un 5 .not (.t 4))]) (.cond (.t 5) (.seq (.reg [(none, .mv 2 .copy (.k (N (-1))))])
 .ret)
 .skip)) (.seq (.reg [(none, .bslice 6 1 13 [(N 0), (N 0), (N 0), (N 0), (N 0), (N 0), (N 0), (N 0), (N 0), (N 0), (N 0), (N 0), (N 0)] [(0, 1, (.k (N 0))), (1, 1, (.k (N 0))), (2, 1, (.k (N 2))), (3, 1, (.k (N 3))), (4, 1, (.k (N 2))), (5, 1, (.k (N 2))), (6, 1, (.k (N 1))), (7, 1, (.k (N 1))), (8, 1, (.k (N 3))), (9, 1, (.k (N 1))), (10, 1, (.k (N 2))), (11, 1, (.k (N 1))), (12, 1, (.k (N 2)))]),(Jmc 7 0),(Jia 8 1 6 7),(Jlc 9 1 8),(Jmc 2 9)])
 .ret)))
theorem c_spec_l2Many : codeOf Tryz.prog n_spec_l2Many m_spec_l2Many = some (k_spec_l2Many, [.tmp 2], 10) := by kernel_rfl
def m__impl_typer__both : List (Nat × List Md) := [(1, [.copy, .copy, .copy, .take]), (7, [.take, .frz]), (1000001, [.copy, .copy, .copy, .copy, .frz])]
def k__impl_typer__both : C := (.seq (.reg [(none, .box 4 (.t 0)),(none, .mv 8 .copy (.k (.sl true true 1 [])))]) (.seq (.seq (.frz 4) (.reg [(Jmc 11 2),(Jln 12 11),(none, .mkslice 13 1 [(N 0)] (.t 12)),(Jmt 9 13)])) (.seq (.seq (.reg [(Jmc 14 2),(Jln 15 14),(none, .mv 16 .copy (.k (N 0)))]) (.block 0 (.loop (.seq (.reg [(Jbl 17 16 15)]) (.seq (.cond (.t 17)
 .skip (.exit 0)) (.seq (.block 1 (.seq (.reg [(Jmc 18 16),(Jmc 10 18)]) (.reg [(Jmc 19 9),(Jmc 20 10),(Jmc 21 1),(Jmc 22 2),(Jmc 23 10),(Jia 24 1 22 23),(Jlc 25 1 24),(Jmc 26 3),(Jmc 27 10),(Jia 28 1 26 27),(Jlc 29 1 28),(none, .call .no (some 30) (.t 21) [(.t 25), (.t 29)]),(Jia 31 1 19 20),(Jst 1 31 30)]))) (.reg [(Jba 32 16 1),(Jmc 16 32)]))))))) (.seq (.reg [(Jmt 33 9),(none, .mv 8 .frz (.t 33))])
 .ret))))
theorem c__impl_typer__both : codeOf Tryz.prog n__impl_typer__both m__impl_typer__both = some (k__impl_typer__both, [.tmp 8], 34) := by kernel_rfl
def m_slices_ContainsFunc___int_int_ : List (Nat × List Md) := [(1, [.take, .take])]
def k_slices_ContainsFunc___int_int_ : C := (.seq (.reg [(none, .mv 4 .copy (.k (.sc (.bool false))))]) (.seq (.reg [(Jmt 5 0),(Jmt 6 1),(none, .call .no (some 7) (.k (.fn n_slices_IndexFunc___int_int_ [])) [(.t 5), (.t 6)]),(none, .bin 8 .num .geq (.t 7) (.k (N 0))),(Jmc 4 8)])
 .ret))
theorem c_slices_ContainsFunc___int_int_ : codeOf Tryz.prog n_slices_ContainsFunc___int_int_ m_slices_ContainsFunc___int_int_ = some (k_slices_ContainsFunc___int_int_, [.tmp 4], 9) := by kernel_rfl
def m__impl_typer__usedOk_1 : List (Nat × List Md) := []
def k__impl_typer__usedOk_1 : C := (.seq (.reg [(none, .mv 4 .copy (.k (.sc (.bool false))))]) (.seq (.reg [(Jfa 5 0 1),(JlC 6 4 5),(Jmc 7 0),(Jlc 8 1 2),(none, .call .no (some 9) (.k (.fn n__impl_System__below [])) [(.t 6), (.t 7), (.t 8)]),(none, .un 10 .not (.t 9)),(Jmc 4 10)])
 .ret))
theorem c__impl_typer__usedOk_1 : codeOf Tryz.prog n__impl_typer__usedOk_1 m__impl_typer__usedOk_1 = some (k__impl_typer__usedOk_1, [.tmp 4], 11) := by kernel_rfl
def m_slices_IndexFunc___int_int_ : List (Nat × List Md) := []
def k_slices_IndexFunc___int_int_ : C := (.seq (.reg [(none, .mv 4 .copy (.k (N 0)))]) (.seq (.seq (.reg [(Jmc 6 0),(Jln 7 6),(none, .mv 8 .copy (.k (N 0)))]) (.block 0 (.loop (.seq (.reg [(Jbl 9 8 7)]) (.seq (.cond (.t 9)
 .skip (.exit 0)) (.seq (.block 1 (.seq (.reg [(Jmc 10 8),(Jmc 5 10)]) (.seq (.reg [(Jmc 11 1),(Jmc 12 0),(Jmc 13 5),(Jia 14 1 12 13),(Jlc 15 1 14),(none, .call .no (some 16) (.t 11) [(.t 15)])]) (.cond (.t 16) (.seq (.reg [(Jmc 17 5),(Jmc 4 17)])
 .ret)
 .skip)))) (.reg [(Jba 18 8 1),(Jmc 8 18)]))))))) (.seq (.reg [(none, .mv 4 .copy (.k (N (-1))))])
 .ret)))
theorem c_slices_IndexFunc___int_int_ : codeOf Tryz.prog n_slices_IndexFunc___int_int_ m_slices_IndexFunc___int_int_ = some (k_slices_IndexFunc___int_int_, [.tmp 4], 19) := by kernel_rfl
end Go.Proofs.YtclfngbealdbgaaGreat
namespace Go.Proofs.YtclfngbealdbgaaGreat
open Go Go.TL
set_option linter.unusedSimpArgs false
set_option linter.unusedVariables false
set_option maxRecDepth 20000
set_option maxHeartbeats 4000000
def I64 (n : Int) : Prop := -9223372036854775808 ≤ n ∧ n ≤ 9223372036854775807
def within (a lo hi : Int) : Bool := leB lo a && leB a hi
theorem within_true {a lo hi : Int} : within a lo hi = true ↔ lo ≤ a ∧ a ≤ hi := by simp [within, leB]
theorem within_false {a lo hi : Int} : within a lo hi = false ↔ ¬ (lo ≤ a ∧ a ≤ hi) := by rw [← within_true]; simp
theorem ltB_not {a b : Int} : ltB a b = !leB b a := by
  cases h : leB b a <;> simp [ltB_true, ltB_false, leB_true, leB_false, eqB_true, eqB_false, Bool.not_true, Bool.not_false, leB_true, leB_false] at h ⊢ <;> omega
abbrev OU (u nl : Bool) (l : List Int) : LV := .sl u nl 1 (l.map fun n => [N n])
abbrev L (nl : Bool) (l : List Int) : LV := OU false nl l
abbrev OB (u nl : Bool) (l : List Bool) : LV := .sl u nl 1 (l.map fun b => [B b])
abbrev LB (nl : Bool) (l : List Bool) : LV := OB false nl l
theorem idx_at {α : Type} (e : α → LV) (he : ∀ a, share (e a) = e a) (l : List α) (u nl : Bool) (i : Int) (h0 : 0 ≤ i) (h1 : i < l.length) : idxLV 1 (.sl u nl 1 (l.map fun a => [e a])) i = some (.rp [e (l[i.toNat]'(by omega))]) := by
  simp only [idxLV]
  rw [if_pos ⟨trivial, h0, by simpa using h1⟩]
  have : (l.map fun a => [e a]).getD i.toNat [] = [e (l[i.toNat]'(by omega))] := by
    simp [List.getD_eq_getElem?_getD, show i.toNat < l.length by omega]
  rw [this]
  simp [he]
theorem idx_L (l : List Int) (u nl : Bool) (i : Int) (h0 : 0 ≤ i) (h1 : i < l.length) : idxLV 1 (OU u nl l) i = some (.rp [N (l.getD i.toNat 0)]) := by
  have := idx_at N (by simp) l u nl i h0 h1
  rw [this, List.getD_eq_getElem?_getD, List.getElem?_eq_getElem (show i.toNat < l.length by omega)]
  rfl
theorem idx_LB (l : List Bool) (u nl : Bool) (i : Int) (h0 : 0 ≤ i) (h1 : i < l.length) : idxLV 1 (OB u nl l) i = some (.rp [B (l.getD i.toNat false)]) := by
  have := idx_at B (by simp) l u nl i h0 h1
  rw [this, List.getD_eq_getElem?_getD, List.getElem?_eq_getElem (show i.toNat < l.length by omega)]
  rfl
def Lok (l : List Int) : Prop := l.length ≤ 1099511627776 ∧ ∀ n ∈ l, I64 n
theorem Lok.at {l : List Int} (h : Lok l) {i : Nat} (hi : i < l.length) : I64 l[i] := h.2 _ (List.getElem_mem _)
structure GSys where
  size : Int
  n1 : Bool
  plus : List Int
  n2 : Bool
  times : List Int
  n3 : Bool
  below : List Bool
abbrev GSys.cells (s : GSys) : List LV := [N s.size, L s.n1 s.plus, L s.n2 s.times, LB s.n3 s.below]
abbrev GSys.lv (s : GSys) : LV := .agg s.cells
def GSys.wf (s : GSys) : Prop := I64 s.size ∧ s.plus.length ≤ 1099511627776 ∧ s.times.length ≤ 1099511627776 ∧ s.below.length ≤ 1099511627776 ∧ (∀ n ∈ s.plus, I64 n) ∧ ∀ n ∈ s.times, I64 n
def GSys.pl (s : GSys) (a b : Int) : Int := s.plus.getD (a * s.size + b).toNat 0
def GSys.tm (s : GSys) (a b : Int) : Int := s.times.getD (a * s.size + b).toNat 0
def GSys.le (s : GSys) (a b : Int) : Bool := s.below.getD (a * s.size + b).toNat false
structure GSys.Tab (s : GSys) : Prop where
  lo : 2 ≤ s.size
  hi : s.size ≤ 16
  lp : (s.plus.length : Int) = s.size * s.size
  lt : (s.times.length : Int) = s.size * s.size
  lb : (s.below.length : Int) = s.size * s.size
  rp : ∀ i, 0 ≤ s.plus.getD i 0 ∧ s.plus.getD i 0 < s.size
  rt : ∀ i, 0 ≤ s.times.getD i 0 ∧ s.times.getD i 0 < s.size
def GSys.G (s : GSys) (a : Int) : Prop := 0 ≤ a ∧ a < s.size
theorem GSys.at {s : GSys} (t : s.Tab) {a b : Int} (ha : s.G a) (hb : s.G b) : 0 ≤ a * s.size + b ∧ a * s.size + b < s.size * s.size ∧ 0 ≤ a * s.size ∧ a * s.size ≤ 256 := by
  have h1 : 0 ≤ a * s.size := Int.mul_nonneg ha.1 (by have := t.lo; omega)
  have h2 : (a + 1) * s.size ≤ s.size * s.size := Int.mul_le_mul_of_nonneg_right (by have := ha.2; omega) (by have := t.lo; omega)
  have h3 : (a + 1) * s.size = a * s.size + s.size := by rw [Int.add_mul]; omega
  have h4 : s.size * s.size ≤ 16 * 16 := Int.mul_le_mul t.hi t.hi (by have := t.lo; omega) (by omega)
  have := hb.1; have := hb.2
  refine ⟨by omega, by omega, h1, ?_⟩
  omega
theorem GSys.Gpl {s : GSys} (t : s.Tab) (a b : Int) : s.G (s.pl a b) := t.rp _
theorem GSys.Gtm {s : GSys} (t : s.Tab) (a b : Int) : s.G (s.tm a b) := t.rt _
theorem GSys.Glt {s : GSys} {i : Nat} (h : ltB (i : Int) s.size = true) : s.G i := ⟨by omega, by rw [ltB_true] at h; omega⟩
theorem GSys.G0 {s : GSys} (t : s.Tab) : s.G 0 := ⟨by omega, by have := t.lo; omega⟩
theorem GSys.G1 {s : GSys} (t : s.Tab) : s.G 1 := ⟨by omega, by have := t.lo; omega⟩
section
attribute [local simp low] onBool_some
attribute [local simp] onBool_leT onBool_leF onBool_ltT onBool_ltF onBool_eqT onBool_eqF
section
variable {s : GSys} (t : s.Tab) {a b : Int} (ha : s.G a) (hb : s.G b)
include t ha hb
theorem l1Add_ok : Gives Tryz.prog n_spec_l1Add [s.lv, N a, N b] (· = N (s.pl a b)) := by
  refine Gives.of_codeOf c_spec_l1Add mixed (by simp) ⟨_, rfl, by simp⟩ ?_
  obtain ⟨h1, h2, h3, h4⟩ := GSys.at t ha hb
  have := t.lo; have := t.hi; have := ha.1; have := ha.2; have := hb.1; have := hb.2
  simp (contextual := true) (disch := omega) [k_spec_l1Add, boxLV, frzLV, i64_wrap]
  have := t.lp
  simp (contextual := true) (disch := omega) [idx_L, GSys.pl]
theorem l1Mul_ok : Gives Tryz.prog n_spec_l1Mul [s.lv, N a, N b] (· = N (s.tm a b)) := by
  refine Gives.of_codeOf c_spec_l1Mul mixed (by simp) ⟨_, rfl, by simp⟩ ?_
  obtain ⟨h1, h2, h3, h4⟩ := GSys.at t ha hb
  have := t.lo; have := t.hi; have := ha.1; have := ha.2; have := hb.1; have := hb.2
  simp (contextual := true) (disch := omega) [k_spec_l1Mul, boxLV, frzLV, i64_wrap]
  have := t.lt
  simp (contextual := true) (disch := omega) [idx_L, GSys.tm]
theorem l1Le_ok : Gives Tryz.prog n_spec_l1Le [s.lv, N a, N b] (· = B (s.le a b)) := by
  refine Gives.of_codeOf c_spec_l1Le mixed (by simp) ⟨_, rfl, by simp⟩ ?_
  obtain ⟨h1, h2, h3, h4⟩ := GSys.at t ha hb
  have := t.lo; have := t.hi; have := ha.1; have := ha.2; have := hb.1; have := hb.2
  simp (contextual := true) (disch := omega) [k_spec_l1Le, boxLV, frzLV, i64_wrap]
  have := t.lb
  simp (contextual := true) (disch := omega) [idx_LB, GSys.le]
theorem plus_ok : Gives Tryz.prog n__impl_System__plus [s.lv, N a, N b] (· = N (s.pl a b)) := by
  refine Gives.of_codeOf c__impl_System__plus mixed (by simp) ⟨_, rfl, by simp⟩ ?_
  obtain ⟨h1, h2, h3, h4⟩ := GSys.at t ha hb
  have := t.lo; have := t.hi; have := ha.1; have := ha.2; have := hb.1; have := hb.2
  simp (contextual := true) (disch := omega) [k__impl_System__plus, boxLV, frzLV, i64_wrap]
  have := t.lp
  simp (contextual := true) (disch := omega) [idx_L, GSys.pl]
theorem times_ok : Gives Tryz.prog n__impl_System__times [s.lv, N a, N b] (· = N (s.tm a b)) := by
  refine Gives.of_codeOf c__impl_System__times mixed (by simp) ⟨_, rfl, by simp⟩ ?_
  obtain ⟨h1, h2, h3, h4⟩ := GSys.at t ha hb
  have := t.lo; have := t.hi; have := ha.1; have := ha.2; have := hb.1; have := hb.2
  simp (contextual := true) (disch := omega) [k__impl_System__times, boxLV, frzLV, i64_wrap]
  have := t.lt
  simp (contextual := true) (disch := omega) [idx_L, GSys.tm]
theorem below_ok : Gives Tryz.prog n__impl_System__below [s.lv, N a, N b] (· = B (s.le a b)) := by
  refine Gives.of_codeOf c__impl_System__below mixed (by simp) ⟨_, rfl, by simp⟩ ?_
  obtain ⟨h1, h2, h3, h4⟩ := GSys.at t ha hb
  have := t.lo; have := t.hi; have := ha.1; have := ha.2; have := hb.1; have := hb.2
  simp (contextual := true) (disch := omega) [k__impl_System__below, boxLV, frzLV, i64_wrap]
  have := t.lb
  simp (contextual := true) (disch := omega) [idx_LB, GSys.le]
end
theorem in_ok (a lo hi : Int) : Gives Tryz.prog n_spec_l1In [N a, N lo, N hi] (· = B (within a lo hi)) := by
  refine Gives.of_codeOf c_spec_l1In mixed (by simp) ⟨_, rfl, by simp⟩ ?_
  simp (contextual := true) (disch := omega) [k_spec_l1In, within]
theorem within_ok (a lo hi : Int) : Gives Tryz.prog n_impl_within [N a, N lo, N hi] (· = B (within a lo hi)) := by
  refine Gives.of_codeOf c_impl_within mixed (by simp) ⟨_, rfl, by simp⟩ ?_
  simp (contextual := true) (disch := omega) [k_impl_within, within]
theorem has_ok (s : GSys) (h : I64 s.size) (h2 : -9223372036854775808 < s.size) (g : Int) : Gives Tryz.prog n__impl_System__has [s.lv, N g] (· = B (within g 0 (s.size - 1))) := by
  refine Gives.of_codeOf c__impl_System__has mixed (by simp) ⟨_, rfl, by simp⟩ ?_
  obtain ⟨h1, h2⟩ := h
  simp (contextual := true) (disch := omega) [k__impl_System__has, boxLV, frzLV, i64_wrap]
  refine onCall_eq (within_ok _ _ _) (by simp) ?_
  simp (contextual := true) (disch := omega)
end
def firstOf (p : Int → Bool) : Nat → Nat → Int
  | _, 0 => -1
  | g, n + 1 => if p g = true then g else firstOf p (g + 1) n
def allN (p : Nat → Bool) : Nat → Bool
  | 0 => true
  | n + 1 => allN p n && p n
@[simp] theorem allN_zero (p : Nat → Bool) : allN p 0 = true := rfl
theorem allN_succ (p : Nat → Bool) (n : Nat) : allN p (n + 1) = (allN p n && p n) := rfl
theorem allN_iff {p : Nat → Bool} : ∀ {n : Nat}, allN p n = true ↔ ∀ i, i < n → p i = true
  | 0 => by simp
  | n + 1 => by
    rw [allN_succ, Bool.and_eq_true, allN_iff]
    exact ⟨fun h i hi => by by_cases he : i = n; · exact he ▸ h.2
                            · exact h.1 i (by omega), fun h => ⟨fun i hi => h i (by omega), h n (by omega)⟩⟩
theorem allN_false {p : Nat → Bool} {i n : Nat} (h : i ≤ n) (hf : allN p i = false) : allN p n = false := by
  cases hc : allN p n with
  | false => rfl
  | true =>
    rw [allN_iff] at hc
    rw [allN_iff.2 fun j hj => hc j (by omega)] at hf
    simp at hf
theorem allN_at {p : Nat → Bool} {i n : Nat} (h : i < n) (hf : p i = false) : allN p n = false :=
  allN_false (i := i + 1) h (by rw [allN_succ, hf]; simp)
def GSys.jn (s : GSys) (a b g h : Int) : Bool := !s.le a h || !s.le b h || s.le g h
def GSys.isJoin (s : GSys) (a b g : Int) : Bool := s.le a g && s.le b g && allN (fun h => s.jn a b g h) s.size.toNat
def GSys.join (s : GSys) (a b : Int) : Int := firstOf (s.isJoin a b) 0 s.size.toNat
def GSys.three (s : GSys) (a b c : Int) : Bool :=
  eqB (s.pl (s.pl a b) c) (s.pl a (s.pl b c)) && eqB (s.tm (s.tm a b) c) (s.tm a (s.tm b c)) && eqB (s.tm a (s.pl b c)) (s.pl (s.tm a b) (s.tm a c)) && eqB (s.tm (s.pl a b) c) (s.pl (s.tm a c) (s.tm b c)) &&
    (!s.le a b || ((!s.le b c || s.le a c) && s.le (s.pl a c) (s.pl b c) && s.le (s.tm a c) (s.tm b c) && s.le (s.tm c a) (s.tm c b)))
section
variable {s : GSys} (t : s.Tab) {a b c : Int} (ha : s.G a) (hb : s.G b) (hc : s.G c)
include t ha hb hc
theorem l1Three_ok : Gives Tryz.prog n_spec_l1Three [s.lv, N a, N b, N c] (· = B (s.three a b c)) := by
  refine Gives.of_codeOf c_spec_l1Three mixed (by simp) ⟨_, rfl, by simp⟩ ?_
  simp (disch := omega) [k_spec_l1Three, boxLV, frzLV]
  repeat' (first
    | with_reducible refine onCall_eq (l1Add_ok t (by first | assumption | exact GSys.Gpl t _ _ | exact GSys.Gtm t _ _ | exact GSys.Glt (by assumption) | exact GSys.G0 t | exact GSys.G1 t) (by first | assumption | exact GSys.Gpl t _ _ | exact GSys.Gtm t _ _ | exact GSys.Glt (by assumption) | exact GSys.G0 t | exact GSys.G1 t)) (by simp) ?_
    | with_reducible refine onCall_eq (l1Mul_ok t (by first | assumption | exact GSys.Gpl t _ _ | exact GSys.Gtm t _ _ | exact GSys.Glt (by assumption) | exact GSys.G0 t | exact GSys.G1 t) (by first | assumption | exact GSys.Gpl t _ _ | exact GSys.Gtm t _ _ | exact GSys.Glt (by assumption) | exact GSys.G0 t | exact GSys.G1 t)) (by simp) ?_
    | with_reducible refine onCall_eq (l1Le_ok t (by first | assumption | exact GSys.Gpl t _ _ | exact GSys.Gtm t _ _ | exact GSys.Glt (by assumption) | exact GSys.G0 t | exact GSys.G1 t) (by first | assumption | exact GSys.Gpl t _ _ | exact GSys.Gtm t _ _ | exact GSys.Glt (by assumption) | exact GSys.G0 t | exact GSys.G1 t)) (by simp) ?_
    | (with_reducible (first | refine onBoolT (fun hb_ => ?_) (fun hb_ => ?_) | refine onBoolF (fun hb_ => ?_) (fun hb_ => ?_)) <;> simp (disch := omega) [hb_])
    | simp (disch := omega))
  all_goals simp_all [GSys.three]
theorem lawsOf_ok : Gives Tryz.prog n__impl_System__lawsOf [s.lv, N a, N b, N c] (· = B (s.three a b c)) := by
  refine Gives.of_codeOf c__impl_System__lawsOf mixed (by simp) ⟨_, rfl, by simp⟩ ?_
  simp (disch := omega) [k__impl_System__lawsOf, boxLV, frzLV]
  repeat' (first
    | with_reducible refine onCall_eq (plus_ok t (by first | assumption | exact GSys.Gpl t _ _ | exact GSys.Gtm t _ _ | exact GSys.Glt (by assumption) | exact GSys.G0 t | exact GSys.G1 t) (by first | assumption | exact GSys.Gpl t _ _ | exact GSys.Gtm t _ _ | exact GSys.Glt (by assumption) | exact GSys.G0 t | exact GSys.G1 t)) (by simp) ?_
    | with_reducible refine onCall_eq (times_ok t (by first | assumption | exact GSys.Gpl t _ _ | exact GSys.Gtm t _ _ | exact GSys.Glt (by assumption) | exact GSys.G0 t | exact GSys.G1 t) (by first | assumption | exact GSys.Gpl t _ _ | exact GSys.Gtm t _ _ | exact GSys.Glt (by assumption) | exact GSys.G0 t | exact GSys.G1 t)) (by simp) ?_
    | with_reducible refine onCall_eq (below_ok t (by first | assumption | exact GSys.Gpl t _ _ | exact GSys.Gtm t _ _ | exact GSys.Glt (by assumption) | exact GSys.G0 t | exact GSys.G1 t) (by first | assumption | exact GSys.Gpl t _ _ | exact GSys.Gtm t _ _ | exact GSys.Glt (by assumption) | exact GSys.G0 t | exact GSys.G1 t)) (by simp) ?_
    | (with_reducible (first | refine onBoolT (fun hb_ => ?_) (fun hb_ => ?_) | refine onBoolF (fun hb_ => ?_) (fun hb_ => ?_)) <;> simp (disch := omega) [hb_])
    | simp (disch := omega))
  all_goals simp_all [GSys.three]
end
end Go.Proofs.YtclfngbealdbgaaGreat
namespace Go.Proofs.YtclfngbealdbgaaGreat
open Go Go.TL
set_option linter.unusedSimpArgs false
set_option linter.unusedVariables false
set_option maxRecDepth 20000
set_option maxHeartbeats 4000000
def leftI (sz : Nat) (left : Int) : Int := if (sz : Int) ≤ left then left - sz else -1
theorem leftI_add {a b : Nat} {m : Int} (h : 0 ≤ m) : leftI (a + b) m = leftI b (leftI a m) := by
  unfold leftI; repeat' split
  all_goals omega
theorem leftI_range {a : Nat} {m : Int} (h : 0 ≤ m) : -1 ≤ leftI a m ∧ leftI a m ≤ m := by
  unfold leftI; split <;> omega
theorem leftI_neg {a : Nat} {m : Int} (h : m < 0) : leftI a m = -1 := by
  unfold leftI; split <;> omega
theorem leftI_zero {m : Int} (h : 0 ≤ m) : leftI 0 m = m := by
  unfold leftI; split <;> omega
def fill {α : Type} (e : α → List LV) (z : List LV) (l : List α) (i : Nat) : List LV := ((l.take i).map e).flatten ++ (List.replicate (l.length - i) z).flatten
section
variable {α : Type} {e : α → List LV} {z : List LV} {l : List α} {sz : Nat} (he : ∀ x, (e x).length = sz) (hz : z.length = sz)
include he
theorem flat_len (k : List α) : ((k.map e).flatten).length = k.length * sz := by
  induction k with
  | nil => simp
  | cons x k ih => simp [ih, he, Nat.add_mul, Nat.add_comm]
include hz
theorem fill_len {i : Nat} (h : i ≤ l.length) : (fill e z l i).length = l.length * sz := by
  simp only [fill, List.length_append, flat_len he, List.length_take, Nat.min_eq_left h]
  rw [List.length_flatten]
  simp only [List.map_replicate, hz, List.sum_replicate_nat]
  rw [← Nat.add_mul]; congr 1; omega
theorem fill_step {i : Nat} (h : i < l.length) : splice (fill e z l i) (i * sz) (e l[i]) = fill e z l (i + 1) := by
  have h1 : (((l.take i).map e).flatten).length = i * sz := by rw [flat_len he]; simp [Nat.min_eq_left (Nat.le_of_lt h)]
  have h2 : l.length - i = (l.length - (i + 1)) + 1 := by omega
  unfold splice
  rw [fill, h2, List.replicate_succ, List.flatten_cons, fill, List.take_append_of_le_length (by omega), List.take_of_length_le (by omega), List.take_succ_eq_append_getElem h, List.map_append, List.flatten_append]
  simp only [List.map_cons, List.map_nil, List.flatten_cons, List.flatten_nil, List.append_nil]
  congr 1
  rw [List.drop_append, List.drop_of_length_le (by omega), he, h1, List.nil_append, List.drop_append, List.drop_of_length_le (by omega)]
  simp [hz]
end
theorem fill_end {α : Type} {e : α → List LV} {z : List LV} {l : List α} : fill e z l l.length = (l.map e).flatten := by simp [fill]
theorem fill_zero {α : Type} {e : α → List LV} {z : List LV} {l : List α} : fill e z l 0 = (List.replicate l.length z).flatten := by simp [fill]
theorem szIntS_ok (nl : Bool) (l : List Int) (hl : l.length ≤ 9223372036854775807) (left : Int) (h0 : 0 ≤ left) (h1 : left ≤ 1099511627776) : Gives Tryz.prog n_laws_szIntS [L nl l, N left] (· = N (leftI l.length left)) := by
  refine Gives.of_codeOf c_laws_szIntS mixed (by simp) ⟨_, rfl, by simp⟩ ?_
  simp (disch := omega) [k_laws_szIntS, i64_wrap]
  repeat' (first
    | (with_reducible (first | refine onBoolT (fun hb_ => ?_) (fun hb_ => ?_) | refine onBoolF (fun hb_ => ?_) (fun hb_ => ?_)) <;> simp (disch := omega) [hb_])
    | simp (disch := omega))
  all_goals simp only [ltB_true, ltB_false, leB_true, leB_false, eqB_true, eqB_false, Bool.not_true, Bool.not_false, leftI] at *
  all_goals (split <;> omega)
theorem szBoolS_ok (nl : Bool) (l : List Bool) (hl : l.length ≤ 9223372036854775807) (left : Int) (h0 : 0 ≤ left) (h1 : left ≤ 1099511627776) : Gives Tryz.prog n_laws_szBoolS [LB nl l, N left] (· = N (leftI l.length left)) := by
  refine Gives.of_codeOf c_laws_szBoolS mixed (by simp) ⟨_, rfl, by simp⟩ ?_
  simp (disch := omega) [k_laws_szBoolS, i64_wrap]
  repeat' (first
    | (with_reducible (first | refine onBoolT (fun hb_ => ?_) (fun hb_ => ?_) | refine onBoolF (fun hb_ => ?_) (fun hb_ => ?_)) <;> simp (disch := omega) [hb_])
    | simp (disch := omega))
  all_goals simp only [ltB_true, ltB_false, leB_true, leB_false, eqB_true, eqB_false, Bool.not_true, Bool.not_false, leftI] at *
  all_goals (split <;> omega)
theorem frz_fill {α : Type} {e : α → List LV} {sz : Nat} (he : ∀ x, (e x).length = sz) (l : List α) : frzLV [some (l.map e).flatten] (.ha 0 sz 0 l.length l.length) = some (.sl true false sz (l.map e), [none]) := by
  have := frz_ha (h := [some (l.map e).flatten]) (l := 0) (sz := sz) (n := l.length) rfl (flat_len he l)
  rw [chunks_flat e sz l (fun x _ => he x)] at this
  simpa using this
theorem toIntS_ok (nl : Bool) (l : List Int) (hl : l.length ≤ 1099511627776) : Gives Tryz.prog n_laws_toIntS [L nl l] (· = OU true false l) := by
  refine Gives.of_codeOf c_laws_toIntS mixed (by simp) ⟨_, rfl, by simp⟩ ?_
  have hm : (l.length : Int) ≤ (most : Nat) := by unfold most; omega
  have he : ∀ x : Int, ([N x] : List LV).length = 1 := by simp
  simp (disch := omega) [k_laws_toIntS, hm]
  refine wpC_for l.length 0 (fun i t h => t 4 = N i ∧ h = [some (fill (fun x => [N x]) [N 0] l i)]) (by simp [fill_zero]) (by omega) ?_
  rintro i t1 hh hf hi ⟨e4, rfl⟩
  (have e0 := hf 0 (by kernel_rfl); have e3 := hf 3 (by kernel_rfl); clear hf; simp [] at e0 e3)
  simp (disch := omega) [e0, e3, e4]
  (with_reducible first | refine onBoolT (fun h6 => ?_) (fun h6 => ?_) | refine onBoolF (fun h6 => ?_) (fun h6 => ?_))
  · simp only [ltB_true, ltB_false, leB_true, leB_false, eqB_true, eqB_false, Bool.not_true, Bool.not_false] at h6
    have hlen := fill_len (z := [N 0]) (l := l) he rfl hi
    have hst := fill_step (z := [N 0]) (l := l) he rfl (i := i) (by omega)
    simp (disch := omega) [e0, e3, e4, idx_L, idx_ha, i64_wrap, hlen, hst]
    exact ⟨by omega, by omega, by simpa [splice] using hst⟩
  · simp only [ltB_true, ltB_false, leB_true, leB_false, eqB_true, eqB_false, Bool.not_true, Bool.not_false] at h6
    rw [show i = l.length by omega, fill_end]
    simp (disch := omega) [e0, e3, e4]
    rw [frz_fill he]
    simp
theorem toBoolS_ok (nl : Bool) (l : List Bool) (hl : l.length ≤ 1099511627776) : Gives Tryz.prog n_laws_toBoolS [LB nl l] (· = OB true false l) := by
  refine Gives.of_codeOf c_laws_toBoolS mixed (by simp) ⟨_, rfl, by simp⟩ ?_
  have hm : (l.length : Int) ≤ (most : Nat) := by unfold most; omega
  have he : ∀ x : Bool, ([B x] : List LV).length = 1 := by simp
  simp (disch := omega) [k_laws_toBoolS, hm]
  refine wpC_for l.length 0 (fun i t h => t 4 = N i ∧ h = [some (fill (fun x => [B x]) [B false] l i)]) (by simp [fill_zero]) (by omega) ?_
  rintro i t1 hh hf hi ⟨e4, rfl⟩
  (have e0 := hf 0 (by kernel_rfl); have e3 := hf 3 (by kernel_rfl); clear hf; simp [] at e0 e3)
  simp (disch := omega) [e0, e3, e4]
  (with_reducible first | refine onBoolT (fun h6 => ?_) (fun h6 => ?_) | refine onBoolF (fun h6 => ?_) (fun h6 => ?_))
  · simp only [ltB_true, ltB_false, leB_true, leB_false, eqB_true, eqB_false, Bool.not_true, Bool.not_false] at h6
    have hlen := fill_len (z := [B false]) (l := l) he rfl hi
    have hst := fill_step (z := [B false]) (l := l) he rfl (i := i) (by omega)
    simp (disch := omega) [e0, e3, e4, idx_LB, idx_ha, i64_wrap, hlen, hst]
    exact ⟨by omega, by omega, by simpa [splice] using hst⟩
  · simp only [ltB_true, ltB_false, leB_true, leB_false, eqB_true, eqB_false, Bool.not_true, Bool.not_false] at h6
    rw [show i = l.length by omega, fill_end]
    simp (disch := omega) [e0, e3, e4]
    rw [frz_fill he]
    simp
abbrev GCtx := List (Bool × List Int)
abbrev eC (c : Bool × List Int) : LV := L c.1 c.2
abbrev LC (nl : Bool) (ctx : GCtx) : LV := .sl false nl 1 (ctx.map fun c => [eC c])
theorem idx_C (ctx : GCtx) (nl : Bool) (i : Nat) (h : i < ctx.length) : idxLV 1 (LC nl ctx) (i : Int) = some (.rp [eC (ctx[i]'h)]) := by
  have := idx_at eC (by simp) ctx false nl i (by omega) (by omega)
  rw [this]
  simp
def GCtx.raw (ctx : GCtx) : Prop := ctx.length ≤ 9223372036854775807 ∧ ∀ c ∈ ctx, c.2.length ≤ 9223372036854775807 ∧ ∀ n ∈ c.2, I64 n
def GCtx.wf (ctx : GCtx) : Prop := ctx.length ≤ 1099511627776 ∧ ∀ c ∈ ctx, Lok c.2
def GCtx.norm (ctx : GCtx) : GCtx := ctx.map fun c => (false, c.2)
abbrev GCtx.own (ctx : GCtx) : LV := .sl true false 1 (ctx.map fun c => [OU true false c.2])
theorem share_own (ctx : GCtx) : share ctx.own = LC false ctx.norm := by
  simp [GCtx.own, GCtx.norm]
theorem low_own (k : Nat) (ctx : GCtx) : Low k ctx.own := by simp [GCtx.own]
def cws : GCtx → Nat
  | [] => 0
  | c :: cs => c.2.length + cws cs
theorem cws_drop {ctx : GCtx} {i : Nat} (h : i < ctx.length) : cws (ctx.drop i) = ctx[i].2.length + cws (ctx.drop (i + 1)) := by
  rw [List.drop_eq_getElem_cons h, cws]
theorem cws_mem : ∀ {ctx : GCtx} {c : Bool × List Int}, c ∈ ctx → c.2.length ≤ cws ctx
  | d :: ctx, c, h => by
    simp only [List.mem_cons] at h
    simp only [cws]
    rcases h with rfl | h
    · omega
    · have := cws_mem h; omega
theorem szIntSS_ok (nl : Bool) (ctx : GCtx) (hw : ctx.raw) (left : Int) (h0 : 0 ≤ left) (h1 : left ≤ 1099511627776) : Gives Tryz.prog n_laws_szIntSS [LC nl ctx, N left] (· = N (leftI (ctx.length + cws ctx) left)) := by
  have hlen := hw.1
  refine Gives.of_codeOf c_laws_szIntSS mixed (by simp) ⟨_, rfl, by simp⟩ ?_
  simp (disch := omega) [k_laws_szIntSS, i64_wrap]
  (with_reducible first | refine onBoolT (fun h2 => ?_) (fun h2 => ?_) | refine onBoolF (fun h2 => ?_) (fun h2 => ?_))
  · simp (disch := omega) [h2]
    simp only [ltB_true, ltB_false, leB_true, leB_false, eqB_true, eqB_false, Bool.not_true, Bool.not_false] at h2
    unfold leftI; rw [if_neg (by omega)]
  · simp (disch := omega) [h2]
    simp only [ltB_true, ltB_false, leB_true, leB_false, eqB_true, eqB_false, Bool.not_true, Bool.not_false] at h2
    have e1 : leftI (ctx.length + cws ctx) left = leftI (cws ctx) (left - ctx.length) := by
      rw [leftI_add h0]; congr 1; unfold leftI; rw [if_pos (by omega)]
    rw [e1]
    refine wpC_for ctx.length 0 (fun i t _ => ∃ m : Int, t 5 = N i ∧ t 1 = N m ∧ 0 ≤ m ∧ m ≤ left ∧ leftI (cws ctx) (left - ctx.length) = leftI (cws (ctx.drop i)) m) ⟨left - ctx.length, by simp, by simp, by omega, by omega, by simp⟩ (by omega) ?_
    rintro i t1 hh hf hi ⟨m, e5, e1', hm, hm2, he⟩
    (have e0 := hf 0 (by kernel_rfl); clear hf; simp [] at e0)
    simp (disch := omega) [e0, e1', e5]
    (with_reducible first | refine onBoolT (fun h6 => ?_) (fun h6 => ?_) | refine onBoolF (fun h6 => ?_) (fun h6 => ?_))
    · simp only [ltB_true, ltB_false, leB_true, leB_false, eqB_true, eqB_false, Bool.not_true, Bool.not_false] at h6
      have hr := hw.2 (ctx[i]'(by omega)) (List.getElem_mem _)
      have hs := szIntS_ok (ctx[i]'(by omega)).1 (ctx[i]'(by omega)).2 hr.1 m hm (by omega)
      simp (disch := omega) [e0, e1', e5, idx_C]
      repeat' (first
    | with_reducible refine onCall_eq (hs) (by simp) ?_
    | (with_reducible (first | refine onBoolT (fun hb_ => ?_) (fun hb_ => ?_) | refine onBoolF (fun hb_ => ?_) (fun hb_ => ?_)) <;> simp (disch := omega) [hb_, e0, e1', e5, i64_wrap])
    | simp (disch := omega) [e0, e1', e5, i64_wrap])
      all_goals simp only [ltB_true, ltB_false, leB_true, leB_false, eqB_true, eqB_false, Bool.not_true, Bool.not_false] at hb_
      · rw [he, cws_drop (by omega), leftI_add hm, leftI_neg hb_]
      · refine ⟨by omega, hb_, ?_, ?_⟩
        · have := leftI_range (a := (ctx[i]'(by omega)).2.length) hm; omega
        · rw [he, cws_drop (by omega), leftI_add hm]
    · simp only [ltB_true, ltB_false, leB_true, leB_false, eqB_true, eqB_false, Bool.not_true, Bool.not_false] at h6
      simp (disch := omega) [e1']
      rw [he, show i = ctx.length by omega, List.drop_length, cws, leftI_zero hm]
theorem toIntSS_ok (nl : Bool) (ctx : GCtx) (hw : ctx.wf) : Gives Tryz.prog n_laws_toIntSS [LC nl ctx] (· = ctx.own) := by
  have hl := hw.1
  refine Gives.of_codeOf c_laws_toIntSS mixed (by simp) ⟨_, rfl, by simp⟩ ?_
  have hm : (ctx.length : Int) ≤ (most : Nat) := by unfold most; omega
  have he : ∀ x : Bool × List Int, ([OU true false x.2] : List LV).length = 1 := by simp
  simp (disch := omega) [k_laws_toIntSS, hm]
  refine wpC_for ctx.length 0 (fun i t h => t 4 = N i ∧ h = [some (fill (fun x : Bool × List Int => [OU true false x.2]) [.sl true true 1 []] ctx i)]) (by simp [fill_zero]) (by omega) ?_
  rintro i t1 hh hf hi ⟨e4, rfl⟩
  (have e0 := hf 0 (by kernel_rfl); have e3 := hf 3 (by kernel_rfl); clear hf; simp [] at e0 e3)
  simp (disch := omega) [e0, e3, e4]
  (with_reducible first | refine onBoolT (fun h6 => ?_) (fun h6 => ?_) | refine onBoolF (fun h6 => ?_) (fun h6 => ?_))
  · simp only [ltB_true, ltB_false, leB_true, leB_false, eqB_true, eqB_false, Bool.not_true, Bool.not_false] at h6
    have hlen := fill_len (z := [.sl true true 1 []]) (l := ctx) he rfl hi
    have hst := fill_step (z := [.sl true true 1 []]) (l := ctx) he rfl (i := i) (by omega)
    have hL := hw.2 (ctx[i]'(by omega)) (List.getElem_mem _)
    have hto := toIntS_ok (ctx[i]'(by omega)).1 (ctx[i]'(by omega)).2 hL.1
    simp (disch := omega) [e0, e3, e4, idx_C, idx_ha, i64_wrap, hlen, hst]
    repeat' (first
    | with_reducible refine onCall_eq (hto) (by simp) ?_
    | (with_reducible (first | refine onBoolT (fun hb_ => ?_) (fun hb_ => ?_) | refine onBoolF (fun hb_ => ?_) (fun hb_ => ?_)) <;> simp (disch := omega) [hb_, e0, e3, e4, idx_C, idx_ha, i64_wrap, hlen, hst])
    | simp (disch := omega) [e0, e3, e4, idx_C, idx_ha, i64_wrap, hlen, hst])
    exact ⟨by omega, by omega, by simpa [splice] using hst⟩
  · simp only [ltB_true, ltB_false, leB_true, leB_false, eqB_true, eqB_false, Bool.not_true, Bool.not_false] at h6
    rw [show i = ctx.length by omega, fill_end]
    simp (disch := omega) [e0, e3, e4]
    rw [frz_fill he]
    simp [GCtx.own]
theorem eqIntS_ok (n1 n2 : Bool) (a b : List Int) (ha : a.length ≤ 1099511627776) : Gives Tryz.prog n_laws_eqIntS [L n1 a, L n2 b] (· = B (a == b)) := by
  generalize hq : (a == b) = q
  refine Gives.of_codeOf c_laws_eqIntS mixed (by simp) ⟨_, rfl, by simp⟩ ?_
  simp (disch := omega) [k_laws_eqIntS]
  (with_reducible first | refine onBoolT (fun h1 => ?_) (fun h1 => ?_) | refine onBoolF (fun h1 => ?_) (fun h1 => ?_))
  · simp (disch := omega) [h1]
    simp only [ltB_true, ltB_false, leB_true, leB_false, eqB_true, eqB_false, Bool.not_true, Bool.not_false] at h1
    refine wpC_for a.length 0 (fun i t _ => t 5 = N i ∧ q = (a.drop i == b.drop i)) (by simp [hq]) (by omega) ?_
    rintro i t1 hh hf hi ⟨e5, hj⟩
    (have e0 := hf 0 (by kernel_rfl); have e1 := hf 1 (by kernel_rfl); clear hf; simp [] at e0 e1)
    simp (disch := omega) [e0, e1, e5]
    (with_reducible first | refine onBoolT (fun h6 => ?_) (fun h6 => ?_) | refine onBoolF (fun h6 => ?_) (fun h6 => ?_))
    · simp only [ltB_true, ltB_false, leB_true, leB_false, eqB_true, eqB_false, Bool.not_true, Bool.not_false] at h6
      have hd1 := List.drop_eq_getElem_cons (l := a) (i := i) (by omega)
      have hd2 := List.drop_eq_getElem_cons (l := b) (i := i) (by omega)
      have hq2 : q = (a[i]'(by omega) == b[i]'(by omega) && (a.drop (i + 1) == b.drop (i + 1))) := by rw [hj, hd1, hd2]; rfl
      clear hd1 hd2 hj
      simp (disch := omega) [e0, e1, e5, idx_L]
      repeat' (first
    | (with_reducible (first | refine onBoolT (fun hb_ => ?_) (fun hb_ => ?_) | refine onBoolF (fun hb_ => ?_) (fun hb_ => ?_)) <;> simp (disch := omega) [hb_, e0, e1, e5, i64_wrap])
    | simp (disch := omega) [e0, e1, e5, i64_wrap])
      all_goals simp only [ltB_true, ltB_false, leB_true, leB_false, eqB_true, eqB_false, Bool.not_true, Bool.not_false] at hb_
      · exact ⟨by omega, by simp [hq2, hb_]⟩
      · simp [hq2, hb_]
    · simp only [ltB_true, ltB_false, leB_true, leB_false, eqB_true, eqB_false, Bool.not_true, Bool.not_false] at h6
      simp (disch := omega)
      rw [hj, List.drop_of_length_le (by omega), List.drop_of_length_le (by omega)]; simp
  · simp (disch := omega) [h1]
    simp only [ltB_true, ltB_false, leB_true, leB_false, eqB_true, eqB_false, Bool.not_true, Bool.not_false] at h1
    rw [← hq]; simp; intro h; exact h1 (by rw [h])
theorem eqBoolS_ok (n1 n2 : Bool) (a b : List Bool) (ha : a.length ≤ 1099511627776) : Gives Tryz.prog n_laws_eqBoolS [LB n1 a, LB n2 b] (· = B (a == b)) := by
  generalize hq : (a == b) = q
  refine Gives.of_codeOf c_laws_eqBoolS mixed (by simp) ⟨_, rfl, by simp⟩ ?_
  simp (disch := omega) [k_laws_eqBoolS]
  (with_reducible first | refine onBoolT (fun h1 => ?_) (fun h1 => ?_) | refine onBoolF (fun h1 => ?_) (fun h1 => ?_))
  · simp (disch := omega) [h1]
    simp only [ltB_true, ltB_false, leB_true, leB_false, eqB_true, eqB_false, Bool.not_true, Bool.not_false] at h1
    refine wpC_for a.length 0 (fun i t _ => t 5 = N i ∧ q = (a.drop i == b.drop i)) (by simp [hq]) (by omega) ?_
    rintro i t1 hh hf hi ⟨e5, hj⟩
    (have e0 := hf 0 (by kernel_rfl); have e1 := hf 1 (by kernel_rfl); clear hf; simp [] at e0 e1)
    simp (disch := omega) [e0, e1, e5]
    (with_reducible first | refine onBoolT (fun h6 => ?_) (fun h6 => ?_) | refine onBoolF (fun h6 => ?_) (fun h6 => ?_))
    · simp only [ltB_true, ltB_false, leB_true, leB_false, eqB_true, eqB_false, Bool.not_true, Bool.not_false] at h6
      have hd1 := List.drop_eq_getElem_cons (l := a) (i := i) (by omega)
      have hd2 := List.drop_eq_getElem_cons (l := b) (i := i) (by omega)
      have hq2 : q = (a[i]'(by omega) == b[i]'(by omega) && (a.drop (i + 1) == b.drop (i + 1))) := by rw [hj, hd1, hd2]; rfl
      clear hd1 hd2 hj
      simp (disch := omega) [e0, e1, e5, idx_LB]
      repeat' (first
    | (with_reducible (first | refine onBoolT (fun hb_ => ?_) (fun hb_ => ?_) | refine onBoolF (fun hb_ => ?_) (fun hb_ => ?_)) <;> simp (disch := omega) [hb_, e0, e1, e5, i64_wrap])
    | simp (disch := omega) [e0, e1, e5, i64_wrap])
      · exact ⟨by omega, by rw [hq2, hb_, Bool.true_and]⟩
      · rw [hq2, hb_, Bool.false_and]
    · simp only [ltB_true, ltB_false, leB_true, leB_false, eqB_true, eqB_false, Bool.not_true, Bool.not_false] at h6
      simp (disch := omega)
      rw [hj, List.drop_of_length_le (by omega), List.drop_of_length_le (by omega)]; simp
  · simp (disch := omega) [h1]
    simp only [ltB_true, ltB_false, leB_true, leB_false, eqB_true, eqB_false, Bool.not_true, Bool.not_false] at h1
    rw [← hq]; simp; intro h; exact h1 (by rw [h])
def sameC : GCtx → GCtx → Bool
  | [], [] => true
  | a :: a', b :: b' => (a.2 == b.2) && sameC a' b'
  | _, _ => false
theorem sameC_len : ∀ {a b : GCtx}, a.length ≠ b.length → sameC a b = false
  | [], [], h => by simp at h
  | [], _ :: _, _ => rfl
  | _ :: _, [], _ => rfl
  | a :: a', b :: b', h => by simp only [sameC, sameC_len (a := a') (b := b') (by simpa using h), Bool.and_false]
theorem sameC_refl : ∀ a : GCtx, sameC a a = true
  | [] => rfl
  | a :: a' => by simp [sameC, sameC_refl a']
theorem eqIntSS_ok (n1 n2 : Bool) (a b : GCtx) (ha : a.wf) : Gives Tryz.prog n_laws_eqIntSS [LC n1 a, LC n2 b] (· = B (sameC a b)) := by
  have hla := ha.1
  refine Gives.of_codeOf c_laws_eqIntSS mixed (by simp) ⟨_, rfl, by simp⟩ ?_
  simp (disch := omega) [k_laws_eqIntSS]
  (with_reducible first | refine onBoolT (fun h1 => ?_) (fun h1 => ?_) | refine onBoolF (fun h1 => ?_) (fun h1 => ?_))
  · simp (disch := omega) [h1]
    simp only [ltB_true, ltB_false, leB_true, leB_false, eqB_true, eqB_false, Bool.not_true, Bool.not_false] at h1
    refine wpC_for a.length 0 (fun i t _ => t 5 = N i ∧ sameC a b = sameC (a.drop i) (b.drop i)) (by simp) (by omega) ?_
    rintro i t1 hh hf hi ⟨e5, hj⟩
    (have e0 := hf 0 (by kernel_rfl); have e1 := hf 1 (by kernel_rfl); clear hf; simp [] at e0 e1)
    simp (disch := omega) [e0, e1, e5]
    (with_reducible first | refine onBoolT (fun h6 => ?_) (fun h6 => ?_) | refine onBoolF (fun h6 => ?_) (fun h6 => ?_))
    · simp only [ltB_true, ltB_false, leB_true, leB_false, eqB_true, eqB_false, Bool.not_true, Bool.not_false] at h6
      have hd1 := List.drop_eq_getElem_cons (l := a) (i := i) (by omega)
      have hd2 := List.drop_eq_getElem_cons (l := b) (i := i) (by omega)
      have hq2 : sameC a b = ((a[i]'(by omega)).2 == (b[i]'(by omega)).2 && sameC (a.drop (i + 1)) (b.drop (i + 1))) := by rw [hj, hd1, hd2]; rfl
      clear hd1 hd2 hj
      have hL := ha.2 (a[i]'(by omega)) (List.getElem_mem _)
      have hc := eqIntS_ok (a[i]'(by omega)).1 (b[i]'(by omega)).1 (a[i]'(by omega)).2 (b[i]'(by omega)).2 hL.1
      simp (disch := omega) [e0, e1, e5, idx_C]
      generalize ((a[i]'(by omega)).2 == (b[i]'(by omega)).2) = q1 at *
      repeat' (first
    | with_reducible refine onCall_eq (hc) (by simp) ?_
    | (with_reducible (first | refine onBoolT (fun hb_ => ?_) (fun hb_ => ?_) | refine onBoolF (fun hb_ => ?_) (fun hb_ => ?_)) <;> simp (disch := omega) [hb_, e0, e1, e5, idx_C, i64_wrap])
    | simp (disch := omega) [e0, e1, e5, idx_C, i64_wrap])
      · exact ⟨by omega, by rw [hq2, hb_, Bool.true_and]⟩
      · rw [hq2, hb_, Bool.false_and]
    · simp only [ltB_true, ltB_false, leB_true, leB_false, eqB_true, eqB_false, Bool.not_true, Bool.not_false] at h6
      simp (disch := omega)
      rw [hj, List.drop_of_length_le (by omega), List.drop_of_length_le (by omega)]; rfl
  · simp (disch := omega) [h1]
    simp only [ltB_true, ltB_false, leB_true, leB_false, eqB_true, eqB_false, Bool.not_true, Bool.not_false] at h1
    exact sameC_len (by omega)
end Go.Proofs.YtclfngbealdbgaaGreat
namespace Go.Proofs.YtclfngbealdbgaaGreat.Ty
def isArrow (c : Int) : Bool := (decide (3 ≤ c) && decide (c ≤ 18)) || c == 35
def isBox (c : Int) : Bool := (decide (19 ≤ c) && decide (c ≤ 34)) || c == 36
def kidsN (c : Int) : Option Nat :=
  if c = 0 then some 0 else if c = 1 ∨ c = 2 ∨ isArrow c = true then some 2 else if isBox c = true then some 1 else none
def skip : Nat → List Int → Option (List Int)
  | 0, l => some l
  | _ + 1, [] => none
  | n + 1, c :: l => match kidsN c with
    | none => none
    | some k => skip (n + k) l
def endOf (n : Nat) (l : List Int) (len : Nat) : Int := match skip n l with
  | some r => (len : Int) - r.length
  | none => -1
def wty (l : List Int) : Bool := decide (1 ≤ l.length) && decide (l.length ≤ 40) && (skip 1 l == some [])
def forgot (l : List Int) : List Int := l.flatMap fun c => if isBox c = true then [] else if isArrow c = true then [4] else [c]
theorem kidsN_le {c : Int} {k : Nat} (h : kidsN c = some k) : k ≤ 2 := by
  unfold kidsN at h
  split at h
  · simp at h; omega
  · split at h
    · simp at h; omega
    · split at h
      · simp at h; omega
      · simp at h
theorem skip_add (b : Nat) : ∀ (l : List Int) (a : Nat), skip (a + b) l = (skip a l).bind (skip b)
  | [], 0 => by simp [skip]
  | [], a + 1 => by rw [show a + 1 + b = (a + b) + 1 by omega]; simp [skip]
  | c :: l, 0 => by simp [skip]
  | c :: l, a + 1 => by
    rw [show a + 1 + b = (a + b) + 1 by omega]
    simp only [skip]
    cases h : kidsN c with
    | none => simp
    | some k =>
      simp only
      rw [show a + b + k = (a + k) + b by omega]
      exact skip_add b l (a + k)
theorem skip_drop : ∀ (l : List Int) (n : Nat) (r : List Int), skip n l = some r → ∃ m, r = l.drop m ∧ n ≤ m ∧ m ≤ l.length
  | l, 0, r, h => ⟨0, by simp [skip] at h; simp [h], by omega, by omega⟩
  | [], n + 1, r, h => by simp [skip] at h
  | c :: l, n + 1, r, h => by
    simp only [skip] at h
    cases hk : kidsN c with
    | none => simp [hk] at h
    | some k =>
      simp only [hk] at h
      obtain ⟨m, hm, h1, h2⟩ := skip_drop l (n + k) r h
      exact ⟨m + 1, by simpa using hm, by omega, by simp; omega⟩
theorem skip_length {l r : List Int} {n : Nat} (h : skip n l = some r) : r.length + n ≤ l.length := by
  obtain ⟨m, rfl, h1, h2⟩ := skip_drop l n r h
  simp; omega
theorem forgot_length (l : List Int) : (forgot l).length ≤ l.length := by
  induction l with
  | nil => simp [forgot]
  | cons c l ih =>
    simp only [forgot, List.flatMap_cons, List.length_append, List.length_cons] at ih ⊢
    have : (if isBox c = true then ([] : List Int) else if isArrow c = true then [4] else [c]).length ≤ 1 := by
      split
      · simp
      · split <;> simp
    omega
theorem forgot_snoc (l : List Int) (c : Int) : forgot (l ++ [c]) = forgot l ++ (if isBox c = true then [] else if isArrow c = true then [4] else [c]) := by
  simp [forgot]
end Go.Proofs.YtclfngbealdbgaaGreat.Ty
