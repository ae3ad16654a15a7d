/- The code of single functions of the program, over trees. No conditions. -/
import Derived.Test.YticcekapikfhaaaTLO
import Derived.Test.YticcekapikfhaaaChecked
import Derived.KernelRfl
namespace Go.Proofs.Yticcekapikfhaaa
open Go Go.TL
theorem mixed : Try.prog.follows .mixedOrders = true := by kernel_rfl
def n_laws_FnExactForgetType : FuncId := 3
def n_laws_FnExactBoxType : FuncId := 4
def n_laws_FnExactNewSession : FuncId := 5
def n_laws_FnForgetsBoxes : FuncId := 6
def n_spec_ForgetType : FuncId := 7
def n_laws_toIntS : FuncId := 8
def n_impl_ForgetType : FuncId := 9
def n_laws_eqIntS : FuncId := 10
def n_laws_markIntS : FuncId := 11
def n_laws_heldIntS : FuncId := 12
def n_spec_BoxType : FuncId := 13
def n_impl_BoxType : FuncId := 14
def n_spec_NewSession : FuncId := 15
def n_impl_NewSession : FuncId := 16
def n_laws_eqSession : FuncId := 17
def n_laws_markSession : FuncId := 18
def n_laws_heldSession : FuncId := 19
def n_laws_big : FuncId := 20
def n_spec_DrawBoxType : FuncId := 21
def n_laws_between : FuncId := 22
def n_laws_ints : FuncId := 23
def n_spec_l2Type : FuncId := 24
def n_spec_l2Arrow : FuncId := 25
def n_spec_l2Box : FuncId := 26
def n_impl_isWrittenType : FuncId := 27
def n_impl_shape : FuncId := 28
def n_spec_l10Box : FuncId := 29
def n_impl_boxed : FuncId := 30
def n_impl_long : FuncId := 31
def n_spec_CountSystem : FuncId := 32
def n_impl_CountSystem : FuncId := 33
def n_laws_eqSystem : FuncId := 34
def n_laws_eqIntSS : FuncId := 35
def n_laws_eqTerm : FuncId := 36
def n_laws_markSystem : FuncId := 37
def n_laws_markIntSS : FuncId := 38
def n_laws_markTerm : FuncId := 39
def n_laws_heldSystem : FuncId := 40
def n_laws_heldIntSS : FuncId := 41
def n_laws_heldTerm : FuncId := 42
def n_spec_l1New : FuncId := 43
def n_spec_dSpoiltType : FuncId := 44
def n_spec_dSystem : FuncId := 45
def n_spec_l1Once : FuncId := 46
def n_spec_l1PickInt : FuncId := 47
def n_spec_l2End : FuncId := 48
def n_spec_l1In : FuncId := 49
def n_impl_within : FuncId := 50
def n_impl_typeEnd : FuncId := 51
def n_spec_l2Code : FuncId := 52
def n_spec_l2Grade : FuncId := 53
def n_spec_l2Kids : FuncId := 54
def n_impl_parts : FuncId := 55
def n_slices_Concat___int_int_ : FuncId := 56
def n_spec_l1Numbers : FuncId := 57
def n_impl_counted : FuncId := 58
def n_impl_CountSystem_1 : FuncId := 59
def n_laws_eqBoolS : FuncId := 60
def n_laws_eqTermS : FuncId := 61
def n_laws_markBoolS : FuncId := 62
def n_laws_markTermS : FuncId := 63
def n_laws_heldBoolS : FuncId := 64
def n_laws_heldTermS : FuncId := 65
def n_spec_dType : FuncId := 66
def n_spec_l1Below : FuncId := 67
def n_spec_l3Glue : FuncId := 68
def n_spec_BoundSystem : FuncId := 69
def n_spec_LevelSystem : FuncId := 70
def n_spec_ProductSystem : FuncId := 71
def n_slices_Grow___int_int_ : FuncId := 72
def n_spec_l1Min : FuncId := 73
def n_impl_counted_1 : FuncId := 74
def n_impl_counted_2 : FuncId := 75
def n_impl_tabled : FuncId := 76
def n_spec_l1Byte : FuncId := 77
def n_spec_l1Max : FuncId := 78
def n_spec_l1Product : FuncId := 79
def n_spec_l1First : FuncId := 80
def n_spec_l1Second : FuncId := 81
def n_spec_l1Pair : FuncId := 82
def n_spec_l1Add : FuncId := 83
def n_spec_l1Mul : FuncId := 84
def n_spec_l1Le : FuncId := 85
def n_spec_IsSystem : FuncId := 86
def n_spec_l1Tables : FuncId := 87
def n_spec_l1One : FuncId := 88
def n_spec_l1Two : FuncId := 89
def n_spec_l1Three : FuncId := 90
def n_spec_l1Join : FuncId := 91
/- loop.example/g03111/laws.FnExactForgetType -/
def m_laws_FnExactForgetType : List (Nat × List Md) := [(3, [.copy, .copy, .copy, .take]), (4, [.copy, .take, .take]), (5, [.copy, .take, .take]), (6, [.copy, .copy, .take]), (8, [.copy, .copy, .copy, .take]), (11, [.take, .copy, .take]), (12, [.copy, .copy, .copy, .copy, .copy, .take]), (15, [.copy, .copy, .take]), (17, [.copy, .copy, .take]), (22, [.take, .copy, .copy, .take]), (23, [.take, .take, .take]), (26, [.take, .copy, .take])]
def k_laws_FnExactForgetType : C := (.seq (.reg [(none, .mv 2 .copy (.k (.sc (.bool false))))])
 (.seq (.seq (.reg [(none, .mv 10 .copy (.t 0)),
 (none, .len 11 (.t 10)),
 (none, .bin 12 .num .gtr (.t 11) (.k (N 1048576)))])
 (.cond (.t 12)
 (.seq (.reg [(none, .mv 2 .copy (.k (.sc (.bool true))))])
 .ret)
 .skip))
 (.seq (.reg [(none, .mv 13 .copy (.t 0)),
 (none, .call .no (some 14) (.k (.fn n_laws_toIntS [])) [(.t 13)]),
 (none, .call .no (some 15) (.k (.fn n_spec_ForgetType [])) [(.t 14)]),
 (none, .mv 3 .take (.t 15))])
 (.seq (.reg [(none, .mv 16 .copy (.t 0)),
 (none, .call .any (some 17) (.k (.fn n_laws_toIntS [])) [(.t 16)]),
 (none, .mv 4 .take (.t 17))])
 (.seq (.reg [(none, .mv 18 .copy (.t 4)),
 (none, .call .any (some 19) (.k (.fn n_impl_ForgetType [])) [(.t 18)]),
 (none, .mv 5 .take (.t 19))])
 (.seq (.seq (.reg [(none, .mv 20 .copy (.t 5)),
 (none, .mv 21 .copy (.t 3)),
 (none, .call .any (some 22) (.k (.fn n_laws_eqIntS [])) [(.t 20), (.t 21)]),
 (none, .un 23 .not (.t 22))])
 (.cond (.t 23)
 (.seq (.reg [(none, .mv 2 .copy (.k (.sc (.bool false))))])
 .ret)
 .skip))
 (.seq (.seq (.reg [(none, .mv 24 .copy (.t 4)),
 (none, .mv 25 .copy (.t 0)),
 (none, .call .no (some 26) (.k (.fn n_laws_toIntS [])) [(.t 25)]),
 (none, .call .any (some 27) (.k (.fn n_laws_eqIntS [])) [(.t 24), (.t 26)]),
 (none, .un 28 .not (.t 27))])
 (.cond (.t 28)
 (.seq (.reg [(none, .mv 2 .copy (.k (.sc (.bool false))))])
 .ret)
 .skip))
 (.seq (.reg [(none, .mv 6 .copy (.k (N 1)))])
 (.seq (.reg [(none, .mv 29 .take (.t 4)),
 (none, .mv 30 .copy (.t 6)),
 (none, .call .any (some 31) (.k (.fn n_laws_markIntS [])) [(.t 29), (.t 30)]),
 (none, .mv 6 .copy (.t 31))])
 (.seq (.seq (.reg [(none, .mv 32 .copy (.t 6)),
 (none, .bin 33 .num .lss (.t 32) (.k (N 0))),
 (none, .mv 34 .copy (.t 33)),
 (some (34, false), .mv 35 .copy (.t 5)),
 (some (34, false), .mv 36 .copy (.t 3)),
 (some (34, false), .call .any (some 37) (.k (.fn n_laws_eqIntS [])) [(.t 35), (.t 36)]),
 (some (34, false), .un 38 .not (.t 37)),
 (none, .pick 39 (.t 34) (.k (.sc (.bool true))) (.t 38))])
 (.cond (.t 39)
 (.seq (.reg [(none, .mv 2 .copy (.k (.sc (.bool false))))])
 .ret)
 .skip))
 (.seq (.reg [(none, .mv 7 .copy (.k (N 1)))])
 (.seq (.reg [(none, .mv 40 .copy (.t 5)),
 (none, .mv 41 .copy (.t 7)),
 (none, .call .any (some 42) (.k (.fn n_laws_markIntS [])) [(.t 40), (.t 41)]),
 (none, .mv 7 .copy (.t 42))])
 (.seq (.reg [(none, .mv 8 .copy (.k (N 1)))])
 (.seq (.reg [(none, .mv 43 .copy (.t 5)),
 (none, .mv 44 .copy (.t 8)),
 (none, .call .any (some 45) (.k (.fn n_laws_heldIntS [])) [(.t 43), (.t 44)]),
 (none, .mv 8 .copy (.t 45))])
 (.seq (.seq (.reg [(none, .mv 46 .copy (.t 8)),
 (none, .bin 47 .num .lss (.t 46) (.k (N 0)))])
 (.cond (.t 47)
 (.seq (.reg [(none, .mv 2 .copy (.k (.sc (.bool false))))])
 .ret)
 .skip))
 (.seq (.seq (.reg [(none, .mv 48 .copy (.t 8)),
 (none, .mv 49 .copy (.t 7)),
 (none, .bin 50 .num .neq (.t 48) (.t 49))])
 (.cond (.t 50)
 (.seq (.reg [(none, .mv 2 .copy (.k (.sc (.bool false))))])
 .ret)
 .skip))
 (.seq (.reg [(none, .mv 51 .take (.t 0)),
 (none, .call .no (some 52) (.k (.fn n_laws_toIntS [])) [(.t 51)]),
 (none, .call .no (some 53) (.k (.fn n_impl_ForgetType [])) [(.t 52)]),
 (none, .mv 9 .take (.t 53))])
 (.seq (.seq (.reg [(none, .mv 54 .take (.t 9)),
 (none, .mv 55 .take (.t 3)),
 (none, .call .any (some 56) (.k (.fn n_laws_eqIntS [])) [(.t 54), (.t 55)]),
 (none, .un 57 .not (.t 56))])
 (.cond (.t 57)
 (.seq (.reg [(none, .mv 2 .copy (.k (.sc (.bool false))))])
 .ret)
 .skip))
 (.seq (.reg [(none, .mv 8 .copy (.k (N 1)))])
 (.seq (.reg [(none, .mv 58 .take (.t 5)),
 (none, .mv 59 .copy (.t 8)),
 (none, .call .any (some 60) (.k (.fn n_laws_heldIntS [])) [(.t 58), (.t 59)]),
 (none, .mv 8 .copy (.t 60))])
 (.seq (.seq (.reg [(none, .mv 61 .copy (.t 8)),
 (none, .bin 62 .num .lss (.t 61) (.k (N 0)))])
 (.cond (.t 62)
 (.seq (.reg [(none, .mv 2 .copy (.k (.sc (.bool false))))])
 .ret)
 .skip))
 (.seq (.seq (.reg [(none, .mv 63 .copy (.t 8)),
 (none, .mv 64 .copy (.t 7)),
 (none, .bin 65 .num .neq (.t 63) (.t 64))])
 (.cond (.t 65)
 (.seq (.reg [(none, .mv 2 .copy (.k (.sc (.bool false))))])
 .ret)
 .skip))
 (.seq (.reg [(none, .mv 2 .copy (.k (.sc (.bool true))))])
 .ret)))))))))))))))))))))))
theorem c_laws_FnExactForgetType : codeOf Try.prog n_laws_FnExactForgetType m_laws_FnExactForgetType = some (k_laws_FnExactForgetType, [.tmp 2], 66) := by kernel_rfl

/- loop.example/g03111/laws.FnExactBoxType -/
def m_laws_FnExactBoxType : List (Nat × List Md) := [(3, [.copy, .copy, .copy, .take]), (4, [.copy, .take, .take]), (5, [.copy, .take, .take]), (6, [.copy, .copy, .take]), (8, [.copy, .copy, .copy, .take]), (11, [.take, .copy, .take]), (12, [.copy, .copy, .copy, .copy, .copy, .take]), (15, [.copy, .copy, .take]), (17, [.copy, .copy, .take]), (22, [.take, .copy, .copy, .take]), (23, [.take, .take, .take]), (26, [.take, .copy, .take])]
def k_laws_FnExactBoxType : C := (.seq (.reg [(none, .mv 2 .copy (.k (.sc (.bool false))))])
 (.seq (.seq (.reg [(none, .mv 10 .copy (.t 0)),
 (none, .len 11 (.t 10)),
 (none, .bin 12 .num .gtr (.t 11) (.k (N 1048576)))])
 (.cond (.t 12)
 (.seq (.reg [(none, .mv 2 .copy (.k (.sc (.bool true))))])
 .ret)
 .skip))
 (.seq (.reg [(none, .mv 13 .copy (.t 0)),
 (none, .call .no (some 14) (.k (.fn n_laws_toIntS [])) [(.t 13)]),
 (none, .call .no (some 15) (.k (.fn n_spec_BoxType [])) [(.t 14)]),
 (none, .mv 3 .take (.t 15))])
 (.seq (.reg [(none, .mv 16 .copy (.t 0)),
 (none, .call .any (some 17) (.k (.fn n_laws_toIntS [])) [(.t 16)]),
 (none, .mv 4 .take (.t 17))])
 (.seq (.reg [(none, .mv 18 .copy (.t 4)),
 (none, .call .any (some 19) (.k (.fn n_impl_BoxType [])) [(.t 18)]),
 (none, .mv 5 .take (.t 19))])
 (.seq (.seq (.reg [(none, .mv 20 .copy (.t 5)),
 (none, .mv 21 .copy (.t 3)),
 (none, .call .any (some 22) (.k (.fn n_laws_eqIntS [])) [(.t 20), (.t 21)]),
 (none, .un 23 .not (.t 22))])
 (.cond (.t 23)
 (.seq (.reg [(none, .mv 2 .copy (.k (.sc (.bool false))))])
 .ret)
 .skip))
 (.seq (.seq (.reg [(none, .mv 24 .copy (.t 4)),
 (none, .mv 25 .copy (.t 0)),
 (none, .call .no (some 26) (.k (.fn n_laws_toIntS [])) [(.t 25)]),
 (none, .call .any (some 27) (.k (.fn n_laws_eqIntS [])) [(.t 24), (.t 26)]),
 (none, .un 28 .not (.t 27))])
 (.cond (.t 28)
 (.seq (.reg [(none, .mv 2 .copy (.k (.sc (.bool false))))])
 .ret)
 .skip))
 (.seq (.reg [(none, .mv 6 .copy (.k (N 1)))])
 (.seq (.reg [(none, .mv 29 .take (.t 4)),
 (none, .mv 30 .copy (.t 6)),
 (none, .call .any (some 31) (.k (.fn n_laws_markIntS [])) [(.t 29), (.t 30)]),
 (none, .mv 6 .copy (.t 31))])
 (.seq (.seq (.reg [(none, .mv 32 .copy (.t 6)),
 (none, .bin 33 .num .lss (.t 32) (.k (N 0))),
 (none, .mv 34 .copy (.t 33)),
 (some (34, false), .mv 35 .copy (.t 5)),
 (some (34, false), .mv 36 .copy (.t 3)),
 (some (34, false), .call .any (some 37) (.k (.fn n_laws_eqIntS [])) [(.t 35), (.t 36)]),
 (some (34, false), .un 38 .not (.t 37)),
 (none, .pick 39 (.t 34) (.k (.sc (.bool true))) (.t 38))])
 (.cond (.t 39)
 (.seq (.reg [(none, .mv 2 .copy (.k (.sc (.bool false))))])
 .ret)
 .skip))
 (.seq (.reg [(none, .mv 7 .copy (.k (N 1)))])
 (.seq (.reg [(none, .mv 40 .copy (.t 5)),
 (none, .mv 41 .copy (.t 7)),
 (none, .call .any (some 42) (.k (.fn n_laws_markIntS [])) [(.t 40), (.t 41)]),
 (none, .mv 7 .copy (.t 42))])
 (.seq (.reg [(none, .mv 8 .copy (.k (N 1)))])
 (.seq (.reg [(none, .mv 43 .copy (.t 5)),
 (none, .mv 44 .copy (.t 8)),
 (none, .call .any (some 45) (.k (.fn n_laws_heldIntS [])) [(.t 43), (.t 44)]),
 (none, .mv 8 .copy (.t 45))])
 (.seq (.seq (.reg [(none, .mv 46 .copy (.t 8)),
 (none, .bin 47 .num .lss (.t 46) (.k (N 0)))])
 (.cond (.t 47)
 (.seq (.reg [(none, .mv 2 .copy (.k (.sc (.bool false))))])
 .ret)
 .skip))
 (.seq (.seq (.reg [(none, .mv 48 .copy (.t 8)),
 (none, .mv 49 .copy (.t 7)),
 (none, .bin 50 .num .neq (.t 48) (.t 49))])
 (.cond (.t 50)
 (.seq (.reg [(none, .mv 2 .copy (.k (.sc (.bool false))))])
 .ret)
 .skip))
 (.seq (.reg [(none, .mv 51 .take (.t 0)),
 (none, .call .no (some 52) (.k (.fn n_laws_toIntS [])) [(.t 51)]),
 (none, .call .no (some 53) (.k (.fn n_impl_BoxType [])) [(.t 52)]),
 (none, .mv 9 .take (.t 53))])
 (.seq (.seq (.reg [(none, .mv 54 .take (.t 9)),
 (none, .mv 55 .take (.t 3)),
 (none, .call .any (some 56) (.k (.fn n_laws_eqIntS [])) [(.t 54), (.t 55)]),
 (none, .un 57 .not (.t 56))])
 (.cond (.t 57)
 (.seq (.reg [(none, .mv 2 .copy (.k (.sc (.bool false))))])
 .ret)
 .skip))
 (.seq (.reg [(none, .mv 8 .copy (.k (N 1)))])
 (.seq (.reg [(none, .mv 58 .take (.t 5)),
 (none, .mv 59 .copy (.t 8)),
 (none, .call .any (some 60) (.k (.fn n_laws_heldIntS [])) [(.t 58), (.t 59)]),
 (none, .mv 8 .copy (.t 60))])
 (.seq (.seq (.reg [(none, .mv 61 .copy (.t 8)),
 (none, .bin 62 .num .lss (.t 61) (.k (N 0)))])
 (.cond (.t 62)
 (.seq (.reg [(none, .mv 2 .copy (.k (.sc (.bool false))))])
 .ret)
 .skip))
 (.seq (.seq (.reg [(none, .mv 63 .copy (.t 8)),
 (none, .mv 64 .copy (.t 7)),
 (none, .bin 65 .num .neq (.t 63) (.t 64))])
 (.cond (.t 65)
 (.seq (.reg [(none, .mv 2 .copy (.k (.sc (.bool false))))])
 .ret)
 .skip))
 (.seq (.reg [(none, .mv 2 .copy (.k (.sc (.bool true))))])
 .ret)))))))))))))))))))))))
theorem c_laws_FnExactBoxType : codeOf Try.prog n_laws_FnExactBoxType m_laws_FnExactBoxType = some (k_laws_FnExactBoxType, [.tmp 2], 66) := by kernel_rfl

/- loop.example/g03111/laws.FnExactNewSession -/
def m_laws_FnExactNewSession : List (Nat × List Md) := [(1, [.take]), (2, [.take]), (3, [.copy, .copy, .take]), (6, [.copy, .copy, .take]), (8, [.copy, .copy, .take]), (13, [.take]), (14, [.copy, .copy, .take]), (17, [.copy, .copy, .take])]
def k_laws_FnExactNewSession : C := (.seq (.reg [(none, .mv 0 .copy (.k (.sc (.bool false))))])
 (.seq (.reg [(none, .call .any (some 6) (.k (.fn n_spec_NewSession [])) []),
 (none, .alloc 1 [(N 0), (.sl true true 1 []), (.sl true true 1 []), (.sl true true 1 []), (.sl true true 1 []), (N 0), (N 0), (.sl true true 1 []), (.sl true true 1 [])]),
 (none, .store 9 (.t 1) (.t 6))])
 (.seq (.reg [(none, .call .any (some 7) (.k (.fn n_impl_NewSession [])) []),
 (none, .alloc 2 [(N 0), (.sl true true 1 []), (.sl true true 1 []), (.sl true true 1 []), (.sl true true 1 []), (N 0), (N 0), (.sl true true 1 []), (.sl true true 1 [])]),
 (none, .store 9 (.t 2) (.t 7))])
 (.seq (.seq (.reg [(none, .load 8 .copy true 9 (.t 2)),
 (none, .load 9 .copy true 9 (.t 1)),
 (none, .call .any (some 10) (.k (.fn n_laws_eqSession [])) [(.t 8), (.t 9)]),
 (none, .un 11 .not (.t 10))])
 (.cond (.t 11)
 (.seq (.reg [(none, .mv 0 .copy (.k (.sc (.bool false))))])
 .ret)
 .skip))
 (.seq (.reg [(none, .mv 3 .copy (.k (N 1)))])
 (.seq (.reg [(none, .load 12 .copy true 9 (.t 2)),
 (none, .mv 13 .copy (.t 3)),
 (none, .call .any (some 14) (.k (.fn n_laws_markSession [])) [(.t 12), (.t 13)]),
 (none, .mv 3 .copy (.t 14))])
 (.seq (.reg [(none, .mv 4 .copy (.k (N 1)))])
 (.seq (.reg [(none, .load 15 .copy true 9 (.t 2)),
 (none, .mv 16 .copy (.t 4)),
 (none, .call .any (some 17) (.k (.fn n_laws_heldSession [])) [(.t 15), (.t 16)]),
 (none, .mv 4 .copy (.t 17))])
 (.seq (.seq (.reg [(none, .mv 18 .copy (.t 4)),
 (none, .bin 19 .num .lss (.t 18) (.k (N 0)))])
 (.cond (.t 19)
 (.seq (.reg [(none, .mv 0 .copy (.k (.sc (.bool false))))])
 .ret)
 .skip))
 (.seq (.seq (.reg [(none, .mv 20 .copy (.t 4)),
 (none, .mv 21 .copy (.t 3)),
 (none, .bin 22 .num .neq (.t 20) (.t 21))])
 (.cond (.t 22)
 (.seq (.reg [(none, .mv 0 .copy (.k (.sc (.bool false))))])
 .ret)
 .skip))
 (.seq (.reg [(none, .call .any (some 23) (.k (.fn n_impl_NewSession [])) []),
 (none, .alloc 5 [(N 0), (.sl true true 1 []), (.sl true true 1 []), (.sl true true 1 []), (.sl true true 1 []), (N 0), (N 0), (.sl true true 1 []), (.sl true true 1 [])]),
 (none, .store 9 (.t 5) (.t 23))])
 (.seq (.seq (.reg [(none, .load 24 .copy true 9 (.t 5)),
 (none, .load 25 .copy true 9 (.t 1)),
 (none, .call .any (some 26) (.k (.fn n_laws_eqSession [])) [(.t 24), (.t 25)]),
 (none, .un 27 .not (.t 26))])
 (.cond (.t 27)
 (.seq (.reg [(none, .mv 0 .copy (.k (.sc (.bool false))))])
 .ret)
 .skip))
 (.seq (.reg [(none, .mv 4 .copy (.k (N 1)))])
 (.seq (.reg [(none, .load 28 .copy true 9 (.t 2)),
 (none, .mv 29 .copy (.t 4)),
 (none, .call .any (some 30) (.k (.fn n_laws_heldSession [])) [(.t 28), (.t 29)]),
 (none, .mv 4 .copy (.t 30))])
 (.seq (.seq (.reg [(none, .mv 31 .copy (.t 4)),
 (none, .bin 32 .num .lss (.t 31) (.k (N 0)))])
 (.cond (.t 32)
 (.seq (.reg [(none, .mv 0 .copy (.k (.sc (.bool false))))])
 .ret)
 .skip))
 (.seq (.seq (.reg [(none, .mv 33 .copy (.t 4)),
 (none, .mv 34 .copy (.t 3)),
 (none, .bin 35 .num .neq (.t 33) (.t 34))])
 (.cond (.t 35)
 (.seq (.reg [(none, .mv 0 .copy (.k (.sc (.bool false))))])
 .ret)
 .skip))
 (.seq (.reg [(none, .mv 0 .copy (.k (.sc (.bool true))))])
 .ret)))))))))))))))))
theorem c_laws_FnExactNewSession : codeOf Try.prog n_laws_FnExactNewSession m_laws_FnExactNewSession = some (k_laws_FnExactNewSession, [.tmp 0], 36) := by kernel_rfl

/- loop.example/g03111/laws.FnForgetsBoxes -/
def m_laws_FnForgetsBoxes : List (Nat × List Md) := [(3, [.take, .copy, .take]), (4, [.copy, .copy, .take]), (5, [.copy, .copy, .take]), (7, [.take]), (10, [.copy, .copy, .copy, .copy, .copy, .copy, .copy, .copy, .copy, .copy, .take]), (17, [.take, .copy, .copy, .copy, .copy, .copy, .copy, .take])]
def k_laws_FnForgetsBoxes : C := (.seq (.reg [(none, .mv 2 .copy (.k (.sc (.bool false))))])
 (.seq (.seq (.reg [(none, .mv 9 .copy (.t 0)),
 (none, .call .no (some 10) (.k (.fn n_laws_big [])) [(.t 9)])])
 (.cond (.t 10)
 (.seq (.reg [(none, .mv 2 .copy (.k (.sc (.bool true))))])
 .ret)
 .skip))
 (.seq (.reg [(none, .mv 11 .take (.t 0)),
 (none, .call .no (some 12) (.k (.fn n_spec_DrawBoxType [])) [(.t 11)]),
 (none, .mv 3 .take (.t 12))])
 (.seq (.reg [(none, .mv 13 .copy (.t 3)),
 (none, .call .no (some 14) (.k (.fn n_impl_BoxType [])) [(.t 13)]),
 (none, .mv 4 .take (.t 14))])
 (.seq (.reg [(none, .mv 15 .copy (.t 3)),
 (none, .call .no (some 16) (.k (.fn n_impl_ForgetType [])) [(.t 15)]),
 (none, .mv 5 .take (.t 16))])
 (.seq (.seq (.reg [(none, .mv 17 .copy (.t 4)),
 (none, .len 18 (.t 17)),
 (none, .bin 19 .num .eql (.t 18) (.k (N 0)))])
 (.cond (.t 19)
 (.seq (.reg [(none, .mv 20 .take (.t 3)),
 (none, .call .no (some 21) (.k (.fn n_spec_BoxType [])) [(.t 20)]),
 (none, .len 22 (.t 21)),
 (none, .bin 23 .num .eql (.t 22) (.k (N 0))),
 (none, .mv 2 .copy (.t 23))])
 .ret)
 .skip))
 (.seq (.reg [(none, .mv 24 .copy (.t 3)),
 (none, .call .no (some 25) (.k (.fn n_laws_between [])) [(.t 24), (.k (N 3)), (.k (N 18))]),
 (none, .mv 26 .copy (.t 3)),
 (none, .call .no (some 27) (.k (.fn n_laws_between [])) [(.t 26), (.k (N 35)), (.k (N 35))]),
 (none, .bin 28 .num .add (.t 25) (.t 27)),
 (none, .mv 6 .copy (.t 28))])
 (.seq (.reg [(none, .mv 29 .copy (.t 3)),
 (none, .call .no (some 30) (.k (.fn n_laws_between [])) [(.t 29), (.k (N 19)), (.k (N 34))]),
 (none, .mv 31 .copy (.t 3)),
 (none, .call .no (some 32) (.k (.fn n_laws_between [])) [(.t 31), (.k (N 36)), (.k (N 36))]),
 (none, .bin 33 .num .add (.t 30) (.t 32)),
 (none, .mv 7 .copy (.t 33))])
 (.seq (.seq (.reg [(none, .mv 34 .copy (.t 4)),
 (none, .len 35 (.t 34)),
 (none, .mv 36 .copy (.t 3)),
 (none, .len 37 (.t 36)),
 (none, .mv 38 .copy (.t 6)),
 (none, .bin 39 .num .add (.t 37) (.t 38)),
 (none, .bin 40 .num .neq (.t 35) (.t 39)),
 (none, .mv 41 .copy (.t 40)),
 (some (41, false), .mv 42 .copy (.t 5)),
 (some (41, false), .len 43 (.t 42)),
 (some (41, false), .mv 44 .take (.t 3)),
 (some (41, false), .len 45 (.t 44)),
 (some (41, false), .mv 46 .copy (.t 7)),
 (some (41, false), .bin 47 .num .sub (.t 45) (.t 46)),
 (some (41, false), .bin 48 .num .neq (.t 43) (.t 47)),
 (none, .pick 49 (.t 41) (.k (.sc (.bool true))) (.t 48))])
 (.cond (.t 49)
 (.seq (.reg [(none, .mv 2 .copy (.k (.sc (.bool false))))])
 .ret)
 .skip))
 (.seq (.seq (.reg [(none, .mv 8 .copy (.k (N 0)))])
 (.block 0 (.loop (.seq (.seq (.reg [(none, .mv 50 .copy (.t 8)),
 (none, .mv 51 .copy (.t 5)),
 (none, .len 52 (.t 51)),
 (none, .bin 53 .num .lss (.t 50) (.t 52))])
 (.cond (.t 53)
 .skip
 (.exit 0)))
 (.seq (.block 1 (.seq (.reg [(none, .mv 56 .copy (.t 5)),
 (none, .mv 57 .copy (.t 8)),
 (none, .indexA 58 1 (.t 56) (.t 57)),
 (none, .load 59 .copy false 1 (.t 58)),
 (none, .bin 60 .num .gtr (.t 59) (.k (N 4)))])
 (.cond (.t 60)
 (.seq (.reg [(none, .mv 2 .copy (.k (.sc (.bool false))))])
 .ret)
 .skip)))
 (.reg [(none, .mv 54 .copy (.t 8)),
 (none, .bin 55 .num .add (.t 54) (.k (N 1))),
 (none, .mv 8 .copy (.t 55))]))))))
 (.seq (.reg [(none, .mv 61 .take (.t 4)),
 (none, .call .no (some 62) (.k (.fn n_impl_ForgetType [])) [(.t 61)]),
 (none, .mv 63 .copy (.t 5)),
 (none, .call .no (some 64) (.k (.fn n_laws_ints [])) [(.t 62), (.t 63)]),
 (none, .mv 65 .copy (.t 64)),
 (some (65, true), .mv 66 .copy (.t 5)),
 (some (65, true), .call .no (some 67) (.k (.fn n_impl_ForgetType [])) [(.t 66)]),
 (some (65, true), .mv 68 .take (.t 5)),
 (some (65, true), .call .no (some 69) (.k (.fn n_laws_ints [])) [(.t 67), (.t 68)]),
 (none, .pick 70 (.t 65) (.t 69) (.k (.sc (.bool false)))),
 (none, .mv 2 .copy (.t 70))])
 .ret)))))))))))
theorem c_laws_FnForgetsBoxes : codeOf Try.prog n_laws_FnForgetsBoxes m_laws_FnForgetsBoxes = some (k_laws_FnForgetsBoxes, [.tmp 2], 71) := by kernel_rfl

/- loop.example/g03111/spec.ForgetType -/
def m_spec_ForgetType : List (Nat × List Md) := [(3, [.copy, .take]), (8, [.take, .copy, .copy, .take]), (10, [.take, .copy, .copy, .copy, .copy, .copy, .copy, .take]), (11, [.take, .take])]
def k_spec_ForgetType : C := (.seq (.reg [(none, .mv 2 .copy (.k (.sl true true 1 [])))])
 (.seq (.seq (.reg [(none, .mv 5 .copy (.t 0)),
 (none, .call .no (some 6) (.k (.fn n_spec_l2Type [])) [(.t 5)]),
 (none, .un 7 .not (.t 6))])
 (.cond (.t 7)
 (.seq (.reg [(none, .mv 2 .copy (.k (.sl true true 1 [])))])
 .ret)
 .skip))
 (.seq (.reg [(none, .bslice 8 1 0 [] []),
 (none, .mv 3 .take (.t 8))])
 (.seq (.seq (.reg [(none, .mv 4 .copy (.k (N 0)))])
 (.block 0 (.loop (.seq (.seq (.reg [(none, .mv 9 .copy (.t 4)),
 (none, .mv 10 .copy (.t 0)),
 (none, .len 11 (.t 10)),
 (none, .bin 12 .num .lss (.t 9) (.t 11))])
 (.cond (.t 12)
 .skip
 (.exit 0)))
 (.seq (.block 1 (.block 2 (.seq (.reg [(none, .mv 16 .copy (.t 0)),
 (none, .mv 17 .copy (.t 4)),
 (none, .indexA 18 1 (.t 16) (.t 17)),
 (none, .load 19 .copy false 1 (.t 18)),
 (none, .call .no (some 20) (.k (.fn n_spec_l2Arrow [])) [(.t 19)]),
 (none, .mv 15 .copy (.t 20))])
 (.cond (.t 15)
 (.reg [(none, .mv 21 .take (.t 3)),
 (none, .bslice 22 1 1 [(N 0)] [(0, 1, (.k (N 4)))]),
 (none, .append 23 1 (.t 21) (.t 22)),
 (none, .mv 3 .take (.t 23))])
 (.seq (.reg [(none, .mv 25 .copy (.t 0)),
 (none, .mv 26 .copy (.t 4)),
 (none, .indexA 27 1 (.t 25) (.t 26)),
 (none, .load 28 .copy false 1 (.t 27)),
 (none, .call .no (some 29) (.k (.fn n_spec_l2Box [])) [(.t 28)]),
 (none, .un 30 .not (.t 29)),
 (none, .mv 24 .copy (.t 30))])
 (.cond (.t 24)
 (.reg [(none, .mv 31 .take (.t 3)),
 (none, .mv 32 .copy (.t 0)),
 (none, .mv 33 .copy (.t 4)),
 (none, .indexA 34 1 (.t 32) (.t 33)),
 (none, .load 35 .copy false 1 (.t 34)),
 (none, .bslice 36 1 1 [(N 0)] [(0, 1, (.t 35))]),
 (none, .append 37 1 (.t 31) (.t 36)),
 (none, .mv 3 .take (.t 37))])
 .skip))))))
 (.reg [(none, .mv 13 .copy (.t 4)),
 (none, .bin 14 .num .add (.t 13) (.k (N 1))),
 (none, .mv 4 .copy (.t 14))]))))))
 (.seq (.reg [(none, .mv 38 .take (.t 3)),
 (none, .mv 2 .take (.t 38))])
 .ret)))))
theorem c_spec_ForgetType : codeOf Try.prog n_spec_ForgetType m_spec_ForgetType = some (k_spec_ForgetType, [.tmp 2], 39) := by kernel_rfl

/- loop.example/g03111/laws.toIntS -/
def m_laws_toIntS : List (Nat × List Md) := [(1, [.copy, .copy, .copy, .take]), (6, [.take, .frz])]
def k_laws_toIntS : C := (.seq (.reg [(none, .mv 2 .copy (.k (.sl true true 1 [])))])
 (.seq (.reg [(none, .mv 5 .copy (.t 0)),
 (none, .len 6 (.t 5)),
 (none, .mkslice 7 1 [(N 0)] (.t 6)),
 (none, .mv 3 .take (.t 7))])
 (.seq (.seq (.reg [(none, .mv 4 .copy (.k (N 0)))])
 (.block 0 (.loop (.seq (.seq (.reg [(none, .mv 8 .copy (.t 4)),
 (none, .mv 9 .copy (.t 0)),
 (none, .len 10 (.t 9)),
 (none, .bin 11 .num .lss (.t 8) (.t 10))])
 (.cond (.t 11)
 .skip
 (.exit 0)))
 (.seq (.block 1 (.reg [(none, .mv 14 .copy (.t 3)),
 (none, .mv 15 .copy (.t 4)),
 (none, .mv 16 .copy (.t 0)),
 (none, .mv 17 .copy (.t 4)),
 (none, .indexA 18 1 (.t 16) (.t 17)),
 (none, .load 19 .copy false 1 (.t 18)),
 (none, .indexA 20 1 (.t 14) (.t 15)),
 (none, .store 1 (.t 20) (.t 19))]))
 (.reg [(none, .mv 12 .copy (.t 4)),
 (none, .bin 13 .num .add (.t 12) (.k (N 1))),
 (none, .mv 4 .copy (.t 13))]))))))
 (.seq (.reg [(none, .mv 21 .take (.t 3)),
 (none, .mv 2 .frz (.t 21))])
 .ret))))
theorem c_laws_toIntS : codeOf Try.prog n_laws_toIntS m_laws_toIntS = some (k_laws_toIntS, [.tmp 2], 22) := by kernel_rfl

/- loop.example/g03111/impl.ForgetType -/
def m_impl_ForgetType : List (Nat × List Md) := [(4, [.take]), (7, [.copy, .copy, .take]), (9, [.take, .copy, .copy, .copy, .take]), (12, [.take, .copy, .copy, .take]), (14, [.take, .take])]
def k_impl_ForgetType : C := (.seq (.reg [(none, .mv 2 .copy (.k (.sl true true 1 [])))])
 (.seq (.seq (.reg [(none, .mv 8 .copy (.t 0)),
 (none, .call .no (some 9) (.k (.fn n_impl_isWrittenType [])) [(.t 8)]),
 (none, .un 10 .not (.t 9))])
 (.cond (.t 10)
 (.seq (.reg [(none, .mv 2 .copy (.k (.sl true true 1 [])))])
 .ret)
 .skip))
 (.seq (.reg [(none, .mv 3 .copy (.k (.sl true true 1 [])))])
 (.seq (.seq (.reg [(none, .mv 11 .take (.t 0)),
 (none, .len 12 (.t 11)),
 (none, .mv 13 .copy (.k (N 0)))])
 (.block 0 (.loop (.seq (.reg [(none, .bin 14 .num .lss (.t 13) (.t 12))])
 (.seq (.cond (.t 14)
 .skip
 (.exit 0))
 (.seq (.block 1 (.seq (.reg [(none, .indexA 15 1 (.t 11) (.t 13)),
 (none, .load 16 .copy false 1 (.t 15)),
 (none, .mv 5 .copy (.t 16))])
 (.seq (.reg [(none, .mv 18 .copy (.t 5)),
 (none, .call .no (some 19) (.k (.fn n_impl_shape [])) [(.t 18)]),
 (none, .mv 17 .take (.t 19)),
 (none, .extract 20 0 (.t 17)),
 (none, .extract 21 1 (.t 17)),
 (none, .mv 6 .copy (.t 20)),
 (none, .mv 7 .copy (.t 21))])
 (.seq (.reg [(none, .mv 22 .copy (.t 6))])
 (.block 2 (.seq (.reg [(none, .bin 28 .num .eql (.t 22) (.k (N 4))),
 (none, .mv 27 .copy (.t 28))])
 (.cond (.t 27)
 .skip
 (.seq (.reg [(none, .bin 30 .num .eql (.t 22) (.k (N 3))),
 (none, .mv 29 .copy (.t 30))])
 (.cond (.t 29)
 (.reg [(none, .mv 31 .take (.t 3)),
 (none, .bslice 32 1 1 [(N 0)] [(0, 1, (.k (N 4)))]),
 (none, .append 33 1 (.t 31) (.t 32)),
 (none, .mv 3 .take (.t 33))])
 (.reg [(none, .mv 23 .take (.t 3)),
 (none, .mv 24 .copy (.t 5)),
 (none, .bslice 25 1 1 [(N 0)] [(0, 1, (.t 24))]),
 (none, .append 26 1 (.t 23) (.t 25)),
 (none, .mv 3 .take (.t 26))]))))))))))
 (.reg [(none, .bin 34 .num .add (.t 13) (.k (N 1))),
 (none, .mv 13 .copy (.t 34))])))))))
 (.seq (.reg [(none, .mv 35 .take (.t 3)),
 (none, .mv 2 .take (.t 35))])
 .ret)))))
theorem c_impl_ForgetType : codeOf Try.prog n_impl_ForgetType m_impl_ForgetType = some (k_impl_ForgetType, [.tmp 2], 36) := by kernel_rfl

/- loop.example/g03111/laws.eqIntS -/
def m_laws_eqIntS : List (Nat × List Md) := []
def k_laws_eqIntS : C := (.seq (.reg [(none, .mv 4 .copy (.k (.sc (.bool false))))])
 (.seq (.seq (.reg [(none, .mv 6 .copy (.t 0)),
 (none, .len 7 (.t 6)),
 (none, .mv 8 .copy (.t 1)),
 (none, .len 9 (.t 8)),
 (none, .bin 10 .num .neq (.t 7) (.t 9))])
 (.cond (.t 10)
 (.seq (.reg [(none, .mv 4 .copy (.k (.sc (.bool false))))])
 .ret)
 .skip))
 (.seq (.seq (.reg [(none, .mv 5 .copy (.k (N 0)))])
 (.block 0 (.loop (.seq (.seq (.reg [(none, .mv 11 .copy (.t 5)),
 (none, .mv 12 .copy (.t 0)),
 (none, .len 13 (.t 12)),
 (none, .bin 14 .num .lss (.t 11) (.t 13))])
 (.cond (.t 14)
 .skip
 (.exit 0)))
 (.seq (.block 1 (.seq (.reg [(none, .mv 17 .copy (.t 0)),
 (none, .mv 18 .copy (.t 5)),
 (none, .indexA 19 1 (.t 17) (.t 18)),
 (none, .load 20 .copy false 1 (.t 19)),
 (none, .mv 21 .copy (.t 1)),
 (none, .mv 22 .copy (.t 5)),
 (none, .indexA 23 1 (.t 21) (.t 22)),
 (none, .load 24 .copy false 1 (.t 23)),
 (none, .bin 25 .num .neq (.t 20) (.t 24))])
 (.cond (.t 25)
 (.seq (.reg [(none, .mv 4 .copy (.k (.sc (.bool false))))])
 .ret)
 .skip)))
 (.reg [(none, .mv 15 .copy (.t 5)),
 (none, .bin 16 .num .add (.t 15) (.k (N 1))),
 (none, .mv 5 .copy (.t 16))]))))))
 (.seq (.reg [(none, .mv 4 .copy (.k (.sc (.bool true))))])
 .ret))))
theorem c_laws_eqIntS : codeOf Try.prog n_laws_eqIntS m_laws_eqIntS = some (k_laws_eqIntS, [.tmp 4], 26) := by kernel_rfl

/- loop.example/g03111/laws.markIntS -/
def m_laws_markIntS : List (Nat × List Md) := []
def k_laws_markIntS : C := (.seq (.reg [(none, .mv 4 .copy (.k (N 0)))])
 (.seq (.seq (.reg [(none, .mv 5 .copy (.k (N 0)))])
 (.block 0 (.loop (.seq (.seq (.reg [(none, .mv 6 .copy (.t 5)),
 (none, .mv 7 .copy (.t 0)),
 (none, .len 8 (.t 7)),
 (none, .bin 9 .num .lss (.t 6) (.t 8))])
 (.cond (.t 9)
 .skip
 (.exit 0)))
 (.seq (.block 1 (.seq (.reg [(none, .mv 12 .copy (.t 0)),
 (none, .mv 13 .copy (.t 5)),
 (none, .mv 14 .copy (.t 1)),
 (none, .indexA 15 1 (.t 12) (.t 13)),
 (none, .store 1 (.t 15) (.t 14))])
 (.reg [(none, .mv 16 .copy (.t 1)),
 (none, .bin 17 .num .add (.t 16) (.k (N 1))),
 (none, .mv 1 .copy (.t 17))])))
 (.reg [(none, .mv 10 .copy (.t 5)),
 (none, .bin 11 .num .add (.t 10) (.k (N 1))),
 (none, .mv 5 .copy (.t 11))]))))))
 (.seq (.reg [(none, .mv 18 .copy (.t 1)),
 (none, .mv 4 .copy (.t 18))])
 .ret)))
theorem c_laws_markIntS : codeOf Try.prog n_laws_markIntS m_laws_markIntS = some (k_laws_markIntS, [.tmp 4], 19) := by kernel_rfl

/- loop.example/g03111/laws.heldIntS -/
def m_laws_heldIntS : List (Nat × List Md) := []
def k_laws_heldIntS : C := (.seq (.reg [(none, .mv 4 .copy (.k (N 0)))])
 (.seq (.seq (.reg [(none, .mv 5 .copy (.k (N 0)))])
 (.block 0 (.loop (.seq (.seq (.reg [(none, .mv 6 .copy (.t 5)),
 (none, .mv 7 .copy (.t 0)),
 (none, .len 8 (.t 7)),
 (none, .bin 9 .num .lss (.t 6) (.t 8))])
 (.cond (.t 9)
 .skip
 (.exit 0)))
 (.seq (.block 1 (.seq (.seq (.reg [(none, .mv 12 .copy (.t 0)),
 (none, .mv 13 .copy (.t 5)),
 (none, .indexA 14 1 (.t 12) (.t 13)),
 (none, .load 15 .copy false 1 (.t 14)),
 (none, .mv 16 .copy (.t 1)),
 (none, .bin 17 .num .neq (.t 15) (.t 16))])
 (.cond (.t 17)
 (.seq (.reg [(none, .mv 4 .copy (.k (N (-1))))])
 .ret)
 .skip))
 (.reg [(none, .mv 18 .copy (.t 1)),
 (none, .bin 19 .num .add (.t 18) (.k (N 1))),
 (none, .mv 1 .copy (.t 19))])))
 (.reg [(none, .mv 10 .copy (.t 5)),
 (none, .bin 11 .num .add (.t 10) (.k (N 1))),
 (none, .mv 5 .copy (.t 11))]))))))
 (.seq (.reg [(none, .mv 20 .copy (.t 1)),
 (none, .mv 4 .copy (.t 20))])
 .ret)))
theorem c_laws_heldIntS : codeOf Try.prog n_laws_heldIntS m_laws_heldIntS = some (k_laws_heldIntS, [.tmp 4], 21) := by kernel_rfl

/- loop.example/g03111/spec.BoxType -/
def m_spec_BoxType : List (Nat × List Md) := [(3, [.take, .copy, .take, .copy, .copy, .take]), (6, [.take, .take])]
def k_spec_BoxType : C := (.seq (.reg [(none, .mv 2 .copy (.k (.sl true true 1 [])))])
 (.seq (.seq (.reg [(none, .mv 5 .copy (.t 0)),
 (none, .call .no (some 6) (.k (.fn n_spec_l2Type [])) [(.t 5)]),
 (none, .un 7 .not (.t 6))])
 (.cond (.t 7)
 (.seq (.reg [(none, .mv 2 .copy (.k (.sl true true 1 [])))])
 .ret)
 .skip))
 (.seq (.reg [(none, .mv 9 .take (.t 0)),
 (none, .call .no (some 10) (.k (.fn n_spec_l10Box [])) [(.t 9), (.k (N 0))]),
 (none, .mv 8 .take (.t 10)),
 (none, .extract 11 0 (.t 8)),
 (none, .extract 12 1 (.t 8)),
 (none, .mv 3 .take (.t 11)),
 (none, .mv 4 .copy (.t 12))])
 (.seq (.seq (.reg [(none, .mv 13 .copy (.t 3)),
 (none, .len 14 (.t 13)),
 (none, .bin 15 .num .gtr (.t 14) (.k (N 40)))])
 (.cond (.t 15)
 (.seq (.reg [(none, .mv 2 .copy (.k (.sl true true 1 [])))])
 .ret)
 .skip))
 (.seq (.reg [(none, .mv 16 .take (.t 3)),
 (none, .mv 2 .take (.t 16))])
 .ret)))))
theorem c_spec_BoxType : codeOf Try.prog n_spec_BoxType m_spec_BoxType = some (k_spec_BoxType, [.tmp 2], 17) := by kernel_rfl

/- loop.example/g03111/impl.BoxType -/
def m_impl_BoxType : List (Nat × List Md) := [(3, [.take, .copy, .take]), (6, [.take, .take])]
def k_impl_BoxType : C := (.seq (.reg [(none, .mv 2 .copy (.k (.sl true true 1 [])))])
 (.seq (.seq (.reg [(none, .mv 4 .copy (.t 0)),
 (none, .call .no (some 5) (.k (.fn n_impl_isWrittenType [])) [(.t 4)]),
 (none, .un 6 .not (.t 5))])
 (.cond (.t 6)
 (.seq (.reg [(none, .mv 2 .copy (.k (.sl true true 1 [])))])
 .ret)
 .skip))
 (.seq (.reg [(none, .mv 7 .take (.t 0)),
 (none, .call .no (some 8) (.k (.fn n_impl_boxed [])) [(.t 7)]),
 (none, .mv 3 .take (.t 8))])
 (.seq (.seq (.reg [(none, .mv 9 .copy (.t 3)),
 (none, .call .no (some 10) (.k (.fn n_impl_long [])) [(.t 9)])])
 (.cond (.t 10)
 (.seq (.reg [(none, .mv 2 .copy (.k (.sl true true 1 [])))])
 .ret)
 .skip))
 (.seq (.reg [(none, .mv 11 .take (.t 3)),
 (none, .mv 2 .take (.t 11))])
 .ret)))))
theorem c_impl_BoxType : codeOf Try.prog n_impl_BoxType m_impl_BoxType = some (k_impl_BoxType, [.tmp 2], 12) := by kernel_rfl

/- loop.example/g03111/spec.NewSession -/
def m_spec_NewSession : List (Nat × List Md) := []
def k_spec_NewSession : C := (.seq (.reg [(none, .alloc 0 [(N 0), (.sl true true 1 []), (.sl true true 1 []), (.sl true true 1 []), (.sl true true 1 []), (N 0), (N 0), (.sl true true 1 []), (.sl true true 1 [])])])
 (.seq (.reg [(none, .call .no (some 1) (.k (.fn n_spec_CountSystem [])) [(.k (N 1))]),
 (none, .build 2 [(N 0), (N 0), (.sl true true 1 []), (.sl true true 1 [])] [(0, 1, (.k (N 1)))]),
 (none, .build 3 [(N 0), (.sl true true 1 []), (.sl true true 1 []), (.sl true true 1 []), (.sl true true 1 []), (N 0), (N 0), (.sl true true 1 []), (.sl true true 1 [])] [(0, 4, (.t 1)), (5, 4, (.t 2))]),
 (none, .store 9 (.t 0) (.t 3))])
 .ret))
theorem c_spec_NewSession : codeOf Try.prog n_spec_NewSession m_spec_NewSession = some (k_spec_NewSession, [.cell 0 true 9], 4) := by kernel_rfl

/- loop.example/g03111/impl.NewSession -/
def m_impl_NewSession : List (Nat × List Md) := []
def k_impl_NewSession : C := (.seq (.reg [(none, .alloc 0 [(N 0), (.sl true true 1 []), (.sl true true 1 []), (.sl true true 1 []), (.sl true true 1 []), (N 0), (N 0), (.sl true true 1 []), (.sl true true 1 [])])])
 (.seq (.reg [(none, .call .no (some 1) (.k (.fn n_impl_CountSystem [])) [(.k (N 1))]),
 (none, .build 2 [(N 0), (N 0), (.sl true true 1 []), (.sl true true 1 [])] [(0, 1, (.k (N 1)))]),
 (none, .build 3 [(N 0), (.sl true true 1 []), (.sl true true 1 []), (.sl true true 1 []), (.sl true true 1 []), (N 0), (N 0), (.sl true true 1 []), (.sl true true 1 [])] [(0, 4, (.t 1)), (5, 4, (.t 2))]),
 (none, .store 9 (.t 0) (.t 3))])
 .ret))
theorem c_impl_NewSession : codeOf Try.prog n_impl_NewSession m_impl_NewSession = some (k_impl_NewSession, [.cell 0 true 9], 4) := by kernel_rfl

/- loop.example/g03111/laws.eqSession -/
def m_laws_eqSession : List (Nat × List Md) := [(1, [.copy, .take, .copy, .take]), (3, [.copy, .take, .copy, .take]), (5, [.copy, .take, .copy, .take]), (1000001, [.copy, .copy, .frz, .frz])]
def k_laws_eqSession : C := (.seq (.reg [(none, .box 2 (.t 0)),
 (none, .box 3 (.t 1)),
 (none, .mv 4 .copy (.k (.sc (.bool false))))])
 (.seq (.seq (.seq (.frz 2)
 (.seq (.frz 3)
 (.reg [(none, .fieldA 5 0 (.t 2)),
 (none, .load 6 .take true 4 (.t 5)),
 (none, .fieldA 7 0 (.t 3)),
 (none, .load 8 .take true 4 (.t 7)),
 (none, .call .no (some 9) (.k (.fn n_laws_eqSystem [])) [(.t 6), (.t 8)]),
 (none, .un 10 .not (.t 9))])))
 (.cond (.t 10)
 (.seq (.reg [(none, .mv 4 .copy (.k (.sc (.bool false))))])
 .ret)
 .skip))
 (.seq (.seq (.reg [(none, .fieldA 11 4 (.t 2)),
 (none, .load 12 .take false 1 (.t 11)),
 (none, .fieldA 13 4 (.t 3)),
 (none, .load 14 .take false 1 (.t 13)),
 (none, .call .no (some 15) (.k (.fn n_laws_eqIntSS [])) [(.t 12), (.t 14)]),
 (none, .un 16 .not (.t 15))])
 (.cond (.t 16)
 (.seq (.reg [(none, .mv 4 .copy (.k (.sc (.bool false))))])
 .ret)
 .skip))
 (.seq (.seq (.reg [(none, .fieldA 17 5 (.t 2)),
 (none, .load 18 .take true 4 (.t 17)),
 (none, .fieldA 19 5 (.t 3)),
 (none, .load 20 .take true 4 (.t 19)),
 (none, .call .no (some 21) (.k (.fn n_laws_eqTerm [])) [(.t 18), (.t 20)]),
 (none, .un 22 .not (.t 21))])
 (.cond (.t 22)
 (.seq (.reg [(none, .mv 4 .copy (.k (.sc (.bool false))))])
 .ret)
 .skip))
 (.seq (.reg [(none, .mv 4 .copy (.k (.sc (.bool true))))])
 .ret)))))
theorem c_laws_eqSession : codeOf Try.prog n_laws_eqSession m_laws_eqSession = some (k_laws_eqSession, [.tmp 4], 23) := by kernel_rfl

/- loop.example/g03111/laws.markSession -/
def m_laws_markSession : List (Nat × List Md) := [(1, [.copy, .take, .copy, .take]), (2, [.copy, .take, .copy, .take]), (3, [.copy, .take, .copy, .take]), (1000001, [.copy, .copy, .frz])]
def k_laws_markSession : C := (.seq (.reg [(none, .box 2 (.t 0)),
 (none, .mv 4 .copy (.k (N 0)))])
 (.seq (.seq (.frz 2)
 (.reg [(none, .fieldA 5 0 (.t 2)),
 (none, .load 6 .take true 4 (.t 5)),
 (none, .mv 7 .copy (.t 1)),
 (none, .call .any (some 8) (.k (.fn n_laws_markSystem [])) [(.t 6), (.t 7)]),
 (none, .mv 1 .copy (.t 8))]))
 (.seq (.reg [(none, .fieldA 9 4 (.t 2)),
 (none, .load 10 .take false 1 (.t 9)),
 (none, .mv 11 .copy (.t 1)),
 (none, .call .any (some 12) (.k (.fn n_laws_markIntSS [])) [(.t 10), (.t 11)]),
 (none, .mv 1 .copy (.t 12))])
 (.seq (.reg [(none, .fieldA 13 5 (.t 2)),
 (none, .load 14 .take true 4 (.t 13)),
 (none, .mv 15 .copy (.t 1)),
 (none, .call .any (some 16) (.k (.fn n_laws_markTerm [])) [(.t 14), (.t 15)]),
 (none, .mv 1 .copy (.t 16))])
 (.seq (.reg [(none, .mv 17 .copy (.t 1)),
 (none, .mv 4 .copy (.t 17))])
 .ret)))))
theorem c_laws_markSession : codeOf Try.prog n_laws_markSession m_laws_markSession = some (k_laws_markSession, [.tmp 4], 18) := by kernel_rfl

/- loop.example/g03111/laws.heldSession -/
def m_laws_heldSession : List (Nat × List Md) := [(1, [.copy, .take]), (4, [.copy, .take]), (7, [.copy, .take]), (1000001, [.copy, .copy, .frz])]
def k_laws_heldSession : C := (.seq (.reg [(none, .box 2 (.t 0)),
 (none, .mv 4 .copy (.k (N 0)))])
 (.seq (.seq (.frz 2)
 (.reg [(none, .fieldA 5 0 (.t 2)),
 (none, .load 6 .take true 4 (.t 5)),
 (none, .mv 7 .copy (.t 1)),
 (none, .call .no (some 8) (.k (.fn n_laws_heldSystem [])) [(.t 6), (.t 7)]),
 (none, .mv 1 .copy (.t 8))]))
 (.seq (.seq (.reg [(none, .mv 9 .copy (.t 1)),
 (none, .bin 10 .num .lss (.t 9) (.k (N 0)))])
 (.cond (.t 10)
 (.seq (.reg [(none, .mv 4 .copy (.k (N (-1))))])
 .ret)
 .skip))
 (.seq (.reg [(none, .fieldA 11 4 (.t 2)),
 (none, .load 12 .take false 1 (.t 11)),
 (none, .mv 13 .copy (.t 1)),
 (none, .call .no (some 14) (.k (.fn n_laws_heldIntSS [])) [(.t 12), (.t 13)]),
 (none, .mv 1 .copy (.t 14))])
 (.seq (.seq (.reg [(none, .mv 15 .copy (.t 1)),
 (none, .bin 16 .num .lss (.t 15) (.k (N 0)))])
 (.cond (.t 16)
 (.seq (.reg [(none, .mv 4 .copy (.k (N (-1))))])
 .ret)
 .skip))
 (.seq (.reg [(none, .fieldA 17 5 (.t 2)),
 (none, .load 18 .take true 4 (.t 17)),
 (none, .mv 19 .copy (.t 1)),
 (none, .call .no (some 20) (.k (.fn n_laws_heldTerm [])) [(.t 18), (.t 19)]),
 (none, .mv 1 .copy (.t 20))])
 (.seq (.seq (.reg [(none, .mv 21 .copy (.t 1)),
 (none, .bin 22 .num .lss (.t 21) (.k (N 0)))])
 (.cond (.t 22)
 (.seq (.reg [(none, .mv 4 .copy (.k (N (-1))))])
 .ret)
 .skip))
 (.seq (.reg [(none, .mv 23 .copy (.t 1)),
 (none, .mv 4 .copy (.t 23))])
 .ret))))))))
theorem c_laws_heldSession : codeOf Try.prog n_laws_heldSession m_laws_heldSession = some (k_laws_heldSession, [.tmp 4], 24) := by kernel_rfl

/- loop.example/g03111/laws.big -/
def m_laws_big : List (Nat × List Md) := [(1, [.take])]
def k_laws_big : C := (.seq (.reg [(none, .mv 2 .copy (.k (.sc (.bool false))))])
 (.seq (.reg [(none, .mv 3 .take (.t 0)),
 (none, .len 4 (.t 3)),
 (none, .bin 5 .num .gtr (.t 4) (.k (N 1048576))),
 (none, .mv 2 .copy (.t 5))])
 .ret))
theorem c_laws_big : codeOf Try.prog n_laws_big m_laws_big = some (k_laws_big, [.tmp 2], 6) := by kernel_rfl

/- loop.example/g03111/spec.DrawBoxType -/
def m_spec_DrawBoxType : List (Nat × List Md) := [(1, [.take, .take, .take]), (2, [.copy, .copy, .frz, .take, .take]), (3, [.copy, .frz]), (4, [.copy, .take, .copy, .copy, .copy, .copy, .frz]), (5, [.take, .take]), (1000005, [.copy, .copy, .copy, .copy, .frz])]
def k_spec_DrawBoxType : C := (.seq (.reg [(none, .mv 2 .copy (.k (.sl true true 1 [])))])
 (.seq (.reg [(none, .mv 5 .take (.t 0)),
 (none, .call .any (some 6) (.k (.fn n_spec_l1New [])) [(.t 5)]),
 (none, .mv 3 .take (.t 6))])
 (.seq (.reg [(none, .mv 7 .copy (.t 3)),
 (none, .mv 8 .copy (.t 3)),
 (none, .call .fr (some 9) (.k (.fn n_spec_dSystem [])) [(.t 8)]),
 (none, .call .any (some 10) (.k (.fn n_spec_dSpoiltType [])) [(.t 7), (.t 9)]),
 (none, .mv 4 .take (.t 10))])
 (.seq (.seq (.reg [(none, .mv 11 .copy (.t 3)),
 (none, .call .fr (some 12) (.k (.fn n_spec_l1Once [])) [(.t 11), (.k (N 5))]),
 (none, .mv 13 .copy (.t 12)),
 (some (13, true), .mv 14 .copy (.t 4)),
 (some (13, true), .len 15 (.t 14)),
 (some (13, true), .bin 16 .num .gtr (.t 15) (.k (N 0))),
 (none, .pick 17 (.t 13) (.t 16) (.k (.sc (.bool false))))])
 (.cond (.t 17)
 (.reg [(none, .mv 18 .copy (.t 4)),
 (none, .mv 19 .take (.t 3)),
 (none, .mv 20 .copy (.t 4)),
 (none, .indexA 21 1 (.t 20) (.k (N 0))),
 (none, .load 22 .copy false 1 (.t 21)),
 (none, .bslice 23 1 3 [(N 0), (N 0), (N 0)] [(0, 1, (.k (N 35))), (1, 1, (.k (N 36))), (2, 1, (.t 22))]),
 (none, .call .fr (some 24) (.k (.fn n_spec_l1PickInt [])) [(.t 19), (.t 23)]),
 (none, .indexA 25 1 (.t 18) (.k (N 0))),
 (none, .store 1 (.t 25) (.t 24))])
 .skip))
 (.seq (.seq (.frz 4)
 (.reg [(none, .mv 26 .take (.t 4)),
 (none, .mv 2 .take (.t 26))]))
 .ret)))))
theorem c_spec_DrawBoxType : codeOf Try.prog n_spec_DrawBoxType m_spec_DrawBoxType = some (k_spec_DrawBoxType, [.tmp 2], 27) := by kernel_rfl

/- loop.example/g03111/laws.between -/
def m_laws_between : List (Nat × List Md) := []
def k_laws_between : C := (.seq (.reg [(none, .mv 6 .copy (.k (N 0)))])
 (.seq (.reg [(none, .mv 7 .copy (.k (N 0)))])
 (.seq (.seq (.reg [(none, .mv 8 .copy (.k (N 0)))])
 (.block 0 (.loop (.seq (.seq (.reg [(none, .mv 9 .copy (.t 8)),
 (none, .mv 10 .copy (.t 0)),
 (none, .len 11 (.t 10)),
 (none, .bin 12 .num .lss (.t 9) (.t 11))])
 (.cond (.t 12)
 .skip
 (.exit 0)))
 (.seq (.block 1 (.seq (.reg [(none, .mv 15 .copy (.t 0)),
 (none, .mv 16 .copy (.t 8)),
 (none, .indexA 17 1 (.t 15) (.t 16)),
 (none, .load 18 .copy false 1 (.t 17)),
 (none, .mv 19 .copy (.t 1)),
 (none, .bin 20 .num .geq (.t 18) (.t 19)),
 (none, .mv 21 .copy (.t 20)),
 (some (21, true), .mv 22 .copy (.t 0)),
 (some (21, true), .mv 23 .copy (.t 8)),
 (some (21, true), .indexA 24 1 (.t 22) (.t 23)),
 (some (21, true), .load 25 .copy false 1 (.t 24)),
 (some (21, true), .mv 26 .copy (.t 2)),
 (some (21, true), .bin 27 .num .leq (.t 25) (.t 26)),
 (none, .pick 28 (.t 21) (.t 27) (.k (.sc (.bool false))))])
 (.cond (.t 28)
 (.reg [(none, .mv 29 .copy (.t 7)),
 (none, .bin 30 .num .add (.t 29) (.k (N 1))),
 (none, .mv 7 .copy (.t 30))])
 .skip)))
 (.reg [(none, .mv 13 .copy (.t 8)),
 (none, .bin 14 .num .add (.t 13) (.k (N 1))),
 (none, .mv 8 .copy (.t 14))]))))))
 (.seq (.reg [(none, .mv 31 .copy (.t 7)),
 (none, .mv 6 .copy (.t 31))])
 .ret))))
theorem c_laws_between : codeOf Try.prog n_laws_between m_laws_between = some (k_laws_between, [.tmp 6], 32) := by kernel_rfl

/- loop.example/g03111/laws.ints -/
def m_laws_ints : List (Nat × List Md) := []
def k_laws_ints : C := (.seq (.reg [(none, .mv 4 .copy (.k (.sc (.bool false))))])
 (.seq (.seq (.reg [(none, .mv 6 .copy (.t 0)),
 (none, .len 7 (.t 6)),
 (none, .mv 8 .copy (.t 1)),
 (none, .len 9 (.t 8)),
 (none, .bin 10 .num .neq (.t 7) (.t 9))])
 (.cond (.t 10)
 (.seq (.reg [(none, .mv 4 .copy (.k (.sc (.bool false))))])
 .ret)
 .skip))
 (.seq (.seq (.reg [(none, .mv 5 .copy (.k (N 0)))])
 (.block 0 (.loop (.seq (.seq (.reg [(none, .mv 11 .copy (.t 5)),
 (none, .mv 12 .copy (.t 0)),
 (none, .len 13 (.t 12)),
 (none, .bin 14 .num .lss (.t 11) (.t 13))])
 (.cond (.t 14)
 .skip
 (.exit 0)))
 (.seq (.block 1 (.seq (.reg [(none, .mv 17 .copy (.t 0)),
 (none, .mv 18 .copy (.t 5)),
 (none, .indexA 19 1 (.t 17) (.t 18)),
 (none, .load 20 .copy false 1 (.t 19)),
 (none, .mv 21 .copy (.t 1)),
 (none, .mv 22 .copy (.t 5)),
 (none, .indexA 23 1 (.t 21) (.t 22)),
 (none, .load 24 .copy false 1 (.t 23)),
 (none, .bin 25 .num .neq (.t 20) (.t 24))])
 (.cond (.t 25)
 (.seq (.reg [(none, .mv 4 .copy (.k (.sc (.bool false))))])
 .ret)
 .skip)))
 (.reg [(none, .mv 15 .copy (.t 5)),
 (none, .bin 16 .num .add (.t 15) (.k (N 1))),
 (none, .mv 5 .copy (.t 16))]))))))
 (.seq (.reg [(none, .mv 4 .copy (.k (.sc (.bool true))))])
 .ret))))
theorem c_laws_ints : codeOf Try.prog n_laws_ints m_laws_ints = some (k_laws_ints, [.tmp 4], 26) := by kernel_rfl

/- loop.example/g03111/spec.l2Type -/
def m_spec_l2Type : List (Nat × List Md) := [(1, [.copy, .copy, .copy, .copy, .copy, .copy, .copy, .copy, .copy, .copy, .copy, .take])]
def k_spec_l2Type : C := (.seq (.reg [(none, .mv 2 .copy (.k (.sc (.bool false))))])
 (.seq (.reg [(none, .mv 3 .copy (.t 0)),
 (none, .len 4 (.t 3)),
 (none, .bin 5 .num .leq (.t 4) (.k (N 40))),
 (none, .mv 6 .copy (.t 5)),
 (some (6, true), .mv 7 .copy (.t 0)),
 (some (6, true), .call .no (some 8) (.k (.fn n_spec_l2End [])) [(.t 7), (.k (N 0))]),
 (some (6, true), .mv 9 .copy (.t 0)),
 (some (6, true), .len 10 (.t 9)),
 (some (6, true), .bin 11 .num .eql (.t 8) (.t 10)),
 (none, .pick 12 (.t 6) (.t 11) (.k (.sc (.bool false)))),
 (none, .mv 13 .copy (.t 12)),
 (some (13, true), .mv 14 .take (.t 0)),
 (some (13, true), .len 15 (.t 14)),
 (some (13, true), .bin 16 .num .gtr (.t 15) (.k (N 0))),
 (none, .pick 17 (.t 13) (.t 16) (.k (.sc (.bool false)))),
 (none, .mv 2 .copy (.t 17))])
 .ret))
theorem c_spec_l2Type : codeOf Try.prog n_spec_l2Type m_spec_l2Type = some (k_spec_l2Type, [.tmp 2], 18) := by kernel_rfl

/- loop.example/g03111/spec.l2Arrow -/
def m_spec_l2Arrow : List (Nat × List Md) := []
def k_spec_l2Arrow : C := (.seq (.reg [(none, .mv 2 .copy (.k (.sc (.bool false))))])
 (.seq (.reg [(none, .mv 3 .copy (.t 0)),
 (none, .call .no (some 4) (.k (.fn n_spec_l1In [])) [(.t 3), (.k (N 3)), (.k (N 18))]),
 (none, .mv 5 .copy (.t 4)),
 (some (5, false), .mv 6 .copy (.t 0)),
 (some (5, false), .bin 7 .num .eql (.t 6) (.k (N 35))),
 (none, .pick 8 (.t 5) (.k (.sc (.bool true))) (.t 7)),
 (none, .mv 2 .copy (.t 8))])
 .ret))
theorem c_spec_l2Arrow : codeOf Try.prog n_spec_l2Arrow m_spec_l2Arrow = some (k_spec_l2Arrow, [.tmp 2], 9) := by kernel_rfl

/- loop.example/g03111/spec.l2Box -/
def m_spec_l2Box : List (Nat × List Md) := []
def k_spec_l2Box : C := (.seq (.reg [(none, .mv 2 .copy (.k (.sc (.bool false))))])
 (.seq (.reg [(none, .mv 3 .copy (.t 0)),
 (none, .call .no (some 4) (.k (.fn n_spec_l1In [])) [(.t 3), (.k (N 19)), (.k (N 34))]),
 (none, .mv 5 .copy (.t 4)),
 (some (5, false), .mv 6 .copy (.t 0)),
 (some (5, false), .bin 7 .num .eql (.t 6) (.k (N 36))),
 (none, .pick 8 (.t 5) (.k (.sc (.bool true))) (.t 7)),
 (none, .mv 2 .copy (.t 8))])
 .ret))
theorem c_spec_l2Box : codeOf Try.prog n_spec_l2Box m_spec_l2Box = some (k_spec_l2Box, [.tmp 2], 9) := by kernel_rfl

/- loop.example/g03111/impl.isWrittenType -/
def m_impl_isWrittenType : List (Nat × List Md) := [(1, [.copy, .copy, .copy, .copy, .copy, .copy, .take])]
def k_impl_isWrittenType : C := (.seq (.reg [(none, .mv 2 .copy (.k (.sc (.bool false))))])
 (.seq (.reg [(none, .mv 3 .copy (.t 0)),
 (none, .len 4 (.t 3)),
 (none, .call .no (some 5) (.k (.fn n_impl_within [])) [(.t 4), (.k (N 1)), (.k (N 40))]),
 (none, .mv 6 .copy (.t 5)),
 (some (6, true), .mv 7 .copy (.t 0)),
 (some (6, true), .call .no (some 8) (.k (.fn n_impl_typeEnd [])) [(.t 7), (.k (N 0))]),
 (some (6, true), .mv 9 .take (.t 0)),
 (some (6, true), .len 10 (.t 9)),
 (some (6, true), .bin 11 .num .eql (.t 8) (.t 10)),
 (none, .pick 12 (.t 6) (.t 11) (.k (.sc (.bool false)))),
 (none, .mv 2 .copy (.t 12))])
 .ret))
theorem c_impl_isWrittenType : codeOf Try.prog n_impl_isWrittenType m_impl_isWrittenType = some (k_impl_isWrittenType, [.tmp 2], 13) := by kernel_rfl

/- loop.example/g03111/impl.shape -/
def m_impl_shape : List (Nat × List Md) := []
def k_impl_shape : C := (.seq (.reg [(none, .mv 2 .copy (.k (N 0))),
 (none, .mv 3 .copy (.k (N 0)))])
 (.seq (.block 0 (.seq (.reg [(none, .mv 5 .copy (.t 0)),
 (none, .call .no (some 6) (.k (.fn n_impl_within [])) [(.t 5), (.k (N 0)), (.k (N 2))]),
 (none, .mv 4 .copy (.t 6))])
 (.cond (.t 4)
 (.seq (.reg [(none, .mv 7 .copy (.t 0)),
 (none, .mv 2 .copy (.t 7)),
 (none, .mv 3 .copy (.k (N (-1))))])
 .ret)
 (.seq (.reg [(none, .mv 9 .copy (.t 0)),
 (none, .call .no (some 10) (.k (.fn n_impl_within [])) [(.t 9), (.k (N 3)), (.k (N 18))]),
 (none, .mv 8 .copy (.t 10))])
 (.cond (.t 8)
 (.seq (.reg [(none, .mv 11 .copy (.t 0)),
 (none, .bin 12 .num .sub (.t 11) (.k (N 3))),
 (none, .mv 2 .copy (.k (N 3))),
 (none, .mv 3 .copy (.t 12))])
 .ret)
 (.seq (.reg [(none, .mv 14 .copy (.t 0)),
 (none, .call .no (some 15) (.k (.fn n_impl_within [])) [(.t 14), (.k (N 19)), (.k (N 34))]),
 (none, .mv 13 .copy (.t 15))])
 (.cond (.t 13)
 (.seq (.reg [(none, .mv 16 .copy (.t 0)),
 (none, .bin 17 .num .sub (.t 16) (.k (N 19))),
 (none, .mv 2 .copy (.k (N 4))),
 (none, .mv 3 .copy (.t 17))])
 .ret)
 (.seq (.reg [(none, .mv 19 .copy (.t 0)),
 (none, .bin 20 .num .eql (.t 19) (.k (N 35))),
 (none, .mv 18 .copy (.t 20))])
 (.cond (.t 18)
 (.seq (.reg [(none, .mv 2 .copy (.k (N 3))),
 (none, .mv 3 .copy (.k (N (-1))))])
 .ret)
 (.seq (.reg [(none, .mv 22 .copy (.t 0)),
 (none, .bin 23 .num .eql (.t 22) (.k (N 36))),
 (none, .mv 21 .copy (.t 23))])
 (.cond (.t 21)
 (.seq (.reg [(none, .mv 2 .copy (.k (N 4))),
 (none, .mv 3 .copy (.k (N (-1))))])
 .ret)
 .skip)))))))))))
 (.seq (.reg [(none, .mv 2 .copy (.k (N 5))),
 (none, .mv 3 .copy (.k (N (-1))))])
 .ret)))
theorem c_impl_shape : codeOf Try.prog n_impl_shape m_impl_shape = some (k_impl_shape, [.tmp 2, .tmp 3], 24) := by kernel_rfl

/- loop.example/g03111/spec.l10Box -/
def m_spec_l10Box : List (Nat × List Md) := [(3, [.copy, .copy, .take]), (5, [.copy, .copy, .copy, .copy, .take]), (9, [.copy, .copy, .copy, .take, .copy, .copy, .take]), (10, [.take, .take, .copy, .take]), (12, [.take, .copy, .take])]
def k_spec_l10Box : C := (.seq (.reg [(none, .mv 4 .copy (.k (.sl true true 1 []))),
 (none, .mv 5 .copy (.k (N 0)))])
 (.seq (.reg [(none, .mv 11 .copy (.t 0)),
 (none, .mv 12 .copy (.t 1)),
 (none, .indexA 13 1 (.t 11) (.t 12)),
 (none, .load 14 .copy false 1 (.t 13)),
 (none, .mv 6 .copy (.t 14))])
 (.seq (.reg [(none, .mv 15 .copy (.t 1)),
 (none, .bin 16 .num .add (.t 15) (.k (N 1))),
 (none, .mv 1 .copy (.t 16))])
 (.seq (.reg [(none, .mv 17 .copy (.t 6)),
 (none, .bslice 18 1 1 [(N 0)] [(0, 1, (.t 17))]),
 (none, .mv 7 .take (.t 18))])
 (.seq (.seq (.reg [(none, .mv 19 .copy (.t 6)),
 (none, .call .no (some 20) (.k (.fn n_spec_l2Arrow [])) [(.t 19)])])
 (.cond (.t 20)
 (.reg [(none, .mv 21 .copy (.t 6)),
 (none, .call .no (some 22) (.k (.fn n_spec_l2Grade [])) [(.t 21)]),
 (none, .call .no (some 23) (.k (.fn n_spec_l2Code [])) [(.k (.sc (.bool false))), (.t 22)]),
 (none, .bslice 24 1 2 [(N 0), (N 0)] [(0, 1, (.k (N 4))), (1, 1, (.t 23))]),
 (none, .mv 7 .take (.t 24))])
 .skip))
 (.seq (.seq (.reg [(none, .mv 8 .copy (.k (N 0)))])
 (.block 0 (.loop (.seq (.seq (.reg [(none, .mv 25 .copy (.t 8)),
 (none, .mv 26 .copy (.t 6)),
 (none, .call .no (some 27) (.k (.fn n_spec_l2Kids [])) [(.t 26)]),
 (none, .bin 28 .num .lss (.t 25) (.t 27))])
 (.cond (.t 28)
 .skip
 (.exit 0)))
 (.seq (.block 1 (.seq (.reg [(none, .mv 32 .copy (.t 0)),
 (none, .mv 33 .copy (.t 1)),
 (none, .call .no (some 34) (.k (.fn n_spec_l10Box [])) [(.t 32), (.t 33)]),
 (none, .mv 31 .take (.t 34)),
 (none, .extract 35 0 (.t 31)),
 (none, .extract 36 1 (.t 31)),
 (none, .mv 9 .take (.t 35)),
 (none, .mv 10 .copy (.t 36))])
 (.seq (.reg [(none, .mv 37 .take (.t 7)),
 (none, .mv 38 .take (.t 9)),
 (none, .append 39 1 (.t 37) (.t 38)),
 (none, .mv 7 .take (.t 39))])
 (.reg [(none, .mv 40 .copy (.t 10)),
 (none, .mv 1 .copy (.t 40))]))))
 (.reg [(none, .mv 29 .copy (.t 8)),
 (none, .bin 30 .num .add (.t 29) (.k (N 1))),
 (none, .mv 8 .copy (.t 30))]))))))
 (.seq (.reg [(none, .mv 41 .take (.t 7)),
 (none, .mv 42 .copy (.t 1)),
 (none, .mv 4 .take (.t 41)),
 (none, .mv 5 .copy (.t 42))])
 .ret)))))))
theorem c_spec_l10Box : codeOf Try.prog n_spec_l10Box m_spec_l10Box = some (k_spec_l10Box, [.tmp 4, .tmp 5], 43) := by kernel_rfl

/- loop.example/g03111/impl.boxed -/
def m_impl_boxed : List (Nat × List Md) := [(1, [.copy, .copy, .copy, .copy, .take]), (2, [.copy, .copy, .take]), (3, [.take, .copy, .copy, .copy, .take]), (8, [.copy, .copy, .copy, .copy, .copy, .copy, .copy, .copy, .copy, .copy, .copy, .copy, .take]), (9, [.take]), (11, [.copy, .copy, .take]), (12, [.take, .take, .copy, .copy, .take]), (14, [.take, .take])]
def k_impl_boxed : C := (.seq (.reg [(none, .mv 2 .copy (.k (.sl true true 1 [])))])
 (.seq (.reg [(none, .mv 11 .copy (.t 0)),
 (none, .indexA 12 1 (.t 11) (.k (N 0))),
 (none, .load 13 .copy false 1 (.t 12)),
 (none, .call .no (some 14) (.k (.fn n_impl_shape [])) [(.t 13)]),
 (none, .mv 10 .take (.t 14)),
 (none, .extract 15 0 (.t 10)),
 (none, .extract 16 1 (.t 10)),
 (none, .mv 3 .copy (.t 15)),
 (none, .mv 4 .copy (.t 16))])
 (.seq (.reg [(none, .mv 17 .copy (.t 0)),
 (none, .call .no (some 18) (.k (.fn n_impl_parts [])) [(.t 17)]),
 (none, .mv 5 .take (.t 18))])
 (.seq (.reg [(none, .mv 19 .take (.t 0)),
 (none, .indexA 20 1 (.t 19) (.k (N 0))),
 (none, .load 21 .copy false 1 (.t 20)),
 (none, .bslice 22 1 1 [(N 0)] [(0, 1, (.t 21))]),
 (none, .mv 6 .take (.t 22))])
 (.seq (.seq (.reg [(none, .mv 23 .copy (.t 3)),
 (none, .bin 24 .num .eql (.t 23) (.k (N 3)))])
 (.cond (.t 24)
 (.seq (.reg [(none, .mv 7 .copy (.k (N 36)))])
 (.seq (.seq (.reg [(none, .mv 25 .copy (.t 4)),
 (none, .bin 26 .num .geq (.t 25) (.k (N 0)))])
 (.cond (.t 26)
 (.reg [(none, .mv 27 .copy (.t 4)),
 (none, .bin 28 .num .add (.k (N 19)) (.t 27)),
 (none, .mv 7 .copy (.t 28))])
 .skip))
 (.seq (.reg [(none, .mv 29 .copy (.t 7)),
 (none, .bslice 30 1 2 [(N 0), (N 0)] [(0, 1, (.k (N 4))), (1, 1, (.t 29))]),
 (none, .mv 31 .copy (.t 5)),
 (none, .indexA 32 1 (.t 31) (.k (N 0))),
 (none, .load 33 .copy false 1 (.t 32)),
 (none, .call .no (some 34) (.k (.fn n_impl_boxed [])) [(.t 33)]),
 (none, .mv 35 .copy (.t 5)),
 (none, .indexA 36 1 (.t 35) (.k (N 1))),
 (none, .load 37 .copy false 1 (.t 36)),
 (none, .call .no (some 38) (.k (.fn n_impl_boxed [])) [(.t 37)]),
 (none, .bslice 39 1 3 [(.sl true true 1 []), (.sl true true 1 []), (.sl true true 1 [])] [(0, 1, (.t 30)), (1, 1, (.t 34)), (2, 1, (.t 38))]),
 (none, .call .no (some 40) (.k (.fn n_slices_Concat___int_int_ [])) [(.t 39)]),
 (none, .mv 2 .take (.t 40))])
 .ret)))
 .skip))
 (.seq (.seq (.reg [(none, .mv 41 .take (.t 5)),
 (none, .len 42 (.t 41)),
 (none, .mv 43 .copy (.k (N 0)))])
 (.block 0 (.loop (.seq (.reg [(none, .bin 44 .num .lss (.t 43) (.t 42))])
 (.seq (.cond (.t 44)
 .skip
 (.exit 0))
 (.seq (.block 1 (.seq (.reg [(none, .indexA 45 1 (.t 41) (.t 43)),
 (none, .load 46 .copy false 1 (.t 45)),
 (none, .mv 9 .take (.t 46))])
 (.reg [(none, .mv 47 .take (.t 6)),
 (none, .mv 48 .take (.t 9)),
 (none, .call .no (some 49) (.k (.fn n_impl_boxed [])) [(.t 48)]),
 (none, .append 50 1 (.t 47) (.t 49)),
 (none, .mv 6 .take (.t 50))])))
 (.reg [(none, .bin 51 .num .add (.t 43) (.k (N 1))),
 (none, .mv 43 .copy (.t 51))])))))))
 (.seq (.reg [(none, .mv 52 .take (.t 6)),
 (none, .mv 2 .take (.t 52))])
 .ret)))))))
theorem c_impl_boxed : codeOf Try.prog n_impl_boxed m_impl_boxed = some (k_impl_boxed, [.tmp 2], 53) := by kernel_rfl

/- loop.example/g03111/impl.long -/
def m_impl_long : List (Nat × List Md) := [(1, [.take])]
def k_impl_long : C := (.seq (.reg [(none, .mv 2 .copy (.k (.sc (.bool false))))])
 (.seq (.reg [(none, .mv 3 .take (.t 0)),
 (none, .len 4 (.t 3)),
 (none, .bin 5 .num .gtr (.t 4) (.k (N 40))),
 (none, .mv 2 .copy (.t 5))])
 .ret))
theorem c_impl_long : codeOf Try.prog n_impl_long m_impl_long = some (k_impl_long, [.tmp 2], 6) := by kernel_rfl

/- loop.example/g03111/spec.CountSystem -/
def m_spec_CountSystem : List (Nat × List Md) := []
def k_spec_CountSystem : C := (.seq (.reg [(none, .alloc 2 [(N 0), (.sl true true 1 []), (.sl true true 1 []), (.sl true true 1 [])])])
 (.seq (.reg [(none, .mv 3 .copy (.t 0)),
 (none, .call .no (some 4) (.k (.fn n_spec_l1Numbers [])) [(.t 3), (.k (.sc (.bool false)))]),
 (none, .store 4 (.t 2) (.t 4))])
 .ret))
theorem c_spec_CountSystem : codeOf Try.prog n_spec_CountSystem m_spec_CountSystem = some (k_spec_CountSystem, [.cell 2 true 4], 5) := by kernel_rfl

/- loop.example/g03111/impl.CountSystem -/
def m_impl_CountSystem : List (Nat × List Md) := [(3, [.take]), (1000003, [.copy, .frz])]
def k_impl_CountSystem : C := (.seq (.reg [(none, .box 1 (.t 0)),
 (none, .alloc 2 [(N 0), (.sl true true 1 []), (.sl true true 1 []), (.sl true true 1 [])])])
 (.seq (.seq (.reg [(none, .load 3 .copy false 1 (.t 1)),
 (none, .call .no (some 4) (.k (.fn n_impl_within [])) [(.t 3), (.k (N 1)), (.k (N 14))]),
 (none, .un 5 .not (.t 4))])
 (.cond (.t 5)
 (.seq (.reg [(none, .build 6 [(N 0), (.sl true true 1 []), (.sl true true 1 []), (.sl true true 1 [])] []),
 (none, .store 4 (.t 2) (.t 6))])
 .ret)
 .skip))
 (.seq (.seq (.frz 1)
 (.reg [(none, .load 7 .take false 1 (.t 1)),
 (none, .mkfn 8 n_impl_CountSystem_1 false [(.t 1)]),
 (none, .call .no (some 9) (.k (.fn n_impl_counted [])) [(.t 7), (.t 8)]),
 (none, .store 4 (.t 2) (.t 9))]))
 .ret)))
theorem c_impl_CountSystem : codeOf Try.prog n_impl_CountSystem m_impl_CountSystem = some (k_impl_CountSystem, [.cell 2 true 4], 10) := by kernel_rfl

/- loop.example/g03111/laws.eqSystem -/
def m_laws_eqSystem : List (Nat × List Md) := [(1, [.copy, .take, .copy, .take]), (3, [.copy, .take, .copy, .take]), (5, [.copy, .take, .copy, .take]), (7, [.copy, .take, .copy, .take]), (1000001, [.copy, .copy, .frz, .frz])]
def k_laws_eqSystem : C := (.seq (.reg [(none, .box 2 (.t 0)),
 (none, .box 3 (.t 1)),
 (none, .mv 4 .copy (.k (.sc (.bool false))))])
 (.seq (.seq (.seq (.frz 2)
 (.seq (.frz 3)
 (.reg [(none, .fieldA 5 0 (.t 2)),
 (none, .load 6 .take false 1 (.t 5)),
 (none, .fieldA 7 0 (.t 3)),
 (none, .load 8 .take false 1 (.t 7)),
 (none, .bin 9 .num .neq (.t 6) (.t 8))])))
 (.cond (.t 9)
 (.seq (.reg [(none, .mv 4 .copy (.k (.sc (.bool false))))])
 .ret)
 .skip))
 (.seq (.seq (.reg [(none, .fieldA 10 1 (.t 2)),
 (none, .load 11 .take false 1 (.t 10)),
 (none, .fieldA 12 1 (.t 3)),
 (none, .load 13 .take false 1 (.t 12)),
 (none, .call .no (some 14) (.k (.fn n_laws_eqIntS [])) [(.t 11), (.t 13)]),
 (none, .un 15 .not (.t 14))])
 (.cond (.t 15)
 (.seq (.reg [(none, .mv 4 .copy (.k (.sc (.bool false))))])
 .ret)
 .skip))
 (.seq (.seq (.reg [(none, .fieldA 16 2 (.t 2)),
 (none, .load 17 .take false 1 (.t 16)),
 (none, .fieldA 18 2 (.t 3)),
 (none, .load 19 .take false 1 (.t 18)),
 (none, .call .no (some 20) (.k (.fn n_laws_eqIntS [])) [(.t 17), (.t 19)]),
 (none, .un 21 .not (.t 20))])
 (.cond (.t 21)
 (.seq (.reg [(none, .mv 4 .copy (.k (.sc (.bool false))))])
 .ret)
 .skip))
 (.seq (.seq (.reg [(none, .fieldA 22 3 (.t 2)),
 (none, .load 23 .take false 1 (.t 22)),
 (none, .fieldA 24 3 (.t 3)),
 (none, .load 25 .take false 1 (.t 24)),
 (none, .call .no (some 26) (.k (.fn n_laws_eqBoolS [])) [(.t 23), (.t 25)]),
 (none, .un 27 .not (.t 26))])
 (.cond (.t 27)
 (.seq (.reg [(none, .mv 4 .copy (.k (.sc (.bool false))))])
 .ret)
 .skip))
 (.seq (.reg [(none, .mv 4 .copy (.k (.sc (.bool true))))])
 .ret))))))
theorem c_laws_eqSystem : codeOf Try.prog n_laws_eqSystem m_laws_eqSystem = some (k_laws_eqSystem, [.tmp 4], 28) := by kernel_rfl

/- loop.example/g03111/laws.eqIntSS -/
def m_laws_eqIntSS : List (Nat × List Md) := []
def k_laws_eqIntSS : C := (.seq (.reg [(none, .mv 4 .copy (.k (.sc (.bool false))))])
 (.seq (.seq (.reg [(none, .mv 6 .copy (.t 0)),
 (none, .len 7 (.t 6)),
 (none, .mv 8 .copy (.t 1)),
 (none, .len 9 (.t 8)),
 (none, .bin 10 .num .neq (.t 7) (.t 9))])
 (.cond (.t 10)
 (.seq (.reg [(none, .mv 4 .copy (.k (.sc (.bool false))))])
 .ret)
 .skip))
 (.seq (.seq (.reg [(none, .mv 5 .copy (.k (N 0)))])
 (.block 0 (.loop (.seq (.seq (.reg [(none, .mv 11 .copy (.t 5)),
 (none, .mv 12 .copy (.t 0)),
 (none, .len 13 (.t 12)),
 (none, .bin 14 .num .lss (.t 11) (.t 13))])
 (.cond (.t 14)
 .skip
 (.exit 0)))
 (.seq (.block 1 (.seq (.reg [(none, .mv 17 .copy (.t 0)),
 (none, .mv 18 .copy (.t 5)),
 (none, .indexA 19 1 (.t 17) (.t 18)),
 (none, .load 20 .copy false 1 (.t 19)),
 (none, .mv 21 .copy (.t 1)),
 (none, .mv 22 .copy (.t 5)),
 (none, .indexA 23 1 (.t 21) (.t 22)),
 (none, .load 24 .copy false 1 (.t 23)),
 (none, .call .no (some 25) (.k (.fn n_laws_eqIntS [])) [(.t 20), (.t 24)]),
 (none, .un 26 .not (.t 25))])
 (.cond (.t 26)
 (.seq (.reg [(none, .mv 4 .copy (.k (.sc (.bool false))))])
 .ret)
 .skip)))
 (.reg [(none, .mv 15 .copy (.t 5)),
 (none, .bin 16 .num .add (.t 15) (.k (N 1))),
 (none, .mv 5 .copy (.t 16))]))))))
 (.seq (.reg [(none, .mv 4 .copy (.k (.sc (.bool true))))])
 .ret))))
theorem c_laws_eqIntSS : codeOf Try.prog n_laws_eqIntSS m_laws_eqIntSS = some (k_laws_eqIntSS, [.tmp 4], 27) := by kernel_rfl

/- loop.example/g03111/laws.eqTerm -/
def m_laws_eqTerm : List (Nat × List Md) := [(1, [.copy, .take, .copy, .take]), (3, [.copy, .take, .copy, .take]), (5, [.copy, .take, .copy, .take]), (7, [.copy, .take, .copy, .take]), (1000001, [.copy, .copy, .frz, .frz])]
def k_laws_eqTerm : C := (.seq (.reg [(none, .box 2 (.t 0)),
 (none, .box 3 (.t 1)),
 (none, .mv 4 .copy (.k (.sc (.bool false))))])
 (.seq (.seq (.seq (.frz 2)
 (.seq (.frz 3)
 (.reg [(none, .fieldA 5 0 (.t 2)),
 (none, .load 6 .take false 1 (.t 5)),
 (none, .fieldA 7 0 (.t 3)),
 (none, .load 8 .take false 1 (.t 7)),
 (none, .bin 9 .num .neq (.t 6) (.t 8))])))
 (.cond (.t 9)
 (.seq (.reg [(none, .mv 4 .copy (.k (.sc (.bool false))))])
 .ret)
 .skip))
 (.seq (.seq (.reg [(none, .fieldA 10 1 (.t 2)),
 (none, .load 11 .take false 1 (.t 10)),
 (none, .fieldA 12 1 (.t 3)),
 (none, .load 13 .take false 1 (.t 12)),
 (none, .bin 14 .num .neq (.t 11) (.t 13))])
 (.cond (.t 14)
 (.seq (.reg [(none, .mv 4 .copy (.k (.sc (.bool false))))])
 .ret)
 .skip))
 (.seq (.seq (.reg [(none, .fieldA 15 2 (.t 2)),
 (none, .load 16 .take false 1 (.t 15)),
 (none, .fieldA 17 2 (.t 3)),
 (none, .load 18 .take false 1 (.t 17)),
 (none, .call .no (some 19) (.k (.fn n_laws_eqIntS [])) [(.t 16), (.t 18)]),
 (none, .un 20 .not (.t 19))])
 (.cond (.t 20)
 (.seq (.reg [(none, .mv 4 .copy (.k (.sc (.bool false))))])
 .ret)
 .skip))
 (.seq (.seq (.reg [(none, .fieldA 21 3 (.t 2)),
 (none, .load 22 .take false 1 (.t 21)),
 (none, .fieldA 23 3 (.t 3)),
 (none, .load 24 .take false 1 (.t 23)),
 (none, .call .no (some 25) (.k (.fn n_laws_eqTermS [])) [(.t 22), (.t 24)]),
 (none, .un 26 .not (.t 25))])
 (.cond (.t 26)
 (.seq (.reg [(none, .mv 4 .copy (.k (.sc (.bool false))))])
 .ret)
 .skip))
 (.seq (.reg [(none, .mv 4 .copy (.k (.sc (.bool true))))])
 .ret))))))
theorem c_laws_eqTerm : codeOf Try.prog n_laws_eqTerm m_laws_eqTerm = some (k_laws_eqTerm, [.tmp 4], 27) := by kernel_rfl

/- loop.example/g03111/laws.markSystem -/
def m_laws_markSystem : List (Nat × List Md) := [(1, [.copy, .take, .copy, .take]), (2, [.copy, .take, .copy, .take]), (3, [.copy, .take, .copy, .take]), (1000001, [.copy, .copy, .frz])]
def k_laws_markSystem : C := (.seq (.reg [(none, .box 2 (.t 0)),
 (none, .mv 4 .copy (.k (N 0)))])
 (.seq (.seq (.frz 2)
 (.reg [(none, .fieldA 5 1 (.t 2)),
 (none, .load 6 .take false 1 (.t 5)),
 (none, .mv 7 .copy (.t 1)),
 (none, .call .any (some 8) (.k (.fn n_laws_markIntS [])) [(.t 6), (.t 7)]),
 (none, .mv 1 .copy (.t 8))]))
 (.seq (.reg [(none, .fieldA 9 2 (.t 2)),
 (none, .load 10 .take false 1 (.t 9)),
 (none, .mv 11 .copy (.t 1)),
 (none, .call .any (some 12) (.k (.fn n_laws_markIntS [])) [(.t 10), (.t 11)]),
 (none, .mv 1 .copy (.t 12))])
 (.seq (.reg [(none, .fieldA 13 3 (.t 2)),
 (none, .load 14 .take false 1 (.t 13)),
 (none, .mv 15 .copy (.t 1)),
 (none, .call .any (some 16) (.k (.fn n_laws_markBoolS [])) [(.t 14), (.t 15)]),
 (none, .mv 1 .copy (.t 16))])
 (.seq (.reg [(none, .mv 17 .copy (.t 1)),
 (none, .mv 4 .copy (.t 17))])
 .ret)))))
theorem c_laws_markSystem : codeOf Try.prog n_laws_markSystem m_laws_markSystem = some (k_laws_markSystem, [.tmp 4], 18) := by kernel_rfl

/- loop.example/g03111/laws.markIntSS -/
def m_laws_markIntSS : List (Nat × List Md) := [(4, [.copy, .copy, .copy, .copy, .copy, .take])]
def k_laws_markIntSS : C := (.seq (.reg [(none, .mv 4 .copy (.k (N 0)))])
 (.seq (.seq (.reg [(none, .mv 5 .copy (.k (N 0)))])
 (.block 0 (.loop (.seq (.seq (.reg [(none, .mv 6 .copy (.t 5)),
 (none, .mv 7 .copy (.t 0)),
 (none, .len 8 (.t 7)),
 (none, .bin 9 .num .lss (.t 6) (.t 8))])
 (.cond (.t 9)
 .skip
 (.exit 0)))
 (.seq (.block 1 (.reg [(none, .mv 12 .copy (.t 0)),
 (none, .mv 13 .copy (.t 5)),
 (none, .indexA 14 1 (.t 12) (.t 13)),
 (none, .load 15 .copy false 1 (.t 14)),
 (none, .mv 16 .copy (.t 1)),
 (none, .call .any (some 17) (.k (.fn n_laws_markIntS [])) [(.t 15), (.t 16)]),
 (none, .mv 1 .copy (.t 17))]))
 (.reg [(none, .mv 10 .copy (.t 5)),
 (none, .bin 11 .num .add (.t 10) (.k (N 1))),
 (none, .mv 5 .copy (.t 11))]))))))
 (.seq (.reg [(none, .mv 18 .copy (.t 1)),
 (none, .mv 4 .copy (.t 18))])
 .ret)))
theorem c_laws_markIntSS : codeOf Try.prog n_laws_markIntSS m_laws_markIntSS = some (k_laws_markIntSS, [.tmp 4], 19) := by kernel_rfl

/- loop.example/g03111/laws.markTerm -/
def m_laws_markTerm : List (Nat × List Md) := [(1, [.copy, .take, .copy, .take]), (2, [.copy, .take, .copy, .take]), (1000001, [.copy, .copy, .frz])]
def k_laws_markTerm : C := (.seq (.reg [(none, .box 2 (.t 0)),
 (none, .mv 4 .copy (.k (N 0)))])
 (.seq (.seq (.frz 2)
 (.reg [(none, .fieldA 5 2 (.t 2)),
 (none, .load 6 .take false 1 (.t 5)),
 (none, .mv 7 .copy (.t 1)),
 (none, .call .any (some 8) (.k (.fn n_laws_markIntS [])) [(.t 6), (.t 7)]),
 (none, .mv 1 .copy (.t 8))]))
 (.seq (.reg [(none, .fieldA 9 3 (.t 2)),
 (none, .load 10 .take false 1 (.t 9)),
 (none, .mv 11 .copy (.t 1)),
 (none, .call .any (some 12) (.k (.fn n_laws_markTermS [])) [(.t 10), (.t 11)]),
 (none, .mv 1 .copy (.t 12))])
 (.seq (.reg [(none, .mv 13 .copy (.t 1)),
 (none, .mv 4 .copy (.t 13))])
 .ret))))
theorem c_laws_markTerm : codeOf Try.prog n_laws_markTerm m_laws_markTerm = some (k_laws_markTerm, [.tmp 4], 14) := by kernel_rfl

/- loop.example/g03111/laws.heldSystem -/
def m_laws_heldSystem : List (Nat × List Md) := [(1, [.copy, .take]), (4, [.copy, .take]), (7, [.copy, .take]), (1000001, [.copy, .copy, .frz])]
def k_laws_heldSystem : C := (.seq (.reg [(none, .box 2 (.t 0)),
 (none, .mv 4 .copy (.k (N 0)))])
 (.seq (.seq (.frz 2)
 (.reg [(none, .fieldA 5 1 (.t 2)),
 (none, .load 6 .take false 1 (.t 5)),
 (none, .mv 7 .copy (.t 1)),
 (none, .call .no (some 8) (.k (.fn n_laws_heldIntS [])) [(.t 6), (.t 7)]),
 (none, .mv 1 .copy (.t 8))]))
 (.seq (.seq (.reg [(none, .mv 9 .copy (.t 1)),
 (none, .bin 10 .num .lss (.t 9) (.k (N 0)))])
 (.cond (.t 10)
 (.seq (.reg [(none, .mv 4 .copy (.k (N (-1))))])
 .ret)
 .skip))
 (.seq (.reg [(none, .fieldA 11 2 (.t 2)),
 (none, .load 12 .take false 1 (.t 11)),
 (none, .mv 13 .copy (.t 1)),
 (none, .call .no (some 14) (.k (.fn n_laws_heldIntS [])) [(.t 12), (.t 13)]),
 (none, .mv 1 .copy (.t 14))])
 (.seq (.seq (.reg [(none, .mv 15 .copy (.t 1)),
 (none, .bin 16 .num .lss (.t 15) (.k (N 0)))])
 (.cond (.t 16)
 (.seq (.reg [(none, .mv 4 .copy (.k (N (-1))))])
 .ret)
 .skip))
 (.seq (.reg [(none, .fieldA 17 3 (.t 2)),
 (none, .load 18 .take false 1 (.t 17)),
 (none, .mv 19 .copy (.t 1)),
 (none, .call .no (some 20) (.k (.fn n_laws_heldBoolS [])) [(.t 18), (.t 19)]),
 (none, .mv 1 .copy (.t 20))])
 (.seq (.seq (.reg [(none, .mv 21 .copy (.t 1)),
 (none, .bin 22 .num .lss (.t 21) (.k (N 0)))])
 (.cond (.t 22)
 (.seq (.reg [(none, .mv 4 .copy (.k (N (-1))))])
 .ret)
 .skip))
 (.seq (.reg [(none, .mv 23 .copy (.t 1)),
 (none, .mv 4 .copy (.t 23))])
 .ret))))))))
theorem c_laws_heldSystem : codeOf Try.prog n_laws_heldSystem m_laws_heldSystem = some (k_laws_heldSystem, [.tmp 4], 24) := by kernel_rfl

/- loop.example/g03111/laws.heldIntSS -/
def m_laws_heldIntSS : List (Nat × List Md) := []
def k_laws_heldIntSS : C := (.seq (.reg [(none, .mv 4 .copy (.k (N 0)))])
 (.seq (.seq (.reg [(none, .mv 5 .copy (.k (N 0)))])
 (.block 0 (.loop (.seq (.seq (.reg [(none, .mv 6 .copy (.t 5)),
 (none, .mv 7 .copy (.t 0)),
 (none, .len 8 (.t 7)),
 (none, .bin 9 .num .lss (.t 6) (.t 8))])
 (.cond (.t 9)
 .skip
 (.exit 0)))
 (.seq (.block 1 (.seq (.reg [(none, .mv 12 .copy (.t 0)),
 (none, .mv 13 .copy (.t 5)),
 (none, .indexA 14 1 (.t 12) (.t 13)),
 (none, .load 15 .copy false 1 (.t 14)),
 (none, .mv 16 .copy (.t 1)),
 (none, .call .no (some 17) (.k (.fn n_laws_heldIntS [])) [(.t 15), (.t 16)]),
 (none, .mv 1 .copy (.t 17))])
 (.seq (.reg [(none, .mv 18 .copy (.t 1)),
 (none, .bin 19 .num .lss (.t 18) (.k (N 0)))])
 (.cond (.t 19)
 (.seq (.reg [(none, .mv 4 .copy (.k (N (-1))))])
 .ret)
 .skip))))
 (.reg [(none, .mv 10 .copy (.t 5)),
 (none, .bin 11 .num .add (.t 10) (.k (N 1))),
 (none, .mv 5 .copy (.t 11))]))))))
 (.seq (.reg [(none, .mv 20 .copy (.t 1)),
 (none, .mv 4 .copy (.t 20))])
 .ret)))
theorem c_laws_heldIntSS : codeOf Try.prog n_laws_heldIntSS m_laws_heldIntSS = some (k_laws_heldIntSS, [.tmp 4], 21) := by kernel_rfl

/- loop.example/g03111/laws.heldTerm -/
def m_laws_heldTerm : List (Nat × List Md) := [(1, [.copy, .take]), (4, [.copy, .take]), (1000001, [.copy, .copy, .frz])]
def k_laws_heldTerm : C := (.seq (.reg [(none, .box 2 (.t 0)),
 (none, .mv 4 .copy (.k (N 0)))])
 (.seq (.seq (.frz 2)
 (.reg [(none, .fieldA 5 2 (.t 2)),
 (none, .load 6 .take false 1 (.t 5)),
 (none, .mv 7 .copy (.t 1)),
 (none, .call .no (some 8) (.k (.fn n_laws_heldIntS [])) [(.t 6), (.t 7)]),
 (none, .mv 1 .copy (.t 8))]))
 (.seq (.seq (.reg [(none, .mv 9 .copy (.t 1)),
 (none, .bin 10 .num .lss (.t 9) (.k (N 0)))])
 (.cond (.t 10)
 (.seq (.reg [(none, .mv 4 .copy (.k (N (-1))))])
 .ret)
 .skip))
 (.seq (.reg [(none, .fieldA 11 3 (.t 2)),
 (none, .load 12 .take false 1 (.t 11)),
 (none, .mv 13 .copy (.t 1)),
 (none, .call .no (some 14) (.k (.fn n_laws_heldTermS [])) [(.t 12), (.t 13)]),
 (none, .mv 1 .copy (.t 14))])
 (.seq (.seq (.reg [(none, .mv 15 .copy (.t 1)),
 (none, .bin 16 .num .lss (.t 15) (.k (N 0)))])
 (.cond (.t 16)
 (.seq (.reg [(none, .mv 4 .copy (.k (N (-1))))])
 .ret)
 .skip))
 (.seq (.reg [(none, .mv 17 .copy (.t 1)),
 (none, .mv 4 .copy (.t 17))])
 .ret))))))
theorem c_laws_heldTerm : codeOf Try.prog n_laws_heldTerm m_laws_heldTerm = some (k_laws_heldTerm, [.tmp 4], 18) := by kernel_rfl

/- loop.example/g03111/spec.l1New -/
def m_spec_l1New : List (Nat × List Md) := [(6, [.take, .copy, .copy, .copy, .take])]
def k_spec_l1New : C := (.seq (.reg [(none, .mv 2 .copy (.k (.sc (.pointer none))))])
 (.seq (.reg [(none, .mv 5 .copy (.t 0)),
 (none, .len 6 (.t 5)),
 (none, .bin 7 .num .add (.k (N 242117)) (.t 6)),
 (none, .mv 3 .copy (.t 7))])
 (.seq (.seq (.reg [(none, .mv 4 .copy (.k (N 0)))])
 (.block 0 (.loop (.seq (.seq (.reg [(none, .mv 8 .copy (.t 4)),
 (none, .mv 9 .copy (.t 0)),
 (none, .len 10 (.t 9)),
 (none, .bin 11 .num .lss (.t 8) (.t 10)),
 (none, .mv 12 .copy (.t 11)),
 (some (12, true), .mv 13 .copy (.t 4)),
 (some (12, true), .bin 14 .num .lss (.t 13) (.k (N 4000))),
 (none, .pick 15 (.t 12) (.t 14) (.k (.sc (.bool false))))])
 (.cond (.t 15)
 .skip
 (.exit 0)))
 (.seq (.block 1 (.reg [(none, .mv 18 .copy (.t 3)),
 (none, .bin 19 .num .mul (.t 18) (.k (N 151))),
 (none, .mv 20 .copy (.t 0)),
 (none, .mv 21 .copy (.t 4)),
 (none, .indexA 22 1 (.t 20) (.t 21)),
 (none, .load 23 .copy false 1 (.t 22)),
 (none, .conv 24 .i64 (.t 23)),
 (none, .bin 25 .num .add (.t 19) (.t 24)),
 (none, .bin 26 .num .add (.t 25) (.k (N 7))),
 (none, .bin 27 .num .and (.t 26) (.k (N 1073741823))),
 (none, .mv 3 .copy (.t 27))]))
 (.reg [(none, .mv 16 .copy (.t 4)),
 (none, .bin 17 .num .add (.t 16) (.k (N 1))),
 (none, .mv 4 .copy (.t 17))]))))))
 (.seq (.reg [(none, .mv 28 .take (.t 0)),
 (none, .mv 29 .copy (.t 3)),
 (none, .build 30 [(.sl true true 1 []), (N 0), (N 0)] [(0, 1, (.t 28)), (2, 1, (.t 29))]),
 (none, .box 31 (.t 30)),
 (none, .mv 2 .take (.t 31))])
 .ret))))
theorem c_spec_l1New : codeOf Try.prog n_spec_l1New m_spec_l1New = some (k_spec_l1New, [.tmp 2], 32) := by kernel_rfl

/- loop.example/g03111/spec.dSpoiltType -/
def m_spec_dSpoiltType : List (Nat × List Md) := [(1, [.copy, .take, .copy, .frz, .take, .take]), (2, [.copy, .frz]), (4, [.copy, .copy, .copy, .copy, .frz, .take, .copy, .frz]), (6, [.copy, .take, .copy, .copy, .copy, .take]), (8, [.take, .copy, .copy, .take]), (11, [.copy, .take, .copy, .copy, .take]), (12, [.take, .take]), (1000001, [.copy, .copy, .copy, .frz]), (1000007, [.copy, .copy, .copy, .copy, .copy, .frz]), (2000004, [.copy, .copy, .copy, .copy, .copy, .frz]), (2000006, [.copy, .copy, .copy, .copy, .copy, .frz])]
def k_spec_dSpoiltType : C := (.seq (.reg [(none, .box 3 (.t 1)),
 (none, .mv 4 .copy (.k (.sl true true 1 [])))])
 (.seq (.seq (.frz 3)
 (.reg [(none, .mv 6 .copy (.t 0)),
 (none, .load 7 .take true 4 (.t 3)),
 (none, .mv 8 .copy (.t 0)),
 (none, .call .fr (some 9) (.k (.fn n_spec_l1Once [])) [(.t 8), (.k (N 2))]),
 (none, .call .any (some 10) (.k (.fn n_spec_dType [])) [(.t 6), (.t 7), (.k (N 3)), (.t 9)]),
 (none, .mv 5 .take (.t 10))]))
 (.seq (.seq (.reg [(none, .mv 11 .copy (.t 0)),
 (none, .call .fr (some 12) (.k (.fn n_spec_l1Below [])) [(.t 11), (.k (N 14))])])
 (.block 0 (.seq (.reg [(none, .bin 14 .num .eql (.t 12) (.k (N 0))),
 (none, .mv 13 .copy (.t 14))])
 (.cond (.t 13)
 (.seq (.reg [(none, .mv 15 .copy (.t 5)),
 (none, .mv 16 .copy (.t 0)),
 (none, .mv 17 .copy (.t 5)),
 (none, .len 18 (.t 17)),
 (none, .call .fr (some 19) (.k (.fn n_spec_l1Below [])) [(.t 16), (.t 18)]),
 (none, .mv 20 .take (.t 0)),
 (none, .bslice 21 1 10 [(N 0), (N 0), (N 0), (N 0), (N 0), (N 0), (N 0), (N 0), (N 0), (N 0)] [(0, 1, (.k (N (-1)))), (1, 1, (.k (N 0))), (2, 1, (.k (N 2))), (3, 1, (.k (N 18))), (4, 1, (.k (N 19))), (5, 1, (.k (N 34))), (6, 1, (.k (N 35))), (7, 1, (.k (N 36))), (8, 1, (.k (N 37))), (9, 1, (.k (N 1000)))]),
 (none, .call .fr (some 22) (.k (.fn n_spec_l1PickInt [])) [(.t 20), (.t 21)]),
 (none, .indexA 23 1 (.t 15) (.t 19)),
 (none, .store 1 (.t 23) (.t 22))])
 (.frz 5))
 (.seq (.reg [(none, .bin 25 .num .eql (.t 12) (.k (N 1))),
 (none, .mv 24 .copy (.t 25))])
 (.cond (.t 24)
 (.seq (.reg [(none, .mv 26 .copy (.t 5)),
 (none, .mv 27 .take (.t 5)),
 (none, .len 28 (.t 27)),
 (none, .bin 29 .num .sub (.t 28) (.k (N 1))),
 (none, .slice 30 1 (.t 26) none (some (.t 29)) none),
 (none, .mv 5 .take (.t 30))])
 (.frz 5))
 (.seq (.seq (.frz 5)
 (.reg [(none, .bin 32 .num .eql (.t 12) (.k (N 2))),
 (none, .mv 31 .copy (.t 32))]))
 (.cond (.t 31)
 (.reg [(none, .mv 33 .take (.t 5)),
 (none, .bslice 34 1 1 [(N 0)] [(0, 1, (.k (N 0)))]),
 (none, .append 35 1 (.t 33) (.t 34)),
 (none, .mv 5 .take (.t 35))])
 (.seq (.reg [(none, .bin 37 .num .eql (.t 12) (.k (N 3))),
 (none, .mv 36 .copy (.t 37))])
 (.cond (.t 36)
 (.block 1 (.loop (.seq (.seq (.reg [(none, .mv 38 .copy (.t 5)),
 (none, .len 39 (.t 38)),
 (none, .bin 40 .num .lss (.t 39) (.k (N 30)))])
 (.cond (.t 40)
 .skip
 (.exit 1)))
 (.block 2 (.reg [(none, .mv 41 .copy (.t 5)),
 (none, .mv 42 .take (.t 5)),
 (none, .bslice 43 1 2 [(.sl true true 1 []), (.sl true true 1 [])] [(0, 1, (.t 41)), (1, 1, (.t 42))]),
 (none, .call .no (some 44) (.k (.fn n_spec_l3Glue [])) [(.k (N 1)), (.t 43)]),
 (none, .mv 5 .take (.t 44))])))))
 .skip))))))))))
 (.seq (.reg [(none, .mv 45 .take (.t 5)),
 (none, .mv 4 .take (.t 45))])
 .ret))))
theorem c_spec_dSpoiltType : codeOf Try.prog n_spec_dSpoiltType m_spec_dSpoiltType = some (k_spec_dSpoiltType, [.tmp 4], 46) := by kernel_rfl

/- loop.example/g03111/spec.dSystem -/
def m_spec_dSystem : List (Nat × List Md) := [(1, [.copy, .frz]), (3, [.copy, .frz]), (12, [.copy, .take, .frz, .copy, .copy, .copy, .take]), (13, [.frz])]
def k_spec_dSystem : C := (.seq (.reg [(none, .alloc 2 [(N 0), (.sl true true 1 []), (.sl true true 1 []), (.sl true true 1 [])])])
 (.seq (.reg [(none, .mv 5 .copy (.t 0)),
 (none, .call .fr (some 6) (.k (.fn n_spec_l1Below [])) [(.t 5), (.k (N 3))]),
 (none, .bin 7 .num .add (.k (N 1)) (.t 6)),
 (none, .mv 3 .copy (.t 7))])
 (.seq (.reg [(none, .mv 8 .copy (.t 3)),
 (none, .call .no (some 9) (.k (.fn n_spec_BoundSystem [])) [(.t 8)]),
 (none, .alloc 4 [(N 0), (.sl true true 1 []), (.sl true true 1 []), (.sl true true 1 [])]),
 (none, .store 4 (.t 4) (.t 9))])
 (.seq (.seq (.reg [(none, .mv 10 .copy (.t 0)),
 (none, .call .fr (some 11) (.k (.fn n_spec_l1Below [])) [(.t 10), (.k (N 8))])])
 (.block 0 (.seq (.seq (.reg [(none, .bin 13 .num .eql (.t 11) (.k (N 0))),
 (none, .mv 12 .copy (.t 13))])
 (.cond (.t 12)
 .skip
 (.seq (.reg [(none, .bin 14 .num .eql (.t 11) (.k (N 1))),
 (none, .mv 12 .copy (.t 14))])
 (.cond (.t 12)
 .skip
 (.reg [(none, .bin 15 .num .eql (.t 11) (.k (N 2))),
 (none, .mv 12 .copy (.t 15))])))))
 (.cond (.t 12)
 (.reg [(none, .mv 16 .copy (.t 3)),
 (none, .call .no (some 17) (.k (.fn n_spec_CountSystem [])) [(.t 16)]),
 (none, .store 4 (.t 4) (.t 17))])
 (.seq (.seq (.reg [(none, .bin 19 .num .eql (.t 11) (.k (N 3))),
 (none, .mv 18 .copy (.t 19))])
 (.cond (.t 18)
 .skip
 (.reg [(none, .bin 20 .num .eql (.t 11) (.k (N 4))),
 (none, .mv 18 .copy (.t 20))])))
 (.cond (.t 18)
 (.reg [(none, .mv 21 .copy (.t 3)),
 (none, .call .no (some 22) (.k (.fn n_spec_LevelSystem [])) [(.t 21)]),
 (none, .store 4 (.t 4) (.t 22))])
 (.seq (.reg [(none, .bin 24 .num .eql (.t 11) (.k (N 5))),
 (none, .mv 23 .copy (.t 24))])
 (.cond (.t 23)
 (.reg [(none, .call .no (some 26) (.k (.fn n_spec_CountSystem [])) [(.k (N 1))]),
 (none, .mv 27 .take (.t 0)),
 (none, .call .fr (some 28) (.k (.fn n_spec_l1Below [])) [(.t 27), (.k (N 2))]),
 (none, .bin 29 .num .add (.k (N 1)) (.t 28)),
 (none, .call .no (some 30) (.k (.fn n_spec_LevelSystem [])) [(.t 29)]),
 (none, .call .no (some 31) (.k (.fn n_spec_ProductSystem [])) [(.t 26), (.t 30)]),
 (none, .mv 25 .take (.t 31)),
 (none, .extract 32 0 (.t 25)),
 (none, .extract 33 1 (.t 25)),
 (none, .store 4 (.t 4) (.t 32))])
 .skip))))))))
 (.seq (.reg [(none, .load 34 .frz true 4 (.t 4)),
 (none, .store 4 (.t 2) (.t 34))])
 .ret)))))
theorem c_spec_dSystem : codeOf Try.prog n_spec_dSystem m_spec_dSystem = some (k_spec_dSystem, [.cell 2 true 4], 35) := by kernel_rfl

/- loop.example/g03111/spec.l1Once -/
def m_spec_l1Once : List (Nat × List Md) := [(1, [.take, .copy, .frz])]
def k_spec_l1Once : C := (.seq (.reg [(none, .mv 4 .copy (.k (.sc (.bool false))))])
 (.seq (.reg [(none, .mv 5 .take (.t 0)),
 (none, .mv 6 .copy (.t 1)),
 (none, .call .fr (some 7) (.k (.fn n_spec_l1Below [])) [(.t 5), (.t 6)]),
 (none, .bin 8 .num .eql (.t 7) (.k (N 0))),
 (none, .mv 4 .copy (.t 8))])
 .ret))
theorem c_spec_l1Once : codeOf Try.prog n_spec_l1Once m_spec_l1Once = some (k_spec_l1Once, [.tmp 4], 9) := by kernel_rfl

/- loop.example/g03111/spec.l1PickInt -/
def m_spec_l1PickInt : List (Nat × List Md) := [(1, [.copy, .take, .take, .copy, .frz])]
def k_spec_l1PickInt : C := (.seq (.reg [(none, .mv 4 .copy (.k (N 0)))])
 (.seq (.reg [(none, .mv 5 .copy (.t 1)),
 (none, .mv 6 .take (.t 0)),
 (none, .mv 7 .take (.t 1)),
 (none, .len 8 (.t 7)),
 (none, .call .fr (some 9) (.k (.fn n_spec_l1Below [])) [(.t 6), (.t 8)]),
 (none, .indexA 10 1 (.t 5) (.t 9)),
 (none, .load 11 .copy false 1 (.t 10)),
 (none, .mv 4 .copy (.t 11))])
 .ret))
theorem c_spec_l1PickInt : codeOf Try.prog n_spec_l1PickInt m_spec_l1PickInt = some (k_spec_l1PickInt, [.tmp 4], 12) := by kernel_rfl

/- loop.example/g03111/spec.l2End -/
def m_spec_l2End : List (Nat × List Md) := []
def k_spec_l2End : C := (.seq (.reg [(none, .mv 4 .copy (.k (N 0)))])
 (.seq (.reg [(none, .mv 5 .copy (.k (N 1)))])
 (.seq (.seq (.reg [(none, .mv 8 .copy (.t 1)),
 (none, .mv 6 .copy (.t 8))])
 (.block 0 (.loop (.seq (.seq (.reg [(none, .mv 9 .copy (.t 6)),
 (none, .mv 10 .copy (.t 0)),
 (none, .len 11 (.t 10)),
 (none, .bin 12 .num .lss (.t 9) (.t 11))])
 (.cond (.t 12)
 .skip
 (.exit 0)))
 (.seq (.block 1 (.seq (.reg [(none, .mv 15 .copy (.t 0)),
 (none, .mv 16 .copy (.t 6)),
 (none, .indexA 17 1 (.t 15) (.t 16)),
 (none, .load 18 .copy false 1 (.t 17)),
 (none, .call .no (some 19) (.k (.fn n_spec_l2Kids [])) [(.t 18)]),
 (none, .mv 7 .copy (.t 19))])
 (.seq (.seq (.reg [(none, .mv 20 .copy (.t 7)),
 (none, .bin 21 .num .lss (.t 20) (.k (N 0)))])
 (.cond (.t 21)
 (.seq (.reg [(none, .mv 4 .copy (.k (N (-1))))])
 .ret)
 .skip))
 (.seq (.reg [(none, .mv 22 .copy (.t 5)),
 (none, .bin 23 .num .sub (.t 22) (.k (N 1))),
 (none, .mv 24 .copy (.t 7)),
 (none, .bin 25 .num .add (.t 23) (.t 24)),
 (none, .mv 5 .copy (.t 25))])
 (.seq (.reg [(none, .mv 26 .copy (.t 5)),
 (none, .bin 27 .num .eql (.t 26) (.k (N 0)))])
 (.cond (.t 27)
 (.seq (.reg [(none, .mv 28 .copy (.t 6)),
 (none, .bin 29 .num .add (.t 28) (.k (N 1))),
 (none, .mv 4 .copy (.t 29))])
 .ret)
 .skip))))))
 (.reg [(none, .mv 13 .copy (.t 6)),
 (none, .bin 14 .num .add (.t 13) (.k (N 1))),
 (none, .mv 6 .copy (.t 14))]))))))
 (.seq (.reg [(none, .mv 4 .copy (.k (N (-1))))])
 .ret))))
theorem c_spec_l2End : codeOf Try.prog n_spec_l2End m_spec_l2End = some (k_spec_l2End, [.tmp 4], 30) := by kernel_rfl

/- loop.example/g03111/spec.l1In -/
def m_spec_l1In : List (Nat × List Md) := []
def k_spec_l1In : C := (.seq (.reg [(none, .mv 6 .copy (.k (.sc (.bool false))))])
 (.seq (.reg [(none, .mv 7 .copy (.t 0)),
 (none, .mv 8 .copy (.t 1)),
 (none, .bin 9 .num .geq (.t 7) (.t 8)),
 (none, .mv 10 .copy (.t 9)),
 (some (10, true), .mv 11 .copy (.t 0)),
 (some (10, true), .mv 12 .copy (.t 2)),
 (some (10, true), .bin 13 .num .leq (.t 11) (.t 12)),
 (none, .pick 14 (.t 10) (.t 13) (.k (.sc (.bool false)))),
 (none, .mv 6 .copy (.t 14))])
 .ret))
theorem c_spec_l1In : codeOf Try.prog n_spec_l1In m_spec_l1In = some (k_spec_l1In, [.tmp 6], 15) := by kernel_rfl

/- loop.example/g03111/impl.within -/
def m_impl_within : List (Nat × List Md) := []
def k_impl_within : C := (.seq (.reg [(none, .mv 6 .copy (.k (.sc (.bool false))))])
 (.seq (.reg [(none, .mv 7 .copy (.t 0)),
 (none, .mv 8 .copy (.t 1)),
 (none, .bin 9 .num .geq (.t 7) (.t 8)),
 (none, .mv 10 .copy (.t 9)),
 (some (10, true), .mv 11 .copy (.t 0)),
 (some (10, true), .mv 12 .copy (.t 2)),
 (some (10, true), .bin 13 .num .leq (.t 11) (.t 12)),
 (none, .pick 14 (.t 10) (.t 13) (.k (.sc (.bool false)))),
 (none, .mv 6 .copy (.t 14))])
 .ret))
theorem c_impl_within : codeOf Try.prog n_impl_within m_impl_within = some (k_impl_within, [.tmp 6], 15) := by kernel_rfl

/- loop.example/g03111/impl.typeEnd -/
def m_impl_typeEnd : List (Nat × List Md) := [(3, [.copy, .copy, .copy, .copy, .copy, .take]), (8, [.take]), (11, [.copy, .take])]
def k_impl_typeEnd : C := (.seq (.reg [(none, .mv 4 .copy (.k (N 0)))])
 (.seq (.seq (.reg [(none, .mv 7 .copy (.t 1)),
 (none, .bin 8 .num .lss (.t 7) (.k (N 0))),
 (none, .mv 9 .copy (.t 8)),
 (some (9, false), .mv 10 .copy (.t 1)),
 (some (9, false), .mv 11 .copy (.t 0)),
 (some (9, false), .len 12 (.t 11)),
 (some (9, false), .bin 13 .num .geq (.t 10) (.t 12)),
 (none, .pick 14 (.t 9) (.k (.sc (.bool true))) (.t 13))])
 (.cond (.t 14)
 (.seq (.reg [(none, .mv 4 .copy (.k (N (-1))))])
 .ret)
 .skip))
 (.seq (.reg [(none, .mv 16 .copy (.t 0)),
 (none, .mv 17 .copy (.t 1)),
 (none, .indexA 18 1 (.t 16) (.t 17)),
 (none, .load 19 .copy false 1 (.t 18)),
 (none, .call .no (some 20) (.k (.fn n_impl_shape [])) [(.t 19)]),
 (none, .mv 15 .take (.t 20)),
 (none, .extract 21 0 (.t 15)),
 (none, .extract 22 1 (.t 15)),
 (none, .mv 5 .copy (.t 21)),
 (none, .mv 6 .copy (.t 22))])
 (.seq (.seq (.reg [(none, .mv 23 .copy (.t 5))])
 (.block 0 (.seq (.reg [(none, .bin 25 .num .eql (.t 23) (.k (N 0))),
 (none, .mv 24 .copy (.t 25))])
 (.cond (.t 24)
 (.seq (.reg [(none, .mv 26 .copy (.t 1)),
 (none, .bin 27 .num .add (.t 26) (.k (N 1))),
 (none, .mv 4 .copy (.t 27))])
 .ret)
 (.seq (.reg [(none, .bin 29 .num .eql (.t 23) (.k (N 4))),
 (none, .mv 28 .copy (.t 29))])
 (.cond (.t 28)
 (.seq (.reg [(none, .mv 30 .take (.t 0)),
 (none, .mv 31 .copy (.t 1)),
 (none, .bin 32 .num .add (.t 31) (.k (N 1))),
 (none, .call .no (some 33) (.k (.fn n_impl_typeEnd [])) [(.t 30), (.t 32)]),
 (none, .mv 4 .copy (.t 33))])
 .ret)
 (.seq (.reg [(none, .bin 35 .num .eql (.t 23) (.k (N 5))),
 (none, .mv 34 .copy (.t 35))])
 (.cond (.t 34)
 (.seq (.reg [(none, .mv 4 .copy (.k (N (-1))))])
 .ret)
 .skip))))))))
 (.seq (.reg [(none, .mv 36 .copy (.t 0)),
 (none, .mv 37 .take (.t 0)),
 (none, .mv 38 .copy (.t 1)),
 (none, .bin 39 .num .add (.t 38) (.k (N 1))),
 (none, .call .no (some 40) (.k (.fn n_impl_typeEnd [])) [(.t 37), (.t 39)]),
 (none, .call .no (some 41) (.k (.fn n_impl_typeEnd [])) [(.t 36), (.t 40)]),
 (none, .mv 4 .copy (.t 41))])
 .ret)))))
theorem c_impl_typeEnd : codeOf Try.prog n_impl_typeEnd m_impl_typeEnd = some (k_impl_typeEnd, [.tmp 4], 42) := by kernel_rfl

/- loop.example/g03111/spec.l2Code -/
def m_spec_l2Code : List (Nat × List Md) := []
def k_spec_l2Code : C := (.seq (.reg [(none, .mv 4 .copy (.k (N 0)))])
 (.seq (.block 0 (.seq (.reg [(none, .mv 6 .copy (.t 0)),
 (none, .mv 7 .copy (.t 6)),
 (some (7, true), .mv 8 .copy (.t 1)),
 (some (7, true), .bin 9 .num .lss (.t 8) (.k (N 0))),
 (none, .pick 10 (.t 7) (.t 9) (.k (.sc (.bool false)))),
 (none, .mv 5 .copy (.t 10))])
 (.cond (.t 5)
 (.seq (.reg [(none, .mv 4 .copy (.k (N 35)))])
 .ret)
 (.seq (.reg [(none, .mv 12 .copy (.t 0)),
 (none, .mv 11 .copy (.t 12))])
 (.cond (.t 11)
 (.seq (.reg [(none, .mv 13 .copy (.t 1)),
 (none, .bin 14 .num .add (.k (N 3)) (.t 13)),
 (none, .mv 4 .copy (.t 14))])
 .ret)
 (.seq (.reg [(none, .mv 16 .copy (.t 1)),
 (none, .bin 17 .num .lss (.t 16) (.k (N 0))),
 (none, .mv 15 .copy (.t 17))])
 (.cond (.t 15)
 (.seq (.reg [(none, .mv 4 .copy (.k (N 36)))])
 .ret)
 .skip)))))))
 (.seq (.reg [(none, .mv 18 .copy (.t 1)),
 (none, .bin 19 .num .add (.k (N 19)) (.t 18)),
 (none, .mv 4 .copy (.t 19))])
 .ret)))
theorem c_spec_l2Code : codeOf Try.prog n_spec_l2Code m_spec_l2Code = some (k_spec_l2Code, [.tmp 4], 20) := by kernel_rfl

/- loop.example/g03111/spec.l2Grade -/
def m_spec_l2Grade : List (Nat × List Md) := []
def k_spec_l2Grade : C := (.seq (.reg [(none, .mv 2 .copy (.k (N 0)))])
 (.seq (.block 0 (.seq (.reg [(none, .mv 4 .copy (.t 0)),
 (none, .bin 5 .num .geq (.t 4) (.k (N 35))),
 (none, .mv 3 .copy (.t 5))])
 (.cond (.t 3)
 (.seq (.reg [(none, .mv 2 .copy (.k (N (-1))))])
 .ret)
 (.seq (.reg [(none, .mv 7 .copy (.t 0)),
 (none, .bin 8 .num .geq (.t 7) (.k (N 19))),
 (none, .mv 6 .copy (.t 8))])
 (.cond (.t 6)
 (.seq (.reg [(none, .mv 9 .copy (.t 0)),
 (none, .bin 10 .num .sub (.t 9) (.k (N 19))),
 (none, .mv 2 .copy (.t 10))])
 .ret)
 .skip)))))
 (.seq (.reg [(none, .mv 11 .copy (.t 0)),
 (none, .bin 12 .num .sub (.t 11) (.k (N 3))),
 (none, .mv 2 .copy (.t 12))])
 .ret)))
theorem c_spec_l2Grade : codeOf Try.prog n_spec_l2Grade m_spec_l2Grade = some (k_spec_l2Grade, [.tmp 2], 13) := by kernel_rfl

/- loop.example/g03111/spec.l2Kids -/
def m_spec_l2Kids : List (Nat × List Md) := []
def k_spec_l2Kids : C := (.seq (.reg [(none, .mv 2 .copy (.k (N 0)))])
 (.seq (.block 0 (.seq (.reg [(none, .mv 4 .copy (.t 0)),
 (none, .bin 5 .num .eql (.t 4) (.k (N 0))),
 (none, .mv 3 .copy (.t 5))])
 (.cond (.t 3)
 (.seq (.reg [(none, .mv 2 .copy (.k (N 0)))])
 .ret)
 (.seq (.reg [(none, .mv 7 .copy (.t 0)),
 (none, .bin 8 .num .eql (.t 7) (.k (N 1))),
 (none, .mv 9 .copy (.t 8)),
 (some (9, false), .mv 10 .copy (.t 0)),
 (some (9, false), .bin 11 .num .eql (.t 10) (.k (N 2))),
 (none, .pick 12 (.t 9) (.k (.sc (.bool true))) (.t 11)),
 (none, .mv 13 .copy (.t 12)),
 (some (13, false), .mv 14 .copy (.t 0)),
 (some (13, false), .call .no (some 15) (.k (.fn n_spec_l2Arrow [])) [(.t 14)]),
 (none, .pick 16 (.t 13) (.k (.sc (.bool true))) (.t 15)),
 (none, .mv 6 .copy (.t 16))])
 (.cond (.t 6)
 (.seq (.reg [(none, .mv 2 .copy (.k (N 2)))])
 .ret)
 (.seq (.reg [(none, .mv 18 .copy (.t 0)),
 (none, .call .no (some 19) (.k (.fn n_spec_l2Box [])) [(.t 18)]),
 (none, .mv 17 .copy (.t 19))])
 (.cond (.t 17)
 (.seq (.reg [(none, .mv 2 .copy (.k (N 1)))])
 .ret)
 .skip)))))))
 (.seq (.reg [(none, .mv 2 .copy (.k (N (-1))))])
 .ret)))
theorem c_spec_l2Kids : codeOf Try.prog n_spec_l2Kids m_spec_l2Kids = some (k_spec_l2Kids, [.tmp 2], 20) := by kernel_rfl

/- loop.example/g03111/impl.parts -/
def m_impl_parts : List (Nat × List Md) := [(5, [.take, .copy, .copy, .copy, .copy, .copy, .copy, .copy, .take]), (7, [.take, .take])]
def k_impl_parts : C := (.seq (.reg [(none, .mv 2 .copy (.k (.sl true true 1 [])))])
 (.seq (.reg [(none, .mv 3 .copy (.k (.sl true true 1 [])))])
 (.seq (.seq (.reg [(none, .mv 4 .copy (.k (N 1)))])
 (.block 0 (.loop (.seq (.seq (.reg [(none, .mv 6 .copy (.t 4)),
 (none, .mv 7 .copy (.t 0)),
 (none, .len 8 (.t 7)),
 (none, .bin 9 .num .lss (.t 6) (.t 8))])
 (.cond (.t 9)
 .skip
 (.exit 0)))
 (.block 1 (.seq (.reg [(none, .mv 10 .copy (.t 0)),
 (none, .mv 11 .copy (.t 4)),
 (none, .call .no (some 12) (.k (.fn n_impl_typeEnd [])) [(.t 10), (.t 11)]),
 (none, .mv 5 .copy (.t 12))])
 (.seq (.reg [(none, .mv 13 .take (.t 3)),
 (none, .mv 14 .copy (.t 0)),
 (none, .mv 15 .copy (.t 4)),
 (none, .mv 16 .copy (.t 5)),
 (none, .mv 17 .copy (.t 5)),
 (none, .slice 18 1 (.t 14) (some (.t 15)) (some (.t 16)) (some (.t 17))),
 (none, .bslice 19 1 1 [(.sl true true 1 [])] [(0, 1, (.t 18))]),
 (none, .append 20 1 (.t 13) (.t 19)),
 (none, .mv 3 .take (.t 20))])
 (.reg [(none, .mv 21 .copy (.t 5)),
 (none, .mv 4 .copy (.t 21))]))))))))
 (.seq (.reg [(none, .mv 22 .take (.t 3)),
 (none, .mv 2 .take (.t 22))])
 .ret))))
theorem c_impl_parts : codeOf Try.prog n_impl_parts m_impl_parts = some (k_impl_parts, [.tmp 2], 23) := by kernel_rfl

/- slices.Concat[[]int,int] -/
def m_slices_Concat___int_int_ : List (Nat × List Md) := [(4, [.copy, .copy, .take]), (5, [.copy, .take]), (9, [.copy, .copy, .take]), (10, [.take]), (12, [.copy, .copy, .take]), (13, [.take, .take, .copy, .take]), (15, [.take, .take])]
def k_slices_Concat___int_int_ : C := (.seq (.reg [(none, .mv 2 .copy (.k (.sl true true 1 [])))])
 (.seq (.reg [(none, .mv 3 .copy (.k (N 0)))])
 (.seq (.seq (.reg [(none, .mv 9 .copy (.t 0)),
 (none, .len 10 (.t 9)),
 (none, .mv 11 .copy (.k (N 0)))])
 (.block 0 (.loop (.seq (.reg [(none, .bin 12 .num .lss (.t 11) (.t 10))])
 (.seq (.cond (.t 12)
 .skip
 (.exit 0))
 (.seq (.block 1 (.seq (.reg [(none, .indexA 13 1 (.t 9) (.t 11)),
 (none, .load 14 .copy false 1 (.t 13)),
 (none, .mv 5 .take (.t 14))])
 (.seq (.reg [(none, .mv 15 .copy (.t 3)),
 (none, .mv 16 .take (.t 5)),
 (none, .len 17 (.t 16)),
 (none, .bin 18 .num .add (.t 15) (.t 17)),
 (none, .mv 3 .copy (.t 18))])
 (.seq (.reg [(none, .mv 19 .copy (.t 3)),
 (none, .bin 20 .num .lss (.t 19) (.k (N 0)))])
 (.cond (.t 20)
 (.reg [(none, .bad (some 21)),
 (none, .bad none)])
 .skip)))))
 (.reg [(none, .bin 22 .num .add (.t 11) (.k (N 1))),
 (none, .mv 11 .copy (.t 22))])))))))
 (.seq (.reg [(none, .mv 23 .copy (.t 3)),
 (none, .call .no (some 24) (.k (.fn n_slices_Grow___int_int_ [])) [(.k (.sl true true 1 [])), (.t 23)]),
 (none, .mv 6 .take (.t 24))])
 (.seq (.seq (.reg [(none, .mv 25 .take (.t 0)),
 (none, .len 26 (.t 25)),
 (none, .mv 27 .copy (.k (N 0)))])
 (.block 2 (.loop (.seq (.reg [(none, .bin 28 .num .lss (.t 27) (.t 26))])
 (.seq (.cond (.t 28)
 .skip
 (.exit 2))
 (.seq (.block 3 (.seq (.reg [(none, .indexA 29 1 (.t 25) (.t 27)),
 (none, .load 30 .copy false 1 (.t 29)),
 (none, .mv 8 .take (.t 30))])
 (.reg [(none, .mv 31 .take (.t 6)),
 (none, .mv 32 .take (.t 8)),
 (none, .append 33 1 (.t 31) (.t 32)),
 (none, .mv 6 .take (.t 33))])))
 (.reg [(none, .bin 34 .num .add (.t 27) (.k (N 1))),
 (none, .mv 27 .copy (.t 34))])))))))
 (.seq (.reg [(none, .mv 35 .take (.t 6)),
 (none, .mv 2 .take (.t 35))])
 .ret))))))
theorem c_slices_Concat___int_int_ : codeOf Try.prog n_slices_Concat___int_int_ m_slices_Concat___int_int_ = some (k_slices_Concat___int_int_, [.tmp 2], 36) := by kernel_rfl

/- loop.example/g03111/spec.l1Numbers -/
def m_spec_l1Numbers : List (Nat × List Md) := [(13, [.copy, .frz]), (14, [.copy, .frz]), (15, [.copy, .frz]), (16, [.frz])]
def k_spec_l1Numbers : C := (.seq (.reg [(none, .alloc 4 [(N 0), (.sl true true 1 []), (.sl true true 1 []), (.sl true true 1 [])])])
 (.seq (.seq (.reg [(none, .mv 11 .copy (.t 0)),
 (none, .call .no (some 12) (.k (.fn n_spec_l1In [])) [(.t 11), (.k (N 1)), (.k (N 14))]),
 (none, .un 13 .not (.t 12))])
 (.cond (.t 13)
 (.seq (.reg [(none, .build 14 [(N 0), (.sl true true 1 []), (.sl true true 1 []), (.sl true true 1 [])] []),
 (none, .store 4 (.t 4) (.t 14))])
 .ret)
 .skip))
 (.seq (.reg [(none, .mv 15 .copy (.t 0)),
 (none, .bin 16 .num .add (.t 15) (.k (N 2))),
 (none, .build 17 [(N 0), (.sl true true 1 []), (.sl true true 1 []), (.sl true true 1 [])] [(0, 1, (.t 16))]),
 (none, .alloc 5 [(N 0), (.sl true true 1 []), (.sl true true 1 []), (.sl true true 1 [])]),
 (none, .store 4 (.t 5) (.t 17))])
 (.seq (.reg [(none, .mv 18 .copy (.t 0)),
 (none, .bin 19 .num .add (.t 18) (.k (N 1))),
 (none, .mv 6 .copy (.t 19))])
 (.seq (.seq (.reg [(none, .mv 7 .copy (.k (N 0)))])
 (.block 0 (.loop (.seq (.seq (.reg [(none, .mv 20 .copy (.t 7)),
 (none, .mv 21 .copy (.t 6)),
 (none, .bin 22 .num .leq (.t 20) (.t 21))])
 (.cond (.t 22)
 .skip
 (.exit 0)))
 (.seq (.block 1 (.seq (.reg [(none, .mv 8 .copy (.k (N 0)))])
 (.block 2 (.loop (.seq (.seq (.reg [(none, .mv 25 .copy (.t 8)),
 (none, .mv 26 .copy (.t 6)),
 (none, .bin 27 .num .leq (.t 25) (.t 26))])
 (.cond (.t 27)
 .skip
 (.exit 2)))
 (.seq (.block 3 (.seq (.reg [(none, .mv 30 .copy (.t 7)),
 (none, .mv 31 .copy (.t 8)),
 (none, .bin 32 .num .add (.t 30) (.t 31)),
 (none, .mv 33 .copy (.t 6)),
 (none, .call .no (some 34) (.k (.fn n_spec_l1Min [])) [(.t 32), (.t 33)]),
 (none, .mv 9 .copy (.t 34))])
 (.seq (.reg [(none, .mv 35 .copy (.t 7)),
 (none, .mv 36 .copy (.t 8)),
 (none, .bin 37 .num .mul (.t 35) (.t 36)),
 (none, .mv 38 .copy (.t 6)),
 (none, .call .no (some 39) (.k (.fn n_spec_l1Min [])) [(.t 37), (.t 38)]),
 (none, .mv 10 .copy (.t 39))])
 (.seq (.reg [(none, .fieldA 40 1 (.t 5)),
 (none, .load 41 .frz false 1 (.t 40)),
 (none, .mv 42 .copy (.t 9)),
 (none, .bslice 43 1 1 [(N 0)] [(0, 1, (.t 42))]),
 (none, .append 44 1 (.t 41) (.t 43)),
 (none, .fieldA 45 1 (.t 5)),
 (none, .store 1 (.t 45) (.t 44))])
 (.seq (.reg [(none, .fieldA 46 2 (.t 5)),
 (none, .load 47 .frz false 1 (.t 46)),
 (none, .mv 48 .copy (.t 10)),
 (none, .bslice 49 1 1 [(N 0)] [(0, 1, (.t 48))]),
 (none, .append 50 1 (.t 47) (.t 49)),
 (none, .fieldA 51 2 (.t 5)),
 (none, .store 1 (.t 51) (.t 50))])
 (.reg [(none, .fieldA 52 3 (.t 5)),
 (none, .load 53 .frz false 1 (.t 52)),
 (none, .mv 54 .copy (.t 7)),
 (none, .mv 55 .copy (.t 8)),
 (none, .bin 56 .num .eql (.t 54) (.t 55)),
 (none, .mv 57 .copy (.t 56)),
 (some (57, false), .mv 58 .copy (.t 8)),
 (some (57, false), .mv 59 .copy (.t 6)),
 (some (57, false), .bin 60 .num .eql (.t 58) (.t 59)),
 (none, .pick 61 (.t 57) (.k (.sc (.bool true))) (.t 60)),
 (none, .mv 62 .copy (.t 61)),
 (some (62, false), .mv 63 .copy (.t 1)),
 (some (62, false), .mv 64 .copy (.t 63)),
 (some (64, true), .mv 65 .copy (.t 7)),
 (some (64, true), .mv 66 .copy (.t 8)),
 (some (64, true), .bin 67 .num .leq (.t 65) (.t 66)),
 (some (62, false), .pick 68 (.t 64) (.t 67) (.k (.sc (.bool false)))),
 (none, .pick 69 (.t 62) (.k (.sc (.bool true))) (.t 68)),
 (none, .bslice 70 1 1 [(.sc (.bool false))] [(0, 1, (.t 69))]),
 (none, .append 71 1 (.t 53) (.t 70)),
 (none, .fieldA 72 3 (.t 5)),
 (none, .store 1 (.t 72) (.t 71))]))))))
 (.reg [(none, .mv 28 .copy (.t 8)),
 (none, .bin 29 .num .add (.t 28) (.k (N 1))),
 (none, .mv 8 .copy (.t 29))])))))))
 (.reg [(none, .mv 23 .copy (.t 7)),
 (none, .bin 24 .num .add (.t 23) (.k (N 1))),
 (none, .mv 7 .copy (.t 24))]))))))
 (.seq (.reg [(none, .load 73 .frz true 4 (.t 5)),
 (none, .store 4 (.t 4) (.t 73))])
 .ret))))))
theorem c_spec_l1Numbers : codeOf Try.prog n_spec_l1Numbers m_spec_l1Numbers = some (k_spec_l1Numbers, [.cell 4 true 4], 74) := by kernel_rfl

/- loop.example/g03111/impl.counted -/
def m_impl_counted : List (Nat × List Md) := [(2, [.copy, .take]), (3, [.copy, .take]), (4, [.copy, .copy, .take, .take, .take]), (1000002, [.copy, .copy, .copy, .copy, .copy, .frz])]
def k_impl_counted : C := (.seq (.reg [(none, .alloc 4 [(N 0), (.sl true true 1 []), (.sl true true 1 []), (.sl true true 1 [])])])
 (.seq (.reg [(none, .mv 8 .copy (.t 0)),
 (none, .bin 9 .num .add (.t 8) (.k (N 1))),
 (none, .alloc 5 [(N 0)]),
 (none, .store 1 (.t 5) (.t 9))])
 (.seq (.seq (.frz 5)
 (.reg [(none, .mkfn 10 n_impl_counted_1 false [(.t 5)]),
 (none, .mv 6 .take (.t 10))]))
 (.seq (.reg [(none, .mkfn 11 n_impl_counted_2 false [(.t 5)]),
 (none, .mv 7 .take (.t 11))])
 (.seq (.reg [(none, .mv 12 .copy (.t 0)),
 (none, .bin 13 .num .add (.t 12) (.k (N 2))),
 (none, .mv 14 .take (.t 6)),
 (none, .mv 15 .take (.t 7)),
 (none, .mv 16 .take (.t 1)),
 (none, .call .no (some 17) (.k (.fn n_impl_tabled [])) [(.t 13), (.t 14), (.t 15), (.t 16)]),
 (none, .store 4 (.t 4) (.t 17))])
 .ret)))))
theorem c_impl_counted : codeOf Try.prog n_impl_counted m_impl_counted = some (k_impl_counted, [.cell 4 true 4], 18) := by kernel_rfl

/- loop.example/g03111/impl.CountSystem$1 -/
def m_impl_CountSystem_1 : List (Nat × List Md) := []
def k_impl_CountSystem_1 : C := (.seq (.reg [(none, .mv 5 .copy (.k (.sc (.bool false))))])
 (.seq (.reg [(none, .mv 6 .copy (.t 0)),
 (none, .mv 7 .copy (.t 1)),
 (none, .bin 8 .num .eql (.t 6) (.t 7)),
 (none, .mv 9 .copy (.t 8)),
 (some (9, false), .mv 10 .copy (.t 1)),
 (some (9, false), .load 11 .copy false 1 (.t 2)),
 (some (9, false), .bin 12 .num .add (.t 11) (.k (N 1))),
 (some (9, false), .bin 13 .num .eql (.t 10) (.t 12)),
 (none, .pick 14 (.t 9) (.k (.sc (.bool true))) (.t 13)),
 (none, .mv 5 .copy (.t 14))])
 .ret))
theorem c_impl_CountSystem_1 : codeOf Try.prog n_impl_CountSystem_1 m_impl_CountSystem_1 = some (k_impl_CountSystem_1, [.tmp 5], 15) := by kernel_rfl

/- loop.example/g03111/laws.eqBoolS -/
def m_laws_eqBoolS : List (Nat × List Md) := []
def k_laws_eqBoolS : C := (.seq (.reg [(none, .mv 4 .copy (.k (.sc (.bool false))))])
 (.seq (.seq (.reg [(none, .mv 6 .copy (.t 0)),
 (none, .len 7 (.t 6)),
 (none, .mv 8 .copy (.t 1)),
 (none, .len 9 (.t 8)),
 (none, .bin 10 .num .neq (.t 7) (.t 9))])
 (.cond (.t 10)
 (.seq (.reg [(none, .mv 4 .copy (.k (.sc (.bool false))))])
 .ret)
 .skip))
 (.seq (.seq (.reg [(none, .mv 5 .copy (.k (N 0)))])
 (.block 0 (.loop (.seq (.seq (.reg [(none, .mv 11 .copy (.t 5)),
 (none, .mv 12 .copy (.t 0)),
 (none, .len 13 (.t 12)),
 (none, .bin 14 .num .lss (.t 11) (.t 13))])
 (.cond (.t 14)
 .skip
 (.exit 0)))
 (.seq (.block 1 (.seq (.reg [(none, .mv 17 .copy (.t 0)),
 (none, .mv 18 .copy (.t 5)),
 (none, .indexA 19 1 (.t 17) (.t 18)),
 (none, .load 20 .copy false 1 (.t 19)),
 (none, .mv 21 .copy (.t 1)),
 (none, .mv 22 .copy (.t 5)),
 (none, .indexA 23 1 (.t 21) (.t 22)),
 (none, .load 24 .copy false 1 (.t 23)),
 (none, .bin 25 .bool .neq (.t 20) (.t 24))])
 (.cond (.t 25)
 (.seq (.reg [(none, .mv 4 .copy (.k (.sc (.bool false))))])
 .ret)
 .skip)))
 (.reg [(none, .mv 15 .copy (.t 5)),
 (none, .bin 16 .num .add (.t 15) (.k (N 1))),
 (none, .mv 5 .copy (.t 16))]))))))
 (.seq (.reg [(none, .mv 4 .copy (.k (.sc (.bool true))))])
 .ret))))
theorem c_laws_eqBoolS : codeOf Try.prog n_laws_eqBoolS m_laws_eqBoolS = some (k_laws_eqBoolS, [.tmp 4], 26) := by kernel_rfl

/- loop.example/g03111/laws.eqTermS -/
def m_laws_eqTermS : List (Nat × List Md) := []
def k_laws_eqTermS : C := (.seq (.reg [(none, .mv 4 .copy (.k (.sc (.bool false))))])
 (.seq (.seq (.reg [(none, .mv 6 .copy (.t 0)),
 (none, .len 7 (.t 6)),
 (none, .mv 8 .copy (.t 1)),
 (none, .len 9 (.t 8)),
 (none, .bin 10 .num .neq (.t 7) (.t 9))])
 (.cond (.t 10)
 (.seq (.reg [(none, .mv 4 .copy (.k (.sc (.bool false))))])
 .ret)
 .skip))
 (.seq (.seq (.reg [(none, .mv 5 .copy (.k (N 0)))])
 (.block 0 (.loop (.seq (.seq (.reg [(none, .mv 11 .copy (.t 5)),
 (none, .mv 12 .copy (.t 0)),
 (none, .len 13 (.t 12)),
 (none, .bin 14 .num .lss (.t 11) (.t 13))])
 (.cond (.t 14)
 .skip
 (.exit 0)))
 (.seq (.block 1 (.seq (.reg [(none, .mv 17 .copy (.t 0)),
 (none, .mv 18 .copy (.t 5)),
 (none, .indexA 19 4 (.t 17) (.t 18)),
 (none, .load 20 .copy true 4 (.t 19)),
 (none, .mv 21 .copy (.t 1)),
 (none, .mv 22 .copy (.t 5)),
 (none, .indexA 23 4 (.t 21) (.t 22)),
 (none, .load 24 .copy true 4 (.t 23)),
 (none, .call .no (some 25) (.k (.fn n_laws_eqTerm [])) [(.t 20), (.t 24)]),
 (none, .un 26 .not (.t 25))])
 (.cond (.t 26)
 (.seq (.reg [(none, .mv 4 .copy (.k (.sc (.bool false))))])
 .ret)
 .skip)))
 (.reg [(none, .mv 15 .copy (.t 5)),
 (none, .bin 16 .num .add (.t 15) (.k (N 1))),
 (none, .mv 5 .copy (.t 16))]))))))
 (.seq (.reg [(none, .mv 4 .copy (.k (.sc (.bool true))))])
 .ret))))
theorem c_laws_eqTermS : codeOf Try.prog n_laws_eqTermS m_laws_eqTermS = some (k_laws_eqTermS, [.tmp 4], 27) := by kernel_rfl

/- loop.example/g03111/laws.markBoolS -/
def m_laws_markBoolS : List (Nat × List Md) := []
def k_laws_markBoolS : C := (.seq (.reg [(none, .mv 4 .copy (.k (N 0)))])
 (.seq (.seq (.reg [(none, .mv 5 .copy (.k (N 0)))])
 (.block 0 (.loop (.seq (.seq (.reg [(none, .mv 6 .copy (.t 5)),
 (none, .mv 7 .copy (.t 0)),
 (none, .len 8 (.t 7)),
 (none, .bin 9 .num .lss (.t 6) (.t 8))])
 (.cond (.t 9)
 .skip
 (.exit 0)))
 (.seq (.block 1 (.seq (.reg [(none, .mv 12 .copy (.t 0)),
 (none, .mv 13 .copy (.t 5)),
 (none, .mv 14 .copy (.t 1)),
 (none, .bin 15 .num .rem (.t 14) (.k (N 3))),
 (none, .bin 16 .num .eql (.t 15) (.k (N 0))),
 (none, .indexA 17 1 (.t 12) (.t 13)),
 (none, .store 1 (.t 17) (.t 16))])
 (.reg [(none, .mv 18 .copy (.t 1)),
 (none, .bin 19 .num .add (.t 18) (.k (N 1))),
 (none, .mv 1 .copy (.t 19))])))
 (.reg [(none, .mv 10 .copy (.t 5)),
 (none, .bin 11 .num .add (.t 10) (.k (N 1))),
 (none, .mv 5 .copy (.t 11))]))))))
 (.seq (.reg [(none, .mv 20 .copy (.t 1)),
 (none, .mv 4 .copy (.t 20))])
 .ret)))
theorem c_laws_markBoolS : codeOf Try.prog n_laws_markBoolS m_laws_markBoolS = some (k_laws_markBoolS, [.tmp 4], 21) := by kernel_rfl

/- loop.example/g03111/laws.markTermS -/
def m_laws_markTermS : List (Nat × List Md) := [(8, [.copy, .copy, .copy, .copy, .copy, .copy, .take]), (9, [.copy, .copy, .copy, .copy, .copy, .copy, .take])]
def k_laws_markTermS : C := (.seq (.reg [(none, .mv 4 .copy (.k (N 0)))])
 (.seq (.seq (.reg [(none, .mv 5 .copy (.k (N 0)))])
 (.block 0 (.loop (.seq (.seq (.reg [(none, .mv 6 .copy (.t 5)),
 (none, .mv 7 .copy (.t 0)),
 (none, .len 8 (.t 7)),
 (none, .bin 9 .num .lss (.t 6) (.t 8))])
 (.cond (.t 9)
 .skip
 (.exit 0)))
 (.seq (.block 1 (.seq (.reg [(none, .mv 12 .copy (.t 0)),
 (none, .mv 13 .copy (.t 5)),
 (none, .mv 14 .copy (.t 1)),
 (none, .indexA 15 4 (.t 12) (.t 13)),
 (none, .fieldA 16 0 (.t 15)),
 (none, .store 1 (.t 16) (.t 14))])
 (.seq (.reg [(none, .mv 17 .copy (.t 1)),
 (none, .bin 18 .num .add (.t 17) (.k (N 1))),
 (none, .mv 1 .copy (.t 18))])
 (.seq (.reg [(none, .mv 19 .copy (.t 0)),
 (none, .mv 20 .copy (.t 5)),
 (none, .mv 21 .copy (.t 1)),
 (none, .indexA 22 4 (.t 19) (.t 20)),
 (none, .fieldA 23 1 (.t 22)),
 (none, .store 1 (.t 23) (.t 21))])
 (.seq (.reg [(none, .mv 24 .copy (.t 1)),
 (none, .bin 25 .num .add (.t 24) (.k (N 1))),
 (none, .mv 1 .copy (.t 25))])
 (.seq (.reg [(none, .mv 26 .copy (.t 0)),
 (none, .mv 27 .copy (.t 5)),
 (none, .indexA 28 4 (.t 26) (.t 27)),
 (none, .fieldA 29 2 (.t 28)),
 (none, .load 30 .copy false 1 (.t 29)),
 (none, .mv 31 .copy (.t 1)),
 (none, .call .any (some 32) (.k (.fn n_laws_markIntS [])) [(.t 30), (.t 31)]),
 (none, .mv 1 .copy (.t 32))])
 (.reg [(none, .mv 33 .copy (.t 0)),
 (none, .mv 34 .copy (.t 5)),
 (none, .indexA 35 4 (.t 33) (.t 34)),
 (none, .fieldA 36 3 (.t 35)),
 (none, .load 37 .copy false 1 (.t 36)),
 (none, .mv 38 .copy (.t 1)),
 (none, .call .any (some 39) (.k (.fn n_laws_markTermS [])) [(.t 37), (.t 38)]),
 (none, .mv 1 .copy (.t 39))])))))))
 (.reg [(none, .mv 10 .copy (.t 5)),
 (none, .bin 11 .num .add (.t 10) (.k (N 1))),
 (none, .mv 5 .copy (.t 11))]))))))
 (.seq (.reg [(none, .mv 40 .copy (.t 1)),
 (none, .mv 4 .copy (.t 40))])
 .ret)))
theorem c_laws_markTermS : codeOf Try.prog n_laws_markTermS m_laws_markTermS = some (k_laws_markTermS, [.tmp 4], 41) := by kernel_rfl

/- loop.example/g03111/laws.heldBoolS -/
def m_laws_heldBoolS : List (Nat × List Md) := []
def k_laws_heldBoolS : C := (.seq (.reg [(none, .mv 4 .copy (.k (N 0)))])
 (.seq (.seq (.reg [(none, .mv 5 .copy (.k (N 0)))])
 (.block 0 (.loop (.seq (.seq (.reg [(none, .mv 6 .copy (.t 5)),
 (none, .mv 7 .copy (.t 0)),
 (none, .len 8 (.t 7)),
 (none, .bin 9 .num .lss (.t 6) (.t 8))])
 (.cond (.t 9)
 .skip
 (.exit 0)))
 (.seq (.block 1 (.seq (.seq (.reg [(none, .mv 12 .copy (.t 0)),
 (none, .mv 13 .copy (.t 5)),
 (none, .indexA 14 1 (.t 12) (.t 13)),
 (none, .load 15 .copy false 1 (.t 14)),
 (none, .mv 16 .copy (.t 1)),
 (none, .bin 17 .num .rem (.t 16) (.k (N 3))),
 (none, .bin 18 .num .eql (.t 17) (.k (N 0))),
 (none, .bin 19 .bool .neq (.t 15) (.t 18))])
 (.cond (.t 19)
 (.seq (.reg [(none, .mv 4 .copy (.k (N (-1))))])
 .ret)
 .skip))
 (.reg [(none, .mv 20 .copy (.t 1)),
 (none, .bin 21 .num .add (.t 20) (.k (N 1))),
 (none, .mv 1 .copy (.t 21))])))
 (.reg [(none, .mv 10 .copy (.t 5)),
 (none, .bin 11 .num .add (.t 10) (.k (N 1))),
 (none, .mv 5 .copy (.t 11))]))))))
 (.seq (.reg [(none, .mv 22 .copy (.t 1)),
 (none, .mv 4 .copy (.t 22))])
 .ret)))
theorem c_laws_heldBoolS : codeOf Try.prog n_laws_heldBoolS m_laws_heldBoolS = some (k_laws_heldBoolS, [.tmp 4], 23) := by kernel_rfl

/- loop.example/g03111/laws.heldTermS -/
def m_laws_heldTermS : List (Nat × List Md) := []
def k_laws_heldTermS : C := (.seq (.reg [(none, .mv 4 .copy (.k (N 0)))])
 (.seq (.seq (.reg [(none, .mv 5 .copy (.k (N 0)))])
 (.block 0 (.loop (.seq (.seq (.reg [(none, .mv 6 .copy (.t 5)),
 (none, .mv 7 .copy (.t 0)),
 (none, .len 8 (.t 7)),
 (none, .bin 9 .num .lss (.t 6) (.t 8))])
 (.cond (.t 9)
 .skip
 (.exit 0)))
 (.seq (.block 1 (.seq (.seq (.reg [(none, .mv 12 .copy (.t 0)),
 (none, .mv 13 .copy (.t 5)),
 (none, .indexA 14 4 (.t 12) (.t 13)),
 (none, .fieldA 15 0 (.t 14)),
 (none, .load 16 .copy false 1 (.t 15)),
 (none, .mv 17 .copy (.t 1)),
 (none, .bin 18 .num .neq (.t 16) (.t 17))])
 (.cond (.t 18)
 (.seq (.reg [(none, .mv 4 .copy (.k (N (-1))))])
 .ret)
 .skip))
 (.seq (.reg [(none, .mv 19 .copy (.t 1)),
 (none, .bin 20 .num .add (.t 19) (.k (N 1))),
 (none, .mv 1 .copy (.t 20))])
 (.seq (.seq (.reg [(none, .mv 21 .copy (.t 0)),
 (none, .mv 22 .copy (.t 5)),
 (none, .indexA 23 4 (.t 21) (.t 22)),
 (none, .fieldA 24 1 (.t 23)),
 (none, .load 25 .copy false 1 (.t 24)),
 (none, .mv 26 .copy (.t 1)),
 (none, .bin 27 .num .neq (.t 25) (.t 26))])
 (.cond (.t 27)
 (.seq (.reg [(none, .mv 4 .copy (.k (N (-1))))])
 .ret)
 .skip))
 (.seq (.reg [(none, .mv 28 .copy (.t 1)),
 (none, .bin 29 .num .add (.t 28) (.k (N 1))),
 (none, .mv 1 .copy (.t 29))])
 (.seq (.reg [(none, .mv 30 .copy (.t 0)),
 (none, .mv 31 .copy (.t 5)),
 (none, .indexA 32 4 (.t 30) (.t 31)),
 (none, .fieldA 33 2 (.t 32)),
 (none, .load 34 .copy false 1 (.t 33)),
 (none, .mv 35 .copy (.t 1)),
 (none, .call .no (some 36) (.k (.fn n_laws_heldIntS [])) [(.t 34), (.t 35)]),
 (none, .mv 1 .copy (.t 36))])
 (.seq (.seq (.reg [(none, .mv 37 .copy (.t 1)),
 (none, .bin 38 .num .lss (.t 37) (.k (N 0)))])
 (.cond (.t 38)
 (.seq (.reg [(none, .mv 4 .copy (.k (N (-1))))])
 .ret)
 .skip))
 (.seq (.reg [(none, .mv 39 .copy (.t 0)),
 (none, .mv 40 .copy (.t 5)),
 (none, .indexA 41 4 (.t 39) (.t 40)),
 (none, .fieldA 42 3 (.t 41)),
 (none, .load 43 .copy false 1 (.t 42)),
 (none, .mv 44 .copy (.t 1)),
 (none, .call .no (some 45) (.k (.fn n_laws_heldTermS [])) [(.t 43), (.t 44)]),
 (none, .mv 1 .copy (.t 45))])
 (.seq (.reg [(none, .mv 46 .copy (.t 1)),
 (none, .bin 47 .num .lss (.t 46) (.k (N 0)))])
 (.cond (.t 47)
 (.seq (.reg [(none, .mv 4 .copy (.k (N (-1))))])
 .ret)
 .skip))))))))))
 (.reg [(none, .mv 10 .copy (.t 5)),
 (none, .bin 11 .num .add (.t 10) (.k (N 1))),
 (none, .mv 5 .copy (.t 11))]))))))
 (.seq (.reg [(none, .mv 48 .copy (.t 1)),
 (none, .mv 4 .copy (.t 48))])
 .ret)))
theorem c_laws_heldTermS : codeOf Try.prog n_laws_heldTermS m_laws_heldTermS = some (k_laws_heldTermS, [.tmp 4], 49) := by kernel_rfl

/- loop.example/g03111/spec.dType -/
def m_spec_dType : List (Nat × List Md) := [(1, [.copy, .frz]), (3, [.copy, .take]), (4, [.copy, .take, .copy, .copy, .copy, .frz, .take]), (6, [.take, .copy, .take, .frz, .copy, .take, .copy, .copy, .take]), (8, [.copy, .copy, .take, .frz, .copy, .take, .copy, .take, .copy, .copy, .copy, .frz, .copy, .copy, .take]), (10, [.take, .take, .take, .copy, .copy, .copy, .frz, .copy, .copy, .take]), (11, [.take, .take, .take, .copy, .copy, .copy, .frz, .copy, .copy, .take]), (1000001, [.copy, .copy, .copy, .copy, .copy, .frz])]
def k_spec_dType : C := (.seq (.reg [(none, .box 5 (.t 1)),
 (none, .mv 8 .copy (.k (.sl true true 1 [])))])
 (.seq (.seq (.frz 5)
 (.reg [(none, .mv 11 .copy (.t 0)),
 (none, .call .fr (some 12) (.k (.fn n_spec_l1Below [])) [(.t 11), (.k (N 6))]),
 (none, .mv 9 .copy (.t 12))]))
 (.seq (.seq (.reg [(none, .mv 13 .copy (.t 2)),
 (none, .bin 14 .num .leq (.t 13) (.k (N 0))),
 (none, .mv 15 .copy (.t 14)),
 (some (15, false), .mv 16 .copy (.t 9)),
 (some (15, false), .bin 17 .num .lss (.t 16) (.k (N 2))),
 (none, .pick 18 (.t 15) (.k (.sc (.bool true))) (.t 17))])
 (.cond (.t 18)
 (.seq (.reg [(none, .bslice 19 1 1 [(N 0)] [(0, 1, (.k (N 0)))]),
 (none, .mv 8 .take (.t 19))])
 .ret)
 .skip))
 (.seq (.reg [(none, .mv 20 .copy (.t 0)),
 (none, .load 21 .take true 4 (.t 5)),
 (none, .mv 22 .copy (.t 2)),
 (none, .bin 23 .num .sub (.t 22) (.k (N 1))),
 (none, .mv 24 .copy (.t 3)),
 (none, .call .fr (some 25) (.k (.fn n_spec_dType [])) [(.t 20), (.t 21), (.t 23), (.t 24)]),
 (none, .mv 10 .take (.t 25))])
 (.seq (.block 0 (.seq (.reg [(none, .mv 27 .copy (.t 9)),
 (none, .bin 28 .num .eql (.t 27) (.k (N 2))),
 (none, .mv 26 .copy (.t 28))])
 (.cond (.t 26)
 (.seq (.reg [(none, .mv 29 .take (.t 0)),
 (none, .fieldA 30 0 (.t 5)),
 (none, .load 31 .take false 1 (.t 30)),
 (none, .call .fr (some 32) (.k (.fn n_spec_l1Below [])) [(.t 29), (.t 31)]),
 (none, .bin 33 .num .add (.k (N 19)) (.t 32)),
 (none, .mv 34 .take (.t 10)),
 (none, .bslice 35 1 1 [(.sl true true 1 [])] [(0, 1, (.t 34))]),
 (none, .call .no (some 36) (.k (.fn n_spec_l3Glue [])) [(.t 33), (.t 35)]),
 (none, .mv 8 .take (.t 36))])
 .ret)
 (.seq (.reg [(none, .mv 38 .copy (.t 9)),
 (none, .bin 39 .num .eql (.t 38) (.k (N 3))),
 (none, .mv 40 .copy (.t 39)),
 (some (40, true), .mv 41 .copy (.t 3)),
 (some (40, true), .un 42 .not (.t 41)),
 (none, .pick 43 (.t 40) (.t 42) (.k (.sc (.bool false)))),
 (none, .mv 37 .copy (.t 43))])
 (.cond (.t 37)
 (.seq (.reg [(none, .mv 44 .copy (.t 0)),
 (none, .fieldA 45 0 (.t 5)),
 (none, .load 46 .take false 1 (.t 45)),
 (none, .call .fr (some 47) (.k (.fn n_spec_l1Below [])) [(.t 44), (.t 46)]),
 (none, .bin 48 .num .add (.k (N 3)) (.t 47)),
 (none, .mv 49 .take (.t 10)),
 (none, .mv 50 .copy (.t 0)),
 (none, .load 51 .take true 4 (.t 5)),
 (none, .mv 52 .copy (.t 2)),
 (none, .bin 53 .num .sub (.t 52) (.k (N 1))),
 (none, .mv 54 .copy (.t 3)),
 (none, .call .fr (some 55) (.k (.fn n_spec_dType [])) [(.t 50), (.t 51), (.t 53), (.t 54)]),
 (none, .bslice 56 1 2 [(.sl true true 1 []), (.sl true true 1 [])] [(0, 1, (.t 49)), (1, 1, (.t 55))]),
 (none, .call .no (some 57) (.k (.fn n_spec_l3Glue [])) [(.t 48), (.t 56)]),
 (none, .mv 8 .take (.t 57))])
 .ret)
 (.seq (.reg [(none, .mv 59 .copy (.t 9)),
 (none, .bin 60 .num .eql (.t 59) (.k (N 4))),
 (none, .mv 58 .copy (.t 60))])
 (.cond (.t 58)
 (.seq (.reg [(none, .mv 61 .take (.t 10)),
 (none, .mv 62 .take (.t 0)),
 (none, .load 63 .take true 4 (.t 5)),
 (none, .mv 64 .copy (.t 2)),
 (none, .bin 65 .num .sub (.t 64) (.k (N 1))),
 (none, .mv 66 .copy (.t 3)),
 (none, .call .fr (some 67) (.k (.fn n_spec_dType [])) [(.t 62), (.t 63), (.t 65), (.t 66)]),
 (none, .bslice 68 1 2 [(.sl true true 1 []), (.sl true true 1 [])] [(0, 1, (.t 61)), (1, 1, (.t 67))]),
 (none, .call .no (some 69) (.k (.fn n_spec_l3Glue [])) [(.k (N 2)), (.t 68)]),
 (none, .mv 8 .take (.t 69))])
 .ret)
 .skip)))))))
 (.seq (.reg [(none, .mv 70 .take (.t 10)),
 (none, .mv 71 .take (.t 0)),
 (none, .load 72 .take true 4 (.t 5)),
 (none, .mv 73 .copy (.t 2)),
 (none, .bin 74 .num .sub (.t 73) (.k (N 1))),
 (none, .mv 75 .copy (.t 3)),
 (none, .call .fr (some 76) (.k (.fn n_spec_dType [])) [(.t 71), (.t 72), (.t 74), (.t 75)]),
 (none, .bslice 77 1 2 [(.sl true true 1 []), (.sl true true 1 [])] [(0, 1, (.t 70)), (1, 1, (.t 76))]),
 (none, .call .no (some 78) (.k (.fn n_spec_l3Glue [])) [(.k (N 1)), (.t 77)]),
 (none, .mv 8 .take (.t 78))])
 .ret))))))
theorem c_spec_dType : codeOf Try.prog n_spec_dType m_spec_dType = some (k_spec_dType, [.tmp 8], 79) := by kernel_rfl

/- loop.example/g03111/spec.l1Below -/
def m_spec_l1Below : List (Nat × List Md) := [(4, [.take, .frz]), (5, [.copy, .frz]), (6, [.copy, .frz]), (7, [.copy, .frz]), (8, [.take, .frz])]
def k_spec_l1Below : C := (.seq (.reg [(none, .mv 4 .copy (.k (N 0)))])
 (.seq (.seq (.reg [(none, .mv 9 .copy (.t 1)),
 (none, .bin 10 .num .leq (.t 9) (.k (N 0)))])
 (.cond (.t 10)
 (.seq (.reg [(none, .mv 4 .copy (.k (N 0)))])
 .ret)
 .skip))
 (.seq (.seq (.reg [(none, .mv 11 .copy (.t 1)),
 (none, .bin 12 .num .leq (.t 11) (.k (N 256)))])
 (.cond (.t 12)
 (.seq (.reg [(none, .mv 13 .take (.t 0)),
 (none, .call .fr (some 14) (.k (.fn n_spec_l1Byte [])) [(.t 13)]),
 (none, .mv 15 .copy (.t 1)),
 (none, .bin 16 .num .rem (.t 14) (.t 15)),
 (none, .mv 4 .copy (.t 16))])
 .ret)
 .skip))
 (.seq (.reg [(none, .mv 17 .copy (.t 0)),
 (none, .call .fr (some 18) (.k (.fn n_spec_l1Byte [])) [(.t 17)]),
 (none, .mv 5 .copy (.t 18))])
 (.seq (.reg [(none, .mv 19 .copy (.t 0)),
 (none, .call .fr (some 20) (.k (.fn n_spec_l1Byte [])) [(.t 19)]),
 (none, .mv 6 .copy (.t 20))])
 (.seq (.reg [(none, .mv 21 .copy (.t 0)),
 (none, .call .fr (some 22) (.k (.fn n_spec_l1Byte [])) [(.t 21)]),
 (none, .mv 7 .copy (.t 22))])
 (.seq (.reg [(none, .mv 23 .take (.t 0)),
 (none, .call .fr (some 24) (.k (.fn n_spec_l1Byte [])) [(.t 23)]),
 (none, .mv 8 .copy (.t 24))])
 (.seq (.reg [(none, .mv 25 .copy (.t 5)),
 (none, .bin 26 .num .mul (.t 25) (.k (N 16777216))),
 (none, .mv 27 .copy (.t 6)),
 (none, .bin 28 .num .mul (.t 27) (.k (N 65536))),
 (none, .bin 29 .num .add (.t 26) (.t 28)),
 (none, .mv 30 .copy (.t 7)),
 (none, .bin 31 .num .mul (.t 30) (.k (N 256))),
 (none, .bin 32 .num .add (.t 29) (.t 31)),
 (none, .mv 33 .copy (.t 8)),
 (none, .bin 34 .num .add (.t 32) (.t 33)),
 (none, .mv 35 .copy (.t 1)),
 (none, .bin 36 .num .rem (.t 34) (.t 35)),
 (none, .mv 4 .copy (.t 36))])
 .ret))))))))
theorem c_spec_l1Below : codeOf Try.prog n_spec_l1Below m_spec_l1Below = some (k_spec_l1Below, [.tmp 4], 37) := by kernel_rfl

/- loop.example/g03111/spec.l3Glue -/
def m_spec_l3Glue : List (Nat × List Md) := [(1, [.copy, .copy, .take]), (5, [.take, .copy, .copy, .copy, .copy, .copy, .take]), (6, [.take, .take])]
def k_spec_l3Glue : C := (.seq (.reg [(none, .mv 4 .copy (.k (.sl true true 1 [])))])
 (.seq (.reg [(none, .mv 7 .copy (.t 0)),
 (none, .bslice 8 1 1 [(N 0)] [(0, 1, (.t 7))]),
 (none, .mv 5 .take (.t 8))])
 (.seq (.seq (.reg [(none, .mv 6 .copy (.k (N 0)))])
 (.block 0 (.loop (.seq (.seq (.reg [(none, .mv 9 .copy (.t 6)),
 (none, .mv 10 .copy (.t 1)),
 (none, .len 11 (.t 10)),
 (none, .bin 12 .num .lss (.t 9) (.t 11))])
 (.cond (.t 12)
 .skip
 (.exit 0)))
 (.seq (.block 1 (.reg [(none, .mv 15 .take (.t 5)),
 (none, .mv 16 .copy (.t 1)),
 (none, .mv 17 .copy (.t 6)),
 (none, .indexA 18 1 (.t 16) (.t 17)),
 (none, .load 19 .copy false 1 (.t 18)),
 (none, .append 20 1 (.t 15) (.t 19)),
 (none, .mv 5 .take (.t 20))]))
 (.reg [(none, .mv 13 .copy (.t 6)),
 (none, .bin 14 .num .add (.t 13) (.k (N 1))),
 (none, .mv 6 .copy (.t 14))]))))))
 (.seq (.reg [(none, .mv 21 .take (.t 5)),
 (none, .mv 4 .take (.t 21))])
 .ret))))
theorem c_spec_l3Glue : codeOf Try.prog n_spec_l3Glue m_spec_l3Glue = some (k_spec_l3Glue, [.tmp 4], 22) := by kernel_rfl

/- loop.example/g03111/spec.BoundSystem -/
def m_spec_BoundSystem : List (Nat × List Md) := []
def k_spec_BoundSystem : C := (.seq (.reg [(none, .alloc 2 [(N 0), (.sl true true 1 []), (.sl true true 1 []), (.sl true true 1 [])])])
 (.seq (.reg [(none, .mv 3 .copy (.t 0)),
 (none, .call .no (some 4) (.k (.fn n_spec_l1Numbers [])) [(.t 3), (.k (.sc (.bool true)))]),
 (none, .store 4 (.t 2) (.t 4))])
 .ret))
theorem c_spec_BoundSystem : codeOf Try.prog n_spec_BoundSystem m_spec_BoundSystem = some (k_spec_BoundSystem, [.cell 2 true 4], 5) := by kernel_rfl

/- loop.example/g03111/spec.LevelSystem -/
def m_spec_LevelSystem : List (Nat × List Md) := [(14, [.copy, .frz]), (15, [.copy, .frz]), (16, [.copy, .frz]), (17, [.frz])]
def k_spec_LevelSystem : C := (.seq (.reg [(none, .alloc 2 [(N 0), (.sl true true 1 []), (.sl true true 1 []), (.sl true true 1 [])])])
 (.seq (.seq (.reg [(none, .mv 10 .copy (.t 0)),
 (none, .call .no (some 11) (.k (.fn n_spec_l1In [])) [(.t 10), (.k (N 1)), (.k (N 15))]),
 (none, .un 12 .not (.t 11))])
 (.cond (.t 12)
 (.seq (.reg [(none, .build 13 [(N 0), (.sl true true 1 []), (.sl true true 1 []), (.sl true true 1 [])] []),
 (none, .store 4 (.t 2) (.t 13))])
 .ret)
 .skip))
 (.seq (.reg [(none, .mv 14 .copy (.t 0)),
 (none, .bin 15 .num .add (.t 14) (.k (N 1))),
 (none, .build 16 [(N 0), (.sl true true 1 []), (.sl true true 1 []), (.sl true true 1 [])] [(0, 1, (.t 15))]),
 (none, .alloc 3 [(N 0), (.sl true true 1 []), (.sl true true 1 []), (.sl true true 1 [])]),
 (none, .store 4 (.t 3) (.t 16))])
 (.seq (.seq (.reg [(none, .mv 4 .copy (.k (N 0)))])
 (.block 0 (.loop (.seq (.seq (.reg [(none, .mv 17 .copy (.t 4)),
 (none, .mv 18 .copy (.t 0)),
 (none, .bin 19 .num .leq (.t 17) (.t 18))])
 (.cond (.t 19)
 .skip
 (.exit 0)))
 (.seq (.block 1 (.seq (.reg [(none, .mv 5 .copy (.k (N 0)))])
 (.block 2 (.loop (.seq (.seq (.reg [(none, .mv 22 .copy (.t 5)),
 (none, .mv 23 .copy (.t 0)),
 (none, .bin 24 .num .leq (.t 22) (.t 23))])
 (.cond (.t 24)
 .skip
 (.exit 2)))
 (.seq (.block 3 (.seq (.reg [(none, .mv 27 .copy (.t 0)),
 (none, .bin 28 .num .add (.t 27) (.k (N 1))),
 (none, .mv 29 .copy (.t 4)),
 (none, .bin 30 .num .sub (.t 28) (.t 29)),
 (none, .mv 31 .copy (.t 0)),
 (none, .bin 32 .num .add (.t 31) (.k (N 1))),
 (none, .bin 33 .num .rem (.t 30) (.t 32)),
 (none, .mv 6 .copy (.t 33))])
 (.seq (.reg [(none, .mv 34 .copy (.t 0)),
 (none, .bin 35 .num .add (.t 34) (.k (N 1))),
 (none, .mv 36 .copy (.t 5)),
 (none, .bin 37 .num .sub (.t 35) (.t 36)),
 (none, .mv 38 .copy (.t 0)),
 (none, .bin 39 .num .add (.t 38) (.k (N 1))),
 (none, .bin 40 .num .rem (.t 37) (.t 39)),
 (none, .mv 7 .copy (.t 40))])
 (.seq (.reg [(none, .mv 41 .copy (.t 0)),
 (none, .bin 42 .num .add (.t 41) (.k (N 1))),
 (none, .mv 43 .copy (.t 6)),
 (none, .mv 44 .copy (.t 7)),
 (none, .call .no (some 45) (.k (.fn n_spec_l1Max [])) [(.t 43), (.t 44)]),
 (none, .bin 46 .num .sub (.t 42) (.t 45)),
 (none, .mv 47 .copy (.t 0)),
 (none, .bin 48 .num .add (.t 47) (.k (N 1))),
 (none, .bin 49 .num .rem (.t 46) (.t 48)),
 (none, .mv 8 .copy (.t 49))])
 (.seq (.reg [(none, .mv 50 .copy (.t 0)),
 (none, .bin 51 .num .add (.t 50) (.k (N 1))),
 (none, .mv 52 .copy (.t 6)),
 (none, .mv 53 .copy (.t 7)),
 (none, .call .no (some 54) (.k (.fn n_spec_l1Min [])) [(.t 52), (.t 53)]),
 (none, .bin 55 .num .sub (.t 51) (.t 54)),
 (none, .mv 56 .copy (.t 0)),
 (none, .bin 57 .num .add (.t 56) (.k (N 1))),
 (none, .bin 58 .num .rem (.t 55) (.t 57)),
 (none, .mv 9 .copy (.t 58))])
 (.seq (.reg [(none, .fieldA 59 1 (.t 3)),
 (none, .load 60 .frz false 1 (.t 59)),
 (none, .mv 61 .copy (.t 8)),
 (none, .bslice 62 1 1 [(N 0)] [(0, 1, (.t 61))]),
 (none, .append 63 1 (.t 60) (.t 62)),
 (none, .fieldA 64 1 (.t 3)),
 (none, .store 1 (.t 64) (.t 63))])
 (.seq (.reg [(none, .fieldA 65 2 (.t 3)),
 (none, .load 66 .frz false 1 (.t 65)),
 (none, .mv 67 .copy (.t 9)),
 (none, .bslice 68 1 1 [(N 0)] [(0, 1, (.t 67))]),
 (none, .append 69 1 (.t 66) (.t 68)),
 (none, .fieldA 70 2 (.t 3)),
 (none, .store 1 (.t 70) (.t 69))])
 (.reg [(none, .fieldA 71 3 (.t 3)),
 (none, .load 72 .frz false 1 (.t 71)),
 (none, .mv 73 .copy (.t 6)),
 (none, .mv 74 .copy (.t 7)),
 (none, .bin 75 .num .leq (.t 73) (.t 74)),
 (none, .bslice 76 1 1 [(.sc (.bool false))] [(0, 1, (.t 75))]),
 (none, .append 77 1 (.t 72) (.t 76)),
 (none, .fieldA 78 3 (.t 3)),
 (none, .store 1 (.t 78) (.t 77))]))))))))
 (.reg [(none, .mv 25 .copy (.t 5)),
 (none, .bin 26 .num .add (.t 25) (.k (N 1))),
 (none, .mv 5 .copy (.t 26))])))))))
 (.reg [(none, .mv 20 .copy (.t 4)),
 (none, .bin 21 .num .add (.t 20) (.k (N 1))),
 (none, .mv 4 .copy (.t 21))]))))))
 (.seq (.reg [(none, .load 79 .frz true 4 (.t 3)),
 (none, .store 4 (.t 2) (.t 79))])
 .ret)))))
theorem c_spec_LevelSystem : codeOf Try.prog n_spec_LevelSystem m_spec_LevelSystem = some (k_spec_LevelSystem, [.cell 2 true 4], 80) := by kernel_rfl

/- loop.example/g03111/spec.ProductSystem -/
def m_spec_ProductSystem : List (Nat × List Md) := [(1, [.take, .take]), (3, [.copy, .take]), (4, [.copy, .take]), (15, [.copy, .frz, .copy, .take, .copy, .copy, .copy, .take]), (16, [.copy, .frz, .copy, .take, .copy, .copy, .copy, .take]), (17, [.copy, .frz, .take, .copy, .copy, .copy, .copy, .take]), (18, [.frz]), (1000001, [.copy, .copy, .frz, .frz])]
def k_spec_ProductSystem : C := (.seq (.reg [(none, .box 2 (.t 0)),
 (none, .box 3 (.t 1)),
 (none, .alloc 4 [(N 0), (.sl true true 1 []), (.sl true true 1 []), (.sl true true 1 [])]),
 (none, .mv 5 .copy (.k (.sc (.bool false))))])
 (.seq (.seq (.seq (.frz 2)
 (.seq (.frz 3)
 (.reg [(none, .load 14 .take true 4 (.t 2)),
 (none, .load 15 .take true 4 (.t 3)),
 (none, .call .no (some 16) (.k (.fn n_spec_l1Product [])) [(.t 14), (.t 15)]),
 (none, .un 17 .not (.t 16))])))
 (.cond (.t 17)
 (.seq (.reg [(none, .build 18 [(N 0), (.sl true true 1 []), (.sl true true 1 []), (.sl true true 1 [])] []),
 (none, .store 4 (.t 4) (.t 18)),
 (none, .mv 5 .copy (.k (.sc (.bool false))))])
 .ret)
 .skip))
 (.seq (.reg [(none, .fieldA 19 0 (.t 3)),
 (none, .load 20 .take false 1 (.t 19)),
 (none, .mv 6 .copy (.t 20))])
 (.seq (.reg [(none, .fieldA 21 0 (.t 2)),
 (none, .load 22 .take false 1 (.t 21)),
 (none, .mv 23 .copy (.t 6)),
 (none, .bin 24 .num .mul (.t 22) (.t 23)),
 (none, .build 25 [(N 0), (.sl true true 1 []), (.sl true true 1 []), (.sl true true 1 [])] [(0, 1, (.t 24))]),
 (none, .alloc 7 [(N 0), (.sl true true 1 []), (.sl true true 1 []), (.sl true true 1 [])]),
 (none, .store 4 (.t 7) (.t 25))])
 (.seq (.seq (.reg [(none, .mv 8 .copy (.k (N 0)))])
 (.block 0 (.loop (.seq (.seq (.reg [(none, .mv 26 .copy (.t 8)),
 (none, .fieldA 27 0 (.t 7)),
 (none, .load 28 .copy false 1 (.t 27)),
 (none, .bin 29 .num .lss (.t 26) (.t 28))])
 (.cond (.t 29)
 .skip
 (.exit 0)))
 (.seq (.block 1 (.seq (.reg [(none, .mv 9 .copy (.k (N 0)))])
 (.block 2 (.loop (.seq (.seq (.reg [(none, .mv 32 .copy (.t 9)),
 (none, .fieldA 33 0 (.t 7)),
 (none, .load 34 .copy false 1 (.t 33)),
 (none, .bin 35 .num .lss (.t 32) (.t 34))])
 (.cond (.t 35)
 .skip
 (.exit 2)))
 (.seq (.block 3 (.seq (.reg [(none, .mv 38 .copy (.t 6)),
 (none, .mv 39 .copy (.t 8)),
 (none, .call .no (some 40) (.k (.fn n_spec_l1First [])) [(.t 38), (.t 39)]),
 (none, .mv 10 .copy (.t 40))])
 (.seq (.reg [(none, .mv 41 .copy (.t 6)),
 (none, .mv 42 .copy (.t 8)),
 (none, .call .no (some 43) (.k (.fn n_spec_l1Second [])) [(.t 41), (.t 42)]),
 (none, .mv 11 .copy (.t 43))])
 (.seq (.reg [(none, .mv 44 .copy (.t 6)),
 (none, .mv 45 .copy (.t 9)),
 (none, .call .no (some 46) (.k (.fn n_spec_l1First [])) [(.t 44), (.t 45)]),
 (none, .mv 12 .copy (.t 46))])
 (.seq (.reg [(none, .mv 47 .copy (.t 6)),
 (none, .mv 48 .copy (.t 9)),
 (none, .call .no (some 49) (.k (.fn n_spec_l1Second [])) [(.t 47), (.t 48)]),
 (none, .mv 13 .copy (.t 49))])
 (.seq (.reg [(none, .fieldA 50 1 (.t 7)),
 (none, .load 51 .frz false 1 (.t 50)),
 (none, .mv 52 .copy (.t 6)),
 (none, .load 53 .take true 4 (.t 2)),
 (none, .mv 54 .copy (.t 10)),
 (none, .mv 55 .copy (.t 12)),
 (none, .call .no (some 56) (.k (.fn n_spec_l1Add [])) [(.t 53), (.t 54), (.t 55)]),
 (none, .load 57 .take true 4 (.t 3)),
 (none, .mv 58 .copy (.t 11)),
 (none, .mv 59 .copy (.t 13)),
 (none, .call .no (some 60) (.k (.fn n_spec_l1Add [])) [(.t 57), (.t 58), (.t 59)]),
 (none, .call .no (some 61) (.k (.fn n_spec_l1Pair [])) [(.t 52), (.t 56), (.t 60)]),
 (none, .bslice 62 1 1 [(N 0)] [(0, 1, (.t 61))]),
 (none, .append 63 1 (.t 51) (.t 62)),
 (none, .fieldA 64 1 (.t 7)),
 (none, .store 1 (.t 64) (.t 63))])
 (.seq (.reg [(none, .fieldA 65 2 (.t 7)),
 (none, .load 66 .frz false 1 (.t 65)),
 (none, .mv 67 .copy (.t 6)),
 (none, .load 68 .take true 4 (.t 2)),
 (none, .mv 69 .copy (.t 10)),
 (none, .mv 70 .copy (.t 12)),
 (none, .call .no (some 71) (.k (.fn n_spec_l1Mul [])) [(.t 68), (.t 69), (.t 70)]),
 (none, .load 72 .take true 4 (.t 3)),
 (none, .mv 73 .copy (.t 11)),
 (none, .mv 74 .copy (.t 13)),
 (none, .call .no (some 75) (.k (.fn n_spec_l1Mul [])) [(.t 72), (.t 73), (.t 74)]),
 (none, .call .no (some 76) (.k (.fn n_spec_l1Pair [])) [(.t 67), (.t 71), (.t 75)]),
 (none, .bslice 77 1 1 [(N 0)] [(0, 1, (.t 76))]),
 (none, .append 78 1 (.t 66) (.t 77)),
 (none, .fieldA 79 2 (.t 7)),
 (none, .store 1 (.t 79) (.t 78))])
 (.reg [(none, .fieldA 80 3 (.t 7)),
 (none, .load 81 .frz false 1 (.t 80)),
 (none, .load 82 .take true 4 (.t 2)),
 (none, .mv 83 .copy (.t 10)),
 (none, .mv 84 .copy (.t 12)),
 (none, .call .no (some 85) (.k (.fn n_spec_l1Le [])) [(.t 82), (.t 83), (.t 84)]),
 (none, .mv 86 .copy (.t 85)),
 (some (86, true), .load 87 .take true 4 (.t 3)),
 (some (86, true), .mv 88 .copy (.t 11)),
 (some (86, true), .mv 89 .copy (.t 13)),
 (some (86, true), .call .no (some 90) (.k (.fn n_spec_l1Le [])) [(.t 87), (.t 88), (.t 89)]),
 (none, .pick 91 (.t 86) (.t 90) (.k (.sc (.bool false)))),
 (none, .bslice 92 1 1 [(.sc (.bool false))] [(0, 1, (.t 91))]),
 (none, .append 93 1 (.t 81) (.t 92)),
 (none, .fieldA 94 3 (.t 7)),
 (none, .store 1 (.t 94) (.t 93))]))))))))
 (.reg [(none, .mv 36 .copy (.t 9)),
 (none, .bin 37 .num .add (.t 36) (.k (N 1))),
 (none, .mv 9 .copy (.t 37))])))))))
 (.reg [(none, .mv 30 .copy (.t 8)),
 (none, .bin 31 .num .add (.t 30) (.k (N 1))),
 (none, .mv 8 .copy (.t 31))]))))))
 (.seq (.reg [(none, .load 95 .frz true 4 (.t 7)),
 (none, .store 4 (.t 4) (.t 95)),
 (none, .mv 5 .copy (.k (.sc (.bool true))))])
 .ret))))))
theorem c_spec_ProductSystem : codeOf Try.prog n_spec_ProductSystem m_spec_ProductSystem = some (k_spec_ProductSystem, [.cell 4 true 4, .tmp 5], 96) := by kernel_rfl

/- slices.Grow[[]int,int] -/
def m_slices_Grow___int_int_ : List (Nat × List Md) := [(5, [.copy, .copy, .copy, .copy, .copy, .copy, .take, .copy, .take, .take]), (6, [.take, .take])]
def k_slices_Grow___int_int_ : C := (.seq (.reg [(none, .mv 4 .copy (.k (.sl true true 1 [])))])
 (.seq (.seq (.reg [(none, .mv 5 .copy (.t 1)),
 (none, .bin 6 .num .lss (.t 5) (.k (N 0)))])
 (.cond (.t 6)
 (.reg [(none, .bad (some 7)),
 (none, .bad none)])
 .skip))
 (.seq (.seq (.reg [(none, .mv 8 .copy (.t 1)),
 (none, .mv 9 .copy (.t 0)),
 (none, .cap 10 (.t 9)),
 (none, .mv 11 .copy (.t 0)),
 (none, .len 12 (.t 11)),
 (none, .bin 13 .num .sub (.t 10) (.t 12)),
 (none, .bin 14 .num .sub (.t 8) (.t 13)),
 (none, .mv 1 .copy (.t 14))])
 (.seq (.reg [(none, .mv 15 .copy (.t 1)),
 (none, .bin 16 .num .gtr (.t 15) (.k (N 0)))])
 (.cond (.t 16)
 (.reg [(none, .mv 17 .copy (.t 0)),
 (none, .mv 18 .copy (.t 0)),
 (none, .cap 19 (.t 18)),
 (none, .slice 20 1 (.t 17) none (some (.t 19)) none),
 (none, .mv 21 .copy (.t 1)),
 (none, .growz 22 1 (.t 20) (.t 21)),
 (none, .mv 23 .take (.t 0)),
 (none, .len 24 (.t 23)),
 (none, .cut0 25 1 (.t 22) (.t 24)),
 (none, .mv 0 .take (.t 25))])
 .skip)))
 (.seq (.reg [(none, .mv 26 .take (.t 0)),
 (none, .mv 4 .take (.t 26))])
 .ret))))
theorem c_slices_Grow___int_int_ : codeOf Try.prog n_slices_Grow___int_int_ m_slices_Grow___int_int_ = some (k_slices_Grow___int_int_, [.tmp 4], 27) := by kernel_rfl

/- loop.example/g03111/spec.l1Min -/
def m_spec_l1Min : List (Nat × List Md) := []
def k_spec_l1Min : C := (.seq (.reg [(none, .mv 4 .copy (.k (N 0)))])
 (.seq (.seq (.reg [(none, .mv 5 .copy (.t 0)),
 (none, .mv 6 .copy (.t 1)),
 (none, .bin 7 .num .lss (.t 5) (.t 6))])
 (.cond (.t 7)
 (.seq (.reg [(none, .mv 8 .copy (.t 0)),
 (none, .mv 4 .copy (.t 8))])
 .ret)
 .skip))
 (.seq (.reg [(none, .mv 9 .copy (.t 1)),
 (none, .mv 4 .copy (.t 9))])
 .ret)))
theorem c_spec_l1Min : codeOf Try.prog n_spec_l1Min m_spec_l1Min = some (k_spec_l1Min, [.tmp 4], 10) := by kernel_rfl

/- loop.example/g03111/impl.counted$1 -/
def m_impl_counted_1 : List (Nat × List Md) := []
def k_impl_counted_1 : C := (.seq (.reg [(none, .mv 5 .copy (.k (N 0)))])
 (.seq (.reg [(none, .mv 6 .copy (.t 0)),
 (none, .mv 7 .copy (.t 1)),
 (none, .bin 8 .num .add (.t 6) (.t 7)),
 (none, .load 9 .copy false 1 (.t 2)),
 (none, .minmax 10 false (.t 8) (.t 9)),
 (none, .mv 5 .copy (.t 10))])
 .ret))
theorem c_impl_counted_1 : codeOf Try.prog n_impl_counted_1 m_impl_counted_1 = some (k_impl_counted_1, [.tmp 5], 11) := by kernel_rfl

/- loop.example/g03111/impl.counted$2 -/
def m_impl_counted_2 : List (Nat × List Md) := []
def k_impl_counted_2 : C := (.seq (.reg [(none, .mv 5 .copy (.k (N 0)))])
 (.seq (.block 0 (.seq (.reg [(none, .mv 7 .copy (.t 0)),
 (none, .bin 8 .num .eql (.t 7) (.k (N 0))),
 (none, .mv 9 .copy (.t 8)),
 (some (9, false), .mv 10 .copy (.t 1)),
 (some (9, false), .bin 11 .num .eql (.t 10) (.k (N 0))),
 (none, .pick 12 (.t 9) (.k (.sc (.bool true))) (.t 11)),
 (none, .mv 6 .copy (.t 12))])
 (.cond (.t 6)
 (.seq (.reg [(none, .mv 5 .copy (.k (N 0)))])
 .ret)
 (.seq (.reg [(none, .mv 14 .copy (.t 0)),
 (none, .load 15 .copy false 1 (.t 2)),
 (none, .bin 16 .num .eql (.t 14) (.t 15)),
 (none, .mv 17 .copy (.t 16)),
 (some (17, false), .mv 18 .copy (.t 1)),
 (some (17, false), .load 19 .copy false 1 (.t 2)),
 (some (17, false), .bin 20 .num .eql (.t 18) (.t 19)),
 (none, .pick 21 (.t 17) (.k (.sc (.bool true))) (.t 20)),
 (none, .mv 13 .copy (.t 21))])
 (.cond (.t 13)
 (.seq (.reg [(none, .load 22 .copy false 1 (.t 2)),
 (none, .mv 5 .copy (.t 22))])
 .ret)
 .skip)))))
 (.seq (.reg [(none, .mv 23 .copy (.t 0)),
 (none, .mv 24 .copy (.t 1)),
 (none, .bin 25 .num .mul (.t 23) (.t 24)),
 (none, .load 26 .copy false 1 (.t 2)),
 (none, .minmax 27 false (.t 25) (.t 26)),
 (none, .mv 5 .copy (.t 27))])
 .ret)))
theorem c_impl_counted_2 : codeOf Try.prog n_impl_counted_2 m_impl_counted_2 = some (k_impl_counted_2, [.tmp 5], 28) := by kernel_rfl

/- loop.example/g03111/impl.tabled -/
def m_impl_tabled : List (Nat × List Md) := [(8, [.copy, .frz, .copy, .copy, .copy, .copy, .copy, .copy, .copy, .frz, .copy, .copy, .copy, .copy, .copy, .copy, .copy, .frz]), (9, [.frz])]
def k_impl_tabled : C := (.seq (.reg [(none, .alloc 8 [(N 0), (.sl true true 1 []), (.sl true true 1 []), (.sl true true 1 [])])])
 (.seq (.reg [(none, .mv 12 .copy (.t 0)),
 (none, .build 13 [(N 0), (.sl true true 1 []), (.sl true true 1 []), (.sl true true 1 [])] [(0, 1, (.t 12))]),
 (none, .alloc 9 [(N 0), (.sl true true 1 []), (.sl true true 1 []), (.sl true true 1 [])]),
 (none, .store 4 (.t 9) (.t 13))])
 (.seq (.seq (.reg [(none, .mv 10 .copy (.k (N 0)))])
 (.block 0 (.loop (.seq (.seq (.reg [(none, .mv 14 .copy (.t 10)),
 (none, .mv 15 .copy (.t 0)),
 (none, .bin 16 .num .lss (.t 14) (.t 15))])
 (.cond (.t 16)
 .skip
 (.exit 0)))
 (.seq (.block 1 (.seq (.reg [(none, .mv 11 .copy (.k (N 0)))])
 (.block 2 (.loop (.seq (.seq (.reg [(none, .mv 19 .copy (.t 11)),
 (none, .mv 20 .copy (.t 0)),
 (none, .bin 21 .num .lss (.t 19) (.t 20))])
 (.cond (.t 21)
 .skip
 (.exit 2)))
 (.seq (.block 3 (.reg [(none, .fieldA 24 1 (.t 9)),
 (none, .load 25 .frz false 1 (.t 24)),
 (none, .mv 26 .copy (.t 1)),
 (none, .mv 27 .copy (.t 10)),
 (none, .mv 28 .copy (.t 11)),
 (none, .call .no (some 29) (.t 26) [(.t 27), (.t 28)]),
 (none, .bslice 30 1 1 [(N 0)] [(0, 1, (.t 29))]),
 (none, .append 31 1 (.t 25) (.t 30)),
 (none, .fieldA 32 2 (.t 9)),
 (none, .load 33 .frz false 1 (.t 32)),
 (none, .mv 34 .copy (.t 2)),
 (none, .mv 35 .copy (.t 10)),
 (none, .mv 36 .copy (.t 11)),
 (none, .call .no (some 37) (.t 34) [(.t 35), (.t 36)]),
 (none, .bslice 38 1 1 [(N 0)] [(0, 1, (.t 37))]),
 (none, .append 39 1 (.t 33) (.t 38)),
 (none, .fieldA 40 3 (.t 9)),
 (none, .load 41 .frz false 1 (.t 40)),
 (none, .mv 42 .copy (.t 3)),
 (none, .mv 43 .copy (.t 10)),
 (none, .mv 44 .copy (.t 11)),
 (none, .call .no (some 45) (.t 42) [(.t 43), (.t 44)]),
 (none, .bslice 46 1 1 [(.sc (.bool false))] [(0, 1, (.t 45))]),
 (none, .append 47 1 (.t 41) (.t 46)),
 (none, .fieldA 48 1 (.t 9)),
 (none, .store 1 (.t 48) (.t 31)),
 (none, .fieldA 49 2 (.t 9)),
 (none, .store 1 (.t 49) (.t 39)),
 (none, .fieldA 50 3 (.t 9)),
 (none, .store 1 (.t 50) (.t 47))]))
 (.reg [(none, .mv 22 .copy (.t 11)),
 (none, .bin 23 .num .add (.t 22) (.k (N 1))),
 (none, .mv 11 .copy (.t 23))])))))))
 (.reg [(none, .mv 17 .copy (.t 10)),
 (none, .bin 18 .num .add (.t 17) (.k (N 1))),
 (none, .mv 10 .copy (.t 18))]))))))
 (.seq (.reg [(none, .load 51 .frz true 4 (.t 9)),
 (none, .store 4 (.t 8) (.t 51))])
 .ret))))
theorem c_impl_tabled : codeOf Try.prog n_impl_tabled m_impl_tabled = some (k_impl_tabled, [.cell 8 true 4], 52) := by kernel_rfl

/- loop.example/g03111/spec.l1Byte -/
def m_spec_l1Byte : List (Nat × List Md) := [(5, [.copy, .take])]
def k_spec_l1Byte : C := (.seq (.reg [(none, .mv 2 .copy (.k (N 0)))])
 (.seq (.reg [(none, .mv 4 .copy (.t 0)),
 (none, .mv 5 .copy (.t 0)),
 (none, .nilchk 6 (.t 5)),
 (none, .fieldA 7 2 (.t 6)),
 (none, .load 8 .copy false 1 (.t 7)),
 (none, .bin 9 .num .mul (.t 8) (.k (N 6364136223846793005))),
 (none, .bin 10 .num .add (.t 9) (.k (N 1442695040888963407))),
 (none, .nilchk 11 (.t 4)),
 (none, .fieldA 12 2 (.t 11)),
 (none, .store 1 (.t 12) (.t 10))])
 (.seq (.reg [(none, .mv 13 .copy (.t 0)),
 (none, .nilchk 14 (.t 13)),
 (none, .fieldA 15 2 (.t 14)),
 (none, .load 16 .copy false 1 (.t 15)),
 (none, .bin 17 .num .shr (.t 16) (.k (.sc (.int .u64 33)))),
 (none, .mv 18 .copy (.t 0)),
 (none, .nilchk 19 (.t 18)),
 (none, .fieldA 20 2 (.t 19)),
 (none, .load 21 .copy false 1 (.t 20)),
 (none, .bin 22 .num .shr (.t 21) (.k (.sc (.int .u64 45)))),
 (none, .bin 23 .num .xor (.t 17) (.t 22)),
 (none, .bin 24 .num .and (.t 23) (.k (N 255))),
 (none, .mv 3 .copy (.t 24))])
 (.seq (.seq (.reg [(none, .mv 25 .copy (.t 0)),
 (none, .nilchk 26 (.t 25)),
 (none, .fieldA 27 1 (.t 26)),
 (none, .load 28 .copy false 1 (.t 27)),
 (none, .mv 29 .copy (.t 0)),
 (none, .nilchk 30 (.t 29)),
 (none, .fieldA 31 0 (.t 30)),
 (none, .load 32 .copy false 1 (.t 31)),
 (none, .len 33 (.t 32)),
 (none, .bin 34 .num .lss (.t 28) (.t 33))])
 (.cond (.t 34)
 (.seq (.reg [(none, .mv 35 .copy (.t 3)),
 (none, .mv 36 .copy (.t 0)),
 (none, .nilchk 37 (.t 36)),
 (none, .fieldA 38 0 (.t 37)),
 (none, .load 39 .copy false 1 (.t 38)),
 (none, .mv 40 .copy (.t 0)),
 (none, .nilchk 41 (.t 40)),
 (none, .fieldA 42 1 (.t 41)),
 (none, .load 43 .copy false 1 (.t 42)),
 (none, .indexA 44 1 (.t 39) (.t 43)),
 (none, .load 45 .copy false 1 (.t 44)),
 (none, .conv 46 .i64 (.t 45)),
 (none, .bin 47 .num .add (.t 35) (.t 46)),
 (none, .bin 48 .num .and (.t 47) (.k (N 255))),
 (none, .mv 3 .copy (.t 48))])
 (.reg [(none, .mv 49 .copy (.t 0)),
 (none, .mv 50 .take (.t 0)),
 (none, .nilchk 51 (.t 50)),
 (none, .fieldA 52 1 (.t 51)),
 (none, .load 53 .copy false 1 (.t 52)),
 (none, .bin 54 .num .add (.t 53) (.k (N 1))),
 (none, .nilchk 55 (.t 49)),
 (none, .fieldA 56 1 (.t 55)),
 (none, .store 1 (.t 56) (.t 54))]))
 .skip))
 (.seq (.reg [(none, .mv 57 .copy (.t 3)),
 (none, .mv 2 .copy (.t 57))])
 .ret)))))
theorem c_spec_l1Byte : codeOf Try.prog n_spec_l1Byte m_spec_l1Byte = some (k_spec_l1Byte, [.tmp 2], 58) := by kernel_rfl

/- loop.example/g03111/spec.l1Max -/
def m_spec_l1Max : List (Nat × List Md) := []
def k_spec_l1Max : C := (.seq (.reg [(none, .mv 4 .copy (.k (N 0)))])
 (.seq (.seq (.reg [(none, .mv 5 .copy (.t 0)),
 (none, .mv 6 .copy (.t 1)),
 (none, .bin 7 .num .gtr (.t 5) (.t 6))])
 (.cond (.t 7)
 (.seq (.reg [(none, .mv 8 .copy (.t 0)),
 (none, .mv 4 .copy (.t 8))])
 .ret)
 .skip))
 (.seq (.reg [(none, .mv 9 .copy (.t 1)),
 (none, .mv 4 .copy (.t 9))])
 .ret)))
theorem c_spec_l1Max : codeOf Try.prog n_spec_l1Max m_spec_l1Max = some (k_spec_l1Max, [.tmp 4], 10) := by kernel_rfl

/- loop.example/g03111/spec.l1Product -/
def m_spec_l1Product : List (Nat × List Md) := [(1, [.take, .copy, .copy, .take, .copy, .copy, .copy, .copy, .take, .copy, .take]), (1000001, [.copy, .copy, .frz, .frz])]
def k_spec_l1Product : C := (.seq (.reg [(none, .box 2 (.t 0)),
 (none, .box 3 (.t 1)),
 (none, .mv 4 .copy (.k (.sc (.bool false))))])
 (.seq (.seq (.frz 2)
 (.seq (.frz 3)
 (.reg [(none, .load 5 .take true 4 (.t 2)),
 (none, .call .no (some 6) (.k (.fn n_spec_IsSystem [])) [(.t 5)]),
 (none, .mv 7 .copy (.t 6)),
 (some (7, true), .load 8 .take true 4 (.t 3)),
 (some (7, true), .call .no (some 9) (.k (.fn n_spec_IsSystem [])) [(.t 8)]),
 (none, .pick 10 (.t 7) (.t 9) (.k (.sc (.bool false)))),
 (none, .mv 11 .copy (.t 10)),
 (some (11, true), .fieldA 12 0 (.t 2)),
 (some (11, true), .load 13 .take false 1 (.t 12)),
 (some (11, true), .fieldA 14 0 (.t 3)),
 (some (11, true), .load 15 .take false 1 (.t 14)),
 (some (11, true), .bin 16 .num .mul (.t 13) (.t 15)),
 (some (11, true), .bin 17 .num .leq (.t 16) (.k (N 16))),
 (none, .pick 18 (.t 11) (.t 17) (.k (.sc (.bool false)))),
 (none, .mv 4 .copy (.t 18))])))
 .ret))
theorem c_spec_l1Product : codeOf Try.prog n_spec_l1Product m_spec_l1Product = some (k_spec_l1Product, [.tmp 4], 19) := by kernel_rfl

/- loop.example/g03111/spec.l1First -/
def m_spec_l1First : List (Nat × List Md) := []
def k_spec_l1First : C := (.seq (.reg [(none, .mv 4 .copy (.k (N 0)))])
 (.seq (.block 0 (.seq (.reg [(none, .mv 6 .copy (.t 1)),
 (none, .bin 7 .num .eql (.t 6) (.k (N 0))),
 (none, .mv 5 .copy (.t 7))])
 (.cond (.t 5)
 (.seq (.reg [(none, .mv 4 .copy (.k (N 0)))])
 .ret)
 (.seq (.reg [(none, .mv 9 .copy (.t 1)),
 (none, .bin 10 .num .eql (.t 9) (.k (N 1))),
 (none, .mv 8 .copy (.t 10))])
 (.cond (.t 8)
 (.seq (.reg [(none, .mv 4 .copy (.k (N 1)))])
 .ret)
 (.seq (.reg [(none, .mv 12 .copy (.t 1)),
 (none, .mv 13 .copy (.t 0)),
 (none, .bin 14 .num .add (.t 13) (.k (N 1))),
 (none, .bin 15 .num .leq (.t 12) (.t 14)),
 (none, .mv 11 .copy (.t 15))])
 (.cond (.t 11)
 (.seq (.reg [(none, .mv 16 .copy (.t 1)),
 (none, .bin 17 .num .sub (.t 16) (.k (N 1))),
 (none, .mv 18 .copy (.t 0)),
 (none, .bin 19 .num .quo (.t 17) (.t 18)),
 (none, .mv 4 .copy (.t 19))])
 .ret)
 .skip)))))))
 (.seq (.reg [(none, .mv 20 .copy (.t 1)),
 (none, .mv 21 .copy (.t 0)),
 (none, .bin 22 .num .quo (.t 20) (.t 21)),
 (none, .mv 4 .copy (.t 22))])
 .ret)))
theorem c_spec_l1First : codeOf Try.prog n_spec_l1First m_spec_l1First = some (k_spec_l1First, [.tmp 4], 23) := by kernel_rfl

/- loop.example/g03111/spec.l1Second -/
def m_spec_l1Second : List (Nat × List Md) := []
def k_spec_l1Second : C := (.seq (.reg [(none, .mv 4 .copy (.k (N 0)))])
 (.seq (.block 0 (.seq (.reg [(none, .mv 6 .copy (.t 1)),
 (none, .bin 7 .num .lss (.t 6) (.k (N 2))),
 (none, .mv 5 .copy (.t 7))])
 (.cond (.t 5)
 (.seq (.reg [(none, .mv 8 .copy (.t 1)),
 (none, .mv 4 .copy (.t 8))])
 .ret)
 (.seq (.reg [(none, .mv 10 .copy (.t 1)),
 (none, .mv 11 .copy (.t 0)),
 (none, .bin 12 .num .add (.t 11) (.k (N 1))),
 (none, .bin 13 .num .leq (.t 10) (.t 12)),
 (none, .mv 9 .copy (.t 13))])
 (.cond (.t 9)
 (.seq (.reg [(none, .mv 14 .copy (.t 1)),
 (none, .bin 15 .num .sub (.t 14) (.k (N 1))),
 (none, .mv 16 .copy (.t 0)),
 (none, .bin 17 .num .rem (.t 15) (.t 16)),
 (none, .mv 4 .copy (.t 17))])
 .ret)
 .skip)))))
 (.seq (.reg [(none, .mv 18 .copy (.t 1)),
 (none, .mv 19 .copy (.t 0)),
 (none, .bin 20 .num .rem (.t 18) (.t 19)),
 (none, .mv 4 .copy (.t 20))])
 .ret)))
theorem c_spec_l1Second : codeOf Try.prog n_spec_l1Second m_spec_l1Second = some (k_spec_l1Second, [.tmp 4], 21) := by kernel_rfl

/- loop.example/g03111/spec.l1Pair -/
def m_spec_l1Pair : List (Nat × List Md) := []
def k_spec_l1Pair : C := (.seq (.reg [(none, .mv 6 .copy (.k (N 0)))])
 (.seq (.reg [(none, .mv 8 .copy (.t 1)),
 (none, .mv 9 .copy (.t 0)),
 (none, .bin 10 .num .mul (.t 8) (.t 9)),
 (none, .mv 11 .copy (.t 2)),
 (none, .bin 12 .num .add (.t 10) (.t 11)),
 (none, .mv 7 .copy (.t 12))])
 (.seq (.block 0 (.seq (.reg [(none, .mv 14 .copy (.t 7)),
 (none, .bin 15 .num .eql (.t 14) (.k (N 0))),
 (none, .mv 13 .copy (.t 15))])
 (.cond (.t 13)
 (.seq (.reg [(none, .mv 6 .copy (.k (N 0)))])
 .ret)
 (.seq (.reg [(none, .mv 17 .copy (.t 7)),
 (none, .mv 18 .copy (.t 0)),
 (none, .bin 19 .num .add (.t 18) (.k (N 1))),
 (none, .bin 20 .num .eql (.t 17) (.t 19)),
 (none, .mv 16 .copy (.t 20))])
 (.cond (.t 16)
 (.seq (.reg [(none, .mv 6 .copy (.k (N 1)))])
 .ret)
 (.seq (.reg [(none, .mv 22 .copy (.t 7)),
 (none, .mv 23 .copy (.t 0)),
 (none, .bin 24 .num .add (.t 23) (.k (N 1))),
 (none, .bin 25 .num .lss (.t 22) (.t 24)),
 (none, .mv 21 .copy (.t 25))])
 (.cond (.t 21)
 (.seq (.reg [(none, .mv 26 .copy (.t 7)),
 (none, .bin 27 .num .add (.t 26) (.k (N 1))),
 (none, .mv 6 .copy (.t 27))])
 .ret)
 .skip)))))))
 (.seq (.reg [(none, .mv 28 .copy (.t 7)),
 (none, .mv 6 .copy (.t 28))])
 .ret))))
theorem c_spec_l1Pair : codeOf Try.prog n_spec_l1Pair m_spec_l1Pair = some (k_spec_l1Pair, [.tmp 6], 29) := by kernel_rfl

/- loop.example/g03111/spec.l1Add -/
def m_spec_l1Add : List (Nat × List Md) := [(1, [.copy, .take, .copy, .copy, .take]), (1000001, [.copy, .copy, .copy, .frz])]
def k_spec_l1Add : C := (.seq (.reg [(none, .box 3 (.t 0)),
 (none, .mv 6 .copy (.k (N 0)))])
 (.seq (.seq (.frz 3)
 (.reg [(none, .fieldA 7 1 (.t 3)),
 (none, .load 8 .take false 1 (.t 7)),
 (none, .mv 9 .copy (.t 1)),
 (none, .fieldA 10 0 (.t 3)),
 (none, .load 11 .take false 1 (.t 10)),
 (none, .bin 12 .num .mul (.t 9) (.t 11)),
 (none, .mv 13 .copy (.t 2)),
 (none, .bin 14 .num .add (.t 12) (.t 13)),
 (none, .indexA 15 1 (.t 8) (.t 14)),
 (none, .load 16 .copy false 1 (.t 15)),
 (none, .mv 6 .copy (.t 16))]))
 .ret))
theorem c_spec_l1Add : codeOf Try.prog n_spec_l1Add m_spec_l1Add = some (k_spec_l1Add, [.tmp 6], 17) := by kernel_rfl

/- loop.example/g03111/spec.l1Mul -/
def m_spec_l1Mul : List (Nat × List Md) := [(1, [.copy, .take, .copy, .copy, .take]), (1000001, [.copy, .copy, .copy, .frz])]
def k_spec_l1Mul : C := (.seq (.reg [(none, .box 3 (.t 0)),
 (none, .mv 6 .copy (.k (N 0)))])
 (.seq (.seq (.frz 3)
 (.reg [(none, .fieldA 7 2 (.t 3)),
 (none, .load 8 .take false 1 (.t 7)),
 (none, .mv 9 .copy (.t 1)),
 (none, .fieldA 10 0 (.t 3)),
 (none, .load 11 .take false 1 (.t 10)),
 (none, .bin 12 .num .mul (.t 9) (.t 11)),
 (none, .mv 13 .copy (.t 2)),
 (none, .bin 14 .num .add (.t 12) (.t 13)),
 (none, .indexA 15 1 (.t 8) (.t 14)),
 (none, .load 16 .copy false 1 (.t 15)),
 (none, .mv 6 .copy (.t 16))]))
 .ret))
theorem c_spec_l1Mul : codeOf Try.prog n_spec_l1Mul m_spec_l1Mul = some (k_spec_l1Mul, [.tmp 6], 17) := by kernel_rfl

/- loop.example/g03111/spec.l1Le -/
def m_spec_l1Le : List (Nat × List Md) := [(1, [.copy, .take, .copy, .copy, .take]), (1000001, [.copy, .copy, .copy, .frz])]
def k_spec_l1Le : C := (.seq (.reg [(none, .box 3 (.t 0)),
 (none, .mv 6 .copy (.k (.sc (.bool false))))])
 (.seq (.seq (.frz 3)
 (.reg [(none, .fieldA 7 3 (.t 3)),
 (none, .load 8 .take false 1 (.t 7)),
 (none, .mv 9 .copy (.t 1)),
 (none, .fieldA 10 0 (.t 3)),
 (none, .load 11 .take false 1 (.t 10)),
 (none, .bin 12 .num .mul (.t 9) (.t 11)),
 (none, .mv 13 .copy (.t 2)),
 (none, .bin 14 .num .add (.t 12) (.t 13)),
 (none, .indexA 15 1 (.t 8) (.t 14)),
 (none, .load 16 .copy false 1 (.t 15)),
 (none, .mv 6 .copy (.t 16))]))
 .ret))
theorem c_spec_l1Le : codeOf Try.prog n_spec_l1Le m_spec_l1Le = some (k_spec_l1Le, [.tmp 6], 17) := by kernel_rfl

/- loop.example/g03111/spec.IsSystem -/
def m_spec_IsSystem : List (Nat × List Md) := [(1, [.take]), (4, [.copy, .copy, .take]), (6, [.take]), (9, [.copy, .copy, .take]), (11, [.take]), (14, [.copy, .copy, .take]), (16, [.take]), (1000001, [.copy, .frz])]
def k_spec_IsSystem : C := (.seq (.reg [(none, .box 1 (.t 0)),
 (none, .mv 2 .copy (.k (.sc (.bool false))))])
 (.seq (.seq (.seq (.frz 1)
 (.reg [(none, .load 6 .take true 4 (.t 1)),
 (none, .call .no (some 7) (.k (.fn n_spec_l1Tables [])) [(.t 6)]),
 (none, .un 8 .not (.t 7))]))
 (.cond (.t 8)
 (.seq (.reg [(none, .mv 2 .copy (.k (.sc (.bool false))))])
 .ret)
 .skip))
 (.seq (.seq (.reg [(none, .mv 3 .copy (.k (N 0)))])
 (.block 0 (.loop (.seq (.seq (.reg [(none, .mv 9 .copy (.t 3)),
 (none, .fieldA 10 0 (.t 1)),
 (none, .load 11 .take false 1 (.t 10)),
 (none, .bin 12 .num .lss (.t 9) (.t 11))])
 (.cond (.t 12)
 .skip
 (.exit 0)))
 (.seq (.block 1 (.seq (.seq (.reg [(none, .load 15 .take true 4 (.t 1)),
 (none, .mv 16 .copy (.t 3)),
 (none, .call .no (some 17) (.k (.fn n_spec_l1One [])) [(.t 15), (.t 16)]),
 (none, .un 18 .not (.t 17))])
 (.cond (.t 18)
 (.seq (.reg [(none, .mv 2 .copy (.k (.sc (.bool false))))])
 .ret)
 .skip))
 (.seq (.reg [(none, .mv 4 .copy (.k (N 0)))])
 (.block 2 (.loop (.seq (.seq (.reg [(none, .mv 19 .copy (.t 4)),
 (none, .fieldA 20 0 (.t 1)),
 (none, .load 21 .take false 1 (.t 20)),
 (none, .bin 22 .num .lss (.t 19) (.t 21))])
 (.cond (.t 22)
 .skip
 (.exit 2)))
 (.seq (.block 3 (.seq (.seq (.reg [(none, .load 25 .take true 4 (.t 1)),
 (none, .mv 26 .copy (.t 3)),
 (none, .mv 27 .copy (.t 4)),
 (none, .call .no (some 28) (.k (.fn n_spec_l1Two [])) [(.t 25), (.t 26), (.t 27)]),
 (none, .un 29 .not (.t 28))])
 (.cond (.t 29)
 (.seq (.reg [(none, .mv 2 .copy (.k (.sc (.bool false))))])
 .ret)
 .skip))
 (.seq (.reg [(none, .mv 5 .copy (.k (N 0)))])
 (.block 4 (.loop (.seq (.seq (.reg [(none, .mv 30 .copy (.t 5)),
 (none, .fieldA 31 0 (.t 1)),
 (none, .load 32 .take false 1 (.t 31)),
 (none, .bin 33 .num .lss (.t 30) (.t 32))])
 (.cond (.t 33)
 .skip
 (.exit 4)))
 (.seq (.block 5 (.seq (.reg [(none, .load 36 .take true 4 (.t 1)),
 (none, .mv 37 .copy (.t 3)),
 (none, .mv 38 .copy (.t 4)),
 (none, .mv 39 .copy (.t 5)),
 (none, .call .no (some 40) (.k (.fn n_spec_l1Three [])) [(.t 36), (.t 37), (.t 38), (.t 39)]),
 (none, .un 41 .not (.t 40))])
 (.cond (.t 41)
 (.seq (.reg [(none, .mv 2 .copy (.k (.sc (.bool false))))])
 .ret)
 .skip)))
 (.reg [(none, .mv 34 .copy (.t 5)),
 (none, .bin 35 .num .add (.t 34) (.k (N 1))),
 (none, .mv 5 .copy (.t 35))]))))))))
 (.reg [(none, .mv 23 .copy (.t 4)),
 (none, .bin 24 .num .add (.t 23) (.k (N 1))),
 (none, .mv 4 .copy (.t 24))]))))))))
 (.reg [(none, .mv 13 .copy (.t 3)),
 (none, .bin 14 .num .add (.t 13) (.k (N 1))),
 (none, .mv 3 .copy (.t 14))]))))))
 (.seq (.reg [(none, .mv 2 .copy (.k (.sc (.bool true))))])
 .ret))))
theorem c_spec_IsSystem : codeOf Try.prog n_spec_IsSystem m_spec_IsSystem = some (k_spec_IsSystem, [.tmp 2], 42) := by kernel_rfl

/- loop.example/g03111/spec.l1Tables -/
def m_spec_l1Tables : List (Nat × List Md) := [(1, [.copy, .take, .copy, .copy, .copy, .copy, .take, .copy, .copy, .take, .copy, .take, .copy, .copy, .copy, .copy, .copy, .take, .copy, .copy, .take, .copy, .take, .copy, .copy, .copy, .copy, .copy, .take, .copy, .copy, .take, .copy, .take]), (4, [.copy, .copy, .take]), (6, [.copy, .take, .copy, .copy, .copy, .copy, .take, .copy, .copy, .copy, .copy, .copy, .take, .copy, .copy, .copy, .copy, .take]), (1000001, [.copy, .frz])]
def k_spec_l1Tables : C := (.seq (.reg [(none, .box 1 (.t 0)),
 (none, .mv 2 .copy (.k (.sc (.bool false))))])
 (.seq (.seq (.seq (.frz 1)
 (.reg [(none, .fieldA 4 0 (.t 1)),
 (none, .load 5 .take false 1 (.t 4)),
 (none, .call .no (some 6) (.k (.fn n_spec_l1In [])) [(.t 5), (.k (N 2)), (.k (N 16))]),
 (none, .un 7 .not (.t 6)),
 (none, .mv 8 .copy (.t 7)),
 (some (8, false), .fieldA 9 1 (.t 1)),
 (some (8, false), .load 10 .take false 1 (.t 9)),
 (some (8, false), .len 11 (.t 10)),
 (some (8, false), .fieldA 12 0 (.t 1)),
 (some (8, false), .load 13 .take false 1 (.t 12)),
 (some (8, false), .fieldA 14 0 (.t 1)),
 (some (8, false), .load 15 .take false 1 (.t 14)),
 (some (8, false), .bin 16 .num .mul (.t 13) (.t 15)),
 (some (8, false), .bin 17 .num .neq (.t 11) (.t 16)),
 (none, .pick 18 (.t 8) (.k (.sc (.bool true))) (.t 17)),
 (none, .mv 19 .copy (.t 18)),
 (some (19, false), .fieldA 20 2 (.t 1)),
 (some (19, false), .load 21 .take false 1 (.t 20)),
 (some (19, false), .len 22 (.t 21)),
 (some (19, false), .fieldA 23 0 (.t 1)),
 (some (19, false), .load 24 .take false 1 (.t 23)),
 (some (19, false), .fieldA 25 0 (.t 1)),
 (some (19, false), .load 26 .take false 1 (.t 25)),
 (some (19, false), .bin 27 .num .mul (.t 24) (.t 26)),
 (some (19, false), .bin 28 .num .neq (.t 22) (.t 27)),
 (none, .pick 29 (.t 19) (.k (.sc (.bool true))) (.t 28)),
 (none, .mv 30 .copy (.t 29)),
 (some (30, false), .fieldA 31 3 (.t 1)),
 (some (30, false), .load 32 .take false 1 (.t 31)),
 (some (30, false), .len 33 (.t 32)),
 (some (30, false), .fieldA 34 0 (.t 1)),
 (some (30, false), .load 35 .take false 1 (.t 34)),
 (some (30, false), .fieldA 36 0 (.t 1)),
 (some (30, false), .load 37 .take false 1 (.t 36)),
 (some (30, false), .bin 38 .num .mul (.t 35) (.t 37)),
 (some (30, false), .bin 39 .num .neq (.t 33) (.t 38)),
 (none, .pick 40 (.t 30) (.k (.sc (.bool true))) (.t 39))]))
 (.cond (.t 40)
 (.seq (.reg [(none, .mv 2 .copy (.k (.sc (.bool false))))])
 .ret)
 .skip))
 (.seq (.seq (.reg [(none, .mv 3 .copy (.k (N 0)))])
 (.block 0 (.loop (.seq (.seq (.reg [(none, .mv 41 .copy (.t 3)),
 (none, .fieldA 42 1 (.t 1)),
 (none, .load 43 .take false 1 (.t 42)),
 (none, .len 44 (.t 43)),
 (none, .bin 45 .num .lss (.t 41) (.t 44))])
 (.cond (.t 45)
 .skip
 (.exit 0)))
 (.seq (.block 1 (.seq (.reg [(none, .fieldA 48 1 (.t 1)),
 (none, .load 49 .take false 1 (.t 48)),
 (none, .mv 50 .copy (.t 3)),
 (none, .indexA 51 1 (.t 49) (.t 50)),
 (none, .load 52 .copy false 1 (.t 51)),
 (none, .fieldA 53 0 (.t 1)),
 (none, .load 54 .take false 1 (.t 53)),
 (none, .bin 55 .num .sub (.t 54) (.k (N 1))),
 (none, .call .no (some 56) (.k (.fn n_spec_l1In [])) [(.t 52), (.k (N 0)), (.t 55)]),
 (none, .un 57 .not (.t 56)),
 (none, .mv 58 .copy (.t 57)),
 (some (58, false), .fieldA 59 2 (.t 1)),
 (some (58, false), .load 60 .take false 1 (.t 59)),
 (some (58, false), .mv 61 .copy (.t 3)),
 (some (58, false), .indexA 62 1 (.t 60) (.t 61)),
 (some (58, false), .load 63 .copy false 1 (.t 62)),
 (some (58, false), .fieldA 64 0 (.t 1)),
 (some (58, false), .load 65 .take false 1 (.t 64)),
 (some (58, false), .bin 66 .num .sub (.t 65) (.k (N 1))),
 (some (58, false), .call .no (some 67) (.k (.fn n_spec_l1In [])) [(.t 63), (.k (N 0)), (.t 66)]),
 (some (58, false), .un 68 .not (.t 67)),
 (none, .pick 69 (.t 58) (.k (.sc (.bool true))) (.t 68))])
 (.cond (.t 69)
 (.seq (.reg [(none, .mv 2 .copy (.k (.sc (.bool false))))])
 .ret)
 .skip)))
 (.reg [(none, .mv 46 .copy (.t 3)),
 (none, .bin 47 .num .add (.t 46) (.k (N 1))),
 (none, .mv 3 .copy (.t 47))]))))))
 (.seq (.reg [(none, .mv 2 .copy (.k (.sc (.bool true))))])
 .ret))))
theorem c_spec_l1Tables : codeOf Try.prog n_spec_l1Tables m_spec_l1Tables = some (k_spec_l1Tables, [.tmp 2], 70) := by kernel_rfl

/- loop.example/g03111/spec.l1One -/
def m_spec_l1One : List (Nat × List Md) := [(1, [.take, .copy, .copy, .copy, .copy, .copy, .take, .copy, .copy, .copy, .copy, .copy, .copy, .take, .copy, .copy, .copy, .copy, .copy, .copy, .take, .copy, .copy, .copy, .copy, .copy, .take, .copy, .copy, .copy, .copy, .copy, .take]), (1000001, [.copy, .copy, .frz])]
def k_spec_l1One : C := (.seq (.reg [(none, .box 2 (.t 0)),
 (none, .mv 4 .copy (.k (.sc (.bool false))))])
 (.seq (.seq (.frz 2)
 (.reg [(none, .load 5 .take true 4 (.t 2)),
 (none, .mv 6 .copy (.t 1)),
 (none, .call .no (some 7) (.k (.fn n_spec_l1Add [])) [(.t 5), (.k (N 0)), (.t 6)]),
 (none, .mv 8 .copy (.t 1)),
 (none, .bin 9 .num .eql (.t 7) (.t 8)),
 (none, .mv 10 .copy (.t 9)),
 (some (10, true), .load 11 .take true 4 (.t 2)),
 (some (10, true), .mv 12 .copy (.t 1)),
 (some (10, true), .call .no (some 13) (.k (.fn n_spec_l1Mul [])) [(.t 11), (.k (N 1)), (.t 12)]),
 (some (10, true), .mv 14 .copy (.t 1)),
 (some (10, true), .bin 15 .num .eql (.t 13) (.t 14)),
 (none, .pick 16 (.t 10) (.t 15) (.k (.sc (.bool false)))),
 (none, .mv 17 .copy (.t 16)),
 (some (17, true), .load 18 .take true 4 (.t 2)),
 (some (17, true), .mv 19 .copy (.t 1)),
 (some (17, true), .call .no (some 20) (.k (.fn n_spec_l1Mul [])) [(.t 18), (.t 19), (.k (N 1))]),
 (some (17, true), .mv 21 .copy (.t 1)),
 (some (17, true), .bin 22 .num .eql (.t 20) (.t 21)),
 (none, .pick 23 (.t 17) (.t 22) (.k (.sc (.bool false)))),
 (none, .mv 24 .copy (.t 23)),
 (some (24, true), .load 25 .take true 4 (.t 2)),
 (some (24, true), .mv 26 .copy (.t 1)),
 (some (24, true), .call .no (some 27) (.k (.fn n_spec_l1Mul [])) [(.t 25), (.k (N 0)), (.t 26)]),
 (some (24, true), .bin 28 .num .eql (.t 27) (.k (N 0))),
 (none, .pick 29 (.t 24) (.t 28) (.k (.sc (.bool false)))),
 (none, .mv 30 .copy (.t 29)),
 (some (30, true), .load 31 .take true 4 (.t 2)),
 (some (30, true), .mv 32 .copy (.t 1)),
 (some (30, true), .call .no (some 33) (.k (.fn n_spec_l1Mul [])) [(.t 31), (.t 32), (.k (N 0))]),
 (some (30, true), .bin 34 .num .eql (.t 33) (.k (N 0))),
 (none, .pick 35 (.t 30) (.t 34) (.k (.sc (.bool false)))),
 (none, .mv 36 .copy (.t 35)),
 (some (36, true), .load 37 .take true 4 (.t 2)),
 (some (36, true), .mv 38 .copy (.t 1)),
 (some (36, true), .mv 39 .copy (.t 1)),
 (some (36, true), .call .no (some 40) (.k (.fn n_spec_l1Le [])) [(.t 37), (.t 38), (.t 39)]),
 (none, .pick 41 (.t 36) (.t 40) (.k (.sc (.bool false)))),
 (none, .mv 4 .copy (.t 41))]))
 .ret))
theorem c_spec_l1One : codeOf Try.prog n_spec_l1One m_spec_l1One = some (k_spec_l1One, [.tmp 4], 42) := by kernel_rfl

/- loop.example/g03111/spec.l1Two -/
def m_spec_l1Two : List (Nat × List Md) := [(1, [.take, .copy, .copy, .copy, .take, .copy, .copy, .copy, .copy, .copy, .copy, .copy, .copy, .copy, .take, .copy, .copy, .copy, .copy, .copy, .copy, .take, .copy, .copy, .copy, .copy, .copy, .copy, .copy, .take]), (1000001, [.copy, .copy, .copy, .frz])]
def k_spec_l1Two : C := (.seq (.reg [(none, .box 3 (.t 0)),
 (none, .mv 6 .copy (.k (.sc (.bool false))))])
 (.seq (.seq (.frz 3)
 (.reg [(none, .load 7 .take true 4 (.t 3)),
 (none, .mv 8 .copy (.t 1)),
 (none, .mv 9 .copy (.t 2)),
 (none, .call .no (some 10) (.k (.fn n_spec_l1Add [])) [(.t 7), (.t 8), (.t 9)]),
 (none, .load 11 .take true 4 (.t 3)),
 (none, .mv 12 .copy (.t 2)),
 (none, .mv 13 .copy (.t 1)),
 (none, .call .no (some 14) (.k (.fn n_spec_l1Add [])) [(.t 11), (.t 12), (.t 13)]),
 (none, .bin 15 .num .eql (.t 10) (.t 14)),
 (none, .mv 16 .copy (.t 15)),
 (some (16, true), .mv 17 .copy (.t 1)),
 (some (16, true), .mv 18 .copy (.t 2)),
 (some (16, true), .bin 19 .num .eql (.t 17) (.t 18)),
 (some (16, true), .mv 20 .copy (.t 19)),
 (some (20, false), .load 21 .take true 4 (.t 3)),
 (some (20, false), .mv 22 .copy (.t 1)),
 (some (20, false), .mv 23 .copy (.t 2)),
 (some (20, false), .call .no (some 24) (.k (.fn n_spec_l1Le [])) [(.t 21), (.t 22), (.t 23)]),
 (some (20, false), .un 25 .not (.t 24)),
 (some (16, true), .pick 26 (.t 20) (.k (.sc (.bool true))) (.t 25)),
 (some (16, true), .mv 27 .copy (.t 26)),
 (some (27, false), .load 28 .take true 4 (.t 3)),
 (some (27, false), .mv 29 .copy (.t 2)),
 (some (27, false), .mv 30 .copy (.t 1)),
 (some (27, false), .call .no (some 31) (.k (.fn n_spec_l1Le [])) [(.t 28), (.t 29), (.t 30)]),
 (some (27, false), .un 32 .not (.t 31)),
 (some (16, true), .pick 33 (.t 27) (.k (.sc (.bool true))) (.t 32)),
 (none, .pick 34 (.t 16) (.t 33) (.k (.sc (.bool false)))),
 (none, .mv 35 .copy (.t 34)),
 (some (35, true), .load 36 .take true 4 (.t 3)),
 (some (35, true), .mv 37 .copy (.t 1)),
 (some (35, true), .mv 38 .copy (.t 2)),
 (some (35, true), .call .no (some 39) (.k (.fn n_spec_l1Join [])) [(.t 36), (.t 37), (.t 38)]),
 (some (35, true), .bin 40 .num .geq (.t 39) (.k (N 0))),
 (none, .pick 41 (.t 35) (.t 40) (.k (.sc (.bool false)))),
 (none, .mv 6 .copy (.t 41))]))
 .ret))
theorem c_spec_l1Two : codeOf Try.prog n_spec_l1Two m_spec_l1Two = some (k_spec_l1Two, [.tmp 6], 42) := by kernel_rfl

/- loop.example/g03111/spec.l1Three -/
def m_spec_l1Three : List (Nat × List Md) := [(1, [.take, .take, .copy, .copy, .copy, .copy, .copy, .take, .copy, .take, .copy, .copy, .copy, .copy, .copy, .copy, .take, .take, .copy, .copy, .copy, .copy, .copy, .take, .copy, .take]), (3, [.take, .copy, .take, .copy, .copy, .copy, .copy, .take, .take, .copy, .copy, .copy, .take, .copy, .copy, .copy, .copy, .copy, .copy, .take, .take, .copy, .copy, .copy, .copy, .copy, .take, .take, .copy, .copy, .copy, .take]), (5, [.take]), (7, [.take, .copy, .copy, .copy, .copy, .take]), (9, [.take, .take, .copy, .copy, .copy, .take, .copy, .copy, .copy, .copy, .copy, .take, .take, .copy, .copy, .copy, .take, .copy, .copy, .copy, .copy, .copy, .copy, .take, .take, .copy, .copy, .copy, .take]), (1000001, [.copy, .copy, .copy, .copy, .frz])]
def k_spec_l1Three : C := (.seq (.reg [(none, .box 4 (.t 0)),
 (none, .mv 8 .copy (.k (.sc (.bool false))))])
 (.seq (.seq (.seq (.frz 4)
 (.reg [(none, .load 9 .take true 4 (.t 4)),
 (none, .load 10 .take true 4 (.t 4)),
 (none, .mv 11 .copy (.t 1)),
 (none, .mv 12 .copy (.t 2)),
 (none, .call .no (some 13) (.k (.fn n_spec_l1Add [])) [(.t 10), (.t 11), (.t 12)]),
 (none, .mv 14 .copy (.t 3)),
 (none, .call .no (some 15) (.k (.fn n_spec_l1Add [])) [(.t 9), (.t 13), (.t 14)]),
 (none, .load 16 .take true 4 (.t 4)),
 (none, .mv 17 .copy (.t 1)),
 (none, .load 18 .take true 4 (.t 4)),
 (none, .mv 19 .copy (.t 2)),
 (none, .mv 20 .copy (.t 3)),
 (none, .call .no (some 21) (.k (.fn n_spec_l1Add [])) [(.t 18), (.t 19), (.t 20)]),
 (none, .call .no (some 22) (.k (.fn n_spec_l1Add [])) [(.t 16), (.t 17), (.t 21)]),
 (none, .bin 23 .num .neq (.t 15) (.t 22)),
 (none, .mv 24 .copy (.t 23)),
 (some (24, false), .load 25 .take true 4 (.t 4)),
 (some (24, false), .load 26 .take true 4 (.t 4)),
 (some (24, false), .mv 27 .copy (.t 1)),
 (some (24, false), .mv 28 .copy (.t 2)),
 (some (24, false), .call .no (some 29) (.k (.fn n_spec_l1Mul [])) [(.t 26), (.t 27), (.t 28)]),
 (some (24, false), .mv 30 .copy (.t 3)),
 (some (24, false), .call .no (some 31) (.k (.fn n_spec_l1Mul [])) [(.t 25), (.t 29), (.t 30)]),
 (some (24, false), .load 32 .take true 4 (.t 4)),
 (some (24, false), .mv 33 .copy (.t 1)),
 (some (24, false), .load 34 .take true 4 (.t 4)),
 (some (24, false), .mv 35 .copy (.t 2)),
 (some (24, false), .mv 36 .copy (.t 3)),
 (some (24, false), .call .no (some 37) (.k (.fn n_spec_l1Mul [])) [(.t 34), (.t 35), (.t 36)]),
 (some (24, false), .call .no (some 38) (.k (.fn n_spec_l1Mul [])) [(.t 32), (.t 33), (.t 37)]),
 (some (24, false), .bin 39 .num .neq (.t 31) (.t 38)),
 (none, .pick 40 (.t 24) (.k (.sc (.bool true))) (.t 39))]))
 (.cond (.t 40)
 (.seq (.reg [(none, .mv 8 .copy (.k (.sc (.bool false))))])
 .ret)
 .skip))
 (.seq (.seq (.reg [(none, .load 41 .take true 4 (.t 4)),
 (none, .mv 42 .copy (.t 1)),
 (none, .load 43 .take true 4 (.t 4)),
 (none, .mv 44 .copy (.t 2)),
 (none, .mv 45 .copy (.t 3)),
 (none, .call .no (some 46) (.k (.fn n_spec_l1Add [])) [(.t 43), (.t 44), (.t 45)]),
 (none, .call .no (some 47) (.k (.fn n_spec_l1Mul [])) [(.t 41), (.t 42), (.t 46)]),
 (none, .load 48 .take true 4 (.t 4)),
 (none, .load 49 .take true 4 (.t 4)),
 (none, .mv 50 .copy (.t 1)),
 (none, .mv 51 .copy (.t 2)),
 (none, .call .no (some 52) (.k (.fn n_spec_l1Mul [])) [(.t 49), (.t 50), (.t 51)]),
 (none, .load 53 .take true 4 (.t 4)),
 (none, .mv 54 .copy (.t 1)),
 (none, .mv 55 .copy (.t 3)),
 (none, .call .no (some 56) (.k (.fn n_spec_l1Mul [])) [(.t 53), (.t 54), (.t 55)]),
 (none, .call .no (some 57) (.k (.fn n_spec_l1Add [])) [(.t 48), (.t 52), (.t 56)]),
 (none, .bin 58 .num .neq (.t 47) (.t 57)),
 (none, .mv 59 .copy (.t 58)),
 (some (59, false), .load 60 .take true 4 (.t 4)),
 (some (59, false), .load 61 .take true 4 (.t 4)),
 (some (59, false), .mv 62 .copy (.t 1)),
 (some (59, false), .mv 63 .copy (.t 2)),
 (some (59, false), .call .no (some 64) (.k (.fn n_spec_l1Add [])) [(.t 61), (.t 62), (.t 63)]),
 (some (59, false), .mv 65 .copy (.t 3)),
 (some (59, false), .call .no (some 66) (.k (.fn n_spec_l1Mul [])) [(.t 60), (.t 64), (.t 65)]),
 (some (59, false), .load 67 .take true 4 (.t 4)),
 (some (59, false), .load 68 .take true 4 (.t 4)),
 (some (59, false), .mv 69 .copy (.t 1)),
 (some (59, false), .mv 70 .copy (.t 3)),
 (some (59, false), .call .no (some 71) (.k (.fn n_spec_l1Mul [])) [(.t 68), (.t 69), (.t 70)]),
 (some (59, false), .load 72 .take true 4 (.t 4)),
 (some (59, false), .mv 73 .copy (.t 2)),
 (some (59, false), .mv 74 .copy (.t 3)),
 (some (59, false), .call .no (some 75) (.k (.fn n_spec_l1Mul [])) [(.t 72), (.t 73), (.t 74)]),
 (some (59, false), .call .no (some 76) (.k (.fn n_spec_l1Add [])) [(.t 67), (.t 71), (.t 75)]),
 (some (59, false), .bin 77 .num .neq (.t 66) (.t 76)),
 (none, .pick 78 (.t 59) (.k (.sc (.bool true))) (.t 77))])
 (.cond (.t 78)
 (.seq (.reg [(none, .mv 8 .copy (.k (.sc (.bool false))))])
 .ret)
 .skip))
 (.seq (.seq (.reg [(none, .load 79 .take true 4 (.t 4)),
 (none, .mv 80 .copy (.t 1)),
 (none, .mv 81 .copy (.t 2)),
 (none, .call .no (some 82) (.k (.fn n_spec_l1Le [])) [(.t 79), (.t 80), (.t 81)]),
 (none, .un 83 .not (.t 82))])
 (.cond (.t 83)
 (.seq (.reg [(none, .mv 8 .copy (.k (.sc (.bool true))))])
 .ret)
 .skip))
 (.seq (.seq (.reg [(none, .load 84 .take true 4 (.t 4)),
 (none, .mv 85 .copy (.t 2)),
 (none, .mv 86 .copy (.t 3)),
 (none, .call .no (some 87) (.k (.fn n_spec_l1Le [])) [(.t 84), (.t 85), (.t 86)]),
 (none, .mv 88 .copy (.t 87)),
 (some (88, true), .load 89 .take true 4 (.t 4)),
 (some (88, true), .mv 90 .copy (.t 1)),
 (some (88, true), .mv 91 .copy (.t 3)),
 (some (88, true), .call .no (some 92) (.k (.fn n_spec_l1Le [])) [(.t 89), (.t 90), (.t 91)]),
 (some (88, true), .un 93 .not (.t 92)),
 (none, .pick 94 (.t 88) (.t 93) (.k (.sc (.bool false))))])
 (.cond (.t 94)
 (.seq (.reg [(none, .mv 8 .copy (.k (.sc (.bool false))))])
 .ret)
 .skip))
 (.seq (.reg [(none, .load 95 .take true 4 (.t 4)),
 (none, .load 96 .take true 4 (.t 4)),
 (none, .mv 97 .copy (.t 1)),
 (none, .mv 98 .copy (.t 3)),
 (none, .call .no (some 99) (.k (.fn n_spec_l1Add [])) [(.t 96), (.t 97), (.t 98)]),
 (none, .load 100 .take true 4 (.t 4)),
 (none, .mv 101 .copy (.t 2)),
 (none, .mv 102 .copy (.t 3)),
 (none, .call .no (some 103) (.k (.fn n_spec_l1Add [])) [(.t 100), (.t 101), (.t 102)]),
 (none, .call .no (some 104) (.k (.fn n_spec_l1Le [])) [(.t 95), (.t 99), (.t 103)]),
 (none, .mv 105 .copy (.t 104)),
 (some (105, true), .load 106 .take true 4 (.t 4)),
 (some (105, true), .load 107 .take true 4 (.t 4)),
 (some (105, true), .mv 108 .copy (.t 1)),
 (some (105, true), .mv 109 .copy (.t 3)),
 (some (105, true), .call .no (some 110) (.k (.fn n_spec_l1Mul [])) [(.t 107), (.t 108), (.t 109)]),
 (some (105, true), .load 111 .take true 4 (.t 4)),
 (some (105, true), .mv 112 .copy (.t 2)),
 (some (105, true), .mv 113 .copy (.t 3)),
 (some (105, true), .call .no (some 114) (.k (.fn n_spec_l1Mul [])) [(.t 111), (.t 112), (.t 113)]),
 (some (105, true), .call .no (some 115) (.k (.fn n_spec_l1Le [])) [(.t 106), (.t 110), (.t 114)]),
 (none, .pick 116 (.t 105) (.t 115) (.k (.sc (.bool false)))),
 (none, .mv 117 .copy (.t 116)),
 (some (117, true), .load 118 .take true 4 (.t 4)),
 (some (117, true), .load 119 .take true 4 (.t 4)),
 (some (117, true), .mv 120 .copy (.t 3)),
 (some (117, true), .mv 121 .copy (.t 1)),
 (some (117, true), .call .no (some 122) (.k (.fn n_spec_l1Mul [])) [(.t 119), (.t 120), (.t 121)]),
 (some (117, true), .load 123 .take true 4 (.t 4)),
 (some (117, true), .mv 124 .copy (.t 3)),
 (some (117, true), .mv 125 .copy (.t 2)),
 (some (117, true), .call .no (some 126) (.k (.fn n_spec_l1Mul [])) [(.t 123), (.t 124), (.t 125)]),
 (some (117, true), .call .no (some 127) (.k (.fn n_spec_l1Le [])) [(.t 118), (.t 122), (.t 126)]),
 (none, .pick 128 (.t 117) (.t 127) (.k (.sc (.bool false)))),
 (none, .mv 8 .copy (.t 128))])
 .ret))))))
theorem c_spec_l1Three : codeOf Try.prog n_spec_l1Three m_spec_l1Three = some (k_spec_l1Three, [.tmp 8], 129) := by kernel_rfl

/- loop.example/g03111/spec.l1Join -/
def m_spec_l1Join : List (Nat × List Md) := [(2, [.copy, .copy, .take]), (4, [.take, .copy, .copy, .copy, .copy, .take]), (6, [.copy, .copy, .take]), (8, [.take, .copy, .copy, .copy, .copy, .copy, .take, .copy, .copy, .copy, .copy, .copy, .copy, .take]), (1000001, [.copy, .copy, .copy, .frz])]
def k_spec_l1Join : C := (.seq (.reg [(none, .box 3 (.t 0)),
 (none, .mv 6 .copy (.k (N 0)))])
 (.seq (.seq (.seq (.frz 3)
 (.reg [(none, .mv 7 .copy (.k (N 0)))]))
 (.block 0 (.loop (.seq (.seq (.reg [(none, .mv 10 .copy (.t 7)),
 (none, .fieldA 11 0 (.t 3)),
 (none, .load 12 .take false 1 (.t 11)),
 (none, .bin 13 .num .lss (.t 10) (.t 12))])
 (.cond (.t 13)
 .skip
 (.exit 0)))
 (.seq (.block 1 (.seq (.reg [(none, .load 16 .take true 4 (.t 3)),
 (none, .mv 17 .copy (.t 1)),
 (none, .mv 18 .copy (.t 7)),
 (none, .call .no (some 19) (.k (.fn n_spec_l1Le [])) [(.t 16), (.t 17), (.t 18)]),
 (none, .mv 20 .copy (.t 19)),
 (some (20, true), .load 21 .take true 4 (.t 3)),
 (some (20, true), .mv 22 .copy (.t 2)),
 (some (20, true), .mv 23 .copy (.t 7)),
 (some (20, true), .call .no (some 24) (.k (.fn n_spec_l1Le [])) [(.t 21), (.t 22), (.t 23)]),
 (none, .pick 25 (.t 20) (.t 24) (.k (.sc (.bool false)))),
 (none, .mv 8 .copy (.t 25))])
 (.seq (.seq (.reg [(none, .mv 9 .copy (.k (N 0)))])
 (.block 2 (.loop (.seq (.seq (.reg [(none, .mv 26 .copy (.t 9)),
 (none, .fieldA 27 0 (.t 3)),
 (none, .load 28 .take false 1 (.t 27)),
 (none, .bin 29 .num .lss (.t 26) (.t 28)),
 (none, .mv 30 .copy (.t 29)),
 (some (30, true), .mv 31 .copy (.t 8)),
 (none, .pick 32 (.t 30) (.t 31) (.k (.sc (.bool false))))])
 (.cond (.t 32)
 .skip
 (.exit 2)))
 (.seq (.block 3 (.reg [(none, .load 35 .take true 4 (.t 3)),
 (none, .mv 36 .copy (.t 1)),
 (none, .mv 37 .copy (.t 9)),
 (none, .call .no (some 38) (.k (.fn n_spec_l1Le [])) [(.t 35), (.t 36), (.t 37)]),
 (none, .un 39 .not (.t 38)),
 (none, .mv 40 .copy (.t 39)),
 (some (40, false), .load 41 .take true 4 (.t 3)),
 (some (40, false), .mv 42 .copy (.t 2)),
 (some (40, false), .mv 43 .copy (.t 9)),
 (some (40, false), .call .no (some 44) (.k (.fn n_spec_l1Le [])) [(.t 41), (.t 42), (.t 43)]),
 (some (40, false), .un 45 .not (.t 44)),
 (none, .pick 46 (.t 40) (.k (.sc (.bool true))) (.t 45)),
 (none, .mv 47 .copy (.t 46)),
 (some (47, false), .load 48 .take true 4 (.t 3)),
 (some (47, false), .mv 49 .copy (.t 7)),
 (some (47, false), .mv 50 .copy (.t 9)),
 (some (47, false), .call .no (some 51) (.k (.fn n_spec_l1Le [])) [(.t 48), (.t 49), (.t 50)]),
 (none, .pick 52 (.t 47) (.k (.sc (.bool true))) (.t 51)),
 (none, .mv 8 .copy (.t 52))]))
 (.reg [(none, .mv 33 .copy (.t 9)),
 (none, .bin 34 .num .add (.t 33) (.k (N 1))),
 (none, .mv 9 .copy (.t 34))]))))))
 (.seq (.reg [(none, .mv 53 .copy (.t 8))])
 (.cond (.t 53)
 (.seq (.reg [(none, .mv 54 .copy (.t 7)),
 (none, .mv 6 .copy (.t 54))])
 .ret)
 .skip)))))
 (.reg [(none, .mv 14 .copy (.t 7)),
 (none, .bin 15 .num .add (.t 14) (.k (N 1))),
 (none, .mv 7 .copy (.t 15))]))))))
 (.seq (.reg [(none, .mv 6 .copy (.k (N (-1))))])
 .ret)))
theorem c_spec_l1Join : codeOf Try.prog n_spec_l1Join m_spec_l1Join = some (k_spec_l1Join, [.tmp 6], 55) := by kernel_rfl

end Go.Proofs.Yticcekapikfhaaa
