/- The code of single functions of the program, over trees. No conditions. -/
import Derived.Test.YtclfngbealdbgaaTLM
import Derived.Test.YtclfngbealdbgaaChecked
import Derived.KernelRfl
namespace Go.Proofs.Ytclfngbealdbgaa
open Go Go.TL
theorem mixed : Try.prog.follows .mixedOrders = true := by kernel_rfl
def n_laws_FnExactIsSession : FuncId := 3
def n_laws_szSession : FuncId := 4
def n_spec_IsSession : FuncId := 5
def n_laws_toSession : FuncId := 6
def n_impl_IsSession : FuncId := 7
def n_laws_eqSession : FuncId := 8
def n_laws_szSystem : FuncId := 9
def n_laws_szIntSS : FuncId := 10
def n_laws_szTerm : FuncId := 11
def n_spec_IsSystem : FuncId := 12
def n_spec_l3Context : FuncId := 13
def n_spec_IsWritten : FuncId := 14
def n_laws_toSystem : FuncId := 15
def n_laws_toIntSS : FuncId := 16
def n_laws_toTerm : FuncId := 17
def n_impl_IsSystem : FuncId := 18
def n_impl_isContext : FuncId := 19
def n_impl_IsWritten : FuncId := 20
def n_laws_eqSystem : FuncId := 21
def n_laws_eqIntSS : FuncId := 22
def n_laws_eqTerm : FuncId := 23
def n_laws_szIntS : FuncId := 24
def n_laws_szBoolS : FuncId := 25
def n_laws_szTermS : FuncId := 26
def n_spec_l1Tables : FuncId := 27
def n_spec_l1One : FuncId := 28
def n_spec_l1Two : FuncId := 29
def n_spec_l1Three : FuncId := 30
def n_spec_l2Type : FuncId := 31
def n_spec_l2Graded : FuncId := 32
def n_spec_l2Left : FuncId := 33
def n_spec_l2Term : FuncId := 34
def n_laws_toIntS : FuncId := 35
def n_laws_toBoolS : FuncId := 36
def n_laws_toTermS : FuncId := 37
def n_impl_within : FuncId := 38
def n__impl_System__has : FuncId := 39
def n__impl_System__plus : FuncId := 40
def n__impl_System__times : FuncId := 41
def n__impl_System__below : FuncId := 42
def n__impl_System__join : FuncId := 43
def n__impl_System__lawsOf : FuncId := 44
def n_slices_ContainsFunc_____int___int_ : FuncId := 45
def n_impl_isContext_1 : FuncId := 46
def n_impl_isTypeOf : FuncId := 47
def n_impl_writtenSize : FuncId := 48
def n_laws_eqIntS : FuncId := 49
def n_laws_eqBoolS : FuncId := 50
def n_laws_eqTermS : FuncId := 51
def n_spec_l1In : FuncId := 52
def n_spec_l1Add : FuncId := 53
def n_spec_l1Mul : FuncId := 54
def n_spec_l1Le : FuncId := 55
def n_spec_l1Join : FuncId := 56
def n_spec_l2End : FuncId := 57
def n_spec_l2Kids : FuncId := 58
def n_spec_l2Grade : FuncId := 59
def n_spec_l2Node : FuncId := 60
def n_spec_l2Adds : FuncId := 61
def n_slices_IndexFunc_____int___int_ : FuncId := 62
def n_impl_isWrittenType : FuncId := 63
def n_impl_shape : FuncId := 64
def n_impl_check : FuncId := 65
def n_impl_writtenSize_1 : FuncId := 66
def n_spec_l2Arrow : FuncId := 67
def n_spec_l2Box : FuncId := 68
def n_spec_l2Many : FuncId := 69
def n_spec_l2Has : FuncId := 70
def n_spec_l2Typed : FuncId := 71
def n_impl_typeEnd : FuncId := 72
def n_impl_formOf : FuncId := 73
def n_impl_adds : FuncId := 74
/- loop.example/g03111/laws.FnExactIsSession -/
def m_laws_FnExactIsSession : List (Nat × List Md) := [(2, [.take]), (5, [.take]), (6, [.take]), (7, [.take]), (10, [.take, .take]), (1000001, [.copy, .frz]), (2000006, [.copy, .copy, .copy, .copy, .copy, .frz])]
def k_laws_FnExactIsSession : C := (.seq (.reg [(none, .box 1 (.t 0)),
 (none, .mv 2 .copy (.k (.sc (.bool false))))])
 (.seq (.seq (.frz 1)
 (.reg [(none, .mv 3 .copy (.k (N 1048576)))]))
 (.seq (.reg [(none, .load 7 .take true 9 (.t 1)),
 (none, .mv 8 .copy (.t 3)),
 (none, .call false (some 9) (.k (.fn n_laws_szSession [])) [(.t 7), (.t 8)]),
 (none, .mv 3 .copy (.t 9))])
 (.seq (.seq (.reg [(none, .mv 10 .copy (.t 3)),
 (none, .bin 11 .num .lss (.t 10) (.k (N 0)))])
 (.cond (.t 11)
 (.seq (.reg [(none, .mv 2 .copy (.k (.sc (.bool true))))])
 .ret)
 .skip))
 (.seq (.reg [(none, .load 12 .take true 9 (.t 1)),
 (none, .call false (some 13) (.k (.fn n_laws_toSession [])) [(.t 12)]),
 (none, .call false (some 14) (.k (.fn n_spec_IsSession [])) [(.t 13)]),
 (none, .mv 4 .copy (.t 14))])
 (.seq (.seq (.reg [(none, .load 15 .take true 9 (.t 1)),
 (none, .call false (some 16) (.k (.fn n_laws_toSession [])) [(.t 15)]),
 (none, .alloc 5 [(N 0), (.sl true true 1 []), (.sl true true 1 []), (.sl true true 1 []), (.sl true true 1 []), (N 0), (N 0), (.sl true true 1 []), (.sl true true 1 [])]),
 (none, .store 9 (.t 5) (.t 16))])
 (.frz 5))
 (.seq (.reg [(none, .load 17 .take true 9 (.t 5)),
 (none, .call false (some 18) (.k (.fn n_impl_IsSession [])) [(.t 17)]),
 (none, .mv 6 .copy (.t 18))])
 (.seq (.seq (.reg [(none, .mv 19 .copy (.t 6)),
 (none, .mv 20 .copy (.t 4)),
 (none, .bin 21 .bool .neq (.t 19) (.t 20))])
 (.cond (.t 21)
 (.seq (.reg [(none, .mv 2 .copy (.k (.sc (.bool false))))])
 .ret)
 .skip))
 (.seq (.seq (.reg [(none, .load 22 .take true 9 (.t 5)),
 (none, .load 23 .take true 9 (.t 1)),
 (none, .call false (some 24) (.k (.fn n_laws_toSession [])) [(.t 23)]),
 (none, .call false (some 25) (.k (.fn n_laws_eqSession [])) [(.t 22), (.t 24)]),
 (none, .un 26 .not (.t 25))])
 (.cond (.t 26)
 (.seq (.reg [(none, .mv 2 .copy (.k (.sc (.bool false))))])
 .ret)
 .skip))
 (.seq (.reg [(none, .mv 2 .copy (.k (.sc (.bool true))))])
 .ret))))))))))
theorem c_laws_FnExactIsSession : codeOf Try.prog n_laws_FnExactIsSession m_laws_FnExactIsSession = some (k_laws_FnExactIsSession, [.tmp 2], 27) := by kernel_rfl

/- loop.example/g03111/laws.szSession -/
def m_laws_szSession : List (Nat × List Md) := [(1, [.copy, .take]), (4, [.copy, .take]), (7, [.copy, .take]), (1000001, [.copy, .copy, .frz])]
def k_laws_szSession : C := (.seq (.reg [(none, .box 2 (.t 0)),
 (none, .mv 4 .copy (.k (N 0)))])
 (.seq (.seq (.frz 2)
 (.reg [(none, .fieldA 5 0 (.t 2)),
 (none, .load 6 .take true 4 (.t 5)),
 (none, .mv 7 .copy (.t 1)),
 (none, .call false (some 8) (.k (.fn n_laws_szSystem [])) [(.t 6), (.t 7)]),
 (none, .mv 1 .copy (.t 8))]))
 (.seq (.seq (.reg [(none, .mv 9 .copy (.t 1)),
 (none, .bin 10 .num .lss (.t 9) (.k (N 0)))])
 (.cond (.t 10)
 (.seq (.reg [(none, .mv 4 .copy (.k (N (-1))))])
 .ret)
 .skip))
 (.seq (.reg [(none, .fieldA 11 4 (.t 2)),
 (none, .load 12 .take false 1 (.t 11)),
 (none, .mv 13 .copy (.t 1)),
 (none, .call false (some 14) (.k (.fn n_laws_szIntSS [])) [(.t 12), (.t 13)]),
 (none, .mv 1 .copy (.t 14))])
 (.seq (.seq (.reg [(none, .mv 15 .copy (.t 1)),
 (none, .bin 16 .num .lss (.t 15) (.k (N 0)))])
 (.cond (.t 16)
 (.seq (.reg [(none, .mv 4 .copy (.k (N (-1))))])
 .ret)
 .skip))
 (.seq (.reg [(none, .fieldA 17 5 (.t 2)),
 (none, .load 18 .take true 4 (.t 17)),
 (none, .mv 19 .copy (.t 1)),
 (none, .call false (some 20) (.k (.fn n_laws_szTerm [])) [(.t 18), (.t 19)]),
 (none, .mv 1 .copy (.t 20))])
 (.seq (.seq (.reg [(none, .mv 21 .copy (.t 1)),
 (none, .bin 22 .num .lss (.t 21) (.k (N 0)))])
 (.cond (.t 22)
 (.seq (.reg [(none, .mv 4 .copy (.k (N (-1))))])
 .ret)
 .skip))
 (.seq (.reg [(none, .mv 23 .copy (.t 1)),
 (none, .mv 4 .copy (.t 23))])
 .ret))))))))
theorem c_laws_szSession : codeOf Try.prog n_laws_szSession m_laws_szSession = some (k_laws_szSession, [.tmp 4], 24) := by kernel_rfl

/- loop.example/g03111/spec.IsSession -/
def m_spec_IsSession : List (Nat × List Md) := [(1, [.copy, .take, .copy, .copy, .copy, .take, .copy, .take, .copy, .copy, .copy, .copy, .take]), (1000001, [.copy, .frz])]
def k_spec_IsSession : C := (.seq (.reg [(none, .box 1 (.t 0)),
 (none, .mv 2 .copy (.k (.sc (.bool false))))])
 (.seq (.seq (.frz 1)
 (.reg [(none, .fieldA 3 0 (.t 1)),
 (none, .load 4 .take true 4 (.t 3)),
 (none, .call false (some 5) (.k (.fn n_spec_IsSystem [])) [(.t 4)]),
 (none, .mv 6 .copy (.t 5)),
 (some (6, true), .fieldA 7 0 (.t 1)),
 (some (6, true), .load 8 .take true 4 (.t 7)),
 (some (6, true), .fieldA 9 4 (.t 1)),
 (some (6, true), .load 10 .take false 1 (.t 9)),
 (some (6, true), .call false (some 11) (.k (.fn n_spec_l3Context [])) [(.t 8), (.t 10)]),
 (none, .pick 12 (.t 6) (.t 11) (.k (.sc (.bool false)))),
 (none, .mv 13 .copy (.t 12)),
 (some (13, true), .fieldA 14 5 (.t 1)),
 (some (13, true), .load 15 .take true 4 (.t 14)),
 (some (13, true), .call false (some 16) (.k (.fn n_spec_IsWritten [])) [(.t 15)]),
 (none, .pick 17 (.t 13) (.t 16) (.k (.sc (.bool false)))),
 (none, .mv 2 .copy (.t 17))]))
 .ret))
theorem c_spec_IsSession : codeOf Try.prog n_spec_IsSession m_spec_IsSession = some (k_spec_IsSession, [.tmp 2], 18) := by kernel_rfl

/- loop.example/g03111/laws.toSession -/
def m_laws_toSession : List (Nat × List Md) := [(2, [.copy, .take]), (3, [.copy, .take]), (4, [.copy, .take]), (5, [.frz]), (1000001, [.copy, .frz])]
def k_laws_toSession : C := (.seq (.reg [(none, .box 1 (.t 0)),
 (none, .alloc 2 [(N 0), (.sl true true 1 []), (.sl true true 1 []), (.sl true true 1 []), (.sl true true 1 []), (N 0), (N 0), (.sl true true 1 []), (.sl true true 1 [])])])
 (.seq (.seq (.frz 1)
 (.reg [(none, .alloc 3 [(N 0), (.sl true true 1 []), (.sl true true 1 []), (.sl true true 1 []), (.sl true true 1 []), (N 0), (N 0), (.sl true true 1 []), (.sl true true 1 [])])]))
 (.seq (.reg [(none, .fieldA 4 0 (.t 1)),
 (none, .load 5 .take true 4 (.t 4)),
 (none, .call false (some 6) (.k (.fn n_laws_toSystem [])) [(.t 5)]),
 (none, .fieldA 7 0 (.t 3)),
 (none, .store 4 (.t 7) (.t 6))])
 (.seq (.reg [(none, .fieldA 8 4 (.t 1)),
 (none, .load 9 .take false 1 (.t 8)),
 (none, .call false (some 10) (.k (.fn n_laws_toIntSS [])) [(.t 9)]),
 (none, .fieldA 11 4 (.t 3)),
 (none, .store 1 (.t 11) (.t 10))])
 (.seq (.reg [(none, .fieldA 12 5 (.t 1)),
 (none, .load 13 .take true 4 (.t 12)),
 (none, .call false (some 14) (.k (.fn n_laws_toTerm [])) [(.t 13)]),
 (none, .fieldA 15 5 (.t 3)),
 (none, .store 4 (.t 15) (.t 14))])
 (.seq (.reg [(none, .load 16 .frz true 9 (.t 3)),
 (none, .store 9 (.t 2) (.t 16))])
 .ret))))))
theorem c_laws_toSession : codeOf Try.prog n_laws_toSession m_laws_toSession = some (k_laws_toSession, [.cell 2 true 9], 17) := by kernel_rfl

/- loop.example/g03111/impl.IsSession -/
def m_impl_IsSession : List (Nat × List Md) := [(1, [.copy, .take, .copy, .copy, .copy, .take, .copy, .take, .copy, .copy, .copy, .copy, .take]), (1000001, [.copy, .frz])]
def k_impl_IsSession : C := (.seq (.reg [(none, .box 1 (.t 0)),
 (none, .mv 2 .copy (.k (.sc (.bool false))))])
 (.seq (.seq (.frz 1)
 (.reg [(none, .fieldA 3 0 (.t 1)),
 (none, .load 4 .take true 4 (.t 3)),
 (none, .call false (some 5) (.k (.fn n_impl_IsSystem [])) [(.t 4)]),
 (none, .mv 6 .copy (.t 5)),
 (some (6, true), .fieldA 7 0 (.t 1)),
 (some (6, true), .load 8 .take true 4 (.t 7)),
 (some (6, true), .fieldA 9 4 (.t 1)),
 (some (6, true), .load 10 .take false 1 (.t 9)),
 (some (6, true), .call false (some 11) (.k (.fn n_impl_isContext [])) [(.t 8), (.t 10)]),
 (none, .pick 12 (.t 6) (.t 11) (.k (.sc (.bool false)))),
 (none, .mv 13 .copy (.t 12)),
 (some (13, true), .fieldA 14 5 (.t 1)),
 (some (13, true), .load 15 .take true 4 (.t 14)),
 (some (13, true), .call false (some 16) (.k (.fn n_impl_IsWritten [])) [(.t 15)]),
 (none, .pick 17 (.t 13) (.t 16) (.k (.sc (.bool false)))),
 (none, .mv 2 .copy (.t 17))]))
 .ret))
theorem c_impl_IsSession : codeOf Try.prog n_impl_IsSession m_impl_IsSession = some (k_impl_IsSession, [.tmp 2], 18) := by kernel_rfl

/- loop.example/g03111/laws.eqSession -/
def m_laws_eqSession : List (Nat × List Md) := [(1, [.copy, .take, .copy, .take]), (3, [.copy, .take, .copy, .take]), (5, [.copy, .take, .copy, .take]), (1000001, [.copy, .copy, .frz, .frz])]
def k_laws_eqSession : C := (.seq (.reg [(none, .box 2 (.t 0)),
 (none, .box 3 (.t 1)),
 (none, .mv 4 .copy (.k (.sc (.bool false))))])
 (.seq (.seq (.seq (.frz 2)
 (.seq (.frz 3)
 (.reg [(none, .fieldA 5 0 (.t 2)),
 (none, .load 6 .take true 4 (.t 5)),
 (none, .fieldA 7 0 (.t 3)),
 (none, .load 8 .take true 4 (.t 7)),
 (none, .call false (some 9) (.k (.fn n_laws_eqSystem [])) [(.t 6), (.t 8)]),
 (none, .un 10 .not (.t 9))])))
 (.cond (.t 10)
 (.seq (.reg [(none, .mv 4 .copy (.k (.sc (.bool false))))])
 .ret)
 .skip))
 (.seq (.seq (.reg [(none, .fieldA 11 4 (.t 2)),
 (none, .load 12 .take false 1 (.t 11)),
 (none, .fieldA 13 4 (.t 3)),
 (none, .load 14 .take false 1 (.t 13)),
 (none, .call false (some 15) (.k (.fn n_laws_eqIntSS [])) [(.t 12), (.t 14)]),
 (none, .un 16 .not (.t 15))])
 (.cond (.t 16)
 (.seq (.reg [(none, .mv 4 .copy (.k (.sc (.bool false))))])
 .ret)
 .skip))
 (.seq (.seq (.reg [(none, .fieldA 17 5 (.t 2)),
 (none, .load 18 .take true 4 (.t 17)),
 (none, .fieldA 19 5 (.t 3)),
 (none, .load 20 .take true 4 (.t 19)),
 (none, .call false (some 21) (.k (.fn n_laws_eqTerm [])) [(.t 18), (.t 20)]),
 (none, .un 22 .not (.t 21))])
 (.cond (.t 22)
 (.seq (.reg [(none, .mv 4 .copy (.k (.sc (.bool false))))])
 .ret)
 .skip))
 (.seq (.reg [(none, .mv 4 .copy (.k (.sc (.bool true))))])
 .ret)))))
theorem c_laws_eqSession : codeOf Try.prog n_laws_eqSession m_laws_eqSession = some (k_laws_eqSession, [.tmp 4], 23) := by kernel_rfl

/- loop.example/g03111/laws.szSystem -/
def m_laws_szSystem : List (Nat × List Md) := [(1, [.copy, .take]), (4, [.copy, .take]), (7, [.copy, .take]), (1000001, [.copy, .copy, .frz])]
def k_laws_szSystem : C := (.seq (.reg [(none, .box 2 (.t 0)),
 (none, .mv 4 .copy (.k (N 0)))])
 (.seq (.seq (.frz 2)
 (.reg [(none, .fieldA 5 1 (.t 2)),
 (none, .load 6 .take false 1 (.t 5)),
 (none, .mv 7 .copy (.t 1)),
 (none, .call false (some 8) (.k (.fn n_laws_szIntS [])) [(.t 6), (.t 7)]),
 (none, .mv 1 .copy (.t 8))]))
 (.seq (.seq (.reg [(none, .mv 9 .copy (.t 1)),
 (none, .bin 10 .num .lss (.t 9) (.k (N 0)))])
 (.cond (.t 10)
 (.seq (.reg [(none, .mv 4 .copy (.k (N (-1))))])
 .ret)
 .skip))
 (.seq (.reg [(none, .fieldA 11 2 (.t 2)),
 (none, .load 12 .take false 1 (.t 11)),
 (none, .mv 13 .copy (.t 1)),
 (none, .call false (some 14) (.k (.fn n_laws_szIntS [])) [(.t 12), (.t 13)]),
 (none, .mv 1 .copy (.t 14))])
 (.seq (.seq (.reg [(none, .mv 15 .copy (.t 1)),
 (none, .bin 16 .num .lss (.t 15) (.k (N 0)))])
 (.cond (.t 16)
 (.seq (.reg [(none, .mv 4 .copy (.k (N (-1))))])
 .ret)
 .skip))
 (.seq (.reg [(none, .fieldA 17 3 (.t 2)),
 (none, .load 18 .take false 1 (.t 17)),
 (none, .mv 19 .copy (.t 1)),
 (none, .call false (some 20) (.k (.fn n_laws_szBoolS [])) [(.t 18), (.t 19)]),
 (none, .mv 1 .copy (.t 20))])
 (.seq (.seq (.reg [(none, .mv 21 .copy (.t 1)),
 (none, .bin 22 .num .lss (.t 21) (.k (N 0)))])
 (.cond (.t 22)
 (.seq (.reg [(none, .mv 4 .copy (.k (N (-1))))])
 .ret)
 .skip))
 (.seq (.reg [(none, .mv 23 .copy (.t 1)),
 (none, .mv 4 .copy (.t 23))])
 .ret))))))))
theorem c_laws_szSystem : codeOf Try.prog n_laws_szSystem m_laws_szSystem = some (k_laws_szSystem, [.tmp 4], 24) := by kernel_rfl

/- loop.example/g03111/laws.szIntSS -/
def m_laws_szIntSS : List (Nat × List Md) := []
def k_laws_szIntSS : C := (.seq (.reg [(none, .mv 4 .copy (.k (N 0)))])
 (.seq (.reg [(none, .mv 6 .copy (.t 1)),
 (none, .mv 7 .copy (.t 0)),
 (none, .len 8 (.t 7)),
 (none, .bin 9 .num .sub (.t 6) (.t 8)),
 (none, .mv 1 .copy (.t 9))])
 (.seq (.seq (.reg [(none, .mv 10 .copy (.t 1)),
 (none, .bin 11 .num .lss (.t 10) (.k (N 0)))])
 (.cond (.t 11)
 (.seq (.reg [(none, .mv 4 .copy (.k (N (-1))))])
 .ret)
 .skip))
 (.seq (.seq (.reg [(none, .mv 5 .copy (.k (N 0)))])
 (.block 0 (.loop (.seq (.seq (.reg [(none, .mv 12 .copy (.t 5)),
 (none, .mv 13 .copy (.t 0)),
 (none, .len 14 (.t 13)),
 (none, .bin 15 .num .lss (.t 12) (.t 14))])
 (.cond (.t 15)
 .skip
 (.exit 0)))
 (.seq (.block 1 (.seq (.reg [(none, .mv 18 .copy (.t 0)),
 (none, .mv 19 .copy (.t 5)),
 (none, .indexA 20 1 (.t 18) (.t 19)),
 (none, .load 21 .copy false 1 (.t 20)),
 (none, .mv 22 .copy (.t 1)),
 (none, .call false (some 23) (.k (.fn n_laws_szIntS [])) [(.t 21), (.t 22)]),
 (none, .mv 1 .copy (.t 23))])
 (.seq (.reg [(none, .mv 24 .copy (.t 1)),
 (none, .bin 25 .num .lss (.t 24) (.k (N 0)))])
 (.cond (.t 25)
 (.seq (.reg [(none, .mv 4 .copy (.k (N (-1))))])
 .ret)
 .skip))))
 (.reg [(none, .mv 16 .copy (.t 5)),
 (none, .bin 17 .num .add (.t 16) (.k (N 1))),
 (none, .mv 5 .copy (.t 17))]))))))
 (.seq (.reg [(none, .mv 26 .copy (.t 1)),
 (none, .mv 4 .copy (.t 26))])
 .ret)))))
theorem c_laws_szIntSS : codeOf Try.prog n_laws_szIntSS m_laws_szIntSS = some (k_laws_szIntSS, [.tmp 4], 27) := by kernel_rfl

/- loop.example/g03111/laws.szTerm -/
def m_laws_szTerm : List (Nat × List Md) := [(1, [.copy, .take]), (4, [.copy, .take]), (1000001, [.copy, .copy, .frz])]
def k_laws_szTerm : C := (.seq (.reg [(none, .box 2 (.t 0)),
 (none, .mv 4 .copy (.k (N 0)))])
 (.seq (.seq (.frz 2)
 (.reg [(none, .fieldA 5 2 (.t 2)),
 (none, .load 6 .take false 1 (.t 5)),
 (none, .mv 7 .copy (.t 1)),
 (none, .call false (some 8) (.k (.fn n_laws_szIntS [])) [(.t 6), (.t 7)]),
 (none, .mv 1 .copy (.t 8))]))
 (.seq (.seq (.reg [(none, .mv 9 .copy (.t 1)),
 (none, .bin 10 .num .lss (.t 9) (.k (N 0)))])
 (.cond (.t 10)
 (.seq (.reg [(none, .mv 4 .copy (.k (N (-1))))])
 .ret)
 .skip))
 (.seq (.reg [(none, .fieldA 11 3 (.t 2)),
 (none, .load 12 .take false 1 (.t 11)),
 (none, .mv 13 .copy (.t 1)),
 (none, .call false (some 14) (.k (.fn n_laws_szTermS [])) [(.t 12), (.t 13)]),
 (none, .mv 1 .copy (.t 14))])
 (.seq (.seq (.reg [(none, .mv 15 .copy (.t 1)),
 (none, .bin 16 .num .lss (.t 15) (.k (N 0)))])
 (.cond (.t 16)
 (.seq (.reg [(none, .mv 4 .copy (.k (N (-1))))])
 .ret)
 .skip))
 (.seq (.reg [(none, .mv 17 .copy (.t 1)),
 (none, .mv 4 .copy (.t 17))])
 .ret))))))
theorem c_laws_szTerm : codeOf Try.prog n_laws_szTerm m_laws_szTerm = some (k_laws_szTerm, [.tmp 4], 18) := by kernel_rfl

/- loop.example/g03111/spec.IsSystem -/
def m_spec_IsSystem : List (Nat × List Md) := [(1, [.take]), (4, [.copy, .copy, .take]), (6, [.take]), (9, [.copy, .copy, .take]), (11, [.take]), (14, [.copy, .copy, .take]), (16, [.take]), (1000001, [.copy, .frz])]
def k_spec_IsSystem : C := (.seq (.reg [(none, .box 1 (.t 0)),
 (none, .mv 2 .copy (.k (.sc (.bool false))))])
 (.seq (.seq (.seq (.frz 1)
 (.reg [(none, .load 6 .take true 4 (.t 1)),
 (none, .call false (some 7) (.k (.fn n_spec_l1Tables [])) [(.t 6)]),
 (none, .un 8 .not (.t 7))]))
 (.cond (.t 8)
 (.seq (.reg [(none, .mv 2 .copy (.k (.sc (.bool false))))])
 .ret)
 .skip))
 (.seq (.seq (.reg [(none, .mv 3 .copy (.k (N 0)))])
 (.block 0 (.loop (.seq (.seq (.reg [(none, .mv 9 .copy (.t 3)),
 (none, .fieldA 10 0 (.t 1)),
 (none, .load 11 .take false 1 (.t 10)),
 (none, .bin 12 .num .lss (.t 9) (.t 11))])
 (.cond (.t 12)
 .skip
 (.exit 0)))
 (.seq (.block 1 (.seq (.seq (.reg [(none, .load 15 .take true 4 (.t 1)),
 (none, .mv 16 .copy (.t 3)),
 (none, .call false (some 17) (.k (.fn n_spec_l1One [])) [(.t 15), (.t 16)]),
 (none, .un 18 .not (.t 17))])
 (.cond (.t 18)
 (.seq (.reg [(none, .mv 2 .copy (.k (.sc (.bool false))))])
 .ret)
 .skip))
 (.seq (.reg [(none, .mv 4 .copy (.k (N 0)))])
 (.block 2 (.loop (.seq (.seq (.reg [(none, .mv 19 .copy (.t 4)),
 (none, .fieldA 20 0 (.t 1)),
 (none, .load 21 .take false 1 (.t 20)),
 (none, .bin 22 .num .lss (.t 19) (.t 21))])
 (.cond (.t 22)
 .skip
 (.exit 2)))
 (.seq (.block 3 (.seq (.seq (.reg [(none, .load 25 .take true 4 (.t 1)),
 (none, .mv 26 .copy (.t 3)),
 (none, .mv 27 .copy (.t 4)),
 (none, .call false (some 28) (.k (.fn n_spec_l1Two [])) [(.t 25), (.t 26), (.t 27)]),
 (none, .un 29 .not (.t 28))])
 (.cond (.t 29)
 (.seq (.reg [(none, .mv 2 .copy (.k (.sc (.bool false))))])
 .ret)
 .skip))
 (.seq (.reg [(none, .mv 5 .copy (.k (N 0)))])
 (.block 4 (.loop (.seq (.seq (.reg [(none, .mv 30 .copy (.t 5)),
 (none, .fieldA 31 0 (.t 1)),
 (none, .load 32 .take false 1 (.t 31)),
 (none, .bin 33 .num .lss (.t 30) (.t 32))])
 (.cond (.t 33)
 .skip
 (.exit 4)))
 (.seq (.block 5 (.seq (.reg [(none, .load 36 .take true 4 (.t 1)),
 (none, .mv 37 .copy (.t 3)),
 (none, .mv 38 .copy (.t 4)),
 (none, .mv 39 .copy (.t 5)),
 (none, .call false (some 40) (.k (.fn n_spec_l1Three [])) [(.t 36), (.t 37), (.t 38), (.t 39)]),
 (none, .un 41 .not (.t 40))])
 (.cond (.t 41)
 (.seq (.reg [(none, .mv 2 .copy (.k (.sc (.bool false))))])
 .ret)
 .skip)))
 (.reg [(none, .mv 34 .copy (.t 5)),
 (none, .bin 35 .num .add (.t 34) (.k (N 1))),
 (none, .mv 5 .copy (.t 35))]))))))))
 (.reg [(none, .mv 23 .copy (.t 4)),
 (none, .bin 24 .num .add (.t 23) (.k (N 1))),
 (none, .mv 4 .copy (.t 24))]))))))))
 (.reg [(none, .mv 13 .copy (.t 3)),
 (none, .bin 14 .num .add (.t 13) (.k (N 1))),
 (none, .mv 3 .copy (.t 14))]))))))
 (.seq (.reg [(none, .mv 2 .copy (.k (.sc (.bool true))))])
 .ret))))
theorem c_spec_IsSystem : codeOf Try.prog n_spec_IsSystem m_spec_IsSystem = some (k_spec_IsSystem, [.tmp 2], 42) := by kernel_rfl

/- loop.example/g03111/spec.l3Context -/
def m_spec_l3Context : List (Nat × List Md) := [(6, [.copy, .copy, .copy, .copy, .copy, .copy, .copy, .copy, .copy, .copy, .copy, .copy, .take]), (1000001, [.copy, .copy, .frz])]
def k_spec_l3Context : C := (.seq (.reg [(none, .box 2 (.t 0)),
 (none, .mv 4 .copy (.k (.sc (.bool false))))])
 (.seq (.seq (.seq (.frz 2)
 (.reg [(none, .mv 6 .copy (.t 1)),
 (none, .len 7 (.t 6)),
 (none, .bin 8 .num .gtr (.t 7) (.k (N 8)))]))
 (.cond (.t 8)
 (.seq (.reg [(none, .mv 4 .copy (.k (.sc (.bool false))))])
 .ret)
 .skip))
 (.seq (.seq (.reg [(none, .mv 5 .copy (.k (N 0)))])
 (.block 0 (.loop (.seq (.seq (.reg [(none, .mv 9 .copy (.t 5)),
 (none, .mv 10 .copy (.t 1)),
 (none, .len 11 (.t 10)),
 (none, .bin 12 .num .lss (.t 9) (.t 11))])
 (.cond (.t 12)
 .skip
 (.exit 0)))
 (.seq (.block 1 (.seq (.reg [(none, .mv 15 .copy (.t 1)),
 (none, .mv 16 .copy (.t 5)),
 (none, .indexA 17 1 (.t 15) (.t 16)),
 (none, .load 18 .copy false 1 (.t 17)),
 (none, .call false (some 19) (.k (.fn n_spec_l2Type [])) [(.t 18)]),
 (none, .un 20 .not (.t 19)),
 (none, .mv 21 .copy (.t 20)),
 (some (21, false), .mv 22 .copy (.t 1)),
 (some (21, false), .mv 23 .copy (.t 5)),
 (some (21, false), .indexA 24 1 (.t 22) (.t 23)),
 (some (21, false), .load 25 .copy false 1 (.t 24)),
 (some (21, false), .fieldA 26 0 (.t 2)),
 (some (21, false), .load 27 .take false 1 (.t 26)),
 (some (21, false), .call false (some 28) (.k (.fn n_spec_l2Graded [])) [(.t 25), (.t 27), (.k (.sc (.bool true)))]),
 (some (21, false), .un 29 .not (.t 28)),
 (none, .pick 30 (.t 21) (.k (.sc (.bool true))) (.t 29))])
 (.cond (.t 30)
 (.seq (.reg [(none, .mv 4 .copy (.k (.sc (.bool false))))])
 .ret)
 .skip)))
 (.reg [(none, .mv 13 .copy (.t 5)),
 (none, .bin 14 .num .add (.t 13) (.k (N 1))),
 (none, .mv 5 .copy (.t 14))]))))))
 (.seq (.reg [(none, .mv 4 .copy (.k (.sc (.bool true))))])
 .ret))))
theorem c_spec_l3Context : codeOf Try.prog n_spec_l3Context m_spec_l3Context = some (k_spec_l3Context, [.tmp 4], 31) := by kernel_rfl

/- loop.example/g03111/spec.IsWritten -/
def m_spec_IsWritten : List (Nat × List Md) := [(1, [.take, .copy, .copy, .copy, .take]), (1000001, [.copy, .frz])]
def k_spec_IsWritten : C := (.seq (.reg [(none, .box 1 (.t 0)),
 (none, .mv 2 .copy (.k (.sc (.bool false))))])
 (.seq (.seq (.frz 1)
 (.reg [(none, .load 3 .take true 4 (.t 1)),
 (none, .call false (some 4) (.k (.fn n_spec_l2Left [])) [(.t 3), (.k (N 400))]),
 (none, .bin 5 .num .geq (.t 4) (.k (N 0))),
 (none, .mv 6 .copy (.t 5)),
 (some (6, true), .load 7 .take true 4 (.t 1)),
 (some (6, true), .call false (some 8) (.k (.fn n_spec_l2Term [])) [(.t 7), (.k (N 8)), (.k (N 16)), (.k (.sc (.bool false)))]),
 (none, .pick 9 (.t 6) (.t 8) (.k (.sc (.bool false)))),
 (none, .mv 2 .copy (.t 9))]))
 .ret))
theorem c_spec_IsWritten : codeOf Try.prog n_spec_IsWritten m_spec_IsWritten = some (k_spec_IsWritten, [.tmp 2], 10) := by kernel_rfl

/- loop.example/g03111/laws.toSystem -/
def m_laws_toSystem : List (Nat × List Md) := [(2, [.copy, .take]), (3, [.copy, .take]), (4, [.copy, .take]), (5, [.copy, .take]), (6, [.frz]), (1000001, [.copy, .frz])]
def k_laws_toSystem : C := (.seq (.reg [(none, .box 1 (.t 0)),
 (none, .alloc 2 [(N 0), (.sl true true 1 []), (.sl true true 1 []), (.sl true true 1 [])])])
 (.seq (.seq (.frz 1)
 (.reg [(none, .alloc 3 [(N 0), (.sl true true 1 []), (.sl true true 1 []), (.sl true true 1 [])])]))
 (.seq (.reg [(none, .fieldA 4 0 (.t 1)),
 (none, .load 5 .take false 1 (.t 4)),
 (none, .fieldA 6 0 (.t 3)),
 (none, .store 1 (.t 6) (.t 5))])
 (.seq (.reg [(none, .fieldA 7 1 (.t 1)),
 (none, .load 8 .take false 1 (.t 7)),
 (none, .call false (some 9) (.k (.fn n_laws_toIntS [])) [(.t 8)]),
 (none, .fieldA 10 1 (.t 3)),
 (none, .store 1 (.t 10) (.t 9))])
 (.seq (.reg [(none, .fieldA 11 2 (.t 1)),
 (none, .load 12 .take false 1 (.t 11)),
 (none, .call false (some 13) (.k (.fn n_laws_toIntS [])) [(.t 12)]),
 (none, .fieldA 14 2 (.t 3)),
 (none, .store 1 (.t 14) (.t 13))])
 (.seq (.reg [(none, .fieldA 15 3 (.t 1)),
 (none, .load 16 .take false 1 (.t 15)),
 (none, .call false (some 17) (.k (.fn n_laws_toBoolS [])) [(.t 16)]),
 (none, .fieldA 18 3 (.t 3)),
 (none, .store 1 (.t 18) (.t 17))])
 (.seq (.reg [(none, .load 19 .frz true 4 (.t 3)),
 (none, .store 4 (.t 2) (.t 19))])
 .ret)))))))
theorem c_laws_toSystem : codeOf Try.prog n_laws_toSystem m_laws_toSystem = some (k_laws_toSystem, [.cell 2 true 4], 20) := by kernel_rfl

/- loop.example/g03111/laws.toIntSS -/
def m_laws_toIntSS : List (Nat × List Md) := [(1, [.copy, .copy, .copy, .take]), (6, [.take, .frz])]
def k_laws_toIntSS : C := (.seq (.reg [(none, .mv 2 .copy (.k (.sl true true 1 [])))])
 (.seq (.reg [(none, .mv 5 .copy (.t 0)),
 (none, .len 6 (.t 5)),
 (none, .mkslice 7 1 [(.sl true true 1 [])] (.t 6)),
 (none, .mv 3 .take (.t 7))])
 (.seq (.seq (.reg [(none, .mv 4 .copy (.k (N 0)))])
 (.block 0 (.loop (.seq (.seq (.reg [(none, .mv 8 .copy (.t 4)),
 (none, .mv 9 .copy (.t 0)),
 (none, .len 10 (.t 9)),
 (none, .bin 11 .num .lss (.t 8) (.t 10))])
 (.cond (.t 11)
 .skip
 (.exit 0)))
 (.seq (.block 1 (.reg [(none, .mv 14 .copy (.t 3)),
 (none, .mv 15 .copy (.t 4)),
 (none, .mv 16 .copy (.t 0)),
 (none, .mv 17 .copy (.t 4)),
 (none, .indexA 18 1 (.t 16) (.t 17)),
 (none, .load 19 .copy false 1 (.t 18)),
 (none, .call false (some 20) (.k (.fn n_laws_toIntS [])) [(.t 19)]),
 (none, .indexA 21 1 (.t 14) (.t 15)),
 (none, .store 1 (.t 21) (.t 20))]))
 (.reg [(none, .mv 12 .copy (.t 4)),
 (none, .bin 13 .num .add (.t 12) (.k (N 1))),
 (none, .mv 4 .copy (.t 13))]))))))
 (.seq (.reg [(none, .mv 22 .take (.t 3)),
 (none, .mv 2 .frz (.t 22))])
 .ret))))
theorem c_laws_toIntSS : codeOf Try.prog n_laws_toIntSS m_laws_toIntSS = some (k_laws_toIntSS, [.tmp 2], 23) := by kernel_rfl

/- loop.example/g03111/laws.toTerm -/
def m_laws_toTerm : List (Nat × List Md) := [(2, [.copy, .take]), (3, [.copy, .take]), (4, [.copy, .take]), (5, [.copy, .take]), (6, [.frz]), (1000001, [.copy, .frz])]
def k_laws_toTerm : C := (.seq (.reg [(none, .box 1 (.t 0)),
 (none, .alloc 2 [(N 0), (N 0), (.sl true true 1 []), (.sl true true 1 [])])])
 (.seq (.seq (.frz 1)
 (.reg [(none, .alloc 3 [(N 0), (N 0), (.sl true true 1 []), (.sl true true 1 [])])]))
 (.seq (.reg [(none, .fieldA 4 0 (.t 1)),
 (none, .load 5 .take false 1 (.t 4)),
 (none, .fieldA 6 0 (.t 3)),
 (none, .store 1 (.t 6) (.t 5))])
 (.seq (.reg [(none, .fieldA 7 1 (.t 1)),
 (none, .load 8 .take false 1 (.t 7)),
 (none, .fieldA 9 1 (.t 3)),
 (none, .store 1 (.t 9) (.t 8))])
 (.seq (.reg [(none, .fieldA 10 2 (.t 1)),
 (none, .load 11 .take false 1 (.t 10)),
 (none, .call false (some 12) (.k (.fn n_laws_toIntS [])) [(.t 11)]),
 (none, .fieldA 13 2 (.t 3)),
 (none, .store 1 (.t 13) (.t 12))])
 (.seq (.reg [(none, .fieldA 14 3 (.t 1)),
 (none, .load 15 .take false 1 (.t 14)),
 (none, .call false (some 16) (.k (.fn n_laws_toTermS [])) [(.t 15)]),
 (none, .fieldA 17 3 (.t 3)),
 (none, .store 1 (.t 17) (.t 16))])
 (.seq (.reg [(none, .load 18 .frz true 4 (.t 3)),
 (none, .store 4 (.t 2) (.t 18))])
 .ret)))))))
theorem c_laws_toTerm : codeOf Try.prog n_laws_toTerm m_laws_toTerm = some (k_laws_toTerm, [.cell 2 true 4], 19) := by kernel_rfl

/- loop.example/g03111/impl.IsSystem -/
def m_impl_IsSystem : List (Nat × List Md) := [(1, [.copy, .take]), (2, [.copy, .copy, .copy, .copy, .copy, .take, .copy, .copy, .copy, .copy, .copy, .copy, .copy, .copy, .take, .copy, .copy, .copy, .copy, .copy, .copy, .copy, .copy, .take]), (4, [.copy, .take]), (7, [.take, .copy, .take, .copy, .copy, .copy, .copy, .copy, .copy, .take, .copy, .take]), (13, [.take, .copy, .copy, .copy, .copy, .copy, .take, .copy, .copy, .copy, .copy, .copy, .copy, .take, .copy, .copy, .copy, .copy, .copy, .copy, .take, .copy, .copy, .copy, .copy, .copy, .take, .copy, .copy, .copy, .copy, .copy, .take]), (18, [.take, .copy, .copy, .copy, .take, .copy, .copy, .copy, .copy, .copy, .copy, .copy, .copy, .copy, .take, .copy, .copy, .copy, .copy, .copy, .take, .copy, .copy, .copy, .copy, .copy, .copy, .take]), (23, [.take]), (1000001, [.copy, .frz])]
def k_impl_IsSystem : C := (.seq (.reg [(none, .box 1 (.t 0)),
 (none, .mv 2 .copy (.k (.sc (.bool false))))])
 (.seq (.seq (.frz 1)
 (.reg [(none, .fieldA 8 0 (.t 1)),
 (none, .load 9 .take false 1 (.t 8)),
 (none, .mv 3 .copy (.t 9))]))
 (.seq (.seq (.reg [(none, .mv 10 .copy (.t 3)),
 (none, .call false (some 11) (.k (.fn n_impl_within [])) [(.t 10), (.k (N 2)), (.k (N 16))]),
 (none, .un 12 .not (.t 11)),
 (none, .mv 13 .copy (.t 12)),
 (some (13, false), .fieldA 14 1 (.t 1)),
 (some (13, false), .load 15 .take false 1 (.t 14)),
 (some (13, false), .len 16 (.t 15)),
 (some (13, false), .mv 17 .copy (.t 3)),
 (some (13, false), .mv 18 .copy (.t 3)),
 (some (13, false), .bin 19 .num .mul (.t 17) (.t 18)),
 (some (13, false), .bin 20 .num .neq (.t 16) (.t 19)),
 (none, .pick 21 (.t 13) (.k (.sc (.bool true))) (.t 20)),
 (none, .mv 22 .copy (.t 21)),
 (some (22, false), .fieldA 23 2 (.t 1)),
 (some (22, false), .load 24 .take false 1 (.t 23)),
 (some (22, false), .len 25 (.t 24)),
 (some (22, false), .mv 26 .copy (.t 3)),
 (some (22, false), .mv 27 .copy (.t 3)),
 (some (22, false), .bin 28 .num .mul (.t 26) (.t 27)),
 (some (22, false), .bin 29 .num .neq (.t 25) (.t 28)),
 (none, .pick 30 (.t 22) (.k (.sc (.bool true))) (.t 29)),
 (none, .mv 31 .copy (.t 30)),
 (some (31, false), .fieldA 32 3 (.t 1)),
 (some (31, false), .load 33 .take false 1 (.t 32)),
 (some (31, false), .len 34 (.t 33)),
 (some (31, false), .mv 35 .copy (.t 3)),
 (some (31, false), .mv 36 .copy (.t 3)),
 (some (31, false), .bin 37 .num .mul (.t 35) (.t 36)),
 (some (31, false), .bin 38 .num .neq (.t 34) (.t 37)),
 (none, .pick 39 (.t 31) (.k (.sc (.bool true))) (.t 38))])
 (.cond (.t 39)
 (.seq (.reg [(none, .mv 2 .copy (.k (.sc (.bool false))))])
 .ret)
 .skip))
 (.seq (.seq (.reg [(none, .fieldA 40 1 (.t 1)),
 (none, .load 41 .take false 1 (.t 40)),
 (none, .len 42 (.t 41)),
 (none, .mv 43 .copy (.k (N 0)))])
 (.block 0 (.loop (.seq (.reg [(none, .bin 44 .num .lss (.t 43) (.t 42))])
 (.seq (.cond (.t 44)
 .skip
 (.exit 0))
 (.seq (.block 1 (.seq (.reg [(none, .mv 45 .copy (.t 43)),
 (none, .mv 4 .copy (.t 45))])
 (.seq (.reg [(none, .load 46 .take true 4 (.t 1)),
 (none, .fieldA 47 1 (.t 1)),
 (none, .load 48 .take false 1 (.t 47)),
 (none, .mv 49 .copy (.t 4)),
 (none, .indexA 50 1 (.t 48) (.t 49)),
 (none, .load 51 .copy false 1 (.t 50)),
 (none, .call false (some 52) (.k (.fn n__impl_System__has [])) [(.t 46), (.t 51)]),
 (none, .un 53 .not (.t 52)),
 (none, .mv 54 .copy (.t 53)),
 (some (54, false), .load 55 .take true 4 (.t 1)),
 (some (54, false), .fieldA 56 2 (.t 1)),
 (some (54, false), .load 57 .take false 1 (.t 56)),
 (some (54, false), .mv 58 .copy (.t 4)),
 (some (54, false), .indexA 59 1 (.t 57) (.t 58)),
 (some (54, false), .load 60 .copy false 1 (.t 59)),
 (some (54, false), .call false (some 61) (.k (.fn n__impl_System__has [])) [(.t 55), (.t 60)]),
 (some (54, false), .un 62 .not (.t 61)),
 (none, .pick 63 (.t 54) (.k (.sc (.bool true))) (.t 62))])
 (.cond (.t 63)
 (.seq (.reg [(none, .mv 2 .copy (.k (.sc (.bool false))))])
 .ret)
 .skip))))
 (.reg [(none, .bin 64 .num .add (.t 43) (.k (N 1))),
 (none, .mv 43 .copy (.t 64))])))))))
 (.seq (.seq (.reg [(none, .mv 5 .copy (.k (N 0)))])
 (.block 2 (.loop (.seq (.seq (.reg [(none, .mv 65 .copy (.t 5)),
 (none, .mv 66 .copy (.t 3)),
 (none, .bin 67 .num .lss (.t 65) (.t 66))])
 (.cond (.t 67)
 .skip
 (.exit 2)))
 (.seq (.block 3 (.seq (.seq (.reg [(none, .load 70 .take true 4 (.t 1)),
 (none, .mv 71 .copy (.t 5)),
 (none, .call false (some 72) (.k (.fn n__impl_System__plus [])) [(.t 70), (.k (N 0)), (.t 71)]),
 (none, .mv 73 .copy (.t 5)),
 (none, .bin 74 .num .neq (.t 72) (.t 73)),
 (none, .mv 75 .copy (.t 74)),
 (some (75, false), .load 76 .take true 4 (.t 1)),
 (some (75, false), .mv 77 .copy (.t 5)),
 (some (75, false), .call false (some 78) (.k (.fn n__impl_System__times [])) [(.t 76), (.k (N 1)), (.t 77)]),
 (some (75, false), .mv 79 .copy (.t 5)),
 (some (75, false), .bin 80 .num .neq (.t 78) (.t 79)),
 (none, .pick 81 (.t 75) (.k (.sc (.bool true))) (.t 80)),
 (none, .mv 82 .copy (.t 81)),
 (some (82, false), .load 83 .take true 4 (.t 1)),
 (some (82, false), .mv 84 .copy (.t 5)),
 (some (82, false), .call false (some 85) (.k (.fn n__impl_System__times [])) [(.t 83), (.t 84), (.k (N 1))]),
 (some (82, false), .mv 86 .copy (.t 5)),
 (some (82, false), .bin 87 .num .neq (.t 85) (.t 86)),
 (none, .pick 88 (.t 82) (.k (.sc (.bool true))) (.t 87)),
 (none, .mv 89 .copy (.t 88)),
 (some (89, false), .load 90 .take true 4 (.t 1)),
 (some (89, false), .mv 91 .copy (.t 5)),
 (some (89, false), .call false (some 92) (.k (.fn n__impl_System__times [])) [(.t 90), (.k (N 0)), (.t 91)]),
 (some (89, false), .bin 93 .num .neq (.t 92) (.k (N 0))),
 (none, .pick 94 (.t 89) (.k (.sc (.bool true))) (.t 93)),
 (none, .mv 95 .copy (.t 94)),
 (some (95, false), .load 96 .take true 4 (.t 1)),
 (some (95, false), .mv 97 .copy (.t 5)),
 (some (95, false), .call false (some 98) (.k (.fn n__impl_System__times [])) [(.t 96), (.t 97), (.k (N 0))]),
 (some (95, false), .bin 99 .num .neq (.t 98) (.k (N 0))),
 (none, .pick 100 (.t 95) (.k (.sc (.bool true))) (.t 99)),
 (none, .mv 101 .copy (.t 100)),
 (some (101, false), .load 102 .take true 4 (.t 1)),
 (some (101, false), .mv 103 .copy (.t 5)),
 (some (101, false), .mv 104 .copy (.t 5)),
 (some (101, false), .call false (some 105) (.k (.fn n__impl_System__below [])) [(.t 102), (.t 103), (.t 104)]),
 (some (101, false), .un 106 .not (.t 105)),
 (none, .pick 107 (.t 101) (.k (.sc (.bool true))) (.t 106))])
 (.cond (.t 107)
 (.seq (.reg [(none, .mv 2 .copy (.k (.sc (.bool false))))])
 .ret)
 .skip))
 (.seq (.reg [(none, .mv 6 .copy (.k (N 0)))])
 (.block 4 (.loop (.seq (.seq (.reg [(none, .mv 108 .copy (.t 6)),
 (none, .mv 109 .copy (.t 3)),
 (none, .bin 110 .num .lss (.t 108) (.t 109))])
 (.cond (.t 110)
 .skip
 (.exit 4)))
 (.seq (.block 5 (.seq (.seq (.reg [(none, .load 113 .take true 4 (.t 1)),
 (none, .mv 114 .copy (.t 5)),
 (none, .mv 115 .copy (.t 6)),
 (none, .call false (some 116) (.k (.fn n__impl_System__plus [])) [(.t 113), (.t 114), (.t 115)]),
 (none, .load 117 .take true 4 (.t 1)),
 (none, .mv 118 .copy (.t 6)),
 (none, .mv 119 .copy (.t 5)),
 (none, .call false (some 120) (.k (.fn n__impl_System__plus [])) [(.t 117), (.t 118), (.t 119)]),
 (none, .bin 121 .num .neq (.t 116) (.t 120)),
 (none, .mv 122 .copy (.t 121)),
 (some (122, false), .mv 123 .copy (.t 5)),
 (some (122, false), .mv 124 .copy (.t 6)),
 (some (122, false), .bin 125 .num .neq (.t 123) (.t 124)),
 (some (122, false), .mv 126 .copy (.t 125)),
 (some (126, true), .load 127 .take true 4 (.t 1)),
 (some (126, true), .mv 128 .copy (.t 5)),
 (some (126, true), .mv 129 .copy (.t 6)),
 (some (126, true), .call false (some 130) (.k (.fn n__impl_System__below [])) [(.t 127), (.t 128), (.t 129)]),
 (some (122, false), .pick 131 (.t 126) (.t 130) (.k (.sc (.bool false)))),
 (some (122, false), .mv 132 .copy (.t 131)),
 (some (132, true), .load 133 .take true 4 (.t 1)),
 (some (132, true), .mv 134 .copy (.t 6)),
 (some (132, true), .mv 135 .copy (.t 5)),
 (some (132, true), .call false (some 136) (.k (.fn n__impl_System__below [])) [(.t 133), (.t 134), (.t 135)]),
 (some (122, false), .pick 137 (.t 132) (.t 136) (.k (.sc (.bool false)))),
 (none, .pick 138 (.t 122) (.k (.sc (.bool true))) (.t 137)),
 (none, .mv 139 .copy (.t 138)),
 (some (139, false), .load 140 .take true 4 (.t 1)),
 (some (139, false), .mv 141 .copy (.t 5)),
 (some (139, false), .mv 142 .copy (.t 6)),
 (some (139, false), .call false (some 143) (.k (.fn n__impl_System__join [])) [(.t 140), (.t 141), (.t 142)]),
 (some (139, false), .bin 144 .num .lss (.t 143) (.k (N 0))),
 (none, .pick 145 (.t 139) (.k (.sc (.bool true))) (.t 144))])
 (.cond (.t 145)
 (.seq (.reg [(none, .mv 2 .copy (.k (.sc (.bool false))))])
 .ret)
 .skip))
 (.seq (.reg [(none, .mv 7 .copy (.k (N 0)))])
 (.block 6 (.loop (.seq (.seq (.reg [(none, .mv 146 .copy (.t 7)),
 (none, .mv 147 .copy (.t 3)),
 (none, .bin 148 .num .lss (.t 146) (.t 147))])
 (.cond (.t 148)
 .skip
 (.exit 6)))
 (.seq (.block 7 (.seq (.reg [(none, .load 151 .take true 4 (.t 1)),
 (none, .mv 152 .copy (.t 5)),
 (none, .mv 153 .copy (.t 6)),
 (none, .mv 154 .copy (.t 7)),
 (none, .call false (some 155) (.k (.fn n__impl_System__lawsOf [])) [(.t 151), (.t 152), (.t 153), (.t 154)]),
 (none, .un 156 .not (.t 155))])
 (.cond (.t 156)
 (.seq (.reg [(none, .mv 2 .copy (.k (.sc (.bool false))))])
 .ret)
 .skip)))
 (.reg [(none, .mv 149 .copy (.t 7)),
 (none, .bin 150 .num .add (.t 149) (.k (N 1))),
 (none, .mv 7 .copy (.t 150))]))))))))
 (.reg [(none, .mv 111 .copy (.t 6)),
 (none, .bin 112 .num .add (.t 111) (.k (N 1))),
 (none, .mv 6 .copy (.t 112))]))))))))
 (.reg [(none, .mv 68 .copy (.t 5)),
 (none, .bin 69 .num .add (.t 68) (.k (N 1))),
 (none, .mv 5 .copy (.t 69))]))))))
 (.seq (.reg [(none, .mv 2 .copy (.k (.sc (.bool true))))])
 .ret))))))
theorem c_impl_IsSystem : codeOf Try.prog n_impl_IsSystem m_impl_IsSystem = some (k_impl_IsSystem, [.tmp 2], 157) := by kernel_rfl

/- loop.example/g03111/impl.isContext -/
def m_impl_isContext : List (Nat × List Md) := [(1, [.copy, .copy, .copy, .copy, .take]), (1000001, [.copy, .copy, .frz])]
def k_impl_isContext : C := (.seq (.reg [(none, .box 2 (.t 0)),
 (none, .mv 4 .copy (.k (.sc (.bool false))))])
 (.seq (.seq (.frz 2)
 (.reg [(none, .mv 5 .copy (.t 1)),
 (none, .len 6 (.t 5)),
 (none, .bin 7 .num .leq (.t 6) (.k (N 8))),
 (none, .mv 8 .copy (.t 7)),
 (some (8, true), .mv 9 .take (.t 1)),
 (some (8, true), .mkfn 10 n_impl_isContext_1 false [(.t 2)]),
 (some (8, true), .call false (some 11) (.k (.fn n_slices_ContainsFunc_____int___int_ [])) [(.t 9), (.t 10)]),
 (some (8, true), .un 12 .not (.t 11)),
 (none, .pick 13 (.t 8) (.t 12) (.k (.sc (.bool false)))),
 (none, .mv 4 .copy (.t 13))]))
 .ret))
theorem c_impl_isContext : codeOf Try.prog n_impl_isContext m_impl_isContext = some (k_impl_isContext, [.tmp 4], 14) := by kernel_rfl

/- loop.example/g03111/impl.IsWritten -/
def m_impl_IsWritten : List (Nat × List Md) := [(1, [.take]), (1000001, [.copy, .frz])]
def k_impl_IsWritten : C := (.seq (.reg [(none, .box 1 (.t 0)),
 (none, .mv 2 .copy (.k (.sc (.bool false))))])
 (.seq (.seq (.frz 1)
 (.reg [(none, .load 3 .take true 4 (.t 1)),
 (none, .call false (some 4) (.k (.fn n_impl_writtenSize [])) [(.t 3)]),
 (none, .bin 5 .num .leq (.t 4) (.k (N 400))),
 (none, .mv 2 .copy (.t 5))]))
 .ret))
theorem c_impl_IsWritten : codeOf Try.prog n_impl_IsWritten m_impl_IsWritten = some (k_impl_IsWritten, [.tmp 2], 6) := by kernel_rfl

/- loop.example/g03111/laws.eqSystem -/
def m_laws_eqSystem : List (Nat × List Md) := [(1, [.copy, .take, .copy, .take]), (3, [.copy, .take, .copy, .take]), (5, [.copy, .take, .copy, .take]), (7, [.copy, .take, .copy, .take]), (1000001, [.copy, .copy, .frz, .frz])]
def k_laws_eqSystem : C := (.seq (.reg [(none, .box 2 (.t 0)),
 (none, .box 3 (.t 1)),
 (none, .mv 4 .copy (.k (.sc (.bool false))))])
 (.seq (.seq (.seq (.frz 2)
 (.seq (.frz 3)
 (.reg [(none, .fieldA 5 0 (.t 2)),
 (none, .load 6 .take false 1 (.t 5)),
 (none, .fieldA 7 0 (.t 3)),
 (none, .load 8 .take false 1 (.t 7)),
 (none, .bin 9 .num .neq (.t 6) (.t 8))])))
 (.cond (.t 9)
 (.seq (.reg [(none, .mv 4 .copy (.k (.sc (.bool false))))])
 .ret)
 .skip))
 (.seq (.seq (.reg [(none, .fieldA 10 1 (.t 2)),
 (none, .load 11 .take false 1 (.t 10)),
 (none, .fieldA 12 1 (.t 3)),
 (none, .load 13 .take false 1 (.t 12)),
 (none, .call false (some 14) (.k (.fn n_laws_eqIntS [])) [(.t 11), (.t 13)]),
 (none, .un 15 .not (.t 14))])
 (.cond (.t 15)
 (.seq (.reg [(none, .mv 4 .copy (.k (.sc (.bool false))))])
 .ret)
 .skip))
 (.seq (.seq (.reg [(none, .fieldA 16 2 (.t 2)),
 (none, .load 17 .take false 1 (.t 16)),
 (none, .fieldA 18 2 (.t 3)),
 (none, .load 19 .take false 1 (.t 18)),
 (none, .call false (some 20) (.k (.fn n_laws_eqIntS [])) [(.t 17), (.t 19)]),
 (none, .un 21 .not (.t 20))])
 (.cond (.t 21)
 (.seq (.reg [(none, .mv 4 .copy (.k (.sc (.bool false))))])
 .ret)
 .skip))
 (.seq (.seq (.reg [(none, .fieldA 22 3 (.t 2)),
 (none, .load 23 .take false 1 (.t 22)),
 (none, .fieldA 24 3 (.t 3)),
 (none, .load 25 .take false 1 (.t 24)),
 (none, .call false (some 26) (.k (.fn n_laws_eqBoolS [])) [(.t 23), (.t 25)]),
 (none, .un 27 .not (.t 26))])
 (.cond (.t 27)
 (.seq (.reg [(none, .mv 4 .copy (.k (.sc (.bool false))))])
 .ret)
 .skip))
 (.seq (.reg [(none, .mv 4 .copy (.k (.sc (.bool true))))])
 .ret))))))
theorem c_laws_eqSystem : codeOf Try.prog n_laws_eqSystem m_laws_eqSystem = some (k_laws_eqSystem, [.tmp 4], 28) := by kernel_rfl

/- loop.example/g03111/laws.eqIntSS -/
def m_laws_eqIntSS : List (Nat × List Md) := []
def k_laws_eqIntSS : C := (.seq (.reg [(none, .mv 4 .copy (.k (.sc (.bool false))))])
 (.seq (.seq (.reg [(none, .mv 6 .copy (.t 0)),
 (none, .len 7 (.t 6)),
 (none, .mv 8 .copy (.t 1)),
 (none, .len 9 (.t 8)),
 (none, .bin 10 .num .neq (.t 7) (.t 9))])
 (.cond (.t 10)
 (.seq (.reg [(none, .mv 4 .copy (.k (.sc (.bool false))))])
 .ret)
 .skip))
 (.seq (.seq (.reg [(none, .mv 5 .copy (.k (N 0)))])
 (.block 0 (.loop (.seq (.seq (.reg [(none, .mv 11 .copy (.t 5)),
 (none, .mv 12 .copy (.t 0)),
 (none, .len 13 (.t 12)),
 (none, .bin 14 .num .lss (.t 11) (.t 13))])
 (.cond (.t 14)
 .skip
 (.exit 0)))
 (.seq (.block 1 (.seq (.reg [(none, .mv 17 .copy (.t 0)),
 (none, .mv 18 .copy (.t 5)),
 (none, .indexA 19 1 (.t 17) (.t 18)),
 (none, .load 20 .copy false 1 (.t 19)),
 (none, .mv 21 .copy (.t 1)),
 (none, .mv 22 .copy (.t 5)),
 (none, .indexA 23 1 (.t 21) (.t 22)),
 (none, .load 24 .copy false 1 (.t 23)),
 (none, .call false (some 25) (.k (.fn n_laws_eqIntS [])) [(.t 20), (.t 24)]),
 (none, .un 26 .not (.t 25))])
 (.cond (.t 26)
 (.seq (.reg [(none, .mv 4 .copy (.k (.sc (.bool false))))])
 .ret)
 .skip)))
 (.reg [(none, .mv 15 .copy (.t 5)),
 (none, .bin 16 .num .add (.t 15) (.k (N 1))),
 (none, .mv 5 .copy (.t 16))]))))))
 (.seq (.reg [(none, .mv 4 .copy (.k (.sc (.bool true))))])
 .ret))))
theorem c_laws_eqIntSS : codeOf Try.prog n_laws_eqIntSS m_laws_eqIntSS = some (k_laws_eqIntSS, [.tmp 4], 27) := by kernel_rfl

/- loop.example/g03111/laws.eqTerm -/
def m_laws_eqTerm : List (Nat × List Md) := [(1, [.copy, .take, .copy, .take]), (3, [.copy, .take, .copy, .take]), (5, [.copy, .take, .copy, .take]), (7, [.copy, .take, .copy, .take]), (1000001, [.copy, .copy, .frz, .frz])]
def k_laws_eqTerm : C := (.seq (.reg [(none, .box 2 (.t 0)),
 (none, .box 3 (.t 1)),
 (none, .mv 4 .copy (.k (.sc (.bool false))))])
 (.seq (.seq (.seq (.frz 2)
 (.seq (.frz 3)
 (.reg [(none, .fieldA 5 0 (.t 2)),
 (none, .load 6 .take false 1 (.t 5)),
 (none, .fieldA 7 0 (.t 3)),
 (none, .load 8 .take false 1 (.t 7)),
 (none, .bin 9 .num .neq (.t 6) (.t 8))])))
 (.cond (.t 9)
 (.seq (.reg [(none, .mv 4 .copy (.k (.sc (.bool false))))])
 .ret)
 .skip))
 (.seq (.seq (.reg [(none, .fieldA 10 1 (.t 2)),
 (none, .load 11 .take false 1 (.t 10)),
 (none, .fieldA 12 1 (.t 3)),
 (none, .load 13 .take false 1 (.t 12)),
 (none, .bin 14 .num .neq (.t 11) (.t 13))])
 (.cond (.t 14)
 (.seq (.reg [(none, .mv 4 .copy (.k (.sc (.bool false))))])
 .ret)
 .skip))
 (.seq (.seq (.reg [(none, .fieldA 15 2 (.t 2)),
 (none, .load 16 .take false 1 (.t 15)),
 (none, .fieldA 17 2 (.t 3)),
 (none, .load 18 .take false 1 (.t 17)),
 (none, .call false (some 19) (.k (.fn n_laws_eqIntS [])) [(.t 16), (.t 18)]),
 (none, .un 20 .not (.t 19))])
 (.cond (.t 20)
 (.seq (.reg [(none, .mv 4 .copy (.k (.sc (.bool false))))])
 .ret)
 .skip))
 (.seq (.seq (.reg [(none, .fieldA 21 3 (.t 2)),
 (none, .load 22 .take false 1 (.t 21)),
 (none, .fieldA 23 3 (.t 3)),
 (none, .load 24 .take false 1 (.t 23)),
 (none, .call false (some 25) (.k (.fn n_laws_eqTermS [])) [(.t 22), (.t 24)]),
 (none, .un 26 .not (.t 25))])
 (.cond (.t 26)
 (.seq (.reg [(none, .mv 4 .copy (.k (.sc (.bool false))))])
 .ret)
 .skip))
 (.seq (.reg [(none, .mv 4 .copy (.k (.sc (.bool true))))])
 .ret))))))
theorem c_laws_eqTerm : codeOf Try.prog n_laws_eqTerm m_laws_eqTerm = some (k_laws_eqTerm, [.tmp 4], 27) := by kernel_rfl

/- loop.example/g03111/laws.szIntS -/
def m_laws_szIntS : List (Nat × List Md) := [(1, [.copy, .take])]
def k_laws_szIntS : C := (.seq (.reg [(none, .mv 4 .copy (.k (N 0)))])
 (.seq (.reg [(none, .mv 5 .copy (.t 1)),
 (none, .mv 6 .take (.t 0)),
 (none, .len 7 (.t 6)),
 (none, .bin 8 .num .sub (.t 5) (.t 7)),
 (none, .mv 1 .copy (.t 8))])
 (.seq (.seq (.reg [(none, .mv 9 .copy (.t 1)),
 (none, .bin 10 .num .lss (.t 9) (.k (N 0)))])
 (.cond (.t 10)
 (.seq (.reg [(none, .mv 4 .copy (.k (N (-1))))])
 .ret)
 .skip))
 (.seq (.reg [(none, .mv 11 .copy (.t 1)),
 (none, .mv 4 .copy (.t 11))])
 .ret))))
theorem c_laws_szIntS : codeOf Try.prog n_laws_szIntS m_laws_szIntS = some (k_laws_szIntS, [.tmp 4], 12) := by kernel_rfl

/- loop.example/g03111/laws.szBoolS -/
def m_laws_szBoolS : List (Nat × List Md) := [(1, [.copy, .take])]
def k_laws_szBoolS : C := (.seq (.reg [(none, .mv 4 .copy (.k (N 0)))])
 (.seq (.reg [(none, .mv 5 .copy (.t 1)),
 (none, .mv 6 .take (.t 0)),
 (none, .len 7 (.t 6)),
 (none, .bin 8 .num .sub (.t 5) (.t 7)),
 (none, .mv 1 .copy (.t 8))])
 (.seq (.seq (.reg [(none, .mv 9 .copy (.t 1)),
 (none, .bin 10 .num .lss (.t 9) (.k (N 0)))])
 (.cond (.t 10)
 (.seq (.reg [(none, .mv 4 .copy (.k (N (-1))))])
 .ret)
 .skip))
 (.seq (.reg [(none, .mv 11 .copy (.t 1)),
 (none, .mv 4 .copy (.t 11))])
 .ret))))
theorem c_laws_szBoolS : codeOf Try.prog n_laws_szBoolS m_laws_szBoolS = some (k_laws_szBoolS, [.tmp 4], 12) := by kernel_rfl

/- loop.example/g03111/laws.szTermS -/
def m_laws_szTermS : List (Nat × List Md) := []
def k_laws_szTermS : C := (.seq (.reg [(none, .mv 4 .copy (.k (N 0)))])
 (.seq (.reg [(none, .mv 6 .copy (.t 1)),
 (none, .mv 7 .copy (.t 0)),
 (none, .len 8 (.t 7)),
 (none, .bin 9 .num .sub (.t 6) (.t 8)),
 (none, .mv 1 .copy (.t 9))])
 (.seq (.seq (.reg [(none, .mv 10 .copy (.t 1)),
 (none, .bin 11 .num .lss (.t 10) (.k (N 0)))])
 (.cond (.t 11)
 (.seq (.reg [(none, .mv 4 .copy (.k (N (-1))))])
 .ret)
 .skip))
 (.seq (.seq (.reg [(none, .mv 5 .copy (.k (N 0)))])
 (.block 0 (.loop (.seq (.seq (.reg [(none, .mv 12 .copy (.t 5)),
 (none, .mv 13 .copy (.t 0)),
 (none, .len 14 (.t 13)),
 (none, .bin 15 .num .lss (.t 12) (.t 14))])
 (.cond (.t 15)
 .skip
 (.exit 0)))
 (.seq (.block 1 (.seq (.reg [(none, .mv 18 .copy (.t 0)),
 (none, .mv 19 .copy (.t 5)),
 (none, .indexA 20 4 (.t 18) (.t 19)),
 (none, .load 21 .copy true 4 (.t 20)),
 (none, .mv 22 .copy (.t 1)),
 (none, .call false (some 23) (.k (.fn n_laws_szTerm [])) [(.t 21), (.t 22)]),
 (none, .mv 1 .copy (.t 23))])
 (.seq (.reg [(none, .mv 24 .copy (.t 1)),
 (none, .bin 25 .num .lss (.t 24) (.k (N 0)))])
 (.cond (.t 25)
 (.seq (.reg [(none, .mv 4 .copy (.k (N (-1))))])
 .ret)
 .skip))))
 (.reg [(none, .mv 16 .copy (.t 5)),
 (none, .bin 17 .num .add (.t 16) (.k (N 1))),
 (none, .mv 5 .copy (.t 17))]))))))
 (.seq (.reg [(none, .mv 26 .copy (.t 1)),
 (none, .mv 4 .copy (.t 26))])
 .ret)))))
theorem c_laws_szTermS : codeOf Try.prog n_laws_szTermS m_laws_szTermS = some (k_laws_szTermS, [.tmp 4], 27) := by kernel_rfl

/- loop.example/g03111/spec.l1Tables -/
def m_spec_l1Tables : List (Nat × List Md) := [(1, [.copy, .take, .copy, .copy, .copy, .copy, .take, .copy, .copy, .take, .copy, .take, .copy, .copy, .copy, .copy, .copy, .take, .copy, .copy, .take, .copy, .take, .copy, .copy, .copy, .copy, .copy, .take, .copy, .copy, .take, .copy, .take]), (4, [.copy, .copy, .take]), (6, [.copy, .take, .copy, .copy, .copy, .copy, .take, .copy, .copy, .copy, .copy, .copy, .take, .copy, .copy, .copy, .copy, .take]), (1000001, [.copy, .frz])]
def k_spec_l1Tables : C := (.seq (.reg [(none, .box 1 (.t 0)),
 (none, .mv 2 .copy (.k (.sc (.bool false))))])
 (.seq (.seq (.seq (.frz 1)
 (.reg [(none, .fieldA 4 0 (.t 1)),
 (none, .load 5 .take false 1 (.t 4)),
 (none, .call false (some 6) (.k (.fn n_spec_l1In [])) [(.t 5), (.k (N 2)), (.k (N 16))]),
 (none, .un 7 .not (.t 6)),
 (none, .mv 8 .copy (.t 7)),
 (some (8, false), .fieldA 9 1 (.t 1)),
 (some (8, false), .load 10 .take false 1 (.t 9)),
 (some (8, false), .len 11 (.t 10)),
 (some (8, false), .fieldA 12 0 (.t 1)),
 (some (8, false), .load 13 .take false 1 (.t 12)),
 (some (8, false), .fieldA 14 0 (.t 1)),
 (some (8, false), .load 15 .take false 1 (.t 14)),
 (some (8, false), .bin 16 .num .mul (.t 13) (.t 15)),
 (some (8, false), .bin 17 .num .neq (.t 11) (.t 16)),
 (none, .pick 18 (.t 8) (.k (.sc (.bool true))) (.t 17)),
 (none, .mv 19 .copy (.t 18)),
 (some (19, false), .fieldA 20 2 (.t 1)),
 (some (19, false), .load 21 .take false 1 (.t 20)),
 (some (19, false), .len 22 (.t 21)),
 (some (19, false), .fieldA 23 0 (.t 1)),
 (some (19, false), .load 24 .take false 1 (.t 23)),
 (some (19, false), .fieldA 25 0 (.t 1)),
 (some (19, false), .load 26 .take false 1 (.t 25)),
 (some (19, false), .bin 27 .num .mul (.t 24) (.t 26)),
 (some (19, false), .bin 28 .num .neq (.t 22) (.t 27)),
 (none, .pick 29 (.t 19) (.k (.sc (.bool true))) (.t 28)),
 (none, .mv 30 .copy (.t 29)),
 (some (30, false), .fieldA 31 3 (.t 1)),
 (some (30, false), .load 32 .take false 1 (.t 31)),
 (some (30, false), .len 33 (.t 32)),
 (some (30, false), .fieldA 34 0 (.t 1)),
 (some (30, false), .load 35 .take false 1 (.t 34)),
 (some (30, false), .fieldA 36 0 (.t 1)),
 (some (30, false), .load 37 .take false 1 (.t 36)),
 (some (30, false), .bin 38 .num .mul (.t 35) (.t 37)),
 (some (30, false), .bin 39 .num .neq (.t 33) (.t 38)),
 (none, .pick 40 (.t 30) (.k (.sc (.bool true))) (.t 39))]))
 (.cond (.t 40)
 (.seq (.reg [(none, .mv 2 .copy (.k (.sc (.bool false))))])
 .ret)
 .skip))
 (.seq (.seq (.reg [(none, .mv 3 .copy (.k (N 0)))])
 (.block 0 (.loop (.seq (.seq (.reg [(none, .mv 41 .copy (.t 3)),
 (none, .fieldA 42 1 (.t 1)),
 (none, .load 43 .take false 1 (.t 42)),
 (none, .len 44 (.t 43)),
 (none, .bin 45 .num .lss (.t 41) (.t 44))])
 (.cond (.t 45)
 .skip
 (.exit 0)))
 (.seq (.block 1 (.seq (.reg [(none, .fieldA 48 1 (.t 1)),
 (none, .load 49 .take false 1 (.t 48)),
 (none, .mv 50 .copy (.t 3)),
 (none, .indexA 51 1 (.t 49) (.t 50)),
 (none, .load 52 .copy false 1 (.t 51)),
 (none, .fieldA 53 0 (.t 1)),
 (none, .load 54 .take false 1 (.t 53)),
 (none, .bin 55 .num .sub (.t 54) (.k (N 1))),
 (none, .call false (some 56) (.k (.fn n_spec_l1In [])) [(.t 52), (.k (N 0)), (.t 55)]),
 (none, .un 57 .not (.t 56)),
 (none, .mv 58 .copy (.t 57)),
 (some (58, false), .fieldA 59 2 (.t 1)),
 (some (58, false), .load 60 .take false 1 (.t 59)),
 (some (58, false), .mv 61 .copy (.t 3)),
 (some (58, false), .indexA 62 1 (.t 60) (.t 61)),
 (some (58, false), .load 63 .copy false 1 (.t 62)),
 (some (58, false), .fieldA 64 0 (.t 1)),
 (some (58, false), .load 65 .take false 1 (.t 64)),
 (some (58, false), .bin 66 .num .sub (.t 65) (.k (N 1))),
 (some (58, false), .call false (some 67) (.k (.fn n_spec_l1In [])) [(.t 63), (.k (N 0)), (.t 66)]),
 (some (58, false), .un 68 .not (.t 67)),
 (none, .pick 69 (.t 58) (.k (.sc (.bool true))) (.t 68))])
 (.cond (.t 69)
 (.seq (.reg [(none, .mv 2 .copy (.k (.sc (.bool false))))])
 .ret)
 .skip)))
 (.reg [(none, .mv 46 .copy (.t 3)),
 (none, .bin 47 .num .add (.t 46) (.k (N 1))),
 (none, .mv 3 .copy (.t 47))]))))))
 (.seq (.reg [(none, .mv 2 .copy (.k (.sc (.bool true))))])
 .ret))))
theorem c_spec_l1Tables : codeOf Try.prog n_spec_l1Tables m_spec_l1Tables = some (k_spec_l1Tables, [.tmp 2], 70) := by kernel_rfl

/- loop.example/g03111/spec.l1One -/
def m_spec_l1One : List (Nat × List Md) := [(1, [.take, .copy, .copy, .copy, .copy, .copy, .take, .copy, .copy, .copy, .copy, .copy, .copy, .take, .copy, .copy, .copy, .copy, .copy, .copy, .take, .copy, .copy, .copy, .copy, .copy, .take, .copy, .copy, .copy, .copy, .copy, .take]), (1000001, [.copy, .copy, .frz])]
def k_spec_l1One : C := (.seq (.reg [(none, .box 2 (.t 0)),
 (none, .mv 4 .copy (.k (.sc (.bool false))))])
 (.seq (.seq (.frz 2)
 (.reg [(none, .load 5 .take true 4 (.t 2)),
 (none, .mv 6 .copy (.t 1)),
 (none, .call false (some 7) (.k (.fn n_spec_l1Add [])) [(.t 5), (.k (N 0)), (.t 6)]),
 (none, .mv 8 .copy (.t 1)),
 (none, .bin 9 .num .eql (.t 7) (.t 8)),
 (none, .mv 10 .copy (.t 9)),
 (some (10, true), .load 11 .take true 4 (.t 2)),
 (some (10, true), .mv 12 .copy (.t 1)),
 (some (10, true), .call false (some 13) (.k (.fn n_spec_l1Mul [])) [(.t 11), (.k (N 1)), (.t 12)]),
 (some (10, true), .mv 14 .copy (.t 1)),
 (some (10, true), .bin 15 .num .eql (.t 13) (.t 14)),
 (none, .pick 16 (.t 10) (.t 15) (.k (.sc (.bool false)))),
 (none, .mv 17 .copy (.t 16)),
 (some (17, true), .load 18 .take true 4 (.t 2)),
 (some (17, true), .mv 19 .copy (.t 1)),
 (some (17, true), .call false (some 20) (.k (.fn n_spec_l1Mul [])) [(.t 18), (.t 19), (.k (N 1))]),
 (some (17, true), .mv 21 .copy (.t 1)),
 (some (17, true), .bin 22 .num .eql (.t 20) (.t 21)),
 (none, .pick 23 (.t 17) (.t 22) (.k (.sc (.bool false)))),
 (none, .mv 24 .copy (.t 23)),
 (some (24, true), .load 25 .take true 4 (.t 2)),
 (some (24, true), .mv 26 .copy (.t 1)),
 (some (24, true), .call false (some 27) (.k (.fn n_spec_l1Mul [])) [(.t 25), (.k (N 0)), (.t 26)]),
 (some (24, true), .bin 28 .num .eql (.t 27) (.k (N 0))),
 (none, .pick 29 (.t 24) (.t 28) (.k (.sc (.bool false)))),
 (none, .mv 30 .copy (.t 29)),
 (some (30, true), .load 31 .take true 4 (.t 2)),
 (some (30, true), .mv 32 .copy (.t 1)),
 (some (30, true), .call false (some 33) (.k (.fn n_spec_l1Mul [])) [(.t 31), (.t 32), (.k (N 0))]),
 (some (30, true), .bin 34 .num .eql (.t 33) (.k (N 0))),
 (none, .pick 35 (.t 30) (.t 34) (.k (.sc (.bool false)))),
 (none, .mv 36 .copy (.t 35)),
 (some (36, true), .load 37 .take true 4 (.t 2)),
 (some (36, true), .mv 38 .copy (.t 1)),
 (some (36, true), .mv 39 .copy (.t 1)),
 (some (36, true), .call false (some 40) (.k (.fn n_spec_l1Le [])) [(.t 37), (.t 38), (.t 39)]),
 (none, .pick 41 (.t 36) (.t 40) (.k (.sc (.bool false)))),
 (none, .mv 4 .copy (.t 41))]))
 .ret))
theorem c_spec_l1One : codeOf Try.prog n_spec_l1One m_spec_l1One = some (k_spec_l1One, [.tmp 4], 42) := by kernel_rfl

/- loop.example/g03111/spec.l1Two -/
def m_spec_l1Two : List (Nat × List Md) := [(1, [.take, .copy, .copy, .copy, .take, .copy, .copy, .copy, .copy, .copy, .copy, .copy, .copy, .copy, .take, .copy, .copy, .copy, .copy, .copy, .copy, .take, .copy, .copy, .copy, .copy, .copy, .copy, .copy, .take]), (1000001, [.copy, .copy, .copy, .frz])]
def k_spec_l1Two : C := (.seq (.reg [(none, .box 3 (.t 0)),
 (none, .mv 6 .copy (.k (.sc (.bool false))))])
 (.seq (.seq (.frz 3)
 (.reg [(none, .load 7 .take true 4 (.t 3)),
 (none, .mv 8 .copy (.t 1)),
 (none, .mv 9 .copy (.t 2)),
 (none, .call false (some 10) (.k (.fn n_spec_l1Add [])) [(.t 7), (.t 8), (.t 9)]),
 (none, .load 11 .take true 4 (.t 3)),
 (none, .mv 12 .copy (.t 2)),
 (none, .mv 13 .copy (.t 1)),
 (none, .call false (some 14) (.k (.fn n_spec_l1Add [])) [(.t 11), (.t 12), (.t 13)]),
 (none, .bin 15 .num .eql (.t 10) (.t 14)),
 (none, .mv 16 .copy (.t 15)),
 (some (16, true), .mv 17 .copy (.t 1)),
 (some (16, true), .mv 18 .copy (.t 2)),
 (some (16, true), .bin 19 .num .eql (.t 17) (.t 18)),
 (some (16, true), .mv 20 .copy (.t 19)),
 (some (20, false), .load 21 .take true 4 (.t 3)),
 (some (20, false), .mv 22 .copy (.t 1)),
 (some (20, false), .mv 23 .copy (.t 2)),
 (some (20, false), .call false (some 24) (.k (.fn n_spec_l1Le [])) [(.t 21), (.t 22), (.t 23)]),
 (some (20, false), .un 25 .not (.t 24)),
 (some (16, true), .pick 26 (.t 20) (.k (.sc (.bool true))) (.t 25)),
 (some (16, true), .mv 27 .copy (.t 26)),
 (some (27, false), .load 28 .take true 4 (.t 3)),
 (some (27, false), .mv 29 .copy (.t 2)),
 (some (27, false), .mv 30 .copy (.t 1)),
 (some (27, false), .call false (some 31) (.k (.fn n_spec_l1Le [])) [(.t 28), (.t 29), (.t 30)]),
 (some (27, false), .un 32 .not (.t 31)),
 (some (16, true), .pick 33 (.t 27) (.k (.sc (.bool true))) (.t 32)),
 (none, .pick 34 (.t 16) (.t 33) (.k (.sc (.bool false)))),
 (none, .mv 35 .copy (.t 34)),
 (some (35, true), .load 36 .take true 4 (.t 3)),
 (some (35, true), .mv 37 .copy (.t 1)),
 (some (35, true), .mv 38 .copy (.t 2)),
 (some (35, true), .call false (some 39) (.k (.fn n_spec_l1Join [])) [(.t 36), (.t 37), (.t 38)]),
 (some (35, true), .bin 40 .num .geq (.t 39) (.k (N 0))),
 (none, .pick 41 (.t 35) (.t 40) (.k (.sc (.bool false)))),
 (none, .mv 6 .copy (.t 41))]))
 .ret))
theorem c_spec_l1Two : codeOf Try.prog n_spec_l1Two m_spec_l1Two = some (k_spec_l1Two, [.tmp 6], 42) := by kernel_rfl

/- loop.example/g03111/spec.l1Three -/
def m_spec_l1Three : List (Nat × List Md) := [(1, [.take, .take, .copy, .copy, .copy, .copy, .copy, .take, .copy, .take, .copy, .copy, .copy, .copy, .copy, .copy, .take, .take, .copy, .copy, .copy, .copy, .copy, .take, .copy, .take]), (3, [.take, .copy, .take, .copy, .copy, .copy, .copy, .take, .take, .copy, .copy, .copy, .take, .copy, .copy, .copy, .copy, .copy, .copy, .take, .take, .copy, .copy, .copy, .copy, .copy, .take, .take, .copy, .copy, .copy, .take]), (5, [.take]), (7, [.take, .copy, .copy, .copy, .copy, .take]), (9, [.take, .take, .copy, .copy, .copy, .take, .copy, .copy, .copy, .copy, .copy, .take, .take, .copy, .copy, .copy, .take, .copy, .copy, .copy, .copy, .copy, .copy, .take, .take, .copy, .copy, .copy, .take]), (1000001, [.copy, .copy, .copy, .copy, .frz])]
def k_spec_l1Three : C := (.seq (.reg [(none, .box 4 (.t 0)),
 (none, .mv 8 .copy (.k (.sc (.bool false))))])
 (.seq (.seq (.seq (.frz 4)
 (.reg [(none, .load 9 .take true 4 (.t 4)),
 (none, .load 10 .take true 4 (.t 4)),
 (none, .mv 11 .copy (.t 1)),
 (none, .mv 12 .copy (.t 2)),
 (none, .call false (some 13) (.k (.fn n_spec_l1Add [])) [(.t 10), (.t 11), (.t 12)]),
 (none, .mv 14 .copy (.t 3)),
 (none, .call false (some 15) (.k (.fn n_spec_l1Add [])) [(.t 9), (.t 13), (.t 14)]),
 (none, .load 16 .take true 4 (.t 4)),
 (none, .mv 17 .copy (.t 1)),
 (none, .load 18 .take true 4 (.t 4)),
 (none, .mv 19 .copy (.t 2)),
 (none, .mv 20 .copy (.t 3)),
 (none, .call false (some 21) (.k (.fn n_spec_l1Add [])) [(.t 18), (.t 19), (.t 20)]),
 (none, .call false (some 22) (.k (.fn n_spec_l1Add [])) [(.t 16), (.t 17), (.t 21)]),
 (none, .bin 23 .num .neq (.t 15) (.t 22)),
 (none, .mv 24 .copy (.t 23)),
 (some (24, false), .load 25 .take true 4 (.t 4)),
 (some (24, false), .load 26 .take true 4 (.t 4)),
 (some (24, false), .mv 27 .copy (.t 1)),
 (some (24, false), .mv 28 .copy (.t 2)),
 (some (24, false), .call false (some 29) (.k (.fn n_spec_l1Mul [])) [(.t 26), (.t 27), (.t 28)]),
 (some (24, false), .mv 30 .copy (.t 3)),
 (some (24, false), .call false (some 31) (.k (.fn n_spec_l1Mul [])) [(.t 25), (.t 29), (.t 30)]),
 (some (24, false), .load 32 .take true 4 (.t 4)),
 (some (24, false), .mv 33 .copy (.t 1)),
 (some (24, false), .load 34 .take true 4 (.t 4)),
 (some (24, false), .mv 35 .copy (.t 2)),
 (some (24, false), .mv 36 .copy (.t 3)),
 (some (24, false), .call false (some 37) (.k (.fn n_spec_l1Mul [])) [(.t 34), (.t 35), (.t 36)]),
 (some (24, false), .call false (some 38) (.k (.fn n_spec_l1Mul [])) [(.t 32), (.t 33), (.t 37)]),
 (some (24, false), .bin 39 .num .neq (.t 31) (.t 38)),
 (none, .pick 40 (.t 24) (.k (.sc (.bool true))) (.t 39))]))
 (.cond (.t 40)
 (.seq (.reg [(none, .mv 8 .copy (.k (.sc (.bool false))))])
 .ret)
 .skip))
 (.seq (.seq (.reg [(none, .load 41 .take true 4 (.t 4)),
 (none, .mv 42 .copy (.t 1)),
 (none, .load 43 .take true 4 (.t 4)),
 (none, .mv 44 .copy (.t 2)),
 (none, .mv 45 .copy (.t 3)),
 (none, .call false (some 46) (.k (.fn n_spec_l1Add [])) [(.t 43), (.t 44), (.t 45)]),
 (none, .call false (some 47) (.k (.fn n_spec_l1Mul [])) [(.t 41), (.t 42), (.t 46)]),
 (none, .load 48 .take true 4 (.t 4)),
 (none, .load 49 .take true 4 (.t 4)),
 (none, .mv 50 .copy (.t 1)),
 (none, .mv 51 .copy (.t 2)),
 (none, .call false (some 52) (.k (.fn n_spec_l1Mul [])) [(.t 49), (.t 50), (.t 51)]),
 (none, .load 53 .take true 4 (.t 4)),
 (none, .mv 54 .copy (.t 1)),
 (none, .mv 55 .copy (.t 3)),
 (none, .call false (some 56) (.k (.fn n_spec_l1Mul [])) [(.t 53), (.t 54), (.t 55)]),
 (none, .call false (some 57) (.k (.fn n_spec_l1Add [])) [(.t 48), (.t 52), (.t 56)]),
 (none, .bin 58 .num .neq (.t 47) (.t 57)),
 (none, .mv 59 .copy (.t 58)),
 (some (59, false), .load 60 .take true 4 (.t 4)),
 (some (59, false), .load 61 .take true 4 (.t 4)),
 (some (59, false), .mv 62 .copy (.t 1)),
 (some (59, false), .mv 63 .copy (.t 2)),
 (some (59, false), .call false (some 64) (.k (.fn n_spec_l1Add [])) [(.t 61), (.t 62), (.t 63)]),
 (some (59, false), .mv 65 .copy (.t 3)),
 (some (59, false), .call false (some 66) (.k (.fn n_spec_l1Mul [])) [(.t 60), (.t 64), (.t 65)]),
 (some (59, false), .load 67 .take true 4 (.t 4)),
 (some (59, false), .load 68 .take true 4 (.t 4)),
 (some (59, false), .mv 69 .copy (.t 1)),
 (some (59, false), .mv 70 .copy (.t 3)),
 (some (59, false), .call false (some 71) (.k (.fn n_spec_l1Mul [])) [(.t 68), (.t 69), (.t 70)]),
 (some (59, false), .load 72 .take true 4 (.t 4)),
 (some (59, false), .mv 73 .copy (.t 2)),
 (some (59, false), .mv 74 .copy (.t 3)),
 (some (59, false), .call false (some 75) (.k (.fn n_spec_l1Mul [])) [(.t 72), (.t 73), (.t 74)]),
 (some (59, false), .call false (some 76) (.k (.fn n_spec_l1Add [])) [(.t 67), (.t 71), (.t 75)]),
 (some (59, false), .bin 77 .num .neq (.t 66) (.t 76)),
 (none, .pick 78 (.t 59) (.k (.sc (.bool true))) (.t 77))])
 (.cond (.t 78)
 (.seq (.reg [(none, .mv 8 .copy (.k (.sc (.bool false))))])
 .ret)
 .skip))
 (.seq (.seq (.reg [(none, .load 79 .take true 4 (.t 4)),
 (none, .mv 80 .copy (.t 1)),
 (none, .mv 81 .copy (.t 2)),
 (none, .call false (some 82) (.k (.fn n_spec_l1Le [])) [(.t 79), (.t 80), (.t 81)]),
 (none, .un 83 .not (.t 82))])
 (.cond (.t 83)
 (.seq (.reg [(none, .mv 8 .copy (.k (.sc (.bool true))))])
 .ret)
 .skip))
 (.seq (.seq (.reg [(none, .load 84 .take true 4 (.t 4)),
 (none, .mv 85 .copy (.t 2)),
 (none, .mv 86 .copy (.t 3)),
 (none, .call false (some 87) (.k (.fn n_spec_l1Le [])) [(.t 84), (.t 85), (.t 86)]),
 (none, .mv 88 .copy (.t 87)),
 (some (88, true), .load 89 .take true 4 (.t 4)),
 (some (88, true), .mv 90 .copy (.t 1)),
 (some (88, true), .mv 91 .copy (.t 3)),
 (some (88, true), .call false (some 92) (.k (.fn n_spec_l1Le [])) [(.t 89), (.t 90), (.t 91)]),
 (some (88, true), .un 93 .not (.t 92)),
 (none, .pick 94 (.t 88) (.t 93) (.k (.sc (.bool false))))])
 (.cond (.t 94)
 (.seq (.reg [(none, .mv 8 .copy (.k (.sc (.bool false))))])
 .ret)
 .skip))
 (.seq (.reg [(none, .load 95 .take true 4 (.t 4)),
 (none, .load 96 .take true 4 (.t 4)),
 (none, .mv 97 .copy (.t 1)),
 (none, .mv 98 .copy (.t 3)),
 (none, .call false (some 99) (.k (.fn n_spec_l1Add [])) [(.t 96), (.t 97), (.t 98)]),
 (none, .load 100 .take true 4 (.t 4)),
 (none, .mv 101 .copy (.t 2)),
 (none, .mv 102 .copy (.t 3)),
 (none, .call false (some 103) (.k (.fn n_spec_l1Add [])) [(.t 100), (.t 101), (.t 102)]),
 (none, .call false (some 104) (.k (.fn n_spec_l1Le [])) [(.t 95), (.t 99), (.t 103)]),
 (none, .mv 105 .copy (.t 104)),
 (some (105, true), .load 106 .take true 4 (.t 4)),
 (some (105, true), .load 107 .take true 4 (.t 4)),
 (some (105, true), .mv 108 .copy (.t 1)),
 (some (105, true), .mv 109 .copy (.t 3)),
 (some (105, true), .call false (some 110) (.k (.fn n_spec_l1Mul [])) [(.t 107), (.t 108), (.t 109)]),
 (some (105, true), .load 111 .take true 4 (.t 4)),
 (some (105, true), .mv 112 .copy (.t 2)),
 (some (105, true), .mv 113 .copy (.t 3)),
 (some (105, true), .call false (some 114) (.k (.fn n_spec_l1Mul [])) [(.t 111), (.t 112), (.t 113)]),
 (some (105, true), .call false (some 115) (.k (.fn n_spec_l1Le [])) [(.t 106), (.t 110), (.t 114)]),
 (none, .pick 116 (.t 105) (.t 115) (.k (.sc (.bool false)))),
 (none, .mv 117 .copy (.t 116)),
 (some (117, true), .load 118 .take true 4 (.t 4)),
 (some (117, true), .load 119 .take true 4 (.t 4)),
 (some (117, true), .mv 120 .copy (.t 3)),
 (some (117, true), .mv 121 .copy (.t 1)),
 (some (117, true), .call false (some 122) (.k (.fn n_spec_l1Mul [])) [(.t 119), (.t 120), (.t 121)]),
 (some (117, true), .load 123 .take true 4 (.t 4)),
 (some (117, true), .mv 124 .copy (.t 3)),
 (some (117, true), .mv 125 .copy (.t 2)),
 (some (117, true), .call false (some 126) (.k (.fn n_spec_l1Mul [])) [(.t 123), (.t 124), (.t 125)]),
 (some (117, true), .call false (some 127) (.k (.fn n_spec_l1Le [])) [(.t 118), (.t 122), (.t 126)]),
 (none, .pick 128 (.t 117) (.t 127) (.k (.sc (.bool false)))),
 (none, .mv 8 .copy (.t 128))])
 .ret))))))
theorem c_spec_l1Three : codeOf Try.prog n_spec_l1Three m_spec_l1Three = some (k_spec_l1Three, [.tmp 8], 129) := by kernel_rfl

/- loop.example/g03111/spec.l2Type -/
def m_spec_l2Type : List (Nat × List Md) := [(1, [.copy, .copy, .copy, .copy, .copy, .copy, .copy, .copy, .copy, .copy, .copy, .take])]
def k_spec_l2Type : C := (.seq (.reg [(none, .mv 2 .copy (.k (.sc (.bool false))))])
 (.seq (.reg [(none, .mv 3 .copy (.t 0)),
 (none, .len 4 (.t 3)),
 (none, .bin 5 .num .leq (.t 4) (.k (N 40))),
 (none, .mv 6 .copy (.t 5)),
 (some (6, true), .mv 7 .copy (.t 0)),
 (some (6, true), .call false (some 8) (.k (.fn n_spec_l2End [])) [(.t 7), (.k (N 0))]),
 (some (6, true), .mv 9 .copy (.t 0)),
 (some (6, true), .len 10 (.t 9)),
 (some (6, true), .bin 11 .num .eql (.t 8) (.t 10)),
 (none, .pick 12 (.t 6) (.t 11) (.k (.sc (.bool false)))),
 (none, .mv 13 .copy (.t 12)),
 (some (13, true), .mv 14 .take (.t 0)),
 (some (13, true), .len 15 (.t 14)),
 (some (13, true), .bin 16 .num .gtr (.t 15) (.k (N 0))),
 (none, .pick 17 (.t 13) (.t 16) (.k (.sc (.bool false)))),
 (none, .mv 2 .copy (.t 17))])
 .ret))
theorem c_spec_l2Type : codeOf Try.prog n_spec_l2Type m_spec_l2Type = some (k_spec_l2Type, [.tmp 2], 18) := by kernel_rfl

/- loop.example/g03111/spec.l2Graded -/
def m_spec_l2Graded : List (Nat × List Md) := []
def k_spec_l2Graded : C := (.seq (.reg [(none, .mv 6 .copy (.k (.sc (.bool false))))])
 (.seq (.seq (.reg [(none, .mv 7 .copy (.k (N 0)))])
 (.block 0 (.loop (.seq (.seq (.reg [(none, .mv 9 .copy (.t 7)),
 (none, .mv 10 .copy (.t 0)),
 (none, .len 11 (.t 10)),
 (none, .bin 12 .num .lss (.t 9) (.t 11))])
 (.cond (.t 12)
 .skip
 (.exit 0)))
 (.seq (.block 1 (.seq (.reg [(none, .mv 15 .copy (.t 0)),
 (none, .mv 16 .copy (.t 7)),
 (none, .indexA 17 1 (.t 15) (.t 16)),
 (none, .load 18 .copy false 1 (.t 17)),
 (none, .call false (some 19) (.k (.fn n_spec_l2Kids [])) [(.t 18)]),
 (none, .bin 20 .num .gtr (.t 19) (.k (N 0))),
 (none, .mv 21 .copy (.t 20)),
 (some (21, true), .mv 22 .copy (.t 0)),
 (some (21, true), .mv 23 .copy (.t 7)),
 (some (21, true), .indexA 24 1 (.t 22) (.t 23)),
 (some (21, true), .load 25 .copy false 1 (.t 24)),
 (some (21, true), .bin 26 .num .gtr (.t 25) (.k (N 2))),
 (none, .pick 27 (.t 21) (.t 26) (.k (.sc (.bool false))))])
 (.cond (.t 27)
 (.seq (.reg [(none, .mv 28 .copy (.t 0)),
 (none, .mv 29 .copy (.t 7)),
 (none, .indexA 30 1 (.t 28) (.t 29)),
 (none, .load 31 .copy false 1 (.t 30)),
 (none, .call false (some 32) (.k (.fn n_spec_l2Grade [])) [(.t 31)]),
 (none, .mv 8 .copy (.t 32))])
 (.seq (.reg [(none, .mv 33 .copy (.t 8)),
 (none, .mv 34 .copy (.t 1)),
 (none, .bin 35 .num .geq (.t 33) (.t 34)),
 (none, .mv 36 .copy (.t 35)),
 (some (36, false), .mv 37 .copy (.t 2)),
 (some (36, false), .mv 38 .copy (.t 37)),
 (some (38, true), .mv 39 .copy (.t 8)),
 (some (38, true), .bin 40 .num .lss (.t 39) (.k (N 0))),
 (some (36, false), .pick 41 (.t 38) (.t 40) (.k (.sc (.bool false)))),
 (none, .pick 42 (.t 36) (.k (.sc (.bool true))) (.t 41))])
 (.cond (.t 42)
 (.seq (.reg [(none, .mv 6 .copy (.k (.sc (.bool false))))])
 .ret)
 .skip)))
 .skip)))
 (.reg [(none, .mv 13 .copy (.t 7)),
 (none, .bin 14 .num .add (.t 13) (.k (N 1))),
 (none, .mv 7 .copy (.t 14))]))))))
 (.seq (.reg [(none, .mv 6 .copy (.k (.sc (.bool true))))])
 .ret)))
theorem c_spec_l2Graded : codeOf Try.prog n_spec_l2Graded m_spec_l2Graded = some (k_spec_l2Graded, [.tmp 6], 43) := by kernel_rfl

/- loop.example/g03111/spec.l2Left -/
def m_spec_l2Left : List (Nat × List Md) := [(3, [.copy, .copy, .take]), (5, [.copy, .take]), (1000001, [.copy, .copy, .frz])]
def k_spec_l2Left : C := (.seq (.reg [(none, .box 2 (.t 0)),
 (none, .mv 4 .copy (.k (N 0)))])
 (.seq (.seq (.frz 2)
 (.reg [(none, .mv 6 .copy (.t 1)),
 (none, .bin 7 .num .sub (.t 6) (.k (N 1))),
 (none, .mv 1 .copy (.t 7))]))
 (.seq (.seq (.reg [(none, .mv 5 .copy (.k (N 0)))])
 (.block 0 (.loop (.seq (.seq (.reg [(none, .mv 8 .copy (.t 5)),
 (none, .fieldA 9 3 (.t 2)),
 (none, .load 10 .take false 1 (.t 9)),
 (none, .len 11 (.t 10)),
 (none, .bin 12 .num .lss (.t 8) (.t 11)),
 (none, .mv 13 .copy (.t 12)),
 (some (13, true), .mv 14 .copy (.t 1)),
 (some (13, true), .bin 15 .num .geq (.t 14) (.k (N 0))),
 (none, .pick 16 (.t 13) (.t 15) (.k (.sc (.bool false))))])
 (.cond (.t 16)
 .skip
 (.exit 0)))
 (.seq (.block 1 (.reg [(none, .fieldA 19 3 (.t 2)),
 (none, .load 20 .take false 1 (.t 19)),
 (none, .mv 21 .copy (.t 5)),
 (none, .indexA 22 4 (.t 20) (.t 21)),
 (none, .load 23 .copy true 4 (.t 22)),
 (none, .mv 24 .copy (.t 1)),
 (none, .call false (some 25) (.k (.fn n_spec_l2Left [])) [(.t 23), (.t 24)]),
 (none, .mv 1 .copy (.t 25))]))
 (.reg [(none, .mv 17 .copy (.t 5)),
 (none, .bin 18 .num .add (.t 17) (.k (N 1))),
 (none, .mv 5 .copy (.t 18))]))))))
 (.seq (.reg [(none, .mv 26 .copy (.t 1)),
 (none, .mv 4 .copy (.t 26))])
 .ret))))
theorem c_spec_l2Left : codeOf Try.prog n_spec_l2Left m_spec_l2Left = some (k_spec_l2Left, [.tmp 4], 27) := by kernel_rfl

/- loop.example/g03111/spec.l2Term -/
def m_spec_l2Term : List (Nat × List Md) := [(1, [.take]), (4, [.copy, .copy, .take]), (6, [.copy, .take, .copy, .copy, .copy, .copy, .copy, .take]), (1000001, [.copy, .copy, .copy, .copy, .frz])]
def k_spec_l2Term : C := (.seq (.reg [(none, .box 4 (.t 0)),
 (none, .mv 8 .copy (.k (.sc (.bool false))))])
 (.seq (.seq (.seq (.frz 4)
 (.reg [(none, .load 10 .take true 4 (.t 4)),
 (none, .mv 11 .copy (.t 1)),
 (none, .mv 12 .copy (.t 2)),
 (none, .mv 13 .copy (.t 3)),
 (none, .call false (some 14) (.k (.fn n_spec_l2Node [])) [(.t 10), (.t 11), (.t 12), (.t 13)]),
 (none, .un 15 .not (.t 14))]))
 (.cond (.t 15)
 (.seq (.reg [(none, .mv 8 .copy (.k (.sc (.bool false))))])
 .ret)
 .skip))
 (.seq (.seq (.reg [(none, .mv 9 .copy (.k (N 0)))])
 (.block 0 (.loop (.seq (.seq (.reg [(none, .mv 16 .copy (.t 9)),
 (none, .fieldA 17 3 (.t 4)),
 (none, .load 18 .take false 1 (.t 17)),
 (none, .len 19 (.t 18)),
 (none, .bin 20 .num .lss (.t 16) (.t 19))])
 (.cond (.t 20)
 .skip
 (.exit 0)))
 (.seq (.block 1 (.seq (.reg [(none, .fieldA 23 3 (.t 4)),
 (none, .load 24 .take false 1 (.t 23)),
 (none, .mv 25 .copy (.t 9)),
 (none, .indexA 26 4 (.t 24) (.t 25)),
 (none, .load 27 .copy true 4 (.t 26)),
 (none, .mv 28 .copy (.t 1)),
 (none, .fieldA 29 0 (.t 4)),
 (none, .load 30 .take false 1 (.t 29)),
 (none, .mv 31 .copy (.t 9)),
 (none, .call false (some 32) (.k (.fn n_spec_l2Adds [])) [(.t 30), (.t 31)]),
 (none, .bin 33 .num .add (.t 28) (.t 32)),
 (none, .mv 34 .copy (.t 2)),
 (none, .mv 35 .copy (.t 3)),
 (none, .call false (some 36) (.k (.fn n_spec_l2Term [])) [(.t 27), (.t 33), (.t 34), (.t 35)]),
 (none, .un 37 .not (.t 36))])
 (.cond (.t 37)
 (.seq (.reg [(none, .mv 8 .copy (.k (.sc (.bool false))))])
 .ret)
 .skip)))
 (.reg [(none, .mv 21 .copy (.t 9)),
 (none, .bin 22 .num .add (.t 21) (.k (N 1))),
 (none, .mv 9 .copy (.t 22))]))))))
 (.seq (.reg [(none, .mv 8 .copy (.k (.sc (.bool true))))])
 .ret))))
theorem c_spec_l2Term : codeOf Try.prog n_spec_l2Term m_spec_l2Term = some (k_spec_l2Term, [.tmp 8], 38) := by kernel_rfl

/- loop.example/g03111/laws.toIntS -/
def m_laws_toIntS : List (Nat × List Md) := [(1, [.copy, .copy, .copy, .take]), (6, [.take, .frz])]
def k_laws_toIntS : C := (.seq (.reg [(none, .mv 2 .copy (.k (.sl true true 1 [])))])
 (.seq (.reg [(none, .mv 5 .copy (.t 0)),
 (none, .len 6 (.t 5)),
 (none, .mkslice 7 1 [(N 0)] (.t 6)),
 (none, .mv 3 .take (.t 7))])
 (.seq (.seq (.reg [(none, .mv 4 .copy (.k (N 0)))])
 (.block 0 (.loop (.seq (.seq (.reg [(none, .mv 8 .copy (.t 4)),
 (none, .mv 9 .copy (.t 0)),
 (none, .len 10 (.t 9)),
 (none, .bin 11 .num .lss (.t 8) (.t 10))])
 (.cond (.t 11)
 .skip
 (.exit 0)))
 (.seq (.block 1 (.reg [(none, .mv 14 .copy (.t 3)),
 (none, .mv 15 .copy (.t 4)),
 (none, .mv 16 .copy (.t 0)),
 (none, .mv 17 .copy (.t 4)),
 (none, .indexA 18 1 (.t 16) (.t 17)),
 (none, .load 19 .copy false 1 (.t 18)),
 (none, .indexA 20 1 (.t 14) (.t 15)),
 (none, .store 1 (.t 20) (.t 19))]))
 (.reg [(none, .mv 12 .copy (.t 4)),
 (none, .bin 13 .num .add (.t 12) (.k (N 1))),
 (none, .mv 4 .copy (.t 13))]))))))
 (.seq (.reg [(none, .mv 21 .take (.t 3)),
 (none, .mv 2 .frz (.t 21))])
 .ret))))
theorem c_laws_toIntS : codeOf Try.prog n_laws_toIntS m_laws_toIntS = some (k_laws_toIntS, [.tmp 2], 22) := by kernel_rfl

/- loop.example/g03111/laws.toBoolS -/
def m_laws_toBoolS : List (Nat × List Md) := [(1, [.copy, .copy, .copy, .take]), (6, [.take, .frz])]
def k_laws_toBoolS : C := (.seq (.reg [(none, .mv 2 .copy (.k (.sl true true 1 [])))])
 (.seq (.reg [(none, .mv 5 .copy (.t 0)),
 (none, .len 6 (.t 5)),
 (none, .mkslice 7 1 [(.sc (.bool false))] (.t 6)),
 (none, .mv 3 .take (.t 7))])
 (.seq (.seq (.reg [(none, .mv 4 .copy (.k (N 0)))])
 (.block 0 (.loop (.seq (.seq (.reg [(none, .mv 8 .copy (.t 4)),
 (none, .mv 9 .copy (.t 0)),
 (none, .len 10 (.t 9)),
 (none, .bin 11 .num .lss (.t 8) (.t 10))])
 (.cond (.t 11)
 .skip
 (.exit 0)))
 (.seq (.block 1 (.reg [(none, .mv 14 .copy (.t 3)),
 (none, .mv 15 .copy (.t 4)),
 (none, .mv 16 .copy (.t 0)),
 (none, .mv 17 .copy (.t 4)),
 (none, .indexA 18 1 (.t 16) (.t 17)),
 (none, .load 19 .copy false 1 (.t 18)),
 (none, .indexA 20 1 (.t 14) (.t 15)),
 (none, .store 1 (.t 20) (.t 19))]))
 (.reg [(none, .mv 12 .copy (.t 4)),
 (none, .bin 13 .num .add (.t 12) (.k (N 1))),
 (none, .mv 4 .copy (.t 13))]))))))
 (.seq (.reg [(none, .mv 21 .take (.t 3)),
 (none, .mv 2 .frz (.t 21))])
 .ret))))
theorem c_laws_toBoolS : codeOf Try.prog n_laws_toBoolS m_laws_toBoolS = some (k_laws_toBoolS, [.tmp 2], 22) := by kernel_rfl

/- loop.example/g03111/laws.toTermS -/
def m_laws_toTermS : List (Nat × List Md) := [(1, [.copy, .copy, .copy, .take]), (6, [.take, .frz])]
def k_laws_toTermS : C := (.seq (.reg [(none, .mv 2 .copy (.k (.sl true true 4 [])))])
 (.seq (.reg [(none, .mv 5 .copy (.t 0)),
 (none, .len 6 (.t 5)),
 (none, .mkslice 7 4 [(N 0), (N 0), (.sl true true 1 []), (.sl true true 1 [])] (.t 6)),
 (none, .mv 3 .take (.t 7))])
 (.seq (.seq (.reg [(none, .mv 4 .copy (.k (N 0)))])
 (.block 0 (.loop (.seq (.seq (.reg [(none, .mv 8 .copy (.t 4)),
 (none, .mv 9 .copy (.t 0)),
 (none, .len 10 (.t 9)),
 (none, .bin 11 .num .lss (.t 8) (.t 10))])
 (.cond (.t 11)
 .skip
 (.exit 0)))
 (.seq (.block 1 (.reg [(none, .mv 14 .copy (.t 3)),
 (none, .mv 15 .copy (.t 4)),
 (none, .mv 16 .copy (.t 0)),
 (none, .mv 17 .copy (.t 4)),
 (none, .indexA 18 4 (.t 16) (.t 17)),
 (none, .load 19 .copy true 4 (.t 18)),
 (none, .call false (some 20) (.k (.fn n_laws_toTerm [])) [(.t 19)]),
 (none, .indexA 21 4 (.t 14) (.t 15)),
 (none, .store 4 (.t 21) (.t 20))]))
 (.reg [(none, .mv 12 .copy (.t 4)),
 (none, .bin 13 .num .add (.t 12) (.k (N 1))),
 (none, .mv 4 .copy (.t 13))]))))))
 (.seq (.reg [(none, .mv 22 .take (.t 3)),
 (none, .mv 2 .frz (.t 22))])
 .ret))))
theorem c_laws_toTermS : codeOf Try.prog n_laws_toTermS m_laws_toTermS = some (k_laws_toTermS, [.tmp 2], 23) := by kernel_rfl

/- loop.example/g03111/impl.within -/
def m_impl_within : List (Nat × List Md) := []
def k_impl_within : C := (.seq (.reg [(none, .mv 6 .copy (.k (.sc (.bool false))))])
 (.seq (.reg [(none, .mv 7 .copy (.t 0)),
 (none, .mv 8 .copy (.t 1)),
 (none, .bin 9 .num .geq (.t 7) (.t 8)),
 (none, .mv 10 .copy (.t 9)),
 (some (10, true), .mv 11 .copy (.t 0)),
 (some (10, true), .mv 12 .copy (.t 2)),
 (some (10, true), .bin 13 .num .leq (.t 11) (.t 12)),
 (none, .pick 14 (.t 10) (.t 13) (.k (.sc (.bool false)))),
 (none, .mv 6 .copy (.t 14))])
 .ret))
theorem c_impl_within : codeOf Try.prog n_impl_within m_impl_within = some (k_impl_within, [.tmp 6], 15) := by kernel_rfl

/- (loop.example/g03111/impl.System).has -/
def m__impl_System__has : List (Nat × List Md) := [(1, [.copy, .copy, .take]), (1000001, [.copy, .copy, .frz])]
def k__impl_System__has : C := (.seq (.reg [(none, .box 2 (.t 0)),
 (none, .mv 4 .copy (.k (.sc (.bool false))))])
 (.seq (.seq (.frz 2)
 (.reg [(none, .mv 5 .copy (.t 1)),
 (none, .fieldA 6 0 (.t 2)),
 (none, .load 7 .take false 1 (.t 6)),
 (none, .bin 8 .num .sub (.t 7) (.k (N 1))),
 (none, .call false (some 9) (.k (.fn n_impl_within [])) [(.t 5), (.k (N 0)), (.t 8)]),
 (none, .mv 4 .copy (.t 9))]))
 .ret))
theorem c__impl_System__has : codeOf Try.prog n__impl_System__has m__impl_System__has = some (k__impl_System__has, [.tmp 4], 10) := by kernel_rfl

/- (loop.example/g03111/impl.System).plus -/
def m__impl_System__plus : List (Nat × List Md) := [(1, [.copy, .take, .copy, .copy, .take]), (1000001, [.copy, .copy, .copy, .frz])]
def k__impl_System__plus : C := (.seq (.reg [(none, .box 3 (.t 0)),
 (none, .mv 6 .copy (.k (N 0)))])
 (.seq (.seq (.frz 3)
 (.reg [(none, .fieldA 7 1 (.t 3)),
 (none, .load 8 .take false 1 (.t 7)),
 (none, .mv 9 .copy (.t 1)),
 (none, .fieldA 10 0 (.t 3)),
 (none, .load 11 .take false 1 (.t 10)),
 (none, .bin 12 .num .mul (.t 9) (.t 11)),
 (none, .mv 13 .copy (.t 2)),
 (none, .bin 14 .num .add (.t 12) (.t 13)),
 (none, .indexA 15 1 (.t 8) (.t 14)),
 (none, .load 16 .copy false 1 (.t 15)),
 (none, .mv 6 .copy (.t 16))]))
 .ret))
theorem c__impl_System__plus : codeOf Try.prog n__impl_System__plus m__impl_System__plus = some (k__impl_System__plus, [.tmp 6], 17) := by kernel_rfl

/- (loop.example/g03111/impl.System).times -/
def m__impl_System__times : List (Nat × List Md) := [(1, [.copy, .take, .copy, .copy, .take]), (1000001, [.copy, .copy, .copy, .frz])]
def k__impl_System__times : C := (.seq (.reg [(none, .box 3 (.t 0)),
 (none, .mv 6 .copy (.k (N 0)))])
 (.seq (.seq (.frz 3)
 (.reg [(none, .fieldA 7 2 (.t 3)),
 (none, .load 8 .take false 1 (.t 7)),
 (none, .mv 9 .copy (.t 1)),
 (none, .fieldA 10 0 (.t 3)),
 (none, .load 11 .take false 1 (.t 10)),
 (none, .bin 12 .num .mul (.t 9) (.t 11)),
 (none, .mv 13 .copy (.t 2)),
 (none, .bin 14 .num .add (.t 12) (.t 13)),
 (none, .indexA 15 1 (.t 8) (.t 14)),
 (none, .load 16 .copy false 1 (.t 15)),
 (none, .mv 6 .copy (.t 16))]))
 .ret))
theorem c__impl_System__times : codeOf Try.prog n__impl_System__times m__impl_System__times = some (k__impl_System__times, [.tmp 6], 17) := by kernel_rfl

/- (loop.example/g03111/impl.System).below -/
def m__impl_System__below : List (Nat × List Md) := [(1, [.copy, .take, .copy, .copy, .take]), (1000001, [.copy, .copy, .copy, .frz])]
def k__impl_System__below : C := (.seq (.reg [(none, .box 3 (.t 0)),
 (none, .mv 6 .copy (.k (.sc (.bool false))))])
 (.seq (.seq (.frz 3)
 (.reg [(none, .fieldA 7 3 (.t 3)),
 (none, .load 8 .take false 1 (.t 7)),
 (none, .mv 9 .copy (.t 1)),
 (none, .fieldA 10 0 (.t 3)),
 (none, .load 11 .take false 1 (.t 10)),
 (none, .bin 12 .num .mul (.t 9) (.t 11)),
 (none, .mv 13 .copy (.t 2)),
 (none, .bin 14 .num .add (.t 12) (.t 13)),
 (none, .indexA 15 1 (.t 8) (.t 14)),
 (none, .load 16 .copy false 1 (.t 15)),
 (none, .mv 6 .copy (.t 16))]))
 .ret))
theorem c__impl_System__below : codeOf Try.prog n__impl_System__below m__impl_System__below = some (k__impl_System__below, [.tmp 6], 17) := by kernel_rfl

/- (loop.example/g03111/impl.System).join -/
def m__impl_System__join : List (Nat × List Md) := [(2, [.copy, .copy, .take]), (4, [.take, .copy, .copy, .copy, .copy, .copy, .take]), (7, [.copy, .copy, .take]), (9, [.copy, .copy, .take, .copy, .copy, .copy, .copy, .copy, .take, .copy, .copy, .copy, .copy, .copy, .copy, .take]), (1000001, [.copy, .copy, .copy, .frz])]
def k__impl_System__join : C := (.seq (.reg [(none, .box 3 (.t 0)),
 (none, .mv 6 .copy (.k (N 0)))])
 (.seq (.seq (.seq (.frz 3)
 (.reg [(none, .mv 7 .copy (.k (N 0)))]))
 (.block 0 (.loop (.seq (.seq (.reg [(none, .mv 10 .copy (.t 7)),
 (none, .fieldA 11 0 (.t 3)),
 (none, .load 12 .take false 1 (.t 11)),
 (none, .bin 13 .num .lss (.t 10) (.t 12))])
 (.cond (.t 13)
 .skip
 (.exit 0)))
 (.seq (.block 1 (.seq (.seq (.reg [(none, .load 16 .take true 4 (.t 3)),
 (none, .mv 17 .copy (.t 1)),
 (none, .mv 18 .copy (.t 7)),
 (none, .call false (some 19) (.k (.fn n__impl_System__below [])) [(.t 16), (.t 17), (.t 18)]),
 (none, .un 20 .not (.t 19)),
 (none, .mv 21 .copy (.t 20)),
 (some (21, false), .load 22 .take true 4 (.t 3)),
 (some (21, false), .mv 23 .copy (.t 2)),
 (some (21, false), .mv 24 .copy (.t 7)),
 (some (21, false), .call false (some 25) (.k (.fn n__impl_System__below [])) [(.t 22), (.t 23), (.t 24)]),
 (some (21, false), .un 26 .not (.t 25)),
 (none, .pick 27 (.t 21) (.k (.sc (.bool true))) (.t 26))])
 (.cond (.t 27)
 (.exit 1)
 .skip))
 (.seq (.reg [(none, .mv 8 .copy (.k (.sc (.bool true))))])
 (.seq (.seq (.reg [(none, .mv 9 .copy (.k (N 0)))])
 (.block 2 (.loop (.seq (.seq (.reg [(none, .mv 28 .copy (.t 9)),
 (none, .fieldA 29 0 (.t 3)),
 (none, .load 30 .take false 1 (.t 29)),
 (none, .bin 31 .num .lss (.t 28) (.t 30))])
 (.cond (.t 31)
 .skip
 (.exit 2)))
 (.seq (.block 3 (.reg [(none, .mv 34 .copy (.t 8)),
 (none, .mv 35 .copy (.t 34)),
 (some (35, true), .load 36 .take true 4 (.t 3)),
 (some (35, true), .mv 37 .copy (.t 1)),
 (some (35, true), .mv 38 .copy (.t 9)),
 (some (35, true), .call false (some 39) (.k (.fn n__impl_System__below [])) [(.t 36), (.t 37), (.t 38)]),
 (some (35, true), .un 40 .not (.t 39)),
 (some (35, true), .mv 41 .copy (.t 40)),
 (some (41, false), .load 42 .take true 4 (.t 3)),
 (some (41, false), .mv 43 .copy (.t 2)),
 (some (41, false), .mv 44 .copy (.t 9)),
 (some (41, false), .call false (some 45) (.k (.fn n__impl_System__below [])) [(.t 42), (.t 43), (.t 44)]),
 (some (41, false), .un 46 .not (.t 45)),
 (some (35, true), .pick 47 (.t 41) (.k (.sc (.bool true))) (.t 46)),
 (some (35, true), .mv 48 .copy (.t 47)),
 (some (48, false), .load 49 .take true 4 (.t 3)),
 (some (48, false), .mv 50 .copy (.t 7)),
 (some (48, false), .mv 51 .copy (.t 9)),
 (some (48, false), .call false (some 52) (.k (.fn n__impl_System__below [])) [(.t 49), (.t 50), (.t 51)]),
 (some (35, true), .pick 53 (.t 48) (.k (.sc (.bool true))) (.t 52)),
 (none, .pick 54 (.t 35) (.t 53) (.k (.sc (.bool false)))),
 (none, .mv 8 .copy (.t 54))]))
 (.reg [(none, .mv 32 .copy (.t 9)),
 (none, .bin 33 .num .add (.t 32) (.k (N 1))),
 (none, .mv 9 .copy (.t 33))]))))))
 (.seq (.reg [(none, .mv 55 .copy (.t 8))])
 (.cond (.t 55)
 (.seq (.reg [(none, .mv 56 .copy (.t 7)),
 (none, .mv 6 .copy (.t 56))])
 .ret)
 .skip))))))
 (.reg [(none, .mv 14 .copy (.t 7)),
 (none, .bin 15 .num .add (.t 14) (.k (N 1))),
 (none, .mv 7 .copy (.t 15))]))))))
 (.seq (.reg [(none, .mv 6 .copy (.k (N (-1))))])
 .ret)))
theorem c__impl_System__join : codeOf Try.prog n__impl_System__join m__impl_System__join = some (k__impl_System__join, [.tmp 6], 57) := by kernel_rfl

/- (loop.example/g03111/impl.System).lawsOf -/
def m__impl_System__lawsOf : List (Nat × List Md) := [(1, [.take, .take, .copy, .copy, .copy, .copy, .copy, .take, .copy, .take, .copy, .copy, .copy, .copy, .copy, .copy, .take, .take, .copy, .copy, .copy, .copy, .copy, .take, .copy, .take]), (3, [.take, .copy, .take, .copy, .copy, .copy, .copy, .take, .take, .copy, .copy, .copy, .take, .copy, .copy, .copy, .copy, .copy, .copy, .take, .take, .copy, .copy, .copy, .copy, .copy, .take, .take, .copy, .copy, .copy, .take]), (5, [.take, .copy, .copy, .copy, .copy, .take, .copy, .copy, .copy, .copy, .copy, .take]), (7, [.take, .copy, .copy, .copy, .copy, .copy, .take, .take, .copy, .copy, .copy, .take, .copy, .copy, .copy, .copy, .copy, .take, .take, .copy, .copy, .copy, .take, .copy, .copy, .copy, .copy, .copy, .copy, .take, .take, .copy, .copy, .copy, .take]), (1000001, [.copy, .copy, .copy, .copy, .frz])]
def k__impl_System__lawsOf : C := (.seq (.reg [(none, .box 4 (.t 0)),
 (none, .mv 8 .copy (.k (.sc (.bool false))))])
 (.seq (.seq (.seq (.frz 4)
 (.reg [(none, .load 9 .take true 4 (.t 4)),
 (none, .load 10 .take true 4 (.t 4)),
 (none, .mv 11 .copy (.t 1)),
 (none, .mv 12 .copy (.t 2)),
 (none, .call false (some 13) (.k (.fn n__impl_System__plus [])) [(.t 10), (.t 11), (.t 12)]),
 (none, .mv 14 .copy (.t 3)),
 (none, .call false (some 15) (.k (.fn n__impl_System__plus [])) [(.t 9), (.t 13), (.t 14)]),
 (none, .load 16 .take true 4 (.t 4)),
 (none, .mv 17 .copy (.t 1)),
 (none, .load 18 .take true 4 (.t 4)),
 (none, .mv 19 .copy (.t 2)),
 (none, .mv 20 .copy (.t 3)),
 (none, .call false (some 21) (.k (.fn n__impl_System__plus [])) [(.t 18), (.t 19), (.t 20)]),
 (none, .call false (some 22) (.k (.fn n__impl_System__plus [])) [(.t 16), (.t 17), (.t 21)]),
 (none, .bin 23 .num .neq (.t 15) (.t 22)),
 (none, .mv 24 .copy (.t 23)),
 (some (24, false), .load 25 .take true 4 (.t 4)),
 (some (24, false), .load 26 .take true 4 (.t 4)),
 (some (24, false), .mv 27 .copy (.t 1)),
 (some (24, false), .mv 28 .copy (.t 2)),
 (some (24, false), .call false (some 29) (.k (.fn n__impl_System__times [])) [(.t 26), (.t 27), (.t 28)]),
 (some (24, false), .mv 30 .copy (.t 3)),
 (some (24, false), .call false (some 31) (.k (.fn n__impl_System__times [])) [(.t 25), (.t 29), (.t 30)]),
 (some (24, false), .load 32 .take true 4 (.t 4)),
 (some (24, false), .mv 33 .copy (.t 1)),
 (some (24, false), .load 34 .take true 4 (.t 4)),
 (some (24, false), .mv 35 .copy (.t 2)),
 (some (24, false), .mv 36 .copy (.t 3)),
 (some (24, false), .call false (some 37) (.k (.fn n__impl_System__times [])) [(.t 34), (.t 35), (.t 36)]),
 (some (24, false), .call false (some 38) (.k (.fn n__impl_System__times [])) [(.t 32), (.t 33), (.t 37)]),
 (some (24, false), .bin 39 .num .neq (.t 31) (.t 38)),
 (none, .pick 40 (.t 24) (.k (.sc (.bool true))) (.t 39))]))
 (.cond (.t 40)
 (.seq (.reg [(none, .mv 8 .copy (.k (.sc (.bool false))))])
 .ret)
 .skip))
 (.seq (.seq (.reg [(none, .load 41 .take true 4 (.t 4)),
 (none, .mv 42 .copy (.t 1)),
 (none, .load 43 .take true 4 (.t 4)),
 (none, .mv 44 .copy (.t 2)),
 (none, .mv 45 .copy (.t 3)),
 (none, .call false (some 46) (.k (.fn n__impl_System__plus [])) [(.t 43), (.t 44), (.t 45)]),
 (none, .call false (some 47) (.k (.fn n__impl_System__times [])) [(.t 41), (.t 42), (.t 46)]),
 (none, .load 48 .take true 4 (.t 4)),
 (none, .load 49 .take true 4 (.t 4)),
 (none, .mv 50 .copy (.t 1)),
 (none, .mv 51 .copy (.t 2)),
 (none, .call false (some 52) (.k (.fn n__impl_System__times [])) [(.t 49), (.t 50), (.t 51)]),
 (none, .load 53 .take true 4 (.t 4)),
 (none, .mv 54 .copy (.t 1)),
 (none, .mv 55 .copy (.t 3)),
 (none, .call false (some 56) (.k (.fn n__impl_System__times [])) [(.t 53), (.t 54), (.t 55)]),
 (none, .call false (some 57) (.k (.fn n__impl_System__plus [])) [(.t 48), (.t 52), (.t 56)]),
 (none, .bin 58 .num .neq (.t 47) (.t 57)),
 (none, .mv 59 .copy (.t 58)),
 (some (59, false), .load 60 .take true 4 (.t 4)),
 (some (59, false), .load 61 .take true 4 (.t 4)),
 (some (59, false), .mv 62 .copy (.t 1)),
 (some (59, false), .mv 63 .copy (.t 2)),
 (some (59, false), .call false (some 64) (.k (.fn n__impl_System__plus [])) [(.t 61), (.t 62), (.t 63)]),
 (some (59, false), .mv 65 .copy (.t 3)),
 (some (59, false), .call false (some 66) (.k (.fn n__impl_System__times [])) [(.t 60), (.t 64), (.t 65)]),
 (some (59, false), .load 67 .take true 4 (.t 4)),
 (some (59, false), .load 68 .take true 4 (.t 4)),
 (some (59, false), .mv 69 .copy (.t 1)),
 (some (59, false), .mv 70 .copy (.t 3)),
 (some (59, false), .call false (some 71) (.k (.fn n__impl_System__times [])) [(.t 68), (.t 69), (.t 70)]),
 (some (59, false), .load 72 .take true 4 (.t 4)),
 (some (59, false), .mv 73 .copy (.t 2)),
 (some (59, false), .mv 74 .copy (.t 3)),
 (some (59, false), .call false (some 75) (.k (.fn n__impl_System__times [])) [(.t 72), (.t 73), (.t 74)]),
 (some (59, false), .call false (some 76) (.k (.fn n__impl_System__plus [])) [(.t 67), (.t 71), (.t 75)]),
 (some (59, false), .bin 77 .num .neq (.t 66) (.t 76)),
 (none, .pick 78 (.t 59) (.k (.sc (.bool true))) (.t 77))])
 (.cond (.t 78)
 (.seq (.reg [(none, .mv 8 .copy (.k (.sc (.bool false))))])
 .ret)
 .skip))
 (.seq (.seq (.reg [(none, .load 79 .take true 4 (.t 4)),
 (none, .mv 80 .copy (.t 1)),
 (none, .mv 81 .copy (.t 2)),
 (none, .call false (some 82) (.k (.fn n__impl_System__below [])) [(.t 79), (.t 80), (.t 81)]),
 (none, .mv 83 .copy (.t 82)),
 (some (83, true), .load 84 .take true 4 (.t 4)),
 (some (83, true), .mv 85 .copy (.t 2)),
 (some (83, true), .mv 86 .copy (.t 3)),
 (some (83, true), .call false (some 87) (.k (.fn n__impl_System__below [])) [(.t 84), (.t 85), (.t 86)]),
 (none, .pick 88 (.t 83) (.t 87) (.k (.sc (.bool false)))),
 (none, .mv 89 .copy (.t 88)),
 (some (89, true), .load 90 .take true 4 (.t 4)),
 (some (89, true), .mv 91 .copy (.t 1)),
 (some (89, true), .mv 92 .copy (.t 3)),
 (some (89, true), .call false (some 93) (.k (.fn n__impl_System__below [])) [(.t 90), (.t 91), (.t 92)]),
 (some (89, true), .un 94 .not (.t 93)),
 (none, .pick 95 (.t 89) (.t 94) (.k (.sc (.bool false))))])
 (.cond (.t 95)
 (.seq (.reg [(none, .mv 8 .copy (.k (.sc (.bool false))))])
 .ret)
 .skip))
 (.seq (.reg [(none, .load 96 .take true 4 (.t 4)),
 (none, .mv 97 .copy (.t 1)),
 (none, .mv 98 .copy (.t 2)),
 (none, .call false (some 99) (.k (.fn n__impl_System__below [])) [(.t 96), (.t 97), (.t 98)]),
 (none, .un 100 .not (.t 99)),
 (none, .mv 101 .copy (.t 100)),
 (some (101, false), .load 102 .take true 4 (.t 4)),
 (some (101, false), .load 103 .take true 4 (.t 4)),
 (some (101, false), .mv 104 .copy (.t 1)),
 (some (101, false), .mv 105 .copy (.t 3)),
 (some (101, false), .call false (some 106) (.k (.fn n__impl_System__plus [])) [(.t 103), (.t 104), (.t 105)]),
 (some (101, false), .load 107 .take true 4 (.t 4)),
 (some (101, false), .mv 108 .copy (.t 2)),
 (some (101, false), .mv 109 .copy (.t 3)),
 (some (101, false), .call false (some 110) (.k (.fn n__impl_System__plus [])) [(.t 107), (.t 108), (.t 109)]),
 (some (101, false), .call false (some 111) (.k (.fn n__impl_System__below [])) [(.t 102), (.t 106), (.t 110)]),
 (some (101, false), .mv 112 .copy (.t 111)),
 (some (112, true), .load 113 .take true 4 (.t 4)),
 (some (112, true), .load 114 .take true 4 (.t 4)),
 (some (112, true), .mv 115 .copy (.t 1)),
 (some (112, true), .mv 116 .copy (.t 3)),
 (some (112, true), .call false (some 117) (.k (.fn n__impl_System__times [])) [(.t 114), (.t 115), (.t 116)]),
 (some (112, true), .load 118 .take true 4 (.t 4)),
 (some (112, true), .mv 119 .copy (.t 2)),
 (some (112, true), .mv 120 .copy (.t 3)),
 (some (112, true), .call false (some 121) (.k (.fn n__impl_System__times [])) [(.t 118), (.t 119), (.t 120)]),
 (some (112, true), .call false (some 122) (.k (.fn n__impl_System__below [])) [(.t 113), (.t 117), (.t 121)]),
 (some (101, false), .pick 123 (.t 112) (.t 122) (.k (.sc (.bool false)))),
 (some (101, false), .mv 124 .copy (.t 123)),
 (some (124, true), .load 125 .take true 4 (.t 4)),
 (some (124, true), .load 126 .take true 4 (.t 4)),
 (some (124, true), .mv 127 .copy (.t 3)),
 (some (124, true), .mv 128 .copy (.t 1)),
 (some (124, true), .call false (some 129) (.k (.fn n__impl_System__times [])) [(.t 126), (.t 127), (.t 128)]),
 (some (124, true), .load 130 .take true 4 (.t 4)),
 (some (124, true), .mv 131 .copy (.t 3)),
 (some (124, true), .mv 132 .copy (.t 2)),
 (some (124, true), .call false (some 133) (.k (.fn n__impl_System__times [])) [(.t 130), (.t 131), (.t 132)]),
 (some (124, true), .call false (some 134) (.k (.fn n__impl_System__below [])) [(.t 125), (.t 129), (.t 133)]),
 (some (101, false), .pick 135 (.t 124) (.t 134) (.k (.sc (.bool false)))),
 (none, .pick 136 (.t 101) (.k (.sc (.bool true))) (.t 135)),
 (none, .mv 8 .copy (.t 136))])
 .ret)))))
theorem c__impl_System__lawsOf : codeOf Try.prog n__impl_System__lawsOf m__impl_System__lawsOf = some (k__impl_System__lawsOf, [.tmp 8], 137) := by kernel_rfl

/- slices.ContainsFunc[[][]int,[]int] -/
def m_slices_ContainsFunc_____int___int_ : List (Nat × List Md) := [(1, [.take, .take])]
def k_slices_ContainsFunc_____int___int_ : C := (.seq (.reg [(none, .mv 4 .copy (.k (.sc (.bool false))))])
 (.seq (.reg [(none, .mv 5 .take (.t 0)),
 (none, .mv 6 .take (.t 1)),
 (none, .call false (some 7) (.k (.fn n_slices_IndexFunc_____int___int_ [])) [(.t 5), (.t 6)]),
 (none, .bin 8 .num .geq (.t 7) (.k (N 0))),
 (none, .mv 4 .copy (.t 8))])
 .ret))
theorem c_slices_ContainsFunc_____int___int_ : codeOf Try.prog n_slices_ContainsFunc_____int___int_ m_slices_ContainsFunc_____int___int_ = some (k_slices_ContainsFunc_____int___int_, [.tmp 4], 9) := by kernel_rfl

/- loop.example/g03111/impl.isContext$1 -/
def m_impl_isContext_1 : List (Nat × List Md) := [(1, [.copy, .take])]
def k_impl_isContext_1 : C := (.seq (.reg [(none, .mv 3 .copy (.k (.sc (.bool false))))])
 (.seq (.reg [(none, .load 4 .copy true 4 (.t 1)),
 (none, .mv 5 .take (.t 0)),
 (none, .call false (some 6) (.k (.fn n_impl_isTypeOf [])) [(.t 4), (.t 5)]),
 (none, .un 7 .not (.t 6)),
 (none, .mv 3 .copy (.t 7))])
 .ret))
theorem c_impl_isContext_1 : codeOf Try.prog n_impl_isContext_1 m_impl_isContext_1 = some (k_impl_isContext_1, [.tmp 3], 8) := by kernel_rfl

/- loop.example/g03111/impl.isTypeOf -/
def m_impl_isTypeOf : List (Nat × List Md) := [(3, [.take]), (6, [.copy, .copy, .take]), (7, [.copy, .copy, .copy, .copy, .copy, .copy, .copy, .take]), (1000001, [.copy, .copy, .frz])]
def k_impl_isTypeOf : C := (.seq (.reg [(none, .box 2 (.t 0)),
 (none, .mv 4 .copy (.k (.sc (.bool false))))])
 (.seq (.seq (.seq (.frz 2)
 (.reg [(none, .mv 9 .copy (.t 1)),
 (none, .call false (some 10) (.k (.fn n_impl_isWrittenType [])) [(.t 9)]),
 (none, .un 11 .not (.t 10))]))
 (.cond (.t 11)
 (.seq (.reg [(none, .mv 4 .copy (.k (.sc (.bool false))))])
 .ret)
 .skip))
 (.seq (.seq (.reg [(none, .mv 12 .take (.t 1)),
 (none, .len 13 (.t 12)),
 (none, .mv 14 .copy (.k (N 0)))])
 (.block 0 (.loop (.seq (.reg [(none, .bin 15 .num .lss (.t 14) (.t 13))])
 (.seq (.cond (.t 15)
 .skip
 (.exit 0))
 (.seq (.block 1 (.seq (.reg [(none, .indexA 16 1 (.t 12) (.t 14)),
 (none, .load 17 .copy false 1 (.t 16)),
 (none, .mv 6 .copy (.t 17))])
 (.seq (.reg [(none, .mv 19 .copy (.t 6)),
 (none, .call false (some 20) (.k (.fn n_impl_shape [])) [(.t 19)]),
 (none, .mv 18 .take (.t 20)),
 (none, .extract 21 0 (.t 18)),
 (none, .extract 22 1 (.t 18)),
 (none, .mv 7 .copy (.t 21)),
 (none, .mv 8 .copy (.t 22))])
 (.seq (.reg [(none, .mv 23 .copy (.t 7)),
 (none, .bin 24 .num .eql (.t 23) (.k (N 3))),
 (none, .mv 25 .copy (.t 24)),
 (some (25, false), .mv 26 .copy (.t 7)),
 (some (25, false), .bin 27 .num .eql (.t 26) (.k (N 4))),
 (none, .pick 28 (.t 25) (.k (.sc (.bool true))) (.t 27)),
 (none, .mv 29 .copy (.t 28)),
 (some (29, true), .load 30 .take true 4 (.t 2)),
 (some (29, true), .mv 31 .copy (.t 8)),
 (some (29, true), .call false (some 32) (.k (.fn n__impl_System__has [])) [(.t 30), (.t 31)]),
 (some (29, true), .un 33 .not (.t 32)),
 (none, .pick 34 (.t 29) (.t 33) (.k (.sc (.bool false))))])
 (.cond (.t 34)
 (.seq (.reg [(none, .mv 4 .copy (.k (.sc (.bool false))))])
 .ret)
 .skip)))))
 (.reg [(none, .bin 35 .num .add (.t 14) (.k (N 1))),
 (none, .mv 14 .copy (.t 35))])))))))
 (.seq (.reg [(none, .mv 4 .copy (.k (.sc (.bool true))))])
 .ret))))
theorem c_impl_isTypeOf : codeOf Try.prog n_impl_isTypeOf m_impl_isTypeOf = some (k_impl_isTypeOf, [.tmp 4], 36) := by kernel_rfl

/- loop.example/g03111/impl.writtenSize -/
def m_impl_writtenSize : List (Nat × List Md) := [(1, [.take]), (1000001, [.copy, .frz])]
def k_impl_writtenSize : C := (.seq (.reg [(none, .box 1 (.t 0)),
 (none, .mv 2 .copy (.k (N 0)))])
 (.seq (.seq (.frz 1)
 (.reg [(none, .load 3 .take true 4 (.t 1)),
 (none, .call false (some 4) (.k (.fn n_impl_check [])) [(.t 3), (.k (N 8)), (.k (.fn n_impl_writtenSize_1 [])), (.k (.fn n_impl_isWrittenType [])), (.k (N 0))]),
 (none, .mv 2 .copy (.t 4))]))
 .ret))
theorem c_impl_writtenSize : codeOf Try.prog n_impl_writtenSize m_impl_writtenSize = some (k_impl_writtenSize, [.tmp 2], 5) := by kernel_rfl

/- loop.example/g03111/laws.eqIntS -/
def m_laws_eqIntS : List (Nat × List Md) := []
def k_laws_eqIntS : C := (.seq (.reg [(none, .mv 4 .copy (.k (.sc (.bool false))))])
 (.seq (.seq (.reg [(none, .mv 6 .copy (.t 0)),
 (none, .len 7 (.t 6)),
 (none, .mv 8 .copy (.t 1)),
 (none, .len 9 (.t 8)),
 (none, .bin 10 .num .neq (.t 7) (.t 9))])
 (.cond (.t 10)
 (.seq (.reg [(none, .mv 4 .copy (.k (.sc (.bool false))))])
 .ret)
 .skip))
 (.seq (.seq (.reg [(none, .mv 5 .copy (.k (N 0)))])
 (.block 0 (.loop (.seq (.seq (.reg [(none, .mv 11 .copy (.t 5)),
 (none, .mv 12 .copy (.t 0)),
 (none, .len 13 (.t 12)),
 (none, .bin 14 .num .lss (.t 11) (.t 13))])
 (.cond (.t 14)
 .skip
 (.exit 0)))
 (.seq (.block 1 (.seq (.reg [(none, .mv 17 .copy (.t 0)),
 (none, .mv 18 .copy (.t 5)),
 (none, .indexA 19 1 (.t 17) (.t 18)),
 (none, .load 20 .copy false 1 (.t 19)),
 (none, .mv 21 .copy (.t 1)),
 (none, .mv 22 .copy (.t 5)),
 (none, .indexA 23 1 (.t 21) (.t 22)),
 (none, .load 24 .copy false 1 (.t 23)),
 (none, .bin 25 .num .neq (.t 20) (.t 24))])
 (.cond (.t 25)
 (.seq (.reg [(none, .mv 4 .copy (.k (.sc (.bool false))))])
 .ret)
 .skip)))
 (.reg [(none, .mv 15 .copy (.t 5)),
 (none, .bin 16 .num .add (.t 15) (.k (N 1))),
 (none, .mv 5 .copy (.t 16))]))))))
 (.seq (.reg [(none, .mv 4 .copy (.k (.sc (.bool true))))])
 .ret))))
theorem c_laws_eqIntS : codeOf Try.prog n_laws_eqIntS m_laws_eqIntS = some (k_laws_eqIntS, [.tmp 4], 26) := by kernel_rfl

/- loop.example/g03111/laws.eqBoolS -/
def m_laws_eqBoolS : List (Nat × List Md) := []
def k_laws_eqBoolS : C := (.seq (.reg [(none, .mv 4 .copy (.k (.sc (.bool false))))])
 (.seq (.seq (.reg [(none, .mv 6 .copy (.t 0)),
 (none, .len 7 (.t 6)),
 (none, .mv 8 .copy (.t 1)),
 (none, .len 9 (.t 8)),
 (none, .bin 10 .num .neq (.t 7) (.t 9))])
 (.cond (.t 10)
 (.seq (.reg [(none, .mv 4 .copy (.k (.sc (.bool false))))])
 .ret)
 .skip))
 (.seq (.seq (.reg [(none, .mv 5 .copy (.k (N 0)))])
 (.block 0 (.loop (.seq (.seq (.reg [(none, .mv 11 .copy (.t 5)),
 (none, .mv 12 .copy (.t 0)),
 (none, .len 13 (.t 12)),
 (none, .bin 14 .num .lss (.t 11) (.t 13))])
 (.cond (.t 14)
 .skip
 (.exit 0)))
 (.seq (.block 1 (.seq (.reg [(none, .mv 17 .copy (.t 0)),
 (none, .mv 18 .copy (.t 5)),
 (none, .indexA 19 1 (.t 17) (.t 18)),
 (none, .load 20 .copy false 1 (.t 19)),
 (none, .mv 21 .copy (.t 1)),
 (none, .mv 22 .copy (.t 5)),
 (none, .indexA 23 1 (.t 21) (.t 22)),
 (none, .load 24 .copy false 1 (.t 23)),
 (none, .bin 25 .bool .neq (.t 20) (.t 24))])
 (.cond (.t 25)
 (.seq (.reg [(none, .mv 4 .copy (.k (.sc (.bool false))))])
 .ret)
 .skip)))
 (.reg [(none, .mv 15 .copy (.t 5)),
 (none, .bin 16 .num .add (.t 15) (.k (N 1))),
 (none, .mv 5 .copy (.t 16))]))))))
 (.seq (.reg [(none, .mv 4 .copy (.k (.sc (.bool true))))])
 .ret))))
theorem c_laws_eqBoolS : codeOf Try.prog n_laws_eqBoolS m_laws_eqBoolS = some (k_laws_eqBoolS, [.tmp 4], 26) := by kernel_rfl

/- loop.example/g03111/laws.eqTermS -/
def m_laws_eqTermS : List (Nat × List Md) := []
def k_laws_eqTermS : C := (.seq (.reg [(none, .mv 4 .copy (.k (.sc (.bool false))))])
 (.seq (.seq (.reg [(none, .mv 6 .copy (.t 0)),
 (none, .len 7 (.t 6)),
 (none, .mv 8 .copy (.t 1)),
 (none, .len 9 (.t 8)),
 (none, .bin 10 .num .neq (.t 7) (.t 9))])
 (.cond (.t 10)
 (.seq (.reg [(none, .mv 4 .copy (.k (.sc (.bool false))))])
 .ret)
 .skip))
 (.seq (.seq (.reg [(none, .mv 5 .copy (.k (N 0)))])
 (.block 0 (.loop (.seq (.seq (.reg [(none, .mv 11 .copy (.t 5)),
 (none, .mv 12 .copy (.t 0)),
 (none, .len 13 (.t 12)),
 (none, .bin 14 .num .lss (.t 11) (.t 13))])
 (.cond (.t 14)
 .skip
 (.exit 0)))
 (.seq (.block 1 (.seq (.reg [(none, .mv 17 .copy (.t 0)),
 (none, .mv 18 .copy (.t 5)),
 (none, .indexA 19 4 (.t 17) (.t 18)),
 (none, .load 20 .copy true 4 (.t 19)),
 (none, .mv 21 .copy (.t 1)),
 (none, .mv 22 .copy (.t 5)),
 (none, .indexA 23 4 (.t 21) (.t 22)),
 (none, .load 24 .copy true 4 (.t 23)),
 (none, .call false (some 25) (.k (.fn n_laws_eqTerm [])) [(.t 20), (.t 24)]),
 (none, .un 26 .not (.t 25))])
 (.cond (.t 26)
 (.seq (.reg [(none, .mv 4 .copy (.k (.sc (.bool false))))])
 .ret)
 .skip)))
 (.reg [(none, .mv 15 .copy (.t 5)),
 (none, .bin 16 .num .add (.t 15) (.k (N 1))),
 (none, .mv 5 .copy (.t 16))]))))))
 (.seq (.reg [(none, .mv 4 .copy (.k (.sc (.bool true))))])
 .ret))))
theorem c_laws_eqTermS : codeOf Try.prog n_laws_eqTermS m_laws_eqTermS = some (k_laws_eqTermS, [.tmp 4], 27) := by kernel_rfl

/- loop.example/g03111/spec.l1In -/
def m_spec_l1In : List (Nat × List Md) := []
def k_spec_l1In : C := (.seq (.reg [(none, .mv 6 .copy (.k (.sc (.bool false))))])
 (.seq (.reg [(none, .mv 7 .copy (.t 0)),
 (none, .mv 8 .copy (.t 1)),
 (none, .bin 9 .num .geq (.t 7) (.t 8)),
 (none, .mv 10 .copy (.t 9)),
 (some (10, true), .mv 11 .copy (.t 0)),
 (some (10, true), .mv 12 .copy (.t 2)),
 (some (10, true), .bin 13 .num .leq (.t 11) (.t 12)),
 (none, .pick 14 (.t 10) (.t 13) (.k (.sc (.bool false)))),
 (none, .mv 6 .copy (.t 14))])
 .ret))
theorem c_spec_l1In : codeOf Try.prog n_spec_l1In m_spec_l1In = some (k_spec_l1In, [.tmp 6], 15) := by kernel_rfl

/- loop.example/g03111/spec.l1Add -/
def m_spec_l1Add : List (Nat × List Md) := [(1, [.copy, .take, .copy, .copy, .take]), (1000001, [.copy, .copy, .copy, .frz])]
def k_spec_l1Add : C := (.seq (.reg [(none, .box 3 (.t 0)),
 (none, .mv 6 .copy (.k (N 0)))])
 (.seq (.seq (.frz 3)
 (.reg [(none, .fieldA 7 1 (.t 3)),
 (none, .load 8 .take false 1 (.t 7)),
 (none, .mv 9 .copy (.t 1)),
 (none, .fieldA 10 0 (.t 3)),
 (none, .load 11 .take false 1 (.t 10)),
 (none, .bin 12 .num .mul (.t 9) (.t 11)),
 (none, .mv 13 .copy (.t 2)),
 (none, .bin 14 .num .add (.t 12) (.t 13)),
 (none, .indexA 15 1 (.t 8) (.t 14)),
 (none, .load 16 .copy false 1 (.t 15)),
 (none, .mv 6 .copy (.t 16))]))
 .ret))
theorem c_spec_l1Add : codeOf Try.prog n_spec_l1Add m_spec_l1Add = some (k_spec_l1Add, [.tmp 6], 17) := by kernel_rfl

/- loop.example/g03111/spec.l1Mul -/
def m_spec_l1Mul : List (Nat × List Md) := [(1, [.copy, .take, .copy, .copy, .take]), (1000001, [.copy, .copy, .copy, .frz])]
def k_spec_l1Mul : C := (.seq (.reg [(none, .box 3 (.t 0)),
 (none, .mv 6 .copy (.k (N 0)))])
 (.seq (.seq (.frz 3)
 (.reg [(none, .fieldA 7 2 (.t 3)),
 (none, .load 8 .take false 1 (.t 7)),
 (none, .mv 9 .copy (.t 1)),
 (none, .fieldA 10 0 (.t 3)),
 (none, .load 11 .take false 1 (.t 10)),
 (none, .bin 12 .num .mul (.t 9) (.t 11)),
 (none, .mv 13 .copy (.t 2)),
 (none, .bin 14 .num .add (.t 12) (.t 13)),
 (none, .indexA 15 1 (.t 8) (.t 14)),
 (none, .load 16 .copy false 1 (.t 15)),
 (none, .mv 6 .copy (.t 16))]))
 .ret))
theorem c_spec_l1Mul : codeOf Try.prog n_spec_l1Mul m_spec_l1Mul = some (k_spec_l1Mul, [.tmp 6], 17) := by kernel_rfl

/- loop.example/g03111/spec.l1Le -/
def m_spec_l1Le : List (Nat × List Md) := [(1, [.copy, .take, .copy, .copy, .take]), (1000001, [.copy, .copy, .copy, .frz])]
def k_spec_l1Le : C := (.seq (.reg [(none, .box 3 (.t 0)),
 (none, .mv 6 .copy (.k (.sc (.bool false))))])
 (.seq (.seq (.frz 3)
 (.reg [(none, .fieldA 7 3 (.t 3)),
 (none, .load 8 .take false 1 (.t 7)),
 (none, .mv 9 .copy (.t 1)),
 (none, .fieldA 10 0 (.t 3)),
 (none, .load 11 .take false 1 (.t 10)),
 (none, .bin 12 .num .mul (.t 9) (.t 11)),
 (none, .mv 13 .copy (.t 2)),
 (none, .bin 14 .num .add (.t 12) (.t 13)),
 (none, .indexA 15 1 (.t 8) (.t 14)),
 (none, .load 16 .copy false 1 (.t 15)),
 (none, .mv 6 .copy (.t 16))]))
 .ret))
theorem c_spec_l1Le : codeOf Try.prog n_spec_l1Le m_spec_l1Le = some (k_spec_l1Le, [.tmp 6], 17) := by kernel_rfl

/- loop.example/g03111/spec.l1Join -/
def m_spec_l1Join : List (Nat × List Md) := [(2, [.copy, .copy, .take]), (4, [.take, .copy, .copy, .copy, .copy, .take]), (6, [.copy, .copy, .take]), (8, [.take, .copy, .copy, .copy, .copy, .copy, .take, .copy, .copy, .copy, .copy, .copy, .copy, .take]), (1000001, [.copy, .copy, .copy, .frz])]
def k_spec_l1Join : C := (.seq (.reg [(none, .box 3 (.t 0)),
 (none, .mv 6 .copy (.k (N 0)))])
 (.seq (.seq (.seq (.frz 3)
 (.reg [(none, .mv 7 .copy (.k (N 0)))]))
 (.block 0 (.loop (.seq (.seq (.reg [(none, .mv 10 .copy (.t 7)),
 (none, .fieldA 11 0 (.t 3)),
 (none, .load 12 .take false 1 (.t 11)),
 (none, .bin 13 .num .lss (.t 10) (.t 12))])
 (.cond (.t 13)
 .skip
 (.exit 0)))
 (.seq (.block 1 (.seq (.reg [(none, .load 16 .take true 4 (.t 3)),
 (none, .mv 17 .copy (.t 1)),
 (none, .mv 18 .copy (.t 7)),
 (none, .call false (some 19) (.k (.fn n_spec_l1Le [])) [(.t 16), (.t 17), (.t 18)]),
 (none, .mv 20 .copy (.t 19)),
 (some (20, true), .load 21 .take true 4 (.t 3)),
 (some (20, true), .mv 22 .copy (.t 2)),
 (some (20, true), .mv 23 .copy (.t 7)),
 (some (20, true), .call false (some 24) (.k (.fn n_spec_l1Le [])) [(.t 21), (.t 22), (.t 23)]),
 (none, .pick 25 (.t 20) (.t 24) (.k (.sc (.bool false)))),
 (none, .mv 8 .copy (.t 25))])
 (.seq (.seq (.reg [(none, .mv 9 .copy (.k (N 0)))])
 (.block 2 (.loop (.seq (.seq (.reg [(none, .mv 26 .copy (.t 9)),
 (none, .fieldA 27 0 (.t 3)),
 (none, .load 28 .take false 1 (.t 27)),
 (none, .bin 29 .num .lss (.t 26) (.t 28)),
 (none, .mv 30 .copy (.t 29)),
 (some (30, true), .mv 31 .copy (.t 8)),
 (none, .pick 32 (.t 30) (.t 31) (.k (.sc (.bool false))))])
 (.cond (.t 32)
 .skip
 (.exit 2)))
 (.seq (.block 3 (.reg [(none, .load 35 .take true 4 (.t 3)),
 (none, .mv 36 .copy (.t 1)),
 (none, .mv 37 .copy (.t 9)),
 (none, .call false (some 38) (.k (.fn n_spec_l1Le [])) [(.t 35), (.t 36), (.t 37)]),
 (none, .un 39 .not (.t 38)),
 (none, .mv 40 .copy (.t 39)),
 (some (40, false), .load 41 .take true 4 (.t 3)),
 (some (40, false), .mv 42 .copy (.t 2)),
 (some (40, false), .mv 43 .copy (.t 9)),
 (some (40, false), .call false (some 44) (.k (.fn n_spec_l1Le [])) [(.t 41), (.t 42), (.t 43)]),
 (some (40, false), .un 45 .not (.t 44)),
 (none, .pick 46 (.t 40) (.k (.sc (.bool true))) (.t 45)),
 (none, .mv 47 .copy (.t 46)),
 (some (47, false), .load 48 .take true 4 (.t 3)),
 (some (47, false), .mv 49 .copy (.t 7)),
 (some (47, false), .mv 50 .copy (.t 9)),
 (some (47, false), .call false (some 51) (.k (.fn n_spec_l1Le [])) [(.t 48), (.t 49), (.t 50)]),
 (none, .pick 52 (.t 47) (.k (.sc (.bool true))) (.t 51)),
 (none, .mv 8 .copy (.t 52))]))
 (.reg [(none, .mv 33 .copy (.t 9)),
 (none, .bin 34 .num .add (.t 33) (.k (N 1))),
 (none, .mv 9 .copy (.t 34))]))))))
 (.seq (.reg [(none, .mv 53 .copy (.t 8))])
 (.cond (.t 53)
 (.seq (.reg [(none, .mv 54 .copy (.t 7)),
 (none, .mv 6 .copy (.t 54))])
 .ret)
 .skip)))))
 (.reg [(none, .mv 14 .copy (.t 7)),
 (none, .bin 15 .num .add (.t 14) (.k (N 1))),
 (none, .mv 7 .copy (.t 15))]))))))
 (.seq (.reg [(none, .mv 6 .copy (.k (N (-1))))])
 .ret)))
theorem c_spec_l1Join : codeOf Try.prog n_spec_l1Join m_spec_l1Join = some (k_spec_l1Join, [.tmp 6], 55) := by kernel_rfl

/- loop.example/g03111/spec.l2End -/
def m_spec_l2End : List (Nat × List Md) := []
def k_spec_l2End : C := (.seq (.reg [(none, .mv 4 .copy (.k (N 0)))])
 (.seq (.reg [(none, .mv 5 .copy (.k (N 1)))])
 (.seq (.seq (.reg [(none, .mv 8 .copy (.t 1)),
 (none, .mv 6 .copy (.t 8))])
 (.block 0 (.loop (.seq (.seq (.reg [(none, .mv 9 .copy (.t 6)),
 (none, .mv 10 .copy (.t 0)),
 (none, .len 11 (.t 10)),
 (none, .bin 12 .num .lss (.t 9) (.t 11))])
 (.cond (.t 12)
 .skip
 (.exit 0)))
 (.seq (.block 1 (.seq (.reg [(none, .mv 15 .copy (.t 0)),
 (none, .mv 16 .copy (.t 6)),
 (none, .indexA 17 1 (.t 15) (.t 16)),
 (none, .load 18 .copy false 1 (.t 17)),
 (none, .call false (some 19) (.k (.fn n_spec_l2Kids [])) [(.t 18)]),
 (none, .mv 7 .copy (.t 19))])
 (.seq (.seq (.reg [(none, .mv 20 .copy (.t 7)),
 (none, .bin 21 .num .lss (.t 20) (.k (N 0)))])
 (.cond (.t 21)
 (.seq (.reg [(none, .mv 4 .copy (.k (N (-1))))])
 .ret)
 .skip))
 (.seq (.reg [(none, .mv 22 .copy (.t 5)),
 (none, .bin 23 .num .sub (.t 22) (.k (N 1))),
 (none, .mv 24 .copy (.t 7)),
 (none, .bin 25 .num .add (.t 23) (.t 24)),
 (none, .mv 5 .copy (.t 25))])
 (.seq (.reg [(none, .mv 26 .copy (.t 5)),
 (none, .bin 27 .num .eql (.t 26) (.k (N 0)))])
 (.cond (.t 27)
 (.seq (.reg [(none, .mv 28 .copy (.t 6)),
 (none, .bin 29 .num .add (.t 28) (.k (N 1))),
 (none, .mv 4 .copy (.t 29))])
 .ret)
 .skip))))))
 (.reg [(none, .mv 13 .copy (.t 6)),
 (none, .bin 14 .num .add (.t 13) (.k (N 1))),
 (none, .mv 6 .copy (.t 14))]))))))
 (.seq (.reg [(none, .mv 4 .copy (.k (N (-1))))])
 .ret))))
theorem c_spec_l2End : codeOf Try.prog n_spec_l2End m_spec_l2End = some (k_spec_l2End, [.tmp 4], 30) := by kernel_rfl

/- loop.example/g03111/spec.l2Kids -/
def m_spec_l2Kids : List (Nat × List Md) := []
def k_spec_l2Kids : C := (.seq (.reg [(none, .mv 2 .copy (.k (N 0)))])
 (.seq (.block 0 (.seq (.reg [(none, .mv 4 .copy (.t 0)),
 (none, .bin 5 .num .eql (.t 4) (.k (N 0))),
 (none, .mv 3 .copy (.t 5))])
 (.cond (.t 3)
 (.seq (.reg [(none, .mv 2 .copy (.k (N 0)))])
 .ret)
 (.seq (.reg [(none, .mv 7 .copy (.t 0)),
 (none, .bin 8 .num .eql (.t 7) (.k (N 1))),
 (none, .mv 9 .copy (.t 8)),
 (some (9, false), .mv 10 .copy (.t 0)),
 (some (9, false), .bin 11 .num .eql (.t 10) (.k (N 2))),
 (none, .pick 12 (.t 9) (.k (.sc (.bool true))) (.t 11)),
 (none, .mv 13 .copy (.t 12)),
 (some (13, false), .mv 14 .copy (.t 0)),
 (some (13, false), .call false (some 15) (.k (.fn n_spec_l2Arrow [])) [(.t 14)]),
 (none, .pick 16 (.t 13) (.k (.sc (.bool true))) (.t 15)),
 (none, .mv 6 .copy (.t 16))])
 (.cond (.t 6)
 (.seq (.reg [(none, .mv 2 .copy (.k (N 2)))])
 .ret)
 (.seq (.reg [(none, .mv 18 .copy (.t 0)),
 (none, .call false (some 19) (.k (.fn n_spec_l2Box [])) [(.t 18)]),
 (none, .mv 17 .copy (.t 19))])
 (.cond (.t 17)
 (.seq (.reg [(none, .mv 2 .copy (.k (N 1)))])
 .ret)
 .skip)))))))
 (.seq (.reg [(none, .mv 2 .copy (.k (N (-1))))])
 .ret)))
theorem c_spec_l2Kids : codeOf Try.prog n_spec_l2Kids m_spec_l2Kids = some (k_spec_l2Kids, [.tmp 2], 20) := by kernel_rfl

/- loop.example/g03111/spec.l2Grade -/
def m_spec_l2Grade : List (Nat × List Md) := []
def k_spec_l2Grade : C := (.seq (.reg [(none, .mv 2 .copy (.k (N 0)))])
 (.seq (.block 0 (.seq (.reg [(none, .mv 4 .copy (.t 0)),
 (none, .bin 5 .num .geq (.t 4) (.k (N 35))),
 (none, .mv 3 .copy (.t 5))])
 (.cond (.t 3)
 (.seq (.reg [(none, .mv 2 .copy (.k (N (-1))))])
 .ret)
 (.seq (.reg [(none, .mv 7 .copy (.t 0)),
 (none, .bin 8 .num .geq (.t 7) (.k (N 19))),
 (none, .mv 6 .copy (.t 8))])
 (.cond (.t 6)
 (.seq (.reg [(none, .mv 9 .copy (.t 0)),
 (none, .bin 10 .num .sub (.t 9) (.k (N 19))),
 (none, .mv 2 .copy (.t 10))])
 .ret)
 .skip)))))
 (.seq (.reg [(none, .mv 11 .copy (.t 0)),
 (none, .bin 12 .num .sub (.t 11) (.k (N 3))),
 (none, .mv 2 .copy (.t 12))])
 .ret)))
theorem c_spec_l2Grade : codeOf Try.prog n_spec_l2Grade m_spec_l2Grade = some (k_spec_l2Grade, [.tmp 2], 13) := by kernel_rfl

/- loop.example/g03111/spec.l2Node -/
def m_spec_l2Node : List (Nat × List Md) := [(1, [.copy, .take, .copy, .copy, .take]), (3, [.copy, .take]), (5, [.copy, .take]), (6, [.copy, .take]), (8, [.copy, .take]), (9, [.copy, .take]), (11, [.copy, .take]), (12, [.copy, .take, .copy, .copy, .copy, .copy, .take, .copy, .copy, .copy, .copy, .copy, .copy, .take]), (14, [.copy, .take]), (15, [.copy, .take]), (16, [.copy, .take, .copy, .copy, .copy, .take]), (1000001, [.copy, .copy, .copy, .copy, .frz])]
def k_spec_l2Node : C := (.seq (.reg [(none, .box 4 (.t 0)),
 (none, .mv 8 .copy (.k (.sc (.bool false))))])
 (.seq (.seq (.seq (.frz 4)
 (.reg [(none, .fieldA 9 3 (.t 4)),
 (none, .load 10 .take false 1 (.t 9)),
 (none, .len 11 (.t 10)),
 (none, .fieldA 12 0 (.t 4)),
 (none, .load 13 .take false 1 (.t 12)),
 (none, .call false (some 14) (.k (.fn n_spec_l2Many [])) [(.t 13)]),
 (none, .bin 15 .num .neq (.t 11) (.t 14))]))
 (.cond (.t 15)
 (.seq (.reg [(none, .mv 8 .copy (.k (.sc (.bool false))))])
 .ret)
 .skip))
 (.seq (.block 0 (.seq (.reg [(none, .fieldA 20 0 (.t 4)),
 (none, .load 21 .take false 1 (.t 20)),
 (none, .bin 22 .num .eql (.t 21) (.k (N 0))),
 (none, .mv 19 .copy (.t 22))])
 (.cond (.t 19)
 (.seq (.reg [(none, .fieldA 23 1 (.t 4)),
 (none, .load 24 .take false 1 (.t 23)),
 (none, .mv 25 .copy (.t 1)),
 (none, .bin 26 .num .sub (.t 25) (.k (N 1))),
 (none, .call false (some 27) (.k (.fn n_spec_l1In [])) [(.t 24), (.k (N 0)), (.t 26)]),
 (none, .un 28 .not (.t 27))])
 (.cond (.t 28)
 (.seq (.reg [(none, .mv 8 .copy (.k (.sc (.bool false))))])
 .ret)
 .skip))
 (.seq (.reg [(none, .fieldA 30 0 (.t 4)),
 (none, .load 31 .take false 1 (.t 30)),
 (none, .bin 32 .num .eql (.t 31) (.k (N 1))),
 (none, .mv 29 .copy (.t 32))])
 (.cond (.t 29)
 (.seq (.reg [(none, .fieldA 33 1 (.t 4)),
 (none, .load 34 .take false 1 (.t 33)),
 (none, .call false (some 35) (.k (.fn n_spec_l1In [])) [(.t 34), (.k (N 0)), (.k (N 2))]),
 (none, .un 36 .not (.t 35))])
 (.cond (.t 36)
 (.seq (.reg [(none, .mv 8 .copy (.k (.sc (.bool false))))])
 .ret)
 .skip))
 (.seq (.reg [(none, .fieldA 38 0 (.t 4)),
 (none, .load 39 .take false 1 (.t 38)),
 (none, .call false (some 40) (.k (.fn n_spec_l2Has [])) [(.t 39)]),
 (none, .mv 37 .copy (.t 40))])
 (.cond (.t 37)
 (.seq (.reg [(none, .fieldA 41 1 (.t 4)),
 (none, .load 42 .take false 1 (.t 41)),
 (none, .mv 43 .copy (.t 2)),
 (none, .bin 44 .num .geq (.t 42) (.t 43)),
 (none, .mv 45 .copy (.t 44)),
 (some (45, false), .fieldA 46 1 (.t 4)),
 (some (45, false), .load 47 .take false 1 (.t 46)),
 (some (45, false), .bin 48 .num .lss (.t 47) (.k (N (-1)))),
 (none, .pick 49 (.t 45) (.k (.sc (.bool true))) (.t 48)),
 (none, .mv 50 .copy (.t 49)),
 (some (50, false), .mv 51 .copy (.t 3)),
 (some (50, false), .mv 52 .copy (.t 51)),
 (some (52, true), .fieldA 53 1 (.t 4)),
 (some (52, true), .load 54 .take false 1 (.t 53)),
 (some (52, true), .bin 55 .num .lss (.t 54) (.k (N 0))),
 (some (50, false), .pick 56 (.t 52) (.t 55) (.k (.sc (.bool false)))),
 (none, .pick 57 (.t 50) (.k (.sc (.bool true))) (.t 56))])
 (.cond (.t 57)
 (.seq (.reg [(none, .mv 8 .copy (.k (.sc (.bool false))))])
 .ret)
 .skip))
 (.seq (.reg [(none, .fieldA 16 1 (.t 4)),
 (none, .load 17 .take false 1 (.t 16)),
 (none, .bin 18 .num .neq (.t 17) (.k (N 0)))])
 (.cond (.t 18)
 (.seq (.reg [(none, .mv 8 .copy (.k (.sc (.bool false))))])
 .ret)
 .skip)))))))))
 (.seq (.seq (.reg [(none, .fieldA 58 0 (.t 4)),
 (none, .load 59 .take false 1 (.t 58)),
 (none, .call false (some 60) (.k (.fn n_spec_l2Typed [])) [(.t 59)]),
 (none, .un 61 .not (.t 60))])
 (.cond (.t 61)
 (.seq (.reg [(none, .fieldA 62 2 (.t 4)),
 (none, .load 63 .take false 1 (.t 62)),
 (none, .len 64 (.t 63)),
 (none, .bin 65 .num .eql (.t 64) (.k (N 0))),
 (none, .mv 8 .copy (.t 65))])
 .ret)
 .skip))
 (.seq (.reg [(none, .fieldA 66 2 (.t 4)),
 (none, .load 67 .take false 1 (.t 66)),
 (none, .call false (some 68) (.k (.fn n_spec_l2Type [])) [(.t 67)]),
 (none, .mv 69 .copy (.t 68)),
 (some (69, true), .fieldA 70 2 (.t 4)),
 (some (69, true), .load 71 .take false 1 (.t 70)),
 (some (69, true), .mv 72 .copy (.t 2)),
 (some (69, true), .mv 73 .copy (.t 3)),
 (some (69, true), .call false (some 74) (.k (.fn n_spec_l2Graded [])) [(.t 71), (.t 72), (.t 73)]),
 (none, .pick 75 (.t 69) (.t 74) (.k (.sc (.bool false)))),
 (none, .mv 8 .copy (.t 75))])
 .ret)))))
theorem c_spec_l2Node : codeOf Try.prog n_spec_l2Node m_spec_l2Node = some (k_spec_l2Node, [.tmp 8], 76) := by kernel_rfl

/- loop.example/g03111/spec.l2Adds -/
def m_spec_l2Adds : List (Nat × List Md) := []
def k_spec_l2Adds : C := (.seq (.reg [(none, .mv 4 .copy (.k (N 0)))])
 (.seq (.block 0 (.seq (.reg [(none, .mv 6 .copy (.t 0)),
 (none, .bin 7 .num .eql (.t 6) (.k (N 5))),
 (none, .mv 8 .copy (.t 7)),
 (some (8, true), .mv 9 .copy (.t 1)),
 (some (8, true), .bin 10 .num .eql (.t 9) (.k (N 1))),
 (none, .pick 11 (.t 8) (.t 10) (.k (.sc (.bool false)))),
 (none, .mv 5 .copy (.t 11))])
 (.cond (.t 5)
 (.seq (.reg [(none, .mv 4 .copy (.k (N 2)))])
 .ret)
 (.seq (.reg [(none, .mv 13 .copy (.t 0)),
 (none, .bin 14 .num .eql (.t 13) (.k (N 8))),
 (none, .mv 15 .copy (.t 14)),
 (some (15, true), .mv 16 .copy (.t 1)),
 (some (15, true), .bin 17 .num .gtr (.t 16) (.k (N 0))),
 (none, .pick 18 (.t 15) (.t 17) (.k (.sc (.bool false)))),
 (none, .mv 19 .copy (.t 18)),
 (some (19, false), .mv 20 .copy (.t 0)),
 (some (19, false), .bin 21 .num .eql (.t 20) (.k (N 9))),
 (none, .pick 22 (.t 19) (.k (.sc (.bool true))) (.t 21)),
 (none, .mv 23 .copy (.t 22)),
 (some (23, false), .mv 24 .copy (.t 0)),
 (some (23, false), .bin 25 .num .eql (.t 24) (.k (N 12))),
 (some (23, false), .mv 26 .copy (.t 25)),
 (some (26, true), .mv 27 .copy (.t 1)),
 (some (26, true), .bin 28 .num .eql (.t 27) (.k (N 1))),
 (some (23, false), .pick 29 (.t 26) (.t 28) (.k (.sc (.bool false)))),
 (none, .pick 30 (.t 23) (.k (.sc (.bool true))) (.t 29)),
 (none, .mv 12 .copy (.t 30))])
 (.cond (.t 12)
 (.seq (.reg [(none, .mv 4 .copy (.k (N 1)))])
 .ret)
 .skip)))))
 (.seq (.reg [(none, .mv 4 .copy (.k (N 0)))])
 .ret)))
theorem c_spec_l2Adds : codeOf Try.prog n_spec_l2Adds m_spec_l2Adds = some (k_spec_l2Adds, [.tmp 4], 31) := by kernel_rfl

/- slices.IndexFunc[[][]int,[]int] -/
def m_slices_IndexFunc_____int___int_ : List (Nat × List Md) := []
def k_slices_IndexFunc_____int___int_ : C := (.seq (.reg [(none, .mv 4 .copy (.k (N 0)))])
 (.seq (.seq (.reg [(none, .mv 6 .copy (.t 0)),
 (none, .len 7 (.t 6)),
 (none, .mv 8 .copy (.k (N 0)))])
 (.block 0 (.loop (.seq (.reg [(none, .bin 9 .num .lss (.t 8) (.t 7))])
 (.seq (.cond (.t 9)
 .skip
 (.exit 0))
 (.seq (.block 1 (.seq (.reg [(none, .mv 10 .copy (.t 8)),
 (none, .mv 5 .copy (.t 10))])
 (.seq (.reg [(none, .mv 11 .copy (.t 1)),
 (none, .mv 12 .copy (.t 0)),
 (none, .mv 13 .copy (.t 5)),
 (none, .indexA 14 1 (.t 12) (.t 13)),
 (none, .load 15 .copy false 1 (.t 14)),
 (none, .call false (some 16) (.t 11) [(.t 15)])])
 (.cond (.t 16)
 (.seq (.reg [(none, .mv 17 .copy (.t 5)),
 (none, .mv 4 .copy (.t 17))])
 .ret)
 .skip))))
 (.reg [(none, .bin 18 .num .add (.t 8) (.k (N 1))),
 (none, .mv 8 .copy (.t 18))])))))))
 (.seq (.reg [(none, .mv 4 .copy (.k (N (-1))))])
 .ret)))
theorem c_slices_IndexFunc_____int___int_ : codeOf Try.prog n_slices_IndexFunc_____int___int_ m_slices_IndexFunc_____int___int_ = some (k_slices_IndexFunc_____int___int_, [.tmp 4], 19) := by kernel_rfl

/- loop.example/g03111/impl.isWrittenType -/
def m_impl_isWrittenType : List (Nat × List Md) := [(1, [.copy, .copy, .copy, .copy, .copy, .copy, .take])]
def k_impl_isWrittenType : C := (.seq (.reg [(none, .mv 2 .copy (.k (.sc (.bool false))))])
 (.seq (.reg [(none, .mv 3 .copy (.t 0)),
 (none, .len 4 (.t 3)),
 (none, .call false (some 5) (.k (.fn n_impl_within [])) [(.t 4), (.k (N 1)), (.k (N 40))]),
 (none, .mv 6 .copy (.t 5)),
 (some (6, true), .mv 7 .copy (.t 0)),
 (some (6, true), .call false (some 8) (.k (.fn n_impl_typeEnd [])) [(.t 7), (.k (N 0))]),
 (some (6, true), .mv 9 .take (.t 0)),
 (some (6, true), .len 10 (.t 9)),
 (some (6, true), .bin 11 .num .eql (.t 8) (.t 10)),
 (none, .pick 12 (.t 6) (.t 11) (.k (.sc (.bool false)))),
 (none, .mv 2 .copy (.t 12))])
 .ret))
theorem c_impl_isWrittenType : codeOf Try.prog n_impl_isWrittenType m_impl_isWrittenType = some (k_impl_isWrittenType, [.tmp 2], 13) := by kernel_rfl

/- loop.example/g03111/impl.shape -/
def m_impl_shape : List (Nat × List Md) := []
def k_impl_shape : C := (.seq (.reg [(none, .mv 2 .copy (.k (N 0))),
 (none, .mv 3 .copy (.k (N 0)))])
 (.seq (.block 0 (.seq (.reg [(none, .mv 5 .copy (.t 0)),
 (none, .call false (some 6) (.k (.fn n_impl_within [])) [(.t 5), (.k (N 0)), (.k (N 2))]),
 (none, .mv 4 .copy (.t 6))])
 (.cond (.t 4)
 (.seq (.reg [(none, .mv 7 .copy (.t 0)),
 (none, .mv 2 .copy (.t 7)),
 (none, .mv 3 .copy (.k (N (-1))))])
 .ret)
 (.seq (.reg [(none, .mv 9 .copy (.t 0)),
 (none, .call false (some 10) (.k (.fn n_impl_within [])) [(.t 9), (.k (N 3)), (.k (N 18))]),
 (none, .mv 8 .copy (.t 10))])
 (.cond (.t 8)
 (.seq (.reg [(none, .mv 11 .copy (.t 0)),
 (none, .bin 12 .num .sub (.t 11) (.k (N 3))),
 (none, .mv 2 .copy (.k (N 3))),
 (none, .mv 3 .copy (.t 12))])
 .ret)
 (.seq (.reg [(none, .mv 14 .copy (.t 0)),
 (none, .call false (some 15) (.k (.fn n_impl_within [])) [(.t 14), (.k (N 19)), (.k (N 34))]),
 (none, .mv 13 .copy (.t 15))])
 (.cond (.t 13)
 (.seq (.reg [(none, .mv 16 .copy (.t 0)),
 (none, .bin 17 .num .sub (.t 16) (.k (N 19))),
 (none, .mv 2 .copy (.k (N 4))),
 (none, .mv 3 .copy (.t 17))])
 .ret)
 (.seq (.reg [(none, .mv 19 .copy (.t 0)),
 (none, .bin 20 .num .eql (.t 19) (.k (N 35))),
 (none, .mv 18 .copy (.t 20))])
 (.cond (.t 18)
 (.seq (.reg [(none, .mv 2 .copy (.k (N 3))),
 (none, .mv 3 .copy (.k (N (-1))))])
 .ret)
 (.seq (.reg [(none, .mv 22 .copy (.t 0)),
 (none, .bin 23 .num .eql (.t 22) (.k (N 36))),
 (none, .mv 21 .copy (.t 23))])
 (.cond (.t 21)
 (.seq (.reg [(none, .mv 2 .copy (.k (N 4))),
 (none, .mv 3 .copy (.k (N (-1))))])
 .ret)
 .skip)))))))))))
 (.seq (.reg [(none, .mv 2 .copy (.k (N 5))),
 (none, .mv 3 .copy (.k (N (-1))))])
 .ret)))
theorem c_impl_shape : codeOf Try.prog n_impl_shape m_impl_shape = some (k_impl_shape, [.tmp 2, .tmp 3], 24) := by kernel_rfl

/- loop.example/g03111/impl.check -/
def m_impl_check : List (Nat × List Md) := [(2, [.copy, .take, .copy, .take]), (3, [.copy, .copy, .copy, .copy, .copy, .copy, .copy, .copy, .take]), (5, [.copy, .take]), (6, [.copy, .take]), (7, [.copy, .take]), (8, [.copy, .take]), (9, [.copy, .take]), (11, [.copy, .copy, .take]), (13, [.copy, .copy, .copy, .copy, .take]), (14, [.copy, .copy, .copy, .take]), (17, [.copy, .take]), (20, [.copy, .copy, .copy, .take]), (1000001, [.copy, .copy, .copy, .copy, .copy, .frz])]
def k_impl_check : C := (.seq (.reg [(none, .box 5 (.t 0)),
 (none, .mv 10 .copy (.k (N 0)))])
 (.seq (.seq (.frz 5)
 (.reg [(none, .mv 15 .copy (.t 4)),
 (none, .bin 16 .num .add (.t 15) (.k (N 1))),
 (none, .mv 4 .copy (.t 16))]))
 (.seq (.reg [(none, .fieldA 18 0 (.t 5)),
 (none, .load 19 .take false 1 (.t 18)),
 (none, .call false (some 20) (.k (.fn n_impl_formOf [])) [(.t 19)]),
 (none, .mv 17 .take (.t 20)),
 (none, .extract 21 0 (.t 17)),
 (none, .extract 22 1 (.t 17)),
 (none, .alloc 11 [(.sc (.string ⟨#[]⟩)), (N 0), (.sc (.bool false)), (.sc (.bool false))]),
 (none, .store 4 (.t 11) (.t 21)),
 (none, .mv 12 .copy (.t 22))])
 (.seq (.seq (.reg [(none, .mv 23 .copy (.t 12)),
 (none, .un 24 .not (.t 23)),
 (none, .mv 25 .copy (.t 24)),
 (some (25, false), .mv 26 .copy (.t 4)),
 (some (25, false), .bin 27 .num .gtr (.t 26) (.k (N 400))),
 (none, .pick 28 (.t 25) (.k (.sc (.bool true))) (.t 27)),
 (none, .mv 29 .copy (.t 28)),
 (some (29, false), .fieldA 30 3 (.t 5)),
 (some (29, false), .load 31 .take false 1 (.t 30)),
 (some (29, false), .len 32 (.t 31)),
 (some (29, false), .fieldA 33 1 (.t 11)),
 (some (29, false), .load 34 .copy false 1 (.t 33)),
 (some (29, false), .bin 35 .num .neq (.t 32) (.t 34)),
 (none, .pick 36 (.t 29) (.k (.sc (.bool true))) (.t 35))])
 (.cond (.t 36)
 (.seq (.reg [(none, .mv 10 .copy (.k (N 401)))])
 .ret)
 .skip))
 (.seq (.block 0 (.seq (.reg [(none, .fieldA 41 0 (.t 5)),
 (none, .load 42 .take false 1 (.t 41)),
 (none, .bin 43 .num .eql (.t 42) (.k (N 0))),
 (none, .mv 40 .copy (.t 43))])
 (.cond (.t 40)
 (.reg [(none, .fieldA 44 1 (.t 5)),
 (none, .load 45 .take false 1 (.t 44)),
 (none, .mv 46 .copy (.t 1)),
 (none, .bin 47 .num .sub (.t 46) (.k (N 1))),
 (none, .call false (some 48) (.k (.fn n_impl_within [])) [(.t 45), (.k (N 0)), (.t 47)]),
 (none, .mv 12 .copy (.t 48))])
 (.seq (.reg [(none, .fieldA 50 0 (.t 5)),
 (none, .load 51 .take false 1 (.t 50)),
 (none, .bin 52 .num .eql (.t 51) (.k (N 1))),
 (none, .mv 49 .copy (.t 52))])
 (.cond (.t 49)
 (.reg [(none, .fieldA 53 1 (.t 5)),
 (none, .load 54 .take false 1 (.t 53)),
 (none, .call false (some 55) (.k (.fn n_impl_within [])) [(.t 54), (.k (N 0)), (.k (N 2))]),
 (none, .mv 12 .copy (.t 55))])
 (.seq (.reg [(none, .fieldA 57 2 (.t 11)),
 (none, .load 58 .copy false 1 (.t 57)),
 (none, .mv 56 .copy (.t 58))])
 (.cond (.t 56)
 (.reg [(none, .mv 59 .copy (.t 2)),
 (none, .fieldA 60 1 (.t 5)),
 (none, .load 61 .take false 1 (.t 60)),
 (none, .call false (some 62) (.t 59) [(.t 61)]),
 (none, .mv 12 .copy (.t 62))])
 (.reg [(none, .fieldA 37 1 (.t 5)),
 (none, .load 38 .take false 1 (.t 37)),
 (none, .bin 39 .num .eql (.t 38) (.k (N 0))),
 (none, .mv 12 .copy (.t 39))]))))))))
 (.seq (.seq (.reg [(none, .fieldA 63 3 (.t 11)),
 (none, .load 64 .copy false 1 (.t 63))])
 (.cond (.t 64)
 (.reg [(none, .mv 65 .copy (.t 12)),
 (none, .mv 66 .copy (.t 65)),
 (some (66, true), .mv 67 .copy (.t 3)),
 (some (66, true), .fieldA 68 2 (.t 5)),
 (some (66, true), .load 69 .take false 1 (.t 68)),
 (some (66, true), .call false (some 70) (.t 67) [(.t 69)]),
 (none, .pick 71 (.t 66) (.t 70) (.k (.sc (.bool false)))),
 (none, .mv 12 .copy (.t 71))])
 (.reg [(none, .mv 72 .copy (.t 12)),
 (none, .mv 73 .copy (.t 72)),
 (some (73, true), .fieldA 74 2 (.t 5)),
 (some (73, true), .load 75 .take false 1 (.t 74)),
 (some (73, true), .len 76 (.t 75)),
 (some (73, true), .bin 77 .num .eql (.t 76) (.k (N 0))),
 (none, .pick 78 (.t 73) (.t 77) (.k (.sc (.bool false)))),
 (none, .mv 12 .copy (.t 78))])))
 (.seq (.seq (.reg [(none, .mv 79 .copy (.t 12)),
 (none, .un 80 .not (.t 79))])
 (.cond (.t 80)
 (.seq (.reg [(none, .mv 10 .copy (.k (N 401)))])
 .ret)
 .skip))
 (.seq (.seq (.reg [(none, .fieldA 81 3 (.t 5)),
 (none, .load 82 .take false 1 (.t 81)),
 (none, .len 83 (.t 82)),
 (none, .mv 84 .copy (.k (N 0)))])
 (.block 1 (.loop (.seq (.reg [(none, .bin 85 .num .lss (.t 84) (.t 83))])
 (.seq (.cond (.t 85)
 .skip
 (.exit 1))
 (.seq (.block 2 (.seq (.reg [(none, .mv 86 .copy (.t 84)),
 (none, .indexA 87 4 (.t 82) (.t 84)),
 (none, .load 88 .copy true 4 (.t 87)),
 (none, .alloc 14 [(N 0), (N 0), (.sl true true 1 []), (.sl true true 1 [])]),
 (none, .mv 13 .copy (.t 86)),
 (none, .store 4 (.t 14) (.t 88))])
 (.seq (.reg [(none, .load 89 .copy true 4 (.t 14)),
 (none, .mv 90 .copy (.t 1)),
 (none, .fieldA 91 0 (.t 5)),
 (none, .load 92 .take false 1 (.t 91)),
 (none, .mv 93 .copy (.t 13)),
 (none, .call false (some 94) (.k (.fn n_impl_adds [])) [(.t 92), (.t 93)]),
 (none, .bin 95 .num .add (.t 90) (.t 94)),
 (none, .mv 96 .copy (.t 2)),
 (none, .mv 97 .copy (.t 3)),
 (none, .mv 98 .copy (.t 4)),
 (none, .call false (some 99) (.k (.fn n_impl_check [])) [(.t 89), (.t 95), (.t 96), (.t 97), (.t 98)]),
 (none, .mv 4 .copy (.t 99))])
 (.seq (.reg [(none, .mv 100 .copy (.t 4)),
 (none, .bin 101 .num .gtr (.t 100) (.k (N 400)))])
 (.cond (.t 101)
 (.seq (.reg [(none, .mv 10 .copy (.k (N 401)))])
 .ret)
 .skip)))))
 (.reg [(none, .bin 102 .num .add (.t 84) (.k (N 1))),
 (none, .mv 84 .copy (.t 102))])))))))
 (.seq (.reg [(none, .mv 103 .copy (.t 4)),
 (none, .mv 10 .copy (.t 103))])
 .ret)))))))))
theorem c_impl_check : codeOf Try.prog n_impl_check m_impl_check = some (k_impl_check, [.tmp 10], 104) := by kernel_rfl

/- loop.example/g03111/impl.writtenSize$1 -/
def m_impl_writtenSize_1 : List (Nat × List Md) := []
def k_impl_writtenSize_1 : C := (.seq (.reg [(none, .mv 2 .copy (.k (.sc (.bool false))))])
 (.seq (.reg [(none, .mv 3 .copy (.t 0)),
 (none, .call false (some 4) (.k (.fn n_impl_within [])) [(.t 3), (.k (N (-1))), (.k (N 15))]),
 (none, .mv 2 .copy (.t 4))])
 .ret))
theorem c_impl_writtenSize_1 : codeOf Try.prog n_impl_writtenSize_1 m_impl_writtenSize_1 = some (k_impl_writtenSize_1, [.tmp 2], 5) := by kernel_rfl

/- loop.example/g03111/spec.l2Arrow -/
def m_spec_l2Arrow : List (Nat × List Md) := []
def k_spec_l2Arrow : C := (.seq (.reg [(none, .mv 2 .copy (.k (.sc (.bool false))))])
 (.seq (.reg [(none, .mv 3 .copy (.t 0)),
 (none, .call false (some 4) (.k (.fn n_spec_l1In [])) [(.t 3), (.k (N 3)), (.k (N 18))]),
 (none, .mv 5 .copy (.t 4)),
 (some (5, false), .mv 6 .copy (.t 0)),
 (some (5, false), .bin 7 .num .eql (.t 6) (.k (N 35))),
 (none, .pick 8 (.t 5) (.k (.sc (.bool true))) (.t 7)),
 (none, .mv 2 .copy (.t 8))])
 .ret))
theorem c_spec_l2Arrow : codeOf Try.prog n_spec_l2Arrow m_spec_l2Arrow = some (k_spec_l2Arrow, [.tmp 2], 9) := by kernel_rfl

/- loop.example/g03111/spec.l2Box -/
def m_spec_l2Box : List (Nat × List Md) := []
def k_spec_l2Box : C := (.seq (.reg [(none, .mv 2 .copy (.k (.sc (.bool false))))])
 (.seq (.reg [(none, .mv 3 .copy (.t 0)),
 (none, .call false (some 4) (.k (.fn n_spec_l1In [])) [(.t 3), (.k (N 19)), (.k (N 34))]),
 (none, .mv 5 .copy (.t 4)),
 (some (5, false), .mv 6 .copy (.t 0)),
 (some (5, false), .bin 7 .num .eql (.t 6) (.k (N 36))),
 (none, .pick 8 (.t 5) (.k (.sc (.bool true))) (.t 7)),
 (none, .mv 2 .copy (.t 8))])
 .ret))
theorem c_spec_l2Box : codeOf Try.prog n_spec_l2Box m_spec_l2Box = some (k_spec_l2Box, [.tmp 2], 9) := by kernel_rfl

/- loop.example/g03111/spec.l2Many -/
def m_spec_l2Many : List (Nat × List Md) := []
def k_spec_l2Many : C := (.seq (.reg [(none, .mv 2 .copy (.k (N 0)))])
 (.seq (.seq (.reg [(none, .mv 3 .copy (.t 0)),
 (none, .call false (some 4) (.k (.fn n_spec_l1In [])) [(.t 3), (.k (N 0)), (.k (N 12))]),
 (none, .un 5 .not (.t 4))])
 (.cond (.t 5)
 (.seq (.reg [(none, .mv 2 .copy (.k (N (-1))))])
 .ret)
 .skip))
 (.seq (.reg [(none, .bslice 6 1 13 [(N 0), (N 0), (N 0), (N 0), (N 0), (N 0), (N 0), (N 0), (N 0), (N 0), (N 0), (N 0), (N 0)] [(0, 1, (.k (N 0))), (1, 1, (.k (N 0))), (2, 1, (.k (N 2))), (3, 1, (.k (N 3))), (4, 1, (.k (N 2))), (5, 1, (.k (N 2))), (6, 1, (.k (N 1))), (7, 1, (.k (N 1))), (8, 1, (.k (N 3))), (9, 1, (.k (N 1))), (10, 1, (.k (N 2))), (11, 1, (.k (N 1))), (12, 1, (.k (N 2)))]),
 (none, .mv 7 .copy (.t 0)),
 (none, .indexA 8 1 (.t 6) (.t 7)),
 (none, .load 9 .copy false 1 (.t 8)),
 (none, .mv 2 .copy (.t 9))])
 .ret)))
theorem c_spec_l2Many : codeOf Try.prog n_spec_l2Many m_spec_l2Many = some (k_spec_l2Many, [.tmp 2], 10) := by kernel_rfl

/- loop.example/g03111/spec.l2Has -/
def m_spec_l2Has : List (Nat × List Md) := []
def k_spec_l2Has : C := (.seq (.reg [(none, .mv 2 .copy (.k (.sc (.bool false))))])
 (.seq (.reg [(none, .mv 3 .copy (.t 0)),
 (none, .bin 4 .num .eql (.t 3) (.k (N 5))),
 (none, .mv 5 .copy (.t 4)),
 (some (5, false), .mv 6 .copy (.t 0)),
 (some (5, false), .bin 7 .num .eql (.t 6) (.k (N 8))),
 (none, .pick 8 (.t 5) (.k (.sc (.bool true))) (.t 7)),
 (none, .mv 9 .copy (.t 8)),
 (some (9, false), .mv 10 .copy (.t 0)),
 (some (9, false), .bin 11 .num .eql (.t 10) (.k (N 9))),
 (none, .pick 12 (.t 9) (.k (.sc (.bool true))) (.t 11)),
 (none, .mv 13 .copy (.t 12)),
 (some (13, false), .mv 14 .copy (.t 0)),
 (some (13, false), .bin 15 .num .eql (.t 14) (.k (N 11))),
 (none, .pick 16 (.t 13) (.k (.sc (.bool true))) (.t 15)),
 (none, .mv 17 .copy (.t 16)),
 (some (17, false), .mv 18 .copy (.t 0)),
 (some (17, false), .bin 19 .num .eql (.t 18) (.k (N 12))),
 (none, .pick 20 (.t 17) (.k (.sc (.bool true))) (.t 19)),
 (none, .mv 2 .copy (.t 20))])
 .ret))
theorem c_spec_l2Has : codeOf Try.prog n_spec_l2Has m_spec_l2Has = some (k_spec_l2Has, [.tmp 2], 21) := by kernel_rfl

/- loop.example/g03111/spec.l2Typed -/
def m_spec_l2Typed : List (Nat × List Md) := []
def k_spec_l2Typed : C := (.seq (.reg [(none, .mv 2 .copy (.k (.sc (.bool false))))])
 (.seq (.reg [(none, .mv 3 .copy (.t 0)),
 (none, .bin 4 .num .eql (.t 3) (.k (N 6))),
 (none, .mv 5 .copy (.t 4)),
 (some (5, false), .mv 6 .copy (.t 0)),
 (some (5, false), .bin 7 .num .eql (.t 6) (.k (N 7))),
 (none, .pick 8 (.t 5) (.k (.sc (.bool true))) (.t 7)),
 (none, .mv 9 .copy (.t 8)),
 (some (9, false), .mv 10 .copy (.t 0)),
 (some (9, false), .bin 11 .num .eql (.t 10) (.k (N 9))),
 (none, .pick 12 (.t 9) (.k (.sc (.bool true))) (.t 11)),
 (none, .mv 2 .copy (.t 12))])
 .ret))
theorem c_spec_l2Typed : codeOf Try.prog n_spec_l2Typed m_spec_l2Typed = some (k_spec_l2Typed, [.tmp 2], 13) := by kernel_rfl

/- loop.example/g03111/impl.typeEnd -/
def m_impl_typeEnd : List (Nat × List Md) := [(3, [.copy, .copy, .copy, .copy, .copy, .take]), (8, [.take]), (11, [.copy, .take])]
def k_impl_typeEnd : C := (.seq (.reg [(none, .mv 4 .copy (.k (N 0)))])
 (.seq (.seq (.reg [(none, .mv 7 .copy (.t 1)),
 (none, .bin 8 .num .lss (.t 7) (.k (N 0))),
 (none, .mv 9 .copy (.t 8)),
 (some (9, false), .mv 10 .copy (.t 1)),
 (some (9, false), .mv 11 .copy (.t 0)),
 (some (9, false), .len 12 (.t 11)),
 (some (9, false), .bin 13 .num .geq (.t 10) (.t 12)),
 (none, .pick 14 (.t 9) (.k (.sc (.bool true))) (.t 13))])
 (.cond (.t 14)
 (.seq (.reg [(none, .mv 4 .copy (.k (N (-1))))])
 .ret)
 .skip))
 (.seq (.reg [(none, .mv 16 .copy (.t 0)),
 (none, .mv 17 .copy (.t 1)),
 (none, .indexA 18 1 (.t 16) (.t 17)),
 (none, .load 19 .copy false 1 (.t 18)),
 (none, .call false (some 20) (.k (.fn n_impl_shape [])) [(.t 19)]),
 (none, .mv 15 .take (.t 20)),
 (none, .extract 21 0 (.t 15)),
 (none, .extract 22 1 (.t 15)),
 (none, .mv 5 .copy (.t 21)),
 (none, .mv 6 .copy (.t 22))])
 (.seq (.seq (.reg [(none, .mv 23 .copy (.t 5))])
 (.block 0 (.seq (.reg [(none, .bin 25 .num .eql (.t 23) (.k (N 0))),
 (none, .mv 24 .copy (.t 25))])
 (.cond (.t 24)
 (.seq (.reg [(none, .mv 26 .copy (.t 1)),
 (none, .bin 27 .num .add (.t 26) (.k (N 1))),
 (none, .mv 4 .copy (.t 27))])
 .ret)
 (.seq (.reg [(none, .bin 29 .num .eql (.t 23) (.k (N 4))),
 (none, .mv 28 .copy (.t 29))])
 (.cond (.t 28)
 (.seq (.reg [(none, .mv 30 .take (.t 0)),
 (none, .mv 31 .copy (.t 1)),
 (none, .bin 32 .num .add (.t 31) (.k (N 1))),
 (none, .call false (some 33) (.k (.fn n_impl_typeEnd [])) [(.t 30), (.t 32)]),
 (none, .mv 4 .copy (.t 33))])
 .ret)
 (.seq (.reg [(none, .bin 35 .num .eql (.t 23) (.k (N 5))),
 (none, .mv 34 .copy (.t 35))])
 (.cond (.t 34)
 (.seq (.reg [(none, .mv 4 .copy (.k (N (-1))))])
 .ret)
 .skip))))))))
 (.seq (.reg [(none, .mv 36 .copy (.t 0)),
 (none, .mv 37 .take (.t 0)),
 (none, .mv 38 .copy (.t 1)),
 (none, .bin 39 .num .add (.t 38) (.k (N 1))),
 (none, .call false (some 40) (.k (.fn n_impl_typeEnd [])) [(.t 37), (.t 39)]),
 (none, .call false (some 41) (.k (.fn n_impl_typeEnd [])) [(.t 36), (.t 40)]),
 (none, .mv 4 .copy (.t 41))])
 .ret)))))
theorem c_impl_typeEnd : codeOf Try.prog n_impl_typeEnd m_impl_typeEnd = some (k_impl_typeEnd, [.tmp 4], 42) := by kernel_rfl

/- loop.example/g03111/impl.formOf -/
def m_impl_formOf : List (Nat × List Md) := []
def k_impl_formOf : C := (.seq (.reg [(none, .alloc 2 [(.sc (.string ⟨#[]⟩)), (N 0), (.sc (.bool false)), (.sc (.bool false))]),
 (none, .mv 3 .copy (.k (.sc (.bool false))))])
 (.seq (.seq (.reg [(none, .mv 4 .copy (.t 0)),
 (none, .call false (some 5) (.k (.fn n_impl_within [])) [(.t 4), (.k (N 0)), (.k (N 12))]),
 (none, .un 6 .not (.t 5))])
 (.cond (.t 6)
 (.seq (.reg [(none, .build 7 [(.sc (.string ⟨#[]⟩)), (N 0), (.sc (.bool false)), (.sc (.bool false))] []),
 (none, .store 4 (.t 2) (.t 7)),
 (none, .mv 3 .copy (.k (.sc (.bool false))))])
 .ret)
 .skip))
 (.seq (.reg [(none, .build 8 [(.sc (.string ⟨#[]⟩)), (N 0), (.sc (.bool false)), (.sc (.bool false))] [(0, 1, (.k (.sc (.string ⟨#[120]⟩)))), (1, 1, (.k (N 0))), (2, 1, (.k (.sc (.bool false)))), (3, 1, (.k (.sc (.bool false))))]),
 (none, .build 9 [(.sc (.string ⟨#[]⟩)), (N 0), (.sc (.bool false)), (.sc (.bool false))] [(0, 1, (.k (.sc (.string ⟨#[]⟩)))), (1, 1, (.k (N 0))), (2, 1, (.k (.sc (.bool false)))), (3, 1, (.k (.sc (.bool false))))]),
 (none, .build 10 [(.sc (.string ⟨#[]⟩)), (N 0), (.sc (.bool false)), (.sc (.bool false))] [(0, 1, (.k (.sc (.string ⟨#[97, 100, 100]⟩)))), (1, 1, (.k (N 2))), (2, 1, (.k (.sc (.bool false)))), (3, 1, (.k (.sc (.bool false))))]),
 (none, .build 11 [(.sc (.string ⟨#[]⟩)), (N 0), (.sc (.bool false)), (.sc (.bool false))] [(0, 1, (.k (.sc (.string ⟨#[105, 102]⟩)))), (1, 1, (.k (N 3))), (2, 1, (.k (.sc (.bool false)))), (3, 1, (.k (.sc (.bool false))))]),
 (none, .build 12 [(.sc (.string ⟨#[]⟩)), (N 0), (.sc (.bool false)), (.sc (.bool false))] [(0, 1, (.k (.sc (.string ⟨#[112, 97, 105, 114]⟩)))), (1, 1, (.k (N 2))), (2, 1, (.k (.sc (.bool false)))), (3, 1, (.k (.sc (.bool false))))]),
 (none, .build 13 [(.sc (.string ⟨#[]⟩)), (N 0), (.sc (.bool false)), (.sc (.bool false))] [(0, 1, (.k (.sc (.string ⟨#[115, 112, 108, 105, 116]⟩)))), (1, 1, (.k (N 2))), (2, 1, (.k (.sc (.bool true)))), (3, 1, (.k (.sc (.bool false))))]),
 (none, .build 14 [(.sc (.string ⟨#[]⟩)), (N 0), (.sc (.bool false)), (.sc (.bool false))] [(0, 1, (.k (.sc (.string ⟨#[108, 101, 102, 116]⟩)))), (1, 1, (.k (N 1))), (2, 1, (.k (.sc (.bool false)))), (3, 1, (.k (.sc (.bool true))))]),
 (none, .build 15 [(.sc (.string ⟨#[]⟩)), (N 0), (.sc (.bool false)), (.sc (.bool false))] [(0, 1, (.k (.sc (.string ⟨#[114, 105, 103, 104, 116]⟩)))), (1, 1, (.k (N 1))), (2, 1, (.k (.sc (.bool false)))), (3, 1, (.k (.sc (.bool true))))]),
 (none, .build 16 [(.sc (.string ⟨#[]⟩)), (N 0), (.sc (.bool false)), (.sc (.bool false))] [(0, 1, (.k (.sc (.string ⟨#[99, 97, 115, 101]⟩)))), (1, 1, (.k (N 3))), (2, 1, (.k (.sc (.bool true)))), (3, 1, (.k (.sc (.bool false))))]),
 (none, .build 17 [(.sc (.string ⟨#[]⟩)), (N 0), (.sc (.bool false)), (.sc (.bool false))] [(0, 1, (.k (.sc (.string ⟨#[102, 117, 110]⟩)))), (1, 1, (.k (N 1))), (2, 1, (.k (.sc (.bool true)))), (3, 1, (.k (.sc (.bool true))))]),
 (none, .build 18 [(.sc (.string ⟨#[]⟩)), (N 0), (.sc (.bool false)), (.sc (.bool false))] [(0, 1, (.k (.sc (.string ⟨#[97, 112, 112]⟩)))), (1, 1, (.k (N 2))), (2, 1, (.k (.sc (.bool false)))), (3, 1, (.k (.sc (.bool false))))]),
 (none, .build 19 [(.sc (.string ⟨#[]⟩)), (N 0), (.sc (.bool false)), (.sc (.bool false))] [(0, 1, (.k (.sc (.string ⟨#[98, 111, 120]⟩)))), (1, 1, (.k (N 1))), (2, 1, (.k (.sc (.bool true)))), (3, 1, (.k (.sc (.bool false))))]),
 (none, .build 20 [(.sc (.string ⟨#[]⟩)), (N 0), (.sc (.bool false)), (.sc (.bool false))] [(0, 1, (.k (.sc (.string ⟨#[111, 112, 101, 110]⟩)))), (1, 1, (.k (N 2))), (2, 1, (.k (.sc (.bool true)))), (3, 1, (.k (.sc (.bool false))))]),
 (none, .bslice 21 4 13 [(.sc (.string ⟨#[]⟩)), (N 0), (.sc (.bool false)), (.sc (.bool false)), (.sc (.string ⟨#[]⟩)), (N 0), (.sc (.bool false)), (.sc (.bool false)), (.sc (.string ⟨#[]⟩)), (N 0), (.sc (.bool false)), (.sc (.bool false)), (.sc (.string ⟨#[]⟩)), (N 0), (.sc (.bool false)), (.sc (.bool false)), (.sc (.string ⟨#[]⟩)), (N 0), (.sc (.bool false)), (.sc (.bool false)), (.sc (.string ⟨#[]⟩)), (N 0), (.sc (.bool false)), (.sc (.bool false)), (.sc (.string ⟨#[]⟩)), (N 0), (.sc (.bool false)), (.sc (.bool false)), (.sc (.string ⟨#[]⟩)), (N 0), (.sc (.bool false)), (.sc (.bool false)), (.sc (.string ⟨#[]⟩)), (N 0), (.sc (.bool false)), (.sc (.bool false)), (.sc (.string ⟨#[]⟩)), (N 0), (.sc (.bool false)), (.sc (.bool false)), (.sc (.string ⟨#[]⟩)), (N 0), (.sc (.bool false)), (.sc (.bool false)), (.sc (.string ⟨#[]⟩)), (N 0), (.sc (.bool false)), (.sc (.bool false)), (.sc (.string ⟨#[]⟩)), (N 0), (.sc (.bool false)), (.sc (.bool false))] [(0, 4, (.t 8)), (4, 4, (.t 9)), (8, 4, (.t 10)), (12, 4, (.t 11)), (16, 4, (.t 12)), (20, 4, (.t 13)), (24, 4, (.t 14)), (28, 4, (.t 15)), (32, 4, (.t 16)), (36, 4, (.t 17)), (40, 4, (.t 18)), (44, 4, (.t 19)), (48, 4, (.t 20))]),
 (none, .mv 22 .copy (.t 0)),
 (none, .indexA 23 4 (.t 21) (.t 22)),
 (none, .load 24 .copy true 4 (.t 23)),
 (none, .store 4 (.t 2) (.t 24)),
 (none, .mv 3 .copy (.k (.sc (.bool true))))])
 .ret)))
theorem c_impl_formOf : codeOf Try.prog n_impl_formOf m_impl_formOf = some (k_impl_formOf, [.cell 2 true 4, .tmp 3], 25) := by kernel_rfl

/- loop.example/g03111/impl.adds -/
def m_impl_adds : List (Nat × List Md) := []
def k_impl_adds : C := (.seq (.reg [(none, .mv 4 .copy (.k (N 0)))])
 (.seq (.block 0 (.seq (.reg [(none, .mv 6 .copy (.t 0)),
 (none, .bin 7 .num .eql (.t 6) (.k (N 5))),
 (none, .mv 8 .copy (.t 7)),
 (some (8, true), .mv 9 .copy (.t 1)),
 (some (8, true), .bin 10 .num .eql (.t 9) (.k (N 1))),
 (none, .pick 11 (.t 8) (.t 10) (.k (.sc (.bool false)))),
 (none, .mv 5 .copy (.t 11))])
 (.cond (.t 5)
 (.seq (.reg [(none, .mv 4 .copy (.k (N 2)))])
 .ret)
 (.seq (.seq (.reg [(none, .mv 13 .copy (.t 0)),
 (none, .bin 14 .num .eql (.t 13) (.k (N 8))),
 (none, .mv 15 .copy (.t 14)),
 (some (15, true), .mv 16 .copy (.t 1)),
 (some (15, true), .bin 17 .num .gtr (.t 16) (.k (N 0))),
 (none, .pick 18 (.t 15) (.t 17) (.k (.sc (.bool false)))),
 (none, .mv 12 .copy (.t 18))])
 (.cond (.t 12)
 .skip
 (.seq (.reg [(none, .mv 19 .copy (.t 0)),
 (none, .bin 20 .num .eql (.t 19) (.k (N 9))),
 (none, .mv 12 .copy (.t 20))])
 (.cond (.t 12)
 .skip
 (.reg [(none, .mv 21 .copy (.t 0)),
 (none, .bin 22 .num .eql (.t 21) (.k (N 12))),
 (none, .mv 23 .copy (.t 22)),
 (some (23, true), .mv 24 .copy (.t 1)),
 (some (23, true), .bin 25 .num .eql (.t 24) (.k (N 1))),
 (none, .pick 26 (.t 23) (.t 25) (.k (.sc (.bool false)))),
 (none, .mv 12 .copy (.t 26))])))))
 (.cond (.t 12)
 (.seq (.reg [(none, .mv 4 .copy (.k (N 1)))])
 .ret)
 .skip)))))
 (.seq (.reg [(none, .mv 4 .copy (.k (N 0)))])
 .ret)))
theorem c_impl_adds : codeOf Try.prog n_impl_adds m_impl_adds = some (k_impl_adds, [.tmp 4], 27) := by kernel_rfl

end Go.Proofs.Ytclfngbealdbgaa
