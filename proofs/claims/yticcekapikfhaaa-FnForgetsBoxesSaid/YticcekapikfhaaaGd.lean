/- Types: what the functions of the program and of the reference do, over trees. No conditions. -/
import Derived.Test.YticcekapikfhaaaGa
import Derived.Test.YticcekapikfhaaaTy
namespace Go.Proofs.Yticcekapikfhaaa
open Go Go.TL
open Go.Proofs.Yticcekapikfhaaa.Ty
set_option linter.unusedSimpArgs false
set_option linter.unusedVariables false
set_option maxRecDepth 20000
set_option maxHeartbeats 4000000

def shapeOf (k : Int) : Int × Int :=
  if within k 0 2 = true then (k, -1) else if within k 3 18 = true then (3, k - 3) else if within k 19 34 = true then (4, k - 19)
  else if eqB k 35 = true then (3, -1) else if eqB k 36 = true then (4, -1) else (5, -1)
theorem shape_ok (k : Int) (h : I64 k) : Gives Try.prog n_impl_shape [N k] (· = .tup [N (shapeOf k).1, N (shapeOf k).2]) := by
  obtain ⟨ha, hb⟩ := h
  refine Gives.of_codeOf c_impl_shape mixed (by simp) ⟨_, rfl, by simp⟩ ?_
  simp (disch := omega) [-onBool_some, -onBool_leT, -onBool_leF, -onBool_ltT, -onBool_ltF, -onBool_eqT, -onBool_eqF, k_impl_shape]
  repeat' (first
    | with_reducible refine onCall_eq (within_ok _ _ _) (by simp) ?_
    | (with_reducible (first | refine onBoolT (fun hb_ => ?_) (fun hb_ => ?_) | refine onBoolF (fun hb_ => ?_) (fun hb_ => ?_)) <;> simp (disch := omega) [-onBool_some, -onBool_leT, -onBool_leF, -onBool_ltT, -onBool_ltF, -onBool_eqT, -onBool_eqF, hb_])
    | simp (disch := omega) [-onBool_some, -onBool_leT, -onBool_leF, -onBool_ltT, -onBool_ltF, -onBool_eqT, -onBool_eqF])
  all_goals unfold shapeOf
  · simp_all
  · rename_i h0
    rw [within_true] at hb_
    rw [if_neg (by simp_all), if_pos (by rw [within_true]; exact hb_)]
    simp (disch := omega) [i64_wrap]
  · rename_i h0 h1
    rw [within_true] at hb_
    rw [if_neg (by simp_all), if_neg (by simp_all), if_pos (by rw [within_true]; exact hb_)]
    simp (disch := omega) [i64_wrap]
  all_goals simp_all

def tEnd (l : List Int) (i : Int) : Int := if 0 ≤ i then endOf 1 (l.drop i.toNat) l.length else -1
theorem tEnd_out {l : List Int} {i : Int} (h : i < 0 ∨ l.length ≤ i) : tEnd l i = -1 := by
  unfold tEnd
  split
  · rw [List.drop_eq_nil_of_le (by omega)]; simp [endOf, Ty.skip]
  · rfl
theorem tEnd_range {l : List Int} {i : Int} (h : 0 ≤ i) : tEnd l i = -1 ∨ (i < tEnd l i ∧ tEnd l i ≤ l.length) := by
  unfold tEnd endOf
  rw [if_pos h]
  cases hs : Ty.skip 1 (l.drop i.toNat) with
  | none => exact .inl rfl
  | some r =>
    have := skip_length hs
    simp only [List.length_drop] at this ⊢
    right; omega
theorem kidsN' (c : Int) : kidsN c = if c = 0 then some 0 else if (1 ≤ c ∧ c ≤ 18) ∨ c = 35 then some 2 else if (19 ≤ c ∧ c ≤ 34) ∨ c = 36 then some 1 else none := by
  have e1 : (c = 1 ∨ c = 2 ∨ isArrow c = true) ↔ ((1 ≤ c ∧ c ≤ 18) ∨ c = 35) := by simp [isArrow]; omega
  have e2 : (isBox c = true) ↔ ((19 ≤ c ∧ c ≤ 34) ∨ c = 36) := by simp [isBox]
  unfold kidsN
  simp only [e1, e2]
theorem shape_kids (c : Int) : ((shapeOf c).1 = 0 ∧ kidsN c = some 0) ∨ ((shapeOf c).1 = 4 ∧ kidsN c = some 1) ∨ ((shapeOf c).1 = 5 ∧ kidsN c = none) ∨ ((shapeOf c).1 ≠ 0 ∧ (shapeOf c).1 ≠ 4 ∧ (shapeOf c).1 ≠ 5 ∧ kidsN c = some 2) := by
  rw [kidsN']
  unfold shapeOf
  simp only [within_true, eqB_true]
  by_cases h0 : 0 ≤ c ∧ c ≤ 2
  · rw [if_pos h0]
    by_cases h : c = 0
    · simp [h]
    · rw [if_neg h, if_pos (by omega)]; simp; omega
  rw [if_neg h0, if_neg (show ¬ c = 0 by omega)]
  by_cases h1 : 3 ≤ c ∧ c ≤ 18
  · rw [if_pos h1, if_pos (by omega)]; simp
  rw [if_neg h1]
  by_cases h2 : 19 ≤ c ∧ c ≤ 34
  · rw [if_pos h2, if_neg (by omega), if_pos (by omega)]; simp
  rw [if_neg h2]
  by_cases h3 : c = 35
  · simp [h3]
  rw [if_neg h3]
  by_cases h4 : c = 36
  · simp [h4]
  rw [if_neg h4, if_neg (by omega), if_neg (by omega)]
  simp
theorem tEnd_in {l : List Int} {i : Int} (h0 : 0 ≤ i) (h1 : i < l.length) (c : Int) (hc : c = l[i.toNat]'(by omega)) :
    ((shapeOf c).1 = 0 → tEnd l i = i + 1) ∧ ((shapeOf c).1 = 4 → tEnd l i = tEnd l (i + 1)) ∧ ((shapeOf c).1 = 5 → tEnd l i = -1) ∧
    ((shapeOf c).1 ≠ 0 → (shapeOf c).1 ≠ 4 → (shapeOf c).1 ≠ 5 → tEnd l i = tEnd l (tEnd l (i + 1))) := by
  have hd : l.drop i.toNat = c :: l.drop (i.toNat + 1) := by rw [hc]; exact List.drop_eq_getElem_cons (by omega)
  have e1 : (i + 1).toNat = i.toNat + 1 := by omega
  have key : tEnd l i = match kidsN c with
      | none => -1
      | some k => endOf (0 + k) (l.drop (i.toNat + 1)) l.length := by
    unfold tEnd endOf
    rw [if_pos h0, hd]
    simp only [Ty.skip]
    cases kidsN c <;> rfl
  rcases shape_kids c with ⟨a, b⟩ | ⟨a, b⟩ | ⟨a, b⟩ | ⟨a1, a2, a3, b⟩
  · rw [b] at key
    refine ⟨fun _ => ?_, fun h => by omega, fun h => by omega, fun h => absurd a h⟩
    rw [key]; simp [endOf, Ty.skip]; omega
  · rw [b] at key
    refine ⟨fun h => by omega, fun _ => ?_, fun h => by omega, fun _ h => absurd a h⟩
    rw [key]; unfold tEnd; rw [if_pos (by omega), e1]
  · rw [b] at key
    exact ⟨fun h => by omega, fun h => by omega, fun _ => key, fun _ _ h => absurd a h⟩
  · rw [b] at key
    refine ⟨fun h => absurd h a1, fun h => absurd h a2, fun h => absurd h a3, fun _ _ _ => ?_⟩
    rw [key]
    show endOf (1 + 1) _ _ = _
    unfold tEnd
    rw [if_pos (show 0 ≤ i + 1 by omega), e1]
    unfold endOf
    rw [skip_add]
    cases hs : Ty.skip 1 (l.drop (i.toNat + 1)) with
    | none => simp
    | some r =>
      obtain ⟨m, hm, h2, h3⟩ := skip_drop _ _ _ hs
      have hr : r.length ≤ l.length := by rw [hm]; simp
      simp only [Option.bind_some]
      rw [if_pos (by omega)]
      have : l.drop ((l.length : Int) - r.length).toNat = r := by
        rw [hm, List.drop_drop]
        simp only [List.length_drop] at h3 ⊢
        congr 1; omega
      rw [this]
def meas (l : List Int) (i : Int) : Nat := if i < 0 then 0 else (l.length + 1 - i).toNat
theorem typeEnd_ok (nl : Bool) (l : List Int) (hl : Lok l) (i : Int) (hi : I64 i) : Gives Try.prog n_impl_typeEnd [L nl l, N i] (· = N (tEnd l i)) := by
  have hlen := hl.1
  generalize hd : meas l i = d
  induction d using Nat.strongRecOn generalizing i with
  | _ d ih =>
    obtain ⟨ha, hb⟩ := hi
    refine Gives.of_codeOf c_impl_typeEnd mixed (by simp) ⟨_, rfl, by simp⟩ ?_
    simp (disch := omega) [-onBool_some, -onBool_leT, -onBool_leF, -onBool_ltT, -onBool_ltF, -onBool_eqT, -onBool_eqF, k_impl_typeEnd, i64_wrap]
    (with_reducible first | refine onBoolT (fun h1 => ?_) (fun h1 => ?_) | refine onBoolF (fun h1 => ?_) (fun h1 => ?_))
    · simp (disch := omega) [-onBool_some, -onBool_leT, -onBool_leF, -onBool_ltT, -onBool_ltF, -onBool_eqT, -onBool_eqF, h1]
      simp only [ltB_true, ltB_false, leB_true, leB_false, eqB_true, eqB_false, Bool.not_true, Bool.not_false] at h1
      exact (tEnd_out (.inl h1)).symm
    simp (disch := omega) [-onBool_some, -onBool_leT, -onBool_leF, -onBool_ltT, -onBool_ltF, -onBool_eqT, -onBool_eqF, h1]
    (with_reducible first | refine onBoolT (fun h2 => ?_) (fun h2 => ?_) | refine onBoolF (fun h2 => ?_) (fun h2 => ?_))
    · simp (disch := omega) [-onBool_some, -onBool_leT, -onBool_leF, -onBool_ltT, -onBool_ltF, -onBool_eqT, -onBool_eqF, h2]
      simp only [ltB_true, ltB_false, leB_true, leB_false, eqB_true, eqB_false, Bool.not_true, Bool.not_false] at h2
      exact (tEnd_out (.inr h2)).symm
    simp only [ltB_true, ltB_false, leB_true, leB_false, eqB_true, eqB_false, Bool.not_true, Bool.not_false] at h1 h2
    simp (disch := omega) [-onBool_some, -onBool_leT, -onBool_leF, -onBool_ltT, -onBool_ltF, -onBool_eqT, -onBool_eqF, idx_L]
    have hci : I64 (l[i.toNat]'(by omega)) := hl.2 _ (List.getElem_mem _)
    generalize hc : l[i.toNat]'(by omega) = c at *
    obtain ⟨g0, g4, g5, g2⟩ := tEnd_in h1 h2 c hc.symm
    have i1 : Gives Try.prog n_impl_typeEnd [L nl l, N (i + 1)] (· = N (tEnd l (i + 1))) := ih _ (by rw [← hd]; unfold meas; rw [if_neg (by omega), if_neg (by omega)]; omega) (i + 1) ⟨by omega, by omega⟩ rfl
    have hr := tEnd_range (l := l) (i := i + 1) (by omega)
    have i2 : Gives Try.prog n_impl_typeEnd [L nl l, N (tEnd l (i + 1))] (· = N (tEnd l (tEnd l (i + 1)))) := ih _ (by rw [← hd]; unfold meas; split <;> (rw [if_neg (by omega)]; omega)) _ ⟨by omega, by omega⟩ rfl
    repeat' (first
    | with_reducible refine onCall_eq (shape_ok _ hci) (by simp) ?_
    | with_reducible refine onCall_eq (i1) (by simp) ?_
    | with_reducible refine onCall_eq (i2) (by simp) ?_
    | (with_reducible (first | refine onBoolT (fun hb_ => ?_) (fun hb_ => ?_) | refine onBoolF (fun hb_ => ?_) (fun hb_ => ?_)) <;> simp (disch := omega) [-onBool_some, -onBool_leT, -onBool_leF, -onBool_ltT, -onBool_ltF, -onBool_eqT, -onBool_eqF, hb_, i64_wrap])
    | simp (disch := omega) [-onBool_some, -onBool_leT, -onBool_leF, -onBool_ltT, -onBool_ltF, -onBool_eqT, -onBool_eqF, i64_wrap])
    all_goals simp only [ltB_true, ltB_false, leB_true, leB_false, eqB_true, eqB_false, Bool.not_true, Bool.not_false] at *
    · exact (g0 (by omega)).symm
    · exact (g4 (by omega)).symm
    · exact (g5 (by omega)).symm
    · exact (g2 (by omega) (by omega) (by omega)).symm
theorem wty_iff (l : List Int) : wty l = (within l.length 1 40 && eqB (tEnd l 0) l.length) := by
  have : (Ty.skip 1 l == some []) = eqB (tEnd l 0) l.length := by
    unfold tEnd endOf eqB
    simp only [Int.le_refl, if_true, Int.toNat_zero, List.drop_zero]
    cases h : Ty.skip 1 l with
    | none => simp
    | some r =>
      have := skip_length h
      cases r with
      | nil => simp
      | cons a r => simp; omega
  rw [← this, wty]
  congr 1
  rw [Bool.eq_iff_iff]; simp [within, leB]; omega
theorem isWrittenType_ok (nl : Bool) (l : List Int) (hl : Lok l) : Gives Try.prog n_impl_isWrittenType [L nl l] (· = B (wty l)) := by
  refine Gives.of_codeOf c_impl_isWrittenType mixed (by simp) ⟨_, rfl, by simp⟩ ?_
  have h0 : I64 0 := ⟨by omega, by omega⟩
  have hl1 := hl.1
  simp (disch := omega) [-onBool_some, -onBool_leT, -onBool_leF, -onBool_ltT, -onBool_ltF, -onBool_eqT, -onBool_eqF, k_impl_isWrittenType]
  repeat' (first
    | with_reducible refine onCall_eq (within_ok _ _ _) (by simp) ?_
    | with_reducible refine onCall_eq (typeEnd_ok nl l hl 0 h0) (by simp) ?_
    | (with_reducible (first | refine onBoolT (fun hb_ => ?_) (fun hb_ => ?_) | refine onBoolF (fun hb_ => ?_) (fun hb_ => ?_)) <;> simp (disch := omega) [-onBool_some, -onBool_leT, -onBool_leF, -onBool_ltT, -onBool_ltF, -onBool_eqT, -onBool_eqF, hb_])
    | simp (disch := omega) [-onBool_some, -onBool_leT, -onBool_leF, -onBool_ltT, -onBool_ltF, -onBool_eqT, -onBool_eqF])
  all_goals simp_all [wty_iff]
theorem isArrow_within (c : Int) : isArrow c = (within c 3 18 || eqB c 35) := by
  unfold isArrow within leB eqB
  by_cases h : c = 35 <;> simp [h]
theorem isBox_within (c : Int) : isBox c = (within c 19 34 || eqB c 36) := by
  unfold isBox within leB eqB
  by_cases h : c = 36 <;> simp [h]
theorem gl_arrow (c : Int) : isArrow c = true ↔ (3 ≤ c ∧ c ≤ 18) ∨ c = 35 := by simp [isArrow]
theorem gl_box (c : Int) : isBox c = true ↔ (19 ≤ c ∧ c ≤ 34) ∨ c = 36 := by simp [isBox]
theorem arrow_ok (c : Int) : Gives Try.prog n_spec_l2Arrow [N c] (· = B (isArrow c)) := by
  refine Gives.of_codeOf c_spec_l2Arrow mixed (by simp) ⟨_, rfl, by simp⟩ ?_
  simp (disch := omega) [-onBool_some, -onBool_leT, -onBool_leF, -onBool_ltT, -onBool_ltF, -onBool_eqT, -onBool_eqF, k_spec_l2Arrow]
  repeat' (first
    | with_reducible refine onCall_eq (in_ok _ _ _) (by simp) ?_
    | (with_reducible (first | refine onBoolT (fun hb_ => ?_) (fun hb_ => ?_) | refine onBoolF (fun hb_ => ?_) (fun hb_ => ?_)) <;> simp (disch := omega) [-onBool_some, -onBool_leT, -onBool_leF, -onBool_ltT, -onBool_ltF, -onBool_eqT, -onBool_eqF, hb_])
    | simp (disch := omega) [-onBool_some, -onBool_leT, -onBool_leF, -onBool_ltT, -onBool_ltF, -onBool_eqT, -onBool_eqF])
  all_goals simp_all [isArrow_within]
theorem box_ok (c : Int) : Gives Try.prog n_spec_l2Box [N c] (· = B (isBox c)) := by
  refine Gives.of_codeOf c_spec_l2Box mixed (by simp) ⟨_, rfl, by simp⟩ ?_
  simp (disch := omega) [-onBool_some, -onBool_leT, -onBool_leF, -onBool_ltT, -onBool_ltF, -onBool_eqT, -onBool_eqF, k_spec_l2Box]
  repeat' (first
    | with_reducible refine onCall_eq (in_ok _ _ _) (by simp) ?_
    | (with_reducible (first | refine onBoolT (fun hb_ => ?_) (fun hb_ => ?_) | refine onBoolF (fun hb_ => ?_) (fun hb_ => ?_)) <;> simp (disch := omega) [-onBool_some, -onBool_leT, -onBool_leF, -onBool_ltT, -onBool_ltF, -onBool_eqT, -onBool_eqF, hb_])
    | simp (disch := omega) [-onBool_some, -onBool_leT, -onBool_leF, -onBool_ltT, -onBool_ltF, -onBool_eqT, -onBool_eqF])
  all_goals simp_all [isBox_within]
def kidsI (c : Int) : Int := match kidsN c with
  | some n => n
  | none => -1
theorem kidsI' (c : Int) : kidsI c = if c = 0 then 0 else if c = 1 ∨ c = 2 ∨ isArrow c = true then 2 else if isBox c = true then 1 else -1 := by
  unfold kidsI kidsN
  split <;> rename_i h <;> (repeat' split at h) <;> simp_all
  all_goals omega
theorem kids_ok (c : Int) : Gives Try.prog n_spec_l2Kids [N c] (· = N (kidsI c)) := by
  refine Gives.of_codeOf c_spec_l2Kids mixed (by simp) ⟨_, rfl, by simp⟩ ?_
  simp (disch := omega) [-onBool_some, -onBool_leT, -onBool_leF, -onBool_ltT, -onBool_ltF, -onBool_eqT, -onBool_eqF, k_spec_l2Kids]
  repeat' (first
    | with_reducible refine onCall_eq (arrow_ok _) (by simp) ?_
    | with_reducible refine onCall_eq (box_ok _) (by simp) ?_
    | (with_reducible (first | refine onBoolT (fun hb_ => ?_) (fun hb_ => ?_) | refine onBoolF (fun hb_ => ?_) (fun hb_ => ?_)) <;> simp (disch := omega) [-onBool_some, -onBool_leT, -onBool_leF, -onBool_ltT, -onBool_ltF, -onBool_eqT, -onBool_eqF, hb_])
    | simp (disch := omega) [-onBool_some, -onBool_leT, -onBool_leF, -onBool_ltT, -onBool_ltF, -onBool_eqT, -onBool_eqF])
  all_goals simp_all [kidsI', ltB_true, ltB_false, leB_true, leB_false, eqB_true, eqB_false, Bool.not_true, Bool.not_false]
def gradeI (c : Int) : Int := if 35 ≤ c then -1 else if 19 ≤ c then c - 19 else c - 3
theorem grade_ok (c : Int) (h : I64 c) (hg : 0 ≤ c) : Gives Try.prog n_spec_l2Grade [N c] (· = N (gradeI c)) := by
  refine Gives.of_codeOf c_spec_l2Grade mixed (by simp) ⟨_, rfl, by simp⟩ ?_
  obtain ⟨h1, h2⟩ := h
  simp (disch := omega) [-onBool_some, -onBool_leT, -onBool_leF, -onBool_ltT, -onBool_ltF, -onBool_eqT, -onBool_eqF, k_spec_l2Grade, i64_wrap]
  repeat' (first
    | (with_reducible (first | refine onBoolT (fun hb_ => ?_) (fun hb_ => ?_) | refine onBoolF (fun hb_ => ?_) (fun hb_ => ?_)) <;> simp (disch := omega) [-onBool_some, -onBool_leT, -onBool_leF, -onBool_ltT, -onBool_ltF, -onBool_eqT, -onBool_eqF, hb_, i64_wrap])
    | simp (disch := omega) [-onBool_some, -onBool_leT, -onBool_leF, -onBool_ltT, -onBool_ltF, -onBool_eqT, -onBool_eqF, i64_wrap])
  all_goals simp only [ltB_true, ltB_false, leB_true, leB_false, eqB_true, eqB_false, Bool.not_true, Bool.not_false, gradeI] at *
  · rw [if_pos hb_]
  · rename_i h
    rw [if_neg (by omega), if_pos hb_]
  · rename_i h
    rw [if_neg (by omega), if_neg (by omega)]
theorem l2End_ok (nl : Bool) (l : List Int) (hl : Lok l) (i : Nat) (hi : i ≤ l.length) : Gives Try.prog n_spec_l2End [L nl l, N i] (· = N (tEnd l i)) := by
  have hlen := hl.1
  refine Gives.of_codeOf c_spec_l2End mixed (by simp) ⟨_, rfl, by simp⟩ ?_
  simp (disch := omega) [-onBool_some, -onBool_leT, -onBool_leF, -onBool_ltT, -onBool_ltF, -onBool_eqT, -onBool_eqF, k_spec_l2End]
  refine wpC_for l.length i (fun j t _ => ∃ m : Nat, t 6 = N j ∧ t 5 = N (m + 1) ∧ m ≤ j ∧ tEnd l i = endOf (m + 1) (l.drop j) l.length) ⟨0, by simp, by simp, by omega, by unfold tEnd; rw [if_pos (by omega)]; simp⟩ hi ?_
  rintro j t1 hh hf hj ⟨m, e6, e5, hm, he⟩
  (have e0 := hf 0 (by kernel_rfl); clear hf; simp [] at e0)
  simp (disch := omega) [-onBool_some, -onBool_leT, -onBool_leF, -onBool_ltT, -onBool_ltF, -onBool_eqT, -onBool_eqF, e0, e5, e6]
  (with_reducible first | refine onBoolT (fun h6 => ?_) (fun h6 => ?_) | refine onBoolF (fun h6 => ?_) (fun h6 => ?_))
  · simp only [ltB_true, ltB_false, leB_true, leB_false, eqB_true, eqB_false, Bool.not_true, Bool.not_false] at h6
    simp (disch := omega) [-onBool_some, -onBool_leT, -onBool_leF, -onBool_ltT, -onBool_ltF, -onBool_eqT, -onBool_eqF, e0, e5, e6, idx_L]
    have hd : l.drop j = l[j] :: l.drop (j + 1) := List.drop_eq_getElem_cons (by omega)
    generalize l[j]'(by omega) = c at *
    have key : tEnd l i = match kidsN c with
        | none => -1
        | some q => endOf (m + q) (l.drop (j + 1)) l.length := by
      rw [he, hd]
      unfold endOf
      simp only [Ty.skip]
      cases kidsN c <;> rfl
    refine onCall_eq (kids_ok c) (by simp) ?_
    cases hq : kidsN c with
    | none =>
      rw [hq] at key
      have hk1 : kidsI c = -1 := by simp [kidsI, hq]
      rw [hk1]
      have hn1 : ltB (-1) 0 = true := by simp [ltB_true, ltB_false, leB_true, leB_false, eqB_true, eqB_false, Bool.not_true, Bool.not_false]
      repeat' (first
    | (with_reducible (first | refine onBoolT (fun hb_ => ?_) (fun hb_ => ?_) | refine onBoolF (fun hb_ => ?_) (fun hb_ => ?_)) <;> simp (disch := omega) [-onBool_some, -onBool_leT, -onBool_leF, -onBool_ltT, -onBool_ltF, -onBool_eqT, -onBool_eqF, hb_, e0, e5, e6, hn1])
    | simp (disch := omega) [-onBool_some, -onBool_leT, -onBool_leF, -onBool_ltT, -onBool_ltF, -onBool_eqT, -onBool_eqF, e0, e5, e6, hn1])
      exact key.symm
    | some q =>
      rw [hq] at key
      have hk1 : kidsI c = q := by simp [kidsI, hq]
      have hq2 := kidsN_le hq
      rw [hk1]
      simp (disch := omega) [-onBool_some, -onBool_leT, -onBool_leF, -onBool_ltT, -onBool_ltF, -onBool_eqT, -onBool_eqF, e0, e5, e6, i64_wrap]
      repeat' (first
    | (with_reducible (first | refine onBoolT (fun hb_ => ?_) (fun hb_ => ?_) | refine onBoolF (fun hb_ => ?_) (fun hb_ => ?_)) <;> simp (disch := omega) [-onBool_some, -onBool_leT, -onBool_leF, -onBool_ltT, -onBool_ltF, -onBool_eqT, -onBool_eqF, hb_, e0, e5, e6, i64_wrap])
    | simp (disch := omega) [-onBool_some, -onBool_leT, -onBool_leF, -onBool_ltT, -onBool_ltF, -onBool_eqT, -onBool_eqF, e0, e5, e6, i64_wrap])
      all_goals simp only [ltB_true, ltB_false, leB_true, leB_false, eqB_true, eqB_false, Bool.not_true, Bool.not_false] at *
      · omega
      · rw [key]
        show _ = endOf (m + q) _ _
        rw [show m + q = 0 by omega]; simp [endOf, Ty.skip]; omega
      · refine ⟨by omega, m + q - 1, by omega, by omega, ?_⟩
        rw [key, show m + q - 1 + 1 = m + q by omega]
  · simp only [ltB_true, ltB_false, leB_true, leB_false, eqB_true, eqB_false, Bool.not_true, Bool.not_false] at h6
    simp (disch := omega) [-onBool_some, -onBool_leT, -onBool_leF, -onBool_ltT, -onBool_ltF, -onBool_eqT, -onBool_eqF]
    rw [he, List.drop_eq_nil_of_le (by omega)]; simp [endOf, Ty.skip]
theorem l2Type_ok (nl : Bool) (l : List Int) (hl : Lok l) : Gives Try.prog n_spec_l2Type [L nl l] (· = B (wty l)) := by
  refine Gives.of_codeOf c_spec_l2Type mixed (by simp) ⟨_, rfl, by simp⟩ ?_
  have hl1 := hl.1
  have hE := l2End_ok nl l hl 0 (by omega)
  simp (disch := omega) [-onBool_some, -onBool_leT, -onBool_leF, -onBool_ltT, -onBool_ltF, -onBool_eqT, -onBool_eqF, k_spec_l2Type]
  repeat' (first
    | with_reducible refine onCall_eq (hE) (by simp) ?_
    | (with_reducible (first | refine onBoolT (fun hb_ => ?_) (fun hb_ => ?_) | refine onBoolF (fun hb_ => ?_) (fun hb_ => ?_)) <;> simp (disch := omega) [-onBool_some, -onBool_leT, -onBool_leF, -onBool_ltT, -onBool_ltF, -onBool_eqT, -onBool_eqF, hb_])
    | simp (disch := omega) [-onBool_some, -onBool_leT, -onBool_leF, -onBool_ltT, -onBool_ltF, -onBool_eqT, -onBool_eqF])
  · rw [wty_iff, hb_]
    simp_all [within, ltB, leB]
    omega
  all_goals simp_all [wty_iff, within]
/-- what is asked of the grade of a code -/
def okC (size : Int) (closed : Bool) (c : Int) : Bool := !(isArrow c || isBox c) || (ltB (gradeI c) size && (!closed || leB 0 (gradeI c)))
def gradedAt (size : Int) (closed : Bool) (l : List Int) (i : Nat) : Bool := okC size closed (l.getD i 0)
def gradedB (size : Int) (closed : Bool) (l : List Int) : Bool := allN (gradedAt size closed l) l.length
theorem kids_grade (c : Int) : (ltB 0 (kidsI c) && ltB 2 c) = (isArrow c || isBox c) := by
  rw [Bool.eq_iff_iff]
  simp only [kidsI', Bool.and_eq_true, Bool.or_eq_true, ltB_true, ltB_false, leB_true, leB_false, eqB_true, eqB_false, Bool.not_true, Bool.not_false, gl_arrow, gl_box]
  repeat' split
  all_goals omega
theorem shape_grade {c : Int} (h : 0 ≤ c ∧ c ≤ 36) : ((eqB (shapeOf c).1 3 || eqB (shapeOf c).1 4) = (isArrow c || isBox c)) ∧ ((isArrow c || isBox c) = true → (shapeOf c).2 = gradeI c) := by
  unfold shapeOf gradeI
  simp only [within_true, eqB_true]
  refine ⟨?_, fun h1 => ?_⟩
  · rw [Bool.eq_iff_iff]
    simp only [Bool.or_eq_true, gl_arrow, gl_box, eqB_true]
    repeat' split
    all_goals (simp; try omega)
  · simp only [Bool.or_eq_true, gl_arrow, gl_box] at h1
    repeat' split
    all_goals (simp; try omega)
theorem kidsN_range {c : Int} {k : Nat} (h : kidsN c = some k) : 0 ≤ c ∧ c ≤ 36 := by
  rw [kidsN'] at h
  repeat' split at h
  all_goals first | omega | simp at h
theorem skip_codes : ∀ (l : List Int) (n : Nat) (r : List Int), Ty.skip n l = some r → ∀ i, i + r.length < l.length → 0 ≤ l.getD i 0 ∧ l.getD i 0 ≤ 36
  | l, 0, r, h, i, hi => by simp [Ty.skip] at h; subst h; omega
  | [], n + 1, r, h, i, hi => by simp [Ty.skip] at h
  | c :: l, n + 1, r, h, i, hi => by
    simp only [Ty.skip] at h
    cases hk : kidsN c with
    | none => simp [hk] at h
    | some k =>
      simp only [hk] at h
      cases i with
      | zero => simpa using kidsN_range hk
      | succ i =>
        have := skip_codes l (n + k) r h i (by simp at hi; omega)
        simpa using this
theorem wty_codes {l : List Int} (h : wty l = true) (i : Nat) (hi : i < l.length) : 0 ≤ l.getD i 0 ∧ l.getD i 0 ≤ 36 := by
  simp [wty] at h
  exact skip_codes l 1 [] h.2 i (by simpa using hi)
end Go.Proofs.Yticcekapikfhaaa
