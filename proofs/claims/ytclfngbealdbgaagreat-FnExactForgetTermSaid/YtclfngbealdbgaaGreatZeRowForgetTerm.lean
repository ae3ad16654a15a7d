/- Part 5 of the proof of the row of the text YtclfngbealdbgaaGreatZRowForgetTerm: texts joined. No conditions. -/
import Derived.ProofKit
import Derived.RowKit
import Derived.ChangeArms
import Derived.Test.YtclfngbealdbgaaGreatZdRowForgetTerm
namespace Go.Proofs.YtclfngbealdbgaaGreat
open Go Go.TL
open Go.Proofs.YtclfngbealdbgaaGreat.Ty
set_option linter.unusedSimpArgs false
set_option linter.unusedVariables false
set_option maxRecDepth 20000
set_option maxHeartbeats 4000000
def shapeOf (k : Int) : Int × Int :=
  if within k 0 2 = true then (k, -1) else if within k 3 18 = true then (3, k - 3) else if within k 19 34 = true then (4, k - 19)
  else if eqB k 35 = true then (3, -1) else if eqB k 36 = true then (4, -1) else (5, -1)
theorem shape_ok (k : Int) (h : I64 k) : Gives Tryz.prog n_impl_shape [N k] (· = .tup [N (shapeOf k).1, N (shapeOf k).2]) := by
  obtain ⟨ha, hb⟩ := h
  refine Gives.of_codeOf c_impl_shape mixed (by simp) ⟨_, rfl, by simp⟩ ?_
  simp (disch := omega) [k_impl_shape]
  repeat' (first
    | with_reducible refine onCall_eq (within_ok _ _ _) (by simp) ?_
    | (with_reducible (first | refine onBoolT (fun hb_ => ?_) (fun hb_ => ?_) | refine onBoolF (fun hb_ => ?_) (fun hb_ => ?_)) <;> simp (disch := omega) [hb_])
    | simp (disch := omega))
  all_goals unfold shapeOf
  · simp_all
  · rename_i h0
    rw [within_true] at hb_
    rw [if_neg (by simp_all), if_pos (by rw [within_true]; exact hb_)]
    simp (disch := omega) [i64_wrap]
  · rename_i h0 h1
    rw [within_true] at hb_
    rw [if_neg (by simp_all), if_neg (by simp_all), if_pos (by rw [within_true]; exact hb_)]
    simp (disch := omega) [i64_wrap]
  all_goals simp_all
def tEnd (l : List Int) (i : Int) : Int := if 0 ≤ i then endOf 1 (l.drop i.toNat) l.length else -1
theorem tEnd_out {l : List Int} {i : Int} (h : i < 0 ∨ l.length ≤ i) : tEnd l i = -1 := by
  unfold tEnd
  split
  · rw [List.drop_eq_nil_of_le (by omega)]; simp [endOf, Ty.skip]
  · rfl
theorem tEnd_range {l : List Int} {i : Int} (h : 0 ≤ i) : tEnd l i = -1 ∨ (i < tEnd l i ∧ tEnd l i ≤ l.length) := by
  unfold tEnd endOf
  rw [if_pos h]
  cases hs : Ty.skip 1 (l.drop i.toNat) with
  | none => exact .inl rfl
  | some r =>
    have := skip_length hs
    simp only [List.length_drop] at this ⊢
    right; omega
theorem kidsN' (c : Int) : kidsN c = if c = 0 then some 0 else if (1 ≤ c ∧ c ≤ 18) ∨ c = 35 then some 2 else if (19 ≤ c ∧ c ≤ 34) ∨ c = 36 then some 1 else none := by
  have e1 : (c = 1 ∨ c = 2 ∨ isArrow c = true) ↔ ((1 ≤ c ∧ c ≤ 18) ∨ c = 35) := by simp [isArrow]; omega
  have e2 : (isBox c = true) ↔ ((19 ≤ c ∧ c ≤ 34) ∨ c = 36) := by simp [isBox]
  unfold kidsN
  simp only [e1, e2]
theorem shape_kids (c : Int) : ((shapeOf c).1 = 0 ∧ kidsN c = some 0) ∨ ((shapeOf c).1 = 4 ∧ kidsN c = some 1) ∨ ((shapeOf c).1 = 5 ∧ kidsN c = none) ∨ ((shapeOf c).1 ≠ 0 ∧ (shapeOf c).1 ≠ 4 ∧ (shapeOf c).1 ≠ 5 ∧ kidsN c = some 2) := by
  rw [kidsN']
  unfold shapeOf
  simp only [within_true, eqB_true]
  by_cases h0 : 0 ≤ c ∧ c ≤ 2
  · rw [if_pos h0]
    by_cases h : c = 0
    · simp [h]
    · rw [if_neg h, if_pos (by omega)]; simp; omega
  rw [if_neg h0, if_neg (show ¬ c = 0 by omega)]
  by_cases h1 : 3 ≤ c ∧ c ≤ 18
  · rw [if_pos h1, if_pos (by omega)]; simp
  rw [if_neg h1]
  by_cases h2 : 19 ≤ c ∧ c ≤ 34
  · rw [if_pos h2, if_neg (by omega), if_pos (by omega)]; simp
  rw [if_neg h2]
  by_cases h3 : c = 35
  · simp [h3]
  rw [if_neg h3]
  by_cases h4 : c = 36
  · simp [h4]
  rw [if_neg h4, if_neg (by omega), if_neg (by omega)]
  simp
theorem tEnd_in {l : List Int} {i : Int} (h0 : 0 ≤ i) (h1 : i < l.length) (c : Int) (hc : c = l[i.toNat]'(by omega)) :
    ((shapeOf c).1 = 0 → tEnd l i = i + 1) ∧ ((shapeOf c).1 = 4 → tEnd l i = tEnd l (i + 1)) ∧ ((shapeOf c).1 = 5 → tEnd l i = -1) ∧
    ((shapeOf c).1 ≠ 0 → (shapeOf c).1 ≠ 4 → (shapeOf c).1 ≠ 5 → tEnd l i = tEnd l (tEnd l (i + 1))) := by
  have hd : l.drop i.toNat = c :: l.drop (i.toNat + 1) := by rw [hc]; exact List.drop_eq_getElem_cons (by omega)
  have e1 : (i + 1).toNat = i.toNat + 1 := by omega
  have key : tEnd l i = match kidsN c with
      | none => -1
      | some k => endOf (0 + k) (l.drop (i.toNat + 1)) l.length := by
    unfold tEnd endOf
    rw [if_pos h0, hd]
    simp only [Ty.skip]
    cases kidsN c <;> rfl
  rcases shape_kids c with ⟨a, b⟩ | ⟨a, b⟩ | ⟨a, b⟩ | ⟨a1, a2, a3, b⟩
  · rw [b] at key
    refine ⟨fun _ => ?_, fun h => by omega, fun h => by omega, fun h => absurd a h⟩
    rw [key]; simp [endOf, Ty.skip]; omega
  · rw [b] at key
    refine ⟨fun h => by omega, fun _ => ?_, fun h => by omega, fun _ h => absurd a h⟩
    rw [key]; unfold tEnd; rw [if_pos (by omega), e1]
  · rw [b] at key
    exact ⟨fun h => by omega, fun h => by omega, fun _ => key, fun _ _ h => absurd a h⟩
  · rw [b] at key
    refine ⟨fun h => absurd h a1, fun h => absurd h a2, fun h => absurd h a3, fun _ _ _ => ?_⟩
    rw [key]
    show endOf (1 + 1) _ _ = _
    unfold tEnd
    rw [if_pos (show 0 ≤ i + 1 by omega), e1]
    unfold endOf
    rw [skip_add]
    cases hs : Ty.skip 1 (l.drop (i.toNat + 1)) with
    | none => simp
    | some r =>
      obtain ⟨m, hm, h2, h3⟩ := skip_drop _ _ _ hs
      have hr : r.length ≤ l.length := by rw [hm]; simp
      simp only [Option.bind_some]
      rw [if_pos (by omega)]
      have : l.drop ((l.length : Int) - r.length).toNat = r := by
        rw [hm, List.drop_drop]
        simp only [List.length_drop] at h3 ⊢
        congr 1; omega
      rw [this]
def meas (l : List Int) (i : Int) : Nat := if i < 0 then 0 else (l.length + 1 - i).toNat
theorem typeEnd_ok (nl : Bool) (l : List Int) (hl : Lok l) (i : Int) (hi : I64 i) : Gives Tryz.prog n_impl_typeEnd [L nl l, N i] (· = N (tEnd l i)) := by
  have hlen := hl.1
  generalize hd : meas l i = d
  induction d using Nat.strongRecOn generalizing i with
  | _ d ih =>
    obtain ⟨ha, hb⟩ := hi
    refine Gives.of_codeOf c_impl_typeEnd mixed (by simp) ⟨_, rfl, by simp⟩ ?_
    simp (disch := omega) [k_impl_typeEnd, i64_wrap]
    (with_reducible first | refine onBoolT (fun h1 => ?_) (fun h1 => ?_) | refine onBoolF (fun h1 => ?_) (fun h1 => ?_))
    · simp (disch := omega) [h1]
      simp only [ltB_true, ltB_false, leB_true, leB_false, eqB_true, eqB_false, Bool.not_true, Bool.not_false] at h1
      exact (tEnd_out (.inl h1)).symm
    simp (disch := omega) [h1]
    (with_reducible first | refine onBoolT (fun h2 => ?_) (fun h2 => ?_) | refine onBoolF (fun h2 => ?_) (fun h2 => ?_))
    · simp (disch := omega) [h2]
      simp only [ltB_true, ltB_false, leB_true, leB_false, eqB_true, eqB_false, Bool.not_true, Bool.not_false] at h2
      exact (tEnd_out (.inr h2)).symm
    simp only [ltB_true, ltB_false, leB_true, leB_false, eqB_true, eqB_false, Bool.not_true, Bool.not_false] at h1 h2
    simp (disch := omega) [idx_L]
    have hci : I64 (l[i.toNat]'(by omega)) := hl.2 _ (List.getElem_mem _)
    generalize hc : l[i.toNat]'(by omega) = c at *
    obtain ⟨g0, g4, g5, g2⟩ := tEnd_in h1 h2 c hc.symm
    have i1 : Gives Tryz.prog n_impl_typeEnd [L nl l, N (i + 1)] (· = N (tEnd l (i + 1))) := ih _ (by rw [← hd]; unfold meas; rw [if_neg (by omega), if_neg (by omega)]; omega) (i + 1) ⟨by omega, by omega⟩ rfl
    have hr := tEnd_range (l := l) (i := i + 1) (by omega)
    have i2 : Gives Tryz.prog n_impl_typeEnd [L nl l, N (tEnd l (i + 1))] (· = N (tEnd l (tEnd l (i + 1)))) := ih _ (by rw [← hd]; unfold meas; split <;> (rw [if_neg (by omega)]; omega)) _ ⟨by omega, by omega⟩ rfl
    repeat' (first
    | with_reducible refine onCall_eq (shape_ok _ hci) (by simp) ?_
    | with_reducible refine onCall_eq (i1) (by simp) ?_
    | with_reducible refine onCall_eq (i2) (by simp) ?_
    | (with_reducible (first | refine onBoolT (fun hb_ => ?_) (fun hb_ => ?_) | refine onBoolF (fun hb_ => ?_) (fun hb_ => ?_)) <;> simp (disch := omega) [hb_, i64_wrap])
    | simp (disch := omega) [i64_wrap])
    all_goals simp only [ltB_true, ltB_false, leB_true, leB_false, eqB_true, eqB_false, Bool.not_true, Bool.not_false] at *
    · exact (g0 (by omega)).symm
    · exact (g4 (by omega)).symm
    · exact (g5 (by omega)).symm
    · exact (g2 (by omega) (by omega) (by omega)).symm
theorem wty_iff (l : List Int) : wty l = (within l.length 1 40 && eqB (tEnd l 0) l.length) := by
  have : (Ty.skip 1 l == some []) = eqB (tEnd l 0) l.length := by
    unfold tEnd endOf eqB
    simp only [Int.le_refl, if_true, Int.toNat_zero, List.drop_zero]
    cases h : Ty.skip 1 l with
    | none => simp
    | some r =>
      have := skip_length h
      cases r with
      | nil => simp
      | cons a r => simp; omega
  rw [← this, wty]
  congr 1
  rw [Bool.eq_iff_iff]; simp [within, leB]; omega
theorem isWrittenType_ok (nl : Bool) (l : List Int) (hl : Lok l) : Gives Tryz.prog n_impl_isWrittenType [L nl l] (· = B (wty l)) := by
  refine Gives.of_codeOf c_impl_isWrittenType mixed (by simp) ⟨_, rfl, by simp⟩ ?_
  have h0 : I64 0 := ⟨by omega, by omega⟩
  have hl1 := hl.1
  simp (disch := omega) [k_impl_isWrittenType]
  repeat' (first
    | with_reducible refine onCall_eq (within_ok _ _ _) (by simp) ?_
    | with_reducible refine onCall_eq (typeEnd_ok nl l hl 0 h0) (by simp) ?_
    | (with_reducible (first | refine onBoolT (fun hb_ => ?_) (fun hb_ => ?_) | refine onBoolF (fun hb_ => ?_) (fun hb_ => ?_)) <;> simp (disch := omega) [hb_])
    | simp (disch := omega))
  all_goals simp_all [wty_iff]
theorem isArrow_within (c : Int) : isArrow c = (within c 3 18 || eqB c 35) := by
  unfold isArrow within leB eqB
  by_cases h : c = 35 <;> simp [h]
theorem isBox_within (c : Int) : isBox c = (within c 19 34 || eqB c 36) := by
  unfold isBox within leB eqB
  by_cases h : c = 36 <;> simp [h]
theorem gl_arrow (c : Int) : isArrow c = true ↔ (3 ≤ c ∧ c ≤ 18) ∨ c = 35 := by simp [isArrow]
theorem gl_box (c : Int) : isBox c = true ↔ (19 ≤ c ∧ c ≤ 34) ∨ c = 36 := by simp [isBox]
theorem arrow_ok (c : Int) : Gives Tryz.prog n_spec_l2Arrow [N c] (· = B (isArrow c)) := by
  refine Gives.of_codeOf c_spec_l2Arrow mixed (by simp) ⟨_, rfl, by simp⟩ ?_
  simp (disch := omega) [k_spec_l2Arrow]
  repeat' (first
    | with_reducible refine onCall_eq (in_ok _ _ _) (by simp) ?_
    | (with_reducible (first | refine onBoolT (fun hb_ => ?_) (fun hb_ => ?_) | refine onBoolF (fun hb_ => ?_) (fun hb_ => ?_)) <;> simp (disch := omega) [hb_])
    | simp (disch := omega))
  all_goals simp_all [isArrow_within]
theorem box_ok (c : Int) : Gives Tryz.prog n_spec_l2Box [N c] (· = B (isBox c)) := by
  refine Gives.of_codeOf c_spec_l2Box mixed (by simp) ⟨_, rfl, by simp⟩ ?_
  simp (disch := omega) [k_spec_l2Box]
  repeat' (first
    | with_reducible refine onCall_eq (in_ok _ _ _) (by simp) ?_
    | (with_reducible (first | refine onBoolT (fun hb_ => ?_) (fun hb_ => ?_) | refine onBoolF (fun hb_ => ?_) (fun hb_ => ?_)) <;> simp (disch := omega) [hb_])
    | simp (disch := omega))
  all_goals simp_all [isBox_within]
def kidsI (c : Int) : Int := match kidsN c with
  | some n => n
  | none => -1
theorem kidsI' (c : Int) : kidsI c = if c = 0 then 0 else if c = 1 ∨ c = 2 ∨ isArrow c = true then 2 else if isBox c = true then 1 else -1 := by
  unfold kidsI kidsN
  split <;> rename_i h <;> (repeat' split at h) <;> simp_all
  all_goals omega
theorem kids_ok (c : Int) : Gives Tryz.prog n_spec_l2Kids [N c] (· = N (kidsI c)) := by
  refine Gives.of_codeOf c_spec_l2Kids mixed (by simp) ⟨_, rfl, by simp⟩ ?_
  simp (disch := omega) [k_spec_l2Kids]
  repeat' (first
    | with_reducible refine onCall_eq (arrow_ok _) (by simp) ?_
    | with_reducible refine onCall_eq (box_ok _) (by simp) ?_
    | (with_reducible (first | refine onBoolT (fun hb_ => ?_) (fun hb_ => ?_) | refine onBoolF (fun hb_ => ?_) (fun hb_ => ?_)) <;> simp (disch := omega) [hb_])
    | simp (disch := omega))
  all_goals simp_all [kidsI', ltB_true, ltB_false, leB_true, leB_false, eqB_true, eqB_false, Bool.not_true, Bool.not_false]
def gradeI (c : Int) : Int := if 35 ≤ c then -1 else if 19 ≤ c then c - 19 else c - 3
theorem grade_ok (c : Int) (h : I64 c) (hg : 0 ≤ c) : Gives Tryz.prog n_spec_l2Grade [N c] (· = N (gradeI c)) := by
  refine Gives.of_codeOf c_spec_l2Grade mixed (by simp) ⟨_, rfl, by simp⟩ ?_
  obtain ⟨h1, h2⟩ := h
  simp (disch := omega) [k_spec_l2Grade, i64_wrap]
  repeat' (first
    | (with_reducible (first | refine onBoolT (fun hb_ => ?_) (fun hb_ => ?_) | refine onBoolF (fun hb_ => ?_) (fun hb_ => ?_)) <;> simp (disch := omega) [hb_, i64_wrap])
    | simp (disch := omega) [i64_wrap])
  all_goals simp only [ltB_true, ltB_false, leB_true, leB_false, eqB_true, eqB_false, Bool.not_true, Bool.not_false, gradeI] at *
  · rw [if_pos hb_]
  · rename_i h
    rw [if_neg (by omega), if_pos hb_]
  · rename_i h
    rw [if_neg (by omega), if_neg (by omega)]
theorem l2End_ok (nl : Bool) (l : List Int) (hl : Lok l) (i : Nat) (hi : i ≤ l.length) : Gives Tryz.prog n_spec_l2End [L nl l, N i] (· = N (tEnd l i)) := by
  have hlen := hl.1
  refine Gives.of_codeOf c_spec_l2End mixed (by simp) ⟨_, rfl, by simp⟩ ?_
  simp (disch := omega) [k_spec_l2End]
  refine wpC_for l.length i (fun j t _ => ∃ m : Nat, t 6 = N j ∧ t 5 = N (m + 1) ∧ m ≤ j ∧ tEnd l i = endOf (m + 1) (l.drop j) l.length) ⟨0, by simp, by simp, by omega, by unfold tEnd; rw [if_pos (by omega)]; simp⟩ hi ?_
  rintro j t1 hh hf hj ⟨m, e6, e5, hm, he⟩
  (have e0 := hf 0 (by kernel_rfl); clear hf; simp [] at e0)
  simp (disch := omega) [e0, e5, e6]
  (with_reducible first | refine onBoolT (fun h6 => ?_) (fun h6 => ?_) | refine onBoolF (fun h6 => ?_) (fun h6 => ?_))
  · simp only [ltB_true, ltB_false, leB_true, leB_false, eqB_true, eqB_false, Bool.not_true, Bool.not_false] at h6
    simp (disch := omega) [e0, e5, e6, idx_L]
    have hd : l.drop j = l[j] :: l.drop (j + 1) := List.drop_eq_getElem_cons (by omega)
    generalize l[j]'(by omega) = c at *
    have key : tEnd l i = match kidsN c with
        | none => -1
        | some q => endOf (m + q) (l.drop (j + 1)) l.length := by
      rw [he, hd]
      unfold endOf
      simp only [Ty.skip]
      cases kidsN c <;> rfl
    refine onCall_eq (kids_ok c) (by simp) ?_
    cases hq : kidsN c with
    | none =>
      rw [hq] at key
      have hk1 : kidsI c = -1 := by simp [kidsI, hq]
      rw [hk1]
      have hn1 : ltB (-1) 0 = true := by simp [ltB_true, ltB_false, leB_true, leB_false, eqB_true, eqB_false, Bool.not_true, Bool.not_false]
      repeat' (first
    | (with_reducible (first | refine onBoolT (fun hb_ => ?_) (fun hb_ => ?_) | refine onBoolF (fun hb_ => ?_) (fun hb_ => ?_)) <;> simp (disch := omega) [hb_, e0, e5, e6, hn1])
    | simp (disch := omega) [e0, e5, e6, hn1])
      exact key.symm
    | some q =>
      rw [hq] at key
      have hk1 : kidsI c = q := by simp [kidsI, hq]
      have hq2 := kidsN_le hq
      rw [hk1]
      simp (disch := omega) [e0, e5, e6, i64_wrap]
      repeat' (first
    | (with_reducible (first | refine onBoolT (fun hb_ => ?_) (fun hb_ => ?_) | refine onBoolF (fun hb_ => ?_) (fun hb_ => ?_)) <;> simp (disch := omega) [hb_, e0, e5, e6, i64_wrap])
    | simp (disch := omega) [e0, e5, e6, i64_wrap])
      all_goals simp only [ltB_true, ltB_false, leB_true, leB_false, eqB_true, eqB_false, Bool.not_true, Bool.not_false] at *
      · omega
      · rw [key]
        show _ = endOf (m + q) _ _
        rw [show m + q = 0 by omega]; simp [endOf, Ty.skip]; omega
      · refine ⟨by omega, m + q - 1, by omega, by omega, ?_⟩
        rw [key, show m + q - 1 + 1 = m + q by omega]
  · simp only [ltB_true, ltB_false, leB_true, leB_false, eqB_true, eqB_false, Bool.not_true, Bool.not_false] at h6
    simp (disch := omega)
    rw [he, List.drop_eq_nil_of_le (by omega)]; simp [endOf, Ty.skip]
theorem l2Type_ok (nl : Bool) (l : List Int) (hl : Lok l) : Gives Tryz.prog n_spec_l2Type [L nl l] (· = B (wty l)) := by
  refine Gives.of_codeOf c_spec_l2Type mixed (by simp) ⟨_, rfl, by simp⟩ ?_
  have hl1 := hl.1
  have hE := l2End_ok nl l hl 0 (by omega)
  simp (disch := omega) [k_spec_l2Type]
  repeat' (first
    | with_reducible refine onCall_eq (hE) (by simp) ?_
    | (with_reducible (first | refine onBoolT (fun hb_ => ?_) (fun hb_ => ?_) | refine onBoolF (fun hb_ => ?_) (fun hb_ => ?_)) <;> simp (disch := omega) [hb_])
    | simp (disch := omega))
  · rw [wty_iff, hb_]
    simp_all [within, ltB, leB]
    omega
  all_goals simp_all [wty_iff, within]
def okC (size : Int) (closed : Bool) (c : Int) : Bool := !(isArrow c || isBox c) || (ltB (gradeI c) size && (!closed || leB 0 (gradeI c)))
def gradedAt (size : Int) (closed : Bool) (l : List Int) (i : Nat) : Bool := okC size closed (l.getD i 0)
def gradedB (size : Int) (closed : Bool) (l : List Int) : Bool := allN (gradedAt size closed l) l.length
theorem kids_grade (c : Int) : (ltB 0 (kidsI c) && ltB 2 c) = (isArrow c || isBox c) := by
  rw [Bool.eq_iff_iff]
  simp only [kidsI', Bool.and_eq_true, Bool.or_eq_true, ltB_true, ltB_false, leB_true, leB_false, eqB_true, eqB_false, Bool.not_true, Bool.not_false, gl_arrow, gl_box]
  repeat' split
  all_goals omega
theorem l2Graded_ok (nl : Bool) (l : List Int) (hl : Lok l) (size : Int) (hs : I64 size) (closed : Bool) : Gives Tryz.prog n_spec_l2Graded [L nl l, N size, B closed] (· = B (gradedB size closed l)) := by
  have hlen := hl.1
  refine Gives.of_codeOf c_spec_l2Graded mixed (by simp) ⟨_, rfl, by simp⟩ ?_
  simp (disch := omega) [k_spec_l2Graded]
  refine wpC_for l.length 0 (fun i t _ => t 7 = N i ∧ allN (gradedAt size closed l) i = true) (by simp) (by omega) ?_
  rintro i t1 hh hf hi ⟨e7, hj⟩
  (have e0 := hf 0 (by kernel_rfl); have e1 := hf 1 (by kernel_rfl); have e2 := hf 2 (by kernel_rfl); clear hf; simp [] at e0 e1 e2)
  simp (disch := omega) [e0, e1, e2, e7]
  (with_reducible first | refine onBoolT (fun h6 => ?_) (fun h6 => ?_) | refine onBoolF (fun h6 => ?_) (fun h6 => ?_))
  · simp only [ltB_true, ltB_false, leB_true, leB_false, eqB_true, eqB_false, Bool.not_true, Bool.not_false] at h6
    have hc := hl.at (i := i) (by omega)
    have hget : gradedAt size closed l i = okC size closed (l[i]'(by omega)) := by simp [gradedAt, show i < l.length by omega]
    obtain ⟨c, hce⟩ : ∃ c, l[i]'(by omega) = c := ⟨_, rfl⟩
    rw [hce] at hc hget
    have hkg := kids_grade c
    simp (disch := omega) [e0, e1, e2, e7, idx_L, hce]
    refine onCall_eq (kids_ok c) (by simp) ?_
    refine wpL_mid (fun t h => t 27 = B (isArrow c || isBox c)) ?_ ?_
    · repeat' (first
    | (with_reducible (first | refine onBoolT (fun hb_ => ?_) (fun hb_ => ?_) | refine onBoolF (fun hb_ => ?_) (fun hb_ => ?_)) <;> simp (disch := omega) [hb_, e0, e1, e2, e7, idx_L, hce])
    | simp (disch := omega) [e0, e1, e2, e7, idx_L, hce])
      all_goals simp_all
    · rintro t2 hh hf h27
      (have f0 := hf 0 (by kernel_rfl); have f1 := hf 1 (by kernel_rfl); have f2 := hf 2 (by kernel_rfl); have f7 := hf 7 (by kernel_rfl); clear hf; simp [e0, e1, e2, e7] at f0 f1 f2 f7)
      simp (disch := omega) [h27]
      (with_reducible first | refine onBoolT (fun h8 => ?_) (fun h8 => ?_) | refine onBoolF (fun h8 => ?_) (fun h8 => ?_))
      · have hc0 : 0 ≤ c := by simp only [Bool.or_eq_true, gl_arrow, gl_box] at h8; omega
        rw [okC, h8, ltB_not] at hget
        cases closed <;> repeat' (first
    | with_reducible refine onCall_eq (grade_ok c hc hc0) (by simp) ?_
    | (with_reducible (first | refine onBoolT (fun hb_ => ?_) (fun hb_ => ?_) | refine onBoolF (fun hb_ => ?_) (fun hb_ => ?_)) <;> simp (disch := omega) [hb_, f0, f1, f2, f7, idx_L, hce])
    | simp (disch := omega) [f0, f1, f2, f7, idx_L, hce])
        · exact allN_at (p := gradedAt size false l) (i := i) (by omega) (by simp [hget, hb_])
        · exact ⟨by omega, i64_wrap (by omega), by simp [allN_succ, hj, hget, hb_]⟩
        · exact allN_at (p := gradedAt size true l) (i := i) (by omega) (by simp [hget, hb_])
        · exact allN_at (p := gradedAt size true l) (i := i) (by omega) (by rw [ltB_not] at hb_; simp at hb_; simp [hget, hb_])
        · refine ⟨by omega, i64_wrap (by omega), ?_⟩
          rw [ltB_not] at hb_
          simp_all [allN_succ]
      · simp (disch := omega) [f0, f1, f2, f7]
        exact ⟨by omega, i64_wrap (by omega), by simp [allN_succ, hj, hget, okC, h8]⟩
  · simp only [ltB_true, ltB_false, leB_true, leB_false, eqB_true, eqB_false, Bool.not_true, Bool.not_false] at h6
    simp (disch := omega)
    rw [← hj, show i = l.length by omega, gradedB]
theorem shape_grade {c : Int} (h : 0 ≤ c ∧ c ≤ 36) : ((eqB (shapeOf c).1 3 || eqB (shapeOf c).1 4) = (isArrow c || isBox c)) ∧ ((isArrow c || isBox c) = true → (shapeOf c).2 = gradeI c) := by
  unfold shapeOf gradeI
  simp only [within_true, eqB_true]
  refine ⟨?_, fun h1 => ?_⟩
  · rw [Bool.eq_iff_iff]
    simp only [Bool.or_eq_true, gl_arrow, gl_box, eqB_true]
    repeat' split
    all_goals (simp; try omega)
  · simp only [Bool.or_eq_true, gl_arrow, gl_box] at h1
    repeat' split
    all_goals (simp; try omega)
theorem kidsN_range {c : Int} {k : Nat} (h : kidsN c = some k) : 0 ≤ c ∧ c ≤ 36 := by
  rw [kidsN'] at h
  repeat' split at h
  all_goals first | omega | simp at h
theorem skip_codes : ∀ (l : List Int) (n : Nat) (r : List Int), Ty.skip n l = some r → ∀ i, i + r.length < l.length → 0 ≤ l.getD i 0 ∧ l.getD i 0 ≤ 36
  | l, 0, r, h, i, hi => by simp [Ty.skip] at h; subst h; omega
  | [], n + 1, r, h, i, hi => by simp [Ty.skip] at h
  | c :: l, n + 1, r, h, i, hi => by
    simp only [Ty.skip] at h
    cases hk : kidsN c with
    | none => simp [hk] at h
    | some k =>
      simp only [hk] at h
      cases i with
      | zero => simpa using kidsN_range hk
      | succ i =>
        have := skip_codes l (n + k) r h i (by simp at hi; omega)
        simpa using this
theorem wty_codes {l : List Int} (h : wty l = true) (i : Nat) (hi : i < l.length) : 0 ≤ l.getD i 0 ∧ l.getD i 0 ≤ 36 := by
  simp [wty] at h
  exact skip_codes l 1 [] h.2 i (by simpa using hi)
theorem isTypeOf_ok {s : GSys} (t : s.Tab) (nl : Bool) (l : List Int) (hl : Lok l) : Gives Tryz.prog n_impl_isTypeOf [s.lv, L nl l] (· = B (wty l && gradedB s.size true l)) := by
  have hlen := hl.1
  have h2 := t.lo; have h16 := t.hi
  refine Gives.of_codeOf c_impl_isTypeOf mixed (by simp) ⟨_, rfl, by simp⟩ ?_
  simp (disch := omega) [k_impl_isTypeOf, boxLV, frzLV]
  refine onCall_eq (isWrittenType_ok nl l hl) (by simp) ?_
  simp (disch := omega)
  (with_reducible first | refine onBoolT (fun h1 => ?_) (fun h1 => ?_) | refine onBoolF (fun h1 => ?_) (fun h1 => ?_))
  · rw [h1, Bool.true_and]
    simp (disch := omega)
    refine wpC_for l.length 0 (fun i t _ => t 14 = N i ∧ allN (gradedAt s.size true l) i = true) (by simp) (by omega) ?_
    rintro i t1 hh hf hi ⟨e14, hj⟩
    (have e2 := hf 2 (by kernel_rfl); have e12 := hf 12 (by kernel_rfl); have e13 := hf 13 (by kernel_rfl); clear hf; simp [] at e2 e12 e13)
    simp (disch := omega) [e2, e12, e13, e14]
    (with_reducible first | refine onBoolT (fun h6 => ?_) (fun h6 => ?_) | refine onBoolF (fun h6 => ?_) (fun h6 => ?_))
    · simp only [ltB_true, ltB_false, leB_true, leB_false, eqB_true, eqB_false, Bool.not_true, Bool.not_false] at h6
      have hc := hl.at (i := i) (by omega)
      have hcr := wty_codes h1 i (by omega)
      have hget : gradedAt s.size true l i = okC s.size true (l[i]'(by omega)) := by simp [gradedAt, show i < l.length by omega]
      simp only [List.getD_eq_getElem?_getD, List.getElem?_eq_getElem (show i < l.length by omega), Option.getD_some] at hcr
      obtain ⟨c, hce⟩ : ∃ c, l[i]'(by omega) = c := ⟨_, rfl⟩
      rw [hce] at hc hget hcr
      obtain ⟨hs1, hs2⟩ := shape_grade hcr
      simp (disch := omega) [e2, e12, e13, e14, idx_L, hce]
      refine onCall_eq (shape_ok c hc) (by simp) ?_
      simp (disch := omega) [e2, e12, e13, e14]
      rw [okC] at hget
      have hI : I64 s.size := ⟨by omega, by omega⟩
      have hlo : -9223372036854775808 < s.size := by omega
      have hwb : within (shapeOf c).2 0 (s.size - 1) = (leB 0 (shapeOf c).2 && ltB (shapeOf c).2 s.size) := by
        rw [Bool.eq_iff_iff]; simp [within, ltB_true, ltB_false, leB_true, leB_false, eqB_true, eqB_false, Bool.not_true, Bool.not_false]; omega
      simp only [Bool.not_true, Bool.false_or] at hget
      repeat' (first
    | with_reducible refine onCall_eq (has_ok s hI hlo _) (by simp) ?_
    | (with_reducible (first | refine onBoolT (fun hb_ => ?_) (fun hb_ => ?_) | refine onBoolF (fun hb_ => ?_) (fun hb_ => ?_)) <;> simp (disch := omega) [hb_, e2, e12, e13, e14])
    | simp (disch := omega) [e2, e12, e13, e14])
      all_goals first
        | exact ⟨by omega, i64_wrap (by omega), by simp_all [allN_succ]⟩
        | exact allN_at (p := gradedAt s.size true l) (i := i) (by omega) (by cases hB : leB 0 (gradeI c) <;> cases hC : isArrow c <;> cases hD : isBox c <;> simp_all)
    · simp only [ltB_true, ltB_false, leB_true, leB_false, eqB_true, eqB_false, Bool.not_true, Bool.not_false] at h6
      simp (disch := omega)
      rw [show i = l.length by omega] at hj
      rw [gradedB, hj]
  · simp_all
end Go.Proofs.YtclfngbealdbgaaGreat
namespace Go.Proofs.YtclfngbealdbgaaGreat
open Go Go.TL
open Go.Proofs.YtclfngbealdbgaaGreat.Ty
set_option linter.unusedSimpArgs false
set_option linter.unusedVariables false
set_option maxRecDepth 20000
set_option maxHeartbeats 4000000
inductive GTerm where
  | mk (op n : Int) (nl1 : Bool) (ty : List Int) (nl2 : Bool) (ks : List GTerm)
mutual
def GTerm.cells : GTerm → List LV
  | .mk op n nl1 ty nl2 ks => [N op, N n, L nl1 ty, .sl false nl2 4 (rowsOf ks)]
def rowsOf : List GTerm → List (List LV)
  | [] => []
  | k :: ks => k.cells :: rowsOf ks
end
abbrev GTerm.lv (t : GTerm) : LV := .agg t.cells
mutual
def GTerm.size : GTerm → Nat
  | .mk _ _ _ _ _ ks => sizes ks + 1
def sizes : List GTerm → Nat
  | [] => 0
  | k :: ks => k.size + sizes ks
end
mutual
def GTerm.wf : GTerm → Prop
  | .mk op n _ ty _ ks => I64 op ∧ I64 n ∧ Lok ty ∧ ks.length ≤ 1099511627776 ∧ wfs ks
def wfs : List GTerm → Prop
  | [] => True
  | k :: ks => k.wf ∧ wfs ks
end
theorem rowsOf_eq : ∀ ks : List GTerm, rowsOf ks = ks.map GTerm.cells
  | [] => by simp [rowsOf]
  | k :: ks => by simp [rowsOf, rowsOf_eq ks]
@[simp] theorem rowsOf_length (ks : List GTerm) : (rowsOf ks).length = ks.length := by simp [rowsOf_eq]
theorem wfs_iff : ∀ {ks : List GTerm}, wfs ks ↔ ∀ k ∈ ks, k.wf
  | [] => by simp [wfs]
  | k :: ks => by simp [wfs, wfs_iff (ks := ks)]
theorem GTerm.size_pos (t : GTerm) : 0 < t.size := by cases t; simp [GTerm.size]
theorem sizes_app : ∀ a b : List GTerm, sizes (a ++ b) = sizes a + sizes b
  | [], b => by simp [sizes]
  | k :: a, b => by simp [sizes, sizes_app a b]; omega
theorem sizes_drop {ks : List GTerm} {i : Nat} (h : i < ks.length) : sizes (ks.drop i) = ks[i].size + sizes (ks.drop (i + 1)) := by
  rw [List.drop_eq_getElem_cons h, sizes]
theorem size_kid {ks : List GTerm} {i : Nat} (h : i < ks.length) : ks[i].size ≤ sizes ks := by
  have := sizes_drop h
  have h2 := sizes_app (ks.take i) (ks.drop i)
  rw [List.take_append_drop] at h2
  omega
mutual
theorem cells_share : ∀ t : GTerm, shareAll t.cells = t.cells
  | .mk op n nl1 ty nl2 ks => by
    simp only [GTerm.cells, shareAll, share, rowsOf_share ks]
    congr 3
    simp
theorem rowsOf_share : ∀ ks : List GTerm, shareRow (rowsOf ks) = rowsOf ks
  | [] => by simp [rowsOf, shareRow]
  | k :: ks => by simp only [rowsOf, shareRow, cells_share k, rowsOf_share ks]
end
attribute [simp] cells_share rowsOf_share
@[simp] theorem cells_length (t : GTerm) : t.cells.length = 4 := by cases t; simp [GTerm.cells]
@[simp] theorem take_cells (t : GTerm) : t.cells.take 4 = t.cells := List.take_of_length_le (by simp)
mutual
theorem low_cells (k : Nat) : ∀ t : GTerm, LowAll k t.cells
  | .mk op n nl1 ty nl2 ks => by
    have := low_rowsOf k ks
    simp [GTerm.cells, this]
theorem low_rowsOf (k : Nat) : ∀ ks : List GTerm, LowRow k (rowsOf ks)
  | [] => by simp [rowsOf]
  | t :: ks => by simp [rowsOf, low_cells k t, low_rowsOf k ks]
end
attribute [simp] low_cells low_rowsOf
@[simp] theorem alive_cells (t : GTerm) : aliveAll t.cells = true := by
  cases t; simp [GTerm.cells]
theorem idx_T (ks : List GTerm) (u nl : Bool) (i : Nat) (h : i < ks.length) : idxLV 4 (.sl u nl 4 (rowsOf ks)) (i : Int) = some (.rp (ks[i]'h).cells) := by
  simp only [idxLV]
  rw [if_pos ⟨trivial, by omega, by simpa using h⟩]
  have : (rowsOf ks).getD (i : Int).toNat [] = (ks[i]'h).cells := by
    simp [List.getD_eq_getElem?_getD, rowsOf_eq, h]
  rw [this]
  simp
def manyI (op : Int) : Int := if op = 0 ∨ op = 1 then 0 else if op = 2 ∨ op = 4 ∨ op = 5 ∨ op = 10 ∨ op = 12 then 2 else if op = 3 ∨ op = 8 then 3 else if op = 6 ∨ op = 7 ∨ op = 9 ∨ op = 11 then 1 else -1
def hasB (op : Int) : Bool := eqB op 5 || eqB op 8 || eqB op 9 || eqB op 11 || eqB op 12
def typedB (op : Int) : Bool := eqB op 6 || eqB op 7 || eqB op 9
def addsI (op k : Int) : Int := if op = 5 ∧ k = 1 then 2 else if (op = 8 ∧ 0 < k) ∨ op = 9 ∨ (op = 12 ∧ k = 1) then 1 else 0
theorem adds_ok (op k : Int) : Gives Tryz.prog n_impl_adds [N op, N k] (· = N (addsI op k)) := by
  refine Gives.of_codeOf c_impl_adds mixed (by simp) ⟨_, rfl, by simp⟩ ?_
  simp (disch := omega) [k_impl_adds]
  repeat' (first
    | (with_reducible (first | refine onBoolT (fun hb_ => ?_) (fun hb_ => ?_) | refine onBoolF (fun hb_ => ?_) (fun hb_ => ?_)) <;> simp (disch := omega) [hb_])
    | simp (disch := omega))
  all_goals simp only [ltB_true, ltB_false, leB_true, leB_false, eqB_true, eqB_false, Bool.not_true, Bool.not_false] at *
  all_goals simp_all [addsI]
theorem l2Adds_ok (op k : Int) : Gives Tryz.prog n_spec_l2Adds [N op, N k] (· = N (addsI op k)) := by
  refine Gives.of_codeOf c_spec_l2Adds mixed (by simp) ⟨_, rfl, by simp⟩ ?_
  simp (disch := omega) [k_spec_l2Adds]
  repeat' (first
    | (with_reducible (first | refine onBoolT (fun hb_ => ?_) (fun hb_ => ?_) | refine onBoolF (fun hb_ => ?_) (fun hb_ => ?_)) <;> simp (disch := omega) [hb_])
    | simp (disch := omega))
  all_goals simp only [ltB_true, ltB_false, leB_true, leB_false, eqB_true, eqB_false, Bool.not_true, Bool.not_false] at *
  all_goals simp_all [addsI]
theorem l2Has_ok (op : Int) : Gives Tryz.prog n_spec_l2Has [N op] (· = B (hasB op)) := by
  refine Gives.of_codeOf c_spec_l2Has mixed (by simp) ⟨_, rfl, by simp⟩ ?_
  simp (disch := omega) [k_spec_l2Has]
  repeat' (first
    | (with_reducible (first | refine onBoolT (fun hb_ => ?_) (fun hb_ => ?_) | refine onBoolF (fun hb_ => ?_) (fun hb_ => ?_)) <;> simp (disch := omega) [hb_])
    | simp (disch := omega))
  all_goals simp_all [hasB]
theorem l2Typed_ok (op : Int) : Gives Tryz.prog n_spec_l2Typed [N op] (· = B (typedB op)) := by
  refine Gives.of_codeOf c_spec_l2Typed mixed (by simp) ⟨_, rfl, by simp⟩ ?_
  simp (disch := omega) [k_spec_l2Typed]
  repeat' (first
    | (with_reducible (first | refine onBoolT (fun hb_ => ?_) (fun hb_ => ?_) | refine onBoolF (fun hb_ => ?_) (fun hb_ => ?_)) <;> simp (disch := omega) [hb_])
    | simp (disch := omega))
  all_goals simp_all [typedB]
theorem ops13 {op : Int} (h : within op 0 12 = true) : op = 0 ∨ op = 1 ∨ op = 2 ∨ op = 3 ∨ op = 4 ∨ op = 5 ∨ op = 6 ∨ op = 7 ∨ op = 8 ∨ op = 9 ∨ op = 10 ∨ op = 11 ∨ op = 12 := by
  rw [within_true] at h; omega
theorem l2Many_ok (op : Int) : Gives Tryz.prog n_spec_l2Many [N op] (· = N (manyI op)) := by
  refine Gives.of_codeOf c_spec_l2Many mixed (by simp) ⟨_, rfl, by simp⟩ ?_
  simp (disch := omega) [k_spec_l2Many]
  refine onCall_eq (in_ok _ _ _) (by simp) ?_
  simp (disch := omega)
  (with_reducible first | refine onBoolT (fun h1 => ?_) (fun h1 => ?_) | refine onBoolF (fun h1 => ?_) (fun h1 => ?_))
  · rcases ops13 h1 with h | h | h | h | h | h | h | h | h | h | h | h | h <;> subst h <;> simp [idxLV, manyI, chunks]
  · rw [within_false] at h1
    simp [manyI]
    repeat' split
    all_goals omega
def wordS (op : Int) : Value := if op = 0 then .string ⟨#[120]⟩ else if op = 2 then .string ⟨#[97, 100, 100]⟩ else if op = 3 then .string ⟨#[105, 102]⟩ else if op = 4 then .string ⟨#[112, 97, 105, 114]⟩ else if op = 5 then .string ⟨#[115, 112, 108, 105, 116]⟩
  else if op = 6 then .string ⟨#[108, 101, 102, 116]⟩ else if op = 7 then .string ⟨#[114, 105, 103, 104, 116]⟩ else if op = 8 then .string ⟨#[99, 97, 115, 101]⟩ else if op = 9 then .string ⟨#[102, 117, 110]⟩
  else if op = 10 then .string ⟨#[97, 112, 112]⟩ else if op = 11 then .string ⟨#[98, 111, 120]⟩ else if op = 12 then .string ⟨#[111, 112, 101, 110]⟩ else .string ⟨#[]⟩
abbrev wordV (op : Int) : LV := .sc (wordS op)
def formV (op : Int) : LV := if within op 0 12 = true then .tup [.agg [wordV op, N (manyI op), B (hasB op), B (typedB op)], B true] else .tup [.agg [.sc (.string ⟨#[]⟩), N 0, B false, B false], B false]
@[simp] theorem low_formV (op : Int) (k : Nat) : Low k (formV op) := by
  unfold formV; split <;> simp
theorem formOf_ok (op : Int) : Gives Tryz.prog n_impl_formOf [N op] (· = formV op) := by
  refine Gives.of_codeOf c_impl_formOf mixed (by simp) ⟨_, rfl, by simp⟩ ?_
  simp (disch := omega) [k_impl_formOf]
  refine onCall_eq (within_ok _ _ _) (by simp) ?_
  simp (disch := omega)
  (with_reducible first | refine onBoolT (fun h1 => ?_) (fun h1 => ?_) | refine onBoolF (fun h1 => ?_) (fun h1 => ?_))
  · rcases ops13 h1 with h | h | h | h | h | h | h | h | h | h | h | h | h <;> subst h <;> simp [idxLV, chunks, manyI, formV, wordS, hasB, typedB, within, leB, eqB]
  · simp [formV, h1]
end Go.Proofs.YtclfngbealdbgaaGreat
namespace Go.Proofs.YtclfngbealdbgaaGreat
open Go Go.TL
set_option linter.unusedSimpArgs false
set_option linter.unusedVariables false
set_option maxRecDepth 20000
set_option maxHeartbeats 4000000
mutual
def GTerm.raw : GTerm → Prop
  | .mk op n _ ty _ ks => I64 op ∧ I64 n ∧ (ty.length ≤ 9223372036854775807 ∧ ∀ c ∈ ty, I64 c) ∧ ks.length ≤ 9223372036854775807 ∧ raws ks
def raws : List GTerm → Prop
  | [] => True
  | k :: ks => k.raw ∧ raws ks
end
theorem raws_iff : ∀ {ks : List GTerm}, raws ks ↔ ∀ k ∈ ks, k.raw
  | [] => by simp [raws]
  | k :: ks => by simp [raws, raws_iff (ks := ks)]
mutual
def GTerm.w : GTerm → Nat
  | .mk _ _ _ ty _ ks => ty.length + (ks.length + tws ks)
def tws : List GTerm → Nat
  | [] => 0
  | k :: ks => k.w + tws ks
end
theorem tws_drop {ks : List GTerm} {i : Nat} (h : i < ks.length) : tws (ks.drop i) = ks[i].w + tws (ks.drop (i + 1)) := by
  rw [List.drop_eq_getElem_cons h, tws]
mutual
theorem wf_of : ∀ (t : GTerm), t.raw → t.w ≤ 1099511627776 → t.wf
  | .mk op n nl1 ty nl2 ks, h, hw => by
    simp only [GTerm.raw, GTerm.w, GTerm.wf] at *
    exact ⟨h.1, h.2.1, ⟨by omega, h.2.2.1.2⟩, by omega, wfs_of ks h.2.2.2.2 (by omega)⟩
theorem wfs_of : ∀ (ks : List GTerm), raws ks → tws ks ≤ 1099511627776 → wfs ks
  | [], _, _ => by simp [wfs]
  | k :: ks, h, hw => by
    simp only [raws, tws, wfs] at *
    exact ⟨wf_of k h.1 (by omega), wfs_of ks h.2 (by omega)⟩
end
mutual
def GTerm.norm : GTerm → GTerm
  | .mk op n _ ty _ ks => .mk op n false ty false (norms ks)
def norms : List GTerm → List GTerm
  | [] => []
  | k :: ks => k.norm :: norms ks
end
mutual
def GTerm.own : GTerm → List LV
  | .mk op n _ ty _ ks => [N op, N n, OU true false ty, .sl true false 4 (owns ks)]
def owns : List GTerm → List (List LV)
  | [] => []
  | k :: ks => k.own :: owns ks
end
theorem owns_eq : ∀ ks : List GTerm, owns ks = ks.map GTerm.own
  | [] => by simp [owns]
  | k :: ks => by simp [owns, owns_eq ks]
mutual
theorem share_ownT : ∀ t : GTerm, shareAll t.own = t.norm.cells
  | .mk op n nl1 ty nl2 ks => by
    simp only [GTerm.own, GTerm.norm, GTerm.cells, shareAll, share, share_owns ks]
    congr 3
    simp
theorem share_owns : ∀ ks : List GTerm, shareRow (owns ks) = rowsOf (norms ks)
  | [] => by simp [owns, norms, rowsOf, shareRow]
  | k :: ks => by simp only [owns, norms, rowsOf, shareRow, share_ownT k, share_owns ks]
end
attribute [simp] share_ownT share_owns
@[simp] theorem own_length (t : GTerm) : t.own.length = 4 := by cases t; simp [GTerm.own]
@[simp] theorem take_own (t : GTerm) : t.own.take 4 = t.own := List.take_of_length_le (by simp)
@[simp] theorem alive_own (t : GTerm) : aliveAll t.own = true := by cases t; simp [GTerm.own]
mutual
theorem low_ownT (k : Nat) : ∀ t : GTerm, LowAll k t.own
  | .mk op n nl1 ty nl2 ks => by
    have := low_owns k ks
    simp [GTerm.own, this]
theorem low_owns (k : Nat) : ∀ ks : List GTerm, LowRow k (owns ks)
  | [] => by simp [owns]
  | t :: ks => by simp [owns, low_ownT k t, low_owns k ks]
end
attribute [simp] low_ownT low_owns
mutual
def GTerm.same : GTerm → GTerm → Bool
  | .mk op n _ ty _ ks, .mk op' n' _ ty' _ ks' => eqB op op' && (eqB n n' && ((ty == ty') && sames ks ks'))
def sames : List GTerm → List GTerm → Bool
  | [], [] => true
  | a :: a', b :: b' => a.same b && sames a' b'
  | _, _ => false
end
theorem sames_len : ∀ {a b : List GTerm}, a.length ≠ b.length → sames a b = false
  | [], [], h => by simp at h
  | [], _ :: _, _ => by simp [sames]
  | _ :: _, [], _ => by simp [sames]
  | a :: a', b :: b', h => by simp only [sames, sames_len (a := a') (b := b') (by simpa using h), Bool.and_false]
mutual
theorem same_refl : ∀ a : GTerm, a.same a = true
  | .mk op n nl1 ty nl2 ks => by simp [GTerm.same, sames_refl ks]
theorem sames_refl : ∀ a : List GTerm, sames a a = true
  | [] => by simp [sames]
  | a :: a' => by simp [sames, same_refl a, sames_refl a']
end
mutual
theorem norm_wf : ∀ t : GTerm, t.wf → t.norm.wf
  | .mk op n nl1 ty nl2 ks, h => by
    simp only [GTerm.wf, GTerm.norm] at *
    exact ⟨h.1, h.2.1, h.2.2.1, by rw [norms_length]; exact h.2.2.2.1, norms_wf ks h.2.2.2.2⟩
theorem norms_wf : ∀ ks : List GTerm, wfs ks → wfs (norms ks)
  | [], _ => by simp [norms, wfs]
  | k :: ks, h => by
    simp only [wfs, norms] at *
    exact ⟨norm_wf k h.1, norms_wf ks h.2⟩
theorem norms_length : ∀ ks : List GTerm, (norms ks).length = ks.length
  | [] => by simp [norms]
  | k :: ks => by simp [norms, norms_length ks]
end
theorem szTermS_ok (nl : Bool) (ks : List GTerm) (hl : ks.length ≤ 9223372036854775807) (left : Int) (h0 : 0 ≤ left) (h1 : left ≤ 1099511627776)
    (hk : ∀ k ∈ ks, ∀ m : Int, 0 ≤ m → m ≤ 1099511627776 → Gives Tryz.prog n_laws_szTerm [k.lv, N m] (· = N (leftI k.w m))) :
    Gives Tryz.prog n_laws_szTermS [.sl false nl 4 (rowsOf ks), N left] (· = N (leftI (ks.length + tws ks) left)) := by
  refine Gives.of_codeOf c_laws_szTermS mixed (by simp) ⟨_, rfl, by simp⟩ ?_
  simp (disch := omega) [k_laws_szTermS, i64_wrap]
  (with_reducible first | refine onBoolT (fun h2 => ?_) (fun h2 => ?_) | refine onBoolF (fun h2 => ?_) (fun h2 => ?_))
  · simp (disch := omega) [h2]
    simp only [ltB_true, ltB_false, leB_true, leB_false, eqB_true, eqB_false, Bool.not_true, Bool.not_false] at h2
    unfold leftI; rw [if_neg (by omega)]
  · simp (disch := omega) [h2]
    simp only [ltB_true, ltB_false, leB_true, leB_false, eqB_true, eqB_false, Bool.not_true, Bool.not_false] at h2
    have e1 : leftI (ks.length + tws ks) left = leftI (tws ks) (left - ks.length) := by
      rw [leftI_add h0]; congr 1; unfold leftI; rw [if_pos (by omega)]
    rw [e1]
    refine wpC_for ks.length 0 (fun i t _ => ∃ m : Int, t 5 = N i ∧ t 1 = N m ∧ 0 ≤ m ∧ m ≤ left ∧ leftI (tws ks) (left - ks.length) = leftI (tws (ks.drop i)) m) ⟨left - ks.length, by simp, by simp, by omega, by omega, by simp⟩ (by omega) ?_
    rintro i t1 hh hf hi ⟨m, e5, e1', hm, hm2, he⟩
    (have e0 := hf 0 (by kernel_rfl); clear hf; simp [] at e0)
    simp (disch := omega) [e0, e1', e5]
    (with_reducible first | refine onBoolT (fun h6 => ?_) (fun h6 => ?_) | refine onBoolF (fun h6 => ?_) (fun h6 => ?_))
    · simp only [ltB_true, ltB_false, leB_true, leB_false, eqB_true, eqB_false, Bool.not_true, Bool.not_false] at h6
      have hs := hk (ks[i]'(by omega)) (List.getElem_mem _) m hm (by omega)
      simp (disch := omega) [e0, e1', e5, idx_T]
      repeat' (first
    | with_reducible refine onCall_eq (hs) (by simp) ?_
    | (with_reducible (first | refine onBoolT (fun hb_ => ?_) (fun hb_ => ?_) | refine onBoolF (fun hb_ => ?_) (fun hb_ => ?_)) <;> simp (disch := omega) [hb_, e0, e1', e5, i64_wrap])
    | simp (disch := omega) [e0, e1', e5, i64_wrap])
      all_goals simp only [ltB_true, ltB_false, leB_true, leB_false, eqB_true, eqB_false, Bool.not_true, Bool.not_false] at hb_
      · rw [he, tws_drop (by omega), leftI_add hm, leftI_neg hb_]
      · refine ⟨by omega, hb_, ?_, ?_⟩
        · have := leftI_range (a := (ks[i]'(by omega)).w) hm; omega
        · rw [he, tws_drop (by omega), leftI_add hm]
    · simp only [ltB_true, ltB_false, leB_true, leB_false, eqB_true, eqB_false, Bool.not_true, Bool.not_false] at h6
      simp (disch := omega) [e1']
      rw [he, show i = ks.length by omega, List.drop_length, tws, leftI_zero hm]
theorem szTerm_ok : ∀ (d : Nat) (t : GTerm), t.size ≤ d → t.raw → ∀ left : Int, 0 ≤ left → left ≤ 1099511627776 → Gives Tryz.prog n_laws_szTerm [t.lv, N left] (· = N (leftI t.w left)) := by
  intro d
  induction d with
  | zero => intro t h; have := t.size_pos; omega
  | succ d ih =>
    rintro ⟨op, n, nl1, ty, nl2, ks⟩ hd hw left h0 h1
    simp only [GTerm.raw] at hw
    obtain ⟨hop, hn, hty, hk, hks⟩ := hw
    simp only [GTerm.size, GTerm.lv, GTerm.cells, GTerm.w] at hd ⊢
    refine Gives.of_codeOf c_laws_szTerm mixed (by simp) ⟨_, rfl, by simp⟩ ?_
    have hi := szIntS_ok nl1 ty hty.1 left h0 h1
    simp (disch := omega) [k_laws_szTerm, boxLV, frzLV]
    refine onCall_eq hi (by simp) ?_
    simp (disch := omega)
    rw [leftI_add h0]
    (with_reducible first | refine onBoolT (fun h2 => ?_) (fun h2 => ?_) | refine onBoolF (fun h2 => ?_) (fun h2 => ?_))
    · simp only [ltB_true, ltB_false, leB_true, leB_false, eqB_true, eqB_false, Bool.not_true, Bool.not_false] at h2
      simp (disch := omega)
      rw [leftI_neg h2]
    · simp only [ltB_true, ltB_false, leB_true, leB_false, eqB_true, eqB_false, Bool.not_true, Bool.not_false] at h2
      have hr := leftI_range (a := ty.length) h0
      have ht := szTermS_ok nl2 ks hk (leftI ty.length left) h2 (by omega) (fun k hk' m hm hm2 => ih k (by
        obtain ⟨i, hi, rfl⟩ := List.getElem_of_mem hk'
        have := size_kid hi; omega) (raws_iff.1 hks k hk') m hm hm2)
      simp (disch := omega)
      repeat' (first
    | with_reducible refine onCall_eq (ht) (by simp) ?_
    | (with_reducible (first | refine onBoolT (fun hb_ => ?_) (fun hb_ => ?_) | refine onBoolF (fun hb_ => ?_) (fun hb_ => ?_)) <;> simp (disch := omega) [hb_])
    | simp (disch := omega))
      all_goals simp only [ltB_true, ltB_false, leB_true, leB_false, eqB_true, eqB_false, Bool.not_true, Bool.not_false] at hb_
      all_goals have := leftI_range (a := ks.length + tws ks) h2
      all_goals omega
end Go.Proofs.YtclfngbealdbgaaGreat
namespace Go.Proofs.YtclfngbealdbgaaGreat
open Go Go.TL
set_option linter.unusedSimpArgs false
set_option linter.unusedVariables false
set_option maxRecDepth 20000
set_option maxHeartbeats 4000000
theorem toTermS_ok (nl : Bool) (ks : List GTerm) (hl : ks.length ≤ 1099511627776) (hk : ∀ k ∈ ks, Gives Tryz.prog n_laws_toTerm [k.lv] (· = .agg k.own)) :
    Gives Tryz.prog n_laws_toTermS [.sl false nl 4 (rowsOf ks)] (· = .sl true false 4 (owns ks)) := by
  refine Gives.of_codeOf c_laws_toTermS mixed (by simp) ⟨_, rfl, by simp⟩ ?_
  have hm : (ks.length : Int) ≤ (most : Nat) := by unfold most; omega
  have he : ∀ x : GTerm, x.own.length = 4 := by simp
  simp (disch := omega) [k_laws_toTermS, hm]
  refine wpC_for ks.length 0 (fun i t h => t 4 = N i ∧ h = [some (fill GTerm.own [N 0, N 0, .sl true true 1 [], .sl true true 1 []] ks i)]) (by simp [fill_zero]) (by omega) ?_
  rintro i t1 hh hf hi ⟨e4, rfl⟩
  (have e0 := hf 0 (by kernel_rfl); have e3 := hf 3 (by kernel_rfl); clear hf; simp [] at e0 e3)
  simp (disch := omega) [e0, e3, e4]
  (with_reducible first | refine onBoolT (fun h6 => ?_) (fun h6 => ?_) | refine onBoolF (fun h6 => ?_) (fun h6 => ?_))
  · simp only [ltB_true, ltB_false, leB_true, leB_false, eqB_true, eqB_false, Bool.not_true, Bool.not_false] at h6
    have hlen := fill_len (z := [N 0, N 0, .sl true true 1 [], .sl true true 1 []]) (l := ks) he rfl hi
    have hst := fill_step (z := [N 0, N 0, .sl true true 1 [], .sl true true 1 []]) (l := ks) he rfl (i := i) (by omega)
    have hto := hk (ks[i]'(by omega)) (List.getElem_mem _)
    simp (disch := omega) [e0, e3, e4, idx_T, idx_ha, i64_wrap, hlen, hst]
    repeat' (first
    | with_reducible refine onCall_eq (hto) (by simp) ?_
    | (with_reducible (first | refine onBoolT (fun hb_ => ?_) (fun hb_ => ?_) | refine onBoolF (fun hb_ => ?_) (fun hb_ => ?_)) <;> simp (disch := omega) [hb_, e0, e3, e4, idx_T, idx_ha, i64_wrap, hlen, hst])
    | simp (disch := omega) [e0, e3, e4, idx_T, idx_ha, i64_wrap, hlen, hst])
    exact ⟨by omega, by omega, by simpa [splice] using hst⟩
  · simp only [ltB_true, ltB_false, leB_true, leB_false, eqB_true, eqB_false, Bool.not_true, Bool.not_false] at h6
    rw [show i = ks.length by omega, fill_end]
    simp (disch := omega) [e0, e3, e4]
    rw [frz_fill he]
    simp [owns_eq]
theorem toTerm_ok : ∀ (d : Nat) (t : GTerm), t.size ≤ d → t.wf → Gives Tryz.prog n_laws_toTerm [t.lv] (· = .agg t.own) := by
  intro d
  induction d with
  | zero => intro t h; have := t.size_pos; omega
  | succ d ih =>
    rintro ⟨op, n, nl1, ty, nl2, ks⟩ hd hw
    simp only [GTerm.wf] at hw
    obtain ⟨hop, hn, hty, hk, hks⟩ := hw
    simp only [GTerm.size, GTerm.lv, GTerm.cells, GTerm.own] at hd ⊢
    have h1 := toIntS_ok nl1 ty hty.1
    have h2 := toTermS_ok nl2 ks hk (fun k hk' => ih k (by
        obtain ⟨i, hi, rfl⟩ := List.getElem_of_mem hk'
        have := size_kid hi; omega) (wfs_iff.1 hks k hk'))
    refine Gives.of_codeOf c_laws_toTerm mixed (by simp) ⟨_, rfl, by simp⟩ ?_
    simp (disch := omega) [k_laws_toTerm, boxLV, frzLV]
    repeat' (first
    | with_reducible refine onCall_eq (h1) (by simp) ?_
    | with_reducible refine onCall_eq (h2) (by simp) ?_
    | (with_reducible (first | refine onBoolT (fun hb_ => ?_) (fun hb_ => ?_) | refine onBoolF (fun hb_ => ?_) (fun hb_ => ?_)) <;> simp (disch := omega) [hb_])
    | simp (disch := omega))
theorem eqTermS_ok (n1 n2 : Bool) (a b : List GTerm) (ha : a.length ≤ 1099511627776) (hk : ∀ x ∈ a, ∀ y : GTerm, Gives Tryz.prog n_laws_eqTerm [x.lv, y.lv] (· = B (x.same y))) :
    Gives Tryz.prog n_laws_eqTermS [.sl false n1 4 (rowsOf a), .sl false n2 4 (rowsOf b)] (· = B (sames a b)) := by
  refine Gives.of_codeOf c_laws_eqTermS mixed (by simp) ⟨_, rfl, by simp⟩ ?_
  simp (disch := omega) [k_laws_eqTermS]
  (with_reducible first | refine onBoolT (fun h1 => ?_) (fun h1 => ?_) | refine onBoolF (fun h1 => ?_) (fun h1 => ?_))
  · simp (disch := omega) [h1]
    simp only [ltB_true, ltB_false, leB_true, leB_false, eqB_true, eqB_false, Bool.not_true, Bool.not_false] at h1
    refine wpC_for a.length 0 (fun i t _ => t 5 = N i ∧ sames a b = sames (a.drop i) (b.drop i)) (by simp) (by omega) ?_
    rintro i t1 hh hf hi ⟨e5, hj⟩
    (have e0 := hf 0 (by kernel_rfl); have e1 := hf 1 (by kernel_rfl); clear hf; simp [] at e0 e1)
    simp (disch := omega) [e0, e1, e5]
    (with_reducible first | refine onBoolT (fun h6 => ?_) (fun h6 => ?_) | refine onBoolF (fun h6 => ?_) (fun h6 => ?_))
    · simp only [ltB_true, ltB_false, leB_true, leB_false, eqB_true, eqB_false, Bool.not_true, Bool.not_false] at h6
      have hd1 := List.drop_eq_getElem_cons (l := a) (i := i) (by omega)
      have hd2 := List.drop_eq_getElem_cons (l := b) (i := i) (by omega)
      have hq2 : sames a b = ((a[i]'(by omega)).same (b[i]'(by omega)) && sames (a.drop (i + 1)) (b.drop (i + 1))) := by rw [hj, hd1, hd2, sames]
      clear hd1 hd2 hj
      have hc := hk (a[i]'(by omega)) (List.getElem_mem _) (b[i]'(by omega))
      simp (disch := omega) [e0, e1, e5, idx_T]
      repeat' (first
    | with_reducible refine onCall_eq (hc) (by simp) ?_
    | (with_reducible (first | refine onBoolT (fun hb_ => ?_) (fun hb_ => ?_) | refine onBoolF (fun hb_ => ?_) (fun hb_ => ?_)) <;> simp (disch := omega) [hb_, e0, e1, e5, idx_T, i64_wrap])
    | simp (disch := omega) [e0, e1, e5, idx_T, i64_wrap])
      · exact ⟨by omega, by rw [hq2, hb_, Bool.true_and]⟩
      · rw [hq2, hb_, Bool.false_and]
    · simp only [ltB_true, ltB_false, leB_true, leB_false, eqB_true, eqB_false, Bool.not_true, Bool.not_false] at h6
      simp (disch := omega)
      rw [hj, List.drop_of_length_le (by omega), List.drop_of_length_le (by omega), sames]
  · simp (disch := omega) [h1]
    simp only [ltB_true, ltB_false, leB_true, leB_false, eqB_true, eqB_false, Bool.not_true, Bool.not_false] at h1
    exact sames_len (by omega)
theorem eqTerm_ok : ∀ (d : Nat) (a : GTerm), a.size ≤ d → a.wf → ∀ b : GTerm, Gives Tryz.prog n_laws_eqTerm [a.lv, b.lv] (· = B (a.same b)) := by
  intro d
  induction d with
  | zero => intro t h; have := t.size_pos; omega
  | succ d ih =>
    rintro ⟨op, n, nl1, ty, nl2, ks⟩ hd hw ⟨op', n', nl1', ty', nl2', ks'⟩
    simp only [GTerm.wf] at hw
    obtain ⟨hop, hn, hty, hk, hks⟩ := hw
    simp only [GTerm.size, GTerm.lv, GTerm.cells] at hd ⊢
    have h1 := eqIntS_ok nl1 nl1' ty ty' hty.1
    have h2 := eqTermS_ok nl2 nl2' ks ks' hk (fun k hk' => ih k (by
        obtain ⟨i, hi, rfl⟩ := List.getElem_of_mem hk'
        have := size_kid hi; omega) (wfs_iff.1 hks k hk'))
    refine Gives.of_codeOf c_laws_eqTerm mixed (by simp) ⟨_, rfl, by simp⟩ ?_
    rw [GTerm.same]
    generalize (ty == ty') = q1 at *
    simp (disch := omega) [k_laws_eqTerm, boxLV, frzLV]
    repeat' (first
    | with_reducible refine onCall_eq (h1) (by simp) ?_
    | with_reducible refine onCall_eq (h2) (by simp) ?_
    | (with_reducible (first | refine onBoolT (fun hb_ => ?_) (fun hb_ => ?_) | refine onBoolF (fun hb_ => ?_) (fun hb_ => ?_)) <;> simp (disch := omega) [hb_])
    | simp (disch := omega))
    all_goals simp_all
end Go.Proofs.YtclfngbealdbgaaGreat
namespace Go.Proofs.YtclfngbealdbgaaGreat
open Go Go.TL
set_option linter.unusedSimpArgs false
set_option linter.unusedVariables false
set_option maxRecDepth 20000
set_option maxHeartbeats 4000000
theorem GSys.isJoin_n {s : GSys} {n : Nat} (hn : s.size = n) (a b g : Int) : s.isJoin a b g = (s.le a g && s.le b g && allN (fun h => s.jn a b g h) n) := by
  simp [GSys.isJoin, hn]
section
variable {s : GSys} (t : s.Tab) {a b : Int} (ha : s.G a) (hb : s.G b)
include t ha hb
theorem l1Join_ok : Gives Tryz.prog n_spec_l1Join [s.lv, N a, N b] (· = N (s.join a b)) := by
  refine Gives.of_codeOf c_spec_l1Join mixed (by simp) ⟨_, rfl, by simp⟩ ?_
  have h2 := t.lo; have h16 := t.hi
  obtain ⟨n, hn⟩ : ∃ n : Nat, s.size = n := ⟨s.size.toNat, by omega⟩
  simp (disch := omega) [k_spec_l1Join, boxLV, frzLV]
  refine wpC_for n 0 (fun g t _ => t 7 = N g ∧ s.join a b = firstOf (s.isJoin a b) g (n - g)) (by simp [GSys.join, hn]) (by omega) ?_
  rintro g t1 hh hf hg ⟨e7, hj⟩
  (have e1 := hf 1 (by kernel_rfl); have e2 := hf 2 (by kernel_rfl); have e3 := hf 3 (by kernel_rfl); clear hf; simp [] at e1 e2 e3)
  simp (disch := omega) [e1, e2, e3, e7]
  (with_reducible first | refine onBoolT (fun h1 => ?_) (fun h1 => ?_) | refine onBoolF (fun h1 => ?_) (fun h1 => ?_))
  · have hGg := GSys.Glt h1
    simp (disch := omega) [e1, e2, e3, e7]
    refine onCall_eq (l1Le_ok t ha hGg) (by simp) ?_
    refine wpL_mid (fun t h => t 8 = B (s.le a g && s.le b g)) ?_ ?_
    · repeat' (first
    | with_reducible refine onCall_eq (l1Le_ok t (by first | assumption | exact GSys.Gpl t _ _ | exact GSys.Gtm t _ _ | exact GSys.Glt (by assumption) | exact GSys.G0 t | exact GSys.G1 t) (by first | assumption | exact GSys.Gpl t _ _ | exact GSys.Gtm t _ _ | exact GSys.Glt (by assumption) | exact GSys.G0 t | exact GSys.G1 t)) (by simp) ?_
    | (with_reducible (first | refine onBoolT (fun hb_ => ?_) (fun hb_ => ?_) | refine onBoolF (fun hb_ => ?_) (fun hb_ => ?_)) <;> simp (disch := omega) [hb_, e1, e2, e3, e7])
    | simp (disch := omega) [e1, e2, e3, e7])
    · rintro t2 hh hf2 e8
      (have f1 := hf2 1 (by kernel_rfl); have f2 := hf2 2 (by kernel_rfl); have f3 := hf2 3 (by kernel_rfl); have f7 := hf2 7 (by kernel_rfl); clear hf2; simp [e1, e2, e3, e7] at f1 f2 f3 f7)
      simp (disch := omega)
      refine wpC_forM n 0 (fun i t _ => t 9 = N i ∧ t 8 = B (s.le a g && s.le b g && allN (fun h => s.jn a b g h) i)) (fun t h => t 8 = B (s.isJoin a b g)) (by simp [e8]) (by omega) ?_ ?_
      · rintro i t3 hh hf3 hi ⟨g9, g8⟩
        (have q1 := hf3 1 (by kernel_rfl); have q2 := hf3 2 (by kernel_rfl); have q3 := hf3 3 (by kernel_rfl); have q7 := hf3 7 (by kernel_rfl); clear hf3; simp [f1, f2, f3, f7] at q1 q2 q3 q7)
        simp (disch := omega) [q1, q2, q3, q7, g8, g9]
        repeat' (first
    | with_reducible refine onCall_eq (l1Le_ok t (by first | assumption | exact GSys.Gpl t _ _ | exact GSys.Gtm t _ _ | exact GSys.Glt (by assumption) | exact GSys.G0 t | exact GSys.G1 t) (by first | assumption | exact GSys.Gpl t _ _ | exact GSys.Gtm t _ _ | exact GSys.Glt (by assumption) | exact GSys.G0 t | exact GSys.G1 t)) (by simp) ?_
    | (with_reducible (first | refine onBoolT (fun hb_ => ?_) (fun hb_ => ?_) | refine onBoolF (fun hb_ => ?_) (fun hb_ => ?_)) <;> simp (disch := omega) [hb_, q1, q2, q3, q7, g8, g9])
    | simp (disch := omega) [q1, q2, q3, q7, g8, g9])
        all_goals (try simp only [ltB_true, ltB_false, leB_true, leB_false, eqB_true, eqB_false, Bool.not_true, Bool.not_false] at *)
        · refine ⟨by omega, i64_wrap (by omega), ?_⟩
          simp_all [allN_succ, GSys.jn]
        · refine ⟨by omega, i64_wrap (by omega), ?_⟩
          simp_all [allN_succ, GSys.jn]
        · refine ⟨by omega, i64_wrap (by omega), ?_⟩
          simp_all [allN_succ, GSys.jn]
        · rw [GSys.isJoin_n hn]
          cases h : allN (fun h => s.jn a b g h) i with
          | false => simp [allN_false hi h]
          | true => simp_all
        · rw [GSys.isJoin_n hn, show i = n by omega]
      · rintro t4 hh hf4 g8
        (have q1 := hf4 1 (by kernel_rfl); have q2 := hf4 2 (by kernel_rfl); have q3 := hf4 3 (by kernel_rfl); have q7 := hf4 7 (by kernel_rfl); clear hf4; simp [f1, f2, f3, f7] at q1 q2 q3 q7)
        repeat' (first
    | (with_reducible (first | refine onBoolT (fun hb_ => ?_) (fun hb_ => ?_) | refine onBoolF (fun hb_ => ?_) (fun hb_ => ?_)) <;> simp (disch := omega) [hb_, q1, q2, q3, q7, g8])
    | simp (disch := omega) [q1, q2, q3, q7, g8])
        all_goals (try simp only [ltB_true, ltB_false, leB_true, leB_false, eqB_true, eqB_false, Bool.not_true, Bool.not_false] at *)
        · rw [hj, show n - g = (n - (g + 1)) + 1 by omega, firstOf, if_pos hb_]
        · rw [hj, show n - g = (n - (g + 1)) + 1 by omega, firstOf, if_neg (by simp [hb_])]
          exact ⟨by omega, i64_wrap (by omega), by simp⟩
  · all_goals (try simp only [ltB_true, ltB_false, leB_true, leB_false, eqB_true, eqB_false, Bool.not_true, Bool.not_false] at *)
    have : g = n := by omega
    simp_all [firstOf]
theorem join_ok : Gives Tryz.prog n__impl_System__join [s.lv, N a, N b] (· = N (s.join a b)) := by
  refine Gives.of_codeOf c__impl_System__join mixed (by simp) ⟨_, rfl, by simp⟩ ?_
  have h2 := t.lo; have h16 := t.hi
  obtain ⟨n, hn⟩ : ∃ n : Nat, s.size = n := ⟨s.size.toNat, by omega⟩
  simp (disch := omega) [k__impl_System__join, boxLV, frzLV]
  refine wpC_for n 0 (fun g t _ => t 7 = N g ∧ s.join a b = firstOf (s.isJoin a b) g (n - g)) (by simp [GSys.join, hn]) (by omega) ?_
  rintro g t1 hh hf hg ⟨e7, hj⟩
  (have e1 := hf 1 (by kernel_rfl); have e2 := hf 2 (by kernel_rfl); have e3 := hf 3 (by kernel_rfl); clear hf; simp [] at e1 e2 e3)
  simp (disch := omega) [e1, e2, e3, e7]
  (with_reducible first | refine onBoolT (fun h1 => ?_) (fun h1 => ?_) | refine onBoolF (fun h1 => ?_) (fun h1 => ?_))
  · have hGg := GSys.Glt h1
    simp (disch := omega) [e1, e2, e3, e7]
    refine onCall_eq (below_ok t ha hGg) (by simp) ?_
    refine wpL_mid (fun t h => t 27 = B (!s.le a g || !s.le b g)) ?_ ?_
    · repeat' (first
    | with_reducible refine onCall_eq (below_ok t (by first | assumption | exact GSys.Gpl t _ _ | exact GSys.Gtm t _ _ | exact GSys.Glt (by assumption) | exact GSys.G0 t | exact GSys.G1 t) (by first | assumption | exact GSys.Gpl t _ _ | exact GSys.Gtm t _ _ | exact GSys.Glt (by assumption) | exact GSys.G0 t | exact GSys.G1 t)) (by simp) ?_
    | (with_reducible (first | refine onBoolT (fun hb_ => ?_) (fun hb_ => ?_) | refine onBoolF (fun hb_ => ?_) (fun hb_ => ?_)) <;> simp (disch := omega) [hb_, e1, e2, e3, e7])
    | simp (disch := omega) [e1, e2, e3, e7])
    · rintro t2 hh hf2 e8
      (have f1 := hf2 1 (by kernel_rfl); have f2 := hf2 2 (by kernel_rfl); have f3 := hf2 3 (by kernel_rfl); have f7 := hf2 7 (by kernel_rfl); clear hf2; simp [e1, e2, e3, e7] at f1 f2 f3 f7)
      simp (disch := omega) [e8]
      (with_reducible first | refine onBoolT (fun h3 => ?_) (fun h3 => ?_) | refine onBoolF (fun h3 => ?_) (fun h3 => ?_))
      · simp (disch := omega) [f7]
        all_goals (try simp only [ltB_true, ltB_false, leB_true, leB_false, eqB_true, eqB_false, Bool.not_true, Bool.not_false] at *)
        rw [hj, show n - g = (n - (g + 1)) + 1 by omega, firstOf, if_neg (by rw [GSys.isJoin_n hn]; simp at h3; rcases h3 with h3 | h3 <;> simp [h3])]
        exact ⟨by omega, i64_wrap (by omega), by simp⟩
      · simp (disch := omega) [f1, f2, f3, f7]
        refine wpC_forM n 0 (fun i t _ => t 9 = N i ∧ t 8 = B (allN (fun h => s.jn a b g h) i)) (fun t h => t 8 = B (s.isJoin a b g)) (by simp) (by omega) ?_ ?_
        · rintro i t3 hh hf3 hi ⟨g9, g8⟩
          (have q1 := hf3 1 (by kernel_rfl); have q2 := hf3 2 (by kernel_rfl); have q3 := hf3 3 (by kernel_rfl); have q7 := hf3 7 (by kernel_rfl); clear hf3; simp [f1, f2, f3, f7] at q1 q2 q3 q7)
          simp (disch := omega) [q1, q2, q3, q7, g8, g9]
          repeat' (first
    | with_reducible refine onCall_eq (below_ok t (by first | assumption | exact GSys.Gpl t _ _ | exact GSys.Gtm t _ _ | exact GSys.Glt (by assumption) | exact GSys.G0 t | exact GSys.G1 t) (by first | assumption | exact GSys.Gpl t _ _ | exact GSys.Gtm t _ _ | exact GSys.Glt (by assumption) | exact GSys.G0 t | exact GSys.G1 t)) (by simp) ?_
    | (with_reducible (first | refine onBoolT (fun hb_ => ?_) (fun hb_ => ?_) | refine onBoolF (fun hb_ => ?_) (fun hb_ => ?_)) <;> simp (disch := omega) [hb_, q1, q2, q3, q7, g8, g9])
    | simp (disch := omega) [q1, q2, q3, q7, g8, g9])
          all_goals (try simp only [ltB_true, ltB_false, leB_true, leB_false, eqB_true, eqB_false, Bool.not_true, Bool.not_false] at *)
          · refine ⟨by omega, i64_wrap (by omega), ?_⟩
            simp_all [allN_succ, GSys.jn]
          · refine ⟨by omega, i64_wrap (by omega), ?_⟩
            simp_all [allN_succ, GSys.jn]
          · refine ⟨by omega, i64_wrap (by omega), ?_⟩
            simp_all [allN_succ, GSys.jn]
          · refine ⟨by omega, i64_wrap (by omega), ?_⟩
            simp_all [allN_succ]
          · rw [GSys.isJoin_n hn, show i = n by omega]
            simp_all
        · rintro t4 hh hf4 g8
          (have q1 := hf4 1 (by kernel_rfl); have q2 := hf4 2 (by kernel_rfl); have q3 := hf4 3 (by kernel_rfl); have q7 := hf4 7 (by kernel_rfl); clear hf4; simp [f1, f2, f3, f7] at q1 q2 q3 q7)
          repeat' (first
    | (with_reducible (first | refine onBoolT (fun hb_ => ?_) (fun hb_ => ?_) | refine onBoolF (fun hb_ => ?_) (fun hb_ => ?_)) <;> simp (disch := omega) [hb_, q1, q2, q3, q7, g8])
    | simp (disch := omega) [q1, q2, q3, q7, g8])
          all_goals (try simp only [ltB_true, ltB_false, leB_true, leB_false, eqB_true, eqB_false, Bool.not_true, Bool.not_false] at *)
          · rw [hj, show n - g = (n - (g + 1)) + 1 by omega, firstOf, if_pos hb_]
          · rw [hj, show n - g = (n - (g + 1)) + 1 by omega, firstOf, if_neg (by simp [hb_])]
            exact ⟨by omega, i64_wrap (by omega), by simp⟩
  · all_goals (try simp only [ltB_true, ltB_false, leB_true, leB_false, eqB_true, eqB_false, Bool.not_true, Bool.not_false] at *)
    have : g = n := by omega
    simp_all [firstOf]
end
def GSys.one (s : GSys) (a : Int) : Bool := eqB (s.pl 0 a) a && eqB (s.tm 1 a) a && eqB (s.tm a 1) a && eqB (s.tm 0 a) 0 && eqB (s.tm a 0) 0 && s.le a a
def GSys.two (s : GSys) (a b : Int) : Bool := eqB (s.pl a b) (s.pl b a) && (eqB a b || !s.le a b || !s.le b a) && leB 0 (s.join a b)
section
variable {s : GSys} (t : s.Tab) {a b : Int} (ha : s.G a) (hb : s.G b)
include t ha
theorem l1One_ok : Gives Tryz.prog n_spec_l1One [s.lv, N a] (· = B (s.one a)) := by
  refine Gives.of_codeOf c_spec_l1One mixed (by simp) ⟨_, rfl, by simp⟩ ?_
  simp (disch := omega) [k_spec_l1One, boxLV, frzLV]
  repeat' (first
    | with_reducible refine onCall_eq (l1Add_ok t (by first | assumption | exact GSys.Gpl t _ _ | exact GSys.Gtm t _ _ | exact GSys.Glt (by assumption) | exact GSys.G0 t | exact GSys.G1 t) (by first | assumption | exact GSys.Gpl t _ _ | exact GSys.Gtm t _ _ | exact GSys.Glt (by assumption) | exact GSys.G0 t | exact GSys.G1 t)) (by simp) ?_
    | with_reducible refine onCall_eq (l1Mul_ok t (by first | assumption | exact GSys.Gpl t _ _ | exact GSys.Gtm t _ _ | exact GSys.Glt (by assumption) | exact GSys.G0 t | exact GSys.G1 t) (by first | assumption | exact GSys.Gpl t _ _ | exact GSys.Gtm t _ _ | exact GSys.Glt (by assumption) | exact GSys.G0 t | exact GSys.G1 t)) (by simp) ?_
    | with_reducible refine onCall_eq (l1Le_ok t (by first | assumption | exact GSys.Gpl t _ _ | exact GSys.Gtm t _ _ | exact GSys.Glt (by assumption) | exact GSys.G0 t | exact GSys.G1 t) (by first | assumption | exact GSys.Gpl t _ _ | exact GSys.Gtm t _ _ | exact GSys.Glt (by assumption) | exact GSys.G0 t | exact GSys.G1 t)) (by simp) ?_
    | (with_reducible (first | refine onBoolT (fun hb_ => ?_) (fun hb_ => ?_) | refine onBoolF (fun hb_ => ?_) (fun hb_ => ?_)) <;> simp (disch := omega) [hb_])
    | simp (disch := omega))
  all_goals simp_all [GSys.one]
include hb
theorem l1Two_ok : Gives Tryz.prog n_spec_l1Two [s.lv, N a, N b] (· = B (s.two a b)) := by
  refine Gives.of_codeOf c_spec_l1Two mixed (by simp) ⟨_, rfl, by simp⟩ ?_
  simp (disch := omega) [k_spec_l1Two, boxLV, frzLV]
  repeat' (first
    | with_reducible refine onCall_eq (l1Add_ok t (by first | assumption | exact GSys.Gpl t _ _ | exact GSys.Gtm t _ _ | exact GSys.Glt (by assumption) | exact GSys.G0 t | exact GSys.G1 t) (by first | assumption | exact GSys.Gpl t _ _ | exact GSys.Gtm t _ _ | exact GSys.Glt (by assumption) | exact GSys.G0 t | exact GSys.G1 t)) (by simp) ?_
    | with_reducible refine onCall_eq (l1Le_ok t (by first | assumption | exact GSys.Gpl t _ _ | exact GSys.Gtm t _ _ | exact GSys.Glt (by assumption) | exact GSys.G0 t | exact GSys.G1 t) (by first | assumption | exact GSys.Gpl t _ _ | exact GSys.Gtm t _ _ | exact GSys.Glt (by assumption) | exact GSys.G0 t | exact GSys.G1 t)) (by simp) ?_
    | with_reducible refine onCall_eq (l1Join_ok t (by first | assumption | exact GSys.Gpl t _ _ | exact GSys.Gtm t _ _ | exact GSys.Glt (by assumption) | exact GSys.G0 t | exact GSys.G1 t) (by first | assumption | exact GSys.Gpl t _ _ | exact GSys.Gtm t _ _ | exact GSys.Glt (by assumption) | exact GSys.G0 t | exact GSys.G1 t)) (by simp) ?_
    | (with_reducible (first | refine onBoolT (fun hb_ => ?_) (fun hb_ => ?_) | refine onBoolF (fun hb_ => ?_) (fun hb_ => ?_)) <;> simp (disch := omega) [hb_])
    | simp (disch := omega))
  all_goals simp_all [GSys.two]
end
def GSys.cell (s : GSys) (i : Nat) : Bool := within (s.plus.getD i 0) 0 (s.size - 1) && within (s.times.getD i 0) 0 (s.size - 1)
def GSys.tabB (s : GSys) : Bool := within s.size 2 16 && eqB s.plus.length (s.size * s.size) && eqB s.times.length (s.size * s.size) && eqB s.below.length (s.size * s.size) && allN s.cell s.plus.length
theorem GSys.tab_iff {s : GSys} : s.tabB = true ↔ s.Tab := by
  simp only [GSys.tabB, Bool.and_eq_true, within_true, eqB_true, allN_iff, GSys.cell]
  constructor
  · rintro ⟨⟨⟨⟨h1, h2⟩, h3⟩, h4⟩, h5⟩
    refine ⟨h1.1, h1.2, h2, h3, h4, fun i => ?_, fun i => ?_⟩
    · by_cases hi : i < s.plus.length
      · have := (h5 i hi).1; omega
      · rw [List.getD_eq_getElem?_getD, List.getElem?_eq_none (by omega)]; simp; omega
    · by_cases hi : i < s.plus.length
      · have := (h5 i hi).2; omega
      · rw [List.getD_eq_getElem?_getD, List.getElem?_eq_none (by omega)]; simp; omega
  · intro t
    refine ⟨⟨⟨⟨⟨t.lo, t.hi⟩, t.lp⟩, t.lt⟩, t.lb⟩, fun i _ => ?_⟩
    have := t.rp i; have := t.rt i
    omega
theorem GSys.sq {s : GSys} (h : within s.size 2 16 = true) : 0 ≤ s.size * s.size ∧ s.size * s.size ≤ 256 ∧ 2 ≤ s.size ∧ s.size ≤ 16 := by
  rw [within_true] at h
  have h4 : s.size * s.size ≤ 16 * 16 := Int.mul_le_mul h.2 h.2 (by omega) (by omega)
  exact ⟨Int.mul_nonneg (by omega) (by omega), by omega, h⟩
theorem l1Tables_ok (s : GSys) (hw : s.wf) : Gives Tryz.prog n_spec_l1Tables [s.lv] (· = B s.tabB) := by
  refine Gives.of_codeOf c_spec_l1Tables mixed (by simp) ⟨_, rfl, by simp⟩ ?_
  simp (disch := omega) [k_spec_l1Tables, boxLV, frzLV]
  refine onCall_eq (in_ok _ _ _) (by simp) ?_
  simp (disch := omega)
  (with_reducible first | refine onBoolT (fun h1 => ?_) (fun h1 => ?_) | refine onBoolF (fun h1 => ?_) (fun h1 => ?_))
  · obtain ⟨h2, h3, h4, h5⟩ := GSys.sq (s := s) h1
    simp (disch := omega) [h1, i64_wrap]
    repeat' (first
    | (with_reducible (first | refine onBoolT (fun hb_ => ?_) (fun hb_ => ?_) | refine onBoolF (fun hb_ => ?_) (fun hb_ => ?_)) <;> simp (disch := omega) [hb_, h1, i64_wrap])
    | simp (disch := omega) [h1, i64_wrap])
    all_goals try (simp_all [GSys.tabB]; done)
    · rename_i g1 g2
      have e0 : s.tabB = allN s.cell s.plus.length := by simp [GSys.tabB, h1, g1, g2, hb_]
      rw [e0]
      all_goals (try simp only [ltB_true, ltB_false, leB_true, leB_false, eqB_true, eqB_false, Bool.not_true, Bool.not_false] at *)
      refine wpC_for s.plus.length 0 (fun i t _ => t 3 = N i ∧ allN s.cell i = true) (by simp) (by omega) ?_
      rintro i t1 hh hf hi ⟨e3, hj⟩
      (have e1 := hf 1 (by kernel_rfl); clear hf; simp [] at e1)
      simp (disch := omega) [e1, e3]
      (with_reducible first | refine onBoolT (fun h6 => ?_) (fun h6 => ?_) | refine onBoolF (fun h6 => ?_) (fun h6 => ?_))
      · simp only [ltB_true, ltB_false, leB_true, leB_false, eqB_true, eqB_false, Bool.not_true, Bool.not_false] at h6
        simp (disch := omega) [e1, e3, i64_wrap, idx_L]
        have ec : s.cell i = (within (s.plus[i]'(by omega)) 0 (s.size - 1) && within (s.times[i]'(by omega)) 0 (s.size - 1)) := by
          simp [GSys.cell, show i < s.plus.length by omega, show i < s.times.length by omega]
        repeat' (first
    | with_reducible refine onCall_eq (in_ok _ _ _) (by simp) ?_
    | (with_reducible (first | refine onBoolT (fun hb_ => ?_) (fun hb_ => ?_) | refine onBoolF (fun hb_ => ?_) (fun hb_ => ?_)) <;> simp (disch := omega) [hb_, e1, e3, i64_wrap, idx_L])
    | simp (disch := omega) [e1, e3, i64_wrap, idx_L])
        · refine ⟨by omega, by simp_all [allN_succ]⟩
        · exact allN_at (p := s.cell) (i := i) (by omega) (by simp_all)
        · exact allN_at (p := s.cell) (i := i) (by omega) (by simp_all)
      · simp only [ltB_true, ltB_false, leB_true, leB_false, eqB_true, eqB_false, Bool.not_true, Bool.not_false] at h6
        simp (disch := omega) [e1, e3]
        rw [← hj, show i = s.plus.length by omega]
  · simp_all [GSys.tabB]
def GSys.sysC (s : GSys) (n : Nat) (a b : Int) : Bool := s.two a b && allN (fun c => s.three a b c) n
def GSys.sysB (s : GSys) (n : Nat) (a : Int) : Bool := s.one a && allN (fun b => s.sysC n a b) n
def GSys.sys (s : GSys) : Bool := s.tabB && allN (fun a => s.sysB s.size.toNat a) s.size.toNat
theorem GSys.sys_n {s : GSys} {n : Nat} (hn : s.size = n) : s.sys = (s.tabB && allN (fun a => s.sysB n a) n) := by simp [GSys.sys, hn]
theorem GSys.sys_of {s : GSys} (h : s.sys = true) : s.Tab := GSys.tab_iff.1 (by simp [GSys.sys] at h; exact h.1)
theorem specIsSystem_ok (s : GSys) (hw : s.wf) : Gives Tryz.prog n_spec_IsSystem [s.lv] (· = B s.sys) := by
  refine Gives.of_codeOf c_spec_IsSystem mixed (by simp) ⟨_, rfl, by simp⟩ ?_
  simp (disch := omega) [k_spec_IsSystem, boxLV, frzLV]
  refine onCall_eq (l1Tables_ok s hw) (by simp) ?_
  simp (disch := omega)
  (with_reducible first | refine onBoolT (fun h1 => ?_) (fun h1 => ?_) | refine onBoolF (fun h1 => ?_) (fun h1 => ?_))
  · have t := GSys.tab_iff.1 h1
    have h2 := t.lo; have h16 := t.hi
    obtain ⟨n, hn⟩ : ∃ n : Nat, s.size = n := ⟨s.size.toNat, by omega⟩
    rw [GSys.sys_n hn, h1, Bool.true_and]
    simp (disch := omega) [h1]
    refine wpC_for n 0 (fun a t _ => t 3 = N a ∧ allN (fun a => s.sysB n a) a = true) (by simp) (by omega) ?_
    rintro a t1 hh hf ha ⟨e3, hj⟩
    (have e1 := hf 1 (by kernel_rfl); clear hf; simp [] at e1)
    simp (disch := omega) [e1, e3]
    (with_reducible first | refine onBoolT (fun h3 => ?_) (fun h3 => ?_) | refine onBoolF (fun h3 => ?_) (fun h3 => ?_))
    · have hGa := GSys.Glt h3
      simp only [ltB_true, ltB_false, leB_true, leB_false, eqB_true, eqB_false, Bool.not_true, Bool.not_false] at h3
      simp (disch := omega) [e1, e3]
      refine onCall_eq (l1One_ok t hGa) (by simp) ?_
      simp (disch := omega) [e1, e3]
      (with_reducible first | refine onBoolT (fun h4 => ?_) (fun h4 => ?_) | refine onBoolF (fun h4 => ?_) (fun h4 => ?_))
      · simp (disch := omega) [e1, e3]
        refine wpC_forM n 0 (fun b t _ => t 4 = N b ∧ allN (fun b => s.sysC n a b) b = true) (fun t h => allN (fun b => s.sysC n a b) n = true) (by simp) (by omega) ?_ ?_
        · rintro b t2 hh hf2 hb ⟨e4, hj2⟩
          (have f1 := hf2 1 (by kernel_rfl); have f3 := hf2 3 (by kernel_rfl); clear hf2; simp [e1, e3] at f1 f3)
          simp (disch := omega) [f1, f3, e4]
          (with_reducible first | refine onBoolT (fun h5 => ?_) (fun h5 => ?_) | refine onBoolF (fun h5 => ?_) (fun h5 => ?_))
          · have hGb := GSys.Glt h5
            simp only [ltB_true, ltB_false, leB_true, leB_false, eqB_true, eqB_false, Bool.not_true, Bool.not_false] at h5
            simp (disch := omega) [f1, f3, e4]
            refine onCall_eq (l1Two_ok t hGa hGb) (by simp) ?_
            simp (disch := omega) [f1, f3, e4]
            (with_reducible first | refine onBoolT (fun h6 => ?_) (fun h6 => ?_) | refine onBoolF (fun h6 => ?_) (fun h6 => ?_))
            · simp (disch := omega) [f1, f3, e4]
              refine wpC_forM n 0 (fun c t _ => t 5 = N c ∧ allN (fun c => s.three a b c) c = true) (fun t h => allN (fun c => s.three a b c) n = true) (by simp) (by omega) ?_ ?_
              · rintro c t3 hh hf3 hc ⟨e5, hj3⟩
                (have g1 := hf3 1 (by kernel_rfl); have g3 := hf3 3 (by kernel_rfl); have g4 := hf3 4 (by kernel_rfl); clear hf3; simp [f1, f3, e4] at g1 g3 g4)
                simp (disch := omega) [g1, g3, g4, e5]
                (with_reducible first | refine onBoolT (fun h7 => ?_) (fun h7 => ?_) | refine onBoolF (fun h7 => ?_) (fun h7 => ?_))
                · have hGc := GSys.Glt h7
                  simp only [ltB_true, ltB_false, leB_true, leB_false, eqB_true, eqB_false, Bool.not_true, Bool.not_false] at h7
                  simp (disch := omega) [g1, g3, g4, e5]
                  repeat' (first
    | with_reducible refine onCall_eq (l1Three_ok t hGa hGb hGc) (by simp) ?_
    | (with_reducible (first | refine onBoolT (fun hb_ => ?_) (fun hb_ => ?_) | refine onBoolF (fun hb_ => ?_) (fun hb_ => ?_)) <;> simp (disch := omega) [hb_, g1, g3, g4, e5])
    | simp (disch := omega) [g1, g3, g4, e5])
                  · refine ⟨by omega, i64_wrap (by omega), by simp [allN_succ, hj3, hb_]⟩
                  · exact allN_at (i := a) (by omega) (by simp [GSys.sysB, h4, allN_at (p := fun b => s.sysC n a b) (i := b) (n := n) (by omega) (by simp [GSys.sysC, h6, allN_at (p := fun c => s.three a b c) (i := c) (n := n) (by omega) (by simpa using hb_)])])
                · simp only [ltB_true, ltB_false, leB_true, leB_false, eqB_true, eqB_false, Bool.not_true, Bool.not_false] at h7
                  simp (disch := omega) [g1, g3, g4, e5]
                  rw [← hj3, show c = n by omega]
              · rintro t4 hh hf4 hj3
                (have g1 := hf4 1 (by kernel_rfl); have g3 := hf4 3 (by kernel_rfl); have g4 := hf4 4 (by kernel_rfl); clear hf4; simp [f1, f3, e4] at g1 g3 g4)
                simp (disch := omega) [g1, g3, g4]
                exact ⟨by omega, i64_wrap (by omega), by simp [allN_succ, hj2, show s.sysC n a b = true by simp [GSys.sysC, h6, hj3]]⟩
            · simp (disch := omega)
              exact allN_at (i := a) (by omega) (by simp [GSys.sysB, h4, allN_at (p := fun b => s.sysC n a b) (i := b) (n := n) (by omega) (by simp_all [GSys.sysC])])
          · simp only [ltB_true, ltB_false, leB_true, leB_false, eqB_true, eqB_false, Bool.not_true, Bool.not_false] at h5
            simp (disch := omega) [f1, f3, e4]
            rw [← hj2, show b = n by omega]
        · rintro t2 hh hf2 hj2
          (have f1 := hf2 1 (by kernel_rfl); have f3 := hf2 3 (by kernel_rfl); clear hf2; simp [e1, e3] at f1 f3)
          simp (disch := omega) [f1, f3]
          exact ⟨by omega, i64_wrap (by omega), by simp [allN_succ, hj, show s.sysB n a = true by simp [GSys.sysB, h4, hj2]]⟩
      · simp (disch := omega)
        exact allN_at (i := a) (by omega) (by simp_all [GSys.sysB])
    · simp only [ltB_true, ltB_false, leB_true, leB_false, eqB_true, eqB_false, Bool.not_true, Bool.not_false] at h3
      simp (disch := omega) [e1, e3]
      rw [← hj, show a = n by omega]
  · simp_all [GSys.sys]
end Go.Proofs.YtclfngbealdbgaaGreat
namespace Go.Proofs.YtclfngbealdbgaaGreat
open Go Go.TL
set_option linter.unusedSimpArgs false
set_option linter.unusedVariables false
set_option maxRecDepth 20000
set_option maxHeartbeats 4000000
theorem implIsSystem_ok (s : GSys) (hw : s.wf) : Gives Tryz.prog n_impl_IsSystem [s.lv] (· = B s.sys) := by
  refine Gives.of_codeOf c_impl_IsSystem mixed (by simp) ⟨_, rfl, by simp⟩ ?_
  simp (disch := omega) [k_impl_IsSystem, boxLV, frzLV]
  refine onCall_eq (within_ok _ _ _) (by simp) ?_
  simp (disch := omega)
  (with_reducible first | refine onBoolT (fun h1 => ?_) (fun h1 => ?_) | refine onBoolF (fun h1 => ?_) (fun h1 => ?_))
  · obtain ⟨h2, h3, h4, h5⟩ := GSys.sq (s := s) h1
    simp (disch := omega) [h1, i64_wrap]
    repeat' (first
    | (with_reducible (first | refine onBoolT (fun hb_ => ?_) (fun hb_ => ?_) | refine onBoolF (fun hb_ => ?_) (fun hb_ => ?_)) <;> simp (disch := omega) [hb_, h1, i64_wrap])
    | simp (disch := omega) [h1, i64_wrap])
    all_goals try (simp_all [GSys.tabB, GSys.sys]; done)
    · rename_i g1 g2
      have e0 : s.tabB = allN s.cell s.plus.length := by simp [GSys.tabB, h1, g1, g2, hb_]
      all_goals (try simp only [ltB_true, ltB_false, leB_true, leB_false, eqB_true, eqB_false, Bool.not_true, Bool.not_false] at *)
      refine wpC_forM s.plus.length 0 (fun i t _ => t 43 = N i ∧ allN s.cell i = true) (fun _ _ => s.tabB = true) (by simp) (by omega) ?_ ?_
      · rintro i t1 hh hf hi ⟨e3, hj⟩
        (have e1 := hf 1 (by kernel_rfl); have e42 := hf 42 (by kernel_rfl); clear hf; simp [] at e1 e42)
        simp (disch := omega) [e1, e42, e3]
        (with_reducible first | refine onBoolT (fun h6 => ?_) (fun h6 => ?_) | refine onBoolF (fun h6 => ?_) (fun h6 => ?_))
        · simp only [ltB_true, ltB_false, leB_true, leB_false, eqB_true, eqB_false, Bool.not_true, Bool.not_false] at h6
          simp (disch := omega) [e1, e3, e42, i64_wrap, idx_L]
          have ec : s.cell i = (within (s.plus[i]'(by omega)) 0 (s.size - 1) && within (s.times[i]'(by omega)) 0 (s.size - 1)) := by
            simp [GSys.cell, show i < s.plus.length by omega, show i < s.times.length by omega]
          have hlo : -9223372036854775808 < s.size := by omega
          have hI : I64 s.size := hw.1
          repeat' (first
    | with_reducible refine onCall_eq (has_ok s hI hlo _) (by simp) ?_
    | (with_reducible (first | refine onBoolT (fun hb_ => ?_) (fun hb_ => ?_) | refine onBoolF (fun hb_ => ?_) (fun hb_ => ?_)) <;> simp (disch := omega) [hb_, e1, e3, e42, i64_wrap, idx_L])
    | simp (disch := omega) [e1, e3, e42, i64_wrap, idx_L])
          · refine ⟨by omega, by simp_all [allN_succ]⟩
          · simp only [GSys.sys, e0, allN_at (p := s.cell) (i := i) (n := s.plus.length) (by omega) (by simp_all)]; simp
          · simp only [GSys.sys, e0, allN_at (p := s.cell) (i := i) (n := s.plus.length) (by omega) (by simp_all)]; simp
        · simp only [ltB_true, ltB_false, leB_true, leB_false, eqB_true, eqB_false, Bool.not_true, Bool.not_false] at h6
          simp (disch := omega) [e1, e3, e42]
          rw [e0, ← hj, show i = s.plus.length by omega]
      · rintro t0 hh hf0 ht
        (have d1 := hf0 1 (by kernel_rfl); have d3 := hf0 3 (by kernel_rfl); clear hf0; simp [] at d1 d3)
        simp (disch := omega) [d1, d3]
        have t := GSys.tab_iff.1 ht
        obtain ⟨n, hn⟩ : ∃ n : Nat, s.size = n := ⟨s.size.toNat, by omega⟩
        rw [GSys.sys_n hn, ht, Bool.true_and]
        refine wpC_for n 0 (fun a t _ => t 5 = N a ∧ allN (fun a => s.sysB n a) a = true) (by simp) (by omega) ?_
        rintro a t1 hh hf ha ⟨e5, hj⟩
        (have e1 := hf 1 (by kernel_rfl); have e3 := hf 3 (by kernel_rfl); clear hf; simp [d1, d3] at e1 e3)
        simp (disch := omega) [e1, e3, e5]
        (with_reducible first | refine onBoolT (fun h6 => ?_) (fun h6 => ?_) | refine onBoolF (fun h6 => ?_) (fun h6 => ?_))
        · have hGa := GSys.Glt h6
          simp only [ltB_true, ltB_false, leB_true, leB_false, eqB_true, eqB_false, Bool.not_true, Bool.not_false] at h6
          simp (disch := omega) [e1, e3, e5]
          refine onCall_eq (plus_ok t (GSys.G0 t) hGa) (by simp) ?_
          refine wpL_mid (fun t h => t 107 = B (!s.one a)) ?_ ?_
          · repeat' (first
    | with_reducible refine onCall_eq (times_ok t (by first | assumption | exact GSys.Gpl t _ _ | exact GSys.Gtm t _ _ | exact GSys.Glt (by assumption) | exact GSys.G0 t | exact GSys.G1 t) (by first | assumption | exact GSys.Gpl t _ _ | exact GSys.Gtm t _ _ | exact GSys.Glt (by assumption) | exact GSys.G0 t | exact GSys.G1 t)) (by simp) ?_
    | with_reducible refine onCall_eq (below_ok t (by first | assumption | exact GSys.Gpl t _ _ | exact GSys.Gtm t _ _ | exact GSys.Glt (by assumption) | exact GSys.G0 t | exact GSys.G1 t) (by first | assumption | exact GSys.Gpl t _ _ | exact GSys.Gtm t _ _ | exact GSys.Glt (by assumption) | exact GSys.G0 t | exact GSys.G1 t)) (by simp) ?_
    | (with_reducible (first | refine onBoolT (fun hb_ => ?_) (fun hb_ => ?_) | refine onBoolF (fun hb_ => ?_) (fun hb_ => ?_)) <;> simp (disch := omega) [hb_, e1, e3, e5])
    | simp (disch := omega) [e1, e3, e5])
            all_goals simp_all [GSys.one]
          · rintro t2 hh hf e107
            (have f1 := hf 1 (by kernel_rfl); have f3 := hf 3 (by kernel_rfl); have f5 := hf 5 (by kernel_rfl); clear hf; simp [e1, e3, e5] at f1 f3 f5)
            simp (disch := omega) [e107]
            (with_reducible first | refine onBoolT (fun h7 => ?_) (fun h7 => ?_) | refine onBoolF (fun h7 => ?_) (fun h7 => ?_))
            · simp (disch := omega)
              refine wpC_forM n 0 (fun b t _ => t 6 = N b ∧ allN (fun b => s.sysC n a b) b = true) (fun t h => allN (fun b => s.sysC n a b) n = true) (by simp) (by omega) ?_ ?_
              · rintro b t3 hh hf hb ⟨g6, hj2⟩
                (have g1 := hf 1 (by kernel_rfl); have g3 := hf 3 (by kernel_rfl); have g5 := hf 5 (by kernel_rfl); clear hf; simp [f1, f3, f5] at g1 g3 g5)
                simp (disch := omega) [g1, g3, g5, g6]
                (with_reducible first | refine onBoolT (fun h8 => ?_) (fun h8 => ?_) | refine onBoolF (fun h8 => ?_) (fun h8 => ?_))
                · have hGb := GSys.Glt h8
                  simp only [ltB_true, ltB_false, leB_true, leB_false, eqB_true, eqB_false, Bool.not_true, Bool.not_false] at h8
                  simp (disch := omega) [g1, g3, g5, g6]
                  refine onCall_eq (plus_ok t hGa hGb) (by simp) ?_
                  refine wpL_mid (fun t h => t 145 = B (!s.two a b)) ?_ ?_
                  · repeat' (first
    | with_reducible refine onCall_eq (plus_ok t (by first | assumption | exact GSys.Gpl t _ _ | exact GSys.Gtm t _ _ | exact GSys.Glt (by assumption) | exact GSys.G0 t | exact GSys.G1 t) (by first | assumption | exact GSys.Gpl t _ _ | exact GSys.Gtm t _ _ | exact GSys.Glt (by assumption) | exact GSys.G0 t | exact GSys.G1 t)) (by simp) ?_
    | with_reducible refine onCall_eq (below_ok t (by first | assumption | exact GSys.Gpl t _ _ | exact GSys.Gtm t _ _ | exact GSys.Glt (by assumption) | exact GSys.G0 t | exact GSys.G1 t) (by first | assumption | exact GSys.Gpl t _ _ | exact GSys.Gtm t _ _ | exact GSys.Glt (by assumption) | exact GSys.G0 t | exact GSys.G1 t)) (by simp) ?_
    | with_reducible refine onCall_eq (join_ok t (by first | assumption | exact GSys.Gpl t _ _ | exact GSys.Gtm t _ _ | exact GSys.Glt (by assumption) | exact GSys.G0 t | exact GSys.G1 t) (by first | assumption | exact GSys.Gpl t _ _ | exact GSys.Gtm t _ _ | exact GSys.Glt (by assumption) | exact GSys.G0 t | exact GSys.G1 t)) (by simp) ?_
    | (with_reducible (first | refine onBoolT (fun hb_ => ?_) (fun hb_ => ?_) | refine onBoolF (fun hb_ => ?_) (fun hb_ => ?_)) <;> simp (disch := omega) [hb_, g1, g3, g5, g6])
    | simp (disch := omega) [g1, g3, g5, g6])
                    all_goals simp_all [GSys.two, ltB_not]
                  · rintro t4 hh hf e145
                    (have q1 := hf 1 (by kernel_rfl); have q3 := hf 3 (by kernel_rfl); have q5 := hf 5 (by kernel_rfl); have q6 := hf 6 (by kernel_rfl); clear hf; simp [g1, g3, g5, g6] at q1 q3 q5 q6)
                    simp (disch := omega) [e145]
                    (with_reducible first | refine onBoolT (fun h9 => ?_) (fun h9 => ?_) | refine onBoolF (fun h9 => ?_) (fun h9 => ?_))
                    · simp (disch := omega)
                      refine wpC_forM n 0 (fun c t _ => t 7 = N c ∧ allN (fun c => s.three a b c) c = true) (fun t h => allN (fun c => s.three a b c) n = true) (by simp) (by omega) ?_ ?_
                      · rintro c t3 hh hf hc ⟨r7, hj3⟩
                        (have r1 := hf 1 (by kernel_rfl); have r3 := hf 3 (by kernel_rfl); have r5 := hf 5 (by kernel_rfl); have r6 := hf 6 (by kernel_rfl); clear hf; simp [q1, q3, q5, q6] at r1 r3 r5 r6)
                        simp (disch := omega) [r1, r3, r5, r6, r7]
                        (with_reducible first | refine onBoolT (fun h10 => ?_) (fun h10 => ?_) | refine onBoolF (fun h10 => ?_) (fun h10 => ?_))
                        · have hGc := GSys.Glt h10
                          simp only [ltB_true, ltB_false, leB_true, leB_false, eqB_true, eqB_false, Bool.not_true, Bool.not_false] at h10
                          simp (disch := omega) [r1, r3, r5, r6, r7]
                          repeat' (first
    | with_reducible refine onCall_eq (lawsOf_ok t hGa hGb hGc) (by simp) ?_
    | (with_reducible (first | refine onBoolT (fun hb_ => ?_) (fun hb_ => ?_) | refine onBoolF (fun hb_ => ?_) (fun hb_ => ?_)) <;> simp (disch := omega) [hb_, r1, r3, r5, r6, r7])
    | simp (disch := omega) [r1, r3, r5, r6, r7])
                          · refine ⟨by omega, i64_wrap (by omega), by simp [allN_succ, hj3, hb_]⟩
                          · exact allN_at (i := a) (by omega) (by simp [GSys.sysB, h7, allN_at (p := fun b => s.sysC n a b) (i := b) (n := n) (by omega) (by simp [GSys.sysC, h9, allN_at (p := fun c => s.three a b c) (i := c) (n := n) (by omega) (by simpa using hb_)])])
                        · simp only [ltB_true, ltB_false, leB_true, leB_false, eqB_true, eqB_false, Bool.not_true, Bool.not_false] at h10
                          simp (disch := omega)
                          rw [← hj3, show c = n by omega]
                      · rintro t4 hh hf hj3
                        (have r1 := hf 1 (by kernel_rfl); have r3 := hf 3 (by kernel_rfl); have r5 := hf 5 (by kernel_rfl); have r6 := hf 6 (by kernel_rfl); clear hf; simp [q1, q3, q5, q6] at r1 r3 r5 r6)
                        simp (disch := omega) [r1, r3, r5, r6]
                        exact ⟨by omega, i64_wrap (by omega), by simp [allN_succ, hj2, show s.sysC n a b = true by simp [GSys.sysC, h9, hj3]]⟩
                    · simp (disch := omega)
                      exact allN_at (i := a) (by omega) (by simp [GSys.sysB, h7, allN_at (p := fun b => s.sysC n a b) (i := b) (n := n) (by omega) (by simp_all [GSys.sysC])])
                · simp only [ltB_true, ltB_false, leB_true, leB_false, eqB_true, eqB_false, Bool.not_true, Bool.not_false] at h8
                  simp (disch := omega)
                  rw [← hj2, show b = n by omega]
              · rintro t4 hh hf hj2
                (have r1 := hf 1 (by kernel_rfl); have r3 := hf 3 (by kernel_rfl); have r5 := hf 5 (by kernel_rfl); clear hf; simp [f1, f3, f5] at r1 r3 r5)
                simp (disch := omega) [r1, r3, r5]
                exact ⟨by omega, i64_wrap (by omega), by simp [allN_succ, hj, show s.sysB n a = true by simp [GSys.sysB, h7, hj2]]⟩
            · simp (disch := omega)
              exact allN_at (i := a) (by omega) (by simp_all [GSys.sysB])
        · simp only [ltB_true, ltB_false, leB_true, leB_false, eqB_true, eqB_false, Bool.not_true, Bool.not_false] at h6
          simp (disch := omega)
          rw [← hj, show a = n by omega]
  · simp_all [GSys.tabB, GSys.sys]
end Go.Proofs.YtclfngbealdbgaaGreat
namespace Go.Proofs.YtclfngbealdbgaaGreat
open Go Go.TL
open Go.Proofs.YtclfngbealdbgaaGreat.Ty
set_option linter.unusedSimpArgs false
set_option linter.unusedVariables false
set_option maxRecDepth 20000
set_option maxHeartbeats 4000000
def numB (nv size : Int) (closed : Bool) (op n : Int) : Bool :=
  if eqB op 0 = true then within n 0 (nv - 1) else if eqB op 1 = true then within n 0 2 else if hasB op = true then ltB n size && (leB (-1) n && (!closed || leB 0 n)) else eqB n 0
def tyB (size : Int) (closed : Bool) (op : Int) (ty : List Int) : Bool := if typedB op = true then wty ty && gradedB size closed ty else eqB ty.length 0
def nodeB (nv size : Int) (closed : Bool) (op n : Int) (ty : List Int) (len : Nat) : Bool := eqB len (manyI op) && (numB nv size closed op n && tyB size closed op ty)
mutual
def formB (nv size : Int) (closed : Bool) : GTerm → Bool
  | .mk op n _ ty _ ks => nodeB nv size closed op n ty ks.length && formsB nv size closed op 0 ks
def formsB (nv size : Int) (closed : Bool) (op : Int) (k : Nat) : List GTerm → Bool
  | [] => true
  | t :: ts => formB (nv + addsI op k) size closed t && formsB nv size closed op (k + 1) ts
end
theorem l2Node_ok (nv size : Int) (closed : Bool) (t : GTerm) (hw : t.wf) (hs : I64 size) (hv : 0 ≤ nv ∧ nv ≤ 1000000) :
    Gives Tryz.prog n_spec_l2Node [t.lv, N nv, N size, B closed] (· = B (match t with | .mk op n _ ty _ ks => nodeB nv size closed op n ty ks.length)) := by
  obtain ⟨op, n, nl1, ty, nl2, ks⟩ := t
  simp only [GTerm.wf] at hw
  obtain ⟨hop, hn, hty, hk, hks⟩ := hw
  refine Gives.of_codeOf c_spec_l2Node mixed (by simp) ⟨_, rfl, by simp⟩ ?_
  simp (disch := omega) [k_spec_l2Node, boxLV, frzLV, GTerm.cells]
  repeat' (first
    | with_reducible refine onCall_eq (l2Many_ok op) (by simp) ?_
    | with_reducible refine onCall_eq (in_ok _ _ _) (by simp) ?_
    | with_reducible refine onCall_eq (l2Has_ok op) (by simp) ?_
    | with_reducible refine onCall_eq (l2Typed_ok op) (by simp) ?_
    | with_reducible refine onCall_eq (l2Type_ok nl1 ty hty) (by simp) ?_
    | with_reducible refine onCall_eq (l2Graded_ok nl1 ty hty size hs _) (by simp) ?_
    | (with_reducible (first | refine onBoolT (fun hb_ => ?_) (fun hb_ => ?_) | refine onBoolF (fun hb_ => ?_) (fun hb_ => ?_)) <;> simp (disch := omega) [hb_, i64_wrap])
    | simp (disch := omega) [i64_wrap])
  all_goals simp_all [nodeB, numB, tyB, ltB_not]
theorem l2Left_ok : ∀ (d : Nat) (t : GTerm), t.size ≤ d → t.wf → ∀ left : Int, 0 ≤ left → left ≤ 1000000 → Gives Tryz.prog n_spec_l2Left [t.lv, N left] (· = N (leftI t.size left)) := by
  intro d
  induction d with
  | zero => intro t h; have := t.size_pos; omega
  | succ d ih =>
    rintro ⟨op, n, nl1, ty, nl2, ks⟩ hd hw left h0 h1
    simp only [GTerm.wf] at hw
    obtain ⟨hop, hn, hty, hk, hks⟩ := hw
    simp only [GTerm.size, GTerm.lv, GTerm.cells] at hd ⊢
    refine Gives.of_codeOf c_spec_l2Left mixed (by simp) ⟨_, rfl, by simp⟩ ?_
    simp (disch := omega) [k_spec_l2Left, boxLV, frzLV, GTerm.cells, i64_wrap]
    refine wpC_for ks.length 0 (fun i t _ => ∃ m : Int, t 5 = N i ∧ t 1 = N m ∧ -1 ≤ m ∧ m ≤ left ∧ leftI (sizes ks + 1) left = leftI (sizes (ks.drop i)) m) ⟨left - 1, by simp, by simp, by omega, by omega, by unfold leftI; simp; split <;> split <;> omega⟩ (by omega) ?_
    rintro i t1 hh hf hi ⟨m, e5, e1, hm, hml, he⟩
    (have e2 := hf 2 (by kernel_rfl); clear hf; simp [] at e2)
    simp (disch := omega) [e1, e2, e5]
    (with_reducible first | refine onBoolT (fun h6 => ?_) (fun h6 => ?_) | refine onBoolF (fun h6 => ?_) (fun h6 => ?_))
    · simp (disch := omega) [e1, e2, e5, h6]
      simp only [ltB_true, ltB_false, leB_true, leB_false, eqB_true, eqB_false, Bool.not_true, Bool.not_false] at h6
      have hsd := sizes_drop (ks := ks) (i := i) (by omega)
      have hsk := size_kid (ks := ks) (i := i) (by omega)
      have hwk : (ks[i]'(by omega)).wf := wfs_iff.1 hks _ (List.getElem_mem _)
      (with_reducible first | refine onBoolT (fun h7 => ?_) (fun h7 => ?_) | refine onBoolF (fun h7 => ?_) (fun h7 => ?_))
      · simp only [ltB_true, ltB_false, leB_true, leB_false, eqB_true, eqB_false, Bool.not_true, Bool.not_false] at h7
        have hc := ih (ks[i]'(by omega)) (by omega) hwk m h7 (by omega)
        simp (disch := omega) [e1, e2, e5, idx_T]
        repeat' (first
    | with_reducible refine onCall_eq (hc) (by simp) ?_
    | (with_reducible (first | refine onBoolT (fun hb_ => ?_) (fun hb_ => ?_) | refine onBoolF (fun hb_ => ?_) (fun hb_ => ?_)) <;> simp (disch := omega) [hb_, e1, e2, e5])
    | simp (disch := omega) [e1, e2, e5])
        rw [he, hsd]
        refine ⟨by omega, i64_wrap (by omega), ?_⟩
        unfold leftI; repeat' split
        all_goals omega
      · simp only [ltB_true, ltB_false, leB_true, leB_false, eqB_true, eqB_false, Bool.not_true, Bool.not_false] at h7
        simp (disch := omega) [e1, e2, e5]
        rw [he, show m = -1 by omega]; unfold leftI; split <;> omega
    · simp (disch := omega) [e1, e2, e5, h6]
      simp only [ltB_true, ltB_false, leB_true, leB_false, eqB_true, eqB_false, Bool.not_true, Bool.not_false] at h6
      rw [he, show i = ks.length by omega, List.drop_length]; simp [sizes, leftI]; try omega
theorem l2Term_ok (size : Int) (closed : Bool) (hs : I64 size) : ∀ (d : Nat) (t : GTerm), t.size ≤ d → t.wf → ∀ nv : Int, 0 ≤ nv → nv + 2 * t.size ≤ 1000000 → Gives Tryz.prog n_spec_l2Term [t.lv, N nv, N size, B closed] (· = B (formB nv size closed t)) := by
  intro d
  induction d with
  | zero => intro t h; have := t.size_pos; omega
  | succ d ih =>
    rintro ⟨op, n, nl1, ty, nl2, ks⟩ hd hw nv h0 h1
    have hN := l2Node_ok nv size closed (.mk op n nl1 ty nl2 ks) hw hs ⟨h0, by omega⟩
    simp only [GTerm.wf] at hw
    obtain ⟨hop, hn, hty, hk, hks⟩ := hw
    simp only [GTerm.size, GTerm.lv, GTerm.cells] at hd h1 hN ⊢
    refine Gives.of_codeOf c_spec_l2Term mixed (by simp) ⟨_, rfl, by simp⟩ ?_
    simp (disch := omega) [k_spec_l2Term, boxLV, frzLV, GTerm.cells]
    refine onCall_eq hN (by simp) ?_
    simp (disch := omega)
    (with_reducible first | refine onBoolT (fun h3 => ?_) (fun h3 => ?_) | refine onBoolF (fun h3 => ?_) (fun h3 => ?_))
    · simp (disch := omega)
      refine wpC_for ks.length 0 (fun i t _ => t 9 = N i ∧ formB nv size closed (.mk op n nl1 ty nl2 ks) = formsB nv size closed op i (ks.drop i)) (by simp [formB, h3]) (by omega) ?_
      rintro i t1 hh hf hi ⟨e9, he⟩
      (have e1 := hf 1 (by kernel_rfl); have e2 := hf 2 (by kernel_rfl); have e3 := hf 3 (by kernel_rfl); have e4 := hf 4 (by kernel_rfl); clear hf; simp [] at e1 e2 e3 e4)
      simp (disch := omega) [e1, e2, e3, e4, e9]
      (with_reducible first | refine onBoolT (fun h6 => ?_) (fun h6 => ?_) | refine onBoolF (fun h6 => ?_) (fun h6 => ?_))
      · simp only [ltB_true, ltB_false, leB_true, leB_false, eqB_true, eqB_false, Bool.not_true, Bool.not_false] at h6
        have hsk := size_kid (ks := ks) (i := i) (by omega)
        have hwk : (ks[i]'(by omega)).wf := wfs_iff.1 hks _ (List.getElem_mem _)
        have hA : 0 ≤ addsI op i ∧ addsI op i ≤ 2 := by unfold addsI; repeat' split
                                                        all_goals omega
        have hc := ih (ks[i]'(by omega)) (by omega) hwk (nv + addsI op i) (by omega) (by omega)
        have hfd : formsB nv size closed op i (ks.drop i) = (formB (nv + addsI op i) size closed (ks[i]'(by omega)) && formsB nv size closed op (i + 1) (ks.drop (i + 1))) := by
          rw [List.drop_eq_getElem_cons (by omega), formsB]
        simp (disch := omega) [e1, e2, e3, e4, e9, idx_T]
        repeat' (first
    | with_reducible refine onCall_eq (l2Adds_ok op i) (by simp) ?_
    | with_reducible refine onCall_eq (hc) (by simp) ?_
    | (with_reducible (first | refine onBoolT (fun hb_ => ?_) (fun hb_ => ?_) | refine onBoolF (fun hb_ => ?_) (fun hb_ => ?_)) <;> simp (disch := omega) [hb_, e1, e2, e3, e4, e9, i64_wrap])
    | simp (disch := omega) [e1, e2, e3, e4, e9, i64_wrap])
        · exact ⟨by omega, by rw [he, hfd, hb_, Bool.true_and]⟩
        · rw [he, hfd, hb_, Bool.false_and]
      · simp only [ltB_true, ltB_false, leB_true, leB_false, eqB_true, eqB_false, Bool.not_true, Bool.not_false] at h6
        simp (disch := omega) [e1, e2]
        rw [he, show i = ks.length by omega, List.drop_length]; simp [formsB]
    · simp (disch := omega)
      simp [formB, h3]
end Go.Proofs.YtclfngbealdbgaaGreat
namespace Go.Proofs.YtclfngbealdbgaaGreat
open Go Go.TL
open Go.Proofs.YtclfngbealdbgaaGreat.Ty
set_option linter.unusedSimpArgs false
set_option linter.unusedVariables false
set_option linter.unusedSectionVars false
set_option maxRecDepth 20000
set_option maxHeartbeats 4000000
def FnB (P : Program) (f v : LV) (b : Bool) : Prop := ∃ fid vals, fnArgs f [v] = some (fid, vals) ∧ LowAll 0 vals ∧ Gives P fid vals (· = B b)
theorem onFn_B {P : Program} {f v : LV} {b : Bool} {d : Nat} {K : St → Prop} {s : St} (h : FnB P f v b) (hk : K { t := upd s.t d (B b), h := s.h }) : onFn P .no f [v] (some d) K s := by
  obtain ⟨fid, vals, h1, h2, h3⟩ := h
  exact ⟨fid, vals, h1, onCall_eq (rw := .no) h3 h2 hk⟩
def numG (pg : Int → Bool) (nv : Int) (op n : Int) : Bool :=
  if eqB op 0 = true then within n 0 (nv - 1) else if eqB op 1 = true then within n 0 2 else if hasB op = true then pg n else eqB n 0
def tyG (pt : List Int → Bool) (op : Int) (ty : List Int) : Bool := if typedB op = true then pt ty else eqB ty.length 0
def nodeG (pg : Int → Bool) (pt : List Int → Bool) (nv : Int) (op n : Int) (ty : List Int) (len : Nat) : Bool := eqB len (manyI op) && (numG pg nv op n && tyG pt op ty)
mutual
def formG (pg : Int → Bool) (pt : List Int → Bool) (nv : Int) : GTerm → Bool
  | .mk op n _ ty _ ks => nodeG pg pt nv op n ty ks.length && formsG pg pt nv op 0 ks
def formsG (pg : Int → Bool) (pt : List Int → Bool) (nv : Int) (op : Int) (k : Nat) : List GTerm → Bool
  | [] => true
  | t :: ts => formG pg pt (nv + addsI op k) t && formsG pg pt nv op (k + 1) ts
end
section
variable {pg : Int → Bool} {pt : List Int → Bool} {size : Int} {closed : Bool} (hg : ∀ n, pg n = (ltB n size && (leB (-1) n && (!closed || leB 0 n)))) (ht : ∀ ty, pt ty = (wty ty && gradedB size closed ty))
include hg ht
mutual
theorem formG_eq : ∀ (t : GTerm) (nv : Int), formG pg pt nv t = formB nv size closed t
  | .mk op n nl1 ty nl2 ks, nv => by
    simp only [formG, formB, formsG_eq ks, nodeG, nodeB, numG, numB, tyG, tyB, hg, ht]
theorem formsG_eq : ∀ (ks : List GTerm) (nv op : Int) (k : Nat), formsG pg pt nv op k ks = formsB nv size closed op k ks
  | [], _, _, _ => by simp [formsG, formsB]
  | t :: ts, nv, op, k => by simp only [formsG, formsB, formG_eq t, formsG_eq ts]
end
end
def chkI (f : Bool) (nodes : Int) (sz : Nat) : Int := if f = true ∧ nodes + sz ≤ 400 then nodes + sz else 401
theorem many_form {op : Int} (h : within op 0 12 = false) : manyI op = -1 := by
  rw [within_false] at h
  unfold manyI; repeat' split
  all_goals omega
theorem many_form' {op : Int} {n : Nat} (h : eqB n (manyI op) = true) : within op 0 12 = true := by
  cases hc : within op 0 12 with
  | true => rfl
  | false => rw [many_form hc, eqB_true] at h; omega
theorem check_ok (fg ft : LV) (pg : Int → Bool) (pt : List Int → Bool) (sg : share fg = fg) (st : share ft = ft) (lg : Low 0 fg) (lt : Low 0 ft)
    (hg : ∀ n, I64 n → FnB Tryz.prog fg (N n) (pg n)) (ht : ∀ nl ty, Lok ty → FnB Tryz.prog ft (L nl ty) (pt ty)) : ∀ (d : Nat) (t : GTerm), t.size ≤ d → t.wf → ∀ nv nodes : Int, 0 ≤ nodes → nodes ≤ 400 → 0 ≤ nv → nv ≤ 8 + 2 * nodes →
    Gives Tryz.prog n_impl_check [t.lv, N nv, fg, ft, N nodes] (· = N (chkI (formG pg pt nv t) nodes t.size)) := by
  intro d
  induction d with
  | zero => intro t h; have := t.size_pos; omega
  | succ d ih =>
    rintro ⟨op, n, nl1, ty, nl2, ks⟩ hd hw nv nodes h0 h1 h2 h3
    simp only [GTerm.wf] at hw
    obtain ⟨hop, hn, hty, hk, hks⟩ := hw
    simp only [GTerm.size, GTerm.lv, GTerm.cells] at hd ⊢
    refine Gives.of_codeOf c_impl_check mixed (by simp) ⟨_, rfl, by simp⟩ ?_
    simp (disch := omega) [k_impl_check, boxLV, frzLV, GTerm.cells, i64_wrap, sg, st]
    refine onCall_eq (formOf_ok op) (by simp) ?_
    by_cases hf : within op 0 12 = true
    · rw [formV, if_pos hf]
      simp (disch := omega) [sg, st]
      (with_reducible first | refine onBoolT (fun h4 => ?_) (fun h4 => ?_) | refine onBoolF (fun h4 => ?_) (fun h4 => ?_))
      · simp (disch := omega) [h4]
        simp only [ltB_true, ltB_false, leB_true, leB_false, eqB_true, eqB_false, Bool.not_true, Bool.not_false] at h4
        unfold chkI; rw [if_neg (by omega)]
      · simp (disch := omega) [h4]
        simp only [ltB_true, ltB_false, leB_true, leB_false, eqB_true, eqB_false, Bool.not_true, Bool.not_false] at h4
        (with_reducible first | refine onBoolT (fun h5 => ?_) (fun h5 => ?_) | refine onBoolF (fun h5 => ?_) (fun h5 => ?_))
        · simp only [wpC_skip, thenL_normal]
          refine wpC_cut (fun t h => t 12 = B (numG pg nv op n) ∧ h[1]? = some (some [wordV op, N (manyI op), B (hasB op), B (typedB op)])) ?_ ?_
          · repeat' (first
    | with_reducible refine onCall_eq (within_ok _ _ _) (by simp) ?_
    | with_reducible refine onFn_B (hg n hn) ?_
    | (with_reducible (first | refine onBoolT (fun hb_ => ?_) (fun hb_ => ?_) | refine onBoolF (fun hb_ => ?_) (fun hb_ => ?_)) <;> simp (disch := omega) [hb_, sg, st, i64_wrap])
    | simp (disch := omega) [sg, st, i64_wrap])
            all_goals simp_all [numG]
          · rintro t1 hh hf1 ⟨e12, eh⟩
            (have e1 := hf1 1 (by kernel_rfl); have e2 := hf1 2 (by kernel_rfl); have e3 := hf1 3 (by kernel_rfl); have e4 := hf1 4 (by kernel_rfl); have e5 := hf1 5 (by kernel_rfl); have e11 := hf1 11 (by kernel_rfl); clear hf1; simp [sg, st] at e1 e2 e3 e4 e5 e11)
            obtain ⟨q, hq⟩ : ∃ q, (numG pg nv op n && tyG pt op ty) = q := ⟨_, rfl⟩
            refine wpC_cut (fun t h => t 12 = B q) ?_ ?_
            · repeat' (first
    | with_reducible refine onFn_B (ht nl1 ty hty) ?_
    | (with_reducible (first | refine onBoolT (fun hb_ => ?_) (fun hb_ => ?_) | refine onBoolF (fun hb_ => ?_) (fun hb_ => ?_)) <;> simp (disch := omega) [hb_, sg, st, e1, e2, e3, e4, e5, e11, e12, eh])
    | simp (disch := omega) [sg, st, e1, e2, e3, e4, e5, e11, e12, eh])
              all_goals rw [← hq]
              all_goals simp_all [tyG]
            · rintro t2 hh hf1 f12
              (have f1 := hf1 1 (by kernel_rfl); have f2 := hf1 2 (by kernel_rfl); have f3 := hf1 3 (by kernel_rfl); have f4 := hf1 4 (by kernel_rfl); have f5 := hf1 5 (by kernel_rfl); clear hf1; simp [e1, e2, e3, e4, e5] at f1 f2 f3 f4 f5)
              simp (disch := omega) [f12]
              (with_reducible first | refine onBoolT (fun h6 => ?_) (fun h6 => ?_) | refine onBoolF (fun h6 => ?_) (fun h6 => ?_))
              · have hN : nodeG pg pt nv op n ty ks.length = true := by simp only [nodeG, h5, hq, h6, Bool.true_and]
                simp (disch := omega) [f1, f2, f3, f4, f5]
                refine wpC_for ks.length 0 (fun i t _ => ∃ nd : Int, t 84 = N i ∧ t 4 = N nd ∧ nodes + 1 ≤ nd ∧ nd ≤ 400 ∧ chkI (formG pg pt nv (.mk op n nl1 ty nl2 ks)) nodes (sizes ks + 1) = chkI (formsG pg pt nv op i (ks.drop i)) nd (sizes (ks.drop i)))
                  ⟨nodes + 1, by simp, by simp [f4], by omega, by omega, ?_⟩ (by omega) ?_
                · simp only [formG, hN, Bool.true_and, List.drop_zero, chkI]
                  congr 1 <;> grind
                rintro i t3 hh hf1 hi ⟨nd, g84, g4, hnd, hnd2, he⟩
                (have g1 := hf1 1 (by kernel_rfl); have g2 := hf1 2 (by kernel_rfl); have g3 := hf1 3 (by kernel_rfl); have g5 := hf1 5 (by kernel_rfl); have g82 := hf1 82 (by kernel_rfl); have g83 := hf1 83 (by kernel_rfl); clear hf1; simp [f1, f2, f3, f5] at g1 g2 g3 g5 g82 g83)
                simp (disch := omega) [g1, g2, g3, g4, g5, g82, g83, g84]
                (with_reducible first | refine onBoolT (fun h7 => ?_) (fun h7 => ?_) | refine onBoolF (fun h7 => ?_) (fun h7 => ?_))
                · simp only [ltB_true, ltB_false, leB_true, leB_false, eqB_true, eqB_false, Bool.not_true, Bool.not_false] at h7
                  have hsd := sizes_drop (ks := ks) (i := i) (by omega)
                  have hsk := size_kid (ks := ks) (i := i) (by omega)
                  have hwk : (ks[i]'(by omega)).wf := wfs_iff.1 hks _ (List.getElem_mem _)
                  have hA : 0 ≤ addsI op i ∧ addsI op i ≤ 2 := by unfold addsI; repeat' split
                                                                  all_goals omega
                  have hc := ih (ks[i]'(by omega)) (by omega) hwk (nv + addsI op i) nd (by omega) (by omega) (by omega) (by omega)
                  have hfd : formsG pg pt nv op i (ks.drop i) = (formG pg pt (nv + addsI op i) (ks[i]'(by omega)) && formsG pg pt nv op (i + 1) (ks.drop (i + 1))) := by
                    rw [List.drop_eq_getElem_cons (by omega), formsG]
                  simp (disch := omega) [g1, g2, g3, g4, g5, g82, g83, g84, idx_T, sg, st]
                  repeat' (first
    | with_reducible refine onCall_eq (adds_ok op i) (by simp) ?_
    | with_reducible refine onCall_eq hc (by simp [lg, lt]) ?_
    | (with_reducible (first | refine onBoolT (fun hb_ => ?_) (fun hb_ => ?_) | refine onBoolF (fun hb_ => ?_) (fun hb_ => ?_)) <;> simp (disch := omega) [hb_, g1, g2, g3, g4, g5, g82, g83, g84, i64_wrap, sg, st])
    | simp (disch := omega) [g1, g2, g3, g4, g5, g82, g83, g84, i64_wrap, sg, st])
                  all_goals simp only [ltB_true, ltB_false, leB_true, leB_false, eqB_true, eqB_false, Bool.not_true, Bool.not_false] at hb_
                  all_goals rw [he, hfd, hsd]
                  · unfold chkI at hb_ ⊢
                    grind
                  · refine ⟨by omega, ?_⟩
                    unfold chkI at hb_ ⊢
                    grind
                · simp only [ltB_true, ltB_false, leB_true, leB_false, eqB_true, eqB_false, Bool.not_true, Bool.not_false] at h7
                  simp (disch := omega) [g4]
                  rw [he, show i = ks.length by omega, List.drop_length]; simp [formsG, chkI, sizes]; omega
              · simp (disch := omega)
                unfold chkI formG nodeG; rw [hq]; simp [h5, h6]
        · simp (disch := omega)
          unfold chkI formG nodeG; simp [h5]
    · simp only [Bool.not_eq_true] at hf
      rw [formV, if_neg (by simp [hf])]
      simp (disch := omega) [sg, st]
      unfold chkI formG nodeG
      rw [many_form hf, show eqB (ks.length : Int) (-1) = false by rw [eqB_false]; omega]
      simp
def GTerm.writ (t : GTerm) : Bool := decide (t.size ≤ 400) && formB 8 16 false t
end Go.Proofs.YtclfngbealdbgaaGreat
namespace Go.Proofs.YtclfngbealdbgaaGreat
open Go Go.TL
open Go.Proofs.YtclfngbealdbgaaGreat.Ty
set_option linter.unusedSimpArgs false
set_option linter.unusedVariables false
set_option maxRecDepth 20000
set_option maxHeartbeats 4000000
def okT (size : Int) (c : Bool × List Int) : Bool := wty c.2 && gradedB size true c.2
def okAt (size : Int) (ctx : GCtx) (i : Nat) : Bool := okT size (ctx.getD i (true, []))
theorem okAt_in {size : Int} {ctx : GCtx} {i : Nat} (h : i < ctx.length) : okAt size ctx i = okT size ctx[i] := by simp [okAt, h]
def ctxB (size : Int) (ctx : GCtx) : Bool := leB ctx.length 8 && allN (okAt size ctx) ctx.length
theorem l3Context_ok (s : GSys) (t : s.Tab) (nl : Bool) (ctx : GCtx) (hw : ctx.wf) : Gives Tryz.prog n_spec_l3Context [s.lv, LC nl ctx] (· = B (ctxB s.size ctx)) := by
  refine Gives.of_codeOf c_spec_l3Context mixed (by simp) ⟨_, rfl, by simp⟩ ?_
  have h2 := t.lo; have h16 := t.hi
  have hlen := hw.1
  have hI : I64 s.size := ⟨by omega, by omega⟩
  simp (disch := omega) [k_spec_l3Context, boxLV, frzLV]
  (with_reducible first | refine onBoolT (fun h1 => ?_) (fun h1 => ?_) | refine onBoolF (fun h1 => ?_) (fun h1 => ?_))
  · simp (disch := omega)
    rw [ltB_not] at h1; simp at h1; simp [ctxB, h1]
  · simp (disch := omega)
    have e8 : ctxB s.size ctx = allN (okAt s.size ctx) ctx.length := by rw [ltB_not] at h1; simp at h1; simp [ctxB, h1]
    rw [e8]
    refine wpC_for ctx.length 0 (fun i t _ => t 5 = N i ∧ allN (okAt s.size ctx) i = true) (by simp) (by omega) ?_
    rintro i t1 hh hf hi ⟨e5, hj⟩
    (have e1 := hf 1 (by kernel_rfl); have e2 := hf 2 (by kernel_rfl); clear hf; simp [] at e1 e2)
    simp (disch := omega) [e1, e2, e5]
    (with_reducible first | refine onBoolT (fun h6 => ?_) (fun h6 => ?_) | refine onBoolF (fun h6 => ?_) (fun h6 => ?_))
    · simp only [ltB_true, ltB_false, leB_true, leB_false, eqB_true, eqB_false, Bool.not_true, Bool.not_false] at h6
      have hL : Lok (ctx[i]'(by omega)).2 := hw.2 _ (List.getElem_mem _)
      have ha := okAt_in (size := s.size) (ctx := ctx) (i := i) (by omega)
      simp (disch := omega) [e1, e2, e5, idx_C]
      rcases h : ctx[i]'(by omega) with ⟨nl1, ty⟩
      rw [h] at hL ha
      simp only at hL
      repeat' (first
    | with_reducible refine onCall_eq (l2Type_ok nl1 ty hL) (by simp) ?_
    | with_reducible refine onCall_eq (l2Graded_ok nl1 ty hL s.size hI true) (by simp) ?_
    | (with_reducible (first | refine onBoolT (fun hb_ => ?_) (fun hb_ => ?_) | refine onBoolF (fun hb_ => ?_) (fun hb_ => ?_)) <;> simp (disch := omega) [hb_, e1, e2, e5, idx_C, h])
    | simp (disch := omega) [e1, e2, e5, idx_C, h])
      all_goals first
        | exact ⟨by omega, i64_wrap (by omega), by simp_all [allN_succ, okT]⟩
        | exact (allN_at (p := okAt s.size ctx) (i := i) (by omega) (by simp_all [okT]))
    · simp only [ltB_true, ltB_false, leB_true, leB_false, eqB_true, eqB_false, Bool.not_true, Bool.not_false] at h6
      simp (disch := omega)
      rw [show i = ctx.length by omega] at hj
      rw [hj]
theorem isContext_1_ok (s : GSys) (t : s.Tab) (c : Bool × List Int) (hL : Lok c.2) : FnB Tryz.prog (.fn n_impl_isContext_1 [.rp s.cells]) (eC c) (!okT s.size c) := by
  refine ⟨n_impl_isContext_1, [eC c, .rp s.cells], by simp [fnArgs], by simp, ?_⟩
  refine Gives.of_codeOf c_impl_isContext_1 mixed (by simp) ⟨_, rfl, by simp⟩ ?_
  obtain ⟨nl1, ty⟩ := c
  simp (disch := omega) [k_impl_isContext_1]
  repeat' (first
    | with_reducible refine onCall_eq (isTypeOf_ok t nl1 ty hL) (by simp) ?_
    | (with_reducible (first | refine onBoolT (fun hb_ => ?_) (fun hb_ => ?_) | refine onBoolF (fun hb_ => ?_) (fun hb_ => ?_)) <;> simp (disch := omega) [hb_])
    | simp (disch := omega))
  all_goals simp [okT]
theorem IndexFunc_ok (f : LV) (p : Bool × List Int → Bool) (sf : share f = f) (lf : Low 0 f) (nl : Bool) (ctx : GCtx) (hw : ctx.wf) (hp : ∀ c ∈ ctx, FnB Tryz.prog f (eC c) (p c)) :
    Gives Tryz.prog n_slices_IndexFunc_____int___int_ [LC nl ctx, f] (fun r => ∃ n : Int, r = N n ∧ leB 0 n = ctx.any p) := by
  have hlen := hw.1
  refine Gives.of_codeOf c_slices_IndexFunc_____int___int_ mixed (by simp) ⟨N (if ctx.any p = true then 0 else -1), ⟨_, rfl, by split <;> simp_all [leB]⟩, by simp⟩ ?_
  simp (disch := omega) [k_slices_IndexFunc_____int___int_]
  refine wpC_for ctx.length 0 (fun i t _ => t 8 = N i ∧ ctx.any p = (ctx.drop i).any p) (by simp) (by omega) ?_
  rintro i t1 hh hf hi ⟨e8, hj⟩
  (have e0 := hf 0 (by kernel_rfl); have e1 := hf 1 (by kernel_rfl); have e6 := hf 6 (by kernel_rfl); have e7 := hf 7 (by kernel_rfl); clear hf; simp [sf] at e0 e1 e6 e7)
  simp (disch := omega) [e0, e1, e6, e7, e8]
  (with_reducible first | refine onBoolT (fun h6 => ?_) (fun h6 => ?_) | refine onBoolF (fun h6 => ?_) (fun h6 => ?_))
  · simp only [ltB_true, ltB_false, leB_true, leB_false, eqB_true, eqB_false, Bool.not_true, Bool.not_false] at h6
    have hd := List.drop_eq_getElem_cons (l := ctx) (i := i) (by omega)
    have hpc := hp (ctx[i]'(by omega)) (List.getElem_mem _)
    simp (disch := omega) [e0, e1, e6, e7, e8, idx_C, sf]
    repeat' (first
    | with_reducible refine onFn_B hpc ?_
    | (with_reducible (first | refine onBoolT (fun hb_ => ?_) (fun hb_ => ?_) | refine onBoolF (fun hb_ => ?_) (fun hb_ => ?_)) <;> simp (disch := omega) [hb_, e0, e1, e6, e7, e8, idx_C, sf])
    | simp (disch := omega) [e0, e1, e6, e7, e8, idx_C, sf])
    · rw [hj, hd, List.any_cons, hb_, Bool.true_or, leB_true]; omega
    · exact ⟨by omega, i64_wrap (by omega), by rw [hj, hd, List.any_cons, hb_, Bool.false_or]⟩
  · simp only [ltB_true, ltB_false, leB_true, leB_false, eqB_true, eqB_false, Bool.not_true, Bool.not_false] at h6
    simp (disch := omega)
    rw [hj, show i = ctx.length by omega, List.drop_length]; simp [leB]
theorem onCall_R {P : Program} {K : St → Prop} {s : St} {rw : Rw} {d : Nat} {f : FuncId} {vals : List LV} {R : LV → Prop} (c : Gives P f vals R) (hl : LowAll 0 vals) (hk : ∀ r, R r → K { t := upd s.t d r, h := s.h }) (hrw : rw ≠ .fr := by simp) : onCall P rw f vals (some d) K s := onCall_gives c hl hk hrw
theorem ContainsFunc_ok (f : LV) (p : Bool × List Int → Bool) (sf : share f = f) (lf : Low 0 f) (nl : Bool) (ctx : GCtx) (hw : ctx.wf) (hp : ∀ c ∈ ctx, FnB Tryz.prog f (eC c) (p c)) :
    Gives Tryz.prog n_slices_ContainsFunc_____int___int_ [LC nl ctx, f] (· = B (ctx.any p)) := by
  refine Gives.of_codeOf c_slices_ContainsFunc_____int___int_ mixed (by simp) ⟨_, rfl, by simp⟩ ?_
  simp (disch := omega) [k_slices_ContainsFunc_____int___int_, sf]
  refine onCall_R (IndexFunc_ok f p sf lf nl ctx hw hp) (by simp [lf]) ?_
  rintro r ⟨n, rfl, hn⟩
  simp (disch := omega) [sf, hn]
theorem any_allN {ctx : GCtx} {size : Int} : ∀ n, n ≤ ctx.length → allN (okAt size ctx) n = !((ctx.take n).any fun c => !okT size c)
  | 0, _ => by simp
  | n + 1, h => by
    rw [allN_succ, any_allN n (by omega), okAt_in (by omega), List.take_succ_eq_append_getElem (by omega), List.any_append]
    simp [Bool.not_or]
theorem isContext_ok (s : GSys) (t : s.Tab) (nl : Bool) (ctx : GCtx) (hw : ctx.wf) : Gives Tryz.prog n_impl_isContext [s.lv, LC nl ctx] (· = B (ctxB s.size ctx)) := by
  refine Gives.of_codeOf c_impl_isContext mixed (by simp) ⟨_, rfl, by simp⟩ ?_
  have hlen := hw.1
  have hc := ContainsFunc_ok (.fn n_impl_isContext_1 [.rp s.cells]) (fun c => !okT s.size c) (by simp) (by simp) nl ctx hw (fun c hc => isContext_1_ok s t c (hw.2 c hc))
  have ha := any_allN (ctx := ctx) (size := s.size) ctx.length (by omega)
  rw [List.take_length] at ha
  simp (disch := omega) [k_impl_isContext, boxLV, frzLV]
  repeat' (first
    | with_reducible refine onCall_eq (hc) (by simp) ?_
    | (with_reducible (first | refine onBoolT (fun hb_ => ?_) (fun hb_ => ?_) | refine onBoolF (fun hb_ => ?_) (fun hb_ => ?_)) <;> simp (disch := omega) [hb_])
    | simp (disch := omega))
  all_goals simp_all [ctxB]
structure GSes where
  sys : GSys
  nl : Bool
  ctx : GCtx
  term : GTerm
def GSes.cells (x : GSes) : List LV := x.sys.cells ++ (LC x.nl x.ctx :: x.term.cells)
abbrev GSes.lv (x : GSes) : LV := .agg x.cells
def GSes.wf (x : GSes) : Prop := x.sys.wf ∧ x.ctx.wf ∧ x.term.wf
def GSes.ok (x : GSes) : Bool := x.sys.sys && (ctxB x.sys.size x.ctx && x.term.writ)
end Go.Proofs.YtclfngbealdbgaaGreat
namespace Go.Proofs.YtclfngbealdbgaaGreat
open Go Go.TL
set_option linter.unusedSimpArgs false
set_option linter.unusedVariables false
set_option maxRecDepth 20000
set_option maxHeartbeats 4000000
def Rok (l : List Int) : Prop := l.length ≤ 9223372036854775807 ∧ ∀ n ∈ l, I64 n
def GSys.raw (s : GSys) : Prop := I64 s.size ∧ Rok s.plus ∧ Rok s.times ∧ s.below.length ≤ 9223372036854775807
def GSys.w (s : GSys) : Nat := s.plus.length + (s.times.length + s.below.length)
theorem GSys.wf_of {s : GSys} (h : s.raw) (hw : s.w ≤ 1099511627776) : s.wf := by
  obtain ⟨h1, ⟨h2, h3⟩, ⟨h4, h5⟩, h6⟩ := h
  unfold GSys.w at hw
  exact ⟨h1, by omega, by omega, by omega, h3, h5⟩
def GSys.norm (s : GSys) : GSys := { s with n1 := false, n2 := false, n3 := false }
def GSys.own (s : GSys) : List LV := [N s.size, OU true false s.plus, OU true false s.times, OB true false s.below]
@[simp] theorem GSys.share_own (s : GSys) : shareAll s.own = s.norm.cells := by simp [GSys.own, GSys.norm]
@[simp] theorem GSys.low_own (s : GSys) (k : Nat) : LowAll k s.own := by simp [GSys.own]
@[simp] theorem GSys.own_length (s : GSys) : s.own.length = 4 := rfl
def GSys.same (a b : GSys) : Bool := eqB a.size b.size && ((a.plus == b.plus) && ((a.times == b.times) && (a.below == b.below)))
theorem GSys.same_refl (a : GSys) : a.same a = true := by simp [GSys.same]
theorem szSystem_ok (s : GSys) (hr : s.raw) (left : Int) (h0 : 0 ≤ left) (h1 : left ≤ 1099511627776) : Gives Tryz.prog n_laws_szSystem [s.lv, N left] (· = N (leftI s.w left)) := by
  refine Gives.of_codeOf c_laws_szSystem mixed (by simp) ⟨_, rfl, by simp⟩ ?_
  obtain ⟨_, ⟨hp, _⟩, ⟨ht, _⟩, hb⟩ := hr
  have r1 := leftI_range (a := s.plus.length) h0
  simp (disch := omega) [k_laws_szSystem, boxLV, frzLV]
  refine onCall_eq (szIntS_ok _ _ hp left h0 h1) (by simp) ?_
  simp (disch := omega)
  rw [GSys.w, leftI_add h0]
  (with_reducible first | refine onBoolT (fun h2 => ?_) (fun h2 => ?_) | refine onBoolF (fun h2 => ?_) (fun h2 => ?_))
  · simp only [ltB_true, ltB_false, leB_true, leB_false, eqB_true, eqB_false, Bool.not_true, Bool.not_false] at h2
    simp (disch := omega)
    rw [leftI_neg h2]
  simp only [ltB_true, ltB_false, leB_true, leB_false, eqB_true, eqB_false, Bool.not_true, Bool.not_false] at h2
  have r2 := leftI_range (a := s.times.length) h2
  simp (disch := omega)
  refine onCall_eq (szIntS_ok _ _ ht _ h2 (by omega)) (by simp) ?_
  simp (disch := omega)
  rw [leftI_add h2]
  (with_reducible first | refine onBoolT (fun h3 => ?_) (fun h3 => ?_) | refine onBoolF (fun h3 => ?_) (fun h3 => ?_))
  · simp only [ltB_true, ltB_false, leB_true, leB_false, eqB_true, eqB_false, Bool.not_true, Bool.not_false] at h3
    simp (disch := omega)
    rw [leftI_neg h3]
  simp only [ltB_true, ltB_false, leB_true, leB_false, eqB_true, eqB_false, Bool.not_true, Bool.not_false] at h3
  have r3 := leftI_range (a := s.below.length) h3
  simp (disch := omega)
  refine onCall_eq (szBoolS_ok _ _ hb _ h3 (by omega)) (by simp) ?_
  repeat' (first
    | (with_reducible (first | refine onBoolT (fun hb_ => ?_) (fun hb_ => ?_) | refine onBoolF (fun hb_ => ?_) (fun hb_ => ?_)) <;> simp (disch := omega) [hb_])
    | simp (disch := omega))
  all_goals simp only [ltB_true, ltB_false, leB_true, leB_false, eqB_true, eqB_false, Bool.not_true, Bool.not_false] at hb_
  all_goals omega
theorem toSystem_ok (s : GSys) (hw : s.wf) : Gives Tryz.prog n_laws_toSystem [s.lv] (· = .agg s.own) := by
  refine Gives.of_codeOf c_laws_toSystem mixed (by simp) ⟨_, rfl, by simp⟩ ?_
  obtain ⟨hs, h1, h2, h3, h4, h5⟩ := hw
  have t1 := toIntS_ok s.n1 s.plus h1
  have t2 := toIntS_ok s.n2 s.times h2
  have t3 := toBoolS_ok s.n3 s.below h3
  simp (disch := omega) [k_laws_toSystem, boxLV, frzLV]
  repeat' (first
    | with_reducible refine onCall_eq (t1) (by simp) ?_
    | with_reducible refine onCall_eq (t2) (by simp) ?_
    | with_reducible refine onCall_eq (t3) (by simp) ?_
    | (with_reducible (first | refine onBoolT (fun hb_ => ?_) (fun hb_ => ?_) | refine onBoolF (fun hb_ => ?_) (fun hb_ => ?_)) <;> simp (disch := omega) [hb_])
    | simp (disch := omega))
  all_goals simp [GSys.own]
theorem eqSystem_ok (a b : GSys) (hw : a.wf) : Gives Tryz.prog n_laws_eqSystem [a.lv, b.lv] (· = B (a.same b)) := by
  refine Gives.of_codeOf c_laws_eqSystem mixed (by simp) ⟨_, rfl, by simp⟩ ?_
  obtain ⟨hs, h1, h2, h3, h4, h5⟩ := hw
  have t1 := eqIntS_ok a.n1 b.n1 a.plus b.plus h1
  have t2 := eqIntS_ok a.n2 b.n2 a.times b.times h2
  have t3 := eqBoolS_ok a.n3 b.n3 a.below b.below h3
  rw [GSys.same]
  generalize (a.plus == b.plus) = q1 at *
  generalize (a.times == b.times) = q2 at *
  generalize (a.below == b.below) = q3 at *
  simp (disch := omega) [k_laws_eqSystem, boxLV, frzLV]
  repeat' (first
    | with_reducible refine onCall_eq (t1) (by simp) ?_
    | with_reducible refine onCall_eq (t2) (by simp) ?_
    | with_reducible refine onCall_eq (t3) (by simp) ?_
    | (with_reducible (first | refine onBoolT (fun hb_ => ?_) (fun hb_ => ?_) | refine onBoolF (fun hb_ => ?_) (fun hb_ => ?_)) <;> simp (disch := omega) [hb_])
    | simp (disch := omega))
  all_goals simp_all
def GSes.raw (x : GSes) : Prop := x.sys.raw ∧ x.ctx.raw ∧ x.term.raw
def GSes.w (x : GSes) : Nat := x.sys.w + ((x.ctx.length + cws x.ctx) + x.term.w)
theorem GSes.wf_of {x : GSes} (h : x.raw) (hw : x.w ≤ 1099511627776) : x.wf := by
  obtain ⟨h1, h2, h3⟩ := h
  unfold GSes.w at hw
  exact ⟨GSys.wf_of h1 (by omega), ⟨by omega, fun c hc => ⟨by have := cws_mem hc; omega, (h2.2 c hc).2⟩⟩, Go.Proofs.YtclfngbealdbgaaGreat.wf_of x.term h3 (by omega)⟩
def GSes.norm (x : GSes) : GSes := ⟨x.sys.norm, false, x.ctx.norm, x.term.norm⟩
def GSes.own (x : GSes) : List LV := x.sys.own ++ (x.ctx.own :: x.term.own)
@[simp] theorem shareAll_app : ∀ a b : List LV, shareAll (a ++ b) = shareAll a ++ shareAll b
  | [], b => by simp [shareAll]
  | x :: a, b => by simp [shareAll, shareAll_app a b]
@[simp] theorem lowAll_app (k : Nat) : ∀ a b : List LV, LowAll k (a ++ b) ↔ LowAll k a ∧ LowAll k b
  | [], b => by simp
  | x :: a, b => by simp [lowAll_app k a b, and_assoc]
@[simp] theorem GSes.share_own (x : GSes) : shareAll x.own = x.norm.cells := by
  simp [GSes.own, GSes.norm, GSes.cells, GCtx.norm]
@[simp] theorem GSes.low_own (x : GSes) (k : Nat) : LowAll k x.own := by simp [GSes.own]
@[simp] theorem GSes.low_cells (x : GSes) (k : Nat) : LowAll k x.cells := by simp [GSes.cells]
@[simp] theorem GSes.share_cells (x : GSes) : shareAll x.cells = x.cells := by simp [GSes.cells]
@[simp] theorem GSes.cells_length (x : GSes) : x.cells.length = 9 := by simp [GSes.cells]
@[simp] theorem GSes.own_length (x : GSes) : x.own.length = 9 := by simp [GSes.own]
@[simp] theorem GSes.take_cells (x : GSes) : x.cells.take 9 = x.cells := List.take_of_length_le (by simp)
@[simp] theorem GSes.take_own (x : GSes) : x.own.take 9 = x.own := List.take_of_length_le (by simp)
@[simp] theorem GSes.alive_own (x : GSes) : aliveAll x.own = true := by simp [GSes.own, GSys.own]
@[simp] theorem GSes.alive_cells (x : GSes) : aliveAll x.cells = true := by simp [GSes.cells]
theorem GCtx.norm_wf {c : GCtx} (h : c.wf) : c.norm.wf := by
  refine ⟨by simpa [GCtx.norm] using h.1, fun d hd => ?_⟩
  simp only [GCtx.norm, List.mem_map] at hd
  obtain ⟨e, he, rfl⟩ := hd
  exact h.2 e he
theorem GSes.norm_wf {x : GSes} (h : x.wf) : x.norm.wf := ⟨h.1, GCtx.norm_wf h.2.1, Go.Proofs.YtclfngbealdbgaaGreat.norm_wf _ h.2.2⟩
def GSes.same (a b : GSes) : Bool := a.sys.same b.sys && (sameC a.ctx b.ctx && a.term.same b.term)
theorem GSes.same_refl (a : GSes) : a.same a = true := by simp [GSes.same, GSys.same_refl, sameC_refl, Go.Proofs.YtclfngbealdbgaaGreat.same_refl]
end Go.Proofs.YtclfngbealdbgaaGreat
namespace Go.Proofs.YtclfngbealdbgaaGreat
open Go
open Go.TL (GM.all Rep RepVals RepCells RepRow LV)
open Go.TL (N B)
set_option linter.unusedVariables false
set_option maxRecDepth 20000
variable {H : Type} {enc : TypeId × Value → H} {P : Program} {w : World} {base : Nat} {spare : Nat → Bool} {held : Bool}
def Vals (w : World) (xs : List LV) (cs : List Value) : Prop := RepVals (GM.all w) [] xs cs [] ∧ ∀ c ∈ cs, c.oneCell' = true
theorem Vals.nil : Vals w [] [] := ⟨by simp [RepVals], by simp⟩
theorem Vals.cons {x : LV} {v : Value} {xs : List LV} {cs : List Value} (h : Rep (GM.all w) [] x v []) (h1 : v.oneCell' = true) (ht : Vals w xs cs) : Vals w (x :: xs) (v :: cs) := by
  refine ⟨?_, by intro c hc; simp only [List.mem_cons] at hc; rcases hc with rfl | hc; · exact h1
                 · exact ht.2 c hc⟩
  simp only [RepVals]
  exact ⟨v, cs, [], [], rfl, rfl, h, ht.1⟩
theorem Vals.app {xs ys : List LV} {cs ds : List Value} (h1 : Vals w xs cs) (h2 : Vals w ys ds) : Vals w (xs ++ ys) (cs ++ ds) := by
  induction xs generalizing cs with
  | nil =>
    obtain ⟨h, _⟩ := h1
    simp only [RepVals] at h
    rw [h.1]; simpa using h2
  | cons x xs ih =>
    obtain ⟨h, hc⟩ := h1
    simp only [RepVals] at h
    obtain ⟨v, ws, O1, O2, rfl, hO, g1, g2⟩ := h
    obtain ⟨rfl, rfl⟩ := List.append_eq_nil_iff.1 hO.symm
    exact Vals.cons g1 (hc v (by simp)) (ih ⟨g2, fun c hc' => hc c (by simp [hc'])⟩)
theorem Vals.length {xs : List LV} {cs : List Value} (h : Vals w xs cs) : cs.length = xs.length := by
  induction xs generalizing cs with
  | nil => have := h.1; simp only [RepVals] at this; rw [this.1]; rfl
  | cons x xs ih =>
    obtain ⟨h, hc⟩ := h
    simp only [RepVals] at h
    obtain ⟨v, ws, O1, O2, rfl, hO, g1, g2⟩ := h
    obtain ⟨rfl, rfl⟩ := List.append_eq_nil_iff.1 hO.symm
    simp [ih ⟨g2, fun c hc' => hc c (by simp [hc'])⟩]
theorem Vals.cells {xs : List LV} {cs : List Value} (h : Vals w xs cs) (b off : Nat) (hc : ∀ i, i < cs.length → w.cell? ⟨b, off + i, none⟩ = cs[i]?) : RepCells (GM.all w) [] xs b off [] := by
  induction xs generalizing cs off with
  | nil => simp [RepCells]
  | cons x xs ih =>
    obtain ⟨h, h1⟩ := h
    simp only [RepVals] at h
    obtain ⟨v, ws, O1, O2, rfl, hO, g1, g2⟩ := h
    obtain ⟨rfl, rfl⟩ := List.append_eq_nil_iff.1 hO.symm
    simp only [RepCells]
    refine ⟨v, [], [], rfl, by simpa [GM.all] using hc 0 (by simp), h1 v (by simp), g1, ih ⟨g2, fun c hc' => h1 c (by simp [hc'])⟩ (off + 1) fun i hi => ?_⟩
    have := hc (i + 1) (by simpa using hi)
    rw [show off + 1 + i = off + (i + 1) by omega]
    simpa using this
theorem cells_look {a : Addr} {n : Nat} {cs : List Value} (h : w.cells? base a n = some cs) : cs.length = n ∧ ∀ i, i < n → w.cell? (a.add i) = cs[i]? := by
  unfold World.cells? at h
  split at h
  · refine ⟨by simpa using mapM_some_length h, fun i hi => by simpa [hi] using mapM_some_get h i i (by simp [hi])⟩
  · simp at h
theorem spot_none {a : Addr} {v : Value} (h : w.cell? a = some v) : a.spot = none := by
  unfold World.cell? at h
  split at h
  · split at h
    · simp at h
    · rename_i hs; simpa using hs
  · simp at h
theorem add_at {b off i : Nat} : (⟨b, off, none⟩ : Addr).add i = ⟨b, off + i, none⟩ := by
  unfold Addr.add; split <;> simp_all
theorem rd_int {t : TypeId} (ht : P.underlying t = some (.int .i64)) {fuel : Nat} {cs : List Value} {x : DataW H × List MemPlace} (h : DataW.trod enc P w base spare held fuel t cs = some x) :
    ∃ n : Int, I64 n ∧ Vals w [N n] cs := by
  obtain ⟨n, rfl, _, hw⟩ := DataW.trod_int ht h
  refine ⟨n, ?_, Vals.cons (by simp [Rep]) rfl Vals.nil⟩
  simp [Lit.wf, IntKind.min, IntKind.max, IntKind.signed, IntKind.bits] at hw
  unfold I64; omega
theorem rd_bool {t : TypeId} (ht : P.underlying t = some .bool) {fuel : Nat} {cs : List Value} {x : DataW H × List MemPlace} (h : DataW.trod enc P w base spare held fuel t cs = some x) :
    ∃ b : Bool, Vals w [B b] cs := by
  obtain ⟨b, rfl, _⟩ := DataW.trod_bool ht h
  exact ⟨b, Vals.cons (by simp [Rep]) rfl Vals.nil⟩
theorem rd_slice {α : Type} (e : α → List LV) (Q : α → Prop) {t et : TypeId} {sz : Nat} (hsz : P.cellsOf et = sz) (hpos : 0 < sz) (ht : P.underlying t = some (.slice et)) {fuel : Nat}
    (each : ∀ n cs y, n < fuel → DataW.trod enc P w base spare held n et cs = some y → ∃ r, Q r ∧ Vals w (e r) cs ∧ (e r).length = sz)
    {cs : List Value} {x : DataW H × List MemPlace} (h : DataW.trod enc P w base spare held fuel t cs = some x) :
    ∃ (nl : Bool) (l : List α), (∀ r ∈ l, Q r) ∧ l.length ≤ 9223372036854775807 ∧ Vals w [.sl false nl sz (l.map e)] cs := by
  rcases DataW.trod_slice ht h with ⟨rfl, _⟩ | ⟨a, len, cap, elems, rest, n, rfl, rfl, _, _, hlc, hcm, hlen, hel, _, _⟩
  · exact ⟨true, [], by simp, by simp, Vals.cons (by simp [Rep]) rfl Vals.nil⟩
  · rw [hsz] at hel
    have get : ∀ i, i < len → ∃ r, Q r ∧ (e r).length = sz ∧ a.spot = none ∧ RepCells (GM.all w) [] (e r) a.block (a.off + i * sz) [] := by
      intro i hi
      have h1 := hel i hi
      have h2 : elems[i]? = some (elems[i]'(by omega)) := List.getElem?_eq_getElem _
      rw [h2, Option.bind_eq_some_iff] at h1
      obtain ⟨cs', hc, htr⟩ := h1
      obtain ⟨r, hq, hv, hl⟩ := each n cs' _ (by omega) htr
      obtain ⟨hcl, hcg⟩ := cells_look hc
      have hs : a.spot = none := by
        by_cases hi0 : i = 0
        · have := hcg 0 hpos
          rw [List.getElem?_eq_getElem (by omega)] at this
          have hs := spot_none this
          simpa [hi0, Addr.add] using hs
        · have h0 := hel 0 (by omega)
          have h2 : elems[0]? = some (elems[0]'(by omega)) := List.getElem?_eq_getElem _
          rw [h2, Option.bind_eq_some_iff] at h0
          obtain ⟨cs0, hc0, _⟩ := h0
          obtain ⟨hcl0, hcg0⟩ := cells_look hc0
          have := hcg0 0 hpos
          rw [List.getElem?_eq_getElem (by omega)] at this
          have hs := spot_none this
          simpa [Addr.add] using hs
      refine ⟨r, hq, hl, hs, hv.cells _ _ fun j hj => ?_⟩
      have := hcg j (by omega)
      rw [← this]
      obtain ⟨b, off, sp⟩ := a
      simp only at hs
      subst hs
      rw [add_at, add_at]
    have rows : ∀ k i, i + k = len → ∃ l : List α, l.length = k ∧ (∀ r ∈ l, Q r) ∧ RepRow (GM.all w) [] (l.map e) sz a.block (a.off + i * sz) [] := by
      intro k
      induction k with
      | zero => intro i hi; exact ⟨[], rfl, by simp, by simp [RepRow]⟩
      | succ k ih =>
        intro i hi
        obtain ⟨r, hq, hl, _, hc⟩ := get i (by omega)
        obtain ⟨l, h1, h2, h3⟩ := ih (i + 1) (by omega)
        refine ⟨r :: l, by simp [h1], by simpa using ⟨hq, h2⟩, ?_⟩
        simp only [List.map_cons, RepRow]
        refine ⟨[], [], rfl, hl, hc, ?_⟩
        rw [show a.off + i * sz + sz = a.off + (i + 1) * sz by rw [Nat.add_mul]; omega]
        exact h3
    obtain ⟨l, h1, h2, h3⟩ := rows len 0 (by omega)
    have hmx : maxLen = 9223372036854775807 := by decide
    refine ⟨false, l, h2, by omega, Vals.cons ?_ rfl Vals.nil⟩
    obtain ⟨b, off, sp⟩ := a
    simp only [Rep]
    refine .inr ⟨trivial, b, off, sp, cap, [], by simp [h1], ?_, by simp [h1, hlc], by simpa using h3, .inr ⟨.inl trivial, rfl⟩⟩
    by_cases h0 : len = 0
    · right
      refine ⟨?_, .inl trivial⟩
      simp; exact List.eq_nil_of_length_eq_zero (by omega)
    · left
      obtain ⟨_, _, _, hs, _⟩ := get 0 (by omega)
      exact hs
theorem rd_ints {t et : TypeId} (he : P.underlying et = some (.int .i64)) (hsz : P.cellsOf et = 1) (ht : P.underlying t = some (.slice et)) {fuel : Nat} {cs : List Value} {x : DataW H × List MemPlace}
    (h : DataW.trod enc P w base spare held fuel t cs = some x) : ∃ nl l, Rok l ∧ Vals w [L nl l] cs := by
  obtain ⟨nl, l, hq, hl, hv⟩ := rd_slice (fun n => [N n]) I64 hsz (by omega) ht (fun n cs y _ hy => by
    obtain ⟨m, h1, h2⟩ := rd_int he hy
    exact ⟨m, h1, h2, rfl⟩) h
  exact ⟨nl, l, ⟨hl, hq⟩, hv⟩
theorem rd_bools {t et : TypeId} (he : P.underlying et = some .bool) (hsz : P.cellsOf et = 1) (ht : P.underlying t = some (.slice et)) {fuel : Nat} {cs : List Value} {x : DataW H × List MemPlace}
    (h : DataW.trod enc P w base spare held fuel t cs = some x) : ∃ nl l, l.length ≤ 9223372036854775807 ∧ Vals w [LB nl l] cs := by
  obtain ⟨nl, l, hq, hl, hv⟩ := rd_slice (fun b => [B b]) (fun _ => True) hsz (by omega) ht (fun n cs y _ hy => by
    obtain ⟨m, h2⟩ := rd_bool he hy
    exact ⟨m, trivial, h2, rfl⟩) h
  exact ⟨nl, l, hl, hv⟩
theorem rd_ctx {t rt et : TypeId} (he : P.underlying et = some (.int .i64)) (hsz : P.cellsOf et = 1) (hr : P.underlying rt = some (.slice et)) (hrz : P.cellsOf rt = 1) (ht : P.underlying t = some (.slice rt)) {fuel : Nat} {cs : List Value} {x : DataW H × List MemPlace}
    (h : DataW.trod enc P w base spare held fuel t cs = some x) : ∃ (nl : Bool) (c : GCtx), c.raw ∧ Vals w [LC nl c] cs := by
  obtain ⟨nl, l, hq, hl, hv⟩ := rd_slice (fun c : Bool × List Int => [eC c]) (fun c => Rok c.2) hrz (by omega) ht (fun n cs y _ hy => by
    obtain ⟨nl, m, h1, h2⟩ := rd_ints he hsz hr hy
    exact ⟨(nl, m), h1, h2, rfl⟩) h
  exact ⟨nl, l, ⟨hl, hq⟩, hv⟩
theorem four {cs : List Value} {w0 w1 w2 w3 : List LV} (hl : cs.length = 4) (h0 : Vals w w0 (cs.take 1)) (h1 : Vals w w1 ((cs.drop 1).take 1)) (h2 : Vals w w2 ((cs.drop 2).take 1)) (h3 : Vals w w3 ((cs.drop 3).take 1)) : Vals w (w0 ++ (w1 ++ (w2 ++ w3))) cs := by
  match cs, hl with
  | [a, b, c, d], _ => exact h0.app (h1.app (h2.app h3))
structure Tys (P : Program) where
  tI : TypeId
  tB : TypeId
  tL : TypeId
  tLB : TypeId
  tC : TypeId
  tT : TypeId
  tK : TypeId
  tS : TypeId
  fT : Array Field
  fS : Array Field
  hI : P.underlying tI = some (.int .i64)
  hB : P.underlying tB = some .bool
  hL : P.underlying tL = some (.slice tI)
  hLB : P.underlying tLB = some (.slice tB)
  hC : P.underlying tC = some (.slice tL)
  hT : P.underlying tT = some (.struct fT)
  hK : P.underlying tK = some (.slice tT)
  hS : P.underlying tS = some (.struct fS)
  cI : P.cellsOf tI = 1
  cB : P.cellsOf tB = 1
  cL : P.cellsOf tL = 1
  cLB : P.cellsOf tLB = 1
  cT : P.cellsOf tT = 4
  cK : P.cellsOf tK = 1
  cS : P.cellsOf tS = 4
  T0 : (fT[0]?).map (fun f => (f.type, f.offset)) = some (tI, 0)
  T1 : (fT[1]?).map (fun f => (f.type, f.offset)) = some (tI, 1)
  T2 : (fT[2]?).map (fun f => (f.type, f.offset)) = some (tL, 2)
  T3 : (fT[3]?).map (fun f => (f.type, f.offset)) = some (tK, 3)
  S0 : (fS[0]?).map (fun f => (f.type, f.offset)) = some (tI, 0)
  S1 : (fS[1]?).map (fun f => (f.type, f.offset)) = some (tL, 1)
  S2 : (fS[2]?).map (fun f => (f.type, f.offset)) = some (tL, 2)
  S3 : (fS[3]?).map (fun f => (f.type, f.offset)) = some (tLB, 3)
theorem field_at {fs : Array Field} {i : Nat} {t : TypeId} {o : Nat} (h : (fs[i]?).map (fun f => (f.type, f.offset)) = some (t, o)) {n : Nat} {cs : List Value} {xs : List (DataW H × List MemPlace)} (hl : xs.length = fs.size)
    (hf : ∀ (i : Nat) (f : Field), fs[i]? = some f → DataW.trod enc P w base spare held n f.type ((cs.drop f.offset).take (P.cellsOf f.type)) = xs[i]?) :
    ∃ y, DataW.trod enc P w base spare held n t ((cs.drop o).take (P.cellsOf t)) = some y := by
  rw [Option.map_eq_some_iff] at h
  obtain ⟨f, hf1, h2⟩ := h
  simp only [Prod.mk.injEq] at h2
  obtain ⟨rfl, rfl⟩ := h2
  have hi : i < xs.length := by
    rw [hl]
    exact (Array.getElem?_eq_some_iff.1 hf1).1
  exact ⟨xs[i], by rw [hf i f hf1]; exact List.getElem?_eq_getElem hi⟩
theorem rd_sys (T : Tys P) {fuel : Nat} {cs : List Value} {x : DataW H × List MemPlace} (h : DataW.trod enc P w base spare held fuel T.tS cs = some x) :
    ∃ s : GSys, s.raw ∧ Vals w s.cells cs := by
  obtain ⟨xs, n, rfl, _, hl, hlen, hf⟩ := DataW.trod_struct T.hS h
  rw [T.cS] at hl
  obtain ⟨y0, h0⟩ := field_at T.S0 hlen hf
  obtain ⟨y1, h1⟩ := field_at T.S1 hlen hf
  obtain ⟨y2, h2⟩ := field_at T.S2 hlen hf
  obtain ⟨y3, h3⟩ := field_at T.S3 hlen hf
  rw [T.cI] at h0; rw [T.cL] at h1 h2; rw [T.cLB] at h3
  obtain ⟨size, r0, v0⟩ := rd_int T.hI h0
  obtain ⟨n1, plus, r1, v1⟩ := rd_ints T.hI T.cI T.hL h1
  obtain ⟨n2, times, r2, v2⟩ := rd_ints T.hI T.cI T.hL h2
  obtain ⟨n3, below, r3, v3⟩ := rd_bools T.hB T.cB T.hLB h3
  exact ⟨⟨size, n1, plus, n2, times, n3, below⟩, ⟨r0, r1, r2, r3⟩, four hl v0 v1 v2 v3⟩
theorem rd_term (T : Tys P) : ∀ (fuel : Nat) {cs : List Value} {x : DataW H × List MemPlace}, DataW.trod enc P w base spare held fuel T.tT cs = some x → ∃ t : GTerm, t.raw ∧ Vals w t.cells cs := by
  intro fuel
  induction fuel using Nat.strongRecOn with
  | _ fuel ih =>
    intro cs x h
    obtain ⟨xs, n, rfl, _, hl, hlen, hf⟩ := DataW.trod_struct T.hT h
    rw [T.cT] at hl
    obtain ⟨y0, h0⟩ := field_at T.T0 hlen hf
    obtain ⟨y1, h1⟩ := field_at T.T1 hlen hf
    obtain ⟨y2, h2⟩ := field_at T.T2 hlen hf
    obtain ⟨y3, h3⟩ := field_at T.T3 hlen hf
    rw [T.cI] at h0 h1; rw [T.cL] at h2; rw [T.cK] at h3
    obtain ⟨op, r0, v0⟩ := rd_int T.hI h0
    obtain ⟨m, r1, v1⟩ := rd_int T.hI h1
    obtain ⟨n1, ty, r2, v2⟩ := rd_ints T.hI T.cI T.hL h2
    obtain ⟨n2, ks, r3, hlk, v3⟩ := rd_slice GTerm.cells GTerm.raw T.cT (by omega) T.hK (fun k cs' y hk hy => by
      obtain ⟨t, g1, g2⟩ := ih k (by omega) hy
      exact ⟨t, g1, g2, by simp⟩) h3
    refine ⟨.mk op m n1 ty n2 ks, ?_, ?_⟩
    · simp only [GTerm.raw]
      exact ⟨r0, r1, r2, hlk, raws_iff.2 r3⟩
    · simp only [GTerm.cells, rowsOf_eq]
      exact four hl v0 v1 v2 v3
theorem rep_agg {xs : List LV} {cs : Array Value} (h : Vals w xs cs.toList) : Rep (GM.all w) [] (.agg xs) (.agg cs) [] := by
  simp only [Rep]
  exact ⟨cs.toList, by simp, h.2, h.1⟩
end Go.Proofs.YtclfngbealdbgaaGreat
namespace Go.Proofs.YtclfngbealdbgaaGreat.Ty
inductive RT where
  | nd (c : Int) (ks : List RT)
mutual
def RT.flat : RT → List Int
  | .nd c ks => c :: flats ks
def flats : List RT → List Int
  | [] => []
  | t :: ts => t.flat ++ flats ts
end
mutual
def RT.ok : RT → Prop
  | .nd c ks => kidsN c = some ks.length ∧ oks ks
def oks : List RT → Prop
  | [] => True
  | t :: ts => t.ok ∧ oks ts
end
theorem oks_iff : ∀ {ts : List RT}, oks ts ↔ ∀ t ∈ ts, t.ok
  | [] => by simp [oks]
  | t :: ts => by simp [oks, oks_iff (ts := ts)]
theorem flats_app : ∀ (ts us : List RT), flats (ts ++ us) = flats ts ++ flats us
  | [], us => by simp [flats]
  | t :: ts, us => by simp [flats, flats_app ts us]
theorem parse : ∀ (l : List Int) (n : Nat) (r : List Int), Ty.skip n l = some r → ∃ ts : List RT, ts.length = n ∧ oks ts ∧ l = flats ts ++ r
  | l, 0, r, h => by simp [Ty.skip] at h; exact ⟨[], rfl, by simp [oks], by simp [flats, h]⟩
  | [], n + 1, r, h => by simp [Ty.skip] at h
  | c :: l, n + 1, r, h => by
    simp only [Ty.skip] at h
    cases hk : kidsN c with
    | none => simp [hk] at h
    | some k =>
      simp only [hk] at h
      obtain ⟨ts, h1, h2, h3⟩ := parse l (n + k) r h
      refine ⟨.nd c (ts.take k) :: ts.drop k, by simp; omega, ?_, ?_⟩
      · rw [oks_iff] at h2
        simp only [oks, RT.ok, oks_iff, hk]
        refine ⟨⟨by simp; omega, fun t ht => h2 t (List.mem_of_mem_take ht)⟩, fun t ht => h2 t (List.mem_of_mem_drop ht)⟩
      · rw [h3]
        simp only [flats, RT.flat, List.cons_append]
        rw [← flats_app, List.take_append_drop]
mutual
theorem RT.skip_flat : ∀ (t : RT) (r : List Int), t.ok → Ty.skip 1 (t.flat ++ r) = some r
  | .nd c ks, r, h => by
    simp only [RT.ok] at h
    simp only [RT.flat, List.cons_append, Ty.skip, h.1]
    rw [Nat.zero_add]
    exact skip_flats ks r h.2
theorem skip_flats : ∀ (ts : List RT) (r : List Int), oks ts → Ty.skip ts.length (flats ts ++ r) = some r
  | [], r, _ => by simp [flats, Ty.skip]
  | t :: ts, r, h => by
    simp only [oks] at h
    simp only [flats, List.append_assoc, List.length_cons]
    rw [Nat.add_comm, skip_add, RT.skip_flat t _ h.1]
    exact skip_flats ts r h.2
end
theorem RT.flat_pos (t : RT) : 0 < t.flat.length := by cases t; simp [RT.flat]
theorem wty_tree {l : List Int} (h : wty l = true) : ∃ t : RT, t.ok ∧ l = t.flat ∧ l.length ≤ 40 := by
  simp [wty] at h
  obtain ⟨⟨h1, h2⟩, h3⟩ := h
  obtain ⟨ts, g1, g2, g3⟩ := parse l 1 [] h3
  match ts, g1 with
  | [t], _ =>
    simp only [oks] at g2
    exact ⟨t, g2.1, by simpa [flats] using g3, h2⟩
theorem tree_wty {t : RT} (h : t.ok) (hl : t.flat.length ≤ 40) : wty t.flat = true := by
  have := RT.skip_flat t [] h
  rw [List.append_nil] at this
  have := t.flat_pos
  simp [wty, *]; omega
theorem endOf_flat {t : RT} (h : t.ok) (r : List Int) (len : Nat) : endOf 1 (t.flat ++ r) len = (len : Int) - r.length := by
  unfold endOf
  rw [RT.skip_flat t r h]
end Go.Proofs.YtclfngbealdbgaaGreat.Ty
namespace Go.Proofs.YtclfngbealdbgaaGreat
open Go Go.TL
open Go.Proofs.YtclfngbealdbgaaGreat.Ty
set_option linter.unusedSimpArgs false
set_option linter.unusedVariables false
set_option maxRecDepth 20000
set_option maxHeartbeats 4000000
def okL (size : Int) (l : List Int) : Bool := wty l && gradedB size true l
def part1 (l : List Int) : List Int := (Ty.skip 1 l.tail).getD []
def part0 (l : List Int) : List Int := l.tail.take (l.tail.length - (part1 l).length)
def hd (l : List Int) : Int := l.headD 0
@[simp] theorem hd_cons (c : Int) (l : List Int) : hd (c :: l) = c := rfl
theorem graded_iff {size : Int} {closed : Bool} {l : List Int} : gradedB size closed l = true ↔ ∀ c ∈ l, okC size closed c = true := by
  unfold gradedB
  rw [allN_iff]
  constructor
  · intro h c hc
    obtain ⟨i, hi, rfl⟩ := List.getElem_of_mem hc
    have := h i hi
    simpa [gradedAt, hi] using this
  · intro h i hi
    have := h l[i] (List.getElem_mem _)
    simpa [gradedAt, hi] using this
theorem okL_iff {size : Int} {l : List Int} : okL size l = true ↔ ∃ t : RT, t.ok ∧ l = t.flat ∧ l.length ≤ 40 ∧ ∀ c ∈ l, okC size true c = true := by
  unfold okL
  rw [Bool.and_eq_true, graded_iff]
  constructor
  · rintro ⟨h1, h2⟩
    obtain ⟨t, h3, h4, h5⟩ := wty_tree h1
    exact ⟨t, h3, h4, h5, h2⟩
  · rintro ⟨t, h3, rfl, h5, h2⟩
    exact ⟨tree_wty h3 h5, h2⟩
theorem wty_len {l : List Int} (h : wty l = true) : 1 ≤ l.length ∧ l.length ≤ 40 := by
  simp [wty] at h; omega
theorem okL_wty {size : Int} {l : List Int} (h : okL size l = true) : wty l = true := by
  unfold okL at h; rw [Bool.and_eq_true] at h; exact h.1
theorem okL_len {size : Int} {l : List Int} (h : okL size l = true) : 1 ≤ l.length ∧ l.length ≤ 40 := wty_len (okL_wty h)
theorem wty_I64 {l : List Int} (h : wty l = true) : ∀ n ∈ l, 0 ≤ n ∧ n ≤ 36 := by
  intro n hn
  obtain ⟨i, hi, rfl⟩ := List.getElem_of_mem hn
  have := wty_codes h i hi
  simpa [List.getD_eq_getElem?_getD, hi] using this
theorem wty_Lok {l : List Int} (h : wty l = true) : Lok l := ⟨by have := wty_len h; omega, fun n hn => by have := wty_I64 h n hn; unfold I64; omega⟩
theorem part1_flat {c : Int} {t : RT} {r : List Int} (h : t.ok) : part1 (c :: (t.flat ++ r)) = r := by
  unfold part1
  rw [List.tail_cons, RT.skip_flat t r h]; rfl
theorem part0_flat {c : Int} {t : RT} {r : List Int} (h : t.ok) : part0 (c :: (t.flat ++ r)) = t.flat := by
  unfold part0
  rw [part1_flat h, List.tail_cons]
  simp
theorem okL_two {size : Int} {l : List Int} (h : okL size l = true) (h2 : kidsN (hd l) = some 2) : l = hd l :: (part0 l ++ part1 l) ∧ okL size (part0 l) = true ∧ okL size (part1 l) = true := by
  obtain ⟨⟨c, ks⟩, h3, rfl, h5, h6⟩ := okL_iff.1 h
  simp only [RT.ok] at h3
  simp only [RT.flat] at h2 h5 h6 ⊢
  simp only [hd_cons] at h2
  rw [h2] at h3
  obtain ⟨a, b, rfl⟩ : ∃ a b, ks = [a, b] := by
    match ks, h3.1 with
    | [a, b], _ => exact ⟨a, b, rfl⟩
    | [], h => simp at h
    | [_], h => simp at h
    | _ :: _ :: _ :: _, h => simp at h
  simp only [oks] at h3
  simp only [flats, List.append_nil] at h5 h6 ⊢
  rw [part0_flat h3.2.1, part1_flat h3.2.1]
  simp only [List.length_cons, List.length_append] at h5
  refine ⟨rfl, okL_iff.2 ⟨a, h3.2.1, rfl, by omega, fun c hc => h6 c (by simp [hc])⟩, okL_iff.2 ⟨b, h3.2.2.1, rfl, by omega, fun c hc => h6 c (by simp [hc])⟩⟩
theorem okL_one {size : Int} {l : List Int} (h : okL size l = true) (h2 : kidsN (hd l) = some 1) : l = hd l :: part0 l ∧ part1 l = [] ∧ okL size (part0 l) = true := by
  obtain ⟨⟨c, ks⟩, h3, rfl, h5, h6⟩ := okL_iff.1 h
  simp only [RT.ok] at h3
  simp only [RT.flat] at h2 h5 h6 ⊢
  simp only [hd_cons] at h2
  rw [h2] at h3
  obtain ⟨a, rfl⟩ : ∃ a, ks = [a] := by
    match ks, h3.1 with
    | [a], _ => exact ⟨a, rfl⟩
    | [], h => simp at h
    | _ :: _ :: _, h => simp at h
  simp only [oks] at h3
  simp only [flats] at h5 h6 ⊢
  rw [part0_flat h3.2.1, part1_flat h3.2.1]
  simp only [List.length_cons, List.length_append] at h5
  refine ⟨by simp, rfl, okL_iff.2 ⟨a, h3.2.1, rfl, by omega, fun c hc => h6 c (by simp [hc])⟩⟩
theorem okL_none {size : Int} {l : List Int} (h : okL size l = true) (h2 : kidsN (hd l) = some 0) : l = [hd l] := by
  obtain ⟨⟨c, ks⟩, h3, rfl, h5, h6⟩ := okL_iff.1 h
  simp only [RT.ok] at h3
  simp only [RT.flat] at h2 h5 h6 ⊢
  simp only [hd_cons] at h2
  rw [h2] at h3
  obtain rfl : ks = [] := by
    match ks, h3.1 with
    | [], _ => rfl
    | _ :: _, h => simp at h
  simp [flats]
theorem okL_mk2 {size c : Int} {a b : List Int} (ha : okL size a = true) (hb : okL size b = true) (hc : kidsN c = some 2) (h2 : okC size true c = true) (hl : (c :: (a ++ b)).length ≤ 40) : okL size (c :: (a ++ b)) = true := by
  obtain ⟨t, h3, rfl, _, h4⟩ := okL_iff.1 ha
  obtain ⟨u, h5, rfl, _, h6⟩ := okL_iff.1 hb
  refine okL_iff.2 ⟨.nd c [t, u], ?_, by simp [RT.flat, flats], hl, fun x hx => ?_⟩
  · simp only [RT.ok, oks]
    exact ⟨hc, h3, h5, trivial⟩
  · rcases List.mem_cons.1 hx with rfl | hx
    · exact h2
    · rcases List.mem_append.1 hx with hx | hx
      · exact h4 x hx
      · exact h6 x hx
theorem okL_mk1 {size c : Int} {a : List Int} (ha : okL size a = true) (hc : kidsN c = some 1) (h2 : okC size true c = true) (hl : (c :: a).length ≤ 40) : okL size (c :: a) = true := by
  obtain ⟨t, h3, rfl, _, h4⟩ := okL_iff.1 ha
  refine okL_iff.2 ⟨.nd c [t], ?_, by simp [RT.flat, flats], hl, fun x hx => ?_⟩
  · simp only [RT.ok, oks]
    exact ⟨hc, h3, trivial⟩
  · rcases List.mem_cons.1 hx with rfl | hx
    · exact h2
    · exact h4 x hx
theorem okL_num (size : Int) : okL size [0] = true :=
  okL_iff.2 ⟨.nd 0 [], by simp [RT.ok, oks, kidsN], by simp [RT.flat, flats], by simp, fun c hc => by simp at hc; subst hc; simp [okC, isArrow, isBox]⟩
theorem okL_hd {size : Int} {l : List Int} (h : okL size l = true) : okC size true (hd l) = true ∧ 0 ≤ hd l ∧ hd l ≤ 36 ∧ l ≠ [] ∧ hd l ∈ l := by
  obtain ⟨⟨c, ks⟩, h3, rfl, h5, h6⟩ := okL_iff.1 h
  simp only [RT.ok] at h3
  have := kidsN_range h3.1
  simp only [RT.flat] at h6 ⊢
  refine ⟨h6 c (by simp), by simpa using this.1, by simpa using this.2, by simp, by simp⟩
theorem okC_grade {size c : Int} (h : okC size true c = true) (h2 : isArrow c = true ∨ isBox c = true) : 0 ≤ gradeI c ∧ gradeI c < size := by
  unfold okC at h
  have : (isArrow c || isBox c) = true := by rcases h2 with h | h <;> simp [h]
  rw [this] at h
  simp [leB_true, ltB_true] at h
  omega
inductive TT where
  | mk (ty needs : List Int) (kids : List TT)
def TT.ty : TT → List Int | .mk t _ _ => t
def TT.needs : TT → List Int | .mk _ n _ => n
def TT.kids : TT → List TT | .mk _ _ k => k
@[simp] theorem TT.ty_mk {a b : List Int} {c : List TT} : (TT.mk a b c).ty = a := rfl
@[simp] theorem TT.needs_mk {a b : List Int} {c : List TT} : (TT.mk a b c).needs = b := rfl
@[simp] theorem TT.kids_mk {a b : List Int} {c : List TT} : (TT.mk a b c).kids = c := rfl
inductive Res where
  | ok (x : TT)
  | bad (f : Int) (p : List Int)
def addedP (op : Int) (ty : List Int) (i : Nat) (first : List Int) : List (List Int) :=
  if op = 9 then [ty] else if addsI op i = 0 then [] else if op = 5 then [part1 first, part0 first] else if op = 8 then [if i = 1 then part0 first else part1 first] else [part0 first]
def wantP (op : Int) (i : Nat) : Int × Int :=
  if op = 2 ∨ (op = 3 ∧ i = 0) then (0, 2) else if op = 5 ∧ i = 0 then (1, 4) else if op = 8 ∧ i = 0 then (2, 5) else if op = 10 ∧ i = 0 then (3, 6) else if op = 12 ∧ i = 0 then (4, 7) else (-1, 0)
def firstOkP (s : GSys) (op n : Int) (i : Nat) (c : Int) : Int :=
  if 0 ≤ (wantP op i).1 ∧ (shapeOf c).1 ≠ (wantP op i).1 then (wantP op i).2 else if i = 0 ∧ (op = 5 ∨ op = 8 ∨ op = 12) ∧ s.le 1 n = false then 8 else 0
def sumP (s : GSys) (a b : List Int) : List Int := List.zipWith s.pl a b
def joinP (s : GSys) (a b : List Int) : List Int := List.zipWith s.join a b
def scaledP (s : GSys) (g : Int) (a : List Int) : List Int := a.map (s.tm g)
def usedOkP (s : GSys) (l : List Int) (g : Int) : Bool := l.all fun u => s.le u g
def zeros (n : Nat) : List Int := List.replicate n 0
def longP (ty nd : List Int) : Int × List Int × List Int := if ty.length ≤ 40 then (0, ty, nd) else (3, [], [])
def ndP (op : Int) (ds : List TT) (i : Nat) : List Int := (ds.getD i (.mk [] [] [])).needs.drop (addsI op i).toNat
def usP (op : Int) (ds : List TT) (i : Nat) : List Int := (ds.getD i (.mk [] [] [])).needs.take (addsI op i).toNat
def tyP (ds : List TT) (i : Nat) : List Int := (ds.getD i (.mk [] [] [])).ty
def finP (s : GSys) (ctx : List (List Int)) (op n : Int) (ty : List Int) (ds : List TT) : Int × List Int × List Int :=
  if op = 0 then (0, ctx.getD n.toNat [], (zeros ctx.length).set n.toNat 1)
  else if op = 1 then (0, [0], zeros ctx.length)
  else if op = 2 then (0, [0], sumP s (ndP op ds 0) (ndP op ds 1))
  else if op = 3 then (if tyP ds 1 = tyP ds 2 then (0, tyP ds 1, sumP s (ndP op ds 0) (joinP s (ndP op ds 1) (ndP op ds 2))) else (3, [], []))
  else if op = 4 then longP (1 :: (tyP ds 0 ++ tyP ds 1)) (sumP s (ndP op ds 0) (ndP op ds 1))
  else if op = 5 then (if usedOkP s (usP op ds 1) n = true then (0, tyP ds 1, sumP s (scaledP s n (ndP op ds 0)) (ndP op ds 1)) else (9, [], []))
  else if op = 6 then longP (2 :: (tyP ds 0 ++ ty)) (ndP op ds 0)
  else if op = 7 then longP (2 :: (ty ++ tyP ds 0)) (ndP op ds 0)
  else if op = 8 then (if tyP ds 1 = tyP ds 2 then (if usedOkP s (usP op ds 1) n = true ∧ usedOkP s (usP op ds 2) n = true then (0, tyP ds 1, sumP s (scaledP s n (ndP op ds 0)) (joinP s (ndP op ds 1) (ndP op ds 2))) else (9, [], [])) else (3, [], []))
  else if op = 9 then (if usedOkP s (usP op ds 0) n = true then longP ((3 + n) :: (ty ++ tyP ds 0)) (ndP op ds 0) else (9, [], []))
  else if op = 10 then (0, part1 (tyP ds 0), sumP s (ndP op ds 0) (scaledP s (shapeOf (hd (tyP ds 0))).2 (ndP op ds 1)))
  else if op = 11 then longP ((19 + n) :: tyP ds 0) (scaledP s n (ndP op ds 0))
  else (if usedOkP s (usP op ds 1) (s.tm n (shapeOf (hd (tyP ds 0))).2) = true then (0, tyP ds 1, sumP s (scaledP s n (ndP op ds 0)) (ndP op ds 1)) else (9, [], []))
inductive KRes where
  | ok (ds : List TT)
  | bad (f : Int) (p : List Int)
def first (ds : List TT) : List Int := tyP ds 0
mutual
def tellG (s : GSys) (ctx : List (List Int)) : GTerm → Res
  | .mk op n _ ty _ ks => match tellK s ctx op n ty [] ks with
    | .bad f p => .bad f p
    | .ok ds => if (finP s ctx op n ty ds).1 = 0 then .ok (.mk (finP s ctx op n ty ds).2.1 (finP s ctx op n ty ds).2.2 ds) else .bad (finP s ctx op n ty ds).1 []
def tellK (s : GSys) (ctx : List (List Int)) (op n : Int) (ty : List Int) (ds : List TT) : List GTerm → KRes
  | [] => .ok ds
  | k :: ks => match tellG s (addedP op ty ds.length (first ds) ++ ctx) k with
    | .bad f p => .bad f ((ds.length : Int) :: p)
    | .ok x => if firstOkP s op n ds.length (hd x.ty) ≠ 0 then .bad (firstOkP s op n ds.length (hd x.ty)) []
      else if op = 10 ∧ ds.length = 1 ∧ x.ty ≠ part0 (first ds) then .bad 3 [] else tellK s ctx op n ty (ds ++ [x]) ks
end
def TT.good (s : GSys) (n : Nat) (x : TT) : Prop := okL s.size x.ty = true ∧ x.needs.length = n ∧ ∀ u ∈ x.needs, s.G u
end Go.Proofs.YtclfngbealdbgaaGreat
namespace Go.Proofs.YtclfngbealdbgaaGreat
open Go Go.TL
open Go.Proofs.YtclfngbealdbgaaGreat.Ty
set_option linter.unusedSimpArgs false
set_option linter.unusedVariables false
set_option maxRecDepth 20000
set_option maxHeartbeats 4000000
theorem shape_fin37 : ∀ n : Fin 37, ((shapeOf ((n.val : Nat) : Int)).1 = 0 ↔ n.val = 0) ∧ ((shapeOf ((n.val : Nat) : Int)).1 = 1 ↔ n.val = 1) ∧ ((shapeOf ((n.val : Nat) : Int)).1 = 2 ↔ n.val = 2) ∧
    ((shapeOf ((n.val : Nat) : Int)).1 = 3 ↔ isArrow ((n.val : Nat) : Int) = true) ∧ ((shapeOf ((n.val : Nat) : Int)).1 = 4 ↔ isBox ((n.val : Nat) : Int) = true) ∧
    ((isArrow ((n.val : Nat) : Int) = true ∨ isBox ((n.val : Nat) : Int) = true) → (shapeOf ((n.val : Nat) : Int)).2 = gradeI ((n.val : Nat) : Int)) := by decide
theorem shape_iff {c : Int} (h0 : 0 ≤ c) (h1 : c ≤ 36) : ((shapeOf c).1 = 0 ↔ c = 0) ∧ ((shapeOf c).1 = 1 ↔ c = 1) ∧ ((shapeOf c).1 = 2 ↔ c = 2) ∧ ((shapeOf c).1 = 3 ↔ isArrow c = true) ∧ ((shapeOf c).1 = 4 ↔ isBox c = true) ∧ ((isArrow c = true ∨ isBox c = true) → (shapeOf c).2 = gradeI c) := by
  have := shape_fin37 ⟨c.toNat, by omega⟩
  simp only [show ((c.toNat : Nat) : Int) = c by omega] at this
  obtain ⟨a, b, c', d, e, f⟩ := this
  exact ⟨a.trans (by omega), b.trans (by omega), c'.trans (by omega), d, e, f⟩
theorem kids_pair : kidsN 1 = some 2 ∧ kidsN 2 = some 2 := by decide
theorem kids_arr {c : Int} (h : isArrow c = true) : kidsN c = some 2 := by
  unfold kidsN
  rw [gl_arrow] at h
  rw [if_neg (by omega), if_pos]
  right; right; rw [gl_arrow]; exact h
theorem kids_bx {c : Int} (h : isBox c = true) : kidsN c = some 1 := by
  have h' := h
  rw [gl_box] at h
  unfold kidsN
  rw [if_neg (by omega), if_neg (by rw [gl_arrow]; omega), if_pos h']
def headOk (op : Int) (c : Int) : Prop := (op = 2 ∨ op = 3 → c = 0) ∧ (op = 5 → c = 1) ∧ (op = 8 → c = 2) ∧ (op = 10 → isArrow c = true) ∧ (op = 12 → isBox c = true)
theorem firstOk_head {s : GSys} {op n c : Int} (h0 : 0 ≤ c) (h1 : c ≤ 36) (h : firstOkP s op n 0 c = 0) : headOk op c ∧ (op = 5 ∨ op = 8 ∨ op = 12 → s.le 1 n = true) := by
  obtain ⟨a, b, c', d, e, _⟩ := shape_iff h0 h1
  unfold firstOkP at h
  have hw : ¬ (0 ≤ (wantP op 0).1 ∧ (shapeOf c).1 ≠ (wantP op 0).1) := by
    intro hh
    rw [if_pos hh] at h
    unfold wantP at hh h
    repeat' split at h
    all_goals simp_all
  rw [if_neg hw] at h
  have hl : ¬ (op = 5 ∨ op = 8 ∨ op = 12) ∨ s.le 1 n = true := by
    by_cases g : s.le 1 n = true
    · exact .inr g
    · left
      intro g2
      rw [if_pos ⟨rfl, g2, by simpa using g⟩] at h
      omega
  refine ⟨?_, fun g => hl.resolve_left (fun k => k g)⟩
  unfold wantP at hw
  refine ⟨fun g => ?_, fun g => ?_, fun g => ?_, fun g => ?_, fun g => ?_⟩
  · have : (shapeOf c).1 = 0 := by rcases g with rfl | rfl <;> simpa using hw
    exact a.1 this
  · subst g; simp at hw; exact b.1 hw
  · subst g; simp at hw; exact c'.1 hw
  · subst g; simp at hw; exact d.1 hw
  · subst g; simp at hw; exact e.1 hw
theorem addsI_range (op k : Int) : 0 ≤ addsI op k ∧ addsI op k ≤ 2 := by
  unfold addsI; split
  · omega
  · split <;> omega
theorem added_len (op : Int) (ty : List Int) (i : Nat) (f : List Int) : (addedP op ty i f).length = (addsI op i).toNat := by
  unfold addedP addsI
  by_cases h9 : op = 9
  · subst h9; simp
  · rw [if_neg h9]
    by_cases h5 : op = 5 ∧ (i : Int) = 1
    · rw [if_pos h5, if_pos h5.1]; simp
    · rw [if_neg h5]
      by_cases h8 : (op = 8 ∧ 0 < (i : Int)) ∨ op = 9 ∨ (op = 12 ∧ (i : Int) = 1)
      · rw [if_pos h8]
        have : op ≠ 5 := by omega
        rw [if_neg (by omega), if_neg this]
        split <;> simp
      · rw [if_neg h8]; simp
theorem added_ok {size : Int} {op : Int} {ty : List Int} {i : Nat} {f : List Int} (hty : op = 9 → okL size ty = true) (hf : i ≠ 0 → okL size f = true ∧ headOk op (hd f)) : ∀ l ∈ addedP op ty i f, okL size l = true := by
  unfold addedP
  by_cases h9 : op = 9
  · rw [if_pos h9]; intro l hl; simp at hl; subst hl; exact hty h9
  · rw [if_neg h9]
    split
    · simp
    · rename_i ha
      have hi : i ≠ 0 := by rintro rfl; apply ha; unfold addsI; rw [if_neg (by omega), if_neg (by omega)]
      obtain ⟨hf1, hf2⟩ := hf hi
      obtain ⟨q2, q5, q8, q10, q12⟩ := hf2
      split
      · rename_i h5
        have := okL_two hf1 (by rw [q5 h5]; exact kids_pair.1)
        intro l hl; simp at hl
        rcases hl with rfl | rfl
        · exact this.2.2
        · exact this.2.1
      · split
        · rename_i h8
          have := okL_two hf1 (by rw [q8 h8]; exact kids_pair.2)
          intro l hl; simp at hl; subst hl
          split
          · exact this.2.1
          · exact this.2.2
        · have h12 : op = 12 := by
            unfold addsI at ha
            rename_i h5 h8
            rw [if_neg (by omega)] at ha
            by_cases g : (op = 8 ∧ 0 < (i : Int)) ∨ op = 9 ∨ (op = 12 ∧ (i : Int) = 1)
            · omega
            · rw [if_neg g] at ha; simp at ha
          have := okL_one hf1 (kids_bx (q12 h12))
          intro l hl; simp at hl; subst hl; exact this.2.2
structure KidsOk (s : GSys) (c : Nat) (op n : Int) (ds : List TT) : Prop where
  each : ∀ (i : Nat) (x : TT), ds[i]? = some x → x.good s (c + (addsI op i).toNat) ∧ firstOkP s op n i (hd x.ty) = 0
  app : op = 10 → ∀ x, ds[1]? = some x → x.ty = part0 (first ds)
theorem KidsOk.first {s : GSys} {c : Nat} {op n : Int} {ds : List TT} (k : KidsOk s c op n ds) (h : ds ≠ []) : okL s.size (first ds) = true ∧ headOk op (hd (first ds)) ∧ (op = 5 ∨ op = 8 ∨ op = 12 → s.le 1 n = true) := by
  obtain ⟨x, ds, rfl⟩ : ∃ x l, ds = x :: l := by
    cases ds with
    | nil => exact absurd rfl h
    | cons x l => exact ⟨x, l, rfl⟩
  obtain ⟨⟨h1, _, _⟩, h2⟩ := k.each 0 x rfl
  have := okL_hd h1
  simp only [Go.Proofs.YtclfngbealdbgaaGreat.first, List.getD_eq_getElem?_getD, List.getElem?_cons_zero, Option.getD_some]
  exact ⟨h1, firstOk_head this.2.1 this.2.2.1 h2⟩
theorem KidsOk.snoc {s : GSys} {c : Nat} {op n : Int} {ds : List TT} {x : TT} (k : KidsOk s c op n ds) (h1 : x.good s (c + (addsI op ds.length).toNat)) (h2 : firstOkP s op n ds.length (hd x.ty) = 0) (h3 : ¬ (op = 10 ∧ ds.length = 1 ∧ x.ty ≠ part0 (Go.Proofs.YtclfngbealdbgaaGreat.first ds))) : KidsOk s c op n (ds ++ [x]) := by
  refine ⟨fun i y hy => ?_, fun h10 y hy => ?_⟩
  · rcases Nat.lt_trichotomy i ds.length with g | g | g
    · rw [List.getElem?_append_left g] at hy; exact k.each i y hy
    · subst g
      rw [List.getElem?_append_right (Nat.le_refl _)] at hy
      simp at hy; subst hy; exact ⟨h1, h2⟩
    · rw [List.getElem?_append_right (by omega), List.getElem?_eq_none (by simp; omega)] at hy; simp at hy
  · have hf : ds ≠ [] → Go.Proofs.YtclfngbealdbgaaGreat.first (ds ++ [x]) = Go.Proofs.YtclfngbealdbgaaGreat.first ds := by
      intro g
      cases ds with
      | nil => exact absurd rfl g
      | cons a l => simp [Go.Proofs.YtclfngbealdbgaaGreat.first, tyP]
    rcases Nat.lt_trichotomy 1 ds.length with g | g | g
    · rw [List.getElem?_append_left g] at hy
      rw [hf (by rintro rfl; simp at g)]
      exact k.app h10 y hy
    · rw [List.getElem?_append_right (by omega), ← g] at hy
      simp at hy; subst hy
      rw [hf (by rintro rfl; simp at g)]
      by_cases e : x.ty = part0 (Go.Proofs.YtclfngbealdbgaaGreat.first ds)
      · exact e
      · exact absurd ⟨h10, g.symm, e⟩ h3
    · rw [List.getElem?_append_right (by omega), List.getElem?_eq_none (by simp; omega)] at hy; simp at hy
theorem sum_ok {s : GSys} (t : s.Tab) {a b : List Int} {n : Nat} (ha : a.length = n) (hb : b.length = n) : (sumP s a b).length = n ∧ ∀ u ∈ sumP s a b, s.G u := by
  refine ⟨by simp [sumP, ha, hb], fun u hu => ?_⟩
  unfold sumP at hu
  rw [List.zipWith_eq_zipWith_take_min] at hu
  simp only [List.mem_iff_getElem, List.getElem_zipWith] at hu
  obtain ⟨i, hi, rfl⟩ := hu
  exact GSys.Gpl t _ _
theorem scaled_ok {s : GSys} (t : s.Tab) {g : Int} {a : List Int} {n : Nat} (ha : a.length = n) : (scaledP s g a).length = n ∧ ∀ u ∈ scaledP s g a, s.G u := by
  refine ⟨by simp [scaledP, ha], fun u hu => ?_⟩
  simp only [scaledP, List.mem_map] at hu
  obtain ⟨x, _, rfl⟩ := hu
  exact GSys.Gtm t _ _
theorem zeros_ok {s : GSys} (t : s.Tab) (n : Nat) : (zeros n).length = n ∧ ∀ u ∈ zeros n, s.G u := by
  refine ⟨by simp [zeros], fun u hu => ?_⟩
  simp [zeros] at hu
  rw [hu.2]; exact GSys.G0 t
theorem one_ok {s : GSys} (t : s.Tab) (n i : Nat) : ((zeros n).set i 1).length = n ∧ ∀ u ∈ (zeros n).set i 1, s.G u := by
  refine ⟨by simp [zeros], fun u hu => ?_⟩
  rcases List.mem_or_eq_of_mem_set hu with hu | rfl
  · exact (zeros_ok t n).2 u hu
  · exact GSys.G1 t
theorem good_drop {s : GSys} {c : Nat} {op : Int} {i : Nat} {x : TT} (h : x.good s (c + (addsI op i).toNat)) : (x.needs.drop (addsI op i).toNat).length = c ∧ ∀ u ∈ x.needs.drop (addsI op i).toNat, s.G u :=
  ⟨by rw [List.length_drop, h.2.1]; omega, fun u hu => h.2.2 u (List.mem_of_mem_drop hu)⟩
theorem okC_num {size : Int} : okC size true 1 = true ∧ okC size true 2 = true := by
  unfold okC
  exact ⟨by simp [isArrow, isBox], by simp [isArrow, isBox]⟩
theorem code_arrow {size n : Int} (h0 : 0 ≤ n) (h1 : n < size) (h2 : size ≤ 16) : isArrow (3 + n) = true ∧ gradeI (3 + n) = n ∧ okC size true (3 + n) = true ∧ kidsN (3 + n) = some 2 := by
  have ha : isArrow (3 + n) = true := by rw [gl_arrow]; omega
  have hg : gradeI (3 + n) = n := by unfold gradeI; rw [if_neg (by omega), if_neg (by omega)]; omega
  refine ⟨ha, hg, ?_, kids_arr ha⟩
  unfold okC
  rw [hg]; simp [leB_true, ltB_true, h0, h1]
theorem code_box {size n : Int} (h0 : 0 ≤ n) (h1 : n < size) (h2 : size ≤ 16) : isBox (19 + n) = true ∧ gradeI (19 + n) = n ∧ okC size true (19 + n) = true ∧ kidsN (19 + n) = some 1 := by
  have ha : isBox (19 + n) = true := by rw [gl_box]; omega
  have hg : gradeI (19 + n) = n := by unfold gradeI; rw [if_neg (by omega), if_pos (by omega)]; omega
  refine ⟨ha, hg, ?_, kids_bx ha⟩
  unfold okC
  rw [hg]; simp [leB_true, ltB_true, h0, h1]
structure NodeOk (s : GSys) (c : Nat) (op n : Int) (ty : List Int) (len : Nat) : Prop where
  many : (len : Int) = manyI op
  var : op = 0 → 0 ≤ n ∧ n < c
  grade : hasB op = true → s.G n
  typed : typedB op = true → okL s.size ty = true
  op13 : 0 ≤ op ∧ op ≤ 12
theorem nodeOk_of {s : GSys} {c : Nat} {op n : Int} {ty : List Int} {len : Nat} (h : nodeB c s.size true op n ty len = true) : NodeOk s c op n ty len := by
  unfold nodeB at h
  simp only [Bool.and_eq_true] at h
  obtain ⟨h1, h2, h3⟩ := h
  have hop : op = 0 ∨ op = 1 ∨ op = 2 ∨ op = 3 ∨ op = 4 ∨ op = 5 ∨ op = 6 ∨ op = 7 ∨ op = 8 ∨ op = 9 ∨ op = 10 ∨ op = 11 ∨ op = 12 := ops13 (many_form' h1)
  rw [eqB_true] at h1
  refine ⟨h1, fun h0 => ?_, fun hh => ?_, fun ht => ?_, by omega⟩
  · subst h0
    simp [numB, within_true] at h2
    omega
  · have h01 : op ≠ 0 ∧ op ≠ 1 := by
      constructor <;> (rintro rfl; simp [hasB, eqB_true] at hh)
    unfold numB at h2
    rw [if_neg (by simp [eqB_false, h01.1]), if_neg (by simp [eqB_false, h01.2]), if_pos hh] at h2
    simp [leB_true, ltB_true] at h2
    exact ⟨by omega, by omega⟩
  · unfold tyB at h3
    rw [if_pos ht] at h3
    exact h3
theorem zip_len {s : GSys} {a b : List Int} {n : Nat} (ha : a.length = n) (hb : b.length = n) : (joinP s a b).length = n := by simp [joinP, ha, hb]
theorem long_of {ty nd : List Int} (h : (longP ty nd).1 = 0) : ty.length ≤ 40 ∧ (longP ty nd).2.1 = ty ∧ (longP ty nd).2.2 = nd := by
  unfold longP at h ⊢
  split at h
  · rename_i g; rw [if_pos g]; exact ⟨g, rfl, rfl⟩
  · simp at h
theorem finP_good {s : GSys} (t : s.Tab) {ctx : List (List Int)} (hc : ∀ l ∈ ctx, okL s.size l = true) {op n : Int} {ty : List Int} {ds : List TT} (nd : NodeOk s ctx.length op n ty ds.length) (k : KidsOk s ctx.length op n ds)
    (h : (finP s ctx op n ty ds).1 = 0) : TT.good s ctx.length (.mk (finP s ctx op n ty ds).2.1 (finP s ctx op n ty ds).2.2 ds) := by
  have h16 := t.hi
  obtain ⟨many, hvar, hgr, hty, o1, o2⟩ := nd
  have get : ∀ i, i < ds.length → ∃ x, ds[i]? = some x ∧ x.good s (ctx.length + (addsI op i).toNat) := fun i hi =>
    ⟨_, List.getElem?_eq_getElem hi, (k.each i _ (List.getElem?_eq_getElem hi)).1⟩
  have tyG : ∀ i, i < ds.length → okL s.size (tyP ds i) = true := fun i hi => by
    obtain ⟨x, h1, h2⟩ := get i hi
    unfold tyP; rw [List.getD_eq_getElem?_getD, h1]; exact h2.1
  have ndL : ∀ i, i < ds.length → (ndP op ds i).length = ctx.length := fun i hi => by
    obtain ⟨x, h1, h2⟩ := get i hi
    unfold ndP; rw [List.getD_eq_getElem?_getD, h1]; exact (good_drop h2).1
  have ndG : ∀ i, i < ds.length → ∀ u ∈ ndP op ds i, s.G u := fun i hi => by
    obtain ⟨x, h1, h2⟩ := get i hi
    unfold ndP; rw [List.getD_eq_getElem?_getD, h1]; exact (good_drop h2).2
  have fst : 0 < ds.length → headOk op (hd (tyP ds 0)) := fun hi => (k.first (by rintro rfl; simp at hi)).2.1
  have hops : op = 0 ∨ op = 1 ∨ op = 2 ∨ op = 3 ∨ op = 4 ∨ op = 5 ∨ op = 6 ∨ op = 7 ∨ op = 8 ∨ op = 9 ∨ op = 10 ∨ op = 11 ∨ op = 12 := by omega
  rcases hops with e | e | e | e | e | e | e | e | e | e | e | e | e
  all_goals subst e
  all_goals simp [manyI] at many
  all_goals simp [finP] at h ⊢
  · obtain ⟨v0, v1⟩ := hvar rfl
    refine ⟨?_, one_ok t _ _⟩
    simp only [TT.ty_mk]
    rw [List.getElem?_eq_getElem (by omega)]
    exact hc _ (List.getElem_mem _)
  · exact ⟨okL_num _, zeros_ok t _⟩
  · exact ⟨okL_num _, sum_ok t (ndL 0 (by omega)) (ndL 1 (by omega))⟩
  · split at h
    · rename_i e
      rw [if_pos e]
      exact ⟨tyG 1 (by omega), sum_ok t (ndL 0 (by omega)) (zip_len (ndL 1 (by omega)) (ndL 2 (by omega)))⟩
    · simp at h
  · obtain ⟨g1, g2, g3⟩ := long_of h
    rw [g2, g3]
    exact ⟨okL_mk2 (tyG 0 (by omega)) (tyG 1 (by omega)) kids_pair.1 okC_num.1 g1, sum_ok t (ndL 0 (by omega)) (ndL 1 (by omega))⟩
  · split at h
    · rename_i e
      rw [if_pos e]
      exact ⟨tyG 1 (by omega), sum_ok t (scaled_ok t (ndL 0 (by omega))).1 (ndL 1 (by omega))⟩
    · simp at h
  · obtain ⟨g1, g2, g3⟩ := long_of h
    rw [g2, g3]
    exact ⟨okL_mk2 (tyG 0 (by omega)) (hty (by simp [typedB, eqB_true])) kids_pair.2 okC_num.2 g1, ndL 0 (by omega), ndG 0 (by omega)⟩
  · obtain ⟨g1, g2, g3⟩ := long_of h
    rw [g2, g3]
    exact ⟨okL_mk2 (hty (by simp [typedB, eqB_true])) (tyG 0 (by omega)) kids_pair.2 okC_num.2 g1, ndL 0 (by omega), ndG 0 (by omega)⟩
  · split at h
    · rename_i e
      split at h
      · rename_i e2
        rw [if_pos e, if_pos e2]
        exact ⟨tyG 1 (by omega), sum_ok t (scaled_ok t (ndL 0 (by omega))).1 (zip_len (ndL 1 (by omega)) (ndL 2 (by omega)))⟩
      · simp at h
    · simp at h
  · have hg := hgr (by simp [hasB, eqB_true])
    obtain ⟨_, _, c1, c2⟩ := code_arrow hg.1 hg.2 h16
    split at h
    · rename_i e
      obtain ⟨g1, g2, g3⟩ := long_of h
      rw [if_pos e, g2, g3]
      exact ⟨okL_mk2 (hty (by simp [typedB, eqB_true])) (tyG 0 (by omega)) c2 c1 g1, ndL 0 (by omega), ndG 0 (by omega)⟩
    · simp at h
  · exact ⟨(okL_two (tyG 0 (by omega)) (kids_arr ((fst (by omega)).2.2.2.1 rfl))).2.2, sum_ok t (ndL 0 (by omega)) (scaled_ok t (ndL 1 (by omega))).1⟩
  · have hg := hgr (by simp [hasB, eqB_true])
    obtain ⟨_, _, c1, c2⟩ := code_box hg.1 hg.2 h16
    obtain ⟨g1, g2, g3⟩ := long_of h
    rw [g2, g3]
    exact ⟨okL_mk1 (tyG 0 (by omega)) c2 c1 g1, scaled_ok t (ndL 0 (by omega))⟩
  · split at h
    · rename_i e
      rw [if_pos e]
      exact ⟨tyG 1 (by omega), sum_ok t (scaled_ok t (ndL 0 (by omega))).1 (ndL 1 (by omega))⟩
    · simp at h
theorem ext_ok {s : GSys} {ctx : List (List Int)} (hc : ∀ l ∈ ctx, okL s.size l = true) {op n : Int} {ty : List Int} {ds : List TT} (hty : op = 9 → okL s.size ty = true) (k : KidsOk s ctx.length op n ds) :
    ∀ l ∈ addedP op ty ds.length (first ds) ++ ctx, okL s.size l = true := by
  intro l hl
  rcases List.mem_append.1 hl with hl | hl
  · exact added_ok hty (fun hi => by
      have := k.first (by rintro rfl; simp at hi)
      exact ⟨this.1, this.2.1⟩) l hl
  · exact hc l hl
mutual
theorem tellG_good {s : GSys} (t : s.Tab) : ∀ (g : GTerm) (ctx : List (List Int)) (x : TT), (∀ l ∈ ctx, okL s.size l = true) → formB ctx.length s.size true g = true → tellG s ctx g = .ok x → x.good s ctx.length
  | .mk op n nl1 ty nl2 ks, ctx, x, hc, hf, he => by
    simp only [formB, Bool.and_eq_true] at hf
    have nd := nodeOk_of hf.1
    rw [tellG] at he
    split at he
    · simp at he
    · rename_i ds hd
      split at he
      · rename_i h0
        simp only [Res.ok.injEq] at he
        subst he
        obtain ⟨k, hl⟩ := tellK_good t ks ctx op n ty [] ds hc (fun h9 => nd.typed (by subst h9; simp [typedB, eqB_true])) (by simpa using hf.2) ⟨fun i x h => by simp at h, fun _ x h => by simp at h⟩ hd
        exact finP_good t hc (by rw [show ds.length = ks.length by simpa using hl]; exact nd) k h0
      · simp at he
theorem tellK_good {s : GSys} (t : s.Tab) : ∀ (ks : List GTerm) (ctx : List (List Int)) (op n : Int) (ty : List Int) (ds ds' : List TT), (∀ l ∈ ctx, okL s.size l = true) → (op = 9 → okL s.size ty = true) →
    formsB ctx.length s.size true op ds.length ks = true → KidsOk s ctx.length op n ds → tellK s ctx op n ty ds ks = .ok ds' → KidsOk s ctx.length op n ds' ∧ ds'.length = ds.length + ks.length
  | [], ctx, op, n, ty, ds, ds', hc, hty, hf, k, he => by
    simp only [tellK, KRes.ok.injEq] at he
    subst he; exact ⟨k, rfl⟩
  | g :: ks, ctx, op, n, ty, ds, ds', hc, hty, hf, k, he => by
    simp only [formsB, Bool.and_eq_true] at hf
    rw [tellK] at he
    split at he
    · simp at he
    · rename_i x hx
      split at he
      · simp at he
      · rename_i h1
        split at he
        · simp at he
        · rename_i h2
          have hlen : (addedP op ty ds.length (first ds) ++ ctx).length = ctx.length + (addsI op ds.length).toNat := by
            rw [List.length_append, added_len]; omega
          have := addsI_range op ds.length
          have hg := tellG_good t g _ x (ext_ok hc hty k) (by rw [hlen, show ((ctx.length + (addsI op ds.length).toNat : Nat) : Int) = ctx.length + addsI op ds.length by omega]; exact hf.1) hx
          rw [hlen] at hg
          have k2 := k.snoc hg (by simpa using h1) h2
          have := tellK_good t ks ctx op n ty (ds ++ [x]) ds' hc hty (by rw [List.length_append]; exact hf.2) k2 he
          exact ⟨this.1, by rw [this.2]; simp; omega⟩
end
end Go.Proofs.YtclfngbealdbgaaGreat
namespace Go.Proofs.YtclfngbealdbgaaGreat
open Go Go.TL
open Go.Proofs.YtclfngbealdbgaaGreat.Ty
set_option linter.unusedSimpArgs false
set_option linter.unusedVariables false
set_option maxRecDepth 20000
set_option maxHeartbeats 4000000
def FnN (P : Program) (f : LV) (a b n : Int) : Prop := ∃ fid vals, fnArgs f [N a, N b] = some (fid, vals) ∧ LowAll 0 vals ∧ Gives P fid vals (· = N n)
theorem onFn_N {P : Program} {f : LV} {a b n : Int} {d : Nat} {K : St → Prop} {s : St} (h : FnN P f a b n) (hk : K { t := upd s.t d (N n), h := s.h }) : onFn P .no f [N a, N b] (some d) K s := by
  obtain ⟨fid, vals, h1, h2, h3⟩ := h
  exact ⟨fid, vals, h1, onCall_eq (rw := .no) h3 h2 hk⟩
theorem frz_at1 {z : List LV} {h0 : List Box} {l : List Int} (e : z = l.map N) : frzLV (h0 ++ [some z]) (.ha h0.length 1 0 l.length l.length) = some (OU true false l, h0 ++ [none]) := by
  subst e
  rw [frz_ha (xs := l.map N) (by simp) (by simp)]
  simp [chunks_map]
theorem frz_1 (l : List Int) : frzLV [none, some (l.map N)] (.ha 1 1 0 l.length l.length) = some (OU true false l, [none, none]) := frz_at1 (h0 := [none]) rfl
theorem fill_N {l : List Int} : fill (fun x => [N x]) [N 0] l l.length = l.map N := by
  rw [fill_end]; induction l with
  | nil => rfl
  | cons x l ih => simpa using ih
theorem both_ok (s : GSys) (f : LV) (g : Int → Int → Int) (sf : share f = f) (lf : Low 0 f) (n1 n2 : Bool) (a b : List Int) (hl : a.length ≤ 1099511627776) (hab : a.length = b.length)
    (hp : ∀ (i : Nat) (h : i < a.length), FnN Tryz.prog f a[i] (b[i]'(by omega)) (g a[i] (b[i]'(by omega)))) : Gives Tryz.prog n__impl_typer__both [s.lv, f, L n1 a, L n2 b] (· = OU true false (List.zipWith g a b)) := by
  obtain ⟨z, hze⟩ : ∃ z, z = List.zipWith g a b := ⟨_, rfl⟩
  have hz : z.length = a.length := by rw [hze]; simp [hab]
  have hget : ∀ (i : Nat) (h : i < a.length), z[i]'(by omega) = g a[i] (b[i]'(by omega)) := by intro i h; simp [hze]
  rw [← hze]
  clear hze
  refine Gives.of_codeOf c__impl_typer__both mixed (by simp) ⟨_, rfl, by simp⟩ ?_
  have hm : (a.length : Int) ≤ (most : Nat) := by unfold most; omega
  have he : ∀ x : Int, ([N x] : List LV).length = 1 := by simp
  simp (disch := omega) [k__impl_typer__both, hm, sf, boxLV, frzLV]
  refine wpC_for a.length 0 (fun i t h => t 16 = N i ∧ h = [none, some (fill (fun x => [N x]) [N 0] z i)]) (by simp [fill_zero, hz]) (by omega) ?_
  rintro i t1 hh hf hi ⟨e16, rfl⟩
  (have e1 := hf 1 (by kernel_rfl); have e2 := hf 2 (by kernel_rfl); have e3 := hf 3 (by kernel_rfl); have e9 := hf 9 (by kernel_rfl); have e15 := hf 15 (by kernel_rfl); clear hf; simp [sf] at e1 e2 e3 e9 e15)
  simp (disch := omega) [e1, e2, e3, e9, e15, e16]
  (with_reducible first | refine onBoolT (fun h6 => ?_) (fun h6 => ?_) | refine onBoolF (fun h6 => ?_) (fun h6 => ?_))
  · simp only [ltB_true, ltB_false, leB_true, leB_false, eqB_true, eqB_false, Bool.not_true, Bool.not_false] at h6
    have hlen := fill_len (z := [N 0]) (l := z) he rfl (i := i) (by omega)
    have hst := fill_step (z := [N 0]) (l := z) he rfl (i := i) (by omega)
    have hpi := hp i (by omega)
    rw [hget i (by omega)] at hst
    simp (disch := omega) [e1, e2, e3, e9, e15, e16, idx_L, sf]
    refine onFn_N hpi ?_
    simp (disch := omega) [e1, e2, e3, e9, e15, e16, idx_ha, i64_wrap, hlen]
    exact ⟨by omega, by omega, by simpa [splice] using hst⟩
  · simp only [ltB_true, ltB_false, leB_true, leB_false, eqB_true, eqB_false, Bool.not_true, Bool.not_false] at h6
    rw [show i = z.length by omega, fill_N]
    simp (disch := omega) [e9]
    rw [show a.length = z.length by omega, frz_1]
    simp
theorem plus_fn {s : GSys} (t : s.Tab) {a b : Int} (ha : s.G a) (hb : s.G b) : FnN Tryz.prog (.fnm n__impl_System__plus [s.lv]) a b (s.pl a b) :=
  ⟨n__impl_System__plus, [s.lv, N a, N b], by simp [fnArgs], by simp, plus_ok t ha hb⟩
theorem join_fn {s : GSys} (t : s.Tab) {a b : Int} (ha : s.G a) (hb : s.G b) : FnN Tryz.prog (.fnm n__impl_System__join [s.lv]) a b (s.join a b) :=
  ⟨n__impl_System__join, [s.lv, N a, N b], by simp [fnArgs], by simp, join_ok t ha hb⟩
theorem sumF_ok {s : GSys} (t : s.Tab) (n1 n2 : Bool) (a b : List Int) (hl : a.length ≤ 1099511627776) (hab : a.length = b.length) (ha : ∀ u ∈ a, s.G u) (hb : ∀ u ∈ b, s.G u) :
    Gives Tryz.prog n__impl_typer__sum [s.lv, L n1 a, L n2 b] (· = OU true false (sumP s a b)) := by
  refine Gives.of_codeOf c__impl_typer__sum mixed (by simp) ⟨_, rfl, by simp⟩ ?_
  have h := both_ok s (.fnm n__impl_System__plus [s.lv]) s.pl (by simp) (by simp) n1 n2 a b hl hab (fun i hi => plus_fn t (ha _ (List.getElem_mem _)) (hb _ (List.getElem_mem _)))
  simp (disch := omega) [k__impl_typer__sum, boxLV, frzLV]
  refine onCall_eq (r := OU true false (sumP s a b)) h (by simp) ?_
  simp (disch := omega)
theorem joinF_ok {s : GSys} (t : s.Tab) (n1 n2 : Bool) (a b : List Int) (hl : a.length ≤ 1099511627776) (hab : a.length = b.length) (ha : ∀ u ∈ a, s.G u) (hb : ∀ u ∈ b, s.G u) :
    Gives Tryz.prog n__impl_typer__join [s.lv, L n1 a, L n2 b] (· = OU true false (joinP s a b)) := by
  refine Gives.of_codeOf c__impl_typer__join mixed (by simp) ⟨_, rfl, by simp⟩ ?_
  have h := both_ok s (.fnm n__impl_System__join [s.lv]) s.join (by simp) (by simp) n1 n2 a b hl hab (fun i hi => join_fn t (ha _ (List.getElem_mem _)) (hb _ (List.getElem_mem _)))
  simp (disch := omega) [k__impl_typer__join, boxLV, frzLV]
  refine onCall_eq (r := OU true false (joinP s a b)) h (by simp) ?_
  simp (disch := omega)
theorem scaledF_ok {s : GSys} (t : s.Tab) (g : Int) (hg : s.G g) (n1 : Bool) (a : List Int) (hl : a.length ≤ 1099511627776) (ha : ∀ u ∈ a, s.G u) :
    Gives Tryz.prog n__impl_typer__scaled [s.lv, N g, L n1 a] (· = OU true false (scaledP s g a)) := by
  obtain ⟨z, hze⟩ : ∃ z, z = scaledP s g a := ⟨_, rfl⟩
  have hz : z.length = a.length := by rw [hze]; simp [scaledP]
  have hget : ∀ (i : Nat) (h : i < a.length), z[i]'(by omega) = s.tm g a[i] := by intro i h; simp [hze, scaledP]
  rw [← hze]
  clear hze
  refine Gives.of_codeOf c__impl_typer__scaled mixed (by simp) ⟨_, rfl, by simp⟩ ?_
  have hm : (a.length : Int) ≤ (most : Nat) := by unfold most; omega
  have he : ∀ x : Int, ([N x] : List LV).length = 1 := by simp
  simp (disch := omega) [k__impl_typer__scaled, hm, boxLV, frzLV]
  refine wpC_for a.length 0 (fun i t h => t 15 = N i ∧ h = [none, some (fill (fun x => [N x]) [N 0] z i)]) (by simp [fill_zero, hz]) (by omega) ?_
  rintro i t1 hh hf hi ⟨e15, rfl⟩
  (have e1 := hf 1 (by kernel_rfl); have e3 := hf 3 (by kernel_rfl); have e7 := hf 7 (by kernel_rfl); have e13 := hf 13 (by kernel_rfl); have e14 := hf 14 (by kernel_rfl); clear hf; simp [] at e1 e3 e7 e13 e14)
  simp (disch := omega) [e1, e3, e7, e13, e14, e15]
  (with_reducible first | refine onBoolT (fun h6 => ?_) (fun h6 => ?_) | refine onBoolF (fun h6 => ?_) (fun h6 => ?_))
  · simp only [ltB_true, ltB_false, leB_true, leB_false, eqB_true, eqB_false, Bool.not_true, Bool.not_false] at h6
    have hlen := fill_len (z := [N 0]) (l := z) he rfl (i := i) (by omega)
    have hst := fill_step (z := [N 0]) (l := z) he rfl (i := i) (by omega)
    rw [hget i (by omega)] at hst
    simp (disch := omega) [e1, e3, e7, e13, e14, e15, idx_L]
    refine onCall_eq (times_ok t hg (ha _ (List.getElem_mem (show i < a.length by omega)))) (by simp) ?_
    simp (disch := omega) [e1, e3, e7, e13, e14, e15, idx_ha, i64_wrap, hlen]
    exact ⟨by omega, by omega, by simpa [splice] using hst⟩
  · simp only [ltB_true, ltB_false, leB_true, leB_false, eqB_true, eqB_false, Bool.not_true, Bool.not_false] at h6
    rw [show i = z.length by omega, fill_N]
    simp (disch := omega) [e7]
    rw [show a.length = z.length by omega, frz_1]
    simp
theorem IndexFuncI_ok (f : LV) (p : Int → Bool) (sf : share f = f) (lf : Low 0 f) (nl : Bool) (l : List Int) (hlen : l.length ≤ 1099511627776) (hp : ∀ c ∈ l, FnB Tryz.prog f (N c) (p c)) :
    Gives Tryz.prog n_slices_IndexFunc___int_int_ [L nl l, f] (fun r => ∃ n : Int, r = N n ∧ leB 0 n = l.any p) := by
  refine Gives.of_codeOf c_slices_IndexFunc___int_int_ mixed (by simp) ⟨N (if l.any p = true then 0 else -1), ⟨_, rfl, by split <;> simp_all [leB]⟩, by simp⟩ ?_
  simp (disch := omega) [k_slices_IndexFunc___int_int_, sf]
  refine wpC_for l.length 0 (fun i t _ => t 8 = N i ∧ l.any p = (l.drop i).any p) (by simp) (by omega) ?_
  rintro i t1 hh hf hi ⟨e8, hj⟩
  (have e0 := hf 0 (by kernel_rfl); have e1 := hf 1 (by kernel_rfl); have e6 := hf 6 (by kernel_rfl); have e7 := hf 7 (by kernel_rfl); clear hf; simp [sf] at e0 e1 e6 e7)
  simp (disch := omega) [e0, e1, e6, e7, e8]
  (with_reducible first | refine onBoolT (fun h6 => ?_) (fun h6 => ?_) | refine onBoolF (fun h6 => ?_) (fun h6 => ?_))
  · simp only [ltB_true, ltB_false, leB_true, leB_false, eqB_true, eqB_false, Bool.not_true, Bool.not_false] at h6
    have hd := List.drop_eq_getElem_cons (l := l) (i := i) (by omega)
    have hpc := hp (l[i]'(by omega)) (List.getElem_mem _)
    simp (disch := omega) [e0, e1, e6, e7, e8, idx_L, sf]
    repeat' (first
    | with_reducible refine onFn_B hpc ?_
    | (with_reducible (first | refine onBoolT (fun hb_ => ?_) (fun hb_ => ?_) | refine onBoolF (fun hb_ => ?_) (fun hb_ => ?_)) <;> simp (disch := omega) [hb_, e0, e1, e6, e7, e8, idx_L, sf])
    | simp (disch := omega) [e0, e1, e6, e7, e8, idx_L, sf])
    · rw [hj, hd, List.any_cons, hb_, Bool.true_or, leB_true]; omega
    · exact ⟨by omega, i64_wrap (by omega), by rw [hj, hd, List.any_cons, hb_, Bool.false_or]⟩
  · simp only [ltB_true, ltB_false, leB_true, leB_false, eqB_true, eqB_false, Bool.not_true, Bool.not_false] at h6
    simp (disch := omega)
    rw [hj, show i = l.length by omega, List.drop_length]; simp [leB]
theorem ContainsFuncI_ok (f : LV) (p : Int → Bool) (sf : share f = f) (lf : Low 0 f) (nl : Bool) (l : List Int) (hlen : l.length ≤ 1099511627776) (hp : ∀ c ∈ l, FnB Tryz.prog f (N c) (p c)) :
    Gives Tryz.prog n_slices_ContainsFunc___int_int_ [L nl l, f] (· = B (l.any p)) := by
  refine Gives.of_codeOf c_slices_ContainsFunc___int_int_ mixed (by simp) ⟨_, rfl, by simp⟩ ?_
  simp (disch := omega) [k_slices_ContainsFunc___int_int_, sf]
  refine onCall_R (IndexFuncI_ok f p sf lf nl l hlen hp) (by simp [lf]) ?_
  rintro r ⟨n, rfl, hn⟩
  simp (disch := omega) [sf, hn]
theorem usedOk_1_ok {s : GSys} (t : s.Tab) {u g : Int} (hu : s.G u) (hg : s.G g) : FnB Tryz.prog (.fn n__impl_typer__usedOk_1 [.rp s.cells, .rp [N g]]) (N u) (!s.le u g) := by
  refine ⟨n__impl_typer__usedOk_1, [N u, .rp s.cells, .rp [N g]], by simp [fnArgs], by simp, ?_⟩
  refine Gives.of_codeOf c__impl_typer__usedOk_1 mixed (by simp) ⟨_, rfl, by simp⟩ ?_
  simp (disch := omega) [k__impl_typer__usedOk_1]
  refine onCall_eq (below_ok t hu hg) (by simp) ?_
  simp (disch := omega)
theorem usedOkF_ok {s : GSys} (t : s.Tab) {g : Int} (hg : s.G g) (nl : Bool) (l : List Int) (hl : l.length ≤ 1099511627776) (hu : ∀ u ∈ l, s.G u) : Gives Tryz.prog n__impl_typer__usedOk [s.lv, L nl l, N g] (· = B (usedOkP s l g)) := by
  refine Gives.of_codeOf c__impl_typer__usedOk mixed (by simp) ⟨_, rfl, by simp⟩ ?_
  have hc := ContainsFuncI_ok (.fn n__impl_typer__usedOk_1 [.rp s.cells, .rp [N g]]) (fun u => !s.le u g) (by simp) (by simp) nl l hl (fun c hc => usedOk_1_ok t (hu c hc) hg)
  simp (disch := omega) [k__impl_typer__usedOk, boxLV, frzLV]
  refine onCall_eq hc (by simp) ?_
  simp (disch := omega)
  simp [usedOkP, List.all_eq_not_any_not]
def cl (nl : Bool) (l : List Int) : LV := if nl = true then .sl false true 1 [] else OU true false l
end Go.Proofs.YtclfngbealdbgaaGreat
namespace Go.Proofs.YtclfngbealdbgaaGreat
open Go Go.TL
open Go.Proofs.YtclfngbealdbgaaGreat.Ty
set_option linter.unusedSimpArgs false
set_option linter.unusedVariables false
set_option maxRecDepth 20000
set_option maxHeartbeats 4000000
theorem growI_ok (n : Int) (h0 : 0 ≤ n) (h1 : n ≤ 1099511627776) : Gives Tryz.prog n_slices_Grow___int_int_ [.sl false true 1 [], N n] (· = .sl (ltB 0 n) (!ltB 0 n) 1 []) := by
  refine Gives.of_codeOf c_slices_Grow___int_int_ mixed (by simp) ⟨_, rfl, by simp⟩ ?_
  have hm : n ≤ (most : Nat) := by unfold most; omega
  have hneg : ltB n 0 = false := by rw [ltB_false]; omega
  simp (disch := omega) [k_slices_Grow___int_int_, i64_wrap, hneg, cutLV]
  (with_reducible first | refine onBoolT (fun h1 => ?_) (fun h1 => ?_) | refine onBoolF (fun h1 => ?_) (fun h1 => ?_))
  · have hmm : (most : Int) = 1099511627776 := rfl
    have hp : 0 < n := by rw [ltB_true] at h1; exact h1
    have hc : cutLV 1 (.sl false true 1 []) none (some 0) none = some (.sl false true 1 []) := by simp [cutLV]
    simp (disch := omega) [h1, hc, hp, hm]
  · simp (disch := omega) [h1]
abbrev rowI (c : Bool × List Int) : LV := .sl false c.1 1 (c.2.map fun x => [N x])
def rowsI (ls : List (Bool × List Int)) : List (List LV) := ls.map fun c => [rowI c]
def lnI (ls : List (Bool × List Int)) : Nat := (ls.map fun c => c.2.length).sum
def flI (ls : List (Bool × List Int)) : List Int := (ls.map fun c => c.2).flatten
abbrev catI (l : List Int) : LV := .sl (ltB 0 l.length) (!ltB 0 l.length) 1 (l.map fun x => [N x])
theorem lnI_app (a b : List (Bool × List Int)) : lnI (a ++ b) = lnI a + lnI b := by simp [lnI]
theorem lnI_cons (a : Bool × List Int) (b : List (Bool × List Int)) : lnI (a :: b) = a.2.length + lnI b := by simp [lnI]
theorem flI_app (a b : List (Bool × List Int)) : flI (a ++ b) = flI a ++ flI b := by simp [flI]
theorem flI_length (a : List (Bool × List Int)) : (flI a).length = lnI a := by simp [flI, lnI, Function.comp_def]
@[simp] theorem rowI_share (c : Bool × List Int) : share (rowI c) = rowI c := by simp [rowI]
theorem concatI_ok (ls : List (Bool × List Int)) (hl : ls.length ≤ 1099511627776) (ht : lnI ls ≤ 1099511627776) :
    Gives Tryz.prog n_slices_Concat___int_int_ [.sl false false 1 (rowsI ls)] (· = catI (flI ls)) := by
  have hlow : LowRow 0 (rowsI ls) := by simp [rowsI]
  have hfl := flI_length ls
  refine Gives.of_codeOf c_slices_Concat___int_int_ mixed (by simp) ⟨_, rfl, by simp only [low_sl, lowRow_map, lowAll_cons, low_sc, lowAll_nil, and_self, implies_true]⟩ ?_
  have hsr : shareRow (rowsI ls) = rowsI ls := by simp [rowsI]
  simp (disch := omega) [k_slices_Concat___int_int_, hsr]
  have hrl : (rowsI ls).length = ls.length := by simp [rowsI]
  rw [hrl]
  have idx : ∀ i : Nat, i < ls.length → idxLV 1 (.sl false false 1 (rowsI ls)) (i : Int) = some (.rp [rowI (ls.getD i (false, []))]) := fun i hi => by
    have := idx_at rowI rowI_share ls false false i (by omega) (by omega)
    rw [rowsI, this]; simp [List.getD_eq_getElem?_getD, hi]
  have tk : ∀ i : Nat, i < ls.length → ls.take (i + 1) = ls.take i ++ [ls.getD i (false, [])] := fun i hi => by
    rw [List.take_succ_eq_append_getElem hi]; simp [List.getD_eq_getElem?_getD, hi]
  have lnle : ∀ i : Nat, lnI (ls.take i) ≤ lnI ls := fun i => by
    have := lnI_app (ls.take i) (ls.drop i)
    rw [List.take_append_drop] at this; omega
  refine wpC_forM ls.length 0 (fun i t h => h = [] ∧ t 11 = N i ∧ t 3 = N (lnI (ls.take i))) (fun t h => h = [] ∧ t 3 = N (lnI ls)) (by simp [lnI]) (by omega) ?_ ?_
  · rintro i t1 hh hf hi ⟨rfl, e11, e3⟩
    (have e9 := hf 9 (by kernel_rfl); have e10 := hf 10 (by kernel_rfl); clear hf; simp [hsr] at e9 e10)
    simp (disch := omega) [e3, e9, e10, e11]
    by_cases h6 : i < ls.length
    · have hb : ltB (i : Int) ls.length = true := by rw [ltB_true]; omega
      have t1' := tk i h6
      have t2 := lnle (i + 1)
      have hix := idx i h6
      rw [t1', lnI_app, lnI_cons] at t2
      rw [t1', lnI_app, lnI_cons]
      generalize ls.getD i (false, []) = c at t2 hix ⊢
      generalize lnI (ls.take i) = m at *
      have hnb : ltB ((m : Int) + c.2.length) 0 = false := by rw [ltB_false]; omega
      simp (disch := omega) [e3, e9, e10, e11, hb, hix, i64_wrap, hnb]
      simp [lnI]; omega
    · have hb : ltB (i : Int) ls.length = false := by rw [ltB_false]; omega
      simp (disch := omega) [e3, e9, e10, e11, hb]
      rw [List.take_of_length_le (by omega)]
  · rintro t1 hh hf ⟨rfl, e3⟩
    (have e0 := hf 0 (by kernel_rfl); clear hf; simp [hsr] at e0)
    simp (disch := omega) [e3, e0]
    refine onCall_eq (growI_ok _ (by omega) (by omega)) (by simp) ?_
    simp (disch := omega) [e3, e0, hsr, hrl]
    refine wpC_forM ls.length 0 (fun i t h => h = [] ∧ t 27 = N i ∧ t 6 = .sl (ltB 0 (lnI ls)) (!ltB 0 (lnI ls)) 1 ((flI (ls.take i)).map fun x => [N x])) (fun t h => h = [] ∧ t 6 = catI (flI ls)) (by simp [flI]) (by omega) ?_ ?_
    · rintro i t2 hh hf2 hi ⟨rfl, e27, e6⟩
      have e25 := hf2 25 (by kernel_rfl); have e26 := hf2 26 (by kernel_rfl); clear hf2; simp [hsr] at e25 e26
      simp (disch := omega) [e6, e25, e26, e27]
      by_cases h6 : i < ls.length
      · have hb : ltB (i : Int) ls.length = true := by rw [ltB_true]; omega
        have t1' := tk i h6
        have t2' := lnle (i + 1)
        have t3 := flI_length (ls.take i)
        have hix := idx i h6
        rw [t1', lnI_app, lnI_cons] at t2'
        rw [t1', flI_app]
        generalize ls.getD i (false, []) = c at t2' hix ⊢
        rw [← t3] at t2'
        generalize flI (ls.take i) = m at *
        simp (disch := omega) [e6, e25, e26, e27, hb, hix, i64_wrap]
        have ap : appLV 1 (.sl (ltB 0 (lnI ls)) (!ltB 0 (lnI ls)) 1 (m.map fun x => [N x])) (.sl false c.1 1 (c.2.map fun x => [N x])) = some (.sl (ltB 0 (lnI ls)) (!ltB 0 (lnI ls)) 1 ((m ++ c.2).map fun x => [N x])) := by
          cases hq : ltB 0 (lnI ls : Int)
          · rw [ltB_false] at hq
            have c0 : c.2 = [] := List.eq_nil_of_length_eq_zero (by omega)
            have m0 : m = [] := List.eq_nil_of_length_eq_zero (by omega)
            simp [appLV, c0, m0, most]
          · simp only [appLV]
            rw [if_pos ⟨by simp, .inl trivial, .inl trivial, by simp [most]; omega⟩]
            simp
        have e0 : flI [c] = c.2 := by simp [flI]
        rw [ap]
        simp (disch := omega) [e6, e25, e26, e27, hb, hix, i64_wrap, e0]
        omega
      · have hb : ltB (i : Int) ls.length = false := by rw [ltB_false]; omega
        simp (disch := omega) [e6, e25, e26, e27, hb]
        rw [List.take_of_length_le (by omega), hfl]
        exact ⟨rfl, rfl⟩
    · rintro t1 hh hf ⟨rfl, e6⟩
      simp (disch := omega) [e6]
theorem growC_ok (n : Int) (h0 : 0 ≤ n) (h1 : n ≤ 1099511627776) : Gives Tryz.prog n_slices_Grow_____int___int_ [.sl false true 1 [], N n] (· = .sl (ltB 0 n) (!ltB 0 n) 1 []) := by
  refine Gives.of_codeOf c_slices_Grow_____int___int_ mixed (by simp) ⟨_, rfl, by simp⟩ ?_
  have hm : n ≤ (most : Nat) := by unfold most; omega
  have hneg : ltB n 0 = false := by rw [ltB_false]; omega
  simp (disch := omega) [k_slices_Grow_____int___int_, i64_wrap, hneg, cutLV]
  (with_reducible first | refine onBoolT (fun h1 => ?_) (fun h1 => ?_) | refine onBoolF (fun h1 => ?_) (fun h1 => ?_))
  · have hmm : (most : Int) = 1099511627776 := rfl
    have hp : 0 < n := by rw [ltB_true] at h1; exact h1
    have hc : cutLV 1 (.sl false true 1 []) none (some 0) none = some (.sl false true 1 []) := by simp [cutLV]
    simp (disch := omega) [h1, hc, hp, hm]
  · simp (disch := omega) [h1]
abbrev rowC (c : Bool × List (Bool × List Int)) : LV := .sl false c.1 1 (c.2.map fun x => [eC x])
def rowsC (ls : List (Bool × List (Bool × List Int))) : List (List LV) := ls.map fun c => [rowC c]
def lnC (ls : List (Bool × List (Bool × List Int))) : Nat := (ls.map fun c => c.2.length).sum
def flC (ls : List (Bool × List (Bool × List Int))) : List (Bool × List Int) := (ls.map fun c => c.2).flatten
abbrev catC (l : List (Bool × List Int)) : LV := .sl (ltB 0 l.length) (!ltB 0 l.length) 1 (l.map fun x => [eC x])
theorem lnC_app (a b : List (Bool × List (Bool × List Int))) : lnC (a ++ b) = lnC a + lnC b := by simp [lnC]
theorem lnC_cons (a : Bool × List (Bool × List Int)) (b : List (Bool × List (Bool × List Int))) : lnC (a :: b) = a.2.length + lnC b := by simp [lnC]
theorem flC_app (a b : List (Bool × List (Bool × List Int))) : flC (a ++ b) = flC a ++ flC b := by simp [flC]
theorem flC_length (a : List (Bool × List (Bool × List Int))) : (flC a).length = lnC a := by simp [flC, lnC, Function.comp_def]
@[simp] theorem rowC_share (c : Bool × List (Bool × List Int)) : share (rowC c) = rowC c := by simp [rowC]
theorem concatC_ok (ls : List (Bool × List (Bool × List Int))) (hl : ls.length ≤ 1099511627776) (ht : lnC ls ≤ 1099511627776) :
    Gives Tryz.prog n_slices_Concat_____int___int_ [.sl false false 1 (rowsC ls)] (· = catC (flC ls)) := by
  have hlow : LowRow 0 (rowsC ls) := by simp [rowsC]
  have hfl := flC_length ls
  refine Gives.of_codeOf c_slices_Concat_____int___int_ mixed (by simp) ⟨_, rfl, by simp only [low_sl, lowRow_map, lowAll_cons, low_sc, lowAll_nil, and_self, implies_true]⟩ ?_
  have hsr : shareRow (rowsC ls) = rowsC ls := by simp [rowsC]
  simp (disch := omega) [k_slices_Concat_____int___int_, hsr]
  have hrl : (rowsC ls).length = ls.length := by simp [rowsC]
  rw [hrl]
  have idx : ∀ i : Nat, i < ls.length → idxLV 1 (.sl false false 1 (rowsC ls)) (i : Int) = some (.rp [rowC (ls.getD i (false, []))]) := fun i hi => by
    have := idx_at rowC rowC_share ls false false i (by omega) (by omega)
    rw [rowsC, this]; simp [List.getD_eq_getElem?_getD, hi]
  have tk : ∀ i : Nat, i < ls.length → ls.take (i + 1) = ls.take i ++ [ls.getD i (false, [])] := fun i hi => by
    rw [List.take_succ_eq_append_getElem hi]; simp [List.getD_eq_getElem?_getD, hi]
  have lnle : ∀ i : Nat, lnC (ls.take i) ≤ lnC ls := fun i => by
    have := lnC_app (ls.take i) (ls.drop i)
    rw [List.take_append_drop] at this; omega
  refine wpC_forM ls.length 0 (fun i t h => h = [] ∧ t 11 = N i ∧ t 3 = N (lnC (ls.take i))) (fun t h => h = [] ∧ t 3 = N (lnC ls)) (by simp [lnC]) (by omega) ?_ ?_
  · rintro i t1 hh hf hi ⟨rfl, e11, e3⟩
    (have e9 := hf 9 (by kernel_rfl); have e10 := hf 10 (by kernel_rfl); clear hf; simp [hsr] at e9 e10)
    simp (disch := omega) [e3, e9, e10, e11]
    by_cases h6 : i < ls.length
    · have hb : ltB (i : Int) ls.length = true := by rw [ltB_true]; omega
      have t1' := tk i h6
      have t2 := lnle (i + 1)
      have hix := idx i h6
      rw [t1', lnC_app, lnC_cons] at t2
      rw [t1', lnC_app, lnC_cons]
      generalize ls.getD i (false, []) = c at t2 hix ⊢
      generalize lnC (ls.take i) = m at *
      have hnb : ltB ((m : Int) + c.2.length) 0 = false := by rw [ltB_false]; omega
      simp (disch := omega) [e3, e9, e10, e11, hb, hix, i64_wrap, hnb]
      simp [lnC]; omega
    · have hb : ltB (i : Int) ls.length = false := by rw [ltB_false]; omega
      simp (disch := omega) [e3, e9, e10, e11, hb]
      rw [List.take_of_length_le (by omega)]
  · rintro t1 hh hf ⟨rfl, e3⟩
    (have e0 := hf 0 (by kernel_rfl); clear hf; simp [hsr] at e0)
    simp (disch := omega) [e3, e0]
    refine onCall_eq (growC_ok _ (by omega) (by omega)) (by simp) ?_
    simp (disch := omega) [e3, e0, hsr, hrl]
    refine wpC_forM ls.length 0 (fun i t h => h = [] ∧ t 27 = N i ∧ t 6 = .sl (ltB 0 (lnC ls)) (!ltB 0 (lnC ls)) 1 ((flC (ls.take i)).map fun x => [eC x])) (fun t h => h = [] ∧ t 6 = catC (flC ls)) (by simp [flC]) (by omega) ?_ ?_
    · rintro i t2 hh hf2 hi ⟨rfl, e27, e6⟩
      have e25 := hf2 25 (by kernel_rfl); have e26 := hf2 26 (by kernel_rfl); clear hf2; simp [hsr] at e25 e26
      simp (disch := omega) [e6, e25, e26, e27]
      by_cases h6 : i < ls.length
      · have hb : ltB (i : Int) ls.length = true := by rw [ltB_true]; omega
        have t1' := tk i h6
        have t2' := lnle (i + 1)
        have t3 := flC_length (ls.take i)
        have hix := idx i h6
        rw [t1', lnC_app, lnC_cons] at t2'
        rw [t1', flC_app]
        generalize ls.getD i (false, []) = c at t2' hix ⊢
        rw [← t3] at t2'
        generalize flC (ls.take i) = m at *
        simp (disch := omega) [e6, e25, e26, e27, hb, hix, i64_wrap]
        have ap : appLV 1 (.sl (ltB 0 (lnC ls)) (!ltB 0 (lnC ls)) 1 (m.map fun x => [eC x])) (.sl false c.1 1 (c.2.map fun x => [eC x])) = some (.sl (ltB 0 (lnC ls)) (!ltB 0 (lnC ls)) 1 ((m ++ c.2).map fun x => [eC x])) := by
          cases hq : ltB 0 (lnC ls : Int)
          · rw [ltB_false] at hq
            have c0 : c.2 = [] := List.eq_nil_of_length_eq_zero (by omega)
            have m0 : m = [] := List.eq_nil_of_length_eq_zero (by omega)
            simp [appLV, c0, m0, most]
          · simp only [appLV]
            rw [if_pos ⟨by simp, .inl trivial, .inl trivial, by simp [most]; omega⟩]
            simp
        have e0 : flC [c] = c.2 := by simp [flC]
        rw [ap]
        simp (disch := omega) [e6, e25, e26, e27, hb, hix, i64_wrap, e0]
        omega
      · have hb : ltB (i : Int) ls.length = false := by rw [ltB_false]; omega
        simp (disch := omega) [e6, e25, e26, e27, hb]
        rw [List.take_of_length_le (by omega), hfl]
        exact ⟨rfl, rfl⟩
    · rintro t1 hh hf ⟨rfl, e6⟩
      simp (disch := omega) [e6]
end Go.Proofs.YtclfngbealdbgaaGreat
namespace Go.Proofs.YtclfngbealdbgaaGreat
open Go Go.TL
open Go.Proofs.YtclfngbealdbgaaGreat.Ty
set_option linter.unusedSimpArgs false
attribute [local simp low] onBool_some
attribute [local simp] onBool_leT onBool_leF onBool_ltT onBool_ltF onBool_eqT onBool_eqF
theorem long_ok (u nl : Bool) (l : List Int) : Gives Tryz.prog n_impl_long [.sl u nl 1 (l.map fun n => [N n])] (· = B (ltB 40 l.length)) := by
  refine Gives.of_codeOf c_impl_long mixed (by simp) ⟨_, rfl, by simp⟩ ?_
  simp (contextual := true) (disch := omega) [k_impl_long]
theorem typeEndF_ok (nl : Bool) (l : List Int) (hl : l.length ≤ 1099511627776) (hw : ∀ n ∈ l, I64 n) (i : Int) (hi : I64 i) : Gives Tryz.prog n_impl_typeEnd [L nl l, N i] (· = N (tEnd l i)) := typeEnd_ok nl l ⟨hl, hw⟩ i hi
def rows (ts : List RT) : List (List LV) := ts.map fun t => [.sl false false 1 (t.flat.map fun n => [N n])]
theorem rows_length (dn : List RT) : (rows dn).length ≤ (flats dn).length := by
  induction dn with
  | nil => simp [rows]
  | cons a dn ih =>
    have := a.flat_pos
    simp only [rows, List.length_map] at ih
    simp [rows, flats]; omega
theorem parts_ok (c : Int) (ks : List RT) (hok : (RT.nd c ks).ok) (hl : (RT.nd c ks).flat.length ≤ 1099511627776) (hw : ∀ n ∈ (RT.nd c ks).flat, I64 n) :
    Gives Tryz.prog n_impl_parts [L false (RT.nd c ks).flat] (· = .sl (!ks.isEmpty) ks.isEmpty 1 (rows ks)) := by
  refine Gives.of_codeOf c_impl_parts mixed (by simp) ⟨_, rfl, by simp [rows]⟩ ?_
  simp (contextual := true) (disch := omega) [k_impl_parts]
  generalize hL : (RT.nd c ks).flat = l at *
  refine wpC_loopI (fun k s => ∃ dn rest, ks = dn ++ rest ∧ k = rest.length ∧ s.h = [] ∧ s.t 0 = L false l ∧ s.t 3 = .sl (!dn.isEmpty) dn.isEmpty 1 (rows dn) ∧ s.t 4 = N ((flats dn).length + 1)) ks.length ?_ ?_
  · refine ⟨[], ks, rfl, rfl, ?_⟩
    simp [rows, flats]
  · rintro k s ⟨dn, rest, hks, hk, h1, h2, h3, h4⟩
    simp (contextual := true) (disch := omega) [h1, h2, h3, h4]
    subst hks
    refine ⟨fun _ h5 => ?_, fun _ h5 => ?_⟩
    · match rest with
      | [] =>
        exfalso
        rw [← hL] at h5
        simp only [RT.flat, flats_app, flats, List.length_cons, List.length_append] at h5
        simp at h5
      | t :: rest =>
        have hd : l.drop ((flats dn).length + 1) = t.flat ++ flats rest := by
          rw [← hL]
          simp [RT.flat, flats_app, flats]
        have hll : l.length = (flats dn).length + 1 + t.flat.length + (flats rest).length := by
          rw [← hL]
          simp [RT.flat, flats_app, flats]; omega
        have he : tEnd l ((flats dn).length + 1) = (flats dn).length + 1 + t.flat.length := by
          unfold tEnd
          rw [if_pos (by omega), show (((flats dn).length : Int) + 1).toNat = (flats dn).length + 1 by omega, hd]
          simp only [RT.ok] at hok
          have := (oks_iff.1 hok.2) t (by simp)
          rw [endOf_flat this]
          omega
        have hp := t.flat_pos
        refine onCall_eq (typeEndF_ok false l hl hw _ ⟨by omega, by omega⟩) (by simp) ?_
        rw [he]
        have hrow : List.drop ((flats dn).length + 1) (List.take ((flats dn).length + 1 + t.flat.length) l) = t.flat := by
          rw [List.drop_take, hd, show (flats dn).length + 1 + t.flat.length - ((flats dn).length + 1) = t.flat.length by omega]
          simp
        have hrow := congrArg (List.map fun n : Int => [N n]) hrow
        rw [List.map_drop, List.map_take] at hrow
        have hn : (((flats dn).length : Int) + 1 + t.flat.length).toNat = (flats dn).length + 1 + t.flat.length := by omega
        have hne : ¬ (((flats dn).length : Int) + 1 = (flats dn).length + 1 + t.flat.length) := by omega
        have hks : (rows dn).length + 1 ≤ most := by
          have := rows_length dn
          unfold most; omega
        simp (contextual := true) (disch := omega) [h2, h3, h4, cutLV, appLV, hn, hne, hrow, hks]
        refine ⟨by omega, Classical.em _ |>.symm, rest.length, by simp [hk], dn ++ [t], rest, by simp, rfl, ⟨by simp, by simp [rows]⟩, by simp [flats_app, flats]; omega⟩
    · match rest with
      | [] => simp [rows]
      | t :: rest =>
        exfalso
        rw [← hL] at h5
        simp only [RT.flat, flats_app, flats, List.length_cons, List.length_append] at h5
        have := t.flat_pos
        omega
end Go.Proofs.YtclfngbealdbgaaGreat
namespace Go.Proofs.YtclfngbealdbgaaGreat
open Go Go.TL
open Go.Proofs.YtclfngbealdbgaaGreat.Ty
set_option linter.unusedSimpArgs false
set_option linter.unusedVariables false
set_option maxRecDepth 20000
set_option maxHeartbeats 4000000
theorem bin_slc (u u' nl : Bool) (sz sz' : Nat) (xs : List (List LV)) : binLV .slc .eql (.sl u nl sz xs) (.sl u' true sz' []) = some (B nl) := rfl
theorem Clone_ok (nl : Bool) (l : List Int) (hl : l.length ≤ 1099511627776) : Gives Tryz.prog n_slices_Clone___int_int_ [L nl l] (· = cl nl l) := by
  refine Gives.of_codeOf c_slices_Clone___int_int_ mixed (by simp) ⟨_, rfl, by unfold cl; split <;> simp⟩ ?_
  have hm : l.length ≤ most := hl
  cases nl
  · simp (disch := omega) [k_slices_Clone___int_int_, bin_slc, chunks, appLV, hm, cl]
  · simp (disch := omega) [k_slices_Clone___int_int_, bin_slc, cl]
theorem Equal_ok (n1 n2 : Bool) (a b : List Int) (ha : a.length ≤ 1099511627776) : Gives Tryz.prog n_slices_Equal___int_int_ [L n1 a, L n2 b] (· = B (a == b)) := by
  generalize hq : (a == b) = q
  refine Gives.of_codeOf c_slices_Equal___int_int_ mixed (by simp) ⟨_, rfl, by simp⟩ ?_
  simp (disch := omega) [k_slices_Equal___int_int_]
  (with_reducible first | refine onBoolT (fun h1 => ?_) (fun h1 => ?_) | refine onBoolF (fun h1 => ?_) (fun h1 => ?_))
  · simp (disch := omega) [h1]
    simp only [ltB_true, ltB_false, leB_true, leB_false, eqB_true, eqB_false, Bool.not_true, Bool.not_false] at h1
    refine wpC_for a.length 0 (fun i t _ => t 13 = N i ∧ q = (a.drop i == b.drop i)) (by simp [hq]) (by omega) ?_
    rintro i t1 hh hf hi ⟨e13, hj⟩
    (have e0 := hf 0 (by kernel_rfl); have e1 := hf 1 (by kernel_rfl); have e12 := hf 12 (by kernel_rfl); clear hf; simp [] at e0 e1 e12)
    simp (disch := omega) [e0, e1, e12, e13]
    (with_reducible first | refine onBoolT (fun h6 => ?_) (fun h6 => ?_) | refine onBoolF (fun h6 => ?_) (fun h6 => ?_))
    · simp only [ltB_true, ltB_false, leB_true, leB_false, eqB_true, eqB_false, Bool.not_true, Bool.not_false] at h6
      have hd1 := List.drop_eq_getElem_cons (l := a) (i := i) (by omega)
      have hd2 := List.drop_eq_getElem_cons (l := b) (i := i) (by omega)
      have hq2 : q = (a[i]'(by omega) == b[i]'(by omega) && (a.drop (i + 1) == b.drop (i + 1))) := by rw [hj, hd1, hd2]; rfl
      clear hd1 hd2 hj
      simp (disch := omega) [e0, e1, e12, e13, idx_L]
      repeat' (first
    | (with_reducible (first | refine onBoolT (fun hb_ => ?_) (fun hb_ => ?_) | refine onBoolF (fun hb_ => ?_) (fun hb_ => ?_)) <;> simp (disch := omega) [hb_, e0, e1, e12, e13, i64_wrap])
    | simp (disch := omega) [e0, e1, e12, e13, i64_wrap])
      all_goals simp only [ltB_true, ltB_false, leB_true, leB_false, eqB_true, eqB_false, Bool.not_true, Bool.not_false] at hb_
      · exact ⟨by omega, by simp [hq2, hb_]⟩
      · simp [hq2, hb_]
    · simp only [ltB_true, ltB_false, leB_true, leB_false, eqB_true, eqB_false, Bool.not_true, Bool.not_false] at h6
      simp (disch := omega)
      rw [hj, List.drop_of_length_le (by omega), List.drop_of_length_le (by omega)]; simp
  · simp (disch := omega) [h1]
    simp only [ltB_true, ltB_false, leB_true, leB_false, eqB_true, eqB_false, Bool.not_true, Bool.not_false] at h1
    rw [← hq]; simp; intro h; exact h1 (by rw [h])
def partsL (l : List Int) : List (List Int) := match kidsN (hd l) with
  | some 2 => [part0 l, part1 l]
  | some 1 => [part0 l]
  | _ => []
theorem partsL_two {l : List Int} (h : kidsN (hd l) = some 2) : partsL l = [part0 l, part1 l] := by simp [partsL, h]
theorem partsL_one {l : List Int} (h : kidsN (hd l) = some 1) : partsL l = [part0 l] := by simp [partsL, h]
theorem partsF_ok {l : List Int} (h : wty l = true) : Gives Tryz.prog n_impl_parts [L false l] (· = .sl (!(partsL l).isEmpty) (partsL l).isEmpty 1 ((partsL l).map fun p => [L false p])) := by
  obtain ⟨⟨c, ks⟩, h3, rfl, h5⟩ := wty_tree h
  have := parts_ok c ks h3 (by omega) (fun n hn => by have := wty_I64 h n hn; unfold I64; omega)
  simp only [RT.ok] at h3
  have e : rows ks = (partsL (RT.nd c ks).flat).map (fun p => [L false p]) ∧ (partsL (RT.nd c ks).flat).isEmpty = ks.isEmpty := by
    match ks, h3 with
    | [], h3 => simp [partsL, RT.flat, h3.1, rows]
    | [a], h3 =>
      simp only [oks] at h3
      have q := part0_flat (c := c) (r := []) h3.2.1
      rw [List.append_nil] at q
      simp [partsL, RT.flat, flats, h3.1, rows, q]
    | [a, b], h3 =>
      simp only [oks] at h3
      have q := part0_flat (c := c) (r := b.flat) h3.2.1
      have q1 := part1_flat (c := c) (r := b.flat) h3.2.1
      simp [partsL, RT.flat, flats, h3.1, rows, q, q1]
    | _ :: _ :: _ :: _, h3 =>
      have := kidsN_le h3.1
      simp at this
  rw [e.1, ← e.2] at this
  exact this
theorem firstOkF_ok {s : GSys} (t : s.Tab) (g : GTerm) (op n : Int) (nl1 : Bool) (gty : List Int) (nl2 : Bool) (ks : List GTerm) (hg : g = .mk op n nl1 gty nl2 ks) (i : Nat) (hi : i ≤ 3) (ty : List Int) (hty : okL s.size ty = true) (hop : 0 ≤ op ∧ op ≤ 12) (hn : op = 5 ∨ op = 8 ∨ op = 12 → s.G n) :
    Gives Tryz.prog n__impl_typer__firstOk [s.lv, g.lv, N i, L false ty] (· = N (firstOkP s op n i (hd ty))) := by
  subst hg
  have hh := okL_hd hty
  obtain ⟨c, tl, rfl⟩ : ∃ c tl, ty = c :: tl := by
    cases ty with
    | nil => exact absurd rfl hh.2.2.2.1
    | cons c tl => exact ⟨c, tl, rfl⟩
  have hc : I64 c := by unfold I64; simp at hh; omega
  have hid : idxLV 1 (L false (c :: tl)) 0 = some (.rp [N c]) := by
    have := idx_L (c :: tl) false false 0 (by omega) (by simp)
    simpa using this
  have hbl : op = 5 ∨ op = 8 ∨ op = 12 → Gives Tryz.prog n__impl_System__below [s.lv, N 1, N n] (· = B (s.le 1 n)) := fun h => below_ok t (GSys.G1 t) (hn h)
  refine Gives.of_codeOf c__impl_typer__firstOk mixed (by simp) ⟨_, rfl, by simp⟩ ?_
  have run : ∀ (q : Int), q = firstOkP s op n i c → wpC Tryz.prog k__impl_typer__firstOk (fun e s => (e = Exit.normal ∨ e = Exit.ret) ∧ Low 0 (s.t 8) ∧ s.t 8 = N q) { t := env [s.lv, (GTerm.mk op n nl1 gty nl2 ks).lv, N i, L false (c :: tl)], h := [] } := by
    intro q hq
    have h13 : op = 0 ∨ op = 1 ∨ op = 2 ∨ op = 3 ∨ op = 4 ∨ op = 5 ∨ op = 6 ∨ op = 7 ∨ op = 8 ∨ op = 9 ∨ op = 10 ∨ op = 11 ∨ op = 12 := by omega
    subst hq
    rcases h13 with rfl | rfl | rfl | rfl | rfl | rfl | rfl | rfl | rfl | rfl | rfl | rfl | rfl
    all_goals
      rcases Nat.eq_zero_or_pos i with rfl | hp
      · simp (disch := omega) [k__impl_typer__firstOk, boxLV, frzLV, GTerm.cells, hid]
        refine onCall_eq (shape_ok c hc) (by simp) ?_
        repeat' (first
    | with_reducible refine onCall_eq (hbl (by omega)) (by simp) ?_
    | (with_reducible (first | refine onBoolT (fun hb_ => ?_) (fun hb_ => ?_) | refine onBoolF (fun hb_ => ?_) (fun hb_ => ?_)) <;> simp (disch := omega) [hb_, eqB, leB])
    | simp (disch := omega) [eqB, leB])
        all_goals (try simp_all [firstOkP, wantP])
      · have hz : ¬ (i : Int) = 0 := by omega
        have hz2 : ¬ i = 0 := by omega
        simp (disch := omega) [k__impl_typer__firstOk, boxLV, frzLV, GTerm.cells, hid]
        refine onCall_eq (shape_ok c hc) (by simp) ?_
        repeat' (first
    | with_reducible refine onCall_eq (hbl (by omega)) (by simp) ?_
    | (with_reducible (first | refine onBoolT (fun hb_ => ?_) (fun hb_ => ?_) | refine onBoolF (fun hb_ => ?_) (fun hb_ => ?_)) <;> simp (disch := omega) [hb_, eqB, leB, hz])
    | simp (disch := omega) [eqB, leB, hz])
        all_goals (try simp_all [firstOkP, wantP])
  have := run _ rfl
  simpa using this
end Go.Proofs.YtclfngbealdbgaaGreat
namespace Go.Proofs.YtclfngbealdbgaaGreat
open Go Go.TL
open Go.Proofs.YtclfngbealdbgaaGreat.Ty
set_option linter.unusedSimpArgs false
set_option linter.unusedVariables false
set_option maxRecDepth 20000
set_option maxHeartbeats 4000000
def addedC (op : Int) (nl1 : Bool) (ty : List Int) (i : Nat) (f : List Int) : GCtx := if op = 9 then [(nl1, ty)] else (addedP op ty i f).map fun l => (false, l)
theorem addedC_snd (op : Int) (nl1 : Bool) (ty : List Int) (i : Nat) (f : List Int) : (addedC op nl1 ty i f).map Prod.snd = addedP op ty i f := by
  unfold addedC
  split
  · rename_i h; simp [addedP, h]
  · simp [Function.comp_def]
abbrev newC (c : GCtx) : LV := .sl (!c.isEmpty) c.isEmpty 1 (c.map fun x => [eC x])
theorem addedF_ok (g : GTerm) (op n : Int) (nl1 : Bool) (gty : List Int) (nl2 : Bool) (ks : List GTerm) (hg : g = .mk op n nl1 gty nl2 ks) (hop : 0 ≤ op ∧ op ≤ 12) (i : Nat) (hi : i ≤ 2) (nf : Bool) (f : List Int) {size : Int}
    (hf : i ≠ 0 → nf = false ∧ okL size f = true ∧ headOk op (hd f)) : Gives Tryz.prog n_impl_added [g.lv, N i, L nf f] (· = newC (addedC op nl1 gty i f)) := by
  subst hg
  refine Gives.of_codeOf c_impl_added mixed (by simp) ⟨_, rfl, by simp⟩ ?_
  by_cases h9 : op = 9
  · subst h9
    simp (disch := omega) [k_impl_added, boxLV, frzLV, GTerm.cells, addedC, eqB, chunks]
  · by_cases h0 : addsI op i = 0
    · have e : addedC op nl1 gty i f = [] := by simp [addedC, h9, addedP, h0]
      have h9' : eqB op 9 = false := by rw [eqB_false]; exact h9
      simp (disch := omega) [k_impl_added, boxLV, frzLV, GTerm.cells, e, h9']
      refine onCall_eq (adds_ok op i) (by simp) ?_
      rw [h0]
      simp (disch := omega) [eqB]
    · have hi0 : i ≠ 0 := by rintro rfl; apply h0; unfold addsI; rw [if_neg (by omega), if_neg (by omega)]
      obtain ⟨rfl, hf1, hf2⟩ := hf hi0
      have h9' : eqB op 9 = false := by rw [eqB_false]; exact h9
      have h0' : eqB (addsI op i) 0 = false := by rw [eqB_false]; exact h0
      have hp := partsF_ok (okL_wty hf1)
      have h3 : op = 5 ∧ i = 1 ∨ op = 8 ∨ op = 12 ∧ i = 1 := by
        unfold addsI at h0
        by_cases g : op = 5 ∧ (i : Int) = 1
        · omega
        · rw [if_neg g] at h0
          by_cases g : (op = 8 ∧ 0 < (i : Int)) ∨ op = 9 ∨ (op = 12 ∧ (i : Int) = 1)
          · omega
          · rw [if_neg g] at h0; omega
      simp (disch := omega) [k_impl_added, boxLV, frzLV, GTerm.cells, h9']
      refine onCall_eq (adds_ok op i) (by simp) ?_
      simp (disch := omega) [h0']
      refine onCall_eq hp (by simp) ?_
      rcases h3 with ⟨rfl, rfl⟩ | rfl | ⟨rfl, rfl⟩
      · rw [partsL_two (by rw [hf2.2.1 rfl]; exact kids_pair.1)]
        simp (disch := omega) [eqB, addedC, addedP, addsI, chunks, idxLV]
      · rw [partsL_two (by rw [hf2.2.2.1 rfl]; exact kids_pair.2)]
        have : i = 1 ∨ i = 2 := by omega
        rcases this with rfl | rfl
        · simp (disch := omega) [eqB, addedC, addedP, addsI, chunks, idxLV, show IntKind.i64.wrap 0 = 0 by decide]
        · simp (disch := omega) [eqB, addedC, addedP, addsI, chunks, idxLV, show IntKind.i64.wrap 1 = 1 by decide]
      · rw [partsL_one (kids_bx (hf2.2.2.2.2 rfl))]
        simp (disch := omega) [eqB, addedC, addedP, addsI, chunks]
end Go.Proofs.YtclfngbealdbgaaGreat
namespace Go.Proofs.YtclfngbealdbgaaGreat
open Go Go.TL
open Go.Proofs.YtclfngbealdbgaaGreat.Ty
set_option linter.unusedSimpArgs false
set_option linter.unusedVariables false
set_option maxRecDepth 20000
set_option maxHeartbeats 4000000
mutual
def TT.is : TT → LV → Prop
  | .mk ty nd ks, r => ∃ n3 n4 rows, r = .rp [L false ty, L false nd, .sl false n3 1 rows, N 0, .sl false n4 1 []] ∧ TT.are ks rows
def TT.are : List TT → List (List LV) → Prop
  | [], rows => rows = []
  | k :: ks, rows => ∃ r rest, rows = [r] :: rest ∧ k.is r ∧ TT.are ks rest
end
def Res.is : Res → LV → Prop
  | .ok x, r => x.is r
  | .bad f p, r => f ≠ 0 ∧ ∃ n4, r = .rp [.sl false true 1 [], .sl false true 1 [], .sl false true 1 [], N f, L n4 p]
mutual
theorem is_share : ∀ (x : TT) (r : LV), x.is r → share r = r ∧ ∀ k, Low k r
  | .mk ty nd ks, r, h => by
    simp only [TT.is] at h
    obtain ⟨n3, n4, rows, rfl, hr⟩ := h
    obtain ⟨h1, h2⟩ := are_share ks rows hr
    exact ⟨by simp [h1], fun k => by simp [h2 k]⟩
theorem are_share : ∀ (xs : List TT) (rows : List (List LV)), TT.are xs rows → shareRow rows = rows ∧ ∀ k, LowRow k rows
  | [], rows, h => by simp only [TT.are] at h; subst h; simp
  | x :: xs, rows, h => by
    simp only [TT.are] at h
    obtain ⟨r, rest, rfl, h1, h2⟩ := h
    obtain ⟨q1, q2⟩ := is_share x r h1
    obtain ⟨q3, q4⟩ := are_share xs rest h2
    exact ⟨by simp [q1, q3], fun k => by simp [q2 k, q4 k]⟩
end
theorem are_len : ∀ (xs : List TT) (rows : List (List LV)), TT.are xs rows → rows.length = xs.length
  | [], rows, h => by simp only [TT.are] at h; subst h; rfl
  | x :: xs, rows, h => by
    simp only [TT.are] at h
    obtain ⟨r, rest, rfl, h1, h2⟩ := h
    simp [are_len xs rest h2]
theorem are_snoc : ∀ (xs : List TT) (rows : List (List LV)) (x : TT) (r : LV), TT.are xs rows → x.is r → TT.are (xs ++ [x]) (rows ++ [[r]])
  | [], rows, x, r, h, hx => by simp only [TT.are] at h; subst h; simp only [List.nil_append, TT.are]; exact ⟨r, [], rfl, hx, rfl⟩
  | y :: xs, rows, x, r, h, hx => by
    simp only [TT.are] at h
    obtain ⟨q, rest, rfl, h1, h2⟩ := h
    simp only [List.cons_append, TT.are]
    exact ⟨q, rest ++ [[r]], rfl, h1, are_snoc xs rest x r h2 hx⟩
theorem are_at : ∀ (xs : List TT) (rows : List (List LV)) (i : Nat) (h : i < xs.length), TT.are xs rows → ∃ r, rows[i]? = some [r] ∧ (xs[i]).is r
  | [], rows, i, hi, h => by simp at hi
  | x :: xs, rows, i, hi, h => by
    simp only [TT.are] at h
    obtain ⟨r, rest, rfl, h1, h2⟩ := h
    cases i with
    | zero => exact ⟨r, rfl, h1⟩
    | succ i =>
      obtain ⟨q, h3, h4⟩ := are_at xs rest i (by simpa using hi) h2
      exact ⟨q, by simpa using h3, by simpa using h4⟩
theorem idx_are {xs : List TT} {rows : List (List LV)} (h : TT.are xs rows) (u nl : Bool) (i : Nat) (hi : i < xs.length) : ∃ n3 n4 rws, idxLV 1 (.sl u nl 1 rows) (i : Int) = some (.rp [.rp [L false (tyP xs i), L false (xs[i]).needs, .sl false n3 1 rws, N 0, .sl false n4 1 []]]) ∧ TT.are (xs[i]).kids rws := by
  obtain ⟨r, h1, h2⟩ := are_at xs rows i hi h
  have hl := are_len xs rows h
  have e : tyP xs i = (xs[i]).ty := by unfold tyP; rw [List.getD_eq_getElem?_getD, List.getElem?_eq_getElem hi]; rfl
  rw [e]
  generalize xs[i] = x at *
  obtain ⟨ty, nd, ks⟩ := x
  simp only [TT.is] at h2
  obtain ⟨n3, n4, rws, rfl, h3⟩ := h2
  refine ⟨n3, n4, rws, ?_, h3⟩
  simp only [idxLV]
  rw [if_pos ⟨trivial, by omega, by omega⟩]
  have hs := (are_share ks rws h3).1
  simp [List.getD_eq_getElem?_getD, h1, hs]
abbrev outB (T nd : LV) (u3 n3 : Bool) (rows : List (List LV)) : Box := some [T, nd, .sl u3 n3 1 rows, N 0, .sl true true 1 []]
theorem finish_1_ok {ds : List TT} {rows : List (List LV)} (h : TT.are ds rows) (T nd : LV) (u3 n3 : Bool) (b0 b1 b2 : Box) (hr : List Box) (i : Nat) (hi : i < ds.length) :
    LCalls Tryz.prog n__impl_typer__finish_1 [N i, .rp [.ptr 3 0]] (b0 :: b1 :: b2 :: outB T nd u3 n3 rows :: hr) (fun r h' => r = L false (tyP ds i) ∧ h' = b0 :: b1 :: b2 :: outB T nd u3 n3 rows :: hr) := by
  refine LCalls.of_codeOf c__impl_typer__finish_1 mixed (by simp) ⟨_, _, rfl, rfl⟩ ?_
  obtain ⟨n3', n4, rws, hix, hrw⟩ := idx_are h false n3 i hi
  have hs := (are_share ds rows h).1
  have hs2 := (are_share _ rws hrw).1
  simp (disch := omega) [k__impl_typer__finish_1, hs, hix, hs2]
  refine post_tmp (.inr rfl) (by simp) ⟨by simp, rfl⟩
end Go.Proofs.YtclfngbealdbgaaGreat
namespace Go.Proofs.YtclfngbealdbgaaGreat
open Go Go.TL
open Go.Proofs.YtclfngbealdbgaaGreat.Ty
set_option linter.unusedSimpArgs false
set_option linter.unusedVariables false
set_option maxRecDepth 20000
set_option maxHeartbeats 4000000
theorem firstOf_range (p : Int → Bool) : ∀ (n g : Nat), firstOf p g n = -1 ∨ ((g : Int) ≤ firstOf p g n ∧ firstOf p g n < g + n)
  | 0, g => .inl rfl
  | n + 1, g => by
    unfold firstOf
    split
    · right; omega
    · rcases firstOf_range p n (g + 1) with h | h
      · exact .inl h
      · right; omega
theorem join_in {s : GSys} (hs : s.sys = true) {a b : Int} (ha : s.G a) (hb : s.G b) : s.G (s.join a b) := by
  have t := GSys.sys_of hs
  have h2 : leB 0 (s.join a b) = true := by
    unfold GSys.sys at hs
    rw [Bool.and_eq_true, allN_iff] at hs
    have h := hs.2 a.toNat (by have := ha.1; have := ha.2; omega)
    unfold GSys.sysB at h
    rw [Bool.and_eq_true, allN_iff] at h
    have h := h.2 b.toNat (by have := hb.1; have := hb.2; omega)
    unfold GSys.sysC at h
    rw [Bool.and_eq_true] at h
    have h := h.1
    unfold GSys.two at h
    simp only [Bool.and_eq_true] at h
    have e1 : ((a.toNat : Nat) : Int) = a := by have := ha.1; omega
    have e2 : ((b.toNat : Nat) : Int) = b := by have := hb.1; omega
    rw [e1, e2] at h
    exact h.2
  rw [leB_true] at h2
  have := firstOf_range (s.isJoin a b) s.size.toNat 0
  unfold GSys.join at h2 ⊢
  have := t.lo
  exact ⟨h2, by omega⟩
theorem join_G {s : GSys} (hs : s.sys = true) {a b : List Int} (u : Int) (hu : u ∈ joinP s a b) (ha : ∀ u ∈ a, s.G u) (hb : ∀ u ∈ b, s.G u) : s.G u := by
  unfold joinP at hu
  rw [List.mem_iff_getElem] at hu
  obtain ⟨i, hi, rfl⟩ := hu
  simp only [List.length_zipWith] at hi
  rw [List.getElem_zipWith]
  exact join_in hs (ha _ (List.getElem_mem _)) (hb _ (List.getElem_mem _))
theorem hd_idx {l : List Int} (h : l ≠ []) : idxLV 1 (L false l) 0 = some (.rp [N (hd l)]) := by
  cases l with
  | nil => exact absurd rfl h
  | cons c l =>
    have := idx_L (c :: l) false false 0 (by omega) (by simp)
    simpa using this
theorem cat3 (x : Int) (na nb : Bool) (a b : List Int) (ha : a.length ≤ 1000) (hb : b.length ≤ 1000) :
    Gives Tryz.prog n_slices_Concat___int_int_ [.sl false false 1 [[.sl false false 1 [[N x]]], [L na a], [L nb b]]] (· = OU true false (x :: (a ++ b))) := by
  have h := concatI_ok [(false, [x]), (na, a), (nb, b)] (by simp) (by simp [lnI]; omega)
  have e : flI [(false, [x]), (na, a), (nb, b)] = x :: (a ++ b) := by simp [flI]
  have e2 : ltB 0 ((x :: (a ++ b)).length : Int) = true := by rw [ltB_true]; simp <;> omega
  rw [e] at h
  unfold catI at h
  rw [e2] at h
  exact h
theorem cat2 (x : Int) (na : Bool) (a : List Int) (ha : a.length ≤ 1000) :
    Gives Tryz.prog n_slices_Concat___int_int_ [.sl false false 1 [[.sl false false 1 [[N x]]], [L na a]]] (· = OU true false (x :: a)) := by
  have h := concatI_ok [(false, [x]), (na, a)] (by simp) (by simp [lnI]; omega)
  have e : flI [(false, [x]), (na, a)] = x :: a := by simp [flI]
  have e2 : ltB 0 ((x :: a).length : Int) = true := by rw [ltB_true]; simp <;> omega
  rw [e] at h
  unfold catI at h
  rw [e2] at h
  exact h
def FinR (q : Int × List Int × List Int) (m : Nat) (u3 n3 : Bool) (rows : List (List LV)) (r : LV) (h' : List Box) : Prop := r = N q.1 ∧ ∃ T nd c2 hr', h' = none :: none :: c2 :: outB T nd u3 n3 rows :: hr' ∧
  (q.1 = 0 → (∃ u, T = OU u false q.2.1) ∧ ((∃ u, nd = OU u false q.2.2) ∨ (nd = .ha 2 1 0 m m ∧ c2 = some (q.2.2.map N) ∧ q.2.2.length = m)))
theorem finishF_ok {s : GSys} (hsy : s.sys = true) (nlc : Bool) (ctx : GCtx) (hcl : ctx.length ≤ 100000) (hc : ∀ c ∈ ctx, okL s.size c.2 = true) (hcf : ∀ c ∈ ctx, c.1 = false) (op n : Int) (nl1 : Bool) (gty : List Int) (nl2 : Bool) (ks : List GTerm) (ds : List TT)
    (no : NodeOk s ctx.length op n gty ds.length) (k : KidsOk s ctx.length op n ds) (rows : List (List LV)) (hrw : TT.are ds rows) (u3 n3 nn nu : Bool) (nds uds : GCtx)
    (hnd : ∀ i, i < ds.length → idxLV 1 (LC nn nds) (i : Int) = some (.rp [L false (ndP op ds i)])) (hud : ∀ i, i < ds.length → ∃ f, idxLV 1 (LC nu uds) (i : Int) = some (.rp [L f (usP op ds i)])) (hr : List Box) (m : Nat) (hm : ctx.length = m) :
    LCalls Tryz.prog n__impl_typer__finish [s.lv, .ptr 3 0, LC nlc ctx, (GTerm.mk op n nl1 gty nl2 ks).lv, LC nn nds, LC nu uds] (none :: none :: some ((zeros m).map N) :: outB (.sl true true 1 []) (.ha 2 1 0 m m) u3 n3 rows :: hr)
      (FinR (finP s (ctx.map Prod.snd) op n gty ds) m u3 n3 rows) := by
  subst hm
  have t := GSys.sys_of hsy
  have h16 := t.hi
  obtain ⟨many, hvar, hgr, hty, o1, o2⟩ := no
  have get : ∀ i, i < ds.length → ∃ x, ds[i]? = some x ∧ x.good s (ctx.length + (addsI op i).toNat) := fun i hi =>
    ⟨_, List.getElem?_eq_getElem hi, (k.each i _ (List.getElem?_eq_getElem hi)).1⟩
  have tyG : ∀ i, i < ds.length → okL s.size (tyP ds i) = true := fun i hi => by
    obtain ⟨x, h1, h2⟩ := get i hi
    unfold tyP; rw [List.getD_eq_getElem?_getD, h1]; exact h2.1
  have ndL : ∀ i, i < ds.length → (ndP op ds i).length = ctx.length := fun i hi => by
    obtain ⟨x, h1, h2⟩ := get i hi
    unfold ndP; rw [List.getD_eq_getElem?_getD, h1]; exact (good_drop h2).1
  have ndG : ∀ i, i < ds.length → ∀ u ∈ ndP op ds i, s.G u := fun i hi => by
    obtain ⟨x, h1, h2⟩ := get i hi
    unfold ndP; rw [List.getD_eq_getElem?_getD, h1]; exact (good_drop h2).2
  have usL : ∀ i, i < ds.length → (usP op ds i).length ≤ 1099511627776 := fun i hi => by
    unfold usP; rw [List.length_take]; have := addsI_range op i; omega
  have usG : ∀ i, i < ds.length → ∀ u ∈ usP op ds i, s.G u := fun i hi u hu => by
    obtain ⟨x, h1, h2⟩ := get i hi
    unfold usP at hu; rw [List.getD_eq_getElem?_getD, h1] at hu; exact h2.2.2 u (List.mem_of_mem_take hu)
  have fst : 0 < ds.length → headOk op (hd (tyP ds 0)) := fun hi => (k.first (by rintro rfl; simp at hi)).2.1
  have kid : ∀ (T nd : LV) (b0 b1 b2 : Box) (hr : List Box) (i : Nat) (hi : i < ds.length), LCalls Tryz.prog n__impl_typer__finish_1 [N i, .rp [.ptr 3 0]] (b0 :: b1 :: b2 :: outB T nd u3 n3 rows :: hr) (fun r h' => r = L false (tyP ds i) ∧ h' = b0 :: b1 :: b2 :: outB T nd u3 n3 rows :: hr) :=
    fun T nd b0 b1 b2 hr i hi => finish_1_ok hrw T nd u3 n3 b0 b1 b2 hr i hi
  have sumc := fun (n1 n2 : Bool) (a b : List Int) (h1 : a.length = ctx.length) (h2 : b.length = ctx.length) (ha : ∀ u ∈ a, s.G u) (hb : ∀ u ∈ b, s.G u) => sumF_ok t n1 n2 a b (by omega) (by omega) ha hb
  have eqc := fun (n1 n2 : Bool) (i j : Nat) (hi : i < ds.length) => Equal_ok n1 n2 (tyP ds i) (tyP ds j) (by have := okL_len (tyG i hi); omega)
  have lg := fun (l : List Int) => long_ok false false l
  have hidx : ∀ (i : Nat) (h : i < ctx.length), idxLV 1 (LC nlc ctx) (i : Int) = some (.rp [eC ctx[i]]) := fun i h => idx_C ctx nlc i h
  have hex : ∃ r h', FinR (finP s (ctx.map Prod.snd) op n gty ds) ctx.length u3 n3 rows r h' := ⟨_, _, rfl, OU true false (finP s (ctx.map Prod.snd) op n gty ds).2.1, OU true false (finP s (ctx.map Prod.snd) op n gty ds).2.2, none, [], rfl, fun _ => ⟨⟨true, rfl⟩, .inl ⟨true, rfl⟩⟩⟩
  have hops : op = 0 ∨ op = 1 ∨ op = 2 ∨ op = 3 ∨ op = 4 ∨ op = 5 ∨ op = 6 ∨ op = 7 ∨ op = 8 ∨ op = 9 ∨ op = 10 ∨ op = 11 ∨ op = 12 := by omega
  refine LCalls.of_codeOf c__impl_typer__finish mixed (by simp) hex ?_
  rcases hops with e | e | e | e | e | e | e | e | e | e | e | e | e
  all_goals subst e
  all_goals simp [manyI] at many
  · obtain ⟨v0, v1⟩ := hvar rfl
    obtain ⟨v, rfl⟩ : ∃ v : Nat, n = v := ⟨n.toNat, by omega⟩
    have hv : v < ctx.length := by omega
    have hx := hidx v hv
    have hxo := hc _ (List.getElem_mem hv)
    have hxf := hcf _ (List.getElem_mem hv)
    have hget : (ctx.map Prod.snd)[v]? = some (ctx[v].2) := by simp [hv]
    generalize ctx[v] = c at hx hxo hxf hget
    obtain ⟨cf, cl⟩ := c
    simp only at hxo hxf hget
    subst hxf
    have hlen := okL_len hxo
    simp (disch := omega) [k__impl_typer__finish, boxLV, frzLV, GTerm.cells, eqB, hx]
    refine onCall_eq (Clone_ok false cl (by omega)) (by simp) ?_
    have hzl : (zeros (List.length ctx)).length = List.length ctx := by simp [zeros]
    simp (disch := omega) [Go.Proofs.YtclfngbealdbgaaGreat.cl, idx_ha, hzl]
    refine ⟨by omega, ?_⟩
    refine onCall_eq (lg cl) (by simp) ?_
    have hlb : ltB 40 cl.length = false := by rw [ltB_false]; omega
    simp (disch := omega) [hlb]
    refine post_tmp (.inr rfl) (by simp) ⟨by simp [finP], _, _, _, _, rfl, fun _ => ?_⟩
    simp [finP, hget]
    refine ⟨?_, hzl⟩
    rw [List.set_eq_take_append_cons_drop, if_pos (by rw [List.length_map, hzl]; omega)]
  · simp (disch := omega) [k__impl_typer__finish, boxLV, frzLV, GTerm.cells, eqB, chunks]
    refine onCall_eq (lg [0]) (by simp) ?_
    simp (disch := omega) [ltB]
    refine post_tmp (.inr rfl) (by simp) ⟨by simp [finP], _, _, _, _, rfl, fun _ => ?_⟩
    simp [finP, zeros]
  · have i0 : idxLV 1 (LC nn nds) 0 = some (.rp [L false (ndP 2 ds 0)]) := hnd 0 (by omega)
    have a0 := ndL 0 (by omega)
    have b0 := ndG 0 (by omega)
    have l0 := okL_len (tyG 0 (by omega))
    have i1 : idxLV 1 (LC nn nds) 1 = some (.rp [L false (ndP 2 ds 1)]) := hnd 1 (by omega)
    have a1 := ndL 1 (by omega)
    have b1 := ndG 1 (by omega)
    have l1 := okL_len (tyG 1 (by omega))
    simp (disch := omega) [k__impl_typer__finish, boxLV, frzLV, GTerm.cells, eqB, i0, i1, chunks]
    refine onCall_eq (sumc false false _ _ a0 a1 b0 b1) (by simp) ?_
    simp (disch := omega) [i0, i1, chunks]
    refine onCall_eq (lg [0]) (by simp) ?_
    simp (disch := omega) [ltB]
    refine post_tmp (.inr rfl) (by simp) ⟨by simp [finP], _, _, _, _, rfl, fun _ => ?_⟩
    simp [finP]
  · have i0 : idxLV 1 (LC nn nds) 0 = some (.rp [L false (ndP 3 ds 0)]) := hnd 0 (by omega)
    have a0 := ndL 0 (by omega)
    have b0 := ndG 0 (by omega)
    have l0 := okL_len (tyG 0 (by omega))
    have i1 : idxLV 1 (LC nn nds) 1 = some (.rp [L false (ndP 3 ds 1)]) := hnd 1 (by omega)
    have a1 := ndL 1 (by omega)
    have b1 := ndG 1 (by omega)
    have l1 := okL_len (tyG 1 (by omega))
    have i2 : idxLV 1 (LC nn nds) 2 = some (.rp [L false (ndP 3 ds 2)]) := hnd 2 (by omega)
    have a2 := ndL 2 (by omega)
    have b2 := ndG 2 (by omega)
    have l2 := okL_len (tyG 2 (by omega))
    simp (disch := omega) [k__impl_typer__finish, boxLV, frzLV, GTerm.cells, eqB, i0, i1, i2, chunks]
    refine onCall_any (kid _ _ _ _ _ _ 1 (by omega)) ?_
    rintro r h' ⟨rfl, rfl⟩
    simp (disch := omega) [i0, i1, i2, chunks]
    refine onCall_any (kid _ _ _ _ _ _ 2 (by omega)) ?_
    rintro r h' ⟨rfl, rfl⟩
    simp (disch := omega) [i0, i1, i2, chunks]
    refine onCall_eq (eqc false false 1 2 (by omega)) (by simp) ?_
    cases he : (tyP ds 1 == tyP ds 2)
    · simp (disch := omega)
      have he' : tyP ds 1 ≠ tyP ds 2 := by simpa using he
      exact post_tmp (.inr rfl) (by simp) ⟨by simp [finP, he'], _, _, _, _, rfl, fun h => by simp [finP, he'] at h⟩
    · simp (disch := omega) [i0, i1, i2, chunks]
      have he' : tyP ds 1 = tyP ds 2 := by simpa using he
      refine onCall_any (kid _ _ _ _ _ _ 1 (by omega)) ?_
      rintro r h' ⟨rfl, rfl⟩
      simp (disch := omega) [i0, i1, i2, chunks]
      have jo := zip_len (s := s) a1 a2
      have jg : ∀ u ∈ joinP s (ndP 3 ds 1) (ndP 3 ds 2), s.G u := fun u hu => join_G hsy u hu b1 b2
      refine onCall_eq (joinF_ok t false false _ _ (by omega) (by omega) b1 b2) (by simp) ?_
      simp (disch := omega) [i0, i1, i2, chunks]
      refine onCall_eq (sumc false false _ _ a0 jo b0 jg) (by simp) ?_
      simp (disch := omega) [i0, i1, i2, chunks]
      have hl1 : ltB 40 (tyP ds 1).length = false := by rw [ltB_false]; omega
      refine onCall_eq (lg (tyP ds 1)) (by simp) ?_
      simp (disch := omega) [hl1]
      refine post_tmp (.inr rfl) (by simp) ⟨by simp [finP, he'], _, _, _, _, rfl, fun _ => ?_⟩
      simp [finP, he']
  · have i0 : idxLV 1 (LC nn nds) 0 = some (.rp [L false (ndP 4 ds 0)]) := hnd 0 (by omega)
    have a0 := ndL 0 (by omega)
    have b0 := ndG 0 (by omega)
    have l0 := okL_len (tyG 0 (by omega))
    have i1 : idxLV 1 (LC nn nds) 1 = some (.rp [L false (ndP 4 ds 1)]) := hnd 1 (by omega)
    have a1 := ndL 1 (by omega)
    have b1 := ndG 1 (by omega)
    have l1 := okL_len (tyG 1 (by omega))
    simp (disch := omega) [k__impl_typer__finish, boxLV, frzLV, GTerm.cells, eqB, i0, i1, chunks]
    refine onCall_any (kid _ _ _ _ _ _ 0 (by omega)) ?_
    rintro r h' ⟨rfl, rfl⟩
    simp (disch := omega) [i0, i1, chunks]
    refine onCall_any (kid _ _ _ _ _ _ 1 (by omega)) ?_
    rintro r h' ⟨rfl, rfl⟩
    simp (disch := omega) [i0, i1, chunks]
    obtain ⟨z, hz⟩ : ∃ z, z = 1 :: (tyP ds 0 ++ tyP ds 1) := ⟨_, rfl⟩
    have cz := cat3 1 false false (tyP ds 0) (tyP ds 1) (by omega) (by omega)
    rw [← hz] at cz
    refine onCall_eq cz (by simp) ?_
    simp (disch := omega) [i0, i1, chunks]
    refine onCall_eq (sumc false false _ _ a0 a1 b0 b1) (by simp) ?_
    simp (disch := omega) [i0, i1, chunks]
    refine onCall_eq (lg z) (by simp) ?_
    have fp : finP s (ctx.map Prod.snd) 4 n gty ds = longP z (sumP s (ndP 4 ds 0) (ndP 4 ds 1)) := by simp [finP, hz]
    rw [fp, longP]
    by_cases hl : z.length ≤ 40
    · have hb : ltB 40 (z.length : Int) = false := by rw [ltB_false]; omega
      rw [hb, if_pos hl]
      simp (disch := omega)
      exact post_tmp (.inr rfl) (by simp) ⟨rfl, _, _, _, _, rfl, fun _ => ⟨⟨_, rfl⟩, .inl ⟨_, rfl⟩⟩⟩
    · have hb : ltB 40 (z.length : Int) = true := by rw [ltB_true]; omega
      rw [hb, if_neg hl]
      simp (disch := omega)
      exact post_tmp (.inr rfl) (by simp) ⟨rfl, _, _, _, _, rfl, fun h => by simp at h⟩
  · have i0 : idxLV 1 (LC nn nds) 0 = some (.rp [L false (ndP 5 ds 0)]) := hnd 0 (by omega)
    have a0 := ndL 0 (by omega)
    have b0 := ndG 0 (by omega)
    have l0 := okL_len (tyG 0 (by omega))
    have i1 : idxLV 1 (LC nn nds) 1 = some (.rp [L false (ndP 5 ds 1)]) := hnd 1 (by omega)
    have a1 := ndL 1 (by omega)
    have b1 := ndG 1 (by omega)
    have l1 := okL_len (tyG 1 (by omega))
    obtain ⟨g1, j1⟩ : ∃ f, idxLV 1 (LC nu uds) 1 = some (.rp [L f (usP 5 ds 1)]) := hud 1 (by omega)
    have uo1 := fun (g : Int) hg => usedOkF_ok t (g := g) hg g1 (usP 5 ds 1) (usL 1 (by omega)) (usG 1 (by omega))
    have hgn := hgr (by simp [hasB, eqB_true])
    simp (disch := omega) [k__impl_typer__finish, boxLV, frzLV, GTerm.cells, eqB, i0, i1, j1, chunks]
    refine onCall_eq (uo1 n hgn) (by simp) ?_
    cases hu : usedOkP s (usP 5 ds 1) (n)
    · simp (disch := omega)
      exact post_tmp (.inr rfl) (by simp) ⟨by simp [finP, hu], _, _, _, _, rfl, fun h => by simp [finP, hu] at h⟩
    · simp (disch := omega) [i0, i1, j1, chunks]
      refine onCall_any (kid _ _ _ _ _ _ 1 (by omega)) ?_
      rintro r h' ⟨rfl, rfl⟩
      simp (disch := omega) [i0, i1, j1, chunks]
      refine onCall_eq (scaledF_ok t (n) (hgn) false _ (by omega) b0) (by simp) ?_
      simp (disch := omega) [i0, i1, j1, chunks]
      have sc := scaled_ok t (g := n) a0
      refine onCall_eq (sumc false false _ _ sc.1 a1 sc.2 b1) (by simp) ?_
      simp (disch := omega) [i0, i1, j1, chunks]
      have hl1 : ltB 40 (tyP ds 1).length = false := by rw [ltB_false]; omega
      refine onCall_eq (lg (tyP ds 1)) (by simp) ?_
      simp (disch := omega) [hl1]
      refine post_tmp (.inr rfl) (by simp) ⟨by simp [finP, hu], _, _, _, _, rfl, fun _ => ?_⟩
      simp [finP, hu]
  · have i0 : idxLV 1 (LC nn nds) 0 = some (.rp [L false (ndP 6 ds 0)]) := hnd 0 (by omega)
    have a0 := ndL 0 (by omega)
    have b0 := ndG 0 (by omega)
    have l0 := okL_len (tyG 0 (by omega))
    have hgt := hty (by simp [typedB, eqB_true])
    have lt := okL_len hgt
    simp (disch := omega) [k__impl_typer__finish, boxLV, frzLV, GTerm.cells, eqB, i0, chunks]
    refine onCall_any (kid _ _ _ _ _ _ 0 (by omega)) ?_
    rintro r h' ⟨rfl, rfl⟩
    simp (disch := omega) [i0, chunks]
    obtain ⟨z, hz⟩ : ∃ z, z = 2 :: (tyP ds 0 ++ gty) := ⟨_, rfl⟩
    have cz := cat3 2 false nl1 (tyP ds 0) gty (by omega) (by omega)
    rw [← hz] at cz
    refine onCall_eq cz (by simp) ?_
    simp (disch := omega) [i0, chunks]
    refine onCall_eq (lg z) (by simp) ?_
    have fp : finP s (ctx.map Prod.snd) 6 n gty ds = longP z (ndP 6 ds 0) := by simp [finP, hz]
    rw [fp, longP]
    by_cases hl : z.length ≤ 40
    · have hb : ltB 40 (z.length : Int) = false := by rw [ltB_false]; omega
      rw [hb, if_pos hl]
      simp (disch := omega)
      exact post_tmp (.inr rfl) (by simp) ⟨rfl, _, _, _, _, rfl, fun _ => ⟨⟨_, rfl⟩, .inl ⟨_, rfl⟩⟩⟩
    · have hb : ltB 40 (z.length : Int) = true := by rw [ltB_true]; omega
      rw [hb, if_neg hl]
      simp (disch := omega)
      exact post_tmp (.inr rfl) (by simp) ⟨rfl, _, _, _, _, rfl, fun h => by simp at h⟩
  · have i0 : idxLV 1 (LC nn nds) 0 = some (.rp [L false (ndP 7 ds 0)]) := hnd 0 (by omega)
    have a0 := ndL 0 (by omega)
    have b0 := ndG 0 (by omega)
    have l0 := okL_len (tyG 0 (by omega))
    have hgt := hty (by simp [typedB, eqB_true])
    have lt := okL_len hgt
    simp (disch := omega) [k__impl_typer__finish, boxLV, frzLV, GTerm.cells, eqB, i0, chunks]
    refine onCall_any (kid _ _ _ _ _ _ 0 (by omega)) ?_
    rintro r h' ⟨rfl, rfl⟩
    simp (disch := omega) [i0, chunks]
    obtain ⟨z, hz⟩ : ∃ z, z = 2 :: (gty ++ tyP ds 0) := ⟨_, rfl⟩
    have cz := cat3 2 nl1 false gty (tyP ds 0) (by omega) (by omega)
    rw [← hz] at cz
    refine onCall_eq cz (by simp) ?_
    simp (disch := omega) [i0, chunks]
    refine onCall_eq (lg z) (by simp) ?_
    have fp : finP s (ctx.map Prod.snd) 7 n gty ds = longP z (ndP 7 ds 0) := by simp [finP, hz]
    rw [fp, longP]
    by_cases hl : z.length ≤ 40
    · have hb : ltB 40 (z.length : Int) = false := by rw [ltB_false]; omega
      rw [hb, if_pos hl]
      simp (disch := omega)
      exact post_tmp (.inr rfl) (by simp) ⟨rfl, _, _, _, _, rfl, fun _ => ⟨⟨_, rfl⟩, .inl ⟨_, rfl⟩⟩⟩
    · have hb : ltB 40 (z.length : Int) = true := by rw [ltB_true]; omega
      rw [hb, if_neg hl]
      simp (disch := omega)
      exact post_tmp (.inr rfl) (by simp) ⟨rfl, _, _, _, _, rfl, fun h => by simp at h⟩
  · have i0 : idxLV 1 (LC nn nds) 0 = some (.rp [L false (ndP 8 ds 0)]) := hnd 0 (by omega)
    have a0 := ndL 0 (by omega)
    have b0 := ndG 0 (by omega)
    have l0 := okL_len (tyG 0 (by omega))
    have i1 : idxLV 1 (LC nn nds) 1 = some (.rp [L false (ndP 8 ds 1)]) := hnd 1 (by omega)
    have a1 := ndL 1 (by omega)
    have b1 := ndG 1 (by omega)
    have l1 := okL_len (tyG 1 (by omega))
    have i2 : idxLV 1 (LC nn nds) 2 = some (.rp [L false (ndP 8 ds 2)]) := hnd 2 (by omega)
    have a2 := ndL 2 (by omega)
    have b2 := ndG 2 (by omega)
    have l2 := okL_len (tyG 2 (by omega))
    obtain ⟨g1, j1⟩ : ∃ f, idxLV 1 (LC nu uds) 1 = some (.rp [L f (usP 8 ds 1)]) := hud 1 (by omega)
    have uo1 := fun (g : Int) hg => usedOkF_ok t (g := g) hg g1 (usP 8 ds 1) (usL 1 (by omega)) (usG 1 (by omega))
    obtain ⟨g2, j2⟩ : ∃ f, idxLV 1 (LC nu uds) 2 = some (.rp [L f (usP 8 ds 2)]) := hud 2 (by omega)
    have uo2 := fun (g : Int) hg => usedOkF_ok t (g := g) hg g2 (usP 8 ds 2) (usL 2 (by omega)) (usG 2 (by omega))
    have hgn := hgr (by simp [hasB, eqB_true])
    simp (disch := omega) [k__impl_typer__finish, boxLV, frzLV, GTerm.cells, eqB, i0, i1, i2, j1, j2, chunks]
    refine onCall_any (kid _ _ _ _ _ _ 1 (by omega)) ?_
    rintro r h' ⟨rfl, rfl⟩
    simp (disch := omega) [i0, i1, i2, j1, j2, chunks]
    refine onCall_any (kid _ _ _ _ _ _ 2 (by omega)) ?_
    rintro r h' ⟨rfl, rfl⟩
    simp (disch := omega) [i0, i1, i2, j1, j2, chunks]
    refine onCall_eq (eqc false false 1 2 (by omega)) (by simp) ?_
    cases he : (tyP ds 1 == tyP ds 2)
    · simp (disch := omega)
      have he' : tyP ds 1 ≠ tyP ds 2 := by simpa using he
      exact post_tmp (.inr rfl) (by simp) ⟨by simp [finP, he'], _, _, _, _, rfl, fun h => by simp [finP, he'] at h⟩
    · simp (disch := omega) [i0, i1, i2, j1, j2, chunks]
      have he' : tyP ds 1 = tyP ds 2 := by simpa using he
      refine onCall_eq (uo1 n hgn) (by simp) ?_
      cases hu : usedOkP s (usP 8 ds 1) (n)
      · simp (disch := omega)
        exact post_tmp (.inr rfl) (by simp) ⟨by simp [finP, he', hu], _, _, _, _, rfl, fun h => by simp [finP, he', hu] at h⟩
      · simp (disch := omega) [i0, i1, i2, j1, j2, chunks]
        refine onCall_eq (uo2 n hgn) (by simp) ?_
        cases hv : usedOkP s (usP 8 ds 2) (n)
        · simp (disch := omega)
          exact post_tmp (.inr rfl) (by simp) ⟨by simp [finP, he', hu, hv], _, _, _, _, rfl, fun h => by simp [finP, he', hu, hv] at h⟩
        · simp (disch := omega) [i0, i1, i2, j1, j2, chunks]
          refine onCall_any (kid _ _ _ _ _ _ 1 (by omega)) ?_
          rintro r h' ⟨rfl, rfl⟩
          simp (disch := omega) [i0, i1, i2, j1, j2, chunks]
          refine onCall_eq (scaledF_ok t (n) (hgn) false _ (by omega) b0) (by simp) ?_
          simp (disch := omega) [i0, i1, i2, j1, j2, chunks]
          have sc := scaled_ok t (g := n) a0
          have jo := zip_len (s := s) a1 a2
          have jg : ∀ u ∈ joinP s (ndP 8 ds 1) (ndP 8 ds 2), s.G u := fun u hu => join_G hsy u hu b1 b2
          refine onCall_eq (joinF_ok t false false _ _ (by omega) (by omega) b1 b2) (by simp) ?_
          simp (disch := omega) [i0, i1, i2, j1, j2, chunks]
          refine onCall_eq (sumc false false _ _ sc.1 jo sc.2 jg) (by simp) ?_
          simp (disch := omega) [i0, i1, i2, j1, j2, chunks]
          have hl1 : ltB 40 (tyP ds 1).length = false := by rw [ltB_false]; omega
          refine onCall_eq (lg (tyP ds 1)) (by simp) ?_
          simp (disch := omega) [hl1]
          refine post_tmp (.inr rfl) (by simp) ⟨by simp [finP, he', hu, hv], _, _, _, _, rfl, fun _ => ?_⟩
          simp [finP, he', hu, hv]
  · have i0 : idxLV 1 (LC nn nds) 0 = some (.rp [L false (ndP 9 ds 0)]) := hnd 0 (by omega)
    have a0 := ndL 0 (by omega)
    have b0 := ndG 0 (by omega)
    have l0 := okL_len (tyG 0 (by omega))
    obtain ⟨g0, j0⟩ : ∃ f, idxLV 1 (LC nu uds) 0 = some (.rp [L f (usP 9 ds 0)]) := hud 0 (by omega)
    have uo0 := fun (g : Int) hg => usedOkF_ok t (g := g) hg g0 (usP 9 ds 0) (usL 0 (by omega)) (usG 0 (by omega))
    have hgn := hgr (by simp [hasB, eqB_true])
    have hgt := hty (by simp [typedB, eqB_true])
    have lt := okL_len hgt
    simp (disch := omega) [k__impl_typer__finish, boxLV, frzLV, GTerm.cells, eqB, i0, j0, chunks]
    refine onCall_eq (uo0 n hgn) (by simp) ?_
    cases hu : usedOkP s (usP 9 ds 0) (n)
    · simp (disch := omega)
      exact post_tmp (.inr rfl) (by simp) ⟨by simp [finP, hu], _, _, _, _, rfl, fun h => by simp [finP, hu] at h⟩
    · simp (disch := omega) [i0, j0, chunks]
      rw [i64_wrap (by have := hgn.1; have := hgn.2; omega)]
      refine onCall_any (kid _ _ _ _ _ _ 0 (by omega)) ?_
      rintro r h' ⟨rfl, rfl⟩
      simp (disch := omega) [i0, j0, chunks]
      obtain ⟨z, hz⟩ : ∃ z, z = (3 + n) :: (gty ++ tyP ds 0) := ⟨_, rfl⟩
      have cz := cat3 (3 + n) nl1 false gty (tyP ds 0) (by omega) (by omega)
      rw [← hz] at cz
      refine onCall_eq cz (by simp) ?_
      simp (disch := omega) [i0, j0, chunks]
      refine onCall_eq (lg z) (by simp) ?_
      have fp : finP s (ctx.map Prod.snd) 9 n gty ds = longP z (ndP 9 ds 0) := by simp [finP, hz, hu]
      rw [fp, longP]
      by_cases hl : z.length ≤ 40
      · have hb : ltB 40 (z.length : Int) = false := by rw [ltB_false]; omega
        rw [hb, if_pos hl]
        simp (disch := omega)
        exact post_tmp (.inr rfl) (by simp) ⟨rfl, _, _, _, _, rfl, fun _ => ⟨⟨_, rfl⟩, .inl ⟨_, rfl⟩⟩⟩
      · have hb : ltB 40 (z.length : Int) = true := by rw [ltB_true]; omega
        rw [hb, if_neg hl]
        simp (disch := omega)
        exact post_tmp (.inr rfl) (by simp) ⟨rfl, _, _, _, _, rfl, fun h => by simp at h⟩
  · have i0 : idxLV 1 (LC nn nds) 0 = some (.rp [L false (ndP 10 ds 0)]) := hnd 0 (by omega)
    have a0 := ndL 0 (by omega)
    have b0 := ndG 0 (by omega)
    have l0 := okL_len (tyG 0 (by omega))
    have i1 : idxLV 1 (LC nn nds) 1 = some (.rp [L false (ndP 10 ds 1)]) := hnd 1 (by omega)
    have a1 := ndL 1 (by omega)
    have b1 := ndG 1 (by omega)
    have l1 := okL_len (tyG 1 (by omega))
    have h0 := okL_hd (tyG 0 (by omega))
    have hx0 : idxLV 1 (L false (tyP ds 0)) 0 = some (.rp [N (hd (tyP ds 0))]) := hd_idx h0.2.2.2.1
    have hga := fst (by omega)
    have hgc := okC_grade h0.1 (.inl ((fst (by omega)).2.2.2.1 rfl))
    have hsh : (shapeOf (hd (tyP ds 0))).2 = gradeI (hd (tyP ds 0)) := (shape_iff h0.2.1 h0.2.2.1).2.2.2.2.2 (.inl ((fst (by omega)).2.2.2.1 rfl))
    have hgg : s.G (shapeOf (hd (tyP ds 0))).2 := by rw [hsh]; exact hgc
    simp (disch := omega) [k__impl_typer__finish, boxLV, frzLV, GTerm.cells, eqB, i0, i1, chunks]
    refine onCall_any (kid _ _ _ _ _ _ 0 (by omega)) ?_
    rintro r h' ⟨rfl, rfl⟩
    simp (disch := omega) [hx0, chunks]
    refine onCall_eq (shape_ok _ ⟨by omega, by omega⟩) (by simp) ?_
    simp (disch := omega) [i0, i1, chunks]
    refine onCall_any (kid _ _ _ _ _ _ 0 (by omega)) ?_
    rintro r h' ⟨rfl, rfl⟩
    simp (disch := omega) [i0, i1, chunks]
    refine onCall_eq (partsF_ok (okL_wty (tyG 0 (by omega)))) (by simp) ?_
    rw [partsL_two (kids_arr (hga.2.2.2.1 rfl))]
    have hx1 : idxLV 1 (.sl true false 1 [[L false (part0 (tyP ds 0))], [L false (part1 (tyP ds 0))]]) 1 = some (.rp [L false (part1 (tyP ds 0))]) := by simp [idxLV]
    simp (disch := omega) [i0, i1, chunks, hx1]
    refine onCall_eq (scaledF_ok t ((shapeOf (hd (tyP ds 0))).2) (hgg) false _ (by omega) b1) (by simp) ?_
    simp (disch := omega) [i0, i1, chunks]
    have sc := scaled_ok t (g := (shapeOf (hd (tyP ds 0))).2) a1
    refine onCall_eq (sumc false false _ _ a0 sc.1 b0 sc.2) (by simp) ?_
    simp (disch := omega) [i0, i1, chunks]
    have l9 := okL_len (okL_two (tyG 0 (by omega)) (kids_arr (hga.2.2.2.1 rfl))).2.2
    have hl9 : ltB 40 (part1 (tyP ds 0)).length = false := by rw [ltB_false]; omega
    refine onCall_eq (lg (part1 (tyP ds 0))) (by simp) ?_
    simp (disch := omega) [hl9]
    refine post_tmp (.inr rfl) (by simp) ⟨by simp [finP], _, _, _, _, rfl, fun _ => ?_⟩
    simp [finP]
  · have i0 : idxLV 1 (LC nn nds) 0 = some (.rp [L false (ndP 11 ds 0)]) := hnd 0 (by omega)
    have a0 := ndL 0 (by omega)
    have b0 := ndG 0 (by omega)
    have l0 := okL_len (tyG 0 (by omega))
    have hgn := hgr (by simp [hasB, eqB_true])
    simp (disch := omega) [k__impl_typer__finish, boxLV, frzLV, GTerm.cells, eqB, i0, chunks]
    rw [i64_wrap (by have := hgn.1; have := hgn.2; omega)]
    refine onCall_any (kid _ _ _ _ _ _ 0 (by omega)) ?_
    rintro r h' ⟨rfl, rfl⟩
    simp (disch := omega) [i0, chunks]
    obtain ⟨z, hz⟩ : ∃ z, z = (19 + n) :: tyP ds 0 := ⟨_, rfl⟩
    have cz := cat2 (19 + n) false (tyP ds 0) (by omega)
    rw [← hz] at cz
    refine onCall_eq cz (by simp) ?_
    simp (disch := omega) [i0, chunks]
    refine onCall_eq (scaledF_ok t (n) (hgn) false _ (by omega) b0) (by simp) ?_
    simp (disch := omega) [i0, chunks]
    refine onCall_eq (lg z) (by simp) ?_
    have fp : finP s (ctx.map Prod.snd) 11 n gty ds = longP z (scaledP s n (ndP 11 ds 0)) := by simp [finP, hz]
    rw [fp, longP]
    by_cases hl : z.length ≤ 40
    · have hb : ltB 40 (z.length : Int) = false := by rw [ltB_false]; omega
      rw [hb, if_pos hl]
      simp (disch := omega)
      exact post_tmp (.inr rfl) (by simp) ⟨rfl, _, _, _, _, rfl, fun _ => ⟨⟨_, rfl⟩, .inl ⟨_, rfl⟩⟩⟩
    · have hb : ltB 40 (z.length : Int) = true := by rw [ltB_true]; omega
      rw [hb, if_neg hl]
      simp (disch := omega)
      exact post_tmp (.inr rfl) (by simp) ⟨rfl, _, _, _, _, rfl, fun h => by simp at h⟩
  · have i0 : idxLV 1 (LC nn nds) 0 = some (.rp [L false (ndP 12 ds 0)]) := hnd 0 (by omega)
    have a0 := ndL 0 (by omega)
    have b0 := ndG 0 (by omega)
    have l0 := okL_len (tyG 0 (by omega))
    have i1 : idxLV 1 (LC nn nds) 1 = some (.rp [L false (ndP 12 ds 1)]) := hnd 1 (by omega)
    have a1 := ndL 1 (by omega)
    have b1 := ndG 1 (by omega)
    have l1 := okL_len (tyG 1 (by omega))
    obtain ⟨g1, j1⟩ : ∃ f, idxLV 1 (LC nu uds) 1 = some (.rp [L f (usP 12 ds 1)]) := hud 1 (by omega)
    have uo1 := fun (g : Int) hg => usedOkF_ok t (g := g) hg g1 (usP 12 ds 1) (usL 1 (by omega)) (usG 1 (by omega))
    have hgn := hgr (by simp [hasB, eqB_true])
    have h0 := okL_hd (tyG 0 (by omega))
    have hx0 : idxLV 1 (L false (tyP ds 0)) 0 = some (.rp [N (hd (tyP ds 0))]) := hd_idx h0.2.2.2.1
    have hga := fst (by omega)
    have hgc := okC_grade h0.1 (.inr ((fst (by omega)).2.2.2.2 rfl))
    have hsh : (shapeOf (hd (tyP ds 0))).2 = gradeI (hd (tyP ds 0)) := (shape_iff h0.2.1 h0.2.2.1).2.2.2.2.2 (.inr ((fst (by omega)).2.2.2.2 rfl))
    have hgg : s.G (shapeOf (hd (tyP ds 0))).2 := by rw [hsh]; exact hgc
    simp (disch := omega) [k__impl_typer__finish, boxLV, frzLV, GTerm.cells, eqB, i0, i1, j1, chunks]
    refine onCall_any (kid _ _ _ _ _ _ 0 (by omega)) ?_
    rintro r h' ⟨rfl, rfl⟩
    simp (disch := omega) [hx0, chunks]
    refine onCall_eq (shape_ok _ ⟨by omega, by omega⟩) (by simp) ?_
    simp (disch := omega) [i0, i1, j1, chunks]
    refine onCall_eq (times_ok t hgn hgg) (by simp) ?_
    simp (disch := omega) [i0, i1, j1, chunks]
    refine onCall_eq (uo1 _ (GSys.Gtm t _ _)) (by simp) ?_
    cases hu : usedOkP s (usP 12 ds 1) (s.tm n (shapeOf (hd (tyP ds 0))).2)
    · simp (disch := omega)
      exact post_tmp (.inr rfl) (by simp) ⟨by simp [finP, hu], _, _, _, _, rfl, fun h => by simp [finP, hu] at h⟩
    · simp (disch := omega) [i0, i1, j1, chunks]
      refine onCall_any (kid _ _ _ _ _ _ 1 (by omega)) ?_
      rintro r h' ⟨rfl, rfl⟩
      simp (disch := omega) [i0, i1, j1, chunks]
      refine onCall_eq (scaledF_ok t (n) (hgn) false _ (by omega) b0) (by simp) ?_
      simp (disch := omega) [i0, i1, j1, chunks]
      have sc := scaled_ok t (g := n) a0
      refine onCall_eq (sumc false false _ _ sc.1 a1 sc.2 b1) (by simp) ?_
      simp (disch := omega) [i0, i1, j1, chunks]
      have hl1 : ltB 40 (tyP ds 1).length = false := by rw [ltB_false]; omega
      refine onCall_eq (lg (tyP ds 1)) (by simp) ?_
      simp (disch := omega) [hl1]
      refine post_tmp (.inr rfl) (by simp) ⟨by simp [finP, hu], _, _, _, _, rfl, fun _ => ?_⟩
      simp [finP, hu]
end Go.Proofs.YtclfngbealdbgaaGreat
