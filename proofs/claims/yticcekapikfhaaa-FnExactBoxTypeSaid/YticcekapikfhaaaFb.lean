/- What single functions of the program do, over trees. No conditions. -/
import Derived.Test.YticcekapikfhaaaFa
import Derived.Test.YticcekapikfhaaaTy
namespace Go.Proofs.Yticcekapikfhaaa
open Go Go.TL
open Go.Proofs.Yticcekapikfhaaa.Ty

def within (a lo hi : Int) : Bool := leB lo a && leB a hi
theorem within_true {a lo hi : Int} : within a lo hi = true ↔ lo ≤ a ∧ a ≤ hi := by simp [within, leB]
theorem within_false {a lo hi : Int} : within a lo hi = false ↔ ¬ (lo ≤ a ∧ a ≤ hi) := by rw [← within_true]; simp
theorem within_ok (a lo hi : Int) : Gives Try.prog n_impl_within [N a, N lo, N hi] (· = B (within a lo hi)) := by
  refine Gives.of_codeOf c_impl_within mixed (by simp) ⟨_, rfl, trivial⟩ ?_
  simp (contextual := true) (disch := omega) [k_impl_within, within]

def shapeOf (k : Int) : Int × Int :=
  if within k 0 2 = true then (k, -1) else if within k 3 18 = true then (3, k - 3) else if within k 19 34 = true then (4, k - 19)
  else if eqB k 35 = true then (3, -1) else if eqB k 36 = true then (4, -1) else (5, -1)
def I64 (n : Int) : Prop := -9223372036854775808 ≤ n ∧ n ≤ 9223372036854775807
theorem shape_ok (k : Int) (h : I64 k) : Gives Try.prog n_impl_shape [N k] (· = .tup [N (shapeOf k).1, N (shapeOf k).2]) := by
  obtain ⟨ha, hb⟩ := h
  refine Gives.of_codeOf c_impl_shape mixed (by simp) ⟨_, rfl, by simp⟩ ?_
  simp (contextual := true) (disch := omega) [k_impl_shape]
  refine onCall_eq (within_ok _ _ _) (by simp) ?_
  simp (contextual := true) (disch := omega)
  refine ⟨fun h0 => by simp [shapeOf, h0], fun h0 => ?_⟩
  refine onCall_eq (within_ok _ _ _) (by simp) ?_
  simp (contextual := true) (disch := omega)
  refine ⟨fun h1 => ?_, fun h1 => ?_⟩
  · rw [within_true] at h1
    rw [i64_wrap (by omega), ← within_true] at *
    simp [shapeOf, *]
  refine onCall_eq (within_ok _ _ _) (by simp) ?_
  simp (contextual := true) (disch := omega)
  refine ⟨fun h2 => ?_, fun h2 => ?_⟩
  · rw [i64_wrap (by rw [within_true] at h2; omega)]
    simp [shapeOf, *]
  · simp (contextual := true) [shapeOf, *]

abbrev L (nl : Bool) (l : List Int) : LV := .sl false nl 1 (l.map fun n => [N n])
def tEnd (l : List Int) (i : Int) : Int := if 0 ≤ i then endOf 1 (l.drop i.toNat) l.length else -1
theorem tEnd_out {l : List Int} {i : Int} (h : i < 0 ∨ l.length ≤ i) : tEnd l i = -1 := by
  unfold tEnd
  split
  · rw [List.drop_eq_nil_of_le (by omega)]; simp [endOf, Ty.skip]
  · rfl
theorem tEnd_range {l : List Int} {i : Int} (h : 0 ≤ i) : tEnd l i = -1 ∨ (i < tEnd l i ∧ tEnd l i ≤ l.length) := by
  unfold tEnd endOf
  rw [if_pos h]
  cases hs : Ty.skip 1 (l.drop i.toNat) with
  | none => exact .inl rfl
  | some r =>
    have := skip_length hs
    simp only [List.length_drop] at this ⊢
    right; omega
theorem kidsN' (c : Int) : kidsN c = if c = 0 then some 0 else if (1 ≤ c ∧ c ≤ 18) ∨ c = 35 then some 2 else if (19 ≤ c ∧ c ≤ 34) ∨ c = 36 then some 1 else none := by
  have e1 : (c = 1 ∨ c = 2 ∨ isArrow c = true) ↔ ((1 ≤ c ∧ c ≤ 18) ∨ c = 35) := by simp [isArrow]; omega
  have e2 : (isBox c = true) ↔ ((19 ≤ c ∧ c ≤ 34) ∨ c = 36) := by simp [isBox]
  unfold kidsN
  simp only [e1, e2]
theorem shape_kids (c : Int) : ((shapeOf c).1 = 0 ∧ kidsN c = some 0) ∨ ((shapeOf c).1 = 4 ∧ kidsN c = some 1) ∨ ((shapeOf c).1 = 5 ∧ kidsN c = none) ∨ ((shapeOf c).1 ≠ 0 ∧ (shapeOf c).1 ≠ 4 ∧ (shapeOf c).1 ≠ 5 ∧ kidsN c = some 2) := by
  rw [kidsN']
  unfold shapeOf
  simp only [within_true, eqB_true]
  by_cases h0 : 0 ≤ c ∧ c ≤ 2
  · rw [if_pos h0]
    by_cases h : c = 0
    · simp [h]
    · rw [if_neg h, if_pos (by omega)]; simp; omega
  rw [if_neg h0, if_neg (show ¬ c = 0 by omega)]
  by_cases h1 : 3 ≤ c ∧ c ≤ 18
  · rw [if_pos h1, if_pos (by omega)]; simp
  rw [if_neg h1]
  by_cases h2 : 19 ≤ c ∧ c ≤ 34
  · rw [if_pos h2, if_neg (by omega), if_pos (by omega)]; simp
  rw [if_neg h2]
  by_cases h3 : c = 35
  · simp [h3]
  rw [if_neg h3]
  by_cases h4 : c = 36
  · simp [h4]
  rw [if_neg h4, if_neg (by omega), if_neg (by omega)]
  simp
theorem tEnd_in {l : List Int} {i : Int} (h0 : 0 ≤ i) (h1 : i < l.length) (c : Int) (hc : c = l[i.toNat]'(by omega)) :
    ((shapeOf c).1 = 0 → tEnd l i = i + 1) ∧ ((shapeOf c).1 = 4 → tEnd l i = tEnd l (i + 1)) ∧ ((shapeOf c).1 = 5 → tEnd l i = -1) ∧
    ((shapeOf c).1 ≠ 0 → (shapeOf c).1 ≠ 4 → (shapeOf c).1 ≠ 5 → tEnd l i = tEnd l (tEnd l (i + 1))) := by
  have hd : l.drop i.toNat = c :: l.drop (i.toNat + 1) := by rw [hc]; exact List.drop_eq_getElem_cons (by omega)
  have e1 : (i + 1).toNat = i.toNat + 1 := by omega
  have key : tEnd l i = match kidsN c with
      | none => -1
      | some k => endOf (0 + k) (l.drop (i.toNat + 1)) l.length := by
    unfold tEnd endOf
    rw [if_pos h0, hd]
    simp only [Ty.skip]
    cases kidsN c <;> rfl
  rcases shape_kids c with ⟨a, b⟩ | ⟨a, b⟩ | ⟨a, b⟩ | ⟨a1, a2, a3, b⟩
  · rw [b] at key
    refine ⟨fun _ => ?_, fun h => by omega, fun h => by omega, fun h => absurd a h⟩
    rw [key]; simp [endOf, Ty.skip]; omega
  · rw [b] at key
    refine ⟨fun h => by omega, fun _ => ?_, fun h => by omega, fun _ h => absurd a h⟩
    rw [key]; unfold tEnd; rw [if_pos (by omega), e1]
  · rw [b] at key
    exact ⟨fun h => by omega, fun h => by omega, fun _ => key, fun _ _ h => absurd a h⟩
  · rw [b] at key
    refine ⟨fun h => absurd h a1, fun h => absurd h a2, fun h => absurd h a3, fun _ _ _ => ?_⟩
    rw [key]
    show endOf (1 + 1) _ _ = _
    unfold tEnd
    rw [if_pos (show 0 ≤ i + 1 by omega), e1]
    unfold endOf
    rw [skip_add]
    cases hs : Ty.skip 1 (l.drop (i.toNat + 1)) with
    | none => simp
    | some r =>
      obtain ⟨m, hm, h2, h3⟩ := skip_drop _ _ _ hs
      have hr : r.length ≤ l.length := by rw [hm]; simp
      simp only [Option.bind_some]
      rw [if_pos (by omega)]
      have : l.drop ((l.length : Int) - r.length).toNat = r := by
        rw [hm, List.drop_drop]
        simp only [List.length_drop] at h3 ⊢
        congr 1; omega
      rw [this]
def meas (l : List Int) (i : Int) : Nat := if i < 0 then 0 else (l.length + 1 - i).toNat
theorem typeEnd_ok (nl : Bool) (l : List Int) (hl : l.length ≤ 1099511627776) (hw : ∀ n ∈ l, I64 n) (i : Int) (hi : I64 i) : Gives Try.prog n_impl_typeEnd [L nl l, N i] (· = N (tEnd l i)) := by
  generalize hd : meas l i = d
  induction d using Nat.strongRecOn generalizing i with
  | _ d ih =>
    obtain ⟨ha, hb⟩ := hi
    refine Gives.of_codeOf c_impl_typeEnd mixed (by simp) ⟨_, rfl, by simp⟩ ?_
    simp (contextual := true) (disch := omega) [k_impl_typeEnd, idxLV, i64_wrap]
    refine ⟨fun _ h0 => (tEnd_out (.inl h0)).symm, fun _ h0 _ _ _ => ⟨fun _ h1 => (tEnd_out (.inr h1)).symm, fun _ h1 => ?_⟩⟩
    refine onCall_eq (shape_ok _ (hw _ (List.getElem_mem _))) (by simp) ?_
    simp (contextual := true) (disch := omega) [i64_wrap]
    generalize hc : l[i.toNat]'(by omega) = c
    obtain ⟨g0, g4, g5, g2⟩ := tEnd_in h0 h1 c hc.symm
    have i1 : Gives Try.prog n_impl_typeEnd [L nl l, N (i + 1)] (· = N (tEnd l (i + 1))) := ih _ (by rw [← hd]; unfold meas; rw [if_neg (by omega), if_neg (by omega)]; omega) (i + 1) ⟨by omega, by omega⟩ rfl
    refine ⟨fun _ _ _ => (g0 (by omega)).symm, fun _ n0 => ⟨fun _ _ _ => ?_, fun _ n4 => ⟨fun _ _ _ => (g5 (by omega)).symm, fun _ n5 => ?_⟩⟩⟩
    · refine onCall_eq i1 (by simp) ?_
      simp [g4 (by omega)]
    · refine onCall_eq i1 (by simp) ?_
      have hr := tEnd_range (l := l) (i := i + 1) (by omega)
      have i2 : Gives Try.prog n_impl_typeEnd [L nl l, N (tEnd l (i + 1))] (· = N (tEnd l (tEnd l (i + 1)))) := ih _ (by rw [← hd]; unfold meas; split <;> (rw [if_neg (by omega)]; omega)) _ ⟨by omega, by omega⟩ rfl
      simp
      refine onCall_eq i2 (by simp) ?_
      simp [g2 n0 n4 n5]
end Go.Proofs.Yticcekapikfhaaa
