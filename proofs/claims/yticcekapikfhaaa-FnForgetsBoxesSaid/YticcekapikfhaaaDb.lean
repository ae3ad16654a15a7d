/- Systems that are drawn: levels, bounds, counts, a product. No conditions. -/
import Derived.Test.YticcekapikfhaaaGm
import Derived.Test.YticcekapikfhaaaDa
import Derived.Test.YticcekapikfhaaaGb
namespace Go.Proofs.Yticcekapikfhaaa
open Go Go.TL
set_option linter.unusedSimpArgs false
set_option linter.unusedVariables false
set_option linter.unusedSectionVars false
set_option maxRecDepth 20000
set_option maxHeartbeats 4000000

theorem l1Max_ok (a b : Int) : Gives Try.prog n_spec_l1Max [N a, N b] (· = N (max a b)) := by
  refine Gives.of_codeOf c_spec_l1Max mixed (by simp) ⟨_, rfl, by simp⟩ ?_
  simp (disch := omega) [-onBool_some, -onBool_leT, -onBool_leF, -onBool_ltT, -onBool_ltF, -onBool_eqT, -onBool_eqF, k_spec_l1Max]
  repeat' (first
    | (with_reducible (first | refine onBoolT (fun hb_ => ?_) (fun hb_ => ?_) | refine onBoolF (fun hb_ => ?_) (fun hb_ => ?_)) <;> simp (disch := omega) [-onBool_some, -onBool_leT, -onBool_leF, -onBool_ltT, -onBool_ltF, -onBool_eqT, -onBool_eqF, hb_])
    | simp (disch := omega) [-onBool_some, -onBool_leT, -onBool_leF, -onBool_ltT, -onBool_ltF, -onBool_eqT, -onBool_eqF])
  all_goals simp only [ltB_true, ltB_false, leB_true, leB_false, eqB_true, eqB_false, Bool.not_true, Bool.not_false] at *
  all_goals omega
/-! levels -/
def lX (n a : Nat) : Int := ((n : Int) + 1 - a).tmod (n + 1)
theorem tmod_rng {m k : Int} (h0 : 0 ≤ m) (hk : 0 < k) : 0 ≤ m.tmod k ∧ m.tmod k < k := by
  rw [Int.tmod_eq_emod_of_nonneg h0]
  exact ⟨Int.emod_nonneg _ (by omega), Int.emod_lt_of_pos _ hk⟩
theorem lX_rng {n a : Nat} (h : a ≤ n) : 0 ≤ lX n a ∧ lX n a ≤ n := by
  have := tmod_rng (m := (n : Int) + 1 - a) (k := n + 1) (by omega) (by omega)
  unfold lX; omega
def lPl (n a b : Nat) : Int := ((n : Int) + 1 - max (lX n a) (lX n b)).tmod (n + 1)
def lTm (n a b : Nat) : Int := ((n : Int) + 1 - min (lX n a) (lX n b)).tmod (n + 1)
def lBl (n a b : Nat) : Bool := leB (lX n a) (lX n b)
abbrev tabSys (size : Nat) (p t : Nat → Nat → Int) (b : Nat → Nat → Bool) : LV := .agg [N size, OI (tabL p size size 0), OI (tabL t size size 0), OBl (tabL b size size 0)]
theorem LevelSystem_ok (n : Nat) (h1 : 1 ≤ n) (hn : n ≤ 15) : Gives Try.prog n_spec_LevelSystem [N n] (· = tabSys (n + 1) (lPl n) (lTm n) (lBl n)) := by
  refine Gives.of_codeOf c_spec_LevelSystem mixed (by simp) ⟨_, rfl, by simp⟩ ?_
  have hwi : within n 1 15 = true := by rw [within_true]; omega
  simp (disch := omega) [-onBool_some, -onBool_leT, -onBool_leF, -onBool_ltT, -onBool_ltF, -onBool_eqT, -onBool_eqF, k_spec_LevelSystem]
  refine onCall_eq (in_ok _ _ _) (by simp) ?_
  simp (disch := omega) [-onBool_some, -onBool_leT, -onBool_leF, -onBool_ltT, -onBool_ltF, -onBool_eqT, -onBool_eqF, hwi, i64_wrap]
  refine wpC_forM (n + 1) 0 (fun a t h => t 4 = N a ∧ h = [some [N 0, .sl true true 1 [], .sl true true 1 [], .sl true true 1 []], some [N (n + 1), OI (tabL (lPl n) (n + 1) a 0), OI (tabL (lTm n) (n + 1) a 0), OBl (tabL (lBl n) (n + 1) a 0)]])
    (fun t h => h = [some [N 0, .sl true true 1 [], .sl true true 1 [], .sl true true 1 []], some [N (n + 1), OI (tabL (lPl n) (n + 1) (n + 1) 0), OI (tabL (lTm n) (n + 1) (n + 1) 0), OBl (tabL (lBl n) (n + 1) (n + 1) 0)]]) (by simp [tabL_zero]) (by omega) ?_ ?_
  · rintro a t1 hh hf ha ⟨e4, rfl⟩
    (have e0 := hf 0 (by kernel_rfl); have e2 := hf 2 (by kernel_rfl); have e3 := hf 3 (by kernel_rfl); clear hf; simp [] at e0 e2 e3)
    simp (disch := omega) [-onBool_some, -onBool_leT, -onBool_leF, -onBool_ltT, -onBool_ltF, -onBool_eqT, -onBool_eqF, e0, e2, e3, e4]
    (with_reducible first | refine onBoolT (fun h2 => ?_) (fun h2 => ?_) | refine onBoolF (fun h2 => ?_) (fun h2 => ?_))
    · simp only [ltB_true, ltB_false, leB_true, leB_false, eqB_true, eqB_false, Bool.not_true, Bool.not_false] at h2
      simp (disch := omega) [-onBool_some, -onBool_leT, -onBool_leF, -onBool_ltT, -onBool_ltF, -onBool_eqT, -onBool_eqF, e0, e2, e3, e4]
      refine wpC_forM (n + 1) 0 (fun b t h => t 5 = N b ∧ h = [some [N 0, .sl true true 1 [], .sl true true 1 [], .sl true true 1 []], some [N (n + 1), OI (tabL (lPl n) (n + 1) a b), OI (tabL (lTm n) (n + 1) a b), OBl (tabL (lBl n) (n + 1) a b)]])
        (fun t h => h = [some [N 0, .sl true true 1 [], .sl true true 1 [], .sl true true 1 []], some [N (n + 1), OI (tabL (lPl n) (n + 1) a (n + 1)), OI (tabL (lTm n) (n + 1) a (n + 1)), OBl (tabL (lBl n) (n + 1) a (n + 1))]]) (by simp) (by omega) ?_ ?_
      · rintro b t2 hh hf hb' ⟨f5, rfl⟩
        (have f0 := hf 0 (by kernel_rfl); have f2 := hf 2 (by kernel_rfl); have f3 := hf 3 (by kernel_rfl); have f4 := hf 4 (by kernel_rfl); clear hf; simp [e0, e2, e3, e4] at f0 f2 f3 f4)
        simp (disch := omega) [-onBool_some, -onBool_leT, -onBool_leF, -onBool_ltT, -onBool_ltF, -onBool_eqT, -onBool_eqF, f0, f2, f3, f4, f5]
        (with_reducible first | refine onBoolT (fun h3 => ?_) (fun h3 => ?_) | refine onBoolF (fun h3 => ?_) (fun h3 => ?_))
        · simp only [ltB_true, ltB_false, leB_true, leB_false, eqB_true, eqB_false, Bool.not_true, Bool.not_false] at h3
          have xa := lX_rng (n := n) (a := a) (by omega)
          have xb := lX_rng (n := n) (a := b) (by omega)
          have hsm := tab_small (size := n + 1) (by omega) (a := a) (b := b) (by omega) (by omega)
          have a1 := app_I (x := lPl n a b) (l := tabL (lPl n) (n + 1) a b) (by rw [tabL_len]; exact hsm)
          have a2 := app_I (x := lTm n a b) (l := tabL (lTm n) (n + 1) a b) (by rw [tabL_len]; exact hsm)
          have a3 := app_B (x := lBl n a b) (l := tabL (lBl n) (n + 1) a b) (by rw [tabL_len]; exact hsm)
          rw [← tabL_step] at a1 a2 a3
          have m1 := l1Max_ok (lX n a) (lX n b)
          have m2 := l1Min_ok (lX n a) (lX n b)
          have hz : ¬ (n : Int) + 1 = 0 := by omega
          have q1 : ((n : Int) + 1 - a).tmod (n + 1) = lX n a := rfl
          have q2 : ((n : Int) + 1 - b).tmod (n + 1) = lX n b := rfl
          have q3 : ((n : Int) + 1 - max (lX n a) (lX n b)).tmod (n + 1) = lPl n a b := rfl
          have q4 : ((n : Int) + 1 - min (lX n a) (lX n b)).tmod (n + 1) = lTm n a b := rfl
          have q5 : leB (lX n a) (lX n b) = lBl n a b := rfl
          clear e0 e2 e3 e4
          simp (disch := omega) [-onBool_some, -onBool_leT, -onBool_leF, -onBool_ltT, -onBool_ltF, -onBool_eqT, -onBool_eqF, f0, f2, f3, f4, f5, i64_wrap, bin_rem, hz, q1, q2]
          repeat' (first
    | with_reducible refine onCall_eq (m1) (by simp) ?_
    | with_reducible refine onCall_eq (m2) (by simp) ?_
    | (with_reducible (first | refine onBoolT (fun hb_ => ?_) (fun hb_ => ?_) | refine onBoolF (fun hb_ => ?_) (fun hb_ => ?_)) <;> simp (disch := omega) [-onBool_some, -onBool_leT, -onBool_leF, -onBool_ltT, -onBool_ltF, -onBool_eqT, -onBool_eqF, hb_, f0, f2, f3, f4, f5, i64_wrap, bin_rem, hz, q1, q2, q3, q4, q5, a1, a2, a3])
    | simp (disch := omega) [-onBool_some, -onBool_leT, -onBool_leF, -onBool_ltT, -onBool_ltF, -onBool_eqT, -onBool_eqF, f0, f2, f3, f4, f5, i64_wrap, bin_rem, hz, q1, q2, q3, q4, q5, a1, a2, a3])
          all_goals omega
        · simp only [ltB_true, ltB_false, leB_true, leB_false, eqB_true, eqB_false, Bool.not_true, Bool.not_false] at h3
          simp (disch := omega) [-onBool_some, -onBool_leT, -onBool_leF, -onBool_ltT, -onBool_ltF, -onBool_eqT, -onBool_eqF]
          rw [show b = n + 1 by omega]; simp
      · rintro t2 hh hf rfl
        (have f4 := hf 4 (by kernel_rfl); clear hf; simp [e4] at f4)
        simp (disch := omega) [-onBool_some, -onBool_leT, -onBool_leF, -onBool_ltT, -onBool_ltF, -onBool_eqT, -onBool_eqF, f4, tabL_row]
        exact ⟨by omega, i64_wrap (by omega)⟩
    · simp only [ltB_true, ltB_false, leB_true, leB_false, eqB_true, eqB_false, Bool.not_true, Bool.not_false] at h2
      simp (disch := omega) [-onBool_some, -onBool_leT, -onBool_leF, -onBool_ltT, -onBool_ltF, -onBool_eqT, -onBool_eqF]
      rw [show a = n + 1 by omega]; simp
  · rintro t1 hh hf rfl
    (have e2 := hf 2 (by kernel_rfl); have e3 := hf 3 (by kernel_rfl); clear hf; simp [] at e2 e3)
    simp (disch := omega) [-onBool_some, -onBool_leT, -onBool_leF, -onBool_ltT, -onBool_ltF, -onBool_eqT, -onBool_eqF, e2, e3]
/-! a product -/
def firstI (n g : Int) : Int := if g = 0 then 0 else if g = 1 then 1 else if g ≤ n + 1 then (g - 1).tdiv n else g.tdiv n
def secondI (n g : Int) : Int := if g < 2 then g else if g ≤ n + 1 then (g - 1).tmod n else g.tmod n
def pairI (n x y : Int) : Int := if x * n + y = 0 then 0 else if x * n + y = n + 1 then 1 else if x * n + y < n + 1 then x * n + y + 1 else x * n + y
theorem tdiv_small {a n : Int} (h0 : 0 ≤ a) (h1 : a ≤ 100000) (hn : 0 < n) : -9223372036854775808 ≤ a.tdiv n ∧ a.tdiv n ≤ 9223372036854775807 := by
  rw [Int.tdiv_eq_ediv_of_nonneg h0]
  have h2 := Int.ediv_nonneg h0 (Int.le_of_lt hn)
  have h3 := Int.ediv_le_self n h0
  omega
theorem l1First_ok (n g : Int) (hn : 1 ≤ n ∧ n ≤ 100) (hg : 0 ≤ g ∧ g ≤ 10000) : Gives Try.prog n_spec_l1First [N n, N g] (· = N (firstI n g)) := by
  refine Gives.of_codeOf c_spec_l1First mixed (by simp) ⟨_, rfl, by simp⟩ ?_
  have hz : ¬ n = 0 := by omega
  simp (disch := omega) [-onBool_some, -onBool_leT, -onBool_leF, -onBool_ltT, -onBool_ltF, -onBool_eqT, -onBool_eqF, k_spec_l1First]
  repeat' (first
    | (with_reducible (first | refine onBoolT (fun hb_ => ?_) (fun hb_ => ?_) | refine onBoolF (fun hb_ => ?_) (fun hb_ => ?_)) <;> simp (disch := omega) [-onBool_some, -onBool_leT, -onBool_leF, -onBool_ltT, -onBool_ltF, -onBool_eqT, -onBool_eqF, hb_, i64_wrap, bin_quo, hz])
    | simp (disch := omega) [-onBool_some, -onBool_leT, -onBool_leF, -onBool_ltT, -onBool_ltF, -onBool_eqT, -onBool_eqF, i64_wrap, bin_quo, hz])
  all_goals simp only [ltB_true, ltB_false, leB_true, leB_false, eqB_true, eqB_false, Bool.not_true, Bool.not_false] at *
  all_goals unfold firstI
  all_goals simp_all
  · exact i64_wrap (tdiv_small (a := g - 1) (n := n) (by omega) (by omega) (by omega))
  · rw [if_neg (by omega)]; exact i64_wrap (tdiv_small (a := g) (n := n) (by omega) (by omega) (by omega))
theorem l1Second_ok (n g : Int) (hn : 1 ≤ n ∧ n ≤ 100) (hg : 0 ≤ g ∧ g ≤ 10000) : Gives Try.prog n_spec_l1Second [N n, N g] (· = N (secondI n g)) := by
  refine Gives.of_codeOf c_spec_l1Second mixed (by simp) ⟨_, rfl, by simp⟩ ?_
  have hz : ¬ n = 0 := by omega
  simp (disch := omega) [-onBool_some, -onBool_leT, -onBool_leF, -onBool_ltT, -onBool_ltF, -onBool_eqT, -onBool_eqF, k_spec_l1Second]
  repeat' (first
    | (with_reducible (first | refine onBoolT (fun hb_ => ?_) (fun hb_ => ?_) | refine onBoolF (fun hb_ => ?_) (fun hb_ => ?_)) <;> simp (disch := omega) [-onBool_some, -onBool_leT, -onBool_leF, -onBool_ltT, -onBool_ltF, -onBool_eqT, -onBool_eqF, hb_, i64_wrap, bin_rem, hz])
    | simp (disch := omega) [-onBool_some, -onBool_leT, -onBool_leF, -onBool_ltT, -onBool_ltF, -onBool_eqT, -onBool_eqF, i64_wrap, bin_rem, hz])
  all_goals simp only [ltB_true, ltB_false, leB_true, leB_false, eqB_true, eqB_false, Bool.not_true, Bool.not_false] at *
  all_goals unfold secondI
  all_goals (try simp_all)
  all_goals (repeat' split)
  all_goals (first | rfl | omega)
theorem l1Pair_ok (n x y : Int) (hn : 1 ≤ n ∧ n ≤ 100) (hx : 0 ≤ x ∧ x ≤ 1000) (hy : 0 ≤ y ∧ y ≤ 1000) : Gives Try.prog n_spec_l1Pair [N n, N x, N y] (· = N (pairI n x y)) := by
  refine Gives.of_codeOf c_spec_l1Pair mixed (by simp) ⟨_, rfl, by simp⟩ ?_
  have h0 : 0 ≤ x * n := Int.mul_nonneg (by omega) (by omega)
  have h1 : x * n ≤ 1000 * 100 := Int.le_trans (Int.mul_le_mul_of_nonneg_right (by omega) (by omega)) (Int.mul_le_mul_of_nonneg_left (by omega) (by omega))
  simp (disch := omega) [-onBool_some, -onBool_leT, -onBool_leF, -onBool_ltT, -onBool_ltF, -onBool_eqT, -onBool_eqF, k_spec_l1Pair, i64_wrap]
  repeat' (first
    | (with_reducible (first | refine onBoolT (fun hb_ => ?_) (fun hb_ => ?_) | refine onBoolF (fun hb_ => ?_) (fun hb_ => ?_)) <;> simp (disch := omega) [-onBool_some, -onBool_leT, -onBool_leF, -onBool_ltT, -onBool_ltF, -onBool_eqT, -onBool_eqF, hb_, i64_wrap])
    | simp (disch := omega) [-onBool_some, -onBool_leT, -onBool_leF, -onBool_ltT, -onBool_ltF, -onBool_eqT, -onBool_eqF, i64_wrap])
  all_goals simp only [ltB_true, ltB_false, leB_true, leB_false, eqB_true, eqB_false, Bool.not_true, Bool.not_false] at *
  all_goals unfold pairI
  all_goals (try simp_all)
  all_goals (repeat' split)
  all_goals (first | rfl | omega)
/-- a table that is drawn, as a system -/
def tabG (size : Nat) (p t : Nat → Nat → Int) (b : Nat → Nat → Bool) : GSys :=
  ⟨size, (tabL p size size 0).isEmpty, tabL p size size 0, (tabL t size size 0).isEmpty, tabL t size size 0, (tabL b size size 0).isEmpty, tabL b size size 0⟩
theorem share_tab (size : Nat) (p t : Nat → Nat → Int) (b : Nat → Nat → Bool) : share (tabSys size p t b) = (tabG size p t b).lv := by simp [tabSys, tabG]
theorem l1Product_ok (a b : GSys) (ha : a.wf) (hb : b.wf) (sa : a.sys = true) (sb : b.sys = true) (h16 : a.size * b.size ≤ 16) : Gives Try.prog n_spec_l1Product [a.lv, b.lv] (· = B true) := by
  refine Gives.of_codeOf c_spec_l1Product mixed (by simp) ⟨_, rfl, by simp⟩ ?_
  have s1 := specIsSystem_ok a ha
  have s2 := specIsSystem_ok b hb
  rw [sa] at s1
  rw [sb] at s2
  have ta := GSys.sys_of sa
  have tb := GSys.sys_of sb
  have p0 : 0 ≤ a.size * b.size := Int.mul_nonneg (by have := ta.lo; omega) (by have := tb.lo; omega)
  simp (disch := omega) [-onBool_some, -onBool_leT, -onBool_leF, -onBool_ltT, -onBool_ltF, -onBool_eqT, -onBool_eqF, k_spec_l1Product, boxLV, frzLV]
  repeat' (first
    | with_reducible refine onCall_eq (s1) (by simp) ?_
    | with_reducible refine onCall_eq (s2) (by simp) ?_
    | (with_reducible (first | refine onBoolT (fun hb_ => ?_) (fun hb_ => ?_) | refine onBoolF (fun hb_ => ?_) (fun hb_ => ?_)) <;> simp (disch := omega) [-onBool_some, -onBool_leT, -onBool_leF, -onBool_ltT, -onBool_ltF, -onBool_eqT, -onBool_eqF, hb_, i64_wrap, frzLV])
    | simp (disch := omega) [-onBool_some, -onBool_leT, -onBool_leF, -onBool_ltT, -onBool_ltF, -onBool_eqT, -onBool_eqF, i64_wrap, frzLV])
  all_goals simp_all [leB_true]
def pX (f : Int → Int → Int → Int) (a b : GSys) (n : Nat) (pl : GSys → Int → Int → Int) (g h : Nat) : Int := pairI n (pl a (firstI n g) (firstI n h)) (pl b (secondI n g) (secondI n h))
def pPl (a b : GSys) (n : Nat) (g h : Nat) : Int := pairI n (a.pl (firstI n g) (firstI n h)) (b.pl (secondI n g) (secondI n h))
def pTm (a b : GSys) (n : Nat) (g h : Nat) : Int := pairI n (a.tm (firstI n g) (firstI n h)) (b.tm (secondI n g) (secondI n h))
def pBl (a b : GSys) (n : Nat) (g h : Nat) : Bool := a.le (firstI n g) (firstI n h) && b.le (secondI n g) (secondI n h)
theorem ProductSystem_ok (a b : GSys) (ha : a.wf) (hb : b.wf) (sa : a.sys = true) (sb : b.sys = true) (m n : Nat) (em : a.size = m) (en : b.size = n) (h16 : m * n ≤ 16)
    (hG : ∀ g : Nat, g < m * n → (a.G (firstI n g) ∧ b.G (secondI n g))) : Gives Try.prog n_spec_ProductSystem [a.lv, b.lv] (· = .tup [tabSys (m * n) (pPl a b n) (pTm a b n) (pBl a b n), B true]) := by
  refine Gives.of_codeOf c_spec_ProductSystem mixed (by simp) ⟨_, rfl, by simp⟩ ?_
  have ta := GSys.sys_of sa
  have tb := GSys.sys_of sb
  have hz : a.size * b.size = ((m * n : Nat) : Int) := by rw [em, en]; simp
  have hp := l1Product_ok a b ha hb sa sb (by rw [hz]; omega)
  have hn : 2 ≤ n ∧ n ≤ 16 := by have := tb.lo; have := tb.hi; omega
  have hz' : (m : Int) * n = ((m * n : Nat) : Int) := by simp
  obtain ⟨sz, hsz⟩ : ∃ sz, m * n = sz := ⟨_, rfl⟩
  rw [hsz] at hG hz hz' h16 ⊢
  simp (disch := omega) [-onBool_some, -onBool_leT, -onBool_leF, -onBool_ltT, -onBool_ltF, -onBool_eqT, -onBool_eqF, k_spec_ProductSystem, boxLV, frzLV]
  repeat' (first
    | with_reducible refine onCall_eq (hp) (by simp) ?_
    | (with_reducible (first | refine onBoolT (fun hb_ => ?_) (fun hb_ => ?_) | refine onBoolF (fun hb_ => ?_) (fun hb_ => ?_)) <;> simp (disch := omega) [-onBool_some, -onBool_leT, -onBool_leF, -onBool_ltT, -onBool_ltF, -onBool_eqT, -onBool_eqF, hb_, i64_wrap, frzLV, boxLV])
    | simp (disch := omega) [-onBool_some, -onBool_leT, -onBool_leF, -onBool_ltT, -onBool_ltF, -onBool_eqT, -onBool_eqF, i64_wrap, frzLV, boxLV])
  simp (disch := omega) [-onBool_some, -onBool_leT, -onBool_leF, -onBool_ltT, -onBool_ltF, -onBool_eqT, -onBool_eqF, em, en, hz', i64_wrap]
  refine wpC_forM sz 0 (fun a' t h => t 8 = N a' ∧ h = [none, none, some [N 0, .sl true true 1 [], .sl true true 1 [], .sl true true 1 []], some [N sz, OI (tabL (pPl a b n) sz a' 0), OI (tabL (pTm a b n) sz a' 0), OBl (tabL (pBl a b n) sz a' 0)]])
    (fun t h => h = [none, none, some [N 0, .sl true true 1 [], .sl true true 1 [], .sl true true 1 []], some [N sz, OI (tabL (pPl a b n) sz sz 0), OI (tabL (pTm a b n) sz sz 0), OBl (tabL (pBl a b n) sz sz 0)]]) (by simp [tabL_zero]) (by omega) ?_ ?_
  · rintro g t1 hh hf hg ⟨e8, rfl⟩
    (have e2 := hf 2 (by kernel_rfl); have e3 := hf 3 (by kernel_rfl); have e4 := hf 4 (by kernel_rfl); have e5 := hf 5 (by kernel_rfl); have e6 := hf 6 (by kernel_rfl); have e7 := hf 7 (by kernel_rfl); clear hf; simp [em, en] at e2 e3 e4 e5 e6 e7)
    simp (disch := omega) [-onBool_some, -onBool_leT, -onBool_leF, -onBool_ltT, -onBool_ltF, -onBool_eqT, -onBool_eqF, e2, e3, e4, e5, e6, e7, e8]
    (with_reducible first | refine onBoolT (fun h2 => ?_) (fun h2 => ?_) | refine onBoolF (fun h2 => ?_) (fun h2 => ?_))
    · simp only [ltB_true, ltB_false, leB_true, leB_false, eqB_true, eqB_false, Bool.not_true, Bool.not_false] at h2
      simp (disch := omega) [-onBool_some, -onBool_leT, -onBool_leF, -onBool_ltT, -onBool_ltF, -onBool_eqT, -onBool_eqF, e2, e3, e4, e5, e6, e7, e8]
      refine wpC_forM sz 0 (fun k t h => t 9 = N k ∧ h = [none, none, some [N 0, .sl true true 1 [], .sl true true 1 [], .sl true true 1 []], some [N sz, OI (tabL (pPl a b n) sz g k), OI (tabL (pTm a b n) sz g k), OBl (tabL (pBl a b n) sz g k)]])
        (fun t h => h = [none, none, some [N 0, .sl true true 1 [], .sl true true 1 [], .sl true true 1 []], some [N sz, OI (tabL (pPl a b n) sz g sz), OI (tabL (pTm a b n) sz g sz), OBl (tabL (pBl a b n) sz g sz)]]) (by simp) (by omega) ?_ ?_
      · rintro k t2 hh hf hk ⟨f9, rfl⟩
        (have f2 := hf 2 (by kernel_rfl); have f3 := hf 3 (by kernel_rfl); have f4 := hf 4 (by kernel_rfl); have f5 := hf 5 (by kernel_rfl); have f6 := hf 6 (by kernel_rfl); have f7 := hf 7 (by kernel_rfl); have f8 := hf 8 (by kernel_rfl); clear hf; simp [e2, e3, e4, e5, e6, e7, e8] at f2 f3 f4 f5 f6 f7 f8)
        simp (disch := omega) [-onBool_some, -onBool_leT, -onBool_leF, -onBool_ltT, -onBool_ltF, -onBool_eqT, -onBool_eqF, f2, f3, f4, f5, f6, f7, f8, f9]
        (with_reducible first | refine onBoolT (fun h3 => ?_) (fun h3 => ?_) | refine onBoolF (fun h3 => ?_) (fun h3 => ?_))
        · simp only [ltB_true, ltB_false, leB_true, leB_false, eqB_true, eqB_false, Bool.not_true, Bool.not_false] at h3
          obtain ⟨x1, y1⟩ := hG g (by omega)
          obtain ⟨x2, y2⟩ := hG k (by omega)
          have hsm := tab_small (size := sz) (by omega) (a := g) (b := k) (by omega) (by omega)
          have a1 := app_I (x := pPl a b n g k) (l := tabL (pPl a b n) sz g k) (by rw [tabL_len]; exact hsm)
          have a2 := app_I (x := pTm a b n g k) (l := tabL (pTm a b n) sz g k) (by rw [tabL_len]; exact hsm)
          have a3 := fun x => app_B (x := x) (l := tabL (pBl a b n) sz g k) (by rw [tabL_len]; exact hsm)
          rw [← tabL_step] at a1 a2
          have c1 := l1First_ok n g (by omega) (by omega)
          have c2 := l1Second_ok n g (by omega) (by omega)
          have c3 := l1First_ok n k (by omega) (by omega)
          have c4 := l1Second_ok n k (by omega) (by omega)
          have rng : ∀ {s : GSys}, s.Tab → ∀ z, s.G z → 0 ≤ z ∧ z ≤ 1000 := fun ts z hz => ⟨hz.1, by have := hz.2; have := ts.hi; omega⟩
          have d1 := l1Add_ok ta x1 x2
          have d2 := l1Add_ok tb y1 y2
          have d3 := l1Mul_ok ta x1 x2
          have d4 := l1Mul_ok tb y1 y2
          have d5 := l1Le_ok ta x1 x2
          have d6 := l1Le_ok tb y1 y2
          have p1 : Gives Try.prog n_spec_l1Pair [N n, N (a.pl (firstI n g) (firstI n k)), N (b.pl (secondI n g) (secondI n k))] (· = N (pPl a b n g k)) := l1Pair_ok n _ _ (by omega) (rng ta _ (GSys.Gpl ta _ _)) (rng tb _ (GSys.Gpl tb _ _))
          have p2 : Gives Try.prog n_spec_l1Pair [N n, N (a.tm (firstI n g) (firstI n k)), N (b.tm (secondI n g) (secondI n k))] (· = N (pTm a b n g k)) := l1Pair_ok n _ _ (by omega) (rng ta _ (GSys.Gtm ta _ _)) (rng tb _ (GSys.Gtm tb _ _))
          have hB : (a.le (firstI n g) (firstI n k) && b.le (secondI n g) (secondI n k)) = pBl a b n g k := rfl
          clear e2 e3 e4 e5 e6 e7 e8
          repeat' (first
    | with_reducible refine onCall_eq (c1) (by simp) ?_
    | with_reducible refine onCall_eq (c2) (by simp) ?_
    | with_reducible refine onCall_eq (c3) (by simp) ?_
    | with_reducible refine onCall_eq (c4) (by simp) ?_
    | with_reducible refine onCall_eq (d1) (by simp) ?_
    | with_reducible refine onCall_eq (d2) (by simp) ?_
    | with_reducible refine onCall_eq (d3) (by simp) ?_
    | with_reducible refine onCall_eq (d4) (by simp) ?_
    | with_reducible refine onCall_eq (d5) (by simp) ?_
    | with_reducible refine onCall_eq (d6) (by simp) ?_
    | with_reducible refine onCall_eq (p1) (by simp) ?_
    | with_reducible refine onCall_eq (p2) (by simp) ?_
    | (with_reducible (first | refine onBoolT (fun hb_ => ?_) (fun hb_ => ?_) | refine onBoolF (fun hb_ => ?_) (fun hb_ => ?_)) <;> simp (disch := omega) [-onBool_some, -onBool_leT, -onBool_leF, -onBool_ltT, -onBool_ltF, -onBool_eqT, -onBool_eqF, hb_, f2, f3, f4, f5, f6, f7, f8, f9, i64_wrap, a1, a2, a3])
    | simp (disch := omega) [-onBool_some, -onBool_leT, -onBool_leF, -onBool_ltT, -onBool_ltF, -onBool_eqT, -onBool_eqF, f2, f3, f4, f5, f6, f7, f8, f9, i64_wrap, a1, a2, a3])
          all_goals clear f2 f3 f4 f5 f6 f7 f8 f9 a1 a2 a3 c1 c2 c3 c4 d1 d2 d3 d4 d5 d6 p1 p2
          all_goals refine ⟨by omega, ?_⟩
          all_goals rw [tabL_step]
          all_goals simp_all [pBl]
        · simp only [ltB_true, ltB_false, leB_true, leB_false, eqB_true, eqB_false, Bool.not_true, Bool.not_false] at h3
          simp (disch := omega) [-onBool_some, -onBool_leT, -onBool_leF, -onBool_ltT, -onBool_ltF, -onBool_eqT, -onBool_eqF]
          rw [show k = sz by omega]; simp
      · rintro t2 hh hf rfl
        (have f8 := hf 8 (by kernel_rfl); clear hf; simp [e8] at f8)
        simp (disch := omega) [-onBool_some, -onBool_leT, -onBool_leF, -onBool_ltT, -onBool_ltF, -onBool_eqT, -onBool_eqF, f8, tabL_row]
        exact ⟨by omega, i64_wrap (by omega)⟩
    · simp only [ltB_true, ltB_false, leB_true, leB_false, eqB_true, eqB_false, Bool.not_true, Bool.not_false] at h2
      simp (disch := omega) [-onBool_some, -onBool_leT, -onBool_leF, -onBool_ltT, -onBool_ltF, -onBool_eqT, -onBool_eqF]
      rw [show g = sz by omega]; simp
  · rintro t1 hh hf rfl
    (have e4 := hf 4 (by kernel_rfl); have e5 := hf 5 (by kernel_rfl); have e7 := hf 7 (by kernel_rfl); clear hf; simp [] at e4 e5 e7)
    simp (disch := omega) [-onBool_some, -onBool_leT, -onBool_leF, -onBool_ltT, -onBool_ltF, -onBool_eqT, -onBool_eqF, e4, e5, e7]
end Go.Proofs.Yticcekapikfhaaa
