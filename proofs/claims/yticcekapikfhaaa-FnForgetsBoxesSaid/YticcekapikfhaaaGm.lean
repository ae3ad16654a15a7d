/- Systems of numbers. No conditions. -/
import Derived.Test.YticcekapikfhaaaGi
namespace Go.Proofs.Yticcekapikfhaaa
open Go Go.TL
set_option linter.unusedSimpArgs false
set_option linter.unusedVariables false
set_option maxRecDepth 20000
set_option maxHeartbeats 4000000

def mmLV (mx : Bool) (x y : LV) : Option LV := match x, y with
  | .sc (.int k a), .sc (.int _ b) => some (.sc (.int k (if (if mx then b > a else b < a) then b else a)))
  | _, _ => none
@[simp] theorem step_mm {s : St} {d : Nat} {mx : Bool} {x y : X} : TL.step (.minmax d mx x y) s = (mmLV mx (TL.get s.t x) (TL.get s.t y)).map (s.put d) := by
  simp only [TL.step, mmLV]
  split <;> simp_all
@[simp] theorem mm_min {k k' : IntKind} {a b : Int} : mmLV false (.sc (.int k a)) (.sc (.int k' b)) = some (.sc (.int k (if b < a then b else a))) := by simp [mmLV]
@[simp] theorem mm_max {k k' : IntKind} {a b : Int} : mmLV true (.sc (.int k a)) (.sc (.int k' b)) = some (.sc (.int k (if a < b then b else a))) := by simp [mmLV]
/-- a function value that makes r of some values -/
def FnV (P : Program) (f : LV) (vs : List LV) (r : LV) : Prop := ∃ fid vals, fnArgs f vs = some (fid, vals) ∧ LowAll 0 vals ∧ Gives P fid vals (· = r)
theorem onFn_V {P : Program} {f : LV} {vs : List LV} {r : LV} {d : Nat} {K : St → Prop} {s : St} (h : FnV P f vs r) (hk : K { t := upd s.t d r, h := s.h }) : onFn P .no f vs (some d) K s := by
  obtain ⟨fid, vals, h1, h2, h3⟩ := h
  exact ⟨fid, vals, h1, onCall_eq (rw := .no) h3 h2 hk⟩
/-- a table: a rows, and b places of the next one -/
def tabL {α : Type} (f : Nat → Nat → α) (size a b : Nat) : List α := ((List.range a).flatMap fun x => (List.range size).map fun y => f x y) ++ (List.range b).map fun y => f a y
theorem tabL_zero {α : Type} (f : Nat → Nat → α) (size : Nat) : tabL f size 0 0 = [] := by simp [tabL]
theorem tabL_step {α : Type} (f : Nat → Nat → α) (size a b : Nat) : tabL f size a (b + 1) = tabL f size a b ++ [f a b] := by
  simp [tabL, List.range_succ]
theorem tabL_row {α : Type} (f : Nat → Nat → α) (size a : Nat) : tabL f size (a + 1) 0 = tabL f size a size := by
  simp [tabL, List.range_succ]
abbrev OI (l : List Int) : LV := .sl true l.isEmpty 1 (l.map fun n => [N n])
abbrev OBl (l : List Bool) : LV := .sl true l.isEmpty 1 (l.map fun b => [B b])
theorem tabL_len {α : Type} (f : Nat → Nat → α) (size : Nat) : ∀ a b, (tabL f size a b).length = a * size + b
  | 0, b => by simp [tabL]
  | a + 1, b => by
    have h1 := tabL_len f size a size
    rw [← tabL_row] at h1
    have : (tabL f size (a + 1) b).length = (tabL f size (a + 1) 0).length + b := by simp [tabL]
    rw [this, h1, Nat.add_mul]; omega
theorem app_I {l : List Int} {x : Int} (h : l.length < 1099511627776) : appLV 1 (OI l) (.sl true false 1 [[N x]]) = some (OI (l ++ [x])) := by
  simp only [appLV]
  rw [if_pos ⟨.inl trivial, .inl trivial, .inl trivial, by simp [most]; omega⟩]
  simp
theorem app_B {l : List Bool} {x : Bool} (h : l.length < 1099511627776) : appLV 1 (OBl l) (.sl true false 1 [[B x]]) = some (OBl (l ++ [x])) := by
  simp only [appLV]
  rw [if_pos ⟨.inl trivial, .inl trivial, .inl trivial, by simp [most]; omega⟩]
  simp
theorem tab_small {a b size : Nat} (hs : size ≤ 100) (ha : a < size) (hb : b < size) : a * size + b < 1099511627776 := by
  have : a * size ≤ 100 * 100 := Nat.mul_le_mul (by omega) hs
  omega
theorem tabled_ok (size : Nat) (hs : size ≤ 100) (fp ft fb : LV) (pl tm : Nat → Nat → Int) (bl : Nat → Nat → Bool) (sp : share fp = fp) (st : share ft = ft) (sb : share fb = fb)
    (hp : ∀ a b : Nat, a < size → b < size → FnV Try.prog fp [N a, N b] (N (pl a b))) (ht : ∀ a b : Nat, a < size → b < size → FnV Try.prog ft [N a, N b] (N (tm a b))) (hb : ∀ a b : Nat, a < size → b < size → FnV Try.prog fb [N a, N b] (B (bl a b))) :
    Gives Try.prog n_impl_tabled [N size, fp, ft, fb] (· = .agg [N size, OI (tabL pl size size 0), OI (tabL tm size size 0), OBl (tabL bl size size 0)]) := by
  refine Gives.of_codeOf c_impl_tabled mixed (by simp) ⟨_, rfl, by simp⟩ ?_
  simp (disch := omega) [-onBool_some, -onBool_leT, -onBool_leF, -onBool_ltT, -onBool_ltF, -onBool_eqT, -onBool_eqF, k_impl_tabled, sp, st, sb]
  refine wpC_forM size 0 (fun a t h => t 10 = N a ∧ h = [some [N 0, .sl true true 1 [], .sl true true 1 [], .sl true true 1 []], some [N size, OI (tabL pl size a 0), OI (tabL tm size a 0), OBl (tabL bl size a 0)]])
    (fun t h => h = [some [N 0, .sl true true 1 [], .sl true true 1 [], .sl true true 1 []], some [N size, OI (tabL pl size size 0), OI (tabL tm size size 0), OBl (tabL bl size size 0)]]) (by simp [tabL_zero]) (by omega) ?_ ?_
  · rintro a t1 hh hf ha ⟨e10, rfl⟩
    (have e0 := hf 0 (by kernel_rfl); have e1 := hf 1 (by kernel_rfl); have e2 := hf 2 (by kernel_rfl); have e3 := hf 3 (by kernel_rfl); have e8 := hf 8 (by kernel_rfl); have e9 := hf 9 (by kernel_rfl); clear hf; simp [] at e0 e1 e2 e3 e8 e9)
    simp (disch := omega) [-onBool_some, -onBool_leT, -onBool_leF, -onBool_ltT, -onBool_ltF, -onBool_eqT, -onBool_eqF, e0, e10]
    (with_reducible first | refine onBoolT (fun h1 => ?_) (fun h1 => ?_) | refine onBoolF (fun h1 => ?_) (fun h1 => ?_))
    · simp only [ltB_true, ltB_false, leB_true, leB_false, eqB_true, eqB_false, Bool.not_true, Bool.not_false] at h1
      simp (disch := omega) [-onBool_some, -onBool_leT, -onBool_leF, -onBool_ltT, -onBool_ltF, -onBool_eqT, -onBool_eqF, e0, e1, e2, e3, e9, e10]
      refine wpC_forM size 0 (fun b t h => t 11 = N b ∧ h = [some [N 0, .sl true true 1 [], .sl true true 1 [], .sl true true 1 []], some [N size, OI (tabL pl size a b), OI (tabL tm size a b), OBl (tabL bl size a b)]])
        (fun t h => h = [some [N 0, .sl true true 1 [], .sl true true 1 [], .sl true true 1 []], some [N size, OI (tabL pl size a size), OI (tabL tm size a size), OBl (tabL bl size a size)]]) (by simp) (by omega) ?_ ?_
      · rintro b t2 hh hf hb' ⟨f11, rfl⟩
        (have f0 := hf 0 (by kernel_rfl); have f1 := hf 1 (by kernel_rfl); have f2 := hf 2 (by kernel_rfl); have f3 := hf 3 (by kernel_rfl); have f8 := hf 8 (by kernel_rfl); have f9 := hf 9 (by kernel_rfl); have f10 := hf 10 (by kernel_rfl); clear hf; simp [e0, e1, e2, e3, e8, e9, e10, sp, st, sb] at f0 f1 f2 f3 f8 f9 f10)
        simp (disch := omega) [-onBool_some, -onBool_leT, -onBool_leF, -onBool_ltT, -onBool_ltF, -onBool_eqT, -onBool_eqF, f0, f1, f2, f3, f9, f10, f11]
        (with_reducible first | refine onBoolT (fun h2 => ?_) (fun h2 => ?_) | refine onBoolF (fun h2 => ?_) (fun h2 => ?_))
        · simp only [ltB_true, ltB_false, leB_true, leB_false, eqB_true, eqB_false, Bool.not_true, Bool.not_false] at h2
          have h1p := hp a b (by omega) (by omega)
          have h1t := ht a b (by omega) (by omega)
          have h1b := hb a b (by omega) (by omega)
          simp (disch := omega) [-onBool_some, -onBool_leT, -onBool_leF, -onBool_ltT, -onBool_ltF, -onBool_eqT, -onBool_eqF, f0, f1, f2, f3, f9, f10, f11, sp, st, sb]
          have hsm := tab_small hs (a := a) (b := b) (by omega) (by omega)
          have a1 := app_I (x := pl a b) (l := tabL pl size a b) (by rw [tabL_len]; exact hsm)
          have a2 := app_I (x := tm a b) (l := tabL tm size a b) (by rw [tabL_len]; exact hsm)
          have a3 := app_B (x := bl a b) (l := tabL bl size a b) (by rw [tabL_len]; exact hsm)
          rw [← tabL_step] at a1 a2 a3
          repeat' (first
    | with_reducible refine onFn_V h1p ?_
    | with_reducible refine onFn_V h1t ?_
    | with_reducible refine onFn_V h1b ?_
    | (with_reducible (first | refine onBoolT (fun hb_ => ?_) (fun hb_ => ?_) | refine onBoolF (fun hb_ => ?_) (fun hb_ => ?_)) <;> simp (disch := omega) [-onBool_some, -onBool_leT, -onBool_leF, -onBool_ltT, -onBool_ltF, -onBool_eqT, -onBool_eqF, hb_, f0, f1, f2, f3, f9, f10, f11, sp, st, sb, i64_wrap, a1, a2, a3])
    | simp (disch := omega) [-onBool_some, -onBool_leT, -onBool_leF, -onBool_ltT, -onBool_ltF, -onBool_eqT, -onBool_eqF, f0, f1, f2, f3, f9, f10, f11, sp, st, sb, i64_wrap, a1, a2, a3])
          all_goals omega
        · simp only [ltB_true, ltB_false, leB_true, leB_false, eqB_true, eqB_false, Bool.not_true, Bool.not_false] at h2
          simp (disch := omega) [-onBool_some, -onBool_leT, -onBool_leF, -onBool_ltT, -onBool_ltF, -onBool_eqT, -onBool_eqF]
          rw [show b = size by omega]; simp
      · rintro t2 hh hf rfl
        (have f10 := hf 10 (by kernel_rfl); clear hf; simp [e10] at f10)
        simp (disch := omega) [-onBool_some, -onBool_leT, -onBool_leF, -onBool_ltT, -onBool_ltF, -onBool_eqT, -onBool_eqF, f10, tabL_row]
        exact ⟨by omega, i64_wrap (by omega)⟩
    · simp only [ltB_true, ltB_false, leB_true, leB_false, eqB_true, eqB_false, Bool.not_true, Bool.not_false] at h1
      simp (disch := omega) [-onBool_some, -onBool_leT, -onBool_leF, -onBool_ltT, -onBool_ltF, -onBool_eqT, -onBool_eqF]
      rw [show a = size by omega]; simp
  · rintro t1 hh hf rfl
    (have e8 := hf 8 (by kernel_rfl); have e9 := hf 9 (by kernel_rfl); clear hf; simp [] at e8 e9)
    simp (disch := omega) [-onBool_some, -onBool_leT, -onBool_leF, -onBool_ltT, -onBool_ltF, -onBool_eqT, -onBool_eqF, e8, e9]
/-! numbers up to n, and many -/
def nPl (n a b : Nat) : Int := min ((a : Int) + b) (n + 1)
def nTm (n a b : Nat) : Int := min ((a : Int) * b) (n + 1)
def nBl (n : Nat) (bound : Bool) (a b : Nat) : Bool := eqB a b || (eqB b (n + 1) || (bound && leB a b))
abbrev numSys (n : Nat) (bound : Bool) : LV := .agg [N (n + 2), OI (tabL (nPl n) (n + 2) (n + 2) 0), OI (tabL (nTm n) (n + 2) (n + 2) 0), OBl (tabL (nBl n bound) (n + 2) (n + 2) 0)]
theorem counted_1_ok (n : Nat) (hn : n ≤ 14) (a b : Nat) (ha : a < n + 2) (hb : b < n + 2) : FnV Try.prog (.fn n_impl_counted_1 [.rp [N (n + 1)]]) [N a, N b] (N (nPl n a b)) := by
  refine ⟨n_impl_counted_1, [N a, N b, .rp [N (n + 1)]], by simp [fnArgs], by simp, ?_⟩
  refine Gives.of_codeOf c_impl_counted_1 mixed (by simp) ⟨_, rfl, by simp⟩ ?_
  simp (disch := omega) [-onBool_some, -onBool_leT, -onBool_leF, -onBool_ltT, -onBool_ltF, -onBool_eqT, -onBool_eqF, k_impl_counted_1, i64_wrap, nPl]
  split <;> omega
theorem mul_small {a b n : Nat} (hn : n ≤ 14) (ha : a < n + 2) (hb : b < n + 2) : (0 : Int) ≤ (a : Int) * b ∧ (a : Int) * b ≤ 256 := by
  have : a * b ≤ 16 * 16 := Nat.mul_le_mul (by omega) (by omega)
  have e : ((a * b : Nat) : Int) = (a : Int) * b := by simp
  omega
theorem counted_2_ok (n : Nat) (hn : n ≤ 14) (a b : Nat) (ha : a < n + 2) (hb : b < n + 2) : FnV Try.prog (.fn n_impl_counted_2 [.rp [N (n + 1)]]) [N a, N b] (N (nTm n a b)) := by
  refine ⟨n_impl_counted_2, [N a, N b, .rp [N (n + 1)]], by simp [fnArgs], by simp, ?_⟩
  refine Gives.of_codeOf c_impl_counted_2 mixed (by simp) ⟨_, rfl, by simp⟩ ?_
  have hm := mul_small hn ha hb
  simp (disch := omega) [-onBool_some, -onBool_leT, -onBool_leF, -onBool_ltT, -onBool_ltF, -onBool_eqT, -onBool_eqF, k_impl_counted_2]
  repeat' (first
    | (with_reducible (first | refine onBoolT (fun hb_ => ?_) (fun hb_ => ?_) | refine onBoolF (fun hb_ => ?_) (fun hb_ => ?_)) <;> simp (disch := omega) [-onBool_some, -onBool_leT, -onBool_leF, -onBool_ltT, -onBool_ltF, -onBool_eqT, -onBool_eqF, hb_, i64_wrap])
    | simp (disch := omega) [-onBool_some, -onBool_leT, -onBool_leF, -onBool_ltT, -onBool_ltF, -onBool_eqT, -onBool_eqF, i64_wrap])
  all_goals simp only [ltB_true, ltB_false, leB_true, leB_false, eqB_true, eqB_false, Bool.not_true, Bool.not_false, nTm] at *
  · rw [hb_]; omega
  · rw [hb_]; omega
  · have h1 : (a : Int) * 1 ≤ a * b := Int.mul_le_mul_of_nonneg_left (by omega) (by omega)
    omega
  · have h1 : 1 * (b : Int) ≤ a * b := Int.mul_le_mul_of_nonneg_right (by omega) (by omega)
    omega
  · split <;> omega
theorem CountSystem_1_ok (n : Nat) (hn : n ≤ 14) (a b : Nat) (ha : a < n + 2) (hb : b < n + 2) : FnV Try.prog (.fn n_impl_CountSystem_1 [.rp [N n]]) [N a, N b] (B (nBl n false a b)) := by
  refine ⟨n_impl_CountSystem_1, [N a, N b, .rp [N n]], by simp [fnArgs], by simp, ?_⟩
  refine Gives.of_codeOf c_impl_CountSystem_1 mixed (by simp) ⟨_, rfl, by simp⟩ ?_
  simp (disch := omega) [-onBool_some, -onBool_leT, -onBool_leF, -onBool_ltT, -onBool_ltF, -onBool_eqT, -onBool_eqF, k_impl_CountSystem_1]
  repeat' (first
    | (with_reducible (first | refine onBoolT (fun hb_ => ?_) (fun hb_ => ?_) | refine onBoolF (fun hb_ => ?_) (fun hb_ => ?_)) <;> simp (disch := omega) [-onBool_some, -onBool_leT, -onBool_leF, -onBool_ltT, -onBool_ltF, -onBool_eqT, -onBool_eqF, hb_, i64_wrap])
    | simp (disch := omega) [-onBool_some, -onBool_leT, -onBool_leF, -onBool_ltT, -onBool_ltF, -onBool_eqT, -onBool_eqF, i64_wrap])
  all_goals simp_all [nBl]
theorem counted_ok (n : Nat) (hn : n ≤ 14) (fb : LV) (bound : Bool) (sb : share fb = fb) (lb : Low 0 fb) (hb : ∀ a b : Nat, a < n + 2 → b < n + 2 → FnV Try.prog fb [N a, N b] (B (nBl n bound a b))) :
    Gives Try.prog n_impl_counted [N n, fb] (· = numSys n bound) := by
  refine Gives.of_codeOf c_impl_counted mixed (by simp) ⟨_, rfl, by simp⟩ ?_
  have ht := tabled_ok (n + 2) (by omega) (.fn n_impl_counted_1 [.rp [N (n + 1)]]) (.fn n_impl_counted_2 [.rp [N (n + 1)]]) fb (nPl n) (nTm n) (nBl n bound) (by simp) (by simp) sb
    (fun a b ha hb => counted_1_ok n hn a b ha hb) (fun a b ha hb => counted_2_ok n hn a b ha hb) hb
  simp only [Int.natCast_add, Int.cast_ofNat_Int] at ht
  simp (disch := omega) [-onBool_some, -onBool_leT, -onBool_leF, -onBool_ltT, -onBool_ltF, -onBool_eqT, -onBool_eqF, k_impl_counted, sb, i64_wrap, frzLV]
  repeat' (first
    | with_reducible refine onCall_eq ht (by simp [lb]) ?_
    | (with_reducible (first | refine onBoolT (fun hb_ => ?_) (fun hb_ => ?_) | refine onBoolF (fun hb_ => ?_) (fun hb_ => ?_)) <;> simp (disch := omega) [-onBool_some, -onBool_leT, -onBool_leF, -onBool_ltT, -onBool_ltF, -onBool_eqT, -onBool_eqF, hb_, sb, i64_wrap, frzLV])
    | simp (disch := omega) [-onBool_some, -onBool_leT, -onBool_leF, -onBool_ltT, -onBool_ltF, -onBool_eqT, -onBool_eqF, sb, i64_wrap, frzLV])
theorem CountSystem_ok (n : Nat) (h1 : 1 ≤ n) (hn : n ≤ 14) : Gives Try.prog n_impl_CountSystem [N n] (· = numSys n false) := by
  refine Gives.of_codeOf c_impl_CountSystem mixed (by simp) ⟨_, rfl, by simp⟩ ?_
  have hc := counted_ok n hn (.fn n_impl_CountSystem_1 [.rp [N n]]) false (by simp) (by simp) (fun a b ha hb => CountSystem_1_ok n hn a b ha hb)
  have hwi : within n 1 14 = true := by rw [within_true]; omega
  simp (disch := omega) [-onBool_some, -onBool_leT, -onBool_leF, -onBool_ltT, -onBool_ltF, -onBool_eqT, -onBool_eqF, k_impl_CountSystem, boxLV, frzLV]
  repeat' (first
    | with_reducible refine onCall_eq (within_ok _ _ _) (by simp) ?_
    | with_reducible refine onCall_eq (hc) (by simp) ?_
    | (with_reducible (first | refine onBoolT (fun hb_ => ?_) (fun hb_ => ?_) | refine onBoolF (fun hb_ => ?_) (fun hb_ => ?_)) <;> simp (disch := omega) [-onBool_some, -onBool_leT, -onBool_leF, -onBool_ltT, -onBool_ltF, -onBool_eqT, -onBool_eqF, hb_, hwi, frzLV])
    | simp (disch := omega) [-onBool_some, -onBool_leT, -onBool_leF, -onBool_ltT, -onBool_ltF, -onBool_eqT, -onBool_eqF, hwi, frzLV])
theorem l1Min_ok (a b : Int) : Gives Try.prog n_spec_l1Min [N a, N b] (· = N (min a b)) := by
  refine Gives.of_codeOf c_spec_l1Min mixed (by simp) ⟨_, rfl, by simp⟩ ?_
  simp (disch := omega) [-onBool_some, -onBool_leT, -onBool_leF, -onBool_ltT, -onBool_ltF, -onBool_eqT, -onBool_eqF, k_spec_l1Min]
  repeat' (first
    | (with_reducible (first | refine onBoolT (fun hb_ => ?_) (fun hb_ => ?_) | refine onBoolF (fun hb_ => ?_) (fun hb_ => ?_)) <;> simp (disch := omega) [-onBool_some, -onBool_leT, -onBool_leF, -onBool_ltT, -onBool_ltF, -onBool_eqT, -onBool_eqF, hb_])
    | simp (disch := omega) [-onBool_some, -onBool_leT, -onBool_leF, -onBool_ltT, -onBool_ltF, -onBool_eqT, -onBool_eqF])
  all_goals simp only [ltB_true, ltB_false, leB_true, leB_false, eqB_true, eqB_false, Bool.not_true, Bool.not_false] at *
  all_goals omega
theorem l1Numbers_ok (n : Nat) (h1 : 1 ≤ n) (hn : n ≤ 14) (bound : Bool) : Gives Try.prog n_spec_l1Numbers [N n, B bound] (· = numSys n bound) := by
  refine Gives.of_codeOf c_spec_l1Numbers mixed (by simp) ⟨_, rfl, by simp⟩ ?_
  have hwi : within n 1 14 = true := by rw [within_true]; omega
  simp (disch := omega) [-onBool_some, -onBool_leT, -onBool_leF, -onBool_ltT, -onBool_ltF, -onBool_eqT, -onBool_eqF, k_spec_l1Numbers]
  refine onCall_eq (in_ok _ _ _) (by simp) ?_
  simp (disch := omega) [-onBool_some, -onBool_leT, -onBool_leF, -onBool_ltT, -onBool_ltF, -onBool_eqT, -onBool_eqF, hwi, i64_wrap]
  refine wpC_forM (n + 2) 0 (fun a t h => t 7 = N a ∧ h = [some [N 0, .sl true true 1 [], .sl true true 1 [], .sl true true 1 []], some [N (n + 2), OI (tabL (nPl n) (n + 2) a 0), OI (tabL (nTm n) (n + 2) a 0), OBl (tabL (nBl n bound) (n + 2) a 0)]])
    (fun t h => h = [some [N 0, .sl true true 1 [], .sl true true 1 [], .sl true true 1 []], some [N (n + 2), OI (tabL (nPl n) (n + 2) (n + 2) 0), OI (tabL (nTm n) (n + 2) (n + 2) 0), OBl (tabL (nBl n bound) (n + 2) (n + 2) 0)]]) (by simp [tabL_zero]) (by omega) ?_ ?_
  · rintro a t1 hh hf ha ⟨e7, rfl⟩
    (have e0 := hf 0 (by kernel_rfl); have e1 := hf 1 (by kernel_rfl); have e4 := hf 4 (by kernel_rfl); have e5 := hf 5 (by kernel_rfl); have e6 := hf 6 (by kernel_rfl); clear hf; simp [] at e0 e1 e4 e5 e6)
    simp (disch := omega) [-onBool_some, -onBool_leT, -onBool_leF, -onBool_ltT, -onBool_ltF, -onBool_eqT, -onBool_eqF, e0, e1, e5, e6, e7]
    (with_reducible first | refine onBoolT (fun h2 => ?_) (fun h2 => ?_) | refine onBoolF (fun h2 => ?_) (fun h2 => ?_))
    · simp only [ltB_true, ltB_false, leB_true, leB_false, eqB_true, eqB_false, Bool.not_true, Bool.not_false] at h2
      simp (disch := omega) [-onBool_some, -onBool_leT, -onBool_leF, -onBool_ltT, -onBool_ltF, -onBool_eqT, -onBool_eqF, e0, e1, e5, e6, e7]
      refine wpC_forM (n + 2) 0 (fun b t h => t 8 = N b ∧ h = [some [N 0, .sl true true 1 [], .sl true true 1 [], .sl true true 1 []], some [N (n + 2), OI (tabL (nPl n) (n + 2) a b), OI (tabL (nTm n) (n + 2) a b), OBl (tabL (nBl n bound) (n + 2) a b)]])
        (fun t h => h = [some [N 0, .sl true true 1 [], .sl true true 1 [], .sl true true 1 []], some [N (n + 2), OI (tabL (nPl n) (n + 2) a (n + 2)), OI (tabL (nTm n) (n + 2) a (n + 2)), OBl (tabL (nBl n bound) (n + 2) a (n + 2))]]) (by simp) (by omega) ?_ ?_
      · rintro b t2 hh hf hb' ⟨f8, rfl⟩
        (have f0 := hf 0 (by kernel_rfl); have f1 := hf 1 (by kernel_rfl); have f4 := hf 4 (by kernel_rfl); have f5 := hf 5 (by kernel_rfl); have f6 := hf 6 (by kernel_rfl); have f7 := hf 7 (by kernel_rfl); clear hf; simp [e0, e1, e4, e5, e6, e7] at f0 f1 f4 f5 f6 f7)
        simp (disch := omega) [-onBool_some, -onBool_leT, -onBool_leF, -onBool_ltT, -onBool_ltF, -onBool_eqT, -onBool_eqF, f0, f1, f5, f6, f7, f8]
        (with_reducible first | refine onBoolT (fun h3 => ?_) (fun h3 => ?_) | refine onBoolF (fun h3 => ?_) (fun h3 => ?_))
        · simp only [ltB_true, ltB_false, leB_true, leB_false, eqB_true, eqB_false, Bool.not_true, Bool.not_false] at h3
          have hm := mul_small hn (a := a) (b := b) (by omega) (by omega)
          have hsm := tab_small (size := n + 2) (by omega) (a := a) (b := b) (by omega) (by omega)
          have a1 := app_I (x := nPl n a b) (l := tabL (nPl n) (n + 2) a b) (by rw [tabL_len]; exact hsm)
          have a2 := app_I (x := nTm n a b) (l := tabL (nTm n) (n + 2) a b) (by rw [tabL_len]; exact hsm)
          have a3 := fun x => app_B (x := x) (l := tabL (nBl n bound) (n + 2) a b) (by rw [tabL_len]; exact hsm)
          rw [← tabL_step] at a1 a2
          have m1 := l1Min_ok ((a : Int) + b) (n + 1)
          have m2 := l1Min_ok ((a : Int) * b) (n + 1)
          rw [show min ((a : Int) + b) (n + 1) = nPl n a b from rfl] at m1
          rw [show min ((a : Int) * b) (n + 1) = nTm n a b from rfl] at m2
          have hst : ∀ x, x = nBl n bound a b → tabL (nBl n bound) (n + 2) a b ++ [x] = tabL (nBl n bound) (n + 2) a (b + 1) := by rintro x rfl; rw [tabL_step]
          clear e0 e1 e4 e5 e6 e7 hst
          cases bound <;> (simp (disch := omega) [-onBool_some, -onBool_leT, -onBool_leF, -onBool_ltT, -onBool_ltF, -onBool_eqT, -onBool_eqF, f0, f1, f5, f6, f7, f8, i64_wrap]
                           repeat' (first
    | with_reducible refine onCall_eq (m1) (by simp) ?_
    | with_reducible refine onCall_eq (m2) (by simp) ?_
    | (with_reducible (first | refine onBoolT (fun hb_ => ?_) (fun hb_ => ?_) | refine onBoolF (fun hb_ => ?_) (fun hb_ => ?_)) <;> simp (disch := omega) [-onBool_some, -onBool_leT, -onBool_leF, -onBool_ltT, -onBool_ltF, -onBool_eqT, -onBool_eqF, hb_, f0, f1, f5, f6, f7, f8, i64_wrap, a1, a2, a3])
    | simp (disch := omega) [-onBool_some, -onBool_leT, -onBool_leF, -onBool_ltT, -onBool_ltF, -onBool_eqT, -onBool_eqF, f0, f1, f5, f6, f7, f8, i64_wrap, a1, a2, a3]))
          all_goals clear f0 f1 f4 f5 f6 f7 f8 m1 m2 a1 a2 a3
          all_goals refine ⟨by omega, ?_⟩
          all_goals rw [tabL_step]
          all_goals simp_all [nBl]
        · simp only [ltB_true, ltB_false, leB_true, leB_false, eqB_true, eqB_false, Bool.not_true, Bool.not_false] at h3
          simp (disch := omega) [-onBool_some, -onBool_leT, -onBool_leF, -onBool_ltT, -onBool_ltF, -onBool_eqT, -onBool_eqF]
          rw [show b = n + 2 by omega]; simp
      · rintro t2 hh hf rfl
        (have f7 := hf 7 (by kernel_rfl); clear hf; simp [e7] at f7)
        simp (disch := omega) [-onBool_some, -onBool_leT, -onBool_leF, -onBool_ltT, -onBool_ltF, -onBool_eqT, -onBool_eqF, f7, tabL_row]
        exact ⟨by omega, i64_wrap (by omega)⟩
    · simp only [ltB_true, ltB_false, leB_true, leB_false, eqB_true, eqB_false, Bool.not_true, Bool.not_false] at h2
      simp (disch := omega) [-onBool_some, -onBool_leT, -onBool_leF, -onBool_ltT, -onBool_ltF, -onBool_eqT, -onBool_eqF]
      rw [show a = n + 2 by omega]; simp
  · rintro t1 hh hf rfl
    (have e4 := hf 4 (by kernel_rfl); have e5 := hf 5 (by kernel_rfl); clear hf; simp [] at e4 e5)
    simp (disch := omega) [-onBool_some, -onBool_leT, -onBool_leF, -onBool_ltT, -onBool_ltF, -onBool_eqT, -onBool_eqF, e4, e5]
end Go.Proofs.Yticcekapikfhaaa
