/- Systems of grades as trees, and the functions that read their tables. No conditions. -/
import Derived.Test.YticcekapikfhaaaFa
namespace Go.Proofs.Yticcekapikfhaaa
open Go Go.TL
set_option linter.unusedSimpArgs false
set_option linter.unusedVariables false
set_option maxRecDepth 20000
set_option maxHeartbeats 4000000

def I64 (n : Int) : Prop := -9223372036854775808 ≤ n ∧ n ≤ 9223372036854775807
def within (a lo hi : Int) : Bool := leB lo a && leB a hi
theorem within_true {a lo hi : Int} : within a lo hi = true ↔ lo ≤ a ∧ a ≤ hi := by simp [within, leB]
theorem within_false {a lo hi : Int} : within a lo hi = false ↔ ¬ (lo ≤ a ∧ a ≤ hi) := by rw [← within_true]; simp
theorem ltB_not {a b : Int} : ltB a b = !leB b a := by
  cases h : leB b a <;> simp [ltB_true, ltB_false, leB_true, leB_false, eqB_true, eqB_false, Bool.not_true, Bool.not_false, leB_true, leB_false] at h ⊢ <;> omega
abbrev OU (u nl : Bool) (l : List Int) : LV := .sl u nl 1 (l.map fun n => [N n])
abbrev L (nl : Bool) (l : List Int) : LV := OU false nl l
abbrev OB (u nl : Bool) (l : List Bool) : LV := .sl u nl 1 (l.map fun b => [B b])
abbrev LB (nl : Bool) (l : List Bool) : LV := OB false nl l
theorem idx_at {α : Type} (e : α → LV) (he : ∀ a, share (e a) = e a) (l : List α) (u nl : Bool) (i : Int) (h0 : 0 ≤ i) (h1 : i < l.length) : idxLV 1 (.sl u nl 1 (l.map fun a => [e a])) i = some (.rp [e (l[i.toNat]'(by omega))]) := by
  simp only [idxLV]
  rw [if_pos ⟨trivial, h0, by simpa using h1⟩]
  have : (l.map fun a => [e a]).getD i.toNat [] = [e (l[i.toNat]'(by omega))] := by
    simp [List.getD_eq_getElem?_getD, show i.toNat < l.length by omega]
  rw [this]
  simp [he]
theorem idx_L (l : List Int) (u nl : Bool) (i : Int) (h0 : 0 ≤ i) (h1 : i < l.length) : idxLV 1 (OU u nl l) i = some (.rp [N (l.getD i.toNat 0)]) := by
  have := idx_at N (by simp) l u nl i h0 h1
  rw [this, List.getD_eq_getElem?_getD, List.getElem?_eq_getElem (show i.toNat < l.length by omega)]
  rfl
theorem idx_LB (l : List Bool) (u nl : Bool) (i : Int) (h0 : 0 ≤ i) (h1 : i < l.length) : idxLV 1 (OB u nl l) i = some (.rp [B (l.getD i.toNat false)]) := by
  have := idx_at B (by simp) l u nl i h0 h1
  rw [this, List.getD_eq_getElem?_getD, List.getElem?_eq_getElem (show i.toNat < l.length by omega)]
  rfl

/-- what a list of numbers must be for the length to count -/
def Lok (l : List Int) : Prop := l.length ≤ 1099511627776 ∧ ∀ n ∈ l, I64 n
theorem Lok.at {l : List Int} (h : Lok l) {i : Nat} (hi : i < l.length) : I64 l[i] := h.2 _ (List.getElem_mem _)

structure GSys where
  size : Int
  n1 : Bool
  plus : List Int
  n2 : Bool
  times : List Int
  n3 : Bool
  below : List Bool
abbrev GSys.cells (s : GSys) : List LV := [N s.size, L s.n1 s.plus, L s.n2 s.times, LB s.n3 s.below]
abbrev GSys.lv (s : GSys) : LV := .agg s.cells
/-- what is asked of what a program can hold -/
def GSys.wf (s : GSys) : Prop := I64 s.size ∧ s.plus.length ≤ 1099511627776 ∧ s.times.length ≤ 1099511627776 ∧ s.below.length ≤ 1099511627776 ∧ (∀ n ∈ s.plus, I64 n) ∧ ∀ n ∈ s.times, I64 n
def GSys.pl (s : GSys) (a b : Int) : Int := s.plus.getD (a * s.size + b).toNat 0
def GSys.tm (s : GSys) (a b : Int) : Int := s.times.getD (a * s.size + b).toNat 0
def GSys.le (s : GSys) (a b : Int) : Bool := s.below.getD (a * s.size + b).toNat false
/-- the tables have their form -/
structure GSys.Tab (s : GSys) : Prop where
  lo : 2 ≤ s.size
  hi : s.size ≤ 16
  lp : (s.plus.length : Int) = s.size * s.size
  lt : (s.times.length : Int) = s.size * s.size
  lb : (s.below.length : Int) = s.size * s.size
  rp : ∀ i, 0 ≤ s.plus.getD i 0 ∧ s.plus.getD i 0 < s.size
  rt : ∀ i, 0 ≤ s.times.getD i 0 ∧ s.times.getD i 0 < s.size
/-- a number of a grade -/
def GSys.G (s : GSys) (a : Int) : Prop := 0 ≤ a ∧ a < s.size
theorem GSys.at {s : GSys} (t : s.Tab) {a b : Int} (ha : s.G a) (hb : s.G b) : 0 ≤ a * s.size + b ∧ a * s.size + b < s.size * s.size ∧ 0 ≤ a * s.size ∧ a * s.size ≤ 256 := by
  have h1 : 0 ≤ a * s.size := Int.mul_nonneg ha.1 (by have := t.lo; omega)
  have h2 : (a + 1) * s.size ≤ s.size * s.size := Int.mul_le_mul_of_nonneg_right (by have := ha.2; omega) (by have := t.lo; omega)
  have h3 : (a + 1) * s.size = a * s.size + s.size := by rw [Int.add_mul]; omega
  have h4 : s.size * s.size ≤ 16 * 16 := Int.mul_le_mul t.hi t.hi (by have := t.lo; omega) (by omega)
  have := hb.1; have := hb.2
  refine ⟨by omega, by omega, h1, ?_⟩
  omega
theorem GSys.Gpl {s : GSys} (t : s.Tab) (a b : Int) : s.G (s.pl a b) := t.rp _
theorem GSys.Gtm {s : GSys} (t : s.Tab) (a b : Int) : s.G (s.tm a b) := t.rt _
theorem GSys.Glt {s : GSys} {i : Nat} (h : ltB (i : Int) s.size = true) : s.G i := ⟨by omega, by rw [ltB_true] at h; omega⟩
theorem GSys.G0 {s : GSys} (t : s.Tab) : s.G 0 := ⟨by omega, by have := t.lo; omega⟩
theorem GSys.G1 {s : GSys} (t : s.Tab) : s.G 1 := ⟨by omega, by have := t.lo; omega⟩

section
variable {s : GSys} (t : s.Tab) {a b : Int} (ha : s.G a) (hb : s.G b)
include t ha hb
theorem l1Add_ok : Gives Try.prog n_spec_l1Add [s.lv, N a, N b] (· = N (s.pl a b)) := by
  refine Gives.of_codeOf c_spec_l1Add mixed (by simp) ⟨_, rfl, by simp⟩ ?_
  obtain ⟨h1, h2, h3, h4⟩ := GSys.at t ha hb
  have := t.lo; have := t.hi; have := ha.1; have := ha.2; have := hb.1; have := hb.2
  simp (contextual := true) (disch := omega) [k_spec_l1Add, boxLV, frzLV, i64_wrap]
  have := t.lp
  simp (contextual := true) (disch := omega) [idx_L, GSys.pl]
theorem l1Mul_ok : Gives Try.prog n_spec_l1Mul [s.lv, N a, N b] (· = N (s.tm a b)) := by
  refine Gives.of_codeOf c_spec_l1Mul mixed (by simp) ⟨_, rfl, by simp⟩ ?_
  obtain ⟨h1, h2, h3, h4⟩ := GSys.at t ha hb
  have := t.lo; have := t.hi; have := ha.1; have := ha.2; have := hb.1; have := hb.2
  simp (contextual := true) (disch := omega) [k_spec_l1Mul, boxLV, frzLV, i64_wrap]
  have := t.lt
  simp (contextual := true) (disch := omega) [idx_L, GSys.tm]
theorem l1Le_ok : Gives Try.prog n_spec_l1Le [s.lv, N a, N b] (· = B (s.le a b)) := by
  refine Gives.of_codeOf c_spec_l1Le mixed (by simp) ⟨_, rfl, by simp⟩ ?_
  obtain ⟨h1, h2, h3, h4⟩ := GSys.at t ha hb
  have := t.lo; have := t.hi; have := ha.1; have := ha.2; have := hb.1; have := hb.2
  simp (contextual := true) (disch := omega) [k_spec_l1Le, boxLV, frzLV, i64_wrap]
  have := t.lb
  simp (contextual := true) (disch := omega) [idx_LB, GSys.le]
end
theorem in_ok (a lo hi : Int) : Gives Try.prog n_spec_l1In [N a, N lo, N hi] (· = B (within a lo hi)) := by
  refine Gives.of_codeOf c_spec_l1In mixed (by simp) ⟨_, rfl, by simp⟩ ?_
  simp (contextual := true) (disch := omega) [k_spec_l1In, within]
theorem within_ok (a lo hi : Int) : Gives Try.prog n_impl_within [N a, N lo, N hi] (· = B (within a lo hi)) := by
  refine Gives.of_codeOf c_impl_within mixed (by simp) ⟨_, rfl, by simp⟩ ?_
  simp (contextual := true) (disch := omega) [k_impl_within, within]
/-! joins -/
/-- the first of the numbers below n of which p holds -/
def firstOf (p : Int → Bool) : Nat → Nat → Int
  | _, 0 => -1
  | g, n + 1 => if p g = true then g else firstOf p (g + 1) n
/-- p holds of all numbers below n -/
def allN (p : Nat → Bool) : Nat → Bool
  | 0 => true
  | n + 1 => allN p n && p n
@[simp] theorem allN_zero (p : Nat → Bool) : allN p 0 = true := rfl
theorem allN_succ (p : Nat → Bool) (n : Nat) : allN p (n + 1) = (allN p n && p n) := rfl
theorem allN_iff {p : Nat → Bool} : ∀ {n : Nat}, allN p n = true ↔ ∀ i, i < n → p i = true
  | 0 => by simp
  | n + 1 => by
    rw [allN_succ, Bool.and_eq_true, allN_iff]
    exact ⟨fun h i hi => by by_cases he : i = n; · exact he ▸ h.2
                            · exact h.1 i (by omega), fun h => ⟨fun i hi => h i (by omega), h n (by omega)⟩⟩
theorem allN_false {p : Nat → Bool} {i n : Nat} (h : i ≤ n) (hf : allN p i = false) : allN p n = false := by
  cases hc : allN p n with
  | false => rfl
  | true =>
    rw [allN_iff] at hc
    rw [allN_iff.2 fun j hj => hc j (by omega)] at hf
    simp at hf
theorem allN_at {p : Nat → Bool} {i n : Nat} (h : i < n) (hf : p i = false) : allN p n = false :=
  allN_false (i := i + 1) h (by rw [allN_succ, hf]; simp)
def GSys.jn (s : GSys) (a b g h : Int) : Bool := !s.le a h || !s.le b h || s.le g h
def GSys.isJoin (s : GSys) (a b g : Int) : Bool := s.le a g && s.le b g && allN (fun h => s.jn a b g h) s.size.toNat
def GSys.join (s : GSys) (a b : Int) : Int := firstOf (s.isJoin a b) 0 s.size.toNat

def GSys.three (s : GSys) (a b c : Int) : Bool :=
  eqB (s.pl (s.pl a b) c) (s.pl a (s.pl b c)) && eqB (s.tm (s.tm a b) c) (s.tm a (s.tm b c)) && eqB (s.tm a (s.pl b c)) (s.pl (s.tm a b) (s.tm a c)) && eqB (s.tm (s.pl a b) c) (s.pl (s.tm a c) (s.tm b c)) &&
    (!s.le a b || ((!s.le b c || s.le a c) && s.le (s.pl a c) (s.pl b c) && s.le (s.tm a c) (s.tm b c) && s.le (s.tm c a) (s.tm c b)))
section
variable {s : GSys} (t : s.Tab) {a b c : Int} (ha : s.G a) (hb : s.G b) (hc : s.G c)
include t ha hb hc
theorem l1Three_ok : Gives Try.prog n_spec_l1Three [s.lv, N a, N b, N c] (· = B (s.three a b c)) := by
  refine Gives.of_codeOf c_spec_l1Three mixed (by simp) ⟨_, rfl, by simp⟩ ?_
  simp (disch := omega) [-onBool_some, -onBool_leT, -onBool_leF, -onBool_ltT, -onBool_ltF, -onBool_eqT, -onBool_eqF, k_spec_l1Three, boxLV, frzLV]
  repeat' (first
    | with_reducible refine onCall_eq (l1Add_ok t (by first | assumption | exact GSys.Gpl t _ _ | exact GSys.Gtm t _ _ | exact GSys.Glt (by assumption) | exact GSys.G0 t | exact GSys.G1 t) (by first | assumption | exact GSys.Gpl t _ _ | exact GSys.Gtm t _ _ | exact GSys.Glt (by assumption) | exact GSys.G0 t | exact GSys.G1 t)) (by simp) ?_
    | with_reducible refine onCall_eq (l1Mul_ok t (by first | assumption | exact GSys.Gpl t _ _ | exact GSys.Gtm t _ _ | exact GSys.Glt (by assumption) | exact GSys.G0 t | exact GSys.G1 t) (by first | assumption | exact GSys.Gpl t _ _ | exact GSys.Gtm t _ _ | exact GSys.Glt (by assumption) | exact GSys.G0 t | exact GSys.G1 t)) (by simp) ?_
    | with_reducible refine onCall_eq (l1Le_ok t (by first | assumption | exact GSys.Gpl t _ _ | exact GSys.Gtm t _ _ | exact GSys.Glt (by assumption) | exact GSys.G0 t | exact GSys.G1 t) (by first | assumption | exact GSys.Gpl t _ _ | exact GSys.Gtm t _ _ | exact GSys.Glt (by assumption) | exact GSys.G0 t | exact GSys.G1 t)) (by simp) ?_
    | (with_reducible (first | refine onBoolT (fun hb_ => ?_) (fun hb_ => ?_) | refine onBoolF (fun hb_ => ?_) (fun hb_ => ?_)) <;> simp (disch := omega) [-onBool_some, -onBool_leT, -onBool_leF, -onBool_ltT, -onBool_ltF, -onBool_eqT, -onBool_eqF, hb_])
    | simp (disch := omega) [-onBool_some, -onBool_leT, -onBool_leF, -onBool_ltT, -onBool_ltF, -onBool_eqT, -onBool_eqF])
  all_goals simp_all [GSys.three]
end
end Go.Proofs.Yticcekapikfhaaa
