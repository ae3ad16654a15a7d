/- Weights, copies and comparisons of lists, as the laws make them. No conditions. -/
import Derived.Test.YticcekapikfhaaaGa
namespace Go.Proofs.Yticcekapikfhaaa
open Go Go.TL
set_option linter.unusedSimpArgs false
set_option linter.unusedVariables false
set_option maxRecDepth 20000
set_option maxHeartbeats 4000000

/-- what is left of left when sz are taken; -1 where there are not so many -/
def leftI (sz : Nat) (left : Int) : Int := if (sz : Int) ≤ left then left - sz else -1
theorem leftI_add {a b : Nat} {m : Int} (h : 0 ≤ m) : leftI (a + b) m = leftI b (leftI a m) := by
  unfold leftI; repeat' split
  all_goals omega
theorem leftI_range {a : Nat} {m : Int} (h : 0 ≤ m) : -1 ≤ leftI a m ∧ leftI a m ≤ m := by
  unfold leftI; split <;> omega
theorem leftI_neg {a : Nat} {m : Int} (h : m < 0) : leftI a m = -1 := by
  unfold leftI; split <;> omega
theorem leftI_zero {m : Int} (h : 0 ≤ m) : leftI 0 m = m := by
  unfold leftI; split <;> omega

/-- a slice that is filled: the first i are done -/
def fill {α : Type} (e : α → List LV) (z : List LV) (l : List α) (i : Nat) : List LV := ((l.take i).map e).flatten ++ (List.replicate (l.length - i) z).flatten
section
variable {α : Type} {e : α → List LV} {z : List LV} {l : List α} {sz : Nat} (he : ∀ x, (e x).length = sz) (hz : z.length = sz)
include he
theorem flat_len (k : List α) : ((k.map e).flatten).length = k.length * sz := by
  induction k with
  | nil => simp
  | cons x k ih => simp [ih, he, Nat.add_mul, Nat.add_comm]
include hz
theorem fill_len {i : Nat} (h : i ≤ l.length) : (fill e z l i).length = l.length * sz := by
  simp only [fill, List.length_append, flat_len he, List.length_take, Nat.min_eq_left h]
  rw [List.length_flatten]
  simp only [List.map_replicate, hz, List.sum_replicate_nat]
  rw [← Nat.add_mul]; congr 1; omega
theorem fill_step {i : Nat} (h : i < l.length) : splice (fill e z l i) (i * sz) (e l[i]) = fill e z l (i + 1) := by
  have h1 : (((l.take i).map e).flatten).length = i * sz := by rw [flat_len he]; simp [Nat.min_eq_left (Nat.le_of_lt h)]
  have h2 : l.length - i = (l.length - (i + 1)) + 1 := by omega
  unfold splice
  rw [fill, h2, List.replicate_succ, List.flatten_cons, fill, List.take_append_of_le_length (by omega), List.take_of_length_le (by omega), List.take_succ_eq_append_getElem h, List.map_append, List.flatten_append]
  simp only [List.map_cons, List.map_nil, List.flatten_cons, List.flatten_nil, List.append_nil]
  congr 1
  rw [List.drop_append, List.drop_of_length_le (by omega), he, h1, List.nil_append, List.drop_append, List.drop_of_length_le (by omega)]
  simp [hz]
end
theorem fill_end {α : Type} {e : α → List LV} {z : List LV} {l : List α} : fill e z l l.length = (l.map e).flatten := by simp [fill]
theorem fill_zero {α : Type} {e : α → List LV} {z : List LV} {l : List α} : fill e z l 0 = (List.replicate l.length z).flatten := by simp [fill]

theorem frz_fill {α : Type} {e : α → List LV} {sz : Nat} (he : ∀ x, (e x).length = sz) (l : List α) : frzLV [some (l.map e).flatten] (.ha 0 sz 0 l.length l.length) = some (.sl true false sz (l.map e), [none]) := by
  have := frz_ha (h := [some (l.map e).flatten]) (l := 0) (sz := sz) (n := l.length) rfl (flat_len he l)
  rw [chunks_flat e sz l (fun x _ => he x)] at this
  simpa using this
theorem toIntS_ok (nl : Bool) (l : List Int) (hl : l.length ≤ 1099511627776) : Gives Try.prog n_laws_toIntS [L nl l] (· = OU true false l) := by
  refine Gives.of_codeOf c_laws_toIntS mixed (by simp) ⟨_, rfl, by simp⟩ ?_
  have hm : (l.length : Int) ≤ (most : Nat) := by unfold most; omega
  have he : ∀ x : Int, ([N x] : List LV).length = 1 := by simp
  simp (disch := omega) [-onBool_some, -onBool_leT, -onBool_leF, -onBool_ltT, -onBool_ltF, -onBool_eqT, -onBool_eqF, k_laws_toIntS, hm]
  refine wpC_for l.length 0 (fun i t h => t 4 = N i ∧ h = [some (fill (fun x => [N x]) [N 0] l i)]) (by simp [fill_zero]) (by omega) ?_
  rintro i t1 hh hf hi ⟨e4, rfl⟩
  (have e0 := hf 0 (by kernel_rfl); have e3 := hf 3 (by kernel_rfl); clear hf; simp [] at e0 e3)
  simp (disch := omega) [-onBool_some, -onBool_leT, -onBool_leF, -onBool_ltT, -onBool_ltF, -onBool_eqT, -onBool_eqF, e0, e3, e4]
  (with_reducible first | refine onBoolT (fun h6 => ?_) (fun h6 => ?_) | refine onBoolF (fun h6 => ?_) (fun h6 => ?_))
  · simp only [ltB_true, ltB_false, leB_true, leB_false, eqB_true, eqB_false, Bool.not_true, Bool.not_false] at h6
    have hlen := fill_len (z := [N 0]) (l := l) he rfl hi
    have hst := fill_step (z := [N 0]) (l := l) he rfl (i := i) (by omega)
    simp (disch := omega) [-onBool_some, -onBool_leT, -onBool_leF, -onBool_ltT, -onBool_ltF, -onBool_eqT, -onBool_eqF, e0, e3, e4, idx_L, idx_ha, i64_wrap, hlen, hst]
    exact ⟨by omega, by omega, by simpa [splice] using hst⟩
  · simp only [ltB_true, ltB_false, leB_true, leB_false, eqB_true, eqB_false, Bool.not_true, Bool.not_false] at h6
    rw [show i = l.length by omega, fill_end]
    simp (disch := omega) [-onBool_some, -onBool_leT, -onBool_leF, -onBool_ltT, -onBool_ltF, -onBool_eqT, -onBool_eqF, e0, e3, e4]
    rw [frz_fill he]
    simp
/-! lists of lists -/
abbrev GCtx := List (Bool × List Int)
abbrev eC (c : Bool × List Int) : LV := L c.1 c.2
abbrev LC (nl : Bool) (ctx : GCtx) : LV := .sl false nl 1 (ctx.map fun c => [eC c])
theorem idx_C (ctx : GCtx) (nl : Bool) (i : Nat) (h : i < ctx.length) : idxLV 1 (LC nl ctx) (i : Int) = some (.rp [eC (ctx[i]'h)]) := by
  have := idx_at eC (by simp) ctx false nl i (by omega) (by omega)
  rw [this]
  simp
def GCtx.raw (ctx : GCtx) : Prop := ctx.length ≤ 9223372036854775807 ∧ ∀ c ∈ ctx, c.2.length ≤ 9223372036854775807 ∧ ∀ n ∈ c.2, I64 n
def GCtx.wf (ctx : GCtx) : Prop := ctx.length ≤ 1099511627776 ∧ ∀ c ∈ ctx, Lok c.2
/-- nil or not: copies are not -/
def GCtx.norm (ctx : GCtx) : GCtx := ctx.map fun c => (false, c.2)
/-- a copy, owned -/
abbrev GCtx.own (ctx : GCtx) : LV := .sl true false 1 (ctx.map fun c => [OU true false c.2])
theorem share_own (ctx : GCtx) : share ctx.own = LC false ctx.norm := by
  simp [GCtx.own, GCtx.norm]
theorem low_own (k : Nat) (ctx : GCtx) : Low k ctx.own := by simp [GCtx.own]
def cws : GCtx → Nat
  | [] => 0
  | c :: cs => c.2.length + cws cs
theorem cws_drop {ctx : GCtx} {i : Nat} (h : i < ctx.length) : cws (ctx.drop i) = ctx[i].2.length + cws (ctx.drop (i + 1)) := by
  rw [List.drop_eq_getElem_cons h, cws]
theorem cws_mem : ∀ {ctx : GCtx} {c : Bool × List Int}, c ∈ ctx → c.2.length ≤ cws ctx
  | d :: ctx, c, h => by
    simp only [List.mem_cons] at h
    simp only [cws]
    rcases h with rfl | h
    · omega
    · have := cws_mem h; omega
theorem eqIntS_ok (n1 n2 : Bool) (a b : List Int) (ha : a.length ≤ 1099511627776) : Gives Try.prog n_laws_eqIntS [L n1 a, L n2 b] (· = B (a == b)) := by
  generalize hq : (a == b) = q
  refine Gives.of_codeOf c_laws_eqIntS mixed (by simp) ⟨_, rfl, by simp⟩ ?_
  simp (disch := omega) [-onBool_some, -onBool_leT, -onBool_leF, -onBool_ltT, -onBool_ltF, -onBool_eqT, -onBool_eqF, k_laws_eqIntS]
  (with_reducible first | refine onBoolT (fun h1 => ?_) (fun h1 => ?_) | refine onBoolF (fun h1 => ?_) (fun h1 => ?_))
  · simp (disch := omega) [-onBool_some, -onBool_leT, -onBool_leF, -onBool_ltT, -onBool_ltF, -onBool_eqT, -onBool_eqF, h1]
    simp only [ltB_true, ltB_false, leB_true, leB_false, eqB_true, eqB_false, Bool.not_true, Bool.not_false] at h1
    refine wpC_for a.length 0 (fun i t _ => t 5 = N i ∧ q = (a.drop i == b.drop i)) (by simp [hq]) (by omega) ?_
    rintro i t1 hh hf hi ⟨e5, hj⟩
    (have e0 := hf 0 (by kernel_rfl); have e1 := hf 1 (by kernel_rfl); clear hf; simp [] at e0 e1)
    simp (disch := omega) [-onBool_some, -onBool_leT, -onBool_leF, -onBool_ltT, -onBool_ltF, -onBool_eqT, -onBool_eqF, e0, e1, e5]
    (with_reducible first | refine onBoolT (fun h6 => ?_) (fun h6 => ?_) | refine onBoolF (fun h6 => ?_) (fun h6 => ?_))
    · simp only [ltB_true, ltB_false, leB_true, leB_false, eqB_true, eqB_false, Bool.not_true, Bool.not_false] at h6
      have hd1 := List.drop_eq_getElem_cons (l := a) (i := i) (by omega)
      have hd2 := List.drop_eq_getElem_cons (l := b) (i := i) (by omega)
      have hq2 : q = (a[i]'(by omega) == b[i]'(by omega) && (a.drop (i + 1) == b.drop (i + 1))) := by rw [hj, hd1, hd2]; rfl
      clear hd1 hd2 hj
      simp (disch := omega) [-onBool_some, -onBool_leT, -onBool_leF, -onBool_ltT, -onBool_ltF, -onBool_eqT, -onBool_eqF, e0, e1, e5, idx_L]
      repeat' (first
    | (with_reducible (first | refine onBoolT (fun hb_ => ?_) (fun hb_ => ?_) | refine onBoolF (fun hb_ => ?_) (fun hb_ => ?_)) <;> simp (disch := omega) [-onBool_some, -onBool_leT, -onBool_leF, -onBool_ltT, -onBool_ltF, -onBool_eqT, -onBool_eqF, hb_, e0, e1, e5, i64_wrap])
    | simp (disch := omega) [-onBool_some, -onBool_leT, -onBool_leF, -onBool_ltT, -onBool_ltF, -onBool_eqT, -onBool_eqF, e0, e1, e5, i64_wrap])
      all_goals simp only [ltB_true, ltB_false, leB_true, leB_false, eqB_true, eqB_false, Bool.not_true, Bool.not_false] at hb_
      · exact ⟨by omega, by simp [hq2, hb_]⟩
      · simp [hq2, hb_]
    · simp only [ltB_true, ltB_false, leB_true, leB_false, eqB_true, eqB_false, Bool.not_true, Bool.not_false] at h6
      simp (disch := omega) [-onBool_some, -onBool_leT, -onBool_leF, -onBool_ltT, -onBool_ltF, -onBool_eqT, -onBool_eqF]
      rw [hj, List.drop_of_length_le (by omega), List.drop_of_length_le (by omega)]; simp
  · simp (disch := omega) [-onBool_some, -onBool_leT, -onBool_leF, -onBool_ltT, -onBool_ltF, -onBool_eqT, -onBool_eqF, h1]
    simp only [ltB_true, ltB_false, leB_true, leB_false, eqB_true, eqB_false, Bool.not_true, Bool.not_false] at h1
    rw [← hq]; simp; intro h; exact h1 (by rw [h])
theorem eqBoolS_ok (n1 n2 : Bool) (a b : List Bool) (ha : a.length ≤ 1099511627776) : Gives Try.prog n_laws_eqBoolS [LB n1 a, LB n2 b] (· = B (a == b)) := by
  generalize hq : (a == b) = q
  refine Gives.of_codeOf c_laws_eqBoolS mixed (by simp) ⟨_, rfl, by simp⟩ ?_
  simp (disch := omega) [-onBool_some, -onBool_leT, -onBool_leF, -onBool_ltT, -onBool_ltF, -onBool_eqT, -onBool_eqF, k_laws_eqBoolS]
  (with_reducible first | refine onBoolT (fun h1 => ?_) (fun h1 => ?_) | refine onBoolF (fun h1 => ?_) (fun h1 => ?_))
  · simp (disch := omega) [-onBool_some, -onBool_leT, -onBool_leF, -onBool_ltT, -onBool_ltF, -onBool_eqT, -onBool_eqF, h1]
    simp only [ltB_true, ltB_false, leB_true, leB_false, eqB_true, eqB_false, Bool.not_true, Bool.not_false] at h1
    refine wpC_for a.length 0 (fun i t _ => t 5 = N i ∧ q = (a.drop i == b.drop i)) (by simp [hq]) (by omega) ?_
    rintro i t1 hh hf hi ⟨e5, hj⟩
    (have e0 := hf 0 (by kernel_rfl); have e1 := hf 1 (by kernel_rfl); clear hf; simp [] at e0 e1)
    simp (disch := omega) [-onBool_some, -onBool_leT, -onBool_leF, -onBool_ltT, -onBool_ltF, -onBool_eqT, -onBool_eqF, e0, e1, e5]
    (with_reducible first | refine onBoolT (fun h6 => ?_) (fun h6 => ?_) | refine onBoolF (fun h6 => ?_) (fun h6 => ?_))
    · simp only [ltB_true, ltB_false, leB_true, leB_false, eqB_true, eqB_false, Bool.not_true, Bool.not_false] at h6
      have hd1 := List.drop_eq_getElem_cons (l := a) (i := i) (by omega)
      have hd2 := List.drop_eq_getElem_cons (l := b) (i := i) (by omega)
      have hq2 : q = (a[i]'(by omega) == b[i]'(by omega) && (a.drop (i + 1) == b.drop (i + 1))) := by rw [hj, hd1, hd2]; rfl
      clear hd1 hd2 hj
      simp (disch := omega) [-onBool_some, -onBool_leT, -onBool_leF, -onBool_ltT, -onBool_ltF, -onBool_eqT, -onBool_eqF, e0, e1, e5, idx_LB]
      repeat' (first
    | (with_reducible (first | refine onBoolT (fun hb_ => ?_) (fun hb_ => ?_) | refine onBoolF (fun hb_ => ?_) (fun hb_ => ?_)) <;> simp (disch := omega) [-onBool_some, -onBool_leT, -onBool_leF, -onBool_ltT, -onBool_ltF, -onBool_eqT, -onBool_eqF, hb_, e0, e1, e5, i64_wrap])
    | simp (disch := omega) [-onBool_some, -onBool_leT, -onBool_leF, -onBool_ltT, -onBool_ltF, -onBool_eqT, -onBool_eqF, e0, e1, e5, i64_wrap])
      · exact ⟨by omega, by rw [hq2, hb_, Bool.true_and]⟩
      · rw [hq2, hb_, Bool.false_and]
    · simp only [ltB_true, ltB_false, leB_true, leB_false, eqB_true, eqB_false, Bool.not_true, Bool.not_false] at h6
      simp (disch := omega) [-onBool_some, -onBool_leT, -onBool_leF, -onBool_ltT, -onBool_ltF, -onBool_eqT, -onBool_eqF]
      rw [hj, List.drop_of_length_le (by omega), List.drop_of_length_le (by omega)]; simp
  · simp (disch := omega) [-onBool_some, -onBool_leT, -onBool_leF, -onBool_ltT, -onBool_ltF, -onBool_eqT, -onBool_eqF, h1]
    simp only [ltB_true, ltB_false, leB_true, leB_false, eqB_true, eqB_false, Bool.not_true, Bool.not_false] at h1
    rw [← hq]; simp; intro h; exact h1 (by rw [h])
/-- alike but for nil -/
def sameC : GCtx → GCtx → Bool
  | [], [] => true
  | a :: a', b :: b' => (a.2 == b.2) && sameC a' b'
  | _, _ => false
theorem sameC_len : ∀ {a b : GCtx}, a.length ≠ b.length → sameC a b = false
  | [], [], h => by simp at h
  | [], _ :: _, _ => rfl
  | _ :: _, [], _ => rfl
  | a :: a', b :: b', h => by simp only [sameC, sameC_len (a := a') (b := b') (by simpa using h), Bool.and_false]
theorem sameC_refl : ∀ a : GCtx, sameC a a = true
  | [] => rfl
  | a :: a' => by simp [sameC, sameC_refl a']
theorem sameC_norm : ∀ a : GCtx, sameC a.norm a.norm = true := fun a => sameC_refl _
theorem eqIntSS_ok (n1 n2 : Bool) (a b : GCtx) (ha : a.wf) : Gives Try.prog n_laws_eqIntSS [LC n1 a, LC n2 b] (· = B (sameC a b)) := by
  have hla := ha.1
  refine Gives.of_codeOf c_laws_eqIntSS mixed (by simp) ⟨_, rfl, by simp⟩ ?_
  simp (disch := omega) [-onBool_some, -onBool_leT, -onBool_leF, -onBool_ltT, -onBool_ltF, -onBool_eqT, -onBool_eqF, k_laws_eqIntSS]
  (with_reducible first | refine onBoolT (fun h1 => ?_) (fun h1 => ?_) | refine onBoolF (fun h1 => ?_) (fun h1 => ?_))
  · simp (disch := omega) [-onBool_some, -onBool_leT, -onBool_leF, -onBool_ltT, -onBool_ltF, -onBool_eqT, -onBool_eqF, h1]
    simp only [ltB_true, ltB_false, leB_true, leB_false, eqB_true, eqB_false, Bool.not_true, Bool.not_false] at h1
    refine wpC_for a.length 0 (fun i t _ => t 5 = N i ∧ sameC a b = sameC (a.drop i) (b.drop i)) (by simp) (by omega) ?_
    rintro i t1 hh hf hi ⟨e5, hj⟩
    (have e0 := hf 0 (by kernel_rfl); have e1 := hf 1 (by kernel_rfl); clear hf; simp [] at e0 e1)
    simp (disch := omega) [-onBool_some, -onBool_leT, -onBool_leF, -onBool_ltT, -onBool_ltF, -onBool_eqT, -onBool_eqF, e0, e1, e5]
    (with_reducible first | refine onBoolT (fun h6 => ?_) (fun h6 => ?_) | refine onBoolF (fun h6 => ?_) (fun h6 => ?_))
    · simp only [ltB_true, ltB_false, leB_true, leB_false, eqB_true, eqB_false, Bool.not_true, Bool.not_false] at h6
      have hd1 := List.drop_eq_getElem_cons (l := a) (i := i) (by omega)
      have hd2 := List.drop_eq_getElem_cons (l := b) (i := i) (by omega)
      have hq2 : sameC a b = ((a[i]'(by omega)).2 == (b[i]'(by omega)).2 && sameC (a.drop (i + 1)) (b.drop (i + 1))) := by rw [hj, hd1, hd2]; rfl
      clear hd1 hd2 hj
      have hL := ha.2 (a[i]'(by omega)) (List.getElem_mem _)
      have hc := eqIntS_ok (a[i]'(by omega)).1 (b[i]'(by omega)).1 (a[i]'(by omega)).2 (b[i]'(by omega)).2 hL.1
      simp (disch := omega) [-onBool_some, -onBool_leT, -onBool_leF, -onBool_ltT, -onBool_ltF, -onBool_eqT, -onBool_eqF, e0, e1, e5, idx_C]
      generalize ((a[i]'(by omega)).2 == (b[i]'(by omega)).2) = q1 at *
      repeat' (first
    | with_reducible refine onCall_eq (hc) (by simp) ?_
    | (with_reducible (first | refine onBoolT (fun hb_ => ?_) (fun hb_ => ?_) | refine onBoolF (fun hb_ => ?_) (fun hb_ => ?_)) <;> simp (disch := omega) [-onBool_some, -onBool_leT, -onBool_leF, -onBool_ltT, -onBool_ltF, -onBool_eqT, -onBool_eqF, hb_, e0, e1, e5, idx_C, i64_wrap])
    | simp (disch := omega) [-onBool_some, -onBool_leT, -onBool_leF, -onBool_ltT, -onBool_ltF, -onBool_eqT, -onBool_eqF, e0, e1, e5, idx_C, i64_wrap])
      · exact ⟨by omega, by rw [hq2, hb_, Bool.true_and]⟩
      · rw [hq2, hb_, Bool.false_and]
    · simp only [ltB_true, ltB_false, leB_true, leB_false, eqB_true, eqB_false, Bool.not_true, Bool.not_false] at h6
      simp (disch := omega) [-onBool_some, -onBool_leT, -onBool_leF, -onBool_ltT, -onBool_ltF, -onBool_eqT, -onBool_eqF]
      rw [hj, List.drop_of_length_le (by omega), List.drop_of_length_le (by omega)]; rfl
  · simp (disch := omega) [-onBool_some, -onBool_leT, -onBool_leF, -onBool_ltT, -onBool_ltF, -onBool_eqT, -onBool_eqF, h1]
    simp only [ltB_true, ltB_false, leB_true, leB_false, eqB_true, eqB_false, Bool.not_true, Bool.not_false] at h1
    exact sameC_len (by omega)
end Go.Proofs.Yticcekapikfhaaa
