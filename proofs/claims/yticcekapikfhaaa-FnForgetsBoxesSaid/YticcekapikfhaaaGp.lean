/- Marks of lists that were thawed, and what holds them. No conditions. -/
import Derived.Test.YticcekapikfhaaaGi
namespace Go.Proofs.Yticcekapikfhaaa
open Go Go.TL
set_option linter.unusedSimpArgs false
set_option linter.unusedVariables false
set_option linter.unusedSectionVars false
set_option maxRecDepth 20000
set_option maxHeartbeats 4000000

/-- the marks from k on -/
def marksF {α : Type} (f : Int → α) (k : Int) : Nat → List α
  | 0 => []
  | n + 1 => f k :: marksF f (k + 1) n
@[simp] theorem marksF_length {α : Type} (f : Int → α) (k : Int) (n : Nat) : (marksF f k n).length = n := by
  induction n generalizing k with
  | zero => rfl
  | succ n ih => simp [marksF, ih]
theorem marksF_snoc {α : Type} (f : Int → α) (k : Int) (n : Nat) : marksF f k (n + 1) = marksF f k n ++ [f (k + n)] := by
  induction n generalizing k with
  | zero => simp [marksF]
  | succ n ih =>
    rw [marksF, ih]
    simp only [marksF, List.cons_append, Int.natCast_add, Int.natCast_one]
    rw [show k + 1 + (n : Int) = k + (n + 1) by omega]
theorem marksF_get {α : Type} (f : Int → α) (k : Int) (n i : Nat) (h : i < n) : (marksF f k n)[i]'(by simpa using h) = f (k + i) := by
  induction n generalizing k i with
  | zero => omega
  | succ n ih =>
    cases i with
    | zero => simp [marksF]
    | succ i =>
      simp only [marksF, List.getElem_cons_succ]
      rw [ih (k + 1) i (by omega)]
      congr 1
      simp only [Int.natCast_add, Int.natCast_one]
      omega
def mI (k : Int) : Int := k
def mB (k : Int) : Bool := eqB (k.tmod 3) 0
abbrev rowsE {α : Type} (e : α → LV) (l : List α) : List (List LV) := l.map fun x => [e x]
/-- scalars: thawed rows are the cells -/
theorem thRow_sc {α : Type} (v : α → Value) : ∀ (l : List α) (n : Nat) (cells : List LV) (bs : List Box), ThRow (rowsE (fun x => .sc (v x)) l) 1 n cells bs ↔ cells = l.map (fun x => .sc (v x)) ∧ bs = []
  | [], n, cells, bs => by simp [ThRow]
  | x :: l, n, cells, bs => by
    simp only [rowsE, List.map_cons, ThRow, ThAll, Th]
    constructor
    · rintro ⟨c1, b1, c2, b2, _, ⟨y, b3, ys', b4, ⟨rfl, rfl⟩, ⟨rfl, rfl⟩, rfl, rfl⟩, h2, rfl, rfl⟩
      obtain ⟨rfl, rfl⟩ := (thRow_sc v l _ _ _).1 h2
      simp
    · rintro ⟨rfl, rfl⟩
      exact ⟨[.sc (v x)], [], l.map (fun x => .sc (v x)), [], rfl, ⟨.sc (v x), [], [], [], ⟨rfl, rfl⟩, ⟨rfl, rfl⟩, rfl, rfl⟩, (thRow_sc v l _ _ _).2 ⟨rfl, rfl⟩, rfl, rfl⟩
theorem th_sc {α : Type} (v : α → Value) {u nl : Bool} {l : List α} {n : Nat} {y : LV} {bs : List Box} : Th (.sl u nl 1 (rowsE (fun x => .sc (v x)) l)) n y bs ↔ (l = [] ∧ y = .sl false nl 1 [] ∧ bs = []) ∨
    (nl = false ∧ l ≠ [] ∧ ∃ slack cap, (l.length ≤ cap ∧ l.length * 1 + slack = cap * 1) ∧ y = .ha n 1 0 l.length cap ∧ bs = [some (l.map (fun x => .sc (v x)) ++ List.replicate slack .dead)]) := by
  simp only [Th, thRow_sc, List.length_map, List.map_eq_nil_iff]
  constructor
  · rintro (⟨h1, h2, h3⟩ | ⟨h1, h2, cells, bs', slack, cap, ⟨rfl, rfl⟩, h3, h4, h5⟩)
    · exact .inl ⟨h1, h2, h3⟩
    · exact .inr ⟨h1, by simpa using h2, slack, cap, h3, by simpa using h4, by simpa using h5⟩
  · rintro (⟨h1, h2, h3⟩ | ⟨h1, h2, slack, cap, h3, h4, h5⟩)
    · exact .inl ⟨h1, h2, h3⟩
    · exact .inr ⟨h1, by simpa using h2, _, [], slack, cap, ⟨rfl, rfl⟩, h3, by simpa using h4, by simpa using h5⟩
theorem whole_sc {α : Type} (v : α → Value) (u nl : Bool) (l : List α) (h : l = [] ∨ (u = true ∧ nl = false)) : Whole (.sl u nl 1 (rowsE (fun x => .sc (v x)) l)) := by
  simp only [Whole]
  refine ⟨?_, ?_⟩
  · rcases h with rfl | ⟨rfl, rfl⟩
    · left; rfl
    · right; simp
  · clear h
    induction l with
    | nil => simp [WholeRow]
    | cons x l ih => simp only [rowsE, List.map_cons, WholeRow, WholeAll, Whole]; exact ⟨⟨trivial, trivial⟩, ih⟩
/-- a list, the first i of which are marks -/
theorem splice_mark {α : Type} (v : α → Value) (f : Int → α) (k : Int) (l : List α) (rest : List LV) (i : Nat) (h : i < l.length) :
    splice ((marksF f k i ++ l.drop i).map (fun x => LV.sc (v x)) ++ rest) i [.sc (v (f (k + i)))] = (marksF f k (i + 1) ++ l.drop (i + 1)).map (fun x => LV.sc (v x)) ++ rest := by
  unfold splice
  rw [List.drop_eq_getElem_cons h, marksF_snoc]
  simp only [List.map_append, List.map_cons, List.append_assoc, List.cons_append]
  rw [take_done _ _ _ (by simp), drop_done _ _ _ _ (by simp)]
  simp
@[simp] theorem bin_rem3 {a : Int} : binLV .num .rem (.sc (.int .i64 a)) (.sc (.int .i64 3)) = some (.sc (.int .i64 (a.tmod 3))) := by simp [binLV, intBin]
theorem markIntS_ok (u nl : Bool) (l : List Int) (k : Int) (hk : 0 ≤ k ∧ k + l.length ≤ 4611686018427387904) (h1 h2 : List Box) (y : LV) (bs : List Box) (ht : Th (OU u nl l) h1.length y bs) :
    LCalls Try.prog n_laws_markIntS [y, N k] (h1 ++ bs ++ h2) (fun r h' => r = N (k + l.length) ∧ ∃ bs', bs'.length = bs.length ∧ Th (OU u nl (marksF mI k l.length)) h1.length y bs' ∧ h' = h1 ++ bs' ++ h2) := by
  rcases (th_sc (fun n : Int => Value.int .i64 n)).1 ht with ⟨rfl, rfl, rfl⟩ | ⟨rfl, hne, slack, cap, hcap, rfl, rfl⟩
  · refine LCalls.of_codeOf c_laws_markIntS mixed (by simp) ⟨_, _, rfl, [], rfl, (th_sc (fun n : Int => Value.int .i64 n)).2 (.inl ⟨rfl, rfl, rfl⟩), rfl⟩ ?_
    simp (disch := omega) [-onBool_some, -onBool_leT, -onBool_leF, -onBool_ltT, -onBool_ltF, -onBool_eqT, -onBool_eqF, k_laws_markIntS]
    refine wpC_for 0 0 (fun i t h => t 5 = N 0 ∧ t 1 = N k ∧ h = h1 ++ h2) (by simp) (by omega) ?_
    rintro i t1 hh hf hi ⟨e5, e1, rfl⟩
    (have e0 := hf 0 (by kernel_rfl); clear hf; simp [] at e0)
    simp (disch := omega) [-onBool_some, -onBool_leT, -onBool_leF, -onBool_ltT, -onBool_ltF, -onBool_eqT, -onBool_eqF, e0, e1, e5]
    refine post_tmp (.inr rfl) (by simp) ?_
    simp [Th, marksF]
  · have hm : (marksF mI k l.length).length = l.length := marksF_length _ k l.length
    have hne2 : marksF mI k l.length ≠ [] := by
      intro h; rw [h] at hm; exact hne (List.eq_nil_of_length_eq_zero (by simpa using hm.symm))
    refine LCalls.of_codeOf c_laws_markIntS mixed (by simp) ⟨_, _, rfl, [some ((marksF mI k l.length).map (fun x => .sc ((fun n : Int => Value.int .i64 n) x)) ++ List.replicate slack .dead)], rfl, (th_sc (fun n : Int => Value.int .i64 n)).2 (.inr ⟨rfl, hne2, slack, cap, by rw [hm]; exact hcap, by rw [hm], rfl⟩), rfl⟩ ?_
    simp (disch := omega) [-onBool_some, -onBool_leT, -onBool_leF, -onBool_ltT, -onBool_ltF, -onBool_eqT, -onBool_eqF, k_laws_markIntS]
    refine wpC_for l.length 0 (fun i t h => t 5 = N i ∧ t 1 = N (k + i) ∧ h = h1 ++ some ((marksF mI k i ++ l.drop i).map (fun x => .sc ((fun n : Int => Value.int .i64 n) x)) ++ List.replicate slack .dead) :: h2) (by simp [marksF]) (by omega) ?_
    rintro i t1 hh hf hi ⟨e5, e1, rfl⟩
    (have e0 := hf 0 (by kernel_rfl); clear hf; simp [] at e0)
    simp (disch := omega) [-onBool_some, -onBool_leT, -onBool_leF, -onBool_ltT, -onBool_ltF, -onBool_eqT, -onBool_eqF, e0, e1, e5]
    (with_reducible first | refine onBoolT (fun h5 => ?_) (fun h5 => ?_) | refine onBoolF (fun h5 => ?_) (fun h5 => ?_))
    · simp only [ltB_true, ltB_false, leB_true, leB_false, eqB_true, eqB_false, Bool.not_true, Bool.not_false] at h5
      have hsp := splice_mark (fun n : Int => Value.int .i64 n) mI k l (List.replicate slack .dead) i (by omega)
      simp (disch := omega) [-onBool_some, -onBool_leT, -onBool_leF, -onBool_ltT, -onBool_ltF, -onBool_eqT, -onBool_eqF, e0, e1, e5, idx_ha, i64_wrap]
      exact ⟨by omega, by omega, by omega, by simpa [splice, mI, mB] using hsp⟩
    · simp only [ltB_true, ltB_false, leB_true, leB_false, eqB_true, eqB_false, Bool.not_true, Bool.not_false] at h5
      simp (disch := omega) [-onBool_some, -onBool_leT, -onBool_leF, -onBool_ltT, -onBool_ltF, -onBool_eqT, -onBool_eqF, e1]
      refine post_tmp (.inr rfl) (by simp) ⟨by simp; omega, [some ((marksF mI k l.length).map (fun x => .sc ((fun n : Int => Value.int .i64 n) x)) ++ List.replicate slack .dead)], rfl, (th_sc (fun n : Int => Value.int .i64 n)).2 (.inr ⟨rfl, hne2, slack, cap, by rw [hm]; exact hcap, by rw [hm], rfl⟩), ?_⟩
      rw [show i = l.length by omega]; simp
theorem markBoolS_ok (u nl : Bool) (l : List Bool) (k : Int) (hk : 0 ≤ k ∧ k + l.length ≤ 4611686018427387904) (h1 h2 : List Box) (y : LV) (bs : List Box) (ht : Th (OB u nl l) h1.length y bs) :
    LCalls Try.prog n_laws_markBoolS [y, N k] (h1 ++ bs ++ h2) (fun r h' => r = N (k + l.length) ∧ ∃ bs', bs'.length = bs.length ∧ Th (OB u nl (marksF mB k l.length)) h1.length y bs' ∧ h' = h1 ++ bs' ++ h2) := by
  rcases (th_sc (fun b : Bool => Value.bool b)).1 ht with ⟨rfl, rfl, rfl⟩ | ⟨rfl, hne, slack, cap, hcap, rfl, rfl⟩
  · refine LCalls.of_codeOf c_laws_markBoolS mixed (by simp) ⟨_, _, rfl, [], rfl, (th_sc (fun b : Bool => Value.bool b)).2 (.inl ⟨rfl, rfl, rfl⟩), rfl⟩ ?_
    simp (disch := omega) [-onBool_some, -onBool_leT, -onBool_leF, -onBool_ltT, -onBool_ltF, -onBool_eqT, -onBool_eqF, k_laws_markBoolS]
    refine wpC_for 0 0 (fun i t h => t 5 = N 0 ∧ t 1 = N k ∧ h = h1 ++ h2) (by simp) (by omega) ?_
    rintro i t1 hh hf hi ⟨e5, e1, rfl⟩
    (have e0 := hf 0 (by kernel_rfl); clear hf; simp [] at e0)
    simp (disch := omega) [-onBool_some, -onBool_leT, -onBool_leF, -onBool_ltT, -onBool_ltF, -onBool_eqT, -onBool_eqF, e0, e1, e5]
    refine post_tmp (.inr rfl) (by simp) ?_
    simp [Th, marksF]
  · have hm : (marksF mB k l.length).length = l.length := marksF_length _ k l.length
    have hne2 : marksF mB k l.length ≠ [] := by
      intro h; rw [h] at hm; exact hne (List.eq_nil_of_length_eq_zero (by simpa using hm.symm))
    refine LCalls.of_codeOf c_laws_markBoolS mixed (by simp) ⟨_, _, rfl, [some ((marksF mB k l.length).map (fun x => .sc ((fun b : Bool => Value.bool b) x)) ++ List.replicate slack .dead)], rfl, (th_sc (fun b : Bool => Value.bool b)).2 (.inr ⟨rfl, hne2, slack, cap, by rw [hm]; exact hcap, by rw [hm], rfl⟩), rfl⟩ ?_
    simp (disch := omega) [-onBool_some, -onBool_leT, -onBool_leF, -onBool_ltT, -onBool_ltF, -onBool_eqT, -onBool_eqF, k_laws_markBoolS]
    refine wpC_for l.length 0 (fun i t h => t 5 = N i ∧ t 1 = N (k + i) ∧ h = h1 ++ some ((marksF mB k i ++ l.drop i).map (fun x => .sc ((fun b : Bool => Value.bool b) x)) ++ List.replicate slack .dead) :: h2) (by simp [marksF]) (by omega) ?_
    rintro i t1 hh hf hi ⟨e5, e1, rfl⟩
    (have e0 := hf 0 (by kernel_rfl); clear hf; simp [] at e0)
    simp (disch := omega) [-onBool_some, -onBool_leT, -onBool_leF, -onBool_ltT, -onBool_ltF, -onBool_eqT, -onBool_eqF, e0, e1, e5]
    (with_reducible first | refine onBoolT (fun h5 => ?_) (fun h5 => ?_) | refine onBoolF (fun h5 => ?_) (fun h5 => ?_))
    · simp only [ltB_true, ltB_false, leB_true, leB_false, eqB_true, eqB_false, Bool.not_true, Bool.not_false] at h5
      have hsp := splice_mark (fun b : Bool => Value.bool b) mB k l (List.replicate slack .dead) i (by omega)
      simp (disch := omega) [-onBool_some, -onBool_leT, -onBool_leF, -onBool_ltT, -onBool_ltF, -onBool_eqT, -onBool_eqF, e0, e1, e5, idx_ha, i64_wrap]
      exact ⟨by omega, by omega, by omega, by simpa [splice, mI, mB] using hsp⟩
    · simp only [ltB_true, ltB_false, leB_true, leB_false, eqB_true, eqB_false, Bool.not_true, Bool.not_false] at h5
      simp (disch := omega) [-onBool_some, -onBool_leT, -onBool_leF, -onBool_ltT, -onBool_ltF, -onBool_eqT, -onBool_eqF, e1]
      refine post_tmp (.inr rfl) (by simp) ⟨by simp; omega, [some ((marksF mB k l.length).map (fun x => .sc ((fun b : Bool => Value.bool b) x)) ++ List.replicate slack .dead)], rfl, (th_sc (fun b : Bool => Value.bool b)).2 (.inr ⟨rfl, hne2, slack, cap, by rw [hm]; exact hcap, by rw [hm], rfl⟩), ?_⟩
      rw [show i = l.length by omega]; simp
theorem heldIntS_ok (nl : Bool) (k : Int) (n : Nat) (hk : 0 ≤ k ∧ k + n ≤ 4611686018427387904) : Gives Try.prog n_laws_heldIntS [L nl (marksF mI k n), N k] (· = N (k + n)) := by
  refine Gives.of_codeOf c_laws_heldIntS mixed (by simp) ⟨_, rfl, by simp⟩ ?_
  have hlen : (marksF mI k n).length = n := marksF_length _ k n
  simp (disch := omega) [-onBool_some, -onBool_leT, -onBool_leF, -onBool_ltT, -onBool_ltF, -onBool_eqT, -onBool_eqF, k_laws_heldIntS]
  refine wpC_for n 0 (fun i t _ => t 5 = N i ∧ t 1 = N (k + i)) (by simp) (by omega) ?_
  rintro i t1 hh hf hi ⟨e5, e1⟩
  (have e0 := hf 0 (by kernel_rfl); clear hf; simp [] at e0)
  simp (disch := omega) [-onBool_some, -onBool_leT, -onBool_leF, -onBool_ltT, -onBool_ltF, -onBool_eqT, -onBool_eqF, e0, e1, e5, hlen]
  (with_reducible first | refine onBoolT (fun h5 => ?_) (fun h5 => ?_) | refine onBoolF (fun h5 => ?_) (fun h5 => ?_))
  · simp only [ltB_true, ltB_false, leB_true, leB_false, eqB_true, eqB_false, Bool.not_true, Bool.not_false] at h5
    have hg : (marksF mI k n)[i]'(by omega) = mI (k + i) := marksF_get mI k n i (by omega)
    simp (disch := omega) [-onBool_some, -onBool_leT, -onBool_leF, -onBool_ltT, -onBool_ltF, -onBool_eqT, -onBool_eqF, e0, e1, e5, idx_L, hlen, hg]
    repeat' (first
    | (with_reducible (first | refine onBoolT (fun hb_ => ?_) (fun hb_ => ?_) | refine onBoolF (fun hb_ => ?_) (fun hb_ => ?_)) <;> simp (disch := omega) [-onBool_some, -onBool_leT, -onBool_leF, -onBool_ltT, -onBool_ltF, -onBool_eqT, -onBool_eqF, hb_, e0, e1, e5, idx_L, hlen, hg, mI, mB, i64_wrap])
    | simp (disch := omega) [-onBool_some, -onBool_leT, -onBool_leF, -onBool_ltT, -onBool_ltF, -onBool_eqT, -onBool_eqF, e0, e1, e5, idx_L, hlen, hg, mI, mB, i64_wrap])
    all_goals first | omega | (simp [mI, mB] at hb_)
  · simp only [ltB_true, ltB_false, leB_true, leB_false, eqB_true, eqB_false, Bool.not_true, Bool.not_false] at h5
    simp (disch := omega) [-onBool_some, -onBool_leT, -onBool_leF, -onBool_ltT, -onBool_ltF, -onBool_eqT, -onBool_eqF, e1]
    rw [show i = n by omega]
theorem heldBoolS_ok (nl : Bool) (k : Int) (n : Nat) (hk : 0 ≤ k ∧ k + n ≤ 4611686018427387904) : Gives Try.prog n_laws_heldBoolS [LB nl (marksF mB k n), N k] (· = N (k + n)) := by
  refine Gives.of_codeOf c_laws_heldBoolS mixed (by simp) ⟨_, rfl, by simp⟩ ?_
  have hlen : (marksF mB k n).length = n := marksF_length _ k n
  simp (disch := omega) [-onBool_some, -onBool_leT, -onBool_leF, -onBool_ltT, -onBool_ltF, -onBool_eqT, -onBool_eqF, k_laws_heldBoolS]
  refine wpC_for n 0 (fun i t _ => t 5 = N i ∧ t 1 = N (k + i)) (by simp) (by omega) ?_
  rintro i t1 hh hf hi ⟨e5, e1⟩
  (have e0 := hf 0 (by kernel_rfl); clear hf; simp [] at e0)
  simp (disch := omega) [-onBool_some, -onBool_leT, -onBool_leF, -onBool_ltT, -onBool_ltF, -onBool_eqT, -onBool_eqF, e0, e1, e5, hlen]
  (with_reducible first | refine onBoolT (fun h5 => ?_) (fun h5 => ?_) | refine onBoolF (fun h5 => ?_) (fun h5 => ?_))
  · simp only [ltB_true, ltB_false, leB_true, leB_false, eqB_true, eqB_false, Bool.not_true, Bool.not_false] at h5
    have hg : (marksF mB k n)[i]'(by omega) = mB (k + i) := marksF_get mB k n i (by omega)
    simp (disch := omega) [-onBool_some, -onBool_leT, -onBool_leF, -onBool_ltT, -onBool_ltF, -onBool_eqT, -onBool_eqF, e0, e1, e5, idx_LB, hlen, hg]
    repeat' (first
    | (with_reducible (first | refine onBoolT (fun hb_ => ?_) (fun hb_ => ?_) | refine onBoolF (fun hb_ => ?_) (fun hb_ => ?_)) <;> simp (disch := omega) [-onBool_some, -onBool_leT, -onBool_leF, -onBool_ltT, -onBool_ltF, -onBool_eqT, -onBool_eqF, hb_, e0, e1, e5, idx_LB, hlen, hg, mI, mB, i64_wrap])
    | simp (disch := omega) [-onBool_some, -onBool_leT, -onBool_leF, -onBool_ltT, -onBool_ltF, -onBool_eqT, -onBool_eqF, e0, e1, e5, idx_LB, hlen, hg, mI, mB, i64_wrap])
    all_goals first | omega | (simp [mI, mB] at hb_)
  · simp only [ltB_true, ltB_false, leB_true, leB_false, eqB_true, eqB_false, Bool.not_true, Bool.not_false] at h5
    simp (disch := omega) [-onBool_some, -onBool_leT, -onBool_leF, -onBool_ltT, -onBool_ltF, -onBool_eqT, -onBool_eqF, e1]
    rw [show i = n by omega]
theorem markSystem_ok (u1 n1 u2 n2 u3 n3 : Bool) (size : Int) (p t : List Int) (b : List Bool) (k : Int) (hk : 0 ≤ k ∧ k + (p.length + t.length + b.length) ≤ 4611686018427387904) (h1 h2 : List Box) (y1 y2 y3 : LV) (b1 b2 b3 : List Box)
    (t1 : Th (OU u1 n1 p) h1.length y1 b1) (t2 : Th (OU u2 n2 t) (h1 ++ b1).length y2 b2) (t3 : Th (OB u3 n3 b) (h1 ++ b1 ++ b2).length y3 b3) :
    LCalls Try.prog n_laws_markSystem [.agg [N size, y1, y2, y3], N k] (h1 ++ b1 ++ b2 ++ b3 ++ h2) (fun r h' => r = N (k + p.length + t.length + b.length) ∧ ∃ c1 c2 c3, c1.length = b1.length ∧ c2.length = b2.length ∧ c3.length = b3.length ∧
      Th (OU u1 n1 (marksF mI k p.length)) h1.length y1 c1 ∧ Th (OU u2 n2 (marksF mI (k + p.length) t.length)) (h1 ++ c1).length y2 c2 ∧ Th (OB u3 n3 (marksF mB (k + p.length + t.length) b.length)) (h1 ++ c1 ++ c2).length y3 c3 ∧ ∃ ex, h' = h1 ++ c1 ++ c2 ++ c3 ++ h2 ++ ex) := by
  have s1 := Th.share _ _ _ _ t1
  have s2 := Th.share _ _ _ _ t2
  have s3 := Th.share _ _ _ _ t3
  have big : ∀ (l : List Int), (marksF mI k l.length).length = l.length := fun l => marksF_length _ _ _
  obtain ⟨H, hH⟩ : ∃ H, h1 ++ b1 ++ b2 ++ b3 ++ h2 = H := ⟨_, rfl⟩
  rw [hH]
  have m1 := markIntS_ok u1 n1 p k (by omega) h1 (b2 ++ b3 ++ h2 ++ [none]) y1 b1 t1
  rw [show h1 ++ b1 ++ (b2 ++ b3 ++ h2 ++ [none]) = H ++ [none] by rw [← hH]; simp] at m1
  refine LCalls.of_codeOf c_laws_markSystem mixed (by simp) ?_ ?_
  · obtain ⟨r1, _, rfl, c1, l1, g1, rfl⟩ := m1.2.1
    obtain ⟨r2, _, rfl, c2, l2, g2, rfl⟩ := (markIntS_ok u2 n2 t (k + p.length) (by omega) (h1 ++ c1) (b3 ++ h2 ++ [none]) y2 b2 (by rw [List.length_append, l1, ← List.length_append]; exact t2)).2.1
    obtain ⟨r3, _, rfl, c3, l3, g3, rfl⟩ := (markBoolS_ok u3 n3 b (k + p.length + t.length) (by omega) (h1 ++ c1 ++ c2) (h2 ++ [none]) y3 b3 (by simp only [List.length_append, l1, l2] at t3 ⊢; exact t3)).2.1
    exact ⟨_, _, rfl, c1, c2, c3, l1, l2, l3, g1, g2, g3, [], rfl⟩
  · simp (disch := omega) [-onBool_some, -onBool_leT, -onBool_leF, -onBool_ltT, -onBool_ltF, -onBool_eqT, -onBool_eqF, k_laws_markSystem, boxLV, frzLV, s1, s2, s3]
    refine onCall_any m1 ?_
    rintro r h' ⟨rfl, c1, l1, g1, rfl⟩
    have m2 := markIntS_ok u2 n2 t (k + p.length) (by omega) (h1 ++ c1) (b3 ++ h2 ++ [none]) y2 b2 (by rw [List.length_append, l1, ← List.length_append]; exact t2)
    rw [show h1 ++ c1 ++ b2 ++ (b3 ++ h2 ++ [none]) = h1 ++ c1 ++ (b2 ++ b3 ++ h2 ++ [none]) by simp] at m2
    generalize hH2 : h1 ++ c1 ++ (b2 ++ b3 ++ h2 ++ [none]) = H2 at *
    simp (disch := omega) [-onBool_some, -onBool_leT, -onBool_leF, -onBool_ltT, -onBool_ltF, -onBool_eqT, -onBool_eqF, s1, s2, s3]
    refine onCall_any m2 ?_
    rintro r h' ⟨rfl, c2, l2, g2, rfl⟩
    have m3 := markBoolS_ok u3 n3 b (k + p.length + t.length) (by omega) (h1 ++ c1 ++ c2) (h2 ++ [none]) y3 b3 (by simp only [List.length_append, l1, l2] at t3 ⊢; exact t3)
    rw [show h1 ++ c1 ++ c2 ++ b3 ++ (h2 ++ [none]) = h1 ++ c1 ++ c2 ++ (b3 ++ h2 ++ [none]) by simp] at m3
    generalize hH3 : h1 ++ c1 ++ c2 ++ (b3 ++ h2 ++ [none]) = H3 at *
    simp (disch := omega) [-onBool_some, -onBool_leT, -onBool_leF, -onBool_ltT, -onBool_ltF, -onBool_eqT, -onBool_eqF, s1, s2, s3]
    refine onCall_any m3 ?_
    rintro r h' ⟨rfl, c3, l3, g3, rfl⟩
    simp (disch := omega) [-onBool_some, -onBool_leT, -onBool_leF, -onBool_ltT, -onBool_ltF, -onBool_eqT, -onBool_eqF, s1, s2, s3]
    have hl := congrArg List.length hH
    simp only [List.length_append] at hl
    refine post_tmp (.inr rfl) (by simp; omega) ⟨by simp, c1, l1, c2, l2, c3, l3, g1, by simpa using g2, by simpa using g3, [none], by simp⟩
end Go.Proofs.Yticcekapikfhaaa
