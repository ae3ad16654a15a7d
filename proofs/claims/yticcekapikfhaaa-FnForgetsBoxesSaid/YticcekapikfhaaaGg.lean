/- Terms: the check of the program. No conditions. -/
import Derived.Test.YticcekapikfhaaaGf
namespace Go.Proofs.Yticcekapikfhaaa
open Go Go.TL
open Go.Proofs.Yticcekapikfhaaa.Ty
set_option linter.unusedSimpArgs false
set_option linter.unusedVariables false
set_option linter.unusedSectionVars false
set_option maxRecDepth 20000
set_option maxHeartbeats 4000000

/-- a function value that tells of v whether b -/
def FnB (P : Program) (f v : LV) (b : Bool) : Prop := ∃ fid vals, fnArgs f [v] = some (fid, vals) ∧ LowAll 0 vals ∧ Gives P fid vals (· = B b)
theorem onFn_B {P : Program} {f v : LV} {b : Bool} {d : Nat} {K : St → Prop} {s : St} (h : FnB P f v b) (hk : K { t := upd s.t d (B b), h := s.h }) : onFn P .no f [v] (some d) K s := by
  obtain ⟨fid, vals, h1, h2, h3⟩ := h
  exact ⟨fid, vals, h1, onCall_eq (rw := .no) h3 h2 hk⟩
def numG (pg : Int → Bool) (nv : Int) (op n : Int) : Bool :=
  if eqB op 0 = true then within n 0 (nv - 1) else if eqB op 1 = true then within n 0 2 else if hasB op = true then pg n else eqB n 0
def tyG (pt : List Int → Bool) (op : Int) (ty : List Int) : Bool := if typedB op = true then pt ty else eqB ty.length 0
def nodeG (pg : Int → Bool) (pt : List Int → Bool) (nv : Int) (op n : Int) (ty : List Int) (len : Nat) : Bool := eqB len (manyI op) && (numG pg nv op n && tyG pt op ty)
mutual
def formG (pg : Int → Bool) (pt : List Int → Bool) (nv : Int) : GTerm → Bool
  | .mk op n _ ty _ ks => nodeG pg pt nv op n ty ks.length && formsG pg pt nv op 0 ks
def formsG (pg : Int → Bool) (pt : List Int → Bool) (nv : Int) (op : Int) (k : Nat) : List GTerm → Bool
  | [] => true
  | t :: ts => formG pg pt (nv + addsI op k) t && formsG pg pt nv op (k + 1) ts
end
section
variable {pg : Int → Bool} {pt : List Int → Bool} {size : Int} {closed : Bool} (hg : ∀ n, pg n = (ltB n size && (leB (-1) n && (!closed || leB 0 n)))) (ht : ∀ ty, pt ty = (wty ty && gradedB size closed ty))
include hg ht
mutual
theorem formG_eq : ∀ (t : GTerm) (nv : Int), formG pg pt nv t = formB nv size closed t
  | .mk op n nl1 ty nl2 ks, nv => by
    simp only [formG, formB, formsG_eq ks, nodeG, nodeB, numG, numB, tyG, tyB, hg, ht]
theorem formsG_eq : ∀ (ks : List GTerm) (nv op : Int) (k : Nat), formsG pg pt nv op k ks = formsB nv size closed op k ks
  | [], _, _, _ => by simp [formsG, formsB]
  | t :: ts, nv, op, k => by simp only [formsG, formsB, formG_eq t, formsG_eq ts]
end
end
def chkI (f : Bool) (nodes : Int) (sz : Nat) : Int := if f = true ∧ nodes + sz ≤ 400 then nodes + sz else 401
theorem many_form {op : Int} (h : within op 0 12 = false) : manyI op = -1 := by
  rw [within_false] at h
  unfold manyI; repeat' split
  all_goals omega
theorem many_form' {op : Int} {n : Nat} (h : eqB n (manyI op) = true) : within op 0 12 = true := by
  cases hc : within op 0 12 with
  | true => rfl
  | false => rw [many_form hc, eqB_true] at h; omega
theorem wty_graded {ty : List Int} (h : wty ty = true) : gradedB 16 false ty = true := by
  rw [gradedB, allN_iff]
  intro i hi
  have := wty_codes h i hi
  simp only [gradedAt, okC, gradeI]
  generalize ty.getD i 0 = c at *
  have h3 : ltB (if 35 ≤ c then -1 else if 19 ≤ c then c - 19 else c - 3) 16 = true := by
    rw [ltB_true]; repeat' split
    all_goals omega
  rw [h3]; simp
theorem isWrittenType_fn (nl : Bool) (ty : List Int) (h : Lok ty) : FnB Try.prog (.fn n_impl_isWrittenType []) (L nl ty) (wty ty) :=
  ⟨n_impl_isWrittenType, [L nl ty], by simp [fnArgs], by simp, isWrittenType_ok nl ty h⟩
/-- a written term -/
def GTerm.writ (t : GTerm) : Bool := decide (t.size ≤ 400) && formB 8 16 false t
end Go.Proofs.Yticcekapikfhaaa
