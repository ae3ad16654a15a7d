/- Terms: nodes. No conditions. -/
import Derived.Test.YticcekapikfhaaaGd
namespace Go.Proofs.Yticcekapikfhaaa
open Go Go.TL
open Go.Proofs.Yticcekapikfhaaa.Ty
set_option linter.unusedSimpArgs false
set_option linter.unusedVariables false
set_option maxRecDepth 20000
set_option maxHeartbeats 4000000

inductive GTerm where
  | mk (op n : Int) (nl1 : Bool) (ty : List Int) (nl2 : Bool) (ks : List GTerm)
mutual
def GTerm.cells : GTerm → List LV
  | .mk op n nl1 ty nl2 ks => [N op, N n, L nl1 ty, .sl false nl2 4 (rowsOf ks)]
def rowsOf : List GTerm → List (List LV)
  | [] => []
  | k :: ks => k.cells :: rowsOf ks
end
abbrev GTerm.lv (t : GTerm) : LV := .agg t.cells
mutual
def GTerm.size : GTerm → Nat
  | .mk _ _ _ _ _ ks => sizes ks + 1
def sizes : List GTerm → Nat
  | [] => 0
  | k :: ks => k.size + sizes ks
end
mutual
def GTerm.wf : GTerm → Prop
  | .mk op n _ ty _ ks => I64 op ∧ I64 n ∧ Lok ty ∧ ks.length ≤ 1099511627776 ∧ wfs ks
def wfs : List GTerm → Prop
  | [] => True
  | k :: ks => k.wf ∧ wfs ks
end
theorem rowsOf_eq : ∀ ks : List GTerm, rowsOf ks = ks.map GTerm.cells
  | [] => by simp [rowsOf]
  | k :: ks => by simp [rowsOf, rowsOf_eq ks]
@[simp] theorem rowsOf_length (ks : List GTerm) : (rowsOf ks).length = ks.length := by simp [rowsOf_eq]
theorem wfs_iff : ∀ {ks : List GTerm}, wfs ks ↔ ∀ k ∈ ks, k.wf
  | [] => by simp [wfs]
  | k :: ks => by simp [wfs, wfs_iff (ks := ks)]
theorem GTerm.size_pos (t : GTerm) : 0 < t.size := by cases t; simp [GTerm.size]
theorem sizes_app : ∀ a b : List GTerm, sizes (a ++ b) = sizes a + sizes b
  | [], b => by simp [sizes]
  | k :: a, b => by simp [sizes, sizes_app a b]; omega
theorem sizes_drop {ks : List GTerm} {i : Nat} (h : i < ks.length) : sizes (ks.drop i) = ks[i].size + sizes (ks.drop (i + 1)) := by
  rw [List.drop_eq_getElem_cons h, sizes]
theorem size_kid {ks : List GTerm} {i : Nat} (h : i < ks.length) : ks[i].size ≤ sizes ks := by
  have := sizes_drop h
  have h2 := sizes_app (ks.take i) (ks.drop i)
  rw [List.take_append_drop] at h2
  omega
mutual
theorem cells_share : ∀ t : GTerm, shareAll t.cells = t.cells
  | .mk op n nl1 ty nl2 ks => by
    simp only [GTerm.cells, shareAll, share, rowsOf_share ks]
    congr 3
    simp
theorem rowsOf_share : ∀ ks : List GTerm, shareRow (rowsOf ks) = rowsOf ks
  | [] => by simp [rowsOf, shareRow]
  | k :: ks => by simp only [rowsOf, shareRow, cells_share k, rowsOf_share ks]
end
attribute [simp] cells_share rowsOf_share
@[simp] theorem cells_length (t : GTerm) : t.cells.length = 4 := by cases t; simp [GTerm.cells]
@[simp] theorem take_cells (t : GTerm) : t.cells.take 4 = t.cells := List.take_of_length_le (by simp)
mutual
theorem low_cells (k : Nat) : ∀ t : GTerm, LowAll k t.cells
  | .mk op n nl1 ty nl2 ks => by
    have := low_rowsOf k ks
    simp [GTerm.cells, this]
theorem low_rowsOf (k : Nat) : ∀ ks : List GTerm, LowRow k (rowsOf ks)
  | [] => by simp [rowsOf]
  | t :: ks => by simp [rowsOf, low_cells k t, low_rowsOf k ks]
end
attribute [simp] low_cells low_rowsOf
@[simp] theorem alive_cells (t : GTerm) : aliveAll t.cells = true := by
  cases t; simp [GTerm.cells]
theorem idx_T (ks : List GTerm) (u nl : Bool) (i : Nat) (h : i < ks.length) : idxLV 4 (.sl u nl 4 (rowsOf ks)) (i : Int) = some (.rp (ks[i]'h).cells) := by
  simp only [idxLV]
  rw [if_pos ⟨trivial, by omega, by simpa using h⟩]
  have : (rowsOf ks).getD (i : Int).toNat [] = (ks[i]'h).cells := by
    simp [List.getD_eq_getElem?_getD, rowsOf_eq, h]
  rw [this]
  simp

def manyI (op : Int) : Int := if op = 0 ∨ op = 1 then 0 else if op = 2 ∨ op = 4 ∨ op = 5 ∨ op = 10 ∨ op = 12 then 2 else if op = 3 ∨ op = 8 then 3 else if op = 6 ∨ op = 7 ∨ op = 9 ∨ op = 11 then 1 else -1
def hasB (op : Int) : Bool := eqB op 5 || eqB op 8 || eqB op 9 || eqB op 11 || eqB op 12
def typedB (op : Int) : Bool := eqB op 6 || eqB op 7 || eqB op 9
def addsI (op k : Int) : Int := if op = 5 ∧ k = 1 then 2 else if (op = 8 ∧ 0 < k) ∨ op = 9 ∨ (op = 12 ∧ k = 1) then 1 else 0
theorem ops13 {op : Int} (h : within op 0 12 = true) : op = 0 ∨ op = 1 ∨ op = 2 ∨ op = 3 ∨ op = 4 ∨ op = 5 ∨ op = 6 ∨ op = 7 ∨ op = 8 ∨ op = 9 ∨ op = 10 ∨ op = 11 ∨ op = 12 := by
  rw [within_true] at h; omega
/-- the word of an op -/
def wordS (op : Int) : Value := if op = 0 then .string ⟨#[120]⟩ else if op = 2 then .string ⟨#[97, 100, 100]⟩ else if op = 3 then .string ⟨#[105, 102]⟩ else if op = 4 then .string ⟨#[112, 97, 105, 114]⟩ else if op = 5 then .string ⟨#[115, 112, 108, 105, 116]⟩
  else if op = 6 then .string ⟨#[108, 101, 102, 116]⟩ else if op = 7 then .string ⟨#[114, 105, 103, 104, 116]⟩ else if op = 8 then .string ⟨#[99, 97, 115, 101]⟩ else if op = 9 then .string ⟨#[102, 117, 110]⟩
  else if op = 10 then .string ⟨#[97, 112, 112]⟩ else if op = 11 then .string ⟨#[98, 111, 120]⟩ else if op = 12 then .string ⟨#[111, 112, 101, 110]⟩ else .string ⟨#[]⟩
abbrev wordV (op : Int) : LV := .sc (wordS op)
def formV (op : Int) : LV := if within op 0 12 = true then .tup [.agg [wordV op, N (manyI op), B (hasB op), B (typedB op)], B true] else .tup [.agg [.sc (.string ⟨#[]⟩), N 0, B false, B false], B false]
@[simp] theorem low_formV (op : Int) (k : Nat) : Low k (formV op) := by
  unfold formV; split <;> simp
end Go.Proofs.Yticcekapikfhaaa
