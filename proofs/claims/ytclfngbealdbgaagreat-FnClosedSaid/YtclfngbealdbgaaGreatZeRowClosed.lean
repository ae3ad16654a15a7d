/- Part 5 of the proof of the row of the text YtclfngbealdbgaaGreatZRowClosed: texts joined. No conditions. -/
import Derived.ProofKit
import Derived.RowKit
import Derived.ChangeArms
import Derived.Test.YtclfngbealdbgaaGreatZdRowClosed
set_option linter.unusedSimpArgs false
set_option linter.unusedVariables false
set_option linter.unusedSectionVars false
namespace Go.Proofs.YtclfngbealdbgaaGreat
open Go Go.TL
set_option linter.unusedSimpArgs false
set_option linter.unusedVariables false
set_option maxRecDepth 20000
set_option maxHeartbeats 4000000
def I64 (n : Int) : Prop := -9223372036854775808 ≤ n ∧ n ≤ 9223372036854775807
def QO (a lo hi : Int) : Bool := leB lo a && leB a hi
theorem QM {a lo hi : Int} : QO a lo hi = true ↔ lo ≤ a ∧ a ≤ hi := by simp [QO, leB]
theorem ZeD {a lo hi : Int} : QO a lo hi = false ↔ ¬ (lo ≤ a ∧ a ≤ hi) := by rw [← QM]; simp
theorem ZaL {a b : Int} : ltB a b = !leB b a := by
 cases h : leB b a <;> simp [Qh, Qg, Qm, Qj, Qd, Qc, Bool.not_true, Bool.not_false, Qm, Qj] at h ⊢ <;> omega
abbrev OU (u nl : Bool) (l : List Int) : LV := .sl u nl 1 (l.map fun n => [N n])
abbrev L (nl : Bool) (l : List Int) : LV := OU false nl l
abbrev OB (u nl : Bool) (l : List Bool) : LV := .sl u nl 1 (l.map fun b => [B b])
abbrev LB (nl : Bool) (l : List Bool) : LV := OB false nl l
theorem ZfL {α : Type} (e : α → LV) (he : ∀ a, share (e a) = e a) (l : List α) (u nl : Bool) (i : Int) (h0 : 0 ≤ i) (h1 : i < l.length) : QN 1 (.sl u nl 1 (l.map fun a => [e a])) i = some (.rp [e (l[i.toNat]'(by omega))]) := by
 simp only [QN]
 rw [if_pos ⟨trivial, h0, by simpa using h1⟩]
 have : (l.map fun a => [e a]).getD i.toNat [] = [e (l[i.toNat]'(by omega))] := by
  simp [List.getD_eq_getElem?_getD, show i.toNat < l.length by omega]
 rw [this]
 simp [he]
theorem W9 (l : List Int) (u nl : Bool) (i : Int) (h0 : 0 ≤ i) (h1 : i < l.length) : QN 1 (OU u nl l) i = some (.rp [N (l.getD i.toNat 0)]) := by
 have := ZfL N (by simp) l u nl i h0 h1
 rw [this, List.getD_eq_getElem?_getD, List.getElem?_eq_getElem (show i.toNat < l.length by omega)]
 rfl
theorem idx_LB (l : List Bool) (u nl : Bool) (i : Int) (h0 : 0 ≤ i) (h1 : i < l.length) : QN 1 (OB u nl l) i = some (.rp [B (l.getD i.toNat false)]) := by
 have := ZfL B (by simp) l u nl i h0 h1
 rw [this, List.getD_eq_getElem?_getD, List.getElem?_eq_getElem (show i.toNat < l.length by omega)]
 rfl
def Lok (l : List Int) : Prop := l.length ≤ 1099511627776 ∧ ∀ n ∈ l, I64 n
theorem Lok.at {l : List Int} (h : Lok l) {i : Nat} (hi : i < l.length) : I64 l[i] := h.2 _ (List.getElem_mem _)
structure GSys where
 size : Int
 n1 : Bool
 plus : List Int
 n2 : Bool
 times : List Int
 n3 : Bool
 below : List Bool
abbrev GSys.cells (s : GSys) : List LV := [N s.size, L s.n1 s.plus, L s.n2 s.times, LB s.n3 s.below]
abbrev GSys.lv (s : GSys) : LV := .agg s.cells
def GSys.wf (s : GSys) : Prop := I64 s.size ∧ s.plus.length ≤ 1099511627776 ∧ s.times.length ≤ 1099511627776 ∧ s.below.length ≤ 1099511627776 ∧ (∀ n ∈ s.plus, I64 n) ∧ ∀ n ∈ s.times, I64 n
def GSys.pl (s : GSys) (a b : Int) : Int := s.plus.getD (a * s.size + b).toNat 0
def GSys.tm (s : GSys) (a b : Int) : Int := s.times.getD (a * s.size + b).toNat 0
def GSys.le (s : GSys) (a b : Int) : Bool := s.below.getD (a * s.size + b).toNat false
structure GSys.Tab (s : GSys) : Prop where
 lo : 2 ≤ s.size
 hi : s.size ≤ 16
 lp : (s.plus.length : Int) = s.size * s.size
 lt : (s.times.length : Int) = s.size * s.size
 lb : (s.below.length : Int) = s.size * s.size
 rp : ∀ i, 0 ≤ s.plus.getD i 0 ∧ s.plus.getD i 0 < s.size
 rt : ∀ i, 0 ≤ s.times.getD i 0 ∧ s.times.getD i 0 < s.size
def GSys.G (s : GSys) (a : Int) : Prop := 0 ≤ a ∧ a < s.size
theorem GSys.at {s : GSys} (t : s.Tab) {a b : Int} (ha : s.G a) (hb : s.G b) : 0 ≤ a * s.size + b ∧ a * s.size + b < s.size * s.size ∧ 0 ≤ a * s.size ∧ a * s.size ≤ 256 := by
 have h1 : 0 ≤ a * s.size := Int.mul_nonneg ha.1 (by have := t.lo; omega)
 have h2 : (a + 1) * s.size ≤ s.size * s.size := Int.mul_le_mul_of_nonneg_right (by have := ha.2; omega) (by have := t.lo; omega)
 have h3 : (a + 1) * s.size = a * s.size + s.size := by rw [Int.add_mul]; omega
 have h4 : s.size * s.size ≤ 16 * 16 := Int.mul_le_mul t.hi t.hi (by have := t.lo; omega) (by omega)
 have := hb.1; have := hb.2
 refine ⟨by omega, by omega, h1, ?_⟩
 omega
theorem GSys.Gpl {s : GSys} (t : s.Tab) (a b : Int) : s.G (s.pl a b) := t.rp _
theorem GSys.Gtm {s : GSys} (t : s.Tab) (a b : Int) : s.G (s.tm a b) := t.rt _
theorem GSys.Glt {s : GSys} {i : Nat} (h : ltB (i : Int) s.size = true) : s.G i := ⟨by omega, by rw [Qh] at h; omega⟩
theorem GSys.G0 {s : GSys} (t : s.Tab) : s.G 0 := ⟨by omega, by have := t.lo; omega⟩
theorem GSys.G1 {s : GSys} (t : s.Tab) : s.G 1 := ⟨by omega, by have := t.lo; omega⟩
section
attribute [local simp low] Xe
attribute [local simp] Zd6 ZdR ZdS ZdH Zd3 ZdX
section
variable {s : GSys} (t : s.Tab) {a b : Int} (ha : s.G a) (hb : s.G b)
include t ha hb
theorem Zan : Qe Tryz.prog Wh [s.lv, N a, N b] (· = N (s.pl a b)) := by
 refine Qe.of_codeOf ZkG QA (by simp) ⟨_, rfl, by simp⟩ ?_
 obtain ⟨h1, h2, h3, h4⟩ := GSys.at t ha hb
 have := t.lo; have := t.hi; have := ha.1; have := ha.2; have := hb.1; have := hb.2
 simp (contextual := true) (disch := omega) [ZeM, Qw, Qs, Qf]
 have := t.lp
 simp (contextual := true) (disch := omega) [W9, GSys.pl]
theorem Zas : Qe Tryz.prog QQ [s.lv, N a, N b] (· = N (s.tm a b)) := by
 refine Qe.of_codeOf ZlW QA (by simp) ⟨_, rfl, by simp⟩ ?_
 obtain ⟨h1, h2, h3, h4⟩ := GSys.at t ha hb
 have := t.lo; have := t.hi; have := ha.1; have := ha.2; have := hb.1; have := hb.2
 simp (contextual := true) (disch := omega) [ZeX, Qw, Qs, Qf]
 have := t.lt
 simp (contextual := true) (disch := omega) [W9, GSys.tm]
theorem XK : Qe Tryz.prog QU [s.lv, N a, N b] (· = B (s.le a b)) := by
 refine Qe.of_codeOf Znp QA (by simp) ⟨_, rfl, by simp⟩ ?_
 obtain ⟨h1, h2, h3, h4⟩ := GSys.at t ha hb
 have := t.lo; have := t.hi; have := ha.1; have := ha.2; have := hb.1; have := hb.2
 simp (contextual := true) (disch := omega) [Zf1, Qw, Qs, Qf]
 have := t.lb
 simp (contextual := true) (disch := omega) [idx_LB, GSys.le]
theorem Ze5 : Qe Tryz.prog QE [s.lv, N a, N b] (· = N (s.pl a b)) := by
 refine Qe.of_codeOf Zb5 QA (by simp) ⟨_, rfl, by simp⟩ ?_
 obtain ⟨h1, h2, h3, h4⟩ := GSys.at t ha hb
 have := t.lo; have := t.hi; have := ha.1; have := ha.2; have := hb.1; have := hb.2
 simp (contextual := true) (disch := omega) [Ki, Qw, Qs, Qf]
 have := t.lp
 simp (contextual := true) (disch := omega) [W9, GSys.pl]
theorem ZeS : Qe Tryz.prog Qy [s.lv, N a, N b] (· = N (s.tm a b)) := by
 refine Qe.of_codeOf Zbt QA (by simp) ⟨_, rfl, by simp⟩ ?_
 obtain ⟨h1, h2, h3, h4⟩ := GSys.at t ha hb
 have := t.lo; have := t.hi; have := ha.1; have := ha.2; have := hb.1; have := hb.2
 simp (contextual := true) (disch := omega) [JH, Qw, Qs, Qf]
 have := t.lt
 simp (contextual := true) (disch := omega) [W9, GSys.tm]
theorem Ju : Qe Tryz.prog Qz [s.lv, N a, N b] (· = B (s.le a b)) := by
 refine Qe.of_codeOf Zbp QA (by simp) ⟨_, rfl, by simp⟩ ?_
 obtain ⟨h1, h2, h3, h4⟩ := GSys.at t ha hb
 have := t.lo; have := t.hi; have := ha.1; have := ha.2; have := hb.1; have := hb.2
 simp (contextual := true) (disch := omega) [JI, Qw, Qs, Qf]
 have := t.lb
 simp (contextual := true) (disch := omega) [idx_LB, GSys.le]
end
theorem Zdc (a lo hi : Int) : Qe Tryz.prog W4 [N a, N lo, N hi] (· = B (QO a lo hi)) := by
 refine Qe.of_codeOf Znr QA (by simp) ⟨_, rfl, by simp⟩ ?_
 simp (contextual := true) (disch := omega) [Zf8, QO]
theorem ZD (a lo hi : Int) : Qe Tryz.prog WL [N a, N lo, N hi] (· = B (QO a lo hi)) := by
 refine Qe.of_codeOf Zi2 QA (by simp) ⟨_, rfl, by simp⟩ ?_
 simp (contextual := true) (disch := omega) [Zdq, QO]
theorem Zlb (s : GSys) (h : I64 s.size) (h2 : -9223372036854775808 < s.size) (g : Int) : Qe Tryz.prog Wm [s.lv, N g] (· = B (QO g 0 (s.size - 1))) := by
 refine Qe.of_codeOf ZcQ QA (by simp) ⟨_, rfl, by simp⟩ ?_
 obtain ⟨h1, h2⟩ := h
 simp (contextual := true) (disch := omega) [KK, Qw, Qs, Qf]
 refine Qa (ZD _ _ _) (by simp) ?_
 simp (contextual := true) (disch := omega)
end
def YL (p : Int → Bool) : Nat → Nat → Int
 | _, 0 => -1
 | g, n + 1 => if p g = true then g else YL p (g + 1) n
def XZ (p : Nat → Bool) : Nat → Bool
 | 0 => true
 | n + 1 => XZ p n && p n
@[simp] theorem allN_zero (p : Nat → Bool) : XZ p 0 = true := rfl
theorem Wq (p : Nat → Bool) (n : Nat) : XZ p (n + 1) = (XZ p n && p n) := rfl
theorem YX {p : Nat → Bool} : ∀ {n : Nat}, XZ p n = true ↔ ∀ i, i < n → p i = true
  | 0 => by simp
  | n + 1 => by
    rw [Wq, Bool.and_eq_true, YX]
    exact ⟨fun h i hi => by by_cases he : i = n; · exact he ▸ h.2
                            · exact h.1 i (by omega), fun h => ⟨fun i hi => h i (by omega), h n (by omega)⟩⟩
theorem Zh3 {p : Nat → Bool} {i n : Nat} (h : i ≤ n) (hf : XZ p i = false) : XZ p n = false := by
 cases hc : XZ p n with
 | false => rfl
 | true =>
  rw [YX] at hc
  rw [YX.2 fun j hj => hc j (by omega)] at hf
  simp at hf
theorem Xb {p : Nat → Bool} {i n : Nat} (h : i < n) (hf : p i = false) : XZ p n = false :=
 Zh3 (i := i + 1) h (by rw [Wq, hf]; simp)
def GSys.jn (s : GSys) (a b g h : Int) : Bool := !s.le a h || !s.le b h || s.le g h
def GSys.isJoin (s : GSys) (a b g : Int) : Bool := s.le a g && s.le b g && XZ (fun h => s.jn a b g h) s.size.toNat
def GSys.join (s : GSys) (a b : Int) : Int := YL (s.isJoin a b) 0 s.size.toNat
def GSys.three (s : GSys) (a b c : Int) : Bool :=
 eqB (s.pl (s.pl a b) c) (s.pl a (s.pl b c)) && eqB (s.tm (s.tm a b) c) (s.tm a (s.tm b c)) && eqB (s.tm a (s.pl b c)) (s.pl (s.tm a b) (s.tm a c)) && eqB (s.tm (s.pl a b) c) (s.pl (s.tm a c) (s.tm b c)) &&
  (!s.le a b || ((!s.le b c || s.le a c) && s.le (s.pl a c) (s.pl b c) && s.le (s.tm a c) (s.tm b c) && s.le (s.tm c a) (s.tm c b)))
section
variable {s : GSys} (t : s.Tab) {a b c : Int} (ha : s.G a) (hb : s.G b) (hc : s.G c)
include t ha hb hc
theorem ZnS : Qe Tryz.prog Vg [s.lv, N a, N b, N c] (· = B (s.three a b c)) := by
 refine Qe.of_codeOf ZhO QA (by simp) ⟨_, rfl, by simp⟩ ?_
 simp (disch := omega) [ZbP, Qw, Qs]
 repeat' (first
  | with_reducible refine Qa (Zan t (by first | assumption | exact GSys.Gpl t _ _ | exact GSys.Gtm t _ _ | exact GSys.Glt (by assumption) | exact GSys.G0 t | exact GSys.G1 t) (by first | assumption | exact GSys.Gpl t _ _ | exact GSys.Gtm t _ _ | exact GSys.Glt (by assumption) | exact GSys.G0 t | exact GSys.G1 t)) (by simp) ?_
  | with_reducible refine Qa (Zas t (by first | assumption | exact GSys.Gpl t _ _ | exact GSys.Gtm t _ _ | exact GSys.Glt (by assumption) | exact GSys.G0 t | exact GSys.G1 t) (by first | assumption | exact GSys.Gpl t _ _ | exact GSys.Gtm t _ _ | exact GSys.Glt (by assumption) | exact GSys.G0 t | exact GSys.G1 t)) (by simp) ?_
  | with_reducible refine Qa (XK t (by first | assumption | exact GSys.Gpl t _ _ | exact GSys.Gtm t _ _ | exact GSys.Glt (by assumption) | exact GSys.G0 t | exact GSys.G1 t) (by first | assumption | exact GSys.Gpl t _ _ | exact GSys.Gtm t _ _ | exact GSys.Glt (by assumption) | exact GSys.G0 t | exact GSys.G1 t)) (by simp) ?_
  | (with_reducible (first | refine Qo (fun hb_ => ?_) (fun hb_ => ?_) | refine Qn (fun hb_ => ?_) (fun hb_ => ?_)) <;> simp (disch := omega) [hb_])
  | simp (disch := omega))
 all_goals simp_all [GSys.three]
theorem Zqf : Qe Tryz.prog YJ [s.lv, N a, N b, N c] (· = B (s.three a b c)) := by
 refine Qe.of_codeOf Zav QA (by simp) ⟨_, rfl, by simp⟩ ?_
 simp (disch := omega) [Jm, Qw, Qs]
 repeat' (first
  | with_reducible refine Qa (Ze5 t (by first | assumption | exact GSys.Gpl t _ _ | exact GSys.Gtm t _ _ | exact GSys.Glt (by assumption) | exact GSys.G0 t | exact GSys.G1 t) (by first | assumption | exact GSys.Gpl t _ _ | exact GSys.Gtm t _ _ | exact GSys.Glt (by assumption) | exact GSys.G0 t | exact GSys.G1 t)) (by simp) ?_
  | with_reducible refine Qa (ZeS t (by first | assumption | exact GSys.Gpl t _ _ | exact GSys.Gtm t _ _ | exact GSys.Glt (by assumption) | exact GSys.G0 t | exact GSys.G1 t) (by first | assumption | exact GSys.Gpl t _ _ | exact GSys.Gtm t _ _ | exact GSys.Glt (by assumption) | exact GSys.G0 t | exact GSys.G1 t)) (by simp) ?_
  | with_reducible refine Qa (Ju t (by first | assumption | exact GSys.Gpl t _ _ | exact GSys.Gtm t _ _ | exact GSys.Glt (by assumption) | exact GSys.G0 t | exact GSys.G1 t) (by first | assumption | exact GSys.Gpl t _ _ | exact GSys.Gtm t _ _ | exact GSys.Glt (by assumption) | exact GSys.G0 t | exact GSys.G1 t)) (by simp) ?_
  | (with_reducible (first | refine Qo (fun hb_ => ?_) (fun hb_ => ?_) | refine Qn (fun hb_ => ?_) (fun hb_ => ?_)) <;> simp (disch := omega) [hb_])
  | simp (disch := omega))
 all_goals simp_all [GSys.three]
end
end Go.Proofs.YtclfngbealdbgaaGreat
namespace Go.Proofs.YtclfngbealdbgaaGreat
open Go Go.TL
set_option linter.unusedSimpArgs false
set_option linter.unusedVariables false
set_option maxRecDepth 20000
set_option maxHeartbeats 4000000
def JC (sz : Nat) (left : Int) : Int := if (sz : Int) ≤ left then left - sz else -1
def fill {α : Type} (e : α → List LV) (z : List LV) (l : List α) (i : Nat) : List LV := ((l.take i).map e).flatten ++ (List.replicate (l.length - i) z).flatten
section
variable {α : Type} {e : α → List LV} {z : List LV} {l : List α} {sz : Nat} (he : ∀ x, (e x).length = sz) (hz : z.length = sz)
include he
theorem ZmP (k : List α) : ((k.map e).flatten).length = k.length * sz := by
 induction k with
 | nil => simp
 | cons x k ih => simp [ih, he, Nat.add_mul, Nat.add_comm]
include hz
theorem Zng {i : Nat} (h : i ≤ l.length) : (fill e z l i).length = l.length * sz := by
 simp only [fill, List.length_append, ZmP he, List.length_take, Nat.min_eq_left h]
 rw [List.length_flatten]
 simp only [List.map_replicate, hz, List.sum_replicate_nat]
 rw [← Nat.add_mul]; congr 1; omega
theorem Zkg {i : Nat} (h : i < l.length) : splice (fill e z l i) (i * sz) (e l[i]) = fill e z l (i + 1) := by
 have h1 : (((l.take i).map e).flatten).length = i * sz := by rw [ZmP he]; simp [Nat.min_eq_left (Nat.le_of_lt h)]
 have h2 : l.length - i = (l.length - (i + 1)) + 1 := by omega
 unfold splice
 rw [fill, h2, List.replicate_succ, List.flatten_cons, fill, List.take_append_of_le_length (by omega), List.take_of_length_le (by omega), List.take_succ_eq_append_getElem h, List.map_append, List.flatten_append]
 simp only [List.map_cons, List.map_nil, List.flatten_cons, List.flatten_nil, List.append_nil]
 congr 1
 rw [List.drop_append, List.drop_of_length_le (by omega), he, h1, List.nil_append, List.drop_append, List.drop_of_length_le (by omega)]
 simp [hz]
end
theorem fill_end {α : Type} {e : α → List LV} {z : List LV} {l : List α} : fill e z l l.length = (l.map e).flatten := by simp [fill]
theorem ZjZ {α : Type} {e : α → List LV} {z : List LV} {l : List α} : fill e z l 0 = (List.replicate l.length z).flatten := by simp [fill]
abbrev Wk := List (Bool × List Int)
abbrev eC (c : Bool × List Int) : LV := L c.1 c.2
abbrev LC (nl : Bool) (ctx : Wk) : LV := .sl false nl 1 (ctx.map fun c => [eC c])
theorem KI (ctx : Wk) (nl : Bool) (i : Nat) (h : i < ctx.length) : QN 1 (LC nl ctx) (i : Int) = some (.rp [eC (ctx[i]'h)]) := by
 have := ZfL eC (by simp) ctx false nl i (by omega) (by omega)
 rw [this]
 simp
def Wk.raw (ctx : Wk) : Prop := ctx.length ≤ 9223372036854775807 ∧ ∀ c ∈ ctx, c.2.length ≤ 9223372036854775807 ∧ ∀ n ∈ c.2, I64 n
def Wk.wf (ctx : Wk) : Prop := ctx.length ≤ 1099511627776 ∧ ∀ c ∈ ctx, Lok c.2
def Wk.norm (ctx : Wk) : Wk := ctx.map fun c => (false, c.2)
abbrev Wk.own (ctx : Wk) : LV := .sl true false 1 (ctx.map fun c => [OU true false c.2])
theorem share_own (ctx : Wk) : share ctx.own = LC false ctx.norm := by
 simp [Wk.own, Wk.norm]
theorem low_own (k : Nat) (ctx : Wk) : Low k ctx.own := by simp [Wk.own]
def cws : Wk → Nat
 | [] => 0
 | c :: cs => c.2.length + cws cs
theorem Zpf : ∀ {ctx : Wk} {c : Bool × List Int}, c ∈ ctx → c.2.length ≤ cws ctx
 | d :: ctx, c, h => by
  simp only [List.mem_cons] at h
  simp only [cws]
  rcases h with rfl | h
  ·omega
  ·have := Zpf h; omega
def sameC : Wk → Wk → Bool
 | [], [] => true
 | a :: a', b :: b' => (a.2 == b.2) && sameC a' b'
 | _, _ => false
end Go.Proofs.YtclfngbealdbgaaGreat
namespace Go.Proofs.YtclfngbealdbgaaGreat.Ty
def QL (c : Int) : Bool := (decide (3 ≤ c) && decide (c ≤ 18)) || c == 35
def W0 (c : Int) : Bool := (decide (19 ≤ c) && decide (c ≤ 34)) || c == 36
def Wr (c : Int) : Option Nat :=
 if c = 0 then some 0 else if c = 1 ∨ c = 2 ∨ QL c = true then some 2 else if W0 c = true then some 1 else none
def skip : Nat → List Int → Option (List Int)
 | 0, l => some l
 | _ + 1, [] => none
 | n + 1, c :: l => match Wr c with
  | none => none
  | some k => skip (n + k) l
def Kn (n : Nat) (l : List Int) (len : Nat) : Int := match skip n l with
 | some r => (len : Int) - r.length
 | none => -1
def wty (l : List Int) : Bool := decide (1 ≤ l.length) && decide (l.length ≤ 40) && (skip 1 l == some [])
theorem Zns {c : Int} {k : Nat} (h : Wr c = some k) : k ≤ 2 := by
 unfold Wr at h
 split at h
 ·simp at h; omega
 ·split at h
  ·simp at h; omega
  ·split at h
   ·simp at h; omega
   ·simp at h
theorem Zii (b : Nat) : ∀ (l : List Int) (a : Nat), skip (a + b) l = (skip a l).bind (skip b)
 | [], 0 => by simp [skip]
 | [], a + 1 => by rw [show a + 1 + b = (a + b) + 1 by omega]; simp [skip]
 | c :: l, 0 => by simp [skip]
 | c :: l, a + 1 => by
  rw [show a + 1 + b = (a + b) + 1 by omega]
  simp only [skip]
  cases h : Wr c with
  | none => simp
  | some k =>
   simp only
   rw [show a + b + k = (a + k) + b by omega]
   exact Zii b l (a + k)
theorem Zfz : ∀ (l : List Int) (n : Nat) (r : List Int), skip n l = some r → ∃ m, r = l.drop m ∧ n ≤ m ∧ m ≤ l.length
 | l, 0, r, h => ⟨0, by simp [skip] at h; simp [h], by omega, by omega⟩
 | [], n + 1, r, h => by simp [skip] at h
 | c :: l, n + 1, r, h => by
  simp only [skip] at h
  cases hk : Wr c with
  | none => simp [hk] at h
  | some k =>
   simp only [hk] at h
   obtain ⟨m, hm, h1, h2⟩ := Zfz l (n + k) r h
   exact ⟨m + 1, by simpa using hm, by omega, by simp; omega⟩
theorem Zgc {l r : List Int} {n : Nat} (h : skip n l = some r) : r.length + n ≤ l.length := by
 obtain ⟨m, rfl, h1, h2⟩ := Zfz l n r h
 simp; omega
end Go.Proofs.YtclfngbealdbgaaGreat.Ty
namespace Go.Proofs.YtclfngbealdbgaaGreat
open Go Go.TL
open Go.Proofs.YtclfngbealdbgaaGreat.Ty
set_option linter.unusedSimpArgs false
set_option linter.unusedVariables false
set_option maxRecDepth 20000
set_option maxHeartbeats 4000000
def QG (k : Int) : Int × Int :=
 if QO k 0 2 = true then (k, -1) else if QO k 3 18 = true then (3, k - 3) else if QO k 19 34 = true then (4, k - 19)
 else if eqB k 35 = true then (3, -1) else if eqB k 36 = true then (4, -1) else (5, -1)
theorem V1 (k : Int) (h : I64 k) : Qe Tryz.prog YT [N k] (· = .tup [N (QG k).1, N (QG k).2]) := by
 obtain ⟨ha, hb⟩ := h
 refine Qe.of_codeOf Zlf QA (by simp) ⟨_, rfl, by simp⟩ ?_
 simp (disch := omega) [Zeu]
 repeat' (first
  | with_reducible refine Qa (ZD _ _ _) (by simp) ?_
  | (with_reducible (first | refine Qo (fun hb_ => ?_) (fun hb_ => ?_) | refine Qn (fun hb_ => ?_) (fun hb_ => ?_)) <;> simp (disch := omega) [hb_])
  | simp (disch := omega))
 all_goals unfold QG
 ·simp_all
 ·rename_i h0
  rw [QM] at hb_
  rw [if_neg (by simp_all), if_pos (by rw [QM]; exact hb_)]
  simp (disch := omega) [Qf]
 ·rename_i h0 h1
  rw [QM] at hb_
  rw [if_neg (by simp_all), if_neg (by simp_all), if_pos (by rw [QM]; exact hb_)]
  simp (disch := omega) [Qf]
 all_goals simp_all
def Zf (l : List Int) (i : Int) : Int := if 0 ≤ i then Kn 1 (l.drop i.toNat) l.length else -1
theorem ZmQ {l : List Int} {i : Int} (h : i < 0 ∨ l.length ≤ i) : Zf l i = -1 := by
 unfold Zf
 split
 ·rw [List.drop_eq_nil_of_le (by omega)]; simp [Kn, Ty.skip]
 ·rfl
theorem ZoN {l : List Int} {i : Int} (h : 0 ≤ i) : Zf l i = -1 ∨ (i < Zf l i ∧ Zf l i ≤ l.length) := by
 unfold Zf Kn
 rw [if_pos h]
 cases hs : Ty.skip 1 (l.drop i.toNat) with
 | none => exact .inl rfl
 | some r =>
  have := Zgc hs
  simp only [List.length_drop] at this ⊢
  right; omega
theorem kidsN' (c : Int) : Wr c = if c = 0 then some 0 else if (1 ≤ c ∧ c ≤ 18) ∨ c = 35 then some 2 else if (19 ≤ c ∧ c ≤ 34) ∨ c = 36 then some 1 else none := by
 have e1 : (c = 1 ∨ c = 2 ∨ QL c = true) ↔ ((1 ≤ c ∧ c ≤ 18) ∨ c = 35) := by simp [QL]; omega
 have e2 : (W0 c = true) ↔ ((19 ≤ c ∧ c ≤ 34) ∨ c = 36) := by simp [W0]
 unfold Wr
 simp only [e1, e2]
theorem ZoP (c : Int) : ((QG c).1 = 0 ∧ Wr c = some 0) ∨ ((QG c).1 = 4 ∧ Wr c = some 1) ∨ ((QG c).1 = 5 ∧ Wr c = none) ∨ ((QG c).1 ≠ 0 ∧ (QG c).1 ≠ 4 ∧ (QG c).1 ≠ 5 ∧ Wr c = some 2) := by
 rw [kidsN']
 unfold QG
 simp only [QM, Qd]
 by_cases h0 : 0 ≤ c ∧ c ≤ 2
 ·rw [if_pos h0]
  by_cases h : c = 0
  ·simp [h]
  ·rw [if_neg h, if_pos (by omega)]; simp; omega
 rw [if_neg h0, if_neg (show ¬ c = 0 by omega)]
 by_cases h1 : 3 ≤ c ∧ c ≤ 18
 ·rw [if_pos h1, if_pos (by omega)]; simp
 rw [if_neg h1]
 by_cases h2 : 19 ≤ c ∧ c ≤ 34
 ·rw [if_pos h2, if_neg (by omega), if_pos (by omega)]; simp
 rw [if_neg h2]
 by_cases h3 : c = 35
 ·simp [h3]
 rw [if_neg h3]
 by_cases h4 : c = 36
 ·simp [h4]
 rw [if_neg h4, if_neg (by omega), if_neg (by omega)]
 simp
theorem tEnd_in {l : List Int} {i : Int} (h0 : 0 ≤ i) (h1 : i < l.length) (c : Int) (hc : c = l[i.toNat]'(by omega)) :
  ((QG c).1 = 0 → Zf l i = i + 1) ∧ ((QG c).1 = 4 → Zf l i = Zf l (i + 1)) ∧ ((QG c).1 = 5 → Zf l i = -1) ∧
  ((QG c).1 ≠ 0 → (QG c).1 ≠ 4 → (QG c).1 ≠ 5 → Zf l i = Zf l (Zf l (i + 1))) := by
 have hd : l.drop i.toNat = c :: l.drop (i.toNat + 1) := by rw [hc]; exact List.drop_eq_getElem_cons (by omega)
 have e1 : (i + 1).toNat = i.toNat + 1 := by omega
 have key : Zf l i = match Wr c with
   | none => -1
   | some k => Kn (0 + k) (l.drop (i.toNat + 1)) l.length := by
  unfold Zf Kn
  rw [if_pos h0, hd]
  simp only [Ty.skip]
  cases Wr c <;> rfl
 rcases ZoP c with ⟨a, b⟩ | ⟨a, b⟩ | ⟨a, b⟩ | ⟨a1, a2, a3, b⟩
 ·rw [b] at key
  refine ⟨fun _ => ?_, fun h => by omega, fun h => by omega, fun h => absurd a h⟩
  rw [key]; simp [Kn, Ty.skip]; omega
 ·rw [b] at key
  refine ⟨fun h => by omega, fun _ => ?_, fun h => by omega, fun _ h => absurd a h⟩
  rw [key]; unfold Zf; rw [if_pos (by omega), e1]
 ·rw [b] at key
  exact ⟨fun h => by omega, fun h => by omega, fun _ => key, fun _ _ h => absurd a h⟩
 ·rw [b] at key
  refine ⟨fun h => absurd h a1, fun h => absurd h a2, fun h => absurd h a3, fun _ _ _ => ?_⟩
  rw [key]
  show Kn (1 + 1) _ _ = _
  unfold Zf
  rw [if_pos (show 0 ≤ i + 1 by omega), e1]
  unfold Kn
  rw [Zii]
  cases hs : Ty.skip 1 (l.drop (i.toNat + 1)) with
  | none => simp
  | some r =>
   obtain ⟨m, hm, h2, h3⟩ := Zfz _ _ _ hs
   have hr : r.length ≤ l.length := by rw [hm]; simp
   simp only [Option.bind_some]
   rw [if_pos (by omega)]
   have : l.drop ((l.length : Int) - r.length).toNat = r := by
    rw [hm, List.drop_drop]
    simp only [List.length_drop] at h3 ⊢
    congr 1; omega
   rw [this]
def meas (l : List Int) (i : Int) : Nat := if i < 0 then 0 else (l.length + 1 - i).toNat
theorem ZhS (nl : Bool) (l : List Int) (hl : Lok l) (i : Int) (hi : I64 i) : Qe Tryz.prog W6 [L nl l, N i] (· = N (Zf l i)) := by
 have hlen := hl.1
 generalize hd : meas l i = d
 induction d using Nat.strongRecOn generalizing i with
 | _ d ih =>
  obtain ⟨ha, hb⟩ := hi
  refine Qe.of_codeOf Ziq QA (by simp) ⟨_, rfl, by simp⟩ ?_
  simp (disch := omega) [Zb1, Qf]
  (with_reducible first | refine Qo (fun h1 => ?_) (fun h1 => ?_) | refine Qn (fun h1 => ?_) (fun h1 => ?_))
  ·simp (disch := omega) [h1]
   simp only [Qh, Qg, Qm, Qj, Qd, Qc, Bool.not_true, Bool.not_false] at h1
   exact (ZmQ (.inl h1)).symm
  simp (disch := omega) [h1]
  (with_reducible first | refine Qo (fun h2 => ?_) (fun h2 => ?_) | refine Qn (fun h2 => ?_) (fun h2 => ?_))
  ·simp (disch := omega) [h2]
   simp only [Qh, Qg, Qm, Qj, Qd, Qc, Bool.not_true, Bool.not_false] at h2
   exact (ZmQ (.inr h2)).symm
  simp only [Qh, Qg, Qm, Qj, Qd, Qc, Bool.not_true, Bool.not_false] at h1 h2
  simp (disch := omega) [W9]
  have hci : I64 (l[i.toNat]'(by omega)) := hl.2 _ (List.getElem_mem _)
  generalize hc : l[i.toNat]'(by omega) = c at *
  obtain ⟨g0, g4, g5, g2⟩ := tEnd_in h1 h2 c hc.symm
  have i1 : Qe Tryz.prog W6 [L nl l, N (i + 1)] (· = N (Zf l (i + 1))) := ih _ (by rw [← hd]; unfold meas; rw [if_neg (by omega), if_neg (by omega)]; omega) (i + 1) ⟨by omega, by omega⟩ rfl
  have hr := ZoN (l := l) (i := i + 1) (by omega)
  have i2 : Qe Tryz.prog W6 [L nl l, N (Zf l (i + 1))] (· = N (Zf l (Zf l (i + 1)))) := ih _ (by rw [← hd]; unfold meas; split <;> (rw [if_neg (by omega)]; omega)) _ ⟨by omega, by omega⟩ rfl
  repeat' (first
  | with_reducible refine Qa (V1 _ hci) (by simp) ?_
  | with_reducible refine Qa (i1) (by simp) ?_
  | with_reducible refine Qa (i2) (by simp) ?_
  | (with_reducible (first | refine Qo (fun hb_ => ?_) (fun hb_ => ?_) | refine Qn (fun hb_ => ?_) (fun hb_ => ?_)) <;> simp (disch := omega) [hb_, Qf])
  | simp (disch := omega) [Qf])
  all_goals simp only [Qh, Qg, Qm, Qj, Qd, Qc, Bool.not_true, Bool.not_false] at *
  ·exact (g0 (by omega)).symm
  ·exact (g4 (by omega)).symm
  ·exact (g5 (by omega)).symm
  ·exact (g2 (by omega) (by omega) (by omega)).symm
theorem ZkD (l : List Int) : wty l = (QO l.length 1 40 && eqB (Zf l 0) l.length) := by
 have : (Ty.skip 1 l == some []) = eqB (Zf l 0) l.length := by
  unfold Zf Kn eqB
  simp only [Int.le_refl, if_true, Int.toNat_zero, List.drop_zero]
  cases h : Ty.skip 1 l with
  | none => simp
  | some r =>
   have := Zgc h
   cases r with
   | nil => simp
   | cons a r => simp; omega
 rw [← this, wty]
 congr 1
 rw [Bool.eq_iff_iff]; simp [QO, leB]; omega
theorem V3 (nl : Bool) (l : List Int) (hl : Lok l) : Qe Tryz.prog WV [L nl l] (· = B (wty l)) := by
 refine Qe.of_codeOf Zck QA (by simp) ⟨_, rfl, by simp⟩ ?_
 have h0 : I64 0 := ⟨by omega, by omega⟩
 have hl1 := hl.1
 simp (disch := omega) [Kd]
 repeat' (first
  | with_reducible refine Qa (ZD _ _ _) (by simp) ?_
  | with_reducible refine Qa (ZhS nl l hl 0 h0) (by simp) ?_
  | (with_reducible (first | refine Qo (fun hb_ => ?_) (fun hb_ => ?_) | refine Qn (fun hb_ => ?_) (fun hb_ => ?_)) <;> simp (disch := omega) [hb_])
  | simp (disch := omega))
 all_goals simp_all [ZkD]
theorem Ziu (c : Int) : QL c = (QO c 3 18 || eqB c 35) := by
 unfold QL QO leB eqB
 by_cases h : c = 35 <;> simp [h]
theorem Zl8 (c : Int) : W0 c = (QO c 19 34 || eqB c 36) := by
 unfold W0 QO leB eqB
 by_cases h : c = 36 <;> simp [h]
theorem Kk (c : Int) : QL c = true ↔ (3 ≤ c ∧ c ≤ 18) ∨ c = 35 := by simp [QL]
theorem ZfG (c : Int) : W0 c = true ↔ (19 ≤ c ∧ c ≤ 34) ∨ c = 36 := by simp [W0]
theorem ZmA (c : Int) : Qe Tryz.prog Jy [N c] (· = B (QL c)) := by
 refine Qe.of_codeOf ZgX QA (by simp) ⟨_, rfl, by simp⟩ ?_
 simp (disch := omega) [ZbH]
 repeat' (first
  | with_reducible refine Qa (Zdc _ _ _) (by simp) ?_
  | (with_reducible (first | refine Qo (fun hb_ => ?_) (fun hb_ => ?_) | refine Qn (fun hb_ => ?_) (fun hb_ => ?_)) <;> simp (disch := omega) [hb_])
  | simp (disch := omega))
 all_goals simp_all [Ziu]
theorem ZkW (c : Int) : Qe Tryz.prog Jp [N c] (· = B (W0 c)) := by
 refine Qe.of_codeOf ZlQ QA (by simp) ⟨_, rfl, by simp⟩ ?_
 simp (disch := omega) [Zef]
 repeat' (first
  | with_reducible refine Qa (Zdc _ _ _) (by simp) ?_
  | (with_reducible (first | refine Qo (fun hb_ => ?_) (fun hb_ => ?_) | refine Qn (fun hb_ => ?_) (fun hb_ => ?_)) <;> simp (disch := omega) [hb_])
  | simp (disch := omega))
 all_goals simp_all [Zl8]
def Zgh (c : Int) : Int := match Wr c with
 | some n => n
 | none => -1
theorem kidsI' (c : Int) : Zgh c = if c = 0 then 0 else if c = 1 ∨ c = 2 ∨ QL c = true then 2 else if W0 c = true then 1 else -1 := by
 unfold Zgh Wr
 split <;> rename_i h <;> (repeat' split at h) <;> simp_all
 all_goals omega
theorem Zpt (c : Int) : Qe Tryz.prog Ka [N c] (· = N (Zgh c)) := by
 refine Qe.of_codeOf ZjM QA (by simp) ⟨_, rfl, by simp⟩ ?_
 simp (disch := omega) [Zdj]
 repeat' (first
  | with_reducible refine Qa (ZmA _) (by simp) ?_
  | with_reducible refine Qa (ZkW _) (by simp) ?_
  | (with_reducible (first | refine Qo (fun hb_ => ?_) (fun hb_ => ?_) | refine Qn (fun hb_ => ?_) (fun hb_ => ?_)) <;> simp (disch := omega) [hb_])
  | simp (disch := omega))
 all_goals simp_all [kidsI', Qh, Qg, Qm, Qj, Qd, Qc, Bool.not_true, Bool.not_false]
def W2 (c : Int) : Int := if 35 ≤ c then -1 else if 19 ≤ c then c - 19 else c - 3
theorem Zce (c : Int) (h : I64 c) (hg : 0 ≤ c) : Qe Tryz.prog X1 [N c] (· = N (W2 c)) := by
 refine Qe.of_codeOf Zg3 QA (by simp) ⟨_, rfl, by simp⟩ ?_
 obtain ⟨h1, h2⟩ := h
 simp (disch := omega) [Zb4, Qf]
 repeat' (first
  | (with_reducible (first | refine Qo (fun hb_ => ?_) (fun hb_ => ?_) | refine Qn (fun hb_ => ?_) (fun hb_ => ?_)) <;> simp (disch := omega) [hb_, Qf])
  | simp (disch := omega) [Qf])
 all_goals simp only [Qh, Qg, Qm, Qj, Qd, Qc, Bool.not_true, Bool.not_false, W2] at *
 ·rw [if_pos hb_]
 ·rename_i h
  rw [if_neg (by omega), if_pos hb_]
 ·rename_i h
  rw [if_neg (by omega), if_neg (by omega)]
theorem Znc (nl : Bool) (l : List Int) (hl : Lok l) (i : Nat) (hi : i ≤ l.length) : Qe Tryz.prog KM [L nl l, N i] (· = N (Zf l i)) := by
 have hlen := hl.1
 refine Qe.of_codeOf Zk0 QA (by simp) ⟨_, rfl, by simp⟩ ?_
 simp (disch := omega) [Zep]
 refine Xm l.length i (fun j t _ => ∃ m : Nat, t 6 = N j ∧ t 5 = N (m + 1) ∧ m ≤ j ∧ Zf l i = Kn (m + 1) (l.drop j) l.length) ⟨0, by simp, by simp, by omega, by unfold Zf; rw [if_pos (by omega)]; simp⟩ hi ?_
 rintro j t1 hh hf hj ⟨m, e6, e5, hm, he⟩
 (have e0 := hf 0 (by kernel_rfl); clear hf; simp [] at e0)
 simp (disch := omega) [e0, e5, e6]
 (with_reducible first | refine Qo (fun h6 => ?_) (fun h6 => ?_) | refine Qn (fun h6 => ?_) (fun h6 => ?_))
 ·simp only [Qh, Qg, Qm, Qj, Qd, Qc, Bool.not_true, Bool.not_false] at h6
  simp (disch := omega) [e0, e5, e6, W9]
  have hd : l.drop j = l[j] :: l.drop (j + 1) := List.drop_eq_getElem_cons (by omega)
  generalize l[j]'(by omega) = c at *
  have key : Zf l i = match Wr c with
    | none => -1
    | some q => Kn (m + q) (l.drop (j + 1)) l.length := by
   rw [he, hd]
   unfold Kn
   simp only [Ty.skip]
   cases Wr c <;> rfl
  refine Qa (Zpt c) (by simp) ?_
  cases hq : Wr c with
  | none =>
   rw [hq] at key
   have hk1 : Zgh c = -1 := by simp [Zgh, hq]
   rw [hk1]
   have hn1 : ltB (-1) 0 = true := by simp [Qh, Qg, Qm, Qj, Qd, Qc, Bool.not_true, Bool.not_false]
   repeat' (first
  | (with_reducible (first | refine Qo (fun hb_ => ?_) (fun hb_ => ?_) | refine Qn (fun hb_ => ?_) (fun hb_ => ?_)) <;> simp (disch := omega) [hb_, e0, e5, e6, hn1])
  | simp (disch := omega) [e0, e5, e6, hn1])
   exact key.symm
  | some q =>
   rw [hq] at key
   have hk1 : Zgh c = q := by simp [Zgh, hq]
   have hq2 := Zns hq
   rw [hk1]
   simp (disch := omega) [e0, e5, e6, Qf]
   repeat' (first
  | (with_reducible (first | refine Qo (fun hb_ => ?_) (fun hb_ => ?_) | refine Qn (fun hb_ => ?_) (fun hb_ => ?_)) <;> simp (disch := omega) [hb_, e0, e5, e6, Qf])
  | simp (disch := omega) [e0, e5, e6, Qf])
   all_goals simp only [Qh, Qg, Qm, Qj, Qd, Qc, Bool.not_true, Bool.not_false] at *
   ·omega
   ·rw [key]
    show _ = Kn (m + q) _ _
    rw [show m + q = 0 by omega]; simp [Kn, Ty.skip]; omega
   ·refine ⟨by omega, m + q - 1, by omega, by omega, ?_⟩
    rw [key, show m + q - 1 + 1 = m + q by omega]
 ·simp only [Qh, Qg, Qm, Qj, Qd, Qc, Bool.not_true, Bool.not_false] at h6
  simp (disch := omega)
  rw [he, List.drop_eq_nil_of_le (by omega)]; simp [Kn, Ty.skip]
theorem Zky (nl : Bool) (l : List Int) (hl : Lok l) : Qe Tryz.prog J6 [L nl l] (· = B (wty l)) := by
 refine Qe.of_codeOf ZjB QA (by simp) ⟨_, rfl, by simp⟩ ?_
 have hl1 := hl.1
 have hE := Znc nl l hl 0 (by omega)
 simp (disch := omega) [Zc9]
 repeat' (first
  | with_reducible refine Qa (hE) (by simp) ?_
  | (with_reducible (first | refine Qo (fun hb_ => ?_) (fun hb_ => ?_) | refine Qn (fun hb_ => ?_) (fun hb_ => ?_)) <;> simp (disch := omega) [hb_])
  | simp (disch := omega))
 ·rw [ZkD, hb_]
  simp_all [QO, ltB, leB]
  omega
 all_goals simp_all [ZkD, QO]
def okC (size : Int) (closed : Bool) (c : Int) : Bool := !(QL c || W0 c) || (ltB (W2 c) size && (!closed || leB 0 (W2 c)))
def Yl (size : Int) (closed : Bool) (l : List Int) (i : Nat) : Bool := okC size closed (l.getD i 0)
def Zb (size : Int) (closed : Bool) (l : List Int) : Bool := XZ (Yl size closed l) l.length
theorem Zom (c : Int) : (ltB 0 (Zgh c) && ltB 2 c) = (QL c || W0 c) := by
 rw [Bool.eq_iff_iff]
 simp only [kidsI', Bool.and_eq_true, Bool.or_eq_true, Qh, Qg, Qm, Qj, Qd, Qc, Bool.not_true, Bool.not_false, Kk, ZfG]
 repeat' split
 all_goals omega
theorem Zgl (nl : Bool) (l : List Int) (hl : Lok l) (size : Int) (hs : I64 size) (closed : Bool) : Qe Tryz.prog Z2 [L nl l, N size, B closed] (· = B (Zb size closed l)) := by
 have hlen := hl.1
 refine Qe.of_codeOf Zgv QA (by simp) ⟨_, rfl, by simp⟩ ?_
 simp (disch := omega) [Za8]
 refine Xm l.length 0 (fun i t _ => t 7 = N i ∧ XZ (Yl size closed l) i = true) (by simp) (by omega) ?_
 rintro i t1 hh hf hi ⟨e7, hj⟩
 (have e0 := hf 0 (by kernel_rfl); have e1 := hf 1 (by kernel_rfl); have e2 := hf 2 (by kernel_rfl); clear hf; simp [] at e0 e1 e2)
 simp (disch := omega) [e0, e1, e2, e7]
 (with_reducible first | refine Qo (fun h6 => ?_) (fun h6 => ?_) | refine Qn (fun h6 => ?_) (fun h6 => ?_))
 ·simp only [Qh, Qg, Qm, Qj, Qd, Qc, Bool.not_true, Bool.not_false] at h6
  have hc := hl.at (i := i) (by omega)
  have hget : Yl size closed l i = okC size closed (l[i]'(by omega)) := by simp [Yl, show i < l.length by omega]
  obtain ⟨c, hce⟩ : ∃ c, l[i]'(by omega) = c := ⟨_, rfl⟩
  rw [hce] at hc hget
  have hkg := Zom c
  simp (disch := omega) [e0, e1, e2, e7, W9, hce]
  refine Qa (Zpt c) (by simp) ?_
  refine ZeP (fun t h => t 27 = B (QL c || W0 c)) ?_ ?_
  ·repeat' (first
  | (with_reducible (first | refine Qo (fun hb_ => ?_) (fun hb_ => ?_) | refine Qn (fun hb_ => ?_) (fun hb_ => ?_)) <;> simp (disch := omega) [hb_, e0, e1, e2, e7, W9, hce])
  | simp (disch := omega) [e0, e1, e2, e7, W9, hce])
   all_goals simp_all
  ·rintro t2 hh hf h27
   (have f0 := hf 0 (by kernel_rfl); have f1 := hf 1 (by kernel_rfl); have f2 := hf 2 (by kernel_rfl); have f7 := hf 7 (by kernel_rfl); clear hf; simp [e0, e1, e2, e7] at f0 f1 f2 f7)
   simp (disch := omega) [h27]
   (with_reducible first | refine Qo (fun h8 => ?_) (fun h8 => ?_) | refine Qn (fun h8 => ?_) (fun h8 => ?_))
   ·have hc0 : 0 ≤ c := by simp only [Bool.or_eq_true, Kk, ZfG] at h8; omega
    rw [okC, h8, ZaL] at hget
    cases closed <;> repeat' (first
  | with_reducible refine Qa (Zce c hc hc0) (by simp) ?_
  | (with_reducible (first | refine Qo (fun hb_ => ?_) (fun hb_ => ?_) | refine Qn (fun hb_ => ?_) (fun hb_ => ?_)) <;> simp (disch := omega) [hb_, f0, f1, f2, f7, W9, hce])
  | simp (disch := omega) [f0, f1, f2, f7, W9, hce])
    ·exact Xb (p := Yl size false l) (i := i) (by omega) (by simp [hget, hb_])
    ·exact ⟨by omega, Qf (by omega), by simp [Wq, hj, hget, hb_]⟩
    ·exact Xb (p := Yl size true l) (i := i) (by omega) (by simp [hget, hb_])
    ·exact Xb (p := Yl size true l) (i := i) (by omega) (by rw [ZaL] at hb_; simp at hb_; simp [hget, hb_])
    ·refine ⟨by omega, Qf (by omega), ?_⟩
     rw [ZaL] at hb_
     simp_all [Wq]
   ·simp (disch := omega) [f0, f1, f2, f7]
    exact ⟨by omega, Qf (by omega), by simp [Wq, hj, hget, okC, h8]⟩
 ·simp only [Qh, Qg, Qm, Qj, Qd, Qc, Bool.not_true, Bool.not_false] at h6
  simp (disch := omega)
  rw [← hj, show i = l.length by omega, Zb]
theorem ZmT {c : Int} (h : 0 ≤ c ∧ c ≤ 36) : ((eqB (QG c).1 3 || eqB (QG c).1 4) = (QL c || W0 c)) ∧ ((QL c || W0 c) = true → (QG c).2 = W2 c) := by
 unfold QG W2
 simp only [QM, Qd]
 refine ⟨?_, fun h1 => ?_⟩
 ·rw [Bool.eq_iff_iff]
  simp only [Bool.or_eq_true, Kk, ZfG, Qd]
  repeat' split
  all_goals (simp; try omega)
 ·simp only [Bool.or_eq_true, Kk, ZfG] at h1
  repeat' split
  all_goals (simp; try omega)
theorem Zf0 {c : Int} {k : Nat} (h : Wr c = some k) : 0 ≤ c ∧ c ≤ 36 := by
 rw [kidsN'] at h
 repeat' split at h
 all_goals first | omega | simp at h
theorem ZhT : ∀ (l : List Int) (n : Nat) (r : List Int), Ty.skip n l = some r → ∀ i, i + r.length < l.length → 0 ≤ l.getD i 0 ∧ l.getD i 0 ≤ 36
 | l, 0, r, h, i, hi => by simp [Ty.skip] at h; subst h; omega
 | [], n + 1, r, h, i, hi => by simp [Ty.skip] at h
 | c :: l, n + 1, r, h, i, hi => by
  simp only [Ty.skip] at h
  cases hk : Wr c with
  | none => simp [hk] at h
  | some k =>
   simp only [hk] at h
   cases i with
   | zero => simpa using Zf0 hk
   | succ i =>
    have := ZhT l (n + k) r h i (by simp at hi; omega)
    simpa using this
theorem ZfK {l : List Int} (h : wty l = true) (i : Nat) (hi : i < l.length) : 0 ≤ l.getD i 0 ∧ l.getD i 0 ≤ 36 := by
 simp [wty] at h
 exact ZhT l 1 [] h.2 i (by simpa using hi)
theorem Zgn {s : GSys} (t : s.Tab) (nl : Bool) (l : List Int) (hl : Lok l) : Qe Tryz.prog ZX [s.lv, L nl l] (· = B (wty l && Zb s.size true l)) := by
 have hlen := hl.1
 have h2 := t.lo; have h16 := t.hi
 refine Qe.of_codeOf ZgL QA (by simp) ⟨_, rfl, by simp⟩ ?_
 simp (disch := omega) [Zbl, Qw, Qs]
 refine Qa (V3 nl l hl) (by simp) ?_
 simp (disch := omega)
 (with_reducible first | refine Qo (fun h1 => ?_) (fun h1 => ?_) | refine Qn (fun h1 => ?_) (fun h1 => ?_))
 ·rw [h1, Bool.true_and]
  simp (disch := omega)
  refine Xm l.length 0 (fun i t _ => t 14 = N i ∧ XZ (Yl s.size true l) i = true) (by simp) (by omega) ?_
  rintro i t1 hh hf hi ⟨e14, hj⟩
  (have e2 := hf 2 (by kernel_rfl); have e12 := hf 12 (by kernel_rfl); have e13 := hf 13 (by kernel_rfl); clear hf; simp [] at e2 e12 e13)
  simp (disch := omega) [e2, e12, e13, e14]
  (with_reducible first | refine Qo (fun h6 => ?_) (fun h6 => ?_) | refine Qn (fun h6 => ?_) (fun h6 => ?_))
  ·simp only [Qh, Qg, Qm, Qj, Qd, Qc, Bool.not_true, Bool.not_false] at h6
   have hc := hl.at (i := i) (by omega)
   have hcr := ZfK h1 i (by omega)
   have hget : Yl s.size true l i = okC s.size true (l[i]'(by omega)) := by simp [Yl, show i < l.length by omega]
   simp only [List.getD_eq_getElem?_getD, List.getElem?_eq_getElem (show i < l.length by omega), Option.getD_some] at hcr
   obtain ⟨c, hce⟩ : ∃ c, l[i]'(by omega) = c := ⟨_, rfl⟩
   rw [hce] at hc hget hcr
   obtain ⟨hs1, hs2⟩ := ZmT hcr
   simp (disch := omega) [e2, e12, e13, e14, W9, hce]
   refine Qa (V1 c hc) (by simp) ?_
   simp (disch := omega) [e2, e12, e13, e14]
   rw [okC] at hget
   have hI : I64 s.size := ⟨by omega, by omega⟩
   have hlo : -9223372036854775808 < s.size := by omega
   have hwb : QO (QG c).2 0 (s.size - 1) = (leB 0 (QG c).2 && ltB (QG c).2 s.size) := by
    rw [Bool.eq_iff_iff]; simp [QO, Qh, Qg, Qm, Qj, Qd, Qc, Bool.not_true, Bool.not_false]; omega
   simp only [Bool.not_true, Bool.false_or] at hget
   repeat' (first
  | with_reducible refine Qa (Zlb s hI hlo _) (by simp) ?_
  | (with_reducible (first | refine Qo (fun hb_ => ?_) (fun hb_ => ?_) | refine Qn (fun hb_ => ?_) (fun hb_ => ?_)) <;> simp (disch := omega) [hb_, e2, e12, e13, e14])
  | simp (disch := omega) [e2, e12, e13, e14])
   all_goals first
    | exact ⟨by omega, Qf (by omega), by simp_all [Wq]⟩
    | exact Xb (p := Yl s.size true l) (i := i) (by omega) (by cases hB : leB 0 (W2 c) <;> cases hC : QL c <;> cases hD : W0 c <;> simp_all)
  ·simp only [Qh, Qg, Qm, Qj, Qd, Qc, Bool.not_true, Bool.not_false] at h6
   simp (disch := omega)
   rw [show i = l.length by omega] at hj
   rw [Zb, hj]
 ·simp_all
end Go.Proofs.YtclfngbealdbgaaGreat
namespace Go.Proofs.YtclfngbealdbgaaGreat
open Go Go.TL
open Go.Proofs.YtclfngbealdbgaaGreat.Ty
set_option linter.unusedSimpArgs false
set_option linter.unusedVariables false
set_option maxRecDepth 20000
set_option maxHeartbeats 4000000
inductive GTerm where
 | mk (op n : Int) (nl1 : Bool) (ty : List Int) (nl2 : Bool) (ks : List GTerm)
mutual
def GTerm.cells : GTerm → List LV
 | .mk op n nl1 ty nl2 ks => [N op, N n, L nl1 ty, .sl false nl2 4 (Wg ks)]
def Wg : List GTerm → List (List LV)
 | [] => []
 | k :: ks => k.cells :: Wg ks
end
abbrev GTerm.lv (t : GTerm) : LV := .agg t.cells
mutual
def GTerm.size : GTerm → Nat
 | .mk _ _ _ _ _ ks => XI ks + 1
def XI : List GTerm → Nat
 | [] => 0
 | k :: ks => k.size + XI ks
end
mutual
def GTerm.wf : GTerm → Prop
 | .mk op n _ ty _ ks => I64 op ∧ I64 n ∧ Lok ty ∧ ks.length ≤ 1099511627776 ∧ wfs ks
def wfs : List GTerm → Prop
 | [] => True
 | k :: ks => k.wf ∧ wfs ks
end
theorem Zcz : ∀ ks : List GTerm, Wg ks = ks.map GTerm.cells
 | [] => by simp [Wg]
 | k :: ks => by simp [Wg, Zcz ks]
@[simp] theorem ZcW (ks : List GTerm) : (Wg ks).length = ks.length := by simp [Zcz]
theorem ZaR : ∀ {ks : List GTerm}, wfs ks ↔ ∀ k ∈ ks, k.wf
 | [] => by simp [wfs]
 | k :: ks => by simp [wfs, ZaR (ks := ks)]
theorem GTerm.size_pos (t : GTerm) : 0 < t.size := by cases t; simp [GTerm.size]
theorem Zkh : ∀ a b : List GTerm, XI (a ++ b) = XI a + XI b
 | [], b => by simp [XI]
 | k :: a, b => by simp [XI, Zkh a b]; omega
theorem Zd2 {ks : List GTerm} {i : Nat} (h : i < ks.length) : XI (ks.drop i) = ks[i].size + XI (ks.drop (i + 1)) := by
 rw [List.drop_eq_getElem_cons h, XI]
theorem Zd {ks : List GTerm} {i : Nat} (h : i < ks.length) : ks[i].size ≤ XI ks := by
 have := Zd2 h
 have h2 := Zkh (ks.take i) (ks.drop i)
 rw [List.take_append_drop] at h2
 omega
mutual
theorem ZfY : ∀ t : GTerm, shareAll t.cells = t.cells
 | .mk op n nl1 ty nl2 ks => by
  simp only [GTerm.cells, shareAll, share, ZaI ks]
  congr 3
  simp
theorem ZaI : ∀ ks : List GTerm, Qu (Wg ks) = Wg ks
 | [] => by simp [Wg, Qu]
 | k :: ks => by simp only [Wg, Qu, ZfY k, ZaI ks]
end
attribute [simp] ZfY ZaI
@[simp] theorem cells_length (t : GTerm) : t.cells.length = 4 := by cases t; simp [GTerm.cells]
@[simp] theorem take_cells (t : GTerm) : t.cells.take 4 = t.cells := List.take_of_length_le (by simp)
mutual
theorem low_cells (k : Nat) : ∀ t : GTerm, QD k t.cells
 | .mk op n nl1 ty nl2 ks => by
  have := Zdw k ks
  simp [GTerm.cells, this]
theorem Zdw (k : Nat) : ∀ ks : List GTerm, Ws k (Wg ks)
 | [] => by simp [Wg]
 | t :: ks => by simp [Wg, low_cells k t, Zdw k ks]
end
attribute [simp] low_cells Zdw
@[simp] theorem alive_cells (t : GTerm) : Wu t.cells = true := by
 cases t; simp [GTerm.cells]
theorem ZhC (ks : List GTerm) (u nl : Bool) (i : Nat) (h : i < ks.length) : QN 4 (.sl u nl 4 (Wg ks)) (i : Int) = some (.rp (ks[i]'h).cells) := by
 simp only [QN]
 rw [if_pos ⟨trivial, by omega, by simpa using h⟩]
 have : (Wg ks).getD (i : Int).toNat [] = (ks[i]'h).cells := by
  simp [List.getD_eq_getElem?_getD, Zcz, h]
 rw [this]
 simp
def YG (op : Int) : Int := if op = 0 ∨ op = 1 then 0 else if op = 2 ∨ op = 4 ∨ op = 5 ∨ op = 10 ∨ op = 12 then 2 else if op = 3 ∨ op = 8 then 3 else if op = 6 ∨ op = 7 ∨ op = 9 ∨ op = 11 then 1 else -1
def JD (op : Int) : Bool := eqB op 5 || eqB op 8 || eqB op 9 || eqB op 11 || eqB op 12
def Xw (op : Int) : Bool := eqB op 6 || eqB op 7 || eqB op 9
def Qt (op k : Int) : Int := if op = 5 ∧ k = 1 then 2 else if (op = 8 ∧ 0 < k) ∨ op = 9 ∨ (op = 12 ∧ k = 1) then 1 else 0
theorem Zlm (op k : Int) : Qe Tryz.prog VJ [N op, N k] (· = N (Qt op k)) := by
 refine Qe.of_codeOf ZmB QA (by simp) ⟨_, rfl, by simp⟩ ?_
 simp (disch := omega) [Zf6]
 repeat' (first
  | (with_reducible (first | refine Qo (fun hb_ => ?_) (fun hb_ => ?_) | refine Qn (fun hb_ => ?_) (fun hb_ => ?_)) <;> simp (disch := omega) [hb_])
  | simp (disch := omega))
 all_goals simp only [Qh, Qg, Qm, Qj, Qd, Qc, Bool.not_true, Bool.not_false] at *
 all_goals simp_all [Qt]
theorem ZkB (op k : Int) : Qe Tryz.prog Kb [N op, N k] (· = N (Qt op k)) := by
 refine Qe.of_codeOf Zjf QA (by simp) ⟨_, rfl, by simp⟩ ?_
 simp (disch := omega) [Zc8]
 repeat' (first
  | (with_reducible (first | refine Qo (fun hb_ => ?_) (fun hb_ => ?_) | refine Qn (fun hb_ => ?_) (fun hb_ => ?_)) <;> simp (disch := omega) [hb_])
  | simp (disch := omega))
 all_goals simp only [Qh, Qg, Qm, Qj, Qd, Qc, Bool.not_true, Bool.not_false] at *
 all_goals simp_all [Qt]
theorem l2Has_ok (op : Int) : Qe Tryz.prog Za4 [N op] (· = B (JD op)) := by
 refine Qe.of_codeOf Zlk QA (by simp) ⟨_, rfl, by simp⟩ ?_
 simp (disch := omega) [ZeE]
 repeat' (first
  | (with_reducible (first | refine Qo (fun hb_ => ?_) (fun hb_ => ?_) | refine Qn (fun hb_ => ?_) (fun hb_ => ?_)) <;> simp (disch := omega) [hb_])
  | simp (disch := omega))
 all_goals simp_all [JD]
theorem ZoF (op : Int) : Qe Tryz.prog Vj [N op] (· = B (Xw op)) := by
 refine Qe.of_codeOf Zhn QA (by simp) ⟨_, rfl, by simp⟩ ?_
 simp (disch := omega) [Zcp]
 repeat' (first
  | (with_reducible (first | refine Qo (fun hb_ => ?_) (fun hb_ => ?_) | refine Qn (fun hb_ => ?_) (fun hb_ => ?_)) <;> simp (disch := omega) [hb_])
  | simp (disch := omega))
 all_goals simp_all [Xw]
theorem ops13 {op : Int} (h : QO op 0 12 = true) : op = 0 ∨ op = 1 ∨ op = 2 ∨ op = 3 ∨ op = 4 ∨ op = 5 ∨ op = 6 ∨ op = 7 ∨ op = 8 ∨ op = 9 ∨ op = 10 ∨ op = 11 ∨ op = 12 := by
 rw [QM] at h; omega
theorem ZpT (op : Int) : Qe Tryz.prog VV [N op] (· = N (YG op)) := by
 refine Qe.of_codeOf ZiO QA (by simp) ⟨_, rfl, by simp⟩ ?_
 simp (disch := omega) [Zdo]
 refine Qa (Zdc _ _ _) (by simp) ?_
 simp (disch := omega)
 (with_reducible first | refine Qo (fun h1 => ?_) (fun h1 => ?_) | refine Qn (fun h1 => ?_) (fun h1 => ?_))
 ·rcases ops13 h1 with h | h | h | h | h | h | h | h | h | h | h | h | h <;> subst h <;> simp [QN, YG, Ql]
 ·rw [ZeD] at h1
  simp [YG]
  repeat' split
  all_goals omega
def wordS (op : Int) : Value := if op = 0 then .string ⟨#[120]⟩ else if op = 2 then .string ⟨#[97, 100, 100]⟩ else if op = 3 then .string ⟨#[105, 102]⟩ else if op = 4 then .string ⟨#[112, 97, 105, 114]⟩ else if op = 5 then .string ⟨#[115, 112, 108, 105, 116]⟩
 else if op = 6 then .string ⟨#[108, 101, 102, 116]⟩ else if op = 7 then .string ⟨#[114, 105, 103, 104, 116]⟩ else if op = 8 then .string ⟨#[99, 97, 115, 101]⟩ else if op = 9 then .string ⟨#[102, 117, 110]⟩
 else if op = 10 then .string ⟨#[97, 112, 112]⟩ else if op = 11 then .string ⟨#[98, 111, 120]⟩ else if op = 12 then .string ⟨#[111, 112, 101, 110]⟩ else .string ⟨#[]⟩
abbrev wordV (op : Int) : LV := .sc (wordS op)
def ZiE (op : Int) : LV := if QO op 0 12 = true then .tup [.agg [wordV op, N (YG op), B (JD op), B (Xw op)], B true] else .tup [.agg [.sc (.string ⟨#[]⟩), N 0, B false, B false], B false]
@[simp] theorem low_formV (op : Int) (k : Nat) : Low k (ZiE op) := by
 unfold ZiE; split <;> simp
theorem ZpH (op : Int) : Qe Tryz.prog VR [N op] (· = ZiE op) := by
 refine Qe.of_codeOf ZiK QA (by simp) ⟨_, rfl, by simp⟩ ?_
 simp (disch := omega) [Zc3]
 refine Qa (ZD _ _ _) (by simp) ?_
 simp (disch := omega)
 (with_reducible first | refine Qo (fun h1 => ?_) (fun h1 => ?_) | refine Qn (fun h1 => ?_) (fun h1 => ?_))
 ·rcases ops13 h1 with h | h | h | h | h | h | h | h | h | h | h | h | h <;> subst h <;> simp [QN, Ql, YG, ZiE, wordS, JD, Xw, QO, leB, eqB]
 ·simp [ZiE, h1]
end Go.Proofs.YtclfngbealdbgaaGreat
namespace Go.Proofs.YtclfngbealdbgaaGreat
open Go Go.TL
set_option linter.unusedSimpArgs false
set_option linter.unusedVariables false
set_option maxRecDepth 20000
set_option maxHeartbeats 4000000
mutual
def GTerm.raw : GTerm → Prop
 | .mk op n _ ty _ ks => I64 op ∧ I64 n ∧ (ty.length ≤ 9223372036854775807 ∧ ∀ c ∈ ty, I64 c) ∧ ks.length ≤ 9223372036854775807 ∧ raws ks
def raws : List GTerm → Prop
 | [] => True
 | k :: ks => k.raw ∧ raws ks
end
mutual
def GTerm.w : GTerm → Nat
 | .mk _ _ _ ty _ ks => ty.length + (ks.length + tws ks)
def tws : List GTerm → Nat
 | [] => 0
 | k :: ks => k.w + tws ks
end
mutual
def GTerm.norm : GTerm → GTerm
 | .mk op n _ ty _ ks => .mk op n false ty false (ZmH ks)
def ZmH : List GTerm → List GTerm
 | [] => []
 | k :: ks => k.norm :: ZmH ks
end
mutual
def GTerm.own : GTerm → List LV
 | .mk op n _ ty _ ks => [N op, N n, OU true false ty, .sl true false 4 (owns ks)]
def owns : List GTerm → List (List LV)
 | [] => []
 | k :: ks => k.own :: owns ks
end
mutual
theorem Zh4 : ∀ t : GTerm, shareAll t.own = t.norm.cells
 | .mk op n nl1 ty nl2 ks => by
  simp only [GTerm.own, GTerm.norm, GTerm.cells, shareAll, share, ZdC ks]
  congr 3
  simp
theorem ZdC : ∀ ks : List GTerm, Qu (owns ks) = Wg (ZmH ks)
 | [] => by simp [owns, ZmH, Wg, Qu]
 | k :: ks => by simp only [owns, ZmH, Wg, Qu, Zh4 k, ZdC ks]
end
attribute [simp] Zh4 ZdC
@[simp] theorem own_length (t : GTerm) : t.own.length = 4 := by cases t; simp [GTerm.own]
@[simp] theorem take_own (t : GTerm) : t.own.take 4 = t.own := List.take_of_length_le (by simp)
@[simp] theorem alive_own (t : GTerm) : Wu t.own = true := by cases t; simp [GTerm.own]
mutual
theorem ZmZ (k : Nat) : ∀ t : GTerm, QD k t.own
 | .mk op n nl1 ty nl2 ks => by
  have := ZiG k ks
  simp [GTerm.own, this]
theorem ZiG (k : Nat) : ∀ ks : List GTerm, Ws k (owns ks)
 | [] => by simp [owns]
 | t :: ks => by simp [owns, ZmZ k t, ZiG k ks]
end
attribute [simp] ZmZ ZiG
mutual
def GTerm.same : GTerm → GTerm → Bool
 | .mk op n _ ty _ ks, .mk op' n' _ ty' _ ks' => eqB op op' && (eqB n n' && ((ty == ty') && sames ks ks'))
def sames : List GTerm → List GTerm → Bool
 | [], [] => true
 | a :: a', b :: b' => a.same b && sames a' b'
 | _, _ => false
end
end Go.Proofs.YtclfngbealdbgaaGreat
namespace Go.Proofs.YtclfngbealdbgaaGreat
open Go Go.TL
set_option linter.unusedSimpArgs false
set_option linter.unusedVariables false
set_option maxRecDepth 20000
set_option maxHeartbeats 4000000
end Go.Proofs.YtclfngbealdbgaaGreat
namespace Go.Proofs.YtclfngbealdbgaaGreat
open Go Go.TL
set_option linter.unusedSimpArgs false
set_option linter.unusedVariables false
set_option maxRecDepth 20000
set_option maxHeartbeats 4000000
theorem GSys.isJoin_n {s : GSys} {n : Nat} (hn : s.size = n) (a b g : Int) : s.isJoin a b g = (s.le a g && s.le b g && XZ (fun h => s.jn a b g h) n) := by
 simp [GSys.isJoin, hn]
section
variable {s : GSys} (t : s.Tab) {a b : Int} (ha : s.G a) (hb : s.G b)
include t ha hb
theorem KP : Qe Tryz.prog XU [s.lv, N a, N b] (· = N (s.join a b)) := by
 refine Qe.of_codeOf Zju QA (by simp) ⟨_, rfl, by simp⟩ ?_
 have h2 := t.lo; have h16 := t.hi
 obtain ⟨n, hn⟩ : ∃ n : Nat, s.size = n := ⟨s.size.toNat, by omega⟩
 simp (disch := omega) [Zdu, Qw, Qs]
 refine Xm n 0 (fun g t _ => t 7 = N g ∧ s.join a b = YL (s.isJoin a b) g (n - g)) (by simp [GSys.join, hn]) (by omega) ?_
 rintro g t1 hh hf hg ⟨e7, hj⟩
 (have e1 := hf 1 (by kernel_rfl); have e2 := hf 2 (by kernel_rfl); have e3 := hf 3 (by kernel_rfl); clear hf; simp [] at e1 e2 e3)
 simp (disch := omega) [e1, e2, e3, e7]
 (with_reducible first | refine Qo (fun h1 => ?_) (fun h1 => ?_) | refine Qn (fun h1 => ?_) (fun h1 => ?_))
 ·have hGg := GSys.Glt h1
  simp (disch := omega) [e1, e2, e3, e7]
  refine Qa (XK t ha hGg) (by simp) ?_
  refine ZeP (fun t h => t 8 = B (s.le a g && s.le b g)) ?_ ?_
  ·repeat' (first
  | with_reducible refine Qa (XK t (by first | assumption | exact GSys.Gpl t _ _ | exact GSys.Gtm t _ _ | exact GSys.Glt (by assumption) | exact GSys.G0 t | exact GSys.G1 t) (by first | assumption | exact GSys.Gpl t _ _ | exact GSys.Gtm t _ _ | exact GSys.Glt (by assumption) | exact GSys.G0 t | exact GSys.G1 t)) (by simp) ?_
  | (with_reducible (first | refine Qo (fun hb_ => ?_) (fun hb_ => ?_) | refine Qn (fun hb_ => ?_) (fun hb_ => ?_)) <;> simp (disch := omega) [hb_, e1, e2, e3, e7])
  | simp (disch := omega) [e1, e2, e3, e7])
  ·rintro t2 hh hf2 e8
   (have f1 := hf2 1 (by kernel_rfl); have f2 := hf2 2 (by kernel_rfl); have f3 := hf2 3 (by kernel_rfl); have f7 := hf2 7 (by kernel_rfl); clear hf2; simp [e1, e2, e3, e7] at f1 f2 f3 f7)
   simp (disch := omega)
   refine Wb n 0 (fun i t _ => t 9 = N i ∧ t 8 = B (s.le a g && s.le b g && XZ (fun h => s.jn a b g h) i)) (fun t h => t 8 = B (s.isJoin a b g)) (by simp [e8]) (by omega) ?_ ?_
   ·rintro i t3 hh hf3 hi ⟨g9, g8⟩
    (have q1 := hf3 1 (by kernel_rfl); have q2 := hf3 2 (by kernel_rfl); have q3 := hf3 3 (by kernel_rfl); have q7 := hf3 7 (by kernel_rfl); clear hf3; simp [f1, f2, f3, f7] at q1 q2 q3 q7)
    simp (disch := omega) [q1, q2, q3, q7, g8, g9]
    repeat' (first
  | with_reducible refine Qa (XK t (by first | assumption | exact GSys.Gpl t _ _ | exact GSys.Gtm t _ _ | exact GSys.Glt (by assumption) | exact GSys.G0 t | exact GSys.G1 t) (by first | assumption | exact GSys.Gpl t _ _ | exact GSys.Gtm t _ _ | exact GSys.Glt (by assumption) | exact GSys.G0 t | exact GSys.G1 t)) (by simp) ?_
  | (with_reducible (first | refine Qo (fun hb_ => ?_) (fun hb_ => ?_) | refine Qn (fun hb_ => ?_) (fun hb_ => ?_)) <;> simp (disch := omega) [hb_, q1, q2, q3, q7, g8, g9])
  | simp (disch := omega) [q1, q2, q3, q7, g8, g9])
    all_goals (try simp only [Qh, Qg, Qm, Qj, Qd, Qc, Bool.not_true, Bool.not_false] at *)
    ·refine ⟨by omega, Qf (by omega), ?_⟩
     simp_all [Wq, GSys.jn]
    ·refine ⟨by omega, Qf (by omega), ?_⟩
     simp_all [Wq, GSys.jn]
    ·refine ⟨by omega, Qf (by omega), ?_⟩
     simp_all [Wq, GSys.jn]
    ·rw [GSys.isJoin_n hn]
     cases h : XZ (fun h => s.jn a b g h) i with
     | false => simp [Zh3 hi h]
     | true => simp_all
    ·rw [GSys.isJoin_n hn, show i = n by omega]
   ·rintro t4 hh hf4 g8
    (have q1 := hf4 1 (by kernel_rfl); have q2 := hf4 2 (by kernel_rfl); have q3 := hf4 3 (by kernel_rfl); have q7 := hf4 7 (by kernel_rfl); clear hf4; simp [f1, f2, f3, f7] at q1 q2 q3 q7)
    repeat' (first
  | (with_reducible (first | refine Qo (fun hb_ => ?_) (fun hb_ => ?_) | refine Qn (fun hb_ => ?_) (fun hb_ => ?_)) <;> simp (disch := omega) [hb_, q1, q2, q3, q7, g8])
  | simp (disch := omega) [q1, q2, q3, q7, g8])
    all_goals (try simp only [Qh, Qg, Qm, Qj, Qd, Qc, Bool.not_true, Bool.not_false] at *)
    ·rw [hj, show n - g = (n - (g + 1)) + 1 by omega, YL, if_pos hb_]
    ·rw [hj, show n - g = (n - (g + 1)) + 1 by omega, YL, if_neg (by simp [hb_])]
     exact ⟨by omega, Qf (by omega), by simp⟩
 ·all_goals (try simp only [Qh, Qg, Qm, Qj, Qd, Qc, Bool.not_true, Bool.not_false] at *)
  have : g = n := by omega
  simp_all [YL]
theorem Zpk : Qe Tryz.prog WU [s.lv, N a, N b] (· = N (s.join a b)) := by
  refine Qe.of_codeOf Zcl QA (by simp) ⟨_, rfl, by simp⟩ ?_
  have h2 := t.lo; have h16 := t.hi
  obtain ⟨n, hn⟩ : ∃ n : Nat, s.size = n := ⟨s.size.toNat, by omega⟩
  simp (disch := omega) [Kl, Qw, Qs]
  refine Xm n 0 (fun g t _ => t 7 = N g ∧ s.join a b = YL (s.isJoin a b) g (n - g)) (by simp [GSys.join, hn]) (by omega) ?_
  rintro g t1 hh hf hg ⟨e7, hj⟩
  (have e1 := hf 1 (by kernel_rfl); have e2 := hf 2 (by kernel_rfl); have e3 := hf 3 (by kernel_rfl); clear hf; simp [] at e1 e2 e3)
  simp (disch := omega) [e1, e2, e3, e7]
  (with_reducible first | refine Qo (fun h1 => ?_) (fun h1 => ?_) | refine Qn (fun h1 => ?_) (fun h1 => ?_))
  · have hGg := GSys.Glt h1
    simp (disch := omega) [e1, e2, e3, e7]
    refine Qa (Ju t ha hGg) (by simp) ?_
    refine ZeP (fun t h => t 27 = B (!s.le a g || !s.le b g)) ?_ ?_
    · repeat' (first
    | with_reducible refine Qa (Ju t (by first | assumption | exact GSys.Gpl t _ _ | exact GSys.Gtm t _ _ | exact GSys.Glt (by assumption) | exact GSys.G0 t | exact GSys.G1 t) (by first | assumption | exact GSys.Gpl t _ _ | exact GSys.Gtm t _ _ | exact GSys.Glt (by assumption) | exact GSys.G0 t | exact GSys.G1 t)) (by simp) ?_
    | (with_reducible (first | refine Qo (fun hb_ => ?_) (fun hb_ => ?_) | refine Qn (fun hb_ => ?_) (fun hb_ => ?_)) <;> simp (disch := omega) [hb_, e1, e2, e3, e7])
    | simp (disch := omega) [e1, e2, e3, e7])
    · rintro t2 hh hf2 e8
      (have f1 := hf2 1 (by kernel_rfl); have f2 := hf2 2 (by kernel_rfl); have f3 := hf2 3 (by kernel_rfl); have f7 := hf2 7 (by kernel_rfl); clear hf2; simp [e1, e2, e3, e7] at f1 f2 f3 f7)
      simp (disch := omega) [e8]
      (with_reducible first | refine Qo (fun h3 => ?_) (fun h3 => ?_) | refine Qn (fun h3 => ?_) (fun h3 => ?_))
      · simp (disch := omega) [f7]
        all_goals (try simp only [Qh, Qg, Qm, Qj, Qd, Qc, Bool.not_true, Bool.not_false] at *)
        rw [hj, show n - g = (n - (g + 1)) + 1 by omega, YL, if_neg (by rw [GSys.isJoin_n hn]; simp at h3; rcases h3 with h3 | h3 <;> simp [h3])]
        exact ⟨by omega, Qf (by omega), by simp⟩
      · simp (disch := omega) [f1, f2, f3, f7]
        refine Wb n 0 (fun i t _ => t 9 = N i ∧ t 8 = B (XZ (fun h => s.jn a b g h) i)) (fun t h => t 8 = B (s.isJoin a b g)) (by simp) (by omega) ?_ ?_
        · rintro i t3 hh hf3 hi ⟨g9, g8⟩
          (have q1 := hf3 1 (by kernel_rfl); have q2 := hf3 2 (by kernel_rfl); have q3 := hf3 3 (by kernel_rfl); have q7 := hf3 7 (by kernel_rfl); clear hf3; simp [f1, f2, f3, f7] at q1 q2 q3 q7)
          simp (disch := omega) [q1, q2, q3, q7, g8, g9]
          repeat' (first
    | with_reducible refine Qa (Ju t (by first | assumption | exact GSys.Gpl t _ _ | exact GSys.Gtm t _ _ | exact GSys.Glt (by assumption) | exact GSys.G0 t | exact GSys.G1 t) (by first | assumption | exact GSys.Gpl t _ _ | exact GSys.Gtm t _ _ | exact GSys.Glt (by assumption) | exact GSys.G0 t | exact GSys.G1 t)) (by simp) ?_
    | (with_reducible (first | refine Qo (fun hb_ => ?_) (fun hb_ => ?_) | refine Qn (fun hb_ => ?_) (fun hb_ => ?_)) <;> simp (disch := omega) [hb_, q1, q2, q3, q7, g8, g9])
    | simp (disch := omega) [q1, q2, q3, q7, g8, g9])
          all_goals (try simp only [Qh, Qg, Qm, Qj, Qd, Qc, Bool.not_true, Bool.not_false] at *)
          · refine ⟨by omega, Qf (by omega), ?_⟩
            simp_all [Wq, GSys.jn]
          · refine ⟨by omega, Qf (by omega), ?_⟩
            simp_all [Wq, GSys.jn]
          · refine ⟨by omega, Qf (by omega), ?_⟩
            simp_all [Wq, GSys.jn]
          · refine ⟨by omega, Qf (by omega), ?_⟩
            simp_all [Wq]
          · rw [GSys.isJoin_n hn, show i = n by omega]
            simp_all
        · rintro t4 hh hf4 g8
          (have q1 := hf4 1 (by kernel_rfl); have q2 := hf4 2 (by kernel_rfl); have q3 := hf4 3 (by kernel_rfl); have q7 := hf4 7 (by kernel_rfl); clear hf4; simp [f1, f2, f3, f7] at q1 q2 q3 q7)
          repeat' (first
    | (with_reducible (first | refine Qo (fun hb_ => ?_) (fun hb_ => ?_) | refine Qn (fun hb_ => ?_) (fun hb_ => ?_)) <;> simp (disch := omega) [hb_, q1, q2, q3, q7, g8])
    | simp (disch := omega) [q1, q2, q3, q7, g8])
          all_goals (try simp only [Qh, Qg, Qm, Qj, Qd, Qc, Bool.not_true, Bool.not_false] at *)
          · rw [hj, show n - g = (n - (g + 1)) + 1 by omega, YL, if_pos hb_]
          · rw [hj, show n - g = (n - (g + 1)) + 1 by omega, YL, if_neg (by simp [hb_])]
            exact ⟨by omega, Qf (by omega), by simp⟩
  · all_goals (try simp only [Qh, Qg, Qm, Qj, Qd, Qc, Bool.not_true, Bool.not_false] at *)
    have : g = n := by omega
    simp_all [YL]
end
def GSys.one (s : GSys) (a : Int) : Bool := eqB (s.pl 0 a) a && eqB (s.tm 1 a) a && eqB (s.tm a 1) a && eqB (s.tm 0 a) 0 && eqB (s.tm a 0) 0 && s.le a a
def GSys.two (s : GSys) (a b : Int) : Bool := eqB (s.pl a b) (s.pl b a) && (eqB a b || !s.le a b || !s.le b a) && leB 0 (s.join a b)
section
variable {s : GSys} (t : s.Tab) {a b : Int} (ha : s.G a) (hb : s.G b)
include t ha
theorem l1One_ok : Qe Tryz.prog ZaU [s.lv, N a] (· = B (s.one a)) := by
 refine Qe.of_codeOf ZkM QA (by simp) ⟨_, rfl, by simp⟩ ?_
 simp (disch := omega) [Zez, Qw, Qs]
 repeat' (first
  | with_reducible refine Qa (Zan t (by first | assumption | exact GSys.Gpl t _ _ | exact GSys.Gtm t _ _ | exact GSys.Glt (by assumption) | exact GSys.G0 t | exact GSys.G1 t) (by first | assumption | exact GSys.Gpl t _ _ | exact GSys.Gtm t _ _ | exact GSys.Glt (by assumption) | exact GSys.G0 t | exact GSys.G1 t)) (by simp) ?_
  | with_reducible refine Qa (Zas t (by first | assumption | exact GSys.Gpl t _ _ | exact GSys.Gtm t _ _ | exact GSys.Glt (by assumption) | exact GSys.G0 t | exact GSys.G1 t) (by first | assumption | exact GSys.Gpl t _ _ | exact GSys.Gtm t _ _ | exact GSys.Glt (by assumption) | exact GSys.G0 t | exact GSys.G1 t)) (by simp) ?_
  | with_reducible refine Qa (XK t (by first | assumption | exact GSys.Gpl t _ _ | exact GSys.Gtm t _ _ | exact GSys.Glt (by assumption) | exact GSys.G0 t | exact GSys.G1 t) (by first | assumption | exact GSys.Gpl t _ _ | exact GSys.Gtm t _ _ | exact GSys.Glt (by assumption) | exact GSys.G0 t | exact GSys.G1 t)) (by simp) ?_
  | (with_reducible (first | refine Qo (fun hb_ => ?_) (fun hb_ => ?_) | refine Qn (fun hb_ => ?_) (fun hb_ => ?_)) <;> simp (disch := omega) [hb_])
  | simp (disch := omega))
 all_goals simp_all [GSys.one]
include hb
theorem l1Two_ok : Qe Tryz.prog Za7 [s.lv, N a, N b] (· = B (s.two a b)) := by
 refine Qe.of_codeOf Zk5 QA (by simp) ⟨_, rfl, by simp⟩ ?_
 simp (disch := omega) [Zej, Qw, Qs]
 repeat' (first
  | with_reducible refine Qa (Zan t (by first | assumption | exact GSys.Gpl t _ _ | exact GSys.Gtm t _ _ | exact GSys.Glt (by assumption) | exact GSys.G0 t | exact GSys.G1 t) (by first | assumption | exact GSys.Gpl t _ _ | exact GSys.Gtm t _ _ | exact GSys.Glt (by assumption) | exact GSys.G0 t | exact GSys.G1 t)) (by simp) ?_
  | with_reducible refine Qa (XK t (by first | assumption | exact GSys.Gpl t _ _ | exact GSys.Gtm t _ _ | exact GSys.Glt (by assumption) | exact GSys.G0 t | exact GSys.G1 t) (by first | assumption | exact GSys.Gpl t _ _ | exact GSys.Gtm t _ _ | exact GSys.Glt (by assumption) | exact GSys.G0 t | exact GSys.G1 t)) (by simp) ?_
  | with_reducible refine Qa (KP t (by first | assumption | exact GSys.Gpl t _ _ | exact GSys.Gtm t _ _ | exact GSys.Glt (by assumption) | exact GSys.G0 t | exact GSys.G1 t) (by first | assumption | exact GSys.Gpl t _ _ | exact GSys.Gtm t _ _ | exact GSys.Glt (by assumption) | exact GSys.G0 t | exact GSys.G1 t)) (by simp) ?_
  | (with_reducible (first | refine Qo (fun hb_ => ?_) (fun hb_ => ?_) | refine Qn (fun hb_ => ?_) (fun hb_ => ?_)) <;> simp (disch := omega) [hb_])
  | simp (disch := omega))
 all_goals simp_all [GSys.two]
end
def GSys.cell (s : GSys) (i : Nat) : Bool := QO (s.plus.getD i 0) 0 (s.size - 1) && QO (s.times.getD i 0) 0 (s.size - 1)
def GSys.tabB (s : GSys) : Bool := QO s.size 2 16 && eqB s.plus.length (s.size * s.size) && eqB s.times.length (s.size * s.size) && eqB s.below.length (s.size * s.size) && XZ s.cell s.plus.length
theorem GSys.tab_iff {s : GSys} : s.tabB = true ↔ s.Tab := by
 simp only [GSys.tabB, Bool.and_eq_true, QM, Qd, YX, GSys.cell]
 constructor
 ·rintro ⟨⟨⟨⟨h1, h2⟩, h3⟩, h4⟩, h5⟩
  refine ⟨h1.1, h1.2, h2, h3, h4, fun i => ?_, fun i => ?_⟩
  ·by_cases hi : i < s.plus.length
   ·have := (h5 i hi).1; omega
   ·rw [List.getD_eq_getElem?_getD, List.getElem?_eq_none (by omega)]; simp; omega
  ·by_cases hi : i < s.plus.length
   ·have := (h5 i hi).2; omega
   ·rw [List.getD_eq_getElem?_getD, List.getElem?_eq_none (by omega)]; simp; omega
 ·intro t
  refine ⟨⟨⟨⟨⟨t.lo, t.hi⟩, t.lp⟩, t.lt⟩, t.lb⟩, fun i _ => ?_⟩
  have := t.rp i; have := t.rt i
  omega
theorem GSys.sq {s : GSys} (h : QO s.size 2 16 = true) : 0 ≤ s.size * s.size ∧ s.size * s.size ≤ 256 ∧ 2 ≤ s.size ∧ s.size ≤ 16 := by
 rw [QM] at h
 have h4 : s.size * s.size ≤ 16 * 16 := Int.mul_le_mul h.2 h.2 (by omega) (by omega)
 exact ⟨Int.mul_nonneg (by omega) (by omega), by omega, h⟩
theorem Znn (s : GSys) (hw : s.wf) : Qe Tryz.prog Kx [s.lv] (· = B s.tabB) := by
 refine Qe.of_codeOf Zgr QA (by simp) ⟨_, rfl, by simp⟩ ?_
 simp (disch := omega) [Zbg, Qw, Qs]
 refine Qa (Zdc _ _ _) (by simp) ?_
 simp (disch := omega)
 (with_reducible first | refine Qo (fun h1 => ?_) (fun h1 => ?_) | refine Qn (fun h1 => ?_) (fun h1 => ?_))
 ·obtain ⟨h2, h3, h4, h5⟩ := GSys.sq (s := s) h1
  simp (disch := omega) [h1, Qf]
  repeat' (first
  | (with_reducible (first | refine Qo (fun hb_ => ?_) (fun hb_ => ?_) | refine Qn (fun hb_ => ?_) (fun hb_ => ?_)) <;> simp (disch := omega) [hb_, h1, Qf])
  | simp (disch := omega) [h1, Qf])
  all_goals try (simp_all [GSys.tabB]; done)
  ·rename_i g1 g2
   have e0 : s.tabB = XZ s.cell s.plus.length := by simp [GSys.tabB, h1, g1, g2, hb_]
   rw [e0]
   all_goals (try simp only [Qh, Qg, Qm, Qj, Qd, Qc, Bool.not_true, Bool.not_false] at *)
   refine Xm s.plus.length 0 (fun i t _ => t 3 = N i ∧ XZ s.cell i = true) (by simp) (by omega) ?_
   rintro i t1 hh hf hi ⟨e3, hj⟩
   (have e1 := hf 1 (by kernel_rfl); clear hf; simp [] at e1)
   simp (disch := omega) [e1, e3]
   (with_reducible first | refine Qo (fun h6 => ?_) (fun h6 => ?_) | refine Qn (fun h6 => ?_) (fun h6 => ?_))
   ·simp only [Qh, Qg, Qm, Qj, Qd, Qc, Bool.not_true, Bool.not_false] at h6
    simp (disch := omega) [e1, e3, Qf, W9]
    have ec : s.cell i = (QO (s.plus[i]'(by omega)) 0 (s.size - 1) && QO (s.times[i]'(by omega)) 0 (s.size - 1)) := by
     simp [GSys.cell, show i < s.plus.length by omega, show i < s.times.length by omega]
    repeat' (first
  | with_reducible refine Qa (Zdc _ _ _) (by simp) ?_
  | (with_reducible (first | refine Qo (fun hb_ => ?_) (fun hb_ => ?_) | refine Qn (fun hb_ => ?_) (fun hb_ => ?_)) <;> simp (disch := omega) [hb_, e1, e3, Qf, W9])
  | simp (disch := omega) [e1, e3, Qf, W9])
    ·refine ⟨by omega, by simp_all [Wq]⟩
    ·exact Xb (p := s.cell) (i := i) (by omega) (by simp_all)
    ·exact Xb (p := s.cell) (i := i) (by omega) (by simp_all)
   ·simp only [Qh, Qg, Qm, Qj, Qd, Qc, Bool.not_true, Bool.not_false] at h6
    simp (disch := omega) [e1, e3]
    rw [← hj, show i = s.plus.length by omega]
 ·simp_all [GSys.tabB]
def GSys.sysC (s : GSys) (n : Nat) (a b : Int) : Bool := s.two a b && XZ (fun c => s.three a b c) n
def GSys.sysB (s : GSys) (n : Nat) (a : Int) : Bool := s.one a && XZ (fun b => s.sysC n a b) n
def GSys.sys (s : GSys) : Bool := s.tabB && XZ (fun a => s.sysB s.size.toNat a) s.size.toNat
theorem GSys.sys_n {s : GSys} {n : Nat} (hn : s.size = n) : s.sys = (s.tabB && XZ (fun a => s.sysB n a) n) := by simp [GSys.sys, hn]
theorem GSys.sys_of {s : GSys} (h : s.sys = true) : s.Tab := GSys.tab_iff.1 (by simp [GSys.sys] at h; exact h.1)
theorem Z0 (s : GSys) (hw : s.wf) : Qe Tryz.prog X8 [s.lv] (· = B s.sys) := by
  refine Qe.of_codeOf ZgK QA (by simp) ⟨_, rfl, by simp⟩ ?_
  simp (disch := omega) [Zbk, Qw, Qs]
  refine Qa (Znn s hw) (by simp) ?_
  simp (disch := omega)
  (with_reducible first | refine Qo (fun h1 => ?_) (fun h1 => ?_) | refine Qn (fun h1 => ?_) (fun h1 => ?_))
  · have t := GSys.tab_iff.1 h1
    have h2 := t.lo; have h16 := t.hi
    obtain ⟨n, hn⟩ : ∃ n : Nat, s.size = n := ⟨s.size.toNat, by omega⟩
    rw [GSys.sys_n hn, h1, Bool.true_and]
    simp (disch := omega) [h1]
    refine Xm n 0 (fun a t _ => t 3 = N a ∧ XZ (fun a => s.sysB n a) a = true) (by simp) (by omega) ?_
    rintro a t1 hh hf ha ⟨e3, hj⟩
    (have e1 := hf 1 (by kernel_rfl); clear hf; simp [] at e1)
    simp (disch := omega) [e1, e3]
    (with_reducible first | refine Qo (fun h3 => ?_) (fun h3 => ?_) | refine Qn (fun h3 => ?_) (fun h3 => ?_))
    · have hGa := GSys.Glt h3
      simp only [Qh, Qg, Qm, Qj, Qd, Qc, Bool.not_true, Bool.not_false] at h3
      simp (disch := omega) [e1, e3]
      refine Qa (l1One_ok t hGa) (by simp) ?_
      simp (disch := omega) [e1, e3]
      (with_reducible first | refine Qo (fun h4 => ?_) (fun h4 => ?_) | refine Qn (fun h4 => ?_) (fun h4 => ?_))
      · simp (disch := omega) [e1, e3]
        refine Wb n 0 (fun b t _ => t 4 = N b ∧ XZ (fun b => s.sysC n a b) b = true) (fun t h => XZ (fun b => s.sysC n a b) n = true) (by simp) (by omega) ?_ ?_
        · rintro b t2 hh hf2 hb ⟨e4, hj2⟩
          (have f1 := hf2 1 (by kernel_rfl); have f3 := hf2 3 (by kernel_rfl); clear hf2; simp [e1, e3] at f1 f3)
          simp (disch := omega) [f1, f3, e4]
          (with_reducible first | refine Qo (fun h5 => ?_) (fun h5 => ?_) | refine Qn (fun h5 => ?_) (fun h5 => ?_))
          · have hGb := GSys.Glt h5
            simp only [Qh, Qg, Qm, Qj, Qd, Qc, Bool.not_true, Bool.not_false] at h5
            simp (disch := omega) [f1, f3, e4]
            refine Qa (l1Two_ok t hGa hGb) (by simp) ?_
            simp (disch := omega) [f1, f3, e4]
            (with_reducible first | refine Qo (fun h6 => ?_) (fun h6 => ?_) | refine Qn (fun h6 => ?_) (fun h6 => ?_))
            · simp (disch := omega) [f1, f3, e4]
              refine Wb n 0 (fun c t _ => t 5 = N c ∧ XZ (fun c => s.three a b c) c = true) (fun t h => XZ (fun c => s.three a b c) n = true) (by simp) (by omega) ?_ ?_
              · rintro c t3 hh hf3 hc ⟨e5, hj3⟩
                (have g1 := hf3 1 (by kernel_rfl); have g3 := hf3 3 (by kernel_rfl); have g4 := hf3 4 (by kernel_rfl); clear hf3; simp [f1, f3, e4] at g1 g3 g4)
                simp (disch := omega) [g1, g3, g4, e5]
                (with_reducible first | refine Qo (fun h7 => ?_) (fun h7 => ?_) | refine Qn (fun h7 => ?_) (fun h7 => ?_))
                · have hGc := GSys.Glt h7
                  simp only [Qh, Qg, Qm, Qj, Qd, Qc, Bool.not_true, Bool.not_false] at h7
                  simp (disch := omega) [g1, g3, g4, e5]
                  repeat' (first
    | with_reducible refine Qa (ZnS t hGa hGb hGc) (by simp) ?_
    | (with_reducible (first | refine Qo (fun hb_ => ?_) (fun hb_ => ?_) | refine Qn (fun hb_ => ?_) (fun hb_ => ?_)) <;> simp (disch := omega) [hb_, g1, g3, g4, e5])
    | simp (disch := omega) [g1, g3, g4, e5])
                  · refine ⟨by omega, Qf (by omega), by simp [Wq, hj3, hb_]⟩
                  · exact Xb (i := a) (by omega) (by simp [GSys.sysB, h4, Xb (p := fun b => s.sysC n a b) (i := b) (n := n) (by omega) (by simp [GSys.sysC, h6, Xb (p := fun c => s.three a b c) (i := c) (n := n) (by omega) (by simpa using hb_)])])
                · simp only [Qh, Qg, Qm, Qj, Qd, Qc, Bool.not_true, Bool.not_false] at h7
                  simp (disch := omega) [g1, g3, g4, e5]
                  rw [← hj3, show c = n by omega]
              · rintro t4 hh hf4 hj3
                (have g1 := hf4 1 (by kernel_rfl); have g3 := hf4 3 (by kernel_rfl); have g4 := hf4 4 (by kernel_rfl); clear hf4; simp [f1, f3, e4] at g1 g3 g4)
                simp (disch := omega) [g1, g3, g4]
                exact ⟨by omega, Qf (by omega), by simp [Wq, hj2, show s.sysC n a b = true by simp [GSys.sysC, h6, hj3]]⟩
            · simp (disch := omega)
              exact Xb (i := a) (by omega) (by simp [GSys.sysB, h4, Xb (p := fun b => s.sysC n a b) (i := b) (n := n) (by omega) (by simp_all [GSys.sysC])])
          · simp only [Qh, Qg, Qm, Qj, Qd, Qc, Bool.not_true, Bool.not_false] at h5
            simp (disch := omega) [f1, f3, e4]
            rw [← hj2, show b = n by omega]
        · rintro t2 hh hf2 hj2
          (have f1 := hf2 1 (by kernel_rfl); have f3 := hf2 3 (by kernel_rfl); clear hf2; simp [e1, e3] at f1 f3)
          simp (disch := omega) [f1, f3]
          exact ⟨by omega, Qf (by omega), by simp [Wq, hj, show s.sysB n a = true by simp [GSys.sysB, h4, hj2]]⟩
      · simp (disch := omega)
        exact Xb (i := a) (by omega) (by simp_all [GSys.sysB])
    · simp only [Qh, Qg, Qm, Qj, Qd, Qc, Bool.not_true, Bool.not_false] at h3
      simp (disch := omega) [e1, e3]
      rw [← hj, show a = n by omega]
  · simp_all [GSys.sys]
end Go.Proofs.YtclfngbealdbgaaGreat
namespace Go.Proofs.YtclfngbealdbgaaGreat
open Go Go.TL
set_option linter.unusedSimpArgs false
set_option linter.unusedVariables false
set_option maxRecDepth 20000
set_option maxHeartbeats 4000000
theorem ZgF (s : GSys) (hw : s.wf) : Qe Tryz.prog Kw [s.lv] (· = B s.sys) := by
  refine Qe.of_codeOf ZgE QA (by simp) ⟨_, rfl, by simp⟩ ?_
  simp (disch := omega) [Zbc, Qw, Qs]
  refine Qa (ZD _ _ _) (by simp) ?_
  simp (disch := omega)
  (with_reducible first | refine Qo (fun h1 => ?_) (fun h1 => ?_) | refine Qn (fun h1 => ?_) (fun h1 => ?_))
  · obtain ⟨h2, h3, h4, h5⟩ := GSys.sq (s := s) h1
    simp (disch := omega) [h1, Qf]
    repeat' (first
    | (with_reducible (first | refine Qo (fun hb_ => ?_) (fun hb_ => ?_) | refine Qn (fun hb_ => ?_) (fun hb_ => ?_)) <;> simp (disch := omega) [hb_, h1, Qf])
    | simp (disch := omega) [h1, Qf])
    all_goals try (simp_all [GSys.tabB, GSys.sys]; done)
    · rename_i g1 g2
      have e0 : s.tabB = XZ s.cell s.plus.length := by simp [GSys.tabB, h1, g1, g2, hb_]
      all_goals (try simp only [Qh, Qg, Qm, Qj, Qd, Qc, Bool.not_true, Bool.not_false] at *)
      refine Wb s.plus.length 0 (fun i t _ => t 43 = N i ∧ XZ s.cell i = true) (fun _ _ => s.tabB = true) (by simp) (by omega) ?_ ?_
      · rintro i t1 hh hf hi ⟨e3, hj⟩
        (have e1 := hf 1 (by kernel_rfl); have e42 := hf 42 (by kernel_rfl); clear hf; simp [] at e1 e42)
        simp (disch := omega) [e1, e42, e3]
        (with_reducible first | refine Qo (fun h6 => ?_) (fun h6 => ?_) | refine Qn (fun h6 => ?_) (fun h6 => ?_))
        · simp only [Qh, Qg, Qm, Qj, Qd, Qc, Bool.not_true, Bool.not_false] at h6
          simp (disch := omega) [e1, e3, e42, Qf, W9]
          have ec : s.cell i = (QO (s.plus[i]'(by omega)) 0 (s.size - 1) && QO (s.times[i]'(by omega)) 0 (s.size - 1)) := by
            simp [GSys.cell, show i < s.plus.length by omega, show i < s.times.length by omega]
          have hlo : -9223372036854775808 < s.size := by omega
          have hI : I64 s.size := hw.1
          repeat' (first
    | with_reducible refine Qa (Zlb s hI hlo _) (by simp) ?_
    | (with_reducible (first | refine Qo (fun hb_ => ?_) (fun hb_ => ?_) | refine Qn (fun hb_ => ?_) (fun hb_ => ?_)) <;> simp (disch := omega) [hb_, e1, e3, e42, Qf, W9])
    | simp (disch := omega) [e1, e3, e42, Qf, W9])
          · refine ⟨by omega, by simp_all [Wq]⟩
          · simp only [GSys.sys, e0, Xb (p := s.cell) (i := i) (n := s.plus.length) (by omega) (by simp_all)]; simp
          · simp only [GSys.sys, e0, Xb (p := s.cell) (i := i) (n := s.plus.length) (by omega) (by simp_all)]; simp
        · simp only [Qh, Qg, Qm, Qj, Qd, Qc, Bool.not_true, Bool.not_false] at h6
          simp (disch := omega) [e1, e3, e42]
          rw [e0, ← hj, show i = s.plus.length by omega]
      · rintro t0 hh hf0 ht
        (have d1 := hf0 1 (by kernel_rfl); have d3 := hf0 3 (by kernel_rfl); clear hf0; simp [] at d1 d3)
        simp (disch := omega) [d1, d3]
        have t := GSys.tab_iff.1 ht
        obtain ⟨n, hn⟩ : ∃ n : Nat, s.size = n := ⟨s.size.toNat, by omega⟩
        rw [GSys.sys_n hn, ht, Bool.true_and]
        refine Xm n 0 (fun a t _ => t 5 = N a ∧ XZ (fun a => s.sysB n a) a = true) (by simp) (by omega) ?_
        rintro a t1 hh hf ha ⟨e5, hj⟩
        (have e1 := hf 1 (by kernel_rfl); have e3 := hf 3 (by kernel_rfl); clear hf; simp [d1, d3] at e1 e3)
        simp (disch := omega) [e1, e3, e5]
        (with_reducible first | refine Qo (fun h6 => ?_) (fun h6 => ?_) | refine Qn (fun h6 => ?_) (fun h6 => ?_))
        · have hGa := GSys.Glt h6
          simp only [Qh, Qg, Qm, Qj, Qd, Qc, Bool.not_true, Bool.not_false] at h6
          simp (disch := omega) [e1, e3, e5]
          refine Qa (Ze5 t (GSys.G0 t) hGa) (by simp) ?_
          refine ZeP (fun t h => t 107 = B (!s.one a)) ?_ ?_
          · repeat' (first
    | with_reducible refine Qa (ZeS t (by first | assumption | exact GSys.Gpl t _ _ | exact GSys.Gtm t _ _ | exact GSys.Glt (by assumption) | exact GSys.G0 t | exact GSys.G1 t) (by first | assumption | exact GSys.Gpl t _ _ | exact GSys.Gtm t _ _ | exact GSys.Glt (by assumption) | exact GSys.G0 t | exact GSys.G1 t)) (by simp) ?_
    | with_reducible refine Qa (Ju t (by first | assumption | exact GSys.Gpl t _ _ | exact GSys.Gtm t _ _ | exact GSys.Glt (by assumption) | exact GSys.G0 t | exact GSys.G1 t) (by first | assumption | exact GSys.Gpl t _ _ | exact GSys.Gtm t _ _ | exact GSys.Glt (by assumption) | exact GSys.G0 t | exact GSys.G1 t)) (by simp) ?_
    | (with_reducible (first | refine Qo (fun hb_ => ?_) (fun hb_ => ?_) | refine Qn (fun hb_ => ?_) (fun hb_ => ?_)) <;> simp (disch := omega) [hb_, e1, e3, e5])
    | simp (disch := omega) [e1, e3, e5])
            all_goals simp_all [GSys.one]
          · rintro t2 hh hf e107
            (have f1 := hf 1 (by kernel_rfl); have f3 := hf 3 (by kernel_rfl); have f5 := hf 5 (by kernel_rfl); clear hf; simp [e1, e3, e5] at f1 f3 f5)
            simp (disch := omega) [e107]
            (with_reducible first | refine Qo (fun h7 => ?_) (fun h7 => ?_) | refine Qn (fun h7 => ?_) (fun h7 => ?_))
            · simp (disch := omega)
              refine Wb n 0 (fun b t _ => t 6 = N b ∧ XZ (fun b => s.sysC n a b) b = true) (fun t h => XZ (fun b => s.sysC n a b) n = true) (by simp) (by omega) ?_ ?_
              · rintro b t3 hh hf hb ⟨g6, hj2⟩
                (have g1 := hf 1 (by kernel_rfl); have g3 := hf 3 (by kernel_rfl); have g5 := hf 5 (by kernel_rfl); clear hf; simp [f1, f3, f5] at g1 g3 g5)
                simp (disch := omega) [g1, g3, g5, g6]
                (with_reducible first | refine Qo (fun h8 => ?_) (fun h8 => ?_) | refine Qn (fun h8 => ?_) (fun h8 => ?_))
                · have hGb := GSys.Glt h8
                  simp only [Qh, Qg, Qm, Qj, Qd, Qc, Bool.not_true, Bool.not_false] at h8
                  simp (disch := omega) [g1, g3, g5, g6]
                  refine Qa (Ze5 t hGa hGb) (by simp) ?_
                  refine ZeP (fun t h => t 145 = B (!s.two a b)) ?_ ?_
                  · repeat' (first
    | with_reducible refine Qa (Ze5 t (by first | assumption | exact GSys.Gpl t _ _ | exact GSys.Gtm t _ _ | exact GSys.Glt (by assumption) | exact GSys.G0 t | exact GSys.G1 t) (by first | assumption | exact GSys.Gpl t _ _ | exact GSys.Gtm t _ _ | exact GSys.Glt (by assumption) | exact GSys.G0 t | exact GSys.G1 t)) (by simp) ?_
    | with_reducible refine Qa (Ju t (by first | assumption | exact GSys.Gpl t _ _ | exact GSys.Gtm t _ _ | exact GSys.Glt (by assumption) | exact GSys.G0 t | exact GSys.G1 t) (by first | assumption | exact GSys.Gpl t _ _ | exact GSys.Gtm t _ _ | exact GSys.Glt (by assumption) | exact GSys.G0 t | exact GSys.G1 t)) (by simp) ?_
    | with_reducible refine Qa (Zpk t (by first | assumption | exact GSys.Gpl t _ _ | exact GSys.Gtm t _ _ | exact GSys.Glt (by assumption) | exact GSys.G0 t | exact GSys.G1 t) (by first | assumption | exact GSys.Gpl t _ _ | exact GSys.Gtm t _ _ | exact GSys.Glt (by assumption) | exact GSys.G0 t | exact GSys.G1 t)) (by simp) ?_
    | (with_reducible (first | refine Qo (fun hb_ => ?_) (fun hb_ => ?_) | refine Qn (fun hb_ => ?_) (fun hb_ => ?_)) <;> simp (disch := omega) [hb_, g1, g3, g5, g6])
    | simp (disch := omega) [g1, g3, g5, g6])
                    all_goals simp_all [GSys.two, ZaL]
                  · rintro t4 hh hf e145
                    (have q1 := hf 1 (by kernel_rfl); have q3 := hf 3 (by kernel_rfl); have q5 := hf 5 (by kernel_rfl); have q6 := hf 6 (by kernel_rfl); clear hf; simp [g1, g3, g5, g6] at q1 q3 q5 q6)
                    simp (disch := omega) [e145]
                    (with_reducible first | refine Qo (fun h9 => ?_) (fun h9 => ?_) | refine Qn (fun h9 => ?_) (fun h9 => ?_))
                    · simp (disch := omega)
                      refine Wb n 0 (fun c t _ => t 7 = N c ∧ XZ (fun c => s.three a b c) c = true) (fun t h => XZ (fun c => s.three a b c) n = true) (by simp) (by omega) ?_ ?_
                      · rintro c t3 hh hf hc ⟨r7, hj3⟩
                        (have r1 := hf 1 (by kernel_rfl); have r3 := hf 3 (by kernel_rfl); have r5 := hf 5 (by kernel_rfl); have r6 := hf 6 (by kernel_rfl); clear hf; simp [q1, q3, q5, q6] at r1 r3 r5 r6)
                        simp (disch := omega) [r1, r3, r5, r6, r7]
                        (with_reducible first | refine Qo (fun h10 => ?_) (fun h10 => ?_) | refine Qn (fun h10 => ?_) (fun h10 => ?_))
                        · have hGc := GSys.Glt h10
                          simp only [Qh, Qg, Qm, Qj, Qd, Qc, Bool.not_true, Bool.not_false] at h10
                          simp (disch := omega) [r1, r3, r5, r6, r7]
                          repeat' (first
    | with_reducible refine Qa (Zqf t hGa hGb hGc) (by simp) ?_
    | (with_reducible (first | refine Qo (fun hb_ => ?_) (fun hb_ => ?_) | refine Qn (fun hb_ => ?_) (fun hb_ => ?_)) <;> simp (disch := omega) [hb_, r1, r3, r5, r6, r7])
    | simp (disch := omega) [r1, r3, r5, r6, r7])
                          · refine ⟨by omega, Qf (by omega), by simp [Wq, hj3, hb_]⟩
                          · exact Xb (i := a) (by omega) (by simp [GSys.sysB, h7, Xb (p := fun b => s.sysC n a b) (i := b) (n := n) (by omega) (by simp [GSys.sysC, h9, Xb (p := fun c => s.three a b c) (i := c) (n := n) (by omega) (by simpa using hb_)])])
                        · simp only [Qh, Qg, Qm, Qj, Qd, Qc, Bool.not_true, Bool.not_false] at h10
                          simp (disch := omega)
                          rw [← hj3, show c = n by omega]
                      · rintro t4 hh hf hj3
                        (have r1 := hf 1 (by kernel_rfl); have r3 := hf 3 (by kernel_rfl); have r5 := hf 5 (by kernel_rfl); have r6 := hf 6 (by kernel_rfl); clear hf; simp [q1, q3, q5, q6] at r1 r3 r5 r6)
                        simp (disch := omega) [r1, r3, r5, r6]
                        exact ⟨by omega, Qf (by omega), by simp [Wq, hj2, show s.sysC n a b = true by simp [GSys.sysC, h9, hj3]]⟩
                    · simp (disch := omega)
                      exact Xb (i := a) (by omega) (by simp [GSys.sysB, h7, Xb (p := fun b => s.sysC n a b) (i := b) (n := n) (by omega) (by simp_all [GSys.sysC])])
                · simp only [Qh, Qg, Qm, Qj, Qd, Qc, Bool.not_true, Bool.not_false] at h8
                  simp (disch := omega)
                  rw [← hj2, show b = n by omega]
              · rintro t4 hh hf hj2
                (have r1 := hf 1 (by kernel_rfl); have r3 := hf 3 (by kernel_rfl); have r5 := hf 5 (by kernel_rfl); clear hf; simp [f1, f3, f5] at r1 r3 r5)
                simp (disch := omega) [r1, r3, r5]
                exact ⟨by omega, Qf (by omega), by simp [Wq, hj, show s.sysB n a = true by simp [GSys.sysB, h7, hj2]]⟩
            · simp (disch := omega)
              exact Xb (i := a) (by omega) (by simp_all [GSys.sysB])
        · simp only [Qh, Qg, Qm, Qj, Qd, Qc, Bool.not_true, Bool.not_false] at h6
          simp (disch := omega)
          rw [← hj, show a = n by omega]
  · simp_all [GSys.tabB, GSys.sys]
end Go.Proofs.YtclfngbealdbgaaGreat
namespace Go.Proofs.YtclfngbealdbgaaGreat
open Go Go.TL
open Go.Proofs.YtclfngbealdbgaaGreat.Ty
set_option linter.unusedSimpArgs false
set_option linter.unusedVariables false
set_option maxRecDepth 20000
set_option maxHeartbeats 4000000
def ZcM (nv size : Int) (closed : Bool) (op n : Int) : Bool :=
 if eqB op 0 = true then QO n 0 (nv - 1) else if eqB op 1 = true then QO n 0 2 else if JD op = true then ltB n size && (leB (-1) n && (!closed || leB 0 n)) else eqB n 0
def tyB (size : Int) (closed : Bool) (op : Int) (ty : List Int) : Bool := if Xw op = true then wty ty && Zb size closed ty else eqB ty.length 0
def Y0 (nv size : Int) (closed : Bool) (op n : Int) (ty : List Int) (len : Nat) : Bool := eqB len (YG op) && (ZcM nv size closed op n && tyB size closed op ty)
mutual
def Xr (nv size : Int) (closed : Bool) : GTerm → Bool
 | .mk op n _ ty _ ks => Y0 nv size closed op n ty ks.length && Xj nv size closed op 0 ks
def Xj (nv size : Int) (closed : Bool) (op : Int) (k : Nat) : List GTerm → Bool
 | [] => true
 | t :: ts => Xr (nv + Qt op k) size closed t && Xj nv size closed op (k + 1) ts
end
theorem ZpV (nv size : Int) (closed : Bool) (t : GTerm) (hw : t.wf) (hs : I64 size) (hv : 0 ≤ nv ∧ nv ≤ 1000000) :
  Qe Tryz.prog VK [t.lv, N nv, N size, B closed] (· = B (match t with | .mk op n _ ty _ ks => Y0 nv size closed op n ty ks.length)) := by
 obtain ⟨op, n, nl1, ty, nl2, ks⟩ := t
 simp only [GTerm.wf] at hw
 obtain ⟨hop, hn, hty, hk, hks⟩ := hw
 refine Qe.of_codeOf ZiT QA (by simp) ⟨_, rfl, by simp⟩ ?_
 simp (disch := omega) [Zdl, Qw, Qs, GTerm.cells]
 repeat' (first
  | with_reducible refine Qa (ZpT op) (by simp) ?_
  | with_reducible refine Qa (Zdc _ _ _) (by simp) ?_
  | with_reducible refine Qa (l2Has_ok op) (by simp) ?_
  | with_reducible refine Qa (ZoF op) (by simp) ?_
  | with_reducible refine Qa (Zky nl1 ty hty) (by simp) ?_
  | with_reducible refine Qa (Zgl nl1 ty hty size hs _) (by simp) ?_
  | (with_reducible (first | refine Qo (fun hb_ => ?_) (fun hb_ => ?_) | refine Qn (fun hb_ => ?_) (fun hb_ => ?_)) <;> simp (disch := omega) [hb_, Qf])
  | simp (disch := omega) [Qf])
 all_goals simp_all [Y0, ZcM, tyB, ZaL]
theorem ZcG : ∀ (d : Nat) (t : GTerm), t.size ≤ d → t.wf → ∀ left : Int, 0 ≤ left → left ≤ 1000000 → Qe Tryz.prog Yn [t.lv, N left] (· = N (JC t.size left)) := by
 intro d
 induction d with
 | zero => intro t h; have := t.size_pos; omega
 | succ d ih =>
  rintro ⟨op, n, nl1, ty, nl2, ks⟩ hd hw left h0 h1
  simp only [GTerm.wf] at hw
  obtain ⟨hop, hn, hty, hk, hks⟩ := hw
  simp only [GTerm.size, GTerm.lv, GTerm.cells] at hd ⊢
  refine Qe.of_codeOf Zjy QA (by simp) ⟨_, rfl, by simp⟩ ?_
  simp (disch := omega) [Zds, Qw, Qs, GTerm.cells, Qf]
  refine Xm ks.length 0 (fun i t _ => ∃ m : Int, t 5 = N i ∧ t 1 = N m ∧ -1 ≤ m ∧ m ≤ left ∧ JC (XI ks + 1) left = JC (XI (ks.drop i)) m) ⟨left - 1, by simp, by simp, by omega, by omega, by unfold JC; simp; split <;> split <;> omega⟩ (by omega) ?_
  rintro i t1 hh hf hi ⟨m, e5, e1, hm, hml, he⟩
  (have e2 := hf 2 (by kernel_rfl); clear hf; simp [] at e2)
  simp (disch := omega) [e1, e2, e5]
  (with_reducible first | refine Qo (fun h6 => ?_) (fun h6 => ?_) | refine Qn (fun h6 => ?_) (fun h6 => ?_))
  ·simp (disch := omega) [e1, e2, e5, h6]
   simp only [Qh, Qg, Qm, Qj, Qd, Qc, Bool.not_true, Bool.not_false] at h6
   have hsd := Zd2 (ks := ks) (i := i) (by omega)
   have hsk := Zd (ks := ks) (i := i) (by omega)
   have hwk : (ks[i]'(by omega)).wf := ZaR.1 hks _ (List.getElem_mem _)
   (with_reducible first | refine Qo (fun h7 => ?_) (fun h7 => ?_) | refine Qn (fun h7 => ?_) (fun h7 => ?_))
   ·simp only [Qh, Qg, Qm, Qj, Qd, Qc, Bool.not_true, Bool.not_false] at h7
    have hc := ih (ks[i]'(by omega)) (by omega) hwk m h7 (by omega)
    simp (disch := omega) [e1, e2, e5, ZhC]
    repeat' (first
  | with_reducible refine Qa (hc) (by simp) ?_
  | (with_reducible (first | refine Qo (fun hb_ => ?_) (fun hb_ => ?_) | refine Qn (fun hb_ => ?_) (fun hb_ => ?_)) <;> simp (disch := omega) [hb_, e1, e2, e5])
  | simp (disch := omega) [e1, e2, e5])
    rw [he, hsd]
    refine ⟨by omega, Qf (by omega), ?_⟩
    unfold JC; repeat' split
    all_goals omega
   ·simp only [Qh, Qg, Qm, Qj, Qd, Qc, Bool.not_true, Bool.not_false] at h7
    simp (disch := omega) [e1, e2, e5]
    rw [he, show m = -1 by omega]; unfold JC; split <;> omega
  ·simp (disch := omega) [e1, e2, e5, h6]
   simp only [Qh, Qg, Qm, Qj, Qd, Qc, Bool.not_true, Bool.not_false] at h6
   rw [he, show i = ks.length by omega, List.drop_length]; simp [XI, JC]; try omega
theorem Zko (size : Int) (closed : Bool) (hs : I64 size) : ∀ (d : Nat) (t : GTerm), t.size ≤ d → t.wf → ∀ nv : Int, 0 ≤ nv → nv + 2 * t.size ≤ 1000000 → Qe Tryz.prog ZV [t.lv, N nv, N size, B closed] (· = B (Xr nv size closed t)) := by
 intro d
 induction d with
 | zero => intro t h; have := t.size_pos; omega
 | succ d ih =>
  rintro ⟨op, n, nl1, ty, nl2, ks⟩ hd hw nv h0 h1
  have hN := ZpV nv size closed (.mk op n nl1 ty nl2 ks) hw hs ⟨h0, by omega⟩
  simp only [GTerm.wf] at hw
  obtain ⟨hop, hn, hty, hk, hks⟩ := hw
  simp only [GTerm.size, GTerm.lv, GTerm.cells] at hd h1 hN ⊢
  refine Qe.of_codeOf ZjD QA (by simp) ⟨_, rfl, by simp⟩ ?_
  simp (disch := omega) [Zdp, Qw, Qs, GTerm.cells]
  refine Qa hN (by simp) ?_
  simp (disch := omega)
  (with_reducible first | refine Qo (fun h3 => ?_) (fun h3 => ?_) | refine Qn (fun h3 => ?_) (fun h3 => ?_))
  ·simp (disch := omega)
   refine Xm ks.length 0 (fun i t _ => t 9 = N i ∧ Xr nv size closed (.mk op n nl1 ty nl2 ks) = Xj nv size closed op i (ks.drop i)) (by simp [Xr, h3]) (by omega) ?_
   rintro i t1 hh hf hi ⟨e9, he⟩
   (have e1 := hf 1 (by kernel_rfl); have e2 := hf 2 (by kernel_rfl); have e3 := hf 3 (by kernel_rfl); have e4 := hf 4 (by kernel_rfl); clear hf; simp [] at e1 e2 e3 e4)
   simp (disch := omega) [e1, e2, e3, e4, e9]
   (with_reducible first | refine Qo (fun h6 => ?_) (fun h6 => ?_) | refine Qn (fun h6 => ?_) (fun h6 => ?_))
   ·simp only [Qh, Qg, Qm, Qj, Qd, Qc, Bool.not_true, Bool.not_false] at h6
    have hsk := Zd (ks := ks) (i := i) (by omega)
    have hwk : (ks[i]'(by omega)).wf := ZaR.1 hks _ (List.getElem_mem _)
    have hA : 0 ≤ Qt op i ∧ Qt op i ≤ 2 := by (unfold Qt; repeat' split) <;> omega
    have hc := ih (ks[i]'(by omega)) (by omega) hwk (nv + Qt op i) (by omega) (by omega)
    have hfd : Xj nv size closed op i (ks.drop i) = (Xr (nv + Qt op i) size closed (ks[i]'(by omega)) && Xj nv size closed op (i + 1) (ks.drop (i + 1))) := by
     rw [List.drop_eq_getElem_cons (by omega), Xj]
    simp (disch := omega) [e1, e2, e3, e4, e9, ZhC]
    repeat' (first
  | with_reducible refine Qa (ZkB op i) (by simp) ?_
  | with_reducible refine Qa (hc) (by simp) ?_
  | (with_reducible (first | refine Qo (fun hb_ => ?_) (fun hb_ => ?_) | refine Qn (fun hb_ => ?_) (fun hb_ => ?_)) <;> simp (disch := omega) [hb_, e1, e2, e3, e4, e9, Qf])
  | simp (disch := omega) [e1, e2, e3, e4, e9, Qf])
    ·exact ⟨by omega, by rw [he, hfd, hb_, Bool.true_and]⟩
    ·rw [he, hfd, hb_, Bool.false_and]
   ·simp only [Qh, Qg, Qm, Qj, Qd, Qc, Bool.not_true, Bool.not_false] at h6
    simp (disch := omega) [e1, e2]
    rw [he, show i = ks.length by omega, List.drop_length]; simp [Xj]
  ·simp (disch := omega)
   simp [Xr, h3]
end Go.Proofs.YtclfngbealdbgaaGreat
namespace Go.Proofs.YtclfngbealdbgaaGreat
open Go Go.TL
open Go.Proofs.YtclfngbealdbgaaGreat.Ty
set_option linter.unusedSimpArgs false
set_option linter.unusedVariables false
set_option linter.unusedSectionVars false
set_option maxRecDepth 20000
set_option maxHeartbeats 4000000
def FnB (P : Program) (f v : LV) (b : Bool) : Prop := ∃ fid vals, Zj f [v] = some (fid, vals) ∧ QD 0 vals ∧ Qe P fid vals (· = B b)
theorem Zk1 {P : Program} {f v : LV} {b : Bool} {d : Nat} {K : St → Prop} {s : St} (h : FnB P f v b) (hk : K { t := upd s.t d (B b), h := s.h }) : onFn P .no f [v] (some d) K s := by
 obtain ⟨fid, vals, h1, h2, h3⟩ := h
 exact ⟨fid, vals, h1, Qa (rw := .no) h3 h2 hk⟩
def numG (pg : Int → Bool) (nv : Int) (op n : Int) : Bool :=
 if eqB op 0 = true then QO n 0 (nv - 1) else if eqB op 1 = true then QO n 0 2 else if JD op = true then pg n else eqB n 0
def tyG (pt : List Int → Bool) (op : Int) (ty : List Int) : Bool := if Xw op = true then pt ty else eqB ty.length 0
def Zh8 (pg : Int → Bool) (pt : List Int → Bool) (nv : Int) (op n : Int) (ty : List Int) (len : Nat) : Bool := eqB len (YG op) && (numG pg nv op n && tyG pt op ty)
mutual
def Zdh (pg : Int → Bool) (pt : List Int → Bool) (nv : Int) : GTerm → Bool
 | .mk op n _ ty _ ks => Zh8 pg pt nv op n ty ks.length && VT pg pt nv op 0 ks
def VT (pg : Int → Bool) (pt : List Int → Bool) (nv : Int) (op : Int) (k : Nat) : List GTerm → Bool
 | [] => true
 | t :: ts => Zdh pg pt (nv + Qt op k) t && VT pg pt nv op (k + 1) ts
end
section
variable {pg : Int → Bool} {pt : List Int → Bool} {size : Int} {closed : Bool} (hg : ∀ n, pg n = (ltB n size && (leB (-1) n && (!closed || leB 0 n)))) (ht : ∀ ty, pt ty = (wty ty && Zb size closed ty))
include hg ht
mutual
theorem ZhV : ∀ (t : GTerm) (nv : Int), Zdh pg pt nv t = Xr nv size closed t
 | .mk op n nl1 ty nl2 ks, nv => by
  simp only [Zdh, Xr, Zkt ks, Zh8, Y0, numG, ZcM, tyG, tyB, hg, ht]
theorem Zkt : ∀ (ks : List GTerm) (nv op : Int) (k : Nat), VT pg pt nv op k ks = Xj nv size closed op k ks
 | [], _, _, _ => by simp [VT, Xj]
 | t :: ts, nv, op, k => by simp only [VT, Xj, ZhV t, Zkt ts]
end
end
def ZcL (f : Bool) (nodes : Int) (sz : Nat) : Int := if f = true ∧ nodes + sz ≤ 400 then nodes + sz else 401
theorem Zkv {op : Int} (h : QO op 0 12 = false) : YG op = -1 := by
 rw [ZeD] at h
 unfold YG; repeat' split
 all_goals omega
theorem ZoC {op : Int} {n : Nat} (h : eqB n (YG op) = true) : QO op 0 12 = true := by
 cases hc : QO op 0 12 with
 | true => rfl
 | false => rw [Zkv hc, Qd] at h; omega
theorem Zmy (fg ft : LV) (pg : Int → Bool) (pt : List Int → Bool) (sg : share fg = fg) (st : share ft = ft) (lg : Low 0 fg) (lt : Low 0 ft)
    (hg : ∀ n, I64 n → FnB Tryz.prog fg (N n) (pg n)) (ht : ∀ nl ty, Lok ty → FnB Tryz.prog ft (L nl ty) (pt ty)) : ∀ (d : Nat) (t : GTerm), t.size ≤ d → t.wf → ∀ nv nodes : Int, 0 ≤ nodes → nodes ≤ 400 → 0 ≤ nv → nv ≤ 8 + 2 * nodes →
    Qe Tryz.prog Jx [t.lv, N nv, fg, ft, N nodes] (· = N (ZcL (Zdh pg pt nv t) nodes t.size)) := by
  intro d
  induction d with
  | zero => intro t h; have := t.size_pos; omega
  | succ d ih =>
    rintro ⟨op, n, nl1, ty, nl2, ks⟩ hd hw nv nodes h0 h1 h2 h3
    simp only [GTerm.wf] at hw
    obtain ⟨hop, hn, hty, hk, hks⟩ := hw
    simp only [GTerm.size, GTerm.lv, GTerm.cells] at hd ⊢
    refine Qe.of_codeOf ZlK QA (by simp) ⟨_, rfl, by simp⟩ ?_
    simp (disch := omega) [ZeC, Qw, Qs, GTerm.cells, Qf, sg, st]
    refine Qa (ZpH op) (by simp) ?_
    by_cases hf : QO op 0 12 = true
    · rw [ZiE, if_pos hf]
      simp (disch := omega) [sg, st]
      (with_reducible first | refine Qo (fun h4 => ?_) (fun h4 => ?_) | refine Qn (fun h4 => ?_) (fun h4 => ?_))
      · simp (disch := omega) [h4]
        simp only [Qh, Qg, Qm, Qj, Qd, Qc, Bool.not_true, Bool.not_false] at h4
        unfold ZcL; rw [if_neg (by omega)]
      · simp (disch := omega) [h4]
        simp only [Qh, Qg, Qm, Qj, Qd, Qc, Bool.not_true, Bool.not_false] at h4
        (with_reducible first | refine Qo (fun h5 => ?_) (fun h5 => ?_) | refine Qn (fun h5 => ?_) (fun h5 => ?_))
        · simp only [wpC_skip, Zla]
          refine ZcH (fun t h => t 12 = B (numG pg nv op n) ∧ h[1]? = some (some [wordV op, N (YG op), B (JD op), B (Xw op)])) ?_ ?_
          · repeat' (first
    | with_reducible refine Qa (ZD _ _ _) (by simp) ?_
    | with_reducible refine Zk1 (hg n hn) ?_
    | (with_reducible (first | refine Qo (fun hb_ => ?_) (fun hb_ => ?_) | refine Qn (fun hb_ => ?_) (fun hb_ => ?_)) <;> simp (disch := omega) [hb_, sg, st, Qf])
    | simp (disch := omega) [sg, st, Qf])
            all_goals simp_all [numG]
          · rintro t1 hh hf1 ⟨e12, eh⟩
            (have e1 := hf1 1 (by kernel_rfl); have e2 := hf1 2 (by kernel_rfl); have e3 := hf1 3 (by kernel_rfl); have e4 := hf1 4 (by kernel_rfl); have e5 := hf1 5 (by kernel_rfl); have e11 := hf1 11 (by kernel_rfl); clear hf1; simp [sg, st] at e1 e2 e3 e4 e5 e11)
            obtain ⟨q, hq⟩ : ∃ q, (numG pg nv op n && tyG pt op ty) = q := ⟨_, rfl⟩
            refine ZcH (fun t h => t 12 = B q) ?_ ?_
            · repeat' (first
    | with_reducible refine Zk1 (ht nl1 ty hty) ?_
    | (with_reducible (first | refine Qo (fun hb_ => ?_) (fun hb_ => ?_) | refine Qn (fun hb_ => ?_) (fun hb_ => ?_)) <;> simp (disch := omega) [hb_, sg, st, e1, e2, e3, e4, e5, e11, e12, eh])
    | simp (disch := omega) [sg, st, e1, e2, e3, e4, e5, e11, e12, eh])
              all_goals rw [← hq]
              all_goals simp_all [tyG]
            · rintro t2 hh hf1 f12
              (have f1 := hf1 1 (by kernel_rfl); have f2 := hf1 2 (by kernel_rfl); have f3 := hf1 3 (by kernel_rfl); have f4 := hf1 4 (by kernel_rfl); have f5 := hf1 5 (by kernel_rfl); clear hf1; simp [e1, e2, e3, e4, e5] at f1 f2 f3 f4 f5)
              simp (disch := omega) [f12]
              (with_reducible first | refine Qo (fun h6 => ?_) (fun h6 => ?_) | refine Qn (fun h6 => ?_) (fun h6 => ?_))
              · have hN : Zh8 pg pt nv op n ty ks.length = true := by simp only [Zh8, h5, hq, h6, Bool.true_and]
                simp (disch := omega) [f1, f2, f3, f4, f5]
                refine Xm ks.length 0 (fun i t _ => ∃ nd : Int, t 84 = N i ∧ t 4 = N nd ∧ nodes + 1 ≤ nd ∧ nd ≤ 400 ∧ ZcL (Zdh pg pt nv (.mk op n nl1 ty nl2 ks)) nodes (XI ks + 1) = ZcL (VT pg pt nv op i (ks.drop i)) nd (XI (ks.drop i)))
                  ⟨nodes + 1, by simp, by simp [f4], by omega, by omega, ?_⟩ (by omega) ?_
                · simp only [Zdh, hN, Bool.true_and, List.drop_zero, ZcL]
                  congr 1 <;> grind
                rintro i t3 hh hf1 hi ⟨nd, g84, g4, hnd, hnd2, he⟩
                (have g1 := hf1 1 (by kernel_rfl); have g2 := hf1 2 (by kernel_rfl); have g3 := hf1 3 (by kernel_rfl); have g5 := hf1 5 (by kernel_rfl); have g82 := hf1 82 (by kernel_rfl); have g83 := hf1 83 (by kernel_rfl); clear hf1; simp [f1, f2, f3, f5] at g1 g2 g3 g5 g82 g83)
                simp (disch := omega) [g1, g2, g3, g4, g5, g82, g83, g84]
                (with_reducible first | refine Qo (fun h7 => ?_) (fun h7 => ?_) | refine Qn (fun h7 => ?_) (fun h7 => ?_))
                · simp only [Qh, Qg, Qm, Qj, Qd, Qc, Bool.not_true, Bool.not_false] at h7
                  have hsd := Zd2 (ks := ks) (i := i) (by omega)
                  have hsk := Zd (ks := ks) (i := i) (by omega)
                  have hwk : (ks[i]'(by omega)).wf := ZaR.1 hks _ (List.getElem_mem _)
                  have hA : 0 ≤ Qt op i ∧ Qt op i ≤ 2 := by (unfold Qt; repeat' split) <;> omega
                  have hc := ih (ks[i]'(by omega)) (by omega) hwk (nv + Qt op i) nd (by omega) (by omega) (by omega) (by omega)
                  have hfd : VT pg pt nv op i (ks.drop i) = (Zdh pg pt (nv + Qt op i) (ks[i]'(by omega)) && VT pg pt nv op (i + 1) (ks.drop (i + 1))) := by
                    rw [List.drop_eq_getElem_cons (by omega), VT]
                  simp (disch := omega) [g1, g2, g3, g4, g5, g82, g83, g84, ZhC, sg, st]
                  repeat' (first
    | with_reducible refine Qa (Zlm op i) (by simp) ?_
    | with_reducible refine Qa hc (by simp [lg, lt]) ?_
    | (with_reducible (first | refine Qo (fun hb_ => ?_) (fun hb_ => ?_) | refine Qn (fun hb_ => ?_) (fun hb_ => ?_)) <;> simp (disch := omega) [hb_, g1, g2, g3, g4, g5, g82, g83, g84, Qf, sg, st])
    | simp (disch := omega) [g1, g2, g3, g4, g5, g82, g83, g84, Qf, sg, st])
                  all_goals simp only [Qh, Qg, Qm, Qj, Qd, Qc, Bool.not_true, Bool.not_false] at hb_
                  all_goals rw [he, hfd, hsd]
                  · unfold ZcL at hb_ ⊢
                    grind
                  · refine ⟨by omega, ?_⟩
                    unfold ZcL at hb_ ⊢
                    grind
                · simp only [Qh, Qg, Qm, Qj, Qd, Qc, Bool.not_true, Bool.not_false] at h7
                  simp (disch := omega) [g4]
                  rw [he, show i = ks.length by omega, List.drop_length]; simp [VT, ZcL, XI]; omega
              · simp (disch := omega)
                unfold ZcL Zdh Zh8; rw [hq]; simp [h5, h6]
        · simp (disch := omega)
          unfold ZcL Zdh Zh8; simp [h5]
    · simp only [Bool.not_eq_true] at hf
      rw [ZiE, if_neg (by simp [hf])]
      simp (disch := omega) [sg, st]
      unfold ZcL Zdh Zh8
      rw [Zkv hf, show eqB (ks.length : Int) (-1) = false by rw [Qc]; omega]
      simp
theorem Zov {ty : List Int} (h : wty ty = true) : Zb 16 false ty = true := by
 rw [Zb, YX]
 intro i hi
 have := ZfK h i hi
 simp only [Yl, okC, W2]
 generalize ty.getD i 0 = c at *
 have h3 : ltB (if 35 ≤ c then -1 else if 19 ≤ c then c - 19 else c - 3) 16 = true := by
  rw [Qh]; repeat' split
  all_goals omega
 rw [h3]; simp
theorem Zfa (n : Int) (h : I64 n) : FnB Tryz.prog (.fn XE []) (N n) (QO n (-1) 15) := by
 refine ⟨XE, [N n], by simp [Zj], by simp, ?_⟩
 refine Qe.of_codeOf ZbF QA (by simp) ⟨_, rfl, by simp⟩ ?_
 simp (disch := omega) [Ko]
 repeat' (first
  | with_reducible refine Qa (ZD _ _ _) (by simp) ?_
  | (with_reducible (first | refine Qo (fun hb_ => ?_) (fun hb_ => ?_) | refine Qn (fun hb_ => ?_) (fun hb_ => ?_)) <;> simp (disch := omega) [hb_])
  | simp (disch := omega))
theorem Zfr (nl : Bool) (ty : List Int) (h : Lok ty) : FnB Tryz.prog (.fn WV []) (L nl ty) (wty ty) :=
 ⟨WV, [L nl ty], by simp [Zj], by simp, V3 nl ty h⟩
def GTerm.writ (t : GTerm) : Bool := decide (t.size ≤ 400) && Xr 8 16 false t
theorem Zhx (t : GTerm) (hw : t.wf) : Qe Tryz.prog Z6 [t.lv] (· = N (ZcL (Xr 8 16 false t) 0 t.size)) := by
 refine Qe.of_codeOf ZdE QA (by simp) ⟨_, rfl, by simp⟩ ?_
 have hc := Zmy (.fn XE []) (.fn WV []) (fun n => QO n (-1) 15) wty (by simp) (by simp) (by simp) (by simp) Zfa Zfr t.size t (by omega) hw 8 0 (by omega) (by omega) (by omega) (by omega)
 rw [ZhV (size := 16) (closed := false) (fun n => by rw [Bool.eq_iff_iff]; simp [QO, Qh, Qg, Qm, Qj, Qd, Qc, Bool.not_true, Bool.not_false]; omega) (fun ty => by
  cases h : wty ty with
  | false => simp
  | true => simp [Zov h])] at hc
 simp (disch := omega) [K1, Qw, Qs]
 repeat' (first
  | with_reducible refine Qa (hc) (by simp) ?_
  | (with_reducible (first | refine Qo (fun hb_ => ?_) (fun hb_ => ?_) | refine Qn (fun hb_ => ?_) (fun hb_ => ?_)) <;> simp (disch := omega) [hb_])
  | simp (disch := omega))
theorem Zft (t : GTerm) (hw : t.wf) : Qe Tryz.prog JU [t.lv] (· = B t.writ) := by
 refine Qe.of_codeOf Zfy QA (by simp) ⟨_, rfl, by simp⟩ ?_
 have h2 : leB (ZcL (Xr 8 16 false t) 0 t.size) 400 = t.writ := by
  rw [Bool.eq_iff_iff]
  simp only [Qh, Qg, Qm, Qj, Qd, Qc, Bool.not_true, Bool.not_false, ZcL, GTerm.writ, Bool.and_eq_true, decide_eq_true_eq]
  split <;> grind
 simp (disch := omega) [Zap, Qw, Qs]
 repeat' (first
  | with_reducible refine Qa (Zhx t hw) (by simp) ?_
  | (with_reducible (first | refine Qo (fun hb_ => ?_) (fun hb_ => ?_) | refine Qn (fun hb_ => ?_) (fun hb_ => ?_)) <;> simp (disch := omega) [hb_, h2])
  | simp (disch := omega) [h2])
theorem ZfF (t : GTerm) (hw : t.wf) : Qe Tryz.prog J1 [t.lv] (· = B t.writ) := by
 refine Qe.of_codeOf Zfm QA (by simp) ⟨_, rfl, by simp⟩ ?_
 have hl := ZcG t.size t (by omega) hw 400 (by omega) (by omega)
 have h16 : I64 16 := ⟨by omega, by omega⟩
 have h2 : leB 0 (JC t.size 400) = decide (t.size ≤ 400) := by
  rw [Bool.eq_iff_iff]
  simp only [Qh, Qg, Qm, Qj, Qd, Qc, Bool.not_true, Bool.not_false, JC, decide_eq_true_eq]
  split <;> omega
 by_cases hs : t.size ≤ 400
 ·have hf := Zko 16 false h16 t.size t (by omega) hw 8 (by omega) (by omega)
  simp (disch := omega) [JV, Qw, Qs]
  repeat' (first
  | with_reducible refine Qa (hl) (by simp) ?_
  | with_reducible refine Qa (hf) (by simp) ?_
  | (with_reducible (first | refine Qo (fun hb_ => ?_) (fun hb_ => ?_) | refine Qn (fun hb_ => ?_) (fun hb_ => ?_)) <;> simp (disch := omega) [hb_, h2])
  | simp (disch := omega) [h2])
  all_goals simp_all [GTerm.writ]
 ·simp (disch := omega) [JV, Qw, Qs]
  repeat' (first
  | with_reducible refine Qa (hl) (by simp) ?_
  | (with_reducible (first | refine Qo (fun hb_ => ?_) (fun hb_ => ?_) | refine Qn (fun hb_ => ?_) (fun hb_ => ?_)) <;> simp (disch := omega) [hb_, h2])
  | simp (disch := omega) [h2])
  ·simp at hb_; omega
  ·simp_all [GTerm.writ]; omega
end Go.Proofs.YtclfngbealdbgaaGreat
namespace Go.Proofs.YtclfngbealdbgaaGreat
open Go Go.TL
open Go.Proofs.YtclfngbealdbgaaGreat.Ty
set_option linter.unusedSimpArgs false
set_option linter.unusedVariables false
set_option maxRecDepth 20000
set_option maxHeartbeats 4000000
def okT (size : Int) (c : Bool × List Int) : Bool := wty c.2 && Zb size true c.2
def okAt (size : Int) (ctx : Wk) (i : Nat) : Bool := okT size (ctx.getD i (true, []))
theorem ZlR {size : Int} {ctx : Wk} {i : Nat} (h : i < ctx.length) : okAt size ctx i = okT size ctx[i] := by simp [okAt, h]
def ZdP (size : Int) (ctx : Wk) : Bool := leB ctx.length 8 && XZ (okAt size ctx) ctx.length
theorem ZlJ (s : GSys) (t : s.Tab) (nl : Bool) (ctx : Wk) (hw : ctx.wf) : Qe Tryz.prog JZ [s.lv, LC nl ctx] (· = B (ZdP s.size ctx)) := by
 refine Qe.of_codeOf ZfT QA (by simp) ⟨_, rfl, by simp⟩ ?_
 have h2 := t.lo; have h16 := t.hi
 have hlen := hw.1
 have hI : I64 s.size := ⟨by omega, by omega⟩
 simp (disch := omega) [V4, Qw, Qs]
 (with_reducible first | refine Qo (fun h1 => ?_) (fun h1 => ?_) | refine Qn (fun h1 => ?_) (fun h1 => ?_))
 ·simp (disch := omega)
  rw [ZaL] at h1; simp at h1; simp [ZdP, h1]
 ·simp (disch := omega)
  have e8 : ZdP s.size ctx = XZ (okAt s.size ctx) ctx.length := by rw [ZaL] at h1; simp at h1; simp [ZdP, h1]
  rw [e8]
  refine Xm ctx.length 0 (fun i t _ => t 5 = N i ∧ XZ (okAt s.size ctx) i = true) (by simp) (by omega) ?_
  rintro i t1 hh hf hi ⟨e5, hj⟩
  (have e1 := hf 1 (by kernel_rfl); have e2 := hf 2 (by kernel_rfl); clear hf; simp [] at e1 e2)
  simp (disch := omega) [e1, e2, e5]
  (with_reducible first | refine Qo (fun h6 => ?_) (fun h6 => ?_) | refine Qn (fun h6 => ?_) (fun h6 => ?_))
  ·simp only [Qh, Qg, Qm, Qj, Qd, Qc, Bool.not_true, Bool.not_false] at h6
   have hL : Lok (ctx[i]'(by omega)).2 := hw.2 _ (List.getElem_mem _)
   have ha := ZlR (size := s.size) (ctx := ctx) (i := i) (by omega)
   simp (disch := omega) [e1, e2, e5, KI]
   rcases h : ctx[i]'(by omega) with ⟨nl1, ty⟩
   rw [h] at hL ha
   simp only at hL
   repeat' (first
  | with_reducible refine Qa (Zky nl1 ty hL) (by simp) ?_
  | with_reducible refine Qa (Zgl nl1 ty hL s.size hI true) (by simp) ?_
  | (with_reducible (first | refine Qo (fun hb_ => ?_) (fun hb_ => ?_) | refine Qn (fun hb_ => ?_) (fun hb_ => ?_)) <;> simp (disch := omega) [hb_, e1, e2, e5, KI, h])
  | simp (disch := omega) [e1, e2, e5, KI, h])
   all_goals first
    | exact ⟨by omega, Qf (by omega), by simp_all [Wq, okT]⟩
    | exact (Xb (p := okAt s.size ctx) (i := i) (by omega) (by simp_all [okT]))
  ·simp only [Qh, Qg, Qm, Qj, Qd, Qc, Bool.not_true, Bool.not_false] at h6
   simp (disch := omega)
   rw [show i = ctx.length by omega] at hj
   rw [hj]
theorem Zg9 (s : GSys) (t : s.Tab) (c : Bool × List Int) (hL : Lok c.2) : FnB Tryz.prog (.fn X2 [.rp s.cells]) (eC c) (!okT s.size c) := by
 refine ⟨X2, [eC c, .rp s.cells], by simp [Zj], by simp, ?_⟩
 refine Qe.of_codeOf Zd7 QA (by simp) ⟨_, rfl, by simp⟩ ?_
 obtain ⟨nl1, ty⟩ := c
 simp (disch := omega) [K9]
 repeat' (first
  | with_reducible refine Qa (Zgn t nl1 ty hL) (by simp) ?_
  | (with_reducible (first | refine Qo (fun hb_ => ?_) (fun hb_ => ?_) | refine Qn (fun hb_ => ?_) (fun hb_ => ?_)) <;> simp (disch := omega) [hb_])
  | simp (disch := omega))
 all_goals simp [okT]
theorem Zk6 (f : LV) (p : Bool × List Int → Bool) (sf : share f = f) (lf : Low 0 f) (nl : Bool) (ctx : Wk) (hw : ctx.wf) (hp : ∀ c ∈ ctx, FnB Tryz.prog f (eC c) (p c)) :
  Qe Tryz.prog Xf [LC nl ctx, f] (fun r => ∃ n : Int, r = N n ∧ leB 0 n = ctx.any p) := by
 have hlen := hw.1
 refine Qe.of_codeOf Jh QA (by simp) ⟨N (if ctx.any p = true then 0 else -1), ⟨_, rfl, by split <;> simp_all [leB]⟩, by simp⟩ ?_
 simp (disch := omega) [X3]
 refine Xm ctx.length 0 (fun i t _ => t 8 = N i ∧ ctx.any p = (ctx.drop i).any p) (by simp) (by omega) ?_
 rintro i t1 hh hf hi ⟨e8, hj⟩
 (have e0 := hf 0 (by kernel_rfl); have e1 := hf 1 (by kernel_rfl); have e6 := hf 6 (by kernel_rfl); have e7 := hf 7 (by kernel_rfl); clear hf; simp [sf] at e0 e1 e6 e7)
 simp (disch := omega) [e0, e1, e6, e7, e8]
 (with_reducible first | refine Qo (fun h6 => ?_) (fun h6 => ?_) | refine Qn (fun h6 => ?_) (fun h6 => ?_))
 ·simp only [Qh, Qg, Qm, Qj, Qd, Qc, Bool.not_true, Bool.not_false] at h6
  have hd := List.drop_eq_getElem_cons (l := ctx) (i := i) (by omega)
  have hpc := hp (ctx[i]'(by omega)) (List.getElem_mem _)
  simp (disch := omega) [e0, e1, e6, e7, e8, KI, sf]
  repeat' (first
  | with_reducible refine Zk1 hpc ?_
  | (with_reducible (first | refine Qo (fun hb_ => ?_) (fun hb_ => ?_) | refine Qn (fun hb_ => ?_) (fun hb_ => ?_)) <;> simp (disch := omega) [hb_, e0, e1, e6, e7, e8, KI, sf])
  | simp (disch := omega) [e0, e1, e6, e7, e8, KI, sf])
  ·rw [hj, hd, List.any_cons, hb_, Bool.true_or, Qm]; omega
  ·exact ⟨by omega, Qf (by omega), by rw [hj, hd, List.any_cons, hb_, Bool.false_or]⟩
 ·simp only [Qh, Qg, Qm, Qj, Qd, Qc, Bool.not_true, Bool.not_false] at h6
  simp (disch := omega)
  rw [hj, show i = ctx.length by omega, List.drop_length]; simp [leB]
theorem ZmW {P : Program} {K : St → Prop} {s : St} {rw : Rw} {d : Nat} {f : FuncId} {vals : List LV} {R : LV → Prop} (c : Qe P f vals R) (hl : QD 0 vals) (hk : ∀ r, R r → K { t := upd s.t d r, h := s.h }) (hrw : rw ≠ .fr := by simp) : ZM P rw f vals (some d) K s := Qi c hl hk hrw
theorem ZgC (f : LV) (p : Bool × List Int → Bool) (sf : share f = f) (lf : Low 0 f) (nl : Bool) (ctx : Wk) (hw : ctx.wf) (hp : ∀ c ∈ ctx, FnB Tryz.prog f (eC c) (p c)) :
  Qe Tryz.prog W1 [LC nl ctx, f] (· = B (ctx.any p)) := by
 refine Qe.of_codeOf ZO QA (by simp) ⟨_, rfl, by simp⟩ ?_
 simp (disch := omega) [XO, sf]
 refine ZmW (Zk6 f p sf lf nl ctx hw hp) (by simp [lf]) ?_
 rintro r ⟨n, rfl, hn⟩
 simp (disch := omega) [sf, hn]
theorem Zm6 {ctx : Wk} {size : Int} : ∀ n, n ≤ ctx.length → XZ (okAt size ctx) n = !((ctx.take n).any fun c => !okT size c)
 | 0, _ => by simp
 | n + 1, h => by
  rw [Wq, Zm6 n (by omega), ZlR (by omega), List.take_succ_eq_append_getElem (by omega), List.any_append]
  simp [Bool.not_or]
theorem ZkV (s : GSys) (t : s.Tab) (nl : Bool) (ctx : Wk) (hw : ctx.wf) : Qe Tryz.prog JN [s.lv, LC nl ctx] (· = B (ZdP s.size ctx)) := by
 refine Qe.of_codeOf Zfb QA (by simp) ⟨_, rfl, by simp⟩ ?_
 have hlen := hw.1
 have hc := ZgC (.fn X2 [.rp s.cells]) (fun c => !okT s.size c) (by simp) (by simp) nl ctx hw (fun c hc => Zg9 s t c (hw.2 c hc))
 have ha := Zm6 (ctx := ctx) (size := s.size) ctx.length (by omega)
 rw [List.take_length] at ha
 simp (disch := omega) [Zab, Qw, Qs]
 repeat' (first
  | with_reducible refine Qa (hc) (by simp) ?_
  | (with_reducible (first | refine Qo (fun hb_ => ?_) (fun hb_ => ?_) | refine Qn (fun hb_ => ?_) (fun hb_ => ?_)) <;> simp (disch := omega) [hb_])
  | simp (disch := omega))
 all_goals simp_all [ZdP]
structure GSes where
 sys : GSys
 nl : Bool
 ctx : Wk
 term : GTerm
def GSes.cells (x : GSes) : List LV := x.sys.cells ++ (LC x.nl x.ctx :: x.term.cells)
abbrev GSes.lv (x : GSes) : LV := .agg x.cells
def GSes.wf (x : GSes) : Prop := x.sys.wf ∧ x.ctx.wf ∧ x.term.wf
def GSes.ok (x : GSes) : Bool := x.sys.sys && (ZdP x.sys.size x.ctx && x.term.writ)
end Go.Proofs.YtclfngbealdbgaaGreat
namespace Go.Proofs.YtclfngbealdbgaaGreat
open Go Go.TL
set_option linter.unusedSimpArgs false
set_option linter.unusedVariables false
set_option maxRecDepth 20000
set_option maxHeartbeats 4000000
def Rok (l : List Int) : Prop := l.length ≤ 9223372036854775807 ∧ ∀ n ∈ l, I64 n
def GSys.raw (s : GSys) : Prop := I64 s.size ∧ Rok s.plus ∧ Rok s.times ∧ s.below.length ≤ 9223372036854775807
def GSys.w (s : GSys) : Nat := s.plus.length + (s.times.length + s.below.length)
def GSys.norm (s : GSys) : GSys := { s with n1 := false, n2 := false, n3 := false }
def GSys.own (s : GSys) : List LV := [N s.size, OU true false s.plus, OU true false s.times, OB true false s.below]
@[simp] theorem GSys.share_own (s : GSys) : shareAll s.own = s.norm.cells := by simp [GSys.own, GSys.norm]
@[simp] theorem GSys.low_own (s : GSys) (k : Nat) : QD k s.own := by simp [GSys.own]
@[simp] theorem GSys.own_length (s : GSys) : s.own.length = 4 := rfl
def GSys.same (a b : GSys) : Bool := eqB a.size b.size && ((a.plus == b.plus) && ((a.times == b.times) && (a.below == b.below)))
def GSes.raw (x : GSes) : Prop := x.sys.raw ∧ x.ctx.raw ∧ x.term.raw
def GSes.w (x : GSes) : Nat := x.sys.w + ((x.ctx.length + cws x.ctx) + x.term.w)
def GSes.norm (x : GSes) : GSes := ⟨x.sys.norm, false, x.ctx.norm, x.term.norm⟩
def GSes.own (x : GSes) : List LV := x.sys.own ++ (x.ctx.own :: x.term.own)
@[simp] theorem Zeq : ∀ a b : List LV, shareAll (a ++ b) = shareAll a ++ shareAll b
 | [], b => by simp [shareAll]
 | x :: a, b => by simp [shareAll, Zeq a b]
@[simp] theorem ZhL (k : Nat) : ∀ a b : List LV, QD k (a ++ b) ↔ QD k a ∧ QD k b
 | [], b => by simp
 | x :: a, b => by simp [ZhL k a b, and_assoc]
@[simp] theorem GSes.share_own (x : GSes) : shareAll x.own = x.norm.cells := by
 simp [GSes.own, GSes.norm, GSes.cells, Wk.norm]
@[simp] theorem GSes.low_own (x : GSes) (k : Nat) : QD k x.own := by simp [GSes.own]
@[simp] theorem GSes.low_cells (x : GSes) (k : Nat) : QD k x.cells := by simp [GSes.cells]
@[simp] theorem GSes.share_cells (x : GSes) : shareAll x.cells = x.cells := by simp [GSes.cells]
@[simp] theorem GSes.cells_length (x : GSes) : x.cells.length = 9 := by simp [GSes.cells]
@[simp] theorem GSes.own_length (x : GSes) : x.own.length = 9 := by simp [GSes.own]
@[simp] theorem GSes.take_cells (x : GSes) : x.cells.take 9 = x.cells := List.take_of_length_le (by simp)
@[simp] theorem GSes.take_own (x : GSes) : x.own.take 9 = x.own := List.take_of_length_le (by simp)
@[simp] theorem GSes.alive_own (x : GSes) : Wu x.own = true := by simp [GSes.own, GSys.own]
@[simp] theorem GSes.alive_cells (x : GSes) : Wu x.cells = true := by simp [GSes.cells]
def GSes.same (a b : GSes) : Bool := a.sys.same b.sys && (sameC a.ctx b.ctx && a.term.same b.term)
end Go.Proofs.YtclfngbealdbgaaGreat
namespace Go.Proofs.YtclfngbealdbgaaGreat
open Go
open Go.TL (GM.all Rep Qb Qv Qx LV)
open Go.TL (N B)
set_option linter.unusedVariables false
set_option maxRecDepth 20000
variable {H : Type} {enc : TypeId × Value → H} {P : Program} {w : World} {base : Nat} {spare : Nat → Bool} {held : Bool}
def Kv (w : World) (xs : List LV) (cs : List Value) : Prop := Qb (GM.all w) [] xs cs [] ∧ ∀ c ∈ cs, c.oneCell' = true
theorem Kv.nil : Kv w [] [] := ⟨by simp [Qb], by simp⟩
theorem Kv.cons {x : LV} {v : Value} {xs : List LV} {cs : List Value} (h : Rep (GM.all w) [] x v []) (h1 : v.oneCell' = true) (ht : Kv w xs cs) : Kv w (x :: xs) (v :: cs) := by
  refine ⟨?_, by intro c hc; simp only [List.mem_cons] at hc; rcases hc with rfl | hc; · exact h1
                 · exact ht.2 c hc⟩
  simp only [Qb]
  exact ⟨v, cs, [], [], rfl, rfl, h, ht.1⟩
theorem Kv.app {xs ys : List LV} {cs ds : List Value} (h1 : Kv w xs cs) (h2 : Kv w ys ds) : Kv w (xs ++ ys) (cs ++ ds) := by
 induction xs generalizing cs with
 | nil =>
  obtain ⟨h, _⟩ := h1
  simp only [Qb] at h
  rw [h.1]; simpa using h2
 | cons x xs ih =>
  obtain ⟨h, hc⟩ := h1
  simp only [Qb] at h
  obtain ⟨v, ws, O1, O2, rfl, hO, g1, g2⟩ := h
  obtain ⟨rfl, rfl⟩ := List.append_eq_nil_iff.1 hO.symm
  exact Kv.cons g1 (hc v (by simp)) (ih ⟨g2, fun c hc' => hc c (by simp [hc'])⟩)
theorem Kv.length {xs : List LV} {cs : List Value} (h : Kv w xs cs) : cs.length = xs.length := by
 induction xs generalizing cs with
 | nil => have := h.1; simp only [Qb] at this; rw [this.1]; rfl
 | cons x xs ih =>
  obtain ⟨h, hc⟩ := h
  simp only [Qb] at h
  obtain ⟨v, ws, O1, O2, rfl, hO, g1, g2⟩ := h
  obtain ⟨rfl, rfl⟩ := List.append_eq_nil_iff.1 hO.symm
  simp [ih ⟨g2, fun c hc' => hc c (by simp [hc'])⟩]
theorem Kv.cells {xs : List LV} {cs : List Value} (h : Kv w xs cs) (b off : Nat) (hc : ∀ i, i < cs.length → w.cell? ⟨b, off + i, none⟩ = cs[i]?) : Qv (GM.all w) [] xs b off [] := by
 induction xs generalizing cs off with
 | nil => simp [Qv]
 | cons x xs ih =>
  obtain ⟨h, h1⟩ := h
  simp only [Qb] at h
  obtain ⟨v, ws, O1, O2, rfl, hO, g1, g2⟩ := h
  obtain ⟨rfl, rfl⟩ := List.append_eq_nil_iff.1 hO.symm
  simp only [Qv]
  refine ⟨v, [], [], rfl, by simpa [GM.all] using hc 0 (by simp), h1 v (by simp), g1, ih ⟨g2, fun c hc' => h1 c (by simp [hc'])⟩ (off + 1) fun i hi => ?_⟩
  have := hc (i + 1) (by simpa using hi)
  rw [show off + 1 + i = off + (i + 1) by omega]
  simpa using this
theorem Zg6 {a : Addr} {n : Nat} {cs : List Value} (h : w.cells? base a n = some cs) : cs.length = n ∧ ∀ i, i < n → w.cell? (a.add i) = cs[i]? := by
 unfold World.cells? at h
 split at h
 ·refine ⟨by simpa using mapM_some_length h, fun i hi => by simpa [hi] using mapM_some_get h i i (by simp [hi])⟩
 ·simp at h
theorem Zke {a : Addr} {v : Value} (h : w.cell? a = some v) : a.spot = none := by
 unfold World.cell? at h
 split at h
 ·split at h
  ·simp at h
  ·rename_i hs; simpa using hs
 ·simp at h
theorem add_at {b off i : Nat} : (⟨b, off, none⟩ : Addr).add i = ⟨b, off + i, none⟩ := by
 unfold Addr.add; split <;> simp_all
theorem rd_slice {α : Type} (e : α → List LV) (Q : α → Prop) {t et : TypeId} {sz : Nat} (hsz : P.cellsOf et = sz) (hpos : 0 < sz) (ht : P.underlying t = some (.slice et)) {fuel : Nat}
  (each : ∀ n cs y, n < fuel → DataW.trod enc P w base spare held n et cs = some y → ∃ r, Q r ∧ Kv w (e r) cs ∧ (e r).length = sz)
  {cs : List Value} {x : DataW H × List MemPlace} (h : DataW.trod enc P w base spare held fuel t cs = some x) :
  ∃ (nl : Bool) (l : List α), (∀ r ∈ l, Q r) ∧ l.length ≤ 9223372036854775807 ∧ Kv w [.sl false nl sz (l.map e)] cs := by
 rcases DataW.trod_slice ht h with ⟨rfl, _⟩ | ⟨a, len, cap, elems, rest, n, rfl, rfl, _, _, hlc, hcm, hlen, hel, _, _⟩
 ·exact ⟨true, [], by simp, by simp, Kv.cons (by simp [Rep]) rfl Kv.nil⟩
 ·rw [hsz] at hel
  have get : ∀ i, i < len → ∃ r, Q r ∧ (e r).length = sz ∧ a.spot = none ∧ Qv (GM.all w) [] (e r) a.block (a.off + i * sz) [] := by
   intro i hi
   have h1 := hel i hi
   have h2 : elems[i]? = some (elems[i]'(by omega)) := List.getElem?_eq_getElem _
   rw [h2, Option.bind_eq_some_iff] at h1
   obtain ⟨cs', hc, htr⟩ := h1
   obtain ⟨r, hq, hv, hl⟩ := each n cs' _ (by omega) htr
   obtain ⟨hcl, hcg⟩ := Zg6 hc
   have hs : a.spot = none := by
    by_cases hi0 : i = 0
    ·have := hcg 0 hpos
     rw [List.getElem?_eq_getElem (by omega)] at this
     have hs := Zke this
     simpa [hi0, Addr.add] using hs
    ·have h0 := hel 0 (by omega)
     have h2 : elems[0]? = some (elems[0]'(by omega)) := List.getElem?_eq_getElem _
     rw [h2, Option.bind_eq_some_iff] at h0
     obtain ⟨cs0, hc0, _⟩ := h0
     obtain ⟨hcl0, hcg0⟩ := Zg6 hc0
     have := hcg0 0 hpos
     rw [List.getElem?_eq_getElem (by omega)] at this
     have hs := Zke this
     simpa [Addr.add] using hs
   refine ⟨r, hq, hl, hs, hv.cells _ _ fun j hj => ?_⟩
   have := hcg j (by omega)
   rw [← this]
   obtain ⟨b, off, sp⟩ := a
   simp only at hs
   subst hs
   rw [add_at, add_at]
  have Qk : ∀ k i, i + k = len → ∃ l : List α, l.length = k ∧ (∀ r ∈ l, Q r) ∧ Qx (GM.all w) [] (l.map e) sz a.block (a.off + i * sz) [] := by
   intro k
   induction k with
   | zero => intro i hi; exact ⟨[], rfl, by simp, by simp [Qx]⟩
   | succ k ih =>
    intro i hi
    obtain ⟨r, hq, hl, _, hc⟩ := get i (by omega)
    obtain ⟨l, h1, h2, h3⟩ := ih (i + 1) (by omega)
    refine ⟨r :: l, by simp [h1], by simpa using ⟨hq, h2⟩, ?_⟩
    simp only [List.map_cons, Qx]
    refine ⟨[], [], rfl, hl, hc, ?_⟩
    rw [show a.off + i * sz + sz = a.off + (i + 1) * sz by rw [Nat.add_mul]; omega]
    exact h3
  obtain ⟨l, h1, h2, h3⟩ := Qk len 0 (by omega)
  have hmx : maxLen = 9223372036854775807 := by decide
  refine ⟨false, l, h2, by omega, Kv.cons ?_ rfl Kv.nil⟩
  obtain ⟨b, off, sp⟩ := a
  simp only [Rep]
  refine .inr ⟨trivial, b, off, sp, cap, [], by simp [h1], ?_, by simp [h1, hlc], by simpa using h3, .inr ⟨.inl trivial, rfl⟩⟩
  by_cases h0 : len = 0
  ·right
   refine ⟨?_, .inl trivial⟩
   simp; exact List.eq_nil_of_length_eq_zero (by omega)
  ·left
   obtain ⟨_, _, _, hs, _⟩ := get 0 (by omega)
   exact hs
theorem rd_byte {t : TypeId} (ht : P.underlying t = some (.int .u8)) {fuel : Nat} {cs : List Value} {x : DataW H × List MemPlace} (h : DataW.trod enc P w base spare held fuel t cs = some x) :
  ∃ n : Int, (0 ≤ n ∧ n ≤ 255) ∧ Kv w [.sc (.int .u8 n)] cs := by
 obtain ⟨n, rfl, _, hw⟩ := DataW.trod_int ht h
 refine ⟨n, ?_, Kv.cons (by simp [Rep]) rfl Kv.nil⟩
 simp [Lit.wf, IntKind.min, IntKind.max, IntKind.signed, IntKind.bits] at hw
 omega
theorem rd_bytes {t et : TypeId} (he : P.underlying et = some (.int .u8)) (hsz : P.cellsOf et = 1) (ht : P.underlying t = some (.slice et)) {fuel : Nat} {cs : List Value} {x : DataW H × List MemPlace}
  (h : DataW.trod enc P w base spare held fuel t cs = some x) : ∃ D : Go.TL.Dr, (∀ b ∈ D.bs, 0 ≤ b ∧ b ≤ 255) ∧ Kv w [D.lv] cs := by
 obtain ⟨nl, l, hq, hl, hv⟩ := rd_slice (fun n => [.sc (.int .u8 n)]) (fun n => 0 ≤ n ∧ n ≤ 255) hsz (by omega) ht (fun n cs y _ hy => by
  obtain ⟨m, h1, h2⟩ := rd_byte he hy
  exact ⟨m, h1, h2, rfl⟩) h
 exact ⟨⟨nl, l⟩, hq, hv⟩
end Go.Proofs.YtclfngbealdbgaaGreat
namespace Go.Proofs.YtclfngbealdbgaaGreat
open Go Go.TL
set_option linter.unusedSimpArgs false
set_option linter.unusedVariables false
set_option maxRecDepth 20000
set_option maxHeartbeats 4000000
def mmLV (mx : Bool) (x y : LV) : Option LV := match x, y with
 | .sc (.int k a), .sc (.int _ b) => some (.sc (.int k (if (if mx then b > a else b < a) then b else a)))
 | _, _ => none
@[simp] theorem step_mm {s : St} {d : Nat} {mx : Bool} {x y : X} : TL.step (.minmax d mx x y) s = (mmLV mx (TL.get s.t x) (TL.get s.t y)).map (s.put d) := by
 simp only [TL.step, mmLV]
 split <;> simp_all
@[simp] theorem mm_min {k k' : IntKind} {a b : Int} : mmLV false (.sc (.int k a)) (.sc (.int k' b)) = some (.sc (.int k (if b < a then b else a))) := by simp [mmLV]
@[simp] theorem mm_max {k k' : IntKind} {a b : Int} : mmLV true (.sc (.int k a)) (.sc (.int k' b)) = some (.sc (.int k (if a < b then b else a))) := by simp [mmLV]
def WS {α : Type} (f : Nat → Nat → α) (size a b : Nat) : List α := ((List.range a).flatMap fun x => (List.range size).map fun y => f x y) ++ (List.range b).map fun y => f a y
theorem Zfv {α : Type} (f : Nat → Nat → α) (size : Nat) : WS f size 0 0 = [] := by simp [WS]
theorem KS {α : Type} (f : Nat → Nat → α) (size a b : Nat) : WS f size a (b + 1) = WS f size a b ++ [f a b] := by
 simp [WS, List.range_succ]
theorem ZeY {α : Type} (f : Nat → Nat → α) (size a : Nat) : WS f size (a + 1) 0 = WS f size a size := by
 simp [WS, List.range_succ]
abbrev OI (l : List Int) : LV := .sl true l.isEmpty 1 (l.map fun n => [N n])
abbrev OBl (l : List Bool) : LV := .sl true l.isEmpty 1 (l.map fun b => [B b])
theorem ZT {α : Type} (f : Nat → Nat → α) (size : Nat) : ∀ a b, (WS f size a b).length = a * size + b
 | 0, b => by simp [WS]
 | a + 1, b => by
  have h1 := ZT f size a size
  rw [← ZeY] at h1
  have : (WS f size (a + 1) b).length = (WS f size (a + 1) 0).length + b := by simp [WS]
  rw [this, h1, Nat.add_mul]; omega
theorem Zkm {l : List Int} {x : Int} (h : l.length < 1099511627776) : WF 1 (OI l) (.sl true false 1 [[N x]]) = some (OI (l ++ [x])) := by
 simp only [WF]
 rw [if_pos ⟨.inl trivial, .inl trivial, .inl trivial, by simp [most]; omega⟩]
 simp
theorem app_B {l : List Bool} {x : Bool} (h : l.length < 1099511627776) : WF 1 (OBl l) (.sl true false 1 [[B x]]) = some (OBl (l ++ [x])) := by
 simp only [WF]
 rw [if_pos ⟨.inl trivial, .inl trivial, .inl trivial, by simp [most]; omega⟩]
 simp
theorem Zfx {a b size : Nat} (hs : size ≤ 100) (ha : a < size) (hb : b < size) : a * size + b < 1099511627776 := by
 have : a * size ≤ 100 * 100 := Nat.mul_le_mul (by omega) hs
 omega
def nPl (n a b : Nat) : Int := min ((a : Int) + b) (n + 1)
def nTm (n a b : Nat) : Int := min ((a : Int) * b) (n + 1)
def nBl (n : Nat) (bound : Bool) (a b : Nat) : Bool := eqB a b || (eqB b (n + 1) || (bound && leB a b))
abbrev numSys (n : Nat) (bound : Bool) : LV := .agg [N (n + 2), OI (WS (nPl n) (n + 2) (n + 2) 0), OI (WS (nTm n) (n + 2) (n + 2) 0), OBl (WS (nBl n bound) (n + 2) (n + 2) 0)]
theorem Zqk {a b n : Nat} (hn : n ≤ 14) (ha : a < n + 2) (hb : b < n + 2) : (0 : Int) ≤ (a : Int) * b ∧ (a : Int) * b ≤ 256 := by
 have : a * b ≤ 16 * 16 := Nat.mul_le_mul (by omega) (by omega)
 have e : ((a * b : Nat) : Int) = (a : Int) * b := by simp
 omega
theorem Zat (a b : Int) : Qe Tryz.prog YK [N a, N b] (· = N (min a b)) := by
 refine Qe.of_codeOf ZlT QA (by simp) ⟨_, rfl, by simp⟩ ?_
 simp (disch := omega) [Zey]
 repeat' (first
  | (with_reducible (first | refine Qo (fun hb_ => ?_) (fun hb_ => ?_) | refine Qn (fun hb_ => ?_) (fun hb_ => ?_)) <;> simp (disch := omega) [hb_])
  | simp (disch := omega))
 all_goals simp only [Qh, Qg, Qm, Qj, Qd, Qc, Bool.not_true, Bool.not_false] at *
 all_goals omega
theorem Zed (n : Nat) (h1 : 1 ≤ n) (hn : n ≤ 14) (bound : Bool) : Qe Tryz.prog ZH [N n, B bound] (· = numSys n bound) := by
  refine Qe.of_codeOf Zff QA (by simp) ⟨_, rfl, by simp⟩ ?_
  have hwi : QO n 1 14 = true := by rw [QM]; omega
  simp (disch := omega) [Zak]
  refine Qa (Zdc _ _ _) (by simp) ?_
  simp (disch := omega) [hwi, Qf]
  refine Wb (n + 2) 0 (fun a t h => t 7 = N a ∧ h = [some [N 0, .sl true true 1 [], .sl true true 1 [], .sl true true 1 []], some [N (n + 2), OI (WS (nPl n) (n + 2) a 0), OI (WS (nTm n) (n + 2) a 0), OBl (WS (nBl n bound) (n + 2) a 0)]])
    (fun t h => h = [some [N 0, .sl true true 1 [], .sl true true 1 [], .sl true true 1 []], some [N (n + 2), OI (WS (nPl n) (n + 2) (n + 2) 0), OI (WS (nTm n) (n + 2) (n + 2) 0), OBl (WS (nBl n bound) (n + 2) (n + 2) 0)]]) (by simp [Zfv]) (by omega) ?_ ?_
  · rintro a t1 hh hf ha ⟨e7, rfl⟩
    (have e0 := hf 0 (by kernel_rfl); have e1 := hf 1 (by kernel_rfl); have e4 := hf 4 (by kernel_rfl); have e5 := hf 5 (by kernel_rfl); have e6 := hf 6 (by kernel_rfl); clear hf; simp [] at e0 e1 e4 e5 e6)
    simp (disch := omega) [e0, e1, e5, e6, e7]
    (with_reducible first | refine Qo (fun h2 => ?_) (fun h2 => ?_) | refine Qn (fun h2 => ?_) (fun h2 => ?_))
    · simp only [Qh, Qg, Qm, Qj, Qd, Qc, Bool.not_true, Bool.not_false] at h2
      simp (disch := omega) [e0, e1, e5, e6, e7]
      refine Wb (n + 2) 0 (fun b t h => t 8 = N b ∧ h = [some [N 0, .sl true true 1 [], .sl true true 1 [], .sl true true 1 []], some [N (n + 2), OI (WS (nPl n) (n + 2) a b), OI (WS (nTm n) (n + 2) a b), OBl (WS (nBl n bound) (n + 2) a b)]])
        (fun t h => h = [some [N 0, .sl true true 1 [], .sl true true 1 [], .sl true true 1 []], some [N (n + 2), OI (WS (nPl n) (n + 2) a (n + 2)), OI (WS (nTm n) (n + 2) a (n + 2)), OBl (WS (nBl n bound) (n + 2) a (n + 2))]]) (by simp) (by omega) ?_ ?_
      · rintro b t2 hh hf hb' ⟨f8, rfl⟩
        (have f0 := hf 0 (by kernel_rfl); have f1 := hf 1 (by kernel_rfl); have f4 := hf 4 (by kernel_rfl); have f5 := hf 5 (by kernel_rfl); have f6 := hf 6 (by kernel_rfl); have f7 := hf 7 (by kernel_rfl); clear hf; simp [e0, e1, e4, e5, e6, e7] at f0 f1 f4 f5 f6 f7)
        simp (disch := omega) [f0, f1, f5, f6, f7, f8]
        (with_reducible first | refine Qo (fun h3 => ?_) (fun h3 => ?_) | refine Qn (fun h3 => ?_) (fun h3 => ?_))
        · simp only [Qh, Qg, Qm, Qj, Qd, Qc, Bool.not_true, Bool.not_false] at h3
          have hm := Zqk hn (a := a) (b := b) (by omega) (by omega)
          have hsm := Zfx (size := n + 2) (by omega) (a := a) (b := b) (by omega) (by omega)
          have a1 := Zkm (x := nPl n a b) (l := WS (nPl n) (n + 2) a b) (by rw [ZT]; exact hsm)
          have a2 := Zkm (x := nTm n a b) (l := WS (nTm n) (n + 2) a b) (by rw [ZT]; exact hsm)
          have a3 := fun x => app_B (x := x) (l := WS (nBl n bound) (n + 2) a b) (by rw [ZT]; exact hsm)
          rw [← KS] at a1 a2
          have m1 := Zat ((a : Int) + b) (n + 1)
          have m2 := Zat ((a : Int) * b) (n + 1)
          rw [show min ((a : Int) + b) (n + 1) = nPl n a b from rfl] at m1
          rw [show min ((a : Int) * b) (n + 1) = nTm n a b from rfl] at m2
          have hst : ∀ x, x = nBl n bound a b → WS (nBl n bound) (n + 2) a b ++ [x] = WS (nBl n bound) (n + 2) a (b + 1) := by rintro x rfl; rw [KS]
          clear e0 e1 e4 e5 e6 e7 hst
          cases bound <;> (
    simp (disch := omega) [f0, f1, f5, f6, f7, f8, Qf]
    repeat' (first
    | with_reducible refine Qa (m1) (by simp) ?_
    | with_reducible refine Qa (m2) (by simp) ?_
    | (with_reducible (first | refine Qo (fun hb_ => ?_) (fun hb_ => ?_) | refine Qn (fun hb_ => ?_) (fun hb_ => ?_)) <;> simp (disch := omega) [hb_, f0, f1, f5, f6, f7, f8, Qf, a1, a2, a3])
    | simp (disch := omega) [f0, f1, f5, f6, f7, f8, Qf, a1, a2, a3]))
          all_goals clear f0 f1 f4 f5 f6 f7 f8 m1 m2 a1 a2 a3
          all_goals refine ⟨by omega, ?_⟩
          all_goals rw [KS]
          all_goals simp_all [nBl]
        · simp only [Qh, Qg, Qm, Qj, Qd, Qc, Bool.not_true, Bool.not_false] at h3
          simp (disch := omega)
          rw [show b = n + 2 by omega]; simp
      · rintro t2 hh hf rfl
        (have f7 := hf 7 (by kernel_rfl); clear hf; simp [e7] at f7)
        simp (disch := omega) [f7, ZeY]
        exact ⟨by omega, Qf (by omega)⟩
    · simp only [Qh, Qg, Qm, Qj, Qd, Qc, Bool.not_true, Bool.not_false] at h2
      simp (disch := omega)
      rw [show a = n + 2 by omega]; simp
  · rintro t1 hh hf rfl
    (have e4 := hf 4 (by kernel_rfl); have e5 := hf 5 (by kernel_rfl); clear hf; simp [] at e4 e5)
    simp (disch := omega) [e4, e5]
end Go.Proofs.YtclfngbealdbgaaGreat
namespace Go.Proofs.YtclfngbealdbgaaGreat
open Go Go.TL
set_option linter.unusedSimpArgs false
set_option linter.unusedVariables false
set_option linter.unusedSectionVars false
set_option maxRecDepth 20000
set_option maxHeartbeats 4000000
theorem wrap_i64 (n : Int) : I64 (IntKind.i64.wrap n) := by
 unfold I64; rw [IntKind.wrap_i64]; omega
def andI (a b : Int) : Int := IntKind.i64.wrap (BitVec.ofInt 64 a &&& BitVec.ofInt 64 b).toNat
def xorI (a b : Int) : Int := IntKind.i64.wrap (BitVec.ofInt 64 a ^^^ BitVec.ofInt 64 b).toNat
def shrI (a b : Int) : Int := a.fdiv (2 ^ (min b.toNat 64))
@[simp] theorem bin_and {a b : Int} : Xg .num .and (N a) (N b) = some (N (andI a b)) := rfl
@[simp] theorem bin_xor {a b : Int} : Xg .num .xor (N a) (N b) = some (N (xorI a b)) := rfl
@[simp] theorem bin_shr {a b : Int} : Xg .num .shr (N a) (.sc (.int .u64 b)) = if b < 0 then none else some (N (shrI a b)) := by simp [Xg, shrI, IntKind.bits]
theorem VE {a b : Int} : Xg .num .rem (N a) (N b) = if b = 0 then none else some (N (a.tmod b)) := by
 simp only [Xg, ZN]
 by_cases h : b = 0 <;> simp [h]
theorem Zpu {a b : Int} : Xg .num .quo (N a) (N b) = if b = 0 then none else some (N (IntKind.i64.wrap (a.tdiv b))) := by
 simp only [Xg, ZN]
 by_cases h : b = 0 <;> simp [h]
theorem ZnG (a : Int) : 0 ≤ andI a 255 ∧ andI a 255 ≤ 255 := by
 unfold andI
 have h : (BitVec.ofInt 64 a &&& BitVec.ofInt 64 255).toNat ≤ 255 := by
  rw [BitVec.toNat_and]
  exact Nat.le_trans Nat.and_le_right (by decide)
 rw [IntWalk.i64_in _ (by omega)]
 omega
theorem and_I64 (a b : Int) : I64 (andI a b) := wrap_i64 _
theorem ZbX : ∀ {ct : LV} {D : Dr}, share ct = D.lv → ct.alive = true
 | .sc _, D, h => rfl
 | .sl _ _ _ _, D, h => rfl
 | .ha _ _ _ _ _, D, h => rfl
 | .ptr _ _, D, h => rfl
 | .rp _, D, h => rfl
 | .fn _ _, D, h => rfl
 | .fnm _ _, D, h => rfl
 | .agg _, D, h => rfl
 | .tup _, D, h => rfl
 | .raw _, D, h => by simp [Dr.lv] at h
 | .dead, D, h => by simp [Dr.lv] at h
 | .both u t, D, h => by
  simp only [share] at h
  have := ZbX h
  simp only [LV.alive, this, Bool.true_and]
  split
  ·simp [Dr.lv] at h
  ·rfl
theorem idx_D {D : Dr} {i : Int} (h0 : 0 ≤ i) (h1 : i < D.bs.length) : QN 1 D.lv i = some (.rp [.sc (.int .u8 (D.bs.getD i.toNat 0))]) := by
 have := ZfL (fun b : Int => LV.sc (.int .u8 b)) (by simp) D.bs false D.nl i h0 h1
 rw [Dr.lv, this, List.getD_eq_getElem?_getD, List.getElem?_eq_getElem (show i.toNat < D.bs.length by omega)]
 rfl
theorem byte_D {D : Dr} (h : D.ok) {i : Int} (h0 : 0 ≤ i) (h1 : i < D.bs.length) : 0 ≤ D.bs.getD i.toNat 0 ∧ D.bs.getD i.toNat 0 ≤ 255 := by
 rw [List.getD_eq_getElem?_getD, List.getElem?_eq_getElem (show i.toNat < D.bs.length by omega)]
 exact h.byte _ (List.getElem_mem _)
section
variable (D : Dr) (ok : D.ok)
include ok
theorem ZpO : Wc Tryz.prog D Yw [] (fun r => ∃ b, r = N b ∧ 0 ≤ b ∧ b ≤ 255) := by
 refine Wc.of_codeOf ZjS QA (by simp) ⟨N 0, 0, rfl, by omega, by omega⟩ ?_
 intro h1 h3 ct i k hct hk
 have al := ZbX hct
 have hlen := ok.len
 simp (disch := omega) [Zdi, al, hct]
 (with_reducible first | refine Qo (fun h5 => ?_) (fun h5 => ?_) | refine Qn (fun h5 => ?_) (fun h5 => ?_))
 ·simp only [Qh, Qg, Qm, Qj, Qd, Qc, Bool.not_true, Bool.not_false] at h5
  have hb := byte_D ok hk.1 h5
  have hi := hk.1
  simp (disch := omega) [al, hct, idx_D hk.1 h5, Qf]
  (first | refine WR (.inr rfl) rfl ?_ (by simp) ?_ | refine WA (.inr rfl) rfl ?_ (by simp) ?_)
  ·exact ⟨by omega, by omega, (wrap_i64 _).1, (wrap_i64 _).2⟩
  ·simp; exact ZnG _
 ·simp (disch := omega) [al, hct]
  (first | refine WR (.inr rfl) rfl ?_ (by simp) ?_ | refine WA (.inr rfl) rfl ?_ (by simp) ?_)
  ·exact ⟨hk.1, hk.2.1, (wrap_i64 _).1, (wrap_i64 _).2⟩
  ·simp; exact ZnG _
theorem WP (n : Int) (hn : I64 n) : Wc Tryz.prog D QZ [N n] (fun r => ∃ m, r = N m ∧ 0 ≤ m ∧ (0 < n → m < n) ∧ (n ≤ 0 → m = 0)) := by
 refine Wc.of_codeOf Zhz QA (by simp) ⟨N 0, 0, rfl, by omega, by omega, by omega⟩ ?_
 intro h1 h3 ct i k hct hk
 have hb := ZpO D ok
 simp (disch := omega) [ZbQ]
 (with_reducible first | refine Qo (fun h5 => ?_) (fun h5 => ?_) | refine Qn (fun h5 => ?_) (fun h5 => ?_))
 ·simp only [Qh, Qg, Qm, Qj, Qd, Qc, Bool.not_true, Bool.not_false] at h5
  simp (disch := omega)
  (first | refine WR (.inr rfl) rfl ?_ (by simp) ?_ | refine WA (.inr rfl) rfl ?_ (by simp) ?_)
  ·exact hk
  ·simp <;> omega
 ·simp only [Qh, Qg, Qm, Qj, Qd, Qc, Bool.not_true, Bool.not_false] at h5
  simp (disch := omega)
  have hz : ¬ n = 0 := by omega
  have rem : ∀ a : Int, 0 ≤ a → 0 ≤ a.tmod n ∧ a.tmod n < n := fun a ha => by
   rw [Int.tmod_eq_emod_of_nonneg ha]
   exact ⟨Int.emod_nonneg _ hz, Int.emod_lt_of_pos _ (by omega)⟩
  (with_reducible first | refine Qo (fun h6 => ?_) (fun h6 => ?_) | refine Qn (fun h6 => ?_) (fun h6 => ?_))
  ·simp (disch := omega)
   refine Qp hb hct hk ?_
   rintro r i1 k1 hk1 ⟨b, rfl, hb0, hb1⟩
   simp (disch := omega) [VE, hz]
   (first | refine WR (.inr rfl) rfl ?_ (by simp) ?_ | refine WA (.inr rfl) rfl ?_ (by simp) ?_)
   ·exact hk1
   ·have := rem b hb0
    simp; omega
  ·simp (disch := omega)
   refine Qp hb hct hk ?_
   rintro r i1 k1 hk1 ⟨a, rfl, ha0, ha1⟩
   simp (disch := omega)
   refine Qp hb hct hk1 ?_
   rintro r i2 k2 hk2 ⟨b, rfl, hb0, hb1⟩
   simp (disch := omega)
   refine Qp hb hct hk2 ?_
   rintro r i3 k3 hk3 ⟨c, rfl, hc0, hc1⟩
   simp (disch := omega)
   refine Qp hb hct hk3 ?_
   rintro r i4 k4 hk4 ⟨d, rfl, hd0, hd1⟩
   simp (disch := omega) [VE, hz, Qf]
   (first | refine WR (.inr rfl) rfl ?_ (by simp) ?_ | refine WA (.inr rfl) rfl ?_ (by simp) ?_)
   ·exact hk4
   ·have := rem (a * 16777216 + b * 65536 + c * 256 + d) (by omega)
    simp; omega
theorem Y8 (n : Int) (hn : I64 n) : Wc Tryz.prog D WX [N n] (fun r => ∃ b, r = B b) := by
 refine Wc.of_codeOf Zi5 QA (by simp) ⟨B true, true, rfl⟩ ?_
 intro h1 h3 ct i k hct hk
 simp (disch := omega) [Zc7]
 refine Qp (WP D ok n hn) hct hk ?_
 rintro r i1 k1 hk1 ⟨m, rfl, _⟩
 simp (disch := omega)
 (first | refine WR (.inr rfl) rfl ?_ (by simp) ?_ | refine WA (.inr rfl) rfl ?_ (by simp) ?_)
 ·exact hk1
 ·simp
theorem ZlA (nl : Bool) (l : List Int) (h0 : l ≠ []) (hl : l.length ≤ 1099511627776) : Wc Tryz.prog D JQ [L nl l] (fun r => ∃ m, r = N m ∧ m ∈ l) := by
 obtain ⟨x, hx⟩ := List.exists_mem_of_ne_nil l h0
 refine Wc.of_codeOf Zfh QA (by simp) ⟨N x, x, rfl, hx⟩ ?_
 intro h1 h3 ct i k hct hk
 have hpos : 0 < l.length := List.length_pos_iff.2 h0
 simp (disch := omega) [Zaf]
 refine Qp (WP D ok l.length (by unfold I64; omega)) hct hk ?_
 rintro r i1 k1 hk1 ⟨m, rfl, hm0, hm1, _⟩
 have hm := hm1 (by omega)
 simp (disch := omega) [W9 l false nl m hm0 hm]
 (first | refine WR (.inr rfl) rfl ?_ (by simp) ?_ | refine WA (.inr rfl) rfl ?_ (by simp) ?_)
 ·exact hk1
 ·simp
end
end Go.Proofs.YtclfngbealdbgaaGreat
namespace Go.Proofs.YtclfngbealdbgaaGreat
open Go Go.TL
set_option linter.unusedSimpArgs false
set_option linter.unusedVariables false
set_option linter.unusedSectionVars false
set_option maxRecDepth 20000
set_option maxHeartbeats 4000000
theorem l1Max_ok (a b : Int) : Qe Tryz.prog ZaB [N a, N b] (· = N (max a b)) := by
 refine Qe.of_codeOf Zlg QA (by simp) ⟨_, rfl, by simp⟩ ?_
 simp (disch := omega) [ZeO]
 repeat' (first
  | (with_reducible (first | refine Qo (fun hb_ => ?_) (fun hb_ => ?_) | refine Qn (fun hb_ => ?_) (fun hb_ => ?_)) <;> simp (disch := omega) [hb_])
  | simp (disch := omega))
 all_goals simp only [Qh, Qg, Qm, Qj, Qd, Qc, Bool.not_true, Bool.not_false] at *
 all_goals omega
def lX (n a : Nat) : Int := ((n : Int) + 1 - a).tmod (n + 1)
theorem Zmk {m k : Int} (h0 : 0 ≤ m) (hk : 0 < k) : 0 ≤ m.tmod k ∧ m.tmod k < k := by
 rw [Int.tmod_eq_emod_of_nonneg h0]
 exact ⟨Int.emod_nonneg _ (by omega), Int.emod_lt_of_pos _ hk⟩
theorem lX_rng {n a : Nat} (h : a ≤ n) : 0 ≤ lX n a ∧ lX n a ≤ n := by
 have := Zmk (m := (n : Int) + 1 - a) (k := n + 1) (by omega) (by omega)
 unfold lX; omega
def lPl (n a b : Nat) : Int := ((n : Int) + 1 - max (lX n a) (lX n b)).tmod (n + 1)
def lTm (n a b : Nat) : Int := ((n : Int) + 1 - min (lX n a) (lX n b)).tmod (n + 1)
def lBl (n a b : Nat) : Bool := leB (lX n a) (lX n b)
abbrev VN (size : Nat) (p t : Nat → Nat → Int) (b : Nat → Nat → Bool) : LV := .agg [N size, OI (WS p size size 0), OI (WS t size size 0), OBl (WS b size size 0)]
theorem ZbG (n : Nat) (h1 : 1 ≤ n) (hn : n ≤ 15) : Qe Tryz.prog Xx [N n] (· = VN (n + 1) (lPl n) (lTm n) (lBl n)) := by
  refine Qe.of_codeOf ZdW QA (by simp) ⟨_, rfl, by simp⟩ ?_
  have hwi : QO n 1 15 = true := by rw [QM]; omega
  simp (disch := omega) [Vh]
  refine Qa (Zdc _ _ _) (by simp) ?_
  simp (disch := omega) [hwi, Qf]
  refine Wb (n + 1) 0 (fun a t h => t 4 = N a ∧ h = [some [N 0, .sl true true 1 [], .sl true true 1 [], .sl true true 1 []], some [N (n + 1), OI (WS (lPl n) (n + 1) a 0), OI (WS (lTm n) (n + 1) a 0), OBl (WS (lBl n) (n + 1) a 0)]])
    (fun t h => h = [some [N 0, .sl true true 1 [], .sl true true 1 [], .sl true true 1 []], some [N (n + 1), OI (WS (lPl n) (n + 1) (n + 1) 0), OI (WS (lTm n) (n + 1) (n + 1) 0), OBl (WS (lBl n) (n + 1) (n + 1) 0)]]) (by simp [Zfv]) (by omega) ?_ ?_
  · rintro a t1 hh hf ha ⟨e4, rfl⟩
    (have e0 := hf 0 (by kernel_rfl); have e2 := hf 2 (by kernel_rfl); have e3 := hf 3 (by kernel_rfl); clear hf; simp [] at e0 e2 e3)
    simp (disch := omega) [e0, e2, e3, e4]
    (with_reducible first | refine Qo (fun h2 => ?_) (fun h2 => ?_) | refine Qn (fun h2 => ?_) (fun h2 => ?_))
    · simp only [Qh, Qg, Qm, Qj, Qd, Qc, Bool.not_true, Bool.not_false] at h2
      simp (disch := omega) [e0, e2, e3, e4]
      refine Wb (n + 1) 0 (fun b t h => t 5 = N b ∧ h = [some [N 0, .sl true true 1 [], .sl true true 1 [], .sl true true 1 []], some [N (n + 1), OI (WS (lPl n) (n + 1) a b), OI (WS (lTm n) (n + 1) a b), OBl (WS (lBl n) (n + 1) a b)]])
        (fun t h => h = [some [N 0, .sl true true 1 [], .sl true true 1 [], .sl true true 1 []], some [N (n + 1), OI (WS (lPl n) (n + 1) a (n + 1)), OI (WS (lTm n) (n + 1) a (n + 1)), OBl (WS (lBl n) (n + 1) a (n + 1))]]) (by simp) (by omega) ?_ ?_
      · rintro b t2 hh hf hb' ⟨f5, rfl⟩
        (have f0 := hf 0 (by kernel_rfl); have f2 := hf 2 (by kernel_rfl); have f3 := hf 3 (by kernel_rfl); have f4 := hf 4 (by kernel_rfl); clear hf; simp [e0, e2, e3, e4] at f0 f2 f3 f4)
        simp (disch := omega) [f0, f2, f3, f4, f5]
        (with_reducible first | refine Qo (fun h3 => ?_) (fun h3 => ?_) | refine Qn (fun h3 => ?_) (fun h3 => ?_))
        · simp only [Qh, Qg, Qm, Qj, Qd, Qc, Bool.not_true, Bool.not_false] at h3
          have xa := lX_rng (n := n) (a := a) (by omega)
          have xb := lX_rng (n := n) (a := b) (by omega)
          have hsm := Zfx (size := n + 1) (by omega) (a := a) (b := b) (by omega) (by omega)
          have a1 := Zkm (x := lPl n a b) (l := WS (lPl n) (n + 1) a b) (by rw [ZT]; exact hsm)
          have a2 := Zkm (x := lTm n a b) (l := WS (lTm n) (n + 1) a b) (by rw [ZT]; exact hsm)
          have a3 := app_B (x := lBl n a b) (l := WS (lBl n) (n + 1) a b) (by rw [ZT]; exact hsm)
          rw [← KS] at a1 a2 a3
          have m1 := l1Max_ok (lX n a) (lX n b)
          have m2 := Zat (lX n a) (lX n b)
          have hz : ¬ (n : Int) + 1 = 0 := by omega
          have q1 : ((n : Int) + 1 - a).tmod (n + 1) = lX n a := rfl
          have q2 : ((n : Int) + 1 - b).tmod (n + 1) = lX n b := rfl
          have q3 : ((n : Int) + 1 - max (lX n a) (lX n b)).tmod (n + 1) = lPl n a b := rfl
          have q4 : ((n : Int) + 1 - min (lX n a) (lX n b)).tmod (n + 1) = lTm n a b := rfl
          have q5 : leB (lX n a) (lX n b) = lBl n a b := rfl
          clear e0 e2 e3 e4
          simp (disch := omega) [f0, f2, f3, f4, f5, Qf, VE, hz, q1, q2]
          repeat' (first
    | with_reducible refine Qa (m1) (by simp) ?_
    | with_reducible refine Qa (m2) (by simp) ?_
    | (with_reducible (first | refine Qo (fun hb_ => ?_) (fun hb_ => ?_) | refine Qn (fun hb_ => ?_) (fun hb_ => ?_)) <;> simp (disch := omega) [hb_, f0, f2, f3, f4, f5, Qf, VE, hz, q1, q2, q3, q4, q5, a1, a2, a3])
    | simp (disch := omega) [f0, f2, f3, f4, f5, Qf, VE, hz, q1, q2, q3, q4, q5, a1, a2, a3])
          all_goals omega
        · simp only [Qh, Qg, Qm, Qj, Qd, Qc, Bool.not_true, Bool.not_false] at h3
          simp (disch := omega)
          rw [show b = n + 1 by omega]; simp
      · rintro t2 hh hf rfl
        (have f4 := hf 4 (by kernel_rfl); clear hf; simp [e4] at f4)
        simp (disch := omega) [f4, ZeY]
        exact ⟨by omega, Qf (by omega)⟩
    · simp only [Qh, Qg, Qm, Qj, Qd, Qc, Bool.not_true, Bool.not_false] at h2
      simp (disch := omega)
      rw [show a = n + 1 by omega]; simp
  · rintro t1 hh hf rfl
    (have e2 := hf 2 (by kernel_rfl); have e3 := hf 3 (by kernel_rfl); clear hf; simp [] at e2 e3)
    simp (disch := omega) [e2, e3]
def Zq (n g : Int) : Int := if g = 0 then 0 else if g = 1 then 1 else if g ≤ n + 1 then (g - 1).tdiv n else g.tdiv n
def Ye (n g : Int) : Int := if g < 2 then g else if g ≤ n + 1 then (g - 1).tmod n else g.tmod n
def pairI (n x y : Int) : Int := if x * n + y = 0 then 0 else if x * n + y = n + 1 then 1 else if x * n + y < n + 1 then x * n + y + 1 else x * n + y
theorem Ziz {a n : Int} (h0 : 0 ≤ a) (h1 : a ≤ 100000) (hn : 0 < n) : -9223372036854775808 ≤ a.tdiv n ∧ a.tdiv n ≤ 9223372036854775807 := by
 rw [Int.tdiv_eq_ediv_of_nonneg h0]
 have h2 := Int.ediv_nonneg h0 (Int.le_of_lt hn)
 have h3 := Int.ediv_le_self n h0
 omega
theorem ZhK (n g : Int) (hn : 1 ≤ n ∧ n ≤ 100) (hg : 0 ≤ g ∧ g ≤ 10000) : Qe Tryz.prog Jk [N n, N g] (· = N (Zq n g)) := by
 refine Qe.of_codeOf Zif QA (by simp) ⟨_, rfl, by simp⟩ ?_
 have hz : ¬ n = 0 := by omega
 simp (disch := omega) [Zb7]
 repeat' (first
  | (with_reducible (first | refine Qo (fun hb_ => ?_) (fun hb_ => ?_) | refine Qn (fun hb_ => ?_) (fun hb_ => ?_)) <;> simp (disch := omega) [hb_, Qf, Zpu, hz])
  | simp (disch := omega) [Qf, Zpu, hz])
 all_goals simp only [Qh, Qg, Qm, Qj, Qd, Qc, Bool.not_true, Bool.not_false] at *
 all_goals unfold Zq
 all_goals simp_all
 ·exact Qf (Ziz (a := g - 1) (n := n) (by omega) (by omega) (by omega))
 ·rw [if_neg (by omega)]; exact Qf (Ziz (a := g) (n := n) (by omega) (by omega) (by omega))
theorem Zf4 (n g : Int) (hn : 1 ≤ n ∧ n ≤ 100) (hg : 0 ≤ g ∧ g ≤ 10000) : Qe Tryz.prog Z1 [N n, N g] (· = N (Ye n g)) := by
 refine Qe.of_codeOf Zgp QA (by simp) ⟨_, rfl, by simp⟩ ?_
 have hz : ¬ n = 0 := by omega
 simp (disch := omega) [Za9]
 repeat' (first
  | (with_reducible (first | refine Qo (fun hb_ => ?_) (fun hb_ => ?_) | refine Qn (fun hb_ => ?_) (fun hb_ => ?_)) <;> simp (disch := omega) [hb_, Qf, VE, hz])
  | simp (disch := omega) [Qf, VE, hz])
 all_goals simp only [Qh, Qg, Qm, Qj, Qd, Qc, Bool.not_true, Bool.not_false] at *
 all_goals unfold Ye
 all_goals (try simp_all)
 all_goals (repeat' split)
 all_goals (first | rfl | omega)
theorem Zj3 (n x y : Int) (hn : 1 ≤ n ∧ n ≤ 100) (hx : 0 ≤ x ∧ x ≤ 1000) (hy : 0 ≤ y ∧ y ≤ 1000) : Qe Tryz.prog Y7 [N n, N x, N y] (· = N (pairI n x y)) := by
 refine Qe.of_codeOf ZiL QA (by simp) ⟨_, rfl, by simp⟩ ?_
 have h0 : 0 ≤ x * n := Int.mul_nonneg (by omega) (by omega)
 have h1 : x * n ≤ 1000 * 100 := Int.le_trans (Int.mul_le_mul_of_nonneg_right (by omega) (by omega)) (Int.mul_le_mul_of_nonneg_left (by omega) (by omega))
 simp (disch := omega) [Zdd, Qf]
 repeat' (first
  | (with_reducible (first | refine Qo (fun hb_ => ?_) (fun hb_ => ?_) | refine Qn (fun hb_ => ?_) (fun hb_ => ?_)) <;> simp (disch := omega) [hb_, Qf])
  | simp (disch := omega) [Qf])
 all_goals simp only [Qh, Qg, Qm, Qj, Qd, Qc, Bool.not_true, Bool.not_false] at *
 all_goals unfold pairI
 all_goals (try simp_all)
 all_goals (repeat' split)
 all_goals (first | rfl | omega)
def tabG (size : Nat) (p t : Nat → Nat → Int) (b : Nat → Nat → Bool) : GSys :=
 ⟨size, (WS p size size 0).isEmpty, WS p size size 0, (WS t size size 0).isEmpty, WS t size size 0, (WS b size size 0).isEmpty, WS b size size 0⟩
theorem ZpX (size : Nat) (p t : Nat → Nat → Int) (b : Nat → Nat → Bool) : share (VN size p t b) = (tabG size p t b).lv := by simp [VN, tabG]
theorem Zlj (a b : GSys) (ha : a.wf) (hb : b.wf) (sa : a.sys = true) (sb : b.sys = true) (h16 : a.size * b.size ≤ 16) : Qe Tryz.prog J0 [a.lv, b.lv] (· = B true) := by
 refine Qe.of_codeOf ZfS QA (by simp) ⟨_, rfl, by simp⟩ ?_
 have s1 := Z0 a ha
 have s2 := Z0 b hb
 rw [sa] at s1
 rw [sb] at s2
 have ta := GSys.sys_of sa
 have tb := GSys.sys_of sb
 have p0 : 0 ≤ a.size * b.size := Int.mul_nonneg (by have := ta.lo; omega) (by have := tb.lo; omega)
 simp (disch := omega) [Zah, Qw, Qs]
 repeat' (first
  | with_reducible refine Qa (s1) (by simp) ?_
  | with_reducible refine Qa (s2) (by simp) ?_
  | (with_reducible (first | refine Qo (fun hb_ => ?_) (fun hb_ => ?_) | refine Qn (fun hb_ => ?_) (fun hb_ => ?_)) <;> simp (disch := omega) [hb_, Qf, Qs])
  | simp (disch := omega) [Qf, Qs])
 all_goals simp_all [Qm]
def pPl (a b : GSys) (n : Nat) (g h : Nat) : Int := pairI n (a.pl (Zq n g) (Zq n h)) (b.pl (Ye n g) (Ye n h))
def pTm (a b : GSys) (n : Nat) (g h : Nat) : Int := pairI n (a.tm (Zq n g) (Zq n h)) (b.tm (Ye n g) (Ye n h))
def pBl (a b : GSys) (n : Nat) (g h : Nat) : Bool := a.le (Zq n g) (Zq n h) && b.le (Ye n g) (Ye n h)
theorem Zfl (a b : GSys) (ha : a.wf) (hb : b.wf) (sa : a.sys = true) (sb : b.sys = true) (m n : Nat) (em : a.size = m) (en : b.size = n) (h16 : m * n ≤ 16)
    (hG : ∀ g : Nat, g < m * n → (a.G (Zq n g) ∧ b.G (Ye n g))) : Qe Tryz.prog Yb [a.lv, b.lv] (· = .tup [VN (m * n) (pPl a b n) (pTm a b n) (pBl a b n), B true]) := by
  refine Qe.of_codeOf Zb9 QA (by simp) ⟨_, rfl, by simp⟩ ?_
  have ta := GSys.sys_of sa
  have tb := GSys.sys_of sb
  have hz : a.size * b.size = ((m * n : Nat) : Int) := by rw [em, en]; simp
  have hp := Zlj a b ha hb sa sb (by rw [hz]; omega)
  have hn : 2 ≤ n ∧ n ≤ 16 := by have := tb.lo; have := tb.hi; omega
  have hz' : (m : Int) * n = ((m * n : Nat) : Int) := by simp
  obtain ⟨sz, hsz⟩ : ∃ sz, m * n = sz := ⟨_, rfl⟩
  rw [hsz] at hG hz hz' h16 ⊢
  simp (disch := omega) [Kg, Qw, Qs]
  repeat' (first
    | with_reducible refine Qa (hp) (by simp) ?_
    | (with_reducible (first | refine Qo (fun hb_ => ?_) (fun hb_ => ?_) | refine Qn (fun hb_ => ?_) (fun hb_ => ?_)) <;> simp (disch := omega) [hb_, Qf, Qs, Qw])
    | simp (disch := omega) [Qf, Qs, Qw])
  simp (disch := omega) [em, en, hz', Qf]
  refine Wb sz 0 (fun a' t h => t 8 = N a' ∧ h = [none, none, some [N 0, .sl true true 1 [], .sl true true 1 [], .sl true true 1 []], some [N sz, OI (WS (pPl a b n) sz a' 0), OI (WS (pTm a b n) sz a' 0), OBl (WS (pBl a b n) sz a' 0)]])
    (fun t h => h = [none, none, some [N 0, .sl true true 1 [], .sl true true 1 [], .sl true true 1 []], some [N sz, OI (WS (pPl a b n) sz sz 0), OI (WS (pTm a b n) sz sz 0), OBl (WS (pBl a b n) sz sz 0)]]) (by simp [Zfv]) (by omega) ?_ ?_
  · rintro g t1 hh hf hg ⟨e8, rfl⟩
    (have e2 := hf 2 (by kernel_rfl); have e3 := hf 3 (by kernel_rfl); have e4 := hf 4 (by kernel_rfl); have e5 := hf 5 (by kernel_rfl); have e6 := hf 6 (by kernel_rfl); have e7 := hf 7 (by kernel_rfl); clear hf; simp [em, en] at e2 e3 e4 e5 e6 e7)
    simp (disch := omega) [e2, e3, e4, e5, e6, e7, e8]
    (with_reducible first | refine Qo (fun h2 => ?_) (fun h2 => ?_) | refine Qn (fun h2 => ?_) (fun h2 => ?_))
    · simp only [Qh, Qg, Qm, Qj, Qd, Qc, Bool.not_true, Bool.not_false] at h2
      simp (disch := omega) [e2, e3, e4, e5, e6, e7, e8]
      refine Wb sz 0 (fun k t h => t 9 = N k ∧ h = [none, none, some [N 0, .sl true true 1 [], .sl true true 1 [], .sl true true 1 []], some [N sz, OI (WS (pPl a b n) sz g k), OI (WS (pTm a b n) sz g k), OBl (WS (pBl a b n) sz g k)]])
        (fun t h => h = [none, none, some [N 0, .sl true true 1 [], .sl true true 1 [], .sl true true 1 []], some [N sz, OI (WS (pPl a b n) sz g sz), OI (WS (pTm a b n) sz g sz), OBl (WS (pBl a b n) sz g sz)]]) (by simp) (by omega) ?_ ?_
      · rintro k t2 hh hf hk ⟨f9, rfl⟩
        (have f2 := hf 2 (by kernel_rfl); have f3 := hf 3 (by kernel_rfl); have f4 := hf 4 (by kernel_rfl); have f5 := hf 5 (by kernel_rfl); have f6 := hf 6 (by kernel_rfl); have f7 := hf 7 (by kernel_rfl); have f8 := hf 8 (by kernel_rfl); clear hf; simp [e2, e3, e4, e5, e6, e7, e8] at f2 f3 f4 f5 f6 f7 f8)
        simp (disch := omega) [f2, f3, f4, f5, f6, f7, f8, f9]
        (with_reducible first | refine Qo (fun h3 => ?_) (fun h3 => ?_) | refine Qn (fun h3 => ?_) (fun h3 => ?_))
        · simp only [Qh, Qg, Qm, Qj, Qd, Qc, Bool.not_true, Bool.not_false] at h3
          obtain ⟨x1, y1⟩ := hG g (by omega)
          obtain ⟨x2, y2⟩ := hG k (by omega)
          have hsm := Zfx (size := sz) (by omega) (a := g) (b := k) (by omega) (by omega)
          have a1 := Zkm (x := pPl a b n g k) (l := WS (pPl a b n) sz g k) (by rw [ZT]; exact hsm)
          have a2 := Zkm (x := pTm a b n g k) (l := WS (pTm a b n) sz g k) (by rw [ZT]; exact hsm)
          have a3 := fun x => app_B (x := x) (l := WS (pBl a b n) sz g k) (by rw [ZT]; exact hsm)
          rw [← KS] at a1 a2
          have c1 := ZhK n g (by omega) (by omega)
          have c2 := Zf4 n g (by omega) (by omega)
          have c3 := ZhK n k (by omega) (by omega)
          have c4 := Zf4 n k (by omega) (by omega)
          have rng : ∀ {s : GSys}, s.Tab → ∀ z, s.G z → 0 ≤ z ∧ z ≤ 1000 := fun ts z hz => ⟨hz.1, by have := hz.2; have := ts.hi; omega⟩
          have d1 := Zan ta x1 x2
          have d2 := Zan tb y1 y2
          have d3 := Zas ta x1 x2
          have d4 := Zas tb y1 y2
          have d5 := XK ta x1 x2
          have d6 := XK tb y1 y2
          have p1 : Qe Tryz.prog Y7 [N n, N (a.pl (Zq n g) (Zq n k)), N (b.pl (Ye n g) (Ye n k))] (· = N (pPl a b n g k)) := Zj3 n _ _ (by omega) (rng ta _ (GSys.Gpl ta _ _)) (rng tb _ (GSys.Gpl tb _ _))
          have p2 : Qe Tryz.prog Y7 [N n, N (a.tm (Zq n g) (Zq n k)), N (b.tm (Ye n g) (Ye n k))] (· = N (pTm a b n g k)) := Zj3 n _ _ (by omega) (rng ta _ (GSys.Gtm ta _ _)) (rng tb _ (GSys.Gtm tb _ _))
          have hB : (a.le (Zq n g) (Zq n k) && b.le (Ye n g) (Ye n k)) = pBl a b n g k := rfl
          clear e2 e3 e4 e5 e6 e7 e8
          repeat' (first
    | with_reducible refine Qa (c1) (by simp) ?_
    | with_reducible refine Qa (c2) (by simp) ?_
    | with_reducible refine Qa (c3) (by simp) ?_
    | with_reducible refine Qa (c4) (by simp) ?_
    | with_reducible refine Qa (d1) (by simp) ?_
    | with_reducible refine Qa (d2) (by simp) ?_
    | with_reducible refine Qa (d3) (by simp) ?_
    | with_reducible refine Qa (d4) (by simp) ?_
    | with_reducible refine Qa (d5) (by simp) ?_
    | with_reducible refine Qa (d6) (by simp) ?_
    | with_reducible refine Qa (p1) (by simp) ?_
    | with_reducible refine Qa (p2) (by simp) ?_
    | (with_reducible (first | refine Qo (fun hb_ => ?_) (fun hb_ => ?_) | refine Qn (fun hb_ => ?_) (fun hb_ => ?_)) <;> simp (disch := omega) [hb_, f2, f3, f4, f5, f6, f7, f8, f9, Qf, a1, a2, a3])
    | simp (disch := omega) [f2, f3, f4, f5, f6, f7, f8, f9, Qf, a1, a2, a3])
          all_goals clear f2 f3 f4 f5 f6 f7 f8 f9 a1 a2 a3 c1 c2 c3 c4 d1 d2 d3 d4 d5 d6 p1 p2
          all_goals refine ⟨by omega, ?_⟩
          all_goals rw [KS]
          all_goals simp_all [pBl]
        · simp only [Qh, Qg, Qm, Qj, Qd, Qc, Bool.not_true, Bool.not_false] at h3
          simp (disch := omega)
          rw [show k = sz by omega]; simp
      · rintro t2 hh hf rfl
        (have f8 := hf 8 (by kernel_rfl); clear hf; simp [e8] at f8)
        simp (disch := omega) [f8, ZeY]
        exact ⟨by omega, Qf (by omega)⟩
    · simp only [Qh, Qg, Qm, Qj, Qd, Qc, Bool.not_true, Bool.not_false] at h2
      simp (disch := omega)
      rw [show g = sz by omega]; simp
  · rintro t1 hh hf rfl
    (have e4 := hf 4 (by kernel_rfl); have e5 := hf 5 (by kernel_rfl); have e7 := hf 7 (by kernel_rfl); clear hf; simp [] at e4 e5 e7)
    simp (disch := omega) [e4, e5, e7]
end Go.Proofs.YtclfngbealdbgaaGreat
namespace Go.Proofs.YtclfngbealdbgaaGreat
open Go Go.TL
set_option linter.unusedSimpArgs false
set_option linter.unusedVariables false
set_option linter.unusedSectionVars false
set_option maxRecDepth 100000
set_option maxHeartbeats 4000000
inductive DS where
 | count (n : Nat) | bound (n : Nat) | level (n : Nat) | prod (n : Nat)
def DS.ok : DS → Bool
 | .count n => decide (1 ≤ n) && decide (n ≤ 3)
 | .bound n => decide (1 ≤ n) && decide (n ≤ 3)
 | .level n => decide (1 ≤ n) && decide (n ≤ 3)
 | .prod n => decide (1 ≤ n) && decide (n ≤ 2)
def Z4 (n : Nat) (bound : Bool) : GSys := tabG (n + 2) (nPl n) (nTm n) (nBl n bound)
def Zbz (n : Nat) : GSys := tabG (n + 1) (lPl n) (lTm n) (lBl n)
def Zks (n : Nat) : GSys := tabG (3 * (n + 1)) (pPl (Z4 1 false) (Zbz n) (n + 1)) (pTm (Z4 1 false) (Zbz n) (n + 1)) (pBl (Z4 1 false) (Zbz n) (n + 1))
def DS.sys : DS → GSys
 | .count n => Z4 n false
 | .bound n => Z4 n true
 | .level n => Zbz n
 | .prod n => Zks n
def DS.lv : DS → LV
 | .count n => VN (n + 2) (nPl n) (nTm n) (nBl n false)
 | .bound n => VN (n + 2) (nPl n) (nTm n) (nBl n true)
 | .level n => VN (n + 1) (lPl n) (lTm n) (lBl n)
 | .prod n => VN (3 * (n + 1)) (pPl (Z4 1 false) (Zbz n) (n + 1)) (pTm (Z4 1 false) (Zbz n) (n + 1)) (pBl (Z4 1 false) (Zbz n) (n + 1))
theorem DS.share (d : DS) : share d.lv = d.sys.lv := by
 cases d <;> simp only [DS.lv, DS.sys, Z4, Zbz, Zks, ZpX]
theorem Zly : (Z4 1 false).sys = true ∧ (Z4 2 false).sys = true ∧ (Z4 3 false).sys = true := by decide +kernel
theorem ZlO : (Z4 1 true).sys = true ∧ (Z4 2 true).sys = true ∧ (Z4 3 true).sys = true := by decide +kernel
theorem Zle : (Zbz 1).sys = true ∧ (Zbz 2).sys = true ∧ (Zbz 3).sys = true := by decide +kernel
theorem ZmC : (Zks 1).sys = true ∧ (Zks 2).sys = true := by decide +kernel
def GSys.wfB (s : GSys) : Bool := decide (s.size ≤ 100) && decide (0 ≤ s.size) && decide (s.plus.length ≤ 10000) && decide (s.times.length ≤ 10000) && decide (s.below.length ≤ 10000) && s.plus.all (fun n => decide (0 ≤ n) && decide (n ≤ 100)) && s.times.all (fun n => decide (0 ≤ n) && decide (n ≤ 100))
theorem GSys.wf_B {s : GSys} (h : s.wfB = true) : s.wf := by
 simp only [GSys.wfB, Bool.and_eq_true, decide_eq_true_eq, List.all_eq_true] at h
 obtain ⟨⟨⟨⟨⟨⟨h1, h2⟩, h3⟩, h4⟩, h5⟩, h6⟩, h7⟩ := h
 exact ⟨by unfold I64; omega, by omega, by omega, by omega, fun n hn => by have := h6 n hn; unfold I64; omega, fun n hn => by have := h7 n hn; unfold I64; omega⟩
theorem Zfg : (Z4 1 false).wfB = true ∧ (Z4 2 false).wfB = true ∧ (Z4 3 false).wfB = true ∧ (Z4 1 true).wfB = true ∧ (Z4 2 true).wfB = true ∧ (Z4 3 true).wfB = true := by decide +kernel
theorem Zhw : (Zbz 1).wfB = true ∧ (Zbz 2).wfB = true ∧ (Zbz 3).wfB = true ∧ (Zks 1).wfB = true ∧ (Zks 2).wfB = true := by decide +kernel
theorem DS.sound (d : DS) (h : d.ok = true) : d.sys.sys = true ∧ d.sys.wf := by
 have key : ∀ n, 1 ≤ n → n ≤ 3 → n = 1 ∨ n = 2 ∨ n = 3 := fun n _ _ => by omega
 cases d with
 | count n =>
  simp only [DS.ok, Bool.and_eq_true, decide_eq_true_eq] at h
  rcases key n h.1 h.2 with rfl | rfl | rfl
  ·exact ⟨Zly.1, GSys.wf_B Zfg.1⟩
  ·exact ⟨Zly.2.1, GSys.wf_B Zfg.2.1⟩
  ·exact ⟨Zly.2.2, GSys.wf_B Zfg.2.2.1⟩
 | bound n =>
  simp only [DS.ok, Bool.and_eq_true, decide_eq_true_eq] at h
  rcases key n h.1 h.2 with rfl | rfl | rfl
  ·exact ⟨ZlO.1, GSys.wf_B Zfg.2.2.2.1⟩
  ·exact ⟨ZlO.2.1, GSys.wf_B Zfg.2.2.2.2.1⟩
  ·exact ⟨ZlO.2.2, GSys.wf_B Zfg.2.2.2.2.2⟩
 | level n =>
  simp only [DS.ok, Bool.and_eq_true, decide_eq_true_eq] at h
  rcases key n h.1 h.2 with rfl | rfl | rfl
  ·exact ⟨Zle.1, GSys.wf_B Zhw.1⟩
  ·exact ⟨Zle.2.1, GSys.wf_B Zhw.2.1⟩
  ·exact ⟨Zle.2.2, GSys.wf_B Zhw.2.2.1⟩
 | prod n =>
  simp only [DS.ok, Bool.and_eq_true, decide_eq_true_eq] at h
  rcases (show n = 1 ∨ n = 2 by omega) with rfl | rfl
  ·exact ⟨ZmC.1, GSys.wf_B Zhw.2.2.2.1⟩
  ·exact ⟨ZmC.2, GSys.wf_B Zhw.2.2.2.2⟩
theorem Ziv (n : Nat) (h1 : 1 ≤ n) (hn : n ≤ 14) : Qe Tryz.prog YS [N n] (· = VN (n + 2) (nPl n) (nTm n) (nBl n true)) := by
 refine Qe.of_codeOf Zd8 QA (by simp) ⟨_, rfl, by simp⟩ ?_
 have h := Zed n h1 hn true
 simp (disch := omega) [Vo]
 repeat' (first
  | with_reducible refine Qa (h) (by simp) ?_
  | (with_reducible (first | refine Qo (fun hb_ => ?_) (fun hb_ => ?_) | refine Qn (fun hb_ => ?_) (fun hb_ => ?_)) <;> simp (disch := omega) [hb_])
  | simp (disch := omega))
 all_goals simp
theorem Vq (n : Nat) (h1 : 1 ≤ n) (hn : n ≤ 14) : Qe Tryz.prog Xt [N n] (· = VN (n + 2) (nPl n) (nTm n) (nBl n false)) := by
 refine Qe.of_codeOf ZdQ QA (by simp) ⟨_, rfl, by simp⟩ ?_
 have h := Zed n h1 hn false
 simp (disch := omega) [Vi]
 repeat' (first
  | with_reducible refine Qa (h) (by simp) ?_
  | (with_reducible (first | refine Qo (fun hb_ => ?_) (fun hb_ => ?_) | refine Qn (fun hb_ => ?_) (fun hb_ => ?_)) <;> simp (disch := omega) [hb_])
  | simp (disch := omega))
 all_goals simp
def Zl6 (n : Nat) : Bool := (List.range (3 * (n + 1))).all fun g => decide (0 ≤ Zq (n + 1) g) && decide (Zq (n + 1) g < 3) && decide (0 ≤ Ye (n + 1) g) && decide (Ye (n + 1) g < n + 1)
theorem Zj5 : Zl6 1 = true ∧ Zl6 2 = true := by decide +kernel
theorem Zoi (n : Nat) (h1 : 1 ≤ n) (hn : n ≤ 2) : Qe Tryz.prog Yb [(Z4 1 false).lv, (Zbz n).lv] (· = .tup [(DS.prod n).lv, B true]) := by
 have hp : Zl6 n = true := by
  rcases (show n = 1 ∨ n = 2 by omega) with rfl | rfl
  ·exact Zj5.1
  ·exact Zj5.2
 have q1 := DS.sound (.count 1) rfl
 have q2 := DS.sound (.level n) (by simp [DS.ok]; omega)
 refine Zfl (Z4 1 false) (Zbz n) q1.2 q2.2 q1.1 q2.1 3 (n + 1) rfl rfl (by omega) fun g hg => ?_
 simp only [Zl6, List.all_eq_true, List.mem_range, Bool.and_eq_true, decide_eq_true_eq] at hp
 have := hp g hg
 refine ⟨⟨this.1.1.1, this.1.1.2⟩, this.1.2, ?_⟩
 show _ < ((n + 1 : Nat) : Int)
 simpa using this.2
section
variable (D : Dr) (ok : D.ok)
include ok
theorem Zor : Wc Tryz.prog D Vl [] (fun r => ∃ d : DS, d.ok = true ∧ r = d.lv) := by
 refine Wc.of_codeOf ZhJ QA (by simp) ⟨_, .count 1, rfl, rfl⟩ ?_
 intro h1 h3 ct i k hct hk
 simp (disch := omega) [ZbU]
 refine Qp (WP D ok 3 (by unfold I64; omega)) hct hk ?_
 rintro r i1 k1 hk1 ⟨m, rfl, hm0, hm1, _⟩
 have hm := hm1 (by omega)
 obtain ⟨n, rfl⟩ : ∃ n : Nat, m = n := ⟨m.toNat, by omega⟩
 have e1 : (1 : Int) + n = ((n + 1 : Nat) : Int) := by simp; omega
 have w1 : Qe Tryz.prog YS [N (1 + n)] (· = (DS.bound (n + 1)).lv) := by rw [e1]; exact Ziv (n + 1) (by omega) (by omega)
 have w2 : Qe Tryz.prog Xt [N (1 + n)] (· = (DS.count (n + 1)).lv) := by rw [e1]; exact Vq (n + 1) (by omega) (by omega)
 have w3 : Qe Tryz.prog Xx [N (1 + n)] (· = (DS.level (n + 1)).lv) := by rw [e1]; exact ZbG (n + 1) (by omega) (by omega)
 have w4 : Qe Tryz.prog Xt [N 1] (· = (DS.count 1).lv) := Vq 1 (by omega) (by omega)
 have cells : ∀ d : DS, ∃ a b c e, d.lv = .agg [a, b, c, e] ∧ a.alive = true ∧ b.alive = true ∧ c.alive = true ∧ e.alive = true ∧ Low 0 d.lv := fun d => by
  cases d <;> exact ⟨_, _, _, _, rfl, rfl, rfl, rfl, rfl, by simp [DS.lv]⟩
 simp (disch := omega) [Qf]
 obtain ⟨a1, a2, a3, a4, ea, al1, al2, al3, al4, la⟩ := cells (.bound (n + 1))
 rw [ea] at w1
 refine Qa w1 (by rw [← ea] at *; simp) ?_
 simp (disch := omega) [Qf]
 refine Qp (WP D ok 8 (by unfold I64; omega)) hct hk1 ?_
 rintro r i2 k2 hk2 ⟨m, rfl, _⟩
 simp (disch := omega) [Qf]
 obtain ⟨b1, b2, b3, b4, eb, bl1, bl2, bl3, bl4, lb⟩ := cells (.count (n + 1))
 obtain ⟨c1, c2, c3, c4, ec, cl1, cl2, cl3, cl4, lc⟩ := cells (.level (n + 1))
 have okn : ∀ d : DS, (d = .bound (n + 1) ∨ d = .count (n + 1) ∨ d = .level (n + 1)) → d.ok = true := by
  rintro d (rfl | rfl | rfl) <;> (simp [DS.ok]; omega)
 rw [eb] at w2
 rw [ec] at w3
 have fin : ∀ (x1 x2 x3 x4 : LV) (d : DS), d.ok = true → d.lv = .agg [x1, x2, x3, x4] → ∀ (e : Exit) (s : St) (i' k' : Int) (z : List LV), z.length = 4 → e = .ret → s.t 2 = .ptr (h1.length + (h3.length + 1)) 0 → XC D i' k' →
   s.h = h1 ++ some [ct, N i', N k'] :: (h3 ++ [some [x1, x2, x3, x4], some z]) → Ze4 D [.cell 2 true 4] h1 h3 ct (fun r => ∃ d : DS, d.ok = true ∧ r = d.lv) e s := by
  intro x1 x2 x3 x4 d hd hl e s i' k' z hz he ht hk hh
  obtain ⟨y1, y2, y3, y4, ey, _, _, _, _, ly⟩ := cells d
  exact Zhj (j := 0) (.inr he) ht hh (by omega) rfl rfl rfl hk (by rw [← hl]; exact ly) ⟨d, hd, hl.symm⟩
 repeat' (first
  | with_reducible refine Qa (w2) (by simp) ?_
  | with_reducible refine Qa (w3) (by simp) ?_
  | with_reducible refine Qa (w4) (by simp) ?_
  | (with_reducible (first | refine Qo (fun hb_ => ?_) (fun hb_ => ?_) | refine Qn (fun hb_ => ?_) (fun hb_ => ?_)) <;> simp (disch := omega) [hb_, Qf, al1, al2, al3, al4, bl1, bl2, bl3, bl4, cl1, cl2, cl3, cl4])
  | simp (disch := omega) [Qf, al1, al2, al3, al4, bl1, bl2, bl3, bl4, cl1, cl2, cl3, cl4])
 any_goals (first
  | exact fin _ _ _ _ _ (okn _ (.inr (.inl rfl))) eb _ _ _ _ _ rfl rfl rfl hk2 rfl
  | exact fin _ _ _ _ _ (okn _ (.inr (.inr rfl))) ec _ _ _ _ _ rfl rfl rfl hk2 rfl
  | exact fin _ _ _ _ _ (okn _ (.inl rfl)) ea _ _ _ _ _ rfl rfl rfl hk2 rfl)
 refine Qp (WP D ok 2 (by unfold I64; omega)) hct hk2 ?_
 rintro r i3 k3 hk3 ⟨m3, rfl, hn0, hn1, _⟩
 have hm3 := hn1 (by omega)
 obtain ⟨n3, rfl⟩ : ∃ n : Nat, m3 = n := ⟨m3.toNat, by omega⟩
 have v3 : Qe Tryz.prog Xx [N (1 + n3)] (· = (DS.level (n3 + 1)).lv) := by rw [show (1 : Int) + n3 = ((n3 + 1 : Nat) : Int) by simp; omega]; exact ZbG (n3 + 1) (by omega) (by omega)
 obtain ⟨d1, d2, d3, d4, ed, dl1, dl2, dl3, dl4, ld⟩ := cells (.level (n3 + 1))
 obtain ⟨f1, f2, f3, f4, ef, fl1, fl2, fl3, fl4, lf⟩ := cells (.count 1)
 obtain ⟨g1, g2, g3, g4, eg, gl1, gl2, gl3, gl4, lg⟩ := cells (.prod (n3 + 1))
 have v4 := Zoi (n3 + 1) (by omega) (by omega)
 have sd := DS.share (.level (n3 + 1))
 have sf := DS.share (.count 1)
 rw [ed, show (DS.level (n3 + 1)).sys = Zbz (n3 + 1) from rfl] at sd
 rw [ef, show (DS.count 1).sys = Z4 1 false from rfl] at sf
 rw [← sf, ← sd, eg] at v4
 rw [ed] at v3
 have la : ∀ (d : DS) {x1 x2 x3 x4 : LV}, d.lv = .agg [x1, x2, x3, x4] → Low 0 (share (.agg [x1, x2, x3, x4])) := fun d x1 x2 x3 x4 he => by rw [← he, DS.share]; simp
 have lsd := la _ ed
 have lsf := la _ ef
 simp only [Zqh, Zjv, Zlv, Zpx, Vz, ZaQ] at v4 lsd lsf
 simp (disch := omega) [Qf]
 refine Qa v3 (by simp) ?_
 simp (disch := omega) [Qf]
 rw [show share (DS.count 1).lv = .agg [share f1, share f2, share f3, share f4] by rw [ef]; simp]
 refine Qa v4 (by simp only [Vz, Zpx, ZaQ]; exact ⟨lsf, lsd, trivial⟩) ?_
 simp (disch := omega) [Qf, gl1, gl2, gl3, gl4]
 exact fin _ _ _ _ (.prod (n3 + 1)) (by simp [DS.ok]; omega) eg _ _ _ _ _ rfl rfl rfl hk3 rfl
end
end Go.Proofs.YtclfngbealdbgaaGreat
namespace Go.Proofs.YtclfngbealdbgaaGreat.Ty
inductive RT where
 | nd (c : Int) (ks : List RT)
mutual
def RT.flat : RT → List Int
 | .nd c ks => c :: WB ks
def WB : List RT → List Int
 | [] => []
 | t :: ts => t.flat ++ WB ts
end
mutual
def RT.ok : RT → Prop
 | .nd c ks => Wr c = some ks.length ∧ oks ks
def oks : List RT → Prop
 | [] => True
 | t :: ts => t.ok ∧ oks ts
end
theorem ZgS : ∀ {ts : List RT}, oks ts ↔ ∀ t ∈ ts, t.ok
 | [] => by simp [oks]
 | t :: ts => by simp [oks, ZgS (ts := ts)]
theorem JW : ∀ (ts us : List RT), WB (ts ++ us) = WB ts ++ WB us
 | [], us => by simp [WB]
 | t :: ts, us => by simp [WB, JW ts us]
theorem parse : ∀ (l : List Int) (n : Nat) (r : List Int), Ty.skip n l = some r → ∃ ts : List RT, ts.length = n ∧ oks ts ∧ l = WB ts ++ r
 | l, 0, r, h => by simp [Ty.skip] at h; exact ⟨[], rfl, by simp [oks], by simp [WB, h]⟩
 | [], n + 1, r, h => by simp [Ty.skip] at h
 | c :: l, n + 1, r, h => by
  simp only [Ty.skip] at h
  cases hk : Wr c with
  | none => simp [hk] at h
  | some k =>
   simp only [hk] at h
   obtain ⟨ts, h1, h2, h3⟩ := parse l (n + k) r h
   refine ⟨.nd c (ts.take k) :: ts.drop k, by simp; omega, ?_, ?_⟩
   ·rw [ZgS] at h2
    simp only [oks, RT.ok, ZgS, hk]
    refine ⟨⟨by simp; omega, fun t ht => h2 t (List.mem_of_mem_take ht)⟩, fun t ht => h2 t (List.mem_of_mem_drop ht)⟩
   ·rw [h3]
    simp only [WB, RT.flat, List.cons_append]
    rw [← JW, List.take_append_drop]
mutual
theorem RT.skip_flat : ∀ (t : RT) (r : List Int), t.ok → Ty.skip 1 (t.flat ++ r) = some r
 | .nd c ks, r, h => by
  simp only [RT.ok] at h
  simp only [RT.flat, List.cons_append, Ty.skip, h.1]
  rw [Nat.zero_add]
  exact Zg5 ks r h.2
theorem Zg5 : ∀ (ts : List RT) (r : List Int), oks ts → Ty.skip ts.length (WB ts ++ r) = some r
 | [], r, _ => by simp [WB, Ty.skip]
 | t :: ts, r, h => by
  simp only [oks] at h
  simp only [WB, List.append_assoc, List.length_cons]
  rw [Nat.add_comm, Zii, RT.skip_flat t _ h.1]
  exact Zg5 ts r h.2
end
theorem RT.flat_pos (t : RT) : 0 < t.flat.length := by cases t; simp [RT.flat]
theorem ZnH {l : List Int} (h : wty l = true) : ∃ t : RT, t.ok ∧ l = t.flat ∧ l.length ≤ 40 := by
 simp [wty] at h
 obtain ⟨⟨h1, h2⟩, h3⟩ := h
 obtain ⟨ts, g1, g2, g3⟩ := parse l 1 [] h3
 match ts, g1 with
 | [t], _ =>
  simp only [oks] at g2
  exact ⟨t, g2.1, by simpa [WB] using g3, h2⟩
theorem tree_wty {t : RT} (h : t.ok) (hl : t.flat.length ≤ 40) : wty t.flat = true := by
 have := RT.skip_flat t [] h
 rw [List.append_nil] at this
 have := t.flat_pos
 simp [wty, *]; omega
theorem Zd1 {t : RT} (h : t.ok) (r : List Int) (len : Nat) : Kn 1 (t.flat ++ r) len = (len : Int) - r.length := by
 unfold Kn
 rw [RT.skip_flat t r h]
end Go.Proofs.YtclfngbealdbgaaGreat.Ty
namespace Go.Proofs.YtclfngbealdbgaaGreat
open Go Go.TL
open Go.Proofs.YtclfngbealdbgaaGreat.Ty
set_option linter.unusedSimpArgs false
set_option linter.unusedVariables false
set_option linter.unusedSectionVars false
set_option maxRecDepth 20000
set_option maxHeartbeats 4000000
theorem Vr {l r : List Int} {u nl : Bool} (h : l.length + r.length ≤ 1099511627776) : WF 1 (OU true false l) (OU u nl r) = some (OU true false (l ++ r)) := by
 simp only [WF]
 rw [if_pos ⟨.inl trivial, .inl trivial, .inl trivial, by simp only [List.length_map]; exact h⟩]
 simp only [Bool.true_or, Bool.false_and]
 rw [OU, List.map_append]
def KO (c : Int) (ctx : Wk) (k : Nat) : List Int := c :: ((ctx.take k).map (·.2)).flatten
theorem ZnY (c : Int) (ctx : Wk) (k : Nat) (h : k < ctx.length) : KO c ctx (k + 1) = KO c ctx k ++ ctx[k].2 := by
 rw [KO, KO, List.take_succ_eq_append_getElem h, List.map_append, List.flatten_append, List.cons_append]
 simp only [List.map_cons, List.map_nil, List.flatten_cons, List.flatten_nil, List.append_nil]
theorem ZpJ (c : Int) (ctx : Wk) (k : Nat) (h : k ≤ ctx.length) : (KO c ctx k).length ≤ 1 + cws ctx := by
 have key : ∀ (ctx : Wk), ((ctx.map (·.2)).flatten).length = cws ctx := by
  intro ctx
  induction ctx with
  | nil => simp [cws]
  | cons a l ih => simp [cws, ih]
 have h2 : ∀ (ctx : Wk) (k : Nat), cws (ctx.take k) ≤ cws ctx := by
  intro ctx
  induction ctx with
  | nil => intro k; simp
  | cons a l ih => intro k; cases k with
   | zero => simp [cws]
   | succ k => simp [cws]; exact ih k
 simp only [KO, List.length_cons, key]
 have := h2 ctx k
 omega
theorem Zkb (c : Int) (nl : Bool) (ctx : Wk) (hw : ctx.length ≤ 1000000) (hl : cws ctx ≤ 1000000000) : Qe Tryz.prog We [N c, LC nl ctx] (· = OU true false (c :: (ctx.map (·.2)).flatten)) := by
 obtain ⟨z, hz⟩ : ∃ z, c :: (ctx.map (·.2)).flatten = z := ⟨_, rfl⟩
 rw [hz]
 refine Qe.of_codeOf Zi1 QA (by simp) ⟨_, rfl, by simp⟩ ?_
 simp (disch := omega) [Zdb]
 refine Wb ctx.length 0 (fun i t _ => t 6 = N i ∧ t 5 = OU true false (KO c ctx i)) (fun t _ => t 5 = OU true false z) (by simp [KO]) (by omega) ?_ ?_
 ·rintro i t1 hh hf hi ⟨e6, e5⟩
  (have e1 := hf 1 (by kernel_rfl); clear hf; simp [] at e1)
  simp (disch := omega) [e1, e5, e6]
  (with_reducible first | refine Qo (fun h1 => ?_) (fun h1 => ?_) | refine Qn (fun h1 => ?_) (fun h1 => ?_))
  ·simp only [Qh, Qg, Qm, Qj, Qd, Qc, Bool.not_true, Bool.not_false] at h1
   simp (disch := omega) [e1, e5, e6, KI]
   have hm := Zpf (List.getElem_mem (show i < ctx.length by omega))
   have hg := ZpJ c ctx i (by omega)
   rw [Vr (by omega), ← ZnY c ctx i (by omega)]
   simp (disch := omega) [e1, e5, e6, Qf]
   omega
  ·simp only [Qh, Qg, Qm, Qj, Qd, Qc, Bool.not_true, Bool.not_false] at h1
   simp (disch := omega) [e5]
   rw [show i = ctx.length by omega, ← hz]; simp [KO]
 ·rintro t1 hh hf e5
  simp (disch := omega) [e5]
theorem Zd5 (c : Int) (nl n1 : Bool) (a : List Int) (hl : a.length ≤ 100000) : Qe Tryz.prog We [N c, .sl false nl 1 [[L n1 a]]] (· = OU true false (c :: a)) := by
 have := Zkb c nl [(n1, a)] (by simp) (by simp [cws]; omega)
 simp only [List.map_cons, List.map_nil, List.flatten_cons, List.flatten_nil, List.append_nil] at this
 exact this
theorem YR (c : Int) (nl n1 n2 : Bool) (a b : List Int) (ha : a.length ≤ 100000) (hb : b.length ≤ 100000) : Qe Tryz.prog We [N c, .sl false nl 1 [[L n1 a], [L n2 b]]] (· = OU true false (c :: (a ++ b))) := by
 have := Zkb c nl [(n1, a), (n2, b)] (by simp) (by simp [cws]; omega)
 simp only [List.map_cons, List.map_nil, List.flatten_cons, List.flatten_nil, List.append_nil] at this
 exact this
mutual
def RT.gr (size : Int) (data : Bool) : RT → Prop
 | .nd c ks => okC size true c = true ∧ (data = true → QL c = false) ∧ grs size data ks
def grs (size : Int) (data : Bool) : List RT → Prop
 | [] => True
 | t :: ts => RT.gr size data t ∧ grs size data ts
end
def ZhG (size : Int) (data : Bool) (n : Nat) (l : List Int) : Prop := ∃ t : RT, t.ok ∧ RT.gr size data t ∧ l = t.flat ∧ l.length ≤ n
theorem Zqb {size g : Int} (h0 : 0 ≤ g) (h1 : g < size) (h2 : size ≤ 16) : Wr (3 + g) = some 2 ∧ okC size true (3 + g) = true ∧ QL (3 + g) = true := by
 have ha : QL (3 + g) = true := by simp [QL]; omega
 have hk : Wr (3 + g) = some 2 := by unfold Wr; rw [if_neg (by omega), if_pos (.inr (.inr ha))]
 have hg : W2 (3 + g) = g := by unfold W2; rw [if_neg (by omega), if_neg (by omega)]; omega
 refine ⟨hk, ?_, ha⟩
 simp [okC, hg, ltB, leB, h1, h0]
theorem okC_box {size g : Int} (h0 : 0 ≤ g) (h1 : g < size) (h2 : size ≤ 16) : Wr (19 + g) = some 1 ∧ okC size true (19 + g) = true ∧ QL (19 + g) = false := by
 have ha : QL (19 + g) = false := by simp [QL]; omega
 have hb : W0 (19 + g) = true := by simp [W0]; omega
 have hk : Wr (19 + g) = some 1 := by unfold Wr; rw [if_neg (by omega), if_neg (by rintro (h | h | h); omega; omega; rw [ha] at h; simp at h), if_pos hb]
 have hg : W2 (19 + g) = g := by unfold W2; rw [if_neg (by omega), if_pos (by omega)]; omega
 refine ⟨hk, ?_, ha⟩
 simp [okC, hg, ltB, leB, h1, h0]
theorem ZeI {size : Int} {data : Bool} {n : Nat} (hn : 1 ≤ n) : ZhG size data n [0] :=
 ⟨.nd 0 [], by simp [RT.ok, Wr, oks], by simp [RT.gr, grs, okC, QL, W0], by simp [RT.flat, WB], by simpa using hn⟩
theorem tyIn_one {size c : Int} {data : Bool} {n m : Nat} {a : List Int} (ha : ZhG size data n a) (hk : Wr c = some 1) (ho : okC size true c = true) (hd : data = true → QL c = false) (hm : n + 1 ≤ m) : ZhG size data m (c :: a) := by
 obtain ⟨t, h1, h2, rfl, h4⟩ := ha
 exact ⟨.nd c [t], by simp [RT.ok, oks, hk, h1], by simp only [RT.gr, grs]; exact ⟨ho, hd, h2, trivial⟩, by simp [RT.flat, WB], by simp; omega⟩
theorem Zg2 {size c : Int} {data : Bool} {n k m : Nat} {a b : List Int} (ha : ZhG size data n a) (hb : ZhG size data k b) (hk : Wr c = some 2) (ho : okC size true c = true) (hd : data = true → QL c = false) (hm : n + k + 1 ≤ m) : ZhG size data m (c :: (a ++ b)) := by
 obtain ⟨t, h1, h2, rfl, h4⟩ := ha
 obtain ⟨u, g1, g2, rfl, g4⟩ := hb
 exact ⟨.nd c [t, u], by simp [RT.ok, oks, hk, h1, g1], by simp only [RT.gr, grs]; exact ⟨ho, hd, h2, g2, trivial⟩, by simp [RT.flat, WB], by simp; omega⟩
theorem kids12 : Wr 1 = some 2 ∧ Wr 2 = some 2 := by decide
theorem okC12 (size : Int) : okC size true 1 = true ∧ okC size true 2 = true ∧ QL 1 = false ∧ QL 2 = false := by simp [okC, QL, W0]
section
variable (D : Dr) (ok : D.ok)
include ok
theorem Zl (s : GSys) (hs : 1 ≤ s.size ∧ s.size ≤ 16) (data : Bool) : ∀ deep : Nat, deep ≤ 12 → Wc Tryz.prog D Wx [s.lv, N deep, B data] (fun r => ∃ l, r = OU true false l ∧ ZhG s.size data (2 ^ (deep + 1) - 1) l) := by
  intro deep
  induction deep with
  | zero =>
    intro _
    refine Wc.of_codeOf ZeW QA (by simp) ⟨_, [0], rfl, ZeI (by simp)⟩ ?_
    intro h1 h3 ct i k hct hk
    simp (disch := omega) [Za6, Qw, Qs]
    refine Qp (WP D ok 6 (by unfold I64; omega)) hct hk ?_
    rintro r i1 k1 hk1 ⟨m, rfl, hm0, hm1, _⟩
    repeat' (first
    | (with_reducible (first | refine Qo (fun hb_ => ?_) (fun hb_ => ?_) | refine Qn (fun hb_ => ?_) (fun hb_ => ?_)) <;> simp (disch := omega) [hb_, Qf])
    | simp (disch := omega) [Qf])
    all_goals (first | refine WR (.inr rfl) rfl ?_ (by simp) ?_ | refine WA (.inr rfl) rfl ?_ (by simp) ?_)
    all_goals first | exact hk1 | exact ⟨[0], by simp, ZeI (by simp)⟩
  | succ deep ih =>
    intro hd
    have ih := ih (by omega)
    have hp : 1 ≤ 2 ^ (deep + 1) := Nat.one_le_two_pow
    have hp2 : 2 ^ (deep + 1 + 1) = 2 * 2 ^ (deep + 1) := by rw [Nat.pow_succ]; omega
    have hp3 : 2 ^ (deep + 1) ≤ 2 ^ 13 := Nat.pow_le_pow_right (by omega) (by omega)
    refine Wc.of_codeOf ZeW QA (by simp) ⟨_, [0], rfl, ZeI (by omega)⟩ ?_
    intro h1 h3 ct i k hct hk
    have hsI : I64 s.size := by unfold I64; omega
    have glen : ∀ {l : List Int}, ZhG s.size data (2 ^ (deep + 1) - 1) l → l.length ≤ 100000 := fun h => by obtain ⟨_, _, _, _, h⟩ := h; omega
    have num : ∃ l, OU true false [0] = OU true false l ∧ ZhG s.size data (2 ^ (deep + 1 + 1) - 1) l := ⟨[0], rfl, ZeI (by omega)⟩
    simp (disch := omega) [Za6, Qw, Qs]
    refine Qp (WP D ok 6 (by unfold I64; omega)) hct hk ?_
    rintro r i1 k1 hk1 ⟨m, rfl, hm0, hm1, _⟩
    cases data
    all_goals
      repeat' (first
    | (with_reducible (first | refine Qo (fun hb_ => ?_) (fun hb_ => ?_) | refine Qn (fun hb_ => ?_) (fun hb_ => ?_)) <;> simp (disch := omega) [hb_, Qf])
    | simp (disch := omega) [Qf])
      · (first | refine WR (.inr rfl) rfl ?_ (by simp) ?_ | refine WA (.inr rfl) rfl ?_ (by simp) ?_)
        · exact hk1
        · exact num
      · (first | refine WR (.inr rfl) rfl ?_ (by simp) ?_ | refine WA (.inr rfl) rfl ?_ (by simp) ?_)
        · exact hk1
        · exact num
      · refine Qp ih hct hk1 ?_
        rintro r i2 k2 hk2 ⟨l, rfl, hl⟩
        have ll := glen hl
        repeat' (first
    | (with_reducible (first | refine Qo (fun hb_ => ?_) (fun hb_ => ?_) | refine Qn (fun hb_ => ?_) (fun hb_ => ?_)) <;> simp (disch := omega) [hb_, Qf])
    | simp (disch := omega) [Qf])
        ·
          refine Qp (WP D ok s.size hsI) hct hk2 ?_
          rintro r i3 k3 hk3 ⟨g, rfl, hg0, hg1, _⟩
          have hg := hg1 (by omega)
          obtain ⟨q1, q2, q3⟩ := okC_box hg0 hg hs.2
          simp (disch := omega) [Qf]
          refine Qa (Zd5 _ _ _ _ ll) (by simp) ?_
          simp (disch := omega) [Qf]
          (first | refine WR (.inr rfl) rfl ?_ (by simp) ?_ | refine WA (.inr rfl) rfl ?_ (by simp) ?_)
          · exact hk3
          · exact ⟨(19 + g) :: l, by simp, tyIn_one hl q1 q2 (fun _ => q3) (by omega)⟩
        all_goals first
          | (refine Qp (WP D ok s.size hsI) hct hk2 ?_
             rintro r i3 k3 hk3 ⟨g, rfl, hg0, hg1, _⟩
             have hg := hg1 (by omega)
             obtain ⟨q1, q2, q3⟩ := Zqb hg0 hg hs.2
             simp (disch := omega) [Qf]
             refine Qp ih hct hk3 ?_
             rintro r i4 k4 hk4 ⟨l2, rfl, hl2⟩
             have ll2 := glen hl2
             simp (disch := omega) [Qf]
             refine Qa (YR _ _ _ _ _ _ ll ll2) (by simp) ?_
             simp (disch := omega) [Qf]
             (first | refine WR (.inr rfl) rfl ?_ (by simp) ?_ | refine WA (.inr rfl) rfl ?_ (by simp) ?_)
             · exact hk4
             · exact ⟨(3 + g) :: (l ++ l2), by simp, Zg2 hl hl2 q1 q2 (fun h => by simp at h) (by omega)⟩)
          | (refine Qp ih hct hk2 ?_
             rintro r i4 k4 hk4 ⟨l2, rfl, hl2⟩
             have ll2 := glen hl2
             simp (disch := omega) [Qf]
             refine Qa (YR _ _ _ _ _ _ ll ll2) (by simp) ?_
             simp (disch := omega) [Qf]
             (first | refine WR (.inr rfl) rfl ?_ (by simp) ?_ | refine WA (.inr rfl) rfl ?_ (by simp) ?_)
             · exact hk4
             · first
                 | (refine ⟨2 :: (l ++ l2), ?_, Zg2 hl hl2 kids12.2 (okC12 _).2.1 (fun _ => (okC12 s.size).2.2.2) (by omega)⟩; simp; done)
                 | (refine ⟨1 :: (l ++ l2), ?_, Zg2 hl hl2 kids12.1 (okC12 _).1 (fun _ => (okC12 s.size).2.2.1) (by omega)⟩; simp; done))
end
end Go.Proofs.YtclfngbealdbgaaGreat
namespace Go.Proofs.YtclfngbealdbgaaGreat
open Go Go.TL
set_option linter.unusedSimpArgs false
set_option linter.unusedVariables false
set_option linter.unusedSectionVars false
set_option maxRecDepth 20000
set_option maxHeartbeats 4000000
abbrev Znf {α : Type} (e : α → LV) (l : List α) : List (List LV) := l.map fun x => [e x]
theorem ZhF {α : Type} (v : α → Value) : ∀ (l : List α) (n : Nat) (cells : List LV) (bs : List Box), Zcm (Znf (fun x => .sc (v x)) l) 1 n cells bs ↔ cells = l.map (fun x => .sc (v x)) ∧ bs = []
 | [], n, cells, bs => by simp [Zcm]
 | x :: l, n, cells, bs => by
  simp only [Znf, List.map_cons, Zcm, JF, Th]
  constructor
  ·rintro ⟨c1, b1, c2, b2, _, ⟨y, b3, ys', b4, ⟨rfl, rfl⟩, ⟨rfl, rfl⟩, rfl, rfl⟩, h2, rfl, rfl⟩
   obtain ⟨rfl, rfl⟩ := (ZhF v l _ _ _).1 h2
   simp
  ·rintro ⟨rfl, rfl⟩
   exact ⟨[.sc (v x)], [], l.map (fun x => .sc (v x)), [], rfl, ⟨.sc (v x), [], [], [], ⟨rfl, rfl⟩, ⟨rfl, rfl⟩, rfl, rfl⟩, (ZhF v l _ _ _).2 ⟨rfl, rfl⟩, rfl, rfl⟩
theorem th_sc {α : Type} (v : α → Value) {u nl : Bool} {l : List α} {n : Nat} {y : LV} {bs : List Box} : Th (.sl u nl 1 (Znf (fun x => .sc (v x)) l)) n y bs ↔ (l = [] ∧ y = .sl false nl 1 [] ∧ bs = []) ∨
  (nl = false ∧ l ≠ [] ∧ ∃ slack cap, (l.length ≤ cap ∧ l.length * 1 + slack = cap * 1) ∧ y = .ha n 1 0 l.length cap ∧ bs = [some (l.map (fun x => .sc (v x)) ++ List.replicate slack .dead)]) := by
 simp only [Th, ZhF, List.length_map, List.map_eq_nil_iff]
 constructor
 ·rintro (⟨h1, h2, h3⟩ | ⟨h1, h2, cells, bs', slack, cap, ⟨rfl, rfl⟩, h3, h4, h5⟩)
  ·exact .inl ⟨h1, h2, h3⟩
  ·exact .inr ⟨h1, by simpa using h2, slack, cap, h3, by simpa using h4, by simpa using h5⟩
 ·rintro (⟨h1, h2, h3⟩ | ⟨h1, h2, slack, cap, h3, h4, h5⟩)
  ·exact .inl ⟨h1, h2, h3⟩
  ·exact .inr ⟨h1, by simpa using h2, _, [], slack, cap, ⟨rfl, rfl⟩, h3, by simpa using h4, by simpa using h5⟩
theorem whole_sc {α : Type} (v : α → Value) (u nl : Bool) (l : List α) (h : l = [] ∨ (u = true ∧ nl = false)) : Wn (.sl u nl 1 (Znf (fun x => .sc (v x)) l)) := by
 simp only [Wn]
 refine ⟨?_, ?_⟩
 ·rcases h with rfl | ⟨rfl, rfl⟩
  ·left; rfl
  ·right; simp
 ·clear h
  induction l with
  | nil => simp [Xs]
  | cons x l ih => simp only [Znf, List.map_cons, Xs, WZ, Wn]; exact ⟨⟨trivial, trivial⟩, ih⟩
@[simp] theorem bin_rem3 {a : Int} : Xg .num .rem (.sc (.int .i64 a)) (.sc (.int .i64 3)) = some (.sc (.int .i64 (a.tmod 3))) := by simp [Xg, ZN]
end Go.Proofs.YtclfngbealdbgaaGreat
namespace Go.Proofs.YtclfngbealdbgaaGreat
open Go Go.TL
open Go.Proofs.YtclfngbealdbgaaGreat.Ty
set_option linter.unusedSimpArgs false
set_option linter.unusedVariables false
set_option linter.unusedSectionVars false
set_option maxRecDepth 20000
set_option maxHeartbeats 4000000
theorem frz_at {H : List Box} {p sz n cap : Nat} {xs : List LV} (hl : H[p]? = some (some xs)) (hx : xs.length = cap * sz) (hn : n ≤ cap) : Qs H (.ha p sz 0 n cap) = some (.sl true false sz (Ql sz n xs), H.set p none) := by
 simp only [Qs, hl]
 rw [if_pos ⟨hx, hn⟩]
theorem ZnP (l : List Int) (ex : List LV) : ∀ n, n ≤ l.length → Ql 1 n (l.map N ++ ex) = (l.take n).map fun x => [N x] := by
  induction l with
  | nil => intro n hn; have : n = 0 := by simpa using hn
           subst this; rfl
  | cons a l ih =>
    intro n hn
    cases n with
    | zero => rfl
    | succ n =>
      have := ih n (by simpa using hn)
      simp only [Ql, List.map_cons, List.cons_append, List.take_succ_cons, List.take_zero, List.drop_succ_cons, List.drop_zero, this]
theorem Zgg (l : List Int) (ex : List LV) (i : Nat) (v : Int) (h : i < l.length) : splice (l.map N ++ ex) i [N v] = (l.set i v).map N ++ ex := by
 unfold splice
 rw [List.take_append_of_le_length (by simp; omega), List.drop_append_of_le_length (by simp; omega), List.set_eq_take_append_cons_drop, if_pos h]
 simp
theorem ZlY (l : List Int) (ex : List LV) (i : Nat) (v : Int) (h : i < l.length) : Ql 1 l.length (List.take i (l.map N ++ ex) ++ N v :: List.drop (i + 1) (l.map N ++ ex)) = (l.set i v).map fun x => [N x] := by
 have h1 := Zgg l ex i v h
 have e : List.take i (l.map N ++ ex) ++ N v :: List.drop (i + 1) (l.map N ++ ex) = splice (l.map N ++ ex) i [N v] := by unfold splice; simp
 rw [e, h1]
 have h2 := ZnP (l.set i v) ex l.length (by simp)
 rw [h2, List.take_of_length_le (by simp)]
section
variable (D : Dr) (ok : D.ok)
include ok
theorem l1New_ok (h : List Box) : Q7 Tryz.prog ZaO [D.lv] h (fun r h' => ∃ k, r = .ptr h.length 0 ∧ XC D 0 k ∧ h' = h ++ [some [D.lv, N 0, N k]]) := by
 refine Q7.of_codeOf Zl1 QA (by simp) ⟨_, _, 0, rfl, ⟨by omega, by omega, by omega, by omega⟩, rfl⟩ ?_
 have hlen := ok.len
 simp (disch := omega) [ZeH]
 refine Wb D.bs.length 0 (fun i t h' => h' = h ∧ t 4 = N i ∧ ∃ k, t 3 = N k ∧ I64 k) (fun t h' => h' = h ∧ ∃ k, t 3 = N k ∧ I64 k) ⟨by simp, by simp, _, by simp; rfl, wrap_i64 _⟩ (by omega) ?_ ?_
 ·rintro i t1 hh hf hi ⟨rfl, e4, k, e3, hk⟩
  (have e0 := hf 0 (by kernel_rfl); clear hf; simp [] at e0)
  by_cases h1 : i < D.bs.length
  ·have hb1 : ltB (i : Int) D.bs.length = true := by rw [Qh]; omega
   simp (disch := omega) [e0, e3, e4, hb1]
   by_cases h2 : i < 4000
   ·have hb2 : ltB (i : Int) 4000 = true := by rw [Qh]; omega
    simp (disch := omega) [e0, e3, e4, hb1, hb2, idx_D (D := D) (i := i) (by omega) (by omega), Qf]
    exact ⟨by omega, and_I64 _ _⟩
   ·have hb2 : ltB (i : Int) 4000 = false := by rw [Qg]; omega
    simp (disch := omega) [e0, e3, e4, hb1, hb2]
    exact hk
  ·have hb1 : ltB (i : Int) D.bs.length = false := by rw [Qg]; omega
   simp (disch := omega) [e0, e3, e4, hb1]
   exact hk
 ·rintro t1 hh hf ⟨rfl, k, e3, hk⟩
  (have e0 := hf 0 (by kernel_rfl); clear hf; simp [] at e0)
  simp (disch := omega) [e0, e3, Qw]
  refine Q5 (.inr rfl) (by simp) ⟨by simp, k, ⟨by omega, by omega, hk.1, hk.2⟩, by simp⟩
end
theorem big_ok (D : Dr) : Qe Tryz.prog ZdL [D.lv] (· = B (ltB 1048576 D.bs.length)) := by
 refine Qe.of_codeOf Zn7 QA (by simp) ⟨_, rfl, by simp⟩ ?_
 simp (disch := omega) [Zhp]
theorem ints_ok (n1 n2 : Bool) (a b : List Int) (ha : a.length ≤ 1099511627776) : Qe Tryz.prog ZbE [L n1 a, L n2 b] (· = B (a == b)) := by
 generalize hq : (a == b) = q
 refine Qe.of_codeOf ZmR QA (by simp) ⟨_, rfl, by simp⟩ ?_
 simp (disch := omega) [Zgi]
 (with_reducible first | refine Qo (fun h1 => ?_) (fun h1 => ?_) | refine Qn (fun h1 => ?_) (fun h1 => ?_))
 ·simp (disch := omega) [h1]
  simp only [Qh, Qg, Qm, Qj, Qd, Qc, Bool.not_true, Bool.not_false] at h1
  refine Xm a.length 0 (fun i t _ => t 5 = N i ∧ q = (a.drop i == b.drop i)) (by simp [hq]) (by omega) ?_
  rintro i t1 hh hf hi ⟨e5, hj⟩
  (have e0 := hf 0 (by kernel_rfl); have e1 := hf 1 (by kernel_rfl); clear hf; simp [] at e0 e1)
  simp (disch := omega) [e0, e1, e5]
  (with_reducible first | refine Qo (fun h6 => ?_) (fun h6 => ?_) | refine Qn (fun h6 => ?_) (fun h6 => ?_))
  ·simp only [Qh, Qg, Qm, Qj, Qd, Qc, Bool.not_true, Bool.not_false] at h6
   have hd1 := List.drop_eq_getElem_cons (l := a) (i := i) (by omega)
   have hd2 := List.drop_eq_getElem_cons (l := b) (i := i) (by omega)
   have hq2 : q = (a[i]'(by omega) == b[i]'(by omega) && (a.drop (i + 1) == b.drop (i + 1))) := by rw [hj, hd1, hd2]; rfl
   clear hd1 hd2 hj
   simp (disch := omega) [e0, e1, e5, W9]
   repeat' (first
  | (with_reducible (first | refine Qo (fun hb_ => ?_) (fun hb_ => ?_) | refine Qn (fun hb_ => ?_) (fun hb_ => ?_)) <;> simp (disch := omega) [hb_, e0, e1, e5, Qf])
  | simp (disch := omega) [e0, e1, e5, Qf])
   all_goals simp only [Qh, Qg, Qm, Qj, Qd, Qc, Bool.not_true, Bool.not_false] at hb_
   ·exact ⟨by omega, by simp [hq2, hb_]⟩
   ·simp [hq2, hb_]
  ·simp only [Qh, Qg, Qm, Qj, Qd, Qc, Bool.not_true, Bool.not_false] at h6
   simp (disch := omega)
   rw [hj, List.drop_of_length_le (by omega), List.drop_of_length_le (by omega)]; simp
 ·simp (disch := omega) [h1]
  simp only [Qh, Qg, Qm, Qj, Qd, Qc, Bool.not_true, Bool.not_false] at h1
  rw [← hq]; simp; intro h; exact h1 (by rw [h])
end Go.Proofs.YtclfngbealdbgaaGreat
namespace Go.Proofs.YtclfngbealdbgaaGreat
open Go Go.TL
open Go.Proofs.YtclfngbealdbgaaGreat.Ty
set_option linter.unusedSimpArgs false
set_option linter.unusedVariables false
set_option maxRecDepth 20000
set_option maxHeartbeats 4000000
def okL (size : Int) (l : List Int) : Bool := wty l && Zb size true l
def Wv (l : List Int) : List Int := (Ty.skip 1 l.tail).getD []
def QI (l : List Int) : List Int := l.tail.take (l.tail.length - (Wv l).length)
def hd (l : List Int) : Int := l.headD 0
@[simp] theorem ZkS (c : Int) (l : List Int) : hd (c :: l) = c := rfl
theorem ZoX {size : Int} {closed : Bool} {l : List Int} : Zb size closed l = true ↔ ∀ c ∈ l, okC size closed c = true := by
 unfold Zb
 rw [YX]
 constructor
 ·intro h c hc
  obtain ⟨i, hi, rfl⟩ := List.getElem_of_mem hc
  have := h i hi
  simpa [Yl, hi] using this
 ·intro h i hi
  have := h l[i] (List.getElem_mem _)
  simpa [Yl, hi] using this
theorem Yh {size : Int} {l : List Int} : okL size l = true ↔ ∃ t : RT, t.ok ∧ l = t.flat ∧ l.length ≤ 40 ∧ ∀ c ∈ l, okC size true c = true := by
 unfold okL
 rw [Bool.and_eq_true, ZoX]
 constructor
 ·rintro ⟨h1, h2⟩
  obtain ⟨t, h3, h4, h5⟩ := ZnH h1
  exact ⟨t, h3, h4, h5, h2⟩
 ·rintro ⟨t, h3, rfl, h5, h2⟩
  exact ⟨tree_wty h3 h5, h2⟩
theorem Zpn {l : List Int} (h : wty l = true) : 1 ≤ l.length ∧ l.length ≤ 40 := by
 simp [wty] at h; omega
theorem Yi {size : Int} {l : List Int} (h : okL size l = true) : wty l = true := by
 unfold okL at h; rw [Bool.and_eq_true] at h; exact h.1
theorem QF {size : Int} {l : List Int} (h : okL size l = true) : 1 ≤ l.length ∧ l.length ≤ 40 := Zpn (Yi h)
theorem ZpD {l : List Int} (h : wty l = true) : ∀ n ∈ l, 0 ≤ n ∧ n ≤ 36 := by
 intro n hn
 obtain ⟨i, hi, rfl⟩ := List.getElem_of_mem hn
 have := ZfK h i hi
 simpa [List.getD_eq_getElem?_getD, hi] using this
theorem ZG {l : List Int} (h : wty l = true) : Lok l := ⟨by have := Zpn h; omega, fun n hn => by have := ZpD h n hn; unfold I64; omega⟩
theorem ZaJ {c : Int} {t : RT} {r : List Int} (h : t.ok) : Wv (c :: (t.flat ++ r)) = r := by
 unfold Wv
 rw [List.tail_cons, RT.skip_flat t r h]; rfl
theorem ZaZ {c : Int} {t : RT} {r : List Int} (h : t.ok) : QI (c :: (t.flat ++ r)) = t.flat := by
 unfold QI
 rw [ZaJ h, List.tail_cons]
 simp
theorem Jo {size : Int} {l : List Int} (h : okL size l = true) (h2 : Wr (hd l) = some 2) : l = hd l :: (QI l ++ Wv l) ∧ okL size (QI l) = true ∧ okL size (Wv l) = true := by
 obtain ⟨⟨c, ks⟩, h3, rfl, h5, h6⟩ := Yh.1 h
 simp only [RT.ok] at h3
 simp only [RT.flat] at h2 h5 h6 ⊢
 simp only [ZkS] at h2
 rw [h2] at h3
 obtain ⟨a, b, rfl⟩ : ∃ a b, ks = [a, b] := by
  match ks, h3.1 with
  | [a, b], _ => exact ⟨a, b, rfl⟩
  | [], h => simp at h
  | [_], h => simp at h
  | _ :: _ :: _ :: _, h => simp at h
 simp only [oks] at h3
 simp only [WB, List.append_nil] at h5 h6 ⊢
 rw [ZaZ h3.2.1, ZaJ h3.2.1]
 simp only [List.length_cons, List.length_append] at h5
 refine ⟨rfl, Yh.2 ⟨a, h3.2.1, rfl, by omega, fun c hc => h6 c (by simp [hc])⟩, Yh.2 ⟨b, h3.2.2.1, rfl, by omega, fun c hc => h6 c (by simp [hc])⟩⟩
theorem ZgR {size : Int} {l : List Int} (h : okL size l = true) (h2 : Wr (hd l) = some 1) : l = hd l :: QI l ∧ Wv l = [] ∧ okL size (QI l) = true := by
 obtain ⟨⟨c, ks⟩, h3, rfl, h5, h6⟩ := Yh.1 h
 simp only [RT.ok] at h3
 simp only [RT.flat] at h2 h5 h6 ⊢
 simp only [ZkS] at h2
 rw [h2] at h3
 obtain ⟨a, rfl⟩ : ∃ a, ks = [a] := by
  match ks, h3.1 with
  | [a], _ => exact ⟨a, rfl⟩
  | [], h => simp at h
  | _ :: _ :: _, h => simp at h
 simp only [oks] at h3
 simp only [WB] at h5 h6 ⊢
 rw [ZaZ h3.2.1, ZaJ h3.2.1]
 simp only [List.length_cons, List.length_append] at h5
 refine ⟨by simp, rfl, Yh.2 ⟨a, h3.2.1, rfl, by omega, fun c hc => h6 c (by simp [hc])⟩⟩
theorem okL_none {size : Int} {l : List Int} (h : okL size l = true) (h2 : Wr (hd l) = some 0) : l = [hd l] := by
 obtain ⟨⟨c, ks⟩, h3, rfl, h5, h6⟩ := Yh.1 h
 simp only [RT.ok] at h3
 simp only [RT.flat] at h2 h5 h6 ⊢
 simp only [ZkS] at h2
 rw [h2] at h3
 obtain rfl : ks = [] := by
  match ks, h3.1 with
  | [], _ => rfl
  | _ :: _, h => simp at h
 simp [WB]
theorem Zay {size c : Int} {a b : List Int} (ha : okL size a = true) (hb : okL size b = true) (hc : Wr c = some 2) (h2 : okC size true c = true) (hl : (c :: (a ++ b)).length ≤ 40) : okL size (c :: (a ++ b)) = true := by
 obtain ⟨t, h3, rfl, _, h4⟩ := Yh.1 ha
 obtain ⟨u, h5, rfl, _, h6⟩ := Yh.1 hb
 refine Yh.2 ⟨.nd c [t, u], ?_, by simp [RT.flat, WB], hl, fun x hx => ?_⟩
 ·simp only [RT.ok, oks]
  exact ⟨hc, h3, h5, trivial⟩
 ·rcases List.mem_cons.1 hx with rfl | hx
  ·exact h2
  ·rcases List.mem_append.1 hx with hx | hx
   ·exact h4 x hx
   ·exact h6 x hx
theorem Zo4 {size c : Int} {a : List Int} (ha : okL size a = true) (hc : Wr c = some 1) (h2 : okC size true c = true) (hl : (c :: a).length ≤ 40) : okL size (c :: a) = true := by
 obtain ⟨t, h3, rfl, _, h4⟩ := Yh.1 ha
 refine Yh.2 ⟨.nd c [t], ?_, by simp [RT.flat, WB], hl, fun x hx => ?_⟩
 ·simp only [RT.ok, oks]
  exact ⟨hc, h3, trivial⟩
 ·rcases List.mem_cons.1 hx with rfl | hx
  ·exact h2
  ·exact h4 x hx
theorem ZgU (size : Int) : okL size [0] = true :=
 Yh.2 ⟨.nd 0 [], by simp [RT.ok, oks, Wr], by simp [RT.flat, WB], by simp, fun c hc => by simp at hc; subst hc; simp [okC, QL, W0]⟩
theorem X5 {size : Int} {l : List Int} (h : okL size l = true) : okC size true (hd l) = true ∧ 0 ≤ hd l ∧ hd l ≤ 36 ∧ l ≠ [] ∧ hd l ∈ l := by
 obtain ⟨⟨c, ks⟩, h3, rfl, h5, h6⟩ := Yh.1 h
 simp only [RT.ok] at h3
 have := Zf0 h3.1
 simp only [RT.flat] at h6 ⊢
 refine ⟨h6 c (by simp), by simpa using this.1, by simpa using this.2, by simp, by simp⟩
theorem KX {size c : Int} (h : okC size true c = true) (h2 : QL c = true ∨ W0 c = true) : 0 ≤ W2 c ∧ W2 c < size := by
 unfold okC at h
 have : (QL c || W0 c) = true := by rcases h2 with h | h <;> simp [h]
 rw [this] at h
 simp [Qm, Qh] at h
 omega
inductive TT where
 | mk (ty needs : List Int) (kids : List TT)
def TT.ty : TT → List Int | .mk t _ _ => t
def TT.needs : TT → List Int | .mk _ n _ => n
def TT.kids : TT → List TT | .mk _ _ k => k
@[simp] theorem TT.ty_mk {a b : List Int} {c : List TT} : (TT.mk a b c).ty = a := rfl
@[simp] theorem TT.needs_mk {a b : List Int} {c : List TT} : (TT.mk a b c).needs = b := rfl
@[simp] theorem TT.kids_mk {a b : List Int} {c : List TT} : (TT.mk a b c).kids = c := rfl
inductive Res where
 | ok (x : TT)
 | bad (f : Int) (p : List Int)
def QB (op : Int) (ty : List Int) (i : Nat) (first : List Int) : List (List Int) :=
 if op = 9 then [ty] else if Qt op i = 0 then [] else if op = 5 then [Wv first, QI first] else if op = 8 then [if i = 1 then QI first else Wv first] else [QI first]
def Jc (op : Int) (i : Nat) : Int × Int :=
 if op = 2 ∨ (op = 3 ∧ i = 0) then (0, 2) else if op = 5 ∧ i = 0 then (1, 4) else if op = 8 ∧ i = 0 then (2, 5) else if op = 10 ∧ i = 0 then (3, 6) else if op = 12 ∧ i = 0 then (4, 7) else (-1, 0)
def QK (s : GSys) (op n : Int) (i : Nat) (c : Int) : Int :=
 if 0 ≤ (Jc op i).1 ∧ (QG c).1 ≠ (Jc op i).1 then (Jc op i).2 else if i = 0 ∧ (op = 5 ∨ op = 8 ∨ op = 12) ∧ s.le 1 n = false then 8 else 0
def Ji (s : GSys) (a b : List Int) : List Int := List.zipWith s.pl a b
def Jb (s : GSys) (a b : List Int) : List Int := List.zipWith s.join a b
def WQ (s : GSys) (g : Int) (a : List Int) : List Int := a.map (s.tm g)
def WT (s : GSys) (l : List Int) (g : Int) : Bool := l.all fun u => s.le u g
def WC (n : Nat) : List Int := List.replicate n 0
def Yj (ty nd : List Int) : Int × List Int × List Int := if ty.length ≤ 40 then (0, ty, nd) else (3, [], [])
def ndP (op : Int) (ds : List TT) (i : Nat) : List Int := (ds.getD i (.mk [] [] [])).needs.drop (Qt op i).toNat
def usP (op : Int) (ds : List TT) (i : Nat) : List Int := (ds.getD i (.mk [] [] [])).needs.take (Qt op i).toNat
def tyP (ds : List TT) (i : Nat) : List Int := (ds.getD i (.mk [] [] [])).ty
def WE (s : GSys) (ctx : List (List Int)) (op n : Int) (ty : List Int) (ds : List TT) : Int × List Int × List Int :=
 if op = 0 then (0, ctx.getD n.toNat [], (WC ctx.length).set n.toNat 1)
 else if op = 1 then (0, [0], WC ctx.length)
 else if op = 2 then (0, [0], Ji s (ndP op ds 0) (ndP op ds 1))
 else if op = 3 then (if tyP ds 1 = tyP ds 2 then (0, tyP ds 1, Ji s (ndP op ds 0) (Jb s (ndP op ds 1) (ndP op ds 2))) else (3, [], []))
 else if op = 4 then Yj (1 :: (tyP ds 0 ++ tyP ds 1)) (Ji s (ndP op ds 0) (ndP op ds 1))
 else if op = 5 then (if WT s (usP op ds 1) n = true then (0, tyP ds 1, Ji s (WQ s n (ndP op ds 0)) (ndP op ds 1)) else (9, [], []))
 else if op = 6 then Yj (2 :: (tyP ds 0 ++ ty)) (ndP op ds 0)
 else if op = 7 then Yj (2 :: (ty ++ tyP ds 0)) (ndP op ds 0)
 else if op = 8 then (if tyP ds 1 = tyP ds 2 then (if WT s (usP op ds 1) n = true ∧ WT s (usP op ds 2) n = true then (0, tyP ds 1, Ji s (WQ s n (ndP op ds 0)) (Jb s (ndP op ds 1) (ndP op ds 2))) else (9, [], [])) else (3, [], []))
 else if op = 9 then (if WT s (usP op ds 0) n = true then Yj ((3 + n) :: (ty ++ tyP ds 0)) (ndP op ds 0) else (9, [], []))
 else if op = 10 then (0, Wv (tyP ds 0), Ji s (ndP op ds 0) (WQ s (QG (hd (tyP ds 0))).2 (ndP op ds 1)))
 else if op = 11 then Yj ((19 + n) :: tyP ds 0) (WQ s n (ndP op ds 0))
 else (if WT s (usP op ds 1) (s.tm n (QG (hd (tyP ds 0))).2) = true then (0, tyP ds 1, Ji s (WQ s n (ndP op ds 0)) (ndP op ds 1)) else (9, [], []))
inductive KRes where
 | ok (ds : List TT)
 | bad (f : Int) (p : List Int)
def first (ds : List TT) : List Int := tyP ds 0
mutual
def Qq (s : GSys) (ctx : List (List Int)) : GTerm → Res
 | .mk op n _ ty _ ks => match Q9 s ctx op n ty [] ks with
  | .bad f p => .bad f p
  | .ok ds => if (WE s ctx op n ty ds).1 = 0 then .ok (.mk (WE s ctx op n ty ds).2.1 (WE s ctx op n ty ds).2.2 ds) else .bad (WE s ctx op n ty ds).1 []
def Q9 (s : GSys) (ctx : List (List Int)) (op n : Int) (ty : List Int) (ds : List TT) : List GTerm → KRes
 | [] => .ok ds
 | k :: ks => match Qq s (QB op ty ds.length (first ds) ++ ctx) k with
  | .bad f p => .bad f ((ds.length : Int) :: p)
  | .ok x => if QK s op n ds.length (hd x.ty) ≠ 0 then .bad (QK s op n ds.length (hd x.ty)) []
   else if op = 10 ∧ ds.length = 1 ∧ x.ty ≠ QI (first ds) then .bad 3 [] else Q9 s ctx op n ty (ds ++ [x]) ks
end
def TT.good (s : GSys) (n : Nat) (x : TT) : Prop := okL s.size x.ty = true ∧ x.needs.length = n ∧ ∀ u ∈ x.needs, s.G u
end Go.Proofs.YtclfngbealdbgaaGreat
namespace Go.Proofs.YtclfngbealdbgaaGreat
open Go Go.TL
open Go.Proofs.YtclfngbealdbgaaGreat.Ty
set_option linter.unusedSimpArgs false
set_option linter.unusedVariables false
set_option maxRecDepth 20000
set_option maxHeartbeats 4000000
theorem Zm4 : ∀ n : Fin 37, ((QG ((n.val : Nat) : Int)).1 = 0 ↔ n.val = 0) ∧ ((QG ((n.val : Nat) : Int)).1 = 1 ↔ n.val = 1) ∧ ((QG ((n.val : Nat) : Int)).1 = 2 ↔ n.val = 2) ∧
  ((QG ((n.val : Nat) : Int)).1 = 3 ↔ QL ((n.val : Nat) : Int) = true) ∧ ((QG ((n.val : Nat) : Int)).1 = 4 ↔ W0 ((n.val : Nat) : Int) = true) ∧
  ((QL ((n.val : Nat) : Int) = true ∨ W0 ((n.val : Nat) : Int) = true) → (QG ((n.val : Nat) : Int)).2 = W2 ((n.val : Nat) : Int)) := by decide
theorem KV {c : Int} (h0 : 0 ≤ c) (h1 : c ≤ 36) : ((QG c).1 = 0 ↔ c = 0) ∧ ((QG c).1 = 1 ↔ c = 1) ∧ ((QG c).1 = 2 ↔ c = 2) ∧ ((QG c).1 = 3 ↔ QL c = true) ∧ ((QG c).1 = 4 ↔ W0 c = true) ∧ ((QL c = true ∨ W0 c = true) → (QG c).2 = W2 c) := by
 have := Zm4 ⟨c.toNat, by omega⟩
 simp only [show ((c.toNat : Nat) : Int) = c by omega] at this
 obtain ⟨a, b, c', d, e, f⟩ := this
 exact ⟨a.trans (by omega), b.trans (by omega), c'.trans (by omega), d, e, f⟩
theorem Xo : Wr 1 = some 2 ∧ Wr 2 = some 2 := by decide
theorem Jv {c : Int} (h : QL c = true) : Wr c = some 2 := by
 unfold Wr
 rw [Kk] at h
 rw [if_neg (by omega), if_pos]
 right; right; rw [Kk]; exact h
theorem ZcD {c : Int} (h : W0 c = true) : Wr c = some 1 := by
 have h' := h
 rw [ZfG] at h
 unfold Wr
 rw [if_neg (by omega), if_neg (by rw [Kk]; omega), if_pos h']
def ZdU (op : Int) (c : Int) : Prop := (op = 2 ∨ op = 3 → c = 0) ∧ (op = 5 → c = 1) ∧ (op = 8 → c = 2) ∧ (op = 10 → QL c = true) ∧ (op = 12 → W0 c = true)
theorem ZkK {s : GSys} {op n c : Int} (h0 : 0 ≤ c) (h1 : c ≤ 36) (h : QK s op n 0 c = 0) : ZdU op c ∧ (op = 5 ∨ op = 8 ∨ op = 12 → s.le 1 n = true) := by
 obtain ⟨a, b, c', d, e, _⟩ := KV h0 h1
 unfold QK at h
 have hw : ¬ (0 ≤ (Jc op 0).1 ∧ (QG c).1 ≠ (Jc op 0).1) := by
  intro hh
  rw [if_pos hh] at h
  unfold Jc at hh h
  repeat' split at h
  all_goals simp_all
 rw [if_neg hw] at h
 have hl : ¬ (op = 5 ∨ op = 8 ∨ op = 12) ∨ s.le 1 n = true := by
  by_cases g : s.le 1 n = true
  ·exact .inr g
  ·left
   intro g2
   rw [if_pos ⟨rfl, g2, by simpa using g⟩] at h
   omega
 refine ⟨?_, fun g => hl.resolve_left (fun k => k g)⟩
 unfold Jc at hw
 refine ⟨fun g => ?_, fun g => ?_, fun g => ?_, fun g => ?_, fun g => ?_⟩
 ·have : (QG c).1 = 0 := by rcases g with rfl | rfl <;> simpa using hw
  exact a.1 this
 ·subst g; simp at hw; exact b.1 hw
 ·subst g; simp at hw; exact c'.1 hw
 ·subst g; simp at hw; exact d.1 hw
 ·subst g; simp at hw; exact e.1 hw
theorem Zv (op k : Int) : 0 ≤ Qt op k ∧ Qt op k ≤ 2 := by
 unfold Qt; split
 ·omega
 ·split <;> omega
theorem ZcI (op : Int) (ty : List Int) (i : Nat) (f : List Int) : (QB op ty i f).length = (Qt op i).toNat := by
 unfold QB Qt
 by_cases h9 : op = 9
 ·subst h9; simp
 ·rw [if_neg h9]
  by_cases h5 : op = 5 ∧ (i : Int) = 1
  ·rw [if_pos h5, if_pos h5.1]; simp
  ·rw [if_neg h5]
   by_cases h8 : (op = 8 ∧ 0 < (i : Int)) ∨ op = 9 ∨ (op = 12 ∧ (i : Int) = 1)
   ·rw [if_pos h8]
    have : op ≠ 5 := by omega
    rw [if_neg (by omega), if_neg this]
    split <;> simp
   ·rw [if_neg h8]; simp
theorem Zm0 {size : Int} {op : Int} {ty : List Int} {i : Nat} {f : List Int} (hty : op = 9 → okL size ty = true) (hf : i ≠ 0 → okL size f = true ∧ ZdU op (hd f)) : ∀ l ∈ QB op ty i f, okL size l = true := by
 unfold QB
 by_cases h9 : op = 9
 ·rw [if_pos h9]; intro l hl; simp at hl; subst hl; exact hty h9
 ·rw [if_neg h9]
  split
  ·simp
  ·rename_i ha
   have hi : i ≠ 0 := by rintro rfl; apply ha; unfold Qt; rw [if_neg (by omega), if_neg (by omega)]
   obtain ⟨hf1, hf2⟩ := hf hi
   obtain ⟨q2, q5, q8, q10, q12⟩ := hf2
   split
   ·rename_i h5
    have := Jo hf1 (by rw [q5 h5]; exact Xo.1)
    intro l hl; simp at hl
    rcases hl with rfl | rfl
    ·exact this.2.2
    ·exact this.2.1
   ·split
    ·rename_i h8
     have := Jo hf1 (by rw [q8 h8]; exact Xo.2)
     intro l hl; simp at hl; subst hl
     split
     ·exact this.2.1
     ·exact this.2.2
    ·have h12 : op = 12 := by
      unfold Qt at ha
      rename_i h5 h8
      rw [if_neg (by omega)] at ha
      by_cases g : (op = 8 ∧ 0 < (i : Int)) ∨ op = 9 ∨ (op = 12 ∧ (i : Int) = 1)
      ·omega
      ·rw [if_neg g] at ha; simp at ha
     have := ZgR hf1 (ZcD (q12 h12))
     intro l hl; simp at hl; subst hl; exact this.2.2
structure KidsOk (s : GSys) (c : Nat) (op n : Int) (ds : List TT) : Prop where
 each : ∀ (i : Nat) (x : TT), ds[i]? = some x → x.good s (c + (Qt op i).toNat) ∧ QK s op n i (hd x.ty) = 0
 app : op = 10 → ∀ x, ds[1]? = some x → x.ty = QI (first ds)
theorem KidsOk.first {s : GSys} {c : Nat} {op n : Int} {ds : List TT} (k : KidsOk s c op n ds) (h : ds ≠ []) : okL s.size (first ds) = true ∧ ZdU op (hd (first ds)) ∧ (op = 5 ∨ op = 8 ∨ op = 12 → s.le 1 n = true) := by
 obtain ⟨x, ds, rfl⟩ : ∃ x l, ds = x :: l := by
  cases ds with
  | nil => exact absurd rfl h
  | cons x l => exact ⟨x, l, rfl⟩
 obtain ⟨⟨h1, _, _⟩, h2⟩ := k.each 0 x rfl
 have := X5 h1
 simp only [Go.Proofs.YtclfngbealdbgaaGreat.first, List.getD_eq_getElem?_getD, List.getElem?_cons_zero, Option.getD_some]
 exact ⟨h1, ZkK this.2.1 this.2.2.1 h2⟩
theorem KidsOk.snoc {s : GSys} {c : Nat} {op n : Int} {ds : List TT} {x : TT} (k : KidsOk s c op n ds) (h1 : x.good s (c + (Qt op ds.length).toNat)) (h2 : QK s op n ds.length (hd x.ty) = 0) (h3 : ¬ (op = 10 ∧ ds.length = 1 ∧ x.ty ≠ QI (Go.Proofs.YtclfngbealdbgaaGreat.first ds))) : KidsOk s c op n (ds ++ [x]) := by
 refine ⟨fun i y hy => ?_, fun h10 y hy => ?_⟩
 ·rcases Nat.lt_trichotomy i ds.length with g | g | g
  ·rw [List.getElem?_append_left g] at hy; exact k.each i y hy
  ·subst g
   rw [List.getElem?_append_right (Nat.le_refl _)] at hy
   simp at hy; subst hy; exact ⟨h1, h2⟩
  ·rw [List.getElem?_append_right (by omega), List.getElem?_eq_none (by simp; omega)] at hy; simp at hy
 ·have hf : ds ≠ [] → Go.Proofs.YtclfngbealdbgaaGreat.first (ds ++ [x]) = Go.Proofs.YtclfngbealdbgaaGreat.first ds := by
   intro g
   cases ds with
   | nil => exact absurd rfl g
   | cons a l => simp [Go.Proofs.YtclfngbealdbgaaGreat.first, tyP]
  rcases Nat.lt_trichotomy 1 ds.length with g | g | g
  ·rw [List.getElem?_append_left g] at hy
   rw [hf (by rintro rfl; simp at g)]
   exact k.app h10 y hy
  ·rw [List.getElem?_append_right (by omega), ← g] at hy
   simp at hy; subst hy
   rw [hf (by rintro rfl; simp at g)]
   by_cases e : x.ty = QI (Go.Proofs.YtclfngbealdbgaaGreat.first ds)
   ·exact e
   ·exact absurd ⟨h10, g.symm, e⟩ h3
  ·rw [List.getElem?_append_right (by omega), List.getElem?_eq_none (by simp; omega)] at hy; simp at hy
theorem ZdF {s : GSys} (t : s.Tab) {a b : List Int} {n : Nat} (ha : a.length = n) (hb : b.length = n) : (Ji s a b).length = n ∧ ∀ u ∈ Ji s a b, s.G u := by
 refine ⟨by simp [Ji, ha, hb], fun u hu => ?_⟩
 unfold Ji at hu
 rw [List.zipWith_eq_zipWith_take_min] at hu
 simp only [List.mem_iff_getElem, List.getElem_zipWith] at hu
 obtain ⟨i, hi, rfl⟩ := hu
 exact GSys.Gpl t _ _
theorem X7 {s : GSys} (t : s.Tab) {g : Int} {a : List Int} {n : Nat} (ha : a.length = n) : (WQ s g a).length = n ∧ ∀ u ∈ WQ s g a, s.G u := by
 refine ⟨by simp [WQ, ha], fun u hu => ?_⟩
 simp only [WQ, List.mem_map] at hu
 obtain ⟨x, _, rfl⟩ := hu
 exact GSys.Gtm t _ _
theorem Zad {s : GSys} (t : s.Tab) (n : Nat) : (WC n).length = n ∧ ∀ u ∈ WC n, s.G u := by
 refine ⟨by simp [WC], fun u hu => ?_⟩
 simp [WC] at hu
 rw [hu.2]; exact GSys.G0 t
theorem one_ok {s : GSys} (t : s.Tab) (n i : Nat) : ((WC n).set i 1).length = n ∧ ∀ u ∈ (WC n).set i 1, s.G u := by
 refine ⟨by simp [WC], fun u hu => ?_⟩
 rcases List.mem_or_eq_of_mem_set hu with hu | rfl
 ·exact (Zad t n).2 u hu
 ·exact GSys.G1 t
theorem Zcv {s : GSys} {c : Nat} {op : Int} {i : Nat} {x : TT} (h : x.good s (c + (Qt op i).toNat)) : (x.needs.drop (Qt op i).toNat).length = c ∧ ∀ u ∈ x.needs.drop (Qt op i).toNat, s.G u :=
 ⟨by rw [List.length_drop, h.2.1]; omega, fun u hu => h.2.2 u (List.mem_of_mem_drop hu)⟩
theorem Zeg {size : Int} : okC size true 1 = true ∧ okC size true 2 = true := by
 unfold okC
 exact ⟨by simp [QL, W0], by simp [QL, W0]⟩
theorem ZhP {size n : Int} (h0 : 0 ≤ n) (h1 : n < size) (h2 : size ≤ 16) : QL (3 + n) = true ∧ W2 (3 + n) = n ∧ okC size true (3 + n) = true ∧ Wr (3 + n) = some 2 := by
 have ha : QL (3 + n) = true := by rw [Kk]; omega
 have hg : W2 (3 + n) = n := by unfold W2; rw [if_neg (by omega), if_neg (by omega)]; omega
 refine ⟨ha, hg, ?_, Jv ha⟩
 unfold okC
 rw [hg]; simp [Qm, Qh, h0, h1]
theorem ZnD {size n : Int} (h0 : 0 ≤ n) (h1 : n < size) (h2 : size ≤ 16) : W0 (19 + n) = true ∧ W2 (19 + n) = n ∧ okC size true (19 + n) = true ∧ Wr (19 + n) = some 1 := by
 have ha : W0 (19 + n) = true := by rw [ZfG]; omega
 have hg : W2 (19 + n) = n := by unfold W2; rw [if_neg (by omega), if_pos (by omega)]; omega
 refine ⟨ha, hg, ?_, ZcD ha⟩
 unfold okC
 rw [hg]; simp [Qm, Qh, h0, h1]
structure NodeOk (s : GSys) (c : Nat) (op n : Int) (ty : List Int) (len : Nat) : Prop where
 many : (len : Int) = YG op
 var : op = 0 → 0 ≤ n ∧ n < c
 grade : JD op = true → s.G n
 typed : Xw op = true → okL s.size ty = true
 op13 : 0 ≤ op ∧ op ≤ 12
theorem Ze8 {s : GSys} {c : Nat} {op n : Int} {ty : List Int} {len : Nat} (h : Y0 c s.size true op n ty len = true) : NodeOk s c op n ty len := by
 unfold Y0 at h
 simp only [Bool.and_eq_true] at h
 obtain ⟨h1, h2, h3⟩ := h
 have hop : op = 0 ∨ op = 1 ∨ op = 2 ∨ op = 3 ∨ op = 4 ∨ op = 5 ∨ op = 6 ∨ op = 7 ∨ op = 8 ∨ op = 9 ∨ op = 10 ∨ op = 11 ∨ op = 12 := ops13 (ZoC h1)
 rw [Qd] at h1
 refine ⟨h1, fun h0 => ?_, fun hh => ?_, fun ht => ?_, by omega⟩
 ·subst h0
  simp [ZcM, QM] at h2
  omega
 ·have h01 : op ≠ 0 ∧ op ≠ 1 := by
   constructor <;> (rintro rfl; simp [JD, Qd] at hh)
  unfold ZcM at h2
  rw [if_neg (by simp [Qc, h01.1]), if_neg (by simp [Qc, h01.2]), if_pos hh] at h2
  simp [Qm, Qh] at h2
  exact ⟨by omega, by omega⟩
 ·unfold tyB at h3
  rw [if_pos ht] at h3
  exact h3
theorem ZcB {s : GSys} {a b : List Int} {n : Nat} (ha : a.length = n) (hb : b.length = n) : (Jb s a b).length = n := by simp [Jb, ha, hb]
theorem Zeh {ty nd : List Int} (h : (Yj ty nd).1 = 0) : ty.length ≤ 40 ∧ (Yj ty nd).2.1 = ty ∧ (Yj ty nd).2.2 = nd := by
 unfold Yj at h ⊢
 split at h
 ·rename_i g; rw [if_pos g]; exact ⟨g, rfl, rfl⟩
 ·simp at h
theorem Zqa {s : GSys} (t : s.Tab) {ctx : List (List Int)} (hc : ∀ l ∈ ctx, okL s.size l = true) {op n : Int} {ty : List Int} {ds : List TT} (nd : NodeOk s ctx.length op n ty ds.length) (k : KidsOk s ctx.length op n ds)
  (h : (WE s ctx op n ty ds).1 = 0) : TT.good s ctx.length (.mk (WE s ctx op n ty ds).2.1 (WE s ctx op n ty ds).2.2 ds) := by
 have h16 := t.hi
 obtain ⟨many, hvar, hgr, hty, o1, o2⟩ := nd
 have get : ∀ i, i < ds.length → ∃ x, ds[i]? = some x ∧ x.good s (ctx.length + (Qt op i).toNat) := fun i hi =>
  ⟨_, List.getElem?_eq_getElem hi, (k.each i _ (List.getElem?_eq_getElem hi)).1⟩
 have tyG : ∀ i, i < ds.length → okL s.size (tyP ds i) = true := fun i hi => by
  obtain ⟨x, h1, h2⟩ := get i hi
  unfold tyP; rw [List.getD_eq_getElem?_getD, h1]; exact h2.1
 have ndL : ∀ i, i < ds.length → (ndP op ds i).length = ctx.length := fun i hi => by
  obtain ⟨x, h1, h2⟩ := get i hi
  unfold ndP; rw [List.getD_eq_getElem?_getD, h1]; exact (Zcv h2).1
 have ndG : ∀ i, i < ds.length → ∀ u ∈ ndP op ds i, s.G u := fun i hi => by
  obtain ⟨x, h1, h2⟩ := get i hi
  unfold ndP; rw [List.getD_eq_getElem?_getD, h1]; exact (Zcv h2).2
 have fst : 0 < ds.length → ZdU op (hd (tyP ds 0)) := fun hi => (k.first (by rintro rfl; simp at hi)).2.1
 have hops : op = 0 ∨ op = 1 ∨ op = 2 ∨ op = 3 ∨ op = 4 ∨ op = 5 ∨ op = 6 ∨ op = 7 ∨ op = 8 ∨ op = 9 ∨ op = 10 ∨ op = 11 ∨ op = 12 := by omega
 rcases hops with e | e | e | e | e | e | e | e | e | e | e | e | e
 all_goals subst e
 all_goals simp [YG] at many
 all_goals simp [WE] at h ⊢
 ·obtain ⟨v0, v1⟩ := hvar rfl
  refine ⟨?_, one_ok t _ _⟩
  simp only [TT.ty_mk]
  rw [List.getElem?_eq_getElem (by omega)]
  exact hc _ (List.getElem_mem _)
 ·exact ⟨ZgU _, Zad t _⟩
 ·exact ⟨ZgU _, ZdF t (ndL 0 (by omega)) (ndL 1 (by omega))⟩
 ·split at h
  ·rename_i e
   rw [if_pos e]
   exact ⟨tyG 1 (by omega), ZdF t (ndL 0 (by omega)) (ZcB (ndL 1 (by omega)) (ndL 2 (by omega)))⟩
  ·simp at h
 ·obtain ⟨g1, g2, g3⟩ := Zeh h
  rw [g2, g3]
  exact ⟨Zay (tyG 0 (by omega)) (tyG 1 (by omega)) Xo.1 Zeg.1 g1, ZdF t (ndL 0 (by omega)) (ndL 1 (by omega))⟩
 ·split at h
  ·rename_i e
   rw [if_pos e]
   exact ⟨tyG 1 (by omega), ZdF t (X7 t (ndL 0 (by omega))).1 (ndL 1 (by omega))⟩
  ·simp at h
 ·obtain ⟨g1, g2, g3⟩ := Zeh h
  rw [g2, g3]
  exact ⟨Zay (tyG 0 (by omega)) (hty (by simp [Xw, Qd])) Xo.2 Zeg.2 g1, ndL 0 (by omega), ndG 0 (by omega)⟩
 ·obtain ⟨g1, g2, g3⟩ := Zeh h
  rw [g2, g3]
  exact ⟨Zay (hty (by simp [Xw, Qd])) (tyG 0 (by omega)) Xo.2 Zeg.2 g1, ndL 0 (by omega), ndG 0 (by omega)⟩
 ·split at h
  ·rename_i e
   split at h
   ·rename_i e2
    rw [if_pos e, if_pos e2]
    exact ⟨tyG 1 (by omega), ZdF t (X7 t (ndL 0 (by omega))).1 (ZcB (ndL 1 (by omega)) (ndL 2 (by omega)))⟩
   ·simp at h
  ·simp at h
 ·have hg := hgr (by simp [JD, Qd])
  obtain ⟨_, _, c1, c2⟩ := ZhP hg.1 hg.2 h16
  split at h
  ·rename_i e
   obtain ⟨g1, g2, g3⟩ := Zeh h
   rw [if_pos e, g2, g3]
   exact ⟨Zay (hty (by simp [Xw, Qd])) (tyG 0 (by omega)) c2 c1 g1, ndL 0 (by omega), ndG 0 (by omega)⟩
  ·simp at h
 ·exact ⟨(Jo (tyG 0 (by omega)) (Jv ((fst (by omega)).2.2.2.1 rfl))).2.2, ZdF t (ndL 0 (by omega)) (X7 t (ndL 1 (by omega))).1⟩
 ·have hg := hgr (by simp [JD, Qd])
  obtain ⟨_, _, c1, c2⟩ := ZnD hg.1 hg.2 h16
  obtain ⟨g1, g2, g3⟩ := Zeh h
  rw [g2, g3]
  exact ⟨Zo4 (tyG 0 (by omega)) c2 c1 g1, X7 t (ndL 0 (by omega))⟩
 ·split at h
  ·rename_i e
   rw [if_pos e]
   exact ⟨tyG 1 (by omega), ZdF t (X7 t (ndL 0 (by omega))).1 (ndL 1 (by omega))⟩
  ·simp at h
theorem ext_ok {s : GSys} {ctx : List (List Int)} (hc : ∀ l ∈ ctx, okL s.size l = true) {op n : Int} {ty : List Int} {ds : List TT} (hty : op = 9 → okL s.size ty = true) (k : KidsOk s ctx.length op n ds) :
  ∀ l ∈ QB op ty ds.length (first ds) ++ ctx, okL s.size l = true := by
 intro l hl
 rcases List.mem_append.1 hl with hl | hl
 ·exact Zm0 hty (fun hi => by
   have := k.first (by rintro rfl; simp at hi)
   exact ⟨this.1, this.2.1⟩) l hl
 ·exact hc l hl
mutual
theorem JT {s : GSys} (t : s.Tab) : ∀ (g : GTerm) (ctx : List (List Int)) (x : TT), (∀ l ∈ ctx, okL s.size l = true) → Xr ctx.length s.size true g = true → Qq s ctx g = .ok x → x.good s ctx.length
 | .mk op n nl1 ty nl2 ks, ctx, x, hc, hf, he => by
  simp only [Xr, Bool.and_eq_true] at hf
  have nd := Ze8 hf.1
  rw [Qq] at he
  split at he
  ·simp at he
  ·rename_i ds hd
   split at he
   ·rename_i h0
    simp only [Res.ok.injEq] at he
    subst he
    obtain ⟨k, hl⟩ := Zhk t ks ctx op n ty [] ds hc (fun h9 => nd.typed (by subst h9; simp [Xw, Qd])) (by simpa using hf.2) ⟨fun i x h => by simp at h, fun _ x h => by simp at h⟩ hd
    exact Zqa t hc (by rw [show ds.length = ks.length by simpa using hl]; exact nd) k h0
   ·simp at he
theorem Zhk {s : GSys} (t : s.Tab) : ∀ (ks : List GTerm) (ctx : List (List Int)) (op n : Int) (ty : List Int) (ds ds' : List TT), (∀ l ∈ ctx, okL s.size l = true) → (op = 9 → okL s.size ty = true) →
  Xj ctx.length s.size true op ds.length ks = true → KidsOk s ctx.length op n ds → Q9 s ctx op n ty ds ks = .ok ds' → KidsOk s ctx.length op n ds' ∧ ds'.length = ds.length + ks.length
 | [], ctx, op, n, ty, ds, ds', hc, hty, hf, k, he => by
  simp only [Q9, KRes.ok.injEq] at he
  subst he; exact ⟨k, rfl⟩
 | g :: ks, ctx, op, n, ty, ds, ds', hc, hty, hf, k, he => by
  simp only [Xj, Bool.and_eq_true] at hf
  rw [Q9] at he
  split at he
  ·simp at he
  ·rename_i x hx
   split at he
   ·simp at he
   ·rename_i h1
    split at he
    ·simp at he
    ·rename_i h2
     have hlen : (QB op ty ds.length (first ds) ++ ctx).length = ctx.length + (Qt op ds.length).toNat := by
      rw [List.length_append, ZcI]; omega
     have := Zv op ds.length
     have hg := JT t g _ x (ext_ok hc hty k) (by rw [hlen, show ((ctx.length + (Qt op ds.length).toNat : Nat) : Int) = ctx.length + Qt op ds.length by omega]; exact hf.1) hx
     rw [hlen] at hg
     have k2 := k.snoc hg (by simpa using h1) h2
     have := Zhk t ks ctx op n ty (ds ++ [x]) ds' hc hty (by rw [List.length_append]; exact hf.2) k2 he
     exact ⟨this.1, by rw [this.2]; simp; omega⟩
end
end Go.Proofs.YtclfngbealdbgaaGreat
namespace Go.Proofs.YtclfngbealdbgaaGreat
open Go Go.TL
open Go.Proofs.YtclfngbealdbgaaGreat.Ty
set_option linter.unusedSimpArgs false
set_option linter.unusedVariables false
set_option maxRecDepth 20000
set_option maxHeartbeats 4000000
def FnN (P : Program) (f : LV) (a b n : Int) : Prop := ∃ fid vals, Zj f [N a, N b] = some (fid, vals) ∧ QD 0 vals ∧ Qe P fid vals (· = N n)
theorem onFn_N {P : Program} {f : LV} {a b n : Int} {d : Nat} {K : St → Prop} {s : St} (h : FnN P f a b n) (hk : K { t := upd s.t d (N n), h := s.h }) : onFn P .no f [N a, N b] (some d) K s := by
 obtain ⟨fid, vals, h1, h2, h3⟩ := h
 exact ⟨fid, vals, h1, Qa (rw := .no) h3 h2 hk⟩
theorem Zps {z : List LV} {h0 : List Box} {l : List Int} (e : z = l.map N) : Qs (h0 ++ [some z]) (.ha h0.length 1 0 l.length l.length) = some (OU true false l, h0 ++ [none]) := by
 subst e
 rw [frz_ha (xs := l.map N) (by simp) (by simp)]
 simp [Zhc]
theorem frz_1 (l : List Int) : Qs [none, some (l.map N)] (.ha 1 1 0 l.length l.length) = some (OU true false l, [none, none]) := Zps (h0 := [none]) rfl
theorem fill_N {l : List Int} : fill (fun x => [N x]) [N 0] l l.length = l.map N := by
 rw [fill_end]; induction l with
 | nil => rfl
 | cons x l ih => simpa using ih
theorem Zpj (s : GSys) (f : LV) (g : Int → Int → Int) (sf : share f = f) (lf : Low 0 f) (n1 n2 : Bool) (a b : List Int) (hl : a.length ≤ 1099511627776) (hab : a.length = b.length)
  (hp : ∀ (i : Nat) (h : i < a.length), FnN Tryz.prog f a[i] (b[i]'(by omega)) (g a[i] (b[i]'(by omega)))) : Qe Tryz.prog Yz [s.lv, f, L n1 a, L n2 b] (· = OU true false (List.zipWith g a b)) := by
 obtain ⟨z, hze⟩ : ∃ z, z = List.zipWith g a b := ⟨_, rfl⟩
 have hz : z.length = a.length := by rw [hze]; simp [hab]
 have hget : ∀ (i : Nat) (h : i < a.length), z[i]'(by omega) = g a[i] (b[i]'(by omega)) := by intro i h; simp [hze]
 rw [← hze]
 clear hze
 refine Qe.of_codeOf ZcO QA (by simp) ⟨_, rfl, by simp⟩ ?_
 have hm : (a.length : Int) ≤ (most : Nat) := by unfold most; omega
 have he : ∀ x : Int, ([N x] : List LV).length = 1 := by simp
 simp (disch := omega) [KJ, hm, sf, Qw, Qs]
 refine Xm a.length 0 (fun i t h => t 16 = N i ∧ h = [none, some (fill (fun x => [N x]) [N 0] z i)]) (by simp [ZjZ, hz]) (by omega) ?_
 rintro i t1 hh hf hi ⟨e16, rfl⟩
 (have e1 := hf 1 (by kernel_rfl); have e2 := hf 2 (by kernel_rfl); have e3 := hf 3 (by kernel_rfl); have e9 := hf 9 (by kernel_rfl); have e15 := hf 15 (by kernel_rfl); clear hf; simp [sf] at e1 e2 e3 e9 e15)
 simp (disch := omega) [e1, e2, e3, e9, e15, e16]
 (with_reducible first | refine Qo (fun h6 => ?_) (fun h6 => ?_) | refine Qn (fun h6 => ?_) (fun h6 => ?_))
 ·simp only [Qh, Qg, Qm, Qj, Qd, Qc, Bool.not_true, Bool.not_false] at h6
  have hlen := Zng (z := [N 0]) (l := z) he rfl (i := i) (by omega)
  have hst := Zkg (z := [N 0]) (l := z) he rfl (i := i) (by omega)
  have hpi := hp i (by omega)
  rw [hget i (by omega)] at hst
  simp (disch := omega) [e1, e2, e3, e9, e15, e16, W9, sf]
  refine onFn_N hpi ?_
  simp (disch := omega) [e1, e2, e3, e9, e15, e16, ZlU, Qf, hlen]
  exact ⟨by omega, by omega, by simpa [splice] using hst⟩
 ·simp only [Qh, Qg, Qm, Qj, Qd, Qc, Bool.not_true, Bool.not_false] at h6
  rw [show i = z.length by omega, fill_N]
  simp (disch := omega) [e9]
  rw [show a.length = z.length by omega, frz_1]
  simp
theorem plus_fn {s : GSys} (t : s.Tab) {a b : Int} (ha : s.G a) (hb : s.G b) : FnN Tryz.prog (.fnm QE [s.lv]) a b (s.pl a b) :=
 ⟨QE, [s.lv, N a, N b], by simp [Zj], by simp, Ze5 t ha hb⟩
theorem join_fn {s : GSys} (t : s.Tab) {a b : Int} (ha : s.G a) (hb : s.G b) : FnN Tryz.prog (.fnm WU [s.lv]) a b (s.join a b) :=
 ⟨WU, [s.lv, N a, N b], by simp [Zj], by simp, Zpk t ha hb⟩
theorem sumF_ok {s : GSys} (t : s.Tab) (n1 n2 : Bool) (a b : List Int) (hl : a.length ≤ 1099511627776) (hab : a.length = b.length) (ha : ∀ u ∈ a, s.G u) (hb : ∀ u ∈ b, s.G u) :
  Qe Tryz.prog WJ [s.lv, L n1 a, L n2 b] (· = OU true false (Ji s a b)) := by
 refine Qe.of_codeOf ZdK QA (by simp) ⟨_, rfl, by simp⟩ ?_
 have h := Zpj s (.fnm QE [s.lv]) s.pl (by simp) (by simp) n1 n2 a b hl hab (fun i hi => plus_fn t (ha _ (List.getElem_mem _)) (hb _ (List.getElem_mem _)))
 simp (disch := omega) [Vd, Qw, Qs]
 refine Qa (r := OU true false (Ji s a b)) h (by simp) ?_
 simp (disch := omega)
theorem ZmX {s : GSys} (t : s.Tab) (n1 n2 : Bool) (a b : List Int) (hl : a.length ≤ 1099511627776) (hab : a.length = b.length) (ha : ∀ u ∈ a, s.G u) (hb : ∀ u ∈ b, s.G u) :
  Qe Tryz.prog YA [s.lv, L n1 a, L n2 b] (· = OU true false (Jb s a b)) := by
 refine Qe.of_codeOf ZcP QA (by simp) ⟨_, rfl, by simp⟩ ?_
 have h := Zpj s (.fnm WU [s.lv]) s.join (by simp) (by simp) n1 n2 a b hl hab (fun i hi => join_fn t (ha _ (List.getElem_mem _)) (hb _ (List.getElem_mem _)))
 simp (disch := omega) [KH, Qw, Qs]
 refine Qa (r := OU true false (Jb s a b)) h (by simp) ?_
 simp (disch := omega)
theorem Vf {s : GSys} (t : s.Tab) (g : Int) (hg : s.G g) (n1 : Bool) (a : List Int) (hl : a.length ≤ 1099511627776) (ha : ∀ u ∈ a, s.G u) :
  Qe Tryz.prog WO [s.lv, N g, L n1 a] (· = OU true false (WQ s g a)) := by
 obtain ⟨z, hze⟩ : ∃ z, z = WQ s g a := ⟨_, rfl⟩
 have hz : z.length = a.length := by rw [hze]; simp [WQ]
 have hget : ∀ (i : Nat) (h : i < a.length), z[i]'(by omega) = s.tm g a[i] := by intro i h; simp [hze, WQ]
 rw [← hze]
 clear hze
 refine Qe.of_codeOf Zbr QA (by simp) ⟨_, rfl, by simp⟩ ?_
 have hm : (a.length : Int) ≤ (most : Nat) := by unfold most; omega
 have he : ∀ x : Int, ([N x] : List LV).length = 1 := by simp
 simp (disch := omega) [JG, hm, Qw, Qs]
 refine Xm a.length 0 (fun i t h => t 15 = N i ∧ h = [none, some (fill (fun x => [N x]) [N 0] z i)]) (by simp [ZjZ, hz]) (by omega) ?_
 rintro i t1 hh hf hi ⟨e15, rfl⟩
 (have e1 := hf 1 (by kernel_rfl); have e3 := hf 3 (by kernel_rfl); have e7 := hf 7 (by kernel_rfl); have e13 := hf 13 (by kernel_rfl); have e14 := hf 14 (by kernel_rfl); clear hf; simp [] at e1 e3 e7 e13 e14)
 simp (disch := omega) [e1, e3, e7, e13, e14, e15]
 (with_reducible first | refine Qo (fun h6 => ?_) (fun h6 => ?_) | refine Qn (fun h6 => ?_) (fun h6 => ?_))
 ·simp only [Qh, Qg, Qm, Qj, Qd, Qc, Bool.not_true, Bool.not_false] at h6
  have hlen := Zng (z := [N 0]) (l := z) he rfl (i := i) (by omega)
  have hst := Zkg (z := [N 0]) (l := z) he rfl (i := i) (by omega)
  rw [hget i (by omega)] at hst
  simp (disch := omega) [e1, e3, e7, e13, e14, e15, W9]
  refine Qa (ZeS t hg (ha _ (List.getElem_mem (show i < a.length by omega)))) (by simp) ?_
  simp (disch := omega) [e1, e3, e7, e13, e14, e15, ZlU, Qf, hlen]
  exact ⟨by omega, by omega, by simpa [splice] using hst⟩
 ·simp only [Qh, Qg, Qm, Qj, Qd, Qc, Bool.not_true, Bool.not_false] at h6
  rw [show i = z.length by omega, fill_N]
  simp (disch := omega) [e7]
  rw [show a.length = z.length by omega, frz_1]
  simp
theorem Zjx (f : LV) (p : Int → Bool) (sf : share f = f) (lf : Low 0 f) (nl : Bool) (l : List Int) (hlen : l.length ≤ 1099511627776) (hp : ∀ c ∈ l, FnB Tryz.prog f (N c) (p c)) :
  Qe Tryz.prog XD [L nl l, f] (fun r => ∃ n : Int, r = N n ∧ leB 0 n = l.any p) := by
 refine Qe.of_codeOf Km QA (by simp) ⟨N (if l.any p = true then 0 else -1), ⟨_, rfl, by split <;> simp_all [leB]⟩, by simp⟩ ?_
 simp (disch := omega) [YI, sf]
 refine Xm l.length 0 (fun i t _ => t 8 = N i ∧ l.any p = (l.drop i).any p) (by simp) (by omega) ?_
 rintro i t1 hh hf hi ⟨e8, hj⟩
 (have e0 := hf 0 (by kernel_rfl); have e1 := hf 1 (by kernel_rfl); have e6 := hf 6 (by kernel_rfl); have e7 := hf 7 (by kernel_rfl); clear hf; simp [sf] at e0 e1 e6 e7)
 simp (disch := omega) [e0, e1, e6, e7, e8]
 (with_reducible first | refine Qo (fun h6 => ?_) (fun h6 => ?_) | refine Qn (fun h6 => ?_) (fun h6 => ?_))
 ·simp only [Qh, Qg, Qm, Qj, Qd, Qc, Bool.not_true, Bool.not_false] at h6
  have hd := List.drop_eq_getElem_cons (l := l) (i := i) (by omega)
  have hpc := hp (l[i]'(by omega)) (List.getElem_mem _)
  simp (disch := omega) [e0, e1, e6, e7, e8, W9, sf]
  repeat' (first
  | with_reducible refine Zk1 hpc ?_
  | (with_reducible (first | refine Qo (fun hb_ => ?_) (fun hb_ => ?_) | refine Qn (fun hb_ => ?_) (fun hb_ => ?_)) <;> simp (disch := omega) [hb_, e0, e1, e6, e7, e8, W9, sf])
  | simp (disch := omega) [e0, e1, e6, e7, e8, W9, sf])
  ·rw [hj, hd, List.any_cons, hb_, Bool.true_or, Qm]; omega
  ·exact ⟨by omega, Qf (by omega), by rw [hj, hd, List.any_cons, hb_, Bool.false_or]⟩
 ·simp only [Qh, Qg, Qm, Qj, Qd, Qc, Bool.not_true, Bool.not_false] at h6
  simp (disch := omega)
  rw [hj, show i = l.length by omega, List.drop_length]; simp [leB]
theorem Zfu (f : LV) (p : Int → Bool) (sf : share f = f) (lf : Low 0 f) (nl : Bool) (l : List Int) (hlen : l.length ≤ 1099511627776) (hp : ∀ c ∈ l, FnB Tryz.prog f (N c) (p c)) :
  Qe Tryz.prog Xl [L nl l, f] (· = B (l.any p)) := by
 refine Qe.of_codeOf Jr QA (by simp) ⟨_, rfl, by simp⟩ ?_
 simp (disch := omega) [Yd, sf]
 refine ZmW (Zjx f p sf lf nl l hlen hp) (by simp [lf]) ?_
 rintro r ⟨n, rfl, hn⟩
 simp (disch := omega) [sf, hn]
theorem ZnF {s : GSys} (t : s.Tab) {u g : Int} (hu : s.G u) (hg : s.G g) : FnB Tryz.prog (.fn Xd [.rp s.cells, .rp [N g]]) (N u) (!s.le u g) := by
 refine ⟨Xd, [N u, .rp s.cells, .rp [N g]], by simp [Zj], by simp, ?_⟩
 refine Qe.of_codeOf Zao QA (by simp) ⟨_, rfl, by simp⟩ ?_
 simp (disch := omega) [Z9]
 refine Qa (Ju t hu hg) (by simp) ?_
 simp (disch := omega)
theorem Vk {s : GSys} (t : s.Tab) {g : Int} (hg : s.G g) (nl : Bool) (l : List Int) (hl : l.length ≤ 1099511627776) (hu : ∀ u ∈ l, s.G u) : Qe Tryz.prog WM [s.lv, L nl l, N g] (· = B (WT s l g)) := by
 refine Qe.of_codeOf Zbv QA (by simp) ⟨_, rfl, by simp⟩ ?_
 have hc := Zfu (.fn Xd [.rp s.cells, .rp [N g]]) (fun u => !s.le u g) (by simp) (by simp) nl l hl (fun c hc => ZnF t (hu c hc) hg)
 simp (disch := omega) [JJ, Qw, Qs]
 refine Qa hc (by simp) ?_
 simp (disch := omega)
 simp [WT, List.all_eq_not_any_not]
def cl (nl : Bool) (l : List Int) : LV := if nl = true then .sl false true 1 [] else OU true false l
end Go.Proofs.YtclfngbealdbgaaGreat
namespace Go.Proofs.YtclfngbealdbgaaGreat
open Go Go.TL
open Go.Proofs.YtclfngbealdbgaaGreat.Ty
set_option linter.unusedSimpArgs false
set_option linter.unusedVariables false
set_option maxRecDepth 20000
set_option maxHeartbeats 4000000
theorem growI_ok (n : Int) (h0 : 0 ≤ n) (h1 : n ≤ 1099511627776) : Qe Tryz.prog Yv [.sl false true 1 [], N n] (· = .sl (ltB 0 n) (!ltB 0 n) 1 []) := by
 refine Qe.of_codeOf VX QA (by simp) ⟨_, rfl, by simp⟩ ?_
 have hm : n ≤ (most : Nat) := by unfold most; omega
 have hneg : ltB n 0 = false := by rw [Qg]; omega
 simp (disch := omega) [ZW, Qf, hneg, ZS]
 (with_reducible first | refine Qo (fun h1 => ?_) (fun h1 => ?_) | refine Qn (fun h1 => ?_) (fun h1 => ?_))
 ·have hmm : (most : Int) = 1099511627776 := rfl
  have hp : 0 < n := by rw [Qh] at h1; exact h1
  have hc : ZS 1 (.sl false true 1 []) none (some 0) none = some (.sl false true 1 []) := by simp [ZS]
  simp (disch := omega) [h1, hc, hp, hm]
 ·simp (disch := omega) [h1]
abbrev rowI (c : Bool × List Int) : LV := .sl false c.1 1 (c.2.map fun x => [N x])
def Zde (ls : List (Bool × List Int)) : List (List LV) := ls.map fun c => [rowI c]
def lnI (ls : List (Bool × List Int)) : Nat := (ls.map fun c => c.2.length).sum
def flI (ls : List (Bool × List Int)) : List Int := (ls.map fun c => c.2).flatten
abbrev catI (l : List Int) : LV := .sl (ltB 0 l.length) (!ltB 0 l.length) 1 (l.map fun x => [N x])
theorem ZgT (a b : List (Bool × List Int)) : lnI (a ++ b) = lnI a + lnI b := by simp [lnI]
theorem ZhA (a : Bool × List Int) (b : List (Bool × List Int)) : lnI (a :: b) = a.2.length + lnI b := by simp [lnI]
theorem flI_app (a b : List (Bool × List Int)) : flI (a ++ b) = flI a ++ flI b := by simp [flI]
theorem ZiH (a : List (Bool × List Int)) : (flI a).length = lnI a := by simp [flI, lnI, Function.comp_def]
@[simp] theorem Zn3 (c : Bool × List Int) : share (rowI c) = rowI c := by simp [rowI]
theorem Zil (ls : List (Bool × List Int)) (hl : ls.length ≤ 1099511627776) (ht : lnI ls ≤ 1099511627776) :
  Qe Tryz.prog QV [.sl false false 1 (Zde ls)] (· = catI (flI ls)) := by
 have hlow : Ws 0 (Zde ls) := by simp [Zde]
 have hfl := ZiH ls
 refine Qe.of_codeOf Vn QA (by simp) ⟨_, rfl, by simp only [low_sl, ZhB, Vz, low_sc, ZaQ, and_self, implies_true]⟩ ?_
 have hsr : Qu (Zde ls) = Zde ls := by simp [Zde]
 simp (disch := omega) [Zc, hsr]
 have hrl : (Zde ls).length = ls.length := by simp [Zde]
 rw [hrl]
 have idx : ∀ i : Nat, i < ls.length → QN 1 (.sl false false 1 (Zde ls)) (i : Int) = some (.rp [rowI (ls.getD i (false, []))]) := fun i hi => by
  have := ZfL rowI Zn3 ls false false i (by omega) (by omega)
  rw [Zde, this]; simp [List.getD_eq_getElem?_getD, hi]
 have tk : ∀ i : Nat, i < ls.length → ls.take (i + 1) = ls.take i ++ [ls.getD i (false, [])] := fun i hi => by
  rw [List.take_succ_eq_append_getElem hi]; simp [List.getD_eq_getElem?_getD, hi]
 have lnle : ∀ i : Nat, lnI (ls.take i) ≤ lnI ls := fun i => by
  have := ZgT (ls.take i) (ls.drop i)
  rw [List.take_append_drop] at this; omega
 refine Wb ls.length 0 (fun i t h => h = [] ∧ t 11 = N i ∧ t 3 = N (lnI (ls.take i))) (fun t h => h = [] ∧ t 3 = N (lnI ls)) (by simp [lnI]) (by omega) ?_ ?_
 ·rintro i t1 hh hf hi ⟨rfl, e11, e3⟩
  (have e9 := hf 9 (by kernel_rfl); have e10 := hf 10 (by kernel_rfl); clear hf; simp [hsr] at e9 e10)
  simp (disch := omega) [e3, e9, e10, e11]
  by_cases h6 : i < ls.length
  ·have hb : ltB (i : Int) ls.length = true := by rw [Qh]; omega
   have t1' := tk i h6
   have t2 := lnle (i + 1)
   have hix := idx i h6
   rw [t1', ZgT, ZhA] at t2
   rw [t1', ZgT, ZhA]
   generalize ls.getD i (false, []) = c at t2 hix ⊢
   generalize lnI (ls.take i) = m at *
   have hnb : ltB ((m : Int) + c.2.length) 0 = false := by rw [Qg]; omega
   simp (disch := omega) [e3, e9, e10, e11, hb, hix, Qf, hnb]
   simp [lnI]; omega
  ·have hb : ltB (i : Int) ls.length = false := by rw [Qg]; omega
   simp (disch := omega) [e3, e9, e10, e11, hb]
   rw [List.take_of_length_le (by omega)]
 ·rintro t1 hh hf ⟨rfl, e3⟩
  (have e0 := hf 0 (by kernel_rfl); clear hf; simp [hsr] at e0)
  simp (disch := omega) [e3, e0]
  refine Qa (growI_ok _ (by omega) (by omega)) (by simp) ?_
  simp (disch := omega) [e3, e0, hsr, hrl]
  refine Wb ls.length 0 (fun i t h => h = [] ∧ t 27 = N i ∧ t 6 = .sl (ltB 0 (lnI ls)) (!ltB 0 (lnI ls)) 1 ((flI (ls.take i)).map fun x => [N x])) (fun t h => h = [] ∧ t 6 = catI (flI ls)) (by simp [flI]) (by omega) ?_ ?_
  ·rintro i t2 hh hf2 hi ⟨rfl, e27, e6⟩
   have e25 := hf2 25 (by kernel_rfl); have e26 := hf2 26 (by kernel_rfl); clear hf2; simp [hsr] at e25 e26
   simp (disch := omega) [e6, e25, e26, e27]
   by_cases h6 : i < ls.length
   ·have hb : ltB (i : Int) ls.length = true := by rw [Qh]; omega
    have t1' := tk i h6
    have t2' := lnle (i + 1)
    have t3 := ZiH (ls.take i)
    have hix := idx i h6
    rw [t1', ZgT, ZhA] at t2'
    rw [t1', flI_app]
    generalize ls.getD i (false, []) = c at t2' hix ⊢
    rw [← t3] at t2'
    generalize flI (ls.take i) = m at *
    simp (disch := omega) [e6, e25, e26, e27, hb, hix, Qf]
    have ap : WF 1 (.sl (ltB 0 (lnI ls)) (!ltB 0 (lnI ls)) 1 (m.map fun x => [N x])) (.sl false c.1 1 (c.2.map fun x => [N x])) = some (.sl (ltB 0 (lnI ls)) (!ltB 0 (lnI ls)) 1 ((m ++ c.2).map fun x => [N x])) := by
     cases hq : ltB 0 (lnI ls : Int)
     ·rw [Qg] at hq
      have c0 : c.2 = [] := List.eq_nil_of_length_eq_zero (by omega)
      have m0 : m = [] := List.eq_nil_of_length_eq_zero (by omega)
      simp [WF, c0, m0, most]
     ·simp only [WF]
      rw [if_pos ⟨by simp, .inl trivial, .inl trivial, by simp [most]; omega⟩]
      simp
    have e0 : flI [c] = c.2 := by simp [flI]
    rw [ap]
    simp (disch := omega) [e6, e25, e26, e27, hb, hix, Qf, e0]
    omega
   ·have hb : ltB (i : Int) ls.length = false := by rw [Qg]; omega
    simp (disch := omega) [e6, e25, e26, e27, hb]
    rw [List.take_of_length_le (by omega), hfl]
    exact ⟨rfl, rfl⟩
  ·rintro t1 hh hf ⟨rfl, e6⟩
   simp (disch := omega) [e6]
theorem growC_ok (n : Int) (h0 : 0 ≤ n) (h1 : n ≤ 1099511627776) : Qe Tryz.prog XN [.sl false true 1 [], N n] (· = .sl (ltB 0 n) (!ltB 0 n) 1 []) := by
 refine Qe.of_codeOf KB QA (by simp) ⟨_, rfl, by simp⟩ ?_
 have hm : n ≤ (most : Nat) := by unfold most; omega
 have hneg : ltB n 0 = false := by rw [Qg]; omega
 simp (disch := omega) [YY, Qf, hneg, ZS]
 (with_reducible first | refine Qo (fun h1 => ?_) (fun h1 => ?_) | refine Qn (fun h1 => ?_) (fun h1 => ?_))
 ·have hmm : (most : Int) = 1099511627776 := rfl
  have hp : 0 < n := by rw [Qh] at h1; exact h1
  have hc : ZS 1 (.sl false true 1 []) none (some 0) none = some (.sl false true 1 []) := by simp [ZS]
  simp (disch := omega) [h1, hc, hp, hm]
 ·simp (disch := omega) [h1]
abbrev rowC (c : Bool × List (Bool × List Int)) : LV := .sl false c.1 1 (c.2.map fun x => [eC x])
def ZcZ (ls : List (Bool × List (Bool × List Int))) : List (List LV) := ls.map fun c => [rowC c]
def lnC (ls : List (Bool × List (Bool × List Int))) : Nat := (ls.map fun c => c.2.length).sum
def flC (ls : List (Bool × List (Bool × List Int))) : List (Bool × List Int) := (ls.map fun c => c.2).flatten
abbrev catC (l : List (Bool × List Int)) : LV := .sl (ltB 0 l.length) (!ltB 0 l.length) 1 (l.map fun x => [eC x])
theorem ZgV (a b : List (Bool × List (Bool × List Int))) : lnC (a ++ b) = lnC a + lnC b := by simp [lnC]
theorem ZiD (a : Bool × List (Bool × List Int)) (b : List (Bool × List (Bool × List Int))) : lnC (a :: b) = a.2.length + lnC b := by simp [lnC]
theorem flC_app (a b : List (Bool × List (Bool × List Int))) : flC (a ++ b) = flC a ++ flC b := by simp [flC]
theorem Zh2 (a : List (Bool × List (Bool × List Int))) : (flC a).length = lnC a := by simp [flC, lnC, Function.comp_def]
@[simp] theorem Zoc (c : Bool × List (Bool × List Int)) : share (rowC c) = rowC c := by simp [rowC]
theorem ZoM (ls : List (Bool × List (Bool × List Int))) (hl : ls.length ≤ 1099511627776) (ht : lnC ls ≤ 1099511627776) :
  Qe Tryz.prog Xy [.sl false false 1 (ZcZ ls)] (· = catC (flC ls)) := by
 have hlow : Ws 0 (ZcZ ls) := by simp [ZcZ]
 have hfl := Zh2 ls
 refine Qe.of_codeOf JS QA (by simp) ⟨_, rfl, by simp only [low_sl, ZhB, Vz, low_sc, ZaQ, and_self, implies_true]⟩ ?_
 have hsr : Qu (ZcZ ls) = ZcZ ls := by simp [ZcZ]
 simp (disch := omega) [YF, hsr]
 have hrl : (ZcZ ls).length = ls.length := by simp [ZcZ]
 rw [hrl]
 have idx : ∀ i : Nat, i < ls.length → QN 1 (.sl false false 1 (ZcZ ls)) (i : Int) = some (.rp [rowC (ls.getD i (false, []))]) := fun i hi => by
  have := ZfL rowC Zoc ls false false i (by omega) (by omega)
  rw [ZcZ, this]; simp [List.getD_eq_getElem?_getD, hi]
 have tk : ∀ i : Nat, i < ls.length → ls.take (i + 1) = ls.take i ++ [ls.getD i (false, [])] := fun i hi => by
  rw [List.take_succ_eq_append_getElem hi]; simp [List.getD_eq_getElem?_getD, hi]
 have lnle : ∀ i : Nat, lnC (ls.take i) ≤ lnC ls := fun i => by
  have := ZgV (ls.take i) (ls.drop i)
  rw [List.take_append_drop] at this; omega
 refine Wb ls.length 0 (fun i t h => h = [] ∧ t 11 = N i ∧ t 3 = N (lnC (ls.take i))) (fun t h => h = [] ∧ t 3 = N (lnC ls)) (by simp [lnC]) (by omega) ?_ ?_
 ·rintro i t1 hh hf hi ⟨rfl, e11, e3⟩
  (have e9 := hf 9 (by kernel_rfl); have e10 := hf 10 (by kernel_rfl); clear hf; simp [hsr] at e9 e10)
  simp (disch := omega) [e3, e9, e10, e11]
  by_cases h6 : i < ls.length
  ·have hb : ltB (i : Int) ls.length = true := by rw [Qh]; omega
   have t1' := tk i h6
   have t2 := lnle (i + 1)
   have hix := idx i h6
   rw [t1', ZgV, ZiD] at t2
   rw [t1', ZgV, ZiD]
   generalize ls.getD i (false, []) = c at t2 hix ⊢
   generalize lnC (ls.take i) = m at *
   have hnb : ltB ((m : Int) + c.2.length) 0 = false := by rw [Qg]; omega
   simp (disch := omega) [e3, e9, e10, e11, hb, hix, Qf, hnb]
   simp [lnC]; omega
  ·have hb : ltB (i : Int) ls.length = false := by rw [Qg]; omega
   simp (disch := omega) [e3, e9, e10, e11, hb]
   rw [List.take_of_length_le (by omega)]
 ·rintro t1 hh hf ⟨rfl, e3⟩
  (have e0 := hf 0 (by kernel_rfl); clear hf; simp [hsr] at e0)
  simp (disch := omega) [e3, e0]
  refine Qa (growC_ok _ (by omega) (by omega)) (by simp) ?_
  simp (disch := omega) [e3, e0, hsr, hrl]
  refine Wb ls.length 0 (fun i t h => h = [] ∧ t 27 = N i ∧ t 6 = .sl (ltB 0 (lnC ls)) (!ltB 0 (lnC ls)) 1 ((flC (ls.take i)).map fun x => [eC x])) (fun t h => h = [] ∧ t 6 = catC (flC ls)) (by simp [flC]) (by omega) ?_ ?_
  ·rintro i t2 hh hf2 hi ⟨rfl, e27, e6⟩
   have e25 := hf2 25 (by kernel_rfl); have e26 := hf2 26 (by kernel_rfl); clear hf2; simp [hsr] at e25 e26
   simp (disch := omega) [e6, e25, e26, e27]
   by_cases h6 : i < ls.length
   ·have hb : ltB (i : Int) ls.length = true := by rw [Qh]; omega
    have t1' := tk i h6
    have t2' := lnle (i + 1)
    have t3 := Zh2 (ls.take i)
    have hix := idx i h6
    rw [t1', ZgV, ZiD] at t2'
    rw [t1', flC_app]
    generalize ls.getD i (false, []) = c at t2' hix ⊢
    rw [← t3] at t2'
    generalize flC (ls.take i) = m at *
    simp (disch := omega) [e6, e25, e26, e27, hb, hix, Qf]
    have ap : WF 1 (.sl (ltB 0 (lnC ls)) (!ltB 0 (lnC ls)) 1 (m.map fun x => [eC x])) (.sl false c.1 1 (c.2.map fun x => [eC x])) = some (.sl (ltB 0 (lnC ls)) (!ltB 0 (lnC ls)) 1 ((m ++ c.2).map fun x => [eC x])) := by
     cases hq : ltB 0 (lnC ls : Int)
     ·rw [Qg] at hq
      have c0 : c.2 = [] := List.eq_nil_of_length_eq_zero (by omega)
      have m0 : m = [] := List.eq_nil_of_length_eq_zero (by omega)
      simp [WF, c0, m0, most]
     ·simp only [WF]
      rw [if_pos ⟨by simp, .inl trivial, .inl trivial, by simp [most]; omega⟩]
      simp
    have e0 : flC [c] = c.2 := by simp [flC]
    rw [ap]
    simp (disch := omega) [e6, e25, e26, e27, hb, hix, Qf, e0]
    omega
   ·have hb : ltB (i : Int) ls.length = false := by rw [Qg]; omega
    simp (disch := omega) [e6, e25, e26, e27, hb]
    rw [List.take_of_length_le (by omega), hfl]
    exact ⟨rfl, rfl⟩
  ·rintro t1 hh hf ⟨rfl, e6⟩
   simp (disch := omega) [e6]
end Go.Proofs.YtclfngbealdbgaaGreat
namespace Go.Proofs.YtclfngbealdbgaaGreat
open Go Go.TL
open Go.Proofs.YtclfngbealdbgaaGreat.Ty
set_option linter.unusedSimpArgs false
attribute [local simp low] Xe
attribute [local simp] Zd6 ZdR ZdS ZdH Zd3 ZdX
theorem long_ok (u nl : Bool) (l : List Int) : Qe Tryz.prog ZbB [.sl u nl 1 (l.map fun n => [N n])] (· = B (ltB 40 l.length)) := by
 refine Qe.of_codeOf Znv QA (by simp) ⟨_, rfl, by simp⟩ ?_
 simp (contextual := true) (disch := omega) [Zf7]
theorem Zmi (nl : Bool) (l : List Int) (hl : l.length ≤ 1099511627776) (hw : ∀ n ∈ l, I64 n) (i : Int) (hi : I64 i) : Qe Tryz.prog W6 [L nl l, N i] (· = N (Zf l i)) := ZhS nl l ⟨hl, hw⟩ i hi
def Qk (ts : List RT) : List (List LV) := ts.map fun t => [.sl false false 1 (t.flat.map fun n => [N n])]
theorem Znx (dn : List RT) : (Qk dn).length ≤ (WB dn).length := by
 induction dn with
 | nil => simp [Qk]
 | cons a dn ih =>
  have := a.flat_pos
  simp only [Qk, List.length_map] at ih
  simp [Qk, WB]; omega
theorem parts_ok (c : Int) (ks : List RT) (hok : (RT.nd c ks).ok) (hl : (RT.nd c ks).flat.length ≤ 1099511627776) (hw : ∀ n ∈ (RT.nd c ks).flat, I64 n) :
  Qe Tryz.prog ZA [L false (RT.nd c ks).flat] (· = .sl (!ks.isEmpty) ks.isEmpty 1 (Qk ks)) := by
 refine Qe.of_codeOf ZkQ QA (by simp) ⟨_, rfl, by simp [Qk]⟩ ?_
 simp (contextual := true) (disch := omega) [Zev]
 generalize hL : (RT.nd c ks).flat = l at *
 refine ZpU (fun k s => ∃ dn rest, ks = dn ++ rest ∧ k = rest.length ∧ s.h = [] ∧ s.t 0 = L false l ∧ s.t 3 = .sl (!dn.isEmpty) dn.isEmpty 1 (Qk dn) ∧ s.t 4 = N ((WB dn).length + 1)) ks.length ?_ ?_
 ·refine ⟨[], ks, rfl, rfl, ?_⟩
  simp [Qk, WB]
 ·rintro k s ⟨dn, rest, hks, hk, h1, h2, h3, h4⟩
  simp (contextual := true) (disch := omega) [h1, h2, h3, h4]
  subst hks
  refine ⟨fun _ h5 => ?_, fun _ h5 => ?_⟩
  ·match rest with
   | [] =>
    exfalso
    rw [← hL] at h5
    simp only [RT.flat, JW, WB, List.length_cons, List.length_append] at h5
    simp at h5
   | t :: rest =>
    have hd : l.drop ((WB dn).length + 1) = t.flat ++ WB rest := by
     rw [← hL]
     simp [RT.flat, JW, WB]
    have hll : l.length = (WB dn).length + 1 + t.flat.length + (WB rest).length := by
     rw [← hL]
     simp [RT.flat, JW, WB]; omega
    have he : Zf l ((WB dn).length + 1) = (WB dn).length + 1 + t.flat.length := by
     unfold Zf
     rw [if_pos (by omega), show (((WB dn).length : Int) + 1).toNat = (WB dn).length + 1 by omega, hd]
     simp only [RT.ok] at hok
     have := (ZgS.1 hok.2) t (by simp)
     rw [Zd1 this]
     omega
    have hp := t.flat_pos
    refine Qa (Zmi false l hl hw _ ⟨by omega, by omega⟩) (by simp) ?_
    rw [he]
    have hrow : List.drop ((WB dn).length + 1) (List.take ((WB dn).length + 1 + t.flat.length) l) = t.flat := by
     rw [List.drop_take, hd, show (WB dn).length + 1 + t.flat.length - ((WB dn).length + 1) = t.flat.length by omega]
     simp
    have hrow := congrArg (List.map fun n : Int => [N n]) hrow
    rw [List.map_drop, List.map_take] at hrow
    have hn : (((WB dn).length : Int) + 1 + t.flat.length).toNat = (WB dn).length + 1 + t.flat.length := by omega
    have hne : ¬ (((WB dn).length : Int) + 1 = (WB dn).length + 1 + t.flat.length) := by omega
    have hks : (Qk dn).length + 1 ≤ most := by
     have := Znx dn
     unfold most; omega
    simp (contextual := true) (disch := omega) [h2, h3, h4, ZS, WF, hn, hne, hrow, hks]
    refine ⟨by omega, Classical.em _ |>.symm, rest.length, by simp [hk], dn ++ [t], rest, by simp, rfl, ⟨by simp, by simp [Qk]⟩, by simp [JW, WB]; omega⟩
  ·match rest with
   | [] => simp [Qk]
   | t :: rest =>
    exfalso
    rw [← hL] at h5
    simp only [RT.flat, JW, WB, List.length_cons, List.length_append] at h5
    have := t.flat_pos
    omega
def ln (ls : List (List Int)) : Nat := (ls.map List.length).sum
end Go.Proofs.YtclfngbealdbgaaGreat
